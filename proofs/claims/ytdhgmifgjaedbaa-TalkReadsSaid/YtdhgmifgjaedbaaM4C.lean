/- Parts Ea, U8, Ph, WrL, Wr1, Wr2, joined. No condition. -/
import Derived.Test.YtdhgmifgjaedbaaM3C
import Derived.Test.YtdhgmifgjaedbaaM2C
import Derived.Test.YtdhgmifgjaedbaaM0C
/- The program's errors in the logic: fail.At wraps an error with a place;  No condition. -/
namespace Go.Proofs.Ytdhgmifgjaedbaa
set_option linter.unusedVariables false
set_option linter.unusedSimpArgs false
open Go.RowKit Px
/-- A code with places around it, the outermost first. -/
inductive Er where
  | code (k : Int)
  | wrap (s : List UInt8) (a : Int) (e : Er)
def Er.num : Er → Int
  | .code k => k
  | .wrap _ _ e => e.num
def Er.deep : Er → Nat
  | .code _ => 0
  | .wrap _ _ e => e.deep + 1
def codeV (k : Int) : Value := .iface 40 (.int .i64 k)
def errV (b : Nat) : Value := .iface 136 (.pointer (some ⟨b, 0, none⟩))
/-- A value that is this error. -/
def EV (h : PH) : Er → Value → Prop
  | .code k, v => v = codeV k
  | .wrap s a e, v => ∃ b u, v = errV b ∧ h.m b = some ⟨[str s, .int .i64 a, u], 3⟩ ∧ EV h e u
theorem EV.more {h h' : PH} (l : PH.Le h h') : ∀ {e : Er} {v : Value}, EV h e v → EV h' e v
  | .code _, _, hv => hv
  | .wrap _ _ _, _, ⟨b, u, h1, h2, h3⟩ => ⟨b, u, h1, l.m _ _ h2, EV.more l h3⟩
theorem EV.held {h : PH} : ∀ {e : Er} {v : Value}, EV h e v → ∃ t x, v = .iface t x
  | .code k, _, hv => ⟨_, _, hv⟩
  | .wrap _ _ _, _, ⟨b, u, h1, h2, h3⟩ => ⟨_, _, h1⟩
theorem EV.at {h : PH} {s : List UInt8} {a : Int} {e : Er} {v : Value} (hv : EV h e v) {b : Nat} (hb : h.top ≤ b) : EV (h.new b ⟨[str s, .int .i64 a, v], 3⟩) (.wrap s a e) (errV b) :=
  ⟨b, v, rfl, by rw [PH.new_m, if_pos rfl], hv.more ((PH.Le.refl h).new _ _ hb)⟩
set_option maxRecDepth 20000 in
theorem at_any (s : List UInt8) (a : Int) (t : TypeId) (x : Value) (w0 : World) (h : PH) : PCalls Try.prog w0 54 [str s, .int .i64 a, .iface t x] h fun r h' => ∃ b, r = errV b ∧ h.top ≤ b ∧ h' = h.new b ⟨[str s, .int .i64 a, .iface t x], 3⟩ := by
  refine PCalls_body Try.func54 (by kernel_rfl) rfl _ Try.ntmps54 (by kernel_rfl) (by kernel_rfl) _ Try.results54 ?_
  simp -dsimp -implicitDefEqProofs (disch := first | omega | assumption | (simp only [Option.isSome_some, Qt0]; done) | (simp only [UInt64.reduceToNat, UInt32.reduceToNat, UInt8.reduceToNat, List.length_cons, List.length_nil, List.length_append, Int.toNat_natCast] <;> omega) | fail) only [Nat.reduceLT, Nat.reduceLeDiff, Nat.reduceEqDiff, ↓reduceIte, Int.reduceLT, Int.reduceLE, Int.reduceToNat, Int.reduceEq, Int.reduceNe, Nat.reduceAdd, UInt8.reduceOfNat, UInt16.reduceOfNat, UInt32.reduceOfNat, UInt64.reduceOfNat, UInt64.reduceToNat, UInt32.reduceToNat, UInt16.reduceToNat, UInt8.reduceToNat, Int.reduceAdd, Int.reduceSub, Int.reduceMul, Nat.reduceMul, Qp0, Qp1, Ql0, Qe0]
  refine fun b hb => ?_
  simp -dsimp -implicitDefEqProofs (disch := first | omega | assumption | (simp only [Option.isSome_some, Qt0]; done) | (simp only [UInt64.reduceToNat, UInt32.reduceToNat, UInt8.reduceToNat, List.length_cons, List.length_nil, List.length_append, Int.toNat_natCast] <;> omega) | fail) only [Nat.reduceLT, Nat.reduceLeDiff, Nat.reduceEqDiff, ↓reduceIte, Int.reduceLT, Int.reduceLE, Int.reduceToNat, Int.reduceEq, Int.reduceNe, Nat.reduceAdd, UInt8.reduceOfNat, UInt16.reduceOfNat, UInt32.reduceOfNat, UInt64.reduceOfNat, UInt64.reduceToNat, UInt32.reduceToNat, UInt16.reduceToNat, UInt8.reduceToNat, Int.reduceAdd, Int.reduceSub, Int.reduceMul, Nat.reduceMul, Qp0, Qp1, Ql0, Qe0]
  exact ⟨_, PH.Le.refl _, b, rfl, hb, rfl⟩
end Go.Proofs.Ytdhgmifgjaedbaa


/- A row of bytes: what is known of its type. No condition. -/
namespace Go.Proofs.Ytdhgmifgjaedbaa
set_option linter.unusedVariables false
set_option linter.unusedSimpArgs false
open Go.RowKit Px
theorem info_u8 : (Try.prog.info? 5).map (fun i => (i.zero, i.size, i.bytes)) = some (some (.int .u8 0), 1, 1) := by kernel_rfl
theorem el_u8 : El Try.prog 57 5 (.int .u8 0) 1 1 := ⟨Try.underlying57, info_parts info_u8, rfl, by decide⟩
end Go.Proofs.Ytdhgmifgjaedbaa


/- What is known of memory for nothing: no block of the world before is known; what a call may change; rows that are read. No condition. -/
namespace Go.Proofs.Ytdhgmifgjaedbaa.Px
set_option linter.unusedVariables false
set_option linter.unusedSimpArgs false
open Go.RowKit
/-- No block of the world before is known. -/
def Low (w0 : World) (h : PH) : Prop := ∀ b, b < w0.heap.size → h.m b = none
section
variable {P : Program} {w0 : World} {h : PH} {g : FuncId} {args : List Value} {R : Value → PH → Prop}
theorem low_of {w : World} (s : Sim w0 h w) : Low w0 h := fun b hb => by
  cases hm : h.m b with
  | none => rfl
  | some k => have := (s.sat b k hm).1; omega
theorem PCalls_low (hc : Low w0 h → PCalls P w0 g args h R) : PCalls P w0 g args h R := fun w s => hc (low_of s) w s
theorem PCalls.lowR (hc : PCalls P w0 g args h R) : PCalls P w0 g args h fun v h' => R v h' ∧ Low w0 h' := by
  intro w s
  rcases hc w s with ⟨h1, h2⟩ | ⟨v, w', h', h1, h2, h3⟩
  · exact .inl ⟨h1, h2.mono fun e w' ⟨v, h', e1, e2, e3⟩ => ⟨v, h', e1, ⟨e2, low_of e3⟩, e3⟩⟩
  · exact .inr ⟨v, w', h', h1, ⟨h2, low_of h3⟩, h3⟩
theorem PCalls.and {R' : Value → PH → Prop} (hc : PCalls P w0 g args h R) (hr : ∀ v h', R v h' → Low w0 h' → R' v h') : PCalls P w0 g args h R' := hc.lowR.mono fun v h' ⟨a, b⟩ => hr v h' a b
/-- A loop, as PW_loop; in each round it is known that no block of the world before is known. -/
theorem PW_loopL {N : Nat} {f : Fr} {c : Code} {Q : Exit → Fr → PH → Prop} (I : Nat → Fr → PH → Prop) (hok : codeOk N c = true) (n : Nat) (h0 : I n f h)
    (round : ∀ n f h, I n f h → Low w0 h → vcC P w0 N c f h (thenK (fun f' h' => ∃ m h2, m < n ∧ PH.Le h2 h' ∧ I m f' h2) Q)) : PW P w0 N (.loop c) f h Q := by
  intro a w fs s
  refine wp_loop_rounds (n + 1) ?_
  have key : ∀ n f h a w, I n f h → FSat f a N → Sim w0 h w → Code.rounds P c (fun e a' w' => ∃ f' h', Q e f' h' ∧ FSat f' a' N ∧ Sim w0 h' w') (n + 1) a w := by
    intro n
    induction n using Nat.strongRecOn with
    | _ n ih =>
      intro f h a w hI fs s
      rw [rounds_succ]
      refine wp_mono (vc_sound hok (round n f h hI (low_of s)) a w fs s) ?_
      rintro e a' w' ⟨f', h', q, fs', s'⟩
      cases e
      case normal =>
        obtain ⟨m, h2, hm, hl, hI'⟩ := q
        exact rounds_mono (by omega) a' w' (ih m hm f' h2 a' w' hI' fs' (s'.weak hl))
      all_goals exact ⟨f', h', q, fs', s'⟩
  exact key n f h a w h0 fs s
end
/-- What may change: the blocks F, and what is new. -/
structure Chg (F : Nat → Prop) (h h' : PH) : Prop where
  top : h.top ≤ h'.top
  m : ∀ x k, h.m x = some k → ¬ F x → h'.m x = some k
section
variable {F G : Nat → Prop} {h h' h'' : PH}
theorem Chg.refl (F : Nat → Prop) (h : PH) : Chg F h h := ⟨Nat.le_refl _, fun _ _ e _ => e⟩
theorem Chg.trans (a : Chg F h h') (b : Chg F h' h'') : Chg F h h'' := ⟨Nat.le_trans a.top b.top, fun x k e n => b.m x k (a.m x k e n) n⟩
theorem Chg.le (l : PH.Le h h') : Chg F h h' := ⟨l.top, fun x k e _ => l.m x k e⟩
theorem Chg.mono (a : Chg F h h') (i : ∀ x, x < h.top → F x → G x) : Chg G h h' := ⟨a.top, fun x k e n => a.m x k e fun f => n (i x (h.lt _ _ e) f)⟩
theorem Chg.new (a : Chg F h h') {b : Nat} (hb : h.top ≤ b) (k : Bk) : Chg F h (h'.new b k) :=
  ⟨by have := a.top; simp only [PH.new_top]; omega, fun x k' e n => by rw [PH.new_m, if_neg (by have := h.lt _ _ e; omega)]; exact a.m x k' e n⟩
theorem Chg.put (a : Chg F h h') {b : Nat} (hb : F b) (k : Bk) : Chg F h (h'.new b k) :=
  ⟨by have := a.top; simp only [PH.new_top]; omega, fun x k' e n => by rw [PH.new_m, if_neg (fun e' => n (by rw [e']; exact hb))]; exact a.m x k' e n⟩
theorem Chg.one {b : Nat} (a : Chg (· = b) h h') (k : Bk) : Chg (· = b) h (h'.new b k) := Chg.put (F := (· = b)) a rfl k
end
theorem Own.more {h h' : PH} {sz n : Nat} {v : Value} {xs : List Value} (o : Own h sz v n xs) (l : PH.Le h h') : Own h' sz v n xs :=
  ⟨o.1, o.2.imp id fun ⟨b, c, h1, h2, h3, h4⟩ => ⟨b, c, h1, h2, h3, l.m _ _ h4⟩⟩
/-- An own row lies elsewhere than what is put. -/
theorem Own.put {h : PH} {sz n : Nat} {v : Value} {xs : List Value} (o : Own h sz v n xs) {b : Nat} (hb : v.ownBlock ≠ some b) (k : Bk) : Own (h.new b k) sz v n xs :=
  ⟨o.1, o.2.imp id fun ⟨x, c, h1, h2, h3, h4⟩ => ⟨x, c, h1, h2, h3, by rw [PH.new_m, if_neg (fun e => hb (by rw [h1, ← e]; rfl))]; exact h4⟩⟩
theorem Own.A {h : PH} {sz n c : Nat} {A : Option Addr} {xs : List Value} (o : Own h sz (.slice A n c) n xs) : ∀ a, A = some a → (Value.slice A n c).ownBlock = some a.block := fun a e => by subst e; rfl
theorem Own.chg {F : Nat → Prop} {h h' : PH} {sz n : Nat} {v : Value} {xs : List Value} (o : Own h sz v n xs) (c : Chg F h h') (hF : ∀ x, v.ownBlock = some x → ¬ F x) : Own h' sz v n xs :=
  ⟨o.1, o.2.imp id fun ⟨b, k, h1, h2, h3, h4⟩ => ⟨b, k, h1, h2, h3, c.m _ _ h4 (hF b (by rw [h1]; rfl))⟩⟩
theorem Chg.stays {F : Nat → Prop} {h0 h h' : PH} {v v' : Value} (c : Chg F h0 h) (s : Stays h h' v v') (hv : ∀ x, v.ownBlock = some x → h0.top ≤ x) : Chg F h0 h' :=
  ⟨Nat.le_trans c.top s.top, fun x k e n => s.keep x k (c.m x k e n) fun e' => by have := hv x e'; have := h0.lt _ _ e; omega⟩
/-- Over h0, of which F alone may have changed, a row of the call's own. -/
structure OwnC (F : Nat → Prop) (h0 h : PH) (sz : Nat) (v : Value) (n : Nat) (xs : List Value) : Prop where
  chg : Chg F h0 h
  own : Own h sz v n xs
  new : ∀ x, v.ownBlock = some x → h0.top ≤ x
section
variable {F : Nat → Prop} {h0 h h' : PH} {sz n m : Nat} {v v' : Value} {xs ys : List Value}
theorem OwnC.nil (c : Chg F h0 h) (sz : Nat) : OwnC F h0 h sz (.slice none 0 0) 0 [] := ⟨c, Own.nil h sz, fun x e => by cases e⟩
theorem OwnC.zero (c : Chg F h0 h) (sz : Nat) {b : Nat} (hb : h.top ≤ b) : OwnC F h0 (h.new b ⟨[], 0⟩) sz (.slice (some ⟨b, 0, none⟩) 0 0) 0 [] :=
  ⟨c.new (Nat.le_trans c.top hb) _, (OwnS.zero sz hb).own, fun x e => by cases e; exact Nat.le_trans c.top hb⟩
theorem OwnC.stays (o : OwnC F h0 h sz v n xs) (s : Stays h h' v v') (o' : Own h' sz v' m ys) : OwnC F h0 h' sz v' m ys :=
  ⟨o.chg.stays s o.new, o', fun x e => (s.fresh x e).elim (o.new x) fun g => Nat.le_trans o.chg.top g⟩
theorem OwnC.more (o : OwnC F h0 h sz v n xs) (l : PH.Le h h') : OwnC F h0 h' sz v n xs := ⟨o.chg.trans (.le l), o.own.more l, o.new⟩
theorem OwnC.chg' (o : OwnC F h0 h sz v n xs) (c : Chg F h h') (hF : ∀ x, F x → x < h0.top) : OwnC F h0 h' sz v n xs :=
  ⟨o.chg.trans c, o.own.chg c fun x e f => by have := o.new x e; have := hF x f; omega, o.new⟩
end
/-- Cells at an address: each lies in a known block, or came in. -/
def Rv (w0 : World) (h : PH) (A : Option Addr) (xs : List Value) : Prop :=
  ∀ j u, xs[j]? = some u → ∃ b o, A = some ⟨b, o, none⟩ ∧ ((∃ k, h.m b = some k ∧ k.xs[o + j]? = some u) ∨ (b < w0.heap.size ∧ rdM w0 none b (o + j) = some u))
section
variable {w0 : World} {h h' : PH} {A : Option Addr} {xs : List Value}
theorem Rv.nil (w0 : World) (h : PH) (A : Option Addr) : Rv w0 h A [] := fun j u e => by simp at e
theorem Rv.chg {F : Nat → Prop} (r : Rv w0 h A xs) (c : Chg F h h') (hF : ∀ a, A = some a → ¬ F a.block) : Rv w0 h' A xs := fun j u e => by
  obtain ⟨b, o, rfl, h1⟩ := r j u e
  refine ⟨b, o, rfl, ?_⟩
  rcases h1 with ⟨k, h1, h2⟩ | h1
  · exact .inl ⟨k, c.m b k h1 (hF _ rfl), h2⟩
  · exact .inr h1
theorem Rv.more (r : Rv w0 h A xs) (l : PH.Le h h') : Rv w0 h' A xs := r.chg (F := fun _ => False) (.le l) fun _ _ => id
theorem Rv.addr (r : Rv w0 h A xs) (hn : 0 < xs.length) : ∃ b o, A = some ⟨b, o, none⟩ := by
  obtain ⟨b, o, e, _⟩ := r 0 _ (List.getElem?_eq_getElem hn)
  exact ⟨b, o, e⟩
theorem Rv.get {b o : Nat} (r : Rv w0 h (some ⟨b, o, none⟩) xs) (hl : Low w0 h) {j : Nat} {u : Value} (e : xs[j]? = some u) : rdM w0 (h.m b) b (o + j) = some u := by
  obtain ⟨b', o', h1, h2⟩ := r j u e
  injection h1 with h1
  injection h1 with h1 h3
  subst h1; subst h3
  rcases h2 with ⟨k, h2, h4⟩ | ⟨h2, h4⟩
  · rw [h2]; exact h4
  · rw [hl b h2]; exact h4
theorem Rv.own {sz n c : Nat} (o : Own h sz (.slice A n c) n xs) : Rv w0 h A xs := fun j u e => by
  rcases o.2 with ⟨h1, h2⟩ | ⟨b, c', h1, h2, _, h3⟩
  · have := o.1
    have h4 := (List.getElem?_eq_some_iff.1 e).1
    rw [h2, Nat.zero_mul] at this; omega
  · injection h1 with h1
    subst h1
    exact ⟨b, 0, rfl, .inl ⟨_, h3, by rw [Nat.zero_add]; exact e⟩⟩
theorem mapM_get {α β : Type} {f : α → Option β} : ∀ {l : List α} {r : List β}, l.length = r.length → (∀ (j : Nat) (x : α) (y : β), l[j]? = some x → r[j]? = some y → f x = some y) → l.mapM f = some r
  | [], [], _, _ => rfl
  | x :: l, y :: r, hl, h => by
    rw [List.mapM_cons, h 0 x y rfl rfl, mapM_get (by simpa using hl) fun j a b ha hb => h (j + 1) a b (by simpa using ha) (by simpa using hb)]
    rfl
theorem Rv.rdN {b o n : Nat} (r : Rv w0 h (some ⟨b, o, none⟩) xs) (hl : Low w0 h) (hn : xs.length = n) (h0 : 0 < n) : Px.rdN w0 h ⟨b, o, none⟩ n = some xs := by
  unfold Px.rdN
  cases hm : h.m b with
  | some k =>
    have hg : ∀ j u, xs[j]? = some u → k.xs[o + j]? = some u := fun j u e => by have := r.get hl e; rw [hm] at this; exact this
    simp only
    · have h2 := hg (n - 1) _ (List.getElem?_eq_getElem (by omega))
      have h3 := (List.getElem?_eq_some_iff.1 h2).1
      rw [if_pos ⟨trivial, by omega⟩]
      congr 1
      apply List.ext_getElem?
      intro j
      by_cases hj : j < n
      · rw [List.getElem?_take_of_lt hj, List.getElem?_drop, hg j _ (List.getElem?_eq_getElem (by omega)), List.getElem?_eq_getElem]
      · rw [List.getElem?_eq_none (by simp; omega), List.getElem?_eq_none (by omega)]
  | none =>
    refine mapM_get (by simp [hn]) fun j x y hx hy => ?_
    have hj : j < n := by have := (List.getElem?_eq_some_iff.1 hy).1; omega
    rw [List.getElem?_range hj] at hx
    injection hx with hx
    subst hx
    rw [Addr.add_mid, rd_M, r.get hl hy]
theorem Rv.rs {sz n : Nat} (r : Rv w0 h A xs) (hl : Low w0 h) (hn : xs.length = n * sz) (h1 : 0 < sz) : Rs w0 h sz A n xs := by
  refine ⟨hn, fun h0 => ?_⟩
  have h2 : 0 < xs.length := by rw [hn]; exact Nat.mul_pos h0 h1
  obtain ⟨b, o, rfl⟩ := r.addr h2
  exact ⟨_, rfl, r.rdN hl hn (Nat.mul_pos h0 h1)⟩
end
/-! A slice literal whose elements have several cells. -/
section
variable {P : Program} {w0 : World} {h : PH} {t e : TypeId}
end
end Go.Proofs.Ytdhgmifgjaedbaa.Px


/- Numbers, texts, flags and vectors as bytes, and what reads them: plain facts, no program in sight. No condition. -/
namespace Go.Proofs.Ytdhgmifgjaedbaa.Wr
set_option linter.unusedVariables false
set_option linter.unusedSimpArgs false
def top62 : Nat := 4611686018427387903
def big : Nat := 1099511627776
/-- A number's bytes. -/
def numB (n : Nat) : List UInt8 := if h : n < 128 then [UInt8.ofNat n] else UInt8.ofNat (n % 128 + 128) :: numB (n / 128)
termination_by n
decreasing_by omega
theorem numB_small {n : Nat} (h : n < 128) : numB n = [UInt8.ofNat n] := by rw [numB, dif_pos h]
theorem numB_large {n : Nat} (h : ¬ n < 128) : numB n = UInt8.ofNat (n % 128 + 128) :: numB (n / 128) := by rw [numB, dif_neg h]
theorem numB_pos (n : Nat) : 0 < (numB n).length := by
  by_cases h : n < 128
  · rw [numB_small h]; simp
  · rw [numB_large h]; simp
theorem numB_len : ∀ (k n : Nat), n < 128 ^ (k + 1) → (numB n).length ≤ k + 1
  | 0, n, h => by rw [numB_small (by simpa using h)]; simp
  | k + 1, n, h => by
    by_cases h1 : n < 128
    · rw [numB_small h1]; simp
    · rw [numB_large h1]
      have := numB_len k (n / 128) (Nat.div_lt_of_lt_mul (by rw [Nat.pow_succ] at h; omega))
      simp; omega
theorem numB_len9 {n : Nat} (h : n ≤ 9223372036854775807) : (numB n).length ≤ 9 := numB_len 8 n (by simp; omega)
/-- A number that is read. -/
def scan : Nat → Nat → List UInt8 → Option (Nat × List UInt8)
  | _, _, [] => none
  | k, acc, c :: t => if k = 9 then none else if 128 ≤ c.toNat then scan (k + 1) (acc + (c.toNat % 128) * 128 ^ k) t else if c.toNat = 0 ∧ 0 < k then none else some (acc + c.toNat * 128 ^ k, t)
theorem scan_num : ∀ (m n k acc : Nat) (t : List UInt8), n ≤ m → (0 < n ∨ k = 0) → k + (numB n).length ≤ 9 → scan k acc (numB n ++ t) = some (acc + n * 128 ^ k, t) := by
  intro m
  induction m with
  | zero =>
    intro n k acc t hm h0 hk
    obtain rfl : n = 0 := by omega
    obtain rfl : k = 0 := by omega
    rw [numB_small (by omega)]
    simp [scan]
  | succ m ih =>
    intro n k acc t hm h0 hk
    by_cases h : n < 128
    · rw [numB_small h] at hk ⊢
      have e : (UInt8.ofNat n).toNat = n := by simp; omega
      simp only [List.cons_append, List.nil_append, scan, e]
      rw [if_neg (by simp at hk; omega), if_neg (by omega), if_neg (by omega)]
    · rw [numB_large h] at hk ⊢
      have e : (UInt8.ofNat (n % 128 + 128)).toNat = n % 128 + 128 := by simp; omega
      simp only [List.cons_append, scan, e]
      rw [if_neg (by simp at hk; omega), if_pos (by omega), ih (n / 128) (k + 1) _ t (by omega) (by omega) (by simp at hk; omega)]
      congr 2
      have h2 : (n % 128 + 128) % 128 = n % 128 := by omega
      rw [h2, Nat.pow_succ, Nat.add_assoc]
      congr 1
      have h3 : n = 128 * (n / 128) + n % 128 := (Nat.div_add_mod n 128).symm
      conv => rhs; rw [h3, Nat.add_mul]
      rw [Nat.add_comm, Nat.mul_comm (128 ^ k) 128, ← Nat.mul_assoc, Nat.mul_comm (n / 128) 128]
theorem scan_inv : ∀ (t : List UInt8) (k acc m : Nat) (u : List UInt8), k ≤ 9 → scan k acc t = some (m, u) → ∃ n, t = numB n ++ u ∧ m = acc + n * 128 ^ k ∧ k + (numB n).length ≤ 9 ∧ (0 < n ∨ k = 0)
  | [], _, _, _, _, _, h => by simp [scan] at h
  | c :: t, k, acc, m, u, hk, h => by
    rw [scan] at h
    by_cases h9 : k = 9
    · rw [if_pos h9] at h; cases h
    rw [if_neg h9] at h
    have hc := c.toNat_lt
    by_cases h1 : 128 ≤ c.toNat
    · rw [if_pos h1] at h
      obtain ⟨n, h2, h3, h4, h5⟩ := scan_inv t (k + 1) _ m u (by omega) h
      have h6 : 0 < n := by omega
      have h7 : numB (c.toNat % 128 + 128 * n) = c :: numB n := by
        rw [numB_large (by omega)]
        congr 1
        · apply UInt8.toNat_inj.1
          simp; omega
        · congr 1; omega
      refine ⟨c.toNat % 128 + 128 * n, by rw [h7, h2]; rfl, ?_, by rw [h7]; simp; omega, by omega⟩
      rw [h3, Nat.pow_succ, Nat.add_assoc, Nat.add_mul]
      congr 2
      rw [Nat.mul_comm (128 ^ k) 128, ← Nat.mul_assoc, Nat.mul_comm n 128]
    · rw [if_neg h1] at h
      by_cases h2 : c.toNat = 0 ∧ 0 < k
      · rw [if_pos h2] at h; cases h
      · rw [if_neg h2] at h
        injection h with h
        injection h with h3 h4
        subst h4
        have h7 : numB c.toNat = [c] := by rw [numB_small (by omega)]; simp
        exact ⟨c.toNat, by rw [h7]; rfl, h3.symm, by rw [h7]; simp; omega, by omega⟩
/-- What stands next: a number, at most so great. -/
def numP (t : List UInt8) (most : Int) : Option (Nat × List UInt8) := (scan 0 0 t).bind fun p => if most < (p.1 : Int) ∨ top62 < p.1 then none else some p
theorem numP_put {n : Nat} {most : Int} (t : List UInt8) (h : (n : Int) ≤ most) (h2 : n ≤ top62) : numP (numB n ++ t) most = some (n, t) := by
  unfold numP
  have h3 : (numB n).length ≤ 9 := numB_len9 (by unfold top62 at h2; omega)
  rw [scan_num n n 0 0 t (Nat.le_refl _) (.inr rfl) (by omega)]
  simp only [Option.bind_some, Nat.zero_add, Nat.pow_zero, Nat.mul_one]
  rw [if_neg (by omega)]
theorem numP_inv {n : Nat} {most : Int} {t u : List UInt8} (h : numP t most = some (n, u)) : t = numB n ++ u ∧ (n : Int) ≤ most ∧ n ≤ top62 := by
  unfold numP at h
  obtain ⟨⟨m, v⟩, h1, h2⟩ := Option.bind_eq_some_iff.1 h
  split at h2
  · cases h2
  rename_i h3
  injection h2 with h2
  injection h2 with h4 h5
  subst h4; subst h5
  obtain ⟨n, h6, h7, h8, h9⟩ := scan_inv t 0 0 _ _ (by omega) h1
  simp only [Nat.zero_add, Nat.pow_zero, Nat.mul_one] at h7
  subst h7
  exact ⟨h6, by simp only at h3; omega, by simp only at h3; omega⟩
/-- .. a text. -/
def txtP (t : List UInt8) (most : Int) : Option (List UInt8 × List UInt8) := (numP t most).bind fun p => if p.2.length < p.1 then none else some (p.2.take p.1, p.2.drop p.1)
theorem txtP_put {s : List UInt8} {most : Int} (t : List UInt8) (h : (s.length : Int) ≤ most) (h2 : s.length ≤ top62) : txtP (numB s.length ++ s ++ t) most = some (s, t) := by
  unfold txtP
  rw [List.append_assoc, numP_put _ h h2]
  simp only [Option.bind_some]
  rw [if_neg (by simp)]
  simp
theorem txtP_inv {s : List UInt8} {most : Int} {t u : List UInt8} (h : txtP t most = some (s, u)) : t = numB s.length ++ s ++ u ∧ (s.length : Int) ≤ most := by
  unfold txtP at h
  obtain ⟨⟨m, v⟩, h1, h2⟩ := Option.bind_eq_some_iff.1 h
  split at h2
  · cases h2
  rename_i h3
  injection h2 with h2
  injection h2 with h4 h5
  simp only at h3 h4 h5
  obtain ⟨h6, h7, _⟩ := numP_inv h1
  have h8 : s.length = m := by rw [← h4]; simp; omega
  rw [h8, ← h4, ← h5, List.append_assoc, List.take_append_drop]
  exact ⟨h6, h7⟩
/-- .. a flag. -/
def flagP (t : List UInt8) : Option (Bool × List UInt8) := (numP t 1).bind fun p => some (decide (p.1 = 1), p.2)
def flagB (b : Bool) : List UInt8 := numB (if b = true then 1 else 0)
theorem flagP_put (b : Bool) (t : List UInt8) : flagP (flagB b ++ t) = some (b, t) := by
  unfold flagP flagB
  rw [numP_put _ (by split <;> omega) (by unfold top62; split <;> omega)]
  cases b <;> simp
theorem flagP_inv {b : Bool} {t u : List UInt8} (h : flagP t = some (b, u)) : t = flagB b ++ u := by
  unfold flagP at h
  obtain ⟨⟨m, v⟩, h1, h2⟩ := Option.bind_eq_some_iff.1 h
  injection h2 with h2
  injection h2 with h4 h5
  obtain ⟨h6, h7, _⟩ := numP_inv h1
  simp only at h4 h5
  subst h5
  unfold flagB
  rw [h6]
  congr 2
  by_cases hm : m = 1
  · subst hm; simp at h4; simp [← h4]
  · have : m = 0 := by omega
    subst this; simp at h4; simp [← h4]
/-- May a vector be? -/
def trim (v : List Int) (most : Int) : Bool := decide (v.length ≤ 16) && decide (v.getLast? ≠ some 0) && v.all fun n => decide (0 ≤ n) && decide (n ≤ most)
def vecB (v : List Int) : List UInt8 := numB v.length ++ v.flatMap fun n => numB n.toNat
/-- .. so many numbers, one behind the other. -/
def numsP : Nat → List UInt8 → Option (List Int × List UInt8)
  | 0, t => some ([], t)
  | n + 1, t => (numP t big).bind fun p => (numsP n p.2).bind fun q => some ((p.1 : Int) :: q.1, q.2)
theorem numsP_put : ∀ (v : List Int) (t : List UInt8), (∀ n ∈ v, 0 ≤ n ∧ n ≤ (big : Int)) → numsP v.length (v.flatMap (fun n => numB n.toNat) ++ t) = some (v, t)
  | [], t, _ => rfl
  | n :: v, t, h => by
    have hn := h n List.mem_cons_self
    have e : ((n.toNat : Nat) : Int) = n := by omega
    simp only [List.length_cons, numsP, List.flatMap_cons, List.append_assoc]
    rw [numP_put _ (by rw [e]; exact hn.2) (by unfold top62; unfold big at hn; omega)]
    simp only [Option.bind_some, numsP_put v t (fun m hm => h m (List.mem_cons_of_mem _ hm)), e]
theorem numsP_inv : ∀ (n : Nat) (v : List Int) (t u : List UInt8), numsP n t = some (v, u) → v.length = n ∧ t = v.flatMap (fun n => numB n.toNat) ++ u ∧ ∀ n ∈ v, 0 ≤ n ∧ n ≤ (big : Int)
  | 0, v, t, u, h => by
    simp only [numsP] at h
    injection h with h
    injection h with h1 h2
    subst h1; subst h2
    simp
  | n + 1, v, t, u, h => by
    simp only [numsP] at h
    obtain ⟨⟨m, w⟩, h1, h2⟩ := Option.bind_eq_some_iff.1 h
    obtain ⟨⟨v', u'⟩, h3, h4⟩ := Option.bind_eq_some_iff.1 h2
    injection h4 with h4
    injection h4 with h5 h6
    subst h5; subst h6
    obtain ⟨h7, h8, h9⟩ := numsP_inv n v' _ _ h3
    obtain ⟨k1, k2, k3⟩ := numP_inv h1
    simp only at h8 k1 k2
    refine ⟨by simp [h7], ?_, ?_⟩
    · rw [k1, h8]; simp
    · intro x hx
      rcases List.mem_cons.1 hx with rfl | hx
      · exact ⟨by omega, k2⟩
      · exact h9 x hx
def vecP (t : List UInt8) : Option (List Int × List UInt8) := (numP t 16).bind fun p => (numsP p.1 p.2).bind fun q => if trim q.1 big = true then some q else none
theorem trim_iff {v : List Int} {m : Int} : trim v m = true ↔ v.length ≤ 16 ∧ v.getLast? ≠ some 0 ∧ ∀ j, j < v.length → 0 ≤ v.getD j 0 ∧ v.getD j 0 ≤ m := by
  unfold trim
  simp only [Bool.and_eq_true, decide_eq_true_eq, List.all_eq_true, and_assoc]
  refine and_congr Iff.rfl (and_congr Iff.rfl ⟨fun h j hj => ?_, fun h x hx => ?_⟩)
  · rw [List.getD, List.getElem?_eq_getElem hj]
    exact h _ (List.getElem_mem hj)
  · obtain ⟨j, hj, rfl⟩ := List.getElem_of_mem hx
    have := h j hj
    rwa [List.getD, List.getElem?_eq_getElem hj] at this
theorem trim_len {v : List Int} {m : Int} (h : trim v m = true) : v.length ≤ 16 := by
  unfold trim at h; simp at h; exact h.1.1
theorem trim_all {v : List Int} {m : Int} (h : trim v m = true) : ∀ n ∈ v, 0 ≤ n ∧ n ≤ m := by
  unfold trim at h; simp at h; exact h.2
theorem vecP_put {v : List Int} (t : List UInt8) (h : trim v big = true) : vecP (vecB v ++ t) = some (v, t) := by
  unfold vecP vecB
  have hl := trim_len h
  rw [List.append_assoc, numP_put _ (by omega) (by unfold top62; omega)]
  simp only [Option.bind_some]
  rw [numsP_put v t (trim_all h)]
  simp only [Option.bind_some]
  rw [if_pos h]
theorem vecP_inv {v : List Int} {t u : List UInt8} (h : vecP t = some (v, u)) : t = vecB v ++ u ∧ trim v big = true := by
  unfold vecP at h
  obtain ⟨⟨m, w⟩, h1, h2⟩ := Option.bind_eq_some_iff.1 h
  obtain ⟨⟨v', u'⟩, h3, h4⟩ := Option.bind_eq_some_iff.1 h2
  split at h4
  · rename_i h5
    injection h4 with h4
    injection h4 with h6 h7
    subst h6; subst h7
    obtain ⟨h7, h8, h9⟩ := numsP_inv _ _ _ _ h3
    obtain ⟨k1, k2, k3⟩ := numP_inv h1
    simp only at h7 h8 k1
    unfold vecB
    rw [h7, k1, h8, List.append_assoc]
    exact ⟨rfl, h5⟩
  · cases h4
/-- A reader's state: what is ahead; or the place of a fault. -/
inductive St where
  | ok (t : List UInt8)
  | bad (p : Nat)
/-- One thing read out of a text of so many bytes. -/
def St.step {α : Type} (p : List UInt8 → Option (α × List UInt8)) (z : α) (len : Nat) : St → α × St
  | .ok t => match p t with
    | some (a, u) => (a, .ok u)
    | none => (z, .bad (len - t.length))
  | .bad q => (z, .bad q)
end Go.Proofs.Ytdhgmifgjaedbaa.Wr


/- The writer's functions: number, wrong, put, Num, Text, Flag, Vec, Done. No condition. -/
namespace Go.Proofs.Ytdhgmifgjaedbaa
set_option linter.unusedVariables false
set_option linter.unusedSimpArgs false
open Go.RowKit Px Wr
def wireT : List UInt8 := [119, 105, 114, 101]
theorem byte_or (m : Nat) : UInt8.ofInt (m : Int) ||| 128 = UInt8.ofNat (m % 128 + 128) := by
  have h1 : UInt8.ofInt (m : Int) = UInt8.ofNat (m % 128 + 128 * (m / 128 % 2)) := by
    apply UInt8.toNat_inj.1
    simp [UInt8.ofInt]; omega
  rw [h1]
  have h2 : m % 128 < 128 := Nat.mod_lt _ (by omega)
  have h3 : m / 128 % 2 < 2 := Nat.mod_lt _ (by omega)
  generalize m % 128 = a at *
  generalize m / 128 % 2 = b at *
  have key : ∀ a : Fin 128, ∀ b : Fin 2, UInt8.ofNat (a.val + 128 * b.val) ||| 128 = UInt8.ofNat (a.val + 128) := by decide +kernel
  exact key ⟨a, h2⟩ ⟨b, h3⟩
theorem byte_small {m : Nat} (h : m < 128) : UInt8.ofInt (m : Int) = UInt8.ofNat m := by
  apply UInt8.toNat_inj.1
  simp [UInt8.ofInt]; omega
set_option maxRecDepth 20000 in
set_option maxHeartbeats 1000000 in
theorem number_any (h0 : PH) (v : Value) (l : List UInt8) (n : Nat) (hn : n ≤ 9223372036854775807) (w0 : World) (h : PH) (how : OwnS h0 h 1 v l.length (bs l)) (hl : l.length ≤ 1000000) : PCalls Try.prog w0 57 [v, .int .i64 n] h fun r h' => OwnS h0 h' 1 r (l ++ numB n).length (bs (l ++ numB n)) := by
  refine PCalls_body Try.func57 (by kernel_rfl) rfl _ Try.ntmps57 (by kernel_rfl) (by kernel_rfl) _ Try.results57 ?_
  simp -dsimp -implicitDefEqProofs (disch := first | omega | assumption | (simp only [Option.isSome_some, Qt0]; done) | (simp only [UInt64.reduceToNat, UInt32.reduceToNat, UInt8.reduceToNat, List.length_cons, List.length_nil, List.length_append, Int.toNat_natCast] <;> omega) | fail) only [Nat.reduceLT, Nat.reduceLeDiff, Nat.reduceEqDiff, ↓reduceIte, Int.reduceLT, Int.reduceLE, Int.reduceToNat, Int.reduceEq, Int.reduceNe, Nat.reduceAdd, UInt8.reduceOfNat, UInt16.reduceOfNat, UInt32.reduceOfNat, UInt64.reduceOfNat, UInt64.reduceToNat, UInt32.reduceToNat, UInt16.reduceToNat, UInt8.reduceToNat, Int.reduceAdd, Int.reduceSub, Int.reduceMul, Nat.reduceMul, Qp0, Qp1, Ql0, Qe0]
  refine PW_loop (fun m f h' => ∃ (l' : List UInt8) (v' : Value), f 0 = some v' ∧ f 1 = some (.int .i64 m) ∧ m ≤ n ∧ OwnS h0 h' 1 v' l'.length (bs l') ∧ l' ++ numB m = l ++ numB n) (by kernel_rfl) n ⟨l, v, ?_, ?_, Nat.le_refl _, how, rfl⟩ ?_
  · simp -dsimp -implicitDefEqProofs (disch := first | omega | assumption | (simp only [Option.isSome_some, Qt0]; done) | (simp only [UInt64.reduceToNat, UInt32.reduceToNat, UInt8.reduceToNat, List.length_cons, List.length_nil, List.length_append, Int.toNat_natCast] <;> omega) | fail) only [Nat.reduceLT, Nat.reduceLeDiff, Nat.reduceEqDiff, ↓reduceIte, Int.reduceLT, Int.reduceLE, Int.reduceToNat, Int.reduceEq, Int.reduceNe, Nat.reduceAdd, UInt8.reduceOfNat, UInt16.reduceOfNat, UInt32.reduceOfNat, UInt64.reduceOfNat, UInt64.reduceToNat, UInt32.reduceToNat, UInt16.reduceToNat, UInt8.reduceToNat, Int.reduceAdd, Int.reduceSub, Int.reduceMul, Nat.reduceMul, Qp0, Qp1, Ql0, Qe0]
  · simp -dsimp -implicitDefEqProofs (disch := first | omega | assumption | (simp only [Option.isSome_some, Qt0]; done) | (simp only [UInt64.reduceToNat, UInt32.reduceToNat, UInt8.reduceToNat, List.length_cons, List.length_nil, List.length_append, Int.toNat_natCast] <;> omega) | fail) only [Nat.reduceLT, Nat.reduceLeDiff, Nat.reduceEqDiff, ↓reduceIte, Int.reduceLT, Int.reduceLE, Int.reduceToNat, Int.reduceEq, Int.reduceNe, Nat.reduceAdd, UInt8.reduceOfNat, UInt16.reduceOfNat, UInt32.reduceOfNat, UInt64.reduceOfNat, UInt64.reduceToNat, UInt32.reduceToNat, UInt16.reduceToNat, UInt8.reduceToNat, Int.reduceAdd, Int.reduceSub, Int.reduceMul, Nat.reduceMul, Qp0, Qp1, Ql0, Qe0]
  rintro m f h' ⟨l', v', f0, f1, hm, how, hlm⟩
  have hll := congrArg List.length hlm
  simp only [List.length_append] at hll
  have hp := numB_pos m
  have hnl := numB_len9 hn
  obtain ⟨A, c, rfl, hc⟩ := how.own.len
  by_cases hs : m < 128
  · have e1 : decide ((m : Int) ≥ 128) = false := decide_eq_false (by omega)
    rw [← hlm, numB_small hs]
    have hb := byte_small hs
    simp -dsimp -implicitDefEqProofs (disch := first | omega | assumption | (simp only [Option.isSome_some, Qt0]; done) | (simp only [UInt64.reduceToNat, UInt32.reduceToNat, UInt8.reduceToNat, List.length_cons, List.length_nil, List.length_append, Int.toNat_natCast] <;> omega) | fail) only [Nat.reduceLT, Nat.reduceLeDiff, Nat.reduceEqDiff, ↓reduceIte, Int.reduceLT, Int.reduceLE, Int.reduceToNat, Int.reduceEq, Int.reduceNe, Nat.reduceAdd, UInt8.reduceOfNat, UInt16.reduceOfNat, UInt32.reduceOfNat, UInt64.reduceOfNat, UInt64.reduceToNat, UInt32.reduceToNat, UInt16.reduceToNat, UInt8.reduceToNat, Int.reduceAdd, Int.reduceSub, Int.reduceMul, Nat.reduceMul, Qp0, Qp1, Ql0, Qe0, f0, f1, e1]
    refine Does_one (v := u8 (UInt8.ofInt m)) el_u8 rfl (by omega) fun gb hgb => ?_
    have how2 := how.more ((PH.Le.refl h').new gb ⟨[u8 (UInt8.ofInt m)], 1⟩ hgb)
    simp -dsimp -implicitDefEqProofs (disch := first | omega | assumption | (simp only [Option.isSome_some, Qt0]; done) | (simp only [UInt64.reduceToNat, UInt32.reduceToNat, UInt8.reduceToNat, List.length_cons, List.length_nil, List.length_append, Int.toNat_natCast] <;> omega) | fail) only [Nat.reduceLT, Nat.reduceLeDiff, Nat.reduceEqDiff, ↓reduceIte, Int.reduceLT, Int.reduceLE, Int.reduceToNat, Int.reduceEq, Int.reduceNe, Nat.reduceAdd, UInt8.reduceOfNat, UInt16.reduceOfNat, UInt32.reduceOfNat, UInt64.reduceOfNat, UInt64.reduceToNat, UInt32.reduceToNat, UInt16.reduceToNat, UInt8.reduceToNat, Int.reduceAdd, Int.reduceSub, Int.reduceMul, Nat.reduceMul, Qp0, Qp1, Ql0, Qe0]
    refine Does_app el_u8 how2.own (Rs.blk (k := ⟨[u8 (UInt8.ofInt m)], 1⟩) (by rw [PH.new_m, if_pos rfl]; rfl) rfl) (bs_one [_]) (by unfold maxLen; omega) (by omega) (fun v' h4 ho hst => ?_)
    have ho' : Own h4 1 v' (l' ++ [UInt8.ofNat m]).length (bs (l' ++ [UInt8.ofNat m])) := by rw [bs_append, List.length_append, ← hb]; exact ho
    simp -dsimp -implicitDefEqProofs (disch := first | omega | assumption | (simp only [Option.isSome_some, Qt0]; done) | (simp only [UInt64.reduceToNat, UInt32.reduceToNat, UInt8.reduceToNat, List.length_cons, List.length_nil, List.length_append, Int.toNat_natCast] <;> omega) | fail) only [Nat.reduceLT, Nat.reduceLeDiff, Nat.reduceEqDiff, ↓reduceIte, Int.reduceLT, Int.reduceLE, Int.reduceToNat, Int.reduceEq, Int.reduceNe, Nat.reduceAdd, UInt8.reduceOfNat, UInt16.reduceOfNat, UInt32.reduceOfNat, UInt64.reduceOfNat, UInt64.reduceToNat, UInt32.reduceToNat, UInt16.reduceToNat, UInt8.reduceToNat, Int.reduceAdd, Int.reduceSub, Int.reduceMul, Nat.reduceMul, Qp0, Qp1, Ql0, Qe0]
    exact ⟨_, PH.Le.refl _, how2.stays hst ho'⟩
  · have e1 : decide ((m : Int) ≥ 128) = true := decide_eq_true (by omega)
    rw [numB_large hs] at hlm
    simp -dsimp -implicitDefEqProofs (disch := first | omega | assumption | (simp only [Option.isSome_some, Qt0]; done) | (simp only [UInt64.reduceToNat, UInt32.reduceToNat, UInt8.reduceToNat, List.length_cons, List.length_nil, List.length_append, Int.toNat_natCast] <;> omega) | fail) only [Nat.reduceLT, Nat.reduceLeDiff, Nat.reduceEqDiff, ↓reduceIte, Int.reduceLT, Int.reduceLE, Int.reduceToNat, Int.reduceEq, Int.reduceNe, Nat.reduceAdd, UInt8.reduceOfNat, UInt16.reduceOfNat, UInt32.reduceOfNat, UInt64.reduceOfNat, UInt64.reduceToNat, UInt32.reduceToNat, UInt16.reduceToNat, UInt8.reduceToNat, Int.reduceAdd, Int.reduceSub, Int.reduceMul, Nat.reduceMul, Qp0, Qp1, Ql0, Qe0, f0, f1, e1, byte_or]
    refine Does_one (v := u8 (UInt8.ofNat (m % 128 + 128))) el_u8 rfl (by omega) fun gb hgb => ?_
    have how2 := how.more ((PH.Le.refl h').new gb ⟨[u8 (UInt8.ofNat (m % 128 + 128))], 1⟩ hgb)
    simp -dsimp -implicitDefEqProofs (disch := first | omega | assumption | (simp only [Option.isSome_some, Qt0]; done) | (simp only [UInt64.reduceToNat, UInt32.reduceToNat, UInt8.reduceToNat, List.length_cons, List.length_nil, List.length_append, Int.toNat_natCast] <;> omega) | fail) only [Nat.reduceLT, Nat.reduceLeDiff, Nat.reduceEqDiff, ↓reduceIte, Int.reduceLT, Int.reduceLE, Int.reduceToNat, Int.reduceEq, Int.reduceNe, Nat.reduceAdd, UInt8.reduceOfNat, UInt16.reduceOfNat, UInt32.reduceOfNat, UInt64.reduceOfNat, UInt64.reduceToNat, UInt32.reduceToNat, UInt16.reduceToNat, UInt8.reduceToNat, Int.reduceAdd, Int.reduceSub, Int.reduceMul, Nat.reduceMul, Qp0, Qp1, Ql0, Qe0]
    refine Does_app el_u8 how2.own (Rs.blk (k := ⟨[u8 (UInt8.ofNat (m % 128 + 128))], 1⟩) (by rw [PH.new_m, if_pos rfl]; rfl) rfl) (bs_one [_]) (by unfold maxLen; omega) (by omega) (fun v' h4 ho hst => ?_)
    have ho' : Own h4 1 v' (l' ++ [UInt8.ofNat (m % 128 + 128)]).length (bs (l' ++ [UInt8.ofNat (m % 128 + 128)])) := by rw [bs_append, List.length_append]; exact ho
    have hd : ((m : Int) / 2 ^ 7) = ((m / 128 : Nat) : Int) := by omega
    simp -dsimp -implicitDefEqProofs (disch := first | omega | assumption | (simp only [Option.isSome_some, Qt0]; done) | (simp only [UInt64.reduceToNat, UInt32.reduceToNat, UInt8.reduceToNat, List.length_cons, List.length_nil, List.length_append, Int.toNat_natCast] <;> omega) | fail) only [Nat.reduceLT, Nat.reduceLeDiff, Nat.reduceEqDiff, ↓reduceIte, Int.reduceLT, Int.reduceLE, Int.reduceToNat, Int.reduceEq, Int.reduceNe, Nat.reduceAdd, UInt8.reduceOfNat, UInt16.reduceOfNat, UInt32.reduceOfNat, UInt64.reduceOfNat, UInt64.reduceToNat, UInt32.reduceToNat, UInt16.reduceToNat, UInt8.reduceToNat, Int.reduceAdd, Int.reduceSub, Int.reduceMul, Nat.reduceMul, Qp0, Qp1, Ql0, Qe0, f0, f1, hd]
    refine ⟨m / 128, _, by omega, PH.Le.refl _, _, _, by trivial, by trivial, by omega, how2.stays hst ho', by rw [← hlm]; simp⟩
/-- What a writer has: the bytes; the first fault's code and place. -/
abbrev WS := List UInt8 × Option (Int × Nat)
def OE (h : PH) (ob : Nat) (A : Option Addr) : Option (Int × Nat) → Value → Prop
  | none, v => v = .nilIface
  | some (k, p), v => ∃ be, v = errV be ∧ h.m be = some ⟨[str wireT, .int .i64 p, codeV k], 3⟩ ∧ be ≠ ob ∧ ∀ a, A = some a → a.block ≠ be
theorem Px.PH.Le.newN {h h' : PH} (hl : PH.Le h h') (b : Nat) (k : Bk) (hb : h.m b = none) : PH.Le h (h'.new b k) := by
  refine ⟨?_, fun x y e => ?_⟩
  · have := hl.top
    simp only [PH.new_top]; omega
  · rw [PH.new_m, if_neg (fun q => by subst q; rw [hb] at e; cases e)]
    exact hl.m x y e
theorem Px.PH.none_of {h : PH} {b : Nat} (hb : h.top ≤ b) : h.m b = none := by
  cases hx : h.m b with
  | none => rfl
  | some k => have := h.lt _ _ hx; omega
structure OS (h0 h : PH) (ob : Nat) (s : WS) : Prop where
  le : PH.Le h0 h
  low : h0.m ob = none
  len : s.1.length ≤ 65536
  cells : ∃ A c ev, h.m ob = some ⟨[.slice A s.1.length c, ev], 2⟩ ∧ Own h 1 (.slice A s.1.length c) s.1.length (bs s.1) ∧ (∀ a, A = some a → h0.m a.block = none ∧ a.block ≠ ob) ∧ OE h ob A s.2 ev
theorem OE.more {h h' : PH} {ob : Nat} {A : Option Addr} {e : Option (Int × Nat)} {v : Value} (l : PH.Le h h') (o : OE h ob A e v) : OE h' ob A e v := by
  cases e with
  | none => exact o
  | some p => obtain ⟨be, h1, h2, h3⟩ := o; exact ⟨be, h1, l.m _ _ h2, h3⟩
theorem OS.more {h0 h h' : PH} {ob : Nat} {s : WS} (o : OS h0 h ob s) (l : PH.Le h h') : OS h0 h' ob s := by
  obtain ⟨A, c, ev, h1, h2, h3, h4⟩ := o.cells
  exact ⟨o.le.trans l, o.low, o.len, A, c, ev, l.m _ _ h1, h2.more l, h3, h4.more l⟩
/-- A block that is new, known of the base too. -/
theorem OS.newB {h0 h : PH} {ob : Nat} {s : WS} (o : OS h0 h ob s) {xb : Nat} (hx : h.top ≤ xb) (k : Bk) : OS (h0.new xb k) (h.new xb k) ob s := by
  obtain ⟨A, c, ev, h1, h2, h3, h4⟩ := o.cells
  have l1 : PH.Le h (h.new xb k) := (PH.Le.refl h).new _ _ hx
  have hob := h.lt _ _ h1
  refine ⟨((o.le.trans l1)).new1 (by rw [PH.new_m, if_pos rfl]), by rw [PH.new_m, if_neg (by omega)]; exact o.low, o.len, A, c, ev, l1.m _ _ h1, h2.more l1, fun a e => ?_, h4.more l1⟩
  have := h2.block (h2.A a e)
  exact ⟨by rw [PH.new_m, if_neg (by omega)]; exact (h3 a e).1, (h3 a e).2⟩
theorem OS.weak {h0 h1 h : PH} {ob : Nat} {s : WS} (o : OS h1 h ob s) (l : PH.Le h0 h1) : OS h0 h ob s := by
  have hn : ∀ b, h1.m b = none → h0.m b = none := fun b e => by
    cases hx : h0.m b with
    | none => rfl
    | some k => rw [l.m _ _ hx] at e; cases e
  obtain ⟨A, c, ev, h1, h2, h3, h4⟩ := o.cells
  exact ⟨l.trans o.le, hn _ o.low, o.len, A, c, ev, h1, h2, fun a e => ⟨hn _ (h3 a e).1, (h3 a e).2⟩, h4⟩
def putM (s : WS) (y : List UInt8) : WS := if s.2.isSome = true then s else if 65536 < s.1.length + y.length then (s.1, some (3, s.1.length)) else (s.1 ++ y, none)
section
variable (h0 : PH) (ob : Nat) (s : WS) (w0 : World) (h : PH)
set_option maxRecDepth 20000 in
set_option maxHeartbeats 1000000 in
theorem wrong_any (hs : OS h0 h ob s) (hn : s.2 = none) (k : Int) : PCalls Try.prog w0 55 [.pointer (some ⟨ob, 0, none⟩), .int .i64 k] h fun r h' => OS h0 h' ob (s.1, some (k, s.1.length)) := by
  refine PCalls_body Try.func55 (by kernel_rfl) rfl _ Try.ntmps55 (by kernel_rfl) (by kernel_rfl) _ Try.results55 ?_
  obtain ⟨A, c, ev, h1, h2, h3, h4⟩ := hs.cells
  simp -dsimp -implicitDefEqProofs (disch := first | omega | assumption | (simp only [Option.isSome_some, Qt0]; done) | (simp only [UInt64.reduceToNat, UInt32.reduceToNat, UInt8.reduceToNat, List.length_cons, List.length_nil, List.length_append, Int.toNat_natCast] <;> omega) | fail) only [Nat.reduceLT, Nat.reduceLeDiff, Nat.reduceEqDiff, ↓reduceIte, Int.reduceLT, Int.reduceLE, Int.reduceToNat, Int.reduceEq, Int.reduceNe, Nat.reduceAdd, UInt8.reduceOfNat, UInt16.reduceOfNat, UInt32.reduceOfNat, UInt64.reduceOfNat, UInt64.reduceToNat, UInt32.reduceToNat, UInt16.reduceToNat, UInt8.reduceToNat, Int.reduceAdd, Int.reduceSub, Int.reduceMul, Nat.reduceMul, Qp0, Qp1, Ql0, Qe0, rd_M, rdM_some, h1]
  refine (at_any wireT _ _ _ w0 h).mono ?_
  rintro v hq ⟨be, rfl, hbe, rfl⟩
  have hob := h.lt _ _ h1
  have hle := (PH.Le.refl h).new be ⟨[str wireT, .int .i64 s.1.length, .iface 40 (.int .i64 k)], 3⟩ hbe
  have hbm : (h.new be ⟨[str wireT, .int .i64 s.1.length, .iface 40 (.int .i64 k)], 3⟩).m be = some ⟨[str wireT, .int .i64 s.1.length, .iface 40 (.int .i64 k)], 3⟩ := by rw [PH.new_m, if_pos rfl]
  generalize h.new be ⟨[str wireT, .int .i64 s.1.length, .iface 40 (.int .i64 k)], 3⟩ = q at *
  have hob1 := hle.m _ _ h1
  unfold errV
  simp -dsimp -implicitDefEqProofs (disch := first | omega | assumption | (simp only [Option.isSome_some, Qt0]; done) | (simp only [UInt64.reduceToNat, UInt32.reduceToNat, UInt8.reduceToNat, List.length_cons, List.length_nil, List.length_append, Int.toNat_natCast] <;> omega) | fail) only [Nat.reduceLT, Nat.reduceLeDiff, Nat.reduceEqDiff, ↓reduceIte, Int.reduceLT, Int.reduceLE, Int.reduceToNat, Int.reduceEq, Int.reduceNe, Nat.reduceAdd, UInt8.reduceOfNat, UInt16.reduceOfNat, UInt32.reduceOfNat, UInt64.reduceOfNat, UInt64.reduceToNat, UInt32.reduceToNat, UInt16.reduceToNat, UInt8.reduceToNat, Int.reduceAdd, Int.reduceSub, Int.reduceMul, Nat.reduceMul, Qp0, Qp1, Ql0, Qe0, hob1, List.set_cons_zero, List.set_cons_succ]
  have h2' := h2.more hle
  refine ⟨_, PH.Le.refl _, (hs.le.trans hle).newN _ _ hs.low, hs.low, hs.len, A, c, _, by rw [PH.new_m, if_pos rfl]; rfl, h2'.put ?_ _, h3, be, rfl, by rw [PH.new_m, if_neg (by omega)]; exact hbm, by omega, fun a e => ?_⟩
  · cases A with
    | none => intro e; cases e
    | some a => rw [h2'.A a rfl]; intro e; cases e; exact (h3 a rfl).2 rfl
  · have := h2.block (h2.A a e); omega
set_option maxRecDepth 20000 in
set_option maxHeartbeats 1000000 in
theorem put_any (hs : OS h0 h ob s) (A' : Option Addr) (c' : Nat) (y : List UInt8) (hy : y.length ≤ 1000000) (hr : Rs w0 h 1 A' y.length (bs y)) : PCalls Try.prog w0 56 [.pointer (some ⟨ob, 0, none⟩), .slice A' y.length c'] h fun r h' => OS h0 h' ob (putM s y) := by
  refine PCalls_body Try.func56 (by kernel_rfl) rfl _ Try.ntmps56 (by kernel_rfl) (by kernel_rfl) _ Try.results56 ?_
  obtain ⟨A, c, ev, h1, h2, h3, h4⟩ := hs.cells
  have hlen := hs.len
  cases hs2 : s.2 with
  | some p =>
    rw [hs2] at h4
    obtain ⟨be, rfl, h5, h6, h7⟩ := h4
    have hp : putM s y = s := by unfold putM; rw [hs2]; simp
    rw [hp]
    unfold errV at *
    simp -dsimp -implicitDefEqProofs (disch := first | omega | assumption | (simp only [Option.isSome_some, Qt0]; done) | (simp only [UInt64.reduceToNat, UInt32.reduceToNat, UInt8.reduceToNat, List.length_cons, List.length_nil, List.length_append, Int.toNat_natCast] <;> omega) | fail) only [Nat.reduceLT, Nat.reduceLeDiff, Nat.reduceEqDiff, ↓reduceIte, Int.reduceLT, Int.reduceLE, Int.reduceToNat, Int.reduceEq, Int.reduceNe, Nat.reduceAdd, UInt8.reduceOfNat, UInt16.reduceOfNat, UInt32.reduceOfNat, UInt64.reduceOfNat, UInt64.reduceToNat, UInt32.reduceToNat, UInt16.reduceToNat, UInt8.reduceToNat, Int.reduceAdd, Int.reduceSub, Int.reduceMul, Nat.reduceMul, Qp0, Qp1, Ql0, Qe0, rd_M, rdM_some, h1]
    exact ⟨_, PH.Le.refl _, hs⟩
  | none =>
    rw [hs2] at h4
    obtain rfl : ev = .nilIface := h4
    by_cases hl : 65536 < s.1.length + y.length
    · have e1 : decide ((y.length : Int) > 65536 - (s.1.length : Int)) = true := decide_eq_true (by omega)
      have hp : putM s y = (s.1, some (3, s.1.length)) := by unfold putM; rw [hs2, if_neg (by simp), if_pos hl]
      rw [hp]
      have hW := Lib.hid (wrong_any h0 ob s w0 h hs hs2 3)
      simp -dsimp -implicitDefEqProofs (disch := first | omega | assumption | (simp only [Option.isSome_some, Qt0]; done) | (simp only [UInt64.reduceToNat, UInt32.reduceToNat, UInt8.reduceToNat, List.length_cons, List.length_nil, List.length_append, Int.toNat_natCast] <;> omega) | fail) only [Nat.reduceLT, Nat.reduceLeDiff, Nat.reduceEqDiff, ↓reduceIte, Int.reduceLT, Int.reduceLE, Int.reduceToNat, Int.reduceEq, Int.reduceNe, Nat.reduceAdd, UInt8.reduceOfNat, UInt16.reduceOfNat, UInt32.reduceOfNat, UInt64.reduceOfNat, UInt64.reduceToNat, UInt32.reduceToNat, UInt16.reduceToNat, UInt8.reduceToNat, Int.reduceAdd, Int.reduceSub, Int.reduceMul, Nat.reduceMul, Qp0, Qp1, Ql0, Qe0, rd_M, rdM_some, h1, e1]
      refine hW.out.mono ?_
      intro v h' hv
      simp -dsimp -implicitDefEqProofs (disch := first | omega | assumption | (simp only [Option.isSome_some, Qt0]; done) | (simp only [UInt64.reduceToNat, UInt32.reduceToNat, UInt8.reduceToNat, List.length_cons, List.length_nil, List.length_append, Int.toNat_natCast] <;> omega) | fail) only [Nat.reduceLT, Nat.reduceLeDiff, Nat.reduceEqDiff, ↓reduceIte, Int.reduceLT, Int.reduceLE, Int.reduceToNat, Int.reduceEq, Int.reduceNe, Nat.reduceAdd, UInt8.reduceOfNat, UInt16.reduceOfNat, UInt32.reduceOfNat, UInt64.reduceOfNat, UInt64.reduceToNat, UInt32.reduceToNat, UInt16.reduceToNat, UInt8.reduceToNat, Int.reduceAdd, Int.reduceSub, Int.reduceMul, Nat.reduceMul, Qp0, Qp1, Ql0, Qe0]
      exact ⟨_, PH.Le.refl _, hv⟩
    · have e1 : decide ((y.length : Int) > 65536 - (s.1.length : Int)) = false := decide_eq_false (by omega)
      have hp : putM s y = (s.1 ++ y, none) := by unfold putM; rw [hs2, if_neg (by simp), if_neg hl]
      rw [hp]
      simp -dsimp -implicitDefEqProofs (disch := first | omega | assumption | (simp only [Option.isSome_some, Qt0]; done) | (simp only [UInt64.reduceToNat, UInt32.reduceToNat, UInt8.reduceToNat, List.length_cons, List.length_nil, List.length_append, Int.toNat_natCast] <;> omega) | fail) only [Nat.reduceLT, Nat.reduceLeDiff, Nat.reduceEqDiff, ↓reduceIte, Int.reduceLT, Int.reduceLE, Int.reduceToNat, Int.reduceEq, Int.reduceNe, Nat.reduceAdd, UInt8.reduceOfNat, UInt16.reduceOfNat, UInt32.reduceOfNat, UInt64.reduceOfNat, UInt64.reduceToNat, UInt32.reduceToNat, UInt16.reduceToNat, UInt8.reduceToNat, Int.reduceAdd, Int.reduceSub, Int.reduceMul, Nat.reduceMul, Qp0, Qp1, Ql0, Qe0, rd_M, rdM_some, h1, e1]
      refine Does_app el_u8 h2 hr (bs_one y) (by unfold maxLen; omega) (by omega) (fun v' h4 ho hst => ?_)
      obtain ⟨A2, c2, rfl, hc2⟩ := ho.len
      have hob4 := hst.keep ob _ h1 (fun e => by cases A with | none => cases e | some a => exact absurd (by simpa [Value.ownBlock] using e) (h3 a rfl).2)
      have hA2 : ∀ a, A2 = some a → h0.m a.block = none ∧ a.block ≠ ob := fun a e => by
        rcases hst.fresh _ (ho.A a e) with h5 | h5
        · cases A with
          | none => cases h5
          | some a' => have := h3 a' rfl; have e' : a'.block = a.block := by simpa [Value.ownBlock] using h5
                       rw [← e']; exact this
        · have := hs.le.top; have := h.lt _ _ h1; exact ⟨PH.none_of (by omega), by omega⟩
      have hle4 : PH.Le h0 h4 := ⟨Nat.le_trans hs.le.top hst.top, fun x k e => hst.keep x k (hs.le.m x k e) fun e' => by
        cases A with
        | none => cases e'
        | some a => have := (h3 a rfl).1; rw [h2.A a rfl] at e'; injection e' with e'; rw [← e', this] at e; cases e⟩
      have ho' : Own h4 1 (.slice A2 (s.1 ++ y).length c2) (s.1 ++ y).length (bs (s.1 ++ y)) := by rw [bs_append, List.length_append]; exact ho
      rw [← List.length_append] at *
      simp -dsimp -implicitDefEqProofs (disch := first | omega | assumption | (simp only [Option.isSome_some, Qt0]; done) | (simp only [UInt64.reduceToNat, UInt32.reduceToNat, UInt8.reduceToNat, List.length_cons, List.length_nil, List.length_append, Int.toNat_natCast] <;> omega) | fail) only [Nat.reduceLT, Nat.reduceLeDiff, Nat.reduceEqDiff, ↓reduceIte, Int.reduceLT, Int.reduceLE, Int.reduceToNat, Int.reduceEq, Int.reduceNe, Nat.reduceAdd, UInt8.reduceOfNat, UInt16.reduceOfNat, UInt32.reduceOfNat, UInt64.reduceOfNat, UInt64.reduceToNat, UInt32.reduceToNat, UInt16.reduceToNat, UInt8.reduceToNat, Int.reduceAdd, Int.reduceSub, Int.reduceMul, Nat.reduceMul, Qp0, Qp1, Ql0, Qe0, hob4, List.set_cons_zero, List.set_cons_succ]
      refine ⟨_, PH.Le.refl _, ⟨hle4.newN _ _ hs.low, hs.low, by show (s.1 ++ y).length ≤ 65536; omega, A2, c2, _, by rw [PH.new_m, if_pos rfl], ho'.put ?_ _, hA2, rfl⟩⟩
      · cases A2 with
        | none => intro e; cases e
        | some a => rw [ho'.A a rfl]; intro e; cases e; exact (hA2 a rfl).2 rfl
/-- A number. -/
def numM (s : WS) (n : Int) : WS := if s.2.isSome = true then s else if n < 0 ∨ 4611686018427387903 < n then (s.1, some (1, s.1.length)) else putM s (numB n.toNat)
def textM (s : WS) (y : List UInt8) : WS := putM s (numB y.length ++ y)
def flagM (s : WS) (b : Bool) : WS := numM s (if b = true then 1 else 0)
def vecM (s : WS) (v : List Int) : WS := if s.2.isSome = true then s else if trim v 4611686018427387903 = true then putM s (vecB v) else (s.1, some (1, s.1.length))
theorem putM_bad {s : WS} (h : s.2.isSome = true) (y : List UInt8) : putM s y = s := if_pos h
set_option maxRecDepth 20000 in
set_option maxHeartbeats 1000000 in
theorem num_any (hs : OS h0 h ob s) (n : Int) (hn : n ≤ 9223372036854775807) : PCalls Try.prog w0 19 [.pointer (some ⟨ob, 0, none⟩), .int .i64 n] h fun r h' => OS h0 h' ob (numM s n) := by
  refine PCalls_body Try.func19 (by kernel_rfl) rfl _ Try.ntmps19 (by kernel_rfl) (by kernel_rfl) _ Try.results19 ?_
  obtain ⟨A, c, ev, h1, h2, h3, h4⟩ := hs.cells
  have hN : PCalls Try.prog w0 57 [.slice none 0 0, .int .i64 (if 0 > n then 0 else n)] h fun r h' => OwnS h h' 1 r ([] ++ numB n.toNat).length (bs ([] ++ numB n.toNat)) := by
    have := number_any h (.slice none 0 0) [] n.toNat (by omega) w0 h (OwnS.nil h 1) (by simp)
    rwa [show ((n.toNat : Nat) : Int) = if 0 > n then 0 else n by split <;> omega] at this
  have hN := Lib.hid hN
  have hnl := numB_len9 (n := n.toNat) (by omega)
  cases hs2 : s.2 with
  | some p =>
    rw [hs2] at h4
    obtain ⟨be, rfl, h5, h6, h7⟩ := h4
    have hp : numM s n = s := by unfold numM; rw [hs2]; simp
    rw [hp]
    unfold errV at *
    simp -dsimp -implicitDefEqProofs (disch := first | omega | assumption | (simp only [Option.isSome_some, Qt0]; done) | (simp only [UInt64.reduceToNat, UInt32.reduceToNat, UInt8.reduceToNat, List.length_cons, List.length_nil, List.length_append, Int.toNat_natCast] <;> omega) | fail) only [Nat.reduceLT, Nat.reduceLeDiff, Nat.reduceEqDiff, ↓reduceIte, Int.reduceLT, Int.reduceLE, Int.reduceToNat, Int.reduceEq, Int.reduceNe, Nat.reduceAdd, UInt8.reduceOfNat, UInt16.reduceOfNat, UInt32.reduceOfNat, UInt64.reduceOfNat, UInt64.reduceToNat, UInt32.reduceToNat, UInt16.reduceToNat, UInt8.reduceToNat, Int.reduceAdd, Int.reduceSub, Int.reduceMul, Nat.reduceMul, Qp0, Qp1, Ql0, Qe0, rd_M, rdM_some, h1]
    refine hN.out.mono ?_
    intro v h' how
    obtain ⟨A', c', rfl, hc'⟩ := how.own.len
    have hP := put_any h0 ob s w0 h' (hs.more how.le) A' c' (numB n.toNat) (by omega) (Rs.own how.own)
    rw [putM_bad (by rw [hs2]; rfl)] at hP
    have hP := Lib.hid hP
    simp -dsimp -implicitDefEqProofs (disch := first | omega | assumption | (simp only [Option.isSome_some, Qt0]; done) | (simp only [UInt64.reduceToNat, UInt32.reduceToNat, UInt8.reduceToNat, List.length_cons, List.length_nil, List.length_append, Int.toNat_natCast] <;> omega) | fail) only [Nat.reduceLT, Nat.reduceLeDiff, Nat.reduceEqDiff, ↓reduceIte, Int.reduceLT, Int.reduceLE, Int.reduceToNat, Int.reduceEq, Int.reduceNe, Nat.reduceAdd, UInt8.reduceOfNat, UInt16.reduceOfNat, UInt32.reduceOfNat, UInt64.reduceOfNat, UInt64.reduceToNat, UInt32.reduceToNat, UInt16.reduceToNat, UInt8.reduceToNat, Int.reduceAdd, Int.reduceSub, Int.reduceMul, Nat.reduceMul, Qp0, Qp1, Ql0, Qe0]
    refine hP.out.mono ?_
    intro v h' hv
    simp -dsimp -implicitDefEqProofs (disch := first | omega | assumption | (simp only [Option.isSome_some, Qt0]; done) | (simp only [UInt64.reduceToNat, UInt32.reduceToNat, UInt8.reduceToNat, List.length_cons, List.length_nil, List.length_append, Int.toNat_natCast] <;> omega) | fail) only [Nat.reduceLT, Nat.reduceLeDiff, Nat.reduceEqDiff, ↓reduceIte, Int.reduceLT, Int.reduceLE, Int.reduceToNat, Int.reduceEq, Int.reduceNe, Nat.reduceAdd, UInt8.reduceOfNat, UInt16.reduceOfNat, UInt32.reduceOfNat, UInt64.reduceOfNat, UInt64.reduceToNat, UInt32.reduceToNat, UInt16.reduceToNat, UInt8.reduceToNat, Int.reduceAdd, Int.reduceSub, Int.reduceMul, Nat.reduceMul, Qp0, Qp1, Ql0, Qe0]
    exact ⟨_, PH.Le.refl _, hv⟩
  | none =>
    rw [hs2] at h4
    obtain rfl : ev = .nilIface := h4
    by_cases hb : n < 0 ∨ 4611686018427387903 < n
    · have hp : numM s n = (s.1, some (1, s.1.length)) := by unfold numM; rw [hs2, if_neg (by simp), if_pos hb]
      rw [hp]
      have hW := Lib.hid (wrong_any h0 ob s w0 h hs hs2 1)
      by_cases hb1 : n < 0
      · have e1 := decide_eq_true hb1
        simp -dsimp -implicitDefEqProofs (disch := first | omega | assumption | (simp only [Option.isSome_some, Qt0]; done) | (simp only [UInt64.reduceToNat, UInt32.reduceToNat, UInt8.reduceToNat, List.length_cons, List.length_nil, List.length_append, Int.toNat_natCast] <;> omega) | fail) only [Nat.reduceLT, Nat.reduceLeDiff, Nat.reduceEqDiff, ↓reduceIte, Int.reduceLT, Int.reduceLE, Int.reduceToNat, Int.reduceEq, Int.reduceNe, Nat.reduceAdd, UInt8.reduceOfNat, UInt16.reduceOfNat, UInt32.reduceOfNat, UInt64.reduceOfNat, UInt64.reduceToNat, UInt32.reduceToNat, UInt16.reduceToNat, UInt8.reduceToNat, Int.reduceAdd, Int.reduceSub, Int.reduceMul, Nat.reduceMul, Qp0, Qp1, Ql0, Qe0, rd_M, rdM_some, h1, e1]
        refine hW.out.mono ?_
        intro v h' hv
        simp -dsimp -implicitDefEqProofs (disch := first | omega | assumption | (simp only [Option.isSome_some, Qt0]; done) | (simp only [UInt64.reduceToNat, UInt32.reduceToNat, UInt8.reduceToNat, List.length_cons, List.length_nil, List.length_append, Int.toNat_natCast] <;> omega) | fail) only [Nat.reduceLT, Nat.reduceLeDiff, Nat.reduceEqDiff, ↓reduceIte, Int.reduceLT, Int.reduceLE, Int.reduceToNat, Int.reduceEq, Int.reduceNe, Nat.reduceAdd, UInt8.reduceOfNat, UInt16.reduceOfNat, UInt32.reduceOfNat, UInt64.reduceOfNat, UInt64.reduceToNat, UInt32.reduceToNat, UInt16.reduceToNat, UInt8.reduceToNat, Int.reduceAdd, Int.reduceSub, Int.reduceMul, Nat.reduceMul, Qp0, Qp1, Ql0, Qe0]
        exact ⟨_, PH.Le.refl _, hv⟩
      · have e1 := decide_eq_false hb1
        have e2 : decide (n > 4611686018427387903) = true := decide_eq_true (by omega)
        simp -dsimp -implicitDefEqProofs (disch := first | omega | assumption | (simp only [Option.isSome_some, Qt0]; done) | (simp only [UInt64.reduceToNat, UInt32.reduceToNat, UInt8.reduceToNat, List.length_cons, List.length_nil, List.length_append, Int.toNat_natCast] <;> omega) | fail) only [Nat.reduceLT, Nat.reduceLeDiff, Nat.reduceEqDiff, ↓reduceIte, Int.reduceLT, Int.reduceLE, Int.reduceToNat, Int.reduceEq, Int.reduceNe, Nat.reduceAdd, UInt8.reduceOfNat, UInt16.reduceOfNat, UInt32.reduceOfNat, UInt64.reduceOfNat, UInt64.reduceToNat, UInt32.reduceToNat, UInt16.reduceToNat, UInt8.reduceToNat, Int.reduceAdd, Int.reduceSub, Int.reduceMul, Nat.reduceMul, Qp0, Qp1, Ql0, Qe0, rd_M, rdM_some, h1, e1, e2]
        refine hW.out.mono ?_
        intro v h' hv
        simp -dsimp -implicitDefEqProofs (disch := first | omega | assumption | (simp only [Option.isSome_some, Qt0]; done) | (simp only [UInt64.reduceToNat, UInt32.reduceToNat, UInt8.reduceToNat, List.length_cons, List.length_nil, List.length_append, Int.toNat_natCast] <;> omega) | fail) only [Nat.reduceLT, Nat.reduceLeDiff, Nat.reduceEqDiff, ↓reduceIte, Int.reduceLT, Int.reduceLE, Int.reduceToNat, Int.reduceEq, Int.reduceNe, Nat.reduceAdd, UInt8.reduceOfNat, UInt16.reduceOfNat, UInt32.reduceOfNat, UInt64.reduceOfNat, UInt64.reduceToNat, UInt32.reduceToNat, UInt16.reduceToNat, UInt8.reduceToNat, Int.reduceAdd, Int.reduceSub, Int.reduceMul, Nat.reduceMul, Qp0, Qp1, Ql0, Qe0]
        exact ⟨_, PH.Le.refl _, hv⟩
    · have hp : numM s n = putM s (numB n.toNat) := by unfold numM; rw [hs2, if_neg (by simp), if_neg hb]
      rw [hp]
      have e1 : decide (n < 0) = false := decide_eq_false (by omega)
      have e2 : decide (n > 4611686018427387903) = false := decide_eq_false (by omega)
      simp -dsimp -implicitDefEqProofs (disch := first | omega | assumption | (simp only [Option.isSome_some, Qt0]; done) | (simp only [UInt64.reduceToNat, UInt32.reduceToNat, UInt8.reduceToNat, List.length_cons, List.length_nil, List.length_append, Int.toNat_natCast] <;> omega) | fail) only [Nat.reduceLT, Nat.reduceLeDiff, Nat.reduceEqDiff, ↓reduceIte, Int.reduceLT, Int.reduceLE, Int.reduceToNat, Int.reduceEq, Int.reduceNe, Nat.reduceAdd, UInt8.reduceOfNat, UInt16.reduceOfNat, UInt32.reduceOfNat, UInt64.reduceOfNat, UInt64.reduceToNat, UInt32.reduceToNat, UInt16.reduceToNat, UInt8.reduceToNat, Int.reduceAdd, Int.reduceSub, Int.reduceMul, Nat.reduceMul, Qp0, Qp1, Ql0, Qe0, rd_M, rdM_some, h1, e1, e2]
      refine hN.out.mono ?_
      intro v h' how
      obtain ⟨A', c', rfl, hc'⟩ := how.own.len
      have hP := Lib.hid (put_any h0 ob s w0 h' (hs.more how.le) A' c' (numB n.toNat) (by omega) (Rs.own how.own))
      simp -dsimp -implicitDefEqProofs (disch := first | omega | assumption | (simp only [Option.isSome_some, Qt0]; done) | (simp only [UInt64.reduceToNat, UInt32.reduceToNat, UInt8.reduceToNat, List.length_cons, List.length_nil, List.length_append, Int.toNat_natCast] <;> omega) | fail) only [Nat.reduceLT, Nat.reduceLeDiff, Nat.reduceEqDiff, ↓reduceIte, Int.reduceLT, Int.reduceLE, Int.reduceToNat, Int.reduceEq, Int.reduceNe, Nat.reduceAdd, UInt8.reduceOfNat, UInt16.reduceOfNat, UInt32.reduceOfNat, UInt64.reduceOfNat, UInt64.reduceToNat, UInt32.reduceToNat, UInt16.reduceToNat, UInt8.reduceToNat, Int.reduceAdd, Int.reduceSub, Int.reduceMul, Nat.reduceMul, Qp0, Qp1, Ql0, Qe0]
      refine hP.out.mono ?_
      intro v h' hv
      simp -dsimp -implicitDefEqProofs (disch := first | omega | assumption | (simp only [Option.isSome_some, Qt0]; done) | (simp only [UInt64.reduceToNat, UInt32.reduceToNat, UInt8.reduceToNat, List.length_cons, List.length_nil, List.length_append, Int.toNat_natCast] <;> omega) | fail) only [Nat.reduceLT, Nat.reduceLeDiff, Nat.reduceEqDiff, ↓reduceIte, Int.reduceLT, Int.reduceLE, Int.reduceToNat, Int.reduceEq, Int.reduceNe, Nat.reduceAdd, UInt8.reduceOfNat, UInt16.reduceOfNat, UInt32.reduceOfNat, UInt64.reduceOfNat, UInt64.reduceToNat, UInt32.reduceToNat, UInt16.reduceToNat, UInt8.reduceToNat, Int.reduceAdd, Int.reduceSub, Int.reduceMul, Nat.reduceMul, Qp0, Qp1, Ql0, Qe0]
      exact ⟨_, PH.Le.refl _, hv⟩
set_option maxRecDepth 20000 in
set_option maxHeartbeats 1000000 in
theorem wtext_any (hs : OS h0 h ob s) (y : List UInt8) (hy : y.length ≤ 900000) : PCalls Try.prog w0 21 [.pointer (some ⟨ob, 0, none⟩), str y] h fun r h' => OS h0 h' ob (textM s y) := by
  refine PCalls_body Try.func21 (by kernel_rfl) rfl _ Try.ntmps21 (by kernel_rfl) (by kernel_rfl) _ Try.results21 ?_
  have hN := Lib.hid (number_any h (.slice none 0 0) [] y.length (by omega) w0 h (OwnS.nil h 1) (by simp))
  have hnl := numB_len9 (n := y.length) (by omega)
  simp -dsimp -implicitDefEqProofs (disch := first | omega | assumption | (simp only [Option.isSome_some, Qt0]; done) | (simp only [UInt64.reduceToNat, UInt32.reduceToNat, UInt8.reduceToNat, List.length_cons, List.length_nil, List.length_append, Int.toNat_natCast] <;> omega) | fail) only [Nat.reduceLT, Nat.reduceLeDiff, Nat.reduceEqDiff, ↓reduceIte, Int.reduceLT, Int.reduceLE, Int.reduceToNat, Int.reduceEq, Int.reduceNe, Nat.reduceAdd, UInt8.reduceOfNat, UInt16.reduceOfNat, UInt32.reduceOfNat, UInt64.reduceOfNat, UInt64.reduceToNat, UInt32.reduceToNat, UInt16.reduceToNat, UInt8.reduceToNat, Int.reduceAdd, Int.reduceSub, Int.reduceMul, Nat.reduceMul, Qp0, Qp1, Ql0, Qe0]
  refine hN.out.mono ?_
  intro v h' how
  rw [List.nil_append] at how
  obtain ⟨A', c', rfl, hc'⟩ := how.own.len
  simp -dsimp -implicitDefEqProofs (disch := first | omega | assumption | (simp only [Option.isSome_some, Qt0]; done) | (simp only [UInt64.reduceToNat, UInt32.reduceToNat, UInt8.reduceToNat, List.length_cons, List.length_nil, List.length_append, Int.toNat_natCast] <;> omega) | fail) only [Nat.reduceLT, Nat.reduceLeDiff, Nat.reduceEqDiff, ↓reduceIte, Int.reduceLT, Int.reduceLE, Int.reduceToNat, Int.reduceEq, Int.reduceNe, Nat.reduceAdd, UInt8.reduceOfNat, UInt16.reduceOfNat, UInt32.reduceOfNat, UInt64.reduceOfNat, UInt64.reduceToNat, UInt32.reduceToNat, UInt16.reduceToNat, UInt8.reduceToNat, Int.reduceAdd, Int.reduceSub, Int.reduceMul, Nat.reduceMul, Qp0, Qp1, Ql0, Qe0]
  refine Does_appT el_u8 Try.underlying9 how.own (by omega) (fun v' h4 ho hst _ => ?_)
  rw [← List.length_append, ← bs_append] at ho
  obtain ⟨A2, c2, rfl, hc2⟩ := ho.len
  have hP := Lib.hid (put_any h0 ob s w0 h4 (hs.more (how.stays hst ho).le) A2 c2 (numB y.length ++ y) (by simp; omega) (Rs.own ho))
  simp -dsimp -implicitDefEqProofs (disch := first | omega | assumption | (simp only [Option.isSome_some, Qt0]; done) | (simp only [UInt64.reduceToNat, UInt32.reduceToNat, UInt8.reduceToNat, List.length_cons, List.length_nil, List.length_append, Int.toNat_natCast] <;> omega) | fail) only [Nat.reduceLT, Nat.reduceLeDiff, Nat.reduceEqDiff, ↓reduceIte, Int.reduceLT, Int.reduceLE, Int.reduceToNat, Int.reduceEq, Int.reduceNe, Nat.reduceAdd, UInt8.reduceOfNat, UInt16.reduceOfNat, UInt32.reduceOfNat, UInt64.reduceOfNat, UInt64.reduceToNat, UInt32.reduceToNat, UInt16.reduceToNat, UInt8.reduceToNat, Int.reduceAdd, Int.reduceSub, Int.reduceMul, Nat.reduceMul, Qp0, Qp1, Ql0, Qe0]
  refine hP.out.mono ?_
  intro v h' hv
  simp -dsimp -implicitDefEqProofs (disch := first | omega | assumption | (simp only [Option.isSome_some, Qt0]; done) | (simp only [UInt64.reduceToNat, UInt32.reduceToNat, UInt8.reduceToNat, List.length_cons, List.length_nil, List.length_append, Int.toNat_natCast] <;> omega) | fail) only [Nat.reduceLT, Nat.reduceLeDiff, Nat.reduceEqDiff, ↓reduceIte, Int.reduceLT, Int.reduceLE, Int.reduceToNat, Int.reduceEq, Int.reduceNe, Nat.reduceAdd, UInt8.reduceOfNat, UInt16.reduceOfNat, UInt32.reduceOfNat, UInt64.reduceOfNat, UInt64.reduceToNat, UInt32.reduceToNat, UInt16.reduceToNat, UInt8.reduceToNat, Int.reduceAdd, Int.reduceSub, Int.reduceMul, Nat.reduceMul, Qp0, Qp1, Ql0, Qe0]
  exact ⟨_, PH.Le.refl _, hv⟩
set_option maxRecDepth 20000 in
theorem wflag_any (hs : OS h0 h ob s) (b : Bool) : PCalls Try.prog w0 59 [.pointer (some ⟨ob, 0, none⟩), .bool b] h fun r h' => OS h0 h' ob (flagM s b) := by
  refine PCalls_body Try.func59 (by kernel_rfl) rfl _ Try.ntmps59 (by kernel_rfl) (by kernel_rfl) _ Try.results59 ?_
  cases b with
  | true =>
    have hP := Lib.hid (num_any h0 ob s w0 h hs 1 (by omega))
    simp -dsimp -implicitDefEqProofs (disch := first | omega | assumption | (simp only [Option.isSome_some, Qt0]; done) | (simp only [UInt64.reduceToNat, UInt32.reduceToNat, UInt8.reduceToNat, List.length_cons, List.length_nil, List.length_append, Int.toNat_natCast] <;> omega) | fail) only [Nat.reduceLT, Nat.reduceLeDiff, Nat.reduceEqDiff, ↓reduceIte, Int.reduceLT, Int.reduceLE, Int.reduceToNat, Int.reduceEq, Int.reduceNe, Nat.reduceAdd, UInt8.reduceOfNat, UInt16.reduceOfNat, UInt32.reduceOfNat, UInt64.reduceOfNat, UInt64.reduceToNat, UInt32.reduceToNat, UInt16.reduceToNat, UInt8.reduceToNat, Int.reduceAdd, Int.reduceSub, Int.reduceMul, Nat.reduceMul, Qp0, Qp1, Ql0, Qe0]
    refine hP.out.mono ?_
    intro v h' hv
    simp -dsimp -implicitDefEqProofs (disch := first | omega | assumption | (simp only [Option.isSome_some, Qt0]; done) | (simp only [UInt64.reduceToNat, UInt32.reduceToNat, UInt8.reduceToNat, List.length_cons, List.length_nil, List.length_append, Int.toNat_natCast] <;> omega) | fail) only [Nat.reduceLT, Nat.reduceLeDiff, Nat.reduceEqDiff, ↓reduceIte, Int.reduceLT, Int.reduceLE, Int.reduceToNat, Int.reduceEq, Int.reduceNe, Nat.reduceAdd, UInt8.reduceOfNat, UInt16.reduceOfNat, UInt32.reduceOfNat, UInt64.reduceOfNat, UInt64.reduceToNat, UInt32.reduceToNat, UInt16.reduceToNat, UInt8.reduceToNat, Int.reduceAdd, Int.reduceSub, Int.reduceMul, Nat.reduceMul, Qp0, Qp1, Ql0, Qe0]
    exact ⟨_, PH.Le.refl _, hv⟩
  | false =>
    have hP := Lib.hid (num_any h0 ob s w0 h hs 0 (by omega))
    simp -dsimp -implicitDefEqProofs (disch := first | omega | assumption | (simp only [Option.isSome_some, Qt0]; done) | (simp only [UInt64.reduceToNat, UInt32.reduceToNat, UInt8.reduceToNat, List.length_cons, List.length_nil, List.length_append, Int.toNat_natCast] <;> omega) | fail) only [Nat.reduceLT, Nat.reduceLeDiff, Nat.reduceEqDiff, ↓reduceIte, Int.reduceLT, Int.reduceLE, Int.reduceToNat, Int.reduceEq, Int.reduceNe, Nat.reduceAdd, UInt8.reduceOfNat, UInt16.reduceOfNat, UInt32.reduceOfNat, UInt64.reduceOfNat, UInt64.reduceToNat, UInt32.reduceToNat, UInt16.reduceToNat, UInt8.reduceToNat, Int.reduceAdd, Int.reduceSub, Int.reduceMul, Nat.reduceMul, Qp0, Qp1, Ql0, Qe0]
    refine hP.out.mono ?_
    intro v h' hv
    simp -dsimp -implicitDefEqProofs (disch := first | omega | assumption | (simp only [Option.isSome_some, Qt0]; done) | (simp only [UInt64.reduceToNat, UInt32.reduceToNat, UInt8.reduceToNat, List.length_cons, List.length_nil, List.length_append, Int.toNat_natCast] <;> omega) | fail) only [Nat.reduceLT, Nat.reduceLeDiff, Nat.reduceEqDiff, ↓reduceIte, Int.reduceLT, Int.reduceLE, Int.reduceToNat, Int.reduceEq, Int.reduceNe, Nat.reduceAdd, UInt8.reduceOfNat, UInt16.reduceOfNat, UInt32.reduceOfNat, UInt64.reduceOfNat, UInt64.reduceToNat, UInt32.reduceToNat, UInt16.reduceToNat, UInt8.reduceToNat, Int.reduceAdd, Int.reduceSub, Int.reduceMul, Nat.reduceMul, Qp0, Qp1, Ql0, Qe0]
    exact ⟨_, PH.Le.refl _, hv⟩
end
set_option maxRecDepth 20000 in
set_option maxHeartbeats 1000000 in
theorem trimmed_any (w0 : World) (h : PH) (hl : Low w0 h) (A : Option Addr) (c : Nat) (v : List Int) (m : Int) (hr : Rv w0 h A (v.map (Value.int .i64))) (hn : v.length ≤ c) (hv : v.length ≤ 9223372036854775807) : PCalls Try.prog w0 60 [.slice A v.length c, .int .i64 m] h fun r h' => r = .bool (trim v m) ∧ h' = h := by
  refine PCalls_body Try.func60 (by kernel_rfl) rfl _ Try.ntmps60 (by kernel_rfl) (by kernel_rfl) _ Try.results60 ?_
  by_cases h16 : v.length ≤ 16
  · have e1 : decide ((v.length : Int) > 16) = false := decide_eq_false (by omega)
    by_cases h0 : v.length = 0
    · obtain rfl : v = [] := List.eq_nil_of_length_eq_zero h0
      simp -dsimp -implicitDefEqProofs (disch := first | omega | assumption | (simp only [Option.isSome_some, Qt0]; done) | (simp only [UInt64.reduceToNat, UInt32.reduceToNat, UInt8.reduceToNat, List.length_cons, List.length_nil, List.length_append, Int.toNat_natCast] <;> omega) | fail) only [Nat.reduceLT, Nat.reduceLeDiff, Nat.reduceEqDiff, ↓reduceIte, Int.reduceLT, Int.reduceLE, Int.reduceToNat, Int.reduceEq, Int.reduceNe, Nat.reduceAdd, UInt8.reduceOfNat, UInt16.reduceOfNat, UInt32.reduceOfNat, UInt64.reduceOfNat, UInt64.reduceToNat, UInt32.reduceToNat, UInt16.reduceToNat, UInt8.reduceToNat, Int.reduceAdd, Int.reduceSub, Int.reduceMul, Nat.reduceMul, Qp0, Qp1, Ql0, Qe0]
      refine PW_rounds 1 (by kernel_rfl) ?_
      simp -dsimp -implicitDefEqProofs (disch := first | omega | assumption | (simp only [Option.isSome_some, Qt0]; done) | (simp only [UInt64.reduceToNat, UInt32.reduceToNat, UInt8.reduceToNat, List.length_cons, List.length_nil, List.length_append, Int.toNat_natCast] <;> omega) | fail) only [Nat.reduceLT, Nat.reduceLeDiff, Nat.reduceEqDiff, ↓reduceIte, Int.reduceLT, Int.reduceLE, Int.reduceToNat, Int.reduceEq, Int.reduceNe, Nat.reduceAdd, UInt8.reduceOfNat, UInt16.reduceOfNat, UInt32.reduceOfNat, UInt64.reduceOfNat, UInt64.reduceToNat, UInt32.reduceToNat, UInt16.reduceToNat, UInt8.reduceToNat, Int.reduceAdd, Int.reduceSub, Int.reduceMul, Nat.reduceMul, Qp0, Qp1, Ql0, Qe0]
      exact ⟨_, PH.Le.refl _, by rw [trim_iff.2 ⟨by simp, by simp, by simp⟩], rfl⟩
    · have e2 : decide ((v.length : Int) > 0) = true := decide_eq_true (by omega)
      obtain ⟨b, o, rfl⟩ := hr.addr (by simp; omega)
      have hla : v.getLast? = some (v.getD (v.length - 1) 0) := by
        rw [List.getLast?_eq_getElem?, List.getD, List.getElem?_eq_getElem (by omega)]; rfl
      have hg : ∀ j, j < v.length → rdM w0 (h.m b) b (o + j) = some (.int .i64 (v.getD j 0)) := fun j hj => hr.get hl (by rw [List.getElem?_map, List.getD, List.getElem?_eq_getElem hj]; rfl)
      have hg1 := hg (v.length - 1) (by omega)
      have hix : ((v.length : Int) - 1).toNat = v.length - 1 := by omega
      by_cases hz : v.getD (v.length - 1) 0 = 0
      · have e3 := decide_eq_true hz
        have ht : trim v m = false := by
          rw [Bool.eq_false_iff]; intro e; exact (trim_iff.1 e).2.1 (by rw [hla, hz])
        rw [ht]
        simp -dsimp -implicitDefEqProofs (disch := first | omega | assumption | (simp only [Option.isSome_some, Qt0]; done) | (simp only [UInt64.reduceToNat, UInt32.reduceToNat, UInt8.reduceToNat, List.length_cons, List.length_nil, List.length_append, Int.toNat_natCast] <;> omega) | fail) only [Nat.reduceLT, Nat.reduceLeDiff, Nat.reduceEqDiff, ↓reduceIte, Int.reduceLT, Int.reduceLE, Int.reduceToNat, Int.reduceEq, Int.reduceNe, Nat.reduceAdd, UInt8.reduceOfNat, UInt16.reduceOfNat, UInt32.reduceOfNat, UInt64.reduceOfNat, UInt64.reduceToNat, UInt32.reduceToNat, UInt16.reduceToNat, UInt8.reduceToNat, Int.reduceAdd, Int.reduceSub, Int.reduceMul, Nat.reduceMul, Qp0, Qp1, Ql0, Qe0, e1, e2, rd_M, hix, hg1, e3]
        exact ⟨_, PH.Le.refl _, by trivial, rfl⟩
      have e3 := decide_eq_false hz
      simp -dsimp -implicitDefEqProofs (disch := first | omega | assumption | (simp only [Option.isSome_some, Qt0]; done) | (simp only [UInt64.reduceToNat, UInt32.reduceToNat, UInt8.reduceToNat, List.length_cons, List.length_nil, List.length_append, Int.toNat_natCast] <;> omega) | fail) only [Nat.reduceLT, Nat.reduceLeDiff, Nat.reduceEqDiff, ↓reduceIte, Int.reduceLT, Int.reduceLE, Int.reduceToNat, Int.reduceEq, Int.reduceNe, Nat.reduceAdd, UInt8.reduceOfNat, UInt16.reduceOfNat, UInt32.reduceOfNat, UInt64.reduceOfNat, UInt64.reduceToNat, UInt32.reduceToNat, UInt16.reduceToNat, UInt8.reduceToNat, Int.reduceAdd, Int.reduceSub, Int.reduceMul, Nat.reduceMul, Qp0, Qp1, Ql0, Qe0, e1, e2, rd_M, hix, hg1, e3]
      clear hg1 e2 e3
      refine PW_loop (fun n f h' => ∃ i : Nat, n + i = v.length ∧ f 1 = some (.int .i64 m) ∧ f 24 = some (.slice (some ⟨b, o, none⟩) v.length c) ∧ f 25 = some (.int .i64 v.length) ∧ f 26 = some (.int .i64 i) ∧ (∀ j, j < i → 0 ≤ v.getD j 0 ∧ v.getD j 0 ≤ m) ∧ h' = h) (by kernel_rfl) v.length ⟨0, by omega, ?_, ?_, ?_, ?_, fun j hj => by omega, rfl⟩ ?_
      · simp -dsimp -implicitDefEqProofs (disch := first | omega | assumption | (simp only [Option.isSome_some, Qt0]; done) | (simp only [UInt64.reduceToNat, UInt32.reduceToNat, UInt8.reduceToNat, List.length_cons, List.length_nil, List.length_append, Int.toNat_natCast] <;> omega) | fail) only [Nat.reduceLT, Nat.reduceLeDiff, Nat.reduceEqDiff, ↓reduceIte, Int.reduceLT, Int.reduceLE, Int.reduceToNat, Int.reduceEq, Int.reduceNe, Nat.reduceAdd, UInt8.reduceOfNat, UInt16.reduceOfNat, UInt32.reduceOfNat, UInt64.reduceOfNat, UInt64.reduceToNat, UInt32.reduceToNat, UInt16.reduceToNat, UInt8.reduceToNat, Int.reduceAdd, Int.reduceSub, Int.reduceMul, Nat.reduceMul, Qp0, Qp1, Ql0, Qe0]
      · simp -dsimp -implicitDefEqProofs (disch := first | omega | assumption | (simp only [Option.isSome_some, Qt0]; done) | (simp only [UInt64.reduceToNat, UInt32.reduceToNat, UInt8.reduceToNat, List.length_cons, List.length_nil, List.length_append, Int.toNat_natCast] <;> omega) | fail) only [Nat.reduceLT, Nat.reduceLeDiff, Nat.reduceEqDiff, ↓reduceIte, Int.reduceLT, Int.reduceLE, Int.reduceToNat, Int.reduceEq, Int.reduceNe, Nat.reduceAdd, UInt8.reduceOfNat, UInt16.reduceOfNat, UInt32.reduceOfNat, UInt64.reduceOfNat, UInt64.reduceToNat, UInt32.reduceToNat, UInt16.reduceToNat, UInt8.reduceToNat, Int.reduceAdd, Int.reduceSub, Int.reduceMul, Nat.reduceMul, Qp0, Qp1, Ql0, Qe0]
      · simp -dsimp -implicitDefEqProofs (disch := first | omega | assumption | (simp only [Option.isSome_some, Qt0]; done) | (simp only [UInt64.reduceToNat, UInt32.reduceToNat, UInt8.reduceToNat, List.length_cons, List.length_nil, List.length_append, Int.toNat_natCast] <;> omega) | fail) only [Nat.reduceLT, Nat.reduceLeDiff, Nat.reduceEqDiff, ↓reduceIte, Int.reduceLT, Int.reduceLE, Int.reduceToNat, Int.reduceEq, Int.reduceNe, Nat.reduceAdd, UInt8.reduceOfNat, UInt16.reduceOfNat, UInt32.reduceOfNat, UInt64.reduceOfNat, UInt64.reduceToNat, UInt32.reduceToNat, UInt16.reduceToNat, UInt8.reduceToNat, Int.reduceAdd, Int.reduceSub, Int.reduceMul, Nat.reduceMul, Qp0, Qp1, Ql0, Qe0]
      · simp -dsimp -implicitDefEqProofs (disch := first | omega | assumption | (simp only [Option.isSome_some, Qt0]; done) | (simp only [UInt64.reduceToNat, UInt32.reduceToNat, UInt8.reduceToNat, List.length_cons, List.length_nil, List.length_append, Int.toNat_natCast] <;> omega) | fail) only [Nat.reduceLT, Nat.reduceLeDiff, Nat.reduceEqDiff, ↓reduceIte, Int.reduceLT, Int.reduceLE, Int.reduceToNat, Int.reduceEq, Int.reduceNe, Nat.reduceAdd, UInt8.reduceOfNat, UInt16.reduceOfNat, UInt32.reduceOfNat, UInt64.reduceOfNat, UInt64.reduceToNat, UInt32.reduceToNat, UInt16.reduceToNat, UInt8.reduceToNat, Int.reduceAdd, Int.reduceSub, Int.reduceMul, Nat.reduceMul, Qp0, Qp1, Ql0, Qe0]
        try rfl
      rintro n f h' ⟨i, hni, f1, f24, f25, f26, hall, rfl⟩
      by_cases hi : i < v.length
      · have e2 : decide ((i : Int) < (v.length : Int)) = true := decide_eq_true (by omega)
        have hgi := hg i hi
        by_cases hb : 0 ≤ v.getD i 0 ∧ v.getD i 0 ≤ m
        · have e3 : decide (v.getD i 0 < 0) = false := decide_eq_false (by omega)
          have e4 : decide (v.getD i 0 > m) = false := decide_eq_false (by omega)
          simp -dsimp -implicitDefEqProofs (disch := first | omega | assumption | (simp only [Option.isSome_some, Qt0]; done) | (simp only [UInt64.reduceToNat, UInt32.reduceToNat, UInt8.reduceToNat, List.length_cons, List.length_nil, List.length_append, Int.toNat_natCast] <;> omega) | fail) only [Nat.reduceLT, Nat.reduceLeDiff, Nat.reduceEqDiff, ↓reduceIte, Int.reduceLT, Int.reduceLE, Int.reduceToNat, Int.reduceEq, Int.reduceNe, Nat.reduceAdd, UInt8.reduceOfNat, UInt16.reduceOfNat, UInt32.reduceOfNat, UInt64.reduceOfNat, UInt64.reduceToNat, UInt32.reduceToNat, UInt16.reduceToNat, UInt8.reduceToNat, Int.reduceAdd, Int.reduceSub, Int.reduceMul, Nat.reduceMul, Qp0, Qp1, Ql0, Qe0, f1, f24, f25, f26, e2, rd_M, hgi, e3, e4]
          refine ⟨n - 1, _, by omega, PH.Le.refl _, i + 1, by omega, by trivial, by trivial, by trivial, by simp, fun j hj => ?_, rfl⟩
          by_cases hji : j = i
          · subst hji; exact hb
          · exact hall j (by omega)
        · have ht : trim v m = false := by
            rw [Bool.eq_false_iff]; intro e; exact hb ((trim_iff.1 e).2.2 i hi)
          rw [ht]
          by_cases hb1 : v.getD i 0 < 0
          · have e3 := decide_eq_true hb1
            simp -dsimp -implicitDefEqProofs (disch := first | omega | assumption | (simp only [Option.isSome_some, Qt0]; done) | (simp only [UInt64.reduceToNat, UInt32.reduceToNat, UInt8.reduceToNat, List.length_cons, List.length_nil, List.length_append, Int.toNat_natCast] <;> omega) | fail) only [Nat.reduceLT, Nat.reduceLeDiff, Nat.reduceEqDiff, ↓reduceIte, Int.reduceLT, Int.reduceLE, Int.reduceToNat, Int.reduceEq, Int.reduceNe, Nat.reduceAdd, UInt8.reduceOfNat, UInt16.reduceOfNat, UInt32.reduceOfNat, UInt64.reduceOfNat, UInt64.reduceToNat, UInt32.reduceToNat, UInt16.reduceToNat, UInt8.reduceToNat, Int.reduceAdd, Int.reduceSub, Int.reduceMul, Nat.reduceMul, Qp0, Qp1, Ql0, Qe0, f1, f24, f25, f26, e2, rd_M, hgi, e3]
            exact ⟨_, PH.Le.refl _, by trivial, rfl⟩
          · have e3 := decide_eq_false hb1
            have e4 : decide (v.getD i 0 > m) = true := decide_eq_true (by omega)
            simp -dsimp -implicitDefEqProofs (disch := first | omega | assumption | (simp only [Option.isSome_some, Qt0]; done) | (simp only [UInt64.reduceToNat, UInt32.reduceToNat, UInt8.reduceToNat, List.length_cons, List.length_nil, List.length_append, Int.toNat_natCast] <;> omega) | fail) only [Nat.reduceLT, Nat.reduceLeDiff, Nat.reduceEqDiff, ↓reduceIte, Int.reduceLT, Int.reduceLE, Int.reduceToNat, Int.reduceEq, Int.reduceNe, Nat.reduceAdd, UInt8.reduceOfNat, UInt16.reduceOfNat, UInt32.reduceOfNat, UInt64.reduceOfNat, UInt64.reduceToNat, UInt32.reduceToNat, UInt16.reduceToNat, UInt8.reduceToNat, Int.reduceAdd, Int.reduceSub, Int.reduceMul, Nat.reduceMul, Qp0, Qp1, Ql0, Qe0, f1, f24, f25, f26, e2, rd_M, hgi, e3, e4]
            exact ⟨_, PH.Le.refl _, by trivial, rfl⟩
      · have e2 : decide ((i : Int) < (v.length : Int)) = false := decide_eq_false (by omega)
        simp -dsimp -implicitDefEqProofs (disch := first | omega | assumption | (simp only [Option.isSome_some, Qt0]; done) | (simp only [UInt64.reduceToNat, UInt32.reduceToNat, UInt8.reduceToNat, List.length_cons, List.length_nil, List.length_append, Int.toNat_natCast] <;> omega) | fail) only [Nat.reduceLT, Nat.reduceLeDiff, Nat.reduceEqDiff, ↓reduceIte, Int.reduceLT, Int.reduceLE, Int.reduceToNat, Int.reduceEq, Int.reduceNe, Nat.reduceAdd, UInt8.reduceOfNat, UInt16.reduceOfNat, UInt32.reduceOfNat, UInt64.reduceOfNat, UInt64.reduceToNat, UInt32.reduceToNat, UInt16.reduceToNat, UInt8.reduceToNat, Int.reduceAdd, Int.reduceSub, Int.reduceMul, Nat.reduceMul, Qp0, Qp1, Ql0, Qe0, f1, f24, f25, f26, e2]
        exact ⟨_, PH.Le.refl _, by rw [trim_iff.2 ⟨h16, by rw [hla]; simpa using hz, fun j hj => hall j (by omega)⟩], rfl⟩
  · have e1 : decide ((v.length : Int) > 16) = true := decide_eq_true (by omega)
    have ht : trim v m = false := by unfold trim; simp [h16]
    rw [ht]
    simp -dsimp -implicitDefEqProofs (disch := first | omega | assumption | (simp only [Option.isSome_some, Qt0]; done) | (simp only [UInt64.reduceToNat, UInt32.reduceToNat, UInt8.reduceToNat, List.length_cons, List.length_nil, List.length_append, Int.toNat_natCast] <;> omega) | fail) only [Nat.reduceLT, Nat.reduceLeDiff, Nat.reduceEqDiff, ↓reduceIte, Int.reduceLT, Int.reduceLE, Int.reduceToNat, Int.reduceEq, Int.reduceNe, Nat.reduceAdd, UInt8.reduceOfNat, UInt16.reduceOfNat, UInt32.reduceOfNat, UInt64.reduceOfNat, UInt64.reduceToNat, UInt32.reduceToNat, UInt16.reduceToNat, UInt8.reduceToNat, Int.reduceAdd, Int.reduceSub, Int.reduceMul, Nat.reduceMul, Qp0, Qp1, Ql0, Qe0, e1]
    exact ⟨_, PH.Le.refl _, by trivial, rfl⟩
end Go.Proofs.Ytdhgmifgjaedbaa


/- The writer's Vec and Done; what is called on a writer that isn't there. No condition. -/
namespace Go.Proofs.Ytdhgmifgjaedbaa
set_option linter.unusedVariables false
set_option linter.unusedSimpArgs false
open Go.RowKit Px Wr
theorem vecB_take (v : List Int) (i : Nat) (hi : i < v.length) : ((v.take (i + 1)).flatMap fun n => numB n.toNat) = ((v.take i).flatMap fun n => numB n.toNat) ++ numB (v.getD i 0).toNat := by
  rw [List.take_add_one, List.getElem?_eq_getElem hi, List.flatMap_append, List.getD, List.getElem?_eq_getElem hi]
  simp
theorem flat_len_le (v : List Int) (h : ∀ n ∈ v, n ≤ 9223372036854775807) : (v.flatMap fun n => numB n.toNat).length ≤ 9 * v.length := by
  induction v with
  | nil => simp
  | cons x v ih =>
    have h1 := ih fun n hn => h n (List.mem_cons_of_mem _ hn)
    have h2 := h x List.mem_cons_self
    have h3 := numB_len9 (n := x.toNat) (by omega)
    simp only [List.flatMap_cons, List.length_append, List.length_cons]
    omega
section
variable (h0 : PH) (ob : Nat) (s : WS) (w0 : World) (h : PH)
set_option maxRecDepth 20000 in
set_option maxHeartbeats 1000000 in
theorem wvec_any (hs : OS h0 h ob s) (A : Option Addr) (c : Nat) (v : List Int) (hr : Rv w0 h A (v.map (Value.int .i64))) (hn : v.length ≤ c) (hv : v.length ≤ 1000000) : PCalls Try.prog w0 22 [.pointer (some ⟨ob, 0, none⟩), .slice A v.length c] h fun r h' => OS h0 h' ob (vecM s v) := by
  refine PCalls_low fun hl => ?_
  refine PCalls_body Try.func22 (by kernel_rfl) rfl _ Try.ntmps22 (by kernel_rfl) (by kernel_rfl) _ Try.results22 ?_
  obtain ⟨A1, c1, ev, h1, h2, h3, h4⟩ := hs.cells
  have hT := Lib.hid (trimmed_any w0 h hl A c v 4611686018427387903 hr hn (by omega))
  cases hs2 : s.2 with
  | some p =>
    rw [hs2] at h4
    obtain ⟨be, rfl, h5, h6, h7⟩ := h4
    have hp : vecM s v = s := by unfold vecM; rw [hs2]; simp
    rw [hp]
    unfold errV at *
    simp -dsimp -implicitDefEqProofs (disch := first | omega | assumption | (simp only [Option.isSome_some, Qt0]; done) | (simp only [UInt64.reduceToNat, UInt32.reduceToNat, UInt8.reduceToNat, List.length_cons, List.length_nil, List.length_append, Int.toNat_natCast] <;> omega) | fail) only [Nat.reduceLT, Nat.reduceLeDiff, Nat.reduceEqDiff, ↓reduceIte, Int.reduceLT, Int.reduceLE, Int.reduceToNat, Int.reduceEq, Int.reduceNe, Nat.reduceAdd, UInt8.reduceOfNat, UInt16.reduceOfNat, UInt32.reduceOfNat, UInt64.reduceOfNat, UInt64.reduceToNat, UInt32.reduceToNat, UInt16.reduceToNat, UInt8.reduceToNat, Int.reduceAdd, Int.reduceSub, Int.reduceMul, Nat.reduceMul, Qp0, Qp1, Ql0, Qe0, rd_M, rdM_some, h1]
    exact ⟨_, PH.Le.refl _, hs⟩
  | none =>
    rw [hs2] at h4
    obtain rfl : ev = .nilIface := h4
    cases ht : trim v 4611686018427387903 with
    | false =>
      have hp : vecM s v = (s.1, some (1, s.1.length)) := by unfold vecM; rw [hs2, if_neg (by simp), ht, if_neg (by simp)]
      rw [hp]
      have hW := Lib.hid (wrong_any h0 ob s w0 h hs hs2 1)
      rw [ht] at hT
      simp -dsimp -implicitDefEqProofs (disch := first | omega | assumption | (simp only [Option.isSome_some, Qt0]; done) | (simp only [UInt64.reduceToNat, UInt32.reduceToNat, UInt8.reduceToNat, List.length_cons, List.length_nil, List.length_append, Int.toNat_natCast] <;> omega) | fail) only [Nat.reduceLT, Nat.reduceLeDiff, Nat.reduceEqDiff, ↓reduceIte, Int.reduceLT, Int.reduceLE, Int.reduceToNat, Int.reduceEq, Int.reduceNe, Nat.reduceAdd, UInt8.reduceOfNat, UInt16.reduceOfNat, UInt32.reduceOfNat, UInt64.reduceOfNat, UInt64.reduceToNat, UInt32.reduceToNat, UInt16.reduceToNat, UInt8.reduceToNat, Int.reduceAdd, Int.reduceSub, Int.reduceMul, Nat.reduceMul, Qp0, Qp1, Ql0, Qe0, rd_M, rdM_some, h1]
      refine hT.out.mono ?_
      rintro v hq ⟨rfl, hz⟩
      obtain rfl := hz.symm
      simp -dsimp -implicitDefEqProofs (disch := first | omega | assumption | (simp only [Option.isSome_some, Qt0]; done) | (simp only [UInt64.reduceToNat, UInt32.reduceToNat, UInt8.reduceToNat, List.length_cons, List.length_nil, List.length_append, Int.toNat_natCast] <;> omega) | fail) only [Nat.reduceLT, Nat.reduceLeDiff, Nat.reduceEqDiff, ↓reduceIte, Int.reduceLT, Int.reduceLE, Int.reduceToNat, Int.reduceEq, Int.reduceNe, Nat.reduceAdd, UInt8.reduceOfNat, UInt16.reduceOfNat, UInt32.reduceOfNat, UInt64.reduceOfNat, UInt64.reduceToNat, UInt32.reduceToNat, UInt16.reduceToNat, UInt8.reduceToNat, Int.reduceAdd, Int.reduceSub, Int.reduceMul, Nat.reduceMul, Qp0, Qp1, Ql0, Qe0]
      refine hW.out.mono ?_
      intro v h' hv
      simp -dsimp -implicitDefEqProofs (disch := first | omega | assumption | (simp only [Option.isSome_some, Qt0]; done) | (simp only [UInt64.reduceToNat, UInt32.reduceToNat, UInt8.reduceToNat, List.length_cons, List.length_nil, List.length_append, Int.toNat_natCast] <;> omega) | fail) only [Nat.reduceLT, Nat.reduceLeDiff, Nat.reduceEqDiff, ↓reduceIte, Int.reduceLT, Int.reduceLE, Int.reduceToNat, Int.reduceEq, Int.reduceNe, Nat.reduceAdd, UInt8.reduceOfNat, UInt16.reduceOfNat, UInt32.reduceOfNat, UInt64.reduceOfNat, UInt64.reduceToNat, UInt32.reduceToNat, UInt16.reduceToNat, UInt8.reduceToNat, Int.reduceAdd, Int.reduceSub, Int.reduceMul, Nat.reduceMul, Qp0, Qp1, Ql0, Qe0]
      exact ⟨_, PH.Le.refl _, hv⟩
    | true =>
      have hp : vecM s v = putM s (vecB v) := by unfold vecM; rw [hs2, if_neg (by simp), ht, if_pos rfl]
      rw [hp]
      have h16 := trim_len ht
      have hall := trim_iff.1 ht
      have hN := Lib.hid (number_any h (.slice none 0 0) [] v.length (by omega) w0 h (OwnS.nil h 1) (by simp))
      rw [ht] at hT
      simp -dsimp -implicitDefEqProofs (disch := first | omega | assumption | (simp only [Option.isSome_some, Qt0]; done) | (simp only [UInt64.reduceToNat, UInt32.reduceToNat, UInt8.reduceToNat, List.length_cons, List.length_nil, List.length_append, Int.toNat_natCast] <;> omega) | fail) only [Nat.reduceLT, Nat.reduceLeDiff, Nat.reduceEqDiff, ↓reduceIte, Int.reduceLT, Int.reduceLE, Int.reduceToNat, Int.reduceEq, Int.reduceNe, Nat.reduceAdd, UInt8.reduceOfNat, UInt16.reduceOfNat, UInt32.reduceOfNat, UInt64.reduceOfNat, UInt64.reduceToNat, UInt32.reduceToNat, UInt16.reduceToNat, UInt8.reduceToNat, Int.reduceAdd, Int.reduceSub, Int.reduceMul, Nat.reduceMul, Qp0, Qp1, Ql0, Qe0, rd_M, rdM_some, h1]
      refine hT.out.mono ?_
      rintro v hq ⟨rfl, hz⟩
      obtain rfl := hz.symm
      simp -dsimp -implicitDefEqProofs (disch := first | omega | assumption | (simp only [Option.isSome_some, Qt0]; done) | (simp only [UInt64.reduceToNat, UInt32.reduceToNat, UInt8.reduceToNat, List.length_cons, List.length_nil, List.length_append, Int.toNat_natCast] <;> omega) | fail) only [Nat.reduceLT, Nat.reduceLeDiff, Nat.reduceEqDiff, ↓reduceIte, Int.reduceLT, Int.reduceLE, Int.reduceToNat, Int.reduceEq, Int.reduceNe, Nat.reduceAdd, UInt8.reduceOfNat, UInt16.reduceOfNat, UInt32.reduceOfNat, UInt64.reduceOfNat, UInt64.reduceToNat, UInt32.reduceToNat, UInt16.reduceToNat, UInt8.reduceToNat, Int.reduceAdd, Int.reduceSub, Int.reduceMul, Nat.reduceMul, Qp0, Qp1, Ql0, Qe0]
      refine hN.out.mono ?_
      intro u h' how
      rw [List.nil_append] at how
      simp -dsimp -implicitDefEqProofs (disch := first | omega | assumption | (simp only [Option.isSome_some, Qt0]; done) | (simp only [UInt64.reduceToNat, UInt32.reduceToNat, UInt8.reduceToNat, List.length_cons, List.length_nil, List.length_append, Int.toNat_natCast] <;> omega) | fail) only [Nat.reduceLT, Nat.reduceLeDiff, Nat.reduceEqDiff, ↓reduceIte, Int.reduceLT, Int.reduceLE, Int.reduceToNat, Int.reduceEq, Int.reduceNe, Nat.reduceAdd, UInt8.reduceOfNat, UInt16.reduceOfNat, UInt32.reduceOfNat, UInt64.reduceOfNat, UInt64.reduceToNat, UInt32.reduceToNat, UInt16.reduceToNat, UInt8.reduceToNat, Int.reduceAdd, Int.reduceSub, Int.reduceMul, Nat.reduceMul, Qp0, Qp1, Ql0, Qe0]
      refine PW_loopL (fun n f h' => ∃ (i : Nat) (u : Value), n + i = v.length ∧ f 0 = some (.pointer (some ⟨ob, 0, none⟩)) ∧ f 4 = some u ∧ f 24 = some (.slice A v.length c) ∧ f 25 = some (.int .i64 v.length) ∧ f 26 = some (.int .i64 i) ∧ OwnS h h' 1 u (numB v.length ++ (v.take i).flatMap fun n => numB n.toNat).length (bs (numB v.length ++ (v.take i).flatMap fun n => numB n.toNat))) (by kernel_rfl) v.length ⟨0, _, by omega, ?_, ?_, ?_, ?_, ?_, by simpa using how⟩ ?_
      · simp -dsimp -implicitDefEqProofs (disch := first | omega | assumption | (simp only [Option.isSome_some, Qt0]; done) | (simp only [UInt64.reduceToNat, UInt32.reduceToNat, UInt8.reduceToNat, List.length_cons, List.length_nil, List.length_append, Int.toNat_natCast] <;> omega) | fail) only [Nat.reduceLT, Nat.reduceLeDiff, Nat.reduceEqDiff, ↓reduceIte, Int.reduceLT, Int.reduceLE, Int.reduceToNat, Int.reduceEq, Int.reduceNe, Nat.reduceAdd, UInt8.reduceOfNat, UInt16.reduceOfNat, UInt32.reduceOfNat, UInt64.reduceOfNat, UInt64.reduceToNat, UInt32.reduceToNat, UInt16.reduceToNat, UInt8.reduceToNat, Int.reduceAdd, Int.reduceSub, Int.reduceMul, Nat.reduceMul, Qp0, Qp1, Ql0, Qe0]
      · simp -dsimp -implicitDefEqProofs (disch := first | omega | assumption | (simp only [Option.isSome_some, Qt0]; done) | (simp only [UInt64.reduceToNat, UInt32.reduceToNat, UInt8.reduceToNat, List.length_cons, List.length_nil, List.length_append, Int.toNat_natCast] <;> omega) | fail) only [Nat.reduceLT, Nat.reduceLeDiff, Nat.reduceEqDiff, ↓reduceIte, Int.reduceLT, Int.reduceLE, Int.reduceToNat, Int.reduceEq, Int.reduceNe, Nat.reduceAdd, UInt8.reduceOfNat, UInt16.reduceOfNat, UInt32.reduceOfNat, UInt64.reduceOfNat, UInt64.reduceToNat, UInt32.reduceToNat, UInt16.reduceToNat, UInt8.reduceToNat, Int.reduceAdd, Int.reduceSub, Int.reduceMul, Nat.reduceMul, Qp0, Qp1, Ql0, Qe0]
      · simp -dsimp -implicitDefEqProofs (disch := first | omega | assumption | (simp only [Option.isSome_some, Qt0]; done) | (simp only [UInt64.reduceToNat, UInt32.reduceToNat, UInt8.reduceToNat, List.length_cons, List.length_nil, List.length_append, Int.toNat_natCast] <;> omega) | fail) only [Nat.reduceLT, Nat.reduceLeDiff, Nat.reduceEqDiff, ↓reduceIte, Int.reduceLT, Int.reduceLE, Int.reduceToNat, Int.reduceEq, Int.reduceNe, Nat.reduceAdd, UInt8.reduceOfNat, UInt16.reduceOfNat, UInt32.reduceOfNat, UInt64.reduceOfNat, UInt64.reduceToNat, UInt32.reduceToNat, UInt16.reduceToNat, UInt8.reduceToNat, Int.reduceAdd, Int.reduceSub, Int.reduceMul, Nat.reduceMul, Qp0, Qp1, Ql0, Qe0]
      · simp -dsimp -implicitDefEqProofs (disch := first | omega | assumption | (simp only [Option.isSome_some, Qt0]; done) | (simp only [UInt64.reduceToNat, UInt32.reduceToNat, UInt8.reduceToNat, List.length_cons, List.length_nil, List.length_append, Int.toNat_natCast] <;> omega) | fail) only [Nat.reduceLT, Nat.reduceLeDiff, Nat.reduceEqDiff, ↓reduceIte, Int.reduceLT, Int.reduceLE, Int.reduceToNat, Int.reduceEq, Int.reduceNe, Nat.reduceAdd, UInt8.reduceOfNat, UInt16.reduceOfNat, UInt32.reduceOfNat, UInt64.reduceOfNat, UInt64.reduceToNat, UInt32.reduceToNat, UInt16.reduceToNat, UInt8.reduceToNat, Int.reduceAdd, Int.reduceSub, Int.reduceMul, Nat.reduceMul, Qp0, Qp1, Ql0, Qe0]
      · simp -dsimp -implicitDefEqProofs (disch := first | omega | assumption | (simp only [Option.isSome_some, Qt0]; done) | (simp only [UInt64.reduceToNat, UInt32.reduceToNat, UInt8.reduceToNat, List.length_cons, List.length_nil, List.length_append, Int.toNat_natCast] <;> omega) | fail) only [Nat.reduceLT, Nat.reduceLeDiff, Nat.reduceEqDiff, ↓reduceIte, Int.reduceLT, Int.reduceLE, Int.reduceToNat, Int.reduceEq, Int.reduceNe, Nat.reduceAdd, UInt8.reduceOfNat, UInt16.reduceOfNat, UInt32.reduceOfNat, UInt64.reduceOfNat, UInt64.reduceToNat, UInt32.reduceToNat, UInt16.reduceToNat, UInt8.reduceToNat, Int.reduceAdd, Int.reduceSub, Int.reduceMul, Nat.reduceMul, Qp0, Qp1, Ql0, Qe0]
        try rfl
      clear how
      rintro n f h' ⟨i, u, hni, f0, f4, f24, f25, f26, how⟩ hl'
      have hlen : (numB v.length ++ (v.take i).flatMap fun n => numB n.toNat).length ≤ 1000 := by
        have h5 := numB_len9 (n := v.length) (by omega)
        have h6 := flat_len_le (v.take i) (fun n hn => by have := trim_all ht n (List.mem_of_mem_take hn); omega)
        simp only [List.length_append]
        simp only [List.length_take] at h6
        omega
      by_cases hi : i < v.length
      · have e2 : decide ((i : Int) < (v.length : Int)) = true := decide_eq_true (by omega)
        have hb := hall.2.2 i hi
        have hN := number_any h u _ (v.getD i 0).toNat (by omega) w0 h' how (by omega)
        rw [show (((v.getD i 0).toNat : Nat) : Int) = v.getD i 0 by omega, List.append_assoc, ← vecB_take v i hi] at hN
        have hN := Lib.hid hN
        obtain ⟨b, o, rfl⟩ := hr.addr (by simp; omega)
        have hg := (hr.more how.le).get hl' (j := i) (u := .int .i64 (v.getD i 0)) (by rw [List.getElem?_map, List.getD, List.getElem?_eq_getElem hi]; rfl)
        simp -dsimp -implicitDefEqProofs (disch := first | omega | assumption | (simp only [Option.isSome_some, Qt0]; done) | (simp only [UInt64.reduceToNat, UInt32.reduceToNat, UInt8.reduceToNat, List.length_cons, List.length_nil, List.length_append, Int.toNat_natCast] <;> omega) | fail) only [Nat.reduceLT, Nat.reduceLeDiff, Nat.reduceEqDiff, ↓reduceIte, Int.reduceLT, Int.reduceLE, Int.reduceToNat, Int.reduceEq, Int.reduceNe, Nat.reduceAdd, UInt8.reduceOfNat, UInt16.reduceOfNat, UInt32.reduceOfNat, UInt64.reduceOfNat, UInt64.reduceToNat, UInt32.reduceToNat, UInt16.reduceToNat, UInt8.reduceToNat, Int.reduceAdd, Int.reduceSub, Int.reduceMul, Nat.reduceMul, Qp0, Qp1, Ql0, Qe0, f0, f4, f24, f25, f26, e2, rd_M, hg]
        refine hN.out.mono ?_
        intro u2 h2 how2
        simp -dsimp -implicitDefEqProofs (disch := first | omega | assumption | (simp only [Option.isSome_some, Qt0]; done) | (simp only [UInt64.reduceToNat, UInt32.reduceToNat, UInt8.reduceToNat, List.length_cons, List.length_nil, List.length_append, Int.toNat_natCast] <;> omega) | fail) only [Nat.reduceLT, Nat.reduceLeDiff, Nat.reduceEqDiff, ↓reduceIte, Int.reduceLT, Int.reduceLE, Int.reduceToNat, Int.reduceEq, Int.reduceNe, Nat.reduceAdd, UInt8.reduceOfNat, UInt16.reduceOfNat, UInt32.reduceOfNat, UInt64.reduceOfNat, UInt64.reduceToNat, UInt32.reduceToNat, UInt16.reduceToNat, UInt8.reduceToNat, Int.reduceAdd, Int.reduceSub, Int.reduceMul, Nat.reduceMul, Qp0, Qp1, Ql0, Qe0, f0, f4, f24, f25, f26]
        exact ⟨n - 1, _, by omega, PH.Le.refl _, i + 1, _, by omega, by trivial, by trivial, by trivial, by trivial, by simp, how2⟩
      · obtain rfl : i = v.length := by omega
        have e2 : decide ((v.length : Int) < (v.length : Int)) = false := decide_eq_false (by omega)
        rw [List.take_length] at how hlen
        obtain ⟨A', c', rfl, hc'⟩ := how.own.len
        have hP := Lib.hid (put_any h0 ob s w0 h' (hs.more how.le) A' c' (vecB v) (by unfold vecB; omega) (Rs.own how.own))
        unfold vecB at hP
        simp -dsimp -implicitDefEqProofs (disch := first | omega | assumption | (simp only [Option.isSome_some, Qt0]; done) | (simp only [UInt64.reduceToNat, UInt32.reduceToNat, UInt8.reduceToNat, List.length_cons, List.length_nil, List.length_append, Int.toNat_natCast] <;> omega) | fail) only [Nat.reduceLT, Nat.reduceLeDiff, Nat.reduceEqDiff, ↓reduceIte, Int.reduceLT, Int.reduceLE, Int.reduceToNat, Int.reduceEq, Int.reduceNe, Nat.reduceAdd, UInt8.reduceOfNat, UInt16.reduceOfNat, UInt32.reduceOfNat, UInt64.reduceOfNat, UInt64.reduceToNat, UInt32.reduceToNat, UInt16.reduceToNat, UInt8.reduceToNat, Int.reduceAdd, Int.reduceSub, Int.reduceMul, Nat.reduceMul, Qp0, Qp1, Ql0, Qe0, f0, f4, f24, f25, f26, e2]
        refine hP.out.mono ?_
        intro u2 h2 hv2
        simp -dsimp -implicitDefEqProofs (disch := first | omega | assumption | (simp only [Option.isSome_some, Qt0]; done) | (simp only [UInt64.reduceToNat, UInt32.reduceToNat, UInt8.reduceToNat, List.length_cons, List.length_nil, List.length_append, Int.toNat_natCast] <;> omega) | fail) only [Nat.reduceLT, Nat.reduceLeDiff, Nat.reduceEqDiff, ↓reduceIte, Int.reduceLT, Int.reduceLE, Int.reduceToNat, Int.reduceEq, Int.reduceNe, Nat.reduceAdd, UInt8.reduceOfNat, UInt16.reduceOfNat, UInt32.reduceOfNat, UInt64.reduceOfNat, UInt64.reduceToNat, UInt32.reduceToNat, UInt16.reduceToNat, UInt8.reduceToNat, Int.reduceAdd, Int.reduceSub, Int.reduceMul, Nat.reduceMul, Qp0, Qp1, Ql0, Qe0]
        exact ⟨_, PH.Le.refl _, hv2⟩
/-- What Done tells. -/
def DE (h : PH) : WS → Value → Prop
  | (l, none), v => v = .tuple #[str l, .nilIface]
  | (_, some (k, p)), v => ∃ be, v = .tuple #[str [], errV be] ∧ h.m be = some ⟨[str wireT, .int .i64 p, codeV k], 3⟩
set_option maxRecDepth 20000 in
set_option maxHeartbeats 1000000 in
theorem done_any (hs : OS h0 h ob s) : PCalls Try.prog w0 24 [.pointer (some ⟨ob, 0, none⟩)] h fun r h' => DE h s r ∧ h' = h := by
  refine PCalls_body Try.func24 (by kernel_rfl) rfl _ Try.ntmps24 (by kernel_rfl) (by kernel_rfl) _ Try.results24 ?_
  obtain ⟨A, c, ev, h1, h2, h3, h4⟩ := hs.cells
  obtain ⟨l, e⟩ := s
  cases e with
  | some p =>
    obtain ⟨k, p⟩ := p
    obtain ⟨be, rfl, h5, h6, h7⟩ := h4
    unfold errV at *
    simp -dsimp -implicitDefEqProofs (disch := first | omega | assumption | (simp only [Option.isSome_some, Qt0]; done) | (simp only [UInt64.reduceToNat, UInt32.reduceToNat, UInt8.reduceToNat, List.length_cons, List.length_nil, List.length_append, Int.toNat_natCast] <;> omega) | fail) only [Nat.reduceLT, Nat.reduceLeDiff, Nat.reduceEqDiff, ↓reduceIte, Int.reduceLT, Int.reduceLE, Int.reduceToNat, Int.reduceEq, Int.reduceNe, Nat.reduceAdd, UInt8.reduceOfNat, UInt16.reduceOfNat, UInt32.reduceOfNat, UInt64.reduceOfNat, UInt64.reduceToNat, UInt32.reduceToNat, UInt16.reduceToNat, UInt8.reduceToNat, Int.reduceAdd, Int.reduceSub, Int.reduceMul, Nat.reduceMul, Qp0, Qp1, Ql0, Qe0, rd_M, rdM_some, h1]
    refine PW_drawn 6 _ (by kernel_rfl) (by kernel_rfl) (by kernel_rfl) (by kernel_rfl) (by kernel_rfl) (fun c f h hq => by simp only [thenC_panic, thenK_panic, inBlk_panic, thenN_panic, vcRet_panic] at hq) (PH.Le.refl _).sub ?_
    simp -dsimp -implicitDefEqProofs (disch := first | omega | assumption | (simp only [Option.isSome_some, Qt0]; done) | (simp only [UInt64.reduceToNat, UInt32.reduceToNat, UInt8.reduceToNat, List.length_cons, List.length_nil, List.length_append, Int.toNat_natCast] <;> omega) | fail) only [Nat.reduceLT, Nat.reduceLeDiff, Nat.reduceEqDiff, ↓reduceIte, Int.reduceLT, Int.reduceLE, Int.reduceToNat, Int.reduceEq, Int.reduceNe, Nat.reduceAdd, UInt8.reduceOfNat, UInt16.reduceOfNat, UInt32.reduceOfNat, UInt64.reduceOfNat, UInt64.reduceToNat, UInt32.reduceToNat, UInt16.reduceToNat, UInt8.reduceToNat, Int.reduceAdd, Int.reduceSub, Int.reduceMul, Nat.reduceMul, Qp0, Qp1, Ql0, Qe0, rd_M, rdM_some, h1]
    exact ⟨_, PH.Le.refl _, ⟨be, rfl, h5⟩, rfl⟩
  | none =>
    obtain rfl : ev = .nilIface := h4
    simp only at h1 h2
    simp -dsimp -implicitDefEqProofs (disch := first | omega | assumption | (simp only [Option.isSome_some, Qt0]; done) | (simp only [UInt64.reduceToNat, UInt32.reduceToNat, UInt8.reduceToNat, List.length_cons, List.length_nil, List.length_append, Int.toNat_natCast] <;> omega) | fail) only [Nat.reduceLT, Nat.reduceLeDiff, Nat.reduceEqDiff, ↓reduceIte, Int.reduceLT, Int.reduceLE, Int.reduceToNat, Int.reduceEq, Int.reduceNe, Nat.reduceAdd, UInt8.reduceOfNat, UInt16.reduceOfNat, UInt32.reduceOfNat, UInt64.reduceOfNat, UInt64.reduceToNat, UInt32.reduceToNat, UInt16.reduceToNat, UInt8.reduceToNat, Int.reduceAdd, Int.reduceSub, Int.reduceMul, Nat.reduceMul, Qp0, Qp1, Ql0, Qe0, rd_M, rdM_some, h1]
    refine vtext_own Try.underlying57 Try.underlying5 Try.underlying9 (Rs.own h2) h2.nil_zero ?_
    simp -dsimp -implicitDefEqProofs (disch := first | omega | assumption | (simp only [Option.isSome_some, Qt0]; done) | (simp only [UInt64.reduceToNat, UInt32.reduceToNat, UInt8.reduceToNat, List.length_cons, List.length_nil, List.length_append, Int.toNat_natCast] <;> omega) | fail) only [Nat.reduceLT, Nat.reduceLeDiff, Nat.reduceEqDiff, ↓reduceIte, Int.reduceLT, Int.reduceLE, Int.reduceToNat, Int.reduceEq, Int.reduceNe, Nat.reduceAdd, UInt8.reduceOfNat, UInt16.reduceOfNat, UInt32.reduceOfNat, UInt64.reduceOfNat, UInt64.reduceToNat, UInt32.reduceToNat, UInt16.reduceToNat, UInt8.reduceToNat, Int.reduceAdd, Int.reduceSub, Int.reduceMul, Nat.reduceMul, Qp0, Qp1, Ql0, Qe0]
    exact ⟨_, PH.Le.refl _, by rfl, rfl⟩
end
end Go.Proofs.Ytdhgmifgjaedbaa

