/- Parts Ea, U8, Ph, WrL, Wr1, Wr2, Wr3, joined. No condition. -/
import Derived.Test.YtblikpbaeippaaaM3K
import Derived.Test.YtblikpbaeippaaaM2K
import Derived.Test.YtblikpbaeippaaaM0K
namespace Go.Proofs.Ytblikpbaeippaaa
set_option linter.unusedVariables false
set_option linter.unusedSimpArgs false
open Go.RowKit Px
inductive Er where
  | code (k : Int)
  | wrap (s : List UInt8) (a : Int) (e : Er)
def Er.num : Er → Int
  | .code k => k
  | .wrap _ _ e => e.num
def Er.deep : Er → Nat
  | .code _ => 0
  | .wrap _ _ e => e.deep + 1
def codeV (k : Int) : Value := .iface 44 (.int .i64 k)
def errV (b : Nat) : Value := .iface 94 (.pointer (some ⟨b, 0, none⟩))
def EV (h : PH) : Er → Value → Prop
  | .code k, v => v = codeV k
  | .wrap s a e, v => ∃ b u, v = errV b ∧ h.m b = some ⟨[str s, .int .i64 a, u], 3⟩ ∧ EV h e u
theorem EV.more {h h' : PH} (l : PH.Le h h') : ∀ {e : Er} {v : Value}, EV h e v → EV h' e v
  | .code _, _, hv => hv
  | .wrap _ _ _, _, ⟨b, u, h1, h2, h3⟩ => ⟨b, u, h1, l.m _ _ h2, EV.more l h3⟩
theorem EV.held {h : PH} : ∀ {e : Er} {v : Value}, EV h e v → ∃ t x, v = .iface t x
  | .code k, _, hv => ⟨_, _, hv⟩
  | .wrap _ _ _, _, ⟨b, u, h1, h2, h3⟩ => ⟨_, _, h1⟩
theorem EV.at {h : PH} {s : List UInt8} {a : Int} {e : Er} {v : Value} (hv : EV h e v) {b : Nat} (hb : h.top ≤ b) : EV (h.new b ⟨[str s, .int .i64 a, v], 3⟩) (.wrap s a e) (errV b) :=
  ⟨b, v, rfl, by rw [PH.new_m, if_pos rfl], hv.more ((PH.Le.refl h).new _ _ hb)⟩
set_option maxRecDepth 20000 in
theorem zCq (s : List UInt8) (a : Int) (t : TypeId) (x : Value) (w0 : World) (h : PH) : PCalls Try.prog w0 25 [str s, .int .i64 a, .iface t x] h fun r h' => ∃ b, r = errV b ∧ h.top ≤ b ∧ h' = h.new b ⟨[str s, .int .i64 a, .iface t x], 3⟩ := by
  refine zAp Try.func25 (by kernel_rfl) rfl _ Try.ntmps25 (by kernel_rfl) (by kernel_rfl) _ Try.results25 ?_
  simp -dsimp -implicitDefEqProofs (disch := first | omega | assumption | (simp only [Option.isSome_some,Qt0]; done) | (simp only [List.length_cons,List.length_nil,List.length_append,Int.toNat_natCast] <;> omega) | fail) only [Nat.reduceLT,Nat.reduceLeDiff,Nat.reduceEqDiff,↓reduceIte,Int.reduceLT,Int.reduceLE,Int.reduceToNat,Int.reduceEq,Int.reduceNe,Nat.reduceAdd,Int.reduceAdd,Int.reduceSub,Int.reduceMul,Nat.reduceMul,Qp0,Qp1,Ql0,Qe0]
  refine fun b hb => ?_
  simp -dsimp -implicitDefEqProofs (disch := first | omega | assumption | (simp only [Option.isSome_some,Qt0]; done) | (simp only [List.length_cons,List.length_nil,List.length_append,Int.toNat_natCast] <;> omega) | fail) only [Nat.reduceLT,Nat.reduceLeDiff,Nat.reduceEqDiff,↓reduceIte,Int.reduceLT,Int.reduceLE,Int.reduceToNat,Int.reduceEq,Int.reduceNe,Nat.reduceAdd,Int.reduceAdd,Int.reduceSub,Int.reduceMul,Nat.reduceMul,Qp0,Qp1,Ql0,Qe0]
  exact ⟨_, PH.Le.refl _, b, rfl, hb, rfl⟩
theorem at_ev (s : List UInt8) (a : Int) (e : Er) (v : Value) (w0 : World) (h : PH) (hv : EV h e v) : PCalls Try.prog w0 25 [str s, .int .i64 a, v] h fun r h' => ∃ b, r = errV b ∧ h.top ≤ b ∧ h' = h.new b ⟨[str s, .int .i64 a, v], 3⟩ := by
  obtain ⟨t, x, rfl⟩ := hv.held
  exact zCq s a t x w0 h
end Go.Proofs.Ytblikpbaeippaaa


namespace Go.Proofs.Ytblikpbaeippaaa
set_option linter.unusedVariables false
set_option linter.unusedSimpArgs false
open Go.RowKit Px
theorem info_u8 : (Try.prog.info? 5).map (fun i => (i.zero, i.size, i.bytes)) = some (some (.int .u8 0), 1, 1) := by kernel_rfl
theorem zA8 : El Try.prog 77 5 (.int .u8 0) 1 1 := ⟨Try.underlying77, info_parts info_u8, rfl, by decide⟩
end Go.Proofs.Ytblikpbaeippaaa


namespace Go.Proofs.Ytblikpbaeippaaa.Px
set_option linter.unusedVariables false
set_option linter.unusedSimpArgs false
open Go.RowKit
def Low (w0 : World) (h : PH) : Prop := ∀ b, b < w0.heap.size → h.m b = none
section
variable {P : Program} {w0 : World} {h : PH} {g : FuncId} {args : List Value} {R : Value → PH → Prop}
theorem zBy {w : World} (s : Sim w0 h w) : Low w0 h := fun b hb => by
  cases hm : h.m b with
  | none => rfl
  | some k => have := (s.sat b k hm).1; omega
theorem Does_low {m : Sem Value} {K : Value → PH → Prop} (hd : Does P w0 h m (fun v h' => Low w0 h' → K v h')) : Does P w0 h m K := fun w s => by
  obtain ⟨v, w', h', e, k, s'⟩ := hd w s
  exact ⟨v, w', h', e, k (zBy s'), s'⟩
theorem PCalls_low (hc : Low w0 h → PCalls P w0 g args h R) : PCalls P w0 g args h R := fun w s => hc (zBy s) w s
theorem PCalls.lowR (hc : PCalls P w0 g args h R) : PCalls P w0 g args h fun v h' => R v h' ∧ Low w0 h' := by
  intro w s
  rcases hc w s with ⟨h1, h2⟩ | ⟨v, w', h', h1, h2, h3⟩
  · exact .inl ⟨h1, h2.mono fun e w' ⟨v, h', e1, e2, e3⟩ => ⟨v, h', e1, ⟨e2, zBy e3⟩, e3⟩⟩
  · exact .inr ⟨v, w', h', h1, ⟨h2, zBy h3⟩, h3⟩
theorem PCalls.and {R' : Value → PH → Prop} (hc : PCalls P w0 g args h R) (hr : ∀ v h', R v h' → Low w0 h' → R' v h') : PCalls P w0 g args h R' := hc.lowR.mono fun v h' ⟨a, b⟩ => hr v h' a b
theorem zB3 {N : Nat} {f : Fr} {c : Code} {Q : Exit → Fr → PH → Prop} (I : Nat → Fr → PH → Prop) (hok : codeOk N c = true) (n : Nat) (h0 : I n f h)
    (round : ∀ n f h, I n f h → Low w0 h → vcC P w0 N c f h (thenK (fun f' h' => ∃ m h2, m < n ∧ PH.Le h2 h' ∧ I m f' h2) Q)) : PW P w0 N (.loop c) f h Q := by
  intro a w fs s
  refine wp_loop_rounds (n + 1) ?_
  have key : ∀ n f h a w, I n f h → FSat f a N → Sim w0 h w → Code.rounds P c (fun e a' w' => ∃ f' h', Q e f' h' ∧ FSat f' a' N ∧ Sim w0 h' w') (n + 1) a w := by
    intro n
    induction n using Nat.strongRecOn with
    | _ n ih =>
      intro f h a w hI fs s
      rw [rounds_succ]
      refine wp_mono (zBv hok (round n f h hI (zBy s)) a w fs s) ?_
      rintro e a' w' ⟨f', h', q, fs', s'⟩
      cases e
      case normal =>
        obtain ⟨m, h2, hm, hl, hI'⟩ := q
        exact zFe (by omega) a' w' (ih m hm f' h2 a' w' hI' fs' (s'.weak hl))
      all_goals exact ⟨f', h', q, fs', s'⟩
  exact key n f h a w h0 fs s
end
structure Chg (F : Nat → Prop) (h h' : PH) : Prop where
  top : h.top ≤ h'.top
  m : ∀ x k, h.m x = some k → ¬ F x → h'.m x = some k
section
variable {F G : Nat → Prop} {h h' h'' : PH}
theorem Chg.refl (F : Nat → Prop) (h : PH) : Chg F h h := ⟨Nat.le_refl _, fun _ _ e _ => e⟩
theorem Chg.trans (a : Chg F h h') (b : Chg F h' h'') : Chg F h h'' := ⟨Nat.le_trans a.top b.top, fun x k e n => b.m x k (a.m x k e n) n⟩
theorem Chg.le (l : PH.Le h h') : Chg F h h' := ⟨l.top, fun x k e _ => l.m x k e⟩
theorem Chg.mono (a : Chg F h h') (i : ∀ x, x < h.top → F x → G x) : Chg G h h' := ⟨a.top, fun x k e n => a.m x k e fun f => n (i x (h.lt _ _ e) f)⟩
theorem Chg.new (a : Chg F h h') {b : Nat} (hb : h.top ≤ b) (k : Bk) : Chg F h (h'.new b k) :=
  ⟨by have := a.top; simp only [PH.new_top]; omega, fun x k' e n => by rw [PH.new_m, if_neg (by have := h.lt _ _ e; omega)]; exact a.m x k' e n⟩
theorem Chg.put (a : Chg F h h') {b : Nat} (hb : F b) (k : Bk) : Chg F h (h'.new b k) :=
  ⟨by have := a.top; simp only [PH.new_top]; omega, fun x k' e n => by rw [PH.new_m, if_neg (fun e' => n (by rw [e']; exact hb))]; exact a.m x k' e n⟩
theorem Chg.one {b : Nat} (a : Chg (· = b) h h') (k : Bk) : Chg (· = b) h (h'.new b k) := Chg.put (F := (· = b)) a rfl k
theorem Chg.toLe (a : Chg F h h') (i : ∀ x, F x → h.top ≤ x) : PH.Le h h' := ⟨a.top, fun x k e => a.m x k e fun f => by have := i x f; have := h.lt _ _ e; omega⟩
end
theorem Own.more {h h' : PH} {sz n : Nat} {v : Value} {xs : List Value} (o : Own h sz v n xs) (l : PH.Le h h') : Own h' sz v n xs :=
  ⟨o.1, o.2.imp id fun ⟨b, c, h1, h2, h3, h4⟩ => ⟨b, c, h1, h2, h3, l.m _ _ h4⟩⟩
theorem Own.put {h : PH} {sz n : Nat} {v : Value} {xs : List Value} (o : Own h sz v n xs) {b : Nat} (hb : v.ownBlock ≠ some b) (k : Bk) : Own (h.new b k) sz v n xs :=
  ⟨o.1, o.2.imp id fun ⟨x, c, h1, h2, h3, h4⟩ => ⟨x, c, h1, h2, h3, by rw [PH.new_m, if_neg (fun e => hb (by rw [h1, ← e]; rfl))]; exact h4⟩⟩
theorem Own.A {h : PH} {sz n c : Nat} {A : Option Addr} {xs : List Value} (o : Own h sz (.slice A n c) n xs) : ∀ a, A = some a → (Value.slice A n c).ownBlock = some a.block := fun a e => by subst e; rfl
theorem Own.chg {F : Nat → Prop} {h h' : PH} {sz n : Nat} {v : Value} {xs : List Value} (o : Own h sz v n xs) (c : Chg F h h') (hF : ∀ x, v.ownBlock = some x → ¬ F x) : Own h' sz v n xs :=
  ⟨o.1, o.2.imp id fun ⟨b, k, h1, h2, h3, h4⟩ => ⟨b, k, h1, h2, h3, c.m _ _ h4 (hF b (by rw [h1]; rfl))⟩⟩
theorem Chg.stays {F : Nat → Prop} {h0 h h' : PH} {v v' : Value} (c : Chg F h0 h) (s : Stays h h' v v') (hv : ∀ x, v.ownBlock = some x → h0.top ≤ x) : Chg F h0 h' :=
  ⟨Nat.le_trans c.top s.top, fun x k e n => s.keep x k (c.m x k e n) fun e' => by have := hv x e'; have := h0.lt _ _ e; omega⟩
structure OwnC (F : Nat → Prop) (h0 h : PH) (sz : Nat) (v : Value) (n : Nat) (xs : List Value) : Prop where
  chg : Chg F h0 h
  own : Own h sz v n xs
  new : ∀ x, v.ownBlock = some x → h0.top ≤ x
section
variable {F : Nat → Prop} {h0 h h' : PH} {sz n m : Nat} {v v' : Value} {xs ys : List Value}
theorem OwnC.nil (c : Chg F h0 h) (sz : Nat) : OwnC F h0 h sz (.slice none 0 0) 0 [] := ⟨c, Own.nil h sz, fun x e => by cases e⟩
theorem OwnC.zero (c : Chg F h0 h) (sz : Nat) {b : Nat} (hb : h.top ≤ b) : OwnC F h0 (h.new b ⟨[], 0⟩) sz (.slice (some ⟨b, 0, none⟩) 0 0) 0 [] :=
  ⟨c.new (Nat.le_trans c.top hb) _, (OwnS.zero sz hb).own, fun x e => by cases e; exact Nat.le_trans c.top hb⟩
theorem OwnC.stays (o : OwnC F h0 h sz v n xs) (s : Stays h h' v v') (o' : Own h' sz v' m ys) : OwnC F h0 h' sz v' m ys :=
  ⟨o.chg.stays s o.new, o', fun x e => (s.fresh x e).elim (o.new x) fun g => Nat.le_trans o.chg.top g⟩
theorem OwnC.more (o : OwnC F h0 h sz v n xs) (l : PH.Le h h') : OwnC F h0 h' sz v n xs := ⟨o.chg.trans (.le l), o.own.more l, o.new⟩
end
def Rv (w0 : World) (h : PH) (A : Option Addr) (xs : List Value) : Prop :=
  ∀ j u, xs[j]? = some u → ∃ b o, A = some ⟨b, o, none⟩ ∧ ((∃ k, h.m b = some k ∧ k.xs[o + j]? = some u) ∨ (b < w0.heap.size ∧ rdM w0 none b (o + j) = some u))
section
variable {w0 : World} {h h' : PH} {A : Option Addr} {xs : List Value}
theorem Rv.nil (w0 : World) (h : PH) (A : Option Addr) : Rv w0 h A [] := fun j u e => by simp at e
theorem Rv.chg {F : Nat → Prop} (r : Rv w0 h A xs) (c : Chg F h h') (hF : ∀ a, A = some a → ¬ F a.block) : Rv w0 h' A xs := fun j u e => by
  obtain ⟨b, o, rfl, h1⟩ := r j u e
  refine ⟨b, o, rfl, ?_⟩
  rcases h1 with ⟨k, h1, h2⟩ | h1
  · exact .inl ⟨k, c.m b k h1 (hF _ rfl), h2⟩
  · exact .inr h1
theorem Rv.more (r : Rv w0 h A xs) (l : PH.Le h h') : Rv w0 h' A xs := r.chg (F := fun _ => False) (.le l) fun _ _ => id
theorem Rv.addr (r : Rv w0 h A xs) (hn : 0 < xs.length) : ∃ b o, A = some ⟨b, o, none⟩ := by
  obtain ⟨b, o, e, _⟩ := r 0 _ (List.getElem?_eq_getElem hn)
  exact ⟨b, o, e⟩
theorem Rv.get {b o : Nat} (r : Rv w0 h (some ⟨b, o, none⟩) xs) (hl : Low w0 h) {j : Nat} {u : Value} (e : xs[j]? = some u) : rdM w0 (h.m b) b (o + j) = some u := by
  obtain ⟨b', o', h1, h2⟩ := r j u e
  injection h1 with h1
  injection h1 with h1 h3
  subst h1; subst h3
  rcases h2 with ⟨k, h2, h4⟩ | ⟨h2, h4⟩
  · rw [h2]; exact h4
  · rw [hl b h2]; exact h4
theorem Rv.own {sz n c : Nat} (o : Own h sz (.slice A n c) n xs) : Rv w0 h A xs := fun j u e => by
  rcases o.2 with ⟨h1, h2⟩ | ⟨b, c', h1, h2, _, h3⟩
  · have := o.1
    have h4 := (List.getElem?_eq_some_iff.1 e).1
    rw [h2, Nat.zero_mul] at this; omega
  · injection h1 with h1
    subst h1
    exact ⟨b, 0, rfl, .inl ⟨_, h3, by rw [Nat.zero_add]; exact e⟩⟩
theorem mapM_get {α β : Type} {f : α → Option β} : ∀ {l : List α} {r : List β}, l.length = r.length → (∀ (j : Nat) (x : α) (y : β), l[j]? = some x → r[j]? = some y → f x = some y) → l.mapM f = some r
  | [], [], _, _ => rfl
  | x :: l, y :: r, hl, h => by
    rw [List.mapM_cons, h 0 x y rfl rfl, mapM_get (by simpa using hl) fun j a b ha hb => h (j + 1) a b (by simpa using ha) (by simpa using hb)]
    rfl
theorem Rv.rdN {b o n : Nat} (r : Rv w0 h (some ⟨b, o, none⟩) xs) (hl : Low w0 h) (hn : xs.length = n) (h0 : 0 < n) : Px.rdN w0 h ⟨b, o, none⟩ n = some xs := by
  unfold Px.rdN
  cases hm : h.m b with
  | some k =>
    have hg : ∀ j u, xs[j]? = some u → k.xs[o + j]? = some u := fun j u e => by have := r.get hl e; rw [hm] at this; exact this
    simp only
    · have h2 := hg (n - 1) _ (List.getElem?_eq_getElem (by omega))
      have h3 := (List.getElem?_eq_some_iff.1 h2).1
      rw [if_pos ⟨trivial, by omega⟩]
      congr 1
      apply List.ext_getElem?
      intro j
      by_cases hj : j < n
      · rw [List.getElem?_take_of_lt hj, List.getElem?_drop, hg j _ (List.getElem?_eq_getElem (by omega)), List.getElem?_eq_getElem]
      · rw [List.getElem?_eq_none (by simp; omega), List.getElem?_eq_none (by omega)]
  | none =>
    refine mapM_get (by simp [hn]) fun j x y hx hy => ?_
    have hj : j < n := by have := (List.getElem?_eq_some_iff.1 hy).1; omega
    rw [List.getElem?_range hj] at hx
    injection hx with hx
    subst hx
    rw [Addr.add_mid, zAa, r.get hl hy]
theorem Rv.rs {sz n : Nat} (r : Rv w0 h A xs) (hl : Low w0 h) (hn : xs.length = n * sz) (h1 : 0 < sz) : Rs w0 h sz A n xs := by
  refine ⟨hn, fun h0 => ?_⟩
  have h2 : 0 < xs.length := by rw [hn]; exact Nat.mul_pos h0 h1
  obtain ⟨b, o, rfl⟩ := r.addr h2
  exact ⟨_, rfl, r.rdN hl hn (Nat.mul_pos h0 h1)⟩
end
/-! A slice literal whose elements have several cells. -/
section
variable {P : Program} {w0 : World} {h : PH} {t e : TypeId}
end
end Go.Proofs.Ytblikpbaeippaaa.Px


namespace Go.Proofs.Ytblikpbaeippaaa.Wr
set_option linter.unusedVariables false
set_option linter.unusedSimpArgs false
def top62 : Nat := 4611686018427387903
def numB (n : Nat) : List UInt8 := if h : n < 128 then [UInt8.ofNat n] else UInt8.ofNat (n % 128 + 128) :: numB (n / 128)
termination_by n
decreasing_by omega
theorem zCn {n : Nat} (h : n < 128) : numB n = [UInt8.ofNat n] := by rw [numB, dif_pos h]
theorem zDl {n : Nat} (h : ¬ n < 128) : numB n = UInt8.ofNat (n % 128 + 128) :: numB (n / 128) := by rw [numB, dif_neg h]
theorem numB_pos (n : Nat) : 0 < (numB n).length := by
  by_cases h : n < 128
  · rw [zCn h]; simp
  · rw [zDl h]; simp
theorem numB_len : ∀ (k n : Nat), n < 128 ^ (k + 1) → (numB n).length ≤ k + 1
  | 0, n, h => by rw [zCn (by simpa using h)]; simp
  | k + 1, n, h => by
    by_cases h1 : n < 128
    · rw [zCn h1]; simp
    · rw [zDl h1]
      have := numB_len k (n / 128) (Nat.div_lt_of_lt_mul (by rw [Nat.pow_succ] at h; omega))
      simp; omega
theorem zBg {n : Nat} (h : n ≤ 9223372036854775807) : (numB n).length ≤ 9 := numB_len 8 n (by simp; omega)
def scan : Nat → Nat → List UInt8 → Option (Nat × List UInt8)
  | _, _, [] => none
  | k, acc, c :: t => if k = 9 then none else if 128 ≤ c.toNat then scan (k + 1) (acc + (c.toNat % 128) * 128 ^ k) t else if c.toNat = 0 ∧ 0 < k then none else some (acc + c.toNat * 128 ^ k, t)
theorem scan_num : ∀ (m n k acc : Nat) (t : List UInt8), n ≤ m → (0 < n ∨ k = 0) → k + (numB n).length ≤ 9 → scan k acc (numB n ++ t) = some (acc + n * 128 ^ k, t) := by
  intro m
  induction m with
  | zero =>
    intro n k acc t hm h0 hk
    obtain rfl : n = 0 := by omega
    obtain rfl : k = 0 := by omega
    rw [zCn (by omega)]
    simp [scan]
  | succ m ih =>
    intro n k acc t hm h0 hk
    by_cases h : n < 128
    · rw [zCn h] at hk ⊢
      have e : (UInt8.ofNat n).toNat = n := by simp; omega
      simp only [List.cons_append, List.nil_append, scan, e]
      rw [if_neg (by simp at hk; omega), if_neg (by omega), if_neg (by omega)]
    · rw [zDl h] at hk ⊢
      have e : (UInt8.ofNat (n % 128 + 128)).toNat = n % 128 + 128 := by simp; omega
      simp only [List.cons_append, scan, e]
      rw [if_neg (by simp at hk; omega), if_pos (by omega), ih (n / 128) (k + 1) _ t (by omega) (by omega) (by simp at hk; omega)]
      congr 2
      have h2 : (n % 128 + 128) % 128 = n % 128 := by omega
      rw [h2, Nat.pow_succ, Nat.add_assoc]
      congr 1
      have h3 : n = 128 * (n / 128) + n % 128 := (Nat.div_add_mod n 128).symm
      conv => rhs; rw [h3, Nat.add_mul]
      rw [Nat.add_comm, Nat.mul_comm (128 ^ k) 128, ← Nat.mul_assoc, Nat.mul_comm (n / 128) 128]
theorem scan_inv : ∀ (t : List UInt8) (k acc m : Nat) (u : List UInt8), k ≤ 9 → scan k acc t = some (m, u) → ∃ n, t = numB n ++ u ∧ m = acc + n * 128 ^ k ∧ k + (numB n).length ≤ 9 ∧ (0 < n ∨ k = 0)
  | [], _, _, _, _, _, h => by simp [scan] at h
  | c :: t, k, acc, m, u, hk, h => by
    rw [scan] at h
    by_cases h9 : k = 9
    · rw [if_pos h9] at h; cases h
    rw [if_neg h9] at h
    have hc := c.toNat_lt
    by_cases h1 : 128 ≤ c.toNat
    · rw [if_pos h1] at h
      obtain ⟨n, h2, h3, h4, h5⟩ := scan_inv t (k + 1) _ m u (by omega) h
      have h6 : 0 < n := by omega
      have h7 : numB (c.toNat % 128 + 128 * n) = c :: numB n := by
        rw [zDl (by omega)]
        congr 1
        · apply UInt8.toNat_inj.1
          simp; omega
        · congr 1; omega
      refine ⟨c.toNat % 128 + 128 * n, by rw [h7, h2]; rfl, ?_, by rw [h7]; simp; omega, by omega⟩
      rw [h3, Nat.pow_succ, Nat.add_assoc, Nat.add_mul]
      congr 2
      rw [Nat.mul_comm (128 ^ k) 128, ← Nat.mul_assoc, Nat.mul_comm n 128]
    · rw [if_neg h1] at h
      by_cases h2 : c.toNat = 0 ∧ 0 < k
      · rw [if_pos h2] at h; cases h
      · rw [if_neg h2] at h
        injection h with h
        injection h with h3 h4
        subst h4
        have h7 : numB c.toNat = [c] := by rw [zCn (by omega)]; simp
        exact ⟨c.toNat, by rw [h7]; rfl, h3.symm, by rw [h7]; simp; omega, by omega⟩
def numP (t : List UInt8) (most : Int) : Option (Nat × List UInt8) := (scan 0 0 t).bind fun p => if most < (p.1 : Int) ∨ top62 < p.1 then none else some p
theorem zD5 {n : Nat} {most : Int} (t : List UInt8) (h : (n : Int) ≤ most) (h2 : n ≤ top62) : numP (numB n ++ t) most = some (n, t) := by
  unfold numP
  have h3 : (numB n).length ≤ 9 := zBg (by unfold top62 at h2; omega)
  rw [scan_num n n 0 0 t (Nat.le_refl _) (.inr rfl) (by omega)]
  simp only [Option.bind_some, Nat.zero_add, Nat.pow_zero, Nat.mul_one]
  rw [if_neg (by omega)]
theorem zDn {n : Nat} {most : Int} {t u : List UInt8} (h : numP t most = some (n, u)) : t = numB n ++ u ∧ (n : Int) ≤ most ∧ n ≤ top62 := by
  unfold numP at h
  obtain ⟨⟨m, v⟩, h1, h2⟩ := Option.bind_eq_some_iff.1 h
  split at h2
  · cases h2
  rename_i h3
  injection h2 with h2
  injection h2 with h4 h5
  subst h4; subst h5
  obtain ⟨n, h6, h7, h8, h9⟩ := scan_inv t 0 0 _ _ (by omega) h1
  simp only [Nat.zero_add, Nat.pow_zero, Nat.mul_one] at h7
  subst h7
  exact ⟨h6, by simp only at h3; omega, by simp only at h3; omega⟩
def txtP (t : List UInt8) (most : Int) : Option (List UInt8 × List UInt8) := (numP t most).bind fun p => if p.2.length < p.1 then none else some (p.2.take p.1, p.2.drop p.1)
theorem txtP_put {s : List UInt8} {most : Int} (t : List UInt8) (h : (s.length : Int) ≤ most) (h2 : s.length ≤ top62) : txtP (numB s.length ++ s ++ t) most = some (s, t) := by
  unfold txtP
  rw [List.append_assoc, zD5 _ h h2]
  simp only [Option.bind_some]
  rw [if_neg (by simp)]
  simp
theorem txtP_inv {s : List UInt8} {most : Int} {t u : List UInt8} (h : txtP t most = some (s, u)) : t = numB s.length ++ s ++ u ∧ (s.length : Int) ≤ most := by
  unfold txtP at h
  obtain ⟨⟨m, v⟩, h1, h2⟩ := Option.bind_eq_some_iff.1 h
  split at h2
  · cases h2
  rename_i h3
  injection h2 with h2
  injection h2 with h4 h5
  simp only at h3 h4 h5
  obtain ⟨h6, h7, _⟩ := zDn h1
  have h8 : s.length = m := by rw [← h4]; simp; omega
  rw [h8, ← h4, ← h5, List.append_assoc, List.take_append_drop]
  exact ⟨h6, h7⟩
inductive St where
  | ok (t : List UInt8)
  | bad (p : Nat)
def St.step {α : Type} (p : List UInt8 → Option (α × List UInt8)) (z : α) (len : Nat) : St → α × St
  | .ok t => match p t with
    | some (a, u) => (a, .ok u)
    | none => (z, .bad (len - t.length))
  | .bad q => (z, .bad q)
end Go.Proofs.Ytblikpbaeippaaa.Wr


namespace Go.Proofs.Ytblikpbaeippaaa
set_option linter.unusedVariables false
set_option linter.unusedSimpArgs false
open Go.RowKit Px Wr
def wireT : List UInt8 := [119, 105, 114, 101]
theorem byte_or (m : Nat) : UInt8.ofInt (m : Int) ||| 128 = UInt8.ofNat (m % 128 + 128) := by
  have h1 : UInt8.ofInt (m : Int) = UInt8.ofNat (m % 128 + 128 * (m / 128 % 2)) := by
    apply UInt8.toNat_inj.1
    simp [UInt8.ofInt]; omega
  rw [h1]
  have h2 : m % 128 < 128 := Nat.mod_lt _ (by omega)
  have h3 : m / 128 % 2 < 2 := Nat.mod_lt _ (by omega)
  generalize m % 128 = a at *
  generalize m / 128 % 2 = b at *
  have key : ∀ a : Fin 128, ∀ b : Fin 2, UInt8.ofNat (a.val + 128 * b.val) ||| 128 = UInt8.ofNat (a.val + 128) := by decide +kernel
  exact key ⟨a, h2⟩ ⟨b, h3⟩
theorem byte_small {m : Nat} (h : m < 128) : UInt8.ofInt (m : Int) = UInt8.ofNat m := by
  apply UInt8.toNat_inj.1
  simp [UInt8.ofInt]; omega
set_option maxRecDepth 20000 in
set_option maxHeartbeats 1000000 in
theorem zGm (h0 : PH) (v : Value) (l : List UInt8) (n : Nat) (hn : n ≤ 9223372036854775807) (w0 : World) (h : PH) (how : OwnS h0 h 1 v l.length (bs l)) (hl : l.length ≤ 1000000) : PCalls Try.prog w0 77 [v, .int .i64 n] h fun r h' => OwnS h0 h' 1 r (l ++ numB n).length (bs (l ++ numB n)) := by
  refine zAp Try.func77 (by kernel_rfl) rfl _ Try.ntmps77 (by kernel_rfl) (by kernel_rfl) _ Try.results77 ?_
  simp -dsimp -implicitDefEqProofs (disch := first | omega | assumption | (simp only [Option.isSome_some,Qt0]; done) | (simp only [UInt64.reduceToNat,UInt32.reduceToNat,UInt8.reduceToNat,List.length_cons,List.length_nil,List.length_append,Int.toNat_natCast] <;> omega) | fail) only [Nat.reduceLT,Nat.reduceLeDiff,Nat.reduceEqDiff,↓reduceIte,Int.reduceLT,Int.reduceLE,Int.reduceToNat,Int.reduceEq,Int.reduceNe,Nat.reduceAdd,UInt8.reduceOfNat,UInt16.reduceOfNat,UInt32.reduceOfNat,UInt64.reduceOfNat,UInt64.reduceToNat,UInt32.reduceToNat,UInt16.reduceToNat,UInt8.reduceToNat,Int.reduceAdd,Int.reduceSub,Int.reduceMul,Nat.reduceMul,Qp0,Qp1,Ql0,Qe0]
  refine zBs (fun m f h' => ∃ (l' : List UInt8) (v' : Value), f 0 = some v' ∧ f 1 = some (.int .i64 m) ∧ m ≤ n ∧ OwnS h0 h' 1 v' l'.length (bs l') ∧ l' ++ numB m = l ++ numB n) (by kernel_rfl) n ⟨l, v, ?_, ?_, Nat.le_refl _, how, rfl⟩ ?_
  · simp -dsimp -implicitDefEqProofs (disch := first | omega | assumption | (simp only [Option.isSome_some,Qt0]; done) | (simp only [UInt64.reduceToNat,UInt32.reduceToNat,UInt8.reduceToNat,List.length_cons,List.length_nil,List.length_append,Int.toNat_natCast] <;> omega) | fail) only [Nat.reduceLT,Nat.reduceLeDiff,Nat.reduceEqDiff,↓reduceIte,Int.reduceLT,Int.reduceLE,Int.reduceToNat,Int.reduceEq,Int.reduceNe,Nat.reduceAdd,UInt8.reduceOfNat,UInt16.reduceOfNat,UInt32.reduceOfNat,UInt64.reduceOfNat,UInt64.reduceToNat,UInt32.reduceToNat,UInt16.reduceToNat,UInt8.reduceToNat,Int.reduceAdd,Int.reduceSub,Int.reduceMul,Nat.reduceMul,Qp0,Qp1,Ql0,Qe0]
  · simp -dsimp -implicitDefEqProofs (disch := first | omega | assumption | (simp only [Option.isSome_some,Qt0]; done) | (simp only [UInt64.reduceToNat,UInt32.reduceToNat,UInt8.reduceToNat,List.length_cons,List.length_nil,List.length_append,Int.toNat_natCast] <;> omega) | fail) only [Nat.reduceLT,Nat.reduceLeDiff,Nat.reduceEqDiff,↓reduceIte,Int.reduceLT,Int.reduceLE,Int.reduceToNat,Int.reduceEq,Int.reduceNe,Nat.reduceAdd,UInt8.reduceOfNat,UInt16.reduceOfNat,UInt32.reduceOfNat,UInt64.reduceOfNat,UInt64.reduceToNat,UInt32.reduceToNat,UInt16.reduceToNat,UInt8.reduceToNat,Int.reduceAdd,Int.reduceSub,Int.reduceMul,Nat.reduceMul,Qp0,Qp1,Ql0,Qe0]
  rintro m f h' ⟨l', v', f0, f1, hm, how, hlm⟩
  have hll := congrArg List.length hlm
  simp only [List.length_append] at hll
  have hp := numB_pos m
  have hnl := zBg hn
  obtain ⟨A, c, rfl, hc⟩ := how.own.len
  by_cases hs : m < 128
  · have e1 : decide ((m : Int) ≥ 128) = false := decide_eq_false (by omega)
    rw [← hlm, zCn hs]
    have hb := byte_small hs
    simp -dsimp -implicitDefEqProofs (disch := first | omega | assumption | (simp only [Option.isSome_some,Qt0]; done) | (simp only [UInt64.reduceToNat,UInt32.reduceToNat,UInt8.reduceToNat,List.length_cons,List.length_nil,List.length_append,Int.toNat_natCast] <;> omega) | fail) only [Nat.reduceLT,Nat.reduceLeDiff,Nat.reduceEqDiff,↓reduceIte,Int.reduceLT,Int.reduceLE,Int.reduceToNat,Int.reduceEq,Int.reduceNe,Nat.reduceAdd,UInt8.reduceOfNat,UInt16.reduceOfNat,UInt32.reduceOfNat,UInt64.reduceOfNat,UInt64.reduceToNat,UInt32.reduceToNat,UInt16.reduceToNat,UInt8.reduceToNat,Int.reduceAdd,Int.reduceSub,Int.reduceMul,Nat.reduceMul,Qp0,Qp1,Ql0,Qe0,f0,f1,e1]
    refine zBz (v := u8 (UInt8.ofInt m)) zA8 rfl (by omega) fun gb hgb => ?_
    have how2 := how.more ((PH.Le.refl h').new gb ⟨[u8 (UInt8.ofInt m)], 1⟩ hgb)
    simp -dsimp -implicitDefEqProofs (disch := first | omega | assumption | (simp only [Option.isSome_some,Qt0]; done) | (simp only [UInt64.reduceToNat,UInt32.reduceToNat,UInt8.reduceToNat,List.length_cons,List.length_nil,List.length_append,Int.toNat_natCast] <;> omega) | fail) only [Nat.reduceLT,Nat.reduceLeDiff,Nat.reduceEqDiff,↓reduceIte,Int.reduceLT,Int.reduceLE,Int.reduceToNat,Int.reduceEq,Int.reduceNe,Nat.reduceAdd,UInt8.reduceOfNat,UInt16.reduceOfNat,UInt32.reduceOfNat,UInt64.reduceOfNat,UInt64.reduceToNat,UInt32.reduceToNat,UInt16.reduceToNat,UInt8.reduceToNat,Int.reduceAdd,Int.reduceSub,Int.reduceMul,Nat.reduceMul,Qp0,Qp1,Ql0,Qe0]
    refine zBk zA8 how2.own (Rs.blk (k := ⟨[u8 (UInt8.ofInt m)], 1⟩) (by rw [PH.new_m, if_pos rfl]; rfl) rfl) (zCj [_]) (by unfold maxLen; omega) (by omega) (fun v' h4 ho hst => ?_)
    have ho' : Own h4 1 v' (l' ++ [UInt8.ofNat m]).length (bs (l' ++ [UInt8.ofNat m])) := by rw [zBi, List.length_append, ← hb]; exact ho
    simp -dsimp -implicitDefEqProofs (disch := first | omega | assumption | (simp only [Option.isSome_some,Qt0]; done) | (simp only [UInt64.reduceToNat,UInt32.reduceToNat,UInt8.reduceToNat,List.length_cons,List.length_nil,List.length_append,Int.toNat_natCast] <;> omega) | fail) only [Nat.reduceLT,Nat.reduceLeDiff,Nat.reduceEqDiff,↓reduceIte,Int.reduceLT,Int.reduceLE,Int.reduceToNat,Int.reduceEq,Int.reduceNe,Nat.reduceAdd,UInt8.reduceOfNat,UInt16.reduceOfNat,UInt32.reduceOfNat,UInt64.reduceOfNat,UInt64.reduceToNat,UInt32.reduceToNat,UInt16.reduceToNat,UInt8.reduceToNat,Int.reduceAdd,Int.reduceSub,Int.reduceMul,Nat.reduceMul,Qp0,Qp1,Ql0,Qe0]
    exact ⟨_, PH.Le.refl _, how2.stays hst ho'⟩
  · have e1 : decide ((m : Int) ≥ 128) = true := decide_eq_true (by omega)
    rw [zDl hs] at hlm
    simp -dsimp -implicitDefEqProofs (disch := first | omega | assumption | (simp only [Option.isSome_some,Qt0]; done) | (simp only [UInt64.reduceToNat,UInt32.reduceToNat,UInt8.reduceToNat,List.length_cons,List.length_nil,List.length_append,Int.toNat_natCast] <;> omega) | fail) only [Nat.reduceLT,Nat.reduceLeDiff,Nat.reduceEqDiff,↓reduceIte,Int.reduceLT,Int.reduceLE,Int.reduceToNat,Int.reduceEq,Int.reduceNe,Nat.reduceAdd,UInt8.reduceOfNat,UInt16.reduceOfNat,UInt32.reduceOfNat,UInt64.reduceOfNat,UInt64.reduceToNat,UInt32.reduceToNat,UInt16.reduceToNat,UInt8.reduceToNat,Int.reduceAdd,Int.reduceSub,Int.reduceMul,Nat.reduceMul,Qp0,Qp1,Ql0,Qe0,f0,f1,e1,byte_or]
    refine zBz (v := u8 (UInt8.ofNat (m % 128 + 128))) zA8 rfl (by omega) fun gb hgb => ?_
    have how2 := how.more ((PH.Le.refl h').new gb ⟨[u8 (UInt8.ofNat (m % 128 + 128))], 1⟩ hgb)
    simp -dsimp -implicitDefEqProofs (disch := first | omega | assumption | (simp only [Option.isSome_some,Qt0]; done) | (simp only [UInt64.reduceToNat,UInt32.reduceToNat,UInt8.reduceToNat,List.length_cons,List.length_nil,List.length_append,Int.toNat_natCast] <;> omega) | fail) only [Nat.reduceLT,Nat.reduceLeDiff,Nat.reduceEqDiff,↓reduceIte,Int.reduceLT,Int.reduceLE,Int.reduceToNat,Int.reduceEq,Int.reduceNe,Nat.reduceAdd,UInt8.reduceOfNat,UInt16.reduceOfNat,UInt32.reduceOfNat,UInt64.reduceOfNat,UInt64.reduceToNat,UInt32.reduceToNat,UInt16.reduceToNat,UInt8.reduceToNat,Int.reduceAdd,Int.reduceSub,Int.reduceMul,Nat.reduceMul,Qp0,Qp1,Ql0,Qe0]
    refine zBk zA8 how2.own (Rs.blk (k := ⟨[u8 (UInt8.ofNat (m % 128 + 128))], 1⟩) (by rw [PH.new_m, if_pos rfl]; rfl) rfl) (zCj [_]) (by unfold maxLen; omega) (by omega) (fun v' h4 ho hst => ?_)
    have ho' : Own h4 1 v' (l' ++ [UInt8.ofNat (m % 128 + 128)]).length (bs (l' ++ [UInt8.ofNat (m % 128 + 128)])) := by rw [zBi, List.length_append]; exact ho
    have hd : ((m : Int) / 2 ^ 7) = ((m / 128 : Nat) : Int) := by omega
    simp -dsimp -implicitDefEqProofs (disch := first | omega | assumption | (simp only [Option.isSome_some,Qt0]; done) | (simp only [UInt64.reduceToNat,UInt32.reduceToNat,UInt8.reduceToNat,List.length_cons,List.length_nil,List.length_append,Int.toNat_natCast] <;> omega) | fail) only [Nat.reduceLT,Nat.reduceLeDiff,Nat.reduceEqDiff,↓reduceIte,Int.reduceLT,Int.reduceLE,Int.reduceToNat,Int.reduceEq,Int.reduceNe,Nat.reduceAdd,UInt8.reduceOfNat,UInt16.reduceOfNat,UInt32.reduceOfNat,UInt64.reduceOfNat,UInt64.reduceToNat,UInt32.reduceToNat,UInt16.reduceToNat,UInt8.reduceToNat,Int.reduceAdd,Int.reduceSub,Int.reduceMul,Nat.reduceMul,Qp0,Qp1,Ql0,Qe0,f0,f1,hd]
    refine ⟨m / 128, _, by omega, PH.Le.refl _, _, _, by trivial, by trivial, by omega, how2.stays hst ho', by rw [← hlm]; simp⟩
abbrev WS := List UInt8 × Option (Int × Nat)
def OE (h : PH) (ob : Nat) (A : Option Addr) : Option (Int × Nat) → Value → Prop
  | none, v => v = .nilIface
  | some (k, p), v => ∃ be, v = errV be ∧ h.m be = some ⟨[str wireT, .int .i64 p, codeV k], 3⟩ ∧ be ≠ ob ∧ ∀ a, A = some a → a.block ≠ be
theorem Px.PH.Le.newN {h h' : PH} (hl : PH.Le h h') (b : Nat) (k : Bk) (hb : h.m b = none) : PH.Le h (h'.new b k) := by
  refine ⟨?_, fun x y e => ?_⟩
  · have := hl.top
    simp only [PH.new_top]; omega
  · rw [PH.new_m, if_neg (fun q => by subst q; rw [hb] at e; cases e)]
    exact hl.m x y e
theorem Px.PH.none_of {h : PH} {b : Nat} (hb : h.top ≤ b) : h.m b = none := by
  cases hx : h.m b with
  | none => rfl
  | some k => have := h.lt _ _ hx; omega
structure OS (h0 h : PH) (ob : Nat) (s : WS) : Prop where
  le : PH.Le h0 h
  low : h0.m ob = none
  len : s.1.length ≤ 65536
  cells : ∃ A c ev, h.m ob = some ⟨[.slice A s.1.length c, ev], 2⟩ ∧ Own h 1 (.slice A s.1.length c) s.1.length (bs s.1) ∧ (∀ a, A = some a → h0.m a.block = none ∧ a.block ≠ ob) ∧ OE h ob A s.2 ev
theorem OE.more {h h' : PH} {ob : Nat} {A : Option Addr} {e : Option (Int × Nat)} {v : Value} (l : PH.Le h h') (o : OE h ob A e v) : OE h' ob A e v := by
  cases e with
  | none => exact o
  | some p => obtain ⟨be, h1, h2, h3⟩ := o; exact ⟨be, h1, l.m _ _ h2, h3⟩
theorem OS.more {h0 h h' : PH} {ob : Nat} {s : WS} (o : OS h0 h ob s) (l : PH.Le h h') : OS h0 h' ob s := by
  obtain ⟨A, c, ev, h1, h2, h3, h4⟩ := o.cells
  exact ⟨o.le.trans l, o.low, o.len, A, c, ev, l.m _ _ h1, h2.more l, h3, h4.more l⟩
theorem OS.weak {h0 h1 h : PH} {ob : Nat} {s : WS} (o : OS h1 h ob s) (l : PH.Le h0 h1) : OS h0 h ob s := by
  have hn : ∀ b, h1.m b = none → h0.m b = none := fun b e => by
    cases hx : h0.m b with
    | none => rfl
    | some k => rw [l.m _ _ hx] at e; cases e
  obtain ⟨A, c, ev, h1, h2, h3, h4⟩ := o.cells
  exact ⟨l.trans o.le, hn _ o.low, o.len, A, c, ev, h1, h2, fun a e => ⟨hn _ (h3 a e).1, (h3 a e).2⟩, h4⟩
def putM (s : WS) (y : List UInt8) : WS := if s.2.isSome = true then s else if 65536 < s.1.length + y.length then (s.1, some (3, s.1.length)) else (s.1 ++ y, none)
section
variable (h0 : PH) (ob : Nat) (s : WS) (w0 : World) (h : PH)
set_option maxRecDepth 20000 in
set_option maxHeartbeats 1000000 in
theorem wrong_any (hs : OS h0 h ob s) (hn : s.2 = none) (k : Int) : PCalls Try.prog w0 75 [.pointer (some ⟨ob, 0, none⟩), .int .i64 k] h fun r h' => OS h0 h' ob (s.1, some (k, s.1.length)) := by
  refine zAp Try.func75 (by kernel_rfl) rfl _ Try.ntmps75 (by kernel_rfl) (by kernel_rfl) _ Try.results75 ?_
  obtain ⟨A, c, ev, h1, h2, h3, h4⟩ := hs.cells
  simp -dsimp -implicitDefEqProofs (disch := first | omega | assumption | (simp only [Option.isSome_some,Qt0]; done) | (simp only [UInt64.reduceToNat,UInt32.reduceToNat,UInt8.reduceToNat,List.length_cons,List.length_nil,List.length_append,Int.toNat_natCast] <;> omega) | fail) only [Nat.reduceLT,Nat.reduceLeDiff,Nat.reduceEqDiff,↓reduceIte,Int.reduceLT,Int.reduceLE,Int.reduceToNat,Int.reduceEq,Int.reduceNe,Nat.reduceAdd,UInt8.reduceOfNat,UInt16.reduceOfNat,UInt32.reduceOfNat,UInt64.reduceOfNat,UInt64.reduceToNat,UInt32.reduceToNat,UInt16.reduceToNat,UInt8.reduceToNat,Int.reduceAdd,Int.reduceSub,Int.reduceMul,Nat.reduceMul,Qp0,Qp1,Ql0,Qe0,zAa,zAb,h1]
  refine (zCq wireT _ _ _ w0 h).mono ?_
  rintro v hq ⟨be, rfl, hbe, rfl⟩
  have hob := h.lt _ _ h1
  have hle := (PH.Le.refl h).new be ⟨[str wireT, .int .i64 s.1.length, .iface 44 (.int .i64 k)], 3⟩ hbe
  have hbm : (h.new be ⟨[str wireT, .int .i64 s.1.length, .iface 44 (.int .i64 k)], 3⟩).m be = some ⟨[str wireT, .int .i64 s.1.length, .iface 44 (.int .i64 k)], 3⟩ := by rw [PH.new_m, if_pos rfl]
  generalize h.new be ⟨[str wireT, .int .i64 s.1.length, .iface 44 (.int .i64 k)], 3⟩ = q at *
  have hob1 := hle.m _ _ h1
  unfold errV
  simp -dsimp -implicitDefEqProofs (disch := first | omega | assumption | (simp only [Option.isSome_some,Qt0]; done) | (simp only [UInt64.reduceToNat,UInt32.reduceToNat,UInt8.reduceToNat,List.length_cons,List.length_nil,List.length_append,Int.toNat_natCast] <;> omega) | fail) only [Nat.reduceLT,Nat.reduceLeDiff,Nat.reduceEqDiff,↓reduceIte,Int.reduceLT,Int.reduceLE,Int.reduceToNat,Int.reduceEq,Int.reduceNe,Nat.reduceAdd,UInt8.reduceOfNat,UInt16.reduceOfNat,UInt32.reduceOfNat,UInt64.reduceOfNat,UInt64.reduceToNat,UInt32.reduceToNat,UInt16.reduceToNat,UInt8.reduceToNat,Int.reduceAdd,Int.reduceSub,Int.reduceMul,Nat.reduceMul,Qp0,Qp1,Ql0,Qe0,hob1,List.set_cons_zero,List.set_cons_succ]
  have h2' := h2.more hle
  refine ⟨_, PH.Le.refl _, (hs.le.trans hle).newN _ _ hs.low, hs.low, hs.len, A, c, _, by rw [PH.new_m, if_pos rfl]; rfl, h2'.put ?_ _, h3, be, rfl, by rw [PH.new_m, if_neg (by omega)]; exact hbm, by omega, fun a e => ?_⟩
  · cases A with
    | none => intro e; cases e
    | some a => rw [h2'.A a rfl]; intro e; cases e; exact (h3 a rfl).2 rfl
  · have := h2.block (h2.A a e); omega
set_option maxRecDepth 20000 in
set_option maxHeartbeats 1000000 in
theorem put_any (hs : OS h0 h ob s) (A' : Option Addr) (c' : Nat) (y : List UInt8) (hy : y.length ≤ 1000000) (hr : Rs w0 h 1 A' y.length (bs y)) : PCalls Try.prog w0 76 [.pointer (some ⟨ob, 0, none⟩), .slice A' y.length c'] h fun r h' => OS h0 h' ob (putM s y) := by
  refine zAp Try.func76 (by kernel_rfl) rfl _ Try.ntmps76 (by kernel_rfl) (by kernel_rfl) _ Try.results76 ?_
  obtain ⟨A, c, ev, h1, h2, h3, h4⟩ := hs.cells
  have hlen := hs.len
  cases hs2 : s.2 with
  | some p =>
    rw [hs2] at h4
    obtain ⟨be, rfl, h5, h6, h7⟩ := h4
    have hp : putM s y = s := by unfold putM; rw [hs2]; simp
    rw [hp]
    unfold errV at *
    simp -dsimp -implicitDefEqProofs (disch := first | omega | assumption | (simp only [Option.isSome_some,Qt0]; done) | (simp only [UInt64.reduceToNat,UInt32.reduceToNat,UInt8.reduceToNat,List.length_cons,List.length_nil,List.length_append,Int.toNat_natCast] <;> omega) | fail) only [Nat.reduceLT,Nat.reduceLeDiff,Nat.reduceEqDiff,↓reduceIte,Int.reduceLT,Int.reduceLE,Int.reduceToNat,Int.reduceEq,Int.reduceNe,Nat.reduceAdd,UInt8.reduceOfNat,UInt16.reduceOfNat,UInt32.reduceOfNat,UInt64.reduceOfNat,UInt64.reduceToNat,UInt32.reduceToNat,UInt16.reduceToNat,UInt8.reduceToNat,Int.reduceAdd,Int.reduceSub,Int.reduceMul,Nat.reduceMul,Qp0,Qp1,Ql0,Qe0,zAa,zAb,h1]
    exact ⟨_, PH.Le.refl _, hs⟩
  | none =>
    rw [hs2] at h4
    obtain rfl : ev = .nilIface := h4
    by_cases hl : 65536 < s.1.length + y.length
    · have e1 : decide ((y.length : Int) > 65536 - (s.1.length : Int)) = true := decide_eq_true (by omega)
      have hp : putM s y = (s.1, some (3, s.1.length)) := by unfold putM; rw [hs2, if_neg (by simp), if_pos hl]
      rw [hp]
      have hW := Lib.hid (wrong_any h0 ob s w0 h hs hs2 3)
      simp -dsimp -implicitDefEqProofs (disch := first | omega | assumption | (simp only [Option.isSome_some,Qt0]; done) | (simp only [UInt64.reduceToNat,UInt32.reduceToNat,UInt8.reduceToNat,List.length_cons,List.length_nil,List.length_append,Int.toNat_natCast] <;> omega) | fail) only [Nat.reduceLT,Nat.reduceLeDiff,Nat.reduceEqDiff,↓reduceIte,Int.reduceLT,Int.reduceLE,Int.reduceToNat,Int.reduceEq,Int.reduceNe,Nat.reduceAdd,UInt8.reduceOfNat,UInt16.reduceOfNat,UInt32.reduceOfNat,UInt64.reduceOfNat,UInt64.reduceToNat,UInt32.reduceToNat,UInt16.reduceToNat,UInt8.reduceToNat,Int.reduceAdd,Int.reduceSub,Int.reduceMul,Nat.reduceMul,Qp0,Qp1,Ql0,Qe0,zAa,zAb,h1,e1]
      refine hW.out.mono ?_
      intro v h' hv
      simp -dsimp -implicitDefEqProofs (disch := first | omega | assumption | (simp only [Option.isSome_some,Qt0]; done) | (simp only [UInt64.reduceToNat,UInt32.reduceToNat,UInt8.reduceToNat,List.length_cons,List.length_nil,List.length_append,Int.toNat_natCast] <;> omega) | fail) only [Nat.reduceLT,Nat.reduceLeDiff,Nat.reduceEqDiff,↓reduceIte,Int.reduceLT,Int.reduceLE,Int.reduceToNat,Int.reduceEq,Int.reduceNe,Nat.reduceAdd,UInt8.reduceOfNat,UInt16.reduceOfNat,UInt32.reduceOfNat,UInt64.reduceOfNat,UInt64.reduceToNat,UInt32.reduceToNat,UInt16.reduceToNat,UInt8.reduceToNat,Int.reduceAdd,Int.reduceSub,Int.reduceMul,Nat.reduceMul,Qp0,Qp1,Ql0,Qe0]
      exact ⟨_, PH.Le.refl _, hv⟩
    · have e1 : decide ((y.length : Int) > 65536 - (s.1.length : Int)) = false := decide_eq_false (by omega)
      have hp : putM s y = (s.1 ++ y, none) := by unfold putM; rw [hs2, if_neg (by simp), if_neg hl]
      rw [hp]
      simp -dsimp -implicitDefEqProofs (disch := first | omega | assumption | (simp only [Option.isSome_some,Qt0]; done) | (simp only [UInt64.reduceToNat,UInt32.reduceToNat,UInt8.reduceToNat,List.length_cons,List.length_nil,List.length_append,Int.toNat_natCast] <;> omega) | fail) only [Nat.reduceLT,Nat.reduceLeDiff,Nat.reduceEqDiff,↓reduceIte,Int.reduceLT,Int.reduceLE,Int.reduceToNat,Int.reduceEq,Int.reduceNe,Nat.reduceAdd,UInt8.reduceOfNat,UInt16.reduceOfNat,UInt32.reduceOfNat,UInt64.reduceOfNat,UInt64.reduceToNat,UInt32.reduceToNat,UInt16.reduceToNat,UInt8.reduceToNat,Int.reduceAdd,Int.reduceSub,Int.reduceMul,Nat.reduceMul,Qp0,Qp1,Ql0,Qe0,zAa,zAb,h1,e1]
      refine zBk zA8 h2 hr (zCj y) (by unfold maxLen; omega) (by omega) (fun v' h4 ho hst => ?_)
      obtain ⟨A2, c2, rfl, hc2⟩ := ho.len
      have hob4 := hst.keep ob _ h1 (fun e => by cases A with | none => cases e | some a => exact absurd (by simpa [Value.ownBlock] using e) (h3 a rfl).2)
      have hA2 : ∀ a, A2 = some a → h0.m a.block = none ∧ a.block ≠ ob := fun a e => by
        rcases hst.fresh _ (ho.A a e) with h5 | h5
        · cases A with
          | none => cases h5
          | some a' => have := h3 a' rfl; have e' : a'.block = a.block := by simpa [Value.ownBlock] using h5
                       rw [← e']; exact this
        · have := hs.le.top; have := h.lt _ _ h1; exact ⟨PH.none_of (by omega), by omega⟩
      have hle4 : PH.Le h0 h4 := ⟨Nat.le_trans hs.le.top hst.top, fun x k e => hst.keep x k (hs.le.m x k e) fun e' => by
        cases A with
        | none => cases e'
        | some a => have := (h3 a rfl).1; rw [h2.A a rfl] at e'; injection e' with e'; rw [← e', this] at e; cases e⟩
      have ho' : Own h4 1 (.slice A2 (s.1 ++ y).length c2) (s.1 ++ y).length (bs (s.1 ++ y)) := by rw [zBi, List.length_append]; exact ho
      rw [← List.length_append] at *
      simp -dsimp -implicitDefEqProofs (disch := first | omega | assumption | (simp only [Option.isSome_some,Qt0]; done) | (simp only [UInt64.reduceToNat,UInt32.reduceToNat,UInt8.reduceToNat,List.length_cons,List.length_nil,List.length_append,Int.toNat_natCast] <;> omega) | fail) only [Nat.reduceLT,Nat.reduceLeDiff,Nat.reduceEqDiff,↓reduceIte,Int.reduceLT,Int.reduceLE,Int.reduceToNat,Int.reduceEq,Int.reduceNe,Nat.reduceAdd,UInt8.reduceOfNat,UInt16.reduceOfNat,UInt32.reduceOfNat,UInt64.reduceOfNat,UInt64.reduceToNat,UInt32.reduceToNat,UInt16.reduceToNat,UInt8.reduceToNat,Int.reduceAdd,Int.reduceSub,Int.reduceMul,Nat.reduceMul,Qp0,Qp1,Ql0,Qe0,hob4,List.set_cons_zero,List.set_cons_succ]
      refine ⟨_, PH.Le.refl _, ⟨hle4.newN _ _ hs.low, hs.low, by show (s.1 ++ y).length ≤ 65536; omega, A2, c2, _, by rw [PH.new_m, if_pos rfl], ho'.put ?_ _, hA2, rfl⟩⟩
      · cases A2 with
        | none => intro e; cases e
        | some a => rw [ho'.A a rfl]; intro e; cases e; exact (hA2 a rfl).2 rfl
def numM (s : WS) (n : Int) : WS := if s.2.isSome = true then s else if n < 0 ∨ 4611686018427387903 < n then (s.1, some (1, s.1.length)) else putM s (numB n.toNat)
def textM (s : WS) (y : List UInt8) : WS := putM s (numB y.length ++ y)
theorem putM_bad {s : WS} (h : s.2.isSome = true) (y : List UInt8) : putM s y = s := if_pos h
set_option maxRecDepth 20000 in
set_option maxHeartbeats 1000000 in
theorem num_any (hs : OS h0 h ob s) (n : Int) (hn : n ≤ 9223372036854775807) : PCalls Try.prog w0 63 [.pointer (some ⟨ob, 0, none⟩), .int .i64 n] h fun r h' => OS h0 h' ob (numM s n) := by
  refine zAp Try.func63 (by kernel_rfl) rfl _ Try.ntmps63 (by kernel_rfl) (by kernel_rfl) _ Try.results63 ?_
  obtain ⟨A, c, ev, h1, h2, h3, h4⟩ := hs.cells
  have hN : PCalls Try.prog w0 77 [.slice none 0 0, .int .i64 (if 0 > n then 0 else n)] h fun r h' => OwnS h h' 1 r ([] ++ numB n.toNat).length (bs ([] ++ numB n.toNat)) := by
    have := zGm h (.slice none 0 0) [] n.toNat (by omega) w0 h (OwnS.nil h 1) (by simp)
    rwa [show ((n.toNat : Nat) : Int) = if 0 > n then 0 else n by split <;> omega] at this
  have hN := Lib.hid hN
  have hnl := zBg (n := n.toNat) (by omega)
  cases hs2 : s.2 with
  | some p =>
    rw [hs2] at h4
    obtain ⟨be, rfl, h5, h6, h7⟩ := h4
    have hp : numM s n = s := by unfold numM; rw [hs2]; simp
    rw [hp]
    unfold errV at *
    simp -dsimp -implicitDefEqProofs (disch := first | omega | assumption | (simp only [Option.isSome_some,Qt0]; done) | (simp only [UInt64.reduceToNat,UInt32.reduceToNat,UInt8.reduceToNat,List.length_cons,List.length_nil,List.length_append,Int.toNat_natCast] <;> omega) | fail) only [Nat.reduceLT,Nat.reduceLeDiff,Nat.reduceEqDiff,↓reduceIte,Int.reduceLT,Int.reduceLE,Int.reduceToNat,Int.reduceEq,Int.reduceNe,Nat.reduceAdd,UInt8.reduceOfNat,UInt16.reduceOfNat,UInt32.reduceOfNat,UInt64.reduceOfNat,UInt64.reduceToNat,UInt32.reduceToNat,UInt16.reduceToNat,UInt8.reduceToNat,Int.reduceAdd,Int.reduceSub,Int.reduceMul,Nat.reduceMul,Qp0,Qp1,Ql0,Qe0,zAa,zAb,h1]
    refine hN.out.mono ?_
    intro v h' how
    obtain ⟨A', c', rfl, hc'⟩ := how.own.len
    have hP := put_any h0 ob s w0 h' (hs.more how.le) A' c' (numB n.toNat) (by omega) (Rs.own how.own)
    rw [putM_bad (by rw [hs2]; rfl)] at hP
    have hP := Lib.hid hP
    simp -dsimp -implicitDefEqProofs (disch := first | omega | assumption | (simp only [Option.isSome_some,Qt0]; done) | (simp only [UInt64.reduceToNat,UInt32.reduceToNat,UInt8.reduceToNat,List.length_cons,List.length_nil,List.length_append,Int.toNat_natCast] <;> omega) | fail) only [Nat.reduceLT,Nat.reduceLeDiff,Nat.reduceEqDiff,↓reduceIte,Int.reduceLT,Int.reduceLE,Int.reduceToNat,Int.reduceEq,Int.reduceNe,Nat.reduceAdd,UInt8.reduceOfNat,UInt16.reduceOfNat,UInt32.reduceOfNat,UInt64.reduceOfNat,UInt64.reduceToNat,UInt32.reduceToNat,UInt16.reduceToNat,UInt8.reduceToNat,Int.reduceAdd,Int.reduceSub,Int.reduceMul,Nat.reduceMul,Qp0,Qp1,Ql0,Qe0]
    refine hP.out.mono ?_
    intro v h' hv
    simp -dsimp -implicitDefEqProofs (disch := first | omega | assumption | (simp only [Option.isSome_some,Qt0]; done) | (simp only [UInt64.reduceToNat,UInt32.reduceToNat,UInt8.reduceToNat,List.length_cons,List.length_nil,List.length_append,Int.toNat_natCast] <;> omega) | fail) only [Nat.reduceLT,Nat.reduceLeDiff,Nat.reduceEqDiff,↓reduceIte,Int.reduceLT,Int.reduceLE,Int.reduceToNat,Int.reduceEq,Int.reduceNe,Nat.reduceAdd,UInt8.reduceOfNat,UInt16.reduceOfNat,UInt32.reduceOfNat,UInt64.reduceOfNat,UInt64.reduceToNat,UInt32.reduceToNat,UInt16.reduceToNat,UInt8.reduceToNat,Int.reduceAdd,Int.reduceSub,Int.reduceMul,Nat.reduceMul,Qp0,Qp1,Ql0,Qe0]
    exact ⟨_, PH.Le.refl _, hv⟩
  | none =>
    rw [hs2] at h4
    obtain rfl : ev = .nilIface := h4
    by_cases hb : n < 0 ∨ 4611686018427387903 < n
    · have hp : numM s n = (s.1, some (1, s.1.length)) := by unfold numM; rw [hs2, if_neg (by simp), if_pos hb]
      rw [hp]
      have hW := Lib.hid (wrong_any h0 ob s w0 h hs hs2 1)
      by_cases hb1 : n < 0
      · have e1 := decide_eq_true hb1
        simp -dsimp -implicitDefEqProofs (disch := first | omega | assumption | (simp only [Option.isSome_some,Qt0]; done) | (simp only [UInt64.reduceToNat,UInt32.reduceToNat,UInt8.reduceToNat,List.length_cons,List.length_nil,List.length_append,Int.toNat_natCast] <;> omega) | fail) only [Nat.reduceLT,Nat.reduceLeDiff,Nat.reduceEqDiff,↓reduceIte,Int.reduceLT,Int.reduceLE,Int.reduceToNat,Int.reduceEq,Int.reduceNe,Nat.reduceAdd,UInt8.reduceOfNat,UInt16.reduceOfNat,UInt32.reduceOfNat,UInt64.reduceOfNat,UInt64.reduceToNat,UInt32.reduceToNat,UInt16.reduceToNat,UInt8.reduceToNat,Int.reduceAdd,Int.reduceSub,Int.reduceMul,Nat.reduceMul,Qp0,Qp1,Ql0,Qe0,zAa,zAb,h1,e1]
        refine hW.out.mono ?_
        intro v h' hv
        simp -dsimp -implicitDefEqProofs (disch := first | omega | assumption | (simp only [Option.isSome_some,Qt0]; done) | (simp only [UInt64.reduceToNat,UInt32.reduceToNat,UInt8.reduceToNat,List.length_cons,List.length_nil,List.length_append,Int.toNat_natCast] <;> omega) | fail) only [Nat.reduceLT,Nat.reduceLeDiff,Nat.reduceEqDiff,↓reduceIte,Int.reduceLT,Int.reduceLE,Int.reduceToNat,Int.reduceEq,Int.reduceNe,Nat.reduceAdd,UInt8.reduceOfNat,UInt16.reduceOfNat,UInt32.reduceOfNat,UInt64.reduceOfNat,UInt64.reduceToNat,UInt32.reduceToNat,UInt16.reduceToNat,UInt8.reduceToNat,Int.reduceAdd,Int.reduceSub,Int.reduceMul,Nat.reduceMul,Qp0,Qp1,Ql0,Qe0]
        exact ⟨_, PH.Le.refl _, hv⟩
      · have e1 := decide_eq_false hb1
        have e2 : decide (n > 4611686018427387903) = true := decide_eq_true (by omega)
        simp -dsimp -implicitDefEqProofs (disch := first | omega | assumption | (simp only [Option.isSome_some,Qt0]; done) | (simp only [UInt64.reduceToNat,UInt32.reduceToNat,UInt8.reduceToNat,List.length_cons,List.length_nil,List.length_append,Int.toNat_natCast] <;> omega) | fail) only [Nat.reduceLT,Nat.reduceLeDiff,Nat.reduceEqDiff,↓reduceIte,Int.reduceLT,Int.reduceLE,Int.reduceToNat,Int.reduceEq,Int.reduceNe,Nat.reduceAdd,UInt8.reduceOfNat,UInt16.reduceOfNat,UInt32.reduceOfNat,UInt64.reduceOfNat,UInt64.reduceToNat,UInt32.reduceToNat,UInt16.reduceToNat,UInt8.reduceToNat,Int.reduceAdd,Int.reduceSub,Int.reduceMul,Nat.reduceMul,Qp0,Qp1,Ql0,Qe0,zAa,zAb,h1,e1,e2]
        refine hW.out.mono ?_
        intro v h' hv
        simp -dsimp -implicitDefEqProofs (disch := first | omega | assumption | (simp only [Option.isSome_some,Qt0]; done) | (simp only [UInt64.reduceToNat,UInt32.reduceToNat,UInt8.reduceToNat,List.length_cons,List.length_nil,List.length_append,Int.toNat_natCast] <;> omega) | fail) only [Nat.reduceLT,Nat.reduceLeDiff,Nat.reduceEqDiff,↓reduceIte,Int.reduceLT,Int.reduceLE,Int.reduceToNat,Int.reduceEq,Int.reduceNe,Nat.reduceAdd,UInt8.reduceOfNat,UInt16.reduceOfNat,UInt32.reduceOfNat,UInt64.reduceOfNat,UInt64.reduceToNat,UInt32.reduceToNat,UInt16.reduceToNat,UInt8.reduceToNat,Int.reduceAdd,Int.reduceSub,Int.reduceMul,Nat.reduceMul,Qp0,Qp1,Ql0,Qe0]
        exact ⟨_, PH.Le.refl _, hv⟩
    · have hp : numM s n = putM s (numB n.toNat) := by unfold numM; rw [hs2, if_neg (by simp), if_neg hb]
      rw [hp]
      have e1 : decide (n < 0) = false := decide_eq_false (by omega)
      have e2 : decide (n > 4611686018427387903) = false := decide_eq_false (by omega)
      simp -dsimp -implicitDefEqProofs (disch := first | omega | assumption | (simp only [Option.isSome_some,Qt0]; done) | (simp only [UInt64.reduceToNat,UInt32.reduceToNat,UInt8.reduceToNat,List.length_cons,List.length_nil,List.length_append,Int.toNat_natCast] <;> omega) | fail) only [Nat.reduceLT,Nat.reduceLeDiff,Nat.reduceEqDiff,↓reduceIte,Int.reduceLT,Int.reduceLE,Int.reduceToNat,Int.reduceEq,Int.reduceNe,Nat.reduceAdd,UInt8.reduceOfNat,UInt16.reduceOfNat,UInt32.reduceOfNat,UInt64.reduceOfNat,UInt64.reduceToNat,UInt32.reduceToNat,UInt16.reduceToNat,UInt8.reduceToNat,Int.reduceAdd,Int.reduceSub,Int.reduceMul,Nat.reduceMul,Qp0,Qp1,Ql0,Qe0,zAa,zAb,h1,e1,e2]
      refine hN.out.mono ?_
      intro v h' how
      obtain ⟨A', c', rfl, hc'⟩ := how.own.len
      have hP := Lib.hid (put_any h0 ob s w0 h' (hs.more how.le) A' c' (numB n.toNat) (by omega) (Rs.own how.own))
      simp -dsimp -implicitDefEqProofs (disch := first | omega | assumption | (simp only [Option.isSome_some,Qt0]; done) | (simp only [UInt64.reduceToNat,UInt32.reduceToNat,UInt8.reduceToNat,List.length_cons,List.length_nil,List.length_append,Int.toNat_natCast] <;> omega) | fail) only [Nat.reduceLT,Nat.reduceLeDiff,Nat.reduceEqDiff,↓reduceIte,Int.reduceLT,Int.reduceLE,Int.reduceToNat,Int.reduceEq,Int.reduceNe,Nat.reduceAdd,UInt8.reduceOfNat,UInt16.reduceOfNat,UInt32.reduceOfNat,UInt64.reduceOfNat,UInt64.reduceToNat,UInt32.reduceToNat,UInt16.reduceToNat,UInt8.reduceToNat,Int.reduceAdd,Int.reduceSub,Int.reduceMul,Nat.reduceMul,Qp0,Qp1,Ql0,Qe0]
      refine hP.out.mono ?_
      intro v h' hv
      simp -dsimp -implicitDefEqProofs (disch := first | omega | assumption | (simp only [Option.isSome_some,Qt0]; done) | (simp only [UInt64.reduceToNat,UInt32.reduceToNat,UInt8.reduceToNat,List.length_cons,List.length_nil,List.length_append,Int.toNat_natCast] <;> omega) | fail) only [Nat.reduceLT,Nat.reduceLeDiff,Nat.reduceEqDiff,↓reduceIte,Int.reduceLT,Int.reduceLE,Int.reduceToNat,Int.reduceEq,Int.reduceNe,Nat.reduceAdd,UInt8.reduceOfNat,UInt16.reduceOfNat,UInt32.reduceOfNat,UInt64.reduceOfNat,UInt64.reduceToNat,UInt32.reduceToNat,UInt16.reduceToNat,UInt8.reduceToNat,Int.reduceAdd,Int.reduceSub,Int.reduceMul,Nat.reduceMul,Qp0,Qp1,Ql0,Qe0]
      exact ⟨_, PH.Le.refl _, hv⟩
set_option maxRecDepth 20000 in
set_option maxHeartbeats 1000000 in
theorem wtext_any (hs : OS h0 h ob s) (y : List UInt8) (hy : y.length ≤ 900000) : PCalls Try.prog w0 64 [.pointer (some ⟨ob, 0, none⟩), str y] h fun r h' => OS h0 h' ob (textM s y) := by
  refine zAp Try.func64 (by kernel_rfl) rfl _ Try.ntmps64 (by kernel_rfl) (by kernel_rfl) _ Try.results64 ?_
  have hN := Lib.hid (zGm h (.slice none 0 0) [] y.length (by omega) w0 h (OwnS.nil h 1) (by simp))
  have hnl := zBg (n := y.length) (by omega)
  simp -dsimp -implicitDefEqProofs (disch := first | omega | assumption | (simp only [Option.isSome_some,Qt0]; done) | (simp only [UInt64.reduceToNat,UInt32.reduceToNat,UInt8.reduceToNat,List.length_cons,List.length_nil,List.length_append,Int.toNat_natCast] <;> omega) | fail) only [Nat.reduceLT,Nat.reduceLeDiff,Nat.reduceEqDiff,↓reduceIte,Int.reduceLT,Int.reduceLE,Int.reduceToNat,Int.reduceEq,Int.reduceNe,Nat.reduceAdd,UInt8.reduceOfNat,UInt16.reduceOfNat,UInt32.reduceOfNat,UInt64.reduceOfNat,UInt64.reduceToNat,UInt32.reduceToNat,UInt16.reduceToNat,UInt8.reduceToNat,Int.reduceAdd,Int.reduceSub,Int.reduceMul,Nat.reduceMul,Qp0,Qp1,Ql0,Qe0]
  refine hN.out.mono ?_
  intro v h' how
  rw [List.nil_append] at how
  obtain ⟨A', c', rfl, hc'⟩ := how.own.len
  simp -dsimp -implicitDefEqProofs (disch := first | omega | assumption | (simp only [Option.isSome_some,Qt0]; done) | (simp only [UInt64.reduceToNat,UInt32.reduceToNat,UInt8.reduceToNat,List.length_cons,List.length_nil,List.length_append,Int.toNat_natCast] <;> omega) | fail) only [Nat.reduceLT,Nat.reduceLeDiff,Nat.reduceEqDiff,↓reduceIte,Int.reduceLT,Int.reduceLE,Int.reduceToNat,Int.reduceEq,Int.reduceNe,Nat.reduceAdd,UInt8.reduceOfNat,UInt16.reduceOfNat,UInt32.reduceOfNat,UInt64.reduceOfNat,UInt64.reduceToNat,UInt32.reduceToNat,UInt16.reduceToNat,UInt8.reduceToNat,Int.reduceAdd,Int.reduceSub,Int.reduceMul,Nat.reduceMul,Qp0,Qp1,Ql0,Qe0]
  refine zFp zA8 Try.underlying9 how.own (by omega) (fun v' h4 ho hst _ => ?_)
  rw [← List.length_append, ← zBi] at ho
  obtain ⟨A2, c2, rfl, hc2⟩ := ho.len
  have hP := Lib.hid (put_any h0 ob s w0 h4 (hs.more (how.stays hst ho).le) A2 c2 (numB y.length ++ y) (by simp; omega) (Rs.own ho))
  simp -dsimp -implicitDefEqProofs (disch := first | omega | assumption | (simp only [Option.isSome_some,Qt0]; done) | (simp only [UInt64.reduceToNat,UInt32.reduceToNat,UInt8.reduceToNat,List.length_cons,List.length_nil,List.length_append,Int.toNat_natCast] <;> omega) | fail) only [Nat.reduceLT,Nat.reduceLeDiff,Nat.reduceEqDiff,↓reduceIte,Int.reduceLT,Int.reduceLE,Int.reduceToNat,Int.reduceEq,Int.reduceNe,Nat.reduceAdd,UInt8.reduceOfNat,UInt16.reduceOfNat,UInt32.reduceOfNat,UInt64.reduceOfNat,UInt64.reduceToNat,UInt32.reduceToNat,UInt16.reduceToNat,UInt8.reduceToNat,Int.reduceAdd,Int.reduceSub,Int.reduceMul,Nat.reduceMul,Qp0,Qp1,Ql0,Qe0]
  refine hP.out.mono ?_
  intro v h' hv
  simp -dsimp -implicitDefEqProofs (disch := first | omega | assumption | (simp only [Option.isSome_some,Qt0]; done) | (simp only [UInt64.reduceToNat,UInt32.reduceToNat,UInt8.reduceToNat,List.length_cons,List.length_nil,List.length_append,Int.toNat_natCast] <;> omega) | fail) only [Nat.reduceLT,Nat.reduceLeDiff,Nat.reduceEqDiff,↓reduceIte,Int.reduceLT,Int.reduceLE,Int.reduceToNat,Int.reduceEq,Int.reduceNe,Nat.reduceAdd,UInt8.reduceOfNat,UInt16.reduceOfNat,UInt32.reduceOfNat,UInt64.reduceOfNat,UInt64.reduceToNat,UInt32.reduceToNat,UInt16.reduceToNat,UInt8.reduceToNat,Int.reduceAdd,Int.reduceSub,Int.reduceMul,Nat.reduceMul,Qp0,Qp1,Ql0,Qe0]
  exact ⟨_, PH.Le.refl _, hv⟩
end
end Go.Proofs.Ytblikpbaeippaaa


namespace Go.Proofs.Ytblikpbaeippaaa
set_option linter.unusedVariables false
set_option linter.unusedSimpArgs false
open Go.RowKit Px Wr
section
variable (h0 : PH) (ob : Nat) (s : WS) (w0 : World) (h : PH)
def DE (h : PH) : WS → Value → Prop
  | (l, none), v => v = .tuple #[str l, .nilIface]
  | (_, some (k, p)), v => ∃ be, v = .tuple #[str [], errV be] ∧ h.m be = some ⟨[str wireT, .int .i64 p, codeV k], 3⟩
set_option maxRecDepth 20000 in
set_option maxHeartbeats 1000000 in
theorem done_any (hs : OS h0 h ob s) : PCalls Try.prog w0 65 [.pointer (some ⟨ob, 0, none⟩)] h fun r h' => DE h s r ∧ h' = h := by
  refine zAp Try.func65 (by kernel_rfl) rfl _ Try.ntmps65 (by kernel_rfl) (by kernel_rfl) _ Try.results65 ?_
  obtain ⟨A, c, ev, h1, h2, h3, h4⟩ := hs.cells
  obtain ⟨l, e⟩ := s
  cases e with
  | some p =>
    obtain ⟨k, p⟩ := p
    obtain ⟨be, rfl, h5, h6, h7⟩ := h4
    unfold errV at *
    simp -dsimp -implicitDefEqProofs (disch := first | omega | assumption | (simp only [Option.isSome_some,Qt0]; done) | (simp only [List.length_cons,List.length_nil,List.length_append,Int.toNat_natCast] <;> omega) | fail) only [Nat.reduceLT,Nat.reduceLeDiff,Nat.reduceEqDiff,↓reduceIte,Int.reduceLT,Int.reduceLE,Int.reduceToNat,Int.reduceEq,Int.reduceNe,Nat.reduceAdd,Int.reduceAdd,Int.reduceSub,Int.reduceMul,Nat.reduceMul,Qp0,Qp1,Ql0,Qe0,zAa,zAb,h1]
    refine zA3 6 _ (by kernel_rfl) (by kernel_rfl) (by kernel_rfl) (by kernel_rfl) (by kernel_rfl) (fun c f h hq => by simp only [zAy, zAv, zAw, zAu, zAx] at hq) (PH.Le.refl _).sub ?_
    simp -dsimp -implicitDefEqProofs (disch := first | omega | assumption | (simp only [Option.isSome_some,Qt0]; done) | (simp only [List.length_cons,List.length_nil,List.length_append,Int.toNat_natCast] <;> omega) | fail) only [Nat.reduceLT,Nat.reduceLeDiff,Nat.reduceEqDiff,↓reduceIte,Int.reduceLT,Int.reduceLE,Int.reduceToNat,Int.reduceEq,Int.reduceNe,Nat.reduceAdd,Int.reduceAdd,Int.reduceSub,Int.reduceMul,Nat.reduceMul,Qp0,Qp1,Ql0,Qe0,zAa,zAb,h1]
    exact ⟨_, PH.Le.refl _, ⟨be, rfl, h5⟩, rfl⟩
  | none =>
    obtain rfl : ev = .nilIface := h4
    simp only at h1 h2
    simp -dsimp -implicitDefEqProofs (disch := first | omega | assumption | (simp only [Option.isSome_some,Qt0]; done) | (simp only [List.length_cons,List.length_nil,List.length_append,Int.toNat_natCast] <;> omega) | fail) only [Nat.reduceLT,Nat.reduceLeDiff,Nat.reduceEqDiff,↓reduceIte,Int.reduceLT,Int.reduceLE,Int.reduceToNat,Int.reduceEq,Int.reduceNe,Nat.reduceAdd,Int.reduceAdd,Int.reduceSub,Int.reduceMul,Nat.reduceMul,Qp0,Qp1,Ql0,Qe0,zAa,zAb,h1]
    refine zBx Try.underlying77 Try.underlying5 Try.underlying9 (Rs.own h2) h2.nil_zero ?_
    simp -dsimp -implicitDefEqProofs (disch := first | omega | assumption | (simp only [Option.isSome_some,Qt0]; done) | (simp only [List.length_cons,List.length_nil,List.length_append,Int.toNat_natCast] <;> omega) | fail) only [Nat.reduceLT,Nat.reduceLeDiff,Nat.reduceEqDiff,↓reduceIte,Int.reduceLT,Int.reduceLE,Int.reduceToNat,Int.reduceEq,Int.reduceNe,Nat.reduceAdd,Int.reduceAdd,Int.reduceSub,Int.reduceMul,Nat.reduceMul,Qp0,Qp1,Ql0,Qe0]
    exact ⟨_, PH.Le.refl _, by rfl, rfl⟩
end
end Go.Proofs.Ytblikpbaeippaaa


namespace Go.Proofs.Ytblikpbaeippaaa
set_option linter.unusedVariables false
set_option linter.unusedSimpArgs false
open Go.RowKit Px Wr
theorem y_shlII {P : Program} {t : TypeId} {x y : Operand} {K : Value → Prop} (a n : Int) (hn0 : 0 ≤ n) (h1 : n < 64) (h0 : 0 ≤ a) (h2 : a * 2 ^ n.toNat ≤ 9223372036854775807) : Yld P (binS .shl t x y (.int .i64 a) (.int .i64 n)) K = K (.int .i64 (a * 2 ^ n.toNat)) := zAc fun w => by
  rw [zA2 (.inl rfl)]
  simp only [binOp]
  have hn : min (n).toNat IntKind.i64.bits = n.toNat := by
    simp [IntKind.bits]; omega
  unfold Op.shift
  rw [if_neg (by omega), hn]
  simp only [Sem.run_pure]
  have hp : (0 : Int) ≤ a * 2 ^ n.toNat := Int.mul_nonneg h0 (Int.pow_nonneg (by omega))
  rw [zCd _ (by omega) h2]
theorem pow7 (k : Nat) : 2 ^ (7 * k) = 128 ^ k := by rw [Nat.pow_mul]
theorem or_add {a k : Nat} (ha : a < 128 ^ k) (c : Nat) : a ||| c * 128 ^ k = a + c * 128 ^ k := by
  have := Nat.shiftLeft_add_eq_or_of_lt (b := a) (i := 7 * k) (by rw [pow7]; exact ha) c
  rw [Nat.shiftLeft_eq, pow7] at this
  rw [Nat.or_comm, ← this, Nat.add_comm]
theorem pow9 {k : Nat} (hk : k < 9) (c : Nat) (hc : c < 128) : (c + 1) * 128 ^ k ≤ 9223372036854775808 := by
  have h1 : 128 ^ k ≤ 128 ^ 8 := Nat.pow_le_pow_right (by omega) (by omega)
  have h2 : (c + 1) * 128 ^ k ≤ 128 * 128 ^ 8 := Nat.mul_le_mul (by omega) h1
  exact h2
def IS (h : PH) (ib : Nat) (s : List UInt8) : St → Prop
  | .ok t => ∃ at_ : Nat, at_ ≤ s.length ∧ s.drop at_ = t ∧ h.m ib = some ⟨[str s, .int .i64 at_, .nilIface], 3⟩
  | .bad p => ∃ at_ be : Nat, at_ ≤ s.length ∧ be ≠ ib ∧ h.m ib = some ⟨[str s, .int .i64 at_, errV be], 3⟩ ∧ h.m be = some ⟨[str wireT, .int .i64 p, codeV 2], 3⟩
theorem IS.more {h h' : PH} {ib : Nat} {s : List UInt8} {st : St} (i : IS h ib s st) (l : PH.Le h h') : IS h' ib s st := by
  cases st with
  | ok t => obtain ⟨a, h1, h2, h3⟩ := i; exact ⟨a, h1, h2, l.m _ _ h3⟩
  | bad p => obtain ⟨a, be, h1, h2, h3, h4⟩ := i; exact ⟨a, be, h1, h2, l.m _ _ h3, l.m _ _ h4⟩
def Wr.St.isBad : St → Bool
  | .ok _ => false
  | .bad _ => true
section
variable (w0 : World) (h : PH) (ib : Nat) (s : List UInt8)
set_option maxRecDepth 20000 in
theorem read_any : PCalls Try.prog w0 58 [str s] h fun r h' => ∃ ib, r = .pointer (some ⟨ib, 0, none⟩) ∧ h.top ≤ ib ∧ PH.Le h h' ∧ IS h' ib s (.ok s) := by
  refine zAp Try.func58 (by kernel_rfl) rfl _ Try.ntmps58 (by kernel_rfl) (by kernel_rfl) _ Try.results58 ?_
  simp -dsimp -implicitDefEqProofs (disch := first | omega | assumption | (simp only [Option.isSome_some,Qt0]; done) | (simp only [UInt64.reduceToNat,UInt32.reduceToNat,UInt8.reduceToNat,List.length_cons,List.length_nil,List.length_append,Int.toNat_natCast] <;> omega) | fail) only [Nat.reduceLT,Nat.reduceLeDiff,Nat.reduceEqDiff,↓reduceIte,Int.reduceLT,Int.reduceLE,Int.reduceToNat,Int.reduceEq,Int.reduceNe,Nat.reduceAdd,UInt8.reduceOfNat,UInt16.reduceOfNat,UInt32.reduceOfNat,UInt64.reduceOfNat,UInt64.reduceToNat,UInt32.reduceToNat,UInt16.reduceToNat,UInt8.reduceToNat,Int.reduceAdd,Int.reduceSub,Int.reduceMul,Nat.reduceMul,Qp0,Qp1,Ql0,Qe0]
  refine fun b hb => ?_
  simp -dsimp -implicitDefEqProofs (disch := first | omega | assumption | (simp only [Option.isSome_some,Qt0]; done) | (simp only [UInt64.reduceToNat,UInt32.reduceToNat,UInt8.reduceToNat,List.length_cons,List.length_nil,List.length_append,Int.toNat_natCast] <;> omega) | fail) only [Nat.reduceLT,Nat.reduceLeDiff,Nat.reduceEqDiff,↓reduceIte,Int.reduceLT,Int.reduceLE,Int.reduceToNat,Int.reduceEq,Int.reduceNe,Nat.reduceAdd,UInt8.reduceOfNat,UInt16.reduceOfNat,UInt32.reduceOfNat,UInt64.reduceOfNat,UInt64.reduceToNat,UInt32.reduceToNat,UInt16.reduceToNat,UInt8.reduceToNat,Int.reduceAdd,Int.reduceSub,Int.reduceMul,Nat.reduceMul,Qp0,Qp1,Ql0,Qe0]
  exact ⟨_, PH.Le.refl _, b, rfl, hb, (PH.Le.refl h).new b _ hb, 0, by omega, rfl, by rw [PH.new_m, if_pos rfl]; rfl⟩
set_option maxRecDepth 20000 in
theorem bad_any (st : St) (hi : IS h ib s st) : PCalls Try.prog w0 72 [.pointer (some ⟨ib, 0, none⟩)] h fun r h' => r = .bool st.isBad ∧ h' = h := by
  refine zAp Try.func72 (by kernel_rfl) rfl _ Try.ntmps72 (by kernel_rfl) (by kernel_rfl) _ Try.results72 ?_
  cases st with
  | ok t =>
    obtain ⟨a, h1, h2, h3⟩ := hi
    simp -dsimp -implicitDefEqProofs (disch := first | omega | assumption | (simp only [Option.isSome_some,Qt0]; done) | (simp only [UInt64.reduceToNat,UInt32.reduceToNat,UInt8.reduceToNat,List.length_cons,List.length_nil,List.length_append,Int.toNat_natCast] <;> omega) | fail) only [Nat.reduceLT,Nat.reduceLeDiff,Nat.reduceEqDiff,↓reduceIte,Int.reduceLT,Int.reduceLE,Int.reduceToNat,Int.reduceEq,Int.reduceNe,Nat.reduceAdd,UInt8.reduceOfNat,UInt16.reduceOfNat,UInt32.reduceOfNat,UInt64.reduceOfNat,UInt64.reduceToNat,UInt32.reduceToNat,UInt16.reduceToNat,UInt8.reduceToNat,Int.reduceAdd,Int.reduceSub,Int.reduceMul,Nat.reduceMul,Qp0,Qp1,Ql0,Qe0,zAa,zAb,h3]
    exact ⟨_, PH.Le.refl _, by rfl, rfl⟩
  | bad p =>
    obtain ⟨a, be, h1, h2, h3, h4⟩ := hi
    unfold errV at *
    simp -dsimp -implicitDefEqProofs (disch := first | omega | assumption | (simp only [Option.isSome_some,Qt0]; done) | (simp only [UInt64.reduceToNat,UInt32.reduceToNat,UInt8.reduceToNat,List.length_cons,List.length_nil,List.length_append,Int.toNat_natCast] <;> omega) | fail) only [Nat.reduceLT,Nat.reduceLeDiff,Nat.reduceEqDiff,↓reduceIte,Int.reduceLT,Int.reduceLE,Int.reduceToNat,Int.reduceEq,Int.reduceNe,Nat.reduceAdd,UInt8.reduceOfNat,UInt16.reduceOfNat,UInt32.reduceOfNat,UInt64.reduceOfNat,UInt64.reduceToNat,UInt32.reduceToNat,UInt16.reduceToNat,UInt8.reduceToNat,Int.reduceAdd,Int.reduceSub,Int.reduceMul,Nat.reduceMul,Qp0,Qp1,Ql0,Qe0,zAa,zAb,h3]
    exact ⟨_, PH.Le.refl _, by rfl, rfl⟩
set_option maxRecDepth 20000 in
theorem wrongI_ok (a p : Nat) (ha : a ≤ s.length) (h3 : h.m ib = some ⟨[str s, .int .i64 a, .nilIface], 3⟩) : PCalls Try.prog w0 73 [.pointer (some ⟨ib, 0, none⟩), .int .i64 p] h fun r h' => IS h' ib s (.bad p) ∧ Chg (· = ib) h h' := by
  refine zAp Try.func73 (by kernel_rfl) rfl _ Try.ntmps73 (by kernel_rfl) (by kernel_rfl) _ Try.results73 ?_
  simp -dsimp -implicitDefEqProofs (disch := first | omega | assumption | (simp only [Option.isSome_some,Qt0]; done) | (simp only [UInt64.reduceToNat,UInt32.reduceToNat,UInt8.reduceToNat,List.length_cons,List.length_nil,List.length_append,Int.toNat_natCast] <;> omega) | fail) only [Nat.reduceLT,Nat.reduceLeDiff,Nat.reduceEqDiff,↓reduceIte,Int.reduceLT,Int.reduceLE,Int.reduceToNat,Int.reduceEq,Int.reduceNe,Nat.reduceAdd,UInt8.reduceOfNat,UInt16.reduceOfNat,UInt32.reduceOfNat,UInt64.reduceOfNat,UInt64.reduceToNat,UInt32.reduceToNat,UInt16.reduceToNat,UInt8.reduceToNat,Int.reduceAdd,Int.reduceSub,Int.reduceMul,Nat.reduceMul,Qp0,Qp1,Ql0,Qe0,zAa,zAb,h3]
  refine (zCq wireT _ _ _ w0 h).mono ?_
  rintro v hq ⟨be, rfl, hbe, rfl⟩
  have hle := (PH.Le.refl h).new be ⟨[str wireT, .int .i64 p, .iface 44 (.int .i64 2)], 3⟩ hbe
  have hbm : (h.new be ⟨[str wireT, .int .i64 p, .iface 44 (.int .i64 2)], 3⟩).m be = some ⟨[str wireT, .int .i64 p, .iface 44 (.int .i64 2)], 3⟩ := by rw [PH.new_m, if_pos rfl]
  have hlt := h.lt _ _ h3
  generalize h.new be ⟨[str wireT, .int .i64 p, .iface 44 (.int .i64 2)], 3⟩ = q at *
  have hi1 := hle.m _ _ h3
  unfold errV
  simp -dsimp -implicitDefEqProofs (disch := first | omega | assumption | (simp only [Option.isSome_some,Qt0]; done) | (simp only [UInt64.reduceToNat,UInt32.reduceToNat,UInt8.reduceToNat,List.length_cons,List.length_nil,List.length_append,Int.toNat_natCast] <;> omega) | fail) only [Nat.reduceLT,Nat.reduceLeDiff,Nat.reduceEqDiff,↓reduceIte,Int.reduceLT,Int.reduceLE,Int.reduceToNat,Int.reduceEq,Int.reduceNe,Nat.reduceAdd,UInt8.reduceOfNat,UInt16.reduceOfNat,UInt32.reduceOfNat,UInt64.reduceOfNat,UInt64.reduceToNat,UInt32.reduceToNat,UInt16.reduceToNat,UInt8.reduceToNat,Int.reduceAdd,Int.reduceSub,Int.reduceMul,Nat.reduceMul,Qp0,Qp1,Ql0,Qe0,hi1,List.set_cons_zero,List.set_cons_succ]
  refine ⟨_, PH.Le.refl _, ⟨a, be, ha, by omega, by rw [PH.new_m, if_pos rfl]; rfl, by rw [PH.new_m, if_neg (by omega)]; exact hbm⟩, (Chg.le hle).one _⟩
set_option maxRecDepth 20000 in
theorem wrongI_bad (p q : Nat) (hi : IS h ib s (.bad q)) : PCalls Try.prog w0 73 [.pointer (some ⟨ib, 0, none⟩), .int .i64 p] h fun r h' => h' = h := by
  refine zAp Try.func73 (by kernel_rfl) rfl _ Try.ntmps73 (by kernel_rfl) (by kernel_rfl) _ Try.results73 ?_
  obtain ⟨a, be, h1, h2, h3, h4⟩ := hi
  unfold errV at *
  simp -dsimp -implicitDefEqProofs (disch := first | omega | assumption | (simp only [Option.isSome_some,Qt0]; done) | (simp only [UInt64.reduceToNat,UInt32.reduceToNat,UInt8.reduceToNat,List.length_cons,List.length_nil,List.length_append,Int.toNat_natCast] <;> omega) | fail) only [Nat.reduceLT,Nat.reduceLeDiff,Nat.reduceEqDiff,↓reduceIte,Int.reduceLT,Int.reduceLE,Int.reduceToNat,Int.reduceEq,Int.reduceNe,Nat.reduceAdd,UInt8.reduceOfNat,UInt16.reduceOfNat,UInt32.reduceOfNat,UInt64.reduceOfNat,UInt64.reduceToNat,UInt32.reduceToNat,UInt16.reduceToNat,UInt8.reduceToNat,Int.reduceAdd,Int.reduceSub,Int.reduceMul,Nat.reduceMul,Qp0,Qp1,Ql0,Qe0,zAa,zAb,h3]
  exact ⟨_, PH.Le.refl _, rfl⟩
def numS (most : Int) (len : Nat) (st : St) : Nat × St := st.step (fun t => numP t most) 0 len
theorem zDa {most : Int} {t : List UInt8} (len : Nat) (h : numP t most = none) : numS most len (.ok t) = (0, .bad (len - t.length)) := by
  unfold numS St.step; simp [h]
theorem scan_end (k acc : Nat) : scan k acc [] = none := by simp [scan]
theorem scan_nine (acc : Nat) (t : List UInt8) : scan 9 acc t = none := by cases t <;> simp [scan]
theorem zFd {most : Int} {t : List UInt8} (h : scan 0 0 t = none) : numP t most = none := by unfold numP; rw [h]; rfl
theorem numP_scan2 {most : Int} {t : List UInt8} {n : Nat} {u : List UInt8} (h : scan 0 0 t = some (n, u)) : numP t most = if most < (n : Int) ∨ top62 < n then none else some (n, u) := by unfold numP; rw [h]; rfl
set_option maxRecDepth 20000 in
set_option maxHeartbeats 2000000 in
theorem zEf (hs : s.length ≤ 1000000000) (most : Int) (st : St) (hi : IS h ib s st) : PCalls Try.prog w0 59 [.pointer (some ⟨ib, 0, none⟩), .int .i64 most] h fun r h' => r = .int .i64 (numS most s.length st).1 ∧ IS h' ib s (numS most s.length st).2 ∧ Chg (· = ib) h h' := by
  refine zAp Try.func59 (by kernel_rfl) rfl _ Try.ntmps59 (by kernel_rfl) (by kernel_rfl) _ Try.results59 ?_
  have hB := Lib.hid (bad_any w0 h ib s st hi)
  cases st with
  | bad p =>
    have hn : numS most s.length (.bad p) = (0, .bad p) := rfl
    have hb : St.isBad (.bad p) = true := rfl
    rw [hn]
    simp -dsimp -implicitDefEqProofs (disch := first | omega | assumption | (simp only [Option.isSome_some,Qt0]; done) | (simp only [UInt64.reduceToNat,UInt32.reduceToNat,UInt8.reduceToNat,List.length_cons,List.length_nil,List.length_append,Int.toNat_natCast] <;> omega) | fail) only [Nat.reduceLT,Nat.reduceLeDiff,Nat.reduceEqDiff,↓reduceIte,Int.reduceLT,Int.reduceLE,Int.reduceToNat,Int.reduceEq,Int.reduceNe,Nat.reduceAdd,UInt8.reduceOfNat,UInt16.reduceOfNat,UInt32.reduceOfNat,UInt64.reduceOfNat,UInt64.reduceToNat,UInt32.reduceToNat,UInt16.reduceToNat,UInt8.reduceToNat,Int.reduceAdd,Int.reduceSub,Int.reduceMul,Nat.reduceMul,Qp0,Qp1,Ql0,Qe0]
    refine hB.out.mono ?_
    rintro v hq ⟨rfl, hz⟩
    obtain rfl := hz.symm
    simp -dsimp -implicitDefEqProofs (disch := first | omega | assumption | (simp only [Option.isSome_some,Qt0]; done) | (simp only [UInt64.reduceToNat,UInt32.reduceToNat,UInt8.reduceToNat,List.length_cons,List.length_nil,List.length_append,Int.toNat_natCast] <;> omega) | fail) only [Nat.reduceLT,Nat.reduceLeDiff,Nat.reduceEqDiff,↓reduceIte,Int.reduceLT,Int.reduceLE,Int.reduceToNat,Int.reduceEq,Int.reduceNe,Nat.reduceAdd,UInt8.reduceOfNat,UInt16.reduceOfNat,UInt32.reduceOfNat,UInt64.reduceOfNat,UInt64.reduceToNat,UInt32.reduceToNat,UInt16.reduceToNat,UInt8.reduceToNat,Int.reduceAdd,Int.reduceSub,Int.reduceMul,Nat.reduceMul,Qp0,Qp1,Ql0,Qe0,hb]
    exact ⟨_, PH.Le.refl _, by trivial, hi, Chg.refl _ _⟩
  | ok t =>
    obtain ⟨a0, h1, rfl, h3⟩ := hi
    have hb : St.isBad (.ok (s.drop a0)) = false := rfl
    simp -dsimp -implicitDefEqProofs (disch := first | omega | assumption | (simp only [Option.isSome_some,Qt0]; done) | (simp only [UInt64.reduceToNat,UInt32.reduceToNat,UInt8.reduceToNat,List.length_cons,List.length_nil,List.length_append,Int.toNat_natCast] <;> omega) | fail) only [Nat.reduceLT,Nat.reduceLeDiff,Nat.reduceEqDiff,↓reduceIte,Int.reduceLT,Int.reduceLE,Int.reduceToNat,Int.reduceEq,Int.reduceNe,Nat.reduceAdd,UInt8.reduceOfNat,UInt16.reduceOfNat,UInt32.reduceOfNat,UInt64.reduceOfNat,UInt64.reduceToNat,UInt32.reduceToNat,UInt16.reduceToNat,UInt8.reduceToNat,Int.reduceAdd,Int.reduceSub,Int.reduceMul,Nat.reduceMul,Qp0,Qp1,Ql0,Qe0]
    refine hB.out.mono ?_
    rintro v hq ⟨rfl, hz⟩
    obtain rfl := hz.symm
    simp -dsimp -implicitDefEqProofs (disch := first | omega | assumption | (simp only [Option.isSome_some,Qt0]; done) | (simp only [UInt64.reduceToNat,UInt32.reduceToNat,UInt8.reduceToNat,List.length_cons,List.length_nil,List.length_append,Int.toNat_natCast] <;> omega) | fail) only [Nat.reduceLT,Nat.reduceLeDiff,Nat.reduceEqDiff,↓reduceIte,Int.reduceLT,Int.reduceLE,Int.reduceToNat,Int.reduceEq,Int.reduceNe,Nat.reduceAdd,UInt8.reduceOfNat,UInt16.reduceOfNat,UInt32.reduceOfNat,UInt64.reduceOfNat,UInt64.reduceToNat,UInt32.reduceToNat,UInt16.reduceToNat,UInt8.reduceToNat,Int.reduceAdd,Int.reduceSub,Int.reduceMul,Nat.reduceMul,Qp0,Qp1,Ql0,Qe0,hb]
    refine zA3 6 _ (by kernel_rfl) (by kernel_rfl) (by kernel_rfl) (by kernel_rfl) (by kernel_rfl) (fun c f h hq => by simp only [zAy, zAv, zAw, zAu, zAx] at hq) (PH.Le.refl _).sub ?_
    simp -dsimp -implicitDefEqProofs (disch := first | omega | assumption | (simp only [Option.isSome_some,Qt0]; done) | (simp only [UInt64.reduceToNat,UInt32.reduceToNat,UInt8.reduceToNat,List.length_cons,List.length_nil,List.length_append,Int.toNat_natCast] <;> omega) | fail) only [Nat.reduceLT,Nat.reduceLeDiff,Nat.reduceEqDiff,↓reduceIte,Int.reduceLT,Int.reduceLE,Int.reduceToNat,Int.reduceEq,Int.reduceNe,Nat.reduceAdd,UInt8.reduceOfNat,UInt16.reduceOfNat,UInt32.reduceOfNat,UInt64.reduceOfNat,UInt64.reduceToNat,UInt32.reduceToNat,UInt16.reduceToNat,UInt8.reduceToNat,Int.reduceAdd,Int.reduceSub,Int.reduceMul,Nat.reduceMul,Qp0,Qp1,Ql0,Qe0,zAa,zAb,h3]
    refine zBs (fun n f h' => ∃ k acc : Nat, n + k = 9 ∧ f 0 = some (.pointer (some ⟨ib, 0, none⟩)) ∧ f 1 = some (.int .i64 most) ∧ f 5 = some (.int .i64 acc) ∧ f 6 = some (.int .i64 a0) ∧ f 7 = some (.int .i64 k) ∧ h'.m ib = some ⟨[str s, .int .i64 (a0 + k : Nat), .nilIface], 3⟩ ∧ acc < 128 ^ k ∧ scan 0 0 (s.drop a0) = scan k acc (s.drop (a0 + k)) ∧ a0 + k ≤ s.length ∧ Chg (· = ib) h h') (by kernel_rfl) 9 ⟨0, 0, rfl, ?_, ?_, ?_, ?_, ?_, h3, by omega, rfl, h1, Chg.refl _ _⟩ ?_
    · simp -dsimp -implicitDefEqProofs (disch := first | omega | assumption | (simp only [Option.isSome_some,Qt0]; done) | (simp only [UInt64.reduceToNat,UInt32.reduceToNat,UInt8.reduceToNat,List.length_cons,List.length_nil,List.length_append,Int.toNat_natCast] <;> omega) | fail) only [Nat.reduceLT,Nat.reduceLeDiff,Nat.reduceEqDiff,↓reduceIte,Int.reduceLT,Int.reduceLE,Int.reduceToNat,Int.reduceEq,Int.reduceNe,Nat.reduceAdd,UInt8.reduceOfNat,UInt16.reduceOfNat,UInt32.reduceOfNat,UInt64.reduceOfNat,UInt64.reduceToNat,UInt32.reduceToNat,UInt16.reduceToNat,UInt8.reduceToNat,Int.reduceAdd,Int.reduceSub,Int.reduceMul,Nat.reduceMul,Qp0,Qp1,Ql0,Qe0]
    · simp -dsimp -implicitDefEqProofs (disch := first | omega | assumption | (simp only [Option.isSome_some,Qt0]; done) | (simp only [UInt64.reduceToNat,UInt32.reduceToNat,UInt8.reduceToNat,List.length_cons,List.length_nil,List.length_append,Int.toNat_natCast] <;> omega) | fail) only [Nat.reduceLT,Nat.reduceLeDiff,Nat.reduceEqDiff,↓reduceIte,Int.reduceLT,Int.reduceLE,Int.reduceToNat,Int.reduceEq,Int.reduceNe,Nat.reduceAdd,UInt8.reduceOfNat,UInt16.reduceOfNat,UInt32.reduceOfNat,UInt64.reduceOfNat,UInt64.reduceToNat,UInt32.reduceToNat,UInt16.reduceToNat,UInt8.reduceToNat,Int.reduceAdd,Int.reduceSub,Int.reduceMul,Nat.reduceMul,Qp0,Qp1,Ql0,Qe0]
    · simp -dsimp -implicitDefEqProofs (disch := first | omega | assumption | (simp only [Option.isSome_some,Qt0]; done) | (simp only [UInt64.reduceToNat,UInt32.reduceToNat,UInt8.reduceToNat,List.length_cons,List.length_nil,List.length_append,Int.toNat_natCast] <;> omega) | fail) only [Nat.reduceLT,Nat.reduceLeDiff,Nat.reduceEqDiff,↓reduceIte,Int.reduceLT,Int.reduceLE,Int.reduceToNat,Int.reduceEq,Int.reduceNe,Nat.reduceAdd,UInt8.reduceOfNat,UInt16.reduceOfNat,UInt32.reduceOfNat,UInt64.reduceOfNat,UInt64.reduceToNat,UInt32.reduceToNat,UInt16.reduceToNat,UInt8.reduceToNat,Int.reduceAdd,Int.reduceSub,Int.reduceMul,Nat.reduceMul,Qp0,Qp1,Ql0,Qe0]
      try rfl
    · simp -dsimp -implicitDefEqProofs (disch := first | omega | assumption | (simp only [Option.isSome_some,Qt0]; done) | (simp only [UInt64.reduceToNat,UInt32.reduceToNat,UInt8.reduceToNat,List.length_cons,List.length_nil,List.length_append,Int.toNat_natCast] <;> omega) | fail) only [Nat.reduceLT,Nat.reduceLeDiff,Nat.reduceEqDiff,↓reduceIte,Int.reduceLT,Int.reduceLE,Int.reduceToNat,Int.reduceEq,Int.reduceNe,Nat.reduceAdd,UInt8.reduceOfNat,UInt16.reduceOfNat,UInt32.reduceOfNat,UInt64.reduceOfNat,UInt64.reduceToNat,UInt32.reduceToNat,UInt16.reduceToNat,UInt8.reduceToNat,Int.reduceAdd,Int.reduceSub,Int.reduceMul,Nat.reduceMul,Qp0,Qp1,Ql0,Qe0]
    · simp -dsimp -implicitDefEqProofs (disch := first | omega | assumption | (simp only [Option.isSome_some,Qt0]; done) | (simp only [UInt64.reduceToNat,UInt32.reduceToNat,UInt8.reduceToNat,List.length_cons,List.length_nil,List.length_append,Int.toNat_natCast] <;> omega) | fail) only [Nat.reduceLT,Nat.reduceLeDiff,Nat.reduceEqDiff,↓reduceIte,Int.reduceLT,Int.reduceLE,Int.reduceToNat,Int.reduceEq,Int.reduceNe,Nat.reduceAdd,UInt8.reduceOfNat,UInt16.reduceOfNat,UInt32.reduceOfNat,UInt64.reduceOfNat,UInt64.reduceToNat,UInt32.reduceToNat,UInt16.reduceToNat,UInt8.reduceToNat,Int.reduceAdd,Int.reduceSub,Int.reduceMul,Nat.reduceMul,Qp0,Qp1,Ql0,Qe0]
      try rfl
    clear hB
    rintro n f h' ⟨k, acc, hnk, f0, f1, f5, f6, f7, hm, hacc, hsc, hak, hch⟩
    have hW := Lib.hid fun (h' : PH) (a : Nat) (ha : a ≤ s.length) hm => wrongI_ok w0 h' ib s a a0 ha hm
    have hfl : s.length - (s.drop a0).length = a0 := by simp; omega
    by_cases hk : k < 9
    · have e1 : decide ((k : Int) < 9) = true := decide_eq_true (by omega)
      by_cases hlt : a0 + k < s.length
      · have e2 : decide (((a0 + k : Nat) : Int) < (s.length : Int)) = true := decide_eq_true (by omega)
        obtain ⟨c, hc⟩ : ∃ c, c = s.getD (a0 + k) 0 := ⟨_, rfl⟩
        have hdr : s.drop (a0 + k) = c :: s.drop (a0 + k + 1) := by rw [List.drop_eq_getElem_cons hlt, hc, List.getD, List.getElem?_eq_getElem hlt]; rfl
        rw [hdr, scan, if_neg (by omega)] at hsc
        have hc128 := c.toNat_lt
        obtain ⟨x, hx⟩ : ∃ x : Nat, x = (c.toNat % 128) * 128 ^ k := ⟨_, rfl⟩
        have hp9 := pow9 hk (c.toNat % 128) (Nat.mod_lt _ (by omega))
        rw [Nat.add_mul, Nat.one_mul, ← hx] at hp9
        have hand : (c &&& 127).toNat = c.toNat % 128 := by
          rw [UInt8.toNat_and]; exact Nat.and_two_pow_sub_one_eq_mod _ 7
        have hsh : ∀ {t : TypeId} {x' y : Operand} {K : Value → Prop}, Yld Try.prog (binS .shl t x' y (.int .i64 ((c &&& 127).toNat : Nat)) (.int .i64 (7 * (k : Int)))) K = K (.int .i64 (x : Nat)) := fun {t x' y K} => by
          have e : (7 * (k : Int)).toNat = 7 * k := by omega
          have e3 : (((c &&& 127).toNat : Nat) : Int) * 2 ^ (7 * k) = (x : Int) := by
            rw [hand, hx]
            push_cast
            rw [show (128 : Int) = 2 ^ 7 by rfl, ← Int.pow_mul]
          rw [y_shlII _ _ (by omega) (by omega) (by omega) (by rw [e, e3]; omega), e, e3]
        obtain ⟨q, hq⟩ : ∃ q : Nat, q = acc + x := ⟨_, rfl⟩
        have hor : ∀ {t : TypeId} {x' y : Operand} {K : Value → Prop}, Yld Try.prog (binS .or t x' y (.int .i64 (acc : Nat)) (.int .i64 (x : Nat))) K = K (.int .i64 (q : Nat)) := fun {t x' y K} => by
          rw [y_orI _ _ (by omega) (by omega) (by omega) (by omega), Int.toNat_natCast, Int.toNat_natCast, hq, hx, ← or_add hacc]
        have hq1 : q < 128 ^ (k + 1) := by
          have h5 : (c.toNat % 128 + 1) * 128 ^ k ≤ 128 * 128 ^ k := Nat.mul_le_mul_right _ (by omega)
          rw [Nat.add_mul, Nat.one_mul, ← hx] at h5
          rw [Nat.pow_succ]; omega
        rw [← hx, ← hq] at hsc
        generalize ha : a0 + k = a at *
        have hga : s.getD a 0 = c := hc.symm
        have hat : (a : Int) < (s.length : Int) := by omega
        simp -dsimp -implicitDefEqProofs (disch := first | omega | assumption | (simp only [Option.isSome_some,Qt0]; done) | (simp only [UInt64.reduceToNat,UInt32.reduceToNat,UInt8.reduceToNat,List.length_cons,List.length_nil,List.length_append,Int.toNat_natCast] <;> omega) | fail) only [Nat.reduceLT,Nat.reduceLeDiff,Nat.reduceEqDiff,↓reduceIte,Int.reduceLT,Int.reduceLE,Int.reduceToNat,Int.reduceEq,Int.reduceNe,Nat.reduceAdd,UInt8.reduceOfNat,UInt16.reduceOfNat,UInt32.reduceOfNat,UInt64.reduceOfNat,UInt64.reduceToNat,UInt32.reduceToNat,UInt16.reduceToNat,UInt8.reduceToNat,Int.reduceAdd,Int.reduceSub,Int.reduceMul,Nat.reduceMul,Qp0,Qp1,Ql0,Qe0,f0,f1,f5,f6,f7,e1]
        refine zA3 14 _ (by kernel_rfl) (by kernel_rfl) (by kernel_rfl) (by kernel_rfl) (by kernel_rfl) (fun c f h hq => by simp only [zAy, zAv, zAw, zAu, zAx] at hq) (PH.Le.refl _).sub ?_
        simp -dsimp -implicitDefEqProofs (disch := first | omega | assumption | (simp only [Option.isSome_some,Qt0]; done) | (simp only [UInt64.reduceToNat,UInt32.reduceToNat,UInt8.reduceToNat,List.length_cons,List.length_nil,List.length_append,Int.toNat_natCast] <;> omega) | fail) only [Nat.reduceLT,Nat.reduceLeDiff,Nat.reduceEqDiff,↓reduceIte,Int.reduceLT,Int.reduceLE,Int.reduceToNat,Int.reduceEq,Int.reduceNe,Nat.reduceAdd,UInt8.reduceOfNat,UInt16.reduceOfNat,UInt32.reduceOfNat,UInt64.reduceOfNat,UInt64.reduceToNat,UInt32.reduceToNat,UInt16.reduceToNat,UInt8.reduceToNat,Int.reduceAdd,Int.reduceSub,Int.reduceMul,Nat.reduceMul,Qp0,Qp1,Ql0,Qe0,f0,f1,f5,f6,f7,e1,zAa,zAb,hm,e2]
        refine zA3 10 _ (by kernel_rfl) (by kernel_rfl) (by kernel_rfl) (by kernel_rfl) (by kernel_rfl) (fun c f h hq => by simp only [zAy, zAv, zAw, zAu, zAx] at hq) (PH.Le.refl _).sub ?_
        simp -dsimp -implicitDefEqProofs (disch := first | omega | assumption | (simp only [Option.isSome_some,Qt0]; done) | (simp only [UInt64.reduceToNat,UInt32.reduceToNat,UInt8.reduceToNat,List.length_cons,List.length_nil,List.length_append,Int.toNat_natCast] <;> omega) | fail) only [Nat.reduceLT,Nat.reduceLeDiff,Nat.reduceEqDiff,↓reduceIte,Int.reduceLT,Int.reduceLE,Int.reduceToNat,Int.reduceEq,Int.reduceNe,Nat.reduceAdd,UInt8.reduceOfNat,UInt16.reduceOfNat,UInt32.reduceOfNat,UInt64.reduceOfNat,UInt64.reduceToNat,UInt32.reduceToNat,UInt16.reduceToNat,UInt8.reduceToNat,Int.reduceAdd,Int.reduceSub,Int.reduceMul,Nat.reduceMul,Qp0,Qp1,Ql0,Qe0,f0,f1,f5,f6,f7,zAa,zAb,hm,hga,List.set_cons_zero,List.set_cons_succ,hsh,hor]
        have hch2 := hch.one ⟨[str s, .int .i64 ((a : Int) + 1), .nilIface], 3⟩
        have hm2 : (h'.new ib ⟨[str s, .int .i64 ((a : Int) + 1), .nilIface], 3⟩).m ib = some ⟨[str s, .int .i64 ((a + 1 : Nat) : Int), .nilIface], 3⟩ := by rw [PH.new_m, if_pos rfl]; rfl
        generalize h'.new ib ⟨[str s, .int .i64 ((a : Int) + 1), .nilIface], 3⟩ = h2 at *
        cases p1 : decide (128 ≤ c) with
        | true =>
          have hc1 : 128 ≤ c.toNat := UInt8.le_iff_toNat_le.1 (of_decide_eq_true p1)
          rw [if_pos hc1] at hsc
          simp -dsimp -implicitDefEqProofs (disch := first | omega | assumption | (simp only [Option.isSome_some,Qt0]; done) | (simp only [UInt64.reduceToNat,UInt32.reduceToNat,UInt8.reduceToNat,List.length_cons,List.length_nil,List.length_append,Int.toNat_natCast] <;> omega) | fail) only [Nat.reduceLT,Nat.reduceLeDiff,Nat.reduceEqDiff,↓reduceIte,Int.reduceLT,Int.reduceLE,Int.reduceToNat,Int.reduceEq,Int.reduceNe,Nat.reduceAdd,UInt8.reduceOfNat,UInt16.reduceOfNat,UInt32.reduceOfNat,UInt64.reduceOfNat,UInt64.reduceToNat,UInt32.reduceToNat,UInt16.reduceToNat,UInt8.reduceToNat,Int.reduceAdd,Int.reduceSub,Int.reduceMul,Nat.reduceMul,Qp0,Qp1,Ql0,Qe0,p1,f0,f1,f5,f6,f7]
          exact ⟨n - 1, _, by omega, PH.Le.refl _, k + 1, q, by omega, by trivial, by trivial, by trivial, by trivial, by simp, by rw [show ((a0 : Int) + ((k + 1 : Nat) : Int)) = ((a + 1 : Nat) : Int) by omega]; exact hm2, hq1, by rw [hsc]; congr 2; omega, by omega, hch2⟩
        | false =>
          have hc1 : ¬ 128 ≤ c.toNat := by
            have : ¬ (128 ≤ c) := of_decide_eq_false p1
            intro h; exact this (UInt8.le_iff_toNat_le.2 h)
          rw [if_neg hc1] at hsc
          have hqc : acc + c.toNat * 128 ^ k = q := by rw [hq, hx, Nat.mod_eq_of_lt (by omega)]
          rw [hqc] at hsc
          by_cases hz : c.toNat = 0 ∧ 0 < k
          · rw [if_pos hz] at hsc
            have hF : numS most s.length (.ok (s.drop a0)) = (0, .bad a0) := by rw [zDa _ (zFd hsc), hfl]
            have e3 : decide (c = 0) = true := decide_eq_true (UInt8.toNat_inj.1 (by simpa using hz.1))
            have e4 : decide ((k : Int) > 0) = true := decide_eq_true (by omega)
            rw [hF]
            simp -dsimp -implicitDefEqProofs (disch := first | omega | assumption | (simp only [Option.isSome_some,Qt0]; done) | (simp only [UInt64.reduceToNat,UInt32.reduceToNat,UInt8.reduceToNat,List.length_cons,List.length_nil,List.length_append,Int.toNat_natCast] <;> omega) | fail) only [Nat.reduceLT,Nat.reduceLeDiff,Nat.reduceEqDiff,↓reduceIte,Int.reduceLT,Int.reduceLE,Int.reduceToNat,Int.reduceEq,Int.reduceNe,Nat.reduceAdd,UInt8.reduceOfNat,UInt16.reduceOfNat,UInt32.reduceOfNat,UInt64.reduceOfNat,UInt64.reduceToNat,UInt32.reduceToNat,UInt16.reduceToNat,UInt8.reduceToNat,Int.reduceAdd,Int.reduceSub,Int.reduceMul,Nat.reduceMul,Qp0,Qp1,Ql0,Qe0,p1,e3,e4,f0,f1,f5,f6,f7]
            refine (hW.out h2 (a + 1) (by omega) hm2).mono ?_
            rintro v h3 ⟨hi3, hc3⟩
            simp -dsimp -implicitDefEqProofs (disch := first | omega | assumption | (simp only [Option.isSome_some,Qt0]; done) | (simp only [UInt64.reduceToNat,UInt32.reduceToNat,UInt8.reduceToNat,List.length_cons,List.length_nil,List.length_append,Int.toNat_natCast] <;> omega) | fail) only [Nat.reduceLT,Nat.reduceLeDiff,Nat.reduceEqDiff,↓reduceIte,Int.reduceLT,Int.reduceLE,Int.reduceToNat,Int.reduceEq,Int.reduceNe,Nat.reduceAdd,UInt8.reduceOfNat,UInt16.reduceOfNat,UInt32.reduceOfNat,UInt64.reduceOfNat,UInt64.reduceToNat,UInt32.reduceToNat,UInt16.reduceToNat,UInt8.reduceToNat,Int.reduceAdd,Int.reduceSub,Int.reduceMul,Nat.reduceMul,Qp0,Qp1,Ql0,Qe0]
            exact ⟨_, PH.Le.refl _, by trivial, hi3, hch2.trans hc3⟩
          rw [if_neg hz] at hsc
          have hn := numP_scan2 (most := most) hsc
          unfold top62 at hn
          have hg : ∀ (b : Bool), (c.toNat = 0 → k = 0) := fun _ h0 => by omega
          by_cases hm1 : most < (q : Int)
          · rw [if_pos (.inl hm1)] at hn
            have hF : numS most s.length (.ok (s.drop a0)) = (0, .bad a0) := by rw [zDa _ hn, hfl]
            have e5 : decide ((q : Int) > most) = true := decide_eq_true (by omega)
            cases p2 : decide (c = 0) with
            | true =>
              have e4 : decide ((k : Int) > 0) = false := decide_eq_false (by
                have := hg true (by have : c = 0 := by simpa using p2
                                    rw [this]; rfl)
                omega)
              rw [hF]
              simp -dsimp -implicitDefEqProofs (disch := first | omega | assumption | (simp only [Option.isSome_some,Qt0]; done) | (simp only [UInt64.reduceToNat,UInt32.reduceToNat,UInt8.reduceToNat,List.length_cons,List.length_nil,List.length_append,Int.toNat_natCast] <;> omega) | fail) only [Nat.reduceLT,Nat.reduceLeDiff,Nat.reduceEqDiff,↓reduceIte,Int.reduceLT,Int.reduceLE,Int.reduceToNat,Int.reduceEq,Int.reduceNe,Nat.reduceAdd,UInt8.reduceOfNat,UInt16.reduceOfNat,UInt32.reduceOfNat,UInt64.reduceOfNat,UInt64.reduceToNat,UInt32.reduceToNat,UInt16.reduceToNat,UInt8.reduceToNat,Int.reduceAdd,Int.reduceSub,Int.reduceMul,Nat.reduceMul,Qp0,Qp1,Ql0,Qe0,p1,p2,e4,e5,f0,f1,f5,f6,f7]
              refine (hW.out h2 (a + 1) (by omega) hm2).mono ?_
              rintro v h3 ⟨hi3, hc3⟩
              simp -dsimp -implicitDefEqProofs (disch := first | omega | assumption | (simp only [Option.isSome_some,Qt0]; done) | (simp only [UInt64.reduceToNat,UInt32.reduceToNat,UInt8.reduceToNat,List.length_cons,List.length_nil,List.length_append,Int.toNat_natCast] <;> omega) | fail) only [Nat.reduceLT,Nat.reduceLeDiff,Nat.reduceEqDiff,↓reduceIte,Int.reduceLT,Int.reduceLE,Int.reduceToNat,Int.reduceEq,Int.reduceNe,Nat.reduceAdd,UInt8.reduceOfNat,UInt16.reduceOfNat,UInt32.reduceOfNat,UInt64.reduceOfNat,UInt64.reduceToNat,UInt32.reduceToNat,UInt16.reduceToNat,UInt8.reduceToNat,Int.reduceAdd,Int.reduceSub,Int.reduceMul,Nat.reduceMul,Qp0,Qp1,Ql0,Qe0]
              exact ⟨_, PH.Le.refl _, by trivial, hi3, hch2.trans hc3⟩
            | false =>
              rw [hF]
              simp -dsimp -implicitDefEqProofs (disch := first | omega | assumption | (simp only [Option.isSome_some,Qt0]; done) | (simp only [UInt64.reduceToNat,UInt32.reduceToNat,UInt8.reduceToNat,List.length_cons,List.length_nil,List.length_append,Int.toNat_natCast] <;> omega) | fail) only [Nat.reduceLT,Nat.reduceLeDiff,Nat.reduceEqDiff,↓reduceIte,Int.reduceLT,Int.reduceLE,Int.reduceToNat,Int.reduceEq,Int.reduceNe,Nat.reduceAdd,UInt8.reduceOfNat,UInt16.reduceOfNat,UInt32.reduceOfNat,UInt64.reduceOfNat,UInt64.reduceToNat,UInt32.reduceToNat,UInt16.reduceToNat,UInt8.reduceToNat,Int.reduceAdd,Int.reduceSub,Int.reduceMul,Nat.reduceMul,Qp0,Qp1,Ql0,Qe0,p1,p2,e5,f0,f1,f5,f6,f7]
              refine (hW.out h2 (a + 1) (by omega) hm2).mono ?_
              rintro v h3 ⟨hi3, hc3⟩
              simp -dsimp -implicitDefEqProofs (disch := first | omega | assumption | (simp only [Option.isSome_some,Qt0]; done) | (simp only [UInt64.reduceToNat,UInt32.reduceToNat,UInt8.reduceToNat,List.length_cons,List.length_nil,List.length_append,Int.toNat_natCast] <;> omega) | fail) only [Nat.reduceLT,Nat.reduceLeDiff,Nat.reduceEqDiff,↓reduceIte,Int.reduceLT,Int.reduceLE,Int.reduceToNat,Int.reduceEq,Int.reduceNe,Nat.reduceAdd,UInt8.reduceOfNat,UInt16.reduceOfNat,UInt32.reduceOfNat,UInt64.reduceOfNat,UInt64.reduceToNat,UInt32.reduceToNat,UInt16.reduceToNat,UInt8.reduceToNat,Int.reduceAdd,Int.reduceSub,Int.reduceMul,Nat.reduceMul,Qp0,Qp1,Ql0,Qe0]
              exact ⟨_, PH.Le.refl _, by trivial, hi3, hch2.trans hc3⟩
          have e5 : decide ((q : Int) > most) = false := decide_eq_false (by omega)
          by_cases hm3 : 4611686018427387903 < q
          · rw [if_pos (.inr hm3)] at hn
            have hF : numS most s.length (.ok (s.drop a0)) = (0, .bad a0) := by rw [zDa _ hn, hfl]
            have e6 : decide ((q : Int) > 4611686018427387903) = true := decide_eq_true (by omega)
            cases p2 : decide (c = 0) with
            | true =>
              have e4 : decide ((k : Int) > 0) = false := decide_eq_false (by
                have := hg true (by have : c = 0 := by simpa using p2
                                    rw [this]; rfl)
                omega)
              rw [hF]
              simp -dsimp -implicitDefEqProofs (disch := first | omega | assumption | (simp only [Option.isSome_some,Qt0]; done) | (simp only [UInt64.reduceToNat,UInt32.reduceToNat,UInt8.reduceToNat,List.length_cons,List.length_nil,List.length_append,Int.toNat_natCast] <;> omega) | fail) only [Nat.reduceLT,Nat.reduceLeDiff,Nat.reduceEqDiff,↓reduceIte,Int.reduceLT,Int.reduceLE,Int.reduceToNat,Int.reduceEq,Int.reduceNe,Nat.reduceAdd,UInt8.reduceOfNat,UInt16.reduceOfNat,UInt32.reduceOfNat,UInt64.reduceOfNat,UInt64.reduceToNat,UInt32.reduceToNat,UInt16.reduceToNat,UInt8.reduceToNat,Int.reduceAdd,Int.reduceSub,Int.reduceMul,Nat.reduceMul,Qp0,Qp1,Ql0,Qe0,p1,p2,e4,e5,e6,f0,f1,f5,f6,f7]
              refine (hW.out h2 (a + 1) (by omega) hm2).mono ?_
              rintro v h3 ⟨hi3, hc3⟩
              simp -dsimp -implicitDefEqProofs (disch := first | omega | assumption | (simp only [Option.isSome_some,Qt0]; done) | (simp only [UInt64.reduceToNat,UInt32.reduceToNat,UInt8.reduceToNat,List.length_cons,List.length_nil,List.length_append,Int.toNat_natCast] <;> omega) | fail) only [Nat.reduceLT,Nat.reduceLeDiff,Nat.reduceEqDiff,↓reduceIte,Int.reduceLT,Int.reduceLE,Int.reduceToNat,Int.reduceEq,Int.reduceNe,Nat.reduceAdd,UInt8.reduceOfNat,UInt16.reduceOfNat,UInt32.reduceOfNat,UInt64.reduceOfNat,UInt64.reduceToNat,UInt32.reduceToNat,UInt16.reduceToNat,UInt8.reduceToNat,Int.reduceAdd,Int.reduceSub,Int.reduceMul,Nat.reduceMul,Qp0,Qp1,Ql0,Qe0]
              exact ⟨_, PH.Le.refl _, by trivial, hi3, hch2.trans hc3⟩
            | false =>
              rw [hF]
              simp -dsimp -implicitDefEqProofs (disch := first | omega | assumption | (simp only [Option.isSome_some,Qt0]; done) | (simp only [UInt64.reduceToNat,UInt32.reduceToNat,UInt8.reduceToNat,List.length_cons,List.length_nil,List.length_append,Int.toNat_natCast] <;> omega) | fail) only [Nat.reduceLT,Nat.reduceLeDiff,Nat.reduceEqDiff,↓reduceIte,Int.reduceLT,Int.reduceLE,Int.reduceToNat,Int.reduceEq,Int.reduceNe,Nat.reduceAdd,UInt8.reduceOfNat,UInt16.reduceOfNat,UInt32.reduceOfNat,UInt64.reduceOfNat,UInt64.reduceToNat,UInt32.reduceToNat,UInt16.reduceToNat,UInt8.reduceToNat,Int.reduceAdd,Int.reduceSub,Int.reduceMul,Nat.reduceMul,Qp0,Qp1,Ql0,Qe0,p1,p2,e5,e6,f0,f1,f5,f6,f7]
              refine (hW.out h2 (a + 1) (by omega) hm2).mono ?_
              rintro v h3 ⟨hi3, hc3⟩
              simp -dsimp -implicitDefEqProofs (disch := first | omega | assumption | (simp only [Option.isSome_some,Qt0]; done) | (simp only [UInt64.reduceToNat,UInt32.reduceToNat,UInt8.reduceToNat,List.length_cons,List.length_nil,List.length_append,Int.toNat_natCast] <;> omega) | fail) only [Nat.reduceLT,Nat.reduceLeDiff,Nat.reduceEqDiff,↓reduceIte,Int.reduceLT,Int.reduceLE,Int.reduceToNat,Int.reduceEq,Int.reduceNe,Nat.reduceAdd,UInt8.reduceOfNat,UInt16.reduceOfNat,UInt32.reduceOfNat,UInt64.reduceOfNat,UInt64.reduceToNat,UInt32.reduceToNat,UInt16.reduceToNat,UInt8.reduceToNat,Int.reduceAdd,Int.reduceSub,Int.reduceMul,Nat.reduceMul,Qp0,Qp1,Ql0,Qe0]
              exact ⟨_, PH.Le.refl _, by trivial, hi3, hch2.trans hc3⟩
          have e6 : decide ((q : Int) > 4611686018427387903) = false := decide_eq_false (by omega)
          rw [if_neg (by omega)] at hn
          have hF : numS most s.length (.ok (s.drop a0)) = (q, .ok (s.drop (a + 1))) := by unfold numS St.step; simp only [hn]
          rw [hF]
          have hend : IS h2 ib s (.ok (s.drop (a + 1))) := ⟨a + 1, by omega, rfl, hm2⟩
          cases p2 : decide (c = 0) with
          | true =>
            have e4 : decide ((k : Int) > 0) = false := decide_eq_false (by
              have := hg true (by have : c = 0 := by simpa using p2
                                  rw [this]; rfl)
              omega)
            simp -dsimp -implicitDefEqProofs (disch := first | omega | assumption | (simp only [Option.isSome_some,Qt0]; done) | (simp only [UInt64.reduceToNat,UInt32.reduceToNat,UInt8.reduceToNat,List.length_cons,List.length_nil,List.length_append,Int.toNat_natCast] <;> omega) | fail) only [Nat.reduceLT,Nat.reduceLeDiff,Nat.reduceEqDiff,↓reduceIte,Int.reduceLT,Int.reduceLE,Int.reduceToNat,Int.reduceEq,Int.reduceNe,Nat.reduceAdd,UInt8.reduceOfNat,UInt16.reduceOfNat,UInt32.reduceOfNat,UInt64.reduceOfNat,UInt64.reduceToNat,UInt32.reduceToNat,UInt16.reduceToNat,UInt8.reduceToNat,Int.reduceAdd,Int.reduceSub,Int.reduceMul,Nat.reduceMul,Qp0,Qp1,Ql0,Qe0,p1,p2,e4,e5,e6,f0,f1,f5,f6,f7]
            exact ⟨_, PH.Le.refl _, by trivial, hend, hch2⟩
          | false =>
            simp -dsimp -implicitDefEqProofs (disch := first | omega | assumption | (simp only [Option.isSome_some,Qt0]; done) | (simp only [UInt64.reduceToNat,UInt32.reduceToNat,UInt8.reduceToNat,List.length_cons,List.length_nil,List.length_append,Int.toNat_natCast] <;> omega) | fail) only [Nat.reduceLT,Nat.reduceLeDiff,Nat.reduceEqDiff,↓reduceIte,Int.reduceLT,Int.reduceLE,Int.reduceToNat,Int.reduceEq,Int.reduceNe,Nat.reduceAdd,UInt8.reduceOfNat,UInt16.reduceOfNat,UInt32.reduceOfNat,UInt64.reduceOfNat,UInt64.reduceToNat,UInt32.reduceToNat,UInt16.reduceToNat,UInt8.reduceToNat,Int.reduceAdd,Int.reduceSub,Int.reduceMul,Nat.reduceMul,Qp0,Qp1,Ql0,Qe0,p1,p2,e5,e6,f0,f1,f5,f6,f7]
            exact ⟨_, PH.Le.refl _, by trivial, hend, hch2⟩
      · have e2 : decide (((a0 + k : Nat) : Int) < (s.length : Int)) = false := decide_eq_false (by omega)
        rw [show s.drop (a0 + k) = [] from List.drop_eq_nil_of_le (by omega), scan_end] at hsc
        have hF : numS most s.length (.ok (s.drop a0)) = (0, .bad a0) := by rw [zDa _ (zFd hsc), hfl]
        generalize ha : a0 + k = a at *
        rw [hF]
        simp -dsimp -implicitDefEqProofs (disch := first | omega | assumption | (simp only [Option.isSome_some,Qt0]; done) | (simp only [UInt64.reduceToNat,UInt32.reduceToNat,UInt8.reduceToNat,List.length_cons,List.length_nil,List.length_append,Int.toNat_natCast] <;> omega) | fail) only [Nat.reduceLT,Nat.reduceLeDiff,Nat.reduceEqDiff,↓reduceIte,Int.reduceLT,Int.reduceLE,Int.reduceToNat,Int.reduceEq,Int.reduceNe,Nat.reduceAdd,UInt8.reduceOfNat,UInt16.reduceOfNat,UInt32.reduceOfNat,UInt64.reduceOfNat,UInt64.reduceToNat,UInt32.reduceToNat,UInt16.reduceToNat,UInt8.reduceToNat,Int.reduceAdd,Int.reduceSub,Int.reduceMul,Nat.reduceMul,Qp0,Qp1,Ql0,Qe0,f0,f1,f5,f6,f7,e1]
        refine zA3 14 _ (by kernel_rfl) (by kernel_rfl) (by kernel_rfl) (by kernel_rfl) (by kernel_rfl) (fun c f h hq => by simp only [zAy, zAv, zAw, zAu, zAx] at hq) (PH.Le.refl _).sub ?_
        simp -dsimp -implicitDefEqProofs (disch := first | omega | assumption | (simp only [Option.isSome_some,Qt0]; done) | (simp only [UInt64.reduceToNat,UInt32.reduceToNat,UInt8.reduceToNat,List.length_cons,List.length_nil,List.length_append,Int.toNat_natCast] <;> omega) | fail) only [Nat.reduceLT,Nat.reduceLeDiff,Nat.reduceEqDiff,↓reduceIte,Int.reduceLT,Int.reduceLE,Int.reduceToNat,Int.reduceEq,Int.reduceNe,Nat.reduceAdd,UInt8.reduceOfNat,UInt16.reduceOfNat,UInt32.reduceOfNat,UInt64.reduceOfNat,UInt64.reduceToNat,UInt32.reduceToNat,UInt16.reduceToNat,UInt8.reduceToNat,Int.reduceAdd,Int.reduceSub,Int.reduceMul,Nat.reduceMul,Qp0,Qp1,Ql0,Qe0,f0,f1,f5,f6,f7,e1,zAa,zAb,hm,e2]
        refine (hW.out h' a (by omega) hm).mono ?_
        rintro v h3 ⟨hi3, hc3⟩
        simp -dsimp -implicitDefEqProofs (disch := first | omega | assumption | (simp only [Option.isSome_some,Qt0]; done) | (simp only [UInt64.reduceToNat,UInt32.reduceToNat,UInt8.reduceToNat,List.length_cons,List.length_nil,List.length_append,Int.toNat_natCast] <;> omega) | fail) only [Nat.reduceLT,Nat.reduceLeDiff,Nat.reduceEqDiff,↓reduceIte,Int.reduceLT,Int.reduceLE,Int.reduceToNat,Int.reduceEq,Int.reduceNe,Nat.reduceAdd,UInt8.reduceOfNat,UInt16.reduceOfNat,UInt32.reduceOfNat,UInt64.reduceOfNat,UInt64.reduceToNat,UInt32.reduceToNat,UInt16.reduceToNat,UInt8.reduceToNat,Int.reduceAdd,Int.reduceSub,Int.reduceMul,Nat.reduceMul,Qp0,Qp1,Ql0,Qe0]
        exact ⟨_, PH.Le.refl _, by trivial, hi3, hch.trans hc3⟩
    · have e1 : decide ((k : Int) < 9) = false := decide_eq_false (by omega)
      have hsc : scan 0 0 (s.drop a0) = none := by rw [hsc, show k = 9 by omega, scan_nine]
      have hF : numS most s.length (.ok (s.drop a0)) = (0, .bad a0) := by rw [zDa _ (zFd hsc), hfl]
      generalize ha : a0 + k = a at *
      rw [hF]
      simp -dsimp -implicitDefEqProofs (disch := first | omega | assumption | (simp only [Option.isSome_some,Qt0]; done) | (simp only [UInt64.reduceToNat,UInt32.reduceToNat,UInt8.reduceToNat,List.length_cons,List.length_nil,List.length_append,Int.toNat_natCast] <;> omega) | fail) only [Nat.reduceLT,Nat.reduceLeDiff,Nat.reduceEqDiff,↓reduceIte,Int.reduceLT,Int.reduceLE,Int.reduceToNat,Int.reduceEq,Int.reduceNe,Nat.reduceAdd,UInt8.reduceOfNat,UInt16.reduceOfNat,UInt32.reduceOfNat,UInt64.reduceOfNat,UInt64.reduceToNat,UInt32.reduceToNat,UInt16.reduceToNat,UInt8.reduceToNat,Int.reduceAdd,Int.reduceSub,Int.reduceMul,Nat.reduceMul,Qp0,Qp1,Ql0,Qe0,f0,f1,f5,f6,f7,e1]
      refine zA3 14 _ (by kernel_rfl) (by kernel_rfl) (by kernel_rfl) (by kernel_rfl) (by kernel_rfl) (fun c f h hq => by simp only [zAy, zAv, zAw, zAu, zAx] at hq) (PH.Le.refl _).sub ?_
      simp -dsimp -implicitDefEqProofs (disch := first | omega | assumption | (simp only [Option.isSome_some,Qt0]; done) | (simp only [UInt64.reduceToNat,UInt32.reduceToNat,UInt8.reduceToNat,List.length_cons,List.length_nil,List.length_append,Int.toNat_natCast] <;> omega) | fail) only [Nat.reduceLT,Nat.reduceLeDiff,Nat.reduceEqDiff,↓reduceIte,Int.reduceLT,Int.reduceLE,Int.reduceToNat,Int.reduceEq,Int.reduceNe,Nat.reduceAdd,UInt8.reduceOfNat,UInt16.reduceOfNat,UInt32.reduceOfNat,UInt64.reduceOfNat,UInt64.reduceToNat,UInt32.reduceToNat,UInt16.reduceToNat,UInt8.reduceToNat,Int.reduceAdd,Int.reduceSub,Int.reduceMul,Nat.reduceMul,Qp0,Qp1,Ql0,Qe0,f0,f1,f5,f6,f7,e1,zAa,zAb,hm]
      refine (hW.out h' a (by omega) hm).mono ?_
      rintro v h3 ⟨hi3, hc3⟩
      simp -dsimp -implicitDefEqProofs (disch := first | omega | assumption | (simp only [Option.isSome_some,Qt0]; done) | (simp only [UInt64.reduceToNat,UInt32.reduceToNat,UInt8.reduceToNat,List.length_cons,List.length_nil,List.length_append,Int.toNat_natCast] <;> omega) | fail) only [Nat.reduceLT,Nat.reduceLeDiff,Nat.reduceEqDiff,↓reduceIte,Int.reduceLT,Int.reduceLE,Int.reduceToNat,Int.reduceEq,Int.reduceNe,Nat.reduceAdd,UInt8.reduceOfNat,UInt16.reduceOfNat,UInt32.reduceOfNat,UInt64.reduceOfNat,UInt64.reduceToNat,UInt32.reduceToNat,UInt16.reduceToNat,UInt8.reduceToNat,Int.reduceAdd,Int.reduceSub,Int.reduceMul,Nat.reduceMul,Qp0,Qp1,Ql0,Qe0]
      exact ⟨_, PH.Le.refl _, by trivial, hi3, hch.trans hc3⟩
end
end Go.Proofs.Ytblikpbaeippaaa

