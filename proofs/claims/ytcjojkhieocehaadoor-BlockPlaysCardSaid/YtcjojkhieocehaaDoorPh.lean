/- What is known of memory for nothing: no block of the world before is known; what a call may change; rows that are read. No condition. -/
import Derived.Test.YtcjojkhieocehaaDoorPg
namespace Go.Proofs.YtcjojkhieocehaaDoor.Px
set_option linter.unusedVariables false
set_option linter.unusedSimpArgs false
open Go.RowKit
/-- No block of the world before is known. -/
def Low (w0 : World) (h : PH) : Prop := ∀ b, b < w0.heap.size → h.m b = none
section
variable {P : Program} {w0 : World} {h : PH} {g : FuncId} {args : List Value} {R : Value → PH → Prop}
theorem low_of {w : World} (s : Sim w0 h w) : Low w0 h := fun b hb => by
  cases hm : h.m b with
  | none => rfl
  | some k => have := (s.sat b k hm).1; omega
theorem Does_low {m : Sem Value} {K : Value → PH → Prop} (hd : Does P w0 h m (fun v h' => Low w0 h' → K v h')) : Does P w0 h m K := fun w s => by
  obtain ⟨v, w', h', e, k, s'⟩ := hd w s
  exact ⟨v, w', h', e, k (low_of s'), s'⟩
theorem PCalls_low (hc : Low w0 h → PCalls P w0 g args h R) : PCalls P w0 g args h R := fun w s => hc (low_of s) w s
theorem PCalls.lowR (hc : PCalls P w0 g args h R) : PCalls P w0 g args h fun v h' => R v h' ∧ Low w0 h' := by
  intro w s
  rcases hc w s with ⟨h1, h2⟩ | ⟨v, w', h', h1, h2, h3⟩
  · exact .inl ⟨h1, h2.mono fun e w' ⟨v, h', e1, e2, e3⟩ => ⟨v, h', e1, ⟨e2, low_of e3⟩, e3⟩⟩
  · exact .inr ⟨v, w', h', h1, ⟨h2, low_of h3⟩, h3⟩
theorem PCalls.and {R' : Value → PH → Prop} (hc : PCalls P w0 g args h R) (hr : ∀ v h', R v h' → Low w0 h' → R' v h') : PCalls P w0 g args h R' := hc.lowR.mono fun v h' ⟨a, b⟩ => hr v h' a b
/-- A loop, as PW_loop; in each round it is known that no block of the world before is known. -/
theorem PW_loopL {N : Nat} {f : Fr} {c : Code} {Q : Exit → Fr → PH → Prop} (I : Nat → Fr → PH → Prop) (hok : codeOk N c = true) (n : Nat) (h0 : I n f h)
    (round : ∀ n f h, I n f h → Low w0 h → vcC P w0 N c f h (thenK (fun f' h' => ∃ m h2, m < n ∧ PH.Le h2 h' ∧ I m f' h2) Q)) : PW P w0 N (.loop c) f h Q := by
  intro a w fs s
  refine wp_loop_rounds (n + 1) ?_
  have key : ∀ n f h a w, I n f h → FSat f a N → Sim w0 h w → Code.rounds P c (fun e a' w' => ∃ f' h', Q e f' h' ∧ FSat f' a' N ∧ Sim w0 h' w') (n + 1) a w := by
    intro n
    induction n using Nat.strongRecOn with
    | _ n ih =>
      intro f h a w hI fs s
      rw [rounds_succ]
      refine wp_mono (vc_sound hok (round n f h hI (low_of s)) a w fs s) ?_
      rintro e a' w' ⟨f', h', q, fs', s'⟩
      cases e
      case normal =>
        obtain ⟨m, h2, hm, hl, hI'⟩ := q
        exact rounds_mono (by omega) a' w' (ih m hm f' h2 a' w' hI' fs' (s'.weak hl))
      all_goals exact ⟨f', h', q, fs', s'⟩
  exact key n f h a w h0 fs s
end
/-- What may change: the blocks F, and what is new. -/
structure Chg (F : Nat → Prop) (h h' : PH) : Prop where
  top : h.top ≤ h'.top
  m : ∀ x k, h.m x = some k → ¬ F x → h'.m x = some k
section
variable {F G : Nat → Prop} {h h' h'' : PH}
theorem Chg.refl (F : Nat → Prop) (h : PH) : Chg F h h := ⟨Nat.le_refl _, fun _ _ e _ => e⟩
theorem Chg.trans (a : Chg F h h') (b : Chg F h' h'') : Chg F h h'' := ⟨Nat.le_trans a.top b.top, fun x k e n => b.m x k (a.m x k e n) n⟩
theorem Chg.le (l : PH.Le h h') : Chg F h h' := ⟨l.top, fun x k e _ => l.m x k e⟩
theorem Chg.mono (a : Chg F h h') (i : ∀ x, x < h.top → F x → G x) : Chg G h h' := ⟨a.top, fun x k e n => a.m x k e fun f => n (i x (h.lt _ _ e) f)⟩
theorem Chg.new (a : Chg F h h') {b : Nat} (hb : h.top ≤ b) (k : Bk) : Chg F h (h'.new b k) :=
  ⟨by have := a.top; simp only [PH.new_top]; omega, fun x k' e n => by rw [PH.new_m, if_neg (by have := h.lt _ _ e; omega)]; exact a.m x k' e n⟩
theorem Chg.put (a : Chg F h h') {b : Nat} (hb : F b) (k : Bk) : Chg F h (h'.new b k) :=
  ⟨by have := a.top; simp only [PH.new_top]; omega, fun x k' e n => by rw [PH.new_m, if_neg (fun e' => n (by rw [e']; exact hb))]; exact a.m x k' e n⟩
theorem Chg.one {b : Nat} (a : Chg (· = b) h h') (k : Bk) : Chg (· = b) h (h'.new b k) := Chg.put (F := (· = b)) a rfl k
theorem Chg.toLe (a : Chg F h h') (i : ∀ x, F x → h.top ≤ x) : PH.Le h h' := ⟨a.top, fun x k e => a.m x k e fun f => by have := i x f; have := h.lt _ _ e; omega⟩
end
theorem Own.more {h h' : PH} {sz n : Nat} {v : Value} {xs : List Value} (o : Own h sz v n xs) (l : PH.Le h h') : Own h' sz v n xs :=
  ⟨o.1, o.2.imp id fun ⟨b, c, h1, h2, h3, h4⟩ => ⟨b, c, h1, h2, h3, l.m _ _ h4⟩⟩
/-- An own row lies elsewhere than what is put. -/
theorem Own.put {h : PH} {sz n : Nat} {v : Value} {xs : List Value} (o : Own h sz v n xs) {b : Nat} (hb : v.ownBlock ≠ some b) (k : Bk) : Own (h.new b k) sz v n xs :=
  ⟨o.1, o.2.imp id fun ⟨x, c, h1, h2, h3, h4⟩ => ⟨x, c, h1, h2, h3, by rw [PH.new_m, if_neg (fun e => hb (by rw [h1, ← e]; rfl))]; exact h4⟩⟩
theorem Own.A {h : PH} {sz n c : Nat} {A : Option Addr} {xs : List Value} (o : Own h sz (.slice A n c) n xs) : ∀ a, A = some a → (Value.slice A n c).ownBlock = some a.block := fun a e => by subst e; rfl
theorem Own.chg {F : Nat → Prop} {h h' : PH} {sz n : Nat} {v : Value} {xs : List Value} (o : Own h sz v n xs) (c : Chg F h h') (hF : ∀ x, v.ownBlock = some x → ¬ F x) : Own h' sz v n xs :=
  ⟨o.1, o.2.imp id fun ⟨b, k, h1, h2, h3, h4⟩ => ⟨b, k, h1, h2, h3, c.m _ _ h4 (hF b (by rw [h1]; rfl))⟩⟩
theorem Chg.stays {F : Nat → Prop} {h0 h h' : PH} {v v' : Value} (c : Chg F h0 h) (s : Stays h h' v v') (hv : ∀ x, v.ownBlock = some x → h0.top ≤ x) : Chg F h0 h' :=
  ⟨Nat.le_trans c.top s.top, fun x k e n => s.keep x k (c.m x k e n) fun e' => by have := hv x e'; have := h0.lt _ _ e; omega⟩
/-- Over h0, of which F alone may have changed, a row of the call's own. -/
structure OwnC (F : Nat → Prop) (h0 h : PH) (sz : Nat) (v : Value) (n : Nat) (xs : List Value) : Prop where
  chg : Chg F h0 h
  own : Own h sz v n xs
  new : ∀ x, v.ownBlock = some x → h0.top ≤ x
section
variable {F : Nat → Prop} {h0 h h' : PH} {sz n m : Nat} {v v' : Value} {xs ys : List Value}
theorem OwnC.nil (c : Chg F h0 h) (sz : Nat) : OwnC F h0 h sz (.slice none 0 0) 0 [] := ⟨c, Own.nil h sz, fun x e => by cases e⟩
theorem OwnC.zero (c : Chg F h0 h) (sz : Nat) {b : Nat} (hb : h.top ≤ b) : OwnC F h0 (h.new b ⟨[], 0⟩) sz (.slice (some ⟨b, 0, none⟩) 0 0) 0 [] :=
  ⟨c.new (Nat.le_trans c.top hb) _, (OwnS.zero sz hb).own, fun x e => by cases e; exact Nat.le_trans c.top hb⟩
theorem OwnC.stays (o : OwnC F h0 h sz v n xs) (s : Stays h h' v v') (o' : Own h' sz v' m ys) : OwnC F h0 h' sz v' m ys :=
  ⟨o.chg.stays s o.new, o', fun x e => (s.fresh x e).elim (o.new x) fun g => Nat.le_trans o.chg.top g⟩
theorem OwnC.more (o : OwnC F h0 h sz v n xs) (l : PH.Le h h') : OwnC F h0 h' sz v n xs := ⟨o.chg.trans (.le l), o.own.more l, o.new⟩
theorem OwnC.chg' (o : OwnC F h0 h sz v n xs) (c : Chg F h h') (hF : ∀ x, F x → x < h0.top) : OwnC F h0 h' sz v n xs :=
  ⟨o.chg.trans c, o.own.chg c fun x e f => by have := o.new x e; have := hF x f; omega, o.new⟩
theorem OwnS.toC (o : OwnS h0 h sz v n xs) (F : Nat → Prop) : OwnC F h0 h sz v n xs := ⟨.le o.le, o.own, o.new⟩
end
/-- Cells at an address: each lies in a known block, or came in. -/
def Rv (w0 : World) (h : PH) (A : Option Addr) (xs : List Value) : Prop :=
  ∀ j u, xs[j]? = some u → ∃ b o, A = some ⟨b, o, none⟩ ∧ ((∃ k, h.m b = some k ∧ k.xs[o + j]? = some u) ∨ (b < w0.heap.size ∧ rdM w0 none b (o + j) = some u))
section
variable {w0 : World} {h h' : PH} {A : Option Addr} {xs : List Value}
theorem Rv.nil (w0 : World) (h : PH) (A : Option Addr) : Rv w0 h A [] := fun j u e => by simp at e
theorem Rv.chg {F : Nat → Prop} (r : Rv w0 h A xs) (c : Chg F h h') (hF : ∀ a, A = some a → ¬ F a.block) : Rv w0 h' A xs := fun j u e => by
  obtain ⟨b, o, rfl, h1⟩ := r j u e
  refine ⟨b, o, rfl, ?_⟩
  rcases h1 with ⟨k, h1, h2⟩ | h1
  · exact .inl ⟨k, c.m b k h1 (hF _ rfl), h2⟩
  · exact .inr h1
theorem Rv.more (r : Rv w0 h A xs) (l : PH.Le h h') : Rv w0 h' A xs := r.chg (F := fun _ => False) (.le l) fun _ _ => id
theorem Rv.addr (r : Rv w0 h A xs) (hn : 0 < xs.length) : ∃ b o, A = some ⟨b, o, none⟩ := by
  obtain ⟨b, o, e, _⟩ := r 0 _ (List.getElem?_eq_getElem hn)
  exact ⟨b, o, e⟩
theorem Rv.get {b o : Nat} (r : Rv w0 h (some ⟨b, o, none⟩) xs) (hl : Low w0 h) {j : Nat} {u : Value} (e : xs[j]? = some u) : rdM w0 (h.m b) b (o + j) = some u := by
  obtain ⟨b', o', h1, h2⟩ := r j u e
  injection h1 with h1
  injection h1 with h1 h3
  subst h1; subst h3
  rcases h2 with ⟨k, h2, h4⟩ | ⟨h2, h4⟩
  · rw [h2]; exact h4
  · rw [hl b h2]; exact h4
theorem Rv.own {sz n c : Nat} (o : Own h sz (.slice A n c) n xs) : Rv w0 h A xs := fun j u e => by
  rcases o.2 with ⟨h1, h2⟩ | ⟨b, c', h1, h2, _, h3⟩
  · have := o.1
    have h4 := (List.getElem?_eq_some_iff.1 e).1
    rw [h2, Nat.zero_mul] at this; omega
  · injection h1 with h1
    subst h1
    exact ⟨b, 0, rfl, .inl ⟨_, h3, by rw [Nat.zero_add]; exact e⟩⟩
theorem mapM_get {α β : Type} {f : α → Option β} : ∀ {l : List α} {r : List β}, l.length = r.length → (∀ (j : Nat) (x : α) (y : β), l[j]? = some x → r[j]? = some y → f x = some y) → l.mapM f = some r
  | [], [], _, _ => rfl
  | x :: l, y :: r, hl, h => by
    rw [List.mapM_cons, h 0 x y rfl rfl, mapM_get (by simpa using hl) fun j a b ha hb => h (j + 1) a b (by simpa using ha) (by simpa using hb)]
    rfl
theorem Rv.rdN {b o n : Nat} (r : Rv w0 h (some ⟨b, o, none⟩) xs) (hl : Low w0 h) (hn : xs.length = n) (h0 : 0 < n) : Px.rdN w0 h ⟨b, o, none⟩ n = some xs := by
  unfold Px.rdN
  cases hm : h.m b with
  | some k =>
    have hg : ∀ j u, xs[j]? = some u → k.xs[o + j]? = some u := fun j u e => by have := r.get hl e; rw [hm] at this; exact this
    simp only
    · have h2 := hg (n - 1) _ (List.getElem?_eq_getElem (by omega))
      have h3 := (List.getElem?_eq_some_iff.1 h2).1
      rw [if_pos ⟨trivial, by omega⟩]
      congr 1
      apply List.ext_getElem?
      intro j
      by_cases hj : j < n
      · rw [List.getElem?_take_of_lt hj, List.getElem?_drop, hg j _ (List.getElem?_eq_getElem (by omega)), List.getElem?_eq_getElem]
      · rw [List.getElem?_eq_none (by simp; omega), List.getElem?_eq_none (by omega)]
  | none =>
    refine mapM_get (by simp [hn]) fun j x y hx hy => ?_
    have hj : j < n := by have := (List.getElem?_eq_some_iff.1 hy).1; omega
    rw [List.getElem?_range hj] at hx
    injection hx with hx
    subst hx
    rw [Addr.add_mid, rd_M, r.get hl hy]
theorem Rv.rs {sz n : Nat} (r : Rv w0 h A xs) (hl : Low w0 h) (hn : xs.length = n * sz) (h1 : 0 < sz) : Rs w0 h sz A n xs := by
  refine ⟨hn, fun h0 => ?_⟩
  have h2 : 0 < xs.length := by rw [hn]; exact Nat.mul_pos h0 h1
  obtain ⟨b, o, rfl⟩ := r.addr h2
  exact ⟨_, rfl, r.rdN hl hn (Nat.mul_pos h0 h1)⟩
end
/-! A slice literal whose elements have several cells. -/
theorem fill_multi (sz : Nat) : ∀ (us : List Value) (k : Nat) (ds rest : List Value), ds.length = k * sz → rest.length = us.length * sz → (∀ u ∈ us, (cellsL u).length = sz) →
    Instr.fill (fun i => some (i * sz, sz)) (ds ++ rest).toArray ((List.range' k us.length).zip us) = some (ds ++ us.flatMap cellsL).toArray
  | [], k, ds, rest, _, hr, _ => by
    have : rest = [] := List.length_eq_zero_iff.1 (by simpa using hr)
    subst this
    simp [Instr.fill]
  | u :: us, k, ds, rest, hd, hr, hu => by
    have hu1 := hu u List.mem_cons_self
    have hrl : sz ≤ rest.length := by rw [hr, List.length_cons, Nat.add_mul, Nat.one_mul]; omega
    have key := fill_multi sz us (k + 1) (ds ++ cellsL u) (rest.drop sz) (by rw [List.length_append, hd, hu1, Nat.add_mul, Nat.one_mul]) (by rw [List.length_drop, hr, List.length_cons, Nat.add_mul, Nat.one_mul]; omega) (fun x hx => hu x (List.mem_cons_of_mem _ hx))
    rw [List.length_cons, List.range'_succ, List.zip_cons_cons]
    unfold Instr.fill
    have hus : u.cells.size = sz := by rw [← hu1]; simp [cellsL]
    simp only
    rw [if_neg (by simp [hus]; omega)]
    have hl := lay_fold (cellsL u) 0 (k * sz) (ds ++ rest) (by have := hd; have := hu1; simp only [List.length_append]; omega)
    rw [Nat.add_zero, layL_eq] at hl
    have h1 : (ds ++ rest).take (k * sz) = ds := by rw [← hd, List.take_left]
    have h2 : (ds ++ rest).drop (k * sz + (cellsL u).length) = rest.drop sz := by rw [hu1, ← List.drop_drop, ← hd, List.drop_left]
    rw [h1, h2] at hl
    have h3 : u.cells.zipIdx.foldl (fun (cs : Array Value) (x : Value × Nat) => cs.setIfInBounds (k * sz + x.2) x.1) (ds ++ rest).toArray = (ds ++ cellsL u ++ rest.drop sz).toArray := by
      rw [← hl, ← Array.foldl_toList]
      simp [cellsL]
    erw [h3, key]
    simp
section
variable {P : Program} {w0 : World} {h : PH} {t e : TypeId}
theorem Does_lit {z : Value} {n sz by_ : Nat} {K : Value → PH → Prop} {parts : Array (Nat × Value)} (hE : El P t e z sz by_) (vs : List Value) (hl : vs.length = n) (hp : parts = ((List.range' 0 n).zip vs).toArray) (h1 : ∀ v ∈ vs, (cellsL v).length = sz) (hpos : 0 < n) (hs : n * sz ≤ 16777216)
    (hk : ∀ b, h.top ≤ b → K (.slice (some ⟨b, 0, none⟩) n n) (h.new b ⟨vs.flatMap cellsL, n * sz⟩)) : Does P w0 h (Instr.buildSlice t n parts) K := by
  subst hp
  intro w s
  obtain ⟨i, hi, hz, hsi, hby⟩ := hE.info
  have hf := fill_multi sz vs 0 [] ((Array.range (n * sz)).map (z.cells[· % z.cells.size]!)).toList (by simp) (by simp [hl]) h1
  rw [hl, List.nil_append, List.nil_append, Array.toArray_toList] at hf
  have hps := hE.pos
  have hnz : 0 < n * sz := Nat.mul_pos hpos hps
  have hr := run_buildSlice (P := P) w t e n ((List.range' 0 n).zip vs).toArray (vs.flatMap cellsL).toArray i z hE.under hi hz (by rw [hsi]; omega) (by rw [hsi]; omega) (by rw [hsi]; exact hf)
  refine ⟨_, _, _, hr, hk w.heap.size s.top, ?_⟩
  have := s.alloc e (vs.flatMap cellsL)
  have hlen : (vs.flatMap cellsL).length = n * sz := by
    clear hf hr this hk
    subst hl
    clear hnz hs hpos
    induction vs with
    | nil => simp
    | cons v vs ih => simp only [List.flatMap_cons, List.length_append, List.length_cons]; rw [h1 v List.mem_cons_self, ih (fun x hx => h1 x (List.mem_cons_of_mem _ hx)), Nat.add_mul]; omega
  rwa [hlen] at this
end
end Go.Proofs.YtcjojkhieocehaaDoor.Px
