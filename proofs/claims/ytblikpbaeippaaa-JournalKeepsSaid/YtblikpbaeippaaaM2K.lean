/- Parts Pd, Pe, Pf, Pg, joined. No condition. -/
import Derived.Test.YtblikpbaeippaaaM1K
import Derived.Laws.Pointers
namespace Go.Proofs.Ytblikpbaeippaaa.Px
set_option linter.unusedVariables false
set_option linter.unusedSimpArgs false
open Go.RowKit
def placesB (P : Program) (t : TypeId) : Option (List (Nat × Nat)) := match P.underlying t with
  | some (.struct fs) => fs.toList.mapM fun f => (szOf P f.type).map fun s => (f.offset, s)
  | _ => none
def nthP : List (Nat × Nat) → Nat → Option (Nat × Nat)
  | [], _ => none
  | p :: _, 0 => some p
  | _ :: l, n + 1 => nthP l n
theorem nthP_zero (p : Nat × Nat) (l : List (Nat × Nat)) : nthP (p :: l) 0 = some p := rfl
theorem nthP_succ (p : Nat × Nat) (l : List (Nat × Nat)) (n : Nat) : nthP (p :: l) (n + 1) = nthP l n := rfl
theorem nthP_eq : ∀ (l : List (Nat × Nat)) (i : Nat), nthP l i = l[i]?
  | [], i => by simp [nthP]
  | p :: l, 0 => by simp [nthP]
  | p :: l, i + 1 => by have := nthP_eq l i; simp [nthP] at this ⊢; exact this
def layL (cs : List Value) (o : Nat) (vs : List Value) : List Value := cs.take o ++ vs ++ cs.drop (o + vs.length)
def overL : List Value → List Value → List Value
  | cs, [] => cs
  | [], _ :: _ => []
  | _ :: cs, v :: vs => v :: overL cs vs
theorem zE4 (cs : List Value) : overL cs [] = cs := by cases cs <;> rfl
theorem zFm (c v : Value) (cs vs : List Value) : overL (c :: cs) (v :: vs) = v :: overL cs vs := rfl
def layR : List Value → Nat → List Value → List Value
  | cs, 0, vs => overL cs vs
  | [], _ + 1, _ => []
  | c :: cs, o + 1, vs => c :: layR cs o vs
theorem zFl (cs vs : List Value) : layR cs 0 vs = overL cs vs := by cases cs <;> rfl
theorem zFh (c : Value) (cs : List Value) (o : Nat) (vs : List Value) : layR (c :: cs) (o + 1) vs = c :: layR cs o vs := rfl
theorem overL_eq : ∀ (cs vs : List Value), vs.length ≤ cs.length → overL cs vs = vs ++ cs.drop vs.length
  | cs, [], _ => by rw [zE4]; rfl
  | [], v :: vs, h => by simp at h
  | c :: cs, v :: vs, h => by rw [zFm, overL_eq cs vs (by simpa using h)]; rfl
theorem layR_eq : ∀ (cs : List Value) (o : Nat) (vs : List Value), o + vs.length ≤ cs.length → layR cs o vs = layL cs o vs
  | cs, 0, vs, h => by rw [zFl, overL_eq cs vs (by omega)]; simp [layL]
  | [], o + 1, vs, h => by simp at h
  | c :: cs, o + 1, vs, h => by
    rw [zFh, layR_eq cs o vs (by simp at h; omega)]
    unfold layL
    rw [show o + 1 + vs.length = (o + vs.length) + 1 by omega]
    simp
def cellsL (v : Value) : List Value := v.cells.toList
theorem zHt {v : Value} (h : One v) : cellsL v = [v] := by unfold cellsL; rw [h.1]
theorem zHp (cs : List Value) : cellsL (.agg cs.toArray) = cs := rfl
def fillL (pl : List (Nat × Nat)) : List Value → List (Nat × Value) → Option (List Value)
  | cs, [] => some cs
  | cs, (i, v) :: l => match nthP pl i with
    | none => none
    | some (o, s) => if (cellsL v).length = s ∧ o + s ≤ cs.length then fillL pl (layR cs o (cellsL v)) l else none
def fillO (pl : List (Nat × Nat)) (cs : List Value) (vs : List Value) (l : List (Nat × Value)) : Option (Nat × Nat) → Option (List Value)
  | none => none
  | some (o, s) => if vs.length = s ∧ o + s ≤ cs.length then fillL pl (layR cs o vs) l else none
theorem fillL_nil (pl : List (Nat × Nat)) (cs : List Value) : fillL pl cs [] = some cs := rfl
theorem zFt (pl : List (Nat × Nat)) (cs : List Value) (i : Nat) (v : Value) (l : List (Nat × Value)) : fillL pl cs ((i, v) :: l) = fillO pl cs (cellsL v) l (nthP pl i) := by
  unfold fillO
  rw [fillL]
theorem zGl (pl : List (Nat × Nat)) (cs vs : List Value) (l : List (Nat × Value)) (o s : Nat) : fillO pl cs vs l (some (o, s)) = if vs.length = s then if o + s ≤ cs.length then fillL pl (layR cs o vs) l else none else none := by
  unfold fillO
  by_cases h1 : vs.length = s <;> by_cases h2 : o + s ≤ cs.length <;> simp [h1, h2]
theorem lay_fold : ∀ (vs : List Value) (k o : Nat) (cs : List Value), o + k + vs.length ≤ cs.length → (vs.zipIdx k).foldl (fun (cs : Array Value) (x : Value × Nat) => cs.setIfInBounds (o + x.2) x.1) cs.toArray = (layL cs (o + k) vs).toArray
  | [], k, o, cs, h => by simp [layL]
  | v :: vs, k, o, cs, h => by
    simp only [List.zipIdx_cons, List.foldl_cons, List.length_cons] at h ⊢
    have e : cs.toArray.setIfInBounds (o + k) v = (cs.set (o + k) v).toArray := by simp
    rw [e, lay_fold vs (k + 1) o (cs.set (o + k) v) (by rw [List.length_set]; omega)]
    congr 1
    unfold layL
    rw [show o + (k + 1) = o + k + 1 by omega, List.take_succ_eq_append_getElem (by rw [List.length_set]; omega), List.take_set_of_le (Nat.le_refl _), List.getElem_set_self, List.drop_set_of_lt (by omega)]
    simp [Nat.add_assoc, Nat.add_comm 1]
theorem fill_L (pl : List (Nat × Nat)) : ∀ (parts : List (Nat × Value)) (cs : List Value), Instr.fill (fun i => pl[i]?) cs.toArray parts = (fillL pl cs parts).map List.toArray
  | [], cs => by simp [Instr.fill, fillL]
  | (i, v) :: l, cs => by
    rw [zFt, nthP_eq]
    unfold Instr.fill
    cases hp : pl[i]? with
    | none => simp [fillO, hp]
    | some p =>
      obtain ⟨o, s⟩ := p
      simp only [hp, fillO]
      have hsz : v.cells.size = (cellsL v).length := rfl
      by_cases h : (cellsL v).length = s ∧ o + s ≤ cs.length
      · rw [if_pos h, if_neg (by rw [hsz]; simp; omega), layR_eq cs o _ (by omega)]
        have hf : v.cells.zipIdx.foldl (fun (cs : Array Value) (x : Value × Nat) => cs.setIfInBounds (o + x.2) x.1) cs.toArray = (layL cs o (cellsL v)).toArray := by
          have := lay_fold (cellsL v) 0 o cs (by omega)
          rw [Nat.add_zero] at this
          rw [← this, ← Array.foldl_toList]
          simp [cellsL]
        rw [hf]
        exact fill_L pl l _
      · rw [if_neg h, if_pos (by rw [hsz]; simp; omega)]
        rfl
section
variable {P : Program} {t : TypeId} {K : Value → Prop}
theorem zH3 (w : World) : ∀ (fs : List Field) (pl : List (Nat × Nat)), (fs.mapM fun f => (szOf P f.type).map fun s => (f.offset, s)) = some pl → (fs.mapM fun f => Prod.mk f.offset <$> sizeOf f.type : Sem (List (Nat × Nat))).run P w = .ok pl w
  | [], pl, h => by
    simp at h; subst h; simp
  | f :: fs, pl, h => by
    rw [List.mapM_cons] at h
    obtain ⟨p, hp, h2⟩ := Option.bind_eq_some_iff.1 h
    obtain ⟨q, hq, h3⟩ := Option.bind_eq_some_iff.1 h2
    obtain ⟨s, hs, rfl⟩ := Option.map_eq_some_iff.1 hp
    injection h3 with h3
    subst h3
    have ih := zH3 w fs q hq
    simp [List.mapM_cons, run_sizeOf hs, ih]
theorem zA7 {pl : List (Nat × Nat)} {zs : List Value} (hp : placesB P t = some pl) (hz : zcells P t = some zs) (parts : List (Nat × Value)) : Yld P (Instr.build t parts.toArray) K = ogetL (fillL pl zs parts) fun cs => K (.agg cs.toArray) := by
  unfold placesB at hp
  split at hp
  · rename_i fs hu
    obtain ⟨i, hi, h2⟩ := Option.bind_eq_some_iff.1 hz
    obtain ⟨z, hz1, h3⟩ := Option.map_eq_some_iff.1 h2
    have hzz : z.cells = zs.toArray := by rw [← h3]
    have hm : ∀ w, (fs.mapM fun f => Prod.mk f.offset <$> sizeOf f.type : Sem (Array (Nat × Nat))).run P w = .ok pl.toArray w := fun w => by
      have := zH3 (P := P) w fs.toList pl hp
      rw [Array.mapM_eq_mapM_toList]
      simp [this]
    have hfl := fill_L pl parts zs
    have hplace : (fun i : Nat => pl.toArray[i]?) = fun i : Nat => pl[i]? := by funext i; simp
    cases hf : fillL pl zs parts with
    | none =>
      rw [hf] at hfl
      refine propext ⟨fun h => ?_, fun h => h.elim⟩
      obtain ⟨v, h1, _⟩ := h
      exfalso
      have h4 := h1 default
      simp [Instr.build, zeroValue, typeInfo, hi, hz1, run_underlying hu, hm, hzz, hfl] at h4
    | some cs =>
      rw [zEm]
      rw [hf] at hfl
      refine zAc fun w => ?_
      simp [Instr.build, zeroValue, typeInfo, hi, hz1, run_underlying hu, hm, hzz, hfl]
  · cases hp
theorem box_L (cs : List Value) : (Value.agg cs.toArray).cells.toList = cs := rfl
theorem box_S (cs : List Value) : (Value.agg cs.toArray).cells.size = cs.length := rfl
variable {e : TypeId} {x y : Operand}
def ptrB (P : Program) (t : TypeId) : Bool := match P.underlying t with
  | some (.pointer _) => true
  | _ => false
theorem zFs (h : ptrB P t = true) : P.underlying t = some (.pointer (P.pointee t)) := by
  unfold ptrB at h
  split at h
  · rename_i e he
    rw [he]; simp [Program.pointee, he]
  · cases h
theorem y_eqlPN (a : Option Addr) (v : Value) (hu : ptrB P t = true) : Yld P (binS .eql t x (.const v) (.pointer a) (.pointer none)) K = K (.bool a.isNone) := zAc fun w => by
  unfold binS eqGuard
  simp [run_eql_pointer_nil w t a (zFs hu)]
theorem y_neqPN (a : Option Addr) (v : Value) (hu : ptrB P t = true) : Yld P (binS .neq t x (.const v) (.pointer a) (.pointer none)) K = K (.bool (!a.isNone)) := zAc fun w => by
  unfold binS eqGuard
  simp [run_neq_pointer_nil w t a (zFs hu)]
theorem y_nilP (a : Addr) : Yld P (nilS (.pointer (some a))) K = K (.pointer (some a)) := zAc fun w => rfl
end
end Go.Proofs.Ytblikpbaeippaaa.Px


namespace Go.Proofs.Ytblikpbaeippaaa.Px
set_option linter.unusedVariables false
set_option linter.unusedSimpArgs false
open Go.RowKit
section
variable {P : Program} {t : TypeId} {x y : Operand} {K : Value → Prop}
theorem y_shrI (a : Int) (n : UInt64) (h1 : n.toNat < 64) (h0 : 0 ≤ a) : Yld P (binS .shr t x y (.int .i64 a) (u64 n)) K = K (.int .i64 (a / 2 ^ n.toNat)) := zAc fun w => by
  unfold u64; rw [zA2 (.inr rfl)]
  simp only [binOp]
  have hn : min ((n.toNat : Int)).toNat IntKind.i64.bits = n.toNat := by
    rw [Int.toNat_natCast]; simp [IntKind.bits]; omega
  unfold Op.shift
  rw [if_neg (by omega), hn]
  simp only [Sem.run_pure]
  rw [Int.fdiv_eq_ediv_of_nonneg _ (Int.pow_nonneg (by omega))]
theorem y_shlI (a : Int) (n : UInt64) (h1 : n.toNat < 64) (h0 : 0 ≤ a) (h2 : a * 2 ^ n.toNat ≤ 9223372036854775807) : Yld P (binS .shl t x y (.int .i64 a) (u64 n)) K = K (.int .i64 (a * 2 ^ n.toNat)) := zAc fun w => by
  unfold u64; rw [zA2 (.inl rfl)]
  simp only [binOp]
  have hn : min ((n.toNat : Int)).toNat IntKind.i64.bits = n.toNat := by
    rw [Int.toNat_natCast]; simp [IntKind.bits]; omega
  unfold Op.shift
  rw [if_neg (by omega), hn]
  simp only [Sem.run_pure]
  have hp : (0 : Int) ≤ a * 2 ^ n.toNat := Int.mul_nonneg h0 (Int.pow_nonneg (by omega))
  rw [zCd _ (by omega) h2]
theorem bits_i64 (a b : Nat) (ha : a < 9223372036854775808) (hb : b < 9223372036854775808) : bits .or .i64 (a : Int) (b : Int) = ((a ||| b : Nat) : Int) := by
  have hx : a ||| b < 2 ^ 63 := Nat.or_lt_two_pow (by omega) (by omega)
  have h1 : (BitVec.ofInt 64 (a : Int)).toNat = a := by
    rw [BitVec.ofInt_natCast, BitVec.toNat_ofNat]; exact Nat.mod_eq_of_lt (by omega)
  have h2 : (BitVec.ofInt 64 (b : Int)).toNat = b := by
    rw [BitVec.ofInt_natCast, BitVec.toNat_ofNat]; exact Nat.mod_eq_of_lt (by omega)
  show IntKind.i64.wrap ((BitVec.ofInt 64 (a : Int) ||| BitVec.ofInt 64 (b : Int)).toNat : Int) = _
  rw [BitVec.toNat_or, h1, h2, zCd _ (by omega) (by omega)]
theorem y_orI (a b : Int) (h0 : 0 ≤ a) (h1 : 0 ≤ b) (h2 : a ≤ 9223372036854775807) (h3 : b ≤ 9223372036854775807) : Yld P (binS .or t x y (.int .i64 a) (.int .i64 b)) K = K (.int .i64 ((a.toNat ||| b.toNat : Nat) : Int)) := zAc fun w => by
  obtain ⟨a, rfl⟩ := Int.eq_ofNat_of_zero_le h0
  obtain ⟨b, rfl⟩ := Int.eq_ofNat_of_zero_le h1
  rw [zAq]; simp only [binOp, Op.intBits, ne_eq, not_true_eq_false, if_false]; exact congrArg (fun z => Result.ok (Value.int .i64 z) w) (bits_i64 a b (by omega) (by omega))
theorem y_andNot8 (a b : UInt8) : Yld P (binS .andNot t x y (u8 a) (u8 b)) K = K (u8 (a &&& ~~~b)) := zAc fun w => by
  unfold u8; rw [zAq]; simp only [binOp, Op.intBits, ofInt8, ne_eq, not_true_eq_false, if_false]; exact congrArg (fun z => Result.ok (Value.int .u8 z) w) (back8 (a &&& ~~~b))
end
section
variable {P : Program} {w0 : World} {h : PH} {t u e ty : TypeId} {z : Value} {sz by_ : Nat} {K : Value → PH → Prop}
theorem Does_grow {n cp m c : Nat} {a : Addr} {A : Option Addr} {xs ys : List Value} (hE : El P t e z sz by_) (hx : rdN w0 h a (n * sz) = some xs) (hs : Rs w0 h sz A m ys) (hm : 0 < m) (hcp : cp < n + m) (hsz : n + m ≤ maxLen) (hb : (n + m) * by_ ≤ 140737488355328)
    (hk : ∀ b' c', h.top ≤ b' → n + m ≤ c' → c' ≤ maxLen → K (.slice (some ⟨b', 0, none⟩) (n + m) c') (h.new b' ⟨xs ++ ys, c' * sz⟩)) : Does P w0 h (Builtin.append_ #[t, t] ty #[.slice (some a) n cp, .slice A m c]) K := by
  intro w s
  obtain ⟨i, hi, hz, hsi, hby⟩ := hE.info
  obtain ⟨aa, rfl, hrd⟩ := hs.2 hm
  obtain ⟨hl, hc⟩ := zCw s hrd
  obtain ⟨hl0, hc0⟩ := zCw s hx
  obtain ⟨v', w', hr, ho', hg⟩ := run_append_arg_grows (P := P) w t ty e i z sz by_ hE.under hi hz hsi hby hE.zero hE.pos a n cp xs hl0 hc0 aa m c ys hl hc hcp hsz hb
  obtain ⟨b', c', rfl, g1, g2, g3, g4⟩ := Own.ofRow ho' (by omega)
  exact ⟨_, w', h.new b' ⟨xs ++ ys, c' * sz⟩, hr, hk _ _ (Nat.le_trans s.top g3) g1 g2, (s.step (row := none) hg (fun _ e => by cases e)).put (Nat.le_trans s.base g3) g4⟩
theorem zC1 (l : List UInt8) : Lib.strCells ⟨l.toArray⟩ = bs l := by simp [Lib.strCells, bs, u8]
theorem BSat_grown {w : World} {e : TypeId} {xs : List Value} {l : List UInt8} {c : Nat} (hc : xs.length + l.length ≤ c) :
    BSat (w.drew.alloc (.cells (xs.toArray ++ (bs l).toArray ++ Builtin.zeroCells (Value.int .u8 0).cells (c - (xs.length + l.length))) e)) w.heap.size ⟨xs ++ bs l, c⟩ := by
  have hz1 : (Value.int IntKind.u8 0).cells.size = 1 := rfl
  refine ⟨_, e, _, _, heap_alloc_new w.drew _, ?_, .inl (Nat.le_refl _), ?_, ?_⟩
  · simp only [Array.size_append, List.size_toArray, size_zeroCells, hz1, zA0]; omega
  · simp only [List.length_append, zA0]; exact hc
  · simp only [Array.toList_append, List.toList_toArray]
    exact List.take_left
theorem zFk {n cp : Nat} {a : Addr} {xs : List Value} {l : List UInt8} (hE : El P t e (.int .u8 0) 1 1) (hu : P.underlying u = some .string) (hx : rdN w0 h a n = some xs) (hcp : cp < n + l.length) (hsz : n + l.length ≤ 1000000000)
    (hk : ∀ b' c', h.top ≤ b' → n + l.length ≤ c' → c' ≤ maxLen → K (.slice (some ⟨b', 0, none⟩) (n + l.length) c') (h.new b' ⟨xs ++ bs l, c'⟩)) : Does P w0 h (Builtin.append_ #[t, u] ty #[.slice (some a) n cp, str l]) K := by
  intro w s
  obtain ⟨i, hi, hz, hsi, hby⟩ := hE.info
  obtain ⟨hl0, hc0⟩ := zCw s hx
  have hr := Lib.run_append_grow_string (P := P) w t u ty e i (.int .u8 0) hE.under hu hi hz a n cp xs (by rw [hsi, Nat.mul_one]; exact hl0) hc0 ⟨l.toArray⟩ (by rw [zA9]; omega) (by rw [zA9]; omega) (by rw [zA9, hby]; exact growslice_fits hcp (by omega))
  rw [zA9, zC1] at hr
  have hge := grownCap_ge w (n + l.length) cp e
  have hcm := grownCap_le_maxLen w (n + l.length) cp e (by unfold maxLen; omega)
  have hB := BSat_grown (w := w) (e := e) (xs := xs) (l := l) (c := grownCap w (n + l.length) cp e) (by omega)
  rw [hl0] at hB
  exact ⟨_, _, h.new w.heap.size ⟨xs ++ bs l, grownCap w (n + l.length) cp e⟩, hr, hk _ _ s.top hge hcm, (s.drew.step (row := none) (zHc w.drew _ none) (fun _ e => by cases e)).put s.base hB⟩
theorem zFp {v : Value} {n : Nat} {xs : List Value} {l : List UInt8} (hE : El P t e (.int .u8 0) 1 1) (hu : P.underlying u = some .string) (ho : Own h 1 v n xs) (hsz : n + l.length ≤ 1000000000)
    (hk : ∀ v' h', Own h' 1 v' (n + l.length) (xs ++ bs l) → Stays h h' v v' → PH.Sub w0 h h' → K v' h') : Does P w0 h (Builtin.append_ #[t, u] ty #[v, str l]) K := by
  have hsz' : n + l.length ≤ maxLen := by unfold maxLen; omega
  rcases ho.2 with ⟨rfl, rfl⟩ | ⟨b, cp, rfl, hnc, hcm, hbk⟩
  · have hxs : xs = [] := List.eq_nil_of_length_eq_zero (by simpa using ho.1)
    subst hxs
    intro w s
    obtain ⟨i, hi, hz, hsi, hby⟩ := hE.info
    obtain ⟨v', w', hr, ho', hg, hn⟩ := Lib.run_append_own_string (P := P) w w.heap.size t u ty e i hE.under hu hi hz hsi hby (.slice none 0 0) 0 [] (World.ownsRow_nil _ _ _ _) ⟨l.toArray⟩ (by rw [zA9]; exact hsz') (by rw [zA9]; omega) (Nat.le_refl _)
    rw [zA9, zC1] at ho'
    rcases Nat.eq_zero_or_pos l.length with h0 | h0
    · have hl : l = [] := List.eq_nil_of_length_eq_zero h0
      subst hl
      obtain rfl := hn.2 ⟨rfl, rfl⟩
      refine ⟨_, w', h, hr, hk _ h (by simpa [bs] using Own.nil h 1) ⟨Nat.le_refl _, fun _ _ e _ => e, fun _ e => .inl e⟩ (PH.Le.refl h).sub, ?_⟩
      have := (s.step (row := none) hg (fun _ e => by cases e))
      exact this
    · obtain ⟨b', c', rfl, g1, g2, g3, g4⟩ := Own.ofRow ho' (by omega)
      refine ⟨_, w', h.new b' ⟨[] ++ bs l, c' * 1⟩, hr, hk _ _ ⟨by simp [zA0], .inr ⟨b', c', rfl, g1, g2, by simp [PH.new_m]⟩⟩ ⟨by simp only [PH.new_top]; omega, fun x k e _ => ?_, fun x e => ?_⟩ ((PH.Le.refl h).new _ _ (Nat.le_trans s.top g3)).sub, (s.step (row := none) hg (fun _ e => by cases e)).put (Nat.le_trans s.base g3) g4⟩
      · rw [PH.new_m, if_neg (by have := h.lt x k e; have := s.top; omega)]; exact e
      · injection e with e; right; rw [← e]; exact Nat.le_trans s.top g3
  · have hlx : xs.length = n := by simpa using ho.1
    by_cases hroom : n + l.length ≤ cp
    · intro w s
      obtain ⟨i, hi, hz, hsi, hby⟩ := hE.info
      obtain ⟨q1, cur, ct, lo, hi', q2, q3, q4, q5, q6⟩ := s.sat b _ hbk
      simp only at q3 q4 q5 q6
      have hbl := zA0 l
      have hf := Lib.run_firstCells_string (P := P) w 1 ⟨l.toArray⟩
      rw [zC1, zA9] at hf
      have hst := run_storeCells_cells (P := P) b n (bs l) 0 w (fun j hj => by
          rw [cell_of_row w b _ cur ct _ q2, Array.getElem?_eq_getElem (by omega)]; rfl) (fun j hj => by
          simp [World.frozen?, q2]; omega) (by
        intro v hv
        obtain ⟨x, _, rfl⟩ := List.mem_map.1 hv
        rfl)
      have hrun : (Builtin.append_ #[t, u] ty #[.slice (some ⟨b, 0, none⟩) n cp, str l]).run P w = .ok (.slice (some ⟨b, 0, none⟩) (n + l.length) cp) (w.setCells b (n + 0) (bs l)) := by
        unfold str
        simp [Builtin.append_, run_underlying hE.under, run_underlying hu, sizeOf, typeInfo, hi, hsi, Builtin.lenOf, zA9, hroom, hf, Addr.add_mid, hst]
      rw [Nat.add_zero] at hrun
      have hh := zEl (w := w) (b := b) (t := ct) (fz := (lo, hi')) (cs := cur.toList) (bs l) n (by simpa using q2) (by simp; omega)
      have hlen : (xs ++ bs l).length = n + l.length := by rw [List.length_append, hlx, hbl]
      refine ⟨_, _, (h.del b).new b ⟨xs ++ bs l, cp * 1⟩, hrun, hk _ _ ⟨by rw [hlen, Nat.mul_one], .inr ⟨b, cp, rfl, hroom, hcm, by simp [PH.new_m]⟩⟩ ⟨by simp only [PH.new_top, PH.del_top]; omega, fun x k e hx => ?_, fun x e => .inl e⟩ (PH.sub_in h b _ xs _ hbk), ?_⟩
      · have hxb : x ≠ b := fun e' => hx (by rw [e']; rfl)
        rw [PH.new_m, if_neg hxb, PH.del_m, if_neg hxb]; exact e
      · refine ((s.del b).step (row := some b) (zEv b (bs l) n w) (fun x e => ?_)).put q1 ⟨_, ct, lo, hi', by simpa using hh, ?_, q4, ?_, ?_⟩
        · injection e with e; subst e; exact ⟨q1, by simp [PH.del_m]⟩
        · simp; omega
        · simp only; rw [hlen]; omega
        · simp only
          have e1 : cur.toList.take n = xs := by rw [← hlx]; exact q6
          have e2 := List.take_left (l₁ := cur.toList.take n ++ bs l) (l₂ := cur.toList.drop (n + (bs l).length))
          rw [e1] at e2
          rw [List.toList_toArray, e1]
          simpa [List.append_assoc] using e2
    · refine zFk hE hu (zEy hbk hlx) (by omega) hsz fun b' c' g1 g2 g3 => ?_
      refine hk _ _ ⟨by rw [List.length_append, hlx, zA0, Nat.mul_one], .inr ⟨b', c', rfl, g2, g3, by simp [PH.new_m]⟩⟩ ⟨by simp only [PH.new_top]; omega, fun x k e _ => ?_, fun x e => ?_⟩ ((PH.Le.refl h).new _ _ g1).sub
      · rw [PH.new_m, if_neg (by have := h.lt x k e; omega)]; exact e
      · injection e with e; right; rw [← e]; exact g1
end
end Go.Proofs.Ytblikpbaeippaaa.Px


namespace Go.Proofs.Ytblikpbaeippaaa.Px
set_option linter.unusedVariables false
set_option linter.unusedSimpArgs false
open Go.RowKit
def Kn (h : PH) (v : Value) (l : List Value) : Prop := ∃ b o c X lim, v = .slice (some ⟨b, o, none⟩) l.length c ∧ l.length ≤ c ∧ h.m b = some ⟨X, lim⟩ ∧ o + l.length ≤ X.length ∧ (X.drop o).take l.length = l
theorem Kn.more {h h' : PH} {v : Value} {l : List Value} (k : Kn h v l) (hl : PH.Le h h') : Kn h' v l := by
  obtain ⟨b, o, c, X, lim, h1, h2, h3, h4, h5⟩ := k
  exact ⟨b, o, c, X, lim, h1, h2, hl.m _ _ h3, h4, h5⟩
theorem Kn.blk {h : PH} {b c lim : Nat} {X : List Value} (hb : h.m b = some ⟨X, lim⟩) (hc : X.length ≤ c) : Kn h (.slice (some ⟨b, 0, none⟩) X.length c) X :=
  ⟨b, 0, c, X, lim, rfl, hc, hb, by omega, by simp⟩
theorem Kn.rs {w0 : World} {h : PH} {A : Option Addr} {n c : Nat} {l : List Value} (k : Kn h (.slice A n c) l) : Rs w0 h 1 A n l := by
  obtain ⟨b, o, c', X, lim, h1, h2, h3, h4, h5⟩ := k
  injection h1 with e1 e2 e3
  subst e1; subst e2
  refine ⟨by omega, fun _ => ⟨_, rfl, ?_⟩⟩
  unfold rdN
  simp only [h3]
  rw [if_pos ⟨trivial, by omega⟩, Nat.mul_one, h5]
theorem Kn.get {X : List Value} {o n : Nat} {l : List Value} (hX : (X.drop o).take l.length = l) {j : Nat} (hj : j < l.length) : X[o + j]? = l[j]? := by
  have h := congrArg (fun l => l[j]?) hX
  simp only [List.getElem?_take_of_lt hj, List.getElem?_drop] at h
  exact h
theorem bs_get (l : List UInt8) (j : Nat) (hj : j < l.length) : (bs l)[j]? = some (u8 (l.getD j 0)) := by
  simp [bs, List.getElem?_eq_getElem hj, List.getD]
section
variable {P : Program} {w0 : World} {h : PH} {t u e ty : TypeId} {z : Value} {by_ : Nat} {K : Value → PH → Prop}
theorem Does_app0 {n c c' : Nat} {A A' : Option Addr} (hE : El P t e z 1 by_) (hn : n ≤ c) (hk : K (.slice A n c) h) : Does P w0 h (Builtin.append_ #[t, t] ty #[.slice A n c, .slice A' 0 c']) K := by
  intro w s
  obtain ⟨i, hi, hz, hsi, hby⟩ := hE.info
  refine ⟨_, w, h, ?_, hk, s⟩
  cases A <;> cases A' <;> simp [Builtin.append_, run_underlying hE.under, sizeOf, typeInfo, hi, Builtin.lenOf, Builtin.firstCells, loadCells, loadCellsFrom, Sem.run_pure, hn, storeCells]
theorem zHa {n c : Nat} {A : Option Addr} (hE : El P t e (.int .u8 0) 1 1) (hu : P.underlying u = some .string) (hn : n ≤ c) (hk : K (.slice A n c) h) : Does P w0 h (Builtin.append_ #[t, u] ty #[.slice A n c, str []]) K := by
  intro w s
  obtain ⟨i, hi, hz, hsi, hby⟩ := hE.info
  refine ⟨_, w, h, ?_, hk, s⟩
  have hf := Lib.run_firstCells_string (P := P) w 1 ⟨([] : List UInt8).toArray⟩
  rw [zC1, zA9] at hf
  simp only [List.length_nil] at hf
  unfold str
  cases A <;> simp [Builtin.append_, run_underlying hE.under, run_underlying hu, sizeOf, typeInfo, hi, hsi, Builtin.lenOf, zA9, hf, hn, storeCells, bs]
theorem Does_cat {n m c : Nat} {b o lim : Nat} {A : Option Addr} {X xs ys : List Value} (hE : El P t e z 1 by_) (hb : h.m b = some ⟨X, lim⟩) (ho : o + n ≤ X.length) (hX : (X.drop o).take n = xs) (hys : Kn h (.slice A m c) ys) (hsz : n + m ≤ maxLen) (hby : (n + m) * by_ ≤ 140737488355328)
    (hk : ∀ v' h', Kn h' v' (xs ++ ys) → PH.Le h h' → K v' h') : Does P w0 h (Builtin.append_ #[t, t] ty #[.slice (some ⟨b, o, none⟩) n n, .slice A m c]) K := by
  have hrs := hys.rs (w0 := w0)
  have hxl : xs.length = n := by rw [← hX]; simp; omega
  have hyl : ys.length = m := by have := hrs.1; omega
  rcases Nat.eq_zero_or_pos m with h0 | h0
  · have hy : ys = [] := List.eq_nil_of_length_eq_zero (by omega)
    subst hy
    subst h0
    refine Does_app0 hE (Nat.le_refl _) (hk _ _ ?_ (PH.Le.refl h))
    rw [List.append_nil]
    exact ⟨b, o, n, X, lim, by rw [hxl], by omega, hb, by omega, by rw [hxl, hX]⟩
  · refine Does_grow hE (xs := xs) ?_ hrs h0 (by omega) hsz hby fun b' c' g1 g2 g3 => ?_
    · unfold rdN; simp only [hb]; rw [if_pos ⟨trivial, by omega⟩, Nat.mul_one, hX]
    · refine hk _ _ ?_ ((PH.Le.refl h).new _ _ g1)
      have hl : (xs ++ ys).length = n + m := by simp; omega
      have := Kn.blk (h := h.new b' ⟨xs ++ ys, c' * 1⟩) (b := b') (c := c') (lim := c' * 1) (X := xs ++ ys) (by rw [PH.new_m, if_pos rfl]) (by omega)
      rwa [hl] at this
theorem Does_catT {n : Nat} {b o lim : Nat} {X xs : List Value} {l : List UInt8} (hE : El P t e (.int .u8 0) 1 1) (hu : P.underlying u = some .string) (hb : h.m b = some ⟨X, lim⟩) (ho : o + n ≤ X.length) (hX : (X.drop o).take n = xs) (hsz : n + l.length ≤ 1000000000)
    (hk : ∀ v' h', Kn h' v' (xs ++ bs l) → PH.Le h h' → K v' h') : Does P w0 h (Builtin.append_ #[t, u] ty #[.slice (some ⟨b, o, none⟩) n n, str l]) K := by
  have hxl : xs.length = n := by rw [← hX]; simp; omega
  rcases Nat.eq_zero_or_pos l.length with h0 | h0
  · have hy : l = [] := List.eq_nil_of_length_eq_zero h0
    subst hy
    refine zHa hE hu (Nat.le_refl _) (hk _ _ ?_ (PH.Le.refl h))
    rw [show bs [] = [] from rfl, List.append_nil]
    exact ⟨b, o, n, X, lim, by rw [hxl], by omega, hb, by omega, by rw [hxl, hX]⟩
  · refine zFk hE hu (xs := xs) ?_ (by omega) hsz fun b' c' g1 g2 g3 => ?_
    · unfold rdN; simp only [hb]; rw [if_pos ⟨trivial, by omega⟩, hX]
    · refine hk _ _ ?_ ((PH.Le.refl h).new _ _ g1)
      have hl : (xs ++ bs l).length = n + l.length := by rw [List.length_append, zA0]; omega
      have := Kn.blk (h := h.new b' ⟨xs ++ bs l, c'⟩) (b := b') (c := c') (lim := c') (X := xs ++ bs l) (by rw [PH.new_m, if_pos rfl]) (by omega)
      rwa [hl] at this
end
end Go.Proofs.Ytblikpbaeippaaa.Px


namespace Go.Proofs.Ytblikpbaeippaaa.Px
set_option linter.unusedVariables false
set_option linter.unusedSimpArgs false
open Go.RowKit
section
variable {P : Program} {w0 : World} {h : PH} {N : Nat} {K : Fr → PH → Prop}
def planOk2 (P : Program) (ops : Array Oper) : List (Nat × Bool) → Array Bool → Bool
  | [], listed => (Region.ready .any ops listed).isEmpty
  | (i, lo) :: l, listed => (match ops[i]? with
    | some o => if (!lo && silentB P o.op) = true then Region.free .any ops listed i && (Region.ready .any ops listed).contains i else Region.ready .any ops listed == [i]
    | none => false) && planOk2 P ops l (listed.setIfInBounds i true)
def vcH2 (P : Program) (w0 : World) (hS : PH) (ops : Array Oper) : List (Nat × Bool) → Fr → PH → (Fr → PH → Prop) → Prop
  | [], f, h, K => K f h
  | (i, lo) :: l, f, h, K => match ops[i]? with
    | some o => if (!lo && silentB P o.op) = true then vcG P w0 ops o f hS fun f' _ => vcH2 P w0 hS ops l f' h K
      else vcG P w0 ops o f h fun f' h' => PH.Sub w0 hS h' ∧ vcH2 P w0 hS ops l f' h' K
    | none => False
theorem zDs {hS : PH} {ops : Array Oper} {Q : Exit → Act → World → Prop} (hok : opsOk N ops.toList = true) (hsel : Region.noSelect ops = true) (hQ : ∀ c a d v w, Q (.panic c) (Act.put a d v) w → Q (.panic c) a w) :
    ∀ (l : List (Nat × Bool)) (fuel : Nat) (listed : Array Bool) (f : Fr) (h : PH), l.length ≤ fuel → planOk2 P ops l listed = true → vcH2 P w0 hS ops l f h K → PH.Sub w0 hS h →
      ∀ a w, FSat f a N → Sim w0 h w → (∀ f' h' a' w', K f' h' → FSat f' a' N → Sim w0 h' w' → Q .normal a' w') → wpAnyH P .any ops Q (Sim w0 hS) fuel listed a w
  | [], fuel, listed, f, h, _, hp, hv, hl, a, w, fs, s, hK => by
    simp only [planOk2, List.isEmpty_iff] at hp
    exact wpAnyH_done hp (hK f h a w hv fs s) fuel
  | i :: l, 0, listed, f, h, hlen, hp, hv, hl, a, w, fs, s, hK => absurd hlen (by simp)
  | (i, lo) :: l, fuel + 1, listed, f, h, hlen, hp, hv, hl, a, w, fs, s, hK => by
    simp only [planOk2, Bool.and_eq_true (a := match ops[i]? with | some o => _ | none => false)] at hp
    simp only [vcH2] at hv
    obtain ⟨hp1, hp2⟩ := hp
    cases ho : ops[i]? with
    | none => rw [ho] at hp1; cases hp1
    | some o =>
      have hdo : dstOk N o.dst = true := by
        simp only [opsOk, List.all_eq_true] at hok
        exact hok o (by rw [Array.mem_toList_iff]; exact Array.mem_of_getElem? ho)
      simp only [ho] at hp1 hv
      have hlen' : l.length ≤ fuel := by simpa using hlen
      by_cases hs : (!lo && silentB P o.op) = true
      · rw [if_pos hs] at hp1 hv
        have hs' : silentB P o.op = true := by
          cases lo <;> simp_all
        simp only [Bool.and_eq_true] at hp1
        rcases zBr (N := N) hv with ⟨h1, h2⟩ | ⟨h1, h2⟩
        · obtain ⟨v, h3, h4⟩ := zCu hs' hdo h1
          exact wpAnyH_take ho hsel hp1.1 hp1.2 (fun c a w q => hQ c a _ v w q) (.inl ⟨h2 a fs, fun w' s' => h4 a w' fs s'⟩) (hl _ s) (zDs hok hsel hQ l fuel _ _ h hlen' hp2 h3 hl _ w (fs.put hdo v) s hK)
        · exact wpAnyH_take ho hsel hp1.1 hp1.2 (fun c a w q => hQ c a _ undef w q) (.inr ⟨h2 a fs, rfl⟩) (hl _ s) (zDs hok hsel hQ l fuel _ _ h hlen' hp2 h1 hl _ w (fs.put hdo _) s hK)
      · rw [if_neg hs] at hp1 hv
        refine wpAnyH_all (rs := [i]) (by simpa using hp1) (by simp) fun j hj => ?_
        obtain rfl : j = i := by simpa using hj
        unfold wpOp
        simp only [ho]
        rcases zBr (N := N) hv with ⟨h1, h2⟩ | ⟨h1, h2⟩
        · rw [if_pos (h2 a fs)]
          exact .inl (zC8 hdo h1 a w fs s _ _ fun f' h' a' w' q r t => ⟨q.1 _ t, zDs hok hsel hQ l fuel _ f' h' hlen' hp2 q.2 q.1 a' w' r t hK⟩)
        · rw [if_neg (by rw [h2 a fs]; simp)]
          exact ⟨hl _ s, zDs hok hsel hQ l fuel _ _ h hlen' hp2 h1.2 hl _ w (fs.put hdo _) s hK⟩
def vc2S (P : Program) (w0 : World) (hS : PH) (ops : List Oper) (l : List (Nat × Bool)) (f : Fr) (h : PH) (K : Fr → PH → Prop) (_ : Seal ops := ⟨⟩) (_ : Seal K := ⟨⟩) : Prop := vcH2 P w0 hS ops.toArray l f h K
def vc2O (P : Program) (w0 : World) (hS : PH) (ops : List Oper) (o : Option Oper) (lo : Bool) (l : List (Nat × Bool)) (f : Fr) (h : PH) (K : Fr → PH → Prop) (_ : Seal ops := ⟨⟩) (_ : Seal K := ⟨⟩) : Prop := match o with
  | some o => if (!lo && silentB P o.op) = true then vcG P w0 ops.toArray o f hS fun f' _ => vcH2 P w0 hS ops.toArray l f' h K
      else vcG P w0 ops.toArray o f h fun f' h' => PH.Sub w0 hS h' ∧ vcH2 P w0 hS ops.toArray l f' h' K
  | none => False
theorem vc2S_nil {f : Fr} (hS : PH) (ops : List Oper) : vc2S P w0 hS ops [] f h K = K f h := rfl
theorem vc2S_cons {f : Fr} (hS : PH) (ops : List Oper) (i : Nat) (lo : Bool) (l : List (Nat × Bool)) : vc2S P w0 hS ops ((i, lo) :: l) f h K = vc2O P w0 hS ops (nthO ops i) lo l f h K := by
  unfold vc2S vc2O
  rw [zB6]
  rfl
theorem vc2O_loud {f : Fr} (hS : PH) (ops : List Oper) (o : Oper) (l : List (Nat × Bool)) : vc2O P w0 hS ops (some o) true l f h K = vcM P w0 ops.toArray [o] f h fun f' h' => vcLe w0 hS h' (vc2S P w0 hS ops l f' h' K) := by
  unfold vc2O
  rw [zBc]
  simp only [Bool.not_true, Bool.false_and, Bool.false_eq_true, if_false]
  rfl
theorem vc2O_some {f : Fr} (hS : PH) (ops : List Oper) (o : Oper) (l : List (Nat × Bool)) : vc2O P w0 hS ops (some o) false l f h K = vcIf (silentB P o.op) (vcM P w0 ops.toArray [o] f hS fun f' _ => vc2S P w0 hS ops l f' h K) (vcM P w0 ops.toArray [o] f h fun f' h' => vcLe w0 hS h' (vc2S P w0 hS ops l f' h' K)) := by
  unfold vc2O
  simp only [Bool.not_false, Bool.true_and]
  cases hs : silentB P o.op
  · rw [zBj, zBc]; simp only [Bool.false_eq_true, if_false]; rfl
  · rw [zBn, zBc]; simp only [if_true]; rfl
theorem zC9 {f : Fr} {id : Nat} {ops : List Oper} {Q : Exit → Fr → PH → Prop} (l : List (Nat × Bool)) (hS : PH) (hm : P.follows .mixedOrders = true) (hp : planOk2 P ops.toArray l (Array.replicate ops.toArray.size false) = true) (hlen : Nat.ble l.length ops.toArray.size = true) (hok : opsOk N ops = true) (hsel : Region.noSelect ops.toArray = true)
    (hQ : ∀ c f h, ¬ Q (.panic c) f h) (hl : PH.Sub w0 hS h) (hv : vc2S P w0 hS ops l f h (Q .normal)) : PW P w0 N (.region id ops.toArray true) f h Q := by
  intro a w fs s
  refine wp_region_held (S := Sim w0 hS) hm ?_
  exact zDs (by simpa using hok) hsel (fun c a d v w => by rintro ⟨f', h', q, _⟩; exact absurd q (hQ c f' h')) l _ _ f h (Nat.le_of_ble_eq_true hlen) hp hv hl a _ fs s.drew fun f' h' a' w' q r t => ⟨f', h', q, r, t⟩
end
theorem zFz {P : Program} (t : TypeId) (ps : Array (Nat × Operand)) : silentB P (.build t ps) = true := rfl
/-! A long region's operations come in two lists. -/
section
variable {P : Program} {w0 : World} {h : PH} {f : Fr} {K : Fr → PH → Prop} {ops : Array Oper}
theorem vcM_app (o : Oper) (l m : List Oper) : vcM P w0 ops (List.append (o :: l) m) f h K = vcM P w0 ops (o :: List.append l m) f h K := rfl
theorem vcM_app0 (m : List Oper) : vcM P w0 ops (List.append [] m) f h K = vcM P w0 ops m f h K := rfl
theorem nthD_app (d : Option Tmp) (op : Op) (ty : TypeId) (pos : String) (af : Array Edge) (g : Option (Nat × Bool)) (l m : List Oper) : nthD (List.append (⟨d, op, ty, pos, af, g⟩ :: l) m) 0 = d := rfl
theorem nthD_appS (o : Oper) (l m : List Oper) (n : Nat) : nthD (List.append (o :: l) m) (n + 1) = nthD (List.append l m) n := rfl
theorem nthD_app0 (m : List Oper) (n : Nat) : nthD (List.append [] m) n = nthD m n := rfl
end
end Go.Proofs.Ytblikpbaeippaaa.Px

