/- Parts Pa, Pc, Pd, Pe, Pf, Pg, joined. No condition. -/
import Derived.Test.YtdlaoeepeakpeaaGreatM1A
import Derived.Laws.IdiomCopy
import Derived.Laws.Pointers
/- The logic's equations for arrays, slices of slices, structs' fields, new variables. No condition. -/
namespace Go.Proofs.YtdlaoeepeakpeaaGreat.Px
set_option linter.unusedVariables false
set_option linter.unusedSimpArgs false
open Go.RowKit
section
variable {P : Program} {w0 : World} {h : PH} {t e : TypeId} {K : Value → Prop} {sz : Nat}
theorem vcM_alloc' {ops : Array Oper} {d : Option Tmp} {ty : TypeId} {pos : String} {af : Array Edge} {l : List Oper} {f : Fr} {K : Fr → PH → Prop} (t : TypeId) : vcM P w0 ops (⟨d, .alloc t, ty, pos, af, none⟩ :: l) f h K = ogetL (zcells P t) fun cs => vcNew h fun b => vcM P w0 ops l (f.put d (.pointer (some ⟨b, 0, none⟩))) (h.new b ⟨cs, cs.length⟩) K := by
  cases hz : zcells P t with
  | none =>
    rw [vcM_cons]
    simp only [vcG, vcOp, hz]
    rfl
  | some cs => rw [vcM_alloc t hz, ogetL_some]
theorem y_midL (hu : P.underlying t = some (.slice e)) (hz : szOf P e = some sz) (b o n c : Nat) (k k' : IntKind) (i j : Int) (h0 : 0 ≤ i) (h1 : i ≤ j) (h2 : j ≤ c) : Yld P (Instr.sliceAt t (.slice (some ⟨b, o, none⟩) n c) (some (.int k i)) (some (.int k' j)) none) K = K (.slice (cutAt b o (i.toNat * sz) (decide (c = i.toNat))) (j.toNat - i.toNat) (c - i.toNat)) := Yld_eq fun w => by
  obtain ⟨i', rfl⟩ := Int.eq_ofNat_of_zero_le h0
  obtain ⟨j', rfl⟩ := Int.eq_ofNat_of_zero_le (Int.le_trans h0 h1)
  have h3 : i' ≤ j' := by omega
  have h4 : j' ≤ c := by omega
  simp [Instr.sliceAt, run_underlying hu, Instr.slice, Instr.sliceBounds, Instr.sliceBound, asIntOf, h3, h4, run_sizeOf hz, cutAt, Addr.add_mid]
  split <;> rfl
theorem y_toL (hu : P.underlying t = some (.slice e)) (hz : szOf P e = some sz) (b o n c : Nat) (k' : IntKind) (j : Int) (h1 : 0 ≤ j) (h2 : j ≤ c) : Yld P (Instr.sliceAt t (.slice (some ⟨b, o, none⟩) n c) none (some (.int k' j)) none) K = K (.slice (some ⟨b, o, none⟩) j.toNat c) := Yld_eq fun w => by
  obtain ⟨j', rfl⟩ := Int.eq_ofNat_of_zero_le h1
  have h4 : j' ≤ c := by omega
  simp [Instr.sliceAt, run_underlying hu, Instr.slice, Instr.sliceBounds, Instr.sliceBound, asIntOf, h4, run_sizeOf hz, Addr.add_mid]
theorem y_to3L (hu : P.underlying t = some (.slice e)) (hz : szOf P e = some sz) (b o n c : Nat) (k k' : IntKind) (j m : Int) (h1 : 0 ≤ j) (h2 : j ≤ m) (h3 : m ≤ c) : Yld P (Instr.sliceAt t (.slice (some ⟨b, o, none⟩) n c) none (some (.int k' j)) (some (.int k m))) K = K (.slice (some ⟨b, o, none⟩) j.toNat m.toNat) := Yld_eq fun w => by
  obtain ⟨j', rfl⟩ := Int.eq_ofNat_of_zero_le h1
  obtain ⟨m', rfl⟩ := Int.eq_ofNat_of_zero_le (Int.le_trans h1 h2)
  have h4 : j' ≤ m' := by omega
  have h5 : m' ≤ c := by omega
  simp [Instr.sliceAt, run_underlying hu, Instr.slice, Instr.sliceBounds, Instr.sliceBound, asIntOf, h4, h5, run_sizeOf hz, Addr.add_mid]
theorem sl1_parts (hu : sl1B P t = true) : ∃ e, P.underlying t = some (.slice e) ∧ szOf P e = some 1 := by
  unfold sl1B at hu
  split at hu
  · rename_i e he
    exact ⟨e, he, by simpa using hu⟩
  · cases hu
theorem y_mid1 (hu : sl1B P t = true) (b o n c : Nat) (k k' : IntKind) (i j : Int) (h0 : 0 ≤ i) (h1 : i ≤ j) (h2 : j ≤ c) : Yld P (Instr.sliceAt t (.slice (some ⟨b, o, none⟩) n c) (some (.int k i)) (some (.int k' j)) none) K = K (.slice (cutAt b o i.toNat (decide (c = i.toNat))) (j.toNat - i.toNat) (c - i.toNat)) := by
  obtain ⟨e, h3, h4⟩ := sl1_parts hu
  rw [y_midL h3 h4 b o n c k k' i j h0 h1 h2, Nat.mul_one]
theorem y_to1 (hu : sl1B P t = true) (b o n c : Nat) (k' : IntKind) (j : Int) (h1 : 0 ≤ j) (h2 : j ≤ c) : Yld P (Instr.sliceAt t (.slice (some ⟨b, o, none⟩) n c) none (some (.int k' j)) none) K = K (.slice (some ⟨b, o, none⟩) j.toNat c) := by
  obtain ⟨e, h3, h4⟩ := sl1_parts hu
  rw [y_toL h3 h4 b o n c k' j h1 h2]
theorem y_to31 (hu : sl1B P t = true) (b o n c : Nat) (k k' : IntKind) (j m : Int) (h1 : 0 ≤ j) (h2 : j ≤ m) (h3 : m ≤ c) : Yld P (Instr.sliceAt t (.slice (some ⟨b, o, none⟩) n c) none (some (.int k' j)) (some (.int k m))) K = K (.slice (some ⟨b, o, none⟩) j.toNat m.toNat) := by
  obtain ⟨e, h4, h5⟩ := sl1_parts hu
  rw [y_to3L h4 h5 b o n c k k' j m h1 h2 h3]
theorem y_sliceA {m : Nat} (hu : P.underlying t = some (.array m e)) (hz : szOf P e = some sz) (b o : Nat) : Yld P (Instr.sliceAt t (.pointer (some ⟨b, o, none⟩)) none none none) K = K (.slice (some ⟨b, o, none⟩) m m) := Yld_eq fun w => by
  simp [Instr.sliceAt, run_underlying hu, Instr.sliceBounds, run_sizeOf hz, Instr.sureAddr, Addr.add_mid]
/-- An element, of one cell, of an array's value. -/
theorem y_indexV {m : Nat} (hu : P.underlying t = some (.array m e)) (ha : aggB P e = some false) (hz : szOf P e = some 1) (cs : List Value) (hl : cs.length = m) (k : IntKind) (i : Int) (h0 : 0 ≤ i) (h1 : i < m) : Yld P (Instr.index t (.agg cs.toArray) (.int k i)) K = K (cs.getD i.toNat undef) := Yld_eq fun w => by
  obtain ⟨i', rfl⟩ := Int.eq_ofNat_of_zero_le h0
  have h3 : i' < cs.length := by omega
  have h4 : (isAgg e).run P w = .ok false w := by
    unfold aggB at ha
    obtain ⟨d, hd, hd2⟩ := Option.map_eq_some_iff.1 ha
    unfold isAgg
    simp only [Sem.run_bind, run_underlying hd]
    cases d <;> first | rfl | cases hd2
  simp [Instr.index, run_underlying hu, asIntOf, h1, run_sizeOf hz, part, h4, h3, List.getD, List.getElem?_eq_getElem h3]
  intro h6
  omega
theorem run_isAgg {e : TypeId} (ha : aggB P e = some false) (w : World) : (isAgg e).run P w = .ok false w := by
  unfold aggB at ha
  obtain ⟨d, hd, hd2⟩ := Option.map_eq_some_iff.1 ha
  unfold isAgg
  simp only [Sem.run_bind, run_underlying hd]
  cases d <;> first | rfl | cases hd2
theorem y_fieldAt {fs : Array Field} {i off n : Nat} (hu : P.underlying t = some (.struct fs)) (hf : (fs[i]?).map (fun f => (f.offset, f.type)) = some (off, e)) (hz : szOf P e = some (n + 1)) (b o : Nat) : Yld P (Instr.fieldAt t (.pointer (some ⟨b, o, none⟩)) i) K = K (.pointer (some ⟨b, o + off, none⟩)) := Yld_eq fun w => by
  obtain ⟨f, hf1, hf2⟩ := Option.map_eq_some_iff.1 hf
  obtain ⟨rfl, rfl⟩ := Prod.mk.injEq .. ▸ hf2
  simp [Instr.fieldAt, run_underlying hu, hf1, Instr.sureAddr, fieldPlace, run_sizeOf hz, Addr.add_mid]
theorem y_fieldV {fs : Array Field} {i off n : Nat} (hu : P.underlying t = some (.struct fs)) (hf : (fs[i]?).map (fun f => (f.offset, f.type)) = some (off, e)) (ha : aggB P e = some false) (cs : List Value) (hl : cs.length = n) (hn : off < n) : Yld P (Instr.field t (.agg cs.toArray) i) K = K (cs.getD off undef) := Yld_eq fun w => by
  obtain ⟨f, hf1, hf2⟩ := Option.map_eq_some_iff.1 hf
  obtain ⟨rfl, rfl⟩ := Prod.mk.injEq .. ▸ hf2
  have h3 : f.offset < cs.length := by omega
  simp [Instr.field, run_underlying hu, hf1, part, asAgg, run_isAgg ha, h3, List.getD, List.getElem?_eq_getElem h3]
/-- A value of one cell. -/
def One (v : Value) : Prop := v.cells = #[v] ∧ v.oneCell' = true
theorem one_u8 (c : UInt8) : One (u8 c) = True := eq_true ⟨rfl, rfl⟩
theorem one_u16 (c : UInt16) : One (u16 c) = True := eq_true ⟨rfl, rfl⟩
theorem one_u32 (c : UInt32) : One (u32 c) = True := eq_true ⟨rfl, rfl⟩
theorem one_u64 (c : UInt64) : One (u64 c) = True := eq_true ⟨rfl, rfl⟩
theorem one_int (k : IntKind) (n : Int) : One (.int k n) = True := eq_true ⟨rfl, rfl⟩
theorem one_str (l : List UInt8) : One (str l) = True := eq_true ⟨rfl, rfl⟩
theorem one_bool (b : Bool) : One (.bool b) = True := eq_true ⟨rfl, rfl⟩
theorem one_ptr (a : Option Addr) : One (.pointer a) = True := eq_true ⟨rfl, rfl⟩
theorem one_sl (a : Option Addr) (n c : Nat) : One (.slice a n c) = True := eq_true ⟨rfl, rfl⟩
theorem one_ifc (t : TypeId) (v : Value) : One (.iface t v) = True := eq_true ⟨rfl, rfl⟩
theorem one_nilI : One .nilIface = True := eq_true ⟨rfl, rfl⟩
theorem one_nilF : One .nilFunc = True := eq_true ⟨rfl, rfl⟩
def ogetB (o : Option Bk) (k : Bk → Prop) (_ : Seal k := ⟨⟩) : Prop := match o with
  | some b => k b
  | none => False
theorem ogetB_some (b : Bk) (k : Bk → Prop) : ogetB (some b) k = k b := rfl
theorem vstore_1 {k : PH → Prop} (hz : szOf P t = some 1) (v : Value) (h1 : One v) (b o : Nat) : vstore P w0 h t ⟨b, o, none⟩ v k = ogetB (h.m b) fun bk => vcIf (decide (o < bk.xs.length)) (k (h.new b ⟨bk.xs.set o v, bk.lim⟩)) False := by
  obtain ⟨h2, h3⟩ := h1
  have ha : allOne v.cells.toList := by rw [h2]; intro u hu; simp at hu; subst hu; exact h3
  unfold vstore
  cases hm : h.m b with
  | none => simp [ogetB]
  | some bk =>
    simp only [ogetB_some, hz, h2, ha]
    by_cases ho : o < bk.xs.length
    · rw [decide_eq_true ho, vcIf_true]
      have h5 : bk.xs.take o ++ [v] ++ bk.xs.drop (o + 1) = bk.xs.set o v := by rw [List.set_eq_take_append_cons_drop, if_pos ho]; simp
      have ha' : allOne (#[v] : Array Value).toList := by rw [← h2]; exact ha
      simp [h5, show o + 1 ≤ bk.xs.length from ho, show allOne [v] from ha']
    · rw [decide_eq_false ho, vcIf_false]
      simp; omega
theorem vstore_N {k : PH → Prop} {n : Nat} (hz : szOf P t = some n) (cs : List Value) (hl : cs.length = n) (h1 : allOne cs) (b o : Nat) : vstore P w0 h t ⟨b, o, none⟩ (.agg cs.toArray) k = ogetB (h.m b) fun bk => vcIf (decide (o + n ≤ bk.xs.length)) (k (h.new b ⟨bk.xs.take o ++ cs ++ bk.xs.drop (o + n), bk.lim⟩)) False := by
  have h2 : (Value.agg cs.toArray).cells = cs.toArray := rfl
  unfold vstore
  cases hm : h.m b with
  | none => simp [ogetB]
  | some bk =>
    simp only [ogetB_some, hz, h2, List.size_toArray, hl]
    by_cases ho : o + n ≤ bk.xs.length
    · rw [decide_eq_true ho, vcIf_true]; simp [ho, h1]
    · rw [decide_eq_false ho, vcIf_false]; simp [ho]
theorem fill_seq : ∀ (us : List Value) (k : Nat) (ds rest : List Value), ds.length = k → us.length = rest.length → (∀ u ∈ us, u.cells = #[u]) →
    Instr.fill (fun i => some (i * 1, 1)) (ds ++ rest).toArray ((List.range' k us.length).zip us) = some (ds ++ us).toArray
  | [], k, ds, rest, _, hr, _ => by
    have : rest = [] := List.length_eq_zero_iff.1 hr.symm
    subst this
    simp [Instr.fill]
  | u :: us, k, ds, rest, hd, hr, hu => by
    obtain ⟨r, rest, rfl⟩ : ∃ r rest', rest = r :: rest' := by
      cases rest with
      | nil => simp at hr
      | cons r rest => exact ⟨r, rest, rfl⟩
    have hu1 := hu u List.mem_cons_self
    have key := fill_seq us (k + 1) (ds ++ [u]) rest (by simp [hd]) (by simpa using hr) (fun x hx => hu x (List.mem_cons_of_mem _ hx))
    simp only [List.append_assoc, List.singleton_append] at key
    rw [List.length_cons, List.range'_succ, List.zip_cons_cons]
    unfold Instr.fill
    simp only [hu1, Nat.mul_one]
    have hset : (ds ++ r :: rest).toArray.setIfInBounds k u = (ds ++ u :: rest).toArray := by
      rw [List.setIfInBounds_toArray, List.set_append_right _ _ (by omega)]; simp [hd]
    have hfold : (#[u] : Array Value).zipIdx.foldl (fun (cs : Array Value) (x : Value × Nat) => cs.setIfInBounds (k + x.2) x.1) (ds ++ r :: rest).toArray = (ds ++ u :: rest).toArray := by
      rw [← hset]; simp
    rw [if_neg (by simp [hd]), hfold]
    simp only [Nat.mul_one] at key
    exact key
theorem y_buildA {m : Nat} {zs : List Value} (hu : P.underlying t = some (.array m e)) (hz : szOf P e = some 1) (hzs : zcells P t = some zs) (hzl : zs.length = m) (vs : List Value) (hl : vs.length = m) (h1 : ∀ v ∈ vs, One v) : Yld P (Instr.build t ((List.range' 0 m).zip vs).toArray) K = K (.agg vs.toArray) := Yld_eq fun w => by
  obtain ⟨i, hi, h2⟩ := Option.bind_eq_some_iff.1 hzs
  obtain ⟨z, hz1, h3⟩ := Option.map_eq_some_iff.1 h2
  have hf := fill_seq vs 0 [] zs rfl (by omega) (fun u hu => (h1 u hu).1)
  rw [hl] at hf
  simp only [List.nil_append] at hf
  have hzz : zs.toArray = z.cells := by rw [← h3]
  rw [hzz] at hf
  simp [Instr.build, run_underlying hu, zeroValue, typeInfo, hi, hz1, run_sizeOf hz]
  simp only [Nat.mul_one] at hf
  simp [hf]
theorem rdN_new (h : PH) (b o n : Nat) (k : Bk) : rdN w0 (h.new b k) ⟨b, o, none⟩ n = if o + n ≤ k.xs.length then some ((k.xs.drop o).take n) else none := by
  unfold rdN; simp [PH.new_m]
theorem rdN_known {h : PH} {b n : Nat} {k : Bk} (hb : h.m b = some k) (hl : k.xs.length = n) : rdN w0 h ⟨b, 0, none⟩ n = some k.xs := by
  unfold rdN; simp only [hb]; rw [if_pos ⟨trivial, by omega⟩, List.drop_zero, List.take_of_length_le (by omega)]
/-- A slice literal whose elements are given one by one. -/
theorem Does_seq {z : Value} {n by_ : Nat} {K : Value → PH → Prop} (hE : El P t e z 1 by_) (vs : List Value) (hl : vs.length = n) (h1 : ∀ v ∈ vs, One v) (hpos : 0 < n) (hs : n ≤ 16777216)
    (hk : ∀ b, h.top ≤ b → K (.slice (some ⟨b, 0, none⟩) n n) (h.new b ⟨vs, n⟩)) : Does P w0 h (Instr.buildSlice t n ((List.range' 0 n).zip vs).toArray) K := by
  refine Does_cells hE hl hpos hs ?_ hk
  have hf := fill_seq vs 0 [] ((Array.range (n * 1)).map (z.cells[· % z.cells.size]!)).toList rfl (by simp [hl]) (fun u hu => (h1 u hu).1)
  rw [hl, List.nil_append, List.nil_append, Array.toArray_toList] at hf
  exact hf
theorem made_one (z : Value) (n : Nat) : (madeCells #[z] n).toList = List.replicate n z := by
  apply List.ext_getElem
  · simp [size_madeCells]
  · intro i h1 h2
    simp [madeCells, Nat.mod_one]
/-- What is read, by what is known of the block. -/
def rdM (w0 : World) (k : Option Bk) (b o : Nat) : Option Value := match k with
  | some k => k.xs[o]?
  | none => if b < w0.heap.size then w0.cell? ⟨b, o, none⟩ else none
theorem rd_M (h : PH) (b o : Nat) : rd w0 h ⟨b, o, none⟩ = rdM w0 (h.m b) b o := by
  unfold rd rdM; rw [if_pos rfl]; cases h.m b <;> rfl
theorem rdM_some (k : Bk) (b o : Nat) : rdM w0 (some k) b o = k.xs[o]? := rfl
/-! A drawn region by a plan: in which order its operations may be taken. -/
def nthO : List Oper → Nat → Option Oper
  | [], _ => none
  | o :: _, 0 => some o
  | _ :: l, n + 1 => nthO l n
theorem nthO_zero (o : Oper) (l : List Oper) : nthO (o :: l) 0 = some o := rfl
theorem nthO_succ (o : Oper) (l : List Oper) (n : Nat) : nthO (o :: l) (n + 1) = nthO l n := rfl
theorem nthO_eq : ∀ (l : List Oper) (i : Nat), nthO l i = l.toArray[i]?
  | [], i => by simp [nthO]
  | o :: l, 0 => by simp [nthO]
  | o :: l, i + 1 => by have := nthO_eq l i; simp [nthO] at this ⊢; exact this
def vcHR (P : Program) (w0 : World) (hS : PH) (ops : List Oper) : List Nat → Fr → PH → (Fr → PH → Prop) → Prop
  | [], f, h, K => K f h
  | i :: l, f, h, K => match nthO ops i with
    | some o => vcIf (silentB P o.op) (vcM P w0 ops.toArray [o] f hS fun f' _ => vcHR P w0 hS ops l f' h K) (vcM P w0 ops.toArray [o] f h fun f' h' => vcLe w0 hS h' (vcHR P w0 hS ops l f' h' K))
    | none => False
def vcHS (P : Program) (w0 : World) (hS : PH) (ops : List Oper) (l : List Nat) (f : Fr) (h : PH) (K : Fr → PH → Prop) (_ : Seal ops := ⟨⟩) (_ : Seal K := ⟨⟩) : Prop := vcHR P w0 hS ops l f h K
def vcHO (P : Program) (w0 : World) (hS : PH) (ops : List Oper) (o : Option Oper) (l : List Nat) (f : Fr) (h : PH) (K : Fr → PH → Prop) (_ : Seal ops := ⟨⟩) (_ : Seal K := ⟨⟩) : Prop := match o with
  | some o => vcIf (silentB P o.op) (vcM P w0 ops.toArray [o] f hS fun f' _ => vcHS P w0 hS ops l f' h K) (vcM P w0 ops.toArray [o] f h fun f' h' => vcLe w0 hS h' (vcHS P w0 hS ops l f' h' K))
  | none => False
theorem vcHS_nil {f : Fr} {K : Fr → PH → Prop} (hS : PH) (ops : List Oper) : vcHS P w0 hS ops [] f h K = K f h := rfl
theorem vcHS_cons {f : Fr} {K : Fr → PH → Prop} (hS : PH) (ops : List Oper) (i : Nat) (l : List Nat) : vcHS P w0 hS ops (i :: l) f h K = vcHO P w0 hS ops (nthO ops i) l f h K := rfl
theorem vcHO_some {f : Fr} {K : Fr → PH → Prop} (hS : PH) (ops : List Oper) (o : Oper) (l : List Nat) : vcHO P w0 hS ops (some o) l f h K = vcIf (silentB P o.op) (vcM P w0 ops.toArray [o] f hS fun f' _ => vcHS P w0 hS ops l f' h K) (vcM P w0 ops.toArray [o] f h fun f' h' => vcLe w0 hS h' (vcHS P w0 hS ops l f' h' K)) := rfl
theorem silent_indexAddr (t : TypeId) (x i : Operand) : silentB P (.indexAddr t x i) = true := rfl
theorem silent_index (t : TypeId) (x i : Operand) : silentB P (.index t x i) = true := rfl
theorem silent_slice (t : TypeId) (x : Operand) (a b c : Option Operand) : silentB P (.slice t x a b c) = true := rfl
theorem silent_unOp (op : UnOp) (t : TypeId) (x : Operand) : silentB P (.unOp op t x) = true := rfl
theorem silent_fieldAddr (t : TypeId) (x : Operand) (i : Nat) : silentB P (.fieldAddr t x i) = true := rfl
theorem silent_field (t : TypeId) (x : Operand) (i : Nat) : silentB P (.field t x i) = true := rfl
theorem silent_nilCheck (x : Operand) : silentB P (.nilCheck x) = true := rfl
theorem silent_iface (t : TypeId) (x : Operand) : silentB P (.makeInterface t x) = true := rfl
theorem silent_convert (s d : TypeId) (x : Operand) : silentB P (.convert s d x) = !isSliceB P d := rfl
theorem vcHR_vcH {hS : PH} {ops : List Oper} {K : Fr → PH → Prop} : ∀ (l : List Nat) (f : Fr) (h : PH), vcHR P w0 hS ops l f h K = vcH P w0 hS ops.toArray l f h K
  | [], f, h => rfl
  | i :: l, f, h => by
    unfold vcHR vcH
    rw [← nthO_eq]
    cases ho : nthO ops i with
    | none => rfl
    | some o =>
      simp only
      cases hs : silentB P o.op
      · rw [vcIf_false, vcM_cons]
        simp only [Bool.false_eq_true, if_false, vcM_nil]
        exact congrArg (fun k => vcG P w0 ops.toArray o f h k) (funext fun f' => funext fun h' => congrArg (fun X => PH.Sub w0 hS h' ∧ X) (vcHR_vcH l f' h'))
      · rw [vcIf_true, vcM_cons]
        simp only [if_true, vcM_nil]
        exact congrArg (fun k => vcG P w0 ops.toArray o f hS k) (funext fun f' => funext fun h' => vcHR_vcH l f' h)
theorem PW_plan {N : Nat} {f : Fr} {id : Nat} {ops : List Oper} {Q : Exit → Fr → PH → Prop} (l : List Nat) (hS : PH) (hm : P.follows .mixedOrders = true) (hp : planOk P ops.toArray l (Array.replicate ops.toArray.size false) = true) (hlen : Nat.ble l.length ops.toArray.size = true) (hok : opsOk N ops = true) (hsel : Region.noSelect ops.toArray = true)
    (hQ : ∀ c f h, ¬ Q (.panic c) f h) (hl : PH.Sub w0 hS h) (hv : vcHS P w0 hS ops l f h (Q .normal)) : PW P w0 N (.region id ops.toArray true) f h Q :=
  PW_held hS l hm hp (Nat.le_of_ble_eq_true hlen) (by simpa using hok) hsel hQ hl ((vcHR_vcH l f h).mp hv)
/-! A drawn region that is silent up to its last operations, which come in their order. -/
theorem vcL_eq {ops : Array Oper} {K : Fr → PH → Prop} : ∀ (l : List Oper) (f : Fr) (h : PH), vcL P w0 ops l f h K = vcM P w0 ops l f h K
  | [], f, h => rfl
  | o :: l, f, h => by
    rw [vcM_cons]
    exact congrArg (fun k => vcG P w0 ops o f h k) (funext fun f' => funext fun h' => vcL_eq l f' h')
theorem vcT_eq {ops : Array Oper} {K : Fr → PH → Prop} : ∀ (n : Nat) (l : List Oper) (f : Fr) (h : PH), vcT P w0 ops n l f h K = vcM P w0 ops l f h K
  | 0, l, f, h => by rw [← vcL_eq]; cases l <;> rfl
  | n + 1, [], f, h => rfl
  | n + 1, o :: l, f, h => by
    rw [vcM_cons]
    exact congrArg (fun k => vcG P w0 ops o f h k) (funext fun f' => funext fun h' => vcT_eq n l f' h')
theorem PW_tail1 {N : Nat} {f : Fr} {id : Nat} {l : List Oper} {Q : Exit → Fr → PH → Prop} (n : Nat) (hm : P.follows .mixedOrders = true) (hB : Region.lexTailB .any l.toArray n = true) (hok : opsOk N l = true) (hsil : ((l.take n).all fun o => silentB P o.op) = true)
    (hv : vcM P w0 l.toArray l f h (Q .normal)) : PW P w0 N (.region id l.toArray true) f h Q :=
  PW_tail n hm hB hok hsil (by rw [vcT_eq]; exact hv)
end
end Go.Proofs.YtdlaoeepeakpeaaGreat.Px


/- The logic's rules for copies, and for two rows that are lengthened side by side. No condition. -/
namespace Go.Proofs.YtdlaoeepeakpeaaGreat.Px
set_option linter.unusedVariables false
set_option linter.unusedSimpArgs false
open Go.RowKit
section
variable {P : Program} {w0 : World} {h : PH} {t e ty dT sT : TypeId} {K : Value → PH → Prop}
/-- A text that fits, copied into a known block. -/
theorem Does_copyT {b o n c : Nat} {l : List UInt8} {k : Bk} (hu : P.underlying dT = some (.slice e)) (hz : szOf P e = some 1) (hb : h.m b = some k) (hle : l.length ≤ n) (hfit : o + l.length ≤ k.xs.length)
    (hk : K (.int .i64 l.length) (h.new b ⟨k.xs.take o ++ bs l ++ k.xs.drop (o + l.length), k.lim⟩)) : Does P w0 h (Builtin.copy_ #[dT, sT] ty #[.slice (some ⟨b, o, none⟩) n c, str l]) K := by
  intro w s
  obtain ⟨ht, hs⟩ := s.store (bs l) hb (o := o) (by rw [bs_length]; exact hfit)
  rw [bs_length] at hs
  refine ⟨_, w.setCells b o (bs l), _, ?_, hk, hs⟩
  have hlen : (l.map fun x => Value.int .u8 (x.toNat : Int)) = bs l := rfl
  have hmin : Nat.min l.length n = l.length := Nat.min_eq_left hle
  have hst := run_storeCells_cells (P := P) b o (bs l) 0 w (by simpa using fun j hj => (ht j hj).1) (by simpa using fun j hj => (ht j hj).2) (by
    intro v hv
    obtain ⟨x, _, rfl⟩ := List.mem_map.1 hv
    rfl)
  unfold str
  simp [Builtin.copy_, run_underlying hu, Builtin.lenOf, Builtin.firstCells, run_sizeOf hz, size_mk, hmin]
  rw [hlen, List.take_of_length_le (by rw [bs_length]; omega), hst]
  rfl
end
theorem PH.new_swap (h : PH) {a b : Nat} (k k' k'' : Bk) (hab : a ≠ b) : ((h.new a k).new b k').new a k'' = (h.new a k'').new b k' := by
  refine PH.eq_of (by simp only [PH.new_top]; omega) fun x => ?_
  simp only [PH.new_m]
  by_cases ha : x = a
  · subst ha; simp [hab]
  · simp [ha]
theorem Own.keep {h h' : PH} {v v' u : Value} {sz n : Nat} {xs : List Value} (o : Own h sz u n xs) (s : Stays h h' v v') (hs : ∀ x, v.ownBlock = some x → u.ownBlock ≠ some x) : Own h' sz u n xs :=
  ⟨o.1, o.2.imp id fun ⟨b, c, h1, h2, h3, h4⟩ => ⟨b, c, h1, h2, h3, s.keep _ _ h4 fun e => hs _ e (by rw [h1]; rfl)⟩⟩
theorem Own.block {h : PH} {v : Value} {sz n : Nat} {xs : List Value} (o : Own h sz v n xs) {x : Nat} (e : v.ownBlock = some x) : x < h.top := by
  rcases o.2 with ⟨h1, _⟩ | ⟨b, c, h1, _, _, h4⟩
  · rw [h1] at e; cases e
  · rw [h1] at e
    have : b = x := by injection e
    rw [← this]; exact h.lt _ _ h4
theorem Own.nil_zero {h : PH} {sz n c : Nat} {xs : List Value} {A : Option Addr} (o : Own h sz (.slice A n c) n xs) : A = none → n = 0 := by
  rintro rfl
  rcases o.2 with ⟨_, h1⟩ | ⟨b, c', h1, _⟩
  · exact h1
  · cases h1
/-- Over h0, two rows of the call's own that lie apart. -/
structure Two (h0 h : PH) (sz sz' : Nat) (v : Value) (n : Nat) (xs : List Value) (v' : Value) (n' : Nat) (xs' : List Value) : Prop where
  one : OwnS h0 h sz v n xs
  two : OwnS h0 h sz' v' n' xs'
  apart : ∀ x, v.ownBlock = some x → v'.ownBlock ≠ some x
theorem Two.swap {h0 h : PH} {sz sz' n n' : Nat} {v v' : Value} {xs xs' : List Value} (t : Two h0 h sz sz' v n xs v' n' xs') : Two h0 h sz' sz v' n' xs' v n xs :=
  ⟨t.two, t.one, fun x e e' => t.apart x e' e⟩
theorem Two.more {h0 h h' : PH} {sz sz' n n' : Nat} {v v' : Value} {xs xs' : List Value} (t : Two h0 h sz sz' v n xs v' n' xs') (l : PH.Le h h') : Two h0 h' sz sz' v n xs v' n' xs' :=
  ⟨t.one.more l, t.two.more l, t.apart⟩
theorem Two.stays {h0 h h' : PH} {sz sz' n n' m : Nat} {v v' u : Value} {xs xs' ys : List Value} (t : Two h0 h sz sz' v n xs v' n' xs') (s : Stays h h' v u) (o : Own h' sz u m ys) : Two h0 h' sz sz' u m ys v' n' xs' := by
  refine ⟨t.one.stays s o, ⟨(t.one.stays s o).le, t.two.own.keep s t.apart, t.two.new⟩, fun x e e' => ?_⟩
  rcases s.fresh x e with h1 | h1
  · exact t.apart x h1 e'
  · have := t.two.own.block e'
    omega
end Go.Proofs.YtdlaoeepeakpeaaGreat.Px


/- The logic's rule for struct literals. No condition. -/
namespace Go.Proofs.YtdlaoeepeakpeaaGreat.Px
set_option linter.unusedVariables false
set_option linter.unusedSimpArgs false
open Go.RowKit
/-- A struct type's fields: where each lies, and how many cells it has. -/
def placesB (P : Program) (t : TypeId) : Option (List (Nat × Nat)) := match P.underlying t with
  | some (.struct fs) => fs.toList.mapM fun f => (szOf P f.type).map fun s => (f.offset, s)
  | _ => none
def nthP : List (Nat × Nat) → Nat → Option (Nat × Nat)
  | [], _ => none
  | p :: _, 0 => some p
  | _ :: l, n + 1 => nthP l n
theorem nthP_zero (p : Nat × Nat) (l : List (Nat × Nat)) : nthP (p :: l) 0 = some p := rfl
theorem nthP_succ (p : Nat × Nat) (l : List (Nat × Nat)) (n : Nat) : nthP (p :: l) (n + 1) = nthP l n := rfl
theorem nthP_eq : ∀ (l : List (Nat × Nat)) (i : Nat), nthP l i = l[i]?
  | [], i => by simp [nthP]
  | p :: l, 0 => by simp [nthP]
  | p :: l, i + 1 => by have := nthP_eq l i; simp [nthP] at this ⊢; exact this
/-- Cells laid over others from a place on. -/
def layL (cs : List Value) (o : Nat) (vs : List Value) : List Value := cs.take o ++ vs ++ cs.drop (o + vs.length)
def overL : List Value → List Value → List Value
  | cs, [] => cs
  | [], _ :: _ => []
  | _ :: cs, v :: vs => v :: overL cs vs
theorem overL_nil (cs : List Value) : overL cs [] = cs := by cases cs <;> rfl
theorem overL_cons (c v : Value) (cs vs : List Value) : overL (c :: cs) (v :: vs) = v :: overL cs vs := rfl
def layR : List Value → Nat → List Value → List Value
  | cs, 0, vs => overL cs vs
  | [], _ + 1, _ => []
  | c :: cs, o + 1, vs => c :: layR cs o vs
theorem layR_zero (cs vs : List Value) : layR cs 0 vs = overL cs vs := by cases cs <;> rfl
theorem layR_succ (c : Value) (cs : List Value) (o : Nat) (vs : List Value) : layR (c :: cs) (o + 1) vs = c :: layR cs o vs := rfl
theorem overL_eq : ∀ (cs vs : List Value), vs.length ≤ cs.length → overL cs vs = vs ++ cs.drop vs.length
  | cs, [], _ => by rw [overL_nil]; rfl
  | [], v :: vs, h => by simp at h
  | c :: cs, v :: vs, h => by rw [overL_cons, overL_eq cs vs (by simpa using h)]; rfl
theorem layR_eq : ∀ (cs : List Value) (o : Nat) (vs : List Value), o + vs.length ≤ cs.length → layR cs o vs = layL cs o vs
  | cs, 0, vs, h => by rw [layR_zero, overL_eq cs vs (by omega)]; simp [layL]
  | [], o + 1, vs, h => by simp at h
  | c :: cs, o + 1, vs, h => by
    rw [layR_succ, layR_eq cs o vs (by simp at h; omega)]
    unfold layL
    rw [show o + 1 + vs.length = (o + vs.length) + 1 by omega]
    simp
def cellsL (v : Value) : List Value := v.cells.toList
theorem cellsL_one {v : Value} (h : One v) : cellsL v = [v] := by unfold cellsL; rw [h.1]
theorem cellsL_agg (cs : List Value) : cellsL (.agg cs.toArray) = cs := rfl
def fillL (pl : List (Nat × Nat)) : List Value → List (Nat × Value) → Option (List Value)
  | cs, [] => some cs
  | cs, (i, v) :: l => match nthP pl i with
    | none => none
    | some (o, s) => if (cellsL v).length = s ∧ o + s ≤ cs.length then fillL pl (layR cs o (cellsL v)) l else none
def fillO (pl : List (Nat × Nat)) (cs : List Value) (vs : List Value) (l : List (Nat × Value)) : Option (Nat × Nat) → Option (List Value)
  | none => none
  | some (o, s) => if vs.length = s ∧ o + s ≤ cs.length then fillL pl (layR cs o vs) l else none
theorem fillL_nil (pl : List (Nat × Nat)) (cs : List Value) : fillL pl cs [] = some cs := rfl
theorem fillL_cons (pl : List (Nat × Nat)) (cs : List Value) (i : Nat) (v : Value) (l : List (Nat × Value)) : fillL pl cs ((i, v) :: l) = fillO pl cs (cellsL v) l (nthP pl i) := by
  unfold fillO
  rw [fillL]
theorem fillO_some (pl : List (Nat × Nat)) (cs vs : List Value) (l : List (Nat × Value)) (o s : Nat) : fillO pl cs vs l (some (o, s)) = if vs.length = s then if o + s ≤ cs.length then fillL pl (layR cs o vs) l else none else none := by
  unfold fillO
  by_cases h1 : vs.length = s <;> by_cases h2 : o + s ≤ cs.length <;> simp [h1, h2]
theorem layL_eq (cs : List Value) (o : Nat) (vs : List Value) : layL cs o vs = cs.take o ++ vs ++ cs.drop (o + vs.length) := rfl
theorem lay_fold : ∀ (vs : List Value) (k o : Nat) (cs : List Value), o + k + vs.length ≤ cs.length → (vs.zipIdx k).foldl (fun (cs : Array Value) (x : Value × Nat) => cs.setIfInBounds (o + x.2) x.1) cs.toArray = (layL cs (o + k) vs).toArray
  | [], k, o, cs, h => by simp [layL]
  | v :: vs, k, o, cs, h => by
    simp only [List.zipIdx_cons, List.foldl_cons, List.length_cons] at h ⊢
    have e : cs.toArray.setIfInBounds (o + k) v = (cs.set (o + k) v).toArray := by simp
    rw [e, lay_fold vs (k + 1) o (cs.set (o + k) v) (by rw [List.length_set]; omega)]
    congr 1
    unfold layL
    rw [show o + (k + 1) = o + k + 1 by omega, List.take_succ_eq_append_getElem (by rw [List.length_set]; omega), List.take_set_of_le (Nat.le_refl _), List.getElem_set_self, List.drop_set_of_lt (by omega)]
    simp [Nat.add_assoc, Nat.add_comm 1]
theorem fill_L (pl : List (Nat × Nat)) : ∀ (parts : List (Nat × Value)) (cs : List Value), Instr.fill (fun i => pl[i]?) cs.toArray parts = (fillL pl cs parts).map List.toArray
  | [], cs => by simp [Instr.fill, fillL]
  | (i, v) :: l, cs => by
    rw [fillL_cons, nthP_eq]
    unfold Instr.fill
    cases hp : pl[i]? with
    | none => simp [fillO, hp]
    | some p =>
      obtain ⟨o, s⟩ := p
      simp only [hp, fillO]
      have hsz : v.cells.size = (cellsL v).length := rfl
      by_cases h : (cellsL v).length = s ∧ o + s ≤ cs.length
      · rw [if_pos h, if_neg (by rw [hsz]; simp; omega), layR_eq cs o _ (by omega)]
        have hf : v.cells.zipIdx.foldl (fun (cs : Array Value) (x : Value × Nat) => cs.setIfInBounds (o + x.2) x.1) cs.toArray = (layL cs o (cellsL v)).toArray := by
          have := lay_fold (cellsL v) 0 o cs (by omega)
          rw [Nat.add_zero] at this
          rw [← this, ← Array.foldl_toList]
          simp [cellsL]
        rw [hf]
        exact fill_L pl l _
      · rw [if_neg h, if_pos (by rw [hsz]; simp; omega)]
        rfl
section
variable {P : Program} {t : TypeId} {K : Value → Prop}
theorem mapM_places (w : World) : ∀ (fs : List Field) (pl : List (Nat × Nat)), (fs.mapM fun f => (szOf P f.type).map fun s => (f.offset, s)) = some pl → (fs.mapM fun f => Prod.mk f.offset <$> sizeOf f.type : Sem (List (Nat × Nat))).run P w = .ok pl w
  | [], pl, h => by
    simp at h; subst h; simp
  | f :: fs, pl, h => by
    rw [List.mapM_cons] at h
    obtain ⟨p, hp, h2⟩ := Option.bind_eq_some_iff.1 h
    obtain ⟨q, hq, h3⟩ := Option.bind_eq_some_iff.1 h2
    obtain ⟨s, hs, rfl⟩ := Option.map_eq_some_iff.1 hp
    injection h3 with h3
    subst h3
    have ih := mapM_places w fs q hq
    simp [List.mapM_cons, run_sizeOf hs, ih]
theorem y_buildS {pl : List (Nat × Nat)} {zs : List Value} (hp : placesB P t = some pl) (hz : zcells P t = some zs) (parts : List (Nat × Value)) : Yld P (Instr.build t parts.toArray) K = ogetL (fillL pl zs parts) fun cs => K (.agg cs.toArray) := by
  unfold placesB at hp
  split at hp
  · rename_i fs hu
    obtain ⟨i, hi, h2⟩ := Option.bind_eq_some_iff.1 hz
    obtain ⟨z, hz1, h3⟩ := Option.map_eq_some_iff.1 h2
    have hzz : z.cells = zs.toArray := by rw [← h3]
    have hm : ∀ w, (fs.mapM fun f => Prod.mk f.offset <$> sizeOf f.type : Sem (Array (Nat × Nat))).run P w = .ok pl.toArray w := fun w => by
      have := mapM_places (P := P) w fs.toList pl hp
      rw [Array.mapM_eq_mapM_toList]
      simp [this]
    have hfl := fill_L pl parts zs
    have hplace : (fun i : Nat => pl.toArray[i]?) = fun i : Nat => pl[i]? := by funext i; simp
    cases hf : fillL pl zs parts with
    | none =>
      rw [hf] at hfl
      refine propext ⟨fun h => ?_, fun h => h.elim⟩
      obtain ⟨v, h1, _⟩ := h
      exfalso
      have h4 := h1 default
      simp [Instr.build, zeroValue, typeInfo, hi, hz1, run_underlying hu, hm, hzz, hfl] at h4
    | some cs =>
      rw [ogetL_some]
      rw [hf] at hfl
      refine Yld_eq fun w => ?_
      simp [Instr.build, zeroValue, typeInfo, hi, hz1, run_underlying hu, hm, hzz, hfl]
  · cases hp
theorem box_L (cs : List Value) : (Value.agg cs.toArray).cells.toList = cs := rfl
theorem box_S (cs : List Value) : (Value.agg cs.toArray).cells.size = cs.length := rfl
variable {e : TypeId} {x y : Operand}
def ptrB (P : Program) (t : TypeId) : Bool := match P.underlying t with
  | some (.pointer _) => true
  | _ => false
theorem ptr_parts (h : ptrB P t = true) : P.underlying t = some (.pointer (P.pointee t)) := by
  unfold ptrB at h
  split at h
  · rename_i e he
    rw [he]; simp [Program.pointee, he]
  · cases h
theorem y_eqlPN (a : Option Addr) (v : Value) (hu : ptrB P t = true) : Yld P (binS .eql t x (.const v) (.pointer a) (.pointer none)) K = K (.bool a.isNone) := Yld_eq fun w => by
  unfold binS eqGuard
  simp [run_eql_pointer_nil w t a (ptr_parts hu)]
theorem y_neqPN (a : Option Addr) (v : Value) (hu : ptrB P t = true) : Yld P (binS .neq t x (.const v) (.pointer a) (.pointer none)) K = K (.bool (!a.isNone)) := Yld_eq fun w => by
  unfold binS eqGuard
  simp [run_neq_pointer_nil w t a (ptr_parts hu)]
theorem y_nilP (a : Addr) : Yld P (nilS (.pointer (some a))) K = K (.pointer (some a)) := Yld_eq fun w => rfl
end
end Go.Proofs.YtdlaoeepeakpeaaGreat.Px


/- The logic's rules for numbers' bits, for texts appended to rows, and for appending to a row that is full. No condition. -/
namespace Go.Proofs.YtdlaoeepeakpeaaGreat.Px
set_option linter.unusedVariables false
set_option linter.unusedSimpArgs false
open Go.RowKit
section
variable {P : Program} {t : TypeId} {x y : Operand} {K : Value → Prop}
theorem y_shrI (a : Int) (n : UInt64) (h1 : n.toNat < 64) (h0 : 0 ≤ a) : Yld P (binS .shr t x y (.int .i64 a) (u64 n)) K = K (.int .i64 (a / 2 ^ n.toNat)) := Yld_eq fun w => by
  unfold u64; rw [binS_shift (.inr rfl)]
  simp only [binOp]
  have hn : min ((n.toNat : Int)).toNat IntKind.i64.bits = n.toNat := by
    rw [Int.toNat_natCast]; simp [IntKind.bits]; omega
  unfold Op.shift
  rw [if_neg (by omega), hn]
  simp only [Sem.run_pure]
  rw [Int.fdiv_eq_ediv_of_nonneg _ (Int.pow_nonneg (by omega))]
theorem y_shlI (a : Int) (n : UInt64) (h1 : n.toNat < 64) (h0 : 0 ≤ a) (h2 : a * 2 ^ n.toNat ≤ 9223372036854775807) : Yld P (binS .shl t x y (.int .i64 a) (u64 n)) K = K (.int .i64 (a * 2 ^ n.toNat)) := Yld_eq fun w => by
  unfold u64; rw [binS_shift (.inl rfl)]
  simp only [binOp]
  have hn : min ((n.toNat : Int)).toNat IntKind.i64.bits = n.toNat := by
    rw [Int.toNat_natCast]; simp [IntKind.bits]; omega
  unfold Op.shift
  rw [if_neg (by omega), hn]
  simp only [Sem.run_pure]
  have hp : (0 : Int) ≤ a * 2 ^ n.toNat := Int.mul_nonneg h0 (Int.pow_nonneg (by omega))
  rw [wrap_in _ (by omega) h2]
theorem bits_i64 (a b : Nat) (ha : a < 9223372036854775808) (hb : b < 9223372036854775808) : bits .or .i64 (a : Int) (b : Int) = ((a ||| b : Nat) : Int) := by
  have hx : a ||| b < 2 ^ 63 := Nat.or_lt_two_pow (by omega) (by omega)
  have h1 : (BitVec.ofInt 64 (a : Int)).toNat = a := by
    rw [BitVec.ofInt_natCast, BitVec.toNat_ofNat]; exact Nat.mod_eq_of_lt (by omega)
  have h2 : (BitVec.ofInt 64 (b : Int)).toNat = b := by
    rw [BitVec.ofInt_natCast, BitVec.toNat_ofNat]; exact Nat.mod_eq_of_lt (by omega)
  show IntKind.i64.wrap ((BitVec.ofInt 64 (a : Int) ||| BitVec.ofInt 64 (b : Int)).toNat : Int) = _
  rw [BitVec.toNat_or, h1, h2, wrap_in _ (by omega) (by omega)]
theorem y_orI (a b : Int) (h0 : 0 ≤ a) (h1 : 0 ≤ b) (h2 : a ≤ 9223372036854775807) (h3 : b ≤ 9223372036854775807) : Yld P (binS .or t x y (.int .i64 a) (.int .i64 b)) K = K (.int .i64 ((a.toNat ||| b.toNat : Nat) : Int)) := Yld_eq fun w => by
  obtain ⟨a, rfl⟩ := Int.eq_ofNat_of_zero_le h0
  obtain ⟨b, rfl⟩ := Int.eq_ofNat_of_zero_le h1
  rw [binS_int]; simp only [binOp, Op.intBits, ne_eq, not_true_eq_false, if_false]; exact congrArg (fun z => Result.ok (Value.int .i64 z) w) (bits_i64 a b (by omega) (by omega))
theorem y_andNot8 (a b : UInt8) : Yld P (binS .andNot t x y (u8 a) (u8 b)) K = K (u8 (a &&& ~~~b)) := Yld_eq fun w => by
  unfold u8; rw [binS_int]; simp only [binOp, Op.intBits, ofInt8, ne_eq, not_true_eq_false, if_false]; exact congrArg (fun z => Result.ok (Value.int .u8 z) w) (back8 (a &&& ~~~b))
end
section
variable {P : Program} {w0 : World} {h : PH} {t u e ty : TypeId} {z : Value} {sz by_ : Nat} {K : Value → PH → Prop}
theorem cells_str (l : List UInt8) : Lib.strCells ⟨l.toArray⟩ = bs l := by simp [Lib.strCells, bs, u8]
/-- What a new block holds that a text was appended into. -/
theorem BSat_grown {w : World} {e : TypeId} {xs : List Value} {l : List UInt8} {c : Nat} (hc : xs.length + l.length ≤ c) :
    BSat (w.drew.alloc (.cells (xs.toArray ++ (bs l).toArray ++ Builtin.zeroCells (Value.int .u8 0).cells (c - (xs.length + l.length))) e)) w.heap.size ⟨xs ++ bs l, c⟩ := by
  have hz1 : (Value.int IntKind.u8 0).cells.size = 1 := rfl
  refine ⟨_, e, _, _, heap_alloc_new w.drew _, ?_, .inl (Nat.le_refl _), ?_, ?_⟩
  · simp only [Array.size_append, List.size_toArray, size_zeroCells, hz1, bs_length]; omega
  · simp only [List.length_append, bs_length]; exact hc
  · simp only [Array.toList_append, List.toList_toArray]
    exact List.take_left
theorem Does_growT {n cp : Nat} {a : Addr} {xs : List Value} {l : List UInt8} (hE : El P t e (.int .u8 0) 1 1) (hu : P.underlying u = some .string) (hx : rdN w0 h a n = some xs) (hcp : cp < n + l.length) (hsz : n + l.length ≤ 1000000000)
    (hk : ∀ b' c', h.top ≤ b' → n + l.length ≤ c' → c' ≤ maxLen → K (.slice (some ⟨b', 0, none⟩) (n + l.length) c') (h.new b' ⟨xs ++ bs l, c'⟩)) : Does P w0 h (Builtin.append_ #[t, u] ty #[.slice (some a) n cp, str l]) K := by
  intro w s
  obtain ⟨i, hi, hz, hsi, hby⟩ := hE.info
  obtain ⟨hl0, hc0⟩ := rdN_sound s hx
  have hr := Lib.run_append_grow_string (P := P) w t u ty e i (.int .u8 0) hE.under hu hi hz a n cp xs (by rw [hsi, Nat.mul_one]; exact hl0) hc0 ⟨l.toArray⟩ (by rw [size_mk]; omega) (by rw [size_mk]; omega) (by rw [size_mk, hby]; exact growslice_fits hcp (by omega))
  rw [size_mk, cells_str] at hr
  have hge := grownCap_ge w (n + l.length) cp e
  have hcm := grownCap_le_maxLen w (n + l.length) cp e (by unfold maxLen; omega)
  have hB := BSat_grown (w := w) (e := e) (xs := xs) (l := l) (c := grownCap w (n + l.length) cp e) (by omega)
  rw [hl0] at hB
  exact ⟨_, _, h.new w.heap.size ⟨xs ++ bs l, grownCap w (n + l.length) cp e⟩, hr, hk _ _ s.top hge hcm, (s.drew.step (row := none) (grownBy_alloc w.drew _ none) (fun _ e => by cases e)).put s.base hB⟩
/-- A text appended to a row of the call's own. -/
theorem Does_appT {v : Value} {n : Nat} {xs : List Value} {l : List UInt8} (hE : El P t e (.int .u8 0) 1 1) (hu : P.underlying u = some .string) (ho : Own h 1 v n xs) (hsz : n + l.length ≤ 1000000000)
    (hk : ∀ v' h', Own h' 1 v' (n + l.length) (xs ++ bs l) → Stays h h' v v' → PH.Sub w0 h h' → K v' h') : Does P w0 h (Builtin.append_ #[t, u] ty #[v, str l]) K := by
  have hsz' : n + l.length ≤ maxLen := by unfold maxLen; omega
  rcases ho.2 with ⟨rfl, rfl⟩ | ⟨b, cp, rfl, hnc, hcm, hbk⟩
  · have hxs : xs = [] := List.eq_nil_of_length_eq_zero (by simpa using ho.1)
    subst hxs
    intro w s
    obtain ⟨i, hi, hz, hsi, hby⟩ := hE.info
    obtain ⟨v', w', hr, ho', hg, hn⟩ := Lib.run_append_own_string (P := P) w w.heap.size t u ty e i hE.under hu hi hz hsi hby (.slice none 0 0) 0 [] (World.ownsRow_nil _ _ _ _) ⟨l.toArray⟩ (by rw [size_mk]; exact hsz') (by rw [size_mk]; omega) (Nat.le_refl _)
    rw [size_mk, cells_str] at ho'
    rcases Nat.eq_zero_or_pos l.length with h0 | h0
    · have hl : l = [] := List.eq_nil_of_length_eq_zero h0
      subst hl
      obtain rfl := hn.2 ⟨rfl, rfl⟩
      refine ⟨_, w', h, hr, hk _ h (by simpa [bs] using Own.nil h 1) ⟨Nat.le_refl _, fun _ _ e _ => e, fun _ e => .inl e⟩ (PH.Le.refl h).sub, ?_⟩
      have := (s.step (row := none) hg (fun _ e => by cases e))
      exact this
    · obtain ⟨b', c', rfl, g1, g2, g3, g4⟩ := Own.ofRow ho' (by omega)
      refine ⟨_, w', h.new b' ⟨[] ++ bs l, c' * 1⟩, hr, hk _ _ ⟨by simp [bs_length], .inr ⟨b', c', rfl, g1, g2, by simp [PH.new_m]⟩⟩ ⟨by simp only [PH.new_top]; omega, fun x k e _ => ?_, fun x e => ?_⟩ ((PH.Le.refl h).new _ _ (Nat.le_trans s.top g3)).sub, (s.step (row := none) hg (fun _ e => by cases e)).put (Nat.le_trans s.base g3) g4⟩
      · rw [PH.new_m, if_neg (by have := h.lt x k e; have := s.top; omega)]; exact e
      · injection e with e; right; rw [← e]; exact Nat.le_trans s.top g3
  · have hlx : xs.length = n := by simpa using ho.1
    by_cases hroom : n + l.length ≤ cp
    · intro w s
      obtain ⟨i, hi, hz, hsi, hby⟩ := hE.info
      obtain ⟨q1, cur, ct, lo, hi', q2, q3, q4, q5, q6⟩ := s.sat b _ hbk
      simp only at q3 q4 q5 q6
      have hbl := bs_length l
      have hf := Lib.run_firstCells_string (P := P) w 1 ⟨l.toArray⟩
      rw [cells_str, size_mk] at hf
      have hst := run_storeCells_cells (P := P) b n (bs l) 0 w (fun j hj => by
          rw [cell_of_row w b _ cur ct _ q2, Array.getElem?_eq_getElem (by omega)]; rfl) (fun j hj => by
          simp [World.frozen?, q2]; omega) (by
        intro v hv
        obtain ⟨x, _, rfl⟩ := List.mem_map.1 hv
        rfl)
      have hrun : (Builtin.append_ #[t, u] ty #[.slice (some ⟨b, 0, none⟩) n cp, str l]).run P w = .ok (.slice (some ⟨b, 0, none⟩) (n + l.length) cp) (w.setCells b (n + 0) (bs l)) := by
        unfold str
        simp [Builtin.append_, run_underlying hE.under, run_underlying hu, sizeOf, typeInfo, hi, hsi, Builtin.lenOf, size_mk, hroom, hf, Addr.add_mid, hst]
      rw [Nat.add_zero] at hrun
      have hh := setCells_heap_any (w := w) (b := b) (t := ct) (fz := (lo, hi')) (cs := cur.toList) (bs l) n (by simpa using q2) (by simp; omega)
      have hlen : (xs ++ bs l).length = n + l.length := by rw [List.length_append, hlx, hbl]
      refine ⟨_, _, (h.del b).new b ⟨xs ++ bs l, cp * 1⟩, hrun, hk _ _ ⟨by rw [hlen, Nat.mul_one], .inr ⟨b, cp, rfl, hroom, hcm, by simp [PH.new_m]⟩⟩ ⟨by simp only [PH.new_top, PH.del_top]; omega, fun x k e hx => ?_, fun x e => .inl e⟩ (PH.sub_in h b _ xs _ hbk), ?_⟩
      · have hxb : x ≠ b := fun e' => hx (by rw [e']; rfl)
        rw [PH.new_m, if_neg hxb, PH.del_m, if_neg hxb]; exact e
      · refine ((s.del b).step (row := some b) (grownBy_setCells b (bs l) n w) (fun x e => ?_)).put q1 ⟨_, ct, lo, hi', by simpa using hh, ?_, q4, ?_, ?_⟩
        · injection e with e; subst e; exact ⟨q1, by simp [PH.del_m]⟩
        · simp; omega
        · simp only; rw [hlen]; omega
        · simp only
          have e1 : cur.toList.take n = xs := by rw [← hlx]; exact q6
          have e2 := List.take_left (l₁ := cur.toList.take n ++ bs l) (l₂ := cur.toList.drop (n + (bs l).length))
          rw [e1] at e2
          rw [List.toList_toArray, e1]
          simpa [List.append_assoc] using e2
    · refine Does_growT hE hu (rdN_known hbk hlx) (by omega) hsz fun b' c' g1 g2 g3 => ?_
      refine hk _ _ ⟨by rw [List.length_append, hlx, bs_length, Nat.mul_one], .inr ⟨b', c', rfl, g2, g3, by simp [PH.new_m]⟩⟩ ⟨by simp only [PH.new_top]; omega, fun x k e _ => ?_, fun x e => ?_⟩ ((PH.Le.refl h).new _ _ g1).sub
      · rw [PH.new_m, if_neg (by have := h.lt x k e; omega)]; exact e
      · injection e with e; right; rw [← e]; exact g1
end
end Go.Proofs.YtdlaoeepeakpeaaGreat.Px


/- Slices of known cells. No condition. -/
namespace Go.Proofs.YtdlaoeepeakpeaaGreat.Px
set_option linter.unusedVariables false
set_option linter.unusedSimpArgs false
open Go.RowKit
/-- A slice whose cells are known, in a known block. -/
def Kn (h : PH) (v : Value) (l : List Value) : Prop := ∃ b o c X lim, v = .slice (some ⟨b, o, none⟩) l.length c ∧ l.length ≤ c ∧ h.m b = some ⟨X, lim⟩ ∧ o + l.length ≤ X.length ∧ (X.drop o).take l.length = l
theorem Kn.more {h h' : PH} {v : Value} {l : List Value} (k : Kn h v l) (hl : PH.Le h h') : Kn h' v l := by
  obtain ⟨b, o, c, X, lim, h1, h2, h3, h4, h5⟩ := k
  exact ⟨b, o, c, X, lim, h1, h2, hl.m _ _ h3, h4, h5⟩
theorem Kn.blk {h : PH} {b c lim : Nat} {X : List Value} (hb : h.m b = some ⟨X, lim⟩) (hc : X.length ≤ c) : Kn h (.slice (some ⟨b, 0, none⟩) X.length c) X :=
  ⟨b, 0, c, X, lim, rfl, hc, hb, by omega, by simp⟩
theorem Kn.rs {w0 : World} {h : PH} {A : Option Addr} {n c : Nat} {l : List Value} (k : Kn h (.slice A n c) l) : Rs w0 h 1 A n l := by
  obtain ⟨b, o, c', X, lim, h1, h2, h3, h4, h5⟩ := k
  injection h1 with e1 e2 e3
  subst e1; subst e2
  refine ⟨by omega, fun _ => ⟨_, rfl, ?_⟩⟩
  unfold rdN
  simp only [h3]
  rw [if_pos ⟨trivial, by omega⟩, Nat.mul_one, h5]
theorem Kn.get {X : List Value} {o n : Nat} {l : List Value} (hX : (X.drop o).take l.length = l) {j : Nat} (hj : j < l.length) : X[o + j]? = l[j]? := by
  have h := congrArg (fun l => l[j]?) hX
  simp only [List.getElem?_take_of_lt hj, List.getElem?_drop] at h
  exact h
section
variable {P : Program} {w0 : World} {h : PH} {t u e ty : TypeId} {z : Value} {by_ : Nat} {K : Value → PH → Prop}
end
end Go.Proofs.YtdlaoeepeakpeaaGreat.Px


/- A drawn region by a plan in which an operation that only reads may be taken in its place, at the memory as it is then. No condition. -/
namespace Go.Proofs.YtdlaoeepeakpeaaGreat.Px
set_option linter.unusedVariables false
set_option linter.unusedSimpArgs false
open Go.RowKit
section
variable {P : Program} {w0 : World} {h : PH} {N : Nat} {K : Fr → PH → Prop}
def vcH2 (P : Program) (w0 : World) (hS : PH) (ops : Array Oper) : List (Nat × Bool) → Fr → PH → (Fr → PH → Prop) → Prop
  | [], f, h, K => K f h
  | (i, lo) :: l, f, h, K => match ops[i]? with
    | some o => if (!lo && silentB P o.op) = true then vcG P w0 ops o f hS fun f' _ => vcH2 P w0 hS ops l f' h K
      else vcG P w0 ops o f h fun f' h' => PH.Sub w0 hS h' ∧ vcH2 P w0 hS ops l f' h' K
    | none => False
def vc2S (P : Program) (w0 : World) (hS : PH) (ops : List Oper) (l : List (Nat × Bool)) (f : Fr) (h : PH) (K : Fr → PH → Prop) (_ : Seal ops := ⟨⟩) (_ : Seal K := ⟨⟩) : Prop := vcH2 P w0 hS ops.toArray l f h K
def vc2O (P : Program) (w0 : World) (hS : PH) (ops : List Oper) (o : Option Oper) (lo : Bool) (l : List (Nat × Bool)) (f : Fr) (h : PH) (K : Fr → PH → Prop) (_ : Seal ops := ⟨⟩) (_ : Seal K := ⟨⟩) : Prop := match o with
  | some o => if (!lo && silentB P o.op) = true then vcG P w0 ops.toArray o f hS fun f' _ => vcH2 P w0 hS ops.toArray l f' h K
      else vcG P w0 ops.toArray o f h fun f' h' => PH.Sub w0 hS h' ∧ vcH2 P w0 hS ops.toArray l f' h' K
  | none => False
theorem vc2S_nil {f : Fr} (hS : PH) (ops : List Oper) : vc2S P w0 hS ops [] f h K = K f h := rfl
theorem vc2S_cons {f : Fr} (hS : PH) (ops : List Oper) (i : Nat) (lo : Bool) (l : List (Nat × Bool)) : vc2S P w0 hS ops ((i, lo) :: l) f h K = vc2O P w0 hS ops (nthO ops i) lo l f h K := by
  unfold vc2S vc2O
  rw [nthO_eq]
  rfl
theorem vc2O_loud {f : Fr} (hS : PH) (ops : List Oper) (o : Oper) (l : List (Nat × Bool)) : vc2O P w0 hS ops (some o) true l f h K = vcM P w0 ops.toArray [o] f h fun f' h' => vcLe w0 hS h' (vc2S P w0 hS ops l f' h' K) := by
  unfold vc2O
  rw [vcM_cons]
  simp only [Bool.not_true, Bool.false_and, Bool.false_eq_true, if_false]
  rfl
theorem vc2O_some {f : Fr} (hS : PH) (ops : List Oper) (o : Oper) (l : List (Nat × Bool)) : vc2O P w0 hS ops (some o) false l f h K = vcIf (silentB P o.op) (vcM P w0 ops.toArray [o] f hS fun f' _ => vc2S P w0 hS ops l f' h K) (vcM P w0 ops.toArray [o] f h fun f' h' => vcLe w0 hS h' (vc2S P w0 hS ops l f' h' K)) := by
  unfold vc2O
  simp only [Bool.not_false, Bool.true_and]
  cases hs : silentB P o.op
  · rw [vcIf_false, vcM_cons]; simp only [Bool.false_eq_true, if_false]; rfl
  · rw [vcIf_true, vcM_cons]; simp only [if_true]; rfl
end
theorem silent_build {P : Program} (t : TypeId) (ps : Array (Nat × Operand)) : silentB P (.build t ps) = true := rfl
/-! A long region's operations come in two lists. -/
section
variable {P : Program} {w0 : World} {h : PH} {f : Fr} {K : Fr → PH → Prop} {ops : Array Oper}
theorem vcM_app (o : Oper) (l m : List Oper) : vcM P w0 ops (List.append (o :: l) m) f h K = vcM P w0 ops (o :: List.append l m) f h K := rfl
theorem vcM_app0 (m : List Oper) : vcM P w0 ops (List.append [] m) f h K = vcM P w0 ops m f h K := rfl
theorem nthD_app (d : Option Tmp) (op : Op) (ty : TypeId) (pos : String) (af : Array Edge) (g : Option (Nat × Bool)) (l m : List Oper) : nthD (List.append (⟨d, op, ty, pos, af, g⟩ :: l) m) 0 = d := rfl
theorem nthD_appS (o : Oper) (l m : List Oper) (n : Nat) : nthD (List.append (o :: l) m) (n + 1) = nthD (List.append l m) n := rfl
theorem nthD_app0 (m : List Oper) (n : Nat) : nthD (List.append [] m) n = nthD m n := rfl
end
end Go.Proofs.YtdlaoeepeakpeaaGreat.Px

