/- The logic's equations for arrays, slices of slices, structs' fields, new variables. No condition. -/
import Derived.Test.YtcjojkhieocehaaDoorPn
namespace Go.Proofs.YtcjojkhieocehaaDoor.Px
set_option linter.unusedVariables false
set_option linter.unusedSimpArgs false
open Go.RowKit
section
variable {P : Program} {w0 : World} {h : PH} {t e : TypeId} {K : Value → Prop} {sz : Nat}
theorem vcM_alloc' {ops : Array Oper} {d : Option Tmp} {ty : TypeId} {pos : String} {af : Array Edge} {l : List Oper} {f : Fr} {K : Fr → PH → Prop} (t : TypeId) : vcM P w0 ops (⟨d, .alloc t, ty, pos, af, none⟩ :: l) f h K = ogetL (zcells P t) fun cs => vcNew h fun b => vcM P w0 ops l (f.put d (.pointer (some ⟨b, 0, none⟩))) (h.new b ⟨cs, cs.length⟩) K := by
  cases hz : zcells P t with
  | none =>
    rw [vcM_cons]
    simp only [vcG, vcOp, hz]
    rfl
  | some cs => rw [vcM_alloc t hz, ogetL_some]
theorem y_midL (hu : P.underlying t = some (.slice e)) (hz : szOf P e = some sz) (b o n c : Nat) (k k' : IntKind) (i j : Int) (h0 : 0 ≤ i) (h1 : i ≤ j) (h2 : j ≤ c) : Yld P (Instr.sliceAt t (.slice (some ⟨b, o, none⟩) n c) (some (.int k i)) (some (.int k' j)) none) K = K (.slice (cutAt b o (i.toNat * sz) (decide (c = i.toNat))) (j.toNat - i.toNat) (c - i.toNat)) := Yld_eq fun w => by
  obtain ⟨i', rfl⟩ := Int.eq_ofNat_of_zero_le h0
  obtain ⟨j', rfl⟩ := Int.eq_ofNat_of_zero_le (Int.le_trans h0 h1)
  have h3 : i' ≤ j' := by omega
  have h4 : j' ≤ c := by omega
  simp [Instr.sliceAt, run_underlying hu, Instr.slice, Instr.sliceBounds, Instr.sliceBound, asIntOf, h3, h4, run_sizeOf hz, cutAt, Addr.add_mid]
  split <;> rfl
theorem y_toL (hu : P.underlying t = some (.slice e)) (hz : szOf P e = some sz) (b o n c : Nat) (k' : IntKind) (j : Int) (h1 : 0 ≤ j) (h2 : j ≤ c) : Yld P (Instr.sliceAt t (.slice (some ⟨b, o, none⟩) n c) none (some (.int k' j)) none) K = K (.slice (some ⟨b, o, none⟩) j.toNat c) := Yld_eq fun w => by
  obtain ⟨j', rfl⟩ := Int.eq_ofNat_of_zero_le h1
  have h4 : j' ≤ c := by omega
  simp [Instr.sliceAt, run_underlying hu, Instr.slice, Instr.sliceBounds, Instr.sliceBound, asIntOf, h4, run_sizeOf hz, Addr.add_mid]
theorem y_to3L (hu : P.underlying t = some (.slice e)) (hz : szOf P e = some sz) (b o n c : Nat) (k k' : IntKind) (j m : Int) (h1 : 0 ≤ j) (h2 : j ≤ m) (h3 : m ≤ c) : Yld P (Instr.sliceAt t (.slice (some ⟨b, o, none⟩) n c) none (some (.int k' j)) (some (.int k m))) K = K (.slice (some ⟨b, o, none⟩) j.toNat m.toNat) := Yld_eq fun w => by
  obtain ⟨j', rfl⟩ := Int.eq_ofNat_of_zero_le h1
  obtain ⟨m', rfl⟩ := Int.eq_ofNat_of_zero_le (Int.le_trans h1 h2)
  have h4 : j' ≤ m' := by omega
  have h5 : m' ≤ c := by omega
  simp [Instr.sliceAt, run_underlying hu, Instr.slice, Instr.sliceBounds, Instr.sliceBound, asIntOf, h4, h5, run_sizeOf hz, Addr.add_mid]
theorem sl1_parts (hu : sl1B P t = true) : ∃ e, P.underlying t = some (.slice e) ∧ szOf P e = some 1 := by
  unfold sl1B at hu
  split at hu
  · rename_i e he
    exact ⟨e, he, by simpa using hu⟩
  · cases hu
theorem y_mid1 (hu : sl1B P t = true) (b o n c : Nat) (k k' : IntKind) (i j : Int) (h0 : 0 ≤ i) (h1 : i ≤ j) (h2 : j ≤ c) : Yld P (Instr.sliceAt t (.slice (some ⟨b, o, none⟩) n c) (some (.int k i)) (some (.int k' j)) none) K = K (.slice (cutAt b o i.toNat (decide (c = i.toNat))) (j.toNat - i.toNat) (c - i.toNat)) := by
  obtain ⟨e, h3, h4⟩ := sl1_parts hu
  rw [y_midL h3 h4 b o n c k k' i j h0 h1 h2, Nat.mul_one]
theorem y_to1 (hu : sl1B P t = true) (b o n c : Nat) (k' : IntKind) (j : Int) (h1 : 0 ≤ j) (h2 : j ≤ c) : Yld P (Instr.sliceAt t (.slice (some ⟨b, o, none⟩) n c) none (some (.int k' j)) none) K = K (.slice (some ⟨b, o, none⟩) j.toNat c) := by
  obtain ⟨e, h3, h4⟩ := sl1_parts hu
  rw [y_toL h3 h4 b o n c k' j h1 h2]
theorem y_to31 (hu : sl1B P t = true) (b o n c : Nat) (k k' : IntKind) (j m : Int) (h1 : 0 ≤ j) (h2 : j ≤ m) (h3 : m ≤ c) : Yld P (Instr.sliceAt t (.slice (some ⟨b, o, none⟩) n c) none (some (.int k' j)) (some (.int k m))) K = K (.slice (some ⟨b, o, none⟩) j.toNat m.toNat) := by
  obtain ⟨e, h4, h5⟩ := sl1_parts hu
  rw [y_to3L h4 h5 b o n c k k' j m h1 h2 h3]
theorem y_sliceA {m : Nat} (hu : P.underlying t = some (.array m e)) (hz : szOf P e = some sz) (b o : Nat) : Yld P (Instr.sliceAt t (.pointer (some ⟨b, o, none⟩)) none none none) K = K (.slice (some ⟨b, o, none⟩) m m) := Yld_eq fun w => by
  simp [Instr.sliceAt, run_underlying hu, Instr.sliceBounds, run_sizeOf hz, Instr.sureAddr, Addr.add_mid]
/-- An element, of one cell, of an array's value. -/
theorem y_indexV {m : Nat} (hu : P.underlying t = some (.array m e)) (ha : aggB P e = some false) (hz : szOf P e = some 1) (cs : List Value) (hl : cs.length = m) (k : IntKind) (i : Int) (h0 : 0 ≤ i) (h1 : i < m) : Yld P (Instr.index t (.agg cs.toArray) (.int k i)) K = K (cs.getD i.toNat undef) := Yld_eq fun w => by
  obtain ⟨i', rfl⟩ := Int.eq_ofNat_of_zero_le h0
  have h3 : i' < cs.length := by omega
  have h4 : (isAgg e).run P w = .ok false w := by
    unfold aggB at ha
    obtain ⟨d, hd, hd2⟩ := Option.map_eq_some_iff.1 ha
    unfold isAgg
    simp only [Sem.run_bind, run_underlying hd]
    cases d <;> first | rfl | cases hd2
  simp [Instr.index, run_underlying hu, asIntOf, h1, run_sizeOf hz, part, h4, h3, List.getD, List.getElem?_eq_getElem h3]
  intro h6
  omega
theorem run_isAgg {e : TypeId} (ha : aggB P e = some false) (w : World) : (isAgg e).run P w = .ok false w := by
  unfold aggB at ha
  obtain ⟨d, hd, hd2⟩ := Option.map_eq_some_iff.1 ha
  unfold isAgg
  simp only [Sem.run_bind, run_underlying hd]
  cases d <;> first | rfl | cases hd2
theorem y_fieldAt {fs : Array Field} {i off n : Nat} (hu : P.underlying t = some (.struct fs)) (hf : (fs[i]?).map (fun f => (f.offset, f.type)) = some (off, e)) (hz : szOf P e = some (n + 1)) (b o : Nat) : Yld P (Instr.fieldAt t (.pointer (some ⟨b, o, none⟩)) i) K = K (.pointer (some ⟨b, o + off, none⟩)) := Yld_eq fun w => by
  obtain ⟨f, hf1, hf2⟩ := Option.map_eq_some_iff.1 hf
  obtain ⟨rfl, rfl⟩ := Prod.mk.injEq .. ▸ hf2
  simp [Instr.fieldAt, run_underlying hu, hf1, Instr.sureAddr, fieldPlace, run_sizeOf hz, Addr.add_mid]
theorem y_fieldV {fs : Array Field} {i off n : Nat} (hu : P.underlying t = some (.struct fs)) (hf : (fs[i]?).map (fun f => (f.offset, f.type)) = some (off, e)) (ha : aggB P e = some false) (cs : List Value) (hl : cs.length = n) (hn : off < n) : Yld P (Instr.field t (.agg cs.toArray) i) K = K (cs.getD off undef) := Yld_eq fun w => by
  obtain ⟨f, hf1, hf2⟩ := Option.map_eq_some_iff.1 hf
  obtain ⟨rfl, rfl⟩ := Prod.mk.injEq .. ▸ hf2
  have h3 : f.offset < cs.length := by omega
  simp [Instr.field, run_underlying hu, hf1, part, asAgg, run_isAgg ha, h3, List.getD, List.getElem?_eq_getElem h3]
/-- A value of one cell. -/
def One (v : Value) : Prop := v.cells = #[v] ∧ v.oneCell' = true
theorem one_u8 (c : UInt8) : One (u8 c) = True := eq_true ⟨rfl, rfl⟩
theorem one_u16 (c : UInt16) : One (u16 c) = True := eq_true ⟨rfl, rfl⟩
theorem one_u32 (c : UInt32) : One (u32 c) = True := eq_true ⟨rfl, rfl⟩
theorem one_u64 (c : UInt64) : One (u64 c) = True := eq_true ⟨rfl, rfl⟩
theorem one_int (k : IntKind) (n : Int) : One (.int k n) = True := eq_true ⟨rfl, rfl⟩
theorem one_str (l : List UInt8) : One (str l) = True := eq_true ⟨rfl, rfl⟩
theorem one_bool (b : Bool) : One (.bool b) = True := eq_true ⟨rfl, rfl⟩
theorem one_ptr (a : Option Addr) : One (.pointer a) = True := eq_true ⟨rfl, rfl⟩
theorem one_sl (a : Option Addr) (n c : Nat) : One (.slice a n c) = True := eq_true ⟨rfl, rfl⟩
theorem one_ifc (t : TypeId) (v : Value) : One (.iface t v) = True := eq_true ⟨rfl, rfl⟩
theorem one_nilI : One .nilIface = True := eq_true ⟨rfl, rfl⟩
theorem one_nilF : One .nilFunc = True := eq_true ⟨rfl, rfl⟩
def ogetB (o : Option Bk) (k : Bk → Prop) (_ : Seal k := ⟨⟩) : Prop := match o with
  | some b => k b
  | none => False
theorem ogetB_some (b : Bk) (k : Bk → Prop) : ogetB (some b) k = k b := rfl
theorem vstore_1 {k : PH → Prop} (hz : szOf P t = some 1) (v : Value) (h1 : One v) (b o : Nat) : vstore P w0 h t ⟨b, o, none⟩ v k = ogetB (h.m b) fun bk => vcIf (decide (o < bk.xs.length)) (k (h.new b ⟨bk.xs.set o v, bk.lim⟩)) False := by
  obtain ⟨h2, h3⟩ := h1
  have ha : allOne v.cells.toList := by rw [h2]; intro u hu; simp at hu; subst hu; exact h3
  unfold vstore
  cases hm : h.m b with
  | none => simp [ogetB]
  | some bk =>
    simp only [ogetB_some, hz, h2, ha]
    by_cases ho : o < bk.xs.length
    · rw [decide_eq_true ho, vcIf_true]
      have h5 : bk.xs.take o ++ [v] ++ bk.xs.drop (o + 1) = bk.xs.set o v := by rw [List.set_eq_take_append_cons_drop, if_pos ho]; simp
      have ha' : allOne (#[v] : Array Value).toList := by rw [← h2]; exact ha
      simp [h5, show o + 1 ≤ bk.xs.length from ho, show allOne [v] from ha']
    · rw [decide_eq_false ho, vcIf_false]
      simp; omega
theorem vstore_N {k : PH → Prop} {n : Nat} (hz : szOf P t = some n) (cs : List Value) (hl : cs.length = n) (h1 : allOne cs) (b o : Nat) : vstore P w0 h t ⟨b, o, none⟩ (.agg cs.toArray) k = ogetB (h.m b) fun bk => vcIf (decide (o + n ≤ bk.xs.length)) (k (h.new b ⟨bk.xs.take o ++ cs ++ bk.xs.drop (o + n), bk.lim⟩)) False := by
  have h2 : (Value.agg cs.toArray).cells = cs.toArray := rfl
  unfold vstore
  cases hm : h.m b with
  | none => simp [ogetB]
  | some bk =>
    simp only [ogetB_some, hz, h2, List.size_toArray, hl]
    by_cases ho : o + n ≤ bk.xs.length
    · rw [decide_eq_true ho, vcIf_true]; simp [ho, h1]
    · rw [decide_eq_false ho, vcIf_false]; simp [ho]
theorem fill_seq : ∀ (us : List Value) (k : Nat) (ds rest : List Value), ds.length = k → us.length = rest.length → (∀ u ∈ us, u.cells = #[u]) →
    Instr.fill (fun i => some (i * 1, 1)) (ds ++ rest).toArray ((List.range' k us.length).zip us) = some (ds ++ us).toArray
  | [], k, ds, rest, _, hr, _ => by
    have : rest = [] := List.length_eq_zero_iff.1 hr.symm
    subst this
    simp [Instr.fill]
  | u :: us, k, ds, rest, hd, hr, hu => by
    obtain ⟨r, rest, rfl⟩ : ∃ r rest', rest = r :: rest' := by
      cases rest with
      | nil => simp at hr
      | cons r rest => exact ⟨r, rest, rfl⟩
    have hu1 := hu u List.mem_cons_self
    have key := fill_seq us (k + 1) (ds ++ [u]) rest (by simp [hd]) (by simpa using hr) (fun x hx => hu x (List.mem_cons_of_mem _ hx))
    simp only [List.append_assoc, List.singleton_append] at key
    rw [List.length_cons, List.range'_succ, List.zip_cons_cons]
    unfold Instr.fill
    simp only [hu1, Nat.mul_one]
    have hset : (ds ++ r :: rest).toArray.setIfInBounds k u = (ds ++ u :: rest).toArray := by
      rw [List.setIfInBounds_toArray, List.set_append_right _ _ (by omega)]; simp [hd]
    have hfold : (#[u] : Array Value).zipIdx.foldl (fun (cs : Array Value) (x : Value × Nat) => cs.setIfInBounds (k + x.2) x.1) (ds ++ r :: rest).toArray = (ds ++ u :: rest).toArray := by
      rw [← hset]; simp
    rw [if_neg (by simp [hd]), hfold]
    simp only [Nat.mul_one] at key
    exact key
theorem y_buildA {m : Nat} {zs : List Value} (hu : P.underlying t = some (.array m e)) (hz : szOf P e = some 1) (hzs : zcells P t = some zs) (hzl : zs.length = m) (vs : List Value) (hl : vs.length = m) (h1 : ∀ v ∈ vs, One v) : Yld P (Instr.build t ((List.range' 0 m).zip vs).toArray) K = K (.agg vs.toArray) := Yld_eq fun w => by
  obtain ⟨i, hi, h2⟩ := Option.bind_eq_some_iff.1 hzs
  obtain ⟨z, hz1, h3⟩ := Option.map_eq_some_iff.1 h2
  have hf := fill_seq vs 0 [] zs rfl (by omega) (fun u hu => (h1 u hu).1)
  rw [hl] at hf
  simp only [List.nil_append] at hf
  have hzz : zs.toArray = z.cells := by rw [← h3]
  rw [hzz] at hf
  simp [Instr.build, run_underlying hu, zeroValue, typeInfo, hi, hz1, run_sizeOf hz]
  simp only [Nat.mul_one] at hf
  simp [hf]
theorem rdN_new (h : PH) (b o n : Nat) (k : Bk) : rdN w0 (h.new b k) ⟨b, o, none⟩ n = if o + n ≤ k.xs.length then some ((k.xs.drop o).take n) else none := by
  unfold rdN; simp [PH.new_m]
theorem rdN_known {h : PH} {b n : Nat} {k : Bk} (hb : h.m b = some k) (hl : k.xs.length = n) : rdN w0 h ⟨b, 0, none⟩ n = some k.xs := by
  unfold rdN; simp only [hb]; rw [if_pos ⟨trivial, by omega⟩, List.drop_zero, List.take_of_length_le (by omega)]
/-- A slice literal whose elements are given one by one. -/
theorem Does_seq {z : Value} {n by_ : Nat} {K : Value → PH → Prop} (hE : El P t e z 1 by_) (vs : List Value) (hl : vs.length = n) (h1 : ∀ v ∈ vs, One v) (hpos : 0 < n) (hs : n ≤ 16777216)
    (hk : ∀ b, h.top ≤ b → K (.slice (some ⟨b, 0, none⟩) n n) (h.new b ⟨vs, n⟩)) : Does P w0 h (Instr.buildSlice t n ((List.range' 0 n).zip vs).toArray) K := by
  refine Does_cells hE hl hpos hs ?_ hk
  have hf := fill_seq vs 0 [] ((Array.range (n * 1)).map (z.cells[· % z.cells.size]!)).toList rfl (by simp [hl]) (fun u hu => (h1 u hu).1)
  rw [hl, List.nil_append, List.nil_append, Array.toArray_toList] at hf
  exact hf
theorem made_one (z : Value) (n : Nat) : (madeCells #[z] n).toList = List.replicate n z := by
  apply List.ext_getElem
  · simp [size_madeCells]
  · intro i h1 h2
    simp [madeCells, Nat.mod_one]
/-- What is read, by what is known of the block. -/
def rdM (w0 : World) (k : Option Bk) (b o : Nat) : Option Value := match k with
  | some k => k.xs[o]?
  | none => if b < w0.heap.size then w0.cell? ⟨b, o, none⟩ else none
theorem rd_M (h : PH) (b o : Nat) : rd w0 h ⟨b, o, none⟩ = rdM w0 (h.m b) b o := by
  unfold rd rdM; rw [if_pos rfl]; cases h.m b <;> rfl
theorem rdM_some (k : Bk) (b o : Nat) : rdM w0 (some k) b o = k.xs[o]? := rfl
/-! A drawn region by a plan: in which order its operations may be taken. -/
def nthO : List Oper → Nat → Option Oper
  | [], _ => none
  | o :: _, 0 => some o
  | _ :: l, n + 1 => nthO l n
theorem nthO_zero (o : Oper) (l : List Oper) : nthO (o :: l) 0 = some o := rfl
theorem nthO_succ (o : Oper) (l : List Oper) (n : Nat) : nthO (o :: l) (n + 1) = nthO l n := rfl
theorem nthO_eq : ∀ (l : List Oper) (i : Nat), nthO l i = l.toArray[i]?
  | [], i => by simp [nthO]
  | o :: l, 0 => by simp [nthO]
  | o :: l, i + 1 => by have := nthO_eq l i; simp [nthO] at this ⊢; exact this
def vcHR (P : Program) (w0 : World) (hS : PH) (ops : List Oper) : List Nat → Fr → PH → (Fr → PH → Prop) → Prop
  | [], f, h, K => K f h
  | i :: l, f, h, K => match nthO ops i with
    | some o => vcIf (silentB P o.op) (vcM P w0 ops.toArray [o] f hS fun f' _ => vcHR P w0 hS ops l f' h K) (vcM P w0 ops.toArray [o] f h fun f' h' => vcLe w0 hS h' (vcHR P w0 hS ops l f' h' K))
    | none => False
def vcHS (P : Program) (w0 : World) (hS : PH) (ops : List Oper) (l : List Nat) (f : Fr) (h : PH) (K : Fr → PH → Prop) (_ : Seal ops := ⟨⟩) (_ : Seal K := ⟨⟩) : Prop := vcHR P w0 hS ops l f h K
def vcHO (P : Program) (w0 : World) (hS : PH) (ops : List Oper) (o : Option Oper) (l : List Nat) (f : Fr) (h : PH) (K : Fr → PH → Prop) (_ : Seal ops := ⟨⟩) (_ : Seal K := ⟨⟩) : Prop := match o with
  | some o => vcIf (silentB P o.op) (vcM P w0 ops.toArray [o] f hS fun f' _ => vcHS P w0 hS ops l f' h K) (vcM P w0 ops.toArray [o] f h fun f' h' => vcLe w0 hS h' (vcHS P w0 hS ops l f' h' K))
  | none => False
theorem vcHS_nil {f : Fr} {K : Fr → PH → Prop} (hS : PH) (ops : List Oper) : vcHS P w0 hS ops [] f h K = K f h := rfl
theorem vcHS_cons {f : Fr} {K : Fr → PH → Prop} (hS : PH) (ops : List Oper) (i : Nat) (l : List Nat) : vcHS P w0 hS ops (i :: l) f h K = vcHO P w0 hS ops (nthO ops i) l f h K := rfl
theorem vcHO_some {f : Fr} {K : Fr → PH → Prop} (hS : PH) (ops : List Oper) (o : Oper) (l : List Nat) : vcHO P w0 hS ops (some o) l f h K = vcIf (silentB P o.op) (vcM P w0 ops.toArray [o] f hS fun f' _ => vcHS P w0 hS ops l f' h K) (vcM P w0 ops.toArray [o] f h fun f' h' => vcLe w0 hS h' (vcHS P w0 hS ops l f' h' K)) := rfl
theorem silent_indexAddr (t : TypeId) (x i : Operand) : silentB P (.indexAddr t x i) = true := rfl
theorem silent_index (t : TypeId) (x i : Operand) : silentB P (.index t x i) = true := rfl
theorem silent_slice (t : TypeId) (x : Operand) (a b c : Option Operand) : silentB P (.slice t x a b c) = true := rfl
theorem silent_unOp (op : UnOp) (t : TypeId) (x : Operand) : silentB P (.unOp op t x) = true := rfl
theorem silent_fieldAddr (t : TypeId) (x : Operand) (i : Nat) : silentB P (.fieldAddr t x i) = true := rfl
theorem silent_field (t : TypeId) (x : Operand) (i : Nat) : silentB P (.field t x i) = true := rfl
theorem silent_nilCheck (x : Operand) : silentB P (.nilCheck x) = true := rfl
theorem silent_iface (t : TypeId) (x : Operand) : silentB P (.makeInterface t x) = true := rfl
theorem silent_convert (s d : TypeId) (x : Operand) : silentB P (.convert s d x) = !isSliceB P d := rfl
theorem vcHR_vcH {hS : PH} {ops : List Oper} {K : Fr → PH → Prop} : ∀ (l : List Nat) (f : Fr) (h : PH), vcHR P w0 hS ops l f h K = vcH P w0 hS ops.toArray l f h K
  | [], f, h => rfl
  | i :: l, f, h => by
    unfold vcHR vcH
    rw [← nthO_eq]
    cases ho : nthO ops i with
    | none => rfl
    | some o =>
      simp only
      cases hs : silentB P o.op
      · rw [vcIf_false, vcM_cons]
        simp only [Bool.false_eq_true, if_false, vcM_nil]
        exact congrArg (fun k => vcG P w0 ops.toArray o f h k) (funext fun f' => funext fun h' => congrArg (fun X => PH.Sub w0 hS h' ∧ X) (vcHR_vcH l f' h'))
      · rw [vcIf_true, vcM_cons]
        simp only [if_true, vcM_nil]
        exact congrArg (fun k => vcG P w0 ops.toArray o f hS k) (funext fun f' => funext fun h' => vcHR_vcH l f' h)
theorem PW_plan {N : Nat} {f : Fr} {id : Nat} {ops : List Oper} {Q : Exit → Fr → PH → Prop} (l : List Nat) (hS : PH) (hm : P.follows .mixedOrders = true) (hp : planOk P ops.toArray l (Array.replicate ops.toArray.size false) = true) (hlen : Nat.ble l.length ops.toArray.size = true) (hok : opsOk N ops = true) (hsel : Region.noSelect ops.toArray = true)
    (hQ : ∀ c f h, ¬ Q (.panic c) f h) (hl : PH.Sub w0 hS h) (hv : vcHS P w0 hS ops l f h (Q .normal)) : PW P w0 N (.region id ops.toArray true) f h Q :=
  PW_held hS l hm hp (Nat.le_of_ble_eq_true hlen) (by simpa using hok) hsel hQ hl ((vcHR_vcH l f h).mp hv)
/-! A drawn region that is silent up to its last operations, which come in their order. -/
theorem vcL_eq {ops : Array Oper} {K : Fr → PH → Prop} : ∀ (l : List Oper) (f : Fr) (h : PH), vcL P w0 ops l f h K = vcM P w0 ops l f h K
  | [], f, h => rfl
  | o :: l, f, h => by
    rw [vcM_cons]
    exact congrArg (fun k => vcG P w0 ops o f h k) (funext fun f' => funext fun h' => vcL_eq l f' h')
theorem vcT_eq {ops : Array Oper} {K : Fr → PH → Prop} : ∀ (n : Nat) (l : List Oper) (f : Fr) (h : PH), vcT P w0 ops n l f h K = vcM P w0 ops l f h K
  | 0, l, f, h => by rw [← vcL_eq]; cases l <;> rfl
  | n + 1, [], f, h => rfl
  | n + 1, o :: l, f, h => by
    rw [vcM_cons]
    exact congrArg (fun k => vcG P w0 ops o f h k) (funext fun f' => funext fun h' => vcT_eq n l f' h')
theorem PW_tail1 {N : Nat} {f : Fr} {id : Nat} {l : List Oper} {Q : Exit → Fr → PH → Prop} (n : Nat) (hm : P.follows .mixedOrders = true) (hB : Region.lexTailB .any l.toArray n = true) (hok : opsOk N l = true) (hsil : ((l.take n).all fun o => silentB P o.op) = true)
    (hv : vcM P w0 l.toArray l f h (Q .normal)) : PW P w0 N (.region id l.toArray true) f h Q :=
  PW_tail n hm hB hok hsil (by rw [vcT_eq]; exact hv)
end
end Go.Proofs.YtcjojkhieocehaaDoor.Px
