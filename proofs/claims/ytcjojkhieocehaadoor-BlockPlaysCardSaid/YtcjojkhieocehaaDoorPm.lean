/- The logic's rules for texts, for rows of the call's own, and for what makes or lengthens them. No condition. -/
import Derived.Test.YtcjojkhieocehaaDoorPo
import Derived.Laws.IdiomStrings
import Derived.ArgAppend
import Derived.Lib.AppendStr
import Derived.Laws.MakeOwn
import Derived.Great.BuildSlice
namespace Go.Proofs.YtcjojkhieocehaaDoor.Px
set_option linter.unusedVariables false
set_option linter.unusedSimpArgs false
open Go.RowKit

/-! ### texts as lists of bytes -/
def str (l : List UInt8) : Value := .string ⟨l.toArray⟩
theorem str_of (s : ByteArray) : Value.string s = str s.data.toList := rfl
theorem str_inj {a b : List UInt8} : str a = str b ↔ a = b := by
  unfold str
  constructor
  · intro h
    injection h with h
    injection h with h
    exact List.toArray_inj h
  · rintro rfl; rfl
theorem size_mk (l : List UInt8) : (ByteArray.mk l.toArray).size = l.length := rfl
section
variable {P : Program} {w0 : World} {h : PH} {t : TypeId} {x y : Operand} {K : Value → Prop}
theorem ev_cstr (f : Fr) (k : Value → Prop) (l : List UInt8) : vev f (.const (.string ⟨l.toArray⟩)) k = k (str l) := rfl
theorem y_eqlT (a b : List UInt8) : Yld P (binS .eql t x y (str a) (str b)) K = K (.bool (decide (a = b))) := by
  unfold str; rw [y_eqlS]; congr 2; by_cases e : a = b
  · simp [e]
  · have : ¬ (ByteArray.mk a.toArray = ByteArray.mk b.toArray) := by intro h; injection h with h; exact e (List.toArray_inj h)
    simp [e, this]
theorem y_neqT (a b : List UInt8) : Yld P (binS .neq t x y (str a) (str b)) K = K (.bool (decide (a ≠ b))) := by
  unfold str; rw [y_neqS]; congr 2; by_cases e : a = b
  · simp [e]
  · have : ¬ (ByteArray.mk a.toArray = ByteArray.mk b.toArray) := by intro h; injection h with h; exact e (List.toArray_inj h)
    simp [e, this]
theorem y_addT (a b : List UInt8) (h : a.length + b.length ≤ 9223372036854775807) : Yld P (binS .add t x y (str a) (str b)) K = K (str (a ++ b)) := by
  unfold str; rw [y_addS _ _ (by simpa [size_mk] using h)]
  congr 1
theorem y_lenT (ty : TypeId) (l : List UInt8) (h : P.underlying t = some .string) : Yld P (Builtin.len_ #[t] ty #[str l]) K = K (.int .i64 l.length) := y_lenS ty ⟨l.toArray⟩ h
theorem get_mk (l : List UInt8) (i : Nat) (h : i < l.length) : (ByteArray.mk l.toArray)[i]? = some (l.getD i 0) := by
  rw [ByteArray.getElem?_lt' ⟨l.toArray⟩ i (show i < l.length from h)]
  congr 1
  rw [List.getD, List.getElem?_eq_getElem h]
  rfl
theorem y_atT (l : List UInt8) (k : IntKind) (i : Int) (h : P.underlying t = some .string) (h0 : 0 ≤ i) (h1 : i < l.length) : Yld P (Instr.index t (str l) (.int k i)) K = K (u8 (l.getD i.toNat 0)) := Yld_eq fun w => by
  unfold str
  simp [Instr.index, run_underlying h, asIntOf, h0, get_mk l i.toNat (by omega), u8, Sem.run_pure]
theorem y_atT32 (l : List UInt8) (i : UInt32) (h : P.underlying t = some .string) (h1 : i.toNat < l.length) : Yld P (Instr.index t (str l) (u32 i)) K = K (u8 (l.getD i.toNat 0)) := by
  unfold u32; rw [y_atT l _ _ h (by omega) (by omega)]; rfl
theorem y_atT8 (l : List UInt8) (i : UInt8) (h : P.underlying t = some .string) (h1 : i.toNat < l.length) : Yld P (Instr.index t (str l) (u8 i)) K = K (u8 (l.getD i.toNat 0)) := by
  unfold u8; rw [y_atT l _ _ h (by omega) (by omega)]; rfl
theorem y_cutT (l : List UInt8) (k k' : IntKind) (i j : Int) (h : P.underlying t = some .string) (h0 : 0 ≤ i) (h1 : i ≤ j) (h2 : j ≤ l.length) : Yld P (Instr.sliceAt t (str l) (some (.int k i)) (some (.int k' j)) none) K = K (str ((l.drop i.toNat).take (j.toNat - i.toNat))) := Yld_eq fun w => by
  unfold str
  rw [run_sliceAt_string _ _ _ _ _ _ h]
  rw [run_slice_string _ t ⟨l.toArray⟩ k k' i j h h0 h1 (by simpa [size_mk] using h2)]
  simp [ByteArray.extract_mk]
theorem y_fromT (l : List UInt8) (k : IntKind) (i : Int) (h : P.underlying t = some .string) (h0 : 0 ≤ i) (h1 : i ≤ l.length) : Yld P (Instr.sliceAt t (str l) (some (.int k i)) none none) K = K (str (l.drop i.toNat)) := Yld_eq fun w => by
  unfold str
  rw [run_sliceAt_string _ _ _ _ _ _ h, run_slice_string_from_if _ t ⟨l.toArray⟩ k i h]
  simp [h0, size_mk, h1, ByteArray.extract_mk, List.take_of_length_le]
theorem y_toT (l : List UInt8) (k : IntKind) (j : Int) (h : P.underlying t = some .string) (h0 : 0 ≤ j) (h1 : j ≤ l.length) : Yld P (Instr.sliceAt t (str l) none (some (.int k j)) none) K = K (str (l.take j.toNat)) := Yld_eq fun w => by
  unfold str
  rw [run_sliceAt_string _ _ _ _ _ _ h, run_slice_string_to_if _ t ⟨l.toArray⟩ k j h]
  simp [h0, size_mk, h1, ByteArray.extract_mk]

/-! ### kinds of numbers turned into one another -/
theorem y_c_i64 (s : TypeId) (k : IntKind) (n : Int) (hs : (P.underlying s).isSome = true) (hd : P.underlying t = some (.int .i64)) : Yld P (convert s t (.int k n)) K = K (.int .i64 (IntKind.i64.wrap n)) := Yld_eq fun w => by
  obtain ⟨d, hd'⟩ := Option.isSome_iff_exists.mp hs
  simp [convert, run_underlying hd', run_underlying hd, Conv.intToInt, Sem.run_pure]
theorem conv_int {s : TypeId} {k j : IntKind} {n : Int} (hs : (P.underlying s).isSome = true) (hd : P.underlying t = some (.int j)) : Yld P (convert s t (.int k n)) K = K (.int j (j.wrap n)) := Yld_eq fun w => by
  obtain ⟨d, hd'⟩ := Option.isSome_iff_exists.mp hs
  simp [convert, run_underlying hd', run_underlying hd, Conv.intToInt, Sem.run_pure]
theorem y_c_8i (s : TypeId) (c : UInt8) (hs : (P.underlying s).isSome = true) (hd : P.underlying t = some (.int .i64)) : Yld P (convert s t (u8 c)) K = K (.int .i64 c.toNat) := by
  unfold u8; rw [conv_int hs hd, wrap_in _ (by omega) (by have := c.toNat_lt; omega)]
theorem y_c_32i (s : TypeId) (c : UInt32) (hs : (P.underlying s).isSome = true) (hd : P.underlying t = some (.int .i64)) : Yld P (convert s t (u32 c)) K = K (.int .i64 c.toNat) := by
  unfold u32; rw [conv_int hs hd, wrap_in _ (by omega) (by have := c.toNat_lt; omega)]
theorem y_c_8_32 (s : TypeId) (c : UInt8) (hs : (P.underlying s).isSome = true) (hd : P.underlying t = some (.int .u32)) : Yld P (convert s t (u8 c)) K = K (u32 c.toUInt32) := by
  unfold u8 u32; rw [conv_int hs hd, wrapU32]; congr 2; have := c.toNat_lt; simp; omega
theorem y_c_8_64 (s : TypeId) (c : UInt8) (hs : (P.underlying s).isSome = true) (hd : P.underlying t = some (.int .u64)) : Yld P (convert s t (u8 c)) K = K (u64 c.toUInt64) := by
  unfold u8 u64; rw [conv_int hs hd, wrapU64]; congr 2; have := c.toNat_lt; simp; omega
theorem y_c_32_64 (s : TypeId) (c : UInt32) (hs : (P.underlying s).isSome = true) (hd : P.underlying t = some (.int .u64)) : Yld P (convert s t (u32 c)) K = K (u64 c.toUInt64) := by
  unfold u32 u64; rw [conv_int hs hd, wrapU64]; congr 2; have := c.toNat_lt; simp; omega
theorem y_c_32_8 (s : TypeId) (c : UInt32) (hs : (P.underlying s).isSome = true) (hd : P.underlying t = some (.int .u8)) : Yld P (convert s t (u32 c)) K = K (u8 c.toUInt8) := by
  unfold u32 u8; rw [conv_int hs hd, wrapU8]; congr 2
theorem y_c_64_8 (s : TypeId) (c : UInt64) (hs : (P.underlying s).isSome = true) (hd : P.underlying t = some (.int .u8)) : Yld P (convert s t (u64 c)) K = K (u8 c.toUInt8) := by
  unfold u64 u8; rw [conv_int hs hd, wrapU8]; congr 2
theorem y_c_i_8 (s : TypeId) (n : Int) (hs : (P.underlying s).isSome = true) (hd : P.underlying t = some (.int .u8)) : Yld P (convert s t (.int .i64 n)) K = K (u8 (UInt8.ofInt n)) := by
  unfold u8; rw [conv_int hs hd, wrapU8]; congr 2
  have h1 : (n % 256).toNat < 256 := by omega
  simp [UInt8.ofInt, Nat.mod_eq_of_lt h1]
  omega
theorem y_c_i_32 (s : TypeId) (n : Int) (hs : (P.underlying s).isSome = true) (hd : P.underlying t = some (.int .u32)) : Yld P (convert s t (.int .i64 n)) K = K (u32 (UInt32.ofInt n)) := by
  unfold u32; rw [conv_int hs hd, wrapU32]; congr 2
  have h1 : (n % 4294967296).toNat < 4294967296 := by omega
  simp [UInt32.ofInt, Nat.mod_eq_of_lt h1]
  omega
theorem y_c_i_64 (s : TypeId) (n : Int) (hs : (P.underlying s).isSome = true) (hd : P.underlying t = some (.int .u64)) : Yld P (convert s t (.int .i64 n)) K = K (u64 (UInt64.ofInt n)) := by
  unfold u64; rw [conv_int hs hd, wrapU64]; congr 2
  have h1 : (n % 18446744073709551616).toNat < 18446744073709551616 := by omega
  simp [UInt64.ofInt, Nat.mod_eq_of_lt h1]
  omega
theorem y_iface (v : Value) (ht : P.concrete t = true) : Yld P (Instr.makeInterface t v) K = K (.iface t v) := Yld_eq fun w => run_makeInterface w t v ht
end

/-! ### addresses -/
section
variable {P : Program} {w0 : World} {h : PH} {t e : TypeId} {K : Value → Prop} {sz : Nat}
theorem run_sizeOf (hz : szOf P e = some sz) (w : World) : (sizeOf e).run P w = .ok sz w := by
  obtain ⟨i, hi, hs⟩ := Option.map_eq_some_iff.1 hz
  simp [sizeOf, typeInfo, hi, hs]
theorem y_indexL (hu : P.underlying t = some (.slice e)) (hz : szOf P e = some sz) (b o n c : Nat) (k : IntKind) (i : Int) (h0 : 0 ≤ i) (h1 : i < n) : Yld P (Instr.indexAt t (.slice (some ⟨b, o, none⟩) n c) (.int k i)) K = K (.pointer (some ⟨b, o + i.toNat * sz, none⟩)) := Yld_eq fun w => by
  simp [Instr.indexAt, run_underlying hu, asIntOf, h0, h1, run_sizeOf hz, Addr.add_mid]
theorem y_indexA {m : Nat} (hu : P.underlying t = some (.array m e)) (hz : szOf P e = some sz) (b o : Nat) (k : IntKind) (i : Int) (h0 : 0 ≤ i) (h1 : i < m) : Yld P (Instr.indexAt t (.pointer (some ⟨b, o, none⟩)) (.int k i)) K = K (.pointer (some ⟨b, o + i.toNat * sz, none⟩)) := Yld_eq fun w => by
  simp [Instr.indexAt, run_underlying hu, asIntOf, h0, h1, run_sizeOf hz, Addr.add_mid, Instr.sureAddr]
def sl1B (P : Program) (t : TypeId) : Bool := match P.underlying t with
  | some (.slice e) => szOf P e == some 1
  | _ => false
def ar1B (P : Program) (t : TypeId) (m : Nat) : Bool := match P.underlying t with
  | some (.array k e) => k == m && szOf P e == some 1
  | _ => false
theorem y_index1 (hu : sl1B P t = true) (b o n c : Nat) (k : IntKind) (i : Int) (h0 : 0 ≤ i) (h1 : i < n) : Yld P (Instr.indexAt t (.slice (some ⟨b, o, none⟩) n c) (.int k i)) K = K (.pointer (some ⟨b, o + i.toNat, none⟩)) := by
  unfold sl1B at hu
  split at hu
  · rename_i e he
    rw [y_indexL he (by simpa using hu) b o n c k i h0 h1, Nat.mul_one]
  · cases hu
/-- Where a slice that is cut begins. -/
def cutAt (b o k : Nat) (whole : Bool) : Option Addr := some (if whole then ⟨b, o, none⟩ else ⟨b, o + k, none⟩)
theorem y_fromL (hu : P.underlying t = some (.slice e)) (hz : szOf P e = some sz) (b o n c : Nat) (k : IntKind) (i : Int) (h0 : 0 ≤ i) (h1 : i ≤ n) : Yld P (Instr.sliceAt t (.slice (some ⟨b, o, none⟩) n c) (some (.int k i)) none none) K = K (.slice (cutAt b o (i.toNat * sz) (decide (c = i.toNat))) (n - i.toNat) (c - i.toNat)) := Yld_eq fun w => by
  obtain ⟨n', rfl⟩ := Int.eq_ofNat_of_zero_le h0
  have h2 : n' ≤ n := by omega
  simp [Instr.sliceAt, run_underlying hu, Instr.slice, Instr.sliceBounds, Instr.sliceBound, asIntOf, h2, run_sizeOf hz, cutAt, Addr.add_mid]
  split <;> rfl
theorem y_from1 (hu : sl1B P t = true) (b o n c : Nat) (k : IntKind) (i : Int) (h0 : 0 ≤ i) (h1 : i ≤ n) : Yld P (Instr.sliceAt t (.slice (some ⟨b, o, none⟩) n c) (some (.int k i)) none none) K = K (.slice (cutAt b o i.toNat (decide (c = i.toNat))) (n - i.toNat) (c - i.toNat)) := by
  unfold sl1B at hu
  split at hu
  · rename_i e he
    rw [y_fromL he (by simpa using hu) b o n c k i h0 h1, Nat.mul_one]
  · cases hu
end
/-! ### rows -/
/-- What is known of a slice type's elements: a value's cells, their number, the bytes. -/
structure El (P : Program) (t e : TypeId) (z : Value) (sz by_ : Nat) : Prop where
  under : P.underlying t = some (.slice e)
  info : ∃ i, P.info? e = some i ∧ i.zero = some z ∧ i.size = sz ∧ i.bytes = by_
  zero : z.cells.size = sz
  pos : 0 < sz
def bs (l : List UInt8) : List Value := l.map u8
theorem bs_append (a b : List UInt8) : bs (a ++ b) = bs a ++ bs b := by simp [bs]
theorem bs_length (l : List UInt8) : (bs l).length = l.length := by simp [bs]
theorem bs_one (l : List UInt8) : allOne (bs l) := by
  intro v hv
  obtain ⟨_, _, rfl⟩ := List.mem_map.1 hv
  rfl
/-- A slice that reads as these cells. -/
def Rs (w0 : World) (h : PH) (sz : Nat) (A : Option Addr) (m : Nat) (ys : List Value) : Prop := ys.length = m * sz ∧ (0 < m → ∃ a, A = some a ∧ rdN w0 h a (m * sz) = some ys)
/-- A value that is nil or a row that may be lengthened. -/
def Own (h : PH) (sz : Nat) (v : Value) (n : Nat) (xs : List Value) : Prop :=
  xs.length = n * sz ∧ ((v = .slice none 0 0 ∧ n = 0) ∨ ∃ b c, v = .slice (some ⟨b, 0, none⟩) n c ∧ n ≤ c ∧ c ≤ maxLen ∧ h.m b = some ⟨xs, c * sz⟩)
/-- All but v's own row is as it was; v' lies where v lay, or is new. -/
structure Stays (h h' : PH) (v v' : Value) : Prop where
  top : h.top ≤ h'.top
  keep : ∀ x k, h.m x = some k → v.ownBlock ≠ some x → h'.m x = some k
  fresh : ∀ x, v'.ownBlock = some x → v.ownBlock = some x ∨ h.top ≤ x
/-- Over h0, a row of the call's own. -/
structure OwnS (h0 h : PH) (sz : Nat) (v : Value) (n : Nat) (xs : List Value) : Prop where
  le : PH.Le h0 h
  own : Own h sz v n xs
  new : ∀ x, v.ownBlock = some x → h0.top ≤ x
theorem Own.nil (h : PH) (sz : Nat) : Own h sz (.slice none 0 0) 0 [] := ⟨by simp, .inl ⟨rfl, rfl⟩⟩
theorem OwnS.nil (h : PH) (sz : Nat) : OwnS h h sz (.slice none 0 0) 0 [] := ⟨PH.Le.refl h, Own.nil h sz, fun x e => by cases e⟩
theorem OwnS.stays {h0 h h' : PH} {sz n m : Nat} {v v' : Value} {xs ys : List Value} (o : OwnS h0 h sz v n xs) (s : Stays h h' v v') (o' : Own h' sz v' m ys) : OwnS h0 h' sz v' m ys := by
  refine ⟨⟨Nat.le_trans o.le.top s.top, fun x k e => s.keep x k (o.le.m x k e) fun hv => ?_⟩, o', fun x e => ?_⟩
  · have := o.new x hv
    have := h0.lt x k e
    omega
  · rcases s.fresh x e with h1 | h1
    · exact o.new x h1
    · exact Nat.le_trans o.le.top h1
theorem OwnS.more {h0 h h' : PH} {sz n : Nat} {v : Value} {xs : List Value} (o : OwnS h0 h sz v n xs) (l : PH.Le h h') : OwnS h0 h' sz v n xs :=
  ⟨o.le.trans l, ⟨o.own.1, o.own.2.imp id fun ⟨b, c, h1, h2, h3, h4⟩ => ⟨b, c, h1, h2, h3, l.m _ _ h4⟩⟩, o.new⟩
theorem Own.len {h : PH} {sz n : Nat} {v : Value} {xs : List Value} (o : Own h sz v n xs) : ∃ A c, v = .slice A n c ∧ n ≤ c := by
  rcases o.2 with ⟨h1, h2⟩ | ⟨b, c, h1, h2, _⟩
  · exact ⟨none, 0, by rw [h1, h2], by omega⟩
  · exact ⟨_, c, h1, h2⟩
theorem Own.pos {h : PH} {sz n : Nat} {v : Value} {xs : List Value} (o : Own h sz v n xs) (hn : 0 < n) : ∃ b c, v = .slice (some ⟨b, 0, none⟩) n c ∧ n ≤ c ∧ h.m b = some ⟨xs, c * sz⟩ := by
  rcases o.2 with ⟨h1, h2⟩ | ⟨b, c, h1, h2, _, h3⟩
  · omega
  · exact ⟨b, c, h1, h2, h3⟩
theorem Rs.own {w0 : World} {h : PH} {sz n c : Nat} {A : Option Addr} {xs : List Value} (o : Own h sz (.slice A n c) n xs) : Rs w0 h sz A n xs := by
  refine ⟨o.1, fun hn => ?_⟩
  obtain ⟨b, c', e, _, hb⟩ := o.pos hn
  injection e with e1 e2 e3
  subst e1
  refine ⟨_, rfl, ?_⟩
  unfold rdN
  simp only [hb]
  rw [if_pos ⟨trivial, by simp [o.1]⟩]
  simp [← o.1]
theorem Rs.nil (w0 : World) (h : PH) (sz : Nat) (A : Option Addr) : Rs w0 h sz A 0 [] := ⟨by simp, fun e => absurd e (by omega)⟩
theorem Rs.blk {w0 : World} {h : PH} {sz m b : Nat} {k : Bk} (hb : h.m b = some k) (hl : k.xs.length = m * sz) : Rs w0 h sz (some ⟨b, 0, none⟩) m k.xs := by
  refine ⟨hl, fun _ => ⟨_, rfl, ?_⟩⟩
  unfold rdN
  simp only [hb]
  rw [if_pos ⟨trivial, by omega⟩, ← hl]
  simp

section
variable {w0 : World}
theorem PH.eq_of {h h' : PH} (h1 : h.top = h'.top) (h2 : ∀ x, h.m x = h'.m x) : h = h' := by
  obtain ⟨t, m, p⟩ := h
  obtain ⟨t', m', p'⟩ := h'
  simp only at h1 h2
  obtain rfl : m = m' := funext h2
  subst h1
  rfl
theorem PH.new_new (h : PH) (b : Nat) (k k' : Bk) : (h.new b k).new b k' = h.new b k' := by
  refine PH.eq_of ?_ fun x => ?_
  · simp only [PH.new_top]; omega
  · simp only [PH.new_m]; by_cases hx : x = b <;> simp [hx]
theorem PH.new_same {h : PH} {b : Nat} {k : Bk} (hb : h.m b = some k) : h.new b k = h := by
  refine PH.eq_of ?_ fun x => ?_
  · have := h.lt _ _ hb; simp only [PH.new_top]; omega
  · rw [PH.new_m]
    by_cases hx : x = b
    · rw [if_pos hx, hx, hb]
    · rw [if_neg hx]
/-- Of a block less may be known: only its first cells. -/
theorem PH.sub_cut (h : PH) (b lim n : Nat) (xs : List Value) : PH.Sub w0 (h.new b ⟨xs.take n, lim⟩) (h.new b ⟨xs, lim⟩) := fun w s => by
  refine ⟨s.below, by have := s.top; simpa only [PH.new_top] using this, fun x k e => ?_⟩
  rw [PH.new_m] at e
  by_cases hx : x = b
  · rw [if_pos hx] at e
    obtain rfl := Option.some.inj e
    obtain ⟨h1, cur, t, lo, hi, h2, h3, h4, h5, h6⟩ := s.sat x ⟨xs, lim⟩ (by rw [PH.new_m, if_pos hx])
    simp only at h3 h4 h5 h6
    refine ⟨h1, cur, t, lo, hi, h2, h3, h4, ?_, ?_⟩
    · simp only [List.length_take]; omega
    · simp only [List.length_take]
      have h7 : cur.toList.take (min n xs.length) = (cur.toList.take xs.length).take n := by rw [List.take_take]
      rw [h7, h6]
  · rw [if_neg hx] at e
    exact s.sat x k (by rw [PH.new_m, if_neg hx]; exact e)
/-- More may be known of a block. -/
theorem PH.sub_in {w0 : World} (h : PH) (b lim : Nat) (xs ys : List Value) (hb : h.m b = some ⟨xs, lim⟩) : PH.Sub w0 h ((h.del b).new b ⟨xs ++ ys, lim⟩) := by
  have e1 : (h.del b).new b ⟨xs ++ ys, lim⟩ = h.new b ⟨xs ++ ys, lim⟩ := by
    refine PH.eq_of (by simp only [PH.new_top, PH.del_top]) fun x => ?_
    simp only [PH.new_m, PH.del_m]
    by_cases hx : x = b <;> simp [hx]
  have e2 := PH.sub_cut (w0 := w0) h b lim xs.length (xs ++ ys)
  rw [List.take_left, PH.new_same hb] at e2
  rw [e1]
  exact e2
end
section
variable {P : Program} {w0 : World} {h : PH} {t e ty : TypeId} {z : Value} {sz by_ : Nat} {K : Value → PH → Prop}
theorem Own.ofRow {w : World} {base n : Nat} {v : Value} {xs : List Value} (ho : w.ownsRow base e sz v n xs) (hn : 0 < n) : ∃ b c, v = .slice (some ⟨b, 0, none⟩) n c ∧ n ≤ c ∧ c ≤ maxLen ∧ base ≤ b ∧ BSat w b ⟨xs, c * sz⟩ := by
  rcases ho.2 with ⟨_, h0⟩ | ⟨g, cap, cur, hv, hb, hg, hnc, hcm, hcs, ht⟩
  · omega
  · refine ⟨g, cap, hv, hnc, hcm, hb, cur, e, 0, 0, hg, by simp [hcs], .inl (Nat.le_refl _), ?_, by rw [ho.1]; exact ht⟩
    show xs.length ≤ cap * sz
    rw [ho.1]; exact Nat.mul_le_mul_right _ hnc
theorem Does_app2 {v : Value} {n m c : Nat} {xs ys : List Value} {A : Option Addr} (hE : El P t e z sz by_) (ho : Own h sz v n xs) (hs : Rs w0 h sz A m ys) (h1 : allOne ys) (hsz : n + m ≤ maxLen) (hb : (n + m) * by_ ≤ 140737488355328)
    (hk : ∀ v' h', Own h' sz v' (n + m) (xs ++ ys) → Stays h h' v v' → PH.Sub w0 h h' → K v' h') : Does P w0 h (Builtin.append_ #[t, t] ty #[v, .slice A m c]) K := by
  intro w s
  obtain ⟨i, hi, hz, hsi, hby⟩ := hE.info
  rcases Nat.eq_zero_or_pos m with h0 | h0
  · subst h0
    have hn : ys = [] := List.eq_nil_of_length_eq_zero (by simpa using hs.1)
    subst hn
    refine ⟨v, w, h, ?_, hk v h (by simpa using ho) ⟨Nat.le_refl _, fun _ _ e _ => e, fun _ e => .inl e⟩ (PH.Le.refl h).sub, s⟩
    rcases ho.2 with ⟨rfl, rfl⟩ | ⟨b, c', rfl, hnc, _⟩
    · cases A <;> simp [Builtin.append_, run_underlying hE.under, sizeOf, typeInfo, hi, Builtin.lenOf, Builtin.firstCells, loadCells, loadCellsFrom, Sem.run_pure]
    · cases A <;> simp [Builtin.append_, run_underlying hE.under, sizeOf, typeInfo, hi, Builtin.lenOf, Builtin.firstCells, loadCells, loadCellsFrom, Sem.run_pure, hnc, storeCells]
  · obtain ⟨a, rfl, hrd⟩ := hs.2 h0
    obtain ⟨hl, hc⟩ := rdN_sound s hrd
    rcases ho.2 with ⟨rfl, rfl⟩ | ⟨b, cp, rfl, hnc, hcm, hbk⟩
    · have hxs : xs = [] := List.eq_nil_of_length_eq_zero (by simpa using ho.1)
      subst hxs
      obtain ⟨v', w', hr, ho', hg, _⟩ := run_append_own (P := P) w w.heap.size t ty e i z sz by_ hE.under hi hz hsi hby hE.zero hE.pos (.slice none 0 0) 0 [] (World.ownsRow_nil _ _ _ _) a m c ys hl hc h1 hsz hb (Nat.le_refl _)
      obtain ⟨b', c', rfl, g1, g2, g3, g4⟩ := Own.ofRow ho' (by omega)
      have hne : h.m b' = none := by
        cases hx : h.m b' with
        | none => rfl
        | some k => have := h.lt b' k hx; have := s.top; omega
      refine ⟨_, w', h.new b' ⟨[] ++ ys, c' * sz⟩, hr, hk _ _ ⟨by simp [hl], .inr ⟨b', c', rfl, g1, g2, by simp [PH.new_m]⟩⟩ ⟨by simp only [PH.new_top]; omega, fun x k e _ => ?_, fun x e => ?_⟩ ((PH.Le.refl h).new _ _ (Nat.le_trans s.top g3)).sub, ?_⟩
      · rw [PH.new_m, if_neg (by have := h.lt x k e; have := s.top; omega)]; exact e
      · injection e with e; right; rw [← e]; exact Nat.le_trans s.top g3
      · exact (s.step (row := none) hg (fun _ e => by cases e)).put (Nat.le_trans s.base g3) g4
    · obtain ⟨q1, cur, ct, lo, hi', q2, q3, q4, q5, q6⟩ := s.sat b _ hbk
      have hlx : xs.length = n * sz := ho.1
      simp only at q3 q4 q5 q6
      by_cases hroom : n + m ≤ cp
      · have hmul : n * sz + m * sz ≤ cp * sz := by rw [← Nat.add_mul]; exact Nat.mul_le_mul_right _ hroom
        have hrun := run_append_room_cells (P := P) w t ty e i hE.under hi b 0 n cp a m c ys (by rw [hsi, hl]) hc h1 hroom
          (fun j hj => by
            rw [hsi, cell_of_row w b _ cur ct _ q2, Array.getElem?_eq_getElem (by omega)]; rfl)
          (fun j hj => by
            simp [World.frozen?, q2, hsi]
            omega)
        have hh := setCells_heap_any (w := w) (b := b) (t := ct) (fz := (lo, hi')) (cs := cur.toList) ys (n * sz) (by simpa using q2) (by simp; omega)
        have hlen : (xs ++ ys).length = (n + m) * sz := by rw [List.length_append, hlx, hl, Nat.add_mul]
        refine ⟨_, _, (h.del b).new b ⟨xs ++ ys, cp * sz⟩, hrun, hk _ _ ⟨hlen, .inr ⟨b, cp, rfl, hroom, hcm, by simp [PH.new_m]⟩⟩ ⟨by simp only [PH.new_top, PH.del_top]; omega, fun x k e hx => ?_, fun x e => .inl e⟩ (PH.sub_in h b _ xs ys hbk), ?_⟩
        · have hxb : x ≠ b := fun e' => hx (by rw [e']; rfl)
          rw [PH.new_m, if_neg hxb, PH.del_m, if_neg hxb]; exact e
        · refine ((s.del b).step (row := some b) (by simpa [hsi] using grownBy_setCells b ys (0 + n * i.size) w) (fun x e => ?_)).put q1 ⟨_, ct, lo, hi', by simpa [hsi] using hh, ?_, q4, ?_, ?_⟩
          · injection e with e; subst e; exact ⟨q1, by simp [PH.del_m]⟩
          · simp; omega
          · simp only; rw [hlen, Nat.add_mul]; exact hmul
          · simp only
            have e1 : cur.toList.take (n * sz) = xs := by rw [← hlx]; exact q6
            have e2 := List.take_left (l₁ := cur.toList.take (n * sz) ++ ys) (l₂ := cur.toList.drop (n * sz + ys.length))
            rw [e1] at e2
            rw [List.toList_toArray, e1]
            simpa [List.append_assoc] using e2
      · obtain ⟨v', w', hr, ho', hg⟩ := run_append_arg_grows (P := P) w t ty e i z sz by_ hE.under hi hz hsi hby hE.zero hE.pos ⟨b, 0, none⟩ n cp xs hlx
          (fun j u hu => by
            rw [Addr.add_mid, Nat.zero_add, cell_of_row w b j cur ct _ q2]
            rw [← q6, List.getElem?_take] at hu
            split at hu
            · simpa using hu
            · cases hu) a m c ys hl hc (by omega) hsz hb
        obtain ⟨b', c', rfl, g1, g2, g3, g4⟩ := Own.ofRow ho' (by omega)
        refine ⟨_, w', h.new b' ⟨xs ++ ys, c' * sz⟩, hr, hk _ _ ⟨by rw [List.length_append, hlx, hl, Nat.add_mul], .inr ⟨b', c', rfl, g1, g2, by simp [PH.new_m]⟩⟩ ⟨by simp only [PH.new_top]; omega, fun x k e _ => ?_, fun x e => ?_⟩ ((PH.Le.refl h).new _ _ (Nat.le_trans s.top g3)).sub, ?_⟩
        · rw [PH.new_m, if_neg (by have := h.lt x k e; have := s.top; omega)]; exact e
        · injection e with e; right; rw [← e]; exact Nat.le_trans s.top g3
        · exact (s.step (row := none) hg (fun _ e => by cases e)).put (Nat.le_trans s.base g3) g4

theorem Does_app {v : Value} {n m c : Nat} {xs ys : List Value} {A : Option Addr} (hE : El P t e z sz by_) (ho : Own h sz v n xs) (hs : Rs w0 h sz A m ys) (h1 : allOne ys) (hsz : n + m ≤ maxLen) (hb : (n + m) * by_ ≤ 140737488355328)
    (hk : ∀ v' h', Own h' sz v' (n + m) (xs ++ ys) → Stays h h' v v' → K v' h') : Does P w0 h (Builtin.append_ #[t, t] ty #[v, .slice A m c]) K :=
  Does_app2 hE ho hs h1 hsz hb fun v' h' a b _ => hk v' h' a b

theorem fold_set : ∀ (l : List Value) (o : Nat) (cs : Array Value), o + l.length = cs.size → (l.zipIdx o).foldl (fun (cs : Array Value) (x : Value × Nat) => cs.setIfInBounds (0 + x.2) x.1) cs = (cs.toList.take o ++ l).toArray
  | [], o, cs, ho => by
    apply Array.ext'
    simp at ho
    simp [List.take_of_length_le, ← ho]
  | v :: l, o, cs, ho => by
    simp only [List.zipIdx_cons, List.foldl_cons, Nat.zero_add]
    have ih := fold_set l (o + 1) (cs.setIfInBounds o v) (by simp at ho ⊢; omega)
    simp only [Nat.zero_add] at ih
    rw [ih]
    apply Array.ext'
    have hlt : o < cs.toList.length := by simp at ho ⊢; omega
    simp only [Array.toList_setIfInBounds, List.toList_toArray]
    rw [List.take_add_one, List.getElem?_set_self hlt, List.take_set_of_le (Nat.le_refl _)]
    simp
/-- One new element, of one cell. -/
theorem Does_one {v : Value} (hE : El P t e z sz by_) (hv : v.cells.size = sz) (hs : sz ≤ 16777216) (hk : ∀ b, h.top ≤ b → K (.slice (some ⟨b, 0, none⟩) 1 1) (h.new b ⟨v.cells.toList, sz⟩)) : Does P w0 h (Instr.buildSlice t 1 #[(0, v)]) K := by
  intro w s
  obtain ⟨i, hi, hz, hsi, hby⟩ := hE.info
  have hpos := hE.pos
  have key : ∀ (cs : Array Value) (vs : Array Value), cs.size = vs.size → vs.zipIdx.foldl (fun cs (c, j) => cs.setIfInBounds (0 + j) c) cs = vs := by
    intro cs vs hcv
    have := fold_set vs.toList 0 cs (by simp [hcv])
    rw [← Array.foldl_toList]
    simpa using this
  have hf : Instr.fill (fun i => some (i * sz, sz)) ((Array.range (1 * sz)).map (z.cells[· % z.cells.size]!)) [(0, v)] = some v.cells := by
    simp only [Instr.fill, Nat.zero_mul]
    rw [if_neg (by simp [hv])]
    rw [key _ _ (by simp [hv])]
  have hr := run_buildSlice w t e 1 #[(0, v)] v.cells i z hE.under hi hz (by rw [hsi]; omega) (by rw [hsi]; omega) (by rw [hsi]; exact hf)
  refine ⟨_, _, _, hr, hk w.heap.size s.top, ?_⟩
  have := s.alloc e v.cells.toList
  simpa [hv] using this
theorem Does_cells {vs : List Value} {n : Nat} {parts : Array (Nat × Value)} (hE : El P t e z 1 by_) (hn : vs.length = n) (hpos : 0 < n) (hs : n ≤ 16777216) (hf : Instr.fill (fun i => some (i * 1, 1)) ((Array.range (n * 1)).map (z.cells[· % z.cells.size]!)) parts.toList = some vs.toArray)
    (hk : ∀ b, h.top ≤ b → K (.slice (some ⟨b, 0, none⟩) n n) (h.new b ⟨vs, n⟩)) : Does P w0 h (Instr.buildSlice t n parts) K := by
  intro w s
  obtain ⟨i, hi, hz, hsi, hby⟩ := hE.info
  have hr := run_buildSlice w t e n parts vs.toArray i z hE.under hi hz (by rw [hsi]; omega) (by rw [hsi]; omega) (by rw [hsi]; exact hf)
  refine ⟨_, _, _, hr, hk w.heap.size s.top, ?_⟩
  have := s.alloc e vs
  rwa [hn] at this
theorem fill1 (a : UInt8) : Instr.fill (fun i => some (i * 1, 1)) ((Array.range (1 * 1)).map ((Value.int .u8 0).cells[· % (Value.int .u8 0).cells.size]!)) #[(0, u8 a)].toList = some (bs [a]).toArray := by
  simp [Instr.fill, u8, Value.cells, bs, Array.range_succ, show Array.range 0 = #[] from rfl]
theorem fill2 (a b : UInt8) : Instr.fill (fun i => some (i * 1, 1)) ((Array.range (2 * 1)).map ((Value.int .u8 0).cells[· % (Value.int .u8 0).cells.size]!)) #[(0, u8 a), (1, u8 b)].toList = some (bs [a, b]).toArray := by
  simp [Instr.fill, u8, Value.cells, bs, Array.range_succ, show Array.range 0 = #[] from rfl]
theorem fill3 (a b c : UInt8) : Instr.fill (fun i => some (i * 1, 1)) ((Array.range (3 * 1)).map ((Value.int .u8 0).cells[· % (Value.int .u8 0).cells.size]!)) #[(0, u8 a), (1, u8 b), (2, u8 c)].toList = some (bs [a, b, c]).toArray := by
  simp [Instr.fill, u8, Value.cells, bs, Array.range_succ, show Array.range 0 = #[] from rfl]
/-- A text's bytes in a row of their own. -/
theorem Does_bytes {s : TypeId} {l : List UInt8} (hs : P.underlying s = some .string) (ht : P.underlying t = some (.slice e)) (he : P.underlying e = some (.int .u8)) (hl : l.length ≤ maxLen)
    (hk : ∀ v h', OwnS h h' 1 v l.length (bs l) → v ≠ .slice none 0 0 → K v h') : Does P w0 h (convert s t (str l)) K := by
  intro w sm
  have hr := run_bytes_of_string (P := P) w s t e ⟨l.toArray⟩ hs ht he
  have hge := grownCap_ge w l.length 0 e
  have hcm := grownCap_le_maxLen w l.length 0 e hl
  have hsz : (bytesRow ⟨l.toArray⟩ (grownCap w l.length 0 e)).size = grownCap w l.length 0 e := by simp [bytesRow, size_mk]; omega
  refine ⟨_, _, h.new w.heap.size ⟨bs l, grownCap w l.length 0 e * 1⟩, hr, hk _ _ ⟨(PH.Le.refl h).new _ _ sm.top, ⟨by simp [bs], .inr ⟨_, _, rfl, hge, hcm, by simp [PH.new_m, size_mk]⟩⟩, fun x e => ?_⟩ (by simp), ?_⟩
  · injection e with e; rw [← e]; exact sm.top
  · refine (sm.drew.step (row := none) (grownBy_alloc w.drew _ none) (fun _ e => by cases e)).put sm.base ⟨_, e, _, _, heap_alloc_new w.drew _, ?_, ?_, ?_, ?_⟩
    · simp only [size_mk]; rw [hsz]; omega
    · right; simp only [size_mk]; rw [hsz]; omega
    · simp [bs]; omega
    · simp only [size_mk]
      have e1 : (bytesRow ⟨l.toArray⟩ (grownCap w l.length 0 e)).toList = bs l ++ List.replicate (grownCap w l.length 0 e - l.length) (.int .u8 0) := by
        unfold bytesRow; simp [bs, size_mk]; intro a _; rfl
      rw [e1]; exact List.take_left
/-- A slice literal without elements. -/
theorem Does_zero (hE : El P t e z sz by_) (hk : ∀ b, h.top ≤ b → K (.slice (some ⟨b, 0, none⟩) 0 0) (h.new b ⟨[], 0⟩)) : Does P w0 h (Instr.buildSlice t 0 #[]) K := by
  intro w s
  obtain ⟨i, hi, hz, hsi, hby⟩ := hE.info
  have hr : (Instr.buildSlice t 0 #[]).run P w = .ok (.slice (some ⟨w.heap.size, 0, none⟩) 0 0) (w.alloc (.cells #[] e)) := by
    simp [Instr.buildSlice, run_underlying hE.under, sizeOf, typeInfo, hi, Instr.fill, newRow, show Array.range 0 = #[] from rfl]
  exact ⟨_, _, _, hr, hk w.heap.size s.top, s.alloc e []⟩
theorem OwnS.zero {h : PH} {b : Nat} (sz : Nat) (hb : h.top ≤ b) : OwnS h (h.new b ⟨[], 0⟩) sz (.slice (some ⟨b, 0, none⟩) 0 0) 0 [] :=
  ⟨(PH.Le.refl h).new _ _ hb, ⟨by simp, .inr ⟨b, 0, rfl, Nat.le_refl _, by simp [maxLen], by rw [PH.new_m, if_pos rfl]; simp⟩⟩, fun x e => by cases e; exact hb⟩
theorem Does_make {n c : Nat} (hE : El P t e z sz by_) (hn : n ≤ c) (hc : c ≤ maxLen) (hb : by_ * c ≤ 281474976710656) {kl kc : IntKind}
    (hk : ∀ b, h.top ≤ b → K (.slice (some ⟨b, 0, none⟩) n c) (h.new b ⟨(madeCells z.cells (c * sz)).toList, c * sz⟩)) : Does P w0 h (Instr.makeSlice t (.int kl n) (.int kc c)) K := by
  intro w s
  obtain ⟨i, hi, hz, hsi, hby⟩ := hE.info
  have hcm : c ≤ 9223372036854775807 := by simp only [maxLen] at hc; omega
  have hb9 : (i.bytes : Int) * c ≤ 281474976710656 := by
    rw [hby]
    have h9 : ((by_ * c : Nat) : Int) ≤ 281474976710656 := by omega
    rwa [Int.natCast_mul] at h9
  have hr := run_make (P := P) w t e i z hE.under hi hz kl kc n c (by omega) (by omega) hb9 (by omega)
  simp only [Int.toNat_natCast, hsi] at hr
  refine ⟨_, _, _, hr, hk w.heap.size s.top, ?_⟩
  have := s.alloc e (madeCells z.cells (c * sz)).toList
  simpa [size_madeCells] using this
/-- A slice's bytes as a text. -/
theorem vtext_own {s d : TypeId} {A : Option Addr} {n c : Nat} {l : List UInt8} {k : Value → Prop} (hs : P.underlying s = some (.slice e)) (he : P.underlying e = some (.int .u8)) (hd : P.underlying d = some .string) (hr : Rs w0 h 1 A n (bs l)) (hA : A = none → n = 0)
    (hk : k (str l)) : vtext P w0 h s d (.slice A n c) k := by
  refine ⟨e, hs, he, hd, ?_⟩
  have hn : l.length = n := by have := hr.1; simpa [bs] using this
  cases A with
  | none =>
    have h0 := hA rfl
    have : l = [] := List.eq_nil_of_length_eq_zero (by omega)
    subst this
    exact hk
  | some a =>
    rcases Nat.eq_zero_or_pos n with h0 | h0
    · have : l = [] := List.eq_nil_of_length_eq_zero (by omega)
      subst this
      subst h0
      exact ⟨[], rfl, fun e => absurd e (by omega), hk⟩
    · obtain ⟨a', ha, hrd⟩ := hr.2 h0
      injection ha with ha
      subst ha
      exact ⟨l, hn, fun _ => by rw [Nat.mul_one] at hrd; exact hrd, hk⟩
end
end Go.Proofs.YtcjojkhieocehaaDoor.Px
