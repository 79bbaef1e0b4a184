/- Items that come in; what is put is read back: the plain law. No condition. -/
import Derived.Test.YtjpfablpkekdgaaDoorWdo
import Derived.Test.YtjpfablpkekdgaaDoorWrp
import Derived.Test.YtjpfablpkekdgaaDoorWrq
namespace Go.Proofs.YtjpfablpkekdgaaDoor
set_option linter.unusedVariables false
set_option linter.unusedSimpArgs false
open Go.ChangeShapes Go.WideShapes Go.ChangeAt Go.RowKit Go.Deep Base Px Wr
set_option maxRecDepth 20000
theorem flat_of_chunks : ∀ (L : List Ip) (xs : List Value), xs.length = L.length * 5 → (∀ i p, L[i]? = some p → (xs.drop (i * 5)).take 5 = ipL p) → xs = L.flatMap ipL
  | [], xs, hl, _ => List.eq_nil_of_length_eq_zero (by simpa using hl)
  | p :: L, xs, hl, h => by
    have h0 := h 0 p rfl
    rw [Nat.zero_mul, List.drop_zero] at h0
    have ih := flat_of_chunks L (xs.drop 5) (by rw [List.length_drop, hl, List.length_cons, Nat.add_mul]; omega) fun i q hq => by
      have := h (i + 1) q (by simpa using hq)
      rw [List.drop_drop, ← this, Nat.add_mul]
      congr 2
      omega
    rw [List.flatMap_cons, ← ih, ← h0, List.take_append_drop]
theorem c_its : Tryd.prog.cellsOf 65 = 5 := by kernel_rfl
theorem c_ints : Tryd.prog.cellsOf 51 = 1 := by kernel_rfl
section
variable {H : Type} {enc : TypeId × Value → H} {W : World} {b0 : Nat} {r : Reach} {v : Value} {d : DataW H} {p : List MemPlace}
theorem open_it {l : List Value} (hl : l.length = 5) {f : Nat} {y : DataW H × List MemPlace} (h : DataW.trod enc Tryd.prog W 0 (fun _ => true) true f 65 l = some y) : ∃ p : Ip, l = ipL p ∧ ∀ h, Good W h p := by
  obtain ⟨ys, m, _, _, _, hyl, hat⟩ := DataW.trod_struct Tryd.underlying65 h
  have hyl2 : ys.length = 5 := hyl
  match l, hl with
  | [c0, c1, c2, c3, c4], _ =>
    have t0 := hat 0 ⟨_, _, _, _, _, _, _⟩ rfl
    have t1 := hat 1 ⟨_, _, _, _, _, _, _⟩ rfl
    have t2 := hat 2 ⟨_, _, _, _, _, _, _⟩ rfl
    have t3 := hat 3 ⟨_, _, _, _, _, _, _⟩ rfl
    have t4 := hat 4 ⟨_, _, _, _, _, _, _⟩ rfl
    simp only [c_int, c_str, c_ints, c_bool, List.drop_zero, List.drop_succ_cons, List.take_succ_cons, List.take_zero] at t0 t1 t2 t3 t4
    rw [List.getElem?_eq_getElem (by omega)] at t0 t1 t2 t3 t4
    obtain ⟨a0, rfl, _⟩ := trod_i64 Tryd.underlying3 t0
    obtain ⟨a1, rfl, w1⟩ := trod_i64 Tryd.underlying3 t1
    obtain ⟨s, rfl, _⟩ := trod_str Tryd.underlying9 t2
    obtain ⟨g, rfl⟩ := trod_bool Tryd.underlying4 t3
    obtain ⟨A, cap, z, rfl, hz, hr, _⟩ := ints_of_trod Tryd.underlying51 t4
    refine ⟨(⟨a0, a1, s, g, z⟩, A, cap), rfl, fun h => ⟨?_, hz, Rv.par hr h⟩⟩
    have := (i64_bounds w1).2
    exact this
theorem open_items (hv : Value.okWide Tryd.prog W r b0 22 v) (h : DataW.Trod enc Tryd.prog W 0 (fun _ => true) true 22 v d p) :
    ∃ (A : Option Addr) (c : Nat) (z : List Ip), v = .slice A z.length c ∧ z.length ≤ c ∧ (∀ h, Rv W h A (z.flatMap ipL)) ∧ ∀ p ∈ z, ∀ h, Good W h p := by
  obtain ⟨A, n, c, xs, rfl, hnc, _, hr, _, hall⟩ := open_rd Tryd.underlying22 (by rw [c_its]; omega) hv h
  rw [c_its] at hr hall
  obtain ⟨z, hz, hzq⟩ := list_of_all (fun i (p : Ip) => (xs.drop (i * 5)).take 5 = ipL p ∧ ∀ h, Good W h p) n fun i hi => by
    obtain ⟨f, y, hy⟩ := hall i hi
    have hl : ((xs.drop (i * 5)).take 5).length = 5 := by rw [List.length_take, List.length_drop, hr.1]; have : (i + 1) * 5 ≤ n * 5 := Nat.mul_le_mul_right _ hi; omega
    exact open_it hl hy
  subst hz
  obtain rfl := flat_of_chunks z xs hr.1 fun i p hp => (hzq i p hp).1
  have hr1 : Rd W W.heap.size 1 A (z.length * 5) (z.flatMap ipL) := ⟨by rw [hr.1, Nat.mul_one], fun h => hr.2 (by omega)⟩
  refine ⟨A, c, z, rfl, hnc, fun h => Rv.par hr1 h, fun p hp => ?_⟩
  obtain ⟨j, hj, rfl⟩ := List.getElem_of_mem hp
  exact (hzq j _ (List.getElem?_eq_getElem hj)).2
end
theorem Items_own {w0 : World} {h : PH} {A : Option Addr} {c : Nat} {L : List Ip} (ho : Own h 5 (.slice A L.length c) L.length (L.flatMap ipL)) (hg : ∀ p ∈ L, Good w0 h p ∧ Fine p.1) : Items w0 h A (L.map (·.1)) := by
  rcases ho.2 with ⟨h1, h2⟩ | ⟨b, c', h1, h2, _, h4⟩
  · obtain rfl : L = [] := List.eq_nil_of_length_eq_zero h2
    exact fun i x hx => by simp at hx
  · injection h1 with h1
    subst h1
    exact Items.lit L h4 fun p hp => by
      obtain ⟨⟨g1, g2, g3⟩, f1, f2, f3, f4⟩ := hg p hp
      exact ⟨g1, by omega, by omega, g2, g3⟩
def encI (L : List It) : List UInt8 := L.flatMap fun x => (bytesI x).getD []
theorem writ_ok : ∀ (L : List It) (s t : List UInt8), L.foldl stepI (s, none) = (t, none) → t = s ++ encI L ∧ ∀ x ∈ L, (bytesI x).isSome = true
  | [], s, t, h => by
    injection h with h
    exact ⟨by rw [encI, List.flatMap_nil, List.append_nil]; exact h.symm, fun x hx => by simp at hx⟩
  | x :: L, s, t, h => by
    rw [List.foldl_cons] at h
    unfold stepI at h
    simp only [Option.isSome_none, Bool.false_eq_true, if_false] at h
    cases hb : bytesI x with
    | none =>
      rw [hb] at h
      have hbad := foldl_bad L (s, some (1, s.length)) rfl
      have h := hbad.symm.trans h
      cases h
    | some y =>
      rw [hb] at h
      simp only [putM, Option.isSome_none, Bool.false_eq_true, if_false] at h
      by_cases hl : 65536 < s.length + y.length
      · rw [if_pos hl] at h
        have hbad := foldl_bad L (s, some (3, s.length)) rfl
        have h := hbad.symm.trans h
        cases h
      · rw [if_neg hl] at h
        obtain ⟨h1, h2⟩ := writ_ok L (s ++ y) t h
        refine ⟨?_, fun z hz => ?_⟩
        · rw [h1, encI, encI, List.flatMap_cons, hb, List.append_assoc]; rfl
        · rcases List.mem_cons.1 hz with rfl | hz
          · rw [hb]; rfl
          · exact h2 z hz
theorem encI_next {L : List It} {i : Nat} {x : It} {y : List UInt8} (hx : L[i]? = some x) (hb : bytesI x = some y) : encI (L.drop i) = y ++ encI (L.drop (i + 1)) := by
  have h := (List.getElem?_eq_some_iff.1 hx)
  obtain ⟨h1, h2⟩ := h
  rw [List.drop_eq_getElem_cons h1, h2, encI, List.flatMap_cons, hb]; rfl
theorem txtS_fit {m : Int} {n : Nat} {y u : List UInt8} (h1 : (y.length : Int) ≤ m) (h2 : y.length ≤ top62) : txtS m n (.ok (textB y ++ u)) = (y, .ok u) := by
  have := txtP_put u h1 h2
  unfold txtS St.step textB
  simp only [this]
theorem numS_fit {m : Int} {n x : Nat} {u : List UInt8} (h1 : (x : Int) ≤ m) (h2 : x ≤ top62) : numS m n (.ok (numB x ++ u)) = (x, .ok u) := numS_ok n (numP_put u h1 h2)
theorem IS_len {h : PH} {ib : Nat} {s t : List UInt8} (hi : IS h ib s (.ok t)) : t.length ≤ s.length := by
  obtain ⟨a, h1, h2, _⟩ := hi
  rw [← h2, List.length_drop]; omega
end Go.Proofs.YtjpfablpkekdgaaDoor
