/- The laws' arguments: claims and writes that come in. No condition. -/
import Derived.Test.YtjpfablpkekdgaaWrl
import Derived.Test.YtjpfablpkekdgaaPq
namespace Go.Proofs.Ytjpfablpkekdgaa
set_option linter.unusedVariables false
set_option linter.unusedSimpArgs false
open Go.ChangeShapes Go.WideShapes Go.ChangeAt Go.RowKit Base Px Wr
set_option maxRecDepth 20000
theorem open_fields {P : Program} {H : Type} {enc : TypeId × Value → H} {w : World} {base b0 : Nat} {spare : Nat → Bool} {held : Bool} {r : Reach} {t : TypeId} {fs : Array Field} {v : Value} {d : DataW H} {p : List MemPlace} (ht : P.underlying t = some (.struct fs))
    (hv : Value.okWide P w r b0 t v) (h : DataW.Trod enc P w base spare held t v d p) :
    ∃ (l : List Value) (n : Nat), v = .agg l.toArray ∧ l.length = P.cellsOf t ∧ ∀ (i : Nat) (f : Field), fs[i]? = some f → ∃ y, DataW.trod enc P w base spare held n f.type ((l.drop f.offset).take (P.cellsOf f.type)) = some y := by
  obtain ⟨⟨l⟩, rfl, hsz⟩ := okWide_struct ht hv
  obtain ⟨fuel, hf⟩ := h
  obtain ⟨xs, n, _, _, hlen, hxl, hat⟩ := DataW.trod_struct ht hf
  refine ⟨l, n, rfl, by simpa using hsz, fun i f hi => ?_⟩
  have hil : i < fs.size := (Array.getElem?_eq_some_iff.1 hi).1
  have h1 := hat i f hi
  rw [List.getElem?_eq_getElem (by omega)] at h1
  exact ⟨_, h1⟩
theorem bytesW_len {c : Wt} (h : rightW c = true) : (bytesW c).length ≤ 1000 := by
  obtain ⟨r1, r2, ⟨r3, r4⟩, r5, ⟨r6, r7⟩, r8, r9, r10, r11, r12, _, ⟨r13, r14⟩⟩ := rightW_iff.1 h
  unfold bytesW
  have h1 := numB_len9 (n := c.r.toNat) (by omega)
  have h2 := numB_len9 (n := c.n.toNat) (by omega)
  have h3 := numB_len9 (n := c.t.toNat) (by omega)
  have h4 := vecB_len r8
  have h5 := textB_len (y := c.s) r10 (by omega)
  have h6 := textB_len (y := c.k) r11 (by omega)
  have h7 := flagB_len c.g
  have h8 := textB_len (y := c.v) r12 (by omega)
  have h9 := numB_len9 (n := c.l.toNat) (by omega)
  simp only [List.length_append]; omega
theorem bytesC_len {c : Cl} (h : rightC c = true) : (bytesC c).length ≤ 1000 := by
  obtain ⟨h1, h2, h3, h4, ⟨h5, h6⟩, ⟨h7, h8⟩, ⟨h9, h10⟩, h11⟩ := rightC_iff.1 h
  unfold bytesC
  have k1 := numB_len9 (n := c.e.toNat) (by omega)
  have k2 := numB_len9 (n := c.i.toNat) (by omega)
  have k3 := numB_len9 (n := c.k.toNat) (by omega)
  have k4 := vecB_len h11
  have k5 := textB_len (y := c.s) h2 (by omega)
  have k6 := textB_len (y := c.u) h4 (by omega)
  simp only [List.length_append]; omega
theorem c_int : Try.prog.cellsOf 3 = 1 := by kernel_rfl
theorem c_str : Try.prog.cellsOf 9 = 1 := by kernel_rfl
theorem c_bool : Try.prog.cellsOf 4 = 1 := by kernel_rfl
theorem c_vec : Try.prog.cellsOf 25 = 1 := by kernel_rfl
theorem c_st : Try.prog.cellsOf 23 = 2 := by kernel_rfl
theorem c_cl : Try.prog.cellsOf 52 = 6 := by kernel_rfl
theorem c_wt : Try.prog.cellsOf 27 = 10 := by kernel_rfl
theorem Rv.par {w : World} {n : Nat} {A : Option Addr} {xs : List Value} (hr : Rd w w.heap.size 1 A n xs) (h : PH) : Rv w h A xs := fun j u e => by
  obtain ⟨b, o, h1, h2, h3⟩ := Rd.rv hr h j u e
  exact ⟨b, o, h1, .inr ⟨h2, h3⟩⟩
section
variable {H : Type} {enc : TypeId × Value → H} {w : World} {b0 : Nat} {r : Reach} {v : Value} {d : DataW H} {p : List MemPlace}
theorem open_cl (hv : Value.okWide Try.prog w r b0 52 v) (h : DataW.Trod enc Try.prog w 0 (fun _ => true) true 52 v d p) :
    ∃ (c : Cl) (A : Option Addr) (cap : Nat), v = .agg (clL c A cap).toArray ∧ c.x.length ≤ cap ∧ ∀ h, Rv w h A (ints c.x) := by
  obtain ⟨l, n, rfl, hl, hat⟩ := open_fields Try.underlying52 hv h
  rw [c_cl] at hl
  match l, hl with
  | [c0, c1, c2, c3, c4, c5], _ =>
    obtain ⟨_, t0⟩ := hat 0 ⟨_, _, _, _, _, _, _⟩ rfl
    obtain ⟨_, t1⟩ := hat 1 ⟨_, _, _, _, _, _, _⟩ rfl
    obtain ⟨_, t2⟩ := hat 2 ⟨_, _, _, _, _, _, _⟩ rfl
    obtain ⟨_, t3⟩ := hat 3 ⟨_, _, _, _, _, _, _⟩ rfl
    obtain ⟨_, t4⟩ := hat 4 ⟨_, _, _, _, _, _, _⟩ rfl
    obtain ⟨_, t5⟩ := hat 5 ⟨_, _, _, _, _, _, _⟩ rfl
    simp only [c_int, c_str, c_vec, List.drop_zero, List.drop_succ_cons, List.take_succ_cons, List.take_zero] at t0 t1 t2 t3 t4 t5
    obtain ⟨s, rfl, _⟩ := trod_str Try.underlying9 t0
    obtain ⟨u, rfl, _⟩ := trod_str Try.underlying9 t1
    obtain ⟨e, rfl, _⟩ := trod_i64 Try.underlying3 t2
    obtain ⟨i, rfl, _⟩ := trod_i64 Try.underlying3 t3
    obtain ⟨k, rfl, _⟩ := trod_i64 Try.underlying3 t4
    obtain ⟨A, cap, z, rfl, hz, hr, _⟩ := ints_of_trod Try.underlying25 t5
    exact ⟨⟨s, u, e, i, k, z⟩, A, cap, rfl, hz, fun h => Rv.par hr h⟩
theorem open_wt (hv : Value.okWide Try.prog w r b0 27 v) (h : DataW.Trod enc Try.prog w 0 (fun _ => true) true 27 v d p) :
    ∃ (c : Wt) (A : Option Addr) (cap : Nat), v = .agg (wtL c A cap).toArray ∧ c.d.length ≤ cap ∧ ∀ h, Rv w h A (ints c.d) := by
  obtain ⟨l, n, rfl, hl, hat⟩ := open_fields Try.underlying27 hv h
  rw [c_wt] at hl
  match l, hl with
  | [c0, c1, c2, c3, c4, c5, c6, c7, c8, c9], _ =>
    obtain ⟨_, t0⟩ := hat 0 ⟨_, _, _, _, _, _, _⟩ rfl
    obtain ⟨_, t1⟩ := hat 1 ⟨_, _, _, _, _, _, _⟩ rfl
    obtain ⟨_, t2⟩ := hat 2 ⟨_, _, _, _, _, _, _⟩ rfl
    obtain ⟨_, t3⟩ := hat 3 ⟨_, _, _, _, _, _, _⟩ rfl
    obtain ⟨_, t4⟩ := hat 4 ⟨_, _, _, _, _, _, _⟩ rfl
    obtain ⟨_, t5⟩ := hat 5 ⟨_, _, _, _, _, _, _⟩ rfl
    obtain ⟨_, t6⟩ := hat 6 ⟨_, _, _, _, _, _, _⟩ rfl
    obtain ⟨_, t7⟩ := hat 7 ⟨_, _, _, _, _, _, _⟩ rfl
    obtain ⟨_, t8⟩ := hat 8 ⟨_, _, _, _, _, _, _⟩ rfl
    simp only [c_int, c_str, c_vec, c_bool, c_st, List.drop_zero, List.drop_succ_cons, List.take_succ_cons, List.take_zero] at t0 t1 t2 t3 t4 t5 t6 t7 t8
    obtain ⟨ys, m, _, _, _, hyl, hst⟩ := DataW.trod_struct Try.underlying23 t2
    have hyl2 : ys.length = 2 := hyl
    have q0 := hst 0 ⟨_, _, _, _, _, _, _⟩ rfl
    have q1 := hst 1 ⟨_, _, _, _, _, _, _⟩ rfl
    simp only [c_int, List.drop_zero, List.drop_succ_cons, List.take_succ_cons, List.take_zero] at q0 q1
    rw [List.getElem?_eq_getElem (by omega)] at q0 q1
    obtain ⟨a0, rfl, _⟩ := trod_i64 Try.underlying3 t0
    obtain ⟨a1, rfl, _⟩ := trod_i64 Try.underlying3 t1
    obtain ⟨a2, rfl, _⟩ := trod_i64 Try.underlying3 q0
    obtain ⟨a3, rfl, _⟩ := trod_i64 Try.underlying3 q1
    obtain ⟨A, cap, z, rfl, hz, hr, _⟩ := ints_of_trod Try.underlying25 t3
    obtain ⟨s, rfl, _⟩ := trod_str Try.underlying9 t4
    obtain ⟨k, rfl, _⟩ := trod_str Try.underlying9 t5
    obtain ⟨v, rfl, _⟩ := trod_str Try.underlying9 t6
    obtain ⟨g, rfl⟩ := trod_bool Try.underlying4 t7
    obtain ⟨l, rfl, _⟩ := trod_i64 Try.underlying3 t8
    exact ⟨⟨a0, a1, a2, a3, z, s, k, v, g, l⟩, A, cap, rfl, hz, fun h => Rv.par hr h⟩
end
end Go.Proofs.Ytjpfablpkekdgaa
