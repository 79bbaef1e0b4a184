/- Rows of items. No condition. -/
import Derived.Test.YtjpfablpkekdgaaDoorWrd
namespace Go.Proofs.YtjpfablpkekdgaaDoor
set_option linter.unusedVariables false
set_option linter.unusedSimpArgs false
open Go.RowKit Px Wr
theorem info_it : (Tryd.prog.info? 65).map (fun i => (i.zero, i.size, i.bytes)) = some (some (.agg #[.int .i64 0, .int .i64 0, .string ⟨#[]⟩, .bool false, .slice none 0 0]), 5, 64) := by kernel_rfl
theorem el_it : El Tryd.prog 22 65 (.agg #[.int .i64 0, .int .i64 0, .string ⟨#[]⟩, .bool false, .slice none 0 0]) 5 64 := ⟨Tryd.underlying22, info_parts info_it, rfl, by decide⟩
theorem flat_chunk {α : Type} (g : α → List Value) (m : Nat) (hg : ∀ a, (g a).length = m) : ∀ (L : List α) (i : Nat) (a : α), L[i]? = some a → ((L.flatMap g).drop (i * m)).take m = g a ∧ i * m + m ≤ (L.flatMap g).length
  | [], i, a, h => by simp at h
  | x :: L, 0, a, h => by
    simp at h
    subst h
    have := hg x
    simp only [List.flatMap_cons, Nat.zero_mul, List.drop_zero, List.length_append]
    exact ⟨by rw [← this, List.take_left], by omega⟩
  | x :: L, i + 1, a, h => by
    obtain ⟨h1, h2⟩ := flat_chunk g m hg L i a (by simpa using h)
    have := hg x
    simp only [List.flatMap_cons, List.length_append]
    refine ⟨?_, by rw [Nat.add_mul]; omega⟩
    rw [← h1, show (i + 1) * m = (g x).length + i * m by rw [this, Nat.add_mul]; omega, ← List.drop_drop, List.drop_left]
theorem itL_length (p : It × Option Addr × Nat) : (itL p.1 p.2.1 p.2.2).length = 5 := rfl
theorem Items.lit {w0 : World} {h : PH} {lb lim : Nat} (Ls : List (It × Option Addr × Nat)) (hm : h.m lb = some ⟨Ls.flatMap fun p => itL p.1 p.2.1 p.2.2, lim⟩)
    (hb : ∀ p ∈ Ls, p.1.N ≤ 9223372036854775807 ∧ p.1.S.length ≤ 900000 ∧ p.1.V.length ≤ 900000 ∧ p.1.V.length ≤ p.2.2 ∧ Rv w0 h p.2.1 (ints p.1.V)) : Items w0 h (some ⟨lb, 0, none⟩) (Ls.map (·.1)) := fun i x hx => by
  rw [List.getElem?_map] at hx
  obtain ⟨p, hp, rfl⟩ := Option.map_eq_some_iff.1 hx
  obtain ⟨h1, h2, h3, h4, h5⟩ := hb p (List.mem_of_getElem? hp)
  refine ⟨h1, h2, h3, lb, 0, p.2.1, p.2.2, rfl, h4, h5, fun h' hl _ => ?_⟩
  obtain ⟨g1, g2⟩ := flat_chunk (fun p : It × Option Addr × Nat => itL p.1 p.2.1 p.2.2) 5 itL_length Ls i p hp
  unfold rdN
  simp only [hl.m _ _ hm]
  rw [if_pos ⟨trivial, by simpa using g2⟩, Nat.zero_add, g1]
def tI (y : List UInt8) : It := ⟨1, 0, y, false, []⟩
def nI (n : Int) : It := ⟨0, n, [], false, []⟩
def fI (b : Bool) : It := ⟨2, 0, [], b, []⟩
def vI (v : List Int) : It := ⟨3, 0, [], false, v⟩
theorem step_t (s : WS) (y : List UInt8) : stepI s (tI y) = textM s y := by rw [← itemM_eq]; rfl
theorem step_n (s : WS) (n : Int) : stepI s (nI n) = numM s n := by rw [← itemM_eq]; rfl
theorem step_f (s : WS) (b : Bool) : stepI s (fI b) = flagM s b := by rw [← itemM_eq]; rfl
theorem step_v (s : WS) (v : List Int) : stepI s (vI v) = vecM s v := by rw [← itemM_eq]; rfl
end Go.Proofs.YtjpfablpkekdgaaDoor
