/- Cookie headers: the one pair with a name: the plain law. No condition. -/
import Derived.Test.YtefkgpcdabmkkaaCk3
namespace Go.Proofs.Ytefkgpcdabmkkaa
set_option linter.unusedVariables false
set_option linter.unusedSimpArgs false
open Go.RowKit Px Tx Ck
/-- The value of the one pair with a name; or the error's number. -/
def findM (s name : List UInt8) : List UInt8 × Int :=
  if 4096 < s.length then ([], 3) else match parse s with
  | .inr _ => ([], 2)
  | .inl l => match l.filter (fun p => decide (p.1 = name)) with
    | [] => ([], 7)
    | [p] => (p.2, 0)
    | _ :: _ :: _ => ([], 8)
theorem filter_next {l : List Pr} {i : Nat} {p : Pr} (name : List UInt8) (h : l[i]? = some p) : (l.take (i + 1)).filter (fun p => decide (p.1 = name)) = (l.take i).filter (fun p => decide (p.1 = name)) ++ (if decide (p.1 = name) = true then [p] else []) := by
  rw [List.take_add_one, h]
  simp only [Option.toList_some, List.filter_append, List.filter_cons, List.filter_nil]
theorem filter_split (l : List Pr) (i : Nat) (q : Pr → Bool) : l.filter q = (l.take i).filter q ++ (l.drop i).filter q := by
  rw [← List.filter_append, List.take_append_drop]
theorem prs_get (l : List Pr) (i : Nat) (p : Pr) (hp : l[i]? = some p) (j : Nat) (hj : j < 2) : (prs l)[i * 2 + j]? = (pr1 p)[j]? := by
  have h := (prs_chunk l i p hp).1
  rw [← h, List.getElem?_take_of_lt hj, List.getElem?_drop]
theorem findM_long {s name : List UInt8} (h : 4096 < s.length) : findM s name = ([], 3) := by unfold findM; rw [if_pos h]
theorem findM_bad {s name : List UInt8} {k : Nat} (h : ¬ 4096 < s.length) (e : parse s = .inr k) : findM s name = ([], 2) := by unfold findM; rw [if_neg h, e]
theorem findM_none {s name : List UInt8} {l : List Pr} (h : ¬ 4096 < s.length) (e : parse s = .inl l) (hf : l.filter (fun p => decide (p.1 = name)) = []) : findM s name = ([], 7) := by unfold findM; rw [if_neg h, e]; simp only [hf]
theorem findM_one {s name : List UInt8} {l : List Pr} {p : Pr} (h : ¬ 4096 < s.length) (e : parse s = .inl l) (hf : l.filter (fun p => decide (p.1 = name)) = [p]) : findM s name = (p.2, 0) := by unfold findM; rw [if_neg h, e]; simp only [hf]
theorem findM_more {s name : List UInt8} {l : List Pr} {p q : Pr} {r : List Pr} (h : ¬ 4096 < s.length) (e : parse s = .inl l) (hf : l.filter (fun p => decide (p.1 = name)) = p :: q :: r) : findM s name = ([], 8) := by unfold findM; rw [if_neg h, e]; simp only [hf]
theorem own_blk {h : PH} {b n c : Nat} {xs : List Value} (o : Own h 2 (.slice (some ⟨b, 0, none⟩) n c) n xs) : h.m b = some ⟨xs, c * 2⟩ := by
  rcases o.2 with ⟨h1, _⟩ | ⟨b', c', h1, _, _, h4⟩
  · cases h1
  · injection h1 with h3 _ h5
    injection h3 with h3
    injection h3 with h3
    subst h3; subst h5
    exact h4
theorem own_some {h : PH} {A : Option Addr} {n c : Nat} {xs : List Value} (o : Own h 2 (.slice A n c) n xs) (hn : 0 < n) : ∃ b, A = some ⟨b, 0, none⟩ := by
  rcases o.2 with ⟨_, h2⟩ | ⟨b', c', h1, _⟩
  · omega
  · injection h1 with h3; exact ⟨b', h3⟩
end Go.Proofs.Ytefkgpcdabmkkaa
