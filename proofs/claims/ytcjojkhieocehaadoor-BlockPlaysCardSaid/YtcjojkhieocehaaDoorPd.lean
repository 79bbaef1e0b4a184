/- The logic's rule for struct literals. No condition. -/
import Derived.Test.YtcjojkhieocehaaDoorPc
import Derived.Laws.Pointers
namespace Go.Proofs.YtcjojkhieocehaaDoor.Px
set_option linter.unusedVariables false
set_option linter.unusedSimpArgs false
open Go.RowKit
/-- A struct type's fields: where each lies, and how many cells it has. -/
def placesB (P : Program) (t : TypeId) : Option (List (Nat × Nat)) := match P.underlying t with
  | some (.struct fs) => fs.toList.mapM fun f => (szOf P f.type).map fun s => (f.offset, s)
  | _ => none
def nthP : List (Nat × Nat) → Nat → Option (Nat × Nat)
  | [], _ => none
  | p :: _, 0 => some p
  | _ :: l, n + 1 => nthP l n
theorem nthP_zero (p : Nat × Nat) (l : List (Nat × Nat)) : nthP (p :: l) 0 = some p := rfl
theorem nthP_succ (p : Nat × Nat) (l : List (Nat × Nat)) (n : Nat) : nthP (p :: l) (n + 1) = nthP l n := rfl
theorem nthP_eq : ∀ (l : List (Nat × Nat)) (i : Nat), nthP l i = l[i]?
  | [], i => by simp [nthP]
  | p :: l, 0 => by simp [nthP]
  | p :: l, i + 1 => by have := nthP_eq l i; simp [nthP] at this ⊢; exact this
/-- Cells laid over others from a place on. -/
def layL (cs : List Value) (o : Nat) (vs : List Value) : List Value := cs.take o ++ vs ++ cs.drop (o + vs.length)
def overL : List Value → List Value → List Value
  | cs, [] => cs
  | [], _ :: _ => []
  | _ :: cs, v :: vs => v :: overL cs vs
theorem overL_nil (cs : List Value) : overL cs [] = cs := by cases cs <;> rfl
theorem overL_cons (c v : Value) (cs vs : List Value) : overL (c :: cs) (v :: vs) = v :: overL cs vs := rfl
def layR : List Value → Nat → List Value → List Value
  | cs, 0, vs => overL cs vs
  | [], _ + 1, _ => []
  | c :: cs, o + 1, vs => c :: layR cs o vs
theorem layR_zero (cs vs : List Value) : layR cs 0 vs = overL cs vs := by cases cs <;> rfl
theorem layR_succ (c : Value) (cs : List Value) (o : Nat) (vs : List Value) : layR (c :: cs) (o + 1) vs = c :: layR cs o vs := rfl
theorem overL_eq : ∀ (cs vs : List Value), vs.length ≤ cs.length → overL cs vs = vs ++ cs.drop vs.length
  | cs, [], _ => by rw [overL_nil]; rfl
  | [], v :: vs, h => by simp at h
  | c :: cs, v :: vs, h => by rw [overL_cons, overL_eq cs vs (by simpa using h)]; rfl
theorem layR_eq : ∀ (cs : List Value) (o : Nat) (vs : List Value), o + vs.length ≤ cs.length → layR cs o vs = layL cs o vs
  | cs, 0, vs, h => by rw [layR_zero, overL_eq cs vs (by omega)]; simp [layL]
  | [], o + 1, vs, h => by simp at h
  | c :: cs, o + 1, vs, h => by
    rw [layR_succ, layR_eq cs o vs (by simp at h; omega)]
    unfold layL
    rw [show o + 1 + vs.length = (o + vs.length) + 1 by omega]
    simp
def cellsL (v : Value) : List Value := v.cells.toList
theorem cellsL_one {v : Value} (h : One v) : cellsL v = [v] := by unfold cellsL; rw [h.1]
theorem cellsL_agg (cs : List Value) : cellsL (.agg cs.toArray) = cs := rfl
def fillL (pl : List (Nat × Nat)) : List Value → List (Nat × Value) → Option (List Value)
  | cs, [] => some cs
  | cs, (i, v) :: l => match nthP pl i with
    | none => none
    | some (o, s) => if (cellsL v).length = s ∧ o + s ≤ cs.length then fillL pl (layR cs o (cellsL v)) l else none
def fillO (pl : List (Nat × Nat)) (cs : List Value) (vs : List Value) (l : List (Nat × Value)) : Option (Nat × Nat) → Option (List Value)
  | none => none
  | some (o, s) => if vs.length = s ∧ o + s ≤ cs.length then fillL pl (layR cs o vs) l else none
theorem fillL_nil (pl : List (Nat × Nat)) (cs : List Value) : fillL pl cs [] = some cs := rfl
theorem fillL_cons (pl : List (Nat × Nat)) (cs : List Value) (i : Nat) (v : Value) (l : List (Nat × Value)) : fillL pl cs ((i, v) :: l) = fillO pl cs (cellsL v) l (nthP pl i) := by
  unfold fillO
  rw [fillL]
theorem fillO_some (pl : List (Nat × Nat)) (cs vs : List Value) (l : List (Nat × Value)) (o s : Nat) : fillO pl cs vs l (some (o, s)) = if vs.length = s then if o + s ≤ cs.length then fillL pl (layR cs o vs) l else none else none := by
  unfold fillO
  by_cases h1 : vs.length = s <;> by_cases h2 : o + s ≤ cs.length <;> simp [h1, h2]
theorem layL_eq (cs : List Value) (o : Nat) (vs : List Value) : layL cs o vs = cs.take o ++ vs ++ cs.drop (o + vs.length) := rfl
theorem lay_fold : ∀ (vs : List Value) (k o : Nat) (cs : List Value), o + k + vs.length ≤ cs.length → (vs.zipIdx k).foldl (fun (cs : Array Value) (x : Value × Nat) => cs.setIfInBounds (o + x.2) x.1) cs.toArray = (layL cs (o + k) vs).toArray
  | [], k, o, cs, h => by simp [layL]
  | v :: vs, k, o, cs, h => by
    simp only [List.zipIdx_cons, List.foldl_cons, List.length_cons] at h ⊢
    have e : cs.toArray.setIfInBounds (o + k) v = (cs.set (o + k) v).toArray := by simp
    rw [e, lay_fold vs (k + 1) o (cs.set (o + k) v) (by rw [List.length_set]; omega)]
    congr 1
    unfold layL
    rw [show o + (k + 1) = o + k + 1 by omega, List.take_succ_eq_append_getElem (by rw [List.length_set]; omega), List.take_set_of_le (Nat.le_refl _), List.getElem_set_self, List.drop_set_of_lt (by omega)]
    simp [Nat.add_assoc, Nat.add_comm 1]
theorem fill_L (pl : List (Nat × Nat)) : ∀ (parts : List (Nat × Value)) (cs : List Value), Instr.fill (fun i => pl[i]?) cs.toArray parts = (fillL pl cs parts).map List.toArray
  | [], cs => by simp [Instr.fill, fillL]
  | (i, v) :: l, cs => by
    rw [fillL_cons, nthP_eq]
    unfold Instr.fill
    cases hp : pl[i]? with
    | none => simp [fillO, hp]
    | some p =>
      obtain ⟨o, s⟩ := p
      simp only [hp, fillO]
      have hsz : v.cells.size = (cellsL v).length := rfl
      by_cases h : (cellsL v).length = s ∧ o + s ≤ cs.length
      · rw [if_pos h, if_neg (by rw [hsz]; simp; omega), layR_eq cs o _ (by omega)]
        have hf : v.cells.zipIdx.foldl (fun (cs : Array Value) (x : Value × Nat) => cs.setIfInBounds (o + x.2) x.1) cs.toArray = (layL cs o (cellsL v)).toArray := by
          have := lay_fold (cellsL v) 0 o cs (by omega)
          rw [Nat.add_zero] at this
          rw [← this, ← Array.foldl_toList]
          simp [cellsL]
        rw [hf]
        exact fill_L pl l _
      · rw [if_neg h, if_pos (by rw [hsz]; simp; omega)]
        rfl
section
variable {P : Program} {t : TypeId} {K : Value → Prop}
theorem mapM_places (w : World) : ∀ (fs : List Field) (pl : List (Nat × Nat)), (fs.mapM fun f => (szOf P f.type).map fun s => (f.offset, s)) = some pl → (fs.mapM fun f => Prod.mk f.offset <$> sizeOf f.type : Sem (List (Nat × Nat))).run P w = .ok pl w
  | [], pl, h => by
    simp at h; subst h; simp
  | f :: fs, pl, h => by
    rw [List.mapM_cons] at h
    obtain ⟨p, hp, h2⟩ := Option.bind_eq_some_iff.1 h
    obtain ⟨q, hq, h3⟩ := Option.bind_eq_some_iff.1 h2
    obtain ⟨s, hs, rfl⟩ := Option.map_eq_some_iff.1 hp
    injection h3 with h3
    subst h3
    have ih := mapM_places w fs q hq
    simp [List.mapM_cons, run_sizeOf hs, ih]
theorem y_buildS {pl : List (Nat × Nat)} {zs : List Value} (hp : placesB P t = some pl) (hz : zcells P t = some zs) (parts : List (Nat × Value)) : Yld P (Instr.build t parts.toArray) K = ogetL (fillL pl zs parts) fun cs => K (.agg cs.toArray) := by
  unfold placesB at hp
  split at hp
  · rename_i fs hu
    obtain ⟨i, hi, h2⟩ := Option.bind_eq_some_iff.1 hz
    obtain ⟨z, hz1, h3⟩ := Option.map_eq_some_iff.1 h2
    have hzz : z.cells = zs.toArray := by rw [← h3]
    have hm : ∀ w, (fs.mapM fun f => Prod.mk f.offset <$> sizeOf f.type : Sem (Array (Nat × Nat))).run P w = .ok pl.toArray w := fun w => by
      have := mapM_places (P := P) w fs.toList pl hp
      rw [Array.mapM_eq_mapM_toList]
      simp [this]
    have hfl := fill_L pl parts zs
    have hplace : (fun i : Nat => pl.toArray[i]?) = fun i : Nat => pl[i]? := by funext i; simp
    cases hf : fillL pl zs parts with
    | none =>
      rw [hf] at hfl
      refine propext ⟨fun h => ?_, fun h => h.elim⟩
      obtain ⟨v, h1, _⟩ := h
      exfalso
      have h4 := h1 default
      simp [Instr.build, zeroValue, typeInfo, hi, hz1, run_underlying hu, hm, hzz, hfl] at h4
    | some cs =>
      rw [ogetL_some]
      rw [hf] at hfl
      refine Yld_eq fun w => ?_
      simp [Instr.build, zeroValue, typeInfo, hi, hz1, run_underlying hu, hm, hzz, hfl]
  · cases hp
theorem box_L (cs : List Value) : (Value.agg cs.toArray).cells.toList = cs := rfl
theorem box_S (cs : List Value) : (Value.agg cs.toArray).cells.size = cs.length := rfl
variable {e : TypeId} {x y : Operand}
def ptrB (P : Program) (t : TypeId) : Bool := match P.underlying t with
  | some (.pointer _) => true
  | _ => false
theorem ptr_parts (h : ptrB P t = true) : P.underlying t = some (.pointer (P.pointee t)) := by
  unfold ptrB at h
  split at h
  · rename_i e he
    rw [he]; simp [Program.pointee, he]
  · cases h
theorem y_eqlPN (a : Option Addr) (v : Value) (hu : ptrB P t = true) : Yld P (binS .eql t x (.const v) (.pointer a) (.pointer none)) K = K (.bool a.isNone) := Yld_eq fun w => by
  unfold binS eqGuard
  simp [run_eql_pointer_nil w t a (ptr_parts hu)]
theorem y_neqPN (a : Option Addr) (v : Value) (hu : ptrB P t = true) : Yld P (binS .neq t x (.const v) (.pointer a) (.pointer none)) K = K (.bool (!a.isNone)) := Yld_eq fun w => by
  unfold binS eqGuard
  simp [run_neq_pointer_nil w t a (ptr_parts hu)]
theorem y_nilP (a : Addr) : Yld P (nilS (.pointer (some a))) K = K (.pointer (some a)) := Yld_eq fun w => rfl
end
end Go.Proofs.YtcjojkhieocehaaDoor.Px
