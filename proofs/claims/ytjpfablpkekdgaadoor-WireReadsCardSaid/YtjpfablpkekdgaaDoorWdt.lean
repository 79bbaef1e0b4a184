/- The laws' parts: told; which codes a writer's fault has. No condition. -/
import Derived.Test.YtjpfablpkekdgaaDoorWdn
import Derived.Test.YtjpfablpkekdgaaDoorWdi
import Derived.Test.YtjpfablpkekdgaaDoorEr
import Derived.Test.YtjpfablpkekdgaaDoorAt
namespace Go.Proofs.YtjpfablpkekdgaaDoor
set_option linter.unusedVariables false
set_option linter.unusedSimpArgs false
open Go.RowKit Px Wr
theorem wire_ev {h : PH} {be : Nat} {p k : Int} (hb : h.m be = some ⟨[str wireT, .int .i64 p, codeV k], 3⟩) : EV h (.wrap wireT p (.code k)) (errV be) := ⟨be, _, rfl, hb, rfl⟩
set_option maxRecDepth 20000 in
theorem told_zero (p : Int) (w0 : World) (h : PH) : PCalls Tryd.prog w0 14 [.nilIface, .int .i64 0, .int .i64 p] h fun r h' => r = .bool true ∧ h' = h := by
  refine PCalls_body Tryd.func14 (by kernel_rfl) rfl _ Tryd.ntmps14 (by kernel_rfl) (by kernel_rfl) _ Tryd.results14 ?_
  simp -dsimp -implicitDefEqProofs (disch := first | omega | assumption | (simp only [Option.isSome_some, Qt0]; done) | (simp only [UInt64.reduceToNat, UInt32.reduceToNat, UInt8.reduceToNat, List.length_cons, List.length_nil, List.length_append, Int.toNat_natCast] <;> omega)) only [Nat.reduceLT, Nat.reduceLeDiff, Nat.reduceEqDiff, ↓reduceIte, beq_self_eq_true, List.getD_cons_zero, List.getD_cons_succ, Int.reduceLT, Int.reduceLE, Int.reduceToNat, Int.reduceEq, Int.reduceNe, Option.bind_some, List.map_cons, List.map_nil, List.zip_cons_cons, List.zip_nil_left, List.append_nil, List.nil_append, List.cons_append, List.length_cons, List.length_nil, Nat.reduceAdd, UInt8.reduceOfNat, UInt16.reduceOfNat, UInt32.reduceOfNat, UInt64.reduceOfNat, UInt64.reduceToNat, UInt32.reduceToNat, UInt16.reduceToNat, UInt8.reduceToNat, Int.reduceAdd, Int.reduceSub, Int.reduceMul, Nat.reduceMul, ne_eq, eq_self, Option.isNone_some, Option.isNone_none, List.length_set, List.length_replicate, List.getElem?_cons_zero, List.getElem?_cons_succ, Qp0, Qe0]
  exact ⟨_, PH.Le.refl _, by first | rfl | trivial, rfl⟩
set_option maxRecDepth 20000 in
theorem told_wrap (w0 : World) (hg : w0.cell? ⟨0, 0, none⟩ = some (rtV 27)) (be : Nat) (k p : Int) (hk : k ≠ 0) (h : PH) (hb : h.m be = some ⟨[str wireT, .int .i64 p, codeV k], 3⟩) : PCalls Tryd.prog w0 14 [errV be, .int .i64 k, .int .i64 p] h fun r h' => r = .bool true ∧ h' = h := by
  refine PCalls_body Tryd.func14 (by kernel_rfl) rfl _ Tryd.ntmps14 (by kernel_rfl) (by kernel_rfl) _ Tryd.results14 ?_
  have d1 := decide_eq_false hk
  have hP := Lib.hid (As.place_wrap be wireT p (codeV k) w0 hg h hb)
  have hI := is_any k w0 h _ _ (wire_ev hb)
  have hn : ((Er.wrap wireT p (.code k)).num == k) = true := beq_self_eq_true _
  rw [hn] at hI
  unfold codeV at hI
  have hI := Lib.hid hI
  have e1 : decide (wireT = [119, 105, 114, 101]) = true := decide_eq_true rfl
  have e2 := decide_eq_true (show p = p from rfl)
  simp -dsimp -implicitDefEqProofs (disch := first | omega | assumption | (simp only [Option.isSome_some, Qt0]; done) | (simp only [UInt64.reduceToNat, UInt32.reduceToNat, UInt8.reduceToNat, List.length_cons, List.length_nil, List.length_append, Int.toNat_natCast] <;> omega)) only [Nat.reduceLT, Nat.reduceLeDiff, Nat.reduceEqDiff, ↓reduceIte, beq_self_eq_true, List.getD_cons_zero, List.getD_cons_succ, Int.reduceLT, Int.reduceLE, Int.reduceToNat, Int.reduceEq, Int.reduceNe, Option.bind_some, List.map_cons, List.map_nil, List.zip_cons_cons, List.zip_nil_left, List.append_nil, List.nil_append, List.cons_append, List.length_cons, List.length_nil, Nat.reduceAdd, UInt8.reduceOfNat, UInt16.reduceOfNat, UInt32.reduceOfNat, UInt64.reduceOfNat, UInt64.reduceToNat, UInt32.reduceToNat, UInt16.reduceToNat, UInt8.reduceToNat, Int.reduceAdd, Int.reduceSub, Int.reduceMul, Nat.reduceMul, ne_eq, eq_self, Option.isNone_some, Option.isNone_none, List.length_set, List.length_replicate, List.getElem?_cons_zero, List.getElem?_cons_succ, Qp0, Qe0, d1]
  refine hP.out.mono ?_
  rintro v hq ⟨rfl, hz⟩
  obtain rfl := hz.symm
  simp -dsimp -implicitDefEqProofs (disch := first | omega | assumption | (simp only [Option.isSome_some, Qt0]; done) | (simp only [UInt64.reduceToNat, UInt32.reduceToNat, UInt8.reduceToNat, List.length_cons, List.length_nil, List.length_append, Int.toNat_natCast] <;> omega)) only [Nat.reduceLT, Nat.reduceLeDiff, Nat.reduceEqDiff, ↓reduceIte, beq_self_eq_true, List.getD_cons_zero, List.getD_cons_succ, Int.reduceLT, Int.reduceLE, Int.reduceToNat, Int.reduceEq, Int.reduceNe, Option.bind_some, List.map_cons, List.map_nil, List.zip_cons_cons, List.zip_nil_left, List.append_nil, List.nil_append, List.cons_append, List.length_cons, List.length_nil, Nat.reduceAdd, UInt8.reduceOfNat, UInt16.reduceOfNat, UInt32.reduceOfNat, UInt64.reduceOfNat, UInt64.reduceToNat, UInt32.reduceToNat, UInt16.reduceToNat, UInt8.reduceToNat, Int.reduceAdd, Int.reduceSub, Int.reduceMul, Nat.reduceMul, ne_eq, eq_self, Option.isNone_some, Option.isNone_none, List.length_set, List.length_replicate, List.getElem?_cons_zero, List.getElem?_cons_succ, Qp0, Qe0]
  refine hI.out.mono ?_
  rintro v hq ⟨rfl, hz⟩
  obtain rfl := hz.symm
  simp -dsimp -implicitDefEqProofs (disch := first | omega | assumption | (simp only [Option.isSome_some, Qt0]; done) | (simp only [UInt64.reduceToNat, UInt32.reduceToNat, UInt8.reduceToNat, List.length_cons, List.length_nil, List.length_append, Int.toNat_natCast] <;> omega)) only [Nat.reduceLT, Nat.reduceLeDiff, Nat.reduceEqDiff, ↓reduceIte, beq_self_eq_true, List.getD_cons_zero, List.getD_cons_succ, Int.reduceLT, Int.reduceLE, Int.reduceToNat, Int.reduceEq, Int.reduceNe, Option.bind_some, List.map_cons, List.map_nil, List.zip_cons_cons, List.zip_nil_left, List.append_nil, List.nil_append, List.cons_append, List.length_cons, List.length_nil, Nat.reduceAdd, UInt8.reduceOfNat, UInt16.reduceOfNat, UInt32.reduceOfNat, UInt64.reduceOfNat, UInt64.reduceToNat, UInt32.reduceToNat, UInt16.reduceToNat, UInt8.reduceToNat, Int.reduceAdd, Int.reduceSub, Int.reduceMul, Nat.reduceMul, ne_eq, eq_self, Option.isNone_some, Option.isNone_none, List.length_set, List.length_replicate, List.getElem?_cons_zero, List.getElem?_cons_succ, Qp0, Qe0, e1, e2]
  exact ⟨_, PH.Le.refl _, by first | rfl | trivial, rfl⟩
def WOk (s : WS) : Prop := ∀ k p, s.2 = some (k, p) → k ≠ 0
theorem stepI_ok {s : WS} (x : It) (h : WOk s) : WOk (stepI s x) := by
  unfold stepI
  split
  · exact h
  · split
    · intro k p e; injection e with e; injection e with e1 e2; omega
    · unfold putM
      split
      · exact h
      · split
        · intro k p e; injection e with e; injection e with e1 e2; omega
        · intro k p e; cases e
theorem writtenM_ok (L : List It) : WOk (writtenM L) := by
  have : ∀ (L : List It) (s : WS), WOk s → WOk (L.foldl stepI s) := by
    intro L
    induction L with
    | nil => exact fun s h => h
    | cons x L ih => exact fun s h => ih _ (stepI_ok x h)
  exact this L _ fun k p e => by cases e
theorem Items_more {w0 : World} {h h' : PH} {A : Option Addr} {L : List It} (hi : Items w0 h A L) (l : PH.Le h h') : Items w0 h' A L := fun i x hx => by
  obtain ⟨h1, h2, h3, b, o, Ai, cap, h4, h5, h6, h7⟩ := hi i x hx
  exact ⟨h1, h2, h3, b, o, Ai, cap, h4, h5, h6.more l, fun q lq => h7 q (l.trans lq)⟩
/-- What the writer says and what the document says: one text, and one fault that is told. -/
theorem done_told {w : World} (hg : w.cell? ⟨0, 0, none⟩ = some (rtV 27)) {h : PH} {s : WS} {v : Value} (hok : WOk s) (hd : DE h s v) : ∃ (S : List UInt8) (ev : Value) (k p : Int), v = .tuple #[str S, ev] ∧ wres s = .tuple #[str S, .int .i64 k, .int .i64 p] ∧ ∀ h', PH.Le h h' → PCalls Tryd.prog w 14 [ev, .int .i64 k, .int .i64 p] h' fun r q => r = .bool true ∧ q = h' := by
  obtain ⟨S, e⟩ := s
  cases e with
  | none => exact ⟨S, .nilIface, 0, 0, hd, rfl, fun h' _ => told_zero 0 w h'⟩
  | some kp =>
    obtain ⟨k, p⟩ := kp
    obtain ⟨be, rfl, hb⟩ := hd
    exact ⟨[], errV be, k, p, rfl, rfl, fun h' l => told_wrap w hg be k p (hok k p rfl) h' (l.m _ _ hb)⟩
end Go.Proofs.YtjpfablpkekdgaaDoor
