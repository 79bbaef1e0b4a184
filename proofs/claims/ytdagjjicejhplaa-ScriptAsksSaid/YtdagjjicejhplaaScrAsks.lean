/- ScriptAsks: for every event the request that the program reads off it is the one that the reference reads off it. No condition. -/
import Derived.Test.YtdagjjicejhplaaScrAsksL
import Derived.Test.YtdagjjicejhplaaBase
namespace Go.Proofs.Ytdagjjicejhplaa.ScrAsks
open Go.ChangeShapes Go.WideShapes Go.ChangeAt Go.RowKit Go.Deep Base

theorem open_op {H : Type} {enc : TypeId × Value → H} {w : World} {base b0 : Nat} {spare : Nat → Bool} {held : Bool} {r : Reach} {v : Value} {d : DataW H} {p : List MemPlace}
    (hv : Value.okWide Try.prog w r b0 23 v) (h : DataW.Trod enc Try.prog w base spare held 23 v d p) :
    ∃ k a b c d e : Int, v = .agg #[.int .i64 k, .int .i64 a, .int .i64 b, .int .i64 c, .int .i64 d, .int .i64 e] := by
  obtain ⟨l, n, rfl, hl, hat⟩ := open_struct Try.underlying23 (by kernel_rfl) (by kernel_rfl) hv h
  match l, hl with
  | [c0, c1, c2, c3, c4, c5], _ =>
    obtain ⟨_, _, e0, t0⟩ := hat 0 _ rfl
    obtain ⟨_, _, e1, t1⟩ := hat 1 _ rfl
    obtain ⟨_, _, e2, t2⟩ := hat 2 _ rfl
    obtain ⟨_, _, e3, t3⟩ := hat 3 _ rfl
    obtain ⟨_, _, e4, t4⟩ := hat 4 _ rfl
    obtain ⟨_, _, e5, t5⟩ := hat 5 _ rfl
    obtain ⟨n0, h0, _, _⟩ := DataW.trod_int Try.underlying3 t0
    obtain ⟨n1, h1, _, _⟩ := DataW.trod_int Try.underlying3 t1
    obtain ⟨n2, h2, _, _⟩ := DataW.trod_int Try.underlying3 t2
    obtain ⟨n3, h3, _, _⟩ := DataW.trod_int Try.underlying3 t3
    obtain ⟨n4, h4, _, _⟩ := DataW.trod_int Try.underlying3 t4
    obtain ⟨n5, h5, _, _⟩ := DataW.trod_int Try.underlying3 t5
    simp at e0 e1 e2 e3 e4 e5 h0 h1 h2 h3 h4 h5
    subst e0 e1 e2 e3 e4 e5 h0 h1 h2 h3 h4 h5
    exact ⟨n0, n1, n2, n3, n4, n5, rfl⟩

set_option maxRecDepth 100000 in
theorem lifted (os : Os) (started : os.Started) (H : Type) (enc : TypeId × Value → H) :
    ReturnsInHanded {} Try.checked os 3 .any (Rows.scriptAsksSpec.pre6 enc Try.prog Try.f3 Rows.scriptAsksRow.domain false) (Rows.scriptAsksSpec.post enc Try.prog Try.f3 false true false false) := by
  refine returnsInHanded_of_change_sized (C := Try.checked) own started (by kernel_rfl) Try.func3
    (ChangeSpec.witness6 (enc := enc) (C := Try.checked) false ⟨#[], #[.agg #[.int .i64 0, .int .i64 0, .int .i64 0, .int .i64 0, .int .i64 0, .int .i64 0]], []⟩ 8 (by kernel_rfl) (by kernel_rfl) (by kernel_rfl) (by kernel_rfl)) ?_
  intro W base args ds gs before hval0 hW _ _ _
  have hval : ∀ (j : Nat) t v, Try.f3.params[j]? = some t → args[j]? = some v → Value.okWide Try.prog W .any base t v := hval0
  have hW' := hW
  obtain ⟨p, q, hA0, hV, rfl, _, _⟩ := hW
  have hA : DataW.TrodAll enc Try.prog W 0 (fun _ => true) true Try.f3.params.toList args.toList ds p := hA0
  rw [Try.params3] at hA hval
  obtain ⟨v0, d0, rfl, rfl, h0⟩ := trodAll_one hA
  obtain ⟨rfl, _⟩ := trodVars_none hV
  obtain ⟨k, a, b, c, d, e, rfl⟩ := open_op (hval 0 _ v0 rfl rfl) h0
  refine (asks_any k a b c d e W).mono fun en W' ⟨he, hb⟩ => ?_
  subst he
  exact ⟨_, rfl, law_post (tb := 4) laidOut hW' rfl rfl rfl rfl Try.underlying4 (by intro t ht; revert t; exact of_decide_eq_true (by kernel_rfl)) (by kernel_rfl) hb⟩

theorem proved : Rows.ScriptAsksSaid :=
  OpenClaim.holds_of_wide 3 Try.f3 rfl rfl rfl rfl rfl rfl rfl ⟨rfl, rfl, rfl, rfl, rfl⟩ rfl rfl rfl rfl rfl (by kernel_rfl) Try.func3 (by kernel_rfl)
    (of_decide_eq_true (by kernel_rfl)) (by unfold Func.isWrapper; first | (rw [if_pos (by decide +kernel)]; kernel_rfl) | (rw [if_neg (by decide +kernel)]; exact ⟨rfl, rfl⟩))
    (fun os started H enc _ => lifted os started H enc)
#print axioms proved
end Go.Proofs.Ytdagjjicejhplaa.ScrAsks
