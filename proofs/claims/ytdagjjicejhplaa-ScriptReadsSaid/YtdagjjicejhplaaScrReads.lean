/- ScriptReads: for every slice of bytes the events that the program reads are those that the reference reads. No condition. -/
import Derived.Test.YtdagjjicejhplaaScrAwake
import Derived.Test.YtdagjjicejhplaaScrRDec
namespace Go.Proofs.Ytdagjjicejhplaa.ScrReads
set_option linter.unusedVariables false
set_option linter.unusedSimpArgs false
open Go.ChangeShapes Go.WideShapes Go.ChangeAt Go.RowKit Base

set_option maxRecDepth 100000 in
theorem reads_any (A : Option Addr) (n c : Nat) (zs : List Int) (w : World) (hz : ∀ z ∈ zs, 0 ≤ z ∧ z ≤ 255) (hnc : n ≤ c) (hc : c ≤ 140737488351232)
    (hr : Rd w w.heap.size 1 A n (zs.map (Value.int .u8))) :
    Calls Try.prog 4 #[.slice A n c] w fun e w' => e = .returned (.bool true) ∧ Below w.heap.size w w' := by
  have HR := Lib.hid hr
  clear hr
  by_cases hn : 10000 < n
  · go_enter Try.func4, Try.ntmps4
    go_wp2_with (go_at_call 7; refine (Aw.awake_any _).mono ?_; rintro e w1 ⟨rfl, hb⟩)
    go_ret
    exact ⟨rfl, by assumption⟩
  · have hn' : ¬ (10000 : Int) < n := by omega
    go_enter Try.func4, Try.ntmps4
    go_wp2_with (go_at_call 7; refine (Aw.awake_any _).mono ?_; rintro e w1 ⟨rfl, hb1⟩)
    have hr1 := HR.out.next ‹Below _ _ w1›
    refine (decode_any A n c zs w1 hz (by omega) hnc hc hr1).mono ?_
    rintro e w2 ⟨v2, rfl, hown2, hb2⟩
    obtain ⟨A2, c2, rfl, hr2⟩ := own_shape hown2
    have HR1 := Lib.hid hr1
    have HR2 := Lib.hid hr2
    clear hown2 hr1 hr2
    go_wp2_with fail
    refine (rdecode_any A n c zs w2 hz (by omega) hnc hc (HR1.out.next hb2)).mono ?_
    rintro e w3 ⟨v3, rfl, hown3, hb3⟩
    obtain ⟨A3, c3, rfl, hr3⟩ := own_shape hown3
    have HR3 := Lib.hid hr3
    clear hown3 hr3
    go_wp2_with fail
    refine (same_any A2 A3 (evs n) (evs n) c2 c3 _ _ w3 (by unfold evs; omega) (by unfold evs; omega) (HR2.out.next hb3) HR3.out).mono ?_
    rintro e w4 ⟨rfl, hb4⟩
    have HD : Hid (decide (zs.take (evs n * 6) = zs.take (evs n * 6)) = true) := decide_eq_true rfl
    rw [HD.out]
    go_wp2_with fail
    go_ret
    exact ⟨rfl, below_trans (below_trans (below_trans ‹Below _ _ w1› hb2) hb3) hb4⟩

set_option maxRecDepth 100000 in
theorem lifted (os : Os) (started : os.Started) (H : Type) (enc : TypeId × Value → H) :
    ReturnsInHanded {} Try.checked os 4 .any (Rows.scriptReadsSpec.pre6 enc Try.prog Try.f4 Rows.scriptReadsRow.domain false) (Rows.scriptReadsSpec.post enc Try.prog Try.f4 false true false false) := by
  refine returnsInHanded_of_change_sized (C := Try.checked) own started (by kernel_rfl) Try.func4
    (ChangeSpec.witness6 (enc := enc) (C := Try.checked) false ⟨#[], #[.slice none 0 0], []⟩ 8 (by kernel_rfl) (by kernel_rfl) (by kernel_rfl) (by kernel_rfl)) ?_
  intro W base args ds gs before hval0 hW _ hsz0 _
  have hsz : (DataW.weightsEach Try.prog (Try.f4.params.toList ++ Rows.scriptReadsSpec.plain.varTypes Try.prog) (ds ++ gs)).all (· ≤ reachBytes) = true := hsz0
  have hval : ∀ (j : Nat) t v, Try.f4.params[j]? = some t → args[j]? = some v → Value.okWide Try.prog W .any base t v := hval0
  have hW' := hW
  obtain ⟨p, q, hA0, hV, rfl, _, _⟩ := hW
  have hA : DataW.TrodAll enc Try.prog W 0 (fun _ => true) true Try.f4.params.toList args.toList ds p := hA0
  rw [Try.params4] at hA hval hsz
  obtain ⟨v0, d0, rfl, rfl, h0⟩ := trodAll_one hA
  obtain ⟨rfl, _⟩ := trodVars_none hV
  have hC : Try.prog.cellsOf 5 = 1 := by kernel_rfl
  obtain ⟨A, n, c, xs, rfl, hnc, _, hr, hd, hall⟩ := open_rd Try.underlying31 (by rw [hC]; omega) (hval 0 _ v0 rfl rfl) h0
  obtain ⟨zs, rfl, hw⟩ := rd_ints Try.underlying5 hC hr.1 hall
  rw [hC] at hr
  have hc : c ≤ 140737488351232 := by
    rcases hd with rfl | ⟨el, sp, rfl, hlen⟩
    · omega
    · have := sized_slice hsz (j := 0) (t := 31) (e := 5) rfl rfl Try.underlying31
      rw [show Try.prog.bytesOf 5 = 1 from by kernel_rfl] at this
      simp only [reachBytes] at this
      omega
  refine (reads_any A n c zs W (fun z hz => u8_bounds (hw z hz)) hnc hc hr).mono fun en W' ⟨he, hb⟩ => ?_
  subst he
  exact ⟨_, rfl, law_post (tb := 4) laidOut hW' rfl rfl rfl rfl Try.underlying4 (by intro t ht; revert t; exact of_decide_eq_true (by kernel_rfl)) (by kernel_rfl) hb⟩

theorem proved : Rows.ScriptReadsSaid :=
  OpenClaim.holds_of_wide 4 Try.f4 rfl rfl rfl rfl rfl rfl rfl ⟨rfl, rfl, rfl, rfl, rfl⟩ rfl rfl rfl rfl rfl (by kernel_rfl) Try.func4 (by kernel_rfl)
    (of_decide_eq_true (by kernel_rfl)) (by unfold Func.isWrapper; first | (rw [if_pos (by decide +kernel)]; kernel_rfl) | (rw [if_neg (by decide +kernel)]; exact ⟨rfl, rfl⟩))
    (fun os started H enc _ => lifted os started H enc)
#print axioms proved
end Go.Proofs.Ytdagjjicejhplaa.ScrReads
