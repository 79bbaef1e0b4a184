/- Bytes of claims are no other's beginning; a list of writes. No condition. -/
import Derived.Test.YtjpfablpkekdgaaWrm
namespace Go.Proofs.Ytjpfablpkekdgaa
set_option linter.unusedVariables false
set_option linter.unusedSimpArgs false
open Go.RowKit Px Wr
theorem info_wt : (Try.prog.info? 27).map (fun i => (i.zero, i.size, i.bytes)) = some (some (.agg #[.int .i64 0, .int .i64 0, .int .i64 0, .int .i64 0, .slice none 0 0, .string ⟨#[]⟩, .string ⟨#[]⟩, .string ⟨#[]⟩, .bool false, .int .i64 0]), 10, 120) := by kernel_rfl
theorem el_wt : El Try.prog 29 27 (.agg #[.int .i64 0, .int .i64 0, .int .i64 0, .int .i64 0, .slice none 0 0, .string ⟨#[]⟩, .string ⟨#[]⟩, .string ⟨#[]⟩, .bool false, .int .i64 0]) 10 120 := ⟨Try.underlying29, info_parts info_wt, rfl, by decide⟩
theorem ChC.more {m1 m2 m3 : Int} {n : Nat} {s x1 x2 : List UInt8} {x3 x4 x5 : Nat} {x6 : List Int} {s1 s2 s3 s4 s5 s6 : St} (c : ChC m1 m2 m3 n s x1 x2 x3 x4 x5 x6 s1 s2 s3 s4 s5 s6) (h1 : 64 ≤ m1) (h2 : 32 ≤ m2) (h3 : 1099511627776 ≤ m3) {d : Cl} (hr : rightC d = true) {r : List UInt8} (hs : s = bytesC d ++ r) : s6 = .ok r := by
  obtain ⟨r1, r2, r3, r4, ⟨r5, r6⟩, ⟨r7, r8⟩, ⟨r9, r10⟩, r11⟩ := rightC_iff.1 hr
  have e1 := c.e1
  rw [hs] at e1
  unfold bytesC at e1
  simp only [List.append_assoc] at e1
  rw [txtS_fwd (by omega) (by omega)] at e1
  injection e1 with a1 b1
  have e2 := c.e2
  rw [b1, txtS_fwd (by omega) (by omega)] at e2
  injection e2 with a2 b2
  have e3 := c.e3
  rw [b2, numS_fwd r5 (by omega) (by omega)] at e3
  injection e3 with a3 b3
  have e4 := c.e4
  rw [b3, numS_fwd r7 (by omega) (by omega)] at e4
  injection e4 with a4 b4
  have e5 := c.e5
  rw [b4, numS_fwd r9 (by omega) (by omega)] at e5
  injection e5 with a5 b5
  have e6 := c.e6
  rw [b5, vecS_fwd r11] at e6
  injection e6 with a6 b6
theorem IsC_more {c d : Cl} {r : List UInt8} (hd : rightC d = true) (hc : IsC (bytesC d ++ r) c) : r = [] := by
  obtain ⟨x1, x2, x3, x4, x5, x6, s1, s2, s3, s4, s5, s6, k⟩ : ∃ x1 x2 x3 x4 x5 x6 s1 s2 s3 s4 s5 s6, ChC 64 32 1099511627776 0 (bytesC d ++ r) x1 x2 x3 x4 x5 x6 s1 s2 s3 s4 s5 s6 := ⟨_, _, _, _, _, _, _, _, _, _, _, _, rfl, rfl, rfl, rfl, rfl, rfl⟩
  have h1 := k.more (by omega) (by omega) (by omega) hd rfl
  have h2 := (k.fwd (by omega) (by omega) (by omega) hc).2
  rw [h1] at h2
  injection h2
theorem IsC_cut {c d : Cl} {i : Nat} (hc : rightC c = true) (hi : i < (bytesC c).length) (hd : IsC ((bytesC c).take i) d) : False := by
  have h1 : bytesC c = bytesC d ++ (bytesC c).drop i := by
    have := hd.2
    rw [← this, List.take_append_drop]
  have h2 := IsC_more (c := c) (r := (bytesC c).drop i) hd.1 ⟨hc, h1.symm⟩
  have h3 := congrArg List.length h2
  simp at h3
  omega
theorem bytesC_pos {c : Cl} (h : rightC c = true) : 0 < (bytesC c).length := by
  have := (rightC_iff.1 h).1
  unfold bytesC textB
  simp only [List.length_append]
  omega
end Go.Proofs.Ytjpfablpkekdgaa
