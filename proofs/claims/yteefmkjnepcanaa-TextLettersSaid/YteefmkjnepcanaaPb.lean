/- What this translation's types are: which are slices, structs, arrays; how many cells a value has. No condition. -/
import Derived.Test.YteefmkjnepcanaaPm
import Derived.Test.YteefmkjnepcanaaRows
namespace Go.Proofs.Yteefmkjnepcanaa.Px
theorem ld7 {w0 : World} {h : PH} (a : Addr) (K : Value → Prop) : vload Try.prog w0 h 7 a K = ogetL (rdN w0 h a 4) fun cs => K (.agg cs.toArray) := vload_agg (by kernel_rfl) (by kernel_rfl)
theorem ld8 {w0 : World} {h : PH} (a : Addr) (K : Value → Prop) : vload Try.prog w0 h 8 a K = ogetL (rdN w0 h a 4) fun cs => K (.agg cs.toArray) := vload_agg (by kernel_rfl) (by kernel_rfl)
theorem ld13 {w0 : World} {h : PH} (a : Addr) (K : Value → Prop) : vload Try.prog w0 h 13 a K = ogetL (rdN w0 h a 2) fun cs => K (.agg cs.toArray) := vload_agg (by kernel_rfl) (by kernel_rfl)
theorem ld14 {w0 : World} {h : PH} (a : Addr) (K : Value → Prop) : vload Try.prog w0 h 14 a K = ogetL (rdN w0 h a 2) fun cs => K (.agg cs.toArray) := vload_agg (by kernel_rfl) (by kernel_rfl)
theorem ld18 {w0 : World} {h : PH} (a : Addr) (K : Value → Prop) : vload Try.prog w0 h 18 a K = ogetL (rdN w0 h a 1) fun cs => K (.agg cs.toArray) := vload_agg (by kernel_rfl) (by kernel_rfl)
theorem ld19 {w0 : World} {h : PH} (a : Addr) (K : Value → Prop) : vload Try.prog w0 h 19 a K = ogetL (rdN w0 h a 1) fun cs => K (.agg cs.toArray) := vload_agg (by kernel_rfl) (by kernel_rfl)
theorem ld42 {w0 : World} {h : PH} (a : Addr) (K : Value → Prop) : vload Try.prog w0 h 42 a K = ogetL (rdN w0 h a 3) fun cs => K (.agg cs.toArray) := vload_agg (by kernel_rfl) (by kernel_rfl)
theorem ld43 {w0 : World} {h : PH} (a : Addr) (K : Value → Prop) : vload Try.prog w0 h 43 a K = ogetL (rdN w0 h a 3) fun cs => K (.agg cs.toArray) := vload_agg (by kernel_rfl) (by kernel_rfl)
theorem ld45 {w0 : World} {h : PH} (a : Addr) (K : Value → Prop) : vload Try.prog w0 h 45 a K = ogetL (rdN w0 h a 4) fun cs => K (.agg cs.toArray) := vload_agg (by kernel_rfl) (by kernel_rfl)
theorem ld46 {w0 : World} {h : PH} (a : Addr) (K : Value → Prop) : vload Try.prog w0 h 46 a K = ogetL (rdN w0 h a 4) fun cs => K (.agg cs.toArray) := vload_agg (by kernel_rfl) (by kernel_rfl)
theorem ld47 {w0 : World} {h : PH} (a : Addr) (K : Value → Prop) : vload Try.prog w0 h 47 a K = ogetL (rdN w0 h a 0) fun cs => K (.agg cs.toArray) := vload_agg (by kernel_rfl) (by kernel_rfl)
theorem ix47 {K : Value → Prop} (b o : Nat) (k : IntKind) (i : Int) (h0 : 0 ≤ i) (h1 : i < (0 : Nat)) : Yld Try.prog (Instr.indexAt 47 (.pointer (some ⟨b, o, none⟩)) (.int k i)) K = K (.pointer (some ⟨b, o + i.toNat * 1, none⟩)) := y_indexA Try.underlying47 (by kernel_rfl) b o k i h0 h1
theorem ld48 {w0 : World} {h : PH} (a : Addr) (K : Value → Prop) : vload Try.prog w0 h 48 a K = ogetL (rdN w0 h a 0) fun cs => K (.agg cs.toArray) := vload_agg (by kernel_rfl) (by kernel_rfl)
theorem ld49 {w0 : World} {h : PH} (a : Addr) (K : Value → Prop) : vload Try.prog w0 h 49 a K = ogetL (rdN w0 h a 0) fun cs => K (.agg cs.toArray) := vload_agg (by kernel_rfl) (by kernel_rfl)
theorem ld57 {w0 : World} {h : PH} (a : Addr) (K : Value → Prop) : vload Try.prog w0 h 57 a K = ogetL (rdN w0 h a 11) fun cs => K (.agg cs.toArray) := vload_agg (by kernel_rfl) (by kernel_rfl)
theorem ld58 {w0 : World} {h : PH} (a : Addr) (K : Value → Prop) : vload Try.prog w0 h 58 a K = ogetL (rdN w0 h a 11) fun cs => K (.agg cs.toArray) := vload_agg (by kernel_rfl) (by kernel_rfl)
theorem sl2 : isSliceB Try.prog 2 = false := by kernel_rfl
theorem ag2 : aggB Try.prog 2 = some false := by kernel_rfl
theorem cc2 : Try.prog.concrete 2 = true := by kernel_rfl
theorem sl3 : isSliceB Try.prog 3 = false := by kernel_rfl
theorem ag3 : aggB Try.prog 3 = some false := by kernel_rfl
theorem cc3 : Try.prog.concrete 3 = true := by kernel_rfl
theorem sl4 : isSliceB Try.prog 4 = false := by kernel_rfl
theorem ag4 : aggB Try.prog 4 = some false := by kernel_rfl
theorem cc4 : Try.prog.concrete 4 = true := by kernel_rfl
theorem sl5 : isSliceB Try.prog 5 = false := by kernel_rfl
theorem ag5 : aggB Try.prog 5 = some false := by kernel_rfl
theorem cc5 : Try.prog.concrete 5 = true := by kernel_rfl
theorem sl9 : isSliceB Try.prog 9 = false := by kernel_rfl
theorem ag9 : aggB Try.prog 9 = some false := by kernel_rfl
theorem cc9 : Try.prog.concrete 9 = true := by kernel_rfl
theorem sl12 : isSliceB Try.prog 12 = false := by kernel_rfl
theorem ag12 : aggB Try.prog 12 = some false := by kernel_rfl
theorem cc12 : Try.prog.concrete 12 = true := by kernel_rfl
theorem sl20 : isSliceB Try.prog 20 = false := by kernel_rfl
theorem ag20 : aggB Try.prog 20 = some false := by kernel_rfl
theorem it20 : (Try.prog.underlying 20 = some (.interface (Try.prog.methodsAt 20))) = True := eq_true (by kernel_rfl)
theorem sl21 : isSliceB Try.prog 21 = false := by kernel_rfl
theorem ag21 : aggB Try.prog 21 = some false := by kernel_rfl
theorem cc21 : Try.prog.concrete 21 = true := by kernel_rfl
theorem sl24 : isSliceB Try.prog 24 = false := by kernel_rfl
theorem ag24 : aggB Try.prog 24 = some false := by kernel_rfl
theorem it24 : (Try.prog.underlying 24 = some (.interface (Try.prog.methodsAt 24))) = True := eq_true (by kernel_rfl)
theorem sl25 : isSliceB Try.prog 25 = false := by kernel_rfl
theorem ag25 : aggB Try.prog 25 = some false := by kernel_rfl
theorem it25 : (Try.prog.underlying 25 = some (.interface (Try.prog.methodsAt 25))) = True := eq_true (by kernel_rfl)
theorem sl30 : isSliceB Try.prog 30 = true := by kernel_rfl
theorem so30 : sl1B Try.prog 30 = true := by kernel_rfl
theorem ag30 : aggB Try.prog 30 = some false := by kernel_rfl
theorem cc30 : Try.prog.concrete 30 = true := by kernel_rfl
theorem sl31 : isSliceB Try.prog 31 = false := by kernel_rfl
theorem ag31 : aggB Try.prog 31 = some false := by kernel_rfl
theorem cc31 : Try.prog.concrete 31 = true := by kernel_rfl
theorem sl32 : isSliceB Try.prog 32 = false := by kernel_rfl
theorem ag32 : aggB Try.prog 32 = some false := by kernel_rfl
theorem cc32 : Try.prog.concrete 32 = true := by kernel_rfl
theorem sl33 : isSliceB Try.prog 33 = true := by kernel_rfl
theorem so33 : sl1B Try.prog 33 = true := by kernel_rfl
theorem ag33 : aggB Try.prog 33 = some false := by kernel_rfl
theorem cc33 : Try.prog.concrete 33 = true := by kernel_rfl
theorem sl36 : isSliceB Try.prog 36 = true := by kernel_rfl
theorem so36 : sl1B Try.prog 36 = true := by kernel_rfl
theorem ag36 : aggB Try.prog 36 = some false := by kernel_rfl
theorem cc36 : Try.prog.concrete 36 = true := by kernel_rfl
theorem sl40 : isSliceB Try.prog 40 = false := by kernel_rfl
theorem ag40 : aggB Try.prog 40 = some false := by kernel_rfl
theorem cc40 : Try.prog.concrete 40 = true := by kernel_rfl
theorem sl41 : isSliceB Try.prog 41 = false := by kernel_rfl
theorem ag41 : aggB Try.prog 41 = some false := by kernel_rfl
theorem cc41 : Try.prog.concrete 41 = true := by kernel_rfl
theorem sl42 : isSliceB Try.prog 42 = false := by kernel_rfl
theorem cc42 : Try.prog.concrete 42 = true := by kernel_rfl
theorem sl43 : isSliceB Try.prog 43 = false := by kernel_rfl
theorem cc43 : Try.prog.concrete 43 = true := by kernel_rfl
theorem sl54 : isSliceB Try.prog 54 = false := by kernel_rfl
theorem ag54 : aggB Try.prog 54 = some false := by kernel_rfl
theorem cc54 : Try.prog.concrete 54 = true := by kernel_rfl
end Go.Proofs.Yteefmkjnepcanaa.Px
