/- Blanks around a text, cookie octets and tokens: plain facts. No condition. -/
import Derived.Test.YtefkgpcdabmkkaaDoorTxS
namespace Go.Proofs.YtefkgpcdabmkkaaDoor.Tx
set_option linter.unusedVariables false
set_option linter.unusedSimpArgs false
def blankB (c : UInt8) : Bool := decide (c = 32) || decide (c = 9)
def rtrim (l : List UInt8) : List UInt8 := (l.reverse.dropWhile blankB).reverse
def trim (l : List UInt8) : List UInt8 := rtrim (l.dropWhile blankB)
theorem dropWhile_twice (p : UInt8 → Bool) (l : List UInt8) : (l.dropWhile p).dropWhile p = l.dropWhile p := by
  induction l with
  | nil => rfl
  | cons a l ih =>
    by_cases h : p a = true
    · rw [List.dropWhile_cons_of_pos h, ih]
    · rw [List.dropWhile_cons_of_neg h, List.dropWhile_cons_of_neg h]
theorem dropWhile_snoc (p : UInt8 → Bool) (a : UInt8) (h : p a = false) (l : List UInt8) : (l ++ [a]).dropWhile p = l.dropWhile p ++ [a] := by
  induction l with
  | nil => simp [h]
  | cons b l ih =>
    rw [List.cons_append]
    by_cases hb : p b = true
    · rw [List.dropWhile_cons_of_pos hb, List.dropWhile_cons_of_pos hb, ih]
    · rw [List.dropWhile_cons_of_neg hb, List.dropWhile_cons_of_neg hb]; rfl
theorem rtrim_cons (a : UInt8) (l : List UInt8) (h : blankB a = false) : rtrim (a :: l) = a :: rtrim l := by
  unfold rtrim
  rw [List.reverse_cons, dropWhile_snoc blankB a h]
  simp
theorem rtrim_snoc_pos (l : List UInt8) (a : UInt8) (h : blankB a = true) : rtrim (l ++ [a]) = rtrim l := by
  unfold rtrim; simp [h]
theorem rtrim_snoc_neg (l : List UInt8) (a : UInt8) (h : blankB a = false) : rtrim (l ++ [a]) = l ++ [a] := by
  unfold rtrim; simp [h]
theorem trim_twice (l : List UInt8) : trim (trim l) = trim l := by
  have hr : ∀ m, rtrim (rtrim m) = rtrim m := fun m => by unfold rtrim; rw [List.reverse_reverse, dropWhile_twice]
  have hd : (trim l).dropWhile blankB = trim l := by
    unfold trim
    have h0 := dropWhile_twice blankB l
    cases hm : l.dropWhile blankB with
    | nil => rfl
    | cons a m =>
      have ha : blankB a = false := by
        rw [hm] at h0
        by_cases hb : blankB a = true
        · rw [List.dropWhile_cons_of_pos hb] at h0
          have h1 := congrArg List.length h0
          have h2 := (List.dropWhile_suffix (l := m) blankB).length_le
          simp at h1; omega
        · simpa using hb
      rw [rtrim_cons a m ha, List.dropWhile_cons_of_neg (by simp [ha])]
  unfold trim at hd ⊢
  rw [hd, hr]
def refOct (c : UInt8) : Bool := decide (c = 33) || (decide (35 ≤ c) && decide (c ≤ 43)) || (decide (45 ≤ c) && decide (c ≤ 58)) || (decide (60 ≤ c) && decide (c ≤ 91)) || (decide (93 ≤ c) && decide (c ≤ 126))
theorem refOct_eq (c : UInt8) : refOct c = oct c := by
  rw [Bool.eq_iff_iff]
  simp [oct, refOct, UInt8.lt_iff_toNat_lt, UInt8.le_iff_toNat_le, ← UInt8.toNat_inj]
  omega
theorem indexByte_mem (l : List UInt8) (c : UInt8) : decide (0 ≤ Lib.indexByte l c) = l.any (fun b => decide (c = b)) := by
  induction l with
  | nil => rfl
  | cons b l ih =>
    rw [List.any_cons, ← ih]
    rw [show Lib.indexByte (b :: l) c = (if b == c then 0 else if Lib.indexByte l c == -1 then -1 else Lib.indexByte l c + 1) from rfl]
    by_cases h : b = c
    · subst h; simp
    · have hge := Lib.indexByte_ge l c
      have h' : ¬ c = b := fun e => h e.symm
      have hb : (b == c) = false := by simpa using h
      rw [hb, decide_eq_false h', Bool.false_or]
      by_cases h1 : Lib.indexByte l c = -1
      · simp [h1]
      · have h2 : (Lib.indexByte l c == -1) = false := by simpa using h1
        rw [h2]
        simp only [Bool.false_eq_true, if_false]
        by_cases h3 : 0 ≤ Lib.indexByte l c
        · rw [decide_eq_true h3, decide_eq_true (by omega)]
        · omega
end Go.Proofs.YtefkgpcdabmkkaaDoor.Tx
