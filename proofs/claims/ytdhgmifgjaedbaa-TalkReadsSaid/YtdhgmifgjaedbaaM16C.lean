/- Parts TaL, Base2, joined. No condition. -/
import Derived.Test.YtdhgmifgjaedbaaM14C
import Derived.Test.YtdhgmifgjaedbaaM8C
import Derived.Deep.MidRow
import Derived.Laws.ResultCell
/- How long a message's bytes may be; the message that is none. No condition. -/
namespace Go.Proofs.Ytdhgmifgjaedbaa
set_option linter.unusedVariables false
set_option linter.unusedSimpArgs false
open Go.RowKit Px Wr
theorem msZ_R (w0 : World) (h : PH) : MsR w0 h msZ mpZ := ⟨rfl, (fun y hy => by cases hy), Rv.nil _ _ _, Rv.nil _ _ _, Rv.nil _ _ _, Nat.le_refl _, Nat.le_refl _, Nat.le_refl _⟩
theorem msL_len (m : Ms) (p : Mp7) : (msL m p).length = 7 := rfl
theorem msZ_F : Fits msZ := ⟨by show 0 ≤ 100; omega, by show 0 ≤ 1000; omega, by show 0 ≤ 1000; omega, (fun x hx => by cases hx), (fun x hx => by cases hx)⟩
end Go.Proofs.Ytdhgmifgjaedbaa


/- More lemmas on arguments: elements that are arrays. No condition. -/
namespace Go.Proofs.Ytdhgmifgjaedbaa.Base
set_option linter.unusedVariables false
set_option linter.unusedSimpArgs false
open Go.ChangeShapes Go.WideShapes Go.ChangeAt Go.RowKit Go.Deep

theorem Blk.setCells {b : Nat} {t : TypeId} (vs : List Value) : ∀ (o : Nat) {cs : List Value} {w : World}, Blk w b t cs.toArray → o + vs.length ≤ cs.length → Blk (w.setCells b o vs) b t (cs.take o ++ vs ++ cs.drop (o + vs.length)).toArray := by
  induction vs with
  | nil => intro o cs w h _; simpa [World.setCells] using h
  | cons v vs ih =>
    intro o cs w h hl
    have h1 := h.set_ o v
    rw [List.setIfInBounds_toArray] at h1
    have h2 := ih (o + 1) h1 (by simp at hl ⊢; omega)
    have e : (cs.set o v).take (o + 1) ++ vs ++ (cs.set o v).drop (o + 1 + vs.length) = cs.take o ++ (v :: vs) ++ cs.drop (o + (v :: vs).length) := by
      have ho : o < cs.length := by simp at hl; omega
      rw [List.drop_set_of_lt (by omega), List.take_add_one, List.getElem?_set_self (by omega), List.take_set_of_le (by omega)]
      simp [Nat.add_assoc, Nat.add_comm 1]
    rw [e] at h2
    exact h2
theorem Only.setCells {p : Nat} (vs : List Value) : ∀ (o : Nat) {w w' : World}, Only p w w' → Only p w (w'.setCells p o vs) := by
  induction vs with
  | nil => intro o w w' h; simpa [World.setCells] using h
  | cons v vs ih => intro o w w' h; exact ih (o + 1) (h.trans (Only.setCell w' p o v))

end Go.Proofs.Ytdhgmifgjaedbaa.Base

