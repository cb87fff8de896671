/- A token's error is the reference's. -/
import Derived.Test.YtlmmgblghgmgeaaGreatDoorPureI
import Derived.Test.YtlmmgblghgmgeaaGreatDoorRefJ
namespace Go.Proofs.YtlmmgblghgmgeaaGreatDoor
open Go Ev
set_option linter.unusedSimpArgs false

theorem checkToken_same (t : Tk) : checkTokenP t = tokenErrP t := by
  unfold checkTokenP tokenErrP
  rw [bare_same]
  generalize textErrP t = e
  by_cases h : e = 0
  · subst h
    cases spansB t.line 0 299 <;> cases spansB t.col 0 (120 - t.text.length) <;> rfl
  · have h1 : (e != 0) = true := by simpa using h
    rw [h1]
    simp only [firstOf, if_neg h, if_true]
end Go.Proofs.YtlmmgblghgmgeaaGreatDoor
