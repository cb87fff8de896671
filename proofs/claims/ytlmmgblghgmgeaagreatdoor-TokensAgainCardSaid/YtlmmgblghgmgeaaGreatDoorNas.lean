/- The texts Laid, merged. -/
import Derived.Test.YtlmmgblghgmgeaaGreatDoorNao
import Derived.Test.YtlmmgblghgmgeaaGreatDoorTie
import Derived.ProofKit
import Derived.WalkKit
import Derived.OpenShut
import Derived.ShutString
import Derived.ChangeOld
import Derived.Below
import Derived.SizedLaws
import Derived.SliceStrings
import Derived.LaidMore
import Derived.Lay
import Derived.Lib.LaidTab
import Derived.Stop.LaidErr
import Derived.SevenTiedAt
import Derived.Stop.Joined
set_option linter.unusedVariables false
set_option linter.unusedSimpArgs false
/- From a row's conditions to what the evaluator asks: the table of blanks, the strings of an argument. -/
namespace Go.Proofs.YtlmmgblghgmgeaaGreatDoor
open Go Ev Go.ChangeShapes Go.WideShapes Go.ChangeAt Go.RowKit
set_option maxRecDepth 100000

theorem ownKnobs : ownKnob Tryz.prog.godebug = none := by kernel_rfl
theorem laidOuts : laidOutB Tryz.prog = true := by kernel_rfl
def laidL : List (String × DataW Unit) := [("unicode/utf8.acceptRanges", Rows.laid_unicode_utf8_acceptRanges), ("unicode.White_Space", Rows.laid_unicode_White_Space), ("strings.asciiSpace", Rows.laid_strings_asciiSpace), ("unicode/utf8.first", Rows.laid_unicode_utf8_first)]
theorem spaces_eq : (Rows.laid_strings_asciiSpace : DataW Unit) = Lib.tabData .u8 Lib.asciiSpaceTab := by kernel_rfl
theorem laid_plain : laidMetH Tryz.prog laidL = laidMet Tryz.prog laidL := by
  funext w
  exact MakeChecks.laidMetH_plain _ _ _ (by kernel_rfl)
theorem gl_of_laid {W : World} (h : laidMetH Tryz.prog laidL W) : Gl Tryz.prog noOwn W := by
  rw [laid_plain] at h
  have h2 : laidMet Tryz.prog (("strings.asciiSpace", Lib.tabData .u8 Lib.asciiSpaceTab) :: [("unicode/utf8.first", Rows.laid_unicode_utf8_first)]) W := by
    rw [← spaces_eq]
    exact h.tail.tail
  have h3 : Lib.TabIs Tryz.prog W "strings.asciiSpace" .u8 Lib.asciiSpaceTab :=
    Lib.tabIs_of_head (g := 1) (t := 178) (e := 5) (n := 256) (by kernel_rfl) (by kernel_rfl) (by kernel_rfl) (by kernel_rfl) (by kernel_rfl) (by kernel_rfl) h2
  intro e he g hg
  simp only [flatTabs, List.mem_singleton] at he
  subst he
  refine ⟨?_, fun off hn => hn.elim⟩
  unfold Lib.TabIs World.var? at h3
  rw [hg] at h3
  simp only [Option.bind_some] at h3
  split at h3
  · rename_i cs el fr hc
    rw [Option.some.inj h3] at hc
    exact ⟨el, fr, hc⟩
  · simp at h3
/-- The strings of a slice, as the evaluator has them. -/
theorem V_strings {w : World} {a : Addr} {len cap : Nat} {ss : List ByteArray} (hl : len ≤ cap) (hn : len ≤ ss.length) (hc : ∀ i, i < ss.length → w.cell? (a.add i) = some (.string (ss.getD i ByteArray.empty))) :
    V noOwn w (.sl 1 (strs ((ss.take len).map fun s => s.data.toList)) .none) (.slice (some a) len cap) := by
  have key : ∀ (i j : Nat) (e : List AV) (x : AV), (strs ((ss.take len).map fun s => s.data.toList))[i]? = some e → e[j]? = some x → j = 0 ∧ i < ss.length ∧ x = .str (ss.getD i ByteArray.empty).data.toList := by
    intro i j e x hi hj
    simp only [strs, List.map_map, List.getElem?_map, Option.map_eq_some_iff, Function.comp] at hi
    obtain ⟨s, hs, rfl⟩ := hi
    have hj0 : j = 0 := by
      cases j with
      | zero => rfl
      | succ j => simp at hj
    subst hj0
    simp only [List.getElem?_cons_zero, Option.some.injEq] at hj
    subst hj
    have h1 : i < (ss.take len).length := (List.getElem?_eq_some_iff.1 hs).1
    rw [List.length_take] at h1
    have h2 : ss[i]? = some s := by
      rw [List.getElem?_take] at hs
      split at hs
      · exact hs
      · simp at hs
    exact ⟨rfl, by omega, by rw [List.getD_eq_getElem?_getD, h2]; rfl⟩
  refine .sl 1 _ .none (some a) len cap (fun i _ => .string (ss.getD i ByteArray.empty)) ?_ hl ?_ ?_ ?_ (fun _ _ _ _ _ _ => rfl) (by simp) (by simp) (by simp)
  · simp [strs]; omega
  · intro e he
    simp only [strs, List.mem_map] at he
    obtain ⟨s, _, rfl⟩ := he
    rfl
  · intro i j e x hi hj
    obtain ⟨rfl, h1, _⟩ := key i j e x hi hj
    exact ⟨a, rfl, by simpa using hc i h1, fun h => h.elim⟩
  · intro i j e x hi hj
    obtain ⟨rfl, h1, rfl⟩ := key i j e x hi hj
    exact .str _
theorem V_noStrings {w : World} : V noOwn w (.sl 1 (strs []) .none) (.slice none 0 0) :=
  .sl 1 _ .none none 0 0 (fun _ _ => .nilFunc) rfl (Nat.le_refl _) (by simp [strs]) (by simp [strs]) (by simp [strs]) (by simp [strs]) (by simp) (by simp) (by simp)
end Go.Proofs.YtlmmgblghgmgeaaGreatDoor
