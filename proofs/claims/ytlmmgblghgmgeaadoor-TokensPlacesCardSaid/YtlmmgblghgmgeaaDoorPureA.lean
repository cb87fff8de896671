/- Characters of texts; the law of the lines. -/
import Derived.Test.YtlmmgblghgmgeaaDoorWalkP
import Derived.Laws.RangeString
import Derived.Laws.RangeAny
namespace Go.Proofs.YtlmmgblghgmgeaaDoor
open Go Ev
set_option linter.unusedSimpArgs false

theorem idxFrom_any (p : Nat → Bool) (s : Str) (H : ∀ b ∈ s, b.toNat < 128 ∨ ∀ r : Nat, 128 ≤ r → p r = true) : ∀ (f pos : Nat), s.length - pos ≤ f →
    decide (0 ≤ Lib.idxFuncFrom p true ⟨s.toArray⟩ f pos) = (s.drop pos).any (fun b => p b.toNat)
  | 0, pos, h => by
    rw [List.drop_eq_nil_of_le (by omega)]; rfl
  | f + 1, pos, h => by
    unfold Lib.idxFuncFrom
    have hsz : (⟨s.toArray⟩ : ByteArray).size = s.length := by simp [ByteArray.size]
    by_cases hp : pos < s.length
    · have hp' : pos < (⟨s.toArray⟩ : ByteArray).size := by rw [hsz]; exact hp
      have hget : (⟨s.toArray⟩ : ByteArray)[pos]'hp' = s[pos] := by
        show s.toArray[pos] = s[pos]
        simp
      rw [if_pos hp', List.drop_eq_getElem_cons hp, List.any_cons]
      rcases Nat.lt_or_ge (s[pos].toNat) 128 with hb | hb
      · rw [decode_ascii ⟨s.toArray⟩ pos hp' (by rw [hget]; exact hb), hget]
        cases h1 : p s[pos].toNat
        · simp only [Bool.false_eq_true, if_false, Bool.false_or]
          exact idxFrom_any p s H f (pos + 1) (by omega)
        · simp
      · have hall := (H s[pos] (List.getElem_mem hp)).resolve_left (by omega)
        have hd := (decode_high ⟨s.toArray⟩ pos hp' (by rw [hget]; exact hb)).1
        rw [if_pos (hall _ hd), hall _ hb]
        simp
    · rw [if_neg (by rw [hsz]; exact hp), List.drop_eq_nil_of_le (by omega)]
      simp
theorem idx_any (p : Nat → Bool) (s : Str) (H : ∀ b ∈ s, b.toNat < 128 ∨ ∀ r : Nat, 128 ≤ r → p r = true) : decide (0 ≤ Lib.idxFunc p true ⟨s.toArray⟩) = s.any (fun b => p b.toNat) := by
  have := idxFrom_any p s H s.length 0 (by omega)
  simp only [List.drop_zero] at this
  rw [← this]
  unfold Lib.idxFunc
  rw [show (⟨s.toArray⟩ : ByteArray).size = s.length by simp [ByteArray.size]]
theorem oddS_any (s : Str) : oddS s = s.any (fun b => oddRune b.toNat) :=
  idx_any oddRune s fun b _ => .inr fun r hr => by
    have : (r : Int) > 126 := by omega
    simp [oddRune, this]
theorem odd_shown (b : UInt8) : oddRune b.toNat = !shownC b := by simp [oddRune, shownC]
theorem oddS_shown (s : Str) : oddS s = !s.all shownC := by
  rw [oddS_any, List.not_all_eq_any_not]
  congr 1
  funext b
  exact odd_shown b
theorem lineErr_ref (s : Str) : lineErr s = if decide ((s.length : Int) > 120) then 2 else if !shownP s 120 then 5 else 0 := by
  unfold lineErr shownP
  rw [oddS_shown]
  by_cases h : (s.length : Int) > 120
  · simp [h, firstOf]
  · have h' : (s.length : Int) ≤ 120 := by omega
    cases s.all shownC <;> simp [h, h', firstOf]
theorem linesGo_ref : ∀ (l : List Str) (n : Int), linesGo l n = refLinesGo l n
  | [], _ => rfl
  | s :: l, n => by
    rw [linesGo, refLinesGo, lineErr_ref, linesGo_ref l (n + 1)]
    by_cases h : (s.length : Int) > 120
    · simp [h]
    · cases h2 : shownP s 120 <;> simp [h]
theorem checkLines_ref (l : List Str) : checkLinesP l = refLinesP l := by
  unfold checkLinesP refLinesP
  rw [linesGo_ref]
end Go.Proofs.YtlmmgblghgmgeaaDoor
