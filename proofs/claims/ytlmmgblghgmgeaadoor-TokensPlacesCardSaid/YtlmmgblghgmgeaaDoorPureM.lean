/- The comments of a text lie in it. -/
import Derived.Test.YtlmmgblghgmgeaaDoorWalkR
import Derived.Test.YtlmmgblghgmgeaaDoorPureA
namespace Go.Proofs.YtlmmgblghgmgeaaDoor
open Go Ev Go.RowKit
set_option linter.unusedSimpArgs false

theorem comGo_mono (l : List Str) : ∀ (n i j : Nat) (d : Int) (q : Bool × Nat × Nat), comGo l n i j d = q → i ≤ q.2.1 ∧ (q.2.1 = i → j ≤ q.2.2)
  | 0, i, j, d, q, hq => by subst hq; exact ⟨Nat.le_refl _, fun _ => Nat.le_refl _⟩
  | n + 1, i, j, d, q, hq => by
    rw [comGo] at hq
    by_cases h : i < l.length
    · rw [dif_pos h] at hq
      split at hq
      · obtain ⟨h1, h2⟩ := comGo_mono l n (i + 1) 0 d q hq
        exact ⟨by omega, fun he => by omega⟩
      · split at hq
        · obtain ⟨h1, h2⟩ := comGo_mono l n i (j + 2) (d + 1) q hq
          exact ⟨h1, fun he => by have := h2 he; omega⟩
        · split at hq
          · split at hq
            · subst hq; exact ⟨Nat.le_refl _, fun _ => by simp only; omega⟩
            · obtain ⟨h1, h2⟩ := comGo_mono l n i (j + 2) (d - 1) q hq
              exact ⟨h1, fun he => by have := h2 he; omega⟩
          · obtain ⟨h1, h2⟩ := comGo_mono l n i (j + 1) d q hq
            exact ⟨h1, fun he => by have := h2 he; omega⟩
    · rw [dif_neg h] at hq
      subst hq; exact ⟨Nat.le_refl _, fun _ => Nat.le_refl _⟩
theorem lens_line (l : List Str) (i : Nat) : (lens l).getD i 0 = lineLen l i := lens_getD l i
theorem lens_length (l : List Str) : (lens l).length = l.length := by simp [lens]
theorem nextGo_spans (l : List Str) (n m : Nat) (s : St) (hi : s.i < l.length) (h : s.Ok l m) (hc : ∀ c ∈ s.cs, SpOk (lens l) c) : ∀ c ∈ (nextGo l n s).2.cs, SpOk (lens l) c := by
  obtain ⟨i, j, ts, cs⟩ := s
  have hj := h.j hi
  simp only at hi hj hc
  have hle := lineLen_eq l i hi
  have hg : l.getD i [] = l[i] := by simp [List.getD_eq_getElem?_getD, hi]
  unfold nextGo
  simp only [hg]
  have hdl : (l[i].drop j).length = l[i].length - j := List.length_drop
  generalize hs : l[i].drop j = s at hdl
  cases s with
  | nil => exact hc
  | cons c r =>
    simp only [List.length_cons] at hdl
    simp only
    split
    · exact hc
    split
    · split
      · rename_i h1
        obtain ⟨h2, h3, h4⟩ := comGo_range l n i j 0 _ rfl (fun _ => hj) (by omega)
        obtain ⟨h5, h6⟩ := h4 h1
        obtain ⟨h7, h8⟩ := comGo_mono l n i j 0 _ rfl
        intro c' hc'
        rcases List.mem_append.1 hc' with hc' | hc'
        · exact hc c' hc'
        · rw [List.mem_singleton] at hc'
          subst hc'
          exact ⟨h7, by rw [lens_length]; exact h5, by rw [lens_line]; exact hj, by rw [lens_line]; exact h3 h5, fun he => h8 he.symm⟩
      · exact hc
    split
    · intro c' hc'
      rcases List.mem_append.1 hc' with hc' | hc'
      · exact hc c' hc'
      · rw [List.mem_singleton] at hc'
        subst hc'
        exact ⟨Nat.le_refl _, by rw [lens_length]; exact hi, by rw [lens_line]; exact hj, by rw [lens_line]; simp only; omega, fun _ => by simp only; omega⟩
    split
    · exact hc
    split
    · exact hc
    · exact hc
theorem readLoop_spans (l : List Str) (n m : Nat) : ∀ (k : Nat) (s : St), s.Ok l m → (∀ c ∈ s.cs, SpOk (lens l) c) → (∀ c ∈ (readLoop l n k s).2.cs, SpOk (lens l) c) ∧ (readLoop l n k s).2.Ok l m
  | 0, s, h, hc => ⟨hc, h⟩
  | k + 1, s, h, hc => by
    rw [readLoop]
    by_cases hi : s.i < l.length
    · have h1 := nextGo_spans l n m s hi h hc
      have h2 := (nextGo_ok l m n s hi h).1
      rw [if_pos hi]
      split
      · exact ⟨h1, h2⟩
      · exact readLoop_spans l n m k _ h2 h1
    · rw [if_neg hi]
      exact ⟨hc, h⟩
theorem readAll_spans (l : List Str) : (∀ c ∈ (readAll l).2.cs, SpOk (lens l) c) ∧ (readAll l).2.Ok l (total l) := readLoop_spans l _ _ _ _ (st0_ok l) (by simp [st0])
theorem total_small (l : List Str) (h1 : l.length ≤ 300) (h2 : ∀ s ∈ l, s.length ≤ 120) : total l ≤ 36300 := by
  unfold total left
  rw [List.drop_zero, Nat.sub_zero]
  have : ∀ (l : List Str), (∀ s ∈ l, s.length ≤ 120) → (l.map fun s => s.length + 1).sum ≤ 121 * l.length := fun l => by
    induction l with
    | nil => simp
    | cons x l ih =>
      intro h
      have := ih fun s hs => h s (List.mem_cons_of_mem _ hs)
      have := h x (by simp)
      simp only [List.map_cons, List.sum_cons, List.length_cons]; omega
  have := this l h2
  omega
theorem checkLines_small {l : List Str} (h : (checkLinesP l).2 = 0) : l.length ≤ 300 ∧ ∀ s ∈ l, s.length ≤ 120 ∧ oddS s = false := by
  unfold checkLinesP at h
  split at h
  · simp at h
  · rename_i h1
    refine ⟨by simp at h1; omega, fun s hs => ?_⟩
    have := linesGo_len l 0 h s hs
    refine ⟨lineErr_len this, ?_⟩
    have h3 := lineErr_len this
    cases h4 : oddS s with
    | false => rfl
    | true =>
      exfalso
      unfold lineErr at this
      rw [h4] at this
      have h5 : decide ((s.length : Int) > 120) = false := by simp; omega
      rw [h5] at this
      simp [firstOf] at this
theorem readP_spans (l : List Str) : (∀ c ∈ (readP l).cs, SpOk (lens l) c) ∧ (readP l).cs.length < 2 ^ 40 := by
  obtain ⟨h1, h2⟩ := readAll_spans l
  unfold readP
  cases h0 : (checkLinesP l).2 != 0
  · have h0' : (checkLinesP l).2 = 0 := by simpa using h0
    obtain ⟨h3, h4⟩ := checkLines_small h0'
    have h5 := total_small l h3 fun s hs => (h4 s hs).1
    have h6 := h2.n
    simp only [Bool.false_eq_true, if_false]
    split
    · exact ⟨by simp, by simp⟩
    · split
      · exact ⟨by simp, by simp⟩
      · exact ⟨h1, by simp only; omega⟩
  · exact ⟨by simp, by simp⟩
end Go.Proofs.YtlmmgblghgmgeaaDoor
