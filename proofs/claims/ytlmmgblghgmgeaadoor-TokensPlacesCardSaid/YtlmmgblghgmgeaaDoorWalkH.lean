/- What comes next in a text. -/
import Derived.Test.YtlmmgblghgmgeaaDoorWalkG
namespace Go.Proofs.YtlmmgblghgmgeaaDoor
open Go Ev
set_option maxRecDepth 100000
set_option linter.unusedSimpArgs false

structure Pc where
  kind : Int
  len : Int
  err : Int
def textT (s : Str) : Pc :=
  if Lib.indexByte s 34 < 0 then ⟨0, 0, 15⟩
  else ⟨3, Lib.indexByte s 34 + 2, firstOf [if decide (0 ≤ Lib.indexByte (s.take (Lib.indexByte s 34).toNat) 92) then 8 else 0, if decide (40 < Lib.indexByte s 34) then 2 else 0]⟩
def symT (c : UInt8) (s : Str) : Pc :=
  let n := longest (c :: s) (longest (c :: s) 0 plainL) (othersL.map (·.1))
  let k : Int := run (fun b => letterB b.toNat) s
  if ((c.toNat : Int) == 92) && decide (k > 0) then ⟨4, k + 1, if (n != k + 1) then 8 else 0⟩ else ⟨4, n, if (n == 0) then 8 else 0⟩
def pieceT (c : UInt8) (s : Str) : Pc :=
  if hasPre (wordOf (c :: s)) [87, 70, 95] || hasPre (wordOf (c :: s)) [83, 70, 95] then ⟨4, 3, 0⟩
  else if hasLetter (wordOf (c :: s)) then ⟨if decide (0 ≤ idxIn (wordOf (c :: s)) reservedL 0) then 1 else 0, (wordOf (c :: s)).length, if decide ((24 : Int) < (wordOf (c :: s)).length) then 7 else 0⟩
  else if digitB c.toNat then ⟨2, (digitsOf (c :: s)).length, numErr (digitsOf (c :: s))⟩
  else if ((c.toNat : Int) == 34) then textT s
  else if isRuleB ((c :: s).take (signOf c s)) then ⟨5, signOf c s, 0⟩
  else symT c s
theorem pieceOf_eq (c : UInt8) (s : Str) : pieceOf c s = piece (pieceT c s).kind (pieceT c s).len (pieceT c s).err := by
  have h1 : textPiece s = piece (textT s).kind (textT s).len (textT s).err := by unfold textPiece textT; split <;> rfl
  have h2 : symPiece c s = piece (symT c s).kind (symT c s).len (symT c s).err := by unfold symPiece symT; simp only; split <;> rfl
  unfold pieceOf pieceT
  rw [h1, h2]
  split
  · rfl
  split
  · rfl
  split
  · rfl
  split
  · rfl
  split <;> rfl
theorem hasPre_len {s p : Str} (h : hasPre s p = true) : p.length ≤ s.length := by
  simp only [hasPre, Bool.and_eq_true, decide_eq_true_eq] at h
  exact h.1
theorem longest_range (s : Str) : ∀ (l : List Str) (n : Int), 0 ≤ n → n ≤ s.length → 0 ≤ longest s n l ∧ longest s n l ≤ s.length
  | [], n, h1, h2 => ⟨h1, h2⟩
  | x :: l, n, h1, h2 => by
    show 0 ≤ longest s (if hasPre s x then maxI n x.length else n) l ∧ longest s (if hasPre s x then maxI n x.length else n) l ≤ s.length
    cases h : hasPre s x with
    | false => exact longest_range s l n h1 h2
    | true =>
      have := hasPre_len h
      refine longest_range s l _ ?_ ?_ <;> simp only [if_true, maxI] <;> split <;> omega
theorem indexByte_found (s : Str) (b : UInt8) (h : ¬ Lib.indexByte s b < 0) : Lib.indexByte s b < s.length := by
  induction s with
  | nil => simp [Lib.indexByte] at h
  | cons x s ih =>
    simp only [Lib.indexByte, List.length_cons] at h ⊢
    split
    · omega
    · rename_i hx
      rw [if_neg hx] at h
      by_cases h2 : Lib.indexByte s b = -1
      · simp [h2] at h
      · have h3 := (indexByte_lt s b).1
        have h4 := ih (by omega)
        simp [h2]
        omega
theorem take_len (p : UInt8 → Bool) (s : Str) : (s.take (run p s)).length = run p s := by
  rw [List.length_take]; have := run_le p s; omega
theorem pieceT_len (c : UInt8) (s : Str) (h : (pieceT c s).err = 0) : 0 < (pieceT c s).len ∧ (pieceT c s).len ≤ s.length + 1 := by
  have lw : (wordOf (c :: s)).length ≤ s.length + 1 := by
    unfold wordOf; rw [take_len]; exact run_le (fun b => wordB b.toNat) (c :: s)
  have ld : (digitsOf (c :: s)).length ≤ s.length + 1 := by
    unfold digitsOf; rw [take_len]; exact run_le (fun b => digitB b.toNat) (c :: s)
  have ls : signOf c s ≤ s.length + 1 := run_le _ _
  unfold pieceT at h ⊢
  split at h
  · rename_i h1
    rw [if_pos h1]
    rcases Bool.or_eq_true_iff.1 h1 with h2 | h2 <;> have := hasPre_len h2 <;> simp only [List.length_cons, List.length_nil] at this <;> simp only <;> omega
  · rename_i h1
    rw [if_neg h1]
    split at h
    · rename_i h2
      rw [if_pos h2]
      simp only
      have : wordOf (c :: s) ≠ [] := fun he => by rw [he] at h2; exact absurd h2 (by decide)
      have := List.length_pos_iff.2 this
      omega
    · rename_i h2
      rw [if_neg h2]
      split at h
      · rename_i h3
        rw [if_pos h3]
        simp only
        have : 0 < (digitsOf (c :: s)).length := by
          unfold digitsOf; rw [take_len]
          unfold run
          rw [List.takeWhile_cons, if_pos h3]; simp
        omega
      · rename_i h3
        rw [if_neg h3]
        split at h
        · rename_i h4
          rw [if_pos h4]
          unfold textT at h ⊢
          split at h
          · simp at h
          · rename_i h5
            rw [if_neg h5]
            have := indexByte_found s 34 h5
            simp only; omega
        · rename_i h4
          rw [if_neg h4]
          split at h
          · rename_i h5
            rw [if_pos h5]
            have : 0 < signOf c s := by
              unfold signOf run
              rw [List.takeWhile_cons, if_pos (by simp)]; simp
            simp only; omega
          · rename_i h5
            rw [if_neg h5]
            have l0 := longest_range (c :: s) plainL 0 (by omega) (by omega)
            have l1 := longest_range (c :: s) (othersL.map (·.1)) _ l0.1 l0.2
            have lk := run_le (fun b => letterB b.toNat) s
            unfold symT at h ⊢
            simp only at h ⊢
            simp only [List.length_cons] at l1
            split at h
            · rename_i h6
              rw [if_pos h6]
              simp only [Bool.and_eq_true, decide_eq_true_eq] at h6
              simp only; omega
            · rename_i h6
              rw [if_neg h6]
              simp only at h ⊢
              split at h
              · simp at h
              · rename_i h7
                simp only [beq_iff_eq] at h7
                omega
end Go.Proofs.YtlmmgblghgmgeaaDoor
