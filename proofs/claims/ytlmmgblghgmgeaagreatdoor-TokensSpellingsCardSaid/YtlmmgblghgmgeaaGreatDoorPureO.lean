/- The program's canonical spelling is the reference's. -/
import Derived.Test.YtlmmgblghgmgeaaGreatDoorPureD
import Derived.Test.YtlmmgblghgmgeaaGreatDoorRefL
namespace Go.Proofs.YtlmmgblghgmgeaaGreatDoor
open Go Ev
set_option linter.unusedSimpArgs false

theorem drop_nil {c : UInt8} : ∀ {l : Str}, l.dropWhile (· == c) = [] → ∀ b ∈ l, b = c
  | [], _, b, hb => by simp at hb
  | a :: l, h, b, hb => by
    rw [List.dropWhile_cons] at h
    split at h
    · rename_i h1
      rcases List.mem_cons.1 hb with rfl | h2
      · simpa using h1
      · exact drop_nil h b h2
    · simp at h
theorem trim_nil {c : UInt8} {l : Str} (h : Lib.trimB l c = []) : ∀ b ∈ l, b = c := by
  unfold Lib.trimB Lib.trimLeftB Lib.trimRightB at h
  intro b hb
  have h1 := drop_nil h
  have h2 : b ∈ l.reverse.takeWhile (· == c) ++ l.reverse.dropWhile (· == c) := by rw [List.takeWhile_append_dropWhile]; simpa using hb
  rcases List.mem_append.1 h2 with h3 | h3
  · have := takeWhile_all _ _ b h3
    simpa using this
  · exact h1 b (by simpa using h3)
theorem rule_same (s : Str) : isRuleB s = (decide ((sameP s 0 : Int) > 3) && ((sameP s 0 : Int) == s.length) && (((s.getD 0 0).toNat : Int) == 45 || ((s.getD 0 0).toNat : Int) == 61)) := by
  cases s with
  | nil => rfl
  | cons c r =>
    have hs : sameP (c :: r) 0 = signOf c r := by simp [sameP, signOf, List.getD]
    have hg : (c :: r).getD 0 0 = c := rfl
    rw [hs, hg]
    by_cases h : signOf c r = (c :: r).length
    · have := rule_eq c r
      rw [h, List.take_length] at this
      rw [this, h]
      have e : decide (((c :: r).length : Int) > 3) = decide (4 ≤ (c :: r).length) := by
        by_cases h4 : 4 ≤ (c :: r).length
        · have : ((c :: r).length : Int) > 3 := by omega
          simp only [this, h4]
        · have : ¬ ((c :: r).length : Int) > 3 := by omega
          simp only [this, h4]
      rw [e]; simp
    · have e : ((signOf c r : Int) == (c :: r).length) = false := by simp at h ⊢; omega
      rw [e, Bool.and_false, Bool.false_and]
      have hall : ∀ x : UInt8, Lib.trimB (c :: r) x = [] → False := fun x hx => by
        have ha := trim_nil hx
        have hc := ha c (by simp)
        refine h ?_
        unfold signOf run
        have hg2 : ∀ l : Str, (∀ b ∈ l, b = x) → l.takeWhile (fun b => (b.toNat : Int) == c.toNat) = l := fun l => by
          induction l with
          | nil => intro _; rfl
          | cons a l ih =>
            intro hl
            rw [List.takeWhile_cons, if_pos (by rw [hl a (by simp), hc]; simp), ih fun b hb => hl b (by simp [hb])]
        rw [hg2 _ ha]
      unfold isRuleB
      have h1 : (Lib.trimB (c :: r) 45 == []) = false := by
        rw [beq_eq_false_iff_ne]; exact fun hx => hall _ hx
      have h2 : (Lib.trimB (c :: r) 61 == []) = false := by
        rw [beq_eq_false_iff_ne]; exact fun hx => hall _ hx
      rw [h1, h2]; simp
theorem rule_take (s : Str) (h : isRuleB s = true) : s.take 4 = Lib.repeatL (s.take 1) 4 := by
  have hr := rule_same s
  rw [h] at hr
  cases s with
  | nil => simp [sameP, run] at hr
  | cons c r =>
    have hs : sameP (c :: r) 0 = signOf c r := by simp [sameP, signOf, List.getD]
    rw [hs] at hr
    simp at hr
    obtain ⟨⟨h1, h2⟩, _⟩ := hr
    have h3 := sign_rep c r
    have h4 : signOf c r = (c :: r).length := by simp; omega
    rw [h4, List.take_length] at h3
    rw [h3]
    have h5 : 4 ≤ (c :: r).length := by omega
    rw [List.take_replicate, List.take_replicate, Nat.min_eq_left h5, Nat.min_eq_left (by omega)]
    rfl
theorem others_odd : (othersL.all fun o => !isRuleB o.1 && !(plainL.any fun y => y == o.1)) = true := by kernel_rfl
theorem idxP_hit {α : Type} (p : α → Bool) : ∀ (l : List α) (n : Nat), (idxP p l n = -1 ∧ ∀ x ∈ l, p x = false) ∨ ∃ k : Nat, ∃ h : k < l.length, idxP p l n = ((n + k : Nat) : Int) ∧ p l[k] = true
  | [], _ => .inl ⟨rfl, by simp⟩
  | x :: l, n => by
    unfold idxP
    cases h : p x
    · rcases idxP_hit p l (n + 1) with ⟨h1, h2⟩ | ⟨k, h3, h1, h2⟩
      · exact .inl ⟨by simpa using h1, fun y hy => by
          rcases List.mem_cons.1 hy with rfl | hy
          · exact h
          · exact h2 y hy⟩
      · refine .inr ⟨k + 1, by simpa using h3, ?_, by simpa using h2⟩
        simp only [Bool.false_eq_true, if_false]
        rw [show ((n : Int) + 1) = ((n + 1 : Nat) : Int) by omega, h1]; omega
    · exact .inr ⟨0, by simp, by simp, by simpa using h⟩
theorem canon_same (s : Str) : canonP s = if (rcanonP s).2 then ((rcanonP s).1, 0) else ([], 10) := by
  unfold canonP rcanonP
  rw [← rule_same, idxIn_any s plainL 0 (by omega)]
  rcases idxP_hit (fun x : Str × Str => x.1 == s) othersL 0 with ⟨h1, _⟩ | ⟨k, hk, h1, h2⟩
  · simp only [Int.natCast_zero] at h1
    rw [h1]
    cases h3 : isRuleB s
    · cases h4 : (plainL.any fun y => y == s) <;> simp
    · simp [rule_take s h3]
  · simp only [Int.natCast_zero] at h1
    rw [h1]
    have h3 : othersL[k].1 = s := by simpa using h2
    have h4 := List.all_eq_true.1 others_odd othersL[k] (List.getElem_mem hk)
    rw [h3] at h4
    simp only [Bool.and_eq_true, Bool.not_eq_true'] at h4
    rw [h4.1, h4.2]
    have h5 : ¬ (k : Int) < 0 := by omega
    simp [h5]
end Go.Proofs.YtlmmgblghgmgeaaGreatDoor
