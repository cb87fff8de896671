/- The program's pieces are the reference's. -/
import Derived.Test.YtlmmgblghgmgeaaGreatDoorPureC
namespace Go.Proofs.YtlmmgblghgmgeaaGreatDoor
open Go Ev
set_option linter.unusedSimpArgs false

theorem trim_same (n : Nat) (c : UInt8) : Lib.trimB (List.replicate n c) c = [] := by
  unfold Lib.trimB Lib.trimLeftB Lib.trimRightB
  have h : ∀ l : Str, (∀ b ∈ l, b = c) → l.dropWhile (· == c) = [] := fun l => by
    induction l with
    | nil => intro _; rfl
    | cons a l ih =>
      intro hl
      have : a = c := hl a (by simp)
      rw [List.dropWhile_cons, if_pos (by simp [this])]
      exact ih fun b hb => hl b (by simp [hb])
  have h1 : ((List.replicate n c).reverse.dropWhile (· == c)) = [] := h _ fun b hb => by simp at hb; exact hb.2
  rw [h1]
  rfl
theorem trim_other (n : Nat) (c d : UInt8) (h : c ≠ d) : Lib.trimB (List.replicate n c) d = List.replicate n c := by
  unfold Lib.trimB Lib.trimLeftB Lib.trimRightB
  have hk : ∀ l : Str, (∀ b ∈ l, b = c) → l.dropWhile (· == d) = l := fun l hl => by
    cases l with
    | nil => rfl
    | cons a l =>
      have : a = c := hl a (by simp)
      rw [List.dropWhile_cons, if_neg (by simp [this, h])]
  have hr : ∀ b ∈ List.replicate n c, b = c := fun b hb => (List.mem_replicate.1 hb).2
  rw [List.reverse_replicate, hk _ hr, List.reverse_replicate, hk _ hr]
theorem sign_rep (c : UInt8) (r : Str) : (c :: r).take (signOf c r) = List.replicate (signOf c r) c := by
  refine List.eq_replicate_iff.2 ⟨?_, fun b hb => ?_⟩
  · rw [List.length_take]
    have := run_le (fun b => (b.toNat : Int) == c.toNat) (c :: r)
    unfold signOf; omega
  · unfold signOf at hb
    rw [take_run] at hb
    have := takeWhile_all _ _ b hb
    have : b.toNat = c.toNat := by simp at this; omega
    exact UInt8.toNat_inj.1 this
theorem sign_pos (c : UInt8) (r : Str) : 0 < signOf c r := by
  unfold signOf run
  rw [List.takeWhile_cons, if_pos (by simp)]; simp
theorem rule_eq (c : UInt8) (r : Str) : isRuleB ((c :: r).take (signOf c r)) = (decide (4 ≤ signOf c r) && (((c.toNat : Int) == 45) || ((c.toNat : Int) == 61))) := by
  have hp := sign_pos c r
  rw [sign_rep]
  generalize signOf c r = n at hp
  have hne : (List.replicate n c == ([] : Str)) = false := by
    cases n with
    | zero => omega
    | succ n => rfl
  unfold isRuleB
  rw [List.length_replicate]
  by_cases h1 : c.toNat = 45
  · have : c = 45 := byte_of c 45 (by decide) h1
    subst this
    rw [trim_same]; rfl
  · have hc1 : c ≠ 45 := fun he => h1 (by rw [he]; rfl)
    have e1 : ((c.toNat : Int) == 45) = false := by simp <;> omega
    rw [trim_other n c 45 hc1, hne, e1]
    by_cases h2 : c.toNat = 61
    · have : c = 61 := byte_of c 61 (by decide) h2
      subst this
      rw [trim_same]; rfl
    · have hc2 : c ≠ 61 := fun he => h2 (by rw [he]; rfl)
      have e2 : ((c.toNat : Int) == 61) = false := by simp <;> omega
      rw [trim_other n c 61 hc2, hne, e2]
theorem idxIn_any (x : Str) : ∀ (l : List Str) (n : Int), 0 ≤ n → decide (0 ≤ idxIn x l n) = l.any (fun y => y == x)
  | [], n, _ => rfl
  | y :: l, n, h => by
    unfold idxIn
    rw [List.any_cons]
    cases h1 : (x == y)
    · have h2 : (y == x) = false := by
        have : x ≠ y := by simpa using h1
        simp; exact fun he => this he.symm
      rw [h2]
      simp only [Bool.false_eq_true, if_false, Bool.false_or]
      exact idxIn_any x l (n + 1) (by omega)
    · have h2 : (y == x) = true := by
        have : x = y := by simpa using h1
        simp [this]
      rw [h2]
      simp [h]
theorem word_ascii {b : UInt8} (h : wordB b.toNat = true) : b.toNat < 128 := by
  simp only [wordB, letterB, digitB, spansB, Bool.or_eq_true, Bool.and_eq_true, decide_eq_true_eq, beq_iff_eq] at h
  omega
theorem hasLetter_any (t : Str) : hasLetter (wordOf t) = (wordOf t).any (fun b => letterB b.toNat) := by
  unfold hasLetter
  have hw : ∀ b ∈ wordOf t, wordB b.toNat = true := fun b hb => by
    unfold wordOf at hb
    rw [take_run] at hb
    exact takeWhile_all _ _ b hb
  have := idx_any (fun x => letterB (x % 256)) (wordOf t) fun b hb => .inl (word_ascii (hw b hb))
  rw [this]
  congr 1
  funext b
  rw [Nat.mod_eq_of_lt b.toNat_lt]
theorem under_sym (r : Str) : longSym (95 :: r) = 1 := by
  obtain ⟨h1, h2, h3⟩ := longSym_spec (95 :: r)
  have hm : ([95] : Str) ∈ allSyms := by decide +kernel
  have hl := h3 _ hm ⟨r, rfl⟩
  rcases h2 with h2 | ⟨x, hx, hp, hlen⟩
  · simp at hl; omega
  · have ho : allSyms.all (fun x => match x with | 95 :: y => y.isEmpty | _ => true) = true := by decide +kernel
    have hxo := List.all_eq_true.1 ho x hx
    have hne := syms_ne x hx
    match x, hxo, hp, hne, hlen with
    | [], _, _, hne, _ => exact absurd rfl hne
    | a :: y, hxo, hp, _, hlen =>
      obtain ⟨rfl, _⟩ := List.cons_prefix_cons.1 hp
      simp at hxo
      rw [hlen, hxo]; rfl
end Go.Proofs.YtlmmgblghgmgeaaGreatDoor
