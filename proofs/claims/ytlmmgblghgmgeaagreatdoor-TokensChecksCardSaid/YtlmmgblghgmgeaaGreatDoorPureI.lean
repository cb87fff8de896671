/- The errors of a token are the reference's. -/
import Derived.Test.YtlmmgblghgmgeaaGreatDoorPureH
namespace Go.Proofs.YtlmmgblghgmgeaaGreatDoor
open Go Ev
set_option linter.unusedSimpArgs false

theorem syms_small : ∀ x ∈ allSyms, x.length ≤ 20 := by
  have : allSyms.all (fun x => decide (x.length ≤ 20)) = true := by decide +kernel
  intro x hx
  simpa using List.all_eq_true.1 this x hx
theorem longSym_small (t : Str) : longSym t ≤ 20 := by
  rcases (longSym_spec t).2.1 with h | ⟨x, hx, _, hl⟩
  · omega
  · have := syms_small x hx; omega
theorem numErr_small (g : Str) (hd : ∀ b ∈ g, digitB b.toNat = true) (h0 : 0 < g.length) (h : numErr g = 0) : g.length ≤ 9 := by
  rcases Nat.lt_or_ge 9 g.length with h1 | h1
  · exfalso
    obtain ⟨k, l, he, hk⟩ := number_same g hd h0
    simp only [h] at he hk
    split at he
    · simp [piece] at he
    · split at he
      · simp [piece] at he
      · rename_i h2
        simp only [Bool.or_eq_true, not_or, Bool.not_eq_true'] at h2
        have hs : spansB g.length 1 9 = false := by simp [spansB]; omega
        have : (bReadP g).2 = false := by unfold bReadP; rw [hs]; rfl
        rw [this] at h2
        simp at h2
  · exact h1
/-- A piece is short, but for rules. -/
theorem pieceT_small (c : UInt8) (r : Str) (h : (pieceT c r).err = 0) : ((pieceT c r).kind ≠ 5 ∧ (pieceT c r).len ≤ 60) ∨ (pieceT c r = ⟨5, signOf c r, 0⟩ ∧ isRuleB ((c :: r).take (signOf c r)) = true) := by
  have hdd : ∀ b ∈ digitsOf (c :: r), digitB b.toNat = true := fun b hb => by
    unfold digitsOf at hb
    rw [take_run] at hb
    exact takeWhile_all _ _ b hb
  have hls := longSym_small (c :: r)
  unfold pieceT at h ⊢
  split at h
  · rename_i h1
    rw [if_pos h1]
    exact .inl ⟨by simp, by simp⟩
  · rename_i h1
    rw [if_neg h1]
    split at h
    · rename_i h2
      rw [if_pos h2]
      simp only at h ⊢
      split at h
      · simp at h
      · rename_i h3
        simp only [decide_eq_true_eq] at h3
        refine .inl ⟨?_, by omega⟩
        split <;> simp
    · rename_i h2
      rw [if_neg h2]
      split at h
      · rename_i h3
        rw [if_pos h3]
        simp only at h ⊢
        have h0 : 0 < (digitsOf (c :: r)).length := by
          unfold digitsOf; rw [take_len]; unfold run; rw [List.takeWhile_cons, if_pos h3]; simp
        have := numErr_small _ hdd h0 h
        exact .inl ⟨by simp, by omega⟩
      · rename_i h3
        rw [if_neg h3]
        split at h
        · rename_i h4
          rw [if_pos h4]
          unfold textT at h ⊢
          split at h
          · simp at h
          · rename_i h5
            rw [if_neg h5]
            simp only at h ⊢
            refine .inl ⟨by simp, ?_⟩
            rcases Int.lt_or_le 40 (Lib.indexByte r 34) with h6 | h6
            · exfalso
              have : decide ((40 : Int) < Lib.indexByte r 34) = true := by simpa using h6
              rw [this] at h
              split at h <;> simp [firstOf] at h
            · omega
        · rename_i h4
          rw [if_neg h4]
          split at h
          · rename_i h5
            rw [if_pos h5]
            exact .inr ⟨rfl, h5⟩
          · rename_i h5
            rw [if_neg h5]
            refine .inl ?_
            have e : longest (c :: r) (longest (c :: r) 0 plainL) (othersL.map (·.1)) = longSym (c :: r) := rfl
            unfold symT at h ⊢
            simp only [e] at h ⊢
            split at h
            · rename_i h6
              rw [if_pos h6]
              simp only at h ⊢
              split at h
              · simp at h
              · rename_i h7
                have : longSym (c :: r) = (run (fun b => letterB b.toNat) r : Int) + 1 := by simpa using h7
                exact ⟨by simp, by omega⟩
            · rename_i h6
              rw [if_neg h6]
              exact ⟨by simp, by simp only; omega⟩
theorem pieceT_nw (c : UInt8) (r : Str) (hw : wordB c.toNat = false) : pieceT c r = if ((c.toNat : Int) == 34) then textT r else if (decide (4 ≤ signOf c r) && (((c.toNat : Int) == 45) || ((c.toNat : Int) == 61))) then ⟨5, signOf c r, 0⟩ else symT c r := by
  have hnotw : wordOf (c :: r) = [] := by
    unfold wordOf; rw [take_run, List.takeWhile_cons, hw]; rfl
  have hnd : digitB c.toNat = false := by
    cases hd : digitB c.toNat
    · rfl
    · unfold wordB at hw; rw [hd] at hw; simp at hw
  have hL : hasLetter [] = false := by decide
  have hp1 : hasPre [] [87, 70, 95] = false := rfl
  have hp2 : hasPre [] [83, 70, 95] = false := rfl
  unfold pieceT
  rw [hnotw, hL, hp1, hp2, hnd, rule_eq c r]; rfl
theorem sign_all (n : Nat) (c : UInt8) : signOf c (List.replicate n c) = n + 1 := by
  unfold signOf run
  have h : ∀ l : Str, (∀ b ∈ l, b = c) → l.takeWhile (fun b => (b.toNat : Int) == c.toNat) = l := fun l => by
    induction l with
    | nil => intro _; rfl
    | cons a l ih =>
      intro hl
      have : a = c := hl a (by simp)
      rw [List.takeWhile_cons, if_pos (by simp [this]), ih fun b hb => hl b (by simp [hb])]
  rw [h _ fun b hb => by rcases List.mem_cons.1 hb with rfl | hb; rfl; exact (List.mem_replicate.1 hb).2]
  simp
theorem oneTok_rule (n : Nat) (c : UInt8) (hn : 4 ≤ n) : oneTok (List.replicate n c) = some 5 ↔ (c = 45 ∨ c = 61) := by
  obtain ⟨m, rfl⟩ : ∃ m, n = m + 2 := ⟨n - 2, by omega⟩
  have hrep : List.replicate (m + 2) c = c :: c :: List.replicate m c := rfl
  have hrep1 : c :: List.replicate m c = List.replicate (m + 1) c := rfl
  have hs := sign_all (m + 1) c
  rw [← hrep1] at hs
  rw [hrep]
  unfold oneTok
  simp only
  have hp : ∀ a b : UInt8, hasPre (c :: c :: List.replicate m c) [a, b] = (a == c && b == c) := fun a b => by
    unfold hasPre
    simp only [List.length_cons, List.length_nil, List.take_succ_cons, List.take_zero]
    have h1 : decide (0 + 1 + 1 ≤ (List.replicate m c).length + 1 + 1) = true := by simp
    rw [h1, Bool.true_and]
    show (c == a && (c == b && true)) = _
    rw [Bool.and_true, BEq.comm (a := c) (b := a), BEq.comm (a := c) (b := b)]
  constructor
  · intro h
    split at h
    · simp at h
    · split at h
      · rename_i h5
        simp only [Option.some.injEq] at h
        rcases pieceT_small c (c :: List.replicate m c) h5.1 with h6 | ⟨_, h7⟩
        · exact absurd h h6.1
        · rw [rule_eq] at h7
          simp only [Bool.and_eq_true, Bool.or_eq_true] at h7
          rcases h7.2 with h8 | h8
          · exact .inl (byte_of c 45 (by decide) (by simp at h8; omega))
          · exact .inr (byte_of c 61 (by decide) (by simp at h8; omega))
      · simp at h
  · intro h
    have hl : (c :: List.replicate m c).length = m + 1 := by simp
    rcases h with rfl | rfl
    · rw [hp, hp, hp, pieceT_nw _ _ (by decide), hs]
      have h4 : decide (4 ≤ m + 1 + 1) = true := by simp; omega
      simp only [h4]
      simp
    · rw [hp, hp, hp, pieceT_nw _ _ (by decide), hs]
      have h4 : decide (4 ≤ m + 1 + 1) = true := by simp; omega
      simp only [h4]
      simp
theorem rep_of_same (s : Str) (h : sameP s 0 = s.length) : s = List.replicate s.length (s.getD 0 0) := by
  refine List.eq_replicate_iff.2 ⟨rfl, fun b hb => ?_⟩
  have h1 : s.take (run (fun b => (b.toNat : Int) == (s.getD 0 0).toNat) s) = s.takeWhile (fun b => (b.toNat : Int) == (s.getD 0 0).toNat) := take_run _ _
  unfold sameP at h
  rw [List.drop_zero] at h
  rw [h, List.take_length] at h1
  rw [h1] at hb
  have := takeWhile_all _ _ b hb
  have h9 : (b.toNat : Int) = ((s.getD 0 0).toNat : Int) := beq_iff_eq.1 this
  exact UInt8.toNat_inj.1 (by omega)
theorem same_of_rep (n : Nat) (c : UInt8) (h : 0 < n) : sameP (List.replicate n c) 0 = n := by
  obtain ⟨m, rfl⟩ : ∃ m, n = m + 1 := ⟨n - 1, by omega⟩
  have := sign_all m c
  unfold signOf at this
  unfold sameP
  exact this
theorem lineErr_zero (s : Str) : (lineErr s == 0) = (decide (s.length ≤ 120) && !oddS s) := by
  unfold lineErr
  by_cases h : s.length ≤ 120
  · have h1 : ¬ (s.length : Int) > 120 := by omega
    cases oddS s <;> simp [h, h1, firstOf]
  · have h1 : (s.length : Int) > 120 := by omega
    simp [h, h1, firstOf]
theorem oneTok_small (s : Str) (k : Int) (h : oneTok s = some k) : (k ≠ 5 ∧ s.length ≤ 60) ∨ (k = 5 ∧ 4 ≤ s.length ∧ ∃ c, s = List.replicate s.length c) := by
  cases s with
  | nil => simp [oneTok] at h
  | cons c r =>
    unfold oneTok at h
    simp only at h
    split at h
    · simp at h
    · split at h
      · rename_i h5
        simp only [Option.some.injEq] at h
        rcases pieceT_small c r h5.1 with h6 | ⟨h6, h7⟩
        · left
          refine ⟨h ▸ h6.1, ?_⟩
          simp only [List.length_cons]; omega
        · right
          rw [h6] at h h5
          simp only at h h5
          have hs : signOf c r = r.length + 1 := by omega
          rw [rule_eq] at h7
          simp only [Bool.and_eq_true, decide_eq_true_eq] at h7
          refine ⟨h.symm, by simp only [List.length_cons]; omega, c, ?_⟩
          have := sign_rep c r
          rw [hs, List.take_of_length_le (by simp)] at this
          exact this
      · simp at h
theorem odd_rule (n : Nat) (c : UInt8) (h : c = 45 ∨ c = 61) : oddS (List.replicate n c) = false := by
  rw [oddS_any, List.any_eq_false]
  intro b hb
  have := (List.mem_replicate.1 hb).2
  subst this
  rcases h with rfl | rfl <;> decide
theorem bare_same (t : Tk) : bareP t = textErrP t := by
  unfold bareP textErrP
  rw [isRead_one, oneRead_eq, lineErr_zero]
  cases spansB t.kind 0 5
  · rfl
  · simp only [Bool.not_true, Bool.false_eq_true, if_false, if_true]
    congr 1
    unfold ruleText
    cases hc : (t.kind == 5 && decide ((t.text.length : Int) > 4) && ((sameP t.text 0 : Int) == t.text.length))
    · simp only [Bool.false_eq_true, if_false]
      cases h1 : (oneTok t.text == some t.kind)
      · simp
      · have h1' : oneTok t.text = some t.kind := by simpa using h1
        have hlen : t.text.length ≤ 120 := by
          rcases oneTok_small _ _ h1' with h2 | ⟨h2, h3, c, h4⟩
          · omega
          · rcases Nat.lt_or_ge 4 t.text.length with h5 | h5
            · exfalso
              have h6 : sameP t.text 0 = t.text.length := by
                have := same_of_rep t.text.length c (by omega)
                rw [← h4] at this; exact this
              have h7 : (t.text.length : Int) > 4 := by omega
              rw [h6] at hc
              simp [h2, h7] at hc
            · omega
        simp [hlen]
    · simp only [if_true]
      simp only [Bool.and_eq_true, beq_iff_eq, decide_eq_true_eq] at hc
      obtain ⟨⟨hk, hl⟩, hsame⟩ := hc
      have hrep := rep_of_same t.text (by omega)
      generalize t.text.getD 0 0 = c at hrep
      have hl4 : 4 < t.text.length := by omega
      generalize t.text.length = n at hrep hl4
      rw [hrep, hk]
      have ht : (List.replicate n c).take 4 = List.replicate 4 c := by rw [List.take_replicate]; congr 1; omega
      rw [ht]
      have e1 := oneTok_rule n c (by omega)
      have e2 := oneTok_rule 4 c (by omega)
      by_cases hcc : c = 45 ∨ c = 61
      · rw [e1.2 hcc, e2.2 hcc, odd_rule n c hcc, odd_rule 4 c hcc]; rfl
      · have n1 : ¬ oneTok (List.replicate n c) = some 5 := fun h => hcc (e1.1 h)
        have n2 : ¬ oneTok (List.replicate 4 c) = some 5 := fun h => hcc (e2.1 h)
        rw [show (oneTok (List.replicate n c) == some 5) = false from beq_eq_false_iff_ne.2 n1, show (oneTok (List.replicate 4 c) == some 5) = false from beq_eq_false_iff_ne.2 n2, Bool.and_false, Bool.and_false]
end Go.Proofs.YtlmmgblghgmgeaaGreatDoor
