/- What begins at a place is the same for both. -/
import Derived.Test.YtlmmgblghgmgeaaGreatDoorPureD
namespace Go.Proofs.YtlmmgblghgmgeaaGreatDoor
open Go Ev
set_option linter.unusedSimpArgs false

theorem word_same (s : Str) (j : Nat) (c : UInt8) (r : Str) (h : s.drop j = c :: r) (hw : wordB c.toNat = true) : SameP (pieceT c r) (wordP s j) := by
  have hany := hasLetter_any (c :: r)
  have hwl := run_le (fun b => wordB b.toNat) (c :: r)
  have hdl := run_le (fun b => digitB b.toNat) (c :: r)
  have hpos : 0 < run (fun b => wordB b.toNat) (c :: r) := by
    unfold run; rw [List.takeWhile_cons, if_pos hw]; simp
  have hWm : c ∈ wordOf (c :: r) := by
    unfold wordOf; rw [take_run, List.takeWhile_cons, if_pos hw]; simp
  have hlen : (wordOf (c :: r)).length = run (fun b => wordB b.toNat) (c :: r) := by unfold wordOf; rw [take_len]
  have hdg : (digitsOf (c :: r)).length = run (fun b => digitB b.toNat) (c :: r) := by unfold digitsOf; rw [take_len]
  have hdd : ∀ b ∈ digitsOf (c :: r), digitB b.toNat = true := fun b hb => by
    unfold digitsOf at hb
    rw [take_run] at hb
    exact takeWhile_all _ _ b hb
  have hc34 : ((c.toNat : Int) == 34) = false := by
    cases h34 : ((c.toNat : Int) == 34)
    · rfl
    · have : c.toNat = 34 := by simp at h34; omega
      rw [this] at hw; exact absurd hw (by decide)
  have hc45 : ((c.toNat : Int) == 45) = false := by
    cases h45 : ((c.toNat : Int) == 45)
    · rfl
    · have : c.toNat = 45 := by simp at h45; omega
      rw [this] at hw; exact absurd hw (by decide)
  have hc61 : ((c.toNat : Int) == 61) = false := by
    cases h61 : ((c.toNat : Int) == 61)
    · rfl
    · have : c.toNat = 61 := by simp at h61; omega
      rw [this] at hw; exact absurd hw (by decide)
  have hc92 : ((c.toNat : Int) == 92) = false := by
    cases h92 : ((c.toNat : Int) == 92)
    · rfl
    · have : c.toNat = 92 := by simp at h92; omega
      rw [this] at hw; exact absurd hw (by decide)
  have hrule := rule_eq c r
  rw [hc45, hc61] at hrule
  simp only [Bool.or_false, Bool.and_false] at hrule
  have hsub : ∀ n, sub s j n = (c :: r).take n := fun n => by rw [sub_eq, h]
  unfold wordP
  rw [h, hsub]
  have hW : (c :: r).take (run (fun b => wordB b.toNat) (c :: r)) = wordOf (c :: r) := rfl
  rw [hW]
  unfold wordTail pieceT
  rw [hany, hrule, hc34, hsub, hdg]
  have hD : (c :: r).take (run (fun b => digitB b.toNat) (c :: r)) = digitsOf (c :: r) := rfl
  rw [hD]
  have hres := idxIn_any (wordOf (c :: r)) reservedL 0 (by decide)
  rw [hres]
  have hcnt : (0 < (wordOf (c :: r)).countP fun b => letterB b.toNat) ↔ (wordOf (c :: r)).any (fun b => letterB b.toNat) = true := by
    rw [List.countP_pos_iff, List.any_eq_true]
  have hWF : hasPre (wordOf (c :: r)) [87, 70, 95] = (decide ((2 : Int) < (wordOf (c :: r)).length) && ((wordOf (c :: r)).take 3 == [87, 70, 95])) := by
    unfold hasPre
    have : decide (([87, 70, 95] : Str).length ≤ (wordOf (c :: r)).length) = decide ((2 : Int) < (wordOf (c :: r)).length) := by
      simp only [List.length_cons, List.length_nil, decide_eq_decide]; omega
    rw [this]; rfl
  have hSF : hasPre (wordOf (c :: r)) [83, 70, 95] = (decide ((2 : Int) < (wordOf (c :: r)).length) && ((wordOf (c :: r)).take 3 == [83, 70, 95])) := by
    unfold hasPre
    have : decide (([83, 70, 95] : Str).length ≤ (wordOf (c :: r)).length) = decide ((2 : Int) < (wordOf (c :: r)).length) := by
      simp only [List.length_cons, List.length_nil, decide_eq_decide]; omega
    rw [this]; rfl
  have hpre : ∀ a b d : UInt8, letterB a.toNat = true → hasPre (wordOf (c :: r)) [a, b, d] = true → (wordOf (c :: r)).any (fun b => letterB b.toNat) = true := fun a b d ha hp => by
    obtain ⟨z, hz⟩ := (hasPre_iff _ _).1 hp
    rw [← hz]
    simp [ha]
  cases hl : (wordOf (c :: r)).any (fun b => letterB b.toNat)
  · have hnl : ¬ 0 < (wordOf (c :: r)).countP fun b => letterB b.toNat := fun hc => by rw [hcnt, hl] at hc; simp at hc
    have h1 : hasPre (wordOf (c :: r)) [87, 70, 95] = false := by
      cases hp : hasPre (wordOf (c :: r)) [87, 70, 95]
      · rfl
      · have := hpre _ _ _ (by decide) hp; rw [hl] at this; simp at this
    have h2 : hasPre (wordOf (c :: r)) [83, 70, 95] = false := by
      cases hp : hasPre (wordOf (c :: r)) [83, 70, 95]
      · rfl
      · have := hpre _ _ _ (by decide) hp; rw [hl] at this; simp at this
    have hcl : letterB c.toNat = false := by
      have := List.any_eq_false.1 hl c hWm
      simpa using this
    rw [if_neg hnl, h1, h2]
    simp only [Bool.or_false, Bool.false_eq_true, if_false]
    cases hd : digitB c.toNat
    · have hr0 : run (fun b => digitB b.toNat) (c :: r) = 0 := by
        unfold run; rw [List.takeWhile_cons, hd]; rfl
      rw [if_pos hr0]
      simp only [Bool.false_eq_true, if_false]
      have hc95 : c = 95 := by
        have : c.toNat = 95 := by
          unfold wordB at hw
          rw [hcl, hd] at hw
          simp at hw; omega
        exact byte_of c 95 (by decide) this
      have hy : symT c r = ⟨4, 1, 0⟩ := by
        have hu := under_sym r
        unfold symT
        simp only [hc92, Bool.false_and, Bool.false_eq_true, if_false]
        have : longest (c :: r) (longest (c :: r) 0 plainL) (othersL.map (·.1)) = 1 := by rw [hc95]; exact hu
        rw [this]; rfl
      rw [hy]
      exact sameP_refl _ _ _
    · have hr0 : ¬ run (fun b => digitB b.toNat) (c :: r) = 0 := by
        unfold run; rw [List.takeWhile_cons, if_pos hd]; simp
      rw [if_neg hr0]
      simp only [if_true]
      have := number_same (digitsOf (c :: r)) hdd (by omega)
      rw [hdg] at this
      exact this
  · have hnl : 0 < (wordOf (c :: r)).countP fun b => letterB b.toNat := hcnt.2 hl
    rw [if_pos hnl, hWF, hSF]
    generalize wordOf (c :: r) = W
    cases hA : decide ((2 : Int) < W.length) <;> cases hB : (W.take 3 == [87, 70, 95]) <;> cases hC : (W.take 3 == [83, 70, 95]) <;>
      simp only [Bool.false_and, Bool.true_and, Bool.or_false, Bool.false_or, Bool.or_true, Bool.true_or, Bool.false_eq_true, if_false, if_true] <;>
      first
      | exact sameP_refl _ _ _
      | (cases hE : decide ((24 : Int) < W.length)
         · simp only [Bool.false_eq_true, if_false]
           cases reservedL.any (fun y => y == W)
           · exact sameP_refl _ _ _
           · exact sameP_refl _ _ _
         · simp only [if_true]
           exact sameP_err (e := 7) (by decide))
theorem at_same (s : Str) (j : Nat) (c : UInt8) (r : Str) (h : s.drop j = c :: r) (hs : hasPre (c :: r) [42, 41] = false) : SameP (pieceT c r) (atP s j) := by
  have hj : j < s.length := by
    rcases Nat.lt_or_ge j s.length with h' | h'
    · exact h'
    · rw [List.drop_eq_nil_of_le h'] at h; simp at h
  have hd := h
  rw [List.drop_eq_getElem_cons hj] at hd
  obtain ⟨hc, hr⟩ := List.cons.inj hd
  have hg : s.getD j 0 = c := by simp [List.getD_eq_getElem?_getD, hj, hc]
  have hsm : sameP s j = signOf c r := by unfold sameP signOf; rw [hg, h]
  have hlen : s.length - j = r.length + 1 := by
    have := congrArg List.length h
    rw [List.length_drop] at this; simpa using this
  have hnext : decide (j + 1 < s.length) = !r.isEmpty := by
    cases r with
    | nil => simp at hlen ⊢; omega
    | cons b r => simp at hlen ⊢; omega
  have hsub : ∀ n, sub s j n = (c :: r).take n := fun n => by rw [sub_eq, h]
  have hstar : (decide (j + 1 < s.length) && (sub s j 2 == [42, 41])) = false := by
    rw [hnext, hsub]
    cases r with
    | nil => rfl
    | cons b r =>
      cases hx : ((c :: b :: r).take 2 == [42, 41])
      · simp
      · exfalso
        have : c = 42 ∧ b = 41 := by simpa using hx
        obtain ⟨rfl, rfl⟩ := this
        have h5 := (hasPre_iff (42 :: 41 :: r) [42, 41]).2 ⟨r, rfl⟩
        rw [h5] at hs
        simp at hs
  have hrule := rule_eq c r
  unfold atP
  rw [hg, hsm, hstar]
  simp only [Bool.false_eq_true, if_false]
  cases hw : wordB c.toNat
  · have hnotw : wordOf (c :: r) = [] := by
      unfold wordOf; rw [take_run, List.takeWhile_cons, hw]; rfl
    have hnd : digitB c.toNat = false := by
      cases hd : digitB c.toNat
      · rfl
      · unfold wordB at hw; rw [hd] at hw; simp at hw
    have hL : hasLetter [] = false := by decide
    have hp1 : hasPre [] [87, 70, 95] = false := rfl
    have hp2 : hasPre [] [83, 70, 95] = false := rfl
    have hpc : pieceT c r = if ((c.toNat : Int) == 34) then textT r else if (decide (4 ≤ signOf c r) && (((c.toNat : Int) == 45) || ((c.toNat : Int) == 61))) then ⟨5, signOf c r, 0⟩ else symT c r := by
      unfold pieceT
      rw [hnotw, hL, hp1, hp2, hnd, hrule]; rfl
    rw [hpc]
    simp only [Bool.false_eq_true, if_false]
    cases hR : (decide (4 ≤ signOf c r) && (((c.toNat : Int) == 45) || ((c.toNat : Int) == 61)))
    · have hR' : ((((c.toNat : Int) == 45) || ((c.toNat : Int) == 61)) && decide ((signOf c r : Int) > 3)) = false := by
        rw [Bool.and_comm, ← hR]
        congr 1
        simp only [decide_eq_decide]; omega
      rw [hR']
      simp only [Bool.false_eq_true, if_false]
      cases hq : ((c.toNat : Int) == 34)
      · simp only [Bool.false_eq_true, if_false]
        -- symbols
        have hls : ∀ n : Int, n = longSym (c :: r) → longest (c :: r) (longest (c :: r) 0 plainL) (othersL.map (·.1)) = n := fun n hn => hn ▸ rfl
        unfold symT
        simp only [hls _ rfl]
        cases hb : ((c.toNat : Int) == 92 && (decide (j + 1 < s.length) && letterB (s.getD (j + 1) 0).toNat))
        · have hk : (((c.toNat : Int) == 92) && decide ((run (fun b => letterB b.toNat) r : Int) > 0)) = false := by
            cases h92 : ((c.toNat : Int) == 92)
            · rfl
            · rw [h92, hnext] at hb
              cases r with
              | nil => simp [run]
              | cons b r' =>
                have hgb : s.getD (j + 1) 0 = b := by
                  have : s.drop (j + 1) = b :: r' := hr
                  have h1 : j + 1 < s.length := by simp at hlen; omega
                  rw [List.drop_eq_getElem_cons h1] at this
                  simp [List.getD_eq_getElem?_getD, h1, (List.cons.inj this).1]
                rw [hgb] at hb
                simp at hb
                have : run (fun b => letterB b.toNat) (b :: r') = 0 := by
                  unfold run; rw [List.takeWhile_cons, hb]; rfl
                rw [this]; simp
          rw [hk]
          simp only [Bool.false_eq_true, if_false]
          have hshort : longSym (c :: r) ≤ 3 := symbol_short _ fun b r' he => by
            obtain ⟨rfl, rfl⟩ := List.cons.inj he
            cases hlb : letterB b.toNat
            · rfl
            · exfalso
              have : 0 < run (fun b => letterB b.toNat) (b :: r') := by unfold run; rw [List.takeWhile_cons, if_pos hlb]; simp
              have h2 : decide ((run (fun b => letterB b.toNat) (b :: r') : Int) > 0) = true := by simp; omega
              rw [h2] at hk
              simp at hk
          have hle : longSym (c :: r) ≤ ((min 3 (s.length - j) : Nat) : Int) := by
            rcases (longSym_spec (c :: r)).2.1 with h0 | ⟨x, hx, hp, hxl⟩
            · omega
            · have := hp.length_le
              simp only [List.length_cons] at this
              omega
          have ht := symTry_long s j (min 3 (s.length - j)) (by omega) (by rw [h]; exact hle)
          rw [h] at ht
          rw [ht]
          by_cases h0 : longSym (c :: r) = 0
          · rw [if_pos h0, h0]
            exact sameP_err (e := 8) (by decide)
          · have : (longSym (c :: r) == 0) = false := by simp [h0]
            rw [if_neg h0, this]
            exact sameP_refl _ _ _
        · simp only [Bool.and_eq_true] at hb
          obtain ⟨hb1, hb2, hb3⟩ := hb
          rw [hnext] at hb2
          cases r with
          | nil => simp at hb2
          | cons b r' =>
            have hgb : s.getD (j + 1) 0 = b := by
              have : s.drop (j + 1) = b :: r' := hr
              have h1 : j + 1 < s.length := by simp at hlen; omega
              rw [List.drop_eq_getElem_cons h1] at this
              simp [List.getD_eq_getElem?_getD, h1, (List.cons.inj this).1]
            rw [hgb] at hb3
            have hc92 : c = 92 := byte_of c 92 (by decide) (by simp at hb1; omega)
            have hk0 : 0 < run (fun b => letterB b.toNat) (b :: r') := by unfold run; rw [List.takeWhile_cons, if_pos hb3]; simp
            have hk : (((c.toNat : Int) == 92) && decide ((run (fun b => letterB b.toNat) (b :: r') : Int) > 0)) = true := by
              rw [hb1]; simp; omega
            rw [hk]
            simp only [if_true]
            have hl := symbol_letters b r' hb3
            rw [hr, hsub]
            subst hc92
            cases hsy : isSym ((92 :: b :: r').take (run (fun b => letterB b.toNat) (b :: r') + 1))
            · have hne : ¬ longSym (92 :: b :: r') = (run (fun b => letterB b.toNat) (b :: r') : Int) + 1 := fun he => by rw [hl.1 he] at hsy; simp at hsy
              have : (longSym (92 :: b :: r') != (run (fun b => letterB b.toNat) (b :: r') : Int) + 1) = true := by simpa using hne
              rw [this]
              simp only [if_true, Bool.false_eq_true, if_false]
              exact sameP_err (e := 8) (by decide)
            · have he := hl.2 hsy
              have : (longSym (92 :: b :: r') != (run (fun b => letterB b.toNat) (b :: r') : Int) + 1) = false := by simpa using he
              rw [this]
              simp only [if_true, Bool.false_eq_true, if_false]
              have e1 : ((run (fun b => letterB b.toNat) (b :: r') + 1 : Nat) : Int) = (run (fun b => letterB b.toNat) (b :: r') : Int) + 1 := by omega
              rw [e1]
              exact sameP_refl _ _ _
      · simp only [if_true]
        exact quoted_same s j c r h
    · have hR' : ((((c.toNat : Int) == 45) || ((c.toNat : Int) == 61)) && decide ((signOf c r : Int) > 3)) = true := by
        rw [Bool.and_comm, ← hR]
        congr 1
        simp only [decide_eq_decide]; omega
      have hq : ((c.toNat : Int) == 34) = false := by
        simp only [Bool.and_eq_true, Bool.or_eq_true] at hR
        rcases hR.2 with h1 | h1 <;> simp at h1 ⊢ <;> omega
      rw [hR', hq]
      simp only [if_true, Bool.false_eq_true, if_false]
      exact sameP_refl _ _ _
  · have hR' : ((((c.toNat : Int) == 45) || ((c.toNat : Int) == 61)) && decide ((signOf c r : Int) > 3)) = false := by
      cases h1 : ((c.toNat : Int) == 45)
      · cases h2 : ((c.toNat : Int) == 61)
        · rfl
        · have : c.toNat = 61 := by simp at h2; omega
          rw [this] at hw; exact absurd hw (by decide)
      · have : c.toNat = 45 := by simp at h1; omega
        rw [this] at hw; exact absurd hw (by decide)
    rw [hR']
    simp only [Bool.false_eq_true, if_false, if_true]
    exact word_same s j c r h hw
end Go.Proofs.YtlmmgblghgmgeaaGreatDoor
