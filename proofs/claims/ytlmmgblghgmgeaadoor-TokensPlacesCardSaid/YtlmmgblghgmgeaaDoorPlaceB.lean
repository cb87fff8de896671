/- A token that is read somewhere is a token alone. -/
import Derived.Test.YtlmmgblghgmgeaaDoorPlaceA
namespace Go.Proofs.YtlmmgblghgmgeaaDoor
open Go Ev
set_option linter.unusedSimpArgs false

theorem run_take (p : UInt8 → Bool) : ∀ (s : Str) (n : Nat), run p (s.take n) = min n (run p s)
  | [], n => by simp [run]
  | a :: s, 0 => by simp [run]
  | a :: s, n + 1 => by
    have ih := run_take p s n
    unfold run at ih ⊢
    rw [List.take_succ_cons, List.takeWhile_cons, List.takeWhile_cons]
    split
    · simp only [List.length_cons, ih]; omega
    · simp
theorem longSym_take (x : Str) : longSym (x.take (longSym x).toNat) = longSym x := by
  obtain ⟨h1, h2, h3⟩ := longSym_spec x
  obtain ⟨g1, g2, g3⟩ := longSym_spec (x.take (longSym x).toNat)
  have hle : longSym (x.take (longSym x).toNat) ≤ longSym x := by
    rcases g2 with g2 | ⟨y, hy, hp, he⟩
    · omega
    · rw [he]; exact h3 y hy (hp.trans (List.take_prefix _ _))
  rcases h2 with h2 | ⟨y, hy, hp, he⟩
  · omega
  · have : y <+: x.take (longSym x).toNat := by
      have e := List.prefix_iff_eq_take.1 hp
      rw [he, Int.toNat_natCast, ← e]
      exact List.prefix_rfl
    have := g3 y hy this
    omega
theorem syms_low : (allSyms.all fun x => (x.getD 0 0 != 95) || x == [95]) = true := by decide +kernel
theorem sym_low (r : Str) : longSym (95 :: r) = 1 := by
  obtain ⟨h1, h2, h3⟩ := longSym_spec (95 :: r)
  have hm : [95] ∈ allSyms := by
    have : (allSyms.any fun x => x == [95]) = true := by decide +kernel
    obtain ⟨x, hx, he⟩ := List.any_eq_true.1 this
    have : x = [95] := by simpa using he
    exact this ▸ hx
  have h4 := h3 [95] hm ⟨r, rfl⟩
  simp at h4
  rcases h2 with h2 | ⟨y, hy, hp, he⟩
  · omega
  · have h5 := List.all_eq_true.1 syms_low y hy
    obtain ⟨t, ht⟩ := hp
    cases y with
    | nil => simp at he; omega
    | cons a y =>
      have ha : a = 95 := by simp at ht; exact ht.1
      subst ha
      simp at h5
      subst h5
      rw [he]; rfl
theorem index_take (b : UInt8) : ∀ s : Str, 0 ≤ Lib.indexByte s b → Lib.indexByte (s.take ((Lib.indexByte s b).toNat + 1)) b = Lib.indexByte s b := fun s h => by
  have e := indexByte_run b s
  rw [e] at h
  split at h
  · omega
  · rename_i h1
    rw [if_neg h1] at e
    rw [e, indexByte_run, run_take]
    have hle := run_le (fun x => (x.toNat : Int) != b.toNat) s
    generalize run (fun x => (x.toNat : Int) != b.toNat) s = n at h1 hle h ⊢
    simp only [Int.toNat_natCast, List.length_take]
    rw [if_neg (by omega), Nat.min_eq_right (by omega)]
theorem word_alone (t : Str) : wordOf (wordOf t) = wordOf t := by
  unfold wordOf
  rw [run_take, Nat.min_self, List.take_take, Nat.min_self]
theorem digit_is_word (b : UInt8) (h : digitB b.toNat = true) : wordB b.toNat = true := by simp [wordB, h]
theorem tw_self (p : UInt8 → Bool) : ∀ l : Str, (∀ b ∈ l, p b = true) → l.takeWhile p = l
  | [], _ => rfl
  | a :: l, h => by rw [List.takeWhile_cons, if_pos (h a (by simp)), tw_self p l fun b hb => h b (by simp [hb])]
theorem digit_not_letter (b : UInt8) (h : digitB b.toNat = true) : letterB b.toNat = false := by
  revert h
  simp only [digitB, letterB, spansB, Bool.and_eq_true, Bool.or_eq_false_iff, Bool.and_eq_false_iff, decide_eq_true_eq, decide_eq_false_iff_not]
  omega
theorem piece_alone (c : UInt8) (r : Str) (h : (pieceT c r).err = 0) : pieceT c (r.take ((pieceT c r).len.toNat - 1)) = pieceT c r := by
  cases hw : wordB c.toNat
  · have e1 := pieceT_nw c r hw
    have e2 := fun q => pieceT_nw c q hw
    rw [e1] at h ⊢
    rw [e2]
    clear e1 e2
    split at h
    · rename_i h34
      rw [if_pos h34, if_pos h34]
      unfold textT at h ⊢
      split at h
      · simp at h
      · rename_i hneg
        rw [if_neg hneg]
        have hi := index_take 34 r (by omega)
        simp only
        rw [show (Lib.indexByte r 34 + 2).toNat - 1 = (Lib.indexByte r 34).toNat + 1 by omega, hi, if_neg hneg, List.take_take, Nat.min_eq_left (by omega)]
    · rename_i h34
      rw [if_neg h34, if_neg h34]
      split at h
      · rename_i hr
        rw [if_pos hr]
        simp only
        have hs : signOf c (r.take (signOf c r - 1)) = signOf c r := by
          have hp := sign_pos c r
          have := run_take (fun b => (b.toNat : Int) == c.toNat) (c :: r) (signOf c r)
          rw [show signOf c r = (signOf c r - 1) + 1 by omega, List.take_succ_cons] at this
          unfold signOf at this ⊢
          omega
        have e3 : ((signOf c r : Nat) : Int).toNat - 1 = signOf c r - 1 := by omega
        rw [e3, hs, if_pos hr]
      · rename_i hr
        rw [if_neg hr]
        have hs : ∀ n, signOf c (r.take n) ≤ signOf c r := fun n => by
          have := run_take (fun b => (b.toNat : Int) == c.toNat) (c :: r) (n + 1)
          rw [List.take_succ_cons] at this
          unfold signOf
          omega
        have hr2 : ∀ n, ¬ (decide (4 ≤ signOf c (r.take n)) && (((c.toNat : Int) == 45) || ((c.toNat : Int) == 61))) = true := fun n hh => hr (by
          have := hs n
          simp only [Bool.and_eq_true, decide_eq_true_eq] at hh ⊢
          exact ⟨by omega, hh.2⟩)
        rw [if_neg (hr2 _)]
        have hsym : ∀ q, longest (c :: q) (longest (c :: q) 0 plainL) (othersL.map (·.1)) = longSym (c :: q) := fun _ => rfl
        unfold symT at h ⊢
        simp only [hsym] at h ⊢
        have hrt := run_take (fun b => letterB b.toNat) r
        have hlt := longSym_take (c :: r)
        generalize run (fun b => letterB b.toNat) r = k at h hrt ⊢
        obtain ⟨hn0, _, _⟩ := longSym_spec (c :: r)
        cases hk : (((c.toNat : Int) == 92) && decide ((k : Int) > 0))
        · rw [hk] at h
          simp only [Bool.false_eq_true, if_false] at h ⊢
          have hne : longSym (c :: r) ≠ 0 := fun h0 => by simp [h0] at h
          have e4 : c :: r.take ((longSym (c :: r)).toNat - 1) = (c :: r).take (longSym (c :: r)).toNat := by
            rw [show (longSym (c :: r)).toNat = ((longSym (c :: r)).toNat - 1) + 1 by omega, List.take_succ_cons]
            simp
          rw [e4, hlt, hrt]
          have e5 : (((c.toNat : Int) == 92) && decide ((((min ((longSym (c :: r)).toNat - 1) k : Nat)) : Int) > 0)) = false := by
            rw [Bool.and_eq_false_iff] at hk ⊢
            rcases hk with hk | hk
            · exact .inl hk
            · refine .inr ?_
              simp at hk ⊢
              omega
          rw [e5]
          simp
        · rw [hk] at h
          simp only [if_true] at h ⊢
          have hn : longSym (c :: r) = k + 1 := by
            rcases Int.decEq (longSym (c :: r)) (k + 1) with h5 | h5
            · exfalso
              have : (longSym (c :: r) != (k : Int) + 1) = true := by simpa using h5
              rw [this] at h; simp at h
            · exact h5
          have e4 : c :: r.take (((k : Int) + 1).toNat - 1) = (c :: r).take (longSym (c :: r)).toNat := by
            rw [hn, show ((k : Int) + 1).toNat = (((k : Int) + 1).toNat - 1) + 1 by omega, List.take_succ_cons]
            simp
          rw [e4, hlt, hrt, show min (((k : Int) + 1).toNat - 1) k = k by omega, hk]
          simp
  · have hcw : c ∈ wordOf (c :: r) := by
      unfold wordOf; rw [take_run, List.takeWhile_cons, if_pos hw]; simp
    have hpre : ∀ n, c :: r.take n = (c :: r).take (n + 1) := fun n => by rw [List.take_succ_cons]
    unfold pieceT at h ⊢
    split at h
    · rename_i h1
      rw [if_pos h1]
      simp only
      have h2 : (c :: r).take 3 = [87, 70, 95] ∨ (c :: r).take 3 = [83, 70, 95] := by
        have h3 : wordOf (c :: r) <+: c :: r := List.take_prefix _ _
        rw [Bool.or_eq_true, hasPre_iff, hasPre_iff] at h1
        rcases h1 with h1 | h1
        · exact .inl (List.prefix_iff_eq_take.1 (h1.trans h3)).symm
        · exact .inr (List.prefix_iff_eq_take.1 (h1.trans h3)).symm
      have e3 : c :: r.take ((3 : Int).toNat - 1) = (c :: r).take 3 := hpre 2
      rw [if_pos]
      rw [e3]
      rcases h2 with h2 | h2 <;> rw [h2] <;> decide
    · rename_i h1
      rw [if_neg h1]
      split at h
      · rename_i h2
        rw [if_pos h2]
        simp only
        have hpos : 0 < (wordOf (c :: r)).length := List.length_pos_of_mem hcw
        have e3 : c :: r.take (((wordOf (c :: r)).length : Int).toNat - 1) = wordOf (c :: r) := by
          rw [hpre, Int.toNat_natCast, show (wordOf (c :: r)).length - 1 + 1 = (wordOf (c :: r)).length by omega]
          exact (List.prefix_iff_eq_take.1 (List.take_prefix _ _)).symm
        rw [e3, word_alone, if_neg h1, if_pos h2]
      · rename_i h2
        rw [if_neg h2]
        have hnl : letterB c.toNat = false := by
          rw [hasLetter_any] at h2
          have h2 := Bool.eq_false_iff.2 h2
          rw [List.any_eq_false] at h2
          simpa using h2 c hcw
        split at h
        · rename_i h3
          rw [if_pos h3]
          simp only
          have hdg : digitsOf (c :: r) = (c :: r).takeWhile fun b => digitB b.toNat := take_run _ _
          have hdc : c ∈ digitsOf (c :: r) := by rw [hdg, List.takeWhile_cons, if_pos h3]; simp
          have hda : ∀ b ∈ digitsOf (c :: r), digitB b.toNat = true := fun b hb => by
            rw [hdg] at hb
            exact takeWhile_all _ _ b hb
          have hpos : 0 < (digitsOf (c :: r)).length := List.length_pos_of_mem hdc
          have e3 : c :: r.take (((digitsOf (c :: r)).length : Int).toNat - 1) = digitsOf (c :: r) := by
            rw [hpre, Int.toNat_natCast, show (digitsOf (c :: r)).length - 1 + 1 = (digitsOf (c :: r)).length by omega]
            exact (List.prefix_iff_eq_take.1 (List.take_prefix _ _)).symm
          rw [e3]
          generalize digitsOf (c :: r) = g at hda hpos h
          have e4 : wordOf g = g := by
            unfold wordOf; rw [take_run]; exact tw_self _ _ fun b hb => digit_is_word b (hda b hb)
          have e5 : digitsOf g = g := by
            unfold digitsOf; rw [take_run]; exact tw_self _ _ hda
          have e6 : hasLetter g = false := by
            rw [← e4, hasLetter_any, e4, List.any_eq_false]
            intro b hb
            rw [digit_not_letter b (hda b hb)]; simp
          have e7 : ∀ p : Str, ∀ a q, p = a :: q → digitB a.toNat = false → hasPre g p = false := fun p a q hp ha => by
            cases hh : hasPre g p with
            | false => rfl
            | true =>
              rw [hasPre_iff] at hh
              obtain ⟨t, ht⟩ := hh
              have : a ∈ g := by rw [← ht, hp]; simp
              rw [hda a this] at ha; cases ha
          rw [e4, e5, e6, e7 [87, 70, 95] 87 _ rfl (by decide), e7 [83, 70, 95] 83 _ rfl (by decide), if_pos h3]
          simp
        · rename_i h3
          have hc95 : c = 95 := by
            have : wordB c.toNat = true := hw
            have h3' : digitB c.toNat = false := Bool.eq_false_iff.2 h3
            have : c.toNat = 95 := by
              simp [wordB, hnl, h3'] at this
              omega
            exact byte_of c 95 (by decide) this
          subst hc95
          rw [if_neg h3]
          have e8 : ¬ (((95 : UInt8).toNat : Int) == 34) = true := by decide
          rw [if_neg e8] at h ⊢
          have e9 : ¬ isRuleB ((95 :: r).take (signOf 95 r)) = true := by rw [rule_eq]; simp
          rw [if_neg e9] at h ⊢
          have e10 : symT 95 r = ⟨4, 1, 0⟩ := by
            have hsym : longest (95 :: r) (longest (95 :: r) 0 plainL) (othersL.map (·.1)) = longSym (95 :: r) := rfl
            unfold symT
            simp only [hsym, sym_low]
            have : (((95 : UInt8).toNat : Int) == 92) = false := by decide
            rw [this]
            rfl
          rw [e10]
          have e11 : r.take ((1 : Int).toNat - 1) = [] := rfl
          have e12 : pieceT 95 [] = ⟨4, 1, 0⟩ := by kernel_rfl
          have e13 : (⟨4, 1, 0⟩ : Pc).len = 1 := rfl
          rw [e13, e11]
          exact e12
/-- A token that is read somewhere is a token alone. -/
theorem first_alone (x : Str) (k len : Int) (h : firstTok x = some (k, len)) : oneTok (x.take len.toNat) = some k := by
  have hp := first_pos x k len h
  rw [oneTok_first]
  cases x with
  | nil => simp [firstTok] at h
  | cons c r =>
    unfold firstTok at h
    simp only at h
    split at h
    · simp at h
    rename_i h1
    split at h
    case isFalse => simp at h
    rename_i h2
    simp only [Option.some.injEq, Prod.mk.injEq] at h
    obtain ⟨rfl, rfl⟩ := h
    have e := piece_alone c r h2
    have e1 : (c :: r).take (pieceT c r).len.toNat = c :: r.take ((pieceT c r).len.toNat - 1) := by
      rw [show (pieceT c r).len.toNat = ((pieceT c r).len.toNat - 1) + 1 by omega, List.take_succ_cons]; simp
    have e2 : ((c :: r).take (pieceT c r).len.toNat).length = (pieceT c r).len.toNat := by
      rw [List.length_take]; omega
    rw [e2, e1]
    unfold firstTok
    simp only [e]
    have hmono : ∀ p, hasPre (c :: r.take ((pieceT c r).len.toNat - 1)) p = true → hasPre (c :: r) p = true := fun p hh => by
      rw [hasPre_iff] at hh ⊢
      exact hh.trans ⟨r.drop ((pieceT c r).len.toNat - 1), by simp⟩
    rw [if_neg, if_pos h2]
    · simp; omega
    · intro hh
      apply h1
      simp only [Bool.or_eq_true] at hh ⊢
      rcases hh with ((hh | hh) | hh) | hh
      · exact .inl (.inl (.inl hh))
      · exact .inl (.inl (.inr (hmono _ hh)))
      · exact .inl (.inr (hmono _ hh))
      · exact .inr (hmono _ hh)
end Go.Proofs.YtlmmgblghgmgeaaDoor
