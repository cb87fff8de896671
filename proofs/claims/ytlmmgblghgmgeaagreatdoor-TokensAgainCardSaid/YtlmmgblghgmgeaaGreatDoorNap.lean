/- The texts PlaceD, AgainA, AgainB, AgainC, AgainD, AgainE, WalkW, merged. -/
import Derived.Test.YtlmmgblghgmgeaaGreatDoorNao
import Derived.Test.YtlmmgblghgmgeaaGreatDoorNaj
import Derived.Test.YtlmmgblghgmgeaaGreatDoorNal
import Derived.Test.YtlmmgblghgmgeaaGreatDoorNan
set_option linter.unusedVariables false
set_option linter.unusedSimpArgs false
/- Between tokens stand blanks; each token is accepted. -/
namespace Go.Proofs.YtlmmgblghgmgeaaGreatDoor
open Go Ev
set_option linter.unusedSimpArgs false

theorem line_is (l : List Str) (i : Nat) (h : i < l.length) : l.getD i [] = l[i] := by simp [List.getD_eq_getElem?_getD, h]
/-- From a place of a text to another one there are only blanks. -/
structure Clear (l w : List Str) (a b x y : Nat) : Prop where
  le : a < x ∨ (a = x ∧ b ≤ y)
  hx : x ≤ l.length
  hy : y ≤ lineLen l x
  hb : b ≤ lineLen l a
  same : w.length = l.length ∧ ∀ p, lineLen w p = lineLen l p
  blank : ∀ p q, p < l.length → q < lineLen l p → ¬ (p < a ∨ (p = a ∧ q < b)) → (p < x ∨ (p = x ∧ q < y)) → (w.getD p []).getD q 0 = 32
theorem lineLen_over (l : List Str) (i : Nat) (h : l.length ≤ i) : lineLen l i = 0 := by simp [lineLen, List.getD_eq_getElem?_getD, h]
theorem Clear.turn {l w : List Str} {a b x y : Nat} (h : Clear l w a b x y) (ha : a < x) (hb : lineLen l a ≤ b) : Clear l w (a + 1) 0 x y where
  le := by omega
  hx := h.hx
  hy := h.hy
  hb := Nat.zero_le _
  same := h.same
  blank p q hp hq h1 h2 := h.blank p q hp hq (by
    intro h3
    rcases h3 with h3 | ⟨rfl, h3⟩
    · omega
    · omega) h2
theorem Clear.step {l w : List Str} {a b x y : Nat} (h : Clear l w a b x y) (hl : a < x ∨ b < y) (hb : b < lineLen l a) : Clear l w a (b + 1) x y where
  le := by have := h.le; omega
  hx := h.hx
  hy := h.hy
  hb := by omega
  same := h.same
  blank p q hp hq h1 h2 := h.blank p q hp hq (by omega) h2
theorem withoutP_get (l : List Str) (cs : List Sp) (h : ∀ c ∈ cs, SpOk (lens l) c) (p : Nat) : (withoutP l cs).getD p [] = if p < l.length then blankChars cs p 0 (l.getD p []) else [] := by
  rw [without_ref l cs h, List.getD_eq_getElem?_getD, refBlanked_get, Nat.zero_add]
  by_cases hp : p < l.length
  · rw [if_pos hp, List.getElem?_eq_getElem hp, line_is l p hp]; rfl
  · rw [if_neg hp, List.getElem?_eq_none (by omega)]; rfl
theorem withoutP_line (l : List Str) (cs : List Sp) (h : ∀ c ∈ cs, SpOk (lens l) c) (p : Nat) : lineLen (withoutP l cs) p = lineLen l p := by
  unfold lineLen
  rw [withoutP_get l cs h]
  split
  · exact blankChars_len _ _ _ _
  · rename_i hp
    simp [List.getD_eq_getElem?_getD, Nat.le_of_not_lt hp]
theorem withoutP_len2 (l : List Str) (cs : List Sp) (h : ∀ c ∈ cs, SpOk (lens l) c) : (withoutP l cs).length = l.length := by
  rw [without_ref l cs h]
  have hg := fun j => refBlanked_get cs l 0 j
  have h1 := hg l.length
  have h2 := fun (hh : 0 < l.length) => hg (l.length - 1)
  rcases Nat.lt_trichotomy (refBlanked cs 0 l).length l.length with h3 | h3 | h3
  · have := h2 (by omega)
    rw [List.getElem?_eq_none (by omega), List.getElem?_eq_getElem (by omega)] at this
    simp at this
  · exact h3
  · rw [List.getElem?_eq_getElem h3, List.getElem?_eq_none (by omega)] at h1
    simp at h1
theorem withoutP_at (l : List Str) (cs : List Sp) (h : ∀ c ∈ cs, SpOk (lens l) c) (p q : Nat) (hp : p < l.length) (hq : q < l[p].length) (hb : l[p][q] = 32 ∨ ∃ c ∈ cs, inSpan p q c = true) : ((withoutP l cs).getD p []).getD q 0 = 32 := by
  rw [withoutP_get l cs h, if_pos hp, line_is l p hp, List.getD_eq_getElem?_getD, blankChars_get, Nat.zero_add, List.getElem?_eq_getElem hq]
  simp only [Option.map_some, Option.getD_some]
  rcases hb with hb | ⟨c, hc, hb⟩
  · rw [hb]; simp
  · rw [if_pos]
    unfold withinP
    exact List.any_eq_true.2 ⟨c, hc, hb⟩
/-- The place behind some of the tokens. -/
def Behind (ts : List Tk) (i a b : Nat) : Prop := (i = 0 ∧ a = 0 ∧ b = 0) ∨ ∃ k, ∃ h : k < ts.length, i = k + 1 ∧ ts[k].line = a ∧ ts[k].col + ts[k].text.length = b
theorem clear_of {l : List Str} {I J : Nat} {ts : List Tk} {cs : List Sp} (hs : Standing l I J ts cs) (hI : l.length ≤ I) (hc : ∀ c ∈ cs, SpOk (lens l) c) (i a b x y : Nat) (hp : Behind ts i a b)
    (ht : (i = ts.length ∧ x = l.length ∧ y = 0) ∨ ∃ h : i < ts.length, ts[i].line = x ∧ ts[i].col = y) : Clear l (withoutP l cs) a b x y := by
  have hget : ∀ k (h : k < ts.length), Stands l I J ts[k] := fun k h => hs.each _ (List.getElem_mem h)
  have hasc : ∀ j k (hj : j < ts.length) (hk : k < ts.length), j < k → Before ts[j] ts[k] := fun j k hj hk hjk => List.pairwise_iff_getElem.1 hs.asc j k hj hk hjk
  have hx : x ≤ l.length ∧ y ≤ lineLen l x := by
    rcases ht with ⟨_, rfl, rfl⟩ | ⟨h, h1, h2⟩
    · exact ⟨Nat.le_refl _, Nat.zero_le _⟩
    · obtain ⟨⟨x', y', e1, e2, ⟨h3, h4, _⟩, _⟩, _⟩ := hget i h
      have e1' : x = x' := by omega
      have e2' : y = y' := by omega
      subst e1'; subst e2'
      exact ⟨by omega, by rw [lineLen_eq l x h3]; omega⟩
  have hb : b ≤ lineLen l a ∧ (a < l.length ∨ (a = 0 ∧ b = 0)) := by
    rcases hp with ⟨_, rfl, rfl⟩ | ⟨k, h, _, h1, h2⟩
    · exact ⟨Nat.zero_le _, .inr ⟨rfl, rfl⟩⟩
    · obtain ⟨⟨x', y', e1, e2, ⟨h3, h4, _⟩, _⟩, _⟩ := hget k h
      have e1' : a = x' := by omega
      subst e1'
      exact ⟨by rw [lineLen_eq l a h3]; omega, .inl h3⟩
  refine ⟨?_, hx.1, hx.2, hb.1, ⟨withoutP_len2 l cs hc, withoutP_line l cs hc⟩, fun p q hp' hq hn hlt => ?_⟩
  · rcases ht with ⟨h0, rfl, rfl⟩ | ⟨h, h1, h2⟩
    · have := hb.2; omega
    · rcases hp with ⟨_, rfl, rfl⟩ | ⟨k, hk, h3, h4, h5⟩
      · omega
      · have := hasc k i hk h (by omega)
        unfold Before at this
        omega
  · rw [lineLen_eq l p hp'] at hq
    refine withoutP_at l cs hc p q hp' hq ?_
    rcases hs.cover p q hp' hq (.inl (by omega)) with h1 | h1 | ⟨t, h1, h2, h3, h4⟩
    · exact .inl h1
    · exact .inr h1
    · exfalso
      obtain ⟨k, hk, rfl⟩ := List.getElem_of_mem h1
      rcases Nat.lt_or_ge k i with h5 | h5
      · rcases hp with ⟨rfl, _⟩ | ⟨j, hj, h6, h7, h8⟩
        · omega
        · rcases Nat.lt_or_ge k j with h9 | h9
          · have := hasc k j hk hj h9
            unfold Before at this
            obtain ⟨⟨x', y', e1, e2, _, _⟩, _⟩ := hget j hj
            omega
          · have : k = j := by omega
            subst this
            omega
      · rcases ht with ⟨h0, _⟩ | ⟨h, h6, h7⟩
        · omega
        · rcases Nat.lt_or_ge i k with h9 | h9
          · have := hasc i k h hk h9
            unfold Before at this
            omega
          · have : k = i := by omega
            subst this
            omega
theorem pieceT_kind (c : UInt8) (r : Str) : spansB (pieceT c r).kind 0 5 = true := by
  unfold pieceT
  repeat' split
  all_goals first | rfl | skip
  · unfold textT; split <;> rfl
  · unfold symT; simp only; split <;> rfl
theorem oneTok_kind (x : Str) (k : Int) (h : oneTok x = some k) : spansB k 0 5 = true := by
  rw [oneTok_first] at h
  cases x with
  | nil => simp [firstTok] at h
  | cons c r =>
    unfold firstTok at h
    simp only at h
    split at h
    · simp at h
    · split at h
      · simp only [Option.some.injEq, Prod.mk.injEq] at h
        rw [← h.1]; exact pieceT_kind c r
      · simp at h
theorem check_placed {l : List Str} {I J : Nat} {t : Tk} (hs : Stands l I J t) (hl : l.length ≤ 300) (hc : ∀ s ∈ l, s.length ≤ 120 ∧ oddS s = false) : checkTokenP t = 0 := by
  obtain ⟨⟨x, y, e1, e2, ⟨h3, h4, h5⟩, _⟩, h6⟩ := hs
  obtain ⟨h7, h8⟩ := hc l[x] (List.getElem_mem h3)
  have ho : oddS t.text = false := by
    rw [oddS_any, List.any_eq_false] at h8 ⊢
    intro b hb
    refine h8 b ?_
    rw [← h5] at hb
    exact List.mem_of_mem_drop (List.mem_of_mem_take hb)
  have ht : textErrP t = 0 := by
    unfold textErrP
    rw [if_pos (oneTok_kind _ _ h6), isRead_one, ho, h6]
    simp
  unfold checkTokenP
  rw [ht, e1, e2]
  have : spansB (x : Int) 0 299 = true ∧ spansB (y : Int) 0 (120 - t.text.length) = true := by
    simp only [spansB, Bool.and_eq_true, decide_eq_true_eq]; omega
  rw [this.1, this.2]
  rfl
end Go.Proofs.YtlmmgblghgmgeaaGreatDoor

/- Reading again: a token is read the same if what follows is cut off behind it, or if a blank follows. -/
namespace Go.Proofs.YtlmmgblghgmgeaaGreatDoor
open Go Ev
set_option linter.unusedSimpArgs false

/-! What follows, cut off. -/
theorem longSym_cut (x : Str) (n : Nat) (h : (longSym x).toNat ≤ n) : longSym (x.take n) = longSym x := by
  obtain ⟨h1, h2, h3⟩ := longSym_spec x
  obtain ⟨g1, g2, g3⟩ := longSym_spec (x.take n)
  have hle : longSym (x.take n) ≤ longSym x := by
    rcases g2 with g2 | ⟨y, hy, hp, he⟩
    · omega
    · rw [he]; exact h3 y hy (hp.trans (List.take_prefix _ _))
  rcases h2 with h2 | ⟨y, hy, hp, he⟩
  · omega
  · have : y <+: x.take n := List.prefix_take_iff.2 ⟨hp, by omega⟩
    have := g3 y hy this
    omega
theorem word_cut (x : Str) (n : Nat) : wordOf (x.take n) = (wordOf x).take n := by
  unfold wordOf
  rw [run_take, List.take_take, List.take_take]
  congr 1
  omega
theorem digits_cut (x : Str) (n : Nat) : digitsOf (x.take n) = (digitsOf x).take n := by
  unfold digitsOf
  rw [run_take, List.take_take, List.take_take]
  congr 1
  omega
theorem sign_cut (c : UInt8) (r : Str) (q : Nat) : signOf c (r.take q) = min (q + 1) (signOf c r) := by
  have := run_take (fun b => (b.toNat : Int) == c.toNat) (c :: r) (q + 1)
  rw [List.take_succ_cons] at this
  exact this
theorem hasLetter_word (t : Str) : hasLetter (wordOf t) = (wordOf t).any (fun b => letterB b.toNat) := hasLetter_any t
theorem index_cut (b : UInt8) (s : Str) (q : Nat) (h : 0 ≤ Lib.indexByte s b) (hq : (Lib.indexByte s b).toNat < q) : Lib.indexByte (s.take q) b = Lib.indexByte s b := by
  have e := indexByte_run b s
  rw [e] at h hq
  split at h
  · omega
  · rename_i h1
    rw [if_neg h1] at e hq
    rw [e, indexByte_run, run_take]
    have hle := run_le (fun x => (x.toNat : Int) != b.toNat) s
    generalize run (fun x => (x.toNat : Int) != b.toNat) s = n at h1 hle h hq ⊢
    simp only [Int.toNat_natCast] at hq
    rw [Nat.min_eq_right (by omega), if_neg (by rw [List.length_take]; omega)]
theorem wf_letters (t : Str) (h : hasPre (wordOf t) [87, 70, 95] = true ∨ hasPre (wordOf t) [83, 70, 95] = true) : hasLetter (wordOf t) = true := by
  rw [hasLetter_any, List.any_eq_true]
  rcases h with h | h
  · rw [hasPre_iff] at h
    exact ⟨87, h.subset (by simp), by decide⟩
  · rw [hasPre_iff] at h
    exact ⟨83, h.subset (by simp), by decide⟩
theorem symT_low (r : Str) : symT 95 r = ⟨4, 1, 0⟩ := by
  have hsym : longest (95 :: r) (longest (95 :: r) 0 plainL) (othersL.map (·.1)) = longSym (95 :: r) := rfl
  unfold symT
  simp only [hsym, sym_low]
  have : (((95 : UInt8).toNat : Int) == 92) = false := by decide
  rw [this]
  rfl
theorem word_first {c : UInt8} (hw : wordB c.toNat = true) (r : Str) : c ∈ wordOf (c :: r) := by
  unfold wordOf; rw [take_run, List.takeWhile_cons, if_pos hw]; simp
/-- A word's piece, by the word. -/
theorem pieceT_word {c : UInt8} (hw : wordB c.toNat = true) (r : Str) : pieceT c r =
    if hasPre (wordOf (c :: r)) [87, 70, 95] || hasPre (wordOf (c :: r)) [83, 70, 95] then ⟨4, 3, 0⟩
    else if (wordOf (c :: r)).any (fun b => letterB b.toNat) then ⟨if decide (0 ≤ idxIn (wordOf (c :: r)) reservedL 0) then 1 else 0, (wordOf (c :: r)).length, if decide ((24 : Int) < (wordOf (c :: r)).length) then 7 else 0⟩
    else if digitB c.toNat then ⟨2, (digitsOf (c :: r)).length, numErr (digitsOf (c :: r))⟩
    else ⟨4, 1, 0⟩ := by
  unfold pieceT
  rw [hasLetter_any]
  split
  · rfl
  rename_i h1
  split
  · rfl
  rename_i h2
  split
  · rfl
  rename_i h3
  have hnl : letterB c.toNat = false := by
    have h2 := Bool.eq_false_iff.2 h2
    rw [List.any_eq_false] at h2
    simpa using h2 c (word_first hw r)
  have hc95 : c = 95 := by
    have h3' : digitB c.toNat = false := Bool.eq_false_iff.2 h3
    have : c.toNat = 95 := by
      have := hw
      simp [wordB, hnl, h3'] at this
      omega
    exact byte_of c 95 (by decide) this
  subst hc95
  rw [if_neg (by decide), if_neg (by rw [rule_eq]; simp), symT_low]
theorem piece_cut (c : UInt8) (r : Str) (q : Nat) (h : (pieceT c r).err = 0) (hq : (pieceT c r).len.toNat ≤ q + 1) : pieceT c (r.take q) = pieceT c r := by
  have hcut : c :: r.take q = (c :: r).take (q + 1) := by rw [List.take_succ_cons]
  cases hw : wordB c.toNat
  · rw [pieceT_nw c r hw] at h hq ⊢
    rw [pieceT_nw c _ hw]
    split at h
    · rename_i h34
      rw [if_pos h34] at hq
      rw [if_pos h34, if_pos h34]
      unfold textT at h hq ⊢
      split at h
      · simp at h
      · rename_i hneg
        rw [if_neg hneg] at hq
        simp only at hq
        have hi := index_cut 34 r q (by omega) (by omega)
        rw [hi, if_neg hneg, if_neg hneg, List.take_take, Nat.min_eq_left (by omega)]
    · rename_i h34
      rw [if_neg h34] at hq
      rw [if_neg h34, if_neg h34, sign_cut]
      split at h
      · rename_i hr
        rw [if_pos hr] at hq
        simp only at hq
        rw [Nat.min_eq_right (by omega), if_pos hr, if_pos hr]
      · rename_i hr
        rw [if_neg hr] at hq
        rw [if_neg hr, if_neg (by
          intro hh
          apply hr
          simp only [Bool.and_eq_true, decide_eq_true_eq] at hh ⊢
          exact ⟨by omega, hh.2⟩)]
        have hsym : ∀ q, longest (c :: q) (longest (c :: q) 0 plainL) (othersL.map (·.1)) = longSym (c :: q) := fun _ => rfl
        unfold symT at h hq ⊢
        simp only [hsym] at h hq ⊢
        have hrt := run_take (fun b => letterB b.toNat) r q
        rw [hrt, hcut]
        obtain ⟨hn0, _, _⟩ := longSym_spec (c :: r)
        generalize run (fun b => letterB b.toNat) r = k at h hq ⊢
        cases hk : (((c.toNat : Int) == 92) && decide ((k : Int) > 0))
        · rw [hk] at h hq
          simp only [Bool.false_eq_true, if_false] at h hq ⊢
          rw [longSym_cut _ _ hq]
          have e5 : (((c.toNat : Int) == 92) && decide (((min q k : Nat) : Int) > 0)) = false := by
            rw [Bool.and_eq_false_iff] at hk ⊢
            rcases hk with hk | hk
            · exact .inl hk
            · refine .inr ?_
              simp at hk ⊢
              omega
          rw [e5]
          simp
        · rw [hk] at h hq
          simp only [if_true] at h hq ⊢
          have hn : longSym (c :: r) = k + 1 := by
            rcases Int.decEq (longSym (c :: r)) (k + 1) with h5 | h5
            · exfalso
              have : (longSym (c :: r) != (k : Int) + 1) = true := by simpa using h5
              rw [this] at h; simp at h
            · exact h5
          rw [longSym_cut _ _ (by omega), Nat.min_eq_right (by omega), hk]
          simp
  · rw [pieceT_word hw] at h hq ⊢
    rw [pieceT_word hw, hcut, word_cut, digits_cut]
    split at h
    · rename_i h1
      rw [if_pos h1] at hq
      simp only at hq
      rw [if_pos h1, if_pos]
      rw [Bool.or_eq_true, hasPre_iff, hasPre_iff] at h1 ⊢
      rcases h1 with h1 | h1
      · exact .inl (List.prefix_take_iff.2 ⟨h1, by simp; omega⟩)
      · exact .inr (List.prefix_take_iff.2 ⟨h1, by simp; omega⟩)
    · rename_i h1
      rw [if_neg h1] at hq
      split at h
      · rename_i h2
        rw [if_pos h2] at hq
        simp only at hq
        rw [List.take_of_length_le (by omega), if_neg h1, if_neg h1, if_pos h2, if_pos h2]
      · rename_i h2
        rw [if_neg h2] at hq
        have hnl : ((wordOf (c :: r)).take (q + 1)).any (fun b => letterB b.toNat) = false := by
          have h2 := Bool.eq_false_iff.2 h2
          rw [List.any_eq_false] at h2 ⊢
          exact fun b hb => h2 b (List.mem_of_mem_take hb)
        have hnw : ¬ (hasPre ((wordOf (c :: r)).take (q + 1)) [87, 70, 95] || hasPre ((wordOf (c :: r)).take (q + 1)) [83, 70, 95]) = true := fun hh => by
          rw [← word_cut] at hh hnl
          have := wf_letters ((c :: r).take (q + 1)) ((Bool.or_eq_true _ _).mp hh)
          rw [hasLetter_any, hnl] at this
          cases this
        rw [if_neg h1, if_neg h2, if_neg hnw, if_neg (by rw [hnl]; simp)]
        split at h
        · rename_i h3
          rw [if_pos h3] at hq
          simp only at hq
          rw [if_pos h3, if_pos h3, List.take_of_length_le (by omega)]
        · rename_i h3
          rw [if_neg h3, if_neg h3]
/-- A token that is read is read if the text is cut off behind it. -/
theorem first_cut (x : Str) (k len : Int) (h : firstTok x = some (k, len)) (n : Nat) (hn : len.toNat ≤ n) : firstTok (x.take n) = some (k, len) := by
  have hp := first_pos x k len h
  cases x with
  | nil => simp [firstTok] at h
  | cons c r =>
    obtain ⟨n, rfl⟩ : ∃ m, n = m + 1 := ⟨n - 1, by omega⟩
    rw [List.take_succ_cons]
    unfold firstTok at h ⊢
    simp only at h ⊢
    split at h
    · simp at h
    rename_i h1
    split at h
    case isFalse => simp at h
    rename_i h2
    simp only [Option.some.injEq, Prod.mk.injEq] at h
    obtain ⟨rfl, rfl⟩ := h
    rw [piece_cut c r n h2 hn]
    have hmono : ∀ p, hasPre (c :: r.take n) p = true → hasPre (c :: r) p = true := fun p hh => by
      rw [hasPre_iff] at hh ⊢
      exact hh.trans ⟨r.drop n, by simp⟩
    rw [if_neg, if_pos h2]
    intro hh
    apply h1
    simp only [Bool.or_eq_true] at hh ⊢
    rcases hh with ((hh | hh) | hh) | hh
    · exact .inl (.inl (.inl hh))
    · exact .inl (.inl (.inr (hmono _ hh)))
    · exact .inl (.inr (hmono _ hh))
    · exact .inr (hmono _ hh)

/-! A blank behind a text. -/
theorem syms_blank : (allSyms.all fun x => !x.contains 32) = true := by decide +kernel
theorem longSym_blank (x z : Str) : longSym (x ++ 32 :: z) = longSym x := by
  rw [longSym_eq, longSym_eq]
  refine longest_congr _ _ _ _ fun y hy => ?_
  have hn : (32 : UInt8) ∉ y := by
    have := List.all_eq_true.1 syms_blank y hy
    simpa using this
  rw [Bool.eq_iff_iff, hasPre_iff, hasPre_iff]
  constructor
  · intro h
    rcases Nat.lt_or_ge x.length y.length with h1 | h1
    · exfalso
      have h2 : x ++ [32] <+: y := List.prefix_of_prefix_length_le ⟨z, by simp⟩ h (by simp; omega)
      exact hn (h2.subset (by simp))
    · exact List.prefix_of_prefix_length_le h ⟨32 :: z, rfl⟩ h1
  · exact fun h => h.trans ⟨32 :: z, rfl⟩
theorem word_blank (x z : Str) : wordOf (x ++ 32 :: z) = wordOf x := by
  unfold wordOf; rw [take_run, take_run]; exact tw_stop _ 32 (by decide) _ _
theorem digits_blank (x z : Str) : digitsOf (x ++ 32 :: z) = digitsOf x := by
  unfold digitsOf; rw [take_run, take_run]; exact tw_stop _ 32 (by decide) _ _
theorem sign_blank (c : UInt8) (r z : Str) (hc : c ≠ 32) : signOf c (r ++ 32 :: z) = signOf c r := by
  have hp : (((32 : UInt8).toNat : Int) == c.toNat) = false := by
    have h1 : c.toNat ≠ 32 := fun he => hc (UInt8.toNat_inj.1 he)
    have h2 : (32 : UInt8).toNat = 32 := rfl
    rw [h2]
    simp
    omega
  exact run_stop (fun b => (b.toNat : Int) == c.toNat) 32 hp z (c :: r)
theorem text_longer (r t : Str) (h : (textT r).err = 0) : textT (r ++ t) = textT r := by
  have h1 : 0 ≤ Lib.indexByte r 34 := by
    rcases Int.lt_or_le (Lib.indexByte r 34) 0 with h2 | h2
    · exfalso
      unfold textT at h
      rw [if_pos h2] at h
      simp at h
    · exact h2
  unfold textT
  rw [indexByte_append 34 r _ h1]
  have hle : (Lib.indexByte r 34).toNat ≤ r.length := by
    have := indexByte_found r 34 (by omega)
    omega
  rw [List.take_append_of_le_length hle]
theorem piece_blank (c : UInt8) (r z : Str) (hc : c ≠ 32) (h : (pieceT c r).err = 0) : pieceT c (r ++ 32 :: z) = pieceT c r := by
  cases hw : wordB c.toNat
  · rw [pieceT_nw c r hw] at h ⊢
    rw [pieceT_nw c _ hw, sign_blank c r z hc]
    split at h
    · rename_i h34
      rw [if_pos h34, if_pos h34, text_longer r _ h]
    · rename_i h34
      rw [if_neg h34, if_neg h34]
      have hsym : symT c (r ++ 32 :: z) = symT c r := by
        have h1 := longSym_blank (c :: r) z
        have h2 : run (fun b => letterB b.toNat) (r ++ 32 :: z) = run (fun b => letterB b.toNat) r := run_stop (fun b => letterB b.toNat) 32 (by decide) z r
        unfold longSym at h1
        unfold symT
        rw [h2]
        simp only [List.cons_append] at h1
        rw [h1]
      rw [hsym]
  · have h1 := word_blank (c :: r) z
    have h2 := digits_blank (c :: r) z
    simp only [List.cons_append] at h1 h2
    rw [pieceT_word hw, pieceT_word hw, h1, h2]
theorem pre2_blank (c a b : UInt8) (r z : Str) (hb : b ≠ 32) (h : hasPre (c :: (r ++ 32 :: z)) [a, b] = true) : hasPre (c :: r) [a, b] = true := by
  rw [hasPre_iff] at h ⊢
  obtain ⟨t, ht⟩ := h
  cases r with
  | nil => simp at ht; exact absurd ht.2.1 hb
  | cons d r => simp at ht; exact ⟨r, by simp [ht.1, ht.2.1]⟩
/-- A token that is read is read if a blank follows the text. -/
theorem first_blank (x z : Str) (k len : Int) (h : firstTok x = some (k, len)) : firstTok (x ++ 32 :: z) = some (k, len) := by
  cases x with
  | nil => simp [firstTok] at h
  | cons c r =>
    rw [List.cons_append]
    unfold firstTok at h ⊢
    simp only at h ⊢
    split at h
    · simp at h
    rename_i h1
    split at h
    case isFalse => simp at h
    rename_i h2
    have hc : c ≠ 32 := fun he => h1 (by rw [he]; simp)
    rw [piece_blank c r z hc h2, if_neg, if_pos h2]
    · exact h
    · intro hh
      apply h1
      simp only [Bool.or_eq_true] at hh ⊢
      rcases hh with ((hh | hh) | hh) | hh
      · exact .inl (.inl (.inl hh))
      · exact .inl (.inl (.inr (pre2_blank _ _ _ _ _ (by decide) hh)))
      · exact .inl (.inr (pre2_blank _ _ _ _ _ (by decide) hh))
      · exact .inr (pre2_blank _ _ _ _ _ (by decide) hh)
end Go.Proofs.YtlmmgblghgmgeaaGreatDoor

/- Reading again: tokens joined are read as they were. -/
namespace Go.Proofs.YtlmmgblghgmgeaaGreatDoor
open Go Ev
set_option linter.unusedSimpArgs false

theorem tw_mid (p : UInt8 → Bool) : ∀ (x t : Str), x.all p = false → (x ++ t).takeWhile p = x.takeWhile p
  | [], t, h => by simp at h
  | a :: x, t, h => by
    rw [List.cons_append, List.takeWhile_cons, List.takeWhile_cons]
    cases ha : p a
    · rfl
    · simp only [if_true]
      rw [tw_mid p x t (by simpa [ha] using h)]
theorem tw_whole (p : UInt8 → Bool) : ∀ (x t : Str), x.all p = true → (x ++ t).takeWhile p = x ++ t.takeWhile p
  | [], t, _ => rfl
  | a :: x, t, h => by
    simp only [List.all_cons, Bool.and_eq_true] at h
    rw [List.cons_append, List.takeWhile_cons, if_pos h.1, tw_whole p x t h.2]
    rfl
theorem word_mid (x t : Str) (h : x.all (fun b => wordB b.toNat) = false) : wordOf (x ++ t) = wordOf x := by
  unfold wordOf; rw [take_run, take_run]; exact tw_mid _ _ _ h
theorem word_whole (x t : Str) (h : x.all (fun b => wordB b.toNat) = true) : wordOf (x ++ t) = x ++ wordOf t := by
  unfold wordOf; rw [take_run, take_run]; exact tw_whole _ _ _ h
theorem digits_mid (x t : Str) (h : x.all (fun b => digitB b.toNat) = false) : digitsOf (x ++ t) = digitsOf x := by
  unfold digitsOf; rw [take_run, take_run]; exact tw_mid _ _ _ h
theorem digits_whole (x : Str) (h : x.all (fun b => digitB b.toNat) = true) : digitsOf x = x := by
  unfold digitsOf; rw [take_run]; exact tw_self _ _ fun b hb => List.all_eq_true.1 h b hb
/-- A symbol of three characters of which the first two may be tokens of their own. -/
theorem three_syms : (allSyms.all fun s => match s with | [a, b, _] => a == 92 || wordB a.toNat || allSyms.any (· == [a, b]) || (oneTok [a]).isNone || (oneTok [b]).isNone || signsP [a] [b] | _ => true) = true := by decide +kernel
theorem two_minus : oneTok [45, 45] = none := by decide +kernel
theorem eq_syms : (allSyms.any (· == [61, 61])) = true := by decide +kernel
theorem len_first {c : UInt8} {r : Str} {k len : Int} (h : firstTok (c :: r) = some (k, len)) : ¬ (((c.toNat : Int) == 32) || hasPre (c :: r) [40, 42] || hasPre (c :: r) [92, 42] || hasPre (c :: r) [42, 41]) = true ∧ (pieceT c r).err = 0 ∧ (pieceT c r).kind = k ∧ (pieceT c r).len = len := by
  unfold firstTok at h
  simp only at h
  split at h
  · simp at h
  rename_i h1
  split at h
  case isFalse => simp at h
  rename_i h2
  simp only [Option.some.injEq, Prod.mk.injEq] at h
  exact ⟨h1, h2, h.1, h.2⟩
theorem mem_syms {x : Str} (h : allSyms.any (· == x) = true) : x ∈ allSyms := by
  obtain ⟨y, hy, he⟩ := List.any_eq_true.1 h
  have : y = x := by simpa using he
  exact this ▸ hy
/-- Two signs of equality are one symbol. -/
theorem eq_eq (z : Str) (k len : Int) (h : firstTok (61 :: 61 :: z) = some (k, len)) : 2 ≤ len := by
  obtain ⟨_, h2, _, h4⟩ := len_first h
  rw [pieceT_nw _ _ (by decide)] at h2 h4
  rw [if_neg (by decide)] at h2 h4
  split at h4
  · rename_i h5
    simp only [Bool.and_eq_true, decide_eq_true_eq] at h5
    simp only at h4
    omega
  · have hl := (longSym_spec (61 :: 61 :: z)).2.2 [61, 61] (mem_syms eq_syms) ⟨z, rfl⟩
    unfold longSym at hl
    unfold symT at h4
    have : (((61 : UInt8).toNat : Int) == 92) = false := by decide
    rw [this] at h4
    simp only [Bool.false_and, Bool.false_eq_true, if_false] at h4
    simp at hl
    omega
set_option maxHeartbeats 1000000 in
/-- A token before a token, which is read before what follows, is read before them. -/
theorem piece_join (c d : UInt8) (r s z : Str) (kx ky : Int) (hx : oneTok (c :: r) = some kx) (hy : oneTok (d :: s) = some ky) (hxy : firstTok (c :: (r ++ d :: s)) = some (kx, ((c :: r).length : Int))) (hyz : firstTok (d :: (s ++ z)) = some (ky, ((d :: s).length : Int)))
    (hsg : signsP (c :: r) (d :: s) = false) : pieceT c (r ++ d :: s ++ z) = pieceT c (r ++ d :: s) := by
  obtain ⟨n1, e1, _, l1⟩ := len_first hxy
  obtain ⟨n2, e2, _, l2⟩ := len_first hyz
  simp only [List.length_cons] at l1 l2
  have hA : (c :: (r ++ d :: s)).length = r.length + s.length + 2 := by simp; omega
  cases hw : wordB c.toNat
  · rw [pieceT_nw c _ hw] at e1 l1 ⊢
    rw [pieceT_nw c _ hw]
    split at e1
    · rename_i h34
      rw [if_pos h34, if_pos h34, text_longer _ _ e1]
    rename_i h34
    rw [if_neg h34] at l1
    rw [if_neg h34, if_neg h34]
    have hne : (c :: (r ++ d :: s)).all (fun b => (b.toNat : Int) == c.toNat) = true → ∀ b ∈ c :: (r ++ d :: s), b = c := fun hall b hb => by
      have h9 : (b.toNat : Int) = (c.toNat : Int) := beq_iff_eq.1 (List.all_eq_true.1 hall b hb)
      exact UInt8.toNat_inj.1 (by omega)
    -- the signs
    have hsign : signOf c (r ++ d :: s ++ z) = signOf c (r ++ d :: s) ∨ ((decide (4 ≤ signOf c (r ++ d :: s ++ z)) && (((c.toNat : Int) == 45) || ((c.toNat : Int) == 61))) = false ∧ (decide (4 ≤ signOf c (r ++ d :: s)) && (((c.toNat : Int) == 45) || ((c.toNat : Int) == 61))) = false) := by
      cases hall : (c :: (r ++ d :: s)).all (fun b => (b.toNat : Int) == c.toNat)
      · exact .inl (run_mid _ (c :: (r ++ d :: s)) z hall)
      · right
        have hs0 : signOf c (r ++ d :: s) = r.length + s.length + 2 := by
          have := run_whole _ _ [] hall
          rw [List.append_nil, hA] at this
          exact this
        have hs1 : signOf c (r ++ d :: s ++ z) = r.length + s.length + 2 + run (fun b => (b.toNat : Int) == c.toNat) z := by
          have := run_whole _ _ z hall
          rw [hA] at this
          exact this
        have heq := hne hall
        have hd : d = c := heq d (by simp)
        have hr : r = List.replicate r.length c := List.eq_replicate_iff.2 ⟨rfl, fun b hb => heq b (by simp [hb])⟩
        have hss : s = List.replicate s.length c := List.eq_replicate_iff.2 ⟨rfl, fun b hb => heq b (by simp [hb])⟩
        by_cases hc : c = 45 ∨ c = 61
        · have hcs : (((c.toNat : Int) == 45) || ((c.toNat : Int) == 61)) = true := by rcases hc with rfl | rfl <;> decide
          have hlt : ¬ 4 ≤ r.length + s.length + 2 := fun h4 => by
            rw [if_pos (by rw [hs0, hcs]; simp; omega)] at l1
            simp only [hs0] at l1
            omega
          have hz : run (fun b => (b.toNat : Int) == c.toNat) z = 0 ∧ r.length + s.length + 2 ≤ 3 := by
            refine ⟨?_, by omega⟩
            rcases hc with rfl | rfl
            · exfalso
              have hrs : (r.length = 0 ∧ s.length = 0) ∨ (r.length = 1 ∧ s.length = 0) ∨ (r.length = 0 ∧ s.length = 1) := by omega
              rcases hrs with ⟨q1, q2⟩ | ⟨q1, q2⟩ | ⟨q1, q2⟩
              · rw [q1] at hr; rw [q2] at hss
                subst hd; rw [hr, hss] at hsg
                simp [signsP] at hsg
              · rw [q1] at hr
                rw [hr] at hx
                have := two_minus
                simp only [List.replicate_succ, List.replicate_zero] at hx
                rw [this] at hx; cases hx
              · rw [q2] at hss
                rw [hss, hd] at hy
                have := two_minus
                simp only [List.replicate_succ, List.replicate_zero] at hy
                rw [this] at hy; cases hy
            · cases z with
              | nil => rfl
              | cons e z =>
                unfold run
                rw [List.takeWhile_cons]
                split
                · rename_i he
                  exfalso
                  have he61 : e = 61 := by
                    have h9 : (e.toNat : Int) = ((61 : UInt8).toNat : Int) := beq_iff_eq.1 he
                    exact UInt8.toNat_inj.1 (by omega)
                  subst hd he61
                  rcases Nat.eq_zero_or_pos r.length with q1 | q1
                  · rw [q1] at hr
                    rw [hr] at hxy
                    have := eq_eq s kx _ hxy
                    simp at this
                  · have q2 : s.length = 0 := by omega
                    rw [q2] at hss
                    rw [hss] at hyz
                    have := eq_eq z ky _ hyz
                    simp at this
                · rfl
          rw [hs0, hs1, hz.1]
          have : decide (4 ≤ r.length + s.length + 2) = false := by simp; omega
          rw [Nat.add_zero, this]
          exact ⟨rfl, rfl⟩
        · have hcs : (((c.toNat : Int) == 45) || ((c.toNat : Int) == 61)) = false := by
            rw [Bool.or_eq_false_iff]
            refine ⟨?_, ?_⟩
            · rw [beq_eq_false_iff_ne]; intro h; exact hc (.inl (byte_of c 45 (by decide) (by omega)))
            · rw [beq_eq_false_iff_ne]; intro h; exact hc (.inr (byte_of c 61 (by decide) (by omega)))
          rw [hcs]
          simp
    have hsymT : ¬ (decide (4 ≤ signOf c (r ++ d :: s)) && (((c.toNat : Int) == 45) || ((c.toNat : Int) == 61))) = true → symT c (r ++ d :: s ++ z) = symT c (r ++ d :: s) := fun hnr => by
      rw [if_neg hnr] at e1 l1
      have hsym : ∀ q, longest (c :: q) (longest (c :: q) 0 plainL) (othersL.map (·.1)) = longSym (c :: q) := fun _ => rfl
      unfold symT at e1 l1 ⊢
      simp only [hsym] at e1 l1 ⊢
      have hmid := run_mid (fun b => letterB b.toNat) (r ++ d :: s) z
      have hAl : (r ++ d :: s).length = r.length + s.length + 1 := by simp; omega
      have hlet : c = 92 → (r ++ d :: s).all (fun b => letterB b.toNat) = false := fun hc => by
        cases hal : (r ++ d :: s).all (fun b => letterB b.toNat)
        · rfl
        · exfalso
          have hk := run_whole _ _ [] hal
          rw [List.append_nil, hAl] at hk
          have hk : run (fun b => letterB b.toNat) (r ++ d :: s) = r.length + s.length + 1 := hk
          rw [hk, hc] at l1
          have : ((((92 : UInt8).toNat : Int) == 92) && decide (((r.length + s.length + 1 : Nat) : Int) > 0)) = true := by
            rw [Bool.and_eq_true]; exact ⟨by decide, by simp; omega⟩
          rw [this] at l1
          simp only [if_true] at l1
          omega
      have hcond : (((c.toNat : Int) == 92) && decide ((run (fun b => letterB b.toNat) (r ++ d :: s ++ z) : Int) > 0)) = (((c.toNat : Int) == 92) && decide ((run (fun b => letterB b.toNat) (r ++ d :: s) : Int) > 0)) ∧ (((c.toNat : Int) == 92) = true → run (fun b => letterB b.toNat) (r ++ d :: s ++ z) = run (fun b => letterB b.toNat) (r ++ d :: s)) := by
        cases h92 : ((c.toNat : Int) == 92)
        · exact ⟨rfl, fun h => by cases h⟩
        · have hc : c = 92 := byte_of c 92 (by decide) (by simp at h92; omega)
          rw [hmid (hlet hc)]
          exact ⟨rfl, fun _ => rfl⟩
      have hn : longSym (c :: (r ++ d :: s)) = r.length + 1 := by
        split at l1
        · rename_i hk
          rw [if_pos hk] at e1
          simp only at e1 l1
          split at e1
          · simp at e1
          · rename_i h5
            have : longSym (c :: (r ++ d :: s)) = (run (fun b => letterB b.toNat) (r ++ d :: s) : Int) + 1 := by simpa using h5
            omega
        · simp only at l1
          omega
      have hlong : longSym (c :: (r ++ d :: s ++ z)) = longSym (c :: (r ++ d :: s)) := by
        obtain ⟨_, g2, g3⟩ := longSym_spec (c :: (r ++ d :: s))
        obtain ⟨_, f2, f3⟩ := longSym_spec (c :: (r ++ d :: s ++ z))
        have hpre : c :: (r ++ d :: s) <+: c :: (r ++ d :: s ++ z) := ⟨z, by simp⟩
        rcases g2 with g2 | ⟨S, hS, hp, he⟩
        · omega
        have h1 := f3 S hS (hp.trans hpre)
        rcases f2 with f2 | ⟨S', hS', hp', he'⟩
        · omega
        rcases Nat.lt_or_ge (c :: (r ++ d :: s)).length S'.length with h2 | h2
        · exfalso
          rw [hA] at h2
          have hlg := syms_long S' hS'
          have hAS : c :: (r ++ d :: s) <+: S' := List.prefix_of_prefix_length_le hpre hp' (by rw [hA]; omega)
          obtain ⟨u, hu⟩ := hAS
          have hnl : c = 92 → False := fun hc => by
            have h3 := hlet hc
            rw [List.all_eq_false] at h3
            obtain ⟨b, hb, hbl⟩ := h3
            match S', hu, hlg, h2 with
            | [a], hu, _, h2 => simp at h2
            | a :: b2 :: S'', hu, hlg, h2 =>
              simp only [List.cons_append, List.cons.injEq] at hu
              obtain ⟨rfl, hu⟩ := hu
              rw [hc] at hlg
              simp only [longOk] at hlg
              split at hlg
              · rename_i hb2
                have hmem : b ∈ b2 :: S'' := by rw [← hu]; exact List.mem_append_left _ hb
                apply hbl
                rcases List.mem_cons.1 hmem with rfl | hm
                · exact hb2
                · exact List.all_eq_true.1 hlg b hm
              · simp only [List.isEmpty_iff] at hlg
                rw [hlg] at h2
                simp at h2
                omega
          have hshort : S'.length ≤ 3 := by
            unfold longOk at hlg
            split at hlg
            · exfalso
              simp only [List.cons_append, List.cons.injEq] at hu
              exact hnl hu.1
            · simpa using hlg
          have hr0 : r = [] := List.eq_nil_of_length_eq_zero (by omega)
          have hs0 : s = [] := List.eq_nil_of_length_eq_zero (by omega)
          subst hr0 hs0
          simp only [List.nil_append, List.cons_append] at hu
          match u, hu with
          | [], hu => rw [← hu] at h2; simp at h2
          | e :: [], hu =>
            have h3 := List.all_eq_true.1 three_syms S' hS'
            rw [← hu] at h3
            simp only [Bool.or_eq_true] at h3
            rcases h3 with ((((h3 | h3) | h3) | h3) | h3) | h3
            · exact hnl (by simpa using h3)
            · rw [hw] at h3; cases h3
            · have h4 := g3 [c, d] (mem_syms h3) (by simp)
              simp at h4 hn
              omega
            · rw [hx] at h3; simp at h3
            · rw [hy] at h3; simp at h3
            · rw [hsg] at h3; cases h3
          | e :: e2 :: u, hu => rw [← hu] at hshort; simp at hshort
        · have h3 : S' <+: c :: (r ++ d :: s) := List.prefix_of_prefix_length_le hp' hpre h2
          have h4 := g3 S' hS' h3
          omega
      rw [hcond.1, hlong]
      split
      · rename_i hk
        rw [Bool.and_eq_true] at hk
        rw [hcond.2 hk.1]
      · rfl
    rcases hsign with hs | ⟨hs1, hs2⟩
    · rw [hs]
      split
      · rfl
      · rename_i hnr
        exact hsymT hnr
    · rw [hs1, hs2]
      simp only [Bool.false_eq_true, if_false]
      exact hsymT (by rw [hs2]; simp)
  · rw [pieceT_word hw] at e1 l1 ⊢
    rw [pieceT_word hw]
    have hcz : c :: (r ++ d :: s ++ z) = (c :: (r ++ d :: s)) ++ z := rfl
    rw [hcz]
    have hdm : (c :: (r ++ d :: s)).all (fun b => digitB b.toNat) = false → digitsOf (c :: (r ++ d :: s) ++ z) = digitsOf (c :: (r ++ d :: s)) := digits_mid _ _
    cases hall : (c :: (r ++ d :: s)).all (fun b => wordB b.toNat)
    · have hda : (c :: (r ++ d :: s)).all (fun b => digitB b.toNat) = false := by
        rw [List.all_eq_false] at hall ⊢
        obtain ⟨b, hb, hbw⟩ := hall
        exact ⟨b, hb, fun hbd => hbw (digit_is_word b hbd)⟩
      rw [word_mid _ _ hall, hdm hda]
    · have hww : wordOf (c :: (r ++ d :: s)) = c :: (r ++ d :: s) := by
        have := word_whole _ [] hall
        rw [List.append_nil] at this
        rw [this]
        simp [wordOf, run]
      rw [word_whole _ _ hall]
      rw [hww] at e1 l1 ⊢
      split at l1
      · rename_i h1
        rw [if_pos h1, if_pos]
        rw [Bool.or_eq_true, hasPre_iff, hasPre_iff] at h1 ⊢
        rcases h1 with h1 | h1
        · exact .inl (h1.trans (List.prefix_append _ _))
        · exact .inr (h1.trans (List.prefix_append _ _))
      rename_i h1
      split at l1
      · simp only [hA] at l1
        omega
      rename_i h2
      have h2 := Bool.eq_false_iff.2 h2
      rw [List.any_eq_false] at h2
      -- the word of what follows has no letter either
      have hdw : wordB d.toNat = true := List.all_eq_true.1 hall d (by simp)
      have hyall : (d :: s).all (fun b => wordB b.toNat) = true := by
        rw [List.all_eq_true] at hall ⊢
        exact fun b hb => hall b (List.mem_cons_of_mem _ (List.mem_append_right _ hb))
      have hyw : wordOf (d :: (s ++ z)) = d :: s ++ wordOf z := by
        rw [← List.cons_append]; exact word_whole _ _ hyall
      have hzl : ∀ b ∈ wordOf z, letterB b.toNat = false := by
        rw [pieceT_word hdw, hyw] at l2
        split at l2
        · rename_i h3
          exfalso
          rw [Bool.or_eq_true, hasPre_iff, hasPre_iff] at h3
          have hd : d = 87 ∨ d = 83 := by
            rcases h3 with ⟨t, h3⟩ | ⟨t, h3⟩
            · simp at h3; exact .inl h3.1.symm
            · simp at h3; exact .inr h3.1.symm
          have := h2 d (by simp)
          rcases hd with rfl | rfl <;> simp [letterB, spansB] at this
        rename_i h3
        split at l2
        · rename_i h4
          simp only [List.length_append, List.length_cons] at l2
          have : wordOf z = [] := List.eq_nil_of_length_eq_zero (by omega)
          rw [this]; simp
        · rename_i h4
          have h4 := Bool.eq_false_iff.2 h4
          rw [List.any_eq_false] at h4
          exact fun b hb => by
            have := h4 b (by simp [hb])
            simpa using this
      have hnl : (c :: (r ++ d :: s) ++ wordOf z).any (fun b => letterB b.toNat) = false := by
        rw [List.any_eq_false]
        intro b hb
        rcases List.mem_append.1 hb with hb | hb
        · exact h2 b hb
        · rw [hzl b hb]; simp
      have hnl0 : (c :: (r ++ d :: s)).any (fun b => letterB b.toNat) = false := by
        rw [List.any_eq_false]; exact h2
      have hnw : ¬ (hasPre (c :: (r ++ d :: s) ++ wordOf z) [87, 70, 95] || hasPre (c :: (r ++ d :: s) ++ wordOf z) [83, 70, 95]) = true := fun hh => by
        rw [Bool.or_eq_true, hasPre_iff, hasPre_iff] at hh
        have hc : c = 87 ∨ c = 83 := by
          rcases hh with ⟨t, h3⟩ | ⟨t, h3⟩
          · simp at h3; exact .inl h3.1.symm
          · simp at h3; exact .inr h3.1.symm
        have := h2 c (by simp)
        rcases hc with rfl | rfl <;> simp [letterB, spansB] at this
      rw [if_neg hnw, if_neg h1, hnl, hnl0]
      simp only [Bool.false_eq_true, if_false]
      split
      · rename_i h3
        rw [if_pos h3] at l1
        have hda : (c :: (r ++ d :: s)).all (fun b => digitB b.toNat) = false := by
          cases hh : (c :: (r ++ d :: s)).all (fun b => digitB b.toNat)
          · rfl
          · exfalso
            rw [digits_whole _ hh, hA] at l1
            simp only at l1
            omega
        rw [hdm hda]
      · rfl
theorem first_join (x y z : Str) (kx ky : Int) (hx : oneTok x = some kx) (hy : oneTok y = some ky) (hxy : firstTok (x ++ y) = some (kx, (x.length : Int))) (hyz : firstTok (y ++ z) = some (ky, (y.length : Int))) (hsg : signsP x y = false) : firstTok (x ++ (y ++ z)) = some (kx, (x.length : Int)) := by
  cases x with
  | nil => simp [oneTok] at hx
  | cons c r =>
  cases y with
  | nil => simp [oneTok] at hy
  | cons d s =>
    have hxy : firstTok (c :: (r ++ d :: s)) = some (kx, ((c :: r).length : Int)) := hxy
    have hp := piece_join c d r s z kx ky hx hy hxy hyz hsg
    obtain ⟨n1, e1, k1, l1⟩ := len_first hxy
    have hrw : c :: r ++ (d :: s ++ z) = c :: (r ++ d :: s ++ z) := by simp
    rw [hrw]
    unfold firstTok
    simp only [hp]
    have hpre : ∀ a b : UInt8, hasPre (c :: (r ++ d :: s ++ z)) [a, b] = true → hasPre (c :: (r ++ d :: s)) [a, b] = true := fun a b h => by
      rw [hasPre_iff] at h ⊢
      exact List.prefix_of_prefix_length_le h ⟨z, by simp⟩ (by simp; omega)
    rw [if_neg, if_pos e1, k1, l1]
    intro hh
    apply n1
    simp only [Bool.or_eq_true] at hh ⊢
    rcases hh with ((hh | hh) | hh) | hh
    · exact .inl (.inl (.inl hh))
    · exact .inl (.inl (.inr (hpre _ _ hh)))
    · exact .inl (.inr (hpre _ _ hh))
    · exact .inr (hpre _ _ hh)
end Go.Proofs.YtlmmgblghgmgeaaGreatDoor

/- Reading again: lines in which tokens stand as they were read, and blanks elsewhere. -/
namespace Go.Proofs.YtlmmgblghgmgeaaGreatDoor
open Go Ev
set_option linter.unusedSimpArgs false

/-- A token is what is read at its place. -/
structure FirstAt (l : List Str) (t : Tk) : Prop where
  at_ : ∃ x y : Nat, t.line = x ∧ t.col = y ∧ ∃ h : x < l.length, y + t.text.length ≤ l[x].length ∧ (l[x].drop y).take t.text.length = t.text ∧ firstTok (l[x].drop y) = some (t.kind, (t.text.length : Int))
def EndsBy (t : Tk) (i j : Nat) : Prop := t.line < i ∨ (t.line = i ∧ t.col + t.text.length ≤ j)
/-- A token and a comment do not meet. -/
def Away (t : Tk) (c : Sp) : Prop := EndsBy t c.l0 c.c0 ∨ ((c.l1 : Int) < t.line ∨ ((c.l1 : Int) = t.line ∧ (c.c1 : Int) ≤ t.col))
/-- What is read of a text, up to a place: more of it. -/
structure Reading (l : List Str) (i j : Nat) (ts : List Tk) (cs : List Sp) : Prop where
  first : ∀ t ∈ ts, FirstAt l t
  ends : ∀ t ∈ ts, EndsBy t i j
  coms : ∀ c ∈ cs, c.l1 < i ∨ (c.l1 = i ∧ c.c1 ≤ j)
  away : ∀ t ∈ ts, ∀ c ∈ cs, Away t c
theorem Reading.later {l : List Str} {i j i' j' : Nat} {ts : List Tk} {cs : List Sp} (h : Reading l i j ts cs) (hle : i < i' ∨ (i = i' ∧ j ≤ j')) : Reading l i' j' ts cs where
  first := h.first
  ends t ht := by have := h.ends t ht; unfold EndsBy at this ⊢; omega
  coms c hc := by have := h.coms c hc; omega
  away := h.away
theorem Reading.com {l : List Str} {i j i' j' : Nat} {ts : List Tk} {cs : List Sp} (h : Reading l i j ts cs) (hle : i < i' ∨ (i = i' ∧ j ≤ j')) : Reading l i' j' ts (cs ++ [⟨i, j, i', j'⟩]) where
  first := h.first
  ends := (h.later hle).ends
  coms c hc := by
    rcases List.mem_append.1 hc with hc | hc
    · exact (h.later hle).coms c hc
    · rw [List.mem_singleton] at hc
      subst hc
      exact .inr ⟨rfl, Nat.le_refl _⟩
  away t ht c hc := by
    rcases List.mem_append.1 hc with hc | hc
    · exact h.away t ht c hc
    · rw [List.mem_singleton] at hc
      subst hc
      exact .inl (h.ends t ht)
theorem Reading.token {l : List Str} {i j : Nat} {ts : List Tk} {cs : List Sp} (h : Reading l i j ts cs) (hi : i < l.length) (k : Int) (n : Nat) (hn : j + n ≤ l[i].length) (hf : firstTok (l[i].drop j) = some (k, (n : Int))) : Reading l i (j + n) (ts ++ [⟨k, (l[i].drop j).take n, i, j⟩]) cs := by
  have hlen : ((l[i].drop j).take n).length = n := by rw [List.length_take, List.length_drop]; omega
  have hl := h.later (i' := i) (j' := j + n) (.inr ⟨rfl, by omega⟩)
  refine ⟨fun t ht => ?_, fun t ht => ?_, hl.coms, fun t ht c hc => ?_⟩
  · rcases List.mem_append.1 ht with ht | ht
    · exact h.first t ht
    · rw [List.mem_singleton] at ht
      subst ht
      refine ⟨i, j, rfl, rfl, hi, ?_, ?_, ?_⟩
      · simp only [hlen]; exact hn
      · simp only [hlen]
      · simp only [hlen]; exact hf
  · rcases List.mem_append.1 ht with ht | ht
    · exact hl.ends t ht
    · rw [List.mem_singleton] at ht
      subst ht
      refine .inr ⟨rfl, ?_⟩
      simp only [hlen]; omega
  · rcases List.mem_append.1 ht with ht | ht
    · exact h.away t ht c hc
    · rw [List.mem_singleton] at ht
      subst ht
      have := h.coms c hc
      refine .inr ?_
      simp only
      omega
theorem nextGo_reading (l : List Str) (n m : Nat) (s : St) (hi : s.i < l.length) (h : s.Ok l m) (hs : Reading l s.i s.j s.ts s.cs) (h0 : (nextGo l n s).1 = 0) : Reading l (nextGo l n s).2.i (nextGo l n s).2.j (nextGo l n s).2.ts (nextGo l n s).2.cs := by
  obtain ⟨i, j, ts, cs⟩ := s
  have hj := h.j hi
  simp only at hi hj hs
  have hle := lineLen_eq l i hi
  have hg : l.getD i [] = l[i] := by simp [List.getD_eq_getElem?_getD, hi]
  unfold nextGo at h0 ⊢
  simp only [hg] at h0 ⊢
  have hdl : (l[i].drop j).length = l[i].length - j := List.length_drop
  generalize hx : l[i].drop j = x at hdl h0 ⊢
  cases x with
  | nil => exact hs.later (.inl (Nat.lt_succ_self i))
  | cons c r =>
    simp only [List.length_cons] at hdl
    simp only at h0 ⊢
    split at h0
    · rename_i h1
      rw [if_pos h1]
      exact hs.later (.inr ⟨rfl, Nat.le_succ j⟩)
    rename_i h1
    rw [if_neg h1]
    split at h0
    · rename_i h2
      rw [if_pos h2]
      split at h0
      · rename_i h3
        rw [if_pos h3]
        obtain ⟨h7, h8⟩ := comGo_mono l n i j 0 _ rfl
        exact hs.com (by
          simp only at h7 h8 ⊢
          rcases Nat.lt_or_ge i (comGo l n i j 0).2.1 with h9 | h9
          · exact .inl h9
          · exact .inr ⟨by omega, h8 (by omega)⟩)
      · simp at h0
    rename_i h2
    rw [if_neg h2]
    split at h0
    · rename_i h3
      rw [if_pos h3]
      exact hs.com (.inr ⟨rfl, Nat.le_add_right _ _⟩)
    rename_i h3
    rw [if_neg h3]
    split at h0
    · simp at h0
    rename_i h4
    rw [if_neg h4]
    split at h0
    · rename_i h5
      simp only at h0
      rw [h0] at h5
      simp at h5
    rename_i h5
    rw [if_neg h5]
    have h6 : (pieceT c r).err = 0 := by simpa using h5
    have hf : firstTok (c :: r) = some ((pieceT c r).kind, (pieceT c r).len) := by
      unfold firstTok
      simp only
      rw [if_neg (by simp only [Bool.or_eq_true, not_or]; exact ⟨⟨⟨h1, h2⟩, h3⟩, h4⟩), if_pos h6]
    obtain ⟨p1, p2⟩ := first_pos _ _ _ hf
    simp only [List.length_cons] at p2
    have e : (pieceT c r).len = (((pieceT c r).len.toNat : Nat) : Int) := by omega
    rw [e] at hf
    rw [← hx] at hf ⊢
    exact hs.token hi _ _ (by omega) hf
theorem readLoop_reading (l : List Str) (n : Nat) : ∀ (k : Nat) (s : St) (m : Nat), s.Ok l m → Reading l s.i s.j s.ts s.cs → (readLoop l n k s).1 = 0 → Reading l (readLoop l n k s).2.i (readLoop l n k s).2.j (readLoop l n k s).2.ts (readLoop l n k s).2.cs
  | 0, s, m, h, hs, _ => hs
  | k + 1, s, m, h, hs, h0 => by
    rw [readLoop] at h0 ⊢
    split
    · rename_i hi
      rw [if_pos hi] at h0
      split
      · rename_i h1
        rw [if_pos h1] at h0
        simp [h0] at h1
      · rename_i h1
        rw [if_neg h1] at h0
        exact readLoop_reading l n k _ m (nextGo_ok l m n s hi h).1 (nextGo_reading l n m s hi h hs (by simpa using h1)) h0
    · exact hs
theorem readAll_reading (l : List Str) (h0 : (readAll l).1 = 0) : Reading l (readAll l).2.i (readAll l).2.j (readAll l).2.ts (readAll l).2.cs :=
  readLoop_reading l _ _ _ _ (st0_ok l) ⟨by simp [st0], by simp [st0], by simp [st0], by simp [st0]⟩ h0

/-- Tokens that stand in lines, and blanks elsewhere. -/
structure Laid0 (w : List Str) (ts : List Tk) : Prop where
  first : ∀ t ∈ ts, FirstAt w t
  asc : ts.Pairwise Before
  cover : ∀ x y : Nat, ∀ h : x < w.length, ∀ h2 : y < w[x].length, w[x][y] = 32 ∨ ∃ t ∈ ts, t.line = x ∧ t.col ≤ y ∧ (y : Int) < t.col + t.text.length
/-- A step of the reading, where a token stands. -/
theorem step_at (w : List Str) (N i j : Nat) (ts : List Tk) (cs : List Sp) (hi : i < w.length) (k : Int) (n : Nat) (h : firstTok (w[i].drop j) = some (k, (n : Int))) :
    nextGo w N ⟨i, j, ts, cs⟩ = (0, ⟨i, j + n, ts ++ [⟨k, (w[i].drop j).take n, i, j⟩], cs⟩) := by
  have hg : w.getD i [] = w[i] := by simp [List.getD_eq_getElem?_getD, hi]
  unfold nextGo
  simp only [hg]
  generalize w[i].drop j = t at h
  cases t with
  | nil => simp [firstTok] at h
  | cons c r =>
    obtain ⟨h1, h2, h3, h4⟩ := len_first h
    simp only [Bool.or_eq_true, not_or, Bool.not_eq_true] at h1
    obtain ⟨⟨⟨h1, h5⟩, h6⟩, h7⟩ := h1
    have h8 : ((pieceT c r).err != 0) = false := by simp [h2]
    simp only [h1, h5, h6, h7, h8, Bool.false_eq_true, if_false, h3, h4, Int.toNat_natCast]
theorem step_blank (w : List Str) (N i j : Nat) (ts : List Tk) (cs : List Sp) (hi : i < w.length) (hj : j < w[i].length) (h : w[i][j] = 32) : nextGo w N ⟨i, j, ts, cs⟩ = (0, ⟨i, j + 1, ts, cs⟩) := by
  have hg : w.getD i [] = w[i] := by simp [List.getD_eq_getElem?_getD, hi]
  unfold nextGo
  simp only [hg]
  rw [List.drop_eq_getElem_cons hj, h]
  rfl
theorem step_turn (w : List Str) (N i j : Nat) (ts : List Tk) (cs : List Sp) (hi : i < w.length) (hj : w[i].length ≤ j) : nextGo w N ⟨i, j, ts, cs⟩ = (0, ⟨i + 1, 0, ts, cs⟩) := by
  have hg : w.getD i [] = w[i] := by simp [List.getD_eq_getElem?_getD, hi]
  unfold nextGo
  simp only [hg]
  rw [List.drop_eq_nil_of_le hj]
theorem FirstAt.pos {w : List Str} {t : Tk} (h : FirstAt w t) : 0 < t.text.length := by
  obtain ⟨x, y, _, _, _, _, _, h⟩ := h
  have := first_pos _ _ _ h
  omega
theorem first_no_blank {x : Str} {k len : Int} (h : firstTok (32 :: x) = some (k, len)) : False := by
  unfold firstTok at h
  simp at h
theorem reread_loop {w : List Str} {ts : List Tk} (H : Laid0 w ts) (N M : Nat) : ∀ (K : Nat) (n i j : Nat), (⟨i, j, ts.take n, []⟩ : St).Ok w M → left w i j < K → n ≤ ts.length →
    (∀ (m : Nat) (hm : m < ts.length), m < n → EndsBy ts[m] i j) → (∀ (m : Nat) (hm : m < ts.length), n ≤ m → (i : Int) < ts[m].line ∨ ((i : Int) = ts[m].line ∧ (j : Int) ≤ ts[m].col)) →
    ∃ i' j', readLoop w N K ⟨i, j, ts.take n, []⟩ = (0, ⟨i', j', ts, []⟩)
  | 0, n, i, j, _, h, _, _, _ => by omega
  | K + 1, n, i, j, hok, hK, hn, hbef, haft => by
    rw [readLoop]
    have hat : ∀ (m : Nat) (hm : m < ts.length), FirstAt w ts[m] := fun m hm => H.first _ (List.getElem_mem hm)
    by_cases hi : i < w.length
    · simp only
      rw [if_pos hi]
      have hj : j ≤ w[i].length := by have := hok.j hi; simp only at this; rwa [lineLen_eq w i hi] at this
      have hstep := nextGo_ok w M N ⟨i, j, ts.take n, []⟩ hi hok
      rcases Nat.lt_or_ge j w[i].length with hjl | hjl
      · by_cases hb : w[i][j] = 32
        · rw [step_blank w N i j _ _ hi hjl hb] at hstep ⊢
          simp only [bne_self_eq_false, Bool.false_eq_true, if_false]
          refine reread_loop H N M K n i (j + 1) hstep.1 (by have := hstep.2 rfl; simp only at this; omega) hn (fun m hm hmn => ?_) (fun m hm hmn => ?_)
          · have := hbef m hm hmn
            unfold EndsBy at this ⊢
            omega
          · rcases haft m hm hmn with h1 | ⟨h1, h2⟩
            · exact .inl h1
            · refine .inr ⟨h1, ?_⟩
              obtain ⟨x, y, e1, e2, hx, _, _, hf⟩ := hat m hm
              have hxi : x = i := by omega
              subst hxi
              rcases Nat.lt_or_ge j y with h3 | h3
              · omega
              · exfalso
                have : y = j := by omega
                subst this
                rw [List.drop_eq_getElem_cons hjl, hb] at hf
                exact first_no_blank hf
        · rcases H.cover i j hi hjl with h1 | ⟨t, ht, c1, c2, c3⟩
          · exact absurd h1 hb
          obtain ⟨q, hq, rfl⟩ := List.getElem_of_mem ht
          have hqn : n ≤ q := by
            rcases Nat.lt_or_ge q n with h1 | h1
            · exfalso
              have := hbef q hq h1
              unfold EndsBy at this
              omega
            · exact h1
          have hcol : ts[q].col = j := by
            rcases haft q hq hqn with h1 | ⟨h1, h2⟩ <;> omega
          have hqe : q = n := by
            rcases Nat.lt_or_ge n q with h1 | h1
            · exfalso
              have hb2 := List.pairwise_iff_getElem.1 H.asc n q (by omega) hq h1
              have hp := (hat n (by omega)).pos
              have := haft n (by omega) (Nat.le_refl _)
              unfold Before at hb2
              omega
            · omega
          subst hqe
          obtain ⟨x, y, e1, e2, hx, hl, htx, hf⟩ := hat q hq
          have hxi : x = i := by omega
          have hyj : y = j := by omega
          subst hxi hyj
          rw [step_at w N x y _ _ hi _ _ hf] at hstep ⊢
          simp only [bne_self_eq_false, Bool.false_eq_true, if_false]
          have htk : (⟨ts[q].kind, (w[x].drop y).take ts[q].text.length, (x : Int), (y : Int)⟩ : Tk) = ts[q] := by
            rw [htx, ← e1, ← e2]
          have hts : ts.take q ++ [⟨ts[q].kind, (w[x].drop y).take ts[q].text.length, (x : Int), (y : Int)⟩] = ts.take (q + 1) := by
            rw [htk, List.take_succ_eq_append_getElem hq]
          rw [hts] at hstep ⊢
          refine reread_loop H N M K (q + 1) x (y + ts[q].text.length) hstep.1 (by have := hstep.2 rfl; simp only at this; omega) (by omega) (fun m hm hmn => ?_) (fun m hm hmn => ?_)
          · rcases Nat.lt_or_ge m q with h1 | h1
            · have := hbef m hm h1
              unfold EndsBy at this ⊢
              omega
            · have : m = q := by omega
              subst this
              unfold EndsBy
              omega
          · have hb2 := List.pairwise_iff_getElem.1 H.asc q m hq hm (by omega)
            unfold Before at hb2
            omega
      · rw [step_turn w N i j _ _ hi hjl] at hstep ⊢
        simp only [bne_self_eq_false, Bool.false_eq_true, if_false]
        refine reread_loop H N M K n (i + 1) 0 hstep.1 (by have := hstep.2 rfl; simp only at this; omega) hn (fun m hm hmn => ?_) (fun m hm hmn => ?_)
        · have := hbef m hm hmn
          unfold EndsBy at this ⊢
          omega
        · obtain ⟨x, y, e1, e2, hx, hl, _, hf⟩ := hat m hm
          have hp := (hat m hm).pos
          rcases haft m hm hmn with h1 | ⟨h1, h2⟩
          · omega
          · exfalso
            have hxi : x = i := by omega
            subst hxi
            omega
    · simp only
      rw [if_neg hi]
      have hnl : n = ts.length := by
        rcases Nat.lt_or_ge n ts.length with h1 | h1
        · exfalso
          obtain ⟨x, y, e1, e2, hx, _⟩ := hat n h1
          have := haft n h1 (Nat.le_refl _)
          omega
        · omega
      rw [hnl, List.take_length]
      exact ⟨i, j, rfl⟩
/-- Such lines are read as these tokens. -/
theorem reread {w : List Str} {ts : List Tk} (H : Laid0 w ts) : (readAll w).1 = 0 ∧ (readAll w).2.ts = ts := by
  obtain ⟨i', j', h⟩ := reread_loop H (total w + 1) (total w) (total w + 1) 0 0 0 (st0_ok w) (by unfold total; omega) (Nat.zero_le _) (fun m hm h => absurd h (Nat.not_lt_zero _)) (fun m hm _ => by
    obtain ⟨x, y, e1, e2, hx, _⟩ := H.first _ (List.getElem_mem hm)
    omega)
  have : readAll w = (0, ⟨i', j', ts, []⟩) := h
  rw [this]
  exact ⟨rfl, rfl⟩

/-- A text that is as another one up to a place, and then blank, or over, or as it. -/
theorem cut_of : ∀ (v u : Str) (n : Nat), (∀ i, i < n → v[i]? = u[i]?) → (∀ i, n ≤ i → v[i]? = u[i]? ∨ v[i]? = some 32 ∨ v[i]? = none) → n ≤ u.length → ∃ m, n ≤ m ∧ (v = u.take m ∨ ∃ z, v = u.take m ++ 32 :: z)
  | [], u, n, h1, _, hn => by
    cases n with
    | zero => exact ⟨0, Nat.le_refl _, .inl (by simp)⟩
    | succ n =>
      have := h1 0 (by omega)
      cases u with
      | nil => simp at hn
      | cons a u => simp at this
  | b :: v, u, n, h1, h2, hn => by
    have h0 : u[0]? = some b ∨ (n = 0 ∧ b = 32) := by
      rcases Nat.eq_zero_or_pos n with hz | hp
      · rcases h2 0 (by omega) with h | h | h
        · exact .inl (by rw [← h]; rfl)
        · exact .inr ⟨hz, by simpa using h⟩
        · simp at h
      · exact .inl (by rw [← h1 0 hp]; rfl)
    rcases h0 with h0 | ⟨rfl, rfl⟩
    · cases u with
      | nil => simp at h0
      | cons a u =>
        simp only [List.getElem?_cons_zero, Option.some.injEq] at h0
        subst h0
        obtain ⟨m, hm, hr⟩ := cut_of v u (n - 1) (fun i hi => by have := h1 (i + 1) (by omega); simpa using this) (fun i hi => by have := h2 (i + 1) (by omega); simpa using this) (by simp at hn; omega)
        refine ⟨m + 1, by omega, ?_⟩
        rcases hr with hr | ⟨z, hr⟩
        · exact .inl (by rw [hr, List.take_succ_cons])
        · exact .inr ⟨z, by rw [hr, List.take_succ_cons]; rfl⟩
    · exact ⟨0, Nat.le_refl _, .inr ⟨v, by simp⟩⟩
theorem first_of_cut {u v : Str} {k : Int} {n : Nat} (h : firstTok u = some (k, (n : Int))) (h1 : ∀ i, i < n → v[i]? = u[i]?) (h2 : ∀ i, n ≤ i → v[i]? = u[i]? ∨ v[i]? = some 32 ∨ v[i]? = none) : firstTok v = some (k, (n : Int)) := by
  have hp := first_pos _ _ _ h
  obtain ⟨m, hm, hv⟩ := cut_of v u n h1 h2 (by omega)
  have hc := first_cut u k n h m (by omega)
  rcases hv with hv | ⟨z, hv⟩
  · rw [hv]; exact hc
  · rw [hv]; exact first_blank _ z _ _ hc
/-- Lines in which the tokens of a text stand, and blanks elsewhere, are read as these tokens. -/
theorem laid_of {l w : List Str} {ts : List Tk} (hF : ∀ t ∈ ts, FirstAt l t) (asc : ts.Pairwise Before)
    (hin : ∀ t ∈ ts, ∃ x y : Nat, t.line = x ∧ t.col = y ∧ ∃ h : x < w.length, y + t.text.length ≤ w[x].length ∧ (w[x].drop y).take t.text.length = t.text)
    (cover : ∀ x y : Nat, ∀ h : x < w.length, ∀ h2 : y < w[x].length, w[x][y] = 32 ∨ ∃ t ∈ ts, t.line = x ∧ t.col ≤ y ∧ (y : Int) < t.col + t.text.length) : Laid0 w ts := by
  refine ⟨fun t ht => ?_, asc, cover⟩
  obtain ⟨x, y, e1, e2, hx, hl, htx⟩ := hin t ht
  refine ⟨x, y, e1, e2, hx, hl, htx, ?_⟩
  obtain ⟨x', y', f1, f2, hx', hl', htx', hf⟩ := hF t ht
  have hxx : x' = x := by omega
  have hyy : y' = y := by omega
  subst hxx hyy
  refine first_of_cut hf (fun i hi => ?_) (fun i hi => ?_)
  · have h1 : ((w[x'].drop y').take t.text.length)[i]? = ((l[x'].drop y').take t.text.length)[i]? := by rw [htx, htx']
    rwa [List.getElem?_take_of_lt hi, List.getElem?_take_of_lt hi] at h1
  · rw [List.getElem?_drop, List.getElem?_drop]
    rcases Nat.lt_or_ge (y' + i) w[x'].length with h1 | h1
    · rcases cover x' (y' + i) hx h1 with h2 | ⟨t2, ht2, c1, c2, c3⟩
      · right; left
        rw [List.getElem?_eq_getElem h1, h2]
      · left
        obtain ⟨x2, y2, a1, a2, _, _, ha⟩ := hin t2 ht2
        obtain ⟨x3, y3, b1, b2, _, _, hb, _⟩ := hF t2 ht2
        have g1 : x2 = x' := by omega
        have g2 : x3 = x' := by omega
        have g3 : y3 = y2 := by omega
        subst g1 g2 g3
        have hlt : y' + i - y3 < t2.text.length := by omega
        have h3 : ((w[x3].drop y3).take t2.text.length)[y' + i - y3]? = ((l[x3].drop y3).take t2.text.length)[y' + i - y3]? := by rw [ha, hb]
        rw [List.getElem?_take_of_lt hlt, List.getElem?_take_of_lt hlt, List.getElem?_drop, List.getElem?_drop] at h3
        have g4 : y3 + (y' + i - y3) = y' + i := by omega
        rw [g4] at h3
        exact h3
    · right; right
      exact List.getElem?_eq_none h1
end Go.Proofs.YtlmmgblghgmgeaaGreatDoor

/- Reading again: the text without its comments, and tokens printed at their places. -/
namespace Go.Proofs.YtlmmgblghgmgeaaGreatDoor
open Go Ev
set_option linter.unusedSimpArgs false

theorem linesGo_ok : ∀ (l : List Str) (n : Int), (∀ s ∈ l, lineErr s = 0) → (linesGo l n).2 = 0
  | [], n, _ => rfl
  | s :: r, n, h => by
    unfold linesGo
    rw [h s (by simp)]
    exact linesGo_ok r (n + 1) fun x hx => h x (List.mem_cons_of_mem _ hx)
theorem lineErr_ok {s : Str} (h1 : s.length ≤ 120) (h2 : oddS s = false) : lineErr s = 0 := by
  unfold lineErr
  have : decide ((s.length : Int) > 120) = false := by simp; omega
  rw [this, h2]; rfl
theorem checkLines_ok {l : List Str} (h1 : l.length ≤ 300) (h2 : ∀ s ∈ l, s.length ≤ 120 ∧ oddS s = false) : (checkLinesP l).2 = 0 := by
  unfold checkLinesP
  have : decide ((l.length : Int) > 300) = false := by simp; omega
  rw [this]
  exact linesGo_ok l 0 fun s hs => lineErr_ok (h2 s hs).1 (h2 s hs).2
theorem readP_ok {l : List Str} (h0 : (readP l).err = 0) : (checkLinesP l).2 = 0 ∧ (readAll l).1 = 0 ∧ (readAll l).2.ts.length ≤ 1200 ∧ (readP l).ts = (readAll l).2.ts ∧ (readP l).cs = (readAll l).2.cs := by
  unfold readP at h0 ⊢
  split at h0
  · rename_i h; simp only at h0; rw [h0] at h; simp at h
  rename_i h1
  split at h0
  · rename_i h; simp only at h0; rw [h0] at h; simp at h
  rename_i h2
  split at h0
  · simp at h0
  rename_i h3
  rw [if_neg h1, if_neg h2, if_neg h3]
  refine ⟨by simpa using h1, by simpa using h2, by simp at h3; omega, rfl, rfl⟩
theorem readP_of {l : List Str} (h1 : (checkLinesP l).2 = 0) (h2 : (readAll l).1 = 0) (h3 : (readAll l).2.ts.length ≤ 1200) : (readP l).err = 0 ∧ (readP l).ts = (readAll l).2.ts := by
  unfold readP
  have e3 : decide (((readAll l).2.ts.length : Int) > 1200) = false := by simp; omega
  rw [h1, h2, e3]
  exact ⟨rfl, rfl⟩
theorem odd_all {s : Str} : oddS s = false ↔ ∀ b ∈ s, oddRune b.toNat = false := by
  rw [oddS_any, List.any_eq_false]
  exact ⟨fun h b hb => by simpa using h b hb, fun h b hb => by rw [h b hb]; simp⟩

/-- The text without its comments is read as the same tokens. -/
theorem again_without {l : List Str} (h0 : (readP l).err = 0) : (readP (withoutP l (readP l).cs)).err = 0 ∧ (readP (withoutP l (readP l).cs)).ts = (readP l).ts := by
  obtain ⟨h1, h2, h3, h4, h5⟩ := readP_ok h0
  rw [h4, h5]
  obtain ⟨hsp, _⟩ := readAll_spans l
  obtain ⟨hl1, hl2⟩ := checkLines_small h1
  have hR := readAll_reading l h2
  have hS := readAll_standing l h2
  have hE := readAll_end l h2
  generalize (readAll l).2.ts = ts at hR hS h3
  generalize (readAll l).2.cs = cs at hR hS hsp
  have hlen := withoutP_len2 l cs hsp
  have hget := withoutP_get l cs hsp
  have hline : ∀ x (hx : x < l.length) (hw : x < (withoutP l cs).length), (withoutP l cs)[x] = blankChars cs x 0 l[x] := fun x hx hw => by
    have := hget x
    rw [if_pos hx, line_is l x hx, line_is _ x hw] at this
    exact this
  have hk : ∀ x (hx : x < l.length) (hw : x < (withoutP l cs).length) (k : Nat), (withoutP l cs)[x][k]? = (l[x][k]?).map fun b => if withinP cs x (k : Int) then 32 else b := fun x hx hw k => by
    rw [hline x hx hw, blankChars_get, Nat.zero_add]
  have hL : Laid0 (withoutP l cs) ts := by
    refine laid_of (l := l) hR.first hS.asc (fun t ht => ?_) (fun x y hx hy => ?_)
    · obtain ⟨x, y, e1, e2, hx, hl, htx, _⟩ := hR.first t ht
      have hw : x < (withoutP l cs).length := by omega
      refine ⟨x, y, e1, e2, hw, ?_, ?_⟩
      · rw [hline x hx hw, blankChars_len]; exact hl
      · rw [← htx, htx]
        refine Eq.trans ?_ htx
        apply List.ext_getElem?
        intro i
        rcases Nat.lt_or_ge i t.text.length with hi | hi
        · rw [List.getElem?_take_of_lt hi, List.getElem?_take_of_lt hi, List.getElem?_drop, List.getElem?_drop, hk x hx hw]
          have hno : withinP cs x ((y + i : Nat) : Int) = false := by
            unfold withinP
            rw [List.any_eq_false]
            intro c hc hin
            have hin := (inSpan_nat x (y + i) c).1 hin
            have haw := hR.away t ht c hc
            unfold Away EndsBy at haw
            omega
          rw [hno]
          simp
        · rw [List.getElem?_eq_none (by rw [List.length_take]; omega), List.getElem?_eq_none (by rw [List.length_take]; omega)]
    · have hx' : x < l.length := by omega
      have hy' : y < l[x].length := by rw [hline x hx' hx, blankChars_len] at hy; exact hy
      have hat : (withoutP l cs)[x][y] = ((withoutP l cs).getD x []).getD y 0 := by
        rw [line_is _ x hx]; simp [List.getD_eq_getElem?_getD, hy]
      rcases hS.cover x y hx' hy' (.inl (by omega)) with h | h | h
      · left; rw [hat]; exact withoutP_at l cs hsp x y hx' hy' (.inl h)
      · left; rw [hat]; exact withoutP_at l cs hsp x y hx' hy' (.inr h)
      · exact .inr h
  obtain ⟨r1, r2⟩ := reread hL
  have hck : (checkLinesP (withoutP l cs)).2 = 0 := by
    refine checkLines_ok (by omega) fun s hs => ?_
    obtain ⟨x, hx, rfl⟩ := List.getElem_of_mem hs
    have hx' : x < l.length := by omega
    obtain ⟨q1, q2⟩ := hl2 l[x] (List.getElem_mem hx')
    refine ⟨by rw [hline x hx' hx, blankChars_len]; exact q1, ?_⟩
    rw [odd_all] at q2 ⊢
    intro b hb
    obtain ⟨k, hkl, rfl⟩ := List.getElem_of_mem hb
    have := hk x hx' hx k
    rw [List.getElem?_eq_getElem hkl] at this
    obtain ⟨b0, hb0, he⟩ := Option.map_eq_some_iff.1 this.symm
    rw [← he]
    split
    · decide
    · exact q2 b0 (List.mem_of_getElem? hb0)
  have := readP_of hck r1 (by rw [r2]; exact h3)
  rw [r2] at this
  exact this

/-! Tokens printed. -/
/-- The tokens put so far stand in the lines; elsewhere there are blanks. -/
structure Put (done : List Tk) (out : List Str) : Prop where
  in_ : ∀ t ∈ done, t.line.toNat < out.length ∧ t.col.toNat + t.text.length ≤ (out.getD t.line.toNat []).length ∧ ((out.getD t.line.toNat []).drop t.col.toNat).take t.text.length = t.text
  cover : ∀ x y : Nat, y < (out.getD x []).length → (out.getD x []).getD y 0 = 32 ∨ ∃ t ∈ done, t.line = x ∧ t.col ≤ y ∧ (y : Int) < t.col + t.text.length
  shown : ∀ s ∈ out, oddS s = false
theorem putTok_get (out : List Str) (t : Tk) (h : out.length ≤ t.line.toNat + 1) (x : Nat) : (putTok out t).getD x [] = if x = t.line.toNat then out.getD t.line.toNat [] ++ (List.replicate (t.col - (out.getD t.line.toNat []).length).toNat 32 ++ t.text) else out.getD x [] := by
  have hp := padTo_len out (t.line.toNat + 1) h
  have hg := padTo_get out (t.line.toNat + 1)
  unfold putTok
  rw [hg, List.getD_eq_getElem?_getD, List.getElem?_set]
  by_cases hx : t.line.toNat = x
  · subst hx
    rw [if_pos rfl, if_pos (by omega), if_pos rfl]; rfl
  · rw [if_neg hx, if_neg (fun e => hx e.symm), ← List.getD_eq_getElem?_getD, hg]
theorem putTok_len (out : List Str) (t : Tk) (h : out.length ≤ t.line.toNat + 1) : (putTok out t).length = t.line.toNat + 1 := by
  unfold putTok; rw [List.length_set, padTo_len out _ h]
theorem putTok_put {p : Option Tk} {done : List Tk} {out : List Str} {t : Tk} (hI : PrInv p out) (h : stepErr p t = 0) (hP : Put done out) : Put (done ++ [t]) (putTok out t) := by
  obtain ⟨h1, h2, h3⟩ := room hI h
  obtain ⟨r1, r2, r3, r4, r5⟩ := check_range h1
  have hle : out.length ≤ t.line.toNat + 1 := by omega
  have hget := putTok_get out t hle
  have hlen := putTok_len out t hle
  generalize hold : out.getD t.line.toNat [] = old at h3 hget
  have hnl : (old ++ (List.replicate (t.col - old.length).toNat 32 ++ t.text)).length = t.col.toNat + t.text.length := by
    simp only [List.length_append, List.length_replicate]; omega
  refine ⟨fun u hu => ?_, fun x y hy => ?_, fun s hs => ?_⟩
  · rcases List.mem_append.1 hu with hu | hu
    · obtain ⟨q1, q2, q3⟩ := hP.in_ u hu
      rw [hlen, hget]
      split
      · rename_i he
        rw [he, hold] at q2 q3
        refine ⟨by omega, by rw [List.length_append]; omega, ?_⟩
        rw [List.drop_append_of_le_length (by omega), List.take_append_of_le_length (by rw [List.length_drop]; omega)]
        exact q3
      · exact ⟨by omega, q2, q3⟩
    · rw [List.mem_singleton] at hu
      subst hu
      rw [hlen, hget, if_pos rfl]
      refine ⟨by omega, by rw [hnl]; exact Nat.le_refl _, ?_⟩
      have e : u.col.toNat = (old ++ List.replicate (u.col - old.length).toNat 32).length := by
        simp only [List.length_append, List.length_replicate]; omega
      rw [← List.append_assoc, e, List.drop_left, List.take_length]
  · rw [hget] at hy ⊢
    split at hy
    · rename_i he
      rw [if_pos he]
      rw [hnl] at hy
      rcases Nat.lt_or_ge y old.length with hy1 | hy1
      · have := hP.cover x y (by rw [he, hold]; exact hy1)
        rw [he, hold] at this
        rw [List.getD_eq_getElem?_getD, List.getElem?_append_left hy1, ← List.getD_eq_getElem?_getD]
        rcases this with h | ⟨u, hu, a1, a2, a3⟩
        · exact .inl h
        · exact .inr ⟨u, by simp [hu], by rw [he]; exact a1, a2, a3⟩
      · rcases Nat.lt_or_ge y t.col.toNat with hy2 | hy2
        · left
          rw [List.getD_eq_getElem?_getD, List.getElem?_append_right hy1, List.getElem?_append_left (by rw [List.length_replicate]; omega), List.getElem?_replicate, if_pos (by omega)]
          rfl
        · right
          exact ⟨t, by simp, by omega, by omega, by omega⟩
    · rename_i he
      rw [if_neg he]
      rcases hP.cover x y hy with h | ⟨u, hu, a⟩
      · exact .inl h
      · exact .inr ⟨u, by simp [hu], a⟩
  · obtain ⟨x, hx, rfl⟩ := List.getElem_of_mem hs
    have := hget x
    rw [line_is _ x hx] at this
    rw [this]
    have hold2 : oddS old = false := by
      rw [← hold, List.getD_eq_getElem?_getD]
      cases he : out[t.line.toNat]? with
      | none => simp [oddS_any]
      | some o => exact hP.shown o (List.mem_of_getElem? he)
    split
    · have ht := (right_tok t r5).2
      rw [odd_all] at hold2 ht ⊢
      intro b hb
      rcases List.mem_append.1 hb with hb | hb
      · exact hold2 b hb
      · rcases List.mem_append.1 hb with hb | hb
        · rw [(List.mem_replicate.1 hb).2]; decide
        · exact ht b hb
    · rw [List.getD_eq_getElem?_getD]
      cases he : out[x]? with
      | none => simp [oddS_any]
      | some o => exact hP.shown o (List.mem_of_getElem? he)
/-- Each token may stand behind the one before. -/
def Chain : Option Tk → List Tk → Prop
  | _, [] => True
  | p, t :: r => stepErr p t = 0 ∧ Chain (some t) r
theorem printGo_put : ∀ (l : List Tk) (p : Option Tk) (i : Nat) (out : List Str) (done : List Tk), PrInv p out → Put done out → Chain p l → (printGo l p i out).err = 0 ∧ Put (done ++ l) (printGo l p i out).out
  | [], p, i, out, done, _, hP, _ => ⟨rfl, by rw [List.append_nil]; exact hP⟩
  | t :: r, p, i, out, done, hI, hP, hC => by
    obtain ⟨h1, h2⟩ := hC
    unfold printGo
    rw [if_pos h1]
    have := printGo_put r (some t) (i + 1) (putTok out t) (done ++ [t]) (putTok_inv hI h1) (putTok_put hI h1 hP) h2
    rw [List.append_assoc] at this
    exact this
theorem sameLen_refl : ∀ l : List Tk, sameLen l l = l.length
  | [] => rfl
  | t :: r => by
    have h : sameTk t t = true := by simp [sameTk]
    simp [sameLen, h, sameLen_refl r]
/-- Two tokens that stand side by side in a text need not be apart. -/
theorem behind_placed {l : List Str} {a b : Tk} (hl : ∀ s ∈ l, oddS s = false) (ha : FirstAt l a) (hb : FirstAt l b) (h : Before a b) : behindP a b = 0 := by
  obtain ⟨x, y, e1, e2, hx, hlx, htx, hf⟩ := ha
  obtain ⟨x2, y2, f1, f2, hx2, hlx2, htx2, hf2⟩ := hb
  have oa : ∀ (t : Tk) (x y : Nat) (hx : x < l.length), (l[x].drop y).take t.text.length = t.text → oddS t.text = false := fun t x y hx h => by
    have := hl l[x] (List.getElem_mem hx)
    rw [odd_all] at this ⊢
    intro b hb
    rw [← h] at hb
    exact this b (List.mem_of_mem_drop (List.mem_of_mem_take hb))
  have o1 := oa a x y hx htx
  have o2 := oa b x2 y2 hx2 htx2
  have t1 : oneTok a.text = some a.kind := by
    have := first_alone _ _ _ hf
    rw [Int.toNat_natCast, htx] at this
    exact this
  have t2 : oneTok b.text = some b.kind := by
    have := first_alone _ _ _ hf2
    rw [Int.toNat_natCast, htx2] at this
    exact this
  unfold behindP
  have h1 : (decide (b.line < a.line) || (b.line == a.line && decide (b.col < a.col + a.text.length))) = false := by
    unfold Before at h
    rw [Bool.or_eq_false_iff, Bool.and_eq_false_iff]
    simp only [decide_eq_false_iff_not, beq_eq_false_iff_ne, ne_eq]
    omega
  have h2 : ((b.line == a.line && b.col == a.col + a.text.length) && apartP a b) = false := by
    cases hc : (b.line == a.line && b.col == a.col + a.text.length)
    · rfl
    · simp only [Bool.and_eq_true, beq_iff_eq] at hc
      have g1 : x2 = x := by omega
      have g2 : y2 = y + a.text.length := by omega
      subst g1 g2
      have hcut := first_cut _ _ _ hf (a.text.length + b.text.length) (by omega)
      have hab : (l[x2].drop y).take (a.text.length + b.text.length) = a.text ++ b.text := by
        rw [List.take_add, htx, List.drop_drop, htx2]
      rw [hab] at hcut
      unfold apartP
      rw [isRead_two a b t1 t2 o1 o2, hcut]
      simp
  rw [h1, h2]
  rfl
theorem chain_of {l : List Str} (hl : l.length ≤ 300) (hc : ∀ s ∈ l, s.length ≤ 120 ∧ oddS s = false) {I J : Nat} : ∀ (ts : List Tk) (p : Option Tk), (∀ t ∈ ts, FirstAt l t ∧ Stands l I J t) → (∀ a, p = some a → FirstAt l a ∧ ∀ t ∈ ts, Before a t) → ts.Pairwise Before → Chain p ts
  | [], p, _, _, _ => trivial
  | t :: r, p, hF, hp, hA => by
    obtain ⟨h1, h2⟩ := List.pairwise_cons.1 hA
    obtain ⟨f1, f2⟩ := hF t (by simp)
    refine ⟨?_, chain_of hl hc r (some t) (fun u hu => hF u (List.mem_cons_of_mem _ hu)) (fun a ha => by simp only [Option.some.injEq] at ha; subst ha; exact ⟨f1, h1⟩) h2⟩
    unfold stepErr
    rw [if_pos (check_placed f2 hl hc)]
    cases p with
    | none => rfl
    | some a =>
      obtain ⟨q1, q2⟩ := hp a rfl
      exact behind_placed (fun s hs => (hc s hs).2) q1 f1 (q2 t (by simp))
/-- Tokens of a text, printed at their places, are read as they were. -/
theorem again_printed {l : List Str} (h0 : (readP l).err = 0) : (printP (readP l).ts).err = 0 ∧ (printP (readP l).ts).i = (printP (readP l).ts).out.length ∧ (readP (printP (readP l).ts).out).err = 0 ∧ (readP (printP (readP l).ts).out).ts = (readP l).ts := by
  obtain ⟨h1, h2, h3, h4, _⟩ := readP_ok h0
  rw [h4]
  obtain ⟨hl1, hl2⟩ := checkLines_small h1
  have hR := readAll_reading l h2
  have hS := readAll_standing l h2
  generalize (readAll l).2.ts = ts at hR hS h3
  have hC : Chain none ts := chain_of hl1 hl2 ts none (fun t ht => ⟨hR.first t ht, hS.each t ht⟩) (fun a ha => by cases ha) hS.asc
  obtain ⟨g1, g2⟩ := printGo_put ts none 0 [] [] printGo_start ⟨by simp, by simp, by simp⟩ hC
  obtain ⟨g3, g4⟩ := printGo_inv ts none 0 [] printGo_start g1
  rw [List.nil_append] at g2
  have hL : Laid0 (printGo ts none 0 []).out ts := by
    refine laid_of (l := l) hR.first hS.asc (fun t ht => ?_) (fun x y hx hy => ?_)
    · obtain ⟨x, y, e1, e2, hx, hl, htx, _⟩ := hR.first t ht
      obtain ⟨q1, q2, q3⟩ := g2.in_ t ht
      have gx : t.line.toNat = x := by omega
      have gy : t.col.toNat = y := by omega
      rw [gx] at q1 q2 q3
      rw [gy] at q2 q3
      rw [line_is _ x q1] at q2 q3
      exact ⟨x, y, e1, e2, q1, q2, q3⟩
    · have := g2.cover x y (by rw [line_is _ x hx]; exact hy)
      rw [line_is _ x hx] at this
      rcases this with h | h
      · left; simpa [List.getD_eq_getElem?_getD, hy] using h
      · exact .inr h
  obtain ⟨r1, r2⟩ := reread hL
  have hP : printP ts = ⟨(printGo ts none 0 []).out, (printGo ts none 0 []).out.length, 0⟩ := by
    unfold printP
    rw [if_neg (by omega), if_pos g1, r2, sameLen_refl, if_neg (by omega)]
  rw [hP]
  have hck := checkLines_ok g4 fun s hs => ⟨g3 s hs, g2.shown s hs⟩
  have := readP_of hck r1 (by rw [r2]; exact h3)
  rw [r2] at this
  exact ⟨rfl, rfl, this⟩
end Go.Proofs.YtlmmgblghgmgeaaGreatDoor

/- Reading again: tokens joined. -/
namespace Go.Proofs.YtlmmgblghgmgeaaGreatDoor
open Go Ev
set_option linter.unusedSimpArgs false

/-- What follows a token, or nothing, in the joined text. -/
def tailText : Option Tk → List Tk → Str
  | _, [] => []
  | p, t :: r => gapP p t ++ (t.text ++ tailText (some t) r)
theorem joinGo_text : ∀ (l : List Tk) (p : Option Tk) (s : Str), (∀ t ∈ l, textErrP t = 0) → joinGo l p s = (s ++ tailText p l, 0)
  | [], p, s, _ => by simp [joinGo, tailText]
  | t :: r, p, s, h => by
    rw [joinGo, if_pos (h t (by simp)), joinGo_text r _ _ fun u hu => h u (List.mem_cons_of_mem _ hu)]
    simp [tailText]
theorem first_tail : ∀ (r : List Tk) (t : Tk), (∀ u ∈ t :: r, textErrP u = 0) → firstTok (t.text ++ tailText (some t) r) = some (t.kind, (t.text.length : Int))
  | [], t, h => by
    have := (right_tok t (h t (by simp))).1
    rw [oneTok_first] at this
    simpa [tailText] using this
  | u :: r, t, h => by
    have ht := h t (by simp)
    have hu := h u (by simp)
    obtain ⟨t1, t2⟩ := right_tok t ht
    obtain ⟨u1, u2⟩ := right_tok u hu
    have ih := first_tail r u fun v hv => h v (List.mem_cons_of_mem _ hv)
    unfold tailText gapP
    simp only
    cases hs : spacedP t u
    · simp only [Bool.false_eq_true, if_false, List.nil_append]
      unfold spacedP at hs
      rw [Bool.or_eq_false_iff, ← apart_same t u ht hu] at hs
      obtain ⟨hs1, hs2⟩ := hs
      have hxy : firstTok (t.text ++ u.text) = some (t.kind, (t.text.length : Int)) := by
        unfold apartP at hs1
        rw [isRead_two t u t1 u1 t2 u2] at hs1
        simpa using hs1
      exact first_join _ _ _ _ _ t1 u1 hxy ih hs2
    · simp only [if_true, List.cons_append, List.nil_append]
      exact first_blank _ _ _ _ ((oneTok_first _ _).1 t1)
/-- Kinds and texts. -/
def kt (l : List Tk) : List (Int × Str) := l.map fun t => (t.kind, t.text)
theorem read_tail (s : Str) (N : Nat) : ∀ (l : List Tk) (p : Option Tk) (j : Nat) (acc : List Tk) (K : Nat), s.drop j = tailText p l → j ≤ s.length → (∀ t ∈ l, textErrP t = 0) → s.length + 1 - j < K → 
    ∃ l', readLoop [s] N K ⟨0, j, acc, []⟩ = (0, ⟨1, 0, acc ++ l', []⟩) ∧ kt l' = kt l
  | [], p, j, acc, K, hd, hj, _, hK => by
    have hjl : s.length ≤ j := by
      have := congrArg List.length hd
      rw [List.length_drop] at this
      simp [tailText] at this; omega
    obtain ⟨K, rfl⟩ : ∃ q, K = q + 2 := ⟨K - 2, by omega⟩
    refine ⟨[], ?_, rfl⟩
    rw [readLoop, if_pos (by simp), step_turn [s] N 0 j acc [] (by simp) hjl]
    simp only [bne_self_eq_false, Bool.false_eq_true, if_false]
    rw [readLoop, if_neg (by simp), List.append_nil]
  | t :: r, p, j, acc, K, hd, hj, he, hK => by
    have ht := he t (by simp)
    have hf := first_tail r t he
    have hpos := first_pos _ _ _ hf
    -- behind the gap
    have main : ∀ (j : Nat) (K : Nat), s.drop j = t.text ++ tailText (some t) r → j ≤ s.length → s.length + 1 - j < K → ∃ l', readLoop [s] N K ⟨0, j, acc, []⟩ = (0, ⟨1, 0, acc ++ l', []⟩) ∧ kt l' = kt (t :: r) := fun j K hd hj hK => by
      have hlen := congrArg List.length hd
      rw [List.length_drop, List.length_append] at hlen
      have hf' : firstTok (([s] : List Str)[0].drop j) = some (t.kind, (t.text.length : Int)) := by
        show firstTok (s.drop j) = _
        rw [hd]; exact hf
      obtain ⟨K, rfl⟩ : ∃ q, K = q + 1 := ⟨K - 1, by omega⟩
      have hd2 : s.drop (j + t.text.length) = tailText (some t) r := by
        rw [← List.drop_drop, hd, List.drop_left]
      obtain ⟨l', h1, h2⟩ := read_tail s N r (some t) (j + t.text.length) (acc ++ [⟨t.kind, (([s] : List Str)[0].drop j).take t.text.length, ((0 : Nat) : Int), (j : Int)⟩]) K hd2 (by omega) (fun u hu => he u (List.mem_cons_of_mem _ hu)) (by omega)
      refine ⟨⟨t.kind, (([s] : List Str)[0].drop j).take t.text.length, ((0 : Nat) : Int), (j : Int)⟩ :: l', ?_, ?_⟩
      · rw [readLoop, if_pos (by simp), step_at [s] N 0 j acc [] (by simp) _ _ hf']
        simp only [bne_self_eq_false, Bool.false_eq_true, if_false]
        rw [h1, List.append_assoc]
        rfl
      · have : (([s] : List Str)[0].drop j).take t.text.length = t.text := by
          show (s.drop j).take _ = _
          rw [hd, List.take_left]
        unfold kt at h2 ⊢
        rw [List.map_cons, List.map_cons, h2, this]
    rw [tailText] at hd
    by_cases hg : gapP p t = []
    · rw [hg, List.nil_append] at hd
      exact main j K hd hj hK
    · have hg1 : gapP p t = [32] := by
        unfold gapP at hg ⊢
        cases p with
        | none => exact absurd rfl hg
        | some a =>
          simp only at hg ⊢
          split at hg
          · rename_i h; rw [if_pos h]
          · exact absurd rfl hg
      rw [hg1] at hd
      have hjl : j < s.length := by
        have := congrArg List.length hd
        rw [List.length_drop] at this
        simp at this; omega
      obtain ⟨K, rfl⟩ : ∃ q, K = q + 1 := ⟨K - 1, by omega⟩
      have hb : s[j] = 32 ∧ s.drop (j + 1) = t.text ++ tailText (some t) r := by
        rw [List.drop_eq_getElem_cons hjl] at hd
        exact ⟨(List.cons.inj hd).1, (List.cons.inj hd).2⟩
      obtain ⟨l', h1, h2⟩ := main (j + 1) K hb.2 (by omega) (by omega)
      refine ⟨l', ?_, h2⟩
      rw [readLoop, if_pos (by simp), step_blank [s] N 0 j acc [] (by simp) hjl hb.1]
      simp only [bne_self_eq_false, Bool.false_eq_true, if_false]
      exact h1
theorem tail_odd : ∀ (l : List Tk) (p : Option Tk), (∀ t ∈ l, textErrP t = 0) → oddS (tailText p l) = false
  | [], p, _ => by simp [tailText, oddS_any]
  | t :: r, p, h => by
    have h1 := (right_tok t (h t (by simp))).2
    have h2 := tail_odd r (some t) fun u hu => h u (List.mem_cons_of_mem _ hu)
    rw [odd_all] at h1 h2 ⊢
    intro b hb
    rw [tailText] at hb
    rcases List.mem_append.1 hb with hb | hb
    · unfold gapP at hb
      cases p with
      | none => simp at hb
      | some a =>
        simp only at hb
        split at hb
        · rw [List.mem_singleton] at hb; rw [hb]; decide
        · simp at hb
    · rcases List.mem_append.1 hb with hb | hb
      · exact h1 b hb
      · exact h2 b hb
/-- Tokens of a text, joined: too long, or, as one line, of the same kinds and texts. -/
theorem again_joined {l : List Str} (h0 : (readP l).err = 0) : (joinP (readP l).ts).2 = 0 ∨ (joinP (readP l).ts).2 = 2 := by
  obtain ⟨h1, h2, h3, h4, _⟩ := readP_ok h0
  rw [h4]
  obtain ⟨hl1, hl2⟩ := checkLines_small h1
  have hS := readAll_standing l h2
  generalize (readAll l).2.ts = ts at hS h3
  have he : ∀ t ∈ ts, textErrP t = 0 := fun t ht => (check_range (check_placed (hS.each t ht) hl1 hl2)).2.2.2.2
  unfold joinP
  rw [if_neg (by omega), joinGo_text ts none [] he]
  simp only [if_true]
  split
  · exact .inr rfl
  · exact .inl rfl
theorem again_line {l : List Str} (h0 : (readP l).err = 0) (hj : (joinP (readP l).ts).2 = 0) (hs : (joinP (readP l).ts).1.length ≤ 120) : (readP [(joinP (readP l).ts).1]).err = 0 ∧ kt (readP [(joinP (readP l).ts).1]).ts = kt (readP l).ts := by
  obtain ⟨h1, h2, h3, h4, _⟩ := readP_ok h0
  rw [h4] at hj hs ⊢
  obtain ⟨hl1, hl2⟩ := checkLines_small h1
  have hS := readAll_standing l h2
  generalize (readAll l).2.ts = ts at hS h3 hj hs ⊢
  have he : ∀ t ∈ ts, textErrP t = 0 := fun t ht => (check_range (check_placed (hS.each t ht) hl1 hl2)).2.2.2.2
  have hJ : joinP ts = (tailText none ts, 0) := by
    have hj' := hj
    unfold joinP at hj' ⊢
    rw [if_neg (by omega), joinGo_text ts none [] he] at hj' ⊢
    simp only [if_true, List.nil_append] at hj' ⊢
    split at hj'
    · simp at hj'
    · rename_i h; rw [if_neg h]
  rw [hJ] at hs ⊢
  simp only at hs ⊢
  have hodd := tail_odd ts none he
  generalize hs' : tailText none ts = s at hs hodd ⊢
  obtain ⟨l', q1, q2⟩ := read_tail s (total [s] + 1) ts none 0 [] (total [s] + 1) (by rw [List.drop_zero]; exact hs'.symm) (Nat.zero_le _) he (by simp [total, left])
  have hr : readAll [s] = (0, ⟨1, 0, l', []⟩) := q1
  have hck : (checkLinesP [s]).2 = 0 := checkLines_ok (by simp) fun x hx => by
    rw [List.mem_singleton] at hx; subst hx; exact ⟨hs, hodd⟩
  have hlen : l'.length = ts.length := by have := congrArg List.length q2; simpa [kt] using this
  have := readP_of hck (by rw [hr]) (by rw [hr]; simp only; omega)
  rw [hr] at this
  exact ⟨this.1, by rw [this.2]; exact q2⟩
end Go.Proofs.YtlmmgblghgmgeaaGreatDoor

/- A text without its comments: the call, as one that is known. -/
namespace Go.Proofs.YtlmmgblghgmgeaaGreatDoor
open Go Ev Go.RowKit
set_option maxRecDepth 100000
set_option linter.unusedSimpArgs false

theorem freshClone_sound : FreshSound Tryz.prog freshClone := fun f args z els h => by
  unfold freshClone at h
  split at h
  case isFalse => simp at h
  rename_i hf
  subst hf
  split at h
  case h_2 => simp at h
  rename_i els2 tk
  split at h
  case isFalse => simp at h
  rename_i hc
  obtain ⟨h1, h2, h3⟩ := hc
  simp only [Option.some.injEq, Prod.mk.injEq] at h
  obtain ⟨rfl, rfl⟩ := h
  obtain ⟨l, rfl⟩ : ∃ l, els2 = strs l := by
    clear h2
    induction els2 with
    | nil => exact ⟨[], rfl⟩
    | cons e r ih =>
      simp only [isStrs, List.all_cons, Bool.and_eq_true] at h1
      obtain ⟨l, hl⟩ := ih h1.2
      have h1 := h1.1
      split at h1
      · exact ⟨_ :: l, by rw [hl]; rfl⟩
      · simp at h1
  exact clone_fresh l tk h3 (by simpa [strs] using h2)
theorem without_sim (l : List Str) (tk : Tok) (ht : Fx tk) (hl : l.length ≤ 400) (hx : ∀ x ∈ l, x.length < 2 ^ 40) : SimCall Tryz.prog 18 [.sl 1 (strs l) tk] [] (withoutR l) [] := by
  obtain ⟨c, hc⟩ : ∃ c, Tryz.f18.body = some c := ⟨_, rfl⟩
  have hok := without_ok
  rw [hc] at hok
  obtain ⟨h1, h2⟩ := readP_spans l
  exact fnO_sound planFollows (E := envWithout) (evc_sound plan_ok) ⟨freshClone_sound, noTurn_sound _⟩ Tryz.func18 hc rfl (Nat.le_refl _) hok Tryz.call18 (without_ev l tk ht hl h1 h2 hx c hc)
theorem few_small {l : List Str} (h : fewP l = true) : l.length ≤ 305 ∧ ∀ x ∈ l, x.length < 2 ^ 40 := by
  simp only [fewP, Bool.and_eq_true, decide_eq_true_eq] at h
  refine ⟨by omega, fun x hx => ?_⟩
  have h9 := h.1
  rw [List.take_of_length_le (by omega), List.all_eq_true] at h9
  have := h9 x hx
  simp at this; omega
end Go.Proofs.YtlmmgblghgmgeaaGreatDoor
