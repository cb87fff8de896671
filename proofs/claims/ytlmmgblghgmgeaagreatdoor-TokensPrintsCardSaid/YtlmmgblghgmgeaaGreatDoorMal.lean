/- The texts PureF, PureG, merged. -/
import Derived.Test.YtlmmgblghgmgeaaGreatDoorMai
import Derived.Test.YtlmmgblghgmgeaaGreatDoorMak
set_option linter.unusedVariables false
set_option linter.unusedSimpArgs false
/- A text is read the same by both. -/
namespace Go.Proofs.YtlmmgblghgmgeaaGreatDoor
open Go Ev
set_option linter.unusedSimpArgs false

theorem pre_two (s : Str) (j : Nat) (a b : UInt8) : hasPre (s.drop j) [a, b] = (two s j == [a, b]) := by
  unfold two
  by_cases h : j + 1 < s.length
  · rw [if_pos h]
    unfold hasPre
    have h1 : decide (([a, b] : Str).length ≤ (s.drop j).length) = true := by
      simp only [List.length_cons, List.length_nil, List.length_drop, decide_eq_true_eq]; omega
    rw [h1, Bool.true_and]
    congr 1
    rw [List.drop_take]
    congr 1
    simp only [List.length_cons, List.length_nil]; omega
  · rw [if_neg h]
    unfold hasPre
    have h1 : decide (([a, b] : Str).length ≤ (s.drop j).length) = false := by
      simp only [List.length_cons, List.length_nil, List.length_drop, decide_eq_false_iff_not]; omega
    rw [h1]; rfl
theorem drop_end (s : Str) (j : Nat) : (s.drop j == []) = !decide (j < s.length) := by
  by_cases h : j < s.length
  · rw [List.drop_eq_getElem_cons h]; simp [h]
  · rw [List.drop_eq_nil_of_le (by omega)]; simp [h]
theorem com_same (l : List Str) : ∀ (n i j : Nat) (d : Int), 1 ≤ d → comGo l n i j d = refCom l n i j d
  | 0, i, j, d, h => rfl
  | n + 1, i, j, d, h => by
    rw [comGo, refCom]
    by_cases hi : i < l.length
    · rw [dif_pos hi, dif_pos hi, drop_end, pre_two, pre_two]
      by_cases hj : j < l[i].length
      · simp only [hj, decide_true, Bool.not_true, Bool.false_eq_true, if_false, if_true]
        cases h1 : (two l[i] j == [40, 42])
        · cases h2 : (two l[i] j == [42, 41])
          · have : (d == 0) = false := by simp; omega
            simp only [this, Bool.false_eq_true, if_false]
            exact com_same l n i (j + 1) d h
          · cases h3 : (d - 1 == 0)
            · simp only [Bool.false_eq_true, if_false, if_true]
              have : d - 1 ≠ 0 := by simpa using h3
              exact com_same l n i (j + 2) (d - 1) (by omega)
            · rfl
        · have : (d + 1 == 0) = false := by simp; omega
          simp only [this, Bool.false_eq_true, if_false, if_true]
          exact com_same l n i (j + 2) (d + 1) (by omega)
      · simp only [hj, decide_false, Bool.not_false, if_true, if_false]
        exact com_same l n (i + 1) 0 d h
    · rw [dif_neg hi, dif_neg hi]
theorem com_start (l : List Str) (n i j : Nat) (hi : i < l.length) (h : two l[i] j == [40, 42]) : comGo l n i j 0 = refCom l n i j 0 := by
  cases n with
  | zero => rfl
  | succ n =>
    have hj : j < l[i].length := by
      rcases Nat.lt_or_ge (j + 1) l[i].length with h1 | h1
      · omega
      · unfold two at h; rw [if_neg (by omega)] at h; simp at h
    rw [comGo, refCom, dif_pos hi, dif_pos hi, drop_end, pre_two, pre_two, h]
    simp only [hj, decide_true, Bool.not_true, Bool.false_eq_true, if_false, if_true]
    have : ((0 : Int) + 1 == 0) = false := rfl
    rw [this]
    exact com_same l n i (j + 2) 1 (by omega)
theorem step_same (l : List Str) (n : Nat) (s : St) (hi : s.i < l.length) (hj : s.j ≤ lineLen l s.i) : nextGo l n s = refStep l n s := by
  obtain ⟨i, j, ts, cs⟩ := s
  simp only at hi hj
  have hg : l.getD i [] = l[i] := by simp [List.getD_eq_getElem?_getD, hi]
  have hle := lineLen_eq l i hi
  unfold nextGo refStep
  simp only [hg, hle]
  by_cases h0 : j < l[i].length
  · rw [if_pos h0]
    have hd := List.drop_eq_getElem_cons h0
    have hg2 : l[i].getD j 0 = l[i][j] := by simp [List.getD_eq_getElem?_getD, h0]
    rw [hg2]
    have p1 := pre_two l[i] j 40 42
    have p2 := pre_two l[i] j 92 42
    have p3 := pre_two l[i] j 42 41
    have hrl : (l[i].drop (j + 1)).length = l[i].length - (j + 1) := List.length_drop
    have hat := fun hs => at_same l[i] j _ _ hd hs
    have hcs := com_start l n i j hi
    have hstar : two l[i] j == [42, 41] → (atT l[i] j).err = 8 := fun h => by
      have h1 : j + 1 < l[i].length := by
        rcases Nat.lt_or_ge (j + 1) l[i].length with h1 | h1
        · exact h1
        · unfold two at h; rw [if_neg (by omega)] at h; simp at h
      have h2 : sub l[i] j 2 = [42, 41] := by
        unfold two at h; rw [if_pos h1] at h; simpa [sub] using h
      have hc : l[i][j] = 42 := by
        rw [sub_eq, hd] at h2
        simp only [List.take_succ_cons] at h2
        exact (List.cons.inj h2).1
      have : atP l[i] j = piece 0 0 8 := by
        unfold atP
        rw [hg2, hc, h2]
        have : decide (j + 1 < l[i].length) = true := by simp [h1]
        rw [this]; rfl
      unfold atT
      rw [this]; rfl
    have hsub : ∀ k, sub l[i] j k = (l[i].drop j).take k := fun k => sub_eq _ _ _
    rw [hd] at p1 p2 p3 hsub ⊢
    generalize l[i].drop (j + 1) = r at p1 p2 p3 hsub hat hrl ⊢
    generalize l[i][j] = c at p1 p2 p3 hsub hat ⊢
    simp only
    cases h1 : ((c.toNat : Int) == 32)
    · simp only [Bool.false_eq_true, if_false]
      rw [p1, p2, p3]
      cases h2 : (two l[i] j == [40, 42])
      · simp only [Bool.false_eq_true, if_false]
        cases h3 : (two l[i] j == [92, 42])
        · simp only [Bool.false_eq_true, if_false]
          cases h4 : (two l[i] j == [42, 41])
          · simp only [Bool.false_eq_true, if_false]
            rw [h4] at p3
            obtain ⟨k, len, he, hk⟩ := hat p3
            rw [atP_eq] at he
            simp only [piece, AV.agg.injEq, List.cons.injEq, AV.int.injEq, true_and, and_true] at he
            obtain ⟨e1, e2, e3⟩ := he
            rw [e3]
            cases h5 : ((pieceT c r).err != 0)
            · have h6 : (pieceT c r).err = 0 := by simpa using h5
              obtain ⟨k1, k2⟩ := hk h6
              simp only [Bool.false_eq_true, if_false]
              rw [e1, e2, k1, k2, hsub]
            · rfl
          · have h5 := hstar h4
            rw [h5]; rfl
        · simp only [if_true]
          have e1 : j + (r.length + 1) = l[i].length := by omega
          rw [e1]
      · have h3 : (two l[i] j == [92, 42]) = false := by
          have : two l[i] j = [40, 42] := by simpa using h2
          rw [this]; rfl
        rw [h3]
        simp only [if_true, Bool.false_eq_true, if_false]
        rw [hcs h2]
    · rfl
  · rw [if_neg h0, List.drop_eq_nil_of_le (by omega)]
theorem loop_same (l : List Str) (n m : Nat) : ∀ (k : Nat) (s : St), s.Ok l m → readLoop l n k s = refLoop l n k s
  | 0, s, _ => rfl
  | k + 1, s, h => by
    rw [readLoop, refLoop]
    by_cases hi : s.i < l.length
    · rw [if_pos hi, if_pos hi, ← step_same l n s hi (h.j hi)]
      split
      · rfl
      · exact loop_same l n m k _ (nextGo_ok l m n s hi h).1
    · rw [if_neg hi, if_neg hi]
theorem all_same (l : List Str) : readAll l = refAll l := loop_same l _ _ _ _ (st0_ok l)
theorem read_same (l : List Str) : readP l = refReadP l := by
  unfold readP refReadP
  rw [checkLines_ref, all_same]
end Go.Proofs.YtlmmgblghgmgeaaGreatDoor

/- A text that is just one token. -/
namespace Go.Proofs.YtlmmgblghgmgeaaGreatDoor
open Go Ev
set_option linter.unusedSimpArgs false

/-- Tokens that are read from a state on. -/
theorem step_tokens (l : List Str) (n : Nat) (s : St) (hi : s.i < l.length) (hj : s.j ≤ lineLen l s.i) :
    (nextGo l n s).2.ts = s.ts ∨ ∃ t, (nextGo l n s).2.ts = s.ts ++ [t] ∧ t.text.length + s.j ≤ lineLen l s.i ∧ (nextGo l n s).2.i = s.i ∧ (nextGo l n s).2.j = s.j + t.text.length ∧ (nextGo l n s).2.cs = s.cs ∧ (nextGo l n s).1 = 0 := by
  obtain ⟨i, j, ts, cs⟩ := s
  simp only at hi hj ⊢
  have hg : l.getD i [] = l[i] := by simp [List.getD_eq_getElem?_getD, hi]
  have hle := lineLen_eq l i hi
  have hdl : (l[i].drop j).length = l[i].length - j := List.length_drop
  unfold nextGo
  simp only [hg]
  generalize l[i].drop j = t at hdl
  cases t with
  | nil => exact .inl rfl
  | cons c r =>
    simp only [List.length_cons] at hdl
    simp only
    split
    · exact .inl rfl
    split
    · split <;> exact .inl rfl
    split
    · exact .inl rfl
    split
    · exact .inl rfl
    split
    · exact .inl rfl
    · rename_i h5
      have h6 : (pieceT c r).err = 0 := by simpa using h5
      obtain ⟨h7, h8⟩ := pieceT_len c r h6
      have hl : ((c :: r).take (pieceT c r).len.toNat).length = (pieceT c r).len.toNat := by
        rw [List.length_take, List.length_cons]; omega
      exact .inr ⟨_, rfl, by simp only [hl]; omega, rfl, by simp only [hl], rfl, rfl⟩
/-- In a text of one line, tokens read on from a place fit behind it. -/
theorem loop_tokens (x : Str) (n m : Nat) : ∀ (k : Nat) (s : St), s.Ok [x] m → ∃ l, (readLoop [x] n k s).2.ts = s.ts ++ l ∧ ∀ t ∈ l, s.i = 0 ∧ t.text.length + s.j ≤ x.length
  | 0, s, _ => ⟨[], by simp [readLoop], by simp⟩
  | k + 1, s, h => by
    rw [readLoop]
    by_cases hi : s.i < [x].length
    · have hi0 : s.i = 0 := by simpa using hi
      have hll : lineLen [x] s.i = x.length := by rw [hi0]; rfl
      have hst := step_tokens [x] n s hi (h.j hi)
      rw [hll] at hst
      have hok := nextGo_ok [x] m n s hi h
      have hmono : (nextGo [x] n s).1 = 0 → (nextGo [x] n s).2.i = 0 → s.j ≤ (nextGo [x] n s).2.j := fun h0 hi2 => by
        have h1 := hok.2 h0
        rcases Nat.lt_or_ge (nextGo [x] n s).2.j s.j with h2 | h2
        · exfalso
          rw [hi2, hi0] at h1
          have : ∀ j, left [x] 0 j = x.length + 1 - j := fun j => by simp [left]
          rw [this, this] at h1
          have := h.j hi
          rw [hll] at this
          omega
        · exact h2
      rw [if_pos hi]
      split
      · rcases hst with h1 | ⟨t, h1, h2, _, _, _, h6⟩
        · exact ⟨[], by rw [h1]; simp, by simp⟩
        · exact ⟨[t], h1, fun u hu => by simp at hu; subst hu; exact ⟨hi0, h2⟩⟩
      · rename_i hz
        have hz0 : (nextGo [x] n s).1 = 0 := by simpa using hz
        obtain ⟨l, hl, hlt⟩ := loop_tokens x n m k (nextGo [x] n s).2 hok.1
        have hl2 : ∀ u ∈ l, s.i = 0 ∧ u.text.length + s.j ≤ x.length := fun u hu => by
          obtain ⟨q1, q2⟩ := hlt u hu
          have := hmono hz0 q1
          exact ⟨hi0, by omega⟩
        rcases hst with h1 | ⟨t, h1, h2, _, _, _, _⟩
        · exact ⟨l, by rw [hl, h1], hl2⟩
        · refine ⟨t :: l, by rw [hl, h1]; simp, fun u hu => ?_⟩
          rcases List.mem_cons.1 hu with rfl | hu
          · exact ⟨hi0, h2⟩
          · exact hl2 u hu
    · rw [if_neg hi]
      exact ⟨[], by simp, by simp⟩
/-- The kind of a text that is just one piece. -/
def oneTok (x : Str) : Option Int :=
  match x with
  | [] => none
  | c :: r =>
    if ((c.toNat : Int) == 32) || hasPre (c :: r) [40, 42] || hasPre (c :: r) [92, 42] || hasPre (c :: r) [42, 41] then none
    else if (pieceT c r).err = 0 ∧ (pieceT c r).len = ((r.length + 1 : Nat) : Int) then some (pieceT c r).kind else none
theorem oneTok_read (x : Str) (k : Int) (h : oneTok x = some k) : readAll [x] = (0, ⟨1, 0, [⟨k, x, 0, 0⟩], []⟩) := by
  cases x with
  | nil => simp [oneTok] at h
  | cons c r =>
    unfold oneTok at h
    simp only at h
    split at h
    · simp at h
    · rename_i h1
      simp only [Bool.or_eq_true, not_or, Bool.not_eq_true] at h1
      obtain ⟨⟨⟨h1, h2⟩, h3⟩, h4⟩ := h1
      split at h
      · rename_i h5
        simp only [Option.some.injEq] at h
        obtain ⟨h5, h6⟩ := h5
        have hT : total [c :: r] = r.length + 2 := by simp [total, left]
        have s1 : nextGo [c :: r] (total [c :: r] + 1) st0 = (0, ⟨0, r.length + 1, [⟨k, c :: r, 0, 0⟩], []⟩) := by
          unfold nextGo st0
          have hg : ([c :: r] : List Str).getD 0 [] = c :: r := rfl
          simp only [hg, List.drop_zero, h1, h2, h3, h4, Bool.false_eq_true, if_false]
          have h7 : ((pieceT c r).err != 0) = false := by simp [h5]
          rw [h7, h6, h]
          simp only [Bool.false_eq_true, if_false, Int.toNat_natCast, Nat.zero_add, List.nil_append]
          rw [List.take_of_length_le (by simp)]
          rfl
        have s2 : nextGo [c :: r] (total [c :: r] + 1) ⟨0, r.length + 1, [⟨k, c :: r, 0, 0⟩], []⟩ = (0, ⟨1, 0, [⟨k, c :: r, 0, 0⟩], []⟩) := by
          unfold nextGo
          have hg : ([c :: r] : List Str).getD 0 [] = c :: r := rfl
          simp only [hg]
          rw [List.drop_eq_nil_of_le (by simp)]
        unfold readAll
        generalize hN : total [c :: r] + 1 = N at s1 s2
        obtain ⟨M, rfl⟩ : ∃ M, N = M + 3 := ⟨N - 3, by omega⟩
        rw [readLoop, if_pos (by simp [st0]), s1]
        simp only [bne_self_eq_false, Bool.false_eq_true, if_false]
        rw [readLoop, if_pos (by simp), s2]
        simp only [bne_self_eq_false, Bool.false_eq_true, if_false]
        rw [readLoop, if_neg (by simp)]
      · simp at h
end Go.Proofs.YtlmmgblghgmgeaaGreatDoor
