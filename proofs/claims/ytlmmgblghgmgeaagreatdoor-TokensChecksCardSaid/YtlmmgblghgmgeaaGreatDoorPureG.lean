/- A text that is just one token. -/
import Derived.Test.YtlmmgblghgmgeaaGreatDoorPureF
namespace Go.Proofs.YtlmmgblghgmgeaaGreatDoor
open Go Ev
set_option linter.unusedSimpArgs false

/-- Tokens that are read from a state on. -/
theorem step_tokens (l : List Str) (n : Nat) (s : St) (hi : s.i < l.length) (hj : s.j ≤ lineLen l s.i) :
    (nextGo l n s).2.ts = s.ts ∨ ∃ t, (nextGo l n s).2.ts = s.ts ++ [t] ∧ t.text.length + s.j ≤ lineLen l s.i ∧ (nextGo l n s).2.i = s.i ∧ (nextGo l n s).2.j = s.j + t.text.length ∧ (nextGo l n s).2.cs = s.cs ∧ (nextGo l n s).1 = 0 := by
  obtain ⟨i, j, ts, cs⟩ := s
  simp only at hi hj ⊢
  have hg : l.getD i [] = l[i] := by simp [List.getD_eq_getElem?_getD, hi]
  have hle := lineLen_eq l i hi
  have hdl : (l[i].drop j).length = l[i].length - j := List.length_drop
  unfold nextGo
  simp only [hg]
  generalize l[i].drop j = t at hdl
  cases t with
  | nil => exact .inl rfl
  | cons c r =>
    simp only [List.length_cons] at hdl
    simp only
    split
    · exact .inl rfl
    split
    · split <;> exact .inl rfl
    split
    · exact .inl rfl
    split
    · exact .inl rfl
    split
    · exact .inl rfl
    · rename_i h5
      have h6 : (pieceT c r).err = 0 := by simpa using h5
      obtain ⟨h7, h8⟩ := pieceT_len c r h6
      have hl : ((c :: r).take (pieceT c r).len.toNat).length = (pieceT c r).len.toNat := by
        rw [List.length_take, List.length_cons]; omega
      exact .inr ⟨_, rfl, by simp only [hl]; omega, rfl, by simp only [hl], rfl, rfl⟩
/-- In a text of one line, tokens read on from a place fit behind it. -/
theorem loop_tokens (x : Str) (n m : Nat) : ∀ (k : Nat) (s : St), s.Ok [x] m → ∃ l, (readLoop [x] n k s).2.ts = s.ts ++ l ∧ ∀ t ∈ l, s.i = 0 ∧ t.text.length + s.j ≤ x.length
  | 0, s, _ => ⟨[], by simp [readLoop], by simp⟩
  | k + 1, s, h => by
    rw [readLoop]
    by_cases hi : s.i < [x].length
    · have hi0 : s.i = 0 := by simpa using hi
      have hll : lineLen [x] s.i = x.length := by rw [hi0]; rfl
      have hst := step_tokens [x] n s hi (h.j hi)
      rw [hll] at hst
      have hok := nextGo_ok [x] m n s hi h
      have hmono : (nextGo [x] n s).1 = 0 → (nextGo [x] n s).2.i = 0 → s.j ≤ (nextGo [x] n s).2.j := fun h0 hi2 => by
        have h1 := hok.2 h0
        rcases Nat.lt_or_ge (nextGo [x] n s).2.j s.j with h2 | h2
        · exfalso
          rw [hi2, hi0] at h1
          have : ∀ j, left [x] 0 j = x.length + 1 - j := fun j => by simp [left]
          rw [this, this] at h1
          have := h.j hi
          rw [hll] at this
          omega
        · exact h2
      rw [if_pos hi]
      split
      · rcases hst with h1 | ⟨t, h1, h2, _, _, _, h6⟩
        · exact ⟨[], by rw [h1]; simp, by simp⟩
        · exact ⟨[t], h1, fun u hu => by simp at hu; subst hu; exact ⟨hi0, h2⟩⟩
      · rename_i hz
        have hz0 : (nextGo [x] n s).1 = 0 := by simpa using hz
        obtain ⟨l, hl, hlt⟩ := loop_tokens x n m k (nextGo [x] n s).2 hok.1
        have hl2 : ∀ u ∈ l, s.i = 0 ∧ u.text.length + s.j ≤ x.length := fun u hu => by
          obtain ⟨q1, q2⟩ := hlt u hu
          have := hmono hz0 q1
          exact ⟨hi0, by omega⟩
        rcases hst with h1 | ⟨t, h1, h2, _, _, _, _⟩
        · exact ⟨l, by rw [hl, h1], hl2⟩
        · refine ⟨t :: l, by rw [hl, h1]; simp, fun u hu => ?_⟩
          rcases List.mem_cons.1 hu with rfl | hu
          · exact ⟨hi0, h2⟩
          · exact hl2 u hu
    · rw [if_neg hi]
      exact ⟨[], by simp, by simp⟩
/-- The kind of a text that is just one piece. -/
def oneTok (x : Str) : Option Int :=
  match x with
  | [] => none
  | c :: r =>
    if ((c.toNat : Int) == 32) || hasPre (c :: r) [40, 42] || hasPre (c :: r) [92, 42] || hasPre (c :: r) [42, 41] then none
    else if (pieceT c r).err = 0 ∧ (pieceT c r).len = ((r.length + 1 : Nat) : Int) then some (pieceT c r).kind else none
theorem oneTok_read (x : Str) (k : Int) (h : oneTok x = some k) : readAll [x] = (0, ⟨1, 0, [⟨k, x, 0, 0⟩], []⟩) := by
  cases x with
  | nil => simp [oneTok] at h
  | cons c r =>
    unfold oneTok at h
    simp only at h
    split at h
    · simp at h
    · rename_i h1
      simp only [Bool.or_eq_true, not_or, Bool.not_eq_true] at h1
      obtain ⟨⟨⟨h1, h2⟩, h3⟩, h4⟩ := h1
      split at h
      · rename_i h5
        simp only [Option.some.injEq] at h
        obtain ⟨h5, h6⟩ := h5
        have hT : total [c :: r] = r.length + 2 := by simp [total, left]
        have s1 : nextGo [c :: r] (total [c :: r] + 1) st0 = (0, ⟨0, r.length + 1, [⟨k, c :: r, 0, 0⟩], []⟩) := by
          unfold nextGo st0
          have hg : ([c :: r] : List Str).getD 0 [] = c :: r := rfl
          simp only [hg, List.drop_zero, h1, h2, h3, h4, Bool.false_eq_true, if_false]
          have h7 : ((pieceT c r).err != 0) = false := by simp [h5]
          rw [h7, h6, h]
          simp only [Bool.false_eq_true, if_false, Int.toNat_natCast, Nat.zero_add, List.nil_append]
          rw [List.take_of_length_le (by simp)]
          rfl
        have s2 : nextGo [c :: r] (total [c :: r] + 1) ⟨0, r.length + 1, [⟨k, c :: r, 0, 0⟩], []⟩ = (0, ⟨1, 0, [⟨k, c :: r, 0, 0⟩], []⟩) := by
          unfold nextGo
          have hg : ([c :: r] : List Str).getD 0 [] = c :: r := rfl
          simp only [hg]
          rw [List.drop_eq_nil_of_le (by simp)]
        unfold readAll
        generalize hN : total [c :: r] + 1 = N at s1 s2
        obtain ⟨M, rfl⟩ : ∃ M, N = M + 3 := ⟨N - 3, by omega⟩
        rw [readLoop, if_pos (by simp [st0]), s1]
        simp only [bne_self_eq_false, Bool.false_eq_true, if_false]
        rw [readLoop, if_pos (by simp), s2]
        simp only [bne_self_eq_false, Bool.false_eq_true, if_false]
        rw [readLoop, if_neg (by simp)]
      · simp at h
end Go.Proofs.YtlmmgblghgmgeaaGreatDoor
