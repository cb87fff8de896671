/- Two tokens in one text: what is read, by the first of them. -/
import Derived.Test.YtlmmgblghgmgeaaGreatDoorPureI
import Derived.Test.YtlmmgblghgmgeaaGreatDoorRefJ
namespace Go.Proofs.YtlmmgblghgmgeaaGreatDoor
open Go Ev
set_option linter.unusedSimpArgs false

/-- The kind and the length of the token with which a text begins. -/
def firstTok (x : Str) : Option (Int × Int) :=
  match x with
  | [] => none
  | c :: r =>
    if ((c.toNat : Int) == 32) || hasPre (c :: r) [40, 42] || hasPre (c :: r) [92, 42] || hasPre (c :: r) [42, 41] then none
    else if (pieceT c r).err = 0 then some ((pieceT c r).kind, (pieceT c r).len) else none
theorem oneTok_first (x : Str) (k : Int) : oneTok x = some k ↔ firstTok x = some (k, (x.length : Int)) := by
  cases x with
  | nil => simp [oneTok, firstTok]
  | cons c r =>
    unfold oneTok firstTok
    simp only
    split
    · simp
    · by_cases h1 : (pieceT c r).err = 0
      · rw [if_pos h1]
        by_cases h2 : (pieceT c r).len = ((r.length + 1 : Nat) : Int)
        · rw [if_pos ⟨h1, h2⟩]
          simp only [Option.some.injEq, Prod.mk.injEq, List.length_cons, h2, and_true]
        · rw [if_neg fun h => h2 h.2]
          simp only [Option.some.injEq, Prod.mk.injEq, List.length_cons, reduceCtorEq, false_iff]
          exact fun h => h2 h.2
      · rw [if_neg h1, if_neg fun h => h1 h.1]
        simp
/-- A step from a place where a token stands. -/
theorem step_first (z : Str) (n j : Nat) (ts : List Tk) (cs : List Sp) (k len : Int) (h : firstTok (z.drop j) = some (k, len)) :
    nextGo [z] n ⟨0, j, ts, cs⟩ = (0, ⟨0, j + len.toNat, ts ++ [⟨k, (z.drop j).take len.toNat, 0, j⟩], cs⟩) := by
  have hg : ([z] : List Str).getD 0 [] = z := rfl
  unfold nextGo
  simp only [hg]
  generalize z.drop j = t at h
  cases t with
  | nil => simp [firstTok] at h
  | cons c r =>
    unfold firstTok at h
    simp only at h
    split at h
    · simp at h
    · rename_i h1
      simp only [Bool.or_eq_true, not_or, Bool.not_eq_true] at h1
      obtain ⟨⟨⟨h1, h2⟩, h3⟩, h4⟩ := h1
      split at h
      · rename_i h5
        simp only [Option.some.injEq, Prod.mk.injEq] at h
        obtain ⟨rfl, rfl⟩ := h
        have h7 : ((pieceT c r).err != 0) = false := by simp [h5]
        simp only [h1, h2, h3, h4, h7, Bool.false_eq_true, if_false]
        rfl
      · simp at h
theorem first_pos (x : Str) (k len : Int) (h : firstTok x = some (k, len)) : 0 < len ∧ len ≤ x.length := by
  cases x with
  | nil => simp [firstTok] at h
  | cons c r =>
    unfold firstTok at h
    simp only at h
    split at h
    · simp at h
    · split at h
      · rename_i h5
        simp only [Option.some.injEq, Prod.mk.injEq] at h
        obtain ⟨rfl, rfl⟩ := h
        have := pieceT_len c r h5
        simp only [List.length_cons]; omega
      · simp at h
/-- Two tokens, one behind the other. -/
theorem two_read (x y : Str) (ka kb : Int) (h : firstTok (x ++ y) = some (ka, (x.length : Int))) (hb : oneTok y = some kb) :
    readAll [x ++ y] = (0, ⟨1, 0, [⟨ka, x, 0, 0⟩, ⟨kb, y, 0, x.length⟩], []⟩) := by
  have hb' := (oneTok_first y kb).1 hb
  have py := first_pos _ _ _ hb'
  have px := first_pos _ _ _ h
  generalize hz : x ++ y = z at h px
  have hzl : z.length = x.length + y.length := by rw [← hz]; simp
  have hd : z.drop x.length = y := by rw [← hz]; simp
  have ht : z.take x.length = x := by rw [← hz]; simp
  have hT : total [z] = z.length + 1 := total_one z
  have s1 : ∀ n, nextGo [z] n st0 = (0, ⟨0, x.length, [⟨ka, x, 0, 0⟩], []⟩) := fun n => by
    have := step_first z n 0 [] [] ka x.length (by rw [List.drop_zero]; exact h)
    rw [List.drop_zero] at this
    simp only [Int.toNat_natCast, Nat.zero_add, List.nil_append, ht] at this
    exact this
  have s2 : ∀ n, nextGo [z] n ⟨0, x.length, [⟨ka, x, 0, 0⟩], []⟩ = (0, ⟨0, z.length, [⟨ka, x, 0, 0⟩, ⟨kb, y, 0, x.length⟩], []⟩) := fun n => by
    have := step_first z n x.length [⟨ka, x, 0, 0⟩] [] kb y.length (by rw [hd]; exact hb')
    rw [hd] at this
    simp only [Int.toNat_natCast, List.take_length, List.cons_append, List.nil_append] at this
    rw [← hzl] at this
    exact this
  have s3 : ∀ n ts, nextGo [z] n ⟨0, z.length, ts, []⟩ = (0, ⟨1, 0, ts, []⟩) := fun n ts => by
    unfold nextGo
    have hg : ([z] : List Str).getD 0 [] = z := rfl
    simp only [hg]
    rw [List.drop_eq_nil_of_le (Nat.le_refl _)]
  unfold readAll
  generalize hN : total [z] + 1 = N
  have hN2 : 4 ≤ N := by omega
  obtain ⟨M, rfl⟩ : ∃ M, N = M + 4 := ⟨N - 4, by omega⟩
  rw [readLoop, if_pos (by simp [st0]), s1]
  simp only [bne_self_eq_false, Bool.false_eq_true, if_false]
  rw [readLoop, if_pos (by simp), s2]
  simp only [bne_self_eq_false, Bool.false_eq_true, if_false]
  rw [readLoop, if_pos (by simp), s3]
  simp only [bne_self_eq_false, Bool.false_eq_true, if_false]
  rw [readLoop, if_neg (by simp)]
/-- How much of a text tokens have, and is left. -/
def weight (z : Str) (s : St) : Nat := (s.ts.map fun t => t.text.length).sum + (if s.i = 0 then z.length - s.j else 0)
/-- A step: it is over, or a token, or something is lost. -/
theorem step_weight (z : Str) (n : Nat) (s : St) (hi : s.i = 0) (hj : s.j ≤ z.length) :
    ((∃ l, (nextGo [z] n s).2.ts = s.ts ++ l) ∧ ∃ m, (nextGo [z] n s).2.cs = s.cs ++ m) ∧
    weight z (nextGo [z] n s).2 ≤ weight z s ∧
    ((nextGo [z] n s).1 = 0 → s.j < z.length → weight z (nextGo [z] n s).2 = weight z s → ∃ k len, firstTok (z.drop s.j) = some (k, len)) ∧
    ((nextGo [z] n s).1 = 0 → s.j < z.length → (∃ k len, firstTok (z.drop s.j) = some (k, len)) ∨ (nextGo [z] n s).2.cs ≠ s.cs ∨ z.getD s.j 0 = 32) := by
  obtain ⟨i, j, ts, cs⟩ := s
  simp only at hi hj
  subst hi
  have hg : ([z] : List Str).getD 0 [] = z := rfl
  have hdl : (z.drop j).length = z.length - j := List.length_drop
  have hcom := fun q hq => comGo_range [z] n 0 j 0 q hq (fun _ => by simpa [lineLen] using hj) (by simp)
  have hget : ∀ c r, z.drop j = c :: r → z.getD j 0 = c := fun c r h => by
    have : z[j]? = some c := by
      have := congrArg (fun l => l[0]?) h
      simpa using this
    rw [List.getD_eq_getElem?_getD, this]; rfl
  have left1 : ∀ j, left [z] 0 j = z.length + 1 - j := fun j => by simp [left]
  unfold nextGo
  simp only [hg]
  generalize z.drop j = t at hdl hget
  cases t with
  | nil =>
    simp only [List.length_nil] at hdl
    refine ⟨⟨⟨[], by simp⟩, [], by simp⟩, ?_, fun _ h => by omega, fun _ h => by omega⟩
    simp only [weight]; simp
  | cons c r =>
    simp only [List.length_cons] at hdl
    have hgc := hget c r rfl
    simp only
    split
    · rename_i h1
      refine ⟨⟨⟨[], by simp⟩, [], by simp⟩, ?_, ?_, fun _ _ => .inr (.inr ?_)⟩
      · simp only [weight, if_true]; omega
      · simp only [weight, if_true]; intro _ _ _; omega
      · rw [hgc]
        have : c.toNat = 32 := by simp at h1; omega
        exact byte_of c 32 (by decide) this
    · rename_i h1
      split
      · rename_i h2
        split
        · rename_i h3
          have hq := (hcom _ rfl).2.2 h3
          have hq0 : (comGo [z] n 0 j 0).2.1 = 0 := by have := hq.1; simp only [List.length_cons, List.length_nil] at this; omega
          have hq1 := hq.2
          rw [hq0, left1, left1] at hq1
          refine ⟨⟨⟨[], by simp⟩, _, rfl⟩, ?_, ?_, fun _ _ => .inr (.inl (by simp))⟩
          · simp only [weight, hq0, if_true]; omega
          · simp only [weight, hq0, if_true]; intro _ _ _; omega
        · refine ⟨⟨⟨[], by simp⟩, [], by simp⟩, Nat.le_refl _, fun h => by simp at h, fun h => by simp at h⟩
      · rename_i h2
        split
        · rename_i h3
          refine ⟨⟨⟨[], by simp⟩, _, rfl⟩, ?_, ?_, fun _ _ => .inr (.inl (by simp))⟩
          · simp only [weight, if_true]; omega
          · simp only [weight, if_true]; intro _ _ _; omega
        · rename_i h3
          split
          · refine ⟨⟨⟨[], by simp⟩, [], by simp⟩, Nat.le_refl _, fun h => by simp at h, fun h => by simp at h⟩
          · rename_i h4
            split
            · rename_i h5
              refine ⟨⟨⟨[], by simp⟩, [], by simp⟩, Nat.le_refl _, fun h => ?_, fun h => ?_⟩
              · simp only at h; rw [h] at h5; simp at h5
              · simp only at h; rw [h] at h5; simp at h5
            · rename_i h5
              have h6 : (pieceT c r).err = 0 := by simpa using h5
              obtain ⟨h7, h8⟩ := pieceT_len c r h6
              have hl : ((c :: r).take (pieceT c r).len.toNat).length = (pieceT c r).len.toNat := by
                rw [List.length_take, List.length_cons]; omega
              have hf : firstTok (c :: r) = some ((pieceT c r).kind, (pieceT c r).len) := by
                unfold firstTok
                simp only
                rw [if_neg (by simp only [Bool.or_eq_true, not_or]; exact ⟨⟨⟨h1, h2⟩, h3⟩, h4⟩), if_pos h6]
              refine ⟨⟨⟨_, rfl⟩, [], by simp⟩, ?_, fun _ _ _ => ⟨_, _, hf⟩, fun _ _ => .inl ⟨_, _, hf⟩⟩
              simp only [weight, if_true, List.map_append, List.sum_append, List.map_cons, List.map_nil, List.sum_cons, List.sum_nil, hl]
              omega
/-- Reading on, tokens and comments stay, and no weight is won. -/
theorem loop_weight (z : Str) (n m : Nat) : ∀ (k : Nat) (s : St), s.Ok [z] m → ((∃ l, (readLoop [z] n k s).2.ts = s.ts ++ l) ∧ ∃ m, (readLoop [z] n k s).2.cs = s.cs ++ m) ∧ weight z (readLoop [z] n k s).2 ≤ weight z s
  | 0, s, _ => ⟨⟨⟨[], by simp [readLoop]⟩, [], by simp [readLoop]⟩, Nat.le_refl _⟩
  | k + 1, s, h => by
    rw [readLoop]
    by_cases hi : s.i < [z].length
    · have hi0 : s.i = 0 := by simpa using hi
      have hj : s.j ≤ z.length := by have := h.j hi; rw [hi0] at this; simpa [lineLen] using this
      have hst := step_weight z n s hi0 hj
      have hok := nextGo_ok [z] m n s hi h
      rw [if_pos hi]
      split
      · exact ⟨hst.1, hst.2.1⟩
      · obtain ⟨⟨⟨l1, e1⟩, l2, e2⟩, h3⟩ := loop_weight z n m k (nextGo [z] n s).2 hok.1
        obtain ⟨⟨⟨l3, e3⟩, l4, e4⟩, h4, _, _⟩ := hst
        exact ⟨⟨⟨l3 ++ l1, by rw [e1, e3, List.append_assoc]⟩, l4 ++ l2, by rw [e2, e4, List.append_assoc]⟩, by omega⟩
    · rw [if_neg hi]
      exact ⟨⟨⟨[], by simp⟩, [], by simp⟩, Nat.le_refl _⟩
/-- The first step of a reading, and the rest. -/
theorem read_first (z : Str) : readAll [z] = if (nextGo [z] (total [z] + 1) st0).1 != 0 then nextGo [z] (total [z] + 1) st0 else readLoop [z] (total [z] + 1) (total [z]) (nextGo [z] (total [z] + 1) st0).2 := by
  show readLoop [z] (total [z] + 1) (total [z] + 1) st0 = _
  rw [readLoop, if_pos (by simp [st0])]
/-- A text whose tokens are the whole text, or that has no comments and does not begin with a blank, begins with a token, the first. -/
theorem first_of_read (z : Str) (u : Tk) (ts : List Tk) (hz : z ≠ []) (h0 : (readAll [z]).1 = 0) (hts : (readAll [z]).2.ts = u :: ts)
    (h : ((readAll [z]).2.ts.map fun t => t.text.length).sum = z.length ∨ ((readAll [z]).2.cs = [] ∧ z.getD 0 0 ≠ 32)) :
    ∃ len, firstTok z = some (u.kind, len) ∧ u.text = z.take len.toNat := by
  have hlen : 0 < z.length := List.length_pos_iff.2 hz
  have hok := st0_ok [z]
  have hi : st0.i < [z].length := by simp [st0]
  have hstep := nextGo_ok [z] (total [z]) (total [z] + 1) st0 hi hok
  have hw := step_weight z (total [z] + 1) st0 rfl (Nat.zero_le _)
  have hloop := loop_weight z (total [z] + 1) (total [z]) (total [z]) (nextGo [z] (total [z] + 1) st0).2 hstep.1
  have hall := read_first z
  have hz1 : (nextGo [z] (total [z] + 1) st0).1 = 0 := by
    cases hc : ((nextGo [z] (total [z] + 1) st0).1 != 0)
    · simpa using hc
    · rw [hall, hc] at h0
      simpa using h0
  rw [hz1] at hall
  simp only [bne_self_eq_false, Bool.false_eq_true, if_false] at hall
  rw [hall] at h hts
  have hf : ∃ k len, firstTok (z.drop 0) = some (k, len) := by
    rcases h with h | ⟨h, hc⟩
    · refine hw.2.2.1 hz1 hlen ?_
      have h1 := hw.2.1
      have h2 := hloop.2
      have h3 : weight z st0 = z.length := by simp [weight, st0]
      have h4 : z.length ≤ weight z (readLoop [z] (total [z] + 1) (total [z]) (nextGo [z] (total [z] + 1) st0).2).2 := by
        unfold weight; rw [h]; omega
      omega
    · rcases hw.2.2.2 hz1 hlen with h1 | h1 | h1
      · exact h1
      · exfalso
        obtain ⟨⟨_, l2, e2⟩, _⟩ := hloop
        obtain ⟨⟨_, l4, e4⟩, _⟩ := hw
        rw [e2, e4] at h
        simp only [st0, List.nil_append, List.append_eq_nil_iff] at h
        rw [e4, h.1] at h1
        exact h1 (by simp)
      · exact absurd h1 hc
  obtain ⟨k, len, hf⟩ := hf
  have hs := step_first z (total [z] + 1) 0 [] [] k len hf
  rw [List.drop_zero] at hf hs
  obtain ⟨⟨⟨l1, e1⟩, _⟩, _⟩ := hloop
  have e2 : nextGo [z] (total [z] + 1) st0 = _ := hs
  rw [e1, e2] at hts
  simp only [List.nil_append, List.cons_append, List.cons.injEq] at hts
  obtain ⟨e3, _⟩ := hts
  refine ⟨len, ?_, ?_⟩
  · rw [← e3]; exact hf
  · rw [← e3]
end Go.Proofs.YtlmmgblghgmgeaaGreatDoor
