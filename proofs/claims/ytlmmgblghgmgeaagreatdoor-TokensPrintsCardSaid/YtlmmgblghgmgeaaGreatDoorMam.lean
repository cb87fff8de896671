/- The texts RefG, merged. -/
import Derived.Test.YtlmmgblghgmgeaaGreatDoorMak
import Derived.Test.YtlmmgblghgmgeaaGreatDoorMal
set_option linter.unusedVariables false
set_option linter.unusedSimpArgs false
/- The reference reads a text, evaluated. -/
namespace Go.Proofs.YtlmmgblghgmgeaaGreatDoor
open Go Ev
set_option maxRecDepth 100000
set_option linter.unusedSimpArgs false

/-- What begins at a place, as numbers. -/
def atT (s : Str) (i : Nat) : Pc :=
  match atP s i with
  | .agg [.int _ a, .int _ b, .int _ d] => ⟨a, b, d⟩
  | _ => ⟨0, 0, 8⟩
def PcIs (x : AV) : Prop := ∃ a b d, x = .agg [.int .i64 a, .int .i64 b, .int .i64 d]
theorem atP_is (s : Str) (i : Nat) : PcIs (atP s i) := by
  unfold PcIs atP
  split
  · exact ⟨_, _, _, rfl⟩
  split
  · exact wordP_is s i
  split
  · exact quotedP_is s i
  split
  · exact ⟨_, _, _, rfl⟩
  split
  · split
    · exact ⟨_, _, _, rfl⟩
    · exact ⟨_, _, _, rfl⟩
  · exact symTry_is s i _
theorem atP_eq (s : Str) (i : Nat) : atP s i = .agg [.int .i64 (atT s i).kind, .int .i64 (atT s i).len, .int .i64 (atT s i).err] := by
  obtain ⟨a, b, d, h⟩ := atP_is s i
  unfold atT
  rw [h]
/-- A piece that is no error lies within its line. -/
def PcIn (s : Str) (i : Nat) (x : AV) : Prop := ∀ a b, x = .agg [.int .i64 a, .int .i64 b, .int .i64 0] → 0 < b ∧ b ≤ ((s.length - i : Nat) : Int)
theorem pcIn_err {s : Str} {i : Nat} {a b e : Int} (h : e ≠ 0) : PcIn s i (piece a b e) := fun a' b' he => by
  simp [piece] at he; exact absurd he.2.2 h
theorem pcIn_mk {s : Str} {i : Nat} {a b e : Int} (h1 : 0 < b) (h2 : b ≤ ((s.length - i : Nat) : Int)) : PcIn s i (piece a b e) := fun a' b' he => by
  simp [piece] at he; omega
theorem sub_len (s : Str) (i n : Nat) (h : i + n ≤ s.length) : (sub s i n).length = n := by rw [sub_eq, List.length_take, List.length_drop]; omega
theorem run_drop_le (p : UInt8 → Bool) (s : Str) (i : Nat) : run p (s.drop i) ≤ s.length - i := by
  have := run_le p (s.drop i); rwa [List.length_drop] at this
theorem run_pos {p : UInt8 → Bool} {s : Str} {i : Nat} (h : i < s.length) (hp : p s[i] = true) : 0 < run p (s.drop i) := by
  rw [run_drop p s i h, if_pos hp]; omega
theorem wordP_in (s : Str) (i : Nat) (hi : i < s.length) (hw : wordB s[i].toNat = true) : PcIn s i (wordP s i) := by
  have h1 := run_drop_le (fun b => wordB b.toNat) s i
  have h2 := run_drop_le (fun b => digitB b.toNat) s i
  have h3 := run_pos (p := fun b => wordB b.toNat) hi hw
  have h4 := sub_len s i (run (fun b => wordB b.toNat) (s.drop i)) (by omega)
  unfold wordP wordTail
  rw [h4]
  split
  · split
    · rename_i h
      simp only [Bool.and_eq_true, decide_eq_true_eq] at h
      exact pcIn_mk (by omega) (by omega)
    · split
      · exact pcIn_err (by decide)
      · split <;> exact pcIn_mk (by omega) (by omega)
  · split
    · exact pcIn_mk (by omega) (by omega)
    · split
      · exact pcIn_err (by decide)
      · split
        · exact pcIn_err (by decide)
        · rename_i h5 _ _
          exact pcIn_mk (by omega) (by omega)
theorem quotedP_in (s : Str) (i : Nat) (hi : i < s.length) : PcIn s i (quotedP s i) := by
  have h1 := run_drop_le (fun b => (b.toNat : Int) != 34) s (i + 1)
  unfold quotedP
  simp only
  split
  · exact pcIn_err (by decide)
  split
  · exact pcIn_err (by decide)
  split
  · exact pcIn_err (by decide)
  · exact pcIn_mk (by omega) (by omega)
theorem symTry_in (s : Str) (i : Nat) : ∀ n, n ≤ s.length - i → PcIn s i (symTry s i n)
  | 0, _ => pcIn_err (by decide)
  | n + 1, h => by
    unfold symTry
    split
    · exact pcIn_mk (by omega) (by omega)
    · exact symTry_in s i n (by omega)
theorem atP_in (s : Str) (i : Nat) (hi : i < s.length) : PcIn s i (atP s i) := by
  have hg : s.getD i 0 = s[i] := by simp [List.getD_eq_getElem?_getD, hi]
  unfold atP
  rw [hg]
  split
  · rename_i h
    simp only [Bool.and_eq_true, decide_eq_true_eq] at h
    have := run_drop_le (fun b => (b.toNat : Int) == (s.getD i 0).toNat) s i
    refine pcIn_mk (by omega) ?_
    unfold sameP; omega
  split
  · exact wordP_in s i hi (by assumption)
  split
  · exact quotedP_in s i hi
  split
  · exact pcIn_err (by decide)
  split
  · rename_i h
    simp only [Bool.and_eq_true, decide_eq_true_eq] at h
    have := run_drop_le (fun b => letterB b.toNat) s (i + 1)
    split
    · exact pcIn_mk (by omega) (by omega)
    · exact pcIn_err (by decide)
  · exact symTry_in s i _ (by omega)
theorem atT_in (s : Str) (i : Nat) (hi : i < s.length) (h : (atT s i).err = 0) : 0 < (atT s i).len ∧ (atT s i).len ≤ ((s.length - i : Nat) : Int) :=
  atP_in s i hi (atT s i).kind (atT s i).len (by rw [atP_eq, h])
/-- One step of the reference: the error, and how far it has come. -/
def refStep (l : List Str) (n : Nat) (s : St) : Int × St :=
  if s.j < lineLen l s.i then
    (if (((l.getD s.i []).getD s.j 0).toNat : Int) == 32 then (0, { s with j := s.j + 1 })
    else if two (l.getD s.i []) s.j == [92, 42] then (0, { s with j := lineLen l s.i, cs := s.cs ++ [⟨s.i, s.j, s.i, lineLen l s.i⟩] })
    else if two (l.getD s.i []) s.j == [40, 42] then
      (if (refCom l n s.i s.j 0).1 then (0, { s with i := (refCom l n s.i s.j 0).2.1, j := (refCom l n s.i s.j 0).2.2, cs := s.cs ++ [⟨s.i, s.j, (refCom l n s.i s.j 0).2.1, (refCom l n s.i s.j 0).2.2⟩] }) else (15, s))
    else if (atT (l.getD s.i []) s.j).err != 0 then ((atT (l.getD s.i []) s.j).err, s)
    else (0, { s with j := s.j + (atT (l.getD s.i []) s.j).len.toNat, ts := s.ts ++ [⟨(atT (l.getD s.i []) s.j).kind, sub (l.getD s.i []) s.j (atT (l.getD s.i []) s.j).len.toNat, s.i, s.j⟩] }))
  else (0, { s with i := s.i + 1, j := 0 })
def refLoop (l : List Str) (n : Nat) : Nat → St → Int × St
  | 0, s => (0, s)
  | k + 1, s => if s.i < l.length then (if (refStep l n s).1 != 0 then refStep l n s else refLoop l n k (refStep l n s).2) else (0, s)
def refAll (l : List Str) : Int × St := refLoop l (total l + 1) (total l + 1) st0
theorem refCom_range (l : List Str) : ∀ (n i j : Nat) (d : Int) (q : Bool × Nat × Nat), refCom l n i j d = q → (i < l.length → j ≤ lineLen l i) → i ≤ l.length →
    q.2.1 ≤ l.length ∧ (q.2.1 < l.length → q.2.2 ≤ lineLen l q.2.1) ∧ (q.1 = true → q.2.1 < l.length ∧ left l q.2.1 q.2.2 < left l i j)
  | 0, i, j, d, q, hq, hj, hi => by
    subst hq
    exact ⟨hi, hj, by simp [refCom]⟩
  | n + 1, i, j, d, q, hq, hj, hi => by
    rw [refCom] at hq
    by_cases h : i < l.length
    · rw [dif_pos h] at hq
      have hjl := hj h
      have hle := lineLen_eq l i h
      have htwo : ∀ {x : Str}, x ≠ [] → (two l[i] j == x) = true → j + 2 ≤ l[i].length := fun hx he => by
        rcases Nat.lt_or_ge (j + 1) l[i].length with h1 | h1
        · exact h1
        · unfold two at he
          rw [if_neg (by omega)] at he
          simp at he; exact absurd he.symm (by simpa using hx)
      split at hq
      · rename_i h0
        have s1 := left_step l i j 1 h (by omega)
        split at hq
        · rename_i h1
          have h5 := htwo (by simp) h1
          have s2 := left_step l i j 2 h (by omega)
          split at hq
          · subst hq
            exact ⟨hi, fun _ => by simp only; omega, fun _ => ⟨h, by simp only; omega⟩⟩
          · obtain ⟨h1, h2, h3⟩ := refCom_range l n i (j + 2) (d + 1) q hq (fun _ => by omega) hi
            exact ⟨h1, h2, fun ht => ⟨(h3 ht).1, by have := (h3 ht).2; omega⟩⟩
        · split at hq
          · rename_i h1
            have h5 := htwo (by simp) h1
            have s2 := left_step l i j 2 h (by omega)
            split at hq
            · subst hq
              exact ⟨hi, fun _ => by simp only; omega, fun _ => ⟨h, by simp only; omega⟩⟩
            · obtain ⟨h1, h2, h3⟩ := refCom_range l n i (j + 2) (d - 1) q hq (fun _ => by omega) hi
              exact ⟨h1, h2, fun ht => ⟨(h3 ht).1, by have := (h3 ht).2; omega⟩⟩
          · split at hq
            · subst hq
              exact ⟨hi, fun _ => by simp only; omega, fun _ => ⟨h, by simp only; omega⟩⟩
            · obtain ⟨h1, h2, h3⟩ := refCom_range l n i (j + 1) d q hq (fun _ => by omega) hi
              exact ⟨h1, h2, fun ht => ⟨(h3 ht).1, by have := (h3 ht).2; omega⟩⟩
      · obtain ⟨h1, h2, h3⟩ := refCom_range l n (i + 1) 0 d q hq (fun _ => Nat.zero_le _) h
        have := left_turn l i j h hjl
        exact ⟨h1, h2, fun ht => ⟨(h3 ht).1, by have := (h3 ht).2; omega⟩⟩
    · rw [dif_neg h] at hq
      subst hq
      exact ⟨hi, hj, by simp⟩
theorem refStep_ok (l : List Str) (n k : Nat) (s : St) (hi : s.i < l.length) (h : s.Ok l n) : (refStep l k s).2.Ok l n ∧ ((refStep l k s).1 = 0 → left l (refStep l k s).2.i (refStep l k s).2.j < left l s.i s.j) := by
  obtain ⟨i, j, ts, cs⟩ := s
  obtain ⟨_, hj, hn⟩ := h
  simp only at hi hj hn
  have hj := hj hi
  have hle := lineLen_eq l i hi
  have hg : l.getD i [] = l[i] := by simp [List.getD_eq_getElem?_getD, hi]
  unfold refStep
  simp only [hg]
  split
  · rename_i h0
    split
    · have := left_step l i j 1 hi (by omega)
      exact ⟨⟨by simp only; omega, fun _ => by simp only; omega, by simp only; omega⟩, fun _ => by simp only; omega⟩
    split
    · have := left_step l i j (lineLen l i - j) hi (by omega)
      rw [show j + (lineLen l i - j) = lineLen l i by omega] at this
      exact ⟨⟨by simp only; omega, fun _ => by simp only; omega, by simp only [List.length_append, List.length_cons, List.length_nil]; omega⟩, fun _ => by simp only; omega⟩
    split
    · split
      · rename_i h1
        obtain ⟨h2, h3, h4⟩ := refCom_range l k i j 0 _ rfl (fun _ => hj) (by omega)
        obtain ⟨h5, h6⟩ := h4 h1
        exact ⟨⟨by simp only; omega, fun h => by simp only at h ⊢; exact h3 h, by simp only [List.length_append, List.length_cons, List.length_nil]; omega⟩, fun _ => h6⟩
      · exact ⟨⟨by simp only; omega, fun _ => hj, hn⟩, by simp⟩
    split
    · rename_i h5
      exact ⟨⟨by simp only; omega, fun _ => hj, hn⟩, fun h => by rw [show (atT l[i] j).err = 0 from h] at h5; simp at h5⟩
    · rename_i h5
      have h6 : (atT l[i] j).err = 0 := by simpa using h5
      obtain ⟨h7, h8⟩ := atT_in l[i] j (by omega) h6
      have := left_step l i j (atT l[i] j).len.toNat hi (by omega)
      exact ⟨⟨by simp only; omega, fun _ => by simp only; omega, by simp only [List.length_append, List.length_cons, List.length_nil]; omega⟩, fun _ => by simp only; omega⟩
  · have := left_turn l i j hi hj
    exact ⟨⟨by simp only; omega, fun _ => Nat.zero_le _, by simp only; omega⟩, fun _ => this⟩
def RefInv (l : List Str) (R : Int × St) (q : Nat × St) : Prop := q.2.Ok l (total l) ∧ left l q.2.i q.2.j < q.1 ∧ refLoop l (total l + 1) q.1 q.2 = R
theorem RefInv.start (l : List Str) : RefInv l (refAll l) (total l + 1, st0) := ⟨st0_ok l, by simp [st0, total], rfl⟩
theorem RefInv.step {l : List Str} {R : Int × St} {k : Nat} {s : St} (h : RefInv l R (k, s)) (hi : s.i < l.length) (h0 : (refStep l (total l + 1) s).1 = 0) : ∃ k', k = k' + 1 ∧ RefInv l R (k', (refStep l (total l + 1) s).2) := by
  obtain ⟨h1, h2, h3⟩ := h
  simp only at h1 h2 h3
  obtain ⟨k, rfl⟩ : ∃ k', k = k' + 1 := ⟨k - 1, by omega⟩
  obtain ⟨h4, h5⟩ := refStep_ok l (total l) (total l + 1) s hi h1
  refine ⟨k, rfl, h4, by have := h5 h0; simp only; omega, ?_⟩
  rw [refLoop, if_pos hi, h0] at h3
  exact h3
theorem RefInv.stop {l : List Str} {R : Int × St} {k : Nat} {s : St} (h : RefInv l R (k, s)) (hi : s.i < l.length) (h0 : (refStep l (total l + 1) s).1 ≠ 0) : R = refStep l (total l + 1) s := by
  obtain ⟨h1, h2, h3⟩ := h
  simp only at h1 h2 h3
  obtain ⟨k, rfl⟩ : ∃ k', k = k' + 1 := ⟨k - 1, by omega⟩
  rw [refLoop, if_pos hi, if_pos (by simpa using h0)] at h3
  exact h3.symm
theorem RefInv.over {l : List Str} {R : Int × St} {k : Nat} {s : St} (h : RefInv l R (k, s)) (hi : ¬ s.i < l.length) : R = (0, s) := by
  obtain ⟨h1, h2, h3⟩ := h
  simp only at h1 h2 h3
  obtain ⟨k, rfl⟩ : ∃ k', k = k' + 1 := ⟨k - 1, by omega⟩
  rw [refLoop, if_neg hi] at h3
  exact h3.symm
end Go.Proofs.YtlmmgblghgmgeaaGreatDoor
