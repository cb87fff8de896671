/- One step of the reader. -/
import Derived.Test.YtlmmgblghgmgeaaDoorWalkH
namespace Go.Proofs.YtlmmgblghgmgeaaDoor
open Go Ev
set_option maxRecDepth 100000
set_option linter.unusedSimpArgs false

structure Tk where
  kind : Int
  text : Str
  line : Int
  col : Int
  deriving DecidableEq
structure Sp where
  l0 : Nat
  c0 : Nat
  l1 : Nat
  c1 : Nat
  deriving DecidableEq
def tkC (t : Tk) : List AV := [.int .i64 t.kind, .str t.text, .int .i64 t.line, .int .i64 t.col]
def spC (s : Sp) : List AV := [.int .i64 s.l0, .int .i64 s.c0, .int .i64 s.l1, .int .i64 s.c1]
/-- Where a reader is, and what it has read. -/
structure St where
  i : Nat
  j : Nat
  ts : List Tk
  cs : List Sp
def rdS (l : List Str) (tk : Tok) (s : St) : Box := rd l tk s.i s.j (s.ts.map tkC) (s.cs.map spC)
/-- What comes next: the error, and the reader behind it. -/
def nextGo (l : List Str) (n : Nat) (s : St) : Int × St :=
  match (l.getD s.i []).drop s.j with
  | [] => (0, { s with i := s.i + 1, j := 0 })
  | c :: r =>
    if (c.toNat : Int) == 32 then (0, { s with j := s.j + 1 })
    else if hasPre (c :: r) [40, 42] then
      (if (comGo l n s.i s.j 0).1 then (0, { s with i := (comGo l n s.i s.j 0).2.1, j := (comGo l n s.i s.j 0).2.2, cs := s.cs ++ [⟨s.i, s.j, (comGo l n s.i s.j 0).2.1, (comGo l n s.i s.j 0).2.2⟩] }) else (15, s))
    else if hasPre (c :: r) [92, 42] then (0, { s with j := s.j + (r.length + 1), cs := s.cs ++ [⟨s.i, s.j, s.i, s.j + (r.length + 1)⟩] })
    else if hasPre (c :: r) [42, 41] then (8, s)
    else if (pieceT c r).err != 0 then ((pieceT c r).err, s)
    else (0, { s with j := s.j + (pieceT c r).len.toNat, ts := s.ts ++ [⟨(pieceT c r).kind, (c :: r).take (pieceT c r).len.toNat, s.i, s.j⟩] })
def lineLen (l : List Str) (i : Nat) : Nat := (l.getD i []).length
theorem lineLen_eq (l : List Str) (i : Nat) (h : i < l.length) : lineLen l i = l[i].length := by simp [lineLen, List.getD_eq_getElem?_getD, h]
theorem left_line (l : List Str) (i j : Nat) (h : i < l.length) (hj : j ≤ lineLen l i) : left l i j = lineLen l i + 1 + left l (i + 1) 0 - j := by
  unfold left; rw [left_here l i h, lineLen_eq l i h]; omega
theorem left_step (l : List Str) (i j k : Nat) (h : i < l.length) (hj : j + k ≤ lineLen l i) : left l i (j + k) + k = left l i j := by
  rw [left_line l i j h (by omega), left_line l i (j + k) h hj]; omega
theorem left_turn (l : List Str) (i j : Nat) (h : i < l.length) (hj : j ≤ lineLen l i) : left l (i + 1) 0 < left l i j := by
  rw [left_line l i j h hj]; omega
theorem hasPre_two {s : Str} {j : Nat} {a b : UInt8} (h : hasPre (s.drop j) [a, b] = true) : j + 2 ≤ s.length := by
  simp only [hasPre, Bool.and_eq_true, decide_eq_true_eq, List.length_cons, List.length_nil, List.length_drop] at h
  omega
theorem drop_ne {s : Str} {j : Nat} (h : ¬ (s.drop j == []) = true) : j + 1 ≤ s.length := by
  rcases Nat.lt_or_ge j s.length with h' | h'
  · exact h'
  · rw [List.drop_eq_nil_of_le h'] at h; simp at h
theorem comGo_range (l : List Str) : ∀ (n i j : Nat) (d : Int) (q : Bool × Nat × Nat), comGo l n i j d = q → (i < l.length → j ≤ lineLen l i) → i ≤ l.length →
    q.2.1 ≤ l.length ∧ (q.2.1 < l.length → q.2.2 ≤ lineLen l q.2.1) ∧ (q.1 = true → q.2.1 < l.length ∧ left l q.2.1 q.2.2 < left l i j)
  | 0, i, j, d, q, hq, hj, hi => by
    subst hq
    exact ⟨hi, hj, by simp [comGo]⟩
  | n + 1, i, j, d, q, hq, hj, hi => by
    rw [comGo] at hq
    by_cases h : i < l.length
    · rw [dif_pos h] at hq
      have hjl := hj h
      have hle := lineLen_eq l i h
      split at hq
      · obtain ⟨h1, h2, h3⟩ := comGo_range l n (i + 1) 0 d q hq (fun _ => Nat.zero_le _) h
        have := left_turn l i j h hjl
        exact ⟨h1, h2, fun ht => ⟨(h3 ht).1, by have := (h3 ht).2; omega⟩⟩
      · rename_i h0
        split at hq
        · rename_i h4
          have h5 := hasPre_two h4
          obtain ⟨h1, h2, h3⟩ := comGo_range l n i (j + 2) (d + 1) q hq (fun _ => by omega) hi
          have := left_step l i j 2 h (by omega)
          exact ⟨h1, h2, fun ht => ⟨(h3 ht).1, by have := (h3 ht).2; omega⟩⟩
        · split at hq
          · rename_i h4
            have h5 := hasPre_two h4
            have := left_step l i j 2 h (by omega)
            split at hq
            · subst hq
              exact ⟨hi, fun _ => by simp only; omega, fun _ => ⟨h, by simp only; omega⟩⟩
            · obtain ⟨h1, h2, h3⟩ := comGo_range l n i (j + 2) (d - 1) q hq (fun _ => by omega) hi
              exact ⟨h1, h2, fun ht => ⟨(h3 ht).1, by have := (h3 ht).2; omega⟩⟩
          · have h5 := drop_ne h0
            obtain ⟨h1, h2, h3⟩ := comGo_range l n i (j + 1) d q hq (fun _ => by omega) hi
            have := left_step l i j 1 h (by omega)
            exact ⟨h1, h2, fun ht => ⟨(h3 ht).1, by have := (h3 ht).2; omega⟩⟩
    · rw [dif_neg h] at hq
      subst hq
      exact ⟨hi, hj, by simp⟩
/-- What one step keeps, and that it comes on. -/
structure St.Ok (l : List Str) (n : Nat) (s : St) : Prop where
  i : s.i ≤ l.length
  j : s.i < l.length → s.j ≤ lineLen l s.i
  n : left l s.i s.j + s.ts.length + s.cs.length ≤ n
theorem nextGo_ok (l : List Str) (n k : Nat) (s : St) (hi : s.i < l.length) (h : s.Ok l n) : (nextGo l k s).2.Ok l n ∧ ((nextGo l k s).1 = 0 → left l (nextGo l k s).2.i (nextGo l k s).2.j < left l s.i s.j) := by
  obtain ⟨i, j, ts, cs⟩ := s
  obtain ⟨_, hj, hn⟩ := h
  simp only at hi hj hn
  have hj := hj hi
  have hle := lineLen_eq l i hi
  have hg : l.getD i [] = l[i] := by simp [List.getD_eq_getElem?_getD, hi]
  unfold nextGo
  simp only [hg]
  have hdl : (l[i].drop j).length = l[i].length - j := List.length_drop
  have hp2 : ∀ {a b : UInt8}, hasPre (l[i].drop j) [a, b] = true → j + 2 ≤ l[i].length := fun h => hasPre_two h
  generalize hs : l[i].drop j = s at hdl hp2
  cases s with
  | nil =>
    have := left_turn l i j hi hj
    exact ⟨⟨by simp only; omega, fun _ => Nat.zero_le _, by simp only; omega⟩, fun _ => this⟩
  | cons c r =>
    simp only [List.length_cons] at hdl
    simp only
    split
    · have := left_step l i j 1 hi (by omega)
      exact ⟨⟨by simp only; omega, fun _ => by simp only; omega, by simp only; omega⟩, fun _ => by simp only; omega⟩
    split
    · split
      · rename_i h1
        obtain ⟨h2, h3, h4⟩ := comGo_range l k i j 0 _ rfl (fun _ => hj) (by omega)
        obtain ⟨h5, h6⟩ := h4 h1
        exact ⟨⟨by simp only; omega, fun h => by simp only at h ⊢; exact h3 h, by simp only [List.length_append, List.length_cons, List.length_nil]; omega⟩, fun _ => h6⟩
      · exact ⟨⟨by simp only; omega, fun _ => hj, hn⟩, by simp⟩
    split
    · rename_i h2
      have := left_step l i j (r.length + 1) hi (by omega)
      exact ⟨⟨by simp only; omega, fun _ => by simp only; omega, by simp only [List.length_append, List.length_cons, List.length_nil]; omega⟩, fun _ => by simp only; omega⟩
    split
    · exact ⟨⟨by simp only; omega, fun _ => hj, hn⟩, by simp⟩
    split
    · rename_i h5
      exact ⟨⟨by simp only; omega, fun _ => hj, hn⟩, fun h => by rw [show (pieceT c r).err = 0 from h] at h5; simp at h5⟩
    · rename_i h5
      have h6 : (pieceT c r).err = 0 := by simpa using h5
      obtain ⟨h7, h8⟩ := pieceT_len c r h6
      have := left_step l i j (pieceT c r).len.toNat hi (by omega)
      exact ⟨⟨by simp only; omega, fun _ => by simp only; omega, by simp only [List.length_append, List.length_cons, List.length_nil]; omega⟩, fun _ => by simp only; omega⟩
end Go.Proofs.YtlmmgblghgmgeaaDoor
