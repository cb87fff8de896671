/- Where tokens stand in a text that is read. -/
import Derived.Test.YtlmmgblghgmgeaaDoorPlaceB
namespace Go.Proofs.YtlmmgblghgmgeaaDoor
open Go Ev
set_option linter.unusedSimpArgs false

theorem inSpan_nat (x y : Nat) (c : Sp) : inSpan x y c = true ↔ ¬ (x < c.l0 ∨ (x = c.l0 ∧ y < c.c0)) ∧ (x < c.l1 ∨ (x = c.l1 ∧ y < c.c1)) := by
  simp only [inSpan, beforeP, Bool.and_eq_true, Bool.not_eq_true', Bool.or_eq_false_iff, Bool.or_eq_true, Bool.and_eq_false_iff, decide_eq_true_eq, decide_eq_false_iff_not, beq_iff_eq, beq_eq_false_iff_ne, ne_eq]
  omega
def Before (a b : Tk) : Prop := a.line < b.line ∨ (a.line = b.line ∧ a.col + a.text.length ≤ b.col)
/-- A token stands in a text, wholly before a place. -/
structure Stands (l : List Str) (i j : Nat) (t : Tk) : Prop where
  at_ : ∃ x y : Nat, t.line = x ∧ t.col = y ∧ (∃ h : x < l.length, y + t.text.length ≤ l[x].length ∧ (l[x].drop y).take t.text.length = t.text) ∧ (x < i ∨ (x = i ∧ y + t.text.length ≤ j))
  tok : oneTok t.text = some t.kind
/-- What is read of a text, up to a place. -/
structure Standing (l : List Str) (i j : Nat) (ts : List Tk) (cs : List Sp) : Prop where
  each : ∀ t ∈ ts, Stands l i j t
  asc : ts.Pairwise Before
  cover : ∀ x y : Nat, ∀ h : x < l.length, ∀ h2 : y < l[x].length, (x < i ∨ (x = i ∧ y < j)) → l[x][y] = 32 ∨ (∃ c ∈ cs, inSpan x y c = true) ∨ ∃ t ∈ ts, t.line = x ∧ t.col ≤ y ∧ (y : Int) < t.col + t.text.length
theorem Stands.later {l : List Str} {i j i' j' : Nat} {t : Tk} (h : Stands l i j t) (hle : i < i' ∨ (i = i' ∧ j ≤ j')) : Stands l i' j' t := by
  obtain ⟨⟨x, y, h1, h2, h3, h4⟩, h5⟩ := h
  exact ⟨⟨x, y, h1, h2, h3, by omega⟩, h5⟩
theorem Standing.turn {l : List Str} {i j : Nat} {ts : List Tk} {cs : List Sp} (h : Standing l i j ts cs) (hi : i < l.length) (hj : l[i].length ≤ j) : Standing l (i + 1) 0 ts cs where
  each t ht := (h.each t ht).later (by omega)
  asc := h.asc
  cover x y hx hy hp := by
    refine h.cover x y hx hy ?_
    rcases Nat.lt_or_ge x i with h1 | h1
    · exact .inl h1
    · have : x = i := by omega
      subst this
      exact .inr ⟨rfl, by omega⟩
theorem Standing.blank {l : List Str} {i j : Nat} {ts : List Tk} {cs : List Sp} (h : Standing l i j ts cs) (hi : i < l.length) (hj : j < l[i].length) (hb : l[i][j] = 32) : Standing l i (j + 1) ts cs where
  each t ht := (h.each t ht).later (by omega)
  asc := h.asc
  cover x y hx hy hp := by
    by_cases h1 : x = i ∧ y = j
    · obtain ⟨rfl, rfl⟩ := h1
      exact .inl hb
    · exact h.cover x y hx hy (by omega)
theorem Standing.com {l : List Str} {i j i' j' : Nat} {ts : List Tk} {cs : List Sp} (h : Standing l i j ts cs) (hle : i < i' ∨ (i = i' ∧ j ≤ j')) : Standing l i' j' ts (cs ++ [⟨i, j, i', j'⟩]) where
  each t ht := (h.each t ht).later hle
  asc := h.asc
  cover x y hx hy hp := by
    by_cases h1 : x < i ∨ (x = i ∧ y < j)
    · rcases h.cover x y hx hy h1 with h2 | ⟨c, h2, h3⟩ | h2
      · exact .inl h2
      · exact .inr (.inl ⟨c, by simp [h2], h3⟩)
      · exact .inr (.inr h2)
    · refine .inr (.inl ⟨_, List.mem_append.2 (.inr (List.mem_singleton.2 rfl)), ?_⟩)
      rw [inSpan_nat]
      exact ⟨h1, hp⟩
theorem Standing.token {l : List Str} {i j : Nat} {ts : List Tk} {cs : List Sp} (h : Standing l i j ts cs) (hi : i < l.length) (k : Int) (n : Nat) (hn : j + n ≤ l[i].length) (ho : oneTok ((l[i].drop j).take n) = some k) : Standing l i (j + n) (ts ++ [⟨k, (l[i].drop j).take n, i, j⟩]) cs := by
  have hlen : ((l[i].drop j).take n).length = n := by rw [List.length_take, List.length_drop]; omega
  refine ⟨fun t ht => ?_, ?_, fun x y hx hy hp => ?_⟩
  · rcases List.mem_append.1 ht with ht | ht
    · exact (h.each t ht).later (by omega)
    · rw [List.mem_singleton] at ht
      subst ht
      refine ⟨⟨i, j, rfl, rfl, ⟨hi, ?_, ?_⟩, .inr ⟨rfl, ?_⟩⟩, ho⟩
      · simp only [hlen]; exact hn
      · simp only [hlen]
      · simp only [hlen]; exact Nat.le_refl _
  · rw [List.pairwise_append]
    refine ⟨h.asc, by simp, fun a ha b hb => ?_⟩
    rw [List.mem_singleton] at hb
    subst hb
    obtain ⟨⟨x, y, h1, h2, _, h4⟩, _⟩ := h.each a ha
    unfold Before
    simp only
    omega
  · by_cases h1 : x < i ∨ (x = i ∧ y < j)
    · rcases h.cover x y hx hy h1 with h2 | h2 | ⟨t, h2, h3⟩
      · exact .inl h2
      · exact .inr (.inl h2)
      · exact .inr (.inr ⟨t, by simp [h2], h3⟩)
    · refine .inr (.inr ⟨_, List.mem_append.2 (.inr (List.mem_singleton.2 rfl)), ?_⟩)
      simp only [hlen]
      omega
theorem nextGo_standing (l : List Str) (n m : Nat) (s : St) (hi : s.i < l.length) (h : s.Ok l m) (hs : Standing l s.i s.j s.ts s.cs) (h0 : (nextGo l n s).1 = 0) : Standing l (nextGo l n s).2.i (nextGo l n s).2.j (nextGo l n s).2.ts (nextGo l n s).2.cs := by
  obtain ⟨i, j, ts, cs⟩ := s
  have hj := h.j hi
  simp only at hi hj hs
  have hle := lineLen_eq l i hi
  have hg : l.getD i [] = l[i] := by simp [List.getD_eq_getElem?_getD, hi]
  unfold nextGo at h0 ⊢
  simp only [hg] at h0 ⊢
  have hdl : (l[i].drop j).length = l[i].length - j := List.length_drop
  generalize hx : l[i].drop j = x at hdl h0 ⊢
  cases x with
  | nil => exact hs.turn hi (by simp at hdl; omega)
  | cons c r =>
    simp only [List.length_cons] at hdl
    have hjl : j < l[i].length := by omega
    have hc : l[i][j] = c := by
      have := List.drop_eq_getElem_cons hjl
      rw [hx] at this
      exact (List.cons.inj this).1.symm
    simp only at h0 ⊢
    split at h0
    · rename_i h1
      rw [if_pos h1]
      refine hs.blank hi hjl ?_
      have : c.toNat = 32 := by simp at h1; omega
      rw [hc]; exact byte_of c 32 (by decide) this
    rename_i h1
    rw [if_neg h1]
    split at h0
    · rename_i h2
      rw [if_pos h2]
      split at h0
      · rename_i h3
        rw [if_pos h3]
        obtain ⟨h7, h8⟩ := comGo_mono l n i j 0 _ rfl
        exact hs.com (by
          simp only at h7 h8 ⊢
          rcases Nat.lt_or_ge i (comGo l n i j 0).2.1 with h9 | h9
          · exact .inl h9
          · exact .inr ⟨by omega, h8 (by omega)⟩)
      · simp at h0
    rename_i h2
    rw [if_neg h2]
    split at h0
    · rename_i h3
      rw [if_pos h3]
      exact hs.com (.inr ⟨rfl, Nat.le_add_right _ _⟩)
    rename_i h3
    rw [if_neg h3]
    split at h0
    · simp at h0
    rename_i h4
    rw [if_neg h4]
    split at h0
    · rename_i h5
      simp only at h0
      rw [h0] at h5
      simp at h5
    rename_i h5
    rw [if_neg h5]
    have h6 : (pieceT c r).err = 0 := by simpa using h5
    have hf : firstTok (c :: r) = some ((pieceT c r).kind, (pieceT c r).len) := by
      unfold firstTok
      simp only
      rw [if_neg (by simp only [Bool.or_eq_true, not_or]; exact ⟨⟨⟨h1, h2⟩, h3⟩, h4⟩), if_pos h6]
    obtain ⟨p1, p2⟩ := first_pos _ _ _ hf
    simp only [List.length_cons] at p2
    have ha := first_alone _ _ _ hf
    rw [← hx] at ha ⊢
    exact hs.token hi _ _ (by omega) ha
theorem readLoop_standing (l : List Str) (n : Nat) : ∀ (k : Nat) (s : St) (m : Nat), s.Ok l m → Standing l s.i s.j s.ts s.cs → (readLoop l n k s).1 = 0 → Standing l (readLoop l n k s).2.i (readLoop l n k s).2.j (readLoop l n k s).2.ts (readLoop l n k s).2.cs
  | 0, s, m, h, hs, _ => hs
  | k + 1, s, m, h, hs, h0 => by
    rw [readLoop] at h0 ⊢
    split
    · rename_i hi
      rw [if_pos hi] at h0
      split
      · rename_i h1
        rw [if_pos h1] at h0
        simp [h0] at h1
      · rename_i h1
        rw [if_neg h1] at h0
        exact readLoop_standing l n k _ m (nextGo_ok l m n s hi h).1 (nextGo_standing l n m s hi h hs (by simpa using h1)) h0
    · exact hs
theorem readAll_standing (l : List Str) (h0 : (readAll l).1 = 0) : Standing l (readAll l).2.i (readAll l).2.j (readAll l).2.ts (readAll l).2.cs :=
  readLoop_standing l _ _ _ _ (st0_ok l) ⟨by simp [st0], by simp [st0], fun x y hx hy hp => by simp [st0] at hp⟩ h0
theorem readAll_end (l : List Str) (h0 : (readAll l).1 = 0) : ¬ (readAll l).2.i < l.length := by
  have : ∀ (k : Nat) (s : St), s.Ok l (total l) → left l s.i s.j < k → (readLoop l (total l + 1) k s).1 = 0 → ¬ (readLoop l (total l + 1) k s).2.i < l.length := fun k => by
    induction k with
    | zero => intro s _ h; omega
    | succ k ih =>
      intro s hs hl h0
      rw [readLoop] at h0 ⊢
      by_cases hi : s.i < l.length
      · rw [if_pos hi] at h0 ⊢
        by_cases h1 : ((nextGo l (total l + 1) s).1 != 0) = true
        · rw [if_pos h1] at h0; simp [h0] at h1
        · rw [if_neg h1] at h0 ⊢
          obtain ⟨h2, h3⟩ := nextGo_ok l (total l) (total l + 1) s hi hs
          have := h3 (by simpa using h1)
          exact ih _ h2 (by omega) h0
      · rw [if_neg hi]; exact hi
  exact this _ _ (st0_ok l) (by show left l 0 0 < total l + 1; unfold total; omega) h0
end Go.Proofs.YtlmmgblghgmgeaaDoor
