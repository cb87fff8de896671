/- The texts PureA, PureM, PlaceA, PlaceB, PlaceC, merged. -/
import Derived.Test.YtlmmgblghgmgeaaGreatDoorNah
import Derived.Laws.RangeString
import Derived.Laws.RangeAny
import Derived.Test.YtlmmgblghgmgeaaGreatDoorNai
set_option linter.unusedVariables false
set_option linter.unusedSimpArgs false
/- Characters of texts; the law of the lines. -/
namespace Go.Proofs.YtlmmgblghgmgeaaGreatDoor
open Go Ev
set_option linter.unusedSimpArgs false

theorem idxFrom_any (p : Nat → Bool) (s : Str) (H : ∀ b ∈ s, b.toNat < 128 ∨ ∀ r : Nat, 128 ≤ r → p r = true) : ∀ (f pos : Nat), s.length - pos ≤ f →
    decide (0 ≤ Lib.idxFuncFrom p true ⟨s.toArray⟩ f pos) = (s.drop pos).any (fun b => p b.toNat)
  | 0, pos, h => by
    rw [List.drop_eq_nil_of_le (by omega)]; rfl
  | f + 1, pos, h => by
    unfold Lib.idxFuncFrom
    have hsz : (⟨s.toArray⟩ : ByteArray).size = s.length := by simp [ByteArray.size]
    by_cases hp : pos < s.length
    · have hp' : pos < (⟨s.toArray⟩ : ByteArray).size := by rw [hsz]; exact hp
      have hget : (⟨s.toArray⟩ : ByteArray)[pos]'hp' = s[pos] := by
        show s.toArray[pos] = s[pos]
        simp
      rw [if_pos hp', List.drop_eq_getElem_cons hp, List.any_cons]
      rcases Nat.lt_or_ge (s[pos].toNat) 128 with hb | hb
      · rw [decode_ascii ⟨s.toArray⟩ pos hp' (by rw [hget]; exact hb), hget]
        cases h1 : p s[pos].toNat
        · simp only [Bool.false_eq_true, if_false, Bool.false_or]
          exact idxFrom_any p s H f (pos + 1) (by omega)
        · simp
      · have hall := (H s[pos] (List.getElem_mem hp)).resolve_left (by omega)
        have hd := (decode_high ⟨s.toArray⟩ pos hp' (by rw [hget]; exact hb)).1
        rw [if_pos (hall _ hd), hall _ hb]
        simp
    · rw [if_neg (by rw [hsz]; exact hp), List.drop_eq_nil_of_le (by omega)]
      simp
theorem idx_any (p : Nat → Bool) (s : Str) (H : ∀ b ∈ s, b.toNat < 128 ∨ ∀ r : Nat, 128 ≤ r → p r = true) : decide (0 ≤ Lib.idxFunc p true ⟨s.toArray⟩) = s.any (fun b => p b.toNat) := by
  have := idxFrom_any p s H s.length 0 (by omega)
  simp only [List.drop_zero] at this
  rw [← this]
  unfold Lib.idxFunc
  rw [show (⟨s.toArray⟩ : ByteArray).size = s.length by simp [ByteArray.size]]
theorem oddS_any (s : Str) : oddS s = s.any (fun b => oddRune b.toNat) :=
  idx_any oddRune s fun b _ => .inr fun r hr => by
    have : (r : Int) > 126 := by omega
    simp [oddRune, this]
theorem odd_shown (b : UInt8) : oddRune b.toNat = !shownC b := by simp [oddRune, shownC]
theorem oddS_shown (s : Str) : oddS s = !s.all shownC := by
  rw [oddS_any, List.not_all_eq_any_not]
  congr 1
  funext b
  exact odd_shown b
theorem lineErr_ref (s : Str) : lineErr s = if decide ((s.length : Int) > 120) then 2 else if !shownP s 120 then 5 else 0 := by
  unfold lineErr shownP
  rw [oddS_shown]
  by_cases h : (s.length : Int) > 120
  · simp [h, firstOf]
  · have h' : (s.length : Int) ≤ 120 := by omega
    cases s.all shownC <;> simp [h, h', firstOf]
theorem linesGo_ref : ∀ (l : List Str) (n : Int), linesGo l n = refLinesGo l n
  | [], _ => rfl
  | s :: l, n => by
    rw [linesGo, refLinesGo, lineErr_ref, linesGo_ref l (n + 1)]
    by_cases h : (s.length : Int) > 120
    · simp [h]
    · cases h2 : shownP s 120 <;> simp [h]
theorem checkLines_ref (l : List Str) : checkLinesP l = refLinesP l := by
  unfold checkLinesP refLinesP
  rw [linesGo_ref]
end Go.Proofs.YtlmmgblghgmgeaaGreatDoor

/- The comments of a text lie in it. -/
namespace Go.Proofs.YtlmmgblghgmgeaaGreatDoor
open Go Ev Go.RowKit
set_option linter.unusedSimpArgs false

theorem comGo_mono (l : List Str) : ∀ (n i j : Nat) (d : Int) (q : Bool × Nat × Nat), comGo l n i j d = q → i ≤ q.2.1 ∧ (q.2.1 = i → j ≤ q.2.2)
  | 0, i, j, d, q, hq => by subst hq; exact ⟨Nat.le_refl _, fun _ => Nat.le_refl _⟩
  | n + 1, i, j, d, q, hq => by
    rw [comGo] at hq
    by_cases h : i < l.length
    · rw [dif_pos h] at hq
      split at hq
      · obtain ⟨h1, h2⟩ := comGo_mono l n (i + 1) 0 d q hq
        exact ⟨by omega, fun he => by omega⟩
      · split at hq
        · obtain ⟨h1, h2⟩ := comGo_mono l n i (j + 2) (d + 1) q hq
          exact ⟨h1, fun he => by have := h2 he; omega⟩
        · split at hq
          · split at hq
            · subst hq; exact ⟨Nat.le_refl _, fun _ => by simp only; omega⟩
            · obtain ⟨h1, h2⟩ := comGo_mono l n i (j + 2) (d - 1) q hq
              exact ⟨h1, fun he => by have := h2 he; omega⟩
          · obtain ⟨h1, h2⟩ := comGo_mono l n i (j + 1) d q hq
            exact ⟨h1, fun he => by have := h2 he; omega⟩
    · rw [dif_neg h] at hq
      subst hq; exact ⟨Nat.le_refl _, fun _ => Nat.le_refl _⟩
theorem lens_line (l : List Str) (i : Nat) : (lens l).getD i 0 = lineLen l i := lens_getD l i
theorem lens_length (l : List Str) : (lens l).length = l.length := by simp [lens]
theorem nextGo_spans (l : List Str) (n m : Nat) (s : St) (hi : s.i < l.length) (h : s.Ok l m) (hc : ∀ c ∈ s.cs, SpOk (lens l) c) : ∀ c ∈ (nextGo l n s).2.cs, SpOk (lens l) c := by
  obtain ⟨i, j, ts, cs⟩ := s
  have hj := h.j hi
  simp only at hi hj hc
  have hle := lineLen_eq l i hi
  have hg : l.getD i [] = l[i] := by simp [List.getD_eq_getElem?_getD, hi]
  unfold nextGo
  simp only [hg]
  have hdl : (l[i].drop j).length = l[i].length - j := List.length_drop
  generalize hs : l[i].drop j = s at hdl
  cases s with
  | nil => exact hc
  | cons c r =>
    simp only [List.length_cons] at hdl
    simp only
    split
    · exact hc
    split
    · split
      · rename_i h1
        obtain ⟨h2, h3, h4⟩ := comGo_range l n i j 0 _ rfl (fun _ => hj) (by omega)
        obtain ⟨h5, h6⟩ := h4 h1
        obtain ⟨h7, h8⟩ := comGo_mono l n i j 0 _ rfl
        intro c' hc'
        rcases List.mem_append.1 hc' with hc' | hc'
        · exact hc c' hc'
        · rw [List.mem_singleton] at hc'
          subst hc'
          exact ⟨h7, by rw [lens_length]; exact h5, by rw [lens_line]; exact hj, by rw [lens_line]; exact h3 h5, fun he => h8 he.symm⟩
      · exact hc
    split
    · intro c' hc'
      rcases List.mem_append.1 hc' with hc' | hc'
      · exact hc c' hc'
      · rw [List.mem_singleton] at hc'
        subst hc'
        exact ⟨Nat.le_refl _, by rw [lens_length]; exact hi, by rw [lens_line]; exact hj, by rw [lens_line]; simp only; omega, fun _ => by simp only; omega⟩
    split
    · exact hc
    split
    · exact hc
    · exact hc
theorem readLoop_spans (l : List Str) (n m : Nat) : ∀ (k : Nat) (s : St), s.Ok l m → (∀ c ∈ s.cs, SpOk (lens l) c) → (∀ c ∈ (readLoop l n k s).2.cs, SpOk (lens l) c) ∧ (readLoop l n k s).2.Ok l m
  | 0, s, h, hc => ⟨hc, h⟩
  | k + 1, s, h, hc => by
    rw [readLoop]
    by_cases hi : s.i < l.length
    · have h1 := nextGo_spans l n m s hi h hc
      have h2 := (nextGo_ok l m n s hi h).1
      rw [if_pos hi]
      split
      · exact ⟨h1, h2⟩
      · exact readLoop_spans l n m k _ h2 h1
    · rw [if_neg hi]
      exact ⟨hc, h⟩
theorem readAll_spans (l : List Str) : (∀ c ∈ (readAll l).2.cs, SpOk (lens l) c) ∧ (readAll l).2.Ok l (total l) := readLoop_spans l _ _ _ _ (st0_ok l) (by simp [st0])
theorem total_small (l : List Str) (h1 : l.length ≤ 300) (h2 : ∀ s ∈ l, s.length ≤ 120) : total l ≤ 36300 := by
  unfold total left
  rw [List.drop_zero, Nat.sub_zero]
  have : ∀ (l : List Str), (∀ s ∈ l, s.length ≤ 120) → (l.map fun s => s.length + 1).sum ≤ 121 * l.length := fun l => by
    induction l with
    | nil => simp
    | cons x l ih =>
      intro h
      have := ih fun s hs => h s (List.mem_cons_of_mem _ hs)
      have := h x (by simp)
      simp only [List.map_cons, List.sum_cons, List.length_cons]; omega
  have := this l h2
  omega
theorem checkLines_small {l : List Str} (h : (checkLinesP l).2 = 0) : l.length ≤ 300 ∧ ∀ s ∈ l, s.length ≤ 120 ∧ oddS s = false := by
  unfold checkLinesP at h
  split at h
  · simp at h
  · rename_i h1
    refine ⟨by simp at h1; omega, fun s hs => ?_⟩
    have := linesGo_len l 0 h s hs
    refine ⟨lineErr_len this, ?_⟩
    have h3 := lineErr_len this
    cases h4 : oddS s with
    | false => rfl
    | true =>
      exfalso
      unfold lineErr at this
      rw [h4] at this
      have h5 : decide ((s.length : Int) > 120) = false := by simp; omega
      rw [h5] at this
      simp [firstOf] at this
theorem readP_spans (l : List Str) : (∀ c ∈ (readP l).cs, SpOk (lens l) c) ∧ (readP l).cs.length < 2 ^ 40 := by
  obtain ⟨h1, h2⟩ := readAll_spans l
  unfold readP
  cases h0 : (checkLinesP l).2 != 0
  · have h0' : (checkLinesP l).2 = 0 := by simpa using h0
    obtain ⟨h3, h4⟩ := checkLines_small h0'
    have h5 := total_small l h3 fun s hs => (h4 s hs).1
    have h6 := h2.n
    simp only [Bool.false_eq_true, if_false]
    split
    · exact ⟨by simp, by simp⟩
    · split
      · exact ⟨by simp, by simp⟩
      · exact ⟨h1, by simp only; omega⟩
  · exact ⟨by simp, by simp⟩
end Go.Proofs.YtlmmgblghgmgeaaGreatDoor

/- What of the reading is plain: tokens alone, symbols, blanks in the places of comments, two tokens in one text. -/
namespace Go.Proofs.YtlmmgblghgmgeaaGreatDoor
open Go Ev
set_option maxRecDepth 100000
set_option linter.unusedSimpArgs false

/-- The number of digits. -/
def valOf (s : Str) : Int := s.foldl (fun n b => 10 * n + (b.toNat - 48)) 0
theorem valOf_take (s : Str) (i : Nat) (h : i < s.length) : valOf (s.take (i + 1)) = 10 * valOf (s.take i) + (s[i].toNat - 48) := by
  unfold valOf
  rw [List.take_succ_eq_append_getElem h, List.foldl_append]
  rfl
theorem digit_range {b : UInt8} (h : digitB b.toNat = true) : 48 ≤ b.toNat ∧ b.toNat ≤ 57 := by
  simp only [digitB, spansB, Bool.and_eq_true, decide_eq_true_eq] at h; omega
theorem valOf_range (s : Str) (hd : ∀ b ∈ s, digitB b.toNat = true) : ∀ i, i ≤ s.length → 0 ≤ valOf (s.take i) ∧ valOf (s.take i) < 10 ^ i
  | 0, _ => by simp [valOf]
  | i + 1, h => by
    have h1 := valOf_range s hd i (by omega)
    have h2 := digit_range (hd s[i] (List.getElem_mem (by omega)))
    rw [valOf_take s i (by omega), Int.pow_succ]
    omega
def bReadP (s : Str) : Int × Bool := if !spansB s.length 1 9 || (decide ((1 : Int) < s.length) && ((s.getD 0 0).toNat : Int) == 48) then (0, false) else (valOf s, true)
def allSyms : List Str := plainL ++ othersL.map (·.1)
/-- What two characters stand at a place, if there are two. -/
def two (s : Str) (j : Nat) : Str := if j + 1 < s.length then (s.take (j + 2)).drop j else []
def place (i j : Int) : AV := .agg [.int .i64 i, .int .i64 j]
theorem longest_append (s : Str) (n : Int) (a b : List Str) : longest s n (a ++ b) = longest s (longest s n a) b := by
  unfold longest; rw [List.foldl_append]
theorem longest_spec (s : Str) : ∀ (l : List Str) (n : Int), n ≤ longest s n l ∧ (longest s n l = n ∨ ∃ x ∈ l, hasPre s x = true ∧ longest s n l = x.length) ∧ ∀ x ∈ l, hasPre s x = true → (x.length : Int) ≤ longest s n l
  | [], n => ⟨Int.le_refl _, .inl rfl, by simp⟩
  | x :: l, n => by
    show n ≤ longest s (if hasPre s x then maxI n x.length else n) l ∧ (longest s (if hasPre s x then maxI n x.length else n) l = n ∨ _) ∧ _
    obtain ⟨h1, h2, h3⟩ := longest_spec s l (if hasPre s x then maxI n x.length else n)
    have e : longest s n (x :: l) = longest s (if hasPre s x then maxI n x.length else n) l := rfl
    rw [e]
    cases hx : hasPre s x with
    | false =>
      simp only [hx, Bool.false_eq_true, if_false] at h1 h2 h3 ⊢
      refine ⟨h1, ?_, fun y hy hp => ?_⟩
      · rcases h2 with h2 | ⟨y, hy, hp, he⟩
        · exact .inl h2
        · exact .inr ⟨y, List.mem_cons_of_mem _ hy, hp, he⟩
      · rcases List.mem_cons.1 hy with rfl | hy
        · rw [hx] at hp; simp at hp
        · exact h3 y hy hp
    | true =>
      simp only [hx, if_true] at h1 h2 h3 ⊢
      have hm : maxI n x.length = n ∧ (x.length : Int) ≤ n ∨ maxI n x.length = x.length ∧ n ≤ x.length := by
        unfold maxI; split
        · exact .inr ⟨rfl, by omega⟩
        · exact .inl ⟨rfl, by omega⟩
      refine ⟨by rcases hm with h | h <;> omega, ?_, fun y hy hp => ?_⟩
      · rcases h2 with h2 | ⟨y, hy, hp, he⟩
        · rcases hm with h | h
          · exact .inl (by omega)
          · exact .inr ⟨x, by simp, hx, by omega⟩
        · exact .inr ⟨y, List.mem_cons_of_mem _ hy, hp, he⟩
      · rcases List.mem_cons.1 hy with rfl | hy
        · rcases hm with h | h <;> omega
        · exact h3 y hy hp
theorem hasPre_iff (s p : Str) : hasPre s p = true ↔ p <+: s := by
  unfold hasPre
  simp only [Bool.and_eq_true, decide_eq_true_eq, beq_iff_eq]
  rw [List.prefix_iff_eq_take]
  constructor
  · rintro ⟨_, h⟩; exact h.symm
  · intro h
    refine ⟨?_, h.symm⟩
    have := congrArg List.length h
    rw [List.length_take] at this; omega
/-- The longest symbol with which a text begins. -/
def longSym (t : Str) : Int := longest t (longest t 0 plainL) (othersL.map (·.1))
theorem longSym_eq (t : Str) : longSym t = longest t 0 allSyms := by
  unfold longSym allSyms; rw [longest_append]
theorem longSym_spec (t : Str) : 0 ≤ longSym t ∧ (longSym t = 0 ∨ ∃ x ∈ allSyms, x <+: t ∧ longSym t = x.length) ∧ ∀ x ∈ allSyms, x <+: t → (x.length : Int) ≤ longSym t := by
  rw [longSym_eq]
  obtain ⟨h1, h2, h3⟩ := longest_spec t allSyms 0
  refine ⟨h1, ?_, fun x hx hp => h3 x hx ((hasPre_iff t x).2 hp)⟩
  rcases h2 with h2 | ⟨x, hx, hp, he⟩
  · exact .inl h2
  · exact .inr ⟨x, hx, (hasPre_iff t x).1 hp, he⟩
/-- Long symbols are backslashes with letters. -/
def longOk (x : Str) : Bool :=
  match x with
  | 92 :: b :: r => if letterB b.toNat then r.all fun b => letterB b.toNat else r.isEmpty
  | x => decide (x.length ≤ 3)
theorem syms_long : ∀ x ∈ allSyms, longOk x = true := by
  have : allSyms.all longOk = true := by decide +kernel
  exact fun x hx => List.all_eq_true.1 this x hx
/-- The same error; without one, the same kind and length. -/
def SameP (p : Pc) (x : AV) : Prop := ∃ k l, x = piece k l p.err ∧ (p.err = 0 → k = p.kind ∧ l = p.len)
theorem sameP_refl (k l e : Int) : SameP ⟨k, l, e⟩ (piece k l e) := ⟨k, l, rfl, fun _ => ⟨rfl, rfl⟩⟩
theorem sameP_err {k l k' l' e : Int} (h : e ≠ 0) : SameP ⟨k, l, e⟩ (piece k' l' e) := ⟨k', l', rfl, fun h' => absurd h' h⟩
theorem byte_of (c : UInt8) (n : Nat) (hn : n < 256) (h : c.toNat = n) : c = n.toUInt8 := by
  have : c.toNat = (n.toUInt8).toNat := by
    rw [h]; simp [Nat.toUInt8, UInt8.toNat_ofNat']; omega
  exact UInt8.toNat_inj.1 this
theorem firstOf_0 (l : List Int) : firstOf (0 :: l) = firstOf l := rfl
theorem firstOf_8 (l : List Int) : firstOf (8 :: l) = 8 := rfl
theorem firstOf_3 (l : List Int) : firstOf (3 :: l) = 3 := rfl
theorem firstOf_n : firstOf [] = 0 := rfl
/-! ### texts in quotation marks -/
theorem indexByte_run (b : UInt8) : ∀ s : Str, Lib.indexByte s b = if run (fun x => (x.toNat : Int) != b.toNat) s = s.length then -1 else (run (fun x => (x.toNat : Int) != b.toNat) s : Int)
  | [] => rfl
  | x :: s => by
    have ih := indexByte_run b s
    have hle := run_le (fun x => (x.toNat : Int) != b.toNat) s
    unfold Lib.indexByte
    cases h : (x == b)
    · have hx : ((x.toNat : Int) != b.toNat) = true := by
        have : x ≠ b := by simpa using h
        have : x.toNat ≠ b.toNat := fun he => this (UInt8.toNat_inj.1 he)
        simp; omega
      have hr : run (fun x => (x.toNat : Int) != b.toNat) (x :: s) = run (fun x => (x.toNat : Int) != b.toNat) s + 1 := by
        unfold run; rw [List.takeWhile_cons, if_pos hx]; rfl
      rw [hr, ih]
      simp only [Bool.false_eq_true, if_false, List.length_cons]
      by_cases he : run (fun x => (x.toNat : Int) != b.toNat) s = s.length
      · simp [he]
      · have h1 : ¬ ((run (fun x => (x.toNat : Int) != b.toNat) s : Int) == -1) = true := by simp <;> omega
        have h2 : ¬ run (fun x => (x.toNat : Int) != b.toNat) s + 1 = s.length + 1 := by omega
        simp only [if_neg he, if_neg h1, if_neg h2]
        omega
    · have hx : ((x.toNat : Int) != b.toNat) = false := by
        have : x = b := by simpa using h
        subst this; simp
      have hr : run (fun x => (x.toNat : Int) != b.toNat) (x :: s) = 0 := by
        unfold run; rw [List.takeWhile_cons, hx]; rfl
      rw [hr]
      simp
theorem numOf_val (s : Str) (hd : ∀ b ∈ s, digitB b.toNat = true) : ∀ i, i ≤ s.length → numOf (s.take i) = min (valOf (s.take i)) 10001
  | 0, _ => by rw [List.take_zero]; show (0 : Int) = min 0 10001; omega
  | i + 1, h => by
    have ih := numOf_val s hd i (by omega)
    have hr := digit_range (hd s[i] (List.getElem_mem (by omega)))
    have hv := (valOf_range s hd i (by omega)).1
    rw [numOf_take s i (by omega), valOf_take s i (by omega), ih]
    omega
theorem valOf_ge (s : Str) (hd : ∀ b ∈ s, digitB b.toNat = true) (h0 : 0 < s.length) (h1 : s[0].toNat ≠ 48) : ∀ i, i < s.length → 10 ^ i ≤ valOf (s.take (i + 1))
  | 0, h => by
    have hr := digit_range (hd s[0] (List.getElem_mem h0))
    rw [valOf_take s 0 h]
    simp [valOf]; omega
  | i + 1, h => by
    have ih := valOf_ge s hd h0 h1 i (by omega)
    have hr := digit_range (hd s[i + 1] (List.getElem_mem h))
    rw [valOf_take s (i + 1) h, Int.pow_succ]
    omega
theorem number_same (g : Str) (hd : ∀ b ∈ g, digitB b.toNat = true) (h0 : 0 < g.length) :
    SameP ⟨2, g.length, numErr g⟩ (if (g.getD 0 0).toNat == 48 && decide (1 < g.length) then piece 0 0 8 else if !(bReadP g).2 || decide ((bReadP g).1 > 10000) then piece 0 0 3 else piece 2 g.length 0) := by
  have hg : g.getD 0 0 = g[0] := by simp [List.getD_eq_getElem?_getD, h0]
  have hn := numOf_val g hd g.length (Nat.le_refl _)
  rw [List.take_length] at hn
  unfold numErr bReadP
  rw [hg]
  by_cases h1 : (g[0].toNat == 48 && decide (1 < g.length)) = true
  · have h2 : g[0].toNat = 48 ∧ 1 < g.length := by simpa using h1
    have h3 : (decide ((1 : Int) < g.length) && ((g[0].toNat : Int) == 48)) = true := by simp; omega
    rw [if_pos h1, h3]
    simp only [if_true, firstOf_8]
    exact sameP_err (by decide)
  · have h1' : (g[0].toNat == 48 && decide (1 < g.length)) = false := by simpa using h1
    have h3 : (decide ((1 : Int) < g.length) && ((g[0].toNat : Int) == 48)) = false := by
      cases h4 : decide ((1 : Int) < g.length)
      · rfl
      · have : 1 < g.length := by simp at h4; omega
        have h5 : g[0].toNat ≠ 48 := fun he => by simp [he, this] at h1
        simp; omega
    rw [if_neg h1, h3]
    simp only [Bool.false_eq_true, if_false, firstOf_0]
    by_cases h9 : g.length ≤ 9
    · have hs : spansB g.length 1 9 = true := by simp [spansB]; omega
      rw [hs]
      simp only [Bool.not_true, Bool.or_false, Bool.false_eq_true, if_false]
      by_cases hv : valOf g > 10000
      · have : numOf g > 10000 := by omega
        simp only [hv, this, Bool.not_true, decide_true, Bool.false_or, if_true, firstOf_3]
        exact sameP_err (e := 3) (by decide)
      · have : ¬ numOf g > 10000 := by omega
        simp only [hv, this, Bool.not_true, decide_false, Bool.false_or, if_false, Bool.false_eq_true, firstOf_0, firstOf_n]
        exact sameP_refl _ _ _
    · have hs : spansB g.length 1 9 = false := by simp [spansB]; omega
      rw [hs]
      simp only [Bool.not_false, Bool.or_false, if_true, Bool.true_or]
      have h5 : g[0].toNat ≠ 48 := fun he => by
        have : 1 < g.length := by omega
        simp [he, this] at h1
      have hge := valOf_ge g hd h0 h5 (g.length - 1) (by omega)
      rw [show g.length - 1 + 1 = g.length by omega, List.take_length] at hge
      have hp : (10 : Int) ^ 9 ≤ 10 ^ (g.length - 1) := by
        have := Nat.pow_le_pow_right (n := 10) (by omega) (show 9 ≤ g.length - 1 by omega)
        exact_mod_cast this
      have : numOf g > 10000 := by omega
      simp only [this, if_true, firstOf_3]
      exact sameP_err (e := 3) (by decide)
theorem trim_same (n : Nat) (c : UInt8) : Lib.trimB (List.replicate n c) c = [] := by
  unfold Lib.trimB Lib.trimLeftB Lib.trimRightB
  have h : ∀ l : Str, (∀ b ∈ l, b = c) → l.dropWhile (· == c) = [] := fun l => by
    induction l with
    | nil => intro _; rfl
    | cons a l ih =>
      intro hl
      have : a = c := hl a (by simp)
      rw [List.dropWhile_cons, if_pos (by simp [this])]
      exact ih fun b hb => hl b (by simp [hb])
  have h1 : ((List.replicate n c).reverse.dropWhile (· == c)) = [] := h _ fun b hb => by simp at hb; exact hb.2
  rw [h1]
  rfl
theorem trim_other (n : Nat) (c d : UInt8) (h : c ≠ d) : Lib.trimB (List.replicate n c) d = List.replicate n c := by
  unfold Lib.trimB Lib.trimLeftB Lib.trimRightB
  have hk : ∀ l : Str, (∀ b ∈ l, b = c) → l.dropWhile (· == d) = l := fun l hl => by
    cases l with
    | nil => rfl
    | cons a l =>
      have : a = c := hl a (by simp)
      rw [List.dropWhile_cons, if_neg (by simp [this, h])]
  have hr : ∀ b ∈ List.replicate n c, b = c := fun b hb => (List.mem_replicate.1 hb).2
  rw [List.reverse_replicate, hk _ hr, List.reverse_replicate, hk _ hr]
theorem sign_rep (c : UInt8) (r : Str) : (c :: r).take (signOf c r) = List.replicate (signOf c r) c := by
  refine List.eq_replicate_iff.2 ⟨?_, fun b hb => ?_⟩
  · rw [List.length_take]
    have := run_le (fun b => (b.toNat : Int) == c.toNat) (c :: r)
    unfold signOf; omega
  · unfold signOf at hb
    rw [take_run] at hb
    have := takeWhile_all _ _ b hb
    have : b.toNat = c.toNat := by simp at this; omega
    exact UInt8.toNat_inj.1 this
theorem sign_pos (c : UInt8) (r : Str) : 0 < signOf c r := by
  unfold signOf run
  rw [List.takeWhile_cons, if_pos (by simp)]; simp
theorem rule_eq (c : UInt8) (r : Str) : isRuleB ((c :: r).take (signOf c r)) = (decide (4 ≤ signOf c r) && (((c.toNat : Int) == 45) || ((c.toNat : Int) == 61))) := by
  have hp := sign_pos c r
  rw [sign_rep]
  generalize signOf c r = n at hp
  have hne : (List.replicate n c == ([] : Str)) = false := by
    cases n with
    | zero => omega
    | succ n => rfl
  unfold isRuleB
  rw [List.length_replicate]
  by_cases h1 : c.toNat = 45
  · have : c = 45 := byte_of c 45 (by decide) h1
    subst this
    rw [trim_same]; rfl
  · have hc1 : c ≠ 45 := fun he => h1 (by rw [he]; rfl)
    have e1 : ((c.toNat : Int) == 45) = false := by simp <;> omega
    rw [trim_other n c 45 hc1, hne, e1]
    by_cases h2 : c.toNat = 61
    · have : c = 61 := byte_of c 61 (by decide) h2
      subst this
      rw [trim_same]; rfl
    · have hc2 : c ≠ 61 := fun he => h2 (by rw [he]; rfl)
      have e2 : ((c.toNat : Int) == 61) = false := by simp <;> omega
      rw [trim_other n c 61 hc2, hne, e2]
theorem idxIn_any (x : Str) : ∀ (l : List Str) (n : Int), 0 ≤ n → decide (0 ≤ idxIn x l n) = l.any (fun y => y == x)
  | [], n, _ => rfl
  | y :: l, n, h => by
    unfold idxIn
    rw [List.any_cons]
    cases h1 : (x == y)
    · have h2 : (y == x) = false := by
        have : x ≠ y := by simpa using h1
        simp; exact fun he => this he.symm
      rw [h2]
      simp only [Bool.false_eq_true, if_false, Bool.false_or]
      exact idxIn_any x l (n + 1) (by omega)
    · have h2 : (y == x) = true := by
        have : x = y := by simpa using h1
        simp [this]
      rw [h2]
      simp [h]
theorem word_ascii {b : UInt8} (h : wordB b.toNat = true) : b.toNat < 128 := by
  simp only [wordB, letterB, digitB, spansB, Bool.or_eq_true, Bool.and_eq_true, decide_eq_true_eq, beq_iff_eq] at h
  omega
theorem hasLetter_any (t : Str) : hasLetter (wordOf t) = (wordOf t).any (fun b => letterB b.toNat) := by
  unfold hasLetter
  have hw : ∀ b ∈ wordOf t, wordB b.toNat = true := fun b hb => by
    unfold wordOf at hb
    rw [take_run] at hb
    exact takeWhile_all _ _ b hb
  have := idx_any (fun x => letterB (x % 256)) (wordOf t) fun b hb => .inl (word_ascii (hw b hb))
  rw [this]
  congr 1
  funext b
  rw [Nat.mod_eq_of_lt b.toNat_lt]
/-- Tokens that are read from a state on. -/
theorem step_tokens (l : List Str) (n : Nat) (s : St) (hi : s.i < l.length) (hj : s.j ≤ lineLen l s.i) :
    (nextGo l n s).2.ts = s.ts ∨ ∃ t, (nextGo l n s).2.ts = s.ts ++ [t] ∧ t.text.length + s.j ≤ lineLen l s.i ∧ (nextGo l n s).2.i = s.i ∧ (nextGo l n s).2.j = s.j + t.text.length ∧ (nextGo l n s).2.cs = s.cs ∧ (nextGo l n s).1 = 0 := by
  obtain ⟨i, j, ts, cs⟩ := s
  simp only at hi hj ⊢
  have hg : l.getD i [] = l[i] := by simp [List.getD_eq_getElem?_getD, hi]
  have hle := lineLen_eq l i hi
  have hdl : (l[i].drop j).length = l[i].length - j := List.length_drop
  unfold nextGo
  simp only [hg]
  generalize l[i].drop j = t at hdl
  cases t with
  | nil => exact .inl rfl
  | cons c r =>
    simp only [List.length_cons] at hdl
    simp only
    split
    · exact .inl rfl
    split
    · split <;> exact .inl rfl
    split
    · exact .inl rfl
    split
    · exact .inl rfl
    split
    · exact .inl rfl
    · rename_i h5
      have h6 : (pieceT c r).err = 0 := by simpa using h5
      obtain ⟨h7, h8⟩ := pieceT_len c r h6
      have hl : ((c :: r).take (pieceT c r).len.toNat).length = (pieceT c r).len.toNat := by
        rw [List.length_take, List.length_cons]; omega
      exact .inr ⟨_, rfl, by simp only [hl]; omega, rfl, by simp only [hl], rfl, rfl⟩
/-- In a text of one line, tokens read on from a place fit behind it. -/
theorem loop_tokens (x : Str) (n m : Nat) : ∀ (k : Nat) (s : St), s.Ok [x] m → ∃ l, (readLoop [x] n k s).2.ts = s.ts ++ l ∧ ∀ t ∈ l, s.i = 0 ∧ t.text.length + s.j ≤ x.length
  | 0, s, _ => ⟨[], by simp [readLoop], by simp⟩
  | k + 1, s, h => by
    rw [readLoop]
    by_cases hi : s.i < [x].length
    · have hi0 : s.i = 0 := by simpa using hi
      have hll : lineLen [x] s.i = x.length := by rw [hi0]; rfl
      have hst := step_tokens [x] n s hi (h.j hi)
      rw [hll] at hst
      have hok := nextGo_ok [x] m n s hi h
      have hmono : (nextGo [x] n s).1 = 0 → (nextGo [x] n s).2.i = 0 → s.j ≤ (nextGo [x] n s).2.j := fun h0 hi2 => by
        have h1 := hok.2 h0
        rcases Nat.lt_or_ge (nextGo [x] n s).2.j s.j with h2 | h2
        · exfalso
          rw [hi2, hi0] at h1
          have : ∀ j, left [x] 0 j = x.length + 1 - j := fun j => by simp [left]
          rw [this, this] at h1
          have := h.j hi
          rw [hll] at this
          omega
        · exact h2
      rw [if_pos hi]
      split
      · rcases hst with h1 | ⟨t, h1, h2, _, _, _, h6⟩
        · exact ⟨[], by rw [h1]; simp, by simp⟩
        · exact ⟨[t], h1, fun u hu => by simp at hu; subst hu; exact ⟨hi0, h2⟩⟩
      · rename_i hz
        have hz0 : (nextGo [x] n s).1 = 0 := by simpa using hz
        obtain ⟨l, hl, hlt⟩ := loop_tokens x n m k (nextGo [x] n s).2 hok.1
        have hl2 : ∀ u ∈ l, s.i = 0 ∧ u.text.length + s.j ≤ x.length := fun u hu => by
          obtain ⟨q1, q2⟩ := hlt u hu
          have := hmono hz0 q1
          exact ⟨hi0, by omega⟩
        rcases hst with h1 | ⟨t, h1, h2, _, _, _, _⟩
        · exact ⟨l, by rw [hl, h1], hl2⟩
        · refine ⟨t :: l, by rw [hl, h1]; simp, fun u hu => ?_⟩
          rcases List.mem_cons.1 hu with rfl | hu
          · exact ⟨hi0, h2⟩
          · exact hl2 u hu
    · rw [if_neg hi]
      exact ⟨[], by simp, by simp⟩
/-- The kind of a text that is just one piece. -/
def oneTok (x : Str) : Option Int :=
  match x with
  | [] => none
  | c :: r =>
    if ((c.toNat : Int) == 32) || hasPre (c :: r) [40, 42] || hasPre (c :: r) [92, 42] || hasPre (c :: r) [42, 41] then none
    else if (pieceT c r).err = 0 ∧ (pieceT c r).len = ((r.length + 1 : Nat) : Int) then some (pieceT c r).kind else none
theorem oneTok_read (x : Str) (k : Int) (h : oneTok x = some k) : readAll [x] = (0, ⟨1, 0, [⟨k, x, 0, 0⟩], []⟩) := by
  cases x with
  | nil => simp [oneTok] at h
  | cons c r =>
    unfold oneTok at h
    simp only at h
    split at h
    · simp at h
    · rename_i h1
      simp only [Bool.or_eq_true, not_or, Bool.not_eq_true] at h1
      obtain ⟨⟨⟨h1, h2⟩, h3⟩, h4⟩ := h1
      split at h
      · rename_i h5
        simp only [Option.some.injEq] at h
        obtain ⟨h5, h6⟩ := h5
        have hT : total [c :: r] = r.length + 2 := by simp [total, left]
        have s1 : nextGo [c :: r] (total [c :: r] + 1) st0 = (0, ⟨0, r.length + 1, [⟨k, c :: r, 0, 0⟩], []⟩) := by
          unfold nextGo st0
          have hg : ([c :: r] : List Str).getD 0 [] = c :: r := rfl
          simp only [hg, List.drop_zero, h1, h2, h3, h4, Bool.false_eq_true, if_false]
          have h7 : ((pieceT c r).err != 0) = false := by simp [h5]
          rw [h7, h6, h]
          simp only [Bool.false_eq_true, if_false, Int.toNat_natCast, Nat.zero_add, List.nil_append]
          rw [List.take_of_length_le (by simp)]
          rfl
        have s2 : nextGo [c :: r] (total [c :: r] + 1) ⟨0, r.length + 1, [⟨k, c :: r, 0, 0⟩], []⟩ = (0, ⟨1, 0, [⟨k, c :: r, 0, 0⟩], []⟩) := by
          unfold nextGo
          have hg : ([c :: r] : List Str).getD 0 [] = c :: r := rfl
          simp only [hg]
          rw [List.drop_eq_nil_of_le (by simp)]
        unfold readAll
        generalize hN : total [c :: r] + 1 = N at s1 s2
        obtain ⟨M, rfl⟩ : ∃ M, N = M + 3 := ⟨N - 3, by omega⟩
        rw [readLoop, if_pos (by simp [st0]), s1]
        simp only [bne_self_eq_false, Bool.false_eq_true, if_false]
        rw [readLoop, if_pos (by simp), s2]
        simp only [bne_self_eq_false, Bool.false_eq_true, if_false]
        rw [readLoop, if_neg (by simp)]
      · simp at h
theorem read_one (x : Str) (u : Tk) (h0 : (readAll [x]).1 = 0) (h : (readAll [x]).2.ts = [u]) (hu : u.text = x) : oneTok x = some u.kind := by
  have hT : total [x] = x.length + 1 := total_one x
  have hok := st0_ok [x]
  have hi : st0.i < [x].length := by simp [st0]
  have hstep := nextGo_ok [x] (total [x]) (total [x] + 1) st0 hi hok
  have hloop := loop_tokens x (total [x] + 1) (total [x]) (total [x]) (nextGo [x] (total [x] + 1) st0).2 hstep.1
  have hall : readAll [x] = if (nextGo [x] (total [x] + 1) st0).1 != 0 then nextGo [x] (total [x] + 1) st0 else readLoop [x] (total [x] + 1) (total [x]) (nextGo [x] (total [x] + 1) st0).2 := by
    show readLoop [x] (total [x] + 1) (total [x] + 1) st0 = _
    rw [readLoop, if_pos hi]
  have hz : (nextGo [x] (total [x] + 1) st0).1 = 0 := by
    cases hc : ((nextGo [x] (total [x] + 1) st0).1 != 0)
    · simpa using hc
    · rw [hall, hc] at h0
      simpa using h0
  rw [hall, hz] at h
  simp only [bne_self_eq_false, Bool.false_eq_true, if_false] at h
  have hleft := hstep.2 hz
  obtain ⟨l, hl, hlt⟩ := hloop
  rw [hl] at h
  have hpos : (nextGo [x] (total [x] + 1) st0).2.i = 0 → 0 < (nextGo [x] (total [x] + 1) st0).2.j := fun hi0 => by
    rcases Nat.lt_or_ge 0 (nextGo [x] (total [x] + 1) st0).2.j with h1 | h1
    · exact h1
    · exfalso
      have : (nextGo [x] (total [x] + 1) st0).2.j = 0 := by omega
      rw [hi0, this] at hleft
      exact Nat.lt_irrefl _ hleft
  have hnot : (nextGo [x] (total [x] + 1) st0).2.ts = [] → False := fun hts => by
    rw [hts, List.nil_append] at h
    obtain ⟨q1, q2⟩ := hlt u (by rw [h]; simp)
    rw [hu] at q2
    have := hpos q1
    omega
  cases x with
  | nil => exact (hnot rfl).elim
  | cons c r =>
    unfold oneTok
    simp only
    have hg : ([c :: r] : List Str).getD 0 [] = c :: r := rfl
    have hn := hnot
    have hzz := hz
    unfold nextGo st0 at hn hzz h
    simp only [hg, List.drop_zero] at hn hzz h
    cases h1 : ((c.toNat : Int) == 32)
    · rw [h1] at hn hzz h
      simp only [Bool.false_eq_true, if_false] at hn hzz h
      cases h2 : hasPre (c :: r) [40, 42]
      · rw [h2] at hn hzz h
        simp only [Bool.false_eq_true, if_false] at hn hzz h
        cases h3 : hasPre (c :: r) [92, 42]
        · rw [h3] at hn hzz h
          simp only [Bool.false_eq_true, if_false] at hn hzz h
          cases h4 : hasPre (c :: r) [42, 41]
          · rw [h4] at hn hzz h
            simp only [Bool.false_eq_true, if_false] at hn hzz h
            cases h5 : ((pieceT c r).err != 0)
            · rw [h5] at h
              simp only [Bool.false_eq_true, if_false, List.nil_append, List.cons_append] at h
              have h6 : (pieceT c r).err = 0 := by simpa using h5
              obtain ⟨h7, h8⟩ := pieceT_len c r h6
              obtain ⟨e1, _⟩ := List.cons.inj h
              have e2 : ((c :: r).take (pieceT c r).len.toNat) = c :: r := by
                have := congrArg Tk.text e1
                simp only at this
                rw [this, hu]
              have e3 := congrArg List.length e2
              rw [List.length_take, List.length_cons] at e3
              have e4 : (pieceT c r).len = ((r.length + 1 : Nat) : Int) := by omega
              simp only [Bool.or_false, Bool.false_eq_true, if_false]
              rw [if_pos ⟨h6, e4⟩]
              rw [← e1]
            · rw [h5] at hn
              simp only [if_true] at hn
              exact absurd hn (by simp)
          · rw [h4] at hn
            simp only [if_true] at hn
            exact absurd hn (by simp)
        · rw [h3] at hn
          simp only [if_true] at hn
          exact absurd hn (by simp)
      · rw [h2] at hn
        simp only [if_true] at hn
        exfalso
        split at hn
        · exact hn rfl
        · exact hn rfl
    · rw [h1] at hn
      simp only [if_true] at hn
      exact absurd hn (by simp)
theorem isRead_one (t : Tk) : isReadP t.text [t] = (!oddS t.text && oneTok t.text == some t.kind) := by
  unfold isReadP
  congr 1
  cases h1 : ((readAll [t.text]).1 == 0 && eqKT (readAll [t.text]).2.ts [t])
  · cases h2 : (oneTok t.text == some t.kind)
    · rfl
    · exfalso
      have h2 : oneTok t.text = some t.kind := by simpa using h2
      have := oneTok_read t.text t.kind h2
      rw [this] at h1
      simp [eqKT] at h1
  · simp only [Bool.and_eq_true, beq_iff_eq] at h1
    obtain ⟨e1, e2⟩ := h1
    match hts : (readAll [t.text]).2.ts, e2 with
    | [], e2 => simp [eqKT] at e2
    | [u], e2 =>
      simp [eqKT] at e2
      have := read_one t.text u e1 hts e2.2
      rw [this, e2.1]; simp
    | u :: v :: w, e2 => simp [eqKT] at e2
theorem syms_small : ∀ x ∈ allSyms, x.length ≤ 20 := by
  have : allSyms.all (fun x => decide (x.length ≤ 20)) = true := by decide +kernel
  intro x hx
  simpa using List.all_eq_true.1 this x hx
theorem longSym_small (t : Str) : longSym t ≤ 20 := by
  rcases (longSym_spec t).2.1 with h | ⟨x, hx, _, hl⟩
  · omega
  · have := syms_small x hx; omega
theorem numErr_small (g : Str) (hd : ∀ b ∈ g, digitB b.toNat = true) (h0 : 0 < g.length) (h : numErr g = 0) : g.length ≤ 9 := by
  rcases Nat.lt_or_ge 9 g.length with h1 | h1
  · exfalso
    obtain ⟨k, l, he, hk⟩ := number_same g hd h0
    simp only [h] at he hk
    split at he
    · simp [piece] at he
    · split at he
      · simp [piece] at he
      · rename_i h2
        simp only [Bool.or_eq_true, not_or, Bool.not_eq_true'] at h2
        have hs : spansB g.length 1 9 = false := by simp [spansB]; omega
        have : (bReadP g).2 = false := by unfold bReadP; rw [hs]; rfl
        rw [this] at h2
        simp at h2
  · exact h1
/-- A piece is short, but for rules. -/
theorem pieceT_small (c : UInt8) (r : Str) (h : (pieceT c r).err = 0) : ((pieceT c r).kind ≠ 5 ∧ (pieceT c r).len ≤ 60) ∨ (pieceT c r = ⟨5, signOf c r, 0⟩ ∧ isRuleB ((c :: r).take (signOf c r)) = true) := by
  have hdd : ∀ b ∈ digitsOf (c :: r), digitB b.toNat = true := fun b hb => by
    unfold digitsOf at hb
    rw [take_run] at hb
    exact takeWhile_all _ _ b hb
  have hls := longSym_small (c :: r)
  unfold pieceT at h ⊢
  split at h
  · rename_i h1
    rw [if_pos h1]
    exact .inl ⟨by simp, by simp⟩
  · rename_i h1
    rw [if_neg h1]
    split at h
    · rename_i h2
      rw [if_pos h2]
      simp only at h ⊢
      split at h
      · simp at h
      · rename_i h3
        simp only [decide_eq_true_eq] at h3
        refine .inl ⟨?_, by omega⟩
        split <;> simp
    · rename_i h2
      rw [if_neg h2]
      split at h
      · rename_i h3
        rw [if_pos h3]
        simp only at h ⊢
        have h0 : 0 < (digitsOf (c :: r)).length := by
          unfold digitsOf; rw [take_len]; unfold run; rw [List.takeWhile_cons, if_pos h3]; simp
        have := numErr_small _ hdd h0 h
        exact .inl ⟨by simp, by omega⟩
      · rename_i h3
        rw [if_neg h3]
        split at h
        · rename_i h4
          rw [if_pos h4]
          unfold textT at h ⊢
          split at h
          · simp at h
          · rename_i h5
            rw [if_neg h5]
            simp only at h ⊢
            refine .inl ⟨by simp, ?_⟩
            rcases Int.lt_or_le 40 (Lib.indexByte r 34) with h6 | h6
            · exfalso
              have : decide ((40 : Int) < Lib.indexByte r 34) = true := by simpa using h6
              rw [this] at h
              split at h <;> simp [firstOf] at h
            · omega
        · rename_i h4
          rw [if_neg h4]
          split at h
          · rename_i h5
            rw [if_pos h5]
            exact .inr ⟨rfl, h5⟩
          · rename_i h5
            rw [if_neg h5]
            refine .inl ?_
            have e : longest (c :: r) (longest (c :: r) 0 plainL) (othersL.map (·.1)) = longSym (c :: r) := rfl
            unfold symT at h ⊢
            simp only [e] at h ⊢
            split at h
            · rename_i h6
              rw [if_pos h6]
              simp only at h ⊢
              split at h
              · simp at h
              · rename_i h7
                have : longSym (c :: r) = (run (fun b => letterB b.toNat) r : Int) + 1 := by simpa using h7
                exact ⟨by simp, by omega⟩
            · rename_i h6
              rw [if_neg h6]
              exact ⟨by simp, by simp only; omega⟩
theorem pieceT_nw (c : UInt8) (r : Str) (hw : wordB c.toNat = false) : pieceT c r = if ((c.toNat : Int) == 34) then textT r else if (decide (4 ≤ signOf c r) && (((c.toNat : Int) == 45) || ((c.toNat : Int) == 61))) then ⟨5, signOf c r, 0⟩ else symT c r := by
  have hnotw : wordOf (c :: r) = [] := by
    unfold wordOf; rw [take_run, List.takeWhile_cons, hw]; rfl
  have hnd : digitB c.toNat = false := by
    cases hd : digitB c.toNat
    · rfl
    · unfold wordB at hw; rw [hd] at hw; simp at hw
  have hL : hasLetter [] = false := by decide
  have hp1 : hasPre [] [87, 70, 95] = false := rfl
  have hp2 : hasPre [] [83, 70, 95] = false := rfl
  unfold pieceT
  rw [hnotw, hL, hp1, hp2, hnd, rule_eq c r]; rfl
theorem sign_all (n : Nat) (c : UInt8) : signOf c (List.replicate n c) = n + 1 := by
  unfold signOf run
  have h : ∀ l : Str, (∀ b ∈ l, b = c) → l.takeWhile (fun b => (b.toNat : Int) == c.toNat) = l := fun l => by
    induction l with
    | nil => intro _; rfl
    | cons a l ih =>
      intro hl
      have : a = c := hl a (by simp)
      rw [List.takeWhile_cons, if_pos (by simp [this]), ih fun b hb => hl b (by simp [hb])]
  rw [h _ fun b hb => by rcases List.mem_cons.1 hb with rfl | hb; rfl; exact (List.mem_replicate.1 hb).2]
  simp
theorem oneTok_rule (n : Nat) (c : UInt8) (hn : 4 ≤ n) : oneTok (List.replicate n c) = some 5 ↔ (c = 45 ∨ c = 61) := by
  obtain ⟨m, rfl⟩ : ∃ m, n = m + 2 := ⟨n - 2, by omega⟩
  have hrep : List.replicate (m + 2) c = c :: c :: List.replicate m c := rfl
  have hrep1 : c :: List.replicate m c = List.replicate (m + 1) c := rfl
  have hs := sign_all (m + 1) c
  rw [← hrep1] at hs
  rw [hrep]
  unfold oneTok
  simp only
  have hp : ∀ a b : UInt8, hasPre (c :: c :: List.replicate m c) [a, b] = (a == c && b == c) := fun a b => by
    unfold hasPre
    simp only [List.length_cons, List.length_nil, List.take_succ_cons, List.take_zero]
    have h1 : decide (0 + 1 + 1 ≤ (List.replicate m c).length + 1 + 1) = true := by simp
    rw [h1, Bool.true_and]
    show (c == a && (c == b && true)) = _
    rw [Bool.and_true, BEq.comm (a := c) (b := a), BEq.comm (a := c) (b := b)]
  constructor
  · intro h
    split at h
    · simp at h
    · split at h
      · rename_i h5
        simp only [Option.some.injEq] at h
        rcases pieceT_small c (c :: List.replicate m c) h5.1 with h6 | ⟨_, h7⟩
        · exact absurd h h6.1
        · rw [rule_eq] at h7
          simp only [Bool.and_eq_true, Bool.or_eq_true] at h7
          rcases h7.2 with h8 | h8
          · exact .inl (byte_of c 45 (by decide) (by simp at h8; omega))
          · exact .inr (byte_of c 61 (by decide) (by simp at h8; omega))
      · simp at h
  · intro h
    have hl : (c :: List.replicate m c).length = m + 1 := by simp
    rcases h with rfl | rfl
    · rw [hp, hp, hp, pieceT_nw _ _ (by decide), hs]
      have h4 : decide (4 ≤ m + 1 + 1) = true := by simp; omega
      simp only [h4]
      simp
    · rw [hp, hp, hp, pieceT_nw _ _ (by decide), hs]
      have h4 : decide (4 ≤ m + 1 + 1) = true := by simp; omega
      simp only [h4]
      simp
theorem oneTok_small (s : Str) (k : Int) (h : oneTok s = some k) : (k ≠ 5 ∧ s.length ≤ 60) ∨ (k = 5 ∧ 4 ≤ s.length ∧ ∃ c, s = List.replicate s.length c) := by
  cases s with
  | nil => simp [oneTok] at h
  | cons c r =>
    unfold oneTok at h
    simp only at h
    split at h
    · simp at h
    · split at h
      · rename_i h5
        simp only [Option.some.injEq] at h
        rcases pieceT_small c r h5.1 with h6 | ⟨h6, h7⟩
        · left
          refine ⟨h ▸ h6.1, ?_⟩
          simp only [List.length_cons]; omega
        · right
          rw [h6] at h h5
          simp only at h h5
          have hs : signOf c r = r.length + 1 := by omega
          rw [rule_eq] at h7
          simp only [Bool.and_eq_true, decide_eq_true_eq] at h7
          refine ⟨h.symm, by simp only [List.length_cons]; omega, c, ?_⟩
          have := sign_rep c r
          rw [hs, List.take_of_length_le (by simp)] at this
          exact this
      · simp at h
/-- The kind and the length of the token with which a text begins. -/
def firstTok (x : Str) : Option (Int × Int) :=
  match x with
  | [] => none
  | c :: r =>
    if ((c.toNat : Int) == 32) || hasPre (c :: r) [40, 42] || hasPre (c :: r) [92, 42] || hasPre (c :: r) [42, 41] then none
    else if (pieceT c r).err = 0 then some ((pieceT c r).kind, (pieceT c r).len) else none
theorem oneTok_first (x : Str) (k : Int) : oneTok x = some k ↔ firstTok x = some (k, (x.length : Int)) := by
  cases x with
  | nil => simp [oneTok, firstTok]
  | cons c r =>
    unfold oneTok firstTok
    simp only
    split
    · simp
    · by_cases h1 : (pieceT c r).err = 0
      · rw [if_pos h1]
        by_cases h2 : (pieceT c r).len = ((r.length + 1 : Nat) : Int)
        · rw [if_pos ⟨h1, h2⟩]
          simp only [Option.some.injEq, Prod.mk.injEq, List.length_cons, h2, and_true]
        · rw [if_neg fun h => h2 h.2]
          simp only [Option.some.injEq, Prod.mk.injEq, List.length_cons, reduceCtorEq, false_iff]
          exact fun h => h2 h.2
      · rw [if_neg h1, if_neg fun h => h1 h.1]
        simp
/-- A step from a place where a token stands. -/
theorem step_first (z : Str) (n j : Nat) (ts : List Tk) (cs : List Sp) (k len : Int) (h : firstTok (z.drop j) = some (k, len)) :
    nextGo [z] n ⟨0, j, ts, cs⟩ = (0, ⟨0, j + len.toNat, ts ++ [⟨k, (z.drop j).take len.toNat, 0, j⟩], cs⟩) := by
  have hg : ([z] : List Str).getD 0 [] = z := rfl
  unfold nextGo
  simp only [hg]
  generalize z.drop j = t at h
  cases t with
  | nil => simp [firstTok] at h
  | cons c r =>
    unfold firstTok at h
    simp only at h
    split at h
    · simp at h
    · rename_i h1
      simp only [Bool.or_eq_true, not_or, Bool.not_eq_true] at h1
      obtain ⟨⟨⟨h1, h2⟩, h3⟩, h4⟩ := h1
      split at h
      · rename_i h5
        simp only [Option.some.injEq, Prod.mk.injEq] at h
        obtain ⟨rfl, rfl⟩ := h
        have h7 : ((pieceT c r).err != 0) = false := by simp [h5]
        simp only [h1, h2, h3, h4, h7, Bool.false_eq_true, if_false]
        rfl
      · simp at h
theorem first_pos (x : Str) (k len : Int) (h : firstTok x = some (k, len)) : 0 < len ∧ len ≤ x.length := by
  cases x with
  | nil => simp [firstTok] at h
  | cons c r =>
    unfold firstTok at h
    simp only at h
    split at h
    · simp at h
    · split at h
      · rename_i h5
        simp only [Option.some.injEq, Prod.mk.injEq] at h
        obtain ⟨rfl, rfl⟩ := h
        have := pieceT_len c r h5
        simp only [List.length_cons]; omega
      · simp at h
/-- Two tokens, one behind the other. -/
theorem two_read (x y : Str) (ka kb : Int) (h : firstTok (x ++ y) = some (ka, (x.length : Int))) (hb : oneTok y = some kb) :
    readAll [x ++ y] = (0, ⟨1, 0, [⟨ka, x, 0, 0⟩, ⟨kb, y, 0, x.length⟩], []⟩) := by
  have hb' := (oneTok_first y kb).1 hb
  have py := first_pos _ _ _ hb'
  have px := first_pos _ _ _ h
  generalize hz : x ++ y = z at h px
  have hzl : z.length = x.length + y.length := by rw [← hz]; simp
  have hd : z.drop x.length = y := by rw [← hz]; simp
  have ht : z.take x.length = x := by rw [← hz]; simp
  have hT : total [z] = z.length + 1 := total_one z
  have s1 : ∀ n, nextGo [z] n st0 = (0, ⟨0, x.length, [⟨ka, x, 0, 0⟩], []⟩) := fun n => by
    have := step_first z n 0 [] [] ka x.length (by rw [List.drop_zero]; exact h)
    rw [List.drop_zero] at this
    simp only [Int.toNat_natCast, Nat.zero_add, List.nil_append, ht] at this
    exact this
  have s2 : ∀ n, nextGo [z] n ⟨0, x.length, [⟨ka, x, 0, 0⟩], []⟩ = (0, ⟨0, z.length, [⟨ka, x, 0, 0⟩, ⟨kb, y, 0, x.length⟩], []⟩) := fun n => by
    have := step_first z n x.length [⟨ka, x, 0, 0⟩] [] kb y.length (by rw [hd]; exact hb')
    rw [hd] at this
    simp only [Int.toNat_natCast, List.take_length, List.cons_append, List.nil_append] at this
    rw [← hzl] at this
    exact this
  have s3 : ∀ n ts, nextGo [z] n ⟨0, z.length, ts, []⟩ = (0, ⟨1, 0, ts, []⟩) := fun n ts => by
    unfold nextGo
    have hg : ([z] : List Str).getD 0 [] = z := rfl
    simp only [hg]
    rw [List.drop_eq_nil_of_le (Nat.le_refl _)]
  unfold readAll
  generalize hN : total [z] + 1 = N
  have hN2 : 4 ≤ N := by omega
  obtain ⟨M, rfl⟩ : ∃ M, N = M + 4 := ⟨N - 4, by omega⟩
  rw [readLoop, if_pos (by simp [st0]), s1]
  simp only [bne_self_eq_false, Bool.false_eq_true, if_false]
  rw [readLoop, if_pos (by simp), s2]
  simp only [bne_self_eq_false, Bool.false_eq_true, if_false]
  rw [readLoop, if_pos (by simp), s3]
  simp only [bne_self_eq_false, Bool.false_eq_true, if_false]
  rw [readLoop, if_neg (by simp)]
/-- How much of a text tokens have, and is left. -/
def weight (z : Str) (s : St) : Nat := (s.ts.map fun t => t.text.length).sum + (if s.i = 0 then z.length - s.j else 0)
/-- A step: it is over, or a token, or something is lost. -/
theorem step_weight (z : Str) (n : Nat) (s : St) (hi : s.i = 0) (hj : s.j ≤ z.length) :
    ((∃ l, (nextGo [z] n s).2.ts = s.ts ++ l) ∧ ∃ m, (nextGo [z] n s).2.cs = s.cs ++ m) ∧
    weight z (nextGo [z] n s).2 ≤ weight z s ∧
    ((nextGo [z] n s).1 = 0 → s.j < z.length → weight z (nextGo [z] n s).2 = weight z s → ∃ k len, firstTok (z.drop s.j) = some (k, len)) ∧
    ((nextGo [z] n s).1 = 0 → s.j < z.length → (∃ k len, firstTok (z.drop s.j) = some (k, len)) ∨ (nextGo [z] n s).2.cs ≠ s.cs ∨ z.getD s.j 0 = 32) := by
  obtain ⟨i, j, ts, cs⟩ := s
  simp only at hi hj
  subst hi
  have hg : ([z] : List Str).getD 0 [] = z := rfl
  have hdl : (z.drop j).length = z.length - j := List.length_drop
  have hcom := fun q hq => comGo_range [z] n 0 j 0 q hq (fun _ => by simpa [lineLen] using hj) (by simp)
  have hget : ∀ c r, z.drop j = c :: r → z.getD j 0 = c := fun c r h => by
    have : z[j]? = some c := by
      have := congrArg (fun l => l[0]?) h
      simpa using this
    rw [List.getD_eq_getElem?_getD, this]; rfl
  have left1 : ∀ j, left [z] 0 j = z.length + 1 - j := fun j => by simp [left]
  unfold nextGo
  simp only [hg]
  generalize z.drop j = t at hdl hget
  cases t with
  | nil =>
    simp only [List.length_nil] at hdl
    refine ⟨⟨⟨[], by simp⟩, [], by simp⟩, ?_, fun _ h => by omega, fun _ h => by omega⟩
    simp only [weight]; simp
  | cons c r =>
    simp only [List.length_cons] at hdl
    have hgc := hget c r rfl
    simp only
    split
    · rename_i h1
      refine ⟨⟨⟨[], by simp⟩, [], by simp⟩, ?_, ?_, fun _ _ => .inr (.inr ?_)⟩
      · simp only [weight, if_true]; omega
      · simp only [weight, if_true]; intro _ _ _; omega
      · rw [hgc]
        have : c.toNat = 32 := by simp at h1; omega
        exact byte_of c 32 (by decide) this
    · rename_i h1
      split
      · rename_i h2
        split
        · rename_i h3
          have hq := (hcom _ rfl).2.2 h3
          have hq0 : (comGo [z] n 0 j 0).2.1 = 0 := by have := hq.1; simp only [List.length_cons, List.length_nil] at this; omega
          have hq1 := hq.2
          rw [hq0, left1, left1] at hq1
          refine ⟨⟨⟨[], by simp⟩, _, rfl⟩, ?_, ?_, fun _ _ => .inr (.inl (by simp))⟩
          · simp only [weight, hq0, if_true]; omega
          · simp only [weight, hq0, if_true]; intro _ _ _; omega
        · refine ⟨⟨⟨[], by simp⟩, [], by simp⟩, Nat.le_refl _, fun h => by simp at h, fun h => by simp at h⟩
      · rename_i h2
        split
        · rename_i h3
          refine ⟨⟨⟨[], by simp⟩, _, rfl⟩, ?_, ?_, fun _ _ => .inr (.inl (by simp))⟩
          · simp only [weight, if_true]; omega
          · simp only [weight, if_true]; intro _ _ _; omega
        · rename_i h3
          split
          · refine ⟨⟨⟨[], by simp⟩, [], by simp⟩, Nat.le_refl _, fun h => by simp at h, fun h => by simp at h⟩
          · rename_i h4
            split
            · rename_i h5
              refine ⟨⟨⟨[], by simp⟩, [], by simp⟩, Nat.le_refl _, fun h => ?_, fun h => ?_⟩
              · simp only at h; rw [h] at h5; simp at h5
              · simp only at h; rw [h] at h5; simp at h5
            · rename_i h5
              have h6 : (pieceT c r).err = 0 := by simpa using h5
              obtain ⟨h7, h8⟩ := pieceT_len c r h6
              have hl : ((c :: r).take (pieceT c r).len.toNat).length = (pieceT c r).len.toNat := by
                rw [List.length_take, List.length_cons]; omega
              have hf : firstTok (c :: r) = some ((pieceT c r).kind, (pieceT c r).len) := by
                unfold firstTok
                simp only
                rw [if_neg (by simp only [Bool.or_eq_true, not_or]; exact ⟨⟨⟨h1, h2⟩, h3⟩, h4⟩), if_pos h6]
              refine ⟨⟨⟨_, rfl⟩, [], by simp⟩, ?_, fun _ _ _ => ⟨_, _, hf⟩, fun _ _ => .inl ⟨_, _, hf⟩⟩
              simp only [weight, if_true, List.map_append, List.sum_append, List.map_cons, List.map_nil, List.sum_cons, List.sum_nil, hl]
              omega
/-- Reading on, tokens and comments stay, and no weight is won. -/
theorem loop_weight (z : Str) (n m : Nat) : ∀ (k : Nat) (s : St), s.Ok [z] m → ((∃ l, (readLoop [z] n k s).2.ts = s.ts ++ l) ∧ ∃ m, (readLoop [z] n k s).2.cs = s.cs ++ m) ∧ weight z (readLoop [z] n k s).2 ≤ weight z s
  | 0, s, _ => ⟨⟨⟨[], by simp [readLoop]⟩, [], by simp [readLoop]⟩, Nat.le_refl _⟩
  | k + 1, s, h => by
    rw [readLoop]
    by_cases hi : s.i < [z].length
    · have hi0 : s.i = 0 := by simpa using hi
      have hj : s.j ≤ z.length := by have := h.j hi; rw [hi0] at this; simpa [lineLen] using this
      have hst := step_weight z n s hi0 hj
      have hok := nextGo_ok [z] m n s hi h
      rw [if_pos hi]
      split
      · exact ⟨hst.1, hst.2.1⟩
      · obtain ⟨⟨⟨l1, e1⟩, l2, e2⟩, h3⟩ := loop_weight z n m k (nextGo [z] n s).2 hok.1
        obtain ⟨⟨⟨l3, e3⟩, l4, e4⟩, h4, _, _⟩ := hst
        exact ⟨⟨⟨l3 ++ l1, by rw [e1, e3, List.append_assoc]⟩, l4 ++ l2, by rw [e2, e4, List.append_assoc]⟩, by omega⟩
    · rw [if_neg hi]
      exact ⟨⟨⟨[], by simp⟩, [], by simp⟩, Nat.le_refl _⟩
/-- The first step of a reading, and the rest. -/
theorem read_first (z : Str) : readAll [z] = if (nextGo [z] (total [z] + 1) st0).1 != 0 then nextGo [z] (total [z] + 1) st0 else readLoop [z] (total [z] + 1) (total [z]) (nextGo [z] (total [z] + 1) st0).2 := by
  show readLoop [z] (total [z] + 1) (total [z] + 1) st0 = _
  rw [readLoop, if_pos (by simp [st0])]
/-- A text whose tokens are the whole text, or that has no comments and does not begin with a blank, begins with a token, the first. -/
theorem first_of_read (z : Str) (u : Tk) (ts : List Tk) (hz : z ≠ []) (h0 : (readAll [z]).1 = 0) (hts : (readAll [z]).2.ts = u :: ts)
    (h : ((readAll [z]).2.ts.map fun t => t.text.length).sum = z.length ∨ ((readAll [z]).2.cs = [] ∧ z.getD 0 0 ≠ 32)) :
    ∃ len, firstTok z = some (u.kind, len) ∧ u.text = z.take len.toNat := by
  have hlen : 0 < z.length := List.length_pos_iff.2 hz
  have hok := st0_ok [z]
  have hi : st0.i < [z].length := by simp [st0]
  have hstep := nextGo_ok [z] (total [z]) (total [z] + 1) st0 hi hok
  have hw := step_weight z (total [z] + 1) st0 rfl (Nat.zero_le _)
  have hloop := loop_weight z (total [z] + 1) (total [z]) (total [z]) (nextGo [z] (total [z] + 1) st0).2 hstep.1
  have hall := read_first z
  have hz1 : (nextGo [z] (total [z] + 1) st0).1 = 0 := by
    cases hc : ((nextGo [z] (total [z] + 1) st0).1 != 0)
    · simpa using hc
    · rw [hall, hc] at h0
      simpa using h0
  rw [hz1] at hall
  simp only [bne_self_eq_false, Bool.false_eq_true, if_false] at hall
  rw [hall] at h hts
  have hf : ∃ k len, firstTok (z.drop 0) = some (k, len) := by
    rcases h with h | ⟨h, hc⟩
    · refine hw.2.2.1 hz1 hlen ?_
      have h1 := hw.2.1
      have h2 := hloop.2
      have h3 : weight z st0 = z.length := by simp [weight, st0]
      have h4 : z.length ≤ weight z (readLoop [z] (total [z] + 1) (total [z]) (nextGo [z] (total [z] + 1) st0).2).2 := by
        unfold weight; rw [h]; omega
      omega
    · rcases hw.2.2.2 hz1 hlen with h1 | h1 | h1
      · exact h1
      · exfalso
        obtain ⟨⟨_, l2, e2⟩, _⟩ := hloop
        obtain ⟨⟨_, l4, e4⟩, _⟩ := hw
        rw [e2, e4] at h
        simp only [st0, List.nil_append, List.append_eq_nil_iff] at h
        rw [e4, h.1] at h1
        exact h1 (by simp)
      · exact absurd h1 hc
  obtain ⟨k, len, hf⟩ := hf
  have hs := step_first z (total [z] + 1) 0 [] [] k len hf
  rw [List.drop_zero] at hf hs
  obtain ⟨⟨⟨l1, e1⟩, _⟩, _⟩ := hloop
  have e2 : nextGo [z] (total [z] + 1) st0 = _ := hs
  rw [e1, e2] at hts
  simp only [List.nil_append, List.cons_append, List.cons.injEq] at hts
  obtain ⟨e3, _⟩ := hts
  refine ⟨len, ?_, ?_⟩
  · rw [← e3]; exact hf
  · rw [← e3]
theorem tw_stop (p : UInt8 → Bool) (d : UInt8) (hd : p d = false) (t : Str) : ∀ x : Str, (x ++ d :: t).takeWhile p = x.takeWhile p
  | [] => by rw [List.nil_append, List.takeWhile_cons, hd]; rfl
  | a :: x => by
    rw [List.cons_append, List.takeWhile_cons, List.takeWhile_cons, tw_stop p d hd t x]
theorem run_stop (p : UInt8 → Bool) (d : UInt8) (hd : p d = false) (t x : Str) : run p (x ++ d :: t) = run p x := by
  unfold run; rw [tw_stop p d hd]
theorem run_mid (p : UInt8 → Bool) : ∀ (x t : Str), x.all p = false → run p (x ++ t) = run p x
  | [], t, h => by simp at h
  | a :: x, t, h => by
    have := run_mid p x t
    unfold run at this ⊢
    rw [List.cons_append, List.takeWhile_cons, List.takeWhile_cons]
    cases ha : p a
    · rfl
    · simp only [if_true, List.length_cons]
      rw [this (by simpa [ha] using h)]
theorem run_whole (p : UInt8 → Bool) : ∀ (x t : Str), x.all p = true → run p (x ++ t) = x.length + run p t
  | [], t, _ => by simp
  | a :: x, t, h => by
    simp only [List.all_cons, Bool.and_eq_true] at h
    have := run_whole p x t h.2
    unfold run at this ⊢
    rw [List.cons_append, List.takeWhile_cons, if_pos h.1, List.length_cons, this, List.length_cons]; omega
theorem longest_congr (s t : Str) : ∀ (l : List Str) (n : Int), (∀ x ∈ l, hasPre s x = hasPre t x) → longest s n l = longest t n l
  | [], n, _ => rfl
  | x :: l, n, h => by
    show longest s (if hasPre s x then maxI n x.length else n) l = longest t (if hasPre t x then maxI n x.length else n) l
    rw [h x (by simp)]
    exact longest_congr s t l _ fun y hy => h y (List.mem_cons_of_mem _ hy)
theorem indexByte_append (b : UInt8) : ∀ (s t : Str), 0 ≤ Lib.indexByte s b → Lib.indexByte (s ++ t) b = Lib.indexByte s b := by
  intro s t h
  rw [indexByte_run] at h ⊢
  rw [indexByte_run b s]
  split at h
  · omega
  · rename_i h1
    have hall : s.all (fun x => (x.toNat : Int) != b.toNat) = false := by
      cases hc : s.all (fun x => (x.toNat : Int) != b.toNat)
      · rfl
      · exfalso
        have := run_whole _ s [] hc
        rw [List.append_nil] at this
        exact h1 (by rw [this]; simp [run])
    rw [run_mid _ s t hall]
    have hle := run_le (fun x => (x.toNat : Int) != b.toNat) s
    rw [if_neg h1, if_neg (by rw [List.length_append]; omega)]
/-- What is read of two tokens in one text, with the program's way of comparing. -/
theorem isRead_two (a b : Tk) (ha : oneTok a.text = some a.kind) (hb : oneTok b.text = some b.kind) (oa : oddS a.text = false) (ob : oddS b.text = false) :
    isReadP (a.text ++ b.text) [a, b] = (firstTok (a.text ++ b.text) == some (a.kind, (a.text.length : Int))) := by
  have hne : a.text ≠ [] := fun h => by rw [h] at ha; simp [oneTok] at ha
  have ho : oddS (a.text ++ b.text) = false := by
    rw [oddS_any, List.any_append, ← oddS_any, ← oddS_any, oa, ob]; rfl
  unfold isReadP
  rw [ho, Bool.not_false, Bool.true_and]
  cases h : (firstTok (a.text ++ b.text) == some (a.kind, (a.text.length : Int)))
  · cases h1 : ((readAll [a.text ++ b.text]).1 == 0 && eqKT (readAll [a.text ++ b.text]).2.ts [a, b])
    · rfl
    · exfalso
      simp only [Bool.and_eq_true, beq_iff_eq] at h1
      obtain ⟨e1, e2⟩ := h1
      match hts : (readAll [a.text ++ b.text]).2.ts, e2 with
      | [u, v], e2 =>
        simp only [eqKT, Bool.and_eq_true, beq_iff_eq, Bool.and_true] at e2
        obtain ⟨⟨k1, t1⟩, k2, t2⟩ := e2
        obtain ⟨len, hf, hx⟩ := first_of_read _ u [v] (by simp [hne]) e1 hts (.inl (by rw [hts]; simp [t1, t2]))
        have hp := first_pos _ _ _ hf
        have hl := congrArg List.length hx
        rw [t1, List.length_take] at hl
        have : len = (a.text.length : Int) := by omega
        rw [hf, k1, this] at h
        simp at h
      | [], e2 => simp [eqKT] at e2
      | [u], e2 => simp [eqKT] at e2
      | u :: v :: w :: t, e2 => simp [eqKT] at e2
  · have h : firstTok (a.text ++ b.text) = some (a.kind, (a.text.length : Int)) := by simpa using h
    rw [two_read a.text b.text a.kind b.kind h hb]
    simp [eqKT]
/-- A right token's text. -/
theorem right_tok (t : Tk) (h : textErrP t = 0) : oneTok t.text = some t.kind ∧ oddS t.text = false := by
  unfold textErrP at h
  split at h
  · split at h
    · rename_i h1
      rw [isRead_one] at h1
      simpa [and_comm] using h1
    · simp at h
  · simp at h
def beforeP (a b c d : Int) : Bool := decide (a < c) || (a == c && decide (b < d))
def inSpan (i k : Int) (c : Sp) : Bool := !beforeP i k c.l0 c.c0 && beforeP i k c.l1 c.c1
def withinP (cs : List Sp) (i k : Int) : Bool := cs.any (inSpan i k)
/-- A line with blanks in the places of comments. -/
def blankChars (cs : List Sp) (i : Nat) : Nat → Str → Str
  | _, [] => []
  | k, b :: r => (if withinP cs i k then 32 else b) :: blankChars cs i (k + 1) r
def refBlanked (cs : List Sp) : Nat → List Str → List Str
  | _, [] => []
  | i, s :: r => blankChars cs i 0 s :: refBlanked cs (i + 1) r
theorem blankChars_len (cs : List Sp) (i : Nat) : ∀ (s : Str) (k : Nat), (blankChars cs i k s).length = s.length
  | [], _ => rfl
  | b :: r, k => by simp [blankChars, blankChars_len cs i r (k + 1)]
def eqToks : List Tk → List Tk → Bool
  | [], [] => true
  | x :: a, y :: b => sameTk x y && eqToks a b
  | _, _ => false
theorem eqToks_len : ∀ (a b : List Tk), a.length ≠ b.length → eqToks a b = false
  | [], [], h => by simp at h
  | [], _ :: _, _ => rfl
  | _ :: _, [], _ => rfl
  | x :: a, y :: b, h => by
    have := eqToks_len a b (by simpa using h)
    simp [eqToks, this]
theorem eqToks_drop (a b : List Tk) (i : Nat) (h : i < a.length) (h' : i < b.length) : eqToks (a.drop i) (b.drop i) = (sameTk a[i] b[i] && eqToks (a.drop (i + 1)) (b.drop (i + 1))) := by
  rw [List.drop_eq_getElem_cons h, List.drop_eq_getElem_cons h']; rfl
theorem sameTokens_ev (a b : List Tk) (ta tb : Tok) (hta : Fx ta) (htb : Fx tb) (hl : a.length < 2 ^ 62) (hlb : b.length < 2 ^ 62) : evc plan 20 [.sl 4 (a.map tkC) ta, .sl 4 (b.map tkC) tb] [] = some (.bool (eqToks a b), []) := by
  refine evc_start plan (P := Tryz.prog) (ro := planRo) rfl rfl rfl rfl rfl rfl (by simp) rfl ?_
  cases h0 : ((a.length : Int) != b.length)
  · have h0' : a.length = b.length := by simp at h0; omega
    simp [dFor_none, storeFine_none, dFor_no, storeFine_no, lessL, lkL, evCode_exit, evCode_seq, evCode_plain, evCode_draw, evCode_cond, evCode_ret, evCode_skip, evCode_block, evCode_loop, roundK_normal, roundK_exit, roundK_ret, seqK_normal, seqK_exit, seqK_ret, blockK_normal, blockK_exit, blockK_ret, regK_eq, evOps_nil, evOps_cons, params, astep, okDst, isWanted, aop, opnd, ofValue, putT, abin, headS, ofL, noPtr, acall, adopt_bool, adopt_int, adopt_str, adopt_agg, adopt_clip, upd_false, AV.cells, partOf, setCells, fillC, AV.isVal, List.range, List.range.loop, ofB, mayRead, dsts, planRo, capIds, viewed, scalarR, AV.scalar, bare_undef, bare_bool, bare_int, bare_str, bare_snil, bare_snone, bare_sclip, bare_srow, bare_ptr, bare_eptr, bare_pnil, bare_fn, bare_fnil, bare_agg, bare_tup, h0]
    refine loop_by (fun i => a.length - i) (fun (i : Nat) t m => i ≤ a.length ∧ eqToks a b = eqToks (a.drop i) (b.drop i) ∧ clean (lvSame 4) t m = headS [(0, .sl 4 (a.map tkC) ta), (1, .sl 4 (b.map tkC) tb), (5, .int .i64 i)] []) ?_ 0 ?_
    · intro i t m ⟨hi, hr, hS⟩ ih
      refine round_of hS ?_
      by_cases h1 : i < a.length
      · have h2 : i < b.length := by omega
        have hd := eqToks_drop a b i h1 h2
        have w1 : IntKind.i64.wrap ((i : Int) + 1) = ((i + 1 : Nat) : Int) := wrap_i64 (by omega) (by omega)
        have hac := acmp_token a[i] b[i]
        simp only [tkC] at hac
        cases h3 : sameTk a[i] b[i]
        · rw [h3] at hac hd
          simp [-Int.natCast_add, dFor_none, storeFine_none, dFor_no, storeFine_no, lessL, lkL, evCode_exit, evCode_seq, evCode_plain, evCode_draw, evCode_cond, evCode_ret, evCode_skip, evCode_block, evCode_loop, roundK_normal, roundK_exit, roundK_ret, seqK_normal, seqK_exit, seqK_ret, blockK_normal, blockK_exit, blockK_ret, regK_eq, evOps_nil, evOps_cons, params, astep, okDst, isWanted, aop, opnd, ofValue, putT, abin, headS, ofL, noPtr, acall, adopt_bool, adopt_int, adopt_str, adopt_agg, adopt_clip, upd_false, AV.cells, partOf, setCells, fillC, AV.isVal, List.range, List.range.loop, ofB, mayRead, dsts, planRo, capIds, viewed, scalarR, AV.scalar, bare_undef, bare_bool, bare_int, bare_str, bare_snil, bare_snone, bare_sclip, bare_srow, bare_ptr, bare_eptr, bare_pnil, bare_fn, bare_fnil, bare_agg, bare_tup, passed, setBoxes, killNames, addNames, freshAll, adopt, resParts, resBack, relabB, relabL, namesOf, cellsOfB, boxName, row_undef, row_bool, row_int, row_str, row_snil, row_snone, row_sclip, row_srow, row_ptr, row_eptr, row_pnil, row_fn, row_fnil, row_agg, row_tup, relab_undef, relab_bool, relab_int, relab_str, relab_snil, relab_snone, relab_sclip, relab_srow, relab_ptr, relab_eptr, relab_pnil, relab_fn, relab_fnil, relab_agg, relab_tup, relab_sgrow, finK, freezeT, avAll, resOf, outBoxes, relabB, relabL, noPtr, AV.untup, relab_undef, relab_bool, relab_int, relab_str, relab_snil, relab_snone, relab_sclip, relab_srow, relab_ptr, relab_eptr, relab_pnil, relab_fn, relab_fnil, relab_agg, relab_tup, relab_sgrow, h1, h2, tkC, acmpOp, hac]
          rw [hr, hd]; rfl
        · rw [h3] at hac hd
          simp [-Int.natCast_add, dFor_none, storeFine_none, dFor_no, storeFine_no, lessL, lkL, evCode_exit, evCode_seq, evCode_plain, evCode_draw, evCode_cond, evCode_ret, evCode_skip, evCode_block, evCode_loop, roundK_normal, roundK_exit, roundK_ret, seqK_normal, seqK_exit, seqK_ret, blockK_normal, blockK_exit, blockK_ret, regK_eq, evOps_nil, evOps_cons, params, astep, okDst, isWanted, aop, opnd, ofValue, putT, abin, headS, ofL, noPtr, acall, adopt_bool, adopt_int, adopt_str, adopt_agg, adopt_clip, upd_false, AV.cells, partOf, setCells, fillC, AV.isVal, List.range, List.range.loop, ofB, mayRead, dsts, planRo, capIds, viewed, scalarR, AV.scalar, bare_undef, bare_bool, bare_int, bare_str, bare_snil, bare_snone, bare_sclip, bare_srow, bare_ptr, bare_eptr, bare_pnil, bare_fn, bare_fnil, bare_agg, bare_tup, passed, setBoxes, killNames, addNames, freshAll, adopt, resParts, resBack, relabB, relabL, namesOf, cellsOfB, boxName, row_undef, row_bool, row_int, row_str, row_snil, row_snone, row_sclip, row_srow, row_ptr, row_eptr, row_pnil, row_fn, row_fnil, row_agg, row_tup, relab_undef, relab_bool, relab_int, relab_str, relab_snil, relab_snone, relab_sclip, relab_srow, relab_ptr, relab_eptr, relab_pnil, relab_fn, relab_fnil, relab_agg, relab_tup, relab_sgrow, h1, h2, tkC, acmpOp, hac, w1]
          refine ih (i + 1) _ _ (by omega) ⟨by omega, by rw [hr, hd]; rfl, ?_⟩
          simp [-Int.natCast_add, clean, keepBoxes, relabB, relabL, cleanS, fixPtr, headS, ofL, ofB, cellsOfB, namesOf, upd_false, AV.cells, row_undef, row_bool, row_int, row_str, row_snil, row_snone, row_sclip, row_srow, row_ptr, row_eptr, row_pnil, row_fn, row_fnil, row_agg, row_tup, relab_undef, relab_bool, relab_int, relab_str, relab_snil, relab_snone, relab_sclip, relab_srow, relab_ptr, relab_eptr, relab_pnil, relab_fn, relab_fnil, relab_agg, relab_tup, relab_sgrow, lvSame, lvL, tkC, bare_fx hta, row_fx hta, relab_fx hta, bare_fx htb, row_fx htb, relab_fx htb]
          try rfl
      · have hi' : i = a.length := by omega
        subst hi'
        simp [dFor_none, storeFine_none, dFor_no, storeFine_no, lessL, lkL, evCode_exit, evCode_seq, evCode_plain, evCode_draw, evCode_cond, evCode_ret, evCode_skip, evCode_block, evCode_loop, roundK_normal, roundK_exit, roundK_ret, seqK_normal, seqK_exit, seqK_ret, blockK_normal, blockK_exit, blockK_ret, regK_eq, evOps_nil, evOps_cons, params, astep, okDst, isWanted, aop, opnd, ofValue, putT, abin, headS, ofL, noPtr, acall, adopt_bool, adopt_int, adopt_str, adopt_agg, adopt_clip, upd_false, AV.cells, partOf, setCells, fillC, AV.isVal, List.range, List.range.loop, ofB, mayRead, dsts, planRo, capIds, viewed, scalarR, AV.scalar, bare_undef, bare_bool, bare_int, bare_str, bare_snil, bare_snone, bare_sclip, bare_srow, bare_ptr, bare_eptr, bare_pnil, bare_fn, bare_fnil, bare_agg, bare_tup, finK, freezeT, avAll, resOf, outBoxes, relabB, relabL, noPtr, AV.untup, relab_undef, relab_bool, relab_int, relab_str, relab_snil, relab_snone, relab_sclip, relab_srow, relab_ptr, relab_eptr, relab_pnil, relab_fn, relab_fnil, relab_agg, relab_tup, relab_sgrow]
        rw [hr, List.drop_length, h0', List.drop_length]; rfl
    · refine ⟨by omega, by simp, ?_⟩
      simp [clean, keepBoxes, relabB, relabL, cleanS, fixPtr, headS, ofL, ofB, cellsOfB, namesOf, upd_false, AV.cells, row_undef, row_bool, row_int, row_str, row_snil, row_snone, row_sclip, row_srow, row_ptr, row_eptr, row_pnil, row_fn, row_fnil, row_agg, row_tup, relab_undef, relab_bool, relab_int, relab_str, relab_snil, relab_snone, relab_sclip, relab_srow, relab_ptr, relab_eptr, relab_pnil, relab_fn, relab_fnil, relab_agg, relab_tup, relab_sgrow, lvSame, lvL, tkC, bare_fx hta, row_fx hta, relab_fx hta, bare_fx htb, row_fx htb, relab_fx htb]
      try rfl
  · have h0' : a.length ≠ b.length := by simp at h0; omega
    simp [dFor_none, storeFine_none, dFor_no, storeFine_no, lessL, lkL, evCode_exit, evCode_seq, evCode_plain, evCode_draw, evCode_cond, evCode_ret, evCode_skip, evCode_block, evCode_loop, roundK_normal, roundK_exit, roundK_ret, seqK_normal, seqK_exit, seqK_ret, blockK_normal, blockK_exit, blockK_ret, regK_eq, evOps_nil, evOps_cons, params, astep, okDst, isWanted, aop, opnd, ofValue, putT, abin, headS, ofL, noPtr, acall, adopt_bool, adopt_int, adopt_str, adopt_agg, adopt_clip, upd_false, AV.cells, partOf, setCells, fillC, AV.isVal, List.range, List.range.loop, ofB, mayRead, dsts, planRo, capIds, viewed, scalarR, AV.scalar, bare_undef, bare_bool, bare_int, bare_str, bare_snil, bare_snone, bare_sclip, bare_srow, bare_ptr, bare_eptr, bare_pnil, bare_fn, bare_fnil, bare_agg, bare_tup, finK, freezeT, avAll, resOf, outBoxes, relabB, relabL, noPtr, AV.untup, relab_undef, relab_bool, relab_int, relab_str, relab_snil, relab_snone, relab_sclip, relab_srow, relab_ptr, relab_eptr, relab_pnil, relab_fn, relab_fnil, relab_agg, relab_tup, relab_sgrow, h0, eqToks_len a b h0']
theorem blankChars_get (cs : List Sp) (i : Nat) : ∀ (s : Str) (k0 k : Nat), (blankChars cs i k0 s)[k]? = (s[k]?).map fun b => if withinP cs i ((k0 + k : Nat) : Int) then 32 else b
  | [], k0, k => by simp [blankChars]
  | b :: r, k0, 0 => by simp [blankChars]
  | b :: r, k0, k + 1 => by
    simp only [blankChars, List.getElem?_cons_succ]
    rw [blankChars_get cs i r (k0 + 1) k]
    rw [show k0 + 1 + k = k0 + (k + 1) by omega]
theorem blankLine_get (s : Str) (a b k : Nat) (h1 : a ≤ b) (h2 : b ≤ s.length) : (blankLine s a b)[k]? = (s[k]?).map fun x => if a ≤ k ∧ k < b then 32 else x := by
  unfold blankLine
  rw [repeatL_one]
  have hta : (s.take a).length = a := by rw [List.length_take]; omega
  rcases Nat.lt_or_ge k a with h3 | h3
  · rw [List.append_assoc, List.getElem?_append_left (by omega), List.getElem?_take, if_pos h3]
    have : ¬ (a ≤ k ∧ k < b) := by omega
    cases s[k]? <;> simp [this]
  · rcases Nat.lt_or_ge k b with h4 | h4
    · rw [List.append_assoc, List.getElem?_append_right (by omega), hta, List.getElem?_append_left (by simp; omega), List.getElem?_replicate, if_pos (by omega)]
      have : s[k]? = some s[k] := by simp
      rw [this]
      simp [h3, h4]
    · rw [List.getElem?_append_right (by simp [hta]; omega)]
      have hl : (s.take a ++ List.replicate (b - a) 32).length = b := by simp [hta]; omega
      rw [hl, List.getElem?_drop, show b + (k - b) = k by omega]
      have : ¬ (a ≤ k ∧ k < b) := by omega
      cases s[k]? <;> simp [this]
theorem blankAt_get (c : Sp) (out : List Str) (i j : Nat) (h : i < out.length) : (blankAt c out i).getD j [] = if j = i then blankLine (out.getD i []) (spanFrom c i) (spanTo c (out.getD i []).length i) else out.getD j [] := by
  unfold blankAt
  simp only [List.getD_eq_getElem?_getD, List.getElem?_set]
  by_cases hj : j = i
  · subst hj; simp [h]
  · rw [if_neg (fun he => hj he.symm), if_neg hj]
theorem blankGo_get (c : Sp) : ∀ (n i : Nat) (out : List Str) (j : Nat), i + n ≤ out.length → (blankGo c n i out).length = out.length ∧
    (blankGo c n i out).getD j [] = if i ≤ j ∧ j < i + n then blankLine (out.getD j []) (spanFrom c j) (spanTo c (out.getD j []).length j) else out.getD j []
  | 0, i, out, j, _ => ⟨rfl, by rw [if_neg (by omega)]; rfl⟩
  | n + 1, i, out, j, h => by
    have hl : (blankAt c out i).length = out.length := by simp [blankAt]
    obtain ⟨h1, h2⟩ := blankGo_get c n (i + 1) (blankAt c out i) j (by rw [hl]; omega)
    have hg := blankAt_get c out i j (by omega)
    refine ⟨by show (blankGo c n (i + 1) (blankAt c out i)).length = _; rw [h1, hl], ?_⟩
    show (blankGo c n (i + 1) (blankAt c out i)).getD j [] = _
    rw [h2]
    by_cases hj : j = i
    · subst hj
      rw [if_neg (by omega), if_pos (by omega), hg, if_pos rfl]
    · rw [if_neg hj] at hg
      rw [hg]
      by_cases hj2 : i + 1 ≤ j ∧ j < i + 1 + n
      · rw [if_pos hj2, if_pos (by omega)]
      · rw [if_neg hj2, if_neg (by omega)]
theorem withinP_snoc (cs : List Sp) (c : Sp) (i k : Int) : withinP (cs ++ [c]) i k = (withinP cs i k || inSpan i k c) := by
  simp [withinP]
theorem inSpan_iff {ns : List Nat} {c : Sp} (h : SpOk ns c) (i k : Nat) (hk : k < ns.getD i 0) : inSpan i k c = true ↔ (c.l0 ≤ i ∧ i < c.l0 + (c.l1 + 1 - c.l0)) ∧ spanFrom c i ≤ k ∧ k < spanTo c (ns.getD i 0) i := by
  obtain ⟨q1, q2, q3, q4, q5⟩ := h
  unfold inSpan beforeP spanFrom spanTo
  simp only [Bool.and_eq_true, Bool.not_eq_true', Bool.or_eq_false_iff, decide_eq_false_iff_not, Bool.and_eq_false_iff, beq_eq_false_iff_ne, Bool.or_eq_true, decide_eq_true_eq, beq_iff_eq]
  constructor
  · rintro ⟨⟨h1, h2⟩, h3⟩
    refine ⟨by omega, ?_, ?_⟩
    · split <;> omega
    · split <;> omega
  · rintro ⟨⟨h1, h2⟩, h3, h4⟩
    refine ⟨⟨by omega, ?_⟩, ?_⟩
    · by_cases hi : i = c.l0
      · rw [if_pos hi] at h3; right; omega
      · left; omega
    · by_cases hi : i = c.l1
      · rw [if_pos hi] at h4; right; omega
      · left; omega
/-- What has been blanked so far. -/
def Blanks (l out : List Str) (done : List Sp) : Prop := out.length = l.length ∧ ∀ i, i < l.length → out.getD i [] = blankChars done i 0 (l.getD i [])
theorem blankOne_step {l out : List Str} {done : List Sp} {c : Sp} (h : Blanks l out done) (hc : SpOk (lens l) c) : Blanks l (blankOne out c) (done ++ [c]) := by
  obtain ⟨h1, h2⟩ := h
  have hlt := hc.lt
  have hle := hc.le
  rw [lens_length] at hlt
  unfold blankOne
  refine ⟨(blankGo_get c _ c.l0 out 0 (by omega)).1.trans h1, fun i hi => ?_⟩
  rw [(blankGo_get c (c.l1 + 1 - c.l0) c.l0 out i (by omega)).2, h2 i hi]
  have hlen : (blankChars done i 0 (l.getD i [])).length = (lens l).getD i 0 := by rw [blankChars_len, lens_getD]
  apply List.ext_getElem?
  intro k
  rw [blankChars_get (done ++ [c]), withinP_snoc, Nat.zero_add]
  by_cases hr : c.l0 ≤ i ∧ i < c.l0 + (c.l1 + 1 - c.l0)
  · rw [if_pos hr]
    have hs := span_range hc i hr.1 (by omega)
    rw [hlen]
    rw [blankLine_get _ _ _ _ hs.1 (by rw [hlen]; exact hs.2), blankChars_get, Nat.zero_add]
    cases hk : (l.getD i [])[k]? with
    | none => rfl
    | some b =>
      have hkl : k < (lens l).getD i 0 := by
        rw [lens_getD]; exact (List.getElem?_eq_some_iff.1 hk).1
      have hin := inSpan_iff hc i k hkl
      simp only [Option.map_some]
      by_cases hin2 : inSpan i k c = true
      · rw [if_pos (hin.1 hin2).2, hin2, Bool.or_true]; rfl
      · have hin3 : inSpan i k c = false := by simpa using hin2
        rw [if_neg fun he => hin2 (hin.2 ⟨hr, he⟩), hin3, Bool.or_false]
  · rw [if_neg hr, blankChars_get, Nat.zero_add]
    cases hk : (l.getD i [])[k]? with
    | none => rfl
    | some b =>
      have hkl : k < (lens l).getD i 0 := by
        rw [lens_getD]; exact (List.getElem?_eq_some_iff.1 hk).1
      have hin3 : inSpan i k c = false := by
        cases hq : inSpan i k c with
        | false => rfl
        | true => exact absurd ((inSpan_iff hc i k hkl).1 hq).1 hr
      simp only [Option.map_some, hin3, Bool.or_false]
theorem without_blanks {l : List Str} : ∀ (cs done : List Sp) (out : List Str), Blanks l out done → (∀ c ∈ cs, SpOk (lens l) c) → Blanks l (cs.foldl blankOne out) (done ++ cs)
  | [], done, out, h, _ => by simpa using h
  | c :: cs, done, out, h, hc => by
    have := without_blanks cs (done ++ [c]) (blankOne out c) (blankOne_step h (hc c (by simp))) fun c' hc' => hc c' (List.mem_cons_of_mem _ hc')
    simpa using this
theorem refBlanked_get (cs : List Sp) : ∀ (l : List Str) (i0 j : Nat), (refBlanked cs i0 l)[j]? = (l[j]?).map (blankChars cs (i0 + j) 0)
  | [], i0, j => by simp [refBlanked]
  | s :: l, i0, 0 => by simp [refBlanked]
  | s :: l, i0, j + 1 => by
    simp only [refBlanked, List.getElem?_cons_succ]
    rw [refBlanked_get cs l (i0 + 1) j, show i0 + 1 + j = i0 + (j + 1) by omega]
theorem blankChars_nil (i : Nat) : ∀ (s : Str) (k : Nat), blankChars [] i k s = s
  | [], _ => rfl
  | b :: r, k => by
    simp only [blankChars, blankChars_nil i r (k + 1)]
    simp [withinP]
theorem without_ref (l : List Str) (cs : List Sp) (h : ∀ c ∈ cs, SpOk (lens l) c) : withoutP l cs = refBlanked cs 0 l := by
  have h0 : Blanks l l [] := ⟨rfl, fun i hi => by rw [blankChars_nil]⟩
  obtain ⟨h1, h2⟩ := without_blanks cs [] l h0 h
  rw [List.nil_append] at h2
  apply List.ext_getElem?
  intro j
  rw [refBlanked_get, Nat.zero_add]
  show (cs.foldl blankOne l)[j]? = _
  rcases Nat.lt_or_ge j l.length with hj | hj
  · have h3 := h2 j hj
    have e1 : (cs.foldl blankOne l)[j]? = some ((cs.foldl blankOne l).getD j []) := by
      simp [List.getD_eq_getElem?_getD, show j < (cs.foldl blankOne l).length by omega]
    have e2 : l[j]? = some (l.getD j []) := by simp [List.getD_eq_getElem?_getD, hj]
    rw [e1, e2, h3]; rfl
  · rw [List.getElem?_eq_none (by omega), List.getElem?_eq_none hj]; rfl
theorem eqToks_refl : ∀ a : List Tk, eqToks a a = true
  | [] => rfl
  | x :: a => by simp [eqToks, sameTk, eqToks_refl a]
end Go.Proofs.YtlmmgblghgmgeaaGreatDoor

/- A token that is read somewhere is a token alone. -/
namespace Go.Proofs.YtlmmgblghgmgeaaGreatDoor
open Go Ev
set_option linter.unusedSimpArgs false

theorem run_take (p : UInt8 → Bool) : ∀ (s : Str) (n : Nat), run p (s.take n) = min n (run p s)
  | [], n => by simp [run]
  | a :: s, 0 => by simp [run]
  | a :: s, n + 1 => by
    have ih := run_take p s n
    unfold run at ih ⊢
    rw [List.take_succ_cons, List.takeWhile_cons, List.takeWhile_cons]
    split
    · simp only [List.length_cons, ih]; omega
    · simp
theorem longSym_take (x : Str) : longSym (x.take (longSym x).toNat) = longSym x := by
  obtain ⟨h1, h2, h3⟩ := longSym_spec x
  obtain ⟨g1, g2, g3⟩ := longSym_spec (x.take (longSym x).toNat)
  have hle : longSym (x.take (longSym x).toNat) ≤ longSym x := by
    rcases g2 with g2 | ⟨y, hy, hp, he⟩
    · omega
    · rw [he]; exact h3 y hy (hp.trans (List.take_prefix _ _))
  rcases h2 with h2 | ⟨y, hy, hp, he⟩
  · omega
  · have : y <+: x.take (longSym x).toNat := by
      have e := List.prefix_iff_eq_take.1 hp
      rw [he, Int.toNat_natCast, ← e]
      exact List.prefix_rfl
    have := g3 y hy this
    omega
theorem syms_low : (allSyms.all fun x => (x.getD 0 0 != 95) || x == [95]) = true := by decide +kernel
theorem sym_low (r : Str) : longSym (95 :: r) = 1 := by
  obtain ⟨h1, h2, h3⟩ := longSym_spec (95 :: r)
  have hm : [95] ∈ allSyms := by
    have : (allSyms.any fun x => x == [95]) = true := by decide +kernel
    obtain ⟨x, hx, he⟩ := List.any_eq_true.1 this
    have : x = [95] := by simpa using he
    exact this ▸ hx
  have h4 := h3 [95] hm ⟨r, rfl⟩
  simp at h4
  rcases h2 with h2 | ⟨y, hy, hp, he⟩
  · omega
  · have h5 := List.all_eq_true.1 syms_low y hy
    obtain ⟨t, ht⟩ := hp
    cases y with
    | nil => simp at he; omega
    | cons a y =>
      have ha : a = 95 := by simp at ht; exact ht.1
      subst ha
      simp at h5
      subst h5
      rw [he]; rfl
theorem index_take (b : UInt8) : ∀ s : Str, 0 ≤ Lib.indexByte s b → Lib.indexByte (s.take ((Lib.indexByte s b).toNat + 1)) b = Lib.indexByte s b := fun s h => by
  have e := indexByte_run b s
  rw [e] at h
  split at h
  · omega
  · rename_i h1
    rw [if_neg h1] at e
    rw [e, indexByte_run, run_take]
    have hle := run_le (fun x => (x.toNat : Int) != b.toNat) s
    generalize run (fun x => (x.toNat : Int) != b.toNat) s = n at h1 hle h ⊢
    simp only [Int.toNat_natCast, List.length_take]
    rw [if_neg (by omega), Nat.min_eq_right (by omega)]
theorem word_alone (t : Str) : wordOf (wordOf t) = wordOf t := by
  unfold wordOf
  rw [run_take, Nat.min_self, List.take_take, Nat.min_self]
theorem digit_is_word (b : UInt8) (h : digitB b.toNat = true) : wordB b.toNat = true := by simp [wordB, h]
theorem tw_self (p : UInt8 → Bool) : ∀ l : Str, (∀ b ∈ l, p b = true) → l.takeWhile p = l
  | [], _ => rfl
  | a :: l, h => by rw [List.takeWhile_cons, if_pos (h a (by simp)), tw_self p l fun b hb => h b (by simp [hb])]
theorem digit_not_letter (b : UInt8) (h : digitB b.toNat = true) : letterB b.toNat = false := by
  revert h
  simp only [digitB, letterB, spansB, Bool.and_eq_true, Bool.or_eq_false_iff, Bool.and_eq_false_iff, decide_eq_true_eq, decide_eq_false_iff_not]
  omega
theorem piece_alone (c : UInt8) (r : Str) (h : (pieceT c r).err = 0) : pieceT c (r.take ((pieceT c r).len.toNat - 1)) = pieceT c r := by
  cases hw : wordB c.toNat
  · have e1 := pieceT_nw c r hw
    have e2 := fun q => pieceT_nw c q hw
    rw [e1] at h ⊢
    rw [e2]
    clear e1 e2
    split at h
    · rename_i h34
      rw [if_pos h34, if_pos h34]
      unfold textT at h ⊢
      split at h
      · simp at h
      · rename_i hneg
        rw [if_neg hneg]
        have hi := index_take 34 r (by omega)
        simp only
        rw [show (Lib.indexByte r 34 + 2).toNat - 1 = (Lib.indexByte r 34).toNat + 1 by omega, hi, if_neg hneg, List.take_take, Nat.min_eq_left (by omega)]
    · rename_i h34
      rw [if_neg h34, if_neg h34]
      split at h
      · rename_i hr
        rw [if_pos hr]
        simp only
        have hs : signOf c (r.take (signOf c r - 1)) = signOf c r := by
          have hp := sign_pos c r
          have := run_take (fun b => (b.toNat : Int) == c.toNat) (c :: r) (signOf c r)
          rw [show signOf c r = (signOf c r - 1) + 1 by omega, List.take_succ_cons] at this
          unfold signOf at this ⊢
          omega
        have e3 : ((signOf c r : Nat) : Int).toNat - 1 = signOf c r - 1 := by omega
        rw [e3, hs, if_pos hr]
      · rename_i hr
        rw [if_neg hr]
        have hs : ∀ n, signOf c (r.take n) ≤ signOf c r := fun n => by
          have := run_take (fun b => (b.toNat : Int) == c.toNat) (c :: r) (n + 1)
          rw [List.take_succ_cons] at this
          unfold signOf
          omega
        have hr2 : ∀ n, ¬ (decide (4 ≤ signOf c (r.take n)) && (((c.toNat : Int) == 45) || ((c.toNat : Int) == 61))) = true := fun n hh => hr (by
          have := hs n
          simp only [Bool.and_eq_true, decide_eq_true_eq] at hh ⊢
          exact ⟨by omega, hh.2⟩)
        rw [if_neg (hr2 _)]
        have hsym : ∀ q, longest (c :: q) (longest (c :: q) 0 plainL) (othersL.map (·.1)) = longSym (c :: q) := fun _ => rfl
        unfold symT at h ⊢
        simp only [hsym] at h ⊢
        have hrt := run_take (fun b => letterB b.toNat) r
        have hlt := longSym_take (c :: r)
        generalize run (fun b => letterB b.toNat) r = k at h hrt ⊢
        obtain ⟨hn0, _, _⟩ := longSym_spec (c :: r)
        cases hk : (((c.toNat : Int) == 92) && decide ((k : Int) > 0))
        · rw [hk] at h
          simp only [Bool.false_eq_true, if_false] at h ⊢
          have hne : longSym (c :: r) ≠ 0 := fun h0 => by simp [h0] at h
          have e4 : c :: r.take ((longSym (c :: r)).toNat - 1) = (c :: r).take (longSym (c :: r)).toNat := by
            rw [show (longSym (c :: r)).toNat = ((longSym (c :: r)).toNat - 1) + 1 by omega, List.take_succ_cons]
            simp
          rw [e4, hlt, hrt]
          have e5 : (((c.toNat : Int) == 92) && decide ((((min ((longSym (c :: r)).toNat - 1) k : Nat)) : Int) > 0)) = false := by
            rw [Bool.and_eq_false_iff] at hk ⊢
            rcases hk with hk | hk
            · exact .inl hk
            · refine .inr ?_
              simp at hk ⊢
              omega
          rw [e5]
          simp
        · rw [hk] at h
          simp only [if_true] at h ⊢
          have hn : longSym (c :: r) = k + 1 := by
            rcases Int.decEq (longSym (c :: r)) (k + 1) with h5 | h5
            · exfalso
              have : (longSym (c :: r) != (k : Int) + 1) = true := by simpa using h5
              rw [this] at h; simp at h
            · exact h5
          have e4 : c :: r.take (((k : Int) + 1).toNat - 1) = (c :: r).take (longSym (c :: r)).toNat := by
            rw [hn, show ((k : Int) + 1).toNat = (((k : Int) + 1).toNat - 1) + 1 by omega, List.take_succ_cons]
            simp
          rw [e4, hlt, hrt, show min (((k : Int) + 1).toNat - 1) k = k by omega, hk]
          simp
  · have hcw : c ∈ wordOf (c :: r) := by
      unfold wordOf; rw [take_run, List.takeWhile_cons, if_pos hw]; simp
    have hpre : ∀ n, c :: r.take n = (c :: r).take (n + 1) := fun n => by rw [List.take_succ_cons]
    unfold pieceT at h ⊢
    split at h
    · rename_i h1
      rw [if_pos h1]
      simp only
      have h2 : (c :: r).take 3 = [87, 70, 95] ∨ (c :: r).take 3 = [83, 70, 95] := by
        have h3 : wordOf (c :: r) <+: c :: r := List.take_prefix _ _
        rw [Bool.or_eq_true, hasPre_iff, hasPre_iff] at h1
        rcases h1 with h1 | h1
        · exact .inl (List.prefix_iff_eq_take.1 (h1.trans h3)).symm
        · exact .inr (List.prefix_iff_eq_take.1 (h1.trans h3)).symm
      have e3 : c :: r.take ((3 : Int).toNat - 1) = (c :: r).take 3 := hpre 2
      rw [if_pos]
      rw [e3]
      rcases h2 with h2 | h2 <;> rw [h2] <;> decide
    · rename_i h1
      rw [if_neg h1]
      split at h
      · rename_i h2
        rw [if_pos h2]
        simp only
        have hpos : 0 < (wordOf (c :: r)).length := List.length_pos_of_mem hcw
        have e3 : c :: r.take (((wordOf (c :: r)).length : Int).toNat - 1) = wordOf (c :: r) := by
          rw [hpre, Int.toNat_natCast, show (wordOf (c :: r)).length - 1 + 1 = (wordOf (c :: r)).length by omega]
          exact (List.prefix_iff_eq_take.1 (List.take_prefix _ _)).symm
        rw [e3, word_alone, if_neg h1, if_pos h2]
      · rename_i h2
        rw [if_neg h2]
        have hnl : letterB c.toNat = false := by
          rw [hasLetter_any] at h2
          have h2 := Bool.eq_false_iff.2 h2
          rw [List.any_eq_false] at h2
          simpa using h2 c hcw
        split at h
        · rename_i h3
          rw [if_pos h3]
          simp only
          have hdg : digitsOf (c :: r) = (c :: r).takeWhile fun b => digitB b.toNat := take_run _ _
          have hdc : c ∈ digitsOf (c :: r) := by rw [hdg, List.takeWhile_cons, if_pos h3]; simp
          have hda : ∀ b ∈ digitsOf (c :: r), digitB b.toNat = true := fun b hb => by
            rw [hdg] at hb
            exact takeWhile_all _ _ b hb
          have hpos : 0 < (digitsOf (c :: r)).length := List.length_pos_of_mem hdc
          have e3 : c :: r.take (((digitsOf (c :: r)).length : Int).toNat - 1) = digitsOf (c :: r) := by
            rw [hpre, Int.toNat_natCast, show (digitsOf (c :: r)).length - 1 + 1 = (digitsOf (c :: r)).length by omega]
            exact (List.prefix_iff_eq_take.1 (List.take_prefix _ _)).symm
          rw [e3]
          generalize digitsOf (c :: r) = g at hda hpos h
          have e4 : wordOf g = g := by
            unfold wordOf; rw [take_run]; exact tw_self _ _ fun b hb => digit_is_word b (hda b hb)
          have e5 : digitsOf g = g := by
            unfold digitsOf; rw [take_run]; exact tw_self _ _ hda
          have e6 : hasLetter g = false := by
            rw [← e4, hasLetter_any, e4, List.any_eq_false]
            intro b hb
            rw [digit_not_letter b (hda b hb)]; simp
          have e7 : ∀ p : Str, ∀ a q, p = a :: q → digitB a.toNat = false → hasPre g p = false := fun p a q hp ha => by
            cases hh : hasPre g p with
            | false => rfl
            | true =>
              rw [hasPre_iff] at hh
              obtain ⟨t, ht⟩ := hh
              have : a ∈ g := by rw [← ht, hp]; simp
              rw [hda a this] at ha; cases ha
          rw [e4, e5, e6, e7 [87, 70, 95] 87 _ rfl (by decide), e7 [83, 70, 95] 83 _ rfl (by decide), if_pos h3]
          simp
        · rename_i h3
          have hc95 : c = 95 := by
            have : wordB c.toNat = true := hw
            have h3' : digitB c.toNat = false := Bool.eq_false_iff.2 h3
            have : c.toNat = 95 := by
              simp [wordB, hnl, h3'] at this
              omega
            exact byte_of c 95 (by decide) this
          subst hc95
          rw [if_neg h3]
          have e8 : ¬ (((95 : UInt8).toNat : Int) == 34) = true := by decide
          rw [if_neg e8] at h ⊢
          have e9 : ¬ isRuleB ((95 :: r).take (signOf 95 r)) = true := by rw [rule_eq]; simp
          rw [if_neg e9] at h ⊢
          have e10 : symT 95 r = ⟨4, 1, 0⟩ := by
            have hsym : longest (95 :: r) (longest (95 :: r) 0 plainL) (othersL.map (·.1)) = longSym (95 :: r) := rfl
            unfold symT
            simp only [hsym, sym_low]
            have : (((95 : UInt8).toNat : Int) == 92) = false := by decide
            rw [this]
            rfl
          rw [e10]
          have e11 : r.take ((1 : Int).toNat - 1) = [] := rfl
          have e12 : pieceT 95 [] = ⟨4, 1, 0⟩ := by kernel_rfl
          have e13 : (⟨4, 1, 0⟩ : Pc).len = 1 := rfl
          rw [e13, e11]
          exact e12
/-- A token that is read somewhere is a token alone. -/
theorem first_alone (x : Str) (k len : Int) (h : firstTok x = some (k, len)) : oneTok (x.take len.toNat) = some k := by
  have hp := first_pos x k len h
  rw [oneTok_first]
  cases x with
  | nil => simp [firstTok] at h
  | cons c r =>
    unfold firstTok at h
    simp only at h
    split at h
    · simp at h
    rename_i h1
    split at h
    case isFalse => simp at h
    rename_i h2
    simp only [Option.some.injEq, Prod.mk.injEq] at h
    obtain ⟨rfl, rfl⟩ := h
    have e := piece_alone c r h2
    have e1 : (c :: r).take (pieceT c r).len.toNat = c :: r.take ((pieceT c r).len.toNat - 1) := by
      rw [show (pieceT c r).len.toNat = ((pieceT c r).len.toNat - 1) + 1 by omega, List.take_succ_cons]; simp
    have e2 : ((c :: r).take (pieceT c r).len.toNat).length = (pieceT c r).len.toNat := by
      rw [List.length_take]; omega
    rw [e2, e1]
    unfold firstTok
    simp only [e]
    have hmono : ∀ p, hasPre (c :: r.take ((pieceT c r).len.toNat - 1)) p = true → hasPre (c :: r) p = true := fun p hh => by
      rw [hasPre_iff] at hh ⊢
      exact hh.trans ⟨r.drop ((pieceT c r).len.toNat - 1), by simp⟩
    rw [if_neg, if_pos h2]
    · simp; omega
    · intro hh
      apply h1
      simp only [Bool.or_eq_true] at hh ⊢
      rcases hh with ((hh | hh) | hh) | hh
      · exact .inl (.inl (.inl hh))
      · exact .inl (.inl (.inr (hmono _ hh)))
      · exact .inl (.inr (hmono _ hh))
      · exact .inr (hmono _ hh)
end Go.Proofs.YtlmmgblghgmgeaaGreatDoor

/- Where tokens stand in a text that is read. -/
namespace Go.Proofs.YtlmmgblghgmgeaaGreatDoor
open Go Ev
set_option linter.unusedSimpArgs false

theorem inSpan_nat (x y : Nat) (c : Sp) : inSpan x y c = true ↔ ¬ (x < c.l0 ∨ (x = c.l0 ∧ y < c.c0)) ∧ (x < c.l1 ∨ (x = c.l1 ∧ y < c.c1)) := by
  simp only [inSpan, beforeP, Bool.and_eq_true, Bool.not_eq_true', Bool.or_eq_false_iff, Bool.or_eq_true, Bool.and_eq_false_iff, decide_eq_true_eq, decide_eq_false_iff_not, beq_iff_eq, beq_eq_false_iff_ne, ne_eq]
  omega
def Before (a b : Tk) : Prop := a.line < b.line ∨ (a.line = b.line ∧ a.col + a.text.length ≤ b.col)
/-- A token stands in a text, wholly before a place. -/
structure Stands (l : List Str) (i j : Nat) (t : Tk) : Prop where
  at_ : ∃ x y : Nat, t.line = x ∧ t.col = y ∧ (∃ h : x < l.length, y + t.text.length ≤ l[x].length ∧ (l[x].drop y).take t.text.length = t.text) ∧ (x < i ∨ (x = i ∧ y + t.text.length ≤ j))
  tok : oneTok t.text = some t.kind
/-- What is read of a text, up to a place. -/
structure Standing (l : List Str) (i j : Nat) (ts : List Tk) (cs : List Sp) : Prop where
  each : ∀ t ∈ ts, Stands l i j t
  asc : ts.Pairwise Before
  cover : ∀ x y : Nat, ∀ h : x < l.length, ∀ h2 : y < l[x].length, (x < i ∨ (x = i ∧ y < j)) → l[x][y] = 32 ∨ (∃ c ∈ cs, inSpan x y c = true) ∨ ∃ t ∈ ts, t.line = x ∧ t.col ≤ y ∧ (y : Int) < t.col + t.text.length
theorem Stands.later {l : List Str} {i j i' j' : Nat} {t : Tk} (h : Stands l i j t) (hle : i < i' ∨ (i = i' ∧ j ≤ j')) : Stands l i' j' t := by
  obtain ⟨⟨x, y, h1, h2, h3, h4⟩, h5⟩ := h
  exact ⟨⟨x, y, h1, h2, h3, by omega⟩, h5⟩
theorem Standing.turn {l : List Str} {i j : Nat} {ts : List Tk} {cs : List Sp} (h : Standing l i j ts cs) (hi : i < l.length) (hj : l[i].length ≤ j) : Standing l (i + 1) 0 ts cs where
  each t ht := (h.each t ht).later (by omega)
  asc := h.asc
  cover x y hx hy hp := by
    refine h.cover x y hx hy ?_
    rcases Nat.lt_or_ge x i with h1 | h1
    · exact .inl h1
    · have : x = i := by omega
      subst this
      exact .inr ⟨rfl, by omega⟩
theorem Standing.blank {l : List Str} {i j : Nat} {ts : List Tk} {cs : List Sp} (h : Standing l i j ts cs) (hi : i < l.length) (hj : j < l[i].length) (hb : l[i][j] = 32) : Standing l i (j + 1) ts cs where
  each t ht := (h.each t ht).later (by omega)
  asc := h.asc
  cover x y hx hy hp := by
    by_cases h1 : x = i ∧ y = j
    · obtain ⟨rfl, rfl⟩ := h1
      exact .inl hb
    · exact h.cover x y hx hy (by omega)
theorem Standing.com {l : List Str} {i j i' j' : Nat} {ts : List Tk} {cs : List Sp} (h : Standing l i j ts cs) (hle : i < i' ∨ (i = i' ∧ j ≤ j')) : Standing l i' j' ts (cs ++ [⟨i, j, i', j'⟩]) where
  each t ht := (h.each t ht).later hle
  asc := h.asc
  cover x y hx hy hp := by
    by_cases h1 : x < i ∨ (x = i ∧ y < j)
    · rcases h.cover x y hx hy h1 with h2 | ⟨c, h2, h3⟩ | h2
      · exact .inl h2
      · exact .inr (.inl ⟨c, by simp [h2], h3⟩)
      · exact .inr (.inr h2)
    · refine .inr (.inl ⟨_, List.mem_append.2 (.inr (List.mem_singleton.2 rfl)), ?_⟩)
      rw [inSpan_nat]
      exact ⟨h1, hp⟩
theorem Standing.token {l : List Str} {i j : Nat} {ts : List Tk} {cs : List Sp} (h : Standing l i j ts cs) (hi : i < l.length) (k : Int) (n : Nat) (hn : j + n ≤ l[i].length) (ho : oneTok ((l[i].drop j).take n) = some k) : Standing l i (j + n) (ts ++ [⟨k, (l[i].drop j).take n, i, j⟩]) cs := by
  have hlen : ((l[i].drop j).take n).length = n := by rw [List.length_take, List.length_drop]; omega
  refine ⟨fun t ht => ?_, ?_, fun x y hx hy hp => ?_⟩
  · rcases List.mem_append.1 ht with ht | ht
    · exact (h.each t ht).later (by omega)
    · rw [List.mem_singleton] at ht
      subst ht
      refine ⟨⟨i, j, rfl, rfl, ⟨hi, ?_, ?_⟩, .inr ⟨rfl, ?_⟩⟩, ho⟩
      · simp only [hlen]; exact hn
      · simp only [hlen]
      · simp only [hlen]; exact Nat.le_refl _
  · rw [List.pairwise_append]
    refine ⟨h.asc, by simp, fun a ha b hb => ?_⟩
    rw [List.mem_singleton] at hb
    subst hb
    obtain ⟨⟨x, y, h1, h2, _, h4⟩, _⟩ := h.each a ha
    unfold Before
    simp only
    omega
  · by_cases h1 : x < i ∨ (x = i ∧ y < j)
    · rcases h.cover x y hx hy h1 with h2 | h2 | ⟨t, h2, h3⟩
      · exact .inl h2
      · exact .inr (.inl h2)
      · exact .inr (.inr ⟨t, by simp [h2], h3⟩)
    · refine .inr (.inr ⟨_, List.mem_append.2 (.inr (List.mem_singleton.2 rfl)), ?_⟩)
      simp only [hlen]
      omega
theorem nextGo_standing (l : List Str) (n m : Nat) (s : St) (hi : s.i < l.length) (h : s.Ok l m) (hs : Standing l s.i s.j s.ts s.cs) (h0 : (nextGo l n s).1 = 0) : Standing l (nextGo l n s).2.i (nextGo l n s).2.j (nextGo l n s).2.ts (nextGo l n s).2.cs := by
  obtain ⟨i, j, ts, cs⟩ := s
  have hj := h.j hi
  simp only at hi hj hs
  have hle := lineLen_eq l i hi
  have hg : l.getD i [] = l[i] := by simp [List.getD_eq_getElem?_getD, hi]
  unfold nextGo at h0 ⊢
  simp only [hg] at h0 ⊢
  have hdl : (l[i].drop j).length = l[i].length - j := List.length_drop
  generalize hx : l[i].drop j = x at hdl h0 ⊢
  cases x with
  | nil => exact hs.turn hi (by simp at hdl; omega)
  | cons c r =>
    simp only [List.length_cons] at hdl
    have hjl : j < l[i].length := by omega
    have hc : l[i][j] = c := by
      have := List.drop_eq_getElem_cons hjl
      rw [hx] at this
      exact (List.cons.inj this).1.symm
    simp only at h0 ⊢
    split at h0
    · rename_i h1
      rw [if_pos h1]
      refine hs.blank hi hjl ?_
      have : c.toNat = 32 := by simp at h1; omega
      rw [hc]; exact byte_of c 32 (by decide) this
    rename_i h1
    rw [if_neg h1]
    split at h0
    · rename_i h2
      rw [if_pos h2]
      split at h0
      · rename_i h3
        rw [if_pos h3]
        obtain ⟨h7, h8⟩ := comGo_mono l n i j 0 _ rfl
        exact hs.com (by
          simp only at h7 h8 ⊢
          rcases Nat.lt_or_ge i (comGo l n i j 0).2.1 with h9 | h9
          · exact .inl h9
          · exact .inr ⟨by omega, h8 (by omega)⟩)
      · simp at h0
    rename_i h2
    rw [if_neg h2]
    split at h0
    · rename_i h3
      rw [if_pos h3]
      exact hs.com (.inr ⟨rfl, Nat.le_add_right _ _⟩)
    rename_i h3
    rw [if_neg h3]
    split at h0
    · simp at h0
    rename_i h4
    rw [if_neg h4]
    split at h0
    · rename_i h5
      simp only at h0
      rw [h0] at h5
      simp at h5
    rename_i h5
    rw [if_neg h5]
    have h6 : (pieceT c r).err = 0 := by simpa using h5
    have hf : firstTok (c :: r) = some ((pieceT c r).kind, (pieceT c r).len) := by
      unfold firstTok
      simp only
      rw [if_neg (by simp only [Bool.or_eq_true, not_or]; exact ⟨⟨⟨h1, h2⟩, h3⟩, h4⟩), if_pos h6]
    obtain ⟨p1, p2⟩ := first_pos _ _ _ hf
    simp only [List.length_cons] at p2
    have ha := first_alone _ _ _ hf
    rw [← hx] at ha ⊢
    exact hs.token hi _ _ (by omega) ha
theorem readLoop_standing (l : List Str) (n : Nat) : ∀ (k : Nat) (s : St) (m : Nat), s.Ok l m → Standing l s.i s.j s.ts s.cs → (readLoop l n k s).1 = 0 → Standing l (readLoop l n k s).2.i (readLoop l n k s).2.j (readLoop l n k s).2.ts (readLoop l n k s).2.cs
  | 0, s, m, h, hs, _ => hs
  | k + 1, s, m, h, hs, h0 => by
    rw [readLoop] at h0 ⊢
    split
    · rename_i hi
      rw [if_pos hi] at h0
      split
      · rename_i h1
        rw [if_pos h1] at h0
        simp [h0] at h1
      · rename_i h1
        rw [if_neg h1] at h0
        exact readLoop_standing l n k _ m (nextGo_ok l m n s hi h).1 (nextGo_standing l n m s hi h hs (by simpa using h1)) h0
    · exact hs
theorem readAll_standing (l : List Str) (h0 : (readAll l).1 = 0) : Standing l (readAll l).2.i (readAll l).2.j (readAll l).2.ts (readAll l).2.cs :=
  readLoop_standing l _ _ _ _ (st0_ok l) ⟨by simp [st0], by simp [st0], fun x y hx hy hp => by simp [st0] at hp⟩ h0
theorem readAll_end (l : List Str) (h0 : (readAll l).1 = 0) : ¬ (readAll l).2.i < l.length := by
  have : ∀ (k : Nat) (s : St), s.Ok l (total l) → left l s.i s.j < k → (readLoop l (total l + 1) k s).1 = 0 → ¬ (readLoop l (total l + 1) k s).2.i < l.length := fun k => by
    induction k with
    | zero => intro s _ h; omega
    | succ k ih =>
      intro s hs hl h0
      rw [readLoop] at h0 ⊢
      by_cases hi : s.i < l.length
      · rw [if_pos hi] at h0 ⊢
        by_cases h1 : ((nextGo l (total l + 1) s).1 != 0) = true
        · rw [if_pos h1] at h0; simp [h0] at h1
        · rw [if_neg h1] at h0 ⊢
          obtain ⟨h2, h3⟩ := nextGo_ok l (total l) (total l + 1) s hi hs
          have := h3 (by simpa using h1)
          exact ih _ h2 (by omega) h0
      · rw [if_neg hi]; exact hi
  exact this _ _ (st0_ok l) (by show left l 0 0 < total l + 1; unfold total; omega) h0
end Go.Proofs.YtlmmgblghgmgeaaGreatDoor
