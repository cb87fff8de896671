/- The program's pieces are the reference's. -/
import Derived.Test.YtlmmgblghgmgeaaGreatDoorPureB
import Derived.Lib.TrimByte
namespace Go.Proofs.YtlmmgblghgmgeaaGreatDoor
open Go Ev
set_option linter.unusedSimpArgs false

/-- The same error; without one, the same kind and length. -/
def SameP (p : Pc) (x : AV) : Prop := ∃ k l, x = piece k l p.err ∧ (p.err = 0 → k = p.kind ∧ l = p.len)
theorem sameP_refl (k l e : Int) : SameP ⟨k, l, e⟩ (piece k l e) := ⟨k, l, rfl, fun _ => ⟨rfl, rfl⟩⟩
theorem sameP_err {k l k' l' e : Int} (h : e ≠ 0) : SameP ⟨k, l, e⟩ (piece k' l' e) := ⟨k', l', rfl, fun h' => absurd h' h⟩
theorem byte_of (c : UInt8) (n : Nat) (hn : n < 256) (h : c.toNat = n) : c = n.toUInt8 := by
  have : c.toNat = (n.toUInt8).toNat := by
    rw [h]; simp [Nat.toUInt8, UInt8.toNat_ofNat']; omega
  exact UInt8.toNat_inj.1 this
theorem firstOf_0 (l : List Int) : firstOf (0 :: l) = firstOf l := rfl
theorem firstOf_8 (l : List Int) : firstOf (8 :: l) = 8 := rfl
theorem firstOf_2 (l : List Int) : firstOf (2 :: l) = 2 := rfl
theorem firstOf_3 (l : List Int) : firstOf (3 :: l) = 3 := rfl
theorem firstOf_n : firstOf [] = 0 := rfl
/-! ### texts in quotation marks -/
theorem indexByte_run (b : UInt8) : ∀ s : Str, Lib.indexByte s b = if run (fun x => (x.toNat : Int) != b.toNat) s = s.length then -1 else (run (fun x => (x.toNat : Int) != b.toNat) s : Int)
  | [] => rfl
  | x :: s => by
    have ih := indexByte_run b s
    have hle := run_le (fun x => (x.toNat : Int) != b.toNat) s
    unfold Lib.indexByte
    cases h : (x == b)
    · have hx : ((x.toNat : Int) != b.toNat) = true := by
        have : x ≠ b := by simpa using h
        have : x.toNat ≠ b.toNat := fun he => this (UInt8.toNat_inj.1 he)
        simp; omega
      have hr : run (fun x => (x.toNat : Int) != b.toNat) (x :: s) = run (fun x => (x.toNat : Int) != b.toNat) s + 1 := by
        unfold run; rw [List.takeWhile_cons, if_pos hx]; rfl
      rw [hr, ih]
      simp only [Bool.false_eq_true, if_false, List.length_cons]
      by_cases he : run (fun x => (x.toNat : Int) != b.toNat) s = s.length
      · simp [he]
      · have h1 : ¬ ((run (fun x => (x.toNat : Int) != b.toNat) s : Int) == -1) = true := by simp <;> omega
        have h2 : ¬ run (fun x => (x.toNat : Int) != b.toNat) s + 1 = s.length + 1 := by omega
        simp only [if_neg he, if_neg h1, if_neg h2]
        omega
    · have hx : ((x.toNat : Int) != b.toNat) = false := by
        have : x = b := by simpa using h
        subst this; simp
      have hr : run (fun x => (x.toNat : Int) != b.toNat) (x :: s) = 0 := by
        unfold run; rw [List.takeWhile_cons, hx]; rfl
      rw [hr]
      simp
theorem indexByte_has (b : UInt8) (s : Str) : decide (0 ≤ Lib.indexByte s b) = s.any (fun x => (x.toNat : Int) == b.toNat) := by
  induction s with
  | nil => rfl
  | cons x s ih =>
    unfold Lib.indexByte
    cases h : (x == b)
    · have hx : ((x.toNat : Int) == b.toNat) = false := by
        have : x ≠ b := by simpa using h
        have : x.toNat ≠ b.toNat := fun he => this (UInt8.toNat_inj.1 he)
        simp; omega
      rw [List.any_cons, hx, ← ih]
      have := (indexByte_lt s b).1
      by_cases he : Lib.indexByte s b = -1
      · simp [he]
      · have : ¬ (Lib.indexByte s b == -1) = true := by simpa using he
        simp only [Bool.false_eq_true, if_false, if_neg this, Bool.false_or]
        have h1 : 0 ≤ Lib.indexByte s b + 1 := by omega
        have h2 : 0 ≤ Lib.indexByte s b := by omega
        simp [h1, h2]
    · have : x = b := by simpa using h
      subst this
      simp
theorem quoted_same (s : Str) (j : Nat) (c : UInt8) (r : Str) (h : s.drop j = c :: r) : SameP (textT r) (quotedP s j) := by
  have hj : j < s.length := by
    rcases Nat.lt_or_ge j s.length with h' | h'
    · exact h'
    · rw [List.drop_eq_nil_of_le h'] at h; simp at h
  have hr : s.drop (j + 1) = r := by rw [List.drop_eq_getElem_cons hj] at h; exact (List.cons.inj h).2
  have hrl : r.length = s.length - (j + 1) := by rw [← hr, List.length_drop]
  unfold textT quotedP
  simp only [hr]
  have hi := indexByte_run 34 r
  have e34 : (fun x : UInt8 => (x.toNat : Int) != (34 : UInt8).toNat) = fun x => (x.toNat : Int) != 34 := rfl
  rw [e34] at hi
  have hle := run_le (fun b => (b.toNat : Int) != 34) r
  generalize run (fun b => (b.toNat : Int) != 34) r = q at hi hle ⊢
  by_cases hq : q = r.length
  · have hi' : Lib.indexByte r 34 = -1 := by rw [hi, if_pos hq]
    have a2 : j + 1 + q = s.length := by omega
    rw [if_pos (show Lib.indexByte r 34 < 0 by rw [hi']; decide), if_pos a2]
    exact sameP_err (by decide)
  · have hi' : Lib.indexByte r 34 = q := by rw [hi, if_neg hq]
    have a2 : ¬ j + 1 + q = s.length := by omega
    rw [if_neg (show ¬ Lib.indexByte r 34 < 0 by omega), if_neg a2, hi']
    have ha := indexByte_has 92 (r.take q)
    have e92 : (fun x : UInt8 => (x.toNat : Int) == (92 : UInt8).toNat) = fun x => (x.toNat : Int) == 92 := rfl
    rw [e92] at ha
    simp only [Int.toNat_natCast, ha]
    cases (r.take q).any (fun x => (x.toNat : Int) == 92)
    · by_cases h40 : (40 : Int) < q
      · have h40' : (q : Int) > 40 := h40
        simp only [h40, h40', decide_true, if_true, Bool.false_eq_true, if_false, firstOf_0, firstOf_2]
        exact sameP_err (by decide)
      · have h40' : ¬ (q : Int) > 40 := h40
        simp only [h40, h40', decide_false, Bool.false_eq_true, if_false, firstOf_0, firstOf_n]
        exact sameP_refl _ _ _
    · simp only [if_true, firstOf_8]
      exact sameP_err (by decide)
/-! ### numbers -/
theorem numOf_val (s : Str) (hd : ∀ b ∈ s, digitB b.toNat = true) : ∀ i, i ≤ s.length → numOf (s.take i) = min (valOf (s.take i)) 10001
  | 0, _ => by rw [List.take_zero]; show (0 : Int) = min 0 10001; omega
  | i + 1, h => by
    have ih := numOf_val s hd i (by omega)
    have hr := digit_range (hd s[i] (List.getElem_mem (by omega)))
    have hv := (valOf_range s hd i (by omega)).1
    rw [numOf_take s i (by omega), valOf_take s i (by omega), ih]
    omega
theorem valOf_ge (s : Str) (hd : ∀ b ∈ s, digitB b.toNat = true) (h0 : 0 < s.length) (h1 : s[0].toNat ≠ 48) : ∀ i, i < s.length → 10 ^ i ≤ valOf (s.take (i + 1))
  | 0, h => by
    have hr := digit_range (hd s[0] (List.getElem_mem h0))
    rw [valOf_take s 0 h]
    simp [valOf]; omega
  | i + 1, h => by
    have ih := valOf_ge s hd h0 h1 i (by omega)
    have hr := digit_range (hd s[i + 1] (List.getElem_mem h))
    rw [valOf_take s (i + 1) h, Int.pow_succ]
    omega
theorem number_same (g : Str) (hd : ∀ b ∈ g, digitB b.toNat = true) (h0 : 0 < g.length) :
    SameP ⟨2, g.length, numErr g⟩ (if (g.getD 0 0).toNat == 48 && decide (1 < g.length) then piece 0 0 8 else if !(bReadP g).2 || decide ((bReadP g).1 > 10000) then piece 0 0 3 else piece 2 g.length 0) := by
  have hg : g.getD 0 0 = g[0] := by simp [List.getD_eq_getElem?_getD, h0]
  have hn := numOf_val g hd g.length (Nat.le_refl _)
  rw [List.take_length] at hn
  unfold numErr bReadP
  rw [hg]
  by_cases h1 : (g[0].toNat == 48 && decide (1 < g.length)) = true
  · have h2 : g[0].toNat = 48 ∧ 1 < g.length := by simpa using h1
    have h3 : (decide ((1 : Int) < g.length) && ((g[0].toNat : Int) == 48)) = true := by simp; omega
    rw [if_pos h1, h3]
    simp only [if_true, firstOf_8]
    exact sameP_err (by decide)
  · have h1' : (g[0].toNat == 48 && decide (1 < g.length)) = false := by simpa using h1
    have h3 : (decide ((1 : Int) < g.length) && ((g[0].toNat : Int) == 48)) = false := by
      cases h4 : decide ((1 : Int) < g.length)
      · rfl
      · have : 1 < g.length := by simp at h4; omega
        have h5 : g[0].toNat ≠ 48 := fun he => by simp [he, this] at h1
        simp; omega
    rw [if_neg h1, h3]
    simp only [Bool.false_eq_true, if_false, firstOf_0]
    by_cases h9 : g.length ≤ 9
    · have hs : spansB g.length 1 9 = true := by simp [spansB]; omega
      rw [hs]
      simp only [Bool.not_true, Bool.or_false, Bool.false_eq_true, if_false]
      by_cases hv : valOf g > 10000
      · have : numOf g > 10000 := by omega
        simp only [hv, this, Bool.not_true, decide_true, Bool.false_or, if_true, firstOf_3]
        exact sameP_err (e := 3) (by decide)
      · have : ¬ numOf g > 10000 := by omega
        simp only [hv, this, Bool.not_true, decide_false, Bool.false_or, if_false, Bool.false_eq_true, firstOf_0, firstOf_n]
        exact sameP_refl _ _ _
    · have hs : spansB g.length 1 9 = false := by simp [spansB]; omega
      rw [hs]
      simp only [Bool.not_false, Bool.or_false, if_true, Bool.true_or]
      have h5 : g[0].toNat ≠ 48 := fun he => by
        have : 1 < g.length := by omega
        simp [he, this] at h1
      have hge := valOf_ge g hd h0 h5 (g.length - 1) (by omega)
      rw [show g.length - 1 + 1 = g.length by omega, List.take_length] at hge
      have hp : (10 : Int) ^ 9 ≤ 10 ^ (g.length - 1) := by
        have := Nat.pow_le_pow_right (n := 10) (by omega) (show 9 ≤ g.length - 1 by omega)
        exact_mod_cast this
      have : numOf g > 10000 := by omega
      simp only [this, if_true, firstOf_3]
      exact sameP_err (e := 3) (by decide)
end Go.Proofs.YtlmmgblghgmgeaaGreatDoor
