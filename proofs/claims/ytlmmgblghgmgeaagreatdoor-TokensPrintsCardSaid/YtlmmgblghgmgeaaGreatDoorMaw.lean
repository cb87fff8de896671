/- The texts PureC, PureD, PureE, PureF, PureG, PureH, PureI, PureK, PureL, PureJ, merged. -/
import Derived.Test.YtlmmgblghgmgeaaGreatDoorMav
import Derived.Lib.TrimByte
import Derived.Test.YtlmmgblghgmgeaaGreatDoorMao
import Derived.Test.YtlmmgblghgmgeaaGreatDoorMap
import Derived.Test.YtlmmgblghgmgeaaGreatDoorMaq
set_option linter.unusedVariables false
set_option linter.unusedSimpArgs false
/- The program's pieces are the reference's. -/
namespace Go.Proofs.YtlmmgblghgmgeaaGreatDoor
open Go Ev
set_option linter.unusedSimpArgs false

/-- The same error; without one, the same kind and length. -/
def SameP (p : Pc) (x : AV) : Prop := ∃ k l, x = piece k l p.err ∧ (p.err = 0 → k = p.kind ∧ l = p.len)
theorem sameP_refl (k l e : Int) : SameP ⟨k, l, e⟩ (piece k l e) := ⟨k, l, rfl, fun _ => ⟨rfl, rfl⟩⟩
theorem sameP_err {k l k' l' e : Int} (h : e ≠ 0) : SameP ⟨k, l, e⟩ (piece k' l' e) := ⟨k', l', rfl, fun h' => absurd h' h⟩
theorem byte_of (c : UInt8) (n : Nat) (hn : n < 256) (h : c.toNat = n) : c = n.toUInt8 := by
  have : c.toNat = (n.toUInt8).toNat := by
    rw [h]; simp [Nat.toUInt8, UInt8.toNat_ofNat']; omega
  exact UInt8.toNat_inj.1 this
theorem firstOf_0 (l : List Int) : firstOf (0 :: l) = firstOf l := rfl
theorem firstOf_8 (l : List Int) : firstOf (8 :: l) = 8 := rfl
theorem firstOf_2 (l : List Int) : firstOf (2 :: l) = 2 := rfl
theorem firstOf_3 (l : List Int) : firstOf (3 :: l) = 3 := rfl
theorem firstOf_n : firstOf [] = 0 := rfl
/-! ### texts in quotation marks -/
theorem indexByte_run (b : UInt8) : ∀ s : Str, Lib.indexByte s b = if run (fun x => (x.toNat : Int) != b.toNat) s = s.length then -1 else (run (fun x => (x.toNat : Int) != b.toNat) s : Int)
  | [] => rfl
  | x :: s => by
    have ih := indexByte_run b s
    have hle := run_le (fun x => (x.toNat : Int) != b.toNat) s
    unfold Lib.indexByte
    cases h : (x == b)
    · have hx : ((x.toNat : Int) != b.toNat) = true := by
        have : x ≠ b := by simpa using h
        have : x.toNat ≠ b.toNat := fun he => this (UInt8.toNat_inj.1 he)
        simp; omega
      have hr : run (fun x => (x.toNat : Int) != b.toNat) (x :: s) = run (fun x => (x.toNat : Int) != b.toNat) s + 1 := by
        unfold run; rw [List.takeWhile_cons, if_pos hx]; rfl
      rw [hr, ih]
      simp only [Bool.false_eq_true, if_false, List.length_cons]
      by_cases he : run (fun x => (x.toNat : Int) != b.toNat) s = s.length
      · simp [he]
      · have h1 : ¬ ((run (fun x => (x.toNat : Int) != b.toNat) s : Int) == -1) = true := by simp <;> omega
        have h2 : ¬ run (fun x => (x.toNat : Int) != b.toNat) s + 1 = s.length + 1 := by omega
        simp only [if_neg he, if_neg h1, if_neg h2]
        omega
    · have hx : ((x.toNat : Int) != b.toNat) = false := by
        have : x = b := by simpa using h
        subst this; simp
      have hr : run (fun x => (x.toNat : Int) != b.toNat) (x :: s) = 0 := by
        unfold run; rw [List.takeWhile_cons, hx]; rfl
      rw [hr]
      simp
theorem indexByte_has (b : UInt8) (s : Str) : decide (0 ≤ Lib.indexByte s b) = s.any (fun x => (x.toNat : Int) == b.toNat) := by
  induction s with
  | nil => rfl
  | cons x s ih =>
    unfold Lib.indexByte
    cases h : (x == b)
    · have hx : ((x.toNat : Int) == b.toNat) = false := by
        have : x ≠ b := by simpa using h
        have : x.toNat ≠ b.toNat := fun he => this (UInt8.toNat_inj.1 he)
        simp; omega
      rw [List.any_cons, hx, ← ih]
      have := (indexByte_lt s b).1
      by_cases he : Lib.indexByte s b = -1
      · simp [he]
      · have : ¬ (Lib.indexByte s b == -1) = true := by simpa using he
        simp only [Bool.false_eq_true, if_false, if_neg this, Bool.false_or]
        have h1 : 0 ≤ Lib.indexByte s b + 1 := by omega
        have h2 : 0 ≤ Lib.indexByte s b := by omega
        simp [h1, h2]
    · have : x = b := by simpa using h
      subst this
      simp
theorem quoted_same (s : Str) (j : Nat) (c : UInt8) (r : Str) (h : s.drop j = c :: r) : SameP (textT r) (quotedP s j) := by
  have hj : j < s.length := by
    rcases Nat.lt_or_ge j s.length with h' | h'
    · exact h'
    · rw [List.drop_eq_nil_of_le h'] at h; simp at h
  have hr : s.drop (j + 1) = r := by rw [List.drop_eq_getElem_cons hj] at h; exact (List.cons.inj h).2
  have hrl : r.length = s.length - (j + 1) := by rw [← hr, List.length_drop]
  unfold textT quotedP
  simp only [hr]
  have hi := indexByte_run 34 r
  have e34 : (fun x : UInt8 => (x.toNat : Int) != (34 : UInt8).toNat) = fun x => (x.toNat : Int) != 34 := rfl
  rw [e34] at hi
  have hle := run_le (fun b => (b.toNat : Int) != 34) r
  generalize run (fun b => (b.toNat : Int) != 34) r = q at hi hle ⊢
  by_cases hq : q = r.length
  · have hi' : Lib.indexByte r 34 = -1 := by rw [hi, if_pos hq]
    have a2 : j + 1 + q = s.length := by omega
    rw [if_pos (show Lib.indexByte r 34 < 0 by rw [hi']; decide), if_pos a2]
    exact sameP_err (by decide)
  · have hi' : Lib.indexByte r 34 = q := by rw [hi, if_neg hq]
    have a2 : ¬ j + 1 + q = s.length := by omega
    rw [if_neg (show ¬ Lib.indexByte r 34 < 0 by omega), if_neg a2, hi']
    have ha := indexByte_has 92 (r.take q)
    have e92 : (fun x : UInt8 => (x.toNat : Int) == (92 : UInt8).toNat) = fun x => (x.toNat : Int) == 92 := rfl
    rw [e92] at ha
    simp only [Int.toNat_natCast, ha]
    cases (r.take q).any (fun x => (x.toNat : Int) == 92)
    · by_cases h40 : (40 : Int) < q
      · have h40' : (q : Int) > 40 := h40
        simp only [h40, h40', decide_true, if_true, Bool.false_eq_true, if_false, firstOf_0, firstOf_2]
        exact sameP_err (by decide)
      · have h40' : ¬ (q : Int) > 40 := h40
        simp only [h40, h40', decide_false, Bool.false_eq_true, if_false, firstOf_0, firstOf_n]
        exact sameP_refl _ _ _
    · simp only [if_true, firstOf_8]
      exact sameP_err (by decide)
/-! ### numbers -/
theorem numOf_val (s : Str) (hd : ∀ b ∈ s, digitB b.toNat = true) : ∀ i, i ≤ s.length → numOf (s.take i) = min (valOf (s.take i)) 10001
  | 0, _ => by rw [List.take_zero]; show (0 : Int) = min 0 10001; omega
  | i + 1, h => by
    have ih := numOf_val s hd i (by omega)
    have hr := digit_range (hd s[i] (List.getElem_mem (by omega)))
    have hv := (valOf_range s hd i (by omega)).1
    rw [numOf_take s i (by omega), valOf_take s i (by omega), ih]
    omega
theorem valOf_ge (s : Str) (hd : ∀ b ∈ s, digitB b.toNat = true) (h0 : 0 < s.length) (h1 : s[0].toNat ≠ 48) : ∀ i, i < s.length → 10 ^ i ≤ valOf (s.take (i + 1))
  | 0, h => by
    have hr := digit_range (hd s[0] (List.getElem_mem h0))
    rw [valOf_take s 0 h]
    simp [valOf]; omega
  | i + 1, h => by
    have ih := valOf_ge s hd h0 h1 i (by omega)
    have hr := digit_range (hd s[i + 1] (List.getElem_mem h))
    rw [valOf_take s (i + 1) h, Int.pow_succ]
    omega
theorem number_same (g : Str) (hd : ∀ b ∈ g, digitB b.toNat = true) (h0 : 0 < g.length) :
    SameP ⟨2, g.length, numErr g⟩ (if (g.getD 0 0).toNat == 48 && decide (1 < g.length) then piece 0 0 8 else if !(bReadP g).2 || decide ((bReadP g).1 > 10000) then piece 0 0 3 else piece 2 g.length 0) := by
  have hg : g.getD 0 0 = g[0] := by simp [List.getD_eq_getElem?_getD, h0]
  have hn := numOf_val g hd g.length (Nat.le_refl _)
  rw [List.take_length] at hn
  unfold numErr bReadP
  rw [hg]
  by_cases h1 : (g[0].toNat == 48 && decide (1 < g.length)) = true
  · have h2 : g[0].toNat = 48 ∧ 1 < g.length := by simpa using h1
    have h3 : (decide ((1 : Int) < g.length) && ((g[0].toNat : Int) == 48)) = true := by simp; omega
    rw [if_pos h1, h3]
    simp only [if_true, firstOf_8]
    exact sameP_err (by decide)
  · have h1' : (g[0].toNat == 48 && decide (1 < g.length)) = false := by simpa using h1
    have h3 : (decide ((1 : Int) < g.length) && ((g[0].toNat : Int) == 48)) = false := by
      cases h4 : decide ((1 : Int) < g.length)
      · rfl
      · have : 1 < g.length := by simp at h4; omega
        have h5 : g[0].toNat ≠ 48 := fun he => by simp [he, this] at h1
        simp; omega
    rw [if_neg h1, h3]
    simp only [Bool.false_eq_true, if_false, firstOf_0]
    by_cases h9 : g.length ≤ 9
    · have hs : spansB g.length 1 9 = true := by simp [spansB]; omega
      rw [hs]
      simp only [Bool.not_true, Bool.or_false, Bool.false_eq_true, if_false]
      by_cases hv : valOf g > 10000
      · have : numOf g > 10000 := by omega
        simp only [hv, this, Bool.not_true, decide_true, Bool.false_or, if_true, firstOf_3]
        exact sameP_err (e := 3) (by decide)
      · have : ¬ numOf g > 10000 := by omega
        simp only [hv, this, Bool.not_true, decide_false, Bool.false_or, if_false, Bool.false_eq_true, firstOf_0, firstOf_n]
        exact sameP_refl _ _ _
    · have hs : spansB g.length 1 9 = false := by simp [spansB]; omega
      rw [hs]
      simp only [Bool.not_false, Bool.or_false, if_true, Bool.true_or]
      have h5 : g[0].toNat ≠ 48 := fun he => by
        have : 1 < g.length := by omega
        simp [he, this] at h1
      have hge := valOf_ge g hd h0 h5 (g.length - 1) (by omega)
      rw [show g.length - 1 + 1 = g.length by omega, List.take_length] at hge
      have hp : (10 : Int) ^ 9 ≤ 10 ^ (g.length - 1) := by
        have := Nat.pow_le_pow_right (n := 10) (by omega) (show 9 ≤ g.length - 1 by omega)
        exact_mod_cast this
      have : numOf g > 10000 := by omega
      simp only [this, if_true, firstOf_3]
      exact sameP_err (e := 3) (by decide)
end Go.Proofs.YtlmmgblghgmgeaaGreatDoor

/- The program's pieces are the reference's. -/
namespace Go.Proofs.YtlmmgblghgmgeaaGreatDoor
open Go Ev
set_option linter.unusedSimpArgs false

theorem trim_same (n : Nat) (c : UInt8) : Lib.trimB (List.replicate n c) c = [] := by
  unfold Lib.trimB Lib.trimLeftB Lib.trimRightB
  have h : ∀ l : Str, (∀ b ∈ l, b = c) → l.dropWhile (· == c) = [] := fun l => by
    induction l with
    | nil => intro _; rfl
    | cons a l ih =>
      intro hl
      have : a = c := hl a (by simp)
      rw [List.dropWhile_cons, if_pos (by simp [this])]
      exact ih fun b hb => hl b (by simp [hb])
  have h1 : ((List.replicate n c).reverse.dropWhile (· == c)) = [] := h _ fun b hb => by simp at hb; exact hb.2
  rw [h1]
  rfl
theorem trim_other (n : Nat) (c d : UInt8) (h : c ≠ d) : Lib.trimB (List.replicate n c) d = List.replicate n c := by
  unfold Lib.trimB Lib.trimLeftB Lib.trimRightB
  have hk : ∀ l : Str, (∀ b ∈ l, b = c) → l.dropWhile (· == d) = l := fun l hl => by
    cases l with
    | nil => rfl
    | cons a l =>
      have : a = c := hl a (by simp)
      rw [List.dropWhile_cons, if_neg (by simp [this, h])]
  have hr : ∀ b ∈ List.replicate n c, b = c := fun b hb => (List.mem_replicate.1 hb).2
  rw [List.reverse_replicate, hk _ hr, List.reverse_replicate, hk _ hr]
theorem sign_rep (c : UInt8) (r : Str) : (c :: r).take (signOf c r) = List.replicate (signOf c r) c := by
  refine List.eq_replicate_iff.2 ⟨?_, fun b hb => ?_⟩
  · rw [List.length_take]
    have := run_le (fun b => (b.toNat : Int) == c.toNat) (c :: r)
    unfold signOf; omega
  · unfold signOf at hb
    rw [take_run] at hb
    have := takeWhile_all _ _ b hb
    have : b.toNat = c.toNat := by simp at this; omega
    exact UInt8.toNat_inj.1 this
theorem sign_pos (c : UInt8) (r : Str) : 0 < signOf c r := by
  unfold signOf run
  rw [List.takeWhile_cons, if_pos (by simp)]; simp
theorem rule_eq (c : UInt8) (r : Str) : isRuleB ((c :: r).take (signOf c r)) = (decide (4 ≤ signOf c r) && (((c.toNat : Int) == 45) || ((c.toNat : Int) == 61))) := by
  have hp := sign_pos c r
  rw [sign_rep]
  generalize signOf c r = n at hp
  have hne : (List.replicate n c == ([] : Str)) = false := by
    cases n with
    | zero => omega
    | succ n => rfl
  unfold isRuleB
  rw [List.length_replicate]
  by_cases h1 : c.toNat = 45
  · have : c = 45 := byte_of c 45 (by decide) h1
    subst this
    rw [trim_same]; rfl
  · have hc1 : c ≠ 45 := fun he => h1 (by rw [he]; rfl)
    have e1 : ((c.toNat : Int) == 45) = false := by simp <;> omega
    rw [trim_other n c 45 hc1, hne, e1]
    by_cases h2 : c.toNat = 61
    · have : c = 61 := byte_of c 61 (by decide) h2
      subst this
      rw [trim_same]; rfl
    · have hc2 : c ≠ 61 := fun he => h2 (by rw [he]; rfl)
      have e2 : ((c.toNat : Int) == 61) = false := by simp <;> omega
      rw [trim_other n c 61 hc2, hne, e2]
theorem idxIn_any (x : Str) : ∀ (l : List Str) (n : Int), 0 ≤ n → decide (0 ≤ idxIn x l n) = l.any (fun y => y == x)
  | [], n, _ => rfl
  | y :: l, n, h => by
    unfold idxIn
    rw [List.any_cons]
    cases h1 : (x == y)
    · have h2 : (y == x) = false := by
        have : x ≠ y := by simpa using h1
        simp; exact fun he => this he.symm
      rw [h2]
      simp only [Bool.false_eq_true, if_false, Bool.false_or]
      exact idxIn_any x l (n + 1) (by omega)
    · have h2 : (y == x) = true := by
        have : x = y := by simpa using h1
        simp [this]
      rw [h2]
      simp [h]
theorem word_ascii {b : UInt8} (h : wordB b.toNat = true) : b.toNat < 128 := by
  simp only [wordB, letterB, digitB, spansB, Bool.or_eq_true, Bool.and_eq_true, decide_eq_true_eq, beq_iff_eq] at h
  omega
theorem hasLetter_any (t : Str) : hasLetter (wordOf t) = (wordOf t).any (fun b => letterB b.toNat) := by
  unfold hasLetter
  have hw : ∀ b ∈ wordOf t, wordB b.toNat = true := fun b hb => by
    unfold wordOf at hb
    rw [take_run] at hb
    exact takeWhile_all _ _ b hb
  have := idx_any (fun x => letterB (x % 256)) (wordOf t) fun b hb => .inl (word_ascii (hw b hb))
  rw [this]
  congr 1
  funext b
  rw [Nat.mod_eq_of_lt b.toNat_lt]
theorem under_sym (r : Str) : longSym (95 :: r) = 1 := by
  obtain ⟨h1, h2, h3⟩ := longSym_spec (95 :: r)
  have hm : ([95] : Str) ∈ allSyms := by decide +kernel
  have hl := h3 _ hm ⟨r, rfl⟩
  rcases h2 with h2 | ⟨x, hx, hp, hlen⟩
  · simp at hl; omega
  · have ho : allSyms.all (fun x => match x with | 95 :: y => y.isEmpty | _ => true) = true := by decide +kernel
    have hxo := List.all_eq_true.1 ho x hx
    have hne := syms_ne x hx
    match x, hxo, hp, hne, hlen with
    | [], _, _, hne, _ => exact absurd rfl hne
    | a :: y, hxo, hp, _, hlen =>
      obtain ⟨rfl, _⟩ := List.cons_prefix_cons.1 hp
      simp at hxo
      rw [hlen, hxo]; rfl
end Go.Proofs.YtlmmgblghgmgeaaGreatDoor

/- What begins at a place is the same for both. -/
namespace Go.Proofs.YtlmmgblghgmgeaaGreatDoor
open Go Ev
set_option linter.unusedSimpArgs false

theorem word_same (s : Str) (j : Nat) (c : UInt8) (r : Str) (h : s.drop j = c :: r) (hw : wordB c.toNat = true) : SameP (pieceT c r) (wordP s j) := by
  have hany := hasLetter_any (c :: r)
  have hwl := run_le (fun b => wordB b.toNat) (c :: r)
  have hdl := run_le (fun b => digitB b.toNat) (c :: r)
  have hpos : 0 < run (fun b => wordB b.toNat) (c :: r) := by
    unfold run; rw [List.takeWhile_cons, if_pos hw]; simp
  have hWm : c ∈ wordOf (c :: r) := by
    unfold wordOf; rw [take_run, List.takeWhile_cons, if_pos hw]; simp
  have hlen : (wordOf (c :: r)).length = run (fun b => wordB b.toNat) (c :: r) := by unfold wordOf; rw [take_len]
  have hdg : (digitsOf (c :: r)).length = run (fun b => digitB b.toNat) (c :: r) := by unfold digitsOf; rw [take_len]
  have hdd : ∀ b ∈ digitsOf (c :: r), digitB b.toNat = true := fun b hb => by
    unfold digitsOf at hb
    rw [take_run] at hb
    exact takeWhile_all _ _ b hb
  have hc34 : ((c.toNat : Int) == 34) = false := by
    cases h34 : ((c.toNat : Int) == 34)
    · rfl
    · have : c.toNat = 34 := by simp at h34; omega
      rw [this] at hw; exact absurd hw (by decide)
  have hc45 : ((c.toNat : Int) == 45) = false := by
    cases h45 : ((c.toNat : Int) == 45)
    · rfl
    · have : c.toNat = 45 := by simp at h45; omega
      rw [this] at hw; exact absurd hw (by decide)
  have hc61 : ((c.toNat : Int) == 61) = false := by
    cases h61 : ((c.toNat : Int) == 61)
    · rfl
    · have : c.toNat = 61 := by simp at h61; omega
      rw [this] at hw; exact absurd hw (by decide)
  have hc92 : ((c.toNat : Int) == 92) = false := by
    cases h92 : ((c.toNat : Int) == 92)
    · rfl
    · have : c.toNat = 92 := by simp at h92; omega
      rw [this] at hw; exact absurd hw (by decide)
  have hrule := rule_eq c r
  rw [hc45, hc61] at hrule
  simp only [Bool.or_false, Bool.and_false] at hrule
  have hsub : ∀ n, sub s j n = (c :: r).take n := fun n => by rw [sub_eq, h]
  unfold wordP
  rw [h, hsub]
  have hW : (c :: r).take (run (fun b => wordB b.toNat) (c :: r)) = wordOf (c :: r) := rfl
  rw [hW]
  unfold wordTail pieceT
  rw [hany, hrule, hc34, hsub, hdg]
  have hD : (c :: r).take (run (fun b => digitB b.toNat) (c :: r)) = digitsOf (c :: r) := rfl
  rw [hD]
  have hres := idxIn_any (wordOf (c :: r)) reservedL 0 (by decide)
  rw [hres]
  have hcnt : (0 < (wordOf (c :: r)).countP fun b => letterB b.toNat) ↔ (wordOf (c :: r)).any (fun b => letterB b.toNat) = true := by
    rw [List.countP_pos_iff, List.any_eq_true]
  have hWF : hasPre (wordOf (c :: r)) [87, 70, 95] = (decide ((2 : Int) < (wordOf (c :: r)).length) && ((wordOf (c :: r)).take 3 == [87, 70, 95])) := by
    unfold hasPre
    have : decide (([87, 70, 95] : Str).length ≤ (wordOf (c :: r)).length) = decide ((2 : Int) < (wordOf (c :: r)).length) := by
      simp only [List.length_cons, List.length_nil, decide_eq_decide]; omega
    rw [this]; rfl
  have hSF : hasPre (wordOf (c :: r)) [83, 70, 95] = (decide ((2 : Int) < (wordOf (c :: r)).length) && ((wordOf (c :: r)).take 3 == [83, 70, 95])) := by
    unfold hasPre
    have : decide (([83, 70, 95] : Str).length ≤ (wordOf (c :: r)).length) = decide ((2 : Int) < (wordOf (c :: r)).length) := by
      simp only [List.length_cons, List.length_nil, decide_eq_decide]; omega
    rw [this]; rfl
  have hpre : ∀ a b d : UInt8, letterB a.toNat = true → hasPre (wordOf (c :: r)) [a, b, d] = true → (wordOf (c :: r)).any (fun b => letterB b.toNat) = true := fun a b d ha hp => by
    obtain ⟨z, hz⟩ := (hasPre_iff _ _).1 hp
    rw [← hz]
    simp [ha]
  cases hl : (wordOf (c :: r)).any (fun b => letterB b.toNat)
  · have hnl : ¬ 0 < (wordOf (c :: r)).countP fun b => letterB b.toNat := fun hc => by rw [hcnt, hl] at hc; simp at hc
    have h1 : hasPre (wordOf (c :: r)) [87, 70, 95] = false := by
      cases hp : hasPre (wordOf (c :: r)) [87, 70, 95]
      · rfl
      · have := hpre _ _ _ (by decide) hp; rw [hl] at this; simp at this
    have h2 : hasPre (wordOf (c :: r)) [83, 70, 95] = false := by
      cases hp : hasPre (wordOf (c :: r)) [83, 70, 95]
      · rfl
      · have := hpre _ _ _ (by decide) hp; rw [hl] at this; simp at this
    have hcl : letterB c.toNat = false := by
      have := List.any_eq_false.1 hl c hWm
      simpa using this
    rw [if_neg hnl, h1, h2]
    simp only [Bool.or_false, Bool.false_eq_true, if_false]
    cases hd : digitB c.toNat
    · have hr0 : run (fun b => digitB b.toNat) (c :: r) = 0 := by
        unfold run; rw [List.takeWhile_cons, hd]; rfl
      rw [if_pos hr0]
      simp only [Bool.false_eq_true, if_false]
      have hc95 : c = 95 := by
        have : c.toNat = 95 := by
          unfold wordB at hw
          rw [hcl, hd] at hw
          simp at hw; omega
        exact byte_of c 95 (by decide) this
      have hy : symT c r = ⟨4, 1, 0⟩ := by
        have hu := under_sym r
        unfold symT
        simp only [hc92, Bool.false_and, Bool.false_eq_true, if_false]
        have : longest (c :: r) (longest (c :: r) 0 plainL) (othersL.map (·.1)) = 1 := by rw [hc95]; exact hu
        rw [this]; rfl
      rw [hy]
      exact sameP_refl _ _ _
    · have hr0 : ¬ run (fun b => digitB b.toNat) (c :: r) = 0 := by
        unfold run; rw [List.takeWhile_cons, if_pos hd]; simp
      rw [if_neg hr0]
      simp only [if_true]
      have := number_same (digitsOf (c :: r)) hdd (by omega)
      rw [hdg] at this
      exact this
  · have hnl : 0 < (wordOf (c :: r)).countP fun b => letterB b.toNat := hcnt.2 hl
    rw [if_pos hnl, hWF, hSF]
    generalize wordOf (c :: r) = W
    cases hA : decide ((2 : Int) < W.length) <;> cases hB : (W.take 3 == [87, 70, 95]) <;> cases hC : (W.take 3 == [83, 70, 95]) <;>
      simp only [Bool.false_and, Bool.true_and, Bool.or_false, Bool.false_or, Bool.or_true, Bool.true_or, Bool.false_eq_true, if_false, if_true] <;>
      first
      | exact sameP_refl _ _ _
      | (cases hE : decide ((24 : Int) < W.length)
         · simp only [Bool.false_eq_true, if_false]
           cases reservedL.any (fun y => y == W)
           · exact sameP_refl _ _ _
           · exact sameP_refl _ _ _
         · simp only [if_true]
           exact sameP_err (e := 7) (by decide))
theorem at_same (s : Str) (j : Nat) (c : UInt8) (r : Str) (h : s.drop j = c :: r) (hs : hasPre (c :: r) [42, 41] = false) : SameP (pieceT c r) (atP s j) := by
  have hj : j < s.length := by
    rcases Nat.lt_or_ge j s.length with h' | h'
    · exact h'
    · rw [List.drop_eq_nil_of_le h'] at h; simp at h
  have hd := h
  rw [List.drop_eq_getElem_cons hj] at hd
  obtain ⟨hc, hr⟩ := List.cons.inj hd
  have hg : s.getD j 0 = c := by simp [List.getD_eq_getElem?_getD, hj, hc]
  have hsm : sameP s j = signOf c r := by unfold sameP signOf; rw [hg, h]
  have hlen : s.length - j = r.length + 1 := by
    have := congrArg List.length h
    rw [List.length_drop] at this; simpa using this
  have hnext : decide (j + 1 < s.length) = !r.isEmpty := by
    cases r with
    | nil => simp at hlen ⊢; omega
    | cons b r => simp at hlen ⊢; omega
  have hsub : ∀ n, sub s j n = (c :: r).take n := fun n => by rw [sub_eq, h]
  have hstar : (decide (j + 1 < s.length) && (sub s j 2 == [42, 41])) = false := by
    rw [hnext, hsub]
    cases r with
    | nil => rfl
    | cons b r =>
      cases hx : ((c :: b :: r).take 2 == [42, 41])
      · simp
      · exfalso
        have : c = 42 ∧ b = 41 := by simpa using hx
        obtain ⟨rfl, rfl⟩ := this
        have h5 := (hasPre_iff (42 :: 41 :: r) [42, 41]).2 ⟨r, rfl⟩
        rw [h5] at hs
        simp at hs
  have hrule := rule_eq c r
  unfold atP
  rw [hg, hsm, hstar]
  simp only [Bool.false_eq_true, if_false]
  cases hw : wordB c.toNat
  · have hnotw : wordOf (c :: r) = [] := by
      unfold wordOf; rw [take_run, List.takeWhile_cons, hw]; rfl
    have hnd : digitB c.toNat = false := by
      cases hd : digitB c.toNat
      · rfl
      · unfold wordB at hw; rw [hd] at hw; simp at hw
    have hL : hasLetter [] = false := by decide
    have hp1 : hasPre [] [87, 70, 95] = false := rfl
    have hp2 : hasPre [] [83, 70, 95] = false := rfl
    have hpc : pieceT c r = if ((c.toNat : Int) == 34) then textT r else if (decide (4 ≤ signOf c r) && (((c.toNat : Int) == 45) || ((c.toNat : Int) == 61))) then ⟨5, signOf c r, 0⟩ else symT c r := by
      unfold pieceT
      rw [hnotw, hL, hp1, hp2, hnd, hrule]; rfl
    rw [hpc]
    simp only [Bool.false_eq_true, if_false]
    cases hR : (decide (4 ≤ signOf c r) && (((c.toNat : Int) == 45) || ((c.toNat : Int) == 61)))
    · have hR' : ((((c.toNat : Int) == 45) || ((c.toNat : Int) == 61)) && decide ((signOf c r : Int) > 3)) = false := by
        rw [Bool.and_comm, ← hR]
        congr 1
        simp only [decide_eq_decide]; omega
      rw [hR']
      simp only [Bool.false_eq_true, if_false]
      cases hq : ((c.toNat : Int) == 34)
      · simp only [Bool.false_eq_true, if_false]
        -- symbols
        have hls : ∀ n : Int, n = longSym (c :: r) → longest (c :: r) (longest (c :: r) 0 plainL) (othersL.map (·.1)) = n := fun n hn => hn ▸ rfl
        unfold symT
        simp only [hls _ rfl]
        cases hb : ((c.toNat : Int) == 92 && (decide (j + 1 < s.length) && letterB (s.getD (j + 1) 0).toNat))
        · have hk : (((c.toNat : Int) == 92) && decide ((run (fun b => letterB b.toNat) r : Int) > 0)) = false := by
            cases h92 : ((c.toNat : Int) == 92)
            · rfl
            · rw [h92, hnext] at hb
              cases r with
              | nil => simp [run]
              | cons b r' =>
                have hgb : s.getD (j + 1) 0 = b := by
                  have : s.drop (j + 1) = b :: r' := hr
                  have h1 : j + 1 < s.length := by simp at hlen; omega
                  rw [List.drop_eq_getElem_cons h1] at this
                  simp [List.getD_eq_getElem?_getD, h1, (List.cons.inj this).1]
                rw [hgb] at hb
                simp at hb
                have : run (fun b => letterB b.toNat) (b :: r') = 0 := by
                  unfold run; rw [List.takeWhile_cons, hb]; rfl
                rw [this]; simp
          rw [hk]
          simp only [Bool.false_eq_true, if_false]
          have hshort : longSym (c :: r) ≤ 3 := symbol_short _ fun b r' he => by
            obtain ⟨rfl, rfl⟩ := List.cons.inj he
            cases hlb : letterB b.toNat
            · rfl
            · exfalso
              have : 0 < run (fun b => letterB b.toNat) (b :: r') := by unfold run; rw [List.takeWhile_cons, if_pos hlb]; simp
              have h2 : decide ((run (fun b => letterB b.toNat) (b :: r') : Int) > 0) = true := by simp; omega
              rw [h2] at hk
              simp at hk
          have hle : longSym (c :: r) ≤ ((min 3 (s.length - j) : Nat) : Int) := by
            rcases (longSym_spec (c :: r)).2.1 with h0 | ⟨x, hx, hp, hxl⟩
            · omega
            · have := hp.length_le
              simp only [List.length_cons] at this
              omega
          have ht := symTry_long s j (min 3 (s.length - j)) (by omega) (by rw [h]; exact hle)
          rw [h] at ht
          rw [ht]
          by_cases h0 : longSym (c :: r) = 0
          · rw [if_pos h0, h0]
            exact sameP_err (e := 8) (by decide)
          · have : (longSym (c :: r) == 0) = false := by simp [h0]
            rw [if_neg h0, this]
            exact sameP_refl _ _ _
        · simp only [Bool.and_eq_true] at hb
          obtain ⟨hb1, hb2, hb3⟩ := hb
          rw [hnext] at hb2
          cases r with
          | nil => simp at hb2
          | cons b r' =>
            have hgb : s.getD (j + 1) 0 = b := by
              have : s.drop (j + 1) = b :: r' := hr
              have h1 : j + 1 < s.length := by simp at hlen; omega
              rw [List.drop_eq_getElem_cons h1] at this
              simp [List.getD_eq_getElem?_getD, h1, (List.cons.inj this).1]
            rw [hgb] at hb3
            have hc92 : c = 92 := byte_of c 92 (by decide) (by simp at hb1; omega)
            have hk0 : 0 < run (fun b => letterB b.toNat) (b :: r') := by unfold run; rw [List.takeWhile_cons, if_pos hb3]; simp
            have hk : (((c.toNat : Int) == 92) && decide ((run (fun b => letterB b.toNat) (b :: r') : Int) > 0)) = true := by
              rw [hb1]; simp; omega
            rw [hk]
            simp only [if_true]
            have hl := symbol_letters b r' hb3
            rw [hr, hsub]
            subst hc92
            cases hsy : isSym ((92 :: b :: r').take (run (fun b => letterB b.toNat) (b :: r') + 1))
            · have hne : ¬ longSym (92 :: b :: r') = (run (fun b => letterB b.toNat) (b :: r') : Int) + 1 := fun he => by rw [hl.1 he] at hsy; simp at hsy
              have : (longSym (92 :: b :: r') != (run (fun b => letterB b.toNat) (b :: r') : Int) + 1) = true := by simpa using hne
              rw [this]
              simp only [if_true, Bool.false_eq_true, if_false]
              exact sameP_err (e := 8) (by decide)
            · have he := hl.2 hsy
              have : (longSym (92 :: b :: r') != (run (fun b => letterB b.toNat) (b :: r') : Int) + 1) = false := by simpa using he
              rw [this]
              simp only [if_true, Bool.false_eq_true, if_false]
              have e1 : ((run (fun b => letterB b.toNat) (b :: r') + 1 : Nat) : Int) = (run (fun b => letterB b.toNat) (b :: r') : Int) + 1 := by omega
              rw [e1]
              exact sameP_refl _ _ _
      · simp only [if_true]
        exact quoted_same s j c r h
    · have hR' : ((((c.toNat : Int) == 45) || ((c.toNat : Int) == 61)) && decide ((signOf c r : Int) > 3)) = true := by
        rw [Bool.and_comm, ← hR]
        congr 1
        simp only [decide_eq_decide]; omega
      have hq : ((c.toNat : Int) == 34) = false := by
        simp only [Bool.and_eq_true, Bool.or_eq_true] at hR
        rcases hR.2 with h1 | h1 <;> simp at h1 ⊢ <;> omega
      rw [hR', hq]
      simp only [if_true, Bool.false_eq_true, if_false]
      exact sameP_refl _ _ _
  · have hR' : ((((c.toNat : Int) == 45) || ((c.toNat : Int) == 61)) && decide ((signOf c r : Int) > 3)) = false := by
      cases h1 : ((c.toNat : Int) == 45)
      · cases h2 : ((c.toNat : Int) == 61)
        · rfl
        · have : c.toNat = 61 := by simp at h2; omega
          rw [this] at hw; exact absurd hw (by decide)
      · have : c.toNat = 45 := by simp at h1; omega
        rw [this] at hw; exact absurd hw (by decide)
    rw [hR']
    simp only [Bool.false_eq_true, if_false, if_true]
    exact word_same s j c r h hw
end Go.Proofs.YtlmmgblghgmgeaaGreatDoor

/- A text is read the same by both. -/
namespace Go.Proofs.YtlmmgblghgmgeaaGreatDoor
open Go Ev
set_option linter.unusedSimpArgs false

theorem pre_two (s : Str) (j : Nat) (a b : UInt8) : hasPre (s.drop j) [a, b] = (two s j == [a, b]) := by
  unfold two
  by_cases h : j + 1 < s.length
  · rw [if_pos h]
    unfold hasPre
    have h1 : decide (([a, b] : Str).length ≤ (s.drop j).length) = true := by
      simp only [List.length_cons, List.length_nil, List.length_drop, decide_eq_true_eq]; omega
    rw [h1, Bool.true_and]
    congr 1
    rw [List.drop_take]
    congr 1
    simp only [List.length_cons, List.length_nil]; omega
  · rw [if_neg h]
    unfold hasPre
    have h1 : decide (([a, b] : Str).length ≤ (s.drop j).length) = false := by
      simp only [List.length_cons, List.length_nil, List.length_drop, decide_eq_false_iff_not]; omega
    rw [h1]; rfl
theorem drop_end (s : Str) (j : Nat) : (s.drop j == []) = !decide (j < s.length) := by
  by_cases h : j < s.length
  · rw [List.drop_eq_getElem_cons h]; simp [h]
  · rw [List.drop_eq_nil_of_le (by omega)]; simp [h]
theorem com_same (l : List Str) : ∀ (n i j : Nat) (d : Int), 1 ≤ d → comGo l n i j d = refCom l n i j d
  | 0, i, j, d, h => rfl
  | n + 1, i, j, d, h => by
    rw [comGo, refCom]
    by_cases hi : i < l.length
    · rw [dif_pos hi, dif_pos hi, drop_end, pre_two, pre_two]
      by_cases hj : j < l[i].length
      · simp only [hj, decide_true, Bool.not_true, Bool.false_eq_true, if_false, if_true]
        cases h1 : (two l[i] j == [40, 42])
        · cases h2 : (two l[i] j == [42, 41])
          · have : (d == 0) = false := by simp; omega
            simp only [this, Bool.false_eq_true, if_false]
            exact com_same l n i (j + 1) d h
          · cases h3 : (d - 1 == 0)
            · simp only [Bool.false_eq_true, if_false, if_true]
              have : d - 1 ≠ 0 := by simpa using h3
              exact com_same l n i (j + 2) (d - 1) (by omega)
            · rfl
        · have : (d + 1 == 0) = false := by simp; omega
          simp only [this, Bool.false_eq_true, if_false, if_true]
          exact com_same l n i (j + 2) (d + 1) (by omega)
      · simp only [hj, decide_false, Bool.not_false, if_true, if_false]
        exact com_same l n (i + 1) 0 d h
    · rw [dif_neg hi, dif_neg hi]
theorem com_start (l : List Str) (n i j : Nat) (hi : i < l.length) (h : two l[i] j == [40, 42]) : comGo l n i j 0 = refCom l n i j 0 := by
  cases n with
  | zero => rfl
  | succ n =>
    have hj : j < l[i].length := by
      rcases Nat.lt_or_ge (j + 1) l[i].length with h1 | h1
      · omega
      · unfold two at h; rw [if_neg (by omega)] at h; simp at h
    rw [comGo, refCom, dif_pos hi, dif_pos hi, drop_end, pre_two, pre_two, h]
    simp only [hj, decide_true, Bool.not_true, Bool.false_eq_true, if_false, if_true]
    have : ((0 : Int) + 1 == 0) = false := rfl
    rw [this]
    exact com_same l n i (j + 2) 1 (by omega)
theorem step_same (l : List Str) (n : Nat) (s : St) (hi : s.i < l.length) (hj : s.j ≤ lineLen l s.i) : nextGo l n s = refStep l n s := by
  obtain ⟨i, j, ts, cs⟩ := s
  simp only at hi hj
  have hg : l.getD i [] = l[i] := by simp [List.getD_eq_getElem?_getD, hi]
  have hle := lineLen_eq l i hi
  unfold nextGo refStep
  simp only [hg, hle]
  by_cases h0 : j < l[i].length
  · rw [if_pos h0]
    have hd := List.drop_eq_getElem_cons h0
    have hg2 : l[i].getD j 0 = l[i][j] := by simp [List.getD_eq_getElem?_getD, h0]
    rw [hg2]
    have p1 := pre_two l[i] j 40 42
    have p2 := pre_two l[i] j 92 42
    have p3 := pre_two l[i] j 42 41
    have hrl : (l[i].drop (j + 1)).length = l[i].length - (j + 1) := List.length_drop
    have hat := fun hs => at_same l[i] j _ _ hd hs
    have hcs := com_start l n i j hi
    have hstar : two l[i] j == [42, 41] → (atT l[i] j).err = 8 := fun h => by
      have h1 : j + 1 < l[i].length := by
        rcases Nat.lt_or_ge (j + 1) l[i].length with h1 | h1
        · exact h1
        · unfold two at h; rw [if_neg (by omega)] at h; simp at h
      have h2 : sub l[i] j 2 = [42, 41] := by
        unfold two at h; rw [if_pos h1] at h; simpa [sub] using h
      have hc : l[i][j] = 42 := by
        rw [sub_eq, hd] at h2
        simp only [List.take_succ_cons] at h2
        exact (List.cons.inj h2).1
      have : atP l[i] j = piece 0 0 8 := by
        unfold atP
        rw [hg2, hc, h2]
        have : decide (j + 1 < l[i].length) = true := by simp [h1]
        rw [this]; rfl
      unfold atT
      rw [this]; rfl
    have hsub : ∀ k, sub l[i] j k = (l[i].drop j).take k := fun k => sub_eq _ _ _
    rw [hd] at p1 p2 p3 hsub ⊢
    generalize l[i].drop (j + 1) = r at p1 p2 p3 hsub hat hrl ⊢
    generalize l[i][j] = c at p1 p2 p3 hsub hat ⊢
    simp only
    cases h1 : ((c.toNat : Int) == 32)
    · simp only [Bool.false_eq_true, if_false]
      rw [p1, p2, p3]
      cases h2 : (two l[i] j == [40, 42])
      · simp only [Bool.false_eq_true, if_false]
        cases h3 : (two l[i] j == [92, 42])
        · simp only [Bool.false_eq_true, if_false]
          cases h4 : (two l[i] j == [42, 41])
          · simp only [Bool.false_eq_true, if_false]
            rw [h4] at p3
            obtain ⟨k, len, he, hk⟩ := hat p3
            rw [atP_eq] at he
            simp only [piece, AV.agg.injEq, List.cons.injEq, AV.int.injEq, true_and, and_true] at he
            obtain ⟨e1, e2, e3⟩ := he
            rw [e3]
            cases h5 : ((pieceT c r).err != 0)
            · have h6 : (pieceT c r).err = 0 := by simpa using h5
              obtain ⟨k1, k2⟩ := hk h6
              simp only [Bool.false_eq_true, if_false]
              rw [e1, e2, k1, k2, hsub]
            · rfl
          · have h5 := hstar h4
            rw [h5]; rfl
        · simp only [if_true]
          have e1 : j + (r.length + 1) = l[i].length := by omega
          rw [e1]
      · have h3 : (two l[i] j == [92, 42]) = false := by
          have : two l[i] j = [40, 42] := by simpa using h2
          rw [this]; rfl
        rw [h3]
        simp only [if_true, Bool.false_eq_true, if_false]
        rw [hcs h2]
    · rfl
  · rw [if_neg h0, List.drop_eq_nil_of_le (by omega)]
theorem loop_same (l : List Str) (n m : Nat) : ∀ (k : Nat) (s : St), s.Ok l m → readLoop l n k s = refLoop l n k s
  | 0, s, _ => rfl
  | k + 1, s, h => by
    rw [readLoop, refLoop]
    by_cases hi : s.i < l.length
    · rw [if_pos hi, if_pos hi, ← step_same l n s hi (h.j hi)]
      split
      · rfl
      · exact loop_same l n m k _ (nextGo_ok l m n s hi h).1
    · rw [if_neg hi, if_neg hi]
theorem all_same (l : List Str) : readAll l = refAll l := loop_same l _ _ _ _ (st0_ok l)
theorem read_same (l : List Str) : readP l = refReadP l := by
  unfold readP refReadP
  rw [checkLines_ref, all_same]
end Go.Proofs.YtlmmgblghgmgeaaGreatDoor

/- A text that is just one token. -/
namespace Go.Proofs.YtlmmgblghgmgeaaGreatDoor
open Go Ev
set_option linter.unusedSimpArgs false

/-- Tokens that are read from a state on. -/
theorem step_tokens (l : List Str) (n : Nat) (s : St) (hi : s.i < l.length) (hj : s.j ≤ lineLen l s.i) :
    (nextGo l n s).2.ts = s.ts ∨ ∃ t, (nextGo l n s).2.ts = s.ts ++ [t] ∧ t.text.length + s.j ≤ lineLen l s.i ∧ (nextGo l n s).2.i = s.i ∧ (nextGo l n s).2.j = s.j + t.text.length ∧ (nextGo l n s).2.cs = s.cs ∧ (nextGo l n s).1 = 0 := by
  obtain ⟨i, j, ts, cs⟩ := s
  simp only at hi hj ⊢
  have hg : l.getD i [] = l[i] := by simp [List.getD_eq_getElem?_getD, hi]
  have hle := lineLen_eq l i hi
  have hdl : (l[i].drop j).length = l[i].length - j := List.length_drop
  unfold nextGo
  simp only [hg]
  generalize l[i].drop j = t at hdl
  cases t with
  | nil => exact .inl rfl
  | cons c r =>
    simp only [List.length_cons] at hdl
    simp only
    split
    · exact .inl rfl
    split
    · split <;> exact .inl rfl
    split
    · exact .inl rfl
    split
    · exact .inl rfl
    split
    · exact .inl rfl
    · rename_i h5
      have h6 : (pieceT c r).err = 0 := by simpa using h5
      obtain ⟨h7, h8⟩ := pieceT_len c r h6
      have hl : ((c :: r).take (pieceT c r).len.toNat).length = (pieceT c r).len.toNat := by
        rw [List.length_take, List.length_cons]; omega
      exact .inr ⟨_, rfl, by simp only [hl]; omega, rfl, by simp only [hl], rfl, rfl⟩
/-- In a text of one line, tokens read on from a place fit behind it. -/
theorem loop_tokens (x : Str) (n m : Nat) : ∀ (k : Nat) (s : St), s.Ok [x] m → ∃ l, (readLoop [x] n k s).2.ts = s.ts ++ l ∧ ∀ t ∈ l, s.i = 0 ∧ t.text.length + s.j ≤ x.length
  | 0, s, _ => ⟨[], by simp [readLoop], by simp⟩
  | k + 1, s, h => by
    rw [readLoop]
    by_cases hi : s.i < [x].length
    · have hi0 : s.i = 0 := by simpa using hi
      have hll : lineLen [x] s.i = x.length := by rw [hi0]; rfl
      have hst := step_tokens [x] n s hi (h.j hi)
      rw [hll] at hst
      have hok := nextGo_ok [x] m n s hi h
      have hmono : (nextGo [x] n s).1 = 0 → (nextGo [x] n s).2.i = 0 → s.j ≤ (nextGo [x] n s).2.j := fun h0 hi2 => by
        have h1 := hok.2 h0
        rcases Nat.lt_or_ge (nextGo [x] n s).2.j s.j with h2 | h2
        · exfalso
          rw [hi2, hi0] at h1
          have : ∀ j, left [x] 0 j = x.length + 1 - j := fun j => by simp [left]
          rw [this, this] at h1
          have := h.j hi
          rw [hll] at this
          omega
        · exact h2
      rw [if_pos hi]
      split
      · rcases hst with h1 | ⟨t, h1, h2, _, _, _, h6⟩
        · exact ⟨[], by rw [h1]; simp, by simp⟩
        · exact ⟨[t], h1, fun u hu => by simp at hu; subst hu; exact ⟨hi0, h2⟩⟩
      · rename_i hz
        have hz0 : (nextGo [x] n s).1 = 0 := by simpa using hz
        obtain ⟨l, hl, hlt⟩ := loop_tokens x n m k (nextGo [x] n s).2 hok.1
        have hl2 : ∀ u ∈ l, s.i = 0 ∧ u.text.length + s.j ≤ x.length := fun u hu => by
          obtain ⟨q1, q2⟩ := hlt u hu
          have := hmono hz0 q1
          exact ⟨hi0, by omega⟩
        rcases hst with h1 | ⟨t, h1, h2, _, _, _, _⟩
        · exact ⟨l, by rw [hl, h1], hl2⟩
        · refine ⟨t :: l, by rw [hl, h1]; simp, fun u hu => ?_⟩
          rcases List.mem_cons.1 hu with rfl | hu
          · exact ⟨hi0, h2⟩
          · exact hl2 u hu
    · rw [if_neg hi]
      exact ⟨[], by simp, by simp⟩
/-- The kind of a text that is just one piece. -/
def oneTok (x : Str) : Option Int :=
  match x with
  | [] => none
  | c :: r =>
    if ((c.toNat : Int) == 32) || hasPre (c :: r) [40, 42] || hasPre (c :: r) [92, 42] || hasPre (c :: r) [42, 41] then none
    else if (pieceT c r).err = 0 ∧ (pieceT c r).len = ((r.length + 1 : Nat) : Int) then some (pieceT c r).kind else none
theorem oneTok_read (x : Str) (k : Int) (h : oneTok x = some k) : readAll [x] = (0, ⟨1, 0, [⟨k, x, 0, 0⟩], []⟩) := by
  cases x with
  | nil => simp [oneTok] at h
  | cons c r =>
    unfold oneTok at h
    simp only at h
    split at h
    · simp at h
    · rename_i h1
      simp only [Bool.or_eq_true, not_or, Bool.not_eq_true] at h1
      obtain ⟨⟨⟨h1, h2⟩, h3⟩, h4⟩ := h1
      split at h
      · rename_i h5
        simp only [Option.some.injEq] at h
        obtain ⟨h5, h6⟩ := h5
        have hT : total [c :: r] = r.length + 2 := by simp [total, left]
        have s1 : nextGo [c :: r] (total [c :: r] + 1) st0 = (0, ⟨0, r.length + 1, [⟨k, c :: r, 0, 0⟩], []⟩) := by
          unfold nextGo st0
          have hg : ([c :: r] : List Str).getD 0 [] = c :: r := rfl
          simp only [hg, List.drop_zero, h1, h2, h3, h4, Bool.false_eq_true, if_false]
          have h7 : ((pieceT c r).err != 0) = false := by simp [h5]
          rw [h7, h6, h]
          simp only [Bool.false_eq_true, if_false, Int.toNat_natCast, Nat.zero_add, List.nil_append]
          rw [List.take_of_length_le (by simp)]
          rfl
        have s2 : nextGo [c :: r] (total [c :: r] + 1) ⟨0, r.length + 1, [⟨k, c :: r, 0, 0⟩], []⟩ = (0, ⟨1, 0, [⟨k, c :: r, 0, 0⟩], []⟩) := by
          unfold nextGo
          have hg : ([c :: r] : List Str).getD 0 [] = c :: r := rfl
          simp only [hg]
          rw [List.drop_eq_nil_of_le (by simp)]
        unfold readAll
        generalize hN : total [c :: r] + 1 = N at s1 s2
        obtain ⟨M, rfl⟩ : ∃ M, N = M + 3 := ⟨N - 3, by omega⟩
        rw [readLoop, if_pos (by simp [st0]), s1]
        simp only [bne_self_eq_false, Bool.false_eq_true, if_false]
        rw [readLoop, if_pos (by simp), s2]
        simp only [bne_self_eq_false, Bool.false_eq_true, if_false]
        rw [readLoop, if_neg (by simp)]
      · simp at h
end Go.Proofs.YtlmmgblghgmgeaaGreatDoor

/- One token alone, both ways. -/
namespace Go.Proofs.YtlmmgblghgmgeaaGreatDoor
open Go Ev
set_option linter.unusedSimpArgs false

theorem read_one (x : Str) (u : Tk) (h0 : (readAll [x]).1 = 0) (h : (readAll [x]).2.ts = [u]) (hu : u.text = x) : oneTok x = some u.kind := by
  have hT : total [x] = x.length + 1 := total_one x
  have hok := st0_ok [x]
  have hi : st0.i < [x].length := by simp [st0]
  have hstep := nextGo_ok [x] (total [x]) (total [x] + 1) st0 hi hok
  have hloop := loop_tokens x (total [x] + 1) (total [x]) (total [x]) (nextGo [x] (total [x] + 1) st0).2 hstep.1
  have hall : readAll [x] = if (nextGo [x] (total [x] + 1) st0).1 != 0 then nextGo [x] (total [x] + 1) st0 else readLoop [x] (total [x] + 1) (total [x]) (nextGo [x] (total [x] + 1) st0).2 := by
    show readLoop [x] (total [x] + 1) (total [x] + 1) st0 = _
    rw [readLoop, if_pos hi]
  have hz : (nextGo [x] (total [x] + 1) st0).1 = 0 := by
    cases hc : ((nextGo [x] (total [x] + 1) st0).1 != 0)
    · simpa using hc
    · rw [hall, hc] at h0
      simpa using h0
  rw [hall, hz] at h
  simp only [bne_self_eq_false, Bool.false_eq_true, if_false] at h
  have hleft := hstep.2 hz
  obtain ⟨l, hl, hlt⟩ := hloop
  rw [hl] at h
  have hpos : (nextGo [x] (total [x] + 1) st0).2.i = 0 → 0 < (nextGo [x] (total [x] + 1) st0).2.j := fun hi0 => by
    rcases Nat.lt_or_ge 0 (nextGo [x] (total [x] + 1) st0).2.j with h1 | h1
    · exact h1
    · exfalso
      have : (nextGo [x] (total [x] + 1) st0).2.j = 0 := by omega
      rw [hi0, this] at hleft
      exact Nat.lt_irrefl _ hleft
  have hnot : (nextGo [x] (total [x] + 1) st0).2.ts = [] → False := fun hts => by
    rw [hts, List.nil_append] at h
    obtain ⟨q1, q2⟩ := hlt u (by rw [h]; simp)
    rw [hu] at q2
    have := hpos q1
    omega
  cases x with
  | nil => exact (hnot rfl).elim
  | cons c r =>
    unfold oneTok
    simp only
    have hg : ([c :: r] : List Str).getD 0 [] = c :: r := rfl
    have hn := hnot
    have hzz := hz
    unfold nextGo st0 at hn hzz h
    simp only [hg, List.drop_zero] at hn hzz h
    cases h1 : ((c.toNat : Int) == 32)
    · rw [h1] at hn hzz h
      simp only [Bool.false_eq_true, if_false] at hn hzz h
      cases h2 : hasPre (c :: r) [40, 42]
      · rw [h2] at hn hzz h
        simp only [Bool.false_eq_true, if_false] at hn hzz h
        cases h3 : hasPre (c :: r) [92, 42]
        · rw [h3] at hn hzz h
          simp only [Bool.false_eq_true, if_false] at hn hzz h
          cases h4 : hasPre (c :: r) [42, 41]
          · rw [h4] at hn hzz h
            simp only [Bool.false_eq_true, if_false] at hn hzz h
            cases h5 : ((pieceT c r).err != 0)
            · rw [h5] at h
              simp only [Bool.false_eq_true, if_false, List.nil_append, List.cons_append] at h
              have h6 : (pieceT c r).err = 0 := by simpa using h5
              obtain ⟨h7, h8⟩ := pieceT_len c r h6
              obtain ⟨e1, _⟩ := List.cons.inj h
              have e2 : ((c :: r).take (pieceT c r).len.toNat) = c :: r := by
                have := congrArg Tk.text e1
                simp only at this
                rw [this, hu]
              have e3 := congrArg List.length e2
              rw [List.length_take, List.length_cons] at e3
              have e4 : (pieceT c r).len = ((r.length + 1 : Nat) : Int) := by omega
              simp only [Bool.or_false, Bool.false_eq_true, if_false]
              rw [if_pos ⟨h6, e4⟩]
              rw [← e1]
            · rw [h5] at hn
              simp only [if_true] at hn
              exact absurd hn (by simp)
          · rw [h4] at hn
            simp only [if_true] at hn
            exact absurd hn (by simp)
        · rw [h3] at hn
          simp only [if_true] at hn
          exact absurd hn (by simp)
      · rw [h2] at hn
        simp only [if_true] at hn
        exfalso
        split at hn
        · exact hn rfl
        · exact hn rfl
    · rw [h1] at hn
      simp only [if_true] at hn
      exact absurd hn (by simp)
theorem isRead_one (t : Tk) : isReadP t.text [t] = (!oddS t.text && oneTok t.text == some t.kind) := by
  unfold isReadP
  congr 1
  cases h1 : ((readAll [t.text]).1 == 0 && eqKT (readAll [t.text]).2.ts [t])
  · cases h2 : (oneTok t.text == some t.kind)
    · rfl
    · exfalso
      have h2 : oneTok t.text = some t.kind := by simpa using h2
      have := oneTok_read t.text t.kind h2
      rw [this] at h1
      simp [eqKT] at h1
  · simp only [Bool.and_eq_true, beq_iff_eq] at h1
    obtain ⟨e1, e2⟩ := h1
    match hts : (readAll [t.text]).2.ts, e2 with
    | [], e2 => simp [eqKT] at e2
    | [u], e2 =>
      simp [eqKT] at e2
      have := read_one t.text u e1 hts e2.2
      rw [this, e2.1]; simp
    | u :: v :: w, e2 => simp [eqKT] at e2
/-- The reference's one token alone. -/
theorem oneRead_eq (x : Str) (k : Int) : oneRead (refReadP [x]) k x = (lineErr x == 0 && oneTok x == some k) := by
  rw [← read_same]
  unfold readP
  have hck : (checkLinesP [x]).2 = lineErr x := by
    unfold checkLinesP linesGo linesGo
    simp only [List.length_cons, List.length_nil]
    cases h : lineErr x != 0
    · have : lineErr x = 0 := by simpa using h
      simp [this]
    · simp
  rw [hck]
  cases h0 : lineErr x != 0
  · have e0 : lineErr x = 0 := by simpa using h0
    rw [e0]
    simp only [Bool.false_eq_true, if_false, beq_self_eq_true, Bool.true_and]
    cases h1 : oneTok x == some k
    · cases h2 : (readAll [x]).1 != 0
      · have e1 : (readAll [x]).1 = 0 := by simpa using h2
        simp only [Bool.false_eq_true, if_false]
        cases h3 : decide (((readAll [x]).2.ts.length : Int) > 1200)
        · simp only [Bool.false_eq_true, if_false]
          unfold oneRead
          simp only [bne_self_eq_false, Bool.not_false, Bool.true_and]
          match hcs : (readAll [x]).2.cs, hts : (readAll [x]).2.ts with
          | [], [u] =>
            simp only
            cases h4 : (u.text == x && u.kind == k)
            · rfl
            · exfalso
              simp only [Bool.and_eq_true, beq_iff_eq] at h4
              have := read_one x u e1 hts h4.1
              rw [this, h4.2] at h1
              simp at h1
          | [], [] => rfl
          | [], _ :: _ :: _ => rfl
          | _ :: _, _ => rfl
        · simp [oneRead]
      · have : (readAll [x]).1 ≠ 0 := by simpa using h2
        simp [oneRead, this]
    · have h1 : oneTok x = some k := by simpa using h1
      have := oneTok_read x k h1
      rw [this]
      simp [oneRead]
  · have : lineErr x ≠ 0 := by simpa using h0
    simp [oneRead, this]
end Go.Proofs.YtlmmgblghgmgeaaGreatDoor

/- The errors of a token are the reference's. -/
namespace Go.Proofs.YtlmmgblghgmgeaaGreatDoor
open Go Ev
set_option linter.unusedSimpArgs false

theorem syms_small : ∀ x ∈ allSyms, x.length ≤ 20 := by
  have : allSyms.all (fun x => decide (x.length ≤ 20)) = true := by decide +kernel
  intro x hx
  simpa using List.all_eq_true.1 this x hx
theorem longSym_small (t : Str) : longSym t ≤ 20 := by
  rcases (longSym_spec t).2.1 with h | ⟨x, hx, _, hl⟩
  · omega
  · have := syms_small x hx; omega
theorem numErr_small (g : Str) (hd : ∀ b ∈ g, digitB b.toNat = true) (h0 : 0 < g.length) (h : numErr g = 0) : g.length ≤ 9 := by
  rcases Nat.lt_or_ge 9 g.length with h1 | h1
  · exfalso
    obtain ⟨k, l, he, hk⟩ := number_same g hd h0
    simp only [h] at he hk
    split at he
    · simp [piece] at he
    · split at he
      · simp [piece] at he
      · rename_i h2
        simp only [Bool.or_eq_true, not_or, Bool.not_eq_true'] at h2
        have hs : spansB g.length 1 9 = false := by simp [spansB]; omega
        have : (bReadP g).2 = false := by unfold bReadP; rw [hs]; rfl
        rw [this] at h2
        simp at h2
  · exact h1
/-- A piece is short, but for rules. -/
theorem pieceT_small (c : UInt8) (r : Str) (h : (pieceT c r).err = 0) : ((pieceT c r).kind ≠ 5 ∧ (pieceT c r).len ≤ 60) ∨ (pieceT c r = ⟨5, signOf c r, 0⟩ ∧ isRuleB ((c :: r).take (signOf c r)) = true) := by
  have hdd : ∀ b ∈ digitsOf (c :: r), digitB b.toNat = true := fun b hb => by
    unfold digitsOf at hb
    rw [take_run] at hb
    exact takeWhile_all _ _ b hb
  have hls := longSym_small (c :: r)
  unfold pieceT at h ⊢
  split at h
  · rename_i h1
    rw [if_pos h1]
    exact .inl ⟨by simp, by simp⟩
  · rename_i h1
    rw [if_neg h1]
    split at h
    · rename_i h2
      rw [if_pos h2]
      simp only at h ⊢
      split at h
      · simp at h
      · rename_i h3
        simp only [decide_eq_true_eq] at h3
        refine .inl ⟨?_, by omega⟩
        split <;> simp
    · rename_i h2
      rw [if_neg h2]
      split at h
      · rename_i h3
        rw [if_pos h3]
        simp only at h ⊢
        have h0 : 0 < (digitsOf (c :: r)).length := by
          unfold digitsOf; rw [take_len]; unfold run; rw [List.takeWhile_cons, if_pos h3]; simp
        have := numErr_small _ hdd h0 h
        exact .inl ⟨by simp, by omega⟩
      · rename_i h3
        rw [if_neg h3]
        split at h
        · rename_i h4
          rw [if_pos h4]
          unfold textT at h ⊢
          split at h
          · simp at h
          · rename_i h5
            rw [if_neg h5]
            simp only at h ⊢
            refine .inl ⟨by simp, ?_⟩
            rcases Int.lt_or_le 40 (Lib.indexByte r 34) with h6 | h6
            · exfalso
              have : decide ((40 : Int) < Lib.indexByte r 34) = true := by simpa using h6
              rw [this] at h
              split at h <;> simp [firstOf] at h
            · omega
        · rename_i h4
          rw [if_neg h4]
          split at h
          · rename_i h5
            rw [if_pos h5]
            exact .inr ⟨rfl, h5⟩
          · rename_i h5
            rw [if_neg h5]
            refine .inl ?_
            have e : longest (c :: r) (longest (c :: r) 0 plainL) (othersL.map (·.1)) = longSym (c :: r) := rfl
            unfold symT at h ⊢
            simp only [e] at h ⊢
            split at h
            · rename_i h6
              rw [if_pos h6]
              simp only at h ⊢
              split at h
              · simp at h
              · rename_i h7
                have : longSym (c :: r) = (run (fun b => letterB b.toNat) r : Int) + 1 := by simpa using h7
                exact ⟨by simp, by omega⟩
            · rename_i h6
              rw [if_neg h6]
              exact ⟨by simp, by simp only; omega⟩
theorem pieceT_nw (c : UInt8) (r : Str) (hw : wordB c.toNat = false) : pieceT c r = if ((c.toNat : Int) == 34) then textT r else if (decide (4 ≤ signOf c r) && (((c.toNat : Int) == 45) || ((c.toNat : Int) == 61))) then ⟨5, signOf c r, 0⟩ else symT c r := by
  have hnotw : wordOf (c :: r) = [] := by
    unfold wordOf; rw [take_run, List.takeWhile_cons, hw]; rfl
  have hnd : digitB c.toNat = false := by
    cases hd : digitB c.toNat
    · rfl
    · unfold wordB at hw; rw [hd] at hw; simp at hw
  have hL : hasLetter [] = false := by decide
  have hp1 : hasPre [] [87, 70, 95] = false := rfl
  have hp2 : hasPre [] [83, 70, 95] = false := rfl
  unfold pieceT
  rw [hnotw, hL, hp1, hp2, hnd, rule_eq c r]; rfl
theorem sign_all (n : Nat) (c : UInt8) : signOf c (List.replicate n c) = n + 1 := by
  unfold signOf run
  have h : ∀ l : Str, (∀ b ∈ l, b = c) → l.takeWhile (fun b => (b.toNat : Int) == c.toNat) = l := fun l => by
    induction l with
    | nil => intro _; rfl
    | cons a l ih =>
      intro hl
      have : a = c := hl a (by simp)
      rw [List.takeWhile_cons, if_pos (by simp [this]), ih fun b hb => hl b (by simp [hb])]
  rw [h _ fun b hb => by rcases List.mem_cons.1 hb with rfl | hb; rfl; exact (List.mem_replicate.1 hb).2]
  simp
theorem oneTok_rule (n : Nat) (c : UInt8) (hn : 4 ≤ n) : oneTok (List.replicate n c) = some 5 ↔ (c = 45 ∨ c = 61) := by
  obtain ⟨m, rfl⟩ : ∃ m, n = m + 2 := ⟨n - 2, by omega⟩
  have hrep : List.replicate (m + 2) c = c :: c :: List.replicate m c := rfl
  have hrep1 : c :: List.replicate m c = List.replicate (m + 1) c := rfl
  have hs := sign_all (m + 1) c
  rw [← hrep1] at hs
  rw [hrep]
  unfold oneTok
  simp only
  have hp : ∀ a b : UInt8, hasPre (c :: c :: List.replicate m c) [a, b] = (a == c && b == c) := fun a b => by
    unfold hasPre
    simp only [List.length_cons, List.length_nil, List.take_succ_cons, List.take_zero]
    have h1 : decide (0 + 1 + 1 ≤ (List.replicate m c).length + 1 + 1) = true := by simp
    rw [h1, Bool.true_and]
    show (c == a && (c == b && true)) = _
    rw [Bool.and_true, BEq.comm (a := c) (b := a), BEq.comm (a := c) (b := b)]
  constructor
  · intro h
    split at h
    · simp at h
    · split at h
      · rename_i h5
        simp only [Option.some.injEq] at h
        rcases pieceT_small c (c :: List.replicate m c) h5.1 with h6 | ⟨_, h7⟩
        · exact absurd h h6.1
        · rw [rule_eq] at h7
          simp only [Bool.and_eq_true, Bool.or_eq_true] at h7
          rcases h7.2 with h8 | h8
          · exact .inl (byte_of c 45 (by decide) (by simp at h8; omega))
          · exact .inr (byte_of c 61 (by decide) (by simp at h8; omega))
      · simp at h
  · intro h
    have hl : (c :: List.replicate m c).length = m + 1 := by simp
    rcases h with rfl | rfl
    · rw [hp, hp, hp, pieceT_nw _ _ (by decide), hs]
      have h4 : decide (4 ≤ m + 1 + 1) = true := by simp; omega
      simp only [h4]
      simp
    · rw [hp, hp, hp, pieceT_nw _ _ (by decide), hs]
      have h4 : decide (4 ≤ m + 1 + 1) = true := by simp; omega
      simp only [h4]
      simp
theorem rep_of_same (s : Str) (h : sameP s 0 = s.length) : s = List.replicate s.length (s.getD 0 0) := by
  refine List.eq_replicate_iff.2 ⟨rfl, fun b hb => ?_⟩
  have h1 : s.take (run (fun b => (b.toNat : Int) == (s.getD 0 0).toNat) s) = s.takeWhile (fun b => (b.toNat : Int) == (s.getD 0 0).toNat) := take_run _ _
  unfold sameP at h
  rw [List.drop_zero] at h
  rw [h, List.take_length] at h1
  rw [h1] at hb
  have := takeWhile_all _ _ b hb
  have h9 : (b.toNat : Int) = ((s.getD 0 0).toNat : Int) := beq_iff_eq.1 this
  exact UInt8.toNat_inj.1 (by omega)
theorem same_of_rep (n : Nat) (c : UInt8) (h : 0 < n) : sameP (List.replicate n c) 0 = n := by
  obtain ⟨m, rfl⟩ : ∃ m, n = m + 1 := ⟨n - 1, by omega⟩
  have := sign_all m c
  unfold signOf at this
  unfold sameP
  exact this
theorem lineErr_zero (s : Str) : (lineErr s == 0) = (decide (s.length ≤ 120) && !oddS s) := by
  unfold lineErr
  by_cases h : s.length ≤ 120
  · have h1 : ¬ (s.length : Int) > 120 := by omega
    cases oddS s <;> simp [h, h1, firstOf]
  · have h1 : (s.length : Int) > 120 := by omega
    simp [h, h1, firstOf]
theorem oneTok_small (s : Str) (k : Int) (h : oneTok s = some k) : (k ≠ 5 ∧ s.length ≤ 60) ∨ (k = 5 ∧ 4 ≤ s.length ∧ ∃ c, s = List.replicate s.length c) := by
  cases s with
  | nil => simp [oneTok] at h
  | cons c r =>
    unfold oneTok at h
    simp only at h
    split at h
    · simp at h
    · split at h
      · rename_i h5
        simp only [Option.some.injEq] at h
        rcases pieceT_small c r h5.1 with h6 | ⟨h6, h7⟩
        · left
          refine ⟨h ▸ h6.1, ?_⟩
          simp only [List.length_cons]; omega
        · right
          rw [h6] at h h5
          simp only at h h5
          have hs : signOf c r = r.length + 1 := by omega
          rw [rule_eq] at h7
          simp only [Bool.and_eq_true, decide_eq_true_eq] at h7
          refine ⟨h.symm, by simp only [List.length_cons]; omega, c, ?_⟩
          have := sign_rep c r
          rw [hs, List.take_of_length_le (by simp)] at this
          exact this
      · simp at h
theorem odd_rule (n : Nat) (c : UInt8) (h : c = 45 ∨ c = 61) : oddS (List.replicate n c) = false := by
  rw [oddS_any, List.any_eq_false]
  intro b hb
  have := (List.mem_replicate.1 hb).2
  subst this
  rcases h with rfl | rfl <;> decide
theorem bare_same (t : Tk) : bareP t = textErrP t := by
  unfold bareP textErrP
  rw [isRead_one, oneRead_eq, lineErr_zero]
  cases spansB t.kind 0 5
  · rfl
  · simp only [Bool.not_true, Bool.false_eq_true, if_false, if_true]
    congr 1
    unfold ruleText
    cases hc : (t.kind == 5 && decide ((t.text.length : Int) > 4) && ((sameP t.text 0 : Int) == t.text.length))
    · simp only [Bool.false_eq_true, if_false]
      cases h1 : (oneTok t.text == some t.kind)
      · simp
      · have h1' : oneTok t.text = some t.kind := by simpa using h1
        have hlen : t.text.length ≤ 120 := by
          rcases oneTok_small _ _ h1' with h2 | ⟨h2, h3, c, h4⟩
          · omega
          · rcases Nat.lt_or_ge 4 t.text.length with h5 | h5
            · exfalso
              have h6 : sameP t.text 0 = t.text.length := by
                have := same_of_rep t.text.length c (by omega)
                rw [← h4] at this; exact this
              have h7 : (t.text.length : Int) > 4 := by omega
              rw [h6] at hc
              simp [h2, h7] at hc
            · omega
        simp [hlen]
    · simp only [if_true]
      simp only [Bool.and_eq_true, beq_iff_eq, decide_eq_true_eq] at hc
      obtain ⟨⟨hk, hl⟩, hsame⟩ := hc
      have hrep := rep_of_same t.text (by omega)
      generalize t.text.getD 0 0 = c at hrep
      have hl4 : 4 < t.text.length := by omega
      generalize t.text.length = n at hrep hl4
      rw [hrep, hk]
      have ht : (List.replicate n c).take 4 = List.replicate 4 c := by rw [List.take_replicate]; congr 1; omega
      rw [ht]
      have e1 := oneTok_rule n c (by omega)
      have e2 := oneTok_rule 4 c (by omega)
      by_cases hcc : c = 45 ∨ c = 61
      · rw [e1.2 hcc, e2.2 hcc, odd_rule n c hcc, odd_rule 4 c hcc]; rfl
      · have n1 : ¬ oneTok (List.replicate n c) = some 5 := fun h => hcc (e1.1 h)
        have n2 : ¬ oneTok (List.replicate 4 c) = some 5 := fun h => hcc (e2.1 h)
        rw [show (oneTok (List.replicate n c) == some 5) = false from beq_eq_false_iff_ne.2 n1, show (oneTok (List.replicate 4 c) == some 5) = false from beq_eq_false_iff_ne.2 n2, Bool.and_false, Bool.and_false]
end Go.Proofs.YtlmmgblghgmgeaaGreatDoor

/- Two tokens in one text: what is read, by the first of them. -/
namespace Go.Proofs.YtlmmgblghgmgeaaGreatDoor
open Go Ev
set_option linter.unusedSimpArgs false

/-- The kind and the length of the token with which a text begins. -/
def firstTok (x : Str) : Option (Int × Int) :=
  match x with
  | [] => none
  | c :: r =>
    if ((c.toNat : Int) == 32) || hasPre (c :: r) [40, 42] || hasPre (c :: r) [92, 42] || hasPre (c :: r) [42, 41] then none
    else if (pieceT c r).err = 0 then some ((pieceT c r).kind, (pieceT c r).len) else none
theorem oneTok_first (x : Str) (k : Int) : oneTok x = some k ↔ firstTok x = some (k, (x.length : Int)) := by
  cases x with
  | nil => simp [oneTok, firstTok]
  | cons c r =>
    unfold oneTok firstTok
    simp only
    split
    · simp
    · by_cases h1 : (pieceT c r).err = 0
      · rw [if_pos h1]
        by_cases h2 : (pieceT c r).len = ((r.length + 1 : Nat) : Int)
        · rw [if_pos ⟨h1, h2⟩]
          simp only [Option.some.injEq, Prod.mk.injEq, List.length_cons, h2, and_true]
        · rw [if_neg fun h => h2 h.2]
          simp only [Option.some.injEq, Prod.mk.injEq, List.length_cons, reduceCtorEq, false_iff]
          exact fun h => h2 h.2
      · rw [if_neg h1, if_neg fun h => h1 h.1]
        simp
/-- A step from a place where a token stands. -/
theorem step_first (z : Str) (n j : Nat) (ts : List Tk) (cs : List Sp) (k len : Int) (h : firstTok (z.drop j) = some (k, len)) :
    nextGo [z] n ⟨0, j, ts, cs⟩ = (0, ⟨0, j + len.toNat, ts ++ [⟨k, (z.drop j).take len.toNat, 0, j⟩], cs⟩) := by
  have hg : ([z] : List Str).getD 0 [] = z := rfl
  unfold nextGo
  simp only [hg]
  generalize z.drop j = t at h
  cases t with
  | nil => simp [firstTok] at h
  | cons c r =>
    unfold firstTok at h
    simp only at h
    split at h
    · simp at h
    · rename_i h1
      simp only [Bool.or_eq_true, not_or, Bool.not_eq_true] at h1
      obtain ⟨⟨⟨h1, h2⟩, h3⟩, h4⟩ := h1
      split at h
      · rename_i h5
        simp only [Option.some.injEq, Prod.mk.injEq] at h
        obtain ⟨rfl, rfl⟩ := h
        have h7 : ((pieceT c r).err != 0) = false := by simp [h5]
        simp only [h1, h2, h3, h4, h7, Bool.false_eq_true, if_false]
        rfl
      · simp at h
theorem first_pos (x : Str) (k len : Int) (h : firstTok x = some (k, len)) : 0 < len ∧ len ≤ x.length := by
  cases x with
  | nil => simp [firstTok] at h
  | cons c r =>
    unfold firstTok at h
    simp only at h
    split at h
    · simp at h
    · split at h
      · rename_i h5
        simp only [Option.some.injEq, Prod.mk.injEq] at h
        obtain ⟨rfl, rfl⟩ := h
        have := pieceT_len c r h5
        simp only [List.length_cons]; omega
      · simp at h
/-- Two tokens, one behind the other. -/
theorem two_read (x y : Str) (ka kb : Int) (h : firstTok (x ++ y) = some (ka, (x.length : Int))) (hb : oneTok y = some kb) :
    readAll [x ++ y] = (0, ⟨1, 0, [⟨ka, x, 0, 0⟩, ⟨kb, y, 0, x.length⟩], []⟩) := by
  have hb' := (oneTok_first y kb).1 hb
  have py := first_pos _ _ _ hb'
  have px := first_pos _ _ _ h
  generalize hz : x ++ y = z at h px
  have hzl : z.length = x.length + y.length := by rw [← hz]; simp
  have hd : z.drop x.length = y := by rw [← hz]; simp
  have ht : z.take x.length = x := by rw [← hz]; simp
  have hT : total [z] = z.length + 1 := total_one z
  have s1 : ∀ n, nextGo [z] n st0 = (0, ⟨0, x.length, [⟨ka, x, 0, 0⟩], []⟩) := fun n => by
    have := step_first z n 0 [] [] ka x.length (by rw [List.drop_zero]; exact h)
    rw [List.drop_zero] at this
    simp only [Int.toNat_natCast, Nat.zero_add, List.nil_append, ht] at this
    exact this
  have s2 : ∀ n, nextGo [z] n ⟨0, x.length, [⟨ka, x, 0, 0⟩], []⟩ = (0, ⟨0, z.length, [⟨ka, x, 0, 0⟩, ⟨kb, y, 0, x.length⟩], []⟩) := fun n => by
    have := step_first z n x.length [⟨ka, x, 0, 0⟩] [] kb y.length (by rw [hd]; exact hb')
    rw [hd] at this
    simp only [Int.toNat_natCast, List.take_length, List.cons_append, List.nil_append] at this
    rw [← hzl] at this
    exact this
  have s3 : ∀ n ts, nextGo [z] n ⟨0, z.length, ts, []⟩ = (0, ⟨1, 0, ts, []⟩) := fun n ts => by
    unfold nextGo
    have hg : ([z] : List Str).getD 0 [] = z := rfl
    simp only [hg]
    rw [List.drop_eq_nil_of_le (Nat.le_refl _)]
  unfold readAll
  generalize hN : total [z] + 1 = N
  have hN2 : 4 ≤ N := by omega
  obtain ⟨M, rfl⟩ : ∃ M, N = M + 4 := ⟨N - 4, by omega⟩
  rw [readLoop, if_pos (by simp [st0]), s1]
  simp only [bne_self_eq_false, Bool.false_eq_true, if_false]
  rw [readLoop, if_pos (by simp), s2]
  simp only [bne_self_eq_false, Bool.false_eq_true, if_false]
  rw [readLoop, if_pos (by simp), s3]
  simp only [bne_self_eq_false, Bool.false_eq_true, if_false]
  rw [readLoop, if_neg (by simp)]
/-- How much of a text tokens have, and is left. -/
def weight (z : Str) (s : St) : Nat := (s.ts.map fun t => t.text.length).sum + (if s.i = 0 then z.length - s.j else 0)
/-- A step: it is over, or a token, or something is lost. -/
theorem step_weight (z : Str) (n : Nat) (s : St) (hi : s.i = 0) (hj : s.j ≤ z.length) :
    ((∃ l, (nextGo [z] n s).2.ts = s.ts ++ l) ∧ ∃ m, (nextGo [z] n s).2.cs = s.cs ++ m) ∧
    weight z (nextGo [z] n s).2 ≤ weight z s ∧
    ((nextGo [z] n s).1 = 0 → s.j < z.length → weight z (nextGo [z] n s).2 = weight z s → ∃ k len, firstTok (z.drop s.j) = some (k, len)) ∧
    ((nextGo [z] n s).1 = 0 → s.j < z.length → (∃ k len, firstTok (z.drop s.j) = some (k, len)) ∨ (nextGo [z] n s).2.cs ≠ s.cs ∨ z.getD s.j 0 = 32) := by
  obtain ⟨i, j, ts, cs⟩ := s
  simp only at hi hj
  subst hi
  have hg : ([z] : List Str).getD 0 [] = z := rfl
  have hdl : (z.drop j).length = z.length - j := List.length_drop
  have hcom := fun q hq => comGo_range [z] n 0 j 0 q hq (fun _ => by simpa [lineLen] using hj) (by simp)
  have hget : ∀ c r, z.drop j = c :: r → z.getD j 0 = c := fun c r h => by
    have : z[j]? = some c := by
      have := congrArg (fun l => l[0]?) h
      simpa using this
    rw [List.getD_eq_getElem?_getD, this]; rfl
  have left1 : ∀ j, left [z] 0 j = z.length + 1 - j := fun j => by simp [left]
  unfold nextGo
  simp only [hg]
  generalize z.drop j = t at hdl hget
  cases t with
  | nil =>
    simp only [List.length_nil] at hdl
    refine ⟨⟨⟨[], by simp⟩, [], by simp⟩, ?_, fun _ h => by omega, fun _ h => by omega⟩
    simp only [weight]; simp
  | cons c r =>
    simp only [List.length_cons] at hdl
    have hgc := hget c r rfl
    simp only
    split
    · rename_i h1
      refine ⟨⟨⟨[], by simp⟩, [], by simp⟩, ?_, ?_, fun _ _ => .inr (.inr ?_)⟩
      · simp only [weight, if_true]; omega
      · simp only [weight, if_true]; intro _ _ _; omega
      · rw [hgc]
        have : c.toNat = 32 := by simp at h1; omega
        exact byte_of c 32 (by decide) this
    · rename_i h1
      split
      · rename_i h2
        split
        · rename_i h3
          have hq := (hcom _ rfl).2.2 h3
          have hq0 : (comGo [z] n 0 j 0).2.1 = 0 := by have := hq.1; simp only [List.length_cons, List.length_nil] at this; omega
          have hq1 := hq.2
          rw [hq0, left1, left1] at hq1
          refine ⟨⟨⟨[], by simp⟩, _, rfl⟩, ?_, ?_, fun _ _ => .inr (.inl (by simp))⟩
          · simp only [weight, hq0, if_true]; omega
          · simp only [weight, hq0, if_true]; intro _ _ _; omega
        · refine ⟨⟨⟨[], by simp⟩, [], by simp⟩, Nat.le_refl _, fun h => by simp at h, fun h => by simp at h⟩
      · rename_i h2
        split
        · rename_i h3
          refine ⟨⟨⟨[], by simp⟩, _, rfl⟩, ?_, ?_, fun _ _ => .inr (.inl (by simp))⟩
          · simp only [weight, if_true]; omega
          · simp only [weight, if_true]; intro _ _ _; omega
        · rename_i h3
          split
          · refine ⟨⟨⟨[], by simp⟩, [], by simp⟩, Nat.le_refl _, fun h => by simp at h, fun h => by simp at h⟩
          · rename_i h4
            split
            · rename_i h5
              refine ⟨⟨⟨[], by simp⟩, [], by simp⟩, Nat.le_refl _, fun h => ?_, fun h => ?_⟩
              · simp only at h; rw [h] at h5; simp at h5
              · simp only at h; rw [h] at h5; simp at h5
            · rename_i h5
              have h6 : (pieceT c r).err = 0 := by simpa using h5
              obtain ⟨h7, h8⟩ := pieceT_len c r h6
              have hl : ((c :: r).take (pieceT c r).len.toNat).length = (pieceT c r).len.toNat := by
                rw [List.length_take, List.length_cons]; omega
              have hf : firstTok (c :: r) = some ((pieceT c r).kind, (pieceT c r).len) := by
                unfold firstTok
                simp only
                rw [if_neg (by simp only [Bool.or_eq_true, not_or]; exact ⟨⟨⟨h1, h2⟩, h3⟩, h4⟩), if_pos h6]
              refine ⟨⟨⟨_, rfl⟩, [], by simp⟩, ?_, fun _ _ _ => ⟨_, _, hf⟩, fun _ _ => .inl ⟨_, _, hf⟩⟩
              simp only [weight, if_true, List.map_append, List.sum_append, List.map_cons, List.map_nil, List.sum_cons, List.sum_nil, hl]
              omega
/-- Reading on, tokens and comments stay, and no weight is won. -/
theorem loop_weight (z : Str) (n m : Nat) : ∀ (k : Nat) (s : St), s.Ok [z] m → ((∃ l, (readLoop [z] n k s).2.ts = s.ts ++ l) ∧ ∃ m, (readLoop [z] n k s).2.cs = s.cs ++ m) ∧ weight z (readLoop [z] n k s).2 ≤ weight z s
  | 0, s, _ => ⟨⟨⟨[], by simp [readLoop]⟩, [], by simp [readLoop]⟩, Nat.le_refl _⟩
  | k + 1, s, h => by
    rw [readLoop]
    by_cases hi : s.i < [z].length
    · have hi0 : s.i = 0 := by simpa using hi
      have hj : s.j ≤ z.length := by have := h.j hi; rw [hi0] at this; simpa [lineLen] using this
      have hst := step_weight z n s hi0 hj
      have hok := nextGo_ok [z] m n s hi h
      rw [if_pos hi]
      split
      · exact ⟨hst.1, hst.2.1⟩
      · obtain ⟨⟨⟨l1, e1⟩, l2, e2⟩, h3⟩ := loop_weight z n m k (nextGo [z] n s).2 hok.1
        obtain ⟨⟨⟨l3, e3⟩, l4, e4⟩, h4, _, _⟩ := hst
        exact ⟨⟨⟨l3 ++ l1, by rw [e1, e3, List.append_assoc]⟩, l4 ++ l2, by rw [e2, e4, List.append_assoc]⟩, by omega⟩
    · rw [if_neg hi]
      exact ⟨⟨⟨[], by simp⟩, [], by simp⟩, Nat.le_refl _⟩
/-- The first step of a reading, and the rest. -/
theorem read_first (z : Str) : readAll [z] = if (nextGo [z] (total [z] + 1) st0).1 != 0 then nextGo [z] (total [z] + 1) st0 else readLoop [z] (total [z] + 1) (total [z]) (nextGo [z] (total [z] + 1) st0).2 := by
  show readLoop [z] (total [z] + 1) (total [z] + 1) st0 = _
  rw [readLoop, if_pos (by simp [st0])]
/-- A text whose tokens are the whole text, or that has no comments and does not begin with a blank, begins with a token, the first. -/
theorem first_of_read (z : Str) (u : Tk) (ts : List Tk) (hz : z ≠ []) (h0 : (readAll [z]).1 = 0) (hts : (readAll [z]).2.ts = u :: ts)
    (h : ((readAll [z]).2.ts.map fun t => t.text.length).sum = z.length ∨ ((readAll [z]).2.cs = [] ∧ z.getD 0 0 ≠ 32)) :
    ∃ len, firstTok z = some (u.kind, len) ∧ u.text = z.take len.toNat := by
  have hlen : 0 < z.length := List.length_pos_iff.2 hz
  have hok := st0_ok [z]
  have hi : st0.i < [z].length := by simp [st0]
  have hstep := nextGo_ok [z] (total [z]) (total [z] + 1) st0 hi hok
  have hw := step_weight z (total [z] + 1) st0 rfl (Nat.zero_le _)
  have hloop := loop_weight z (total [z] + 1) (total [z]) (total [z]) (nextGo [z] (total [z] + 1) st0).2 hstep.1
  have hall := read_first z
  have hz1 : (nextGo [z] (total [z] + 1) st0).1 = 0 := by
    cases hc : ((nextGo [z] (total [z] + 1) st0).1 != 0)
    · simpa using hc
    · rw [hall, hc] at h0
      simpa using h0
  rw [hz1] at hall
  simp only [bne_self_eq_false, Bool.false_eq_true, if_false] at hall
  rw [hall] at h hts
  have hf : ∃ k len, firstTok (z.drop 0) = some (k, len) := by
    rcases h with h | ⟨h, hc⟩
    · refine hw.2.2.1 hz1 hlen ?_
      have h1 := hw.2.1
      have h2 := hloop.2
      have h3 : weight z st0 = z.length := by simp [weight, st0]
      have h4 : z.length ≤ weight z (readLoop [z] (total [z] + 1) (total [z]) (nextGo [z] (total [z] + 1) st0).2).2 := by
        unfold weight; rw [h]; omega
      omega
    · rcases hw.2.2.2 hz1 hlen with h1 | h1 | h1
      · exact h1
      · exfalso
        obtain ⟨⟨_, l2, e2⟩, _⟩ := hloop
        obtain ⟨⟨_, l4, e4⟩, _⟩ := hw
        rw [e2, e4] at h
        simp only [st0, List.nil_append, List.append_eq_nil_iff] at h
        rw [e4, h.1] at h1
        exact h1 (by simp)
      · exact absurd h1 hc
  obtain ⟨k, len, hf⟩ := hf
  have hs := step_first z (total [z] + 1) 0 [] [] k len hf
  rw [List.drop_zero] at hf hs
  obtain ⟨⟨⟨l1, e1⟩, _⟩, _⟩ := hloop
  have e2 : nextGo [z] (total [z] + 1) st0 = _ := hs
  rw [e1, e2] at hts
  simp only [List.nil_append, List.cons_append, List.cons.injEq] at hts
  obtain ⟨e3, _⟩ := hts
  refine ⟨len, ?_, ?_⟩
  · rw [← e3]; exact hf
  · rw [← e3]
end Go.Proofs.YtlmmgblghgmgeaaGreatDoor

/- Whether a token stands at the beginning of a text does not depend on how long a rule is. -/
namespace Go.Proofs.YtlmmgblghgmgeaaGreatDoor
open Go Ev
set_option linter.unusedSimpArgs false

theorem tw_stop (p : UInt8 → Bool) (d : UInt8) (hd : p d = false) (t : Str) : ∀ x : Str, (x ++ d :: t).takeWhile p = x.takeWhile p
  | [] => by rw [List.nil_append, List.takeWhile_cons, hd]; rfl
  | a :: x => by
    rw [List.cons_append, List.takeWhile_cons, List.takeWhile_cons, tw_stop p d hd t x]
theorem run_stop (p : UInt8 → Bool) (d : UInt8) (hd : p d = false) (t x : Str) : run p (x ++ d :: t) = run p x := by
  unfold run; rw [tw_stop p d hd]
theorem run_mid (p : UInt8 → Bool) : ∀ (x t : Str), x.all p = false → run p (x ++ t) = run p x
  | [], t, h => by simp at h
  | a :: x, t, h => by
    have := run_mid p x t
    unfold run at this ⊢
    rw [List.cons_append, List.takeWhile_cons, List.takeWhile_cons]
    cases ha : p a
    · rfl
    · simp only [if_true, List.length_cons]
      rw [this (by simpa [ha] using h)]
theorem run_whole (p : UInt8 → Bool) : ∀ (x t : Str), x.all p = true → run p (x ++ t) = x.length + run p t
  | [], t, _ => by simp
  | a :: x, t, h => by
    simp only [List.all_cons, Bool.and_eq_true] at h
    have := run_whole p x t h.2
    unfold run at this ⊢
    rw [List.cons_append, List.takeWhile_cons, if_pos h.1, List.length_cons, this, List.length_cons]; omega
theorem firstTok_rule (c : UInt8) (n : Nat) (hn : 4 ≤ n) (hc : c = 45 ∨ c = 61) (y : Str) :
    firstTok (List.replicate n c ++ y) = some (5, ((n + run (fun b => (b.toNat : Int) == c.toNat) y : Nat) : Int)) := by
  obtain ⟨m, rfl⟩ : ∃ m, n = m + 2 := ⟨n - 2, by omega⟩
  have hrep : List.replicate (m + 2) c ++ y = c :: (c :: List.replicate m c ++ y) := rfl
  have hs : signOf c (c :: List.replicate m c ++ y) = m + 2 + run (fun b => (b.toNat : Int) == c.toNat) y := by
    have h1 : (List.replicate (m + 2) c).all (fun b => (b.toNat : Int) == c.toNat) = true := by
      rw [List.all_eq_true]; intro b hb; rw [(List.mem_replicate.1 hb).2]; simp
    have := run_whole (fun b => (b.toNat : Int) == c.toNat) (List.replicate (m + 2) c) y h1
    rw [List.length_replicate, hrep] at this
    exact this
  have hp : ∀ a b : UInt8, hasPre (c :: (c :: List.replicate m c ++ y)) [a, b] = (a == c && b == c) := fun a b => by
    unfold hasPre
    simp only [List.length_cons, List.length_nil, List.take_succ_cons, List.take_zero, List.cons_append]
    have h1 : decide (0 + 1 + 1 ≤ (List.replicate m c ++ y).length + 1 + 1) = true := by simp
    rw [h1, Bool.true_and]
    show (c == a && (c == b && true)) = _
    rw [Bool.and_true, BEq.comm (a := c) (b := a), BEq.comm (a := c) (b := b)]
  have h4 : decide (4 ≤ m + 2 + run (fun b => (b.toNat : Int) == c.toNat) y) = true := by simp; omega
  rw [hrep]
  unfold firstTok
  simp only
  rcases hc with rfl | rfl
  · rw [hp, hp, hp, pieceT_nw _ _ (by decide), hs, h4]
    simp
  · rw [hp, hp, hp, pieceT_nw _ _ (by decide), hs, h4]
    simp
theorem hasPre_two_cons (c : UInt8) (r t : Str) (d a b : UInt8) (ht : t.head? = some d) : hasPre (c :: (r ++ t)) [a, b] = (c == a && (r.headD d == b)) := by
  cases t with
  | nil => simp at ht
  | cons e t =>
    simp only [List.head?_cons, Option.some.injEq] at ht
    subst ht
    unfold hasPre
    cases r with
    | nil =>
      simp only [List.nil_append, List.length_cons, List.length_nil, List.take_succ_cons, List.take_zero, List.headD]
      have h1 : decide (0 + 1 + 1 ≤ t.length + 1 + 1) = true := by simp
      rw [h1, Bool.true_and]
      show (c == a && (e == b && true)) = _
      rw [Bool.and_true]
    | cons f r =>
      simp only [List.cons_append, List.length_cons, List.length_nil, List.take_succ_cons, List.take_zero, List.headD]
      have h1 : decide (0 + 1 + 1 ≤ (r ++ e :: t).length + 1 + 1) = true := by simp
      rw [h1, Bool.true_and]
      show (c == a && (f == b && true)) = _
      rw [Bool.and_true]
theorem longest_congr (s t : Str) : ∀ (l : List Str) (n : Int), (∀ x ∈ l, hasPre s x = hasPre t x) → longest s n l = longest t n l
  | [], n, _ => rfl
  | x :: l, n, h => by
    show longest s (if hasPre s x then maxI n x.length else n) l = longest t (if hasPre t x then maxI n x.length else n) l
    rw [h x (by simp)]
    exact longest_congr s t l _ fun y hy => h y (List.mem_cons_of_mem _ hy)
theorem sym_prefix (x : Str) (hx : x ≠ []) (d : UInt8) (m : Nat) (hd : d = 45 ∨ d = 61) (hm : 4 ≤ m) (y : Str) (hy : y ∈ allSyms) : hasPre (x ++ List.replicate m d) y = hasPre (x ++ List.replicate 4 d) y := by
  have hpre : x ++ List.replicate 4 d <+: x ++ List.replicate m d := by
    refine ⟨List.replicate (m - 4) d, ?_⟩
    rw [List.append_assoc, List.replicate_append_replicate]
    congr 2; omega
  rw [Bool.eq_iff_iff, hasPre_iff, hasPre_iff]
  constructor
  · intro h
    rcases Nat.lt_or_ge (x.length + 4) y.length with h1 | h1
    · exfalso
      have h2 : x ++ List.replicate 4 d <+: y := List.prefix_of_prefix_length_le hpre h (by simp; omega)
      have hdm : d ∈ y := h2.subset (by simp)
      have hl : 0 < x.length := List.length_pos_iff.2 hx
      have hlong := syms_long y hy
      unfold longOk at hlong
      split at hlong
      · rename_i b r
        split at hlong
        · rename_i hb
          have hd92 : d ≠ 92 := by rcases hd with rfl | rfl <;> decide
          have hdl : letterB d.toNat = false := by rcases hd with rfl | rfl <;> decide
          rcases List.mem_cons.1 hdm with h3 | h3
          · exact hd92 h3
          rcases List.mem_cons.1 h3 with h4 | h4
          · rw [← h4, hdl] at hb; simp at hb
          · have := List.all_eq_true.1 hlong d h4
            rw [hdl] at this; simp at this
        · simp only [List.isEmpty_iff] at hlong
          subst hlong
          simp only [List.length_cons, List.length_nil] at h1
          omega
      · simp only [decide_eq_true_eq] at hlong; omega
    · exact List.prefix_of_prefix_length_le h hpre (by simp; omega)
  · intro h
    exact h.trans hpre
theorem longSym_same (x : Str) (hx : x ≠ []) (d : UInt8) (m : Nat) (hd : d = 45 ∨ d = 61) (hm : 4 ≤ m) : longSym (x ++ List.replicate m d) = longSym (x ++ List.replicate 4 d) := by
  rw [longSym_eq, longSym_eq]
  exact longest_congr _ _ _ _ fun y hy => sym_prefix x hx d m hd hm y hy
theorem indexByte_append (b : UInt8) : ∀ (s t : Str), 0 ≤ Lib.indexByte s b → Lib.indexByte (s ++ t) b = Lib.indexByte s b := by
  intro s t h
  rw [indexByte_run] at h ⊢
  rw [indexByte_run b s]
  split at h
  · omega
  · rename_i h1
    have hall : s.all (fun x => (x.toNat : Int) != b.toNat) = false := by
      cases hc : s.all (fun x => (x.toNat : Int) != b.toNat)
      · rfl
      · exfalso
        have := run_whole _ s [] hc
        rw [List.append_nil] at this
        exact h1 (by rw [this]; simp [run])
    rw [run_mid _ s t hall]
    have hle := run_le (fun x => (x.toNat : Int) != b.toNat) s
    rw [if_neg h1, if_neg (by rw [List.length_append]; omega)]
/-- Before a rule, whose length does not matter. -/
theorem first_before_rule (x : Str) (k : Int) (hx : oneTok x = some k) (hk : k ≠ 5) (d : UInt8) (m : Nat) (hd : d = 45 ∨ d = 61) (hm : 4 ≤ m) :
    firstTok (x ++ List.replicate m d) = some (k, (x.length : Int)) ↔ firstTok (x ++ List.replicate 4 d) = some (k, (x.length : Int)) := by
  cases x with
  | nil => simp [oneTok] at hx
  | cons c r =>
    have hdw : wordB d.toNat = false := by rcases hd with rfl | rfl <;> decide
    have hdd : digitB d.toNat = false := by rcases hd with rfl | rfl <;> decide
    have hdl : letterB d.toNat = false := by rcases hd with rfl | rfl <;> decide
    have hrepm : List.replicate m d = d :: List.replicate (m - 1) d := by
      obtain ⟨m, rfl⟩ : ∃ n, m = n + 1 := ⟨m - 1, by omega⟩
      rfl
    have hrep4 : List.replicate 4 d = d :: List.replicate 3 d := rfl
    have hword : ∀ n, 0 < n → wordOf ((c :: r) ++ List.replicate n d) = wordOf (c :: r) := fun n hn => by
      obtain ⟨n, rfl⟩ : ∃ q, n = q + 1 := ⟨n - 1, by omega⟩
      unfold wordOf
      rw [take_run, take_run]
      exact tw_stop _ d hdw _ _
    have hdig : ∀ n, 0 < n → digitsOf ((c :: r) ++ List.replicate n d) = digitsOf (c :: r) := fun n hn => by
      obtain ⟨n, rfl⟩ : ∃ q, n = q + 1 := ⟨n - 1, by omega⟩
      unfold digitsOf
      rw [take_run, take_run]
      exact tw_stop _ d hdd _ _
    have hlet : ∀ n, 0 < n → run (fun b => letterB b.toNat) (r ++ List.replicate n d) = run (fun b => letterB b.toNat) r := fun n hn => by
      obtain ⟨n, rfl⟩ : ∃ q, n = q + 1 := ⟨n - 1, by omega⟩
      exact run_stop (fun b => letterB b.toNat) d hdl _ _
    have hsym : symT c (r ++ List.replicate m d) = symT c (r ++ List.replicate 4 d) := by
      have := longSym_same (c :: r) (by simp) d m hd hm
      unfold longSym at this
      unfold symT
      rw [hlet m (by omega), hlet 4 (by omega)]
      simp only [List.cons_append] at this
      rw [this]
    have hpre : ∀ a b : UInt8, hasPre (c :: (r ++ List.replicate m d)) [a, b] = hasPre (c :: (r ++ List.replicate 4 d)) [a, b] := fun a b => by
      rw [hasPre_two_cons c r _ d a b (by rw [hrepm]; rfl), hasPre_two_cons c r _ d a b (by rw [hrep4]; rfl)]
    have htext : ((c.toNat : Int) == 34) = true → textT (r ++ List.replicate m d) = textT (r ++ List.replicate 4 d) := fun hc => by
      have h1 : 0 ≤ Lib.indexByte r 34 := by
        rcases Int.lt_or_le (Lib.indexByte r 34) 0 with h2 | h2
        · exfalso
          have hc34 : c.toNat = 34 := by simp at hc; omega
          have hce : c = 34 := byte_of c 34 (by decide) hc34
          unfold oneTok at hx
          simp only at hx
          split at hx
          · simp at hx
          · rw [pieceT_nw c r (by rw [hce]; decide), hc] at hx
            simp only [if_true] at hx
            unfold textT at hx
            rw [if_pos h2] at hx
            simp at hx
        · exact h2
      unfold textT
      rw [indexByte_append 34 r _ h1, indexByte_append 34 r _ h1]
      have hle : (Lib.indexByte r 34).toNat ≤ r.length := by
        have := indexByte_found r 34 (by omega)
        omega
      rw [List.take_append_of_le_length hle, List.take_append_of_le_length hle]
    have hwm := hword m (by omega)
    have hw4 := hword 4 (by omega)
    have hdm := hdig m (by omega)
    have hd4 := hdig 4 (by omega)
    simp only [List.cons_append] at hwm hw4 hdm hd4
    -- a rule's signs just behind such signs are a rule
    by_cases hall : (c :: r).all (fun b => (b.toNat : Int) == c.toNat) = true ∧ c = d
    · obtain ⟨hall, rfl⟩ := hall
      have hrule : ∀ n, 4 ≤ n → firstTok ((c :: r) ++ List.replicate n c) ≠ some (k, ((c :: r).length : Int)) := fun n hn h => by
        have hr : c :: r = List.replicate (r.length + 1) c := by
          refine List.eq_replicate_iff.2 ⟨rfl, fun b hb => ?_⟩
          have := List.all_eq_true.1 hall b hb
          have h9 : (b.toNat : Int) = (c.toNat : Int) := beq_iff_eq.1 this
          exact UInt8.toNat_inj.1 (by omega)
        rw [hr, List.replicate_append_replicate] at h
        have h2 := firstTok_rule c (r.length + 1 + n) (by omega) hd []
        rw [List.append_nil] at h2
        rw [h2] at h
        simp only [Option.some.injEq, Prod.mk.injEq] at h
        exact hk h.1.symm
      exact ⟨fun h => absurd h (hrule m hm), fun h => absurd h (hrule 4 (by omega))⟩
    · have hsign : signOf c (r ++ List.replicate m d) = signOf c (r ++ List.replicate 4 d) := by
        unfold signOf
        by_cases h1 : (c :: r).all (fun b => (b.toNat : Int) == c.toNat) = true
        · have hcd : c ≠ d := fun he => hall ⟨h1, he⟩
          have hpd : ((d.toNat : Int) == c.toNat) = false := by
            have : d.toNat ≠ c.toNat := fun he => hcd (UInt8.toNat_inj.1 he.symm)
            simp; omega
          have e1 := run_stop (fun b => (b.toNat : Int) == c.toNat) d hpd (List.replicate (m - 1) d) (c :: r)
          have e2 := run_stop (fun b => (b.toNat : Int) == c.toNat) d hpd (List.replicate 3 d) (c :: r)
          rw [← hrepm] at e1
          rw [← hrep4] at e2
          exact e1.trans e2.symm
        · have h2 : (c :: r).all (fun b => (b.toNat : Int) == c.toNat) = false := by simpa using h1
          exact (run_mid _ (c :: r) (List.replicate m d) h2).trans (run_mid _ (c :: r) (List.replicate 4 d) h2).symm
      have hpiece : pieceT c (r ++ List.replicate m d) = pieceT c (r ++ List.replicate 4 d) := by
        have hr1 : isRuleB ((c :: (r ++ List.replicate m d)).take (signOf c (r ++ List.replicate m d))) = isRuleB ((c :: (r ++ List.replicate 4 d)).take (signOf c (r ++ List.replicate 4 d))) := by
          rw [rule_eq, rule_eq, hsign]
        unfold pieceT
        rw [hwm, hw4, hdm, hd4, hr1, hsym, hsign]
        split
        · rfl
        split
        · rfl
        split
        · rfl
        split
        · rename_i h5
          exact htext h5
        · rfl
      show firstTok (c :: (r ++ List.replicate m d)) = _ ↔ firstTok (c :: (r ++ List.replicate 4 d)) = _
      unfold firstTok
      simp only
      rw [hpre, hpre, hpre, hpiece]
/-- What is read of two tokens in one text, with the program's way of comparing. -/
theorem isRead_two (a b : Tk) (ha : oneTok a.text = some a.kind) (hb : oneTok b.text = some b.kind) (oa : oddS a.text = false) (ob : oddS b.text = false) :
    isReadP (a.text ++ b.text) [a, b] = (firstTok (a.text ++ b.text) == some (a.kind, (a.text.length : Int))) := by
  have hne : a.text ≠ [] := fun h => by rw [h] at ha; simp [oneTok] at ha
  have ho : oddS (a.text ++ b.text) = false := by
    rw [oddS_any, List.any_append, ← oddS_any, ← oddS_any, oa, ob]; rfl
  unfold isReadP
  rw [ho, Bool.not_false, Bool.true_and]
  cases h : (firstTok (a.text ++ b.text) == some (a.kind, (a.text.length : Int)))
  · cases h1 : ((readAll [a.text ++ b.text]).1 == 0 && eqKT (readAll [a.text ++ b.text]).2.ts [a, b])
    · rfl
    · exfalso
      simp only [Bool.and_eq_true, beq_iff_eq] at h1
      obtain ⟨e1, e2⟩ := h1
      match hts : (readAll [a.text ++ b.text]).2.ts, e2 with
      | [u, v], e2 =>
        simp only [eqKT, Bool.and_eq_true, beq_iff_eq, Bool.and_true] at e2
        obtain ⟨⟨k1, t1⟩, k2, t2⟩ := e2
        obtain ⟨len, hf, hx⟩ := first_of_read _ u [v] (by simp [hne]) e1 hts (.inl (by rw [hts]; simp [t1, t2]))
        have hp := first_pos _ _ _ hf
        have hl := congrArg List.length hx
        rw [t1, List.length_take] at hl
        have : len = (a.text.length : Int) := by omega
        rw [hf, k1, this] at h
        simp at h
      | [], e2 => simp [eqKT] at e2
      | [u], e2 => simp [eqKT] at e2
      | u :: v :: w :: t, e2 => simp [eqKT] at e2
  · have h : firstTok (a.text ++ b.text) = some (a.kind, (a.text.length : Int)) := by simpa using h
    rw [two_read a.text b.text a.kind b.kind h hb]
    simp [eqKT]
/-- And with the reference's. -/
theorem twoRead_two (x y : Str) (ka kb : Int) (ha : oneTok x = some ka) (hb : oneTok y = some kb) (oa : oddS x = false) (ob : oddS y = false) (hl : x.length + y.length ≤ 120) :
    twoRead (refReadP [x ++ y]) ka x kb = (firstTok (x ++ y) == some (ka, (x.length : Int))) := by
  have hne : x ≠ [] := fun h => by rw [h] at ha; simp [oneTok] at ha
  have ho : oddS (x ++ y) = false := by
    rw [oddS_any, List.any_append, ← oddS_any, ← oddS_any, oa, ob]; rfl
  have hle : lineErr (x ++ y) = 0 := by
    have := lineErr_zero (x ++ y)
    have h2 : (x ++ y).length ≤ 120 := by rw [List.length_append]; exact hl
    rw [ho, decide_eq_true h2] at this
    exact beq_iff_eq.1 this
  rw [← read_same]
  unfold readP
  have hck : (checkLinesP [x ++ y]).2 = 0 := by
    unfold checkLinesP linesGo linesGo
    simp [hle]
  rw [hck]
  simp only [bne_self_eq_false, Bool.false_eq_true, if_false]
  cases h : (firstTok (x ++ y) == some (ka, (x.length : Int)))
  · cases h2 : (readAll [x ++ y]).1 != 0
    · have e1 : (readAll [x ++ y]).1 = 0 := by simpa using h2
      simp only [Bool.false_eq_true, if_false]
      cases h3 : decide (((readAll [x ++ y]).2.ts.length : Int) > 1200)
      · simp only [Bool.false_eq_true, if_false]
        unfold twoRead
        simp only [bne_self_eq_false, Bool.not_false, Bool.true_and]
        match hcs : (readAll [x ++ y]).2.cs, hts : (readAll [x ++ y]).2.ts with
        | [], [u, v] =>
          simp only
          cases h4 : (u.text == x && (u.kind == ka && v.kind == kb))
          · rfl
          · exfalso
            simp only [Bool.and_eq_true, beq_iff_eq] at h4
            obtain ⟨t1, k1, k2⟩ := h4
            have h32 : (x ++ y).getD 0 0 ≠ 32 := by
              cases x with
              | nil => exact absurd rfl hne
              | cons c r =>
                intro hc
                have hc : c = 32 := hc
                subst hc
                simp [oneTok] at ha
            obtain ⟨len, hf, hx⟩ := first_of_read _ u [v] (by simp [hne]) e1 hts (.inr ⟨hcs, h32⟩)
            have hp := first_pos _ _ _ hf
            have hl := congrArg List.length hx
            rw [t1, List.length_take] at hl
            have : len = (x.length : Int) := by omega
            rw [hf, k1, this] at h
            simp at h
        | [], [] => rfl
        | [], [_] => rfl
        | [], _ :: _ :: _ :: _ => rfl
        | _ :: _, _ => rfl
      · simp [twoRead]
    · have : (readAll [x ++ y]).1 ≠ 0 := by simpa using h2
      simp [twoRead, this]
  · have h : firstTok (x ++ y) = some (ka, (x.length : Int)) := by simpa using h
    rw [two_read x y ka kb h hb]
    simp [twoRead]
/-- A right token's text. -/
theorem right_tok (t : Tk) (h : textErrP t = 0) : oneTok t.text = some t.kind ∧ oddS t.text = false := by
  unfold textErrP at h
  split at h
  · split at h
    · rename_i h1
      rw [isRead_one] at h1
      simpa [and_comm] using h1
    · simp at h
  · simp at h
theorem short_tok (t : Tk) (h : textErrP t = 0) : oneTok (shortT t) = some t.kind ∧ oddS (shortT t) = false ∧ (shortT t).length ≤ 60 ∧ ((t.kind ≠ 5 ∧ shortT t = t.text) ∨ (t.kind = 5 ∧ ∃ n d, 4 ≤ n ∧ (d = 45 ∨ d = 61) ∧ t.text = List.replicate n d ∧ shortT t = List.replicate 4 d)) := by
  obtain ⟨h1, h2⟩ := right_tok t h
  rcases oneTok_small _ _ h1 with ⟨h3, h4⟩ | ⟨h3, h4, d, h5⟩
  · have : shortT t = t.text := by unfold shortT; rw [show (t.kind == 5) = false by simpa using h3]; rfl
    rw [this]
    exact ⟨h1, h2, h4, .inl ⟨h3, rfl⟩⟩
  · generalize hn : t.text.length = n at h4 h5
    rw [h5, h3] at h1
    have hd := (oneTok_rule n d h4).1 h1
    have hs : shortT t = List.replicate 4 d := by
      unfold shortT
      rw [h3, h5]
      simp only [beq_self_eq_true, if_true]
      rw [List.take_replicate]; congr 1; omega
    rw [hs, h3]
    exact ⟨(oneTok_rule 4 d (by omega)).2 hd, odd_rule 4 d hd, by simp, .inr ⟨rfl, n, d, h4, hd, h5, rfl⟩⟩
/-- Which tokens must be apart is the reference's. -/
theorem apart_same (a b : Tk) (ha : textErrP a = 0) (hb : textErrP b = 0) : apartP a b = rApart a b := by
  obtain ⟨a1, a2⟩ := right_tok a ha
  obtain ⟨b1, b2⟩ := right_tok b hb
  obtain ⟨sa1, sa2, sa3, sa4⟩ := short_tok a ha
  obtain ⟨sb1, sb2, sb3, sb4⟩ := short_tok b hb
  unfold apartP rApart
  rw [isRead_two a b a1 b1 a2 b2, twoRead_two _ _ _ _ sa1 sb1 sa2 sb2 (by omega)]
  congr 1
  rw [Bool.eq_iff_iff, beq_iff_eq, beq_iff_eq]
  rcases sa4 with ⟨h1, h2⟩ | ⟨h1, n, d, h2, h3, h4, h5⟩
  · rw [h2]
    rcases sb4 with ⟨h6, h7⟩ | ⟨h6, m, e, h7, h8, h9, h10⟩
    · rw [h7]
    · rw [h9, h10]
      exact first_before_rule a.text a.kind a1 h1 e m h8 h7
  · rw [h4, h5, firstTok_rule d n h2 h3, firstTok_rule d 4 (by omega) h3]
    have hrun : run (fun b => (b.toNat : Int) == d.toNat) b.text = 0 ↔ run (fun b => (b.toNat : Int) == d.toNat) (shortT b) = 0 := by
      rcases sb4 with ⟨h6, h7⟩ | ⟨h6, m, e, h7, h8, h9, h10⟩
      · rw [h7]
      · rw [h9, h10]
        obtain ⟨m, rfl⟩ : ∃ q, m = q + 1 := ⟨m - 1, by omega⟩
        have hz : ∀ n, run (fun b => (b.toNat : Int) == d.toNat) (List.replicate (n + 1) e) = 0 ↔ ((e.toNat : Int) == d.toNat) = false := fun n => by
          unfold run
          rw [List.replicate_succ, List.takeWhile_cons]
          cases ((e.toNat : Int) == d.toNat) <;> simp
        rw [hz m, hz 3]
    simp only [Option.some.injEq, Prod.mk.injEq, List.length_replicate, h1, true_and]
    constructor
    · intro h
      have : run (fun b => (b.toNat : Int) == d.toNat) b.text = 0 := by omega
      have := hrun.1 this
      omega
    · intro h
      have : run (fun b => (b.toNat : Int) == d.toNat) (shortT b) = 0 := by omega
      have := hrun.2 this
      omega
end Go.Proofs.YtlmmgblghgmgeaaGreatDoor

/- A token's error is the reference's. -/
namespace Go.Proofs.YtlmmgblghgmgeaaGreatDoor
open Go Ev
set_option linter.unusedSimpArgs false

theorem checkToken_same (t : Tk) : checkTokenP t = tokenErrP t := by
  unfold checkTokenP tokenErrP
  rw [bare_same]
  generalize textErrP t = e
  by_cases h : e = 0
  · subst h
    cases spansB t.line 0 299 <;> cases spansB t.col 0 (120 - t.text.length) <;> rfl
  · have h1 : (e != 0) = true := by simpa using h
    rw [h1]
    simp only [firstOf, if_neg h, if_true]
end Go.Proofs.YtlmmgblghgmgeaaGreatDoor
