/- What of the reading is plain: tokens alone, symbols, blanks in the places of comments. -/
import Derived.Test.YtlmmgblghgmgeaaDoorPureM
namespace Go.Proofs.YtlmmgblghgmgeaaDoor
open Go Ev
set_option maxRecDepth 100000
set_option linter.unusedSimpArgs false

/-- The number of digits. -/
def valOf (s : Str) : Int := s.foldl (fun n b => 10 * n + (b.toNat - 48)) 0
theorem valOf_take (s : Str) (i : Nat) (h : i < s.length) : valOf (s.take (i + 1)) = 10 * valOf (s.take i) + (s[i].toNat - 48) := by
  unfold valOf
  rw [List.take_succ_eq_append_getElem h, List.foldl_append]
  rfl
theorem digit_range {b : UInt8} (h : digitB b.toNat = true) : 48 ≤ b.toNat ∧ b.toNat ≤ 57 := by
  simp only [digitB, spansB, Bool.and_eq_true, decide_eq_true_eq] at h; omega
theorem valOf_range (s : Str) (hd : ∀ b ∈ s, digitB b.toNat = true) : ∀ i, i ≤ s.length → 0 ≤ valOf (s.take i) ∧ valOf (s.take i) < 10 ^ i
  | 0, _ => by simp [valOf]
  | i + 1, h => by
    have h1 := valOf_range s hd i (by omega)
    have h2 := digit_range (hd s[i] (List.getElem_mem (by omega)))
    rw [valOf_take s i (by omega), Int.pow_succ]
    omega
def bReadP (s : Str) : Int × Bool := if !spansB s.length 1 9 || (decide ((1 : Int) < s.length) && ((s.getD 0 0).toNat : Int) == 48) then (0, false) else (valOf s, true)
def allSyms : List Str := plainL ++ othersL.map (·.1)
def place (i j : Int) : AV := .agg [.int .i64 i, .int .i64 j]
theorem longest_append (s : Str) (n : Int) (a b : List Str) : longest s n (a ++ b) = longest s (longest s n a) b := by
  unfold longest; rw [List.foldl_append]
theorem longest_spec (s : Str) : ∀ (l : List Str) (n : Int), n ≤ longest s n l ∧ (longest s n l = n ∨ ∃ x ∈ l, hasPre s x = true ∧ longest s n l = x.length) ∧ ∀ x ∈ l, hasPre s x = true → (x.length : Int) ≤ longest s n l
  | [], n => ⟨Int.le_refl _, .inl rfl, by simp⟩
  | x :: l, n => by
    show n ≤ longest s (if hasPre s x then maxI n x.length else n) l ∧ (longest s (if hasPre s x then maxI n x.length else n) l = n ∨ _) ∧ _
    obtain ⟨h1, h2, h3⟩ := longest_spec s l (if hasPre s x then maxI n x.length else n)
    have e : longest s n (x :: l) = longest s (if hasPre s x then maxI n x.length else n) l := rfl
    rw [e]
    cases hx : hasPre s x with
    | false =>
      simp only [hx, Bool.false_eq_true, if_false] at h1 h2 h3 ⊢
      refine ⟨h1, ?_, fun y hy hp => ?_⟩
      · rcases h2 with h2 | ⟨y, hy, hp, he⟩
        · exact .inl h2
        · exact .inr ⟨y, List.mem_cons_of_mem _ hy, hp, he⟩
      · rcases List.mem_cons.1 hy with rfl | hy
        · rw [hx] at hp; simp at hp
        · exact h3 y hy hp
    | true =>
      simp only [hx, if_true] at h1 h2 h3 ⊢
      have hm : maxI n x.length = n ∧ (x.length : Int) ≤ n ∨ maxI n x.length = x.length ∧ n ≤ x.length := by
        unfold maxI; split
        · exact .inr ⟨rfl, by omega⟩
        · exact .inl ⟨rfl, by omega⟩
      refine ⟨by rcases hm with h | h <;> omega, ?_, fun y hy hp => ?_⟩
      · rcases h2 with h2 | ⟨y, hy, hp, he⟩
        · rcases hm with h | h
          · exact .inl (by omega)
          · exact .inr ⟨x, by simp, hx, by omega⟩
        · exact .inr ⟨y, List.mem_cons_of_mem _ hy, hp, he⟩
      · rcases List.mem_cons.1 hy with rfl | hy
        · rcases hm with h | h <;> omega
        · exact h3 y hy hp
theorem hasPre_iff (s p : Str) : hasPre s p = true ↔ p <+: s := by
  unfold hasPre
  simp only [Bool.and_eq_true, decide_eq_true_eq, beq_iff_eq]
  rw [List.prefix_iff_eq_take]
  constructor
  · rintro ⟨_, h⟩; exact h.symm
  · intro h
    refine ⟨?_, h.symm⟩
    have := congrArg List.length h
    rw [List.length_take] at this; omega
/-- The longest symbol with which a text begins. -/
def longSym (t : Str) : Int := longest t (longest t 0 plainL) (othersL.map (·.1))
theorem longSym_eq (t : Str) : longSym t = longest t 0 allSyms := by
  unfold longSym allSyms; rw [longest_append]
theorem longSym_spec (t : Str) : 0 ≤ longSym t ∧ (longSym t = 0 ∨ ∃ x ∈ allSyms, x <+: t ∧ longSym t = x.length) ∧ ∀ x ∈ allSyms, x <+: t → (x.length : Int) ≤ longSym t := by
  rw [longSym_eq]
  obtain ⟨h1, h2, h3⟩ := longest_spec t allSyms 0
  refine ⟨h1, ?_, fun x hx hp => h3 x hx ((hasPre_iff t x).2 hp)⟩
  rcases h2 with h2 | ⟨x, hx, hp, he⟩
  · exact .inl h2
  · exact .inr ⟨x, hx, (hasPre_iff t x).1 hp, he⟩
/-- The same error; without one, the same kind and length. -/
def SameP (p : Pc) (x : AV) : Prop := ∃ k l, x = piece k l p.err ∧ (p.err = 0 → k = p.kind ∧ l = p.len)
theorem sameP_refl (k l e : Int) : SameP ⟨k, l, e⟩ (piece k l e) := ⟨k, l, rfl, fun _ => ⟨rfl, rfl⟩⟩
theorem sameP_err {k l k' l' e : Int} (h : e ≠ 0) : SameP ⟨k, l, e⟩ (piece k' l' e) := ⟨k', l', rfl, fun h' => absurd h' h⟩
theorem byte_of (c : UInt8) (n : Nat) (hn : n < 256) (h : c.toNat = n) : c = n.toUInt8 := by
  have : c.toNat = (n.toUInt8).toNat := by
    rw [h]; simp [Nat.toUInt8, UInt8.toNat_ofNat']; omega
  exact UInt8.toNat_inj.1 this
theorem firstOf_0 (l : List Int) : firstOf (0 :: l) = firstOf l := rfl
theorem firstOf_8 (l : List Int) : firstOf (8 :: l) = 8 := rfl
theorem firstOf_3 (l : List Int) : firstOf (3 :: l) = 3 := rfl
theorem firstOf_n : firstOf [] = 0 := rfl
/-! ### texts in quotation marks -/
theorem indexByte_run (b : UInt8) : ∀ s : Str, Lib.indexByte s b = if run (fun x => (x.toNat : Int) != b.toNat) s = s.length then -1 else (run (fun x => (x.toNat : Int) != b.toNat) s : Int)
  | [] => rfl
  | x :: s => by
    have ih := indexByte_run b s
    have hle := run_le (fun x => (x.toNat : Int) != b.toNat) s
    unfold Lib.indexByte
    cases h : (x == b)
    · have hx : ((x.toNat : Int) != b.toNat) = true := by
        have : x ≠ b := by simpa using h
        have : x.toNat ≠ b.toNat := fun he => this (UInt8.toNat_inj.1 he)
        simp; omega
      have hr : run (fun x => (x.toNat : Int) != b.toNat) (x :: s) = run (fun x => (x.toNat : Int) != b.toNat) s + 1 := by
        unfold run; rw [List.takeWhile_cons, if_pos hx]; rfl
      rw [hr, ih]
      simp only [Bool.false_eq_true, if_false, List.length_cons]
      by_cases he : run (fun x => (x.toNat : Int) != b.toNat) s = s.length
      · simp [he]
      · have h1 : ¬ ((run (fun x => (x.toNat : Int) != b.toNat) s : Int) == -1) = true := by simp <;> omega
        have h2 : ¬ run (fun x => (x.toNat : Int) != b.toNat) s + 1 = s.length + 1 := by omega
        simp only [if_neg he, if_neg h1, if_neg h2]
        omega
    · have hx : ((x.toNat : Int) != b.toNat) = false := by
        have : x = b := by simpa using h
        subst this; simp
      have hr : run (fun x => (x.toNat : Int) != b.toNat) (x :: s) = 0 := by
        unfold run; rw [List.takeWhile_cons, hx]; rfl
      rw [hr]
      simp
theorem numOf_val (s : Str) (hd : ∀ b ∈ s, digitB b.toNat = true) : ∀ i, i ≤ s.length → numOf (s.take i) = min (valOf (s.take i)) 10001
  | 0, _ => by rw [List.take_zero]; show (0 : Int) = min 0 10001; omega
  | i + 1, h => by
    have ih := numOf_val s hd i (by omega)
    have hr := digit_range (hd s[i] (List.getElem_mem (by omega)))
    have hv := (valOf_range s hd i (by omega)).1
    rw [numOf_take s i (by omega), valOf_take s i (by omega), ih]
    omega
theorem valOf_ge (s : Str) (hd : ∀ b ∈ s, digitB b.toNat = true) (h0 : 0 < s.length) (h1 : s[0].toNat ≠ 48) : ∀ i, i < s.length → 10 ^ i ≤ valOf (s.take (i + 1))
  | 0, h => by
    have hr := digit_range (hd s[0] (List.getElem_mem h0))
    rw [valOf_take s 0 h]
    simp [valOf]; omega
  | i + 1, h => by
    have ih := valOf_ge s hd h0 h1 i (by omega)
    have hr := digit_range (hd s[i + 1] (List.getElem_mem h))
    rw [valOf_take s (i + 1) h, Int.pow_succ]
    omega
theorem number_same (g : Str) (hd : ∀ b ∈ g, digitB b.toNat = true) (h0 : 0 < g.length) :
    SameP ⟨2, g.length, numErr g⟩ (if (g.getD 0 0).toNat == 48 && decide (1 < g.length) then piece 0 0 8 else if !(bReadP g).2 || decide ((bReadP g).1 > 10000) then piece 0 0 3 else piece 2 g.length 0) := by
  have hg : g.getD 0 0 = g[0] := by simp [List.getD_eq_getElem?_getD, h0]
  have hn := numOf_val g hd g.length (Nat.le_refl _)
  rw [List.take_length] at hn
  unfold numErr bReadP
  rw [hg]
  by_cases h1 : (g[0].toNat == 48 && decide (1 < g.length)) = true
  · have h2 : g[0].toNat = 48 ∧ 1 < g.length := by simpa using h1
    have h3 : (decide ((1 : Int) < g.length) && ((g[0].toNat : Int) == 48)) = true := by simp; omega
    rw [if_pos h1, h3]
    simp only [if_true, firstOf_8]
    exact sameP_err (by decide)
  · have h1' : (g[0].toNat == 48 && decide (1 < g.length)) = false := by simpa using h1
    have h3 : (decide ((1 : Int) < g.length) && ((g[0].toNat : Int) == 48)) = false := by
      cases h4 : decide ((1 : Int) < g.length)
      · rfl
      · have : 1 < g.length := by simp at h4; omega
        have h5 : g[0].toNat ≠ 48 := fun he => by simp [he, this] at h1
        simp; omega
    rw [if_neg h1, h3]
    simp only [Bool.false_eq_true, if_false, firstOf_0]
    by_cases h9 : g.length ≤ 9
    · have hs : spansB g.length 1 9 = true := by simp [spansB]; omega
      rw [hs]
      simp only [Bool.not_true, Bool.or_false, Bool.false_eq_true, if_false]
      by_cases hv : valOf g > 10000
      · have : numOf g > 10000 := by omega
        simp only [hv, this, Bool.not_true, decide_true, Bool.false_or, if_true, firstOf_3]
        exact sameP_err (e := 3) (by decide)
      · have : ¬ numOf g > 10000 := by omega
        simp only [hv, this, Bool.not_true, decide_false, Bool.false_or, if_false, Bool.false_eq_true, firstOf_0, firstOf_n]
        exact sameP_refl _ _ _
    · have hs : spansB g.length 1 9 = false := by simp [spansB]; omega
      rw [hs]
      simp only [Bool.not_false, Bool.or_false, if_true, Bool.true_or]
      have h5 : g[0].toNat ≠ 48 := fun he => by
        have : 1 < g.length := by omega
        simp [he, this] at h1
      have hge := valOf_ge g hd h0 h5 (g.length - 1) (by omega)
      rw [show g.length - 1 + 1 = g.length by omega, List.take_length] at hge
      have hp : (10 : Int) ^ 9 ≤ 10 ^ (g.length - 1) := by
        have := Nat.pow_le_pow_right (n := 10) (by omega) (show 9 ≤ g.length - 1 by omega)
        exact_mod_cast this
      have : numOf g > 10000 := by omega
      simp only [this, if_true, firstOf_3]
      exact sameP_err (e := 3) (by decide)
theorem trim_same (n : Nat) (c : UInt8) : Lib.trimB (List.replicate n c) c = [] := by
  unfold Lib.trimB Lib.trimLeftB Lib.trimRightB
  have h : ∀ l : Str, (∀ b ∈ l, b = c) → l.dropWhile (· == c) = [] := fun l => by
    induction l with
    | nil => intro _; rfl
    | cons a l ih =>
      intro hl
      have : a = c := hl a (by simp)
      rw [List.dropWhile_cons, if_pos (by simp [this])]
      exact ih fun b hb => hl b (by simp [hb])
  have h1 : ((List.replicate n c).reverse.dropWhile (· == c)) = [] := h _ fun b hb => by simp at hb; exact hb.2
  rw [h1]
  rfl
theorem trim_other (n : Nat) (c d : UInt8) (h : c ≠ d) : Lib.trimB (List.replicate n c) d = List.replicate n c := by
  unfold Lib.trimB Lib.trimLeftB Lib.trimRightB
  have hk : ∀ l : Str, (∀ b ∈ l, b = c) → l.dropWhile (· == d) = l := fun l hl => by
    cases l with
    | nil => rfl
    | cons a l =>
      have : a = c := hl a (by simp)
      rw [List.dropWhile_cons, if_neg (by simp [this, h])]
  have hr : ∀ b ∈ List.replicate n c, b = c := fun b hb => (List.mem_replicate.1 hb).2
  rw [List.reverse_replicate, hk _ hr, List.reverse_replicate, hk _ hr]
theorem sign_rep (c : UInt8) (r : Str) : (c :: r).take (signOf c r) = List.replicate (signOf c r) c := by
  refine List.eq_replicate_iff.2 ⟨?_, fun b hb => ?_⟩
  · rw [List.length_take]
    have := run_le (fun b => (b.toNat : Int) == c.toNat) (c :: r)
    unfold signOf; omega
  · unfold signOf at hb
    rw [take_run] at hb
    have := takeWhile_all _ _ b hb
    have : b.toNat = c.toNat := by simp at this; omega
    exact UInt8.toNat_inj.1 this
theorem sign_pos (c : UInt8) (r : Str) : 0 < signOf c r := by
  unfold signOf run
  rw [List.takeWhile_cons, if_pos (by simp)]; simp
theorem rule_eq (c : UInt8) (r : Str) : isRuleB ((c :: r).take (signOf c r)) = (decide (4 ≤ signOf c r) && (((c.toNat : Int) == 45) || ((c.toNat : Int) == 61))) := by
  have hp := sign_pos c r
  rw [sign_rep]
  generalize signOf c r = n at hp
  have hne : (List.replicate n c == ([] : Str)) = false := by
    cases n with
    | zero => omega
    | succ n => rfl
  unfold isRuleB
  rw [List.length_replicate]
  by_cases h1 : c.toNat = 45
  · have : c = 45 := byte_of c 45 (by decide) h1
    subst this
    rw [trim_same]; rfl
  · have hc1 : c ≠ 45 := fun he => h1 (by rw [he]; rfl)
    have e1 : ((c.toNat : Int) == 45) = false := by simp <;> omega
    rw [trim_other n c 45 hc1, hne, e1]
    by_cases h2 : c.toNat = 61
    · have : c = 61 := byte_of c 61 (by decide) h2
      subst this
      rw [trim_same]; rfl
    · have hc2 : c ≠ 61 := fun he => h2 (by rw [he]; rfl)
      have e2 : ((c.toNat : Int) == 61) = false := by simp <;> omega
      rw [trim_other n c 61 hc2, hne, e2]
theorem idxIn_any (x : Str) : ∀ (l : List Str) (n : Int), 0 ≤ n → decide (0 ≤ idxIn x l n) = l.any (fun y => y == x)
  | [], n, _ => rfl
  | y :: l, n, h => by
    unfold idxIn
    rw [List.any_cons]
    cases h1 : (x == y)
    · have h2 : (y == x) = false := by
        have : x ≠ y := by simpa using h1
        simp; exact fun he => this he.symm
      rw [h2]
      simp only [Bool.false_eq_true, if_false, Bool.false_or]
      exact idxIn_any x l (n + 1) (by omega)
    · have h2 : (y == x) = true := by
        have : x = y := by simpa using h1
        simp [this]
      rw [h2]
      simp [h]
theorem word_ascii {b : UInt8} (h : wordB b.toNat = true) : b.toNat < 128 := by
  simp only [wordB, letterB, digitB, spansB, Bool.or_eq_true, Bool.and_eq_true, decide_eq_true_eq, beq_iff_eq] at h
  omega
theorem hasLetter_any (t : Str) : hasLetter (wordOf t) = (wordOf t).any (fun b => letterB b.toNat) := by
  unfold hasLetter
  have hw : ∀ b ∈ wordOf t, wordB b.toNat = true := fun b hb => by
    unfold wordOf at hb
    rw [take_run] at hb
    exact takeWhile_all _ _ b hb
  have := idx_any (fun x => letterB (x % 256)) (wordOf t) fun b hb => .inl (word_ascii (hw b hb))
  rw [this]
  congr 1
  funext b
  rw [Nat.mod_eq_of_lt b.toNat_lt]
/-- Tokens that are read from a state on. -/
theorem step_tokens (l : List Str) (n : Nat) (s : St) (hi : s.i < l.length) (hj : s.j ≤ lineLen l s.i) :
    (nextGo l n s).2.ts = s.ts ∨ ∃ t, (nextGo l n s).2.ts = s.ts ++ [t] ∧ t.text.length + s.j ≤ lineLen l s.i ∧ (nextGo l n s).2.i = s.i ∧ (nextGo l n s).2.j = s.j + t.text.length ∧ (nextGo l n s).2.cs = s.cs ∧ (nextGo l n s).1 = 0 := by
  obtain ⟨i, j, ts, cs⟩ := s
  simp only at hi hj ⊢
  have hg : l.getD i [] = l[i] := by simp [List.getD_eq_getElem?_getD, hi]
  have hle := lineLen_eq l i hi
  have hdl : (l[i].drop j).length = l[i].length - j := List.length_drop
  unfold nextGo
  simp only [hg]
  generalize l[i].drop j = t at hdl
  cases t with
  | nil => exact .inl rfl
  | cons c r =>
    simp only [List.length_cons] at hdl
    simp only
    split
    · exact .inl rfl
    split
    · split <;> exact .inl rfl
    split
    · exact .inl rfl
    split
    · exact .inl rfl
    split
    · exact .inl rfl
    · rename_i h5
      have h6 : (pieceT c r).err = 0 := by simpa using h5
      obtain ⟨h7, h8⟩ := pieceT_len c r h6
      have hl : ((c :: r).take (pieceT c r).len.toNat).length = (pieceT c r).len.toNat := by
        rw [List.length_take, List.length_cons]; omega
      exact .inr ⟨_, rfl, by simp only [hl]; omega, rfl, by simp only [hl], rfl, rfl⟩
/-- In a text of one line, tokens read on from a place fit behind it. -/
theorem loop_tokens (x : Str) (n m : Nat) : ∀ (k : Nat) (s : St), s.Ok [x] m → ∃ l, (readLoop [x] n k s).2.ts = s.ts ++ l ∧ ∀ t ∈ l, s.i = 0 ∧ t.text.length + s.j ≤ x.length
  | 0, s, _ => ⟨[], by simp [readLoop], by simp⟩
  | k + 1, s, h => by
    rw [readLoop]
    by_cases hi : s.i < [x].length
    · have hi0 : s.i = 0 := by simpa using hi
      have hll : lineLen [x] s.i = x.length := by rw [hi0]; rfl
      have hst := step_tokens [x] n s hi (h.j hi)
      rw [hll] at hst
      have hok := nextGo_ok [x] m n s hi h
      have hmono : (nextGo [x] n s).1 = 0 → (nextGo [x] n s).2.i = 0 → s.j ≤ (nextGo [x] n s).2.j := fun h0 hi2 => by
        have h1 := hok.2 h0
        rcases Nat.lt_or_ge (nextGo [x] n s).2.j s.j with h2 | h2
        · exfalso
          rw [hi2, hi0] at h1
          have : ∀ j, left [x] 0 j = x.length + 1 - j := fun j => by simp [left]
          rw [this, this] at h1
          have := h.j hi
          rw [hll] at this
          omega
        · exact h2
      rw [if_pos hi]
      split
      · rcases hst with h1 | ⟨t, h1, h2, _, _, _, h6⟩
        · exact ⟨[], by rw [h1]; simp, by simp⟩
        · exact ⟨[t], h1, fun u hu => by simp at hu; subst hu; exact ⟨hi0, h2⟩⟩
      · rename_i hz
        have hz0 : (nextGo [x] n s).1 = 0 := by simpa using hz
        obtain ⟨l, hl, hlt⟩ := loop_tokens x n m k (nextGo [x] n s).2 hok.1
        have hl2 : ∀ u ∈ l, s.i = 0 ∧ u.text.length + s.j ≤ x.length := fun u hu => by
          obtain ⟨q1, q2⟩ := hlt u hu
          have := hmono hz0 q1
          exact ⟨hi0, by omega⟩
        rcases hst with h1 | ⟨t, h1, h2, _, _, _, _⟩
        · exact ⟨l, by rw [hl, h1], hl2⟩
        · refine ⟨t :: l, by rw [hl, h1]; simp, fun u hu => ?_⟩
          rcases List.mem_cons.1 hu with rfl | hu
          · exact ⟨hi0, h2⟩
          · exact hl2 u hu
    · rw [if_neg hi]
      exact ⟨[], by simp, by simp⟩
/-- The kind of a text that is just one piece. -/
def oneTok (x : Str) : Option Int :=
  match x with
  | [] => none
  | c :: r =>
    if ((c.toNat : Int) == 32) || hasPre (c :: r) [40, 42] || hasPre (c :: r) [92, 42] || hasPre (c :: r) [42, 41] then none
    else if (pieceT c r).err = 0 ∧ (pieceT c r).len = ((r.length + 1 : Nat) : Int) then some (pieceT c r).kind else none
theorem oneTok_read (x : Str) (k : Int) (h : oneTok x = some k) : readAll [x] = (0, ⟨1, 0, [⟨k, x, 0, 0⟩], []⟩) := by
  cases x with
  | nil => simp [oneTok] at h
  | cons c r =>
    unfold oneTok at h
    simp only at h
    split at h
    · simp at h
    · rename_i h1
      simp only [Bool.or_eq_true, not_or, Bool.not_eq_true] at h1
      obtain ⟨⟨⟨h1, h2⟩, h3⟩, h4⟩ := h1
      split at h
      · rename_i h5
        simp only [Option.some.injEq] at h
        obtain ⟨h5, h6⟩ := h5
        have hT : total [c :: r] = r.length + 2 := by simp [total, left]
        have s1 : nextGo [c :: r] (total [c :: r] + 1) st0 = (0, ⟨0, r.length + 1, [⟨k, c :: r, 0, 0⟩], []⟩) := by
          unfold nextGo st0
          have hg : ([c :: r] : List Str).getD 0 [] = c :: r := rfl
          simp only [hg, List.drop_zero, h1, h2, h3, h4, Bool.false_eq_true, if_false]
          have h7 : ((pieceT c r).err != 0) = false := by simp [h5]
          rw [h7, h6, h]
          simp only [Bool.false_eq_true, if_false, Int.toNat_natCast, Nat.zero_add, List.nil_append]
          rw [List.take_of_length_le (by simp)]
          rfl
        have s2 : nextGo [c :: r] (total [c :: r] + 1) ⟨0, r.length + 1, [⟨k, c :: r, 0, 0⟩], []⟩ = (0, ⟨1, 0, [⟨k, c :: r, 0, 0⟩], []⟩) := by
          unfold nextGo
          have hg : ([c :: r] : List Str).getD 0 [] = c :: r := rfl
          simp only [hg]
          rw [List.drop_eq_nil_of_le (by simp)]
        unfold readAll
        generalize hN : total [c :: r] + 1 = N at s1 s2
        obtain ⟨M, rfl⟩ : ∃ M, N = M + 3 := ⟨N - 3, by omega⟩
        rw [readLoop, if_pos (by simp [st0]), s1]
        simp only [bne_self_eq_false, Bool.false_eq_true, if_false]
        rw [readLoop, if_pos (by simp), s2]
        simp only [bne_self_eq_false, Bool.false_eq_true, if_false]
        rw [readLoop, if_neg (by simp)]
      · simp at h
theorem read_one (x : Str) (u : Tk) (h0 : (readAll [x]).1 = 0) (h : (readAll [x]).2.ts = [u]) (hu : u.text = x) : oneTok x = some u.kind := by
  have hT : total [x] = x.length + 1 := total_one x
  have hok := st0_ok [x]
  have hi : st0.i < [x].length := by simp [st0]
  have hstep := nextGo_ok [x] (total [x]) (total [x] + 1) st0 hi hok
  have hloop := loop_tokens x (total [x] + 1) (total [x]) (total [x]) (nextGo [x] (total [x] + 1) st0).2 hstep.1
  have hall : readAll [x] = if (nextGo [x] (total [x] + 1) st0).1 != 0 then nextGo [x] (total [x] + 1) st0 else readLoop [x] (total [x] + 1) (total [x]) (nextGo [x] (total [x] + 1) st0).2 := by
    show readLoop [x] (total [x] + 1) (total [x] + 1) st0 = _
    rw [readLoop, if_pos hi]
  have hz : (nextGo [x] (total [x] + 1) st0).1 = 0 := by
    cases hc : ((nextGo [x] (total [x] + 1) st0).1 != 0)
    · simpa using hc
    · rw [hall, hc] at h0
      simpa using h0
  rw [hall, hz] at h
  simp only [bne_self_eq_false, Bool.false_eq_true, if_false] at h
  have hleft := hstep.2 hz
  obtain ⟨l, hl, hlt⟩ := hloop
  rw [hl] at h
  have hpos : (nextGo [x] (total [x] + 1) st0).2.i = 0 → 0 < (nextGo [x] (total [x] + 1) st0).2.j := fun hi0 => by
    rcases Nat.lt_or_ge 0 (nextGo [x] (total [x] + 1) st0).2.j with h1 | h1
    · exact h1
    · exfalso
      have : (nextGo [x] (total [x] + 1) st0).2.j = 0 := by omega
      rw [hi0, this] at hleft
      exact Nat.lt_irrefl _ hleft
  have hnot : (nextGo [x] (total [x] + 1) st0).2.ts = [] → False := fun hts => by
    rw [hts, List.nil_append] at h
    obtain ⟨q1, q2⟩ := hlt u (by rw [h]; simp)
    rw [hu] at q2
    have := hpos q1
    omega
  cases x with
  | nil => exact (hnot rfl).elim
  | cons c r =>
    unfold oneTok
    simp only
    have hg : ([c :: r] : List Str).getD 0 [] = c :: r := rfl
    have hn := hnot
    have hzz := hz
    unfold nextGo st0 at hn hzz h
    simp only [hg, List.drop_zero] at hn hzz h
    cases h1 : ((c.toNat : Int) == 32)
    · rw [h1] at hn hzz h
      simp only [Bool.false_eq_true, if_false] at hn hzz h
      cases h2 : hasPre (c :: r) [40, 42]
      · rw [h2] at hn hzz h
        simp only [Bool.false_eq_true, if_false] at hn hzz h
        cases h3 : hasPre (c :: r) [92, 42]
        · rw [h3] at hn hzz h
          simp only [Bool.false_eq_true, if_false] at hn hzz h
          cases h4 : hasPre (c :: r) [42, 41]
          · rw [h4] at hn hzz h
            simp only [Bool.false_eq_true, if_false] at hn hzz h
            cases h5 : ((pieceT c r).err != 0)
            · rw [h5] at h
              simp only [Bool.false_eq_true, if_false, List.nil_append, List.cons_append] at h
              have h6 : (pieceT c r).err = 0 := by simpa using h5
              obtain ⟨h7, h8⟩ := pieceT_len c r h6
              obtain ⟨e1, _⟩ := List.cons.inj h
              have e2 : ((c :: r).take (pieceT c r).len.toNat) = c :: r := by
                have := congrArg Tk.text e1
                simp only at this
                rw [this, hu]
              have e3 := congrArg List.length e2
              rw [List.length_take, List.length_cons] at e3
              have e4 : (pieceT c r).len = ((r.length + 1 : Nat) : Int) := by omega
              simp only [Bool.or_false, Bool.false_eq_true, if_false]
              rw [if_pos ⟨h6, e4⟩]
              rw [← e1]
            · rw [h5] at hn
              simp only [if_true] at hn
              exact absurd hn (by simp)
          · rw [h4] at hn
            simp only [if_true] at hn
            exact absurd hn (by simp)
        · rw [h3] at hn
          simp only [if_true] at hn
          exact absurd hn (by simp)
      · rw [h2] at hn
        simp only [if_true] at hn
        exfalso
        split at hn
        · exact hn rfl
        · exact hn rfl
    · rw [h1] at hn
      simp only [if_true] at hn
      exact absurd hn (by simp)
theorem isRead_one (t : Tk) : isReadP t.text [t] = (!oddS t.text && oneTok t.text == some t.kind) := by
  unfold isReadP
  congr 1
  cases h1 : ((readAll [t.text]).1 == 0 && eqKT (readAll [t.text]).2.ts [t])
  · cases h2 : (oneTok t.text == some t.kind)
    · rfl
    · exfalso
      have h2 : oneTok t.text = some t.kind := by simpa using h2
      have := oneTok_read t.text t.kind h2
      rw [this] at h1
      simp [eqKT] at h1
  · simp only [Bool.and_eq_true, beq_iff_eq] at h1
    obtain ⟨e1, e2⟩ := h1
    match hts : (readAll [t.text]).2.ts, e2 with
    | [], e2 => simp [eqKT] at e2
    | [u], e2 =>
      simp [eqKT] at e2
      have := read_one t.text u e1 hts e2.2
      rw [this, e2.1]; simp
    | u :: v :: w, e2 => simp [eqKT] at e2
theorem syms_small : ∀ x ∈ allSyms, x.length ≤ 20 := by
  have : allSyms.all (fun x => decide (x.length ≤ 20)) = true := by decide +kernel
  intro x hx
  simpa using List.all_eq_true.1 this x hx
theorem longSym_small (t : Str) : longSym t ≤ 20 := by
  rcases (longSym_spec t).2.1 with h | ⟨x, hx, _, hl⟩
  · omega
  · have := syms_small x hx; omega
theorem numErr_small (g : Str) (hd : ∀ b ∈ g, digitB b.toNat = true) (h0 : 0 < g.length) (h : numErr g = 0) : g.length ≤ 9 := by
  rcases Nat.lt_or_ge 9 g.length with h1 | h1
  · exfalso
    obtain ⟨k, l, he, hk⟩ := number_same g hd h0
    simp only [h] at he hk
    split at he
    · simp [piece] at he
    · split at he
      · simp [piece] at he
      · rename_i h2
        simp only [Bool.or_eq_true, not_or, Bool.not_eq_true'] at h2
        have hs : spansB g.length 1 9 = false := by simp [spansB]; omega
        have : (bReadP g).2 = false := by unfold bReadP; rw [hs]; rfl
        rw [this] at h2
        simp at h2
  · exact h1
/-- A piece is short, but for rules. -/
theorem pieceT_small (c : UInt8) (r : Str) (h : (pieceT c r).err = 0) : ((pieceT c r).kind ≠ 5 ∧ (pieceT c r).len ≤ 60) ∨ (pieceT c r = ⟨5, signOf c r, 0⟩ ∧ isRuleB ((c :: r).take (signOf c r)) = true) := by
  have hdd : ∀ b ∈ digitsOf (c :: r), digitB b.toNat = true := fun b hb => by
    unfold digitsOf at hb
    rw [take_run] at hb
    exact takeWhile_all _ _ b hb
  have hls := longSym_small (c :: r)
  unfold pieceT at h ⊢
  split at h
  · rename_i h1
    rw [if_pos h1]
    exact .inl ⟨by simp, by simp⟩
  · rename_i h1
    rw [if_neg h1]
    split at h
    · rename_i h2
      rw [if_pos h2]
      simp only at h ⊢
      split at h
      · simp at h
      · rename_i h3
        simp only [decide_eq_true_eq] at h3
        refine .inl ⟨?_, by omega⟩
        split <;> simp
    · rename_i h2
      rw [if_neg h2]
      split at h
      · rename_i h3
        rw [if_pos h3]
        simp only at h ⊢
        have h0 : 0 < (digitsOf (c :: r)).length := by
          unfold digitsOf; rw [take_len]; unfold run; rw [List.takeWhile_cons, if_pos h3]; simp
        have := numErr_small _ hdd h0 h
        exact .inl ⟨by simp, by omega⟩
      · rename_i h3
        rw [if_neg h3]
        split at h
        · rename_i h4
          rw [if_pos h4]
          unfold textT at h ⊢
          split at h
          · simp at h
          · rename_i h5
            rw [if_neg h5]
            simp only at h ⊢
            refine .inl ⟨by simp, ?_⟩
            rcases Int.lt_or_le 40 (Lib.indexByte r 34) with h6 | h6
            · exfalso
              have : decide ((40 : Int) < Lib.indexByte r 34) = true := by simpa using h6
              rw [this] at h
              split at h <;> simp [firstOf] at h
            · omega
        · rename_i h4
          rw [if_neg h4]
          split at h
          · rename_i h5
            rw [if_pos h5]
            exact .inr ⟨rfl, h5⟩
          · rename_i h5
            rw [if_neg h5]
            refine .inl ?_
            have e : longest (c :: r) (longest (c :: r) 0 plainL) (othersL.map (·.1)) = longSym (c :: r) := rfl
            unfold symT at h ⊢
            simp only [e] at h ⊢
            split at h
            · rename_i h6
              rw [if_pos h6]
              simp only at h ⊢
              split at h
              · simp at h
              · rename_i h7
                have : longSym (c :: r) = (run (fun b => letterB b.toNat) r : Int) + 1 := by simpa using h7
                exact ⟨by simp, by omega⟩
            · rename_i h6
              rw [if_neg h6]
              exact ⟨by simp, by simp only; omega⟩
theorem pieceT_nw (c : UInt8) (r : Str) (hw : wordB c.toNat = false) : pieceT c r = if ((c.toNat : Int) == 34) then textT r else if (decide (4 ≤ signOf c r) && (((c.toNat : Int) == 45) || ((c.toNat : Int) == 61))) then ⟨5, signOf c r, 0⟩ else symT c r := by
  have hnotw : wordOf (c :: r) = [] := by
    unfold wordOf; rw [take_run, List.takeWhile_cons, hw]; rfl
  have hnd : digitB c.toNat = false := by
    cases hd : digitB c.toNat
    · rfl
    · unfold wordB at hw; rw [hd] at hw; simp at hw
  have hL : hasLetter [] = false := by decide
  have hp1 : hasPre [] [87, 70, 95] = false := rfl
  have hp2 : hasPre [] [83, 70, 95] = false := rfl
  unfold pieceT
  rw [hnotw, hL, hp1, hp2, hnd, rule_eq c r]; rfl
theorem sign_all (n : Nat) (c : UInt8) : signOf c (List.replicate n c) = n + 1 := by
  unfold signOf run
  have h : ∀ l : Str, (∀ b ∈ l, b = c) → l.takeWhile (fun b => (b.toNat : Int) == c.toNat) = l := fun l => by
    induction l with
    | nil => intro _; rfl
    | cons a l ih =>
      intro hl
      have : a = c := hl a (by simp)
      rw [List.takeWhile_cons, if_pos (by simp [this]), ih fun b hb => hl b (by simp [hb])]
  rw [h _ fun b hb => by rcases List.mem_cons.1 hb with rfl | hb; rfl; exact (List.mem_replicate.1 hb).2]
  simp
theorem oneTok_rule (n : Nat) (c : UInt8) (hn : 4 ≤ n) : oneTok (List.replicate n c) = some 5 ↔ (c = 45 ∨ c = 61) := by
  obtain ⟨m, rfl⟩ : ∃ m, n = m + 2 := ⟨n - 2, by omega⟩
  have hrep : List.replicate (m + 2) c = c :: c :: List.replicate m c := rfl
  have hrep1 : c :: List.replicate m c = List.replicate (m + 1) c := rfl
  have hs := sign_all (m + 1) c
  rw [← hrep1] at hs
  rw [hrep]
  unfold oneTok
  simp only
  have hp : ∀ a b : UInt8, hasPre (c :: c :: List.replicate m c) [a, b] = (a == c && b == c) := fun a b => by
    unfold hasPre
    simp only [List.length_cons, List.length_nil, List.take_succ_cons, List.take_zero]
    have h1 : decide (0 + 1 + 1 ≤ (List.replicate m c).length + 1 + 1) = true := by simp
    rw [h1, Bool.true_and]
    show (c == a && (c == b && true)) = _
    rw [Bool.and_true, BEq.comm (a := c) (b := a), BEq.comm (a := c) (b := b)]
  constructor
  · intro h
    split at h
    · simp at h
    · split at h
      · rename_i h5
        simp only [Option.some.injEq] at h
        rcases pieceT_small c (c :: List.replicate m c) h5.1 with h6 | ⟨_, h7⟩
        · exact absurd h h6.1
        · rw [rule_eq] at h7
          simp only [Bool.and_eq_true, Bool.or_eq_true] at h7
          rcases h7.2 with h8 | h8
          · exact .inl (byte_of c 45 (by decide) (by simp at h8; omega))
          · exact .inr (byte_of c 61 (by decide) (by simp at h8; omega))
      · simp at h
  · intro h
    have hl : (c :: List.replicate m c).length = m + 1 := by simp
    rcases h with rfl | rfl
    · rw [hp, hp, hp, pieceT_nw _ _ (by decide), hs]
      have h4 : decide (4 ≤ m + 1 + 1) = true := by simp; omega
      simp only [h4]
      simp
    · rw [hp, hp, hp, pieceT_nw _ _ (by decide), hs]
      have h4 : decide (4 ≤ m + 1 + 1) = true := by simp; omega
      simp only [h4]
      simp
theorem oneTok_small (s : Str) (k : Int) (h : oneTok s = some k) : (k ≠ 5 ∧ s.length ≤ 60) ∨ (k = 5 ∧ 4 ≤ s.length ∧ ∃ c, s = List.replicate s.length c) := by
  cases s with
  | nil => simp [oneTok] at h
  | cons c r =>
    unfold oneTok at h
    simp only at h
    split at h
    · simp at h
    · split at h
      · rename_i h5
        simp only [Option.some.injEq] at h
        rcases pieceT_small c r h5.1 with h6 | ⟨h6, h7⟩
        · left
          refine ⟨h ▸ h6.1, ?_⟩
          simp only [List.length_cons]; omega
        · right
          rw [h6] at h h5
          simp only at h h5
          have hs : signOf c r = r.length + 1 := by omega
          rw [rule_eq] at h7
          simp only [Bool.and_eq_true, decide_eq_true_eq] at h7
          refine ⟨h.symm, by simp only [List.length_cons]; omega, c, ?_⟩
          have := sign_rep c r
          rw [hs, List.take_of_length_le (by simp)] at this
          exact this
      · simp at h
/-- The kind and the length of the token with which a text begins. -/
def firstTok (x : Str) : Option (Int × Int) :=
  match x with
  | [] => none
  | c :: r =>
    if ((c.toNat : Int) == 32) || hasPre (c :: r) [40, 42] || hasPre (c :: r) [92, 42] || hasPre (c :: r) [42, 41] then none
    else if (pieceT c r).err = 0 then some ((pieceT c r).kind, (pieceT c r).len) else none
theorem oneTok_first (x : Str) (k : Int) : oneTok x = some k ↔ firstTok x = some (k, (x.length : Int)) := by
  cases x with
  | nil => simp [oneTok, firstTok]
  | cons c r =>
    unfold oneTok firstTok
    simp only
    split
    · simp
    · by_cases h1 : (pieceT c r).err = 0
      · rw [if_pos h1]
        by_cases h2 : (pieceT c r).len = ((r.length + 1 : Nat) : Int)
        · rw [if_pos ⟨h1, h2⟩]
          simp only [Option.some.injEq, Prod.mk.injEq, List.length_cons, h2, and_true]
        · rw [if_neg fun h => h2 h.2]
          simp only [Option.some.injEq, Prod.mk.injEq, List.length_cons, reduceCtorEq, false_iff]
          exact fun h => h2 h.2
      · rw [if_neg h1, if_neg fun h => h1 h.1]
        simp
theorem first_pos (x : Str) (k len : Int) (h : firstTok x = some (k, len)) : 0 < len ∧ len ≤ x.length := by
  cases x with
  | nil => simp [firstTok] at h
  | cons c r =>
    unfold firstTok at h
    simp only at h
    split at h
    · simp at h
    · split at h
      · rename_i h5
        simp only [Option.some.injEq, Prod.mk.injEq] at h
        obtain ⟨rfl, rfl⟩ := h
        have := pieceT_len c r h5
        simp only [List.length_cons]; omega
      · simp at h
def beforeP (a b c d : Int) : Bool := decide (a < c) || (a == c && decide (b < d))
def inSpan (i k : Int) (c : Sp) : Bool := !beforeP i k c.l0 c.c0 && beforeP i k c.l1 c.c1
def withinP (cs : List Sp) (i k : Int) : Bool := cs.any (inSpan i k)
/-- A line with blanks in the places of comments. -/
def blankChars (cs : List Sp) (i : Nat) : Nat → Str → Str
  | _, [] => []
  | k, b :: r => (if withinP cs i k then 32 else b) :: blankChars cs i (k + 1) r
def refBlanked (cs : List Sp) : Nat → List Str → List Str
  | _, [] => []
  | i, s :: r => blankChars cs i 0 s :: refBlanked cs (i + 1) r
theorem blankChars_len (cs : List Sp) (i : Nat) : ∀ (s : Str) (k : Nat), (blankChars cs i k s).length = s.length
  | [], _ => rfl
  | b :: r, k => by simp [blankChars, blankChars_len cs i r (k + 1)]
theorem blankChars_get (cs : List Sp) (i : Nat) : ∀ (s : Str) (k0 k : Nat), (blankChars cs i k0 s)[k]? = (s[k]?).map fun b => if withinP cs i ((k0 + k : Nat) : Int) then 32 else b
  | [], k0, k => by simp [blankChars]
  | b :: r, k0, 0 => by simp [blankChars]
  | b :: r, k0, k + 1 => by
    simp only [blankChars, List.getElem?_cons_succ]
    rw [blankChars_get cs i r (k0 + 1) k]
    rw [show k0 + 1 + k = k0 + (k + 1) by omega]
theorem blankLine_get (s : Str) (a b k : Nat) (h1 : a ≤ b) (h2 : b ≤ s.length) : (blankLine s a b)[k]? = (s[k]?).map fun x => if a ≤ k ∧ k < b then 32 else x := by
  unfold blankLine
  rw [repeatL_one]
  have hta : (s.take a).length = a := by rw [List.length_take]; omega
  rcases Nat.lt_or_ge k a with h3 | h3
  · rw [List.append_assoc, List.getElem?_append_left (by omega), List.getElem?_take, if_pos h3]
    have : ¬ (a ≤ k ∧ k < b) := by omega
    cases s[k]? <;> simp [this]
  · rcases Nat.lt_or_ge k b with h4 | h4
    · rw [List.append_assoc, List.getElem?_append_right (by omega), hta, List.getElem?_append_left (by simp; omega), List.getElem?_replicate, if_pos (by omega)]
      have : s[k]? = some s[k] := by simp
      rw [this]
      simp [h3, h4]
    · rw [List.getElem?_append_right (by simp [hta]; omega)]
      have hl : (s.take a ++ List.replicate (b - a) 32).length = b := by simp [hta]; omega
      rw [hl, List.getElem?_drop, show b + (k - b) = k by omega]
      have : ¬ (a ≤ k ∧ k < b) := by omega
      cases s[k]? <;> simp [this]
theorem blankAt_get (c : Sp) (out : List Str) (i j : Nat) (h : i < out.length) : (blankAt c out i).getD j [] = if j = i then blankLine (out.getD i []) (spanFrom c i) (spanTo c (out.getD i []).length i) else out.getD j [] := by
  unfold blankAt
  simp only [List.getD_eq_getElem?_getD, List.getElem?_set]
  by_cases hj : j = i
  · subst hj; simp [h]
  · rw [if_neg (fun he => hj he.symm), if_neg hj]
theorem blankGo_get (c : Sp) : ∀ (n i : Nat) (out : List Str) (j : Nat), i + n ≤ out.length → (blankGo c n i out).length = out.length ∧
    (blankGo c n i out).getD j [] = if i ≤ j ∧ j < i + n then blankLine (out.getD j []) (spanFrom c j) (spanTo c (out.getD j []).length j) else out.getD j []
  | 0, i, out, j, _ => ⟨rfl, by rw [if_neg (by omega)]; rfl⟩
  | n + 1, i, out, j, h => by
    have hl : (blankAt c out i).length = out.length := by simp [blankAt]
    obtain ⟨h1, h2⟩ := blankGo_get c n (i + 1) (blankAt c out i) j (by rw [hl]; omega)
    have hg := blankAt_get c out i j (by omega)
    refine ⟨by show (blankGo c n (i + 1) (blankAt c out i)).length = _; rw [h1, hl], ?_⟩
    show (blankGo c n (i + 1) (blankAt c out i)).getD j [] = _
    rw [h2]
    by_cases hj : j = i
    · subst hj
      rw [if_neg (by omega), if_pos (by omega), hg, if_pos rfl]
    · rw [if_neg hj] at hg
      rw [hg]
      by_cases hj2 : i + 1 ≤ j ∧ j < i + 1 + n
      · rw [if_pos hj2, if_pos (by omega)]
      · rw [if_neg hj2, if_neg (by omega)]
theorem withinP_snoc (cs : List Sp) (c : Sp) (i k : Int) : withinP (cs ++ [c]) i k = (withinP cs i k || inSpan i k c) := by
  simp [withinP]
theorem inSpan_iff {ns : List Nat} {c : Sp} (h : SpOk ns c) (i k : Nat) (hk : k < ns.getD i 0) : inSpan i k c = true ↔ (c.l0 ≤ i ∧ i < c.l0 + (c.l1 + 1 - c.l0)) ∧ spanFrom c i ≤ k ∧ k < spanTo c (ns.getD i 0) i := by
  obtain ⟨q1, q2, q3, q4, q5⟩ := h
  unfold inSpan beforeP spanFrom spanTo
  simp only [Bool.and_eq_true, Bool.not_eq_true', Bool.or_eq_false_iff, decide_eq_false_iff_not, Bool.and_eq_false_iff, beq_eq_false_iff_ne, Bool.or_eq_true, decide_eq_true_eq, beq_iff_eq]
  constructor
  · rintro ⟨⟨h1, h2⟩, h3⟩
    refine ⟨by omega, ?_, ?_⟩
    · split <;> omega
    · split <;> omega
  · rintro ⟨⟨h1, h2⟩, h3, h4⟩
    refine ⟨⟨by omega, ?_⟩, ?_⟩
    · by_cases hi : i = c.l0
      · rw [if_pos hi] at h3; right; omega
      · left; omega
    · by_cases hi : i = c.l1
      · rw [if_pos hi] at h4; right; omega
      · left; omega
/-- What has been blanked so far. -/
def Blanks (l out : List Str) (done : List Sp) : Prop := out.length = l.length ∧ ∀ i, i < l.length → out.getD i [] = blankChars done i 0 (l.getD i [])
theorem blankOne_step {l out : List Str} {done : List Sp} {c : Sp} (h : Blanks l out done) (hc : SpOk (lens l) c) : Blanks l (blankOne out c) (done ++ [c]) := by
  obtain ⟨h1, h2⟩ := h
  have hlt := hc.lt
  have hle := hc.le
  rw [lens_length] at hlt
  unfold blankOne
  refine ⟨(blankGo_get c _ c.l0 out 0 (by omega)).1.trans h1, fun i hi => ?_⟩
  rw [(blankGo_get c (c.l1 + 1 - c.l0) c.l0 out i (by omega)).2, h2 i hi]
  have hlen : (blankChars done i 0 (l.getD i [])).length = (lens l).getD i 0 := by rw [blankChars_len, lens_getD]
  apply List.ext_getElem?
  intro k
  rw [blankChars_get (done ++ [c]), withinP_snoc, Nat.zero_add]
  by_cases hr : c.l0 ≤ i ∧ i < c.l0 + (c.l1 + 1 - c.l0)
  · rw [if_pos hr]
    have hs := span_range hc i hr.1 (by omega)
    rw [hlen]
    rw [blankLine_get _ _ _ _ hs.1 (by rw [hlen]; exact hs.2), blankChars_get, Nat.zero_add]
    cases hk : (l.getD i [])[k]? with
    | none => rfl
    | some b =>
      have hkl : k < (lens l).getD i 0 := by
        rw [lens_getD]; exact (List.getElem?_eq_some_iff.1 hk).1
      have hin := inSpan_iff hc i k hkl
      simp only [Option.map_some]
      by_cases hin2 : inSpan i k c = true
      · rw [if_pos (hin.1 hin2).2, hin2, Bool.or_true]; rfl
      · have hin3 : inSpan i k c = false := by simpa using hin2
        rw [if_neg fun he => hin2 (hin.2 ⟨hr, he⟩), hin3, Bool.or_false]
  · rw [if_neg hr, blankChars_get, Nat.zero_add]
    cases hk : (l.getD i [])[k]? with
    | none => rfl
    | some b =>
      have hkl : k < (lens l).getD i 0 := by
        rw [lens_getD]; exact (List.getElem?_eq_some_iff.1 hk).1
      have hin3 : inSpan i k c = false := by
        cases hq : inSpan i k c with
        | false => rfl
        | true => exact absurd ((inSpan_iff hc i k hkl).1 hq).1 hr
      simp only [Option.map_some, hin3, Bool.or_false]
theorem without_blanks {l : List Str} : ∀ (cs done : List Sp) (out : List Str), Blanks l out done → (∀ c ∈ cs, SpOk (lens l) c) → Blanks l (cs.foldl blankOne out) (done ++ cs)
  | [], done, out, h, _ => by simpa using h
  | c :: cs, done, out, h, hc => by
    have := without_blanks cs (done ++ [c]) (blankOne out c) (blankOne_step h (hc c (by simp))) fun c' hc' => hc c' (List.mem_cons_of_mem _ hc')
    simpa using this
theorem refBlanked_get (cs : List Sp) : ∀ (l : List Str) (i0 j : Nat), (refBlanked cs i0 l)[j]? = (l[j]?).map (blankChars cs (i0 + j) 0)
  | [], i0, j => by simp [refBlanked]
  | s :: l, i0, 0 => by simp [refBlanked]
  | s :: l, i0, j + 1 => by
    simp only [refBlanked, List.getElem?_cons_succ]
    rw [refBlanked_get cs l (i0 + 1) j, show i0 + 1 + j = i0 + (j + 1) by omega]
theorem blankChars_nil (i : Nat) : ∀ (s : Str) (k : Nat), blankChars [] i k s = s
  | [], _ => rfl
  | b :: r, k => by
    simp only [blankChars, blankChars_nil i r (k + 1)]
    simp [withinP]
theorem without_ref (l : List Str) (cs : List Sp) (h : ∀ c ∈ cs, SpOk (lens l) c) : withoutP l cs = refBlanked cs 0 l := by
  have h0 : Blanks l l [] := ⟨rfl, fun i hi => by rw [blankChars_nil]⟩
  obtain ⟨h1, h2⟩ := without_blanks cs [] l h0 h
  rw [List.nil_append] at h2
  apply List.ext_getElem?
  intro j
  rw [refBlanked_get, Nat.zero_add]
  show (cs.foldl blankOne l)[j]? = _
  rcases Nat.lt_or_ge j l.length with hj | hj
  · have h3 := h2 j hj
    have e1 : (cs.foldl blankOne l)[j]? = some ((cs.foldl blankOne l).getD j []) := by
      simp [List.getD_eq_getElem?_getD, show j < (cs.foldl blankOne l).length by omega]
    have e2 : l[j]? = some (l.getD j []) := by simp [List.getD_eq_getElem?_getD, hj]
    rw [e1, e2, h3]; rfl
  · rw [List.getElem?_eq_none (by omega), List.getElem?_eq_none hj]; rfl
end Go.Proofs.YtlmmgblghgmgeaaDoor
