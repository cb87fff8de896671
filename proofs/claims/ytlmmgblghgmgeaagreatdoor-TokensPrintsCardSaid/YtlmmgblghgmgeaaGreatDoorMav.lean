/- The texts PureA, PureB, merged. -/
import Derived.Test.YtlmmgblghgmgeaaGreatDoorMah
import Derived.Laws.RangeString
import Derived.Laws.RangeAny
import Derived.Test.YtlmmgblghgmgeaaGreatDoorMam
set_option linter.unusedVariables false
set_option linter.unusedSimpArgs false
/- Characters of texts; the law of the lines. -/
namespace Go.Proofs.YtlmmgblghgmgeaaGreatDoor
open Go Ev
set_option linter.unusedSimpArgs false

theorem idxFrom_any (p : Nat → Bool) (s : Str) (H : ∀ b ∈ s, b.toNat < 128 ∨ ∀ r : Nat, 128 ≤ r → p r = true) : ∀ (f pos : Nat), s.length - pos ≤ f →
    decide (0 ≤ Lib.idxFuncFrom p true ⟨s.toArray⟩ f pos) = (s.drop pos).any (fun b => p b.toNat)
  | 0, pos, h => by
    rw [List.drop_eq_nil_of_le (by omega)]; rfl
  | f + 1, pos, h => by
    unfold Lib.idxFuncFrom
    have hsz : (⟨s.toArray⟩ : ByteArray).size = s.length := by simp [ByteArray.size]
    by_cases hp : pos < s.length
    · have hp' : pos < (⟨s.toArray⟩ : ByteArray).size := by rw [hsz]; exact hp
      have hget : (⟨s.toArray⟩ : ByteArray)[pos]'hp' = s[pos] := by
        show s.toArray[pos] = s[pos]
        simp
      rw [if_pos hp', List.drop_eq_getElem_cons hp, List.any_cons]
      rcases Nat.lt_or_ge (s[pos].toNat) 128 with hb | hb
      · rw [decode_ascii ⟨s.toArray⟩ pos hp' (by rw [hget]; exact hb), hget]
        cases h1 : p s[pos].toNat
        · simp only [Bool.false_eq_true, if_false, Bool.false_or]
          exact idxFrom_any p s H f (pos + 1) (by omega)
        · simp
      · have hall := (H s[pos] (List.getElem_mem hp)).resolve_left (by omega)
        have hd := (decode_high ⟨s.toArray⟩ pos hp' (by rw [hget]; exact hb)).1
        rw [if_pos (hall _ hd), hall _ hb]
        simp
    · rw [if_neg (by rw [hsz]; exact hp), List.drop_eq_nil_of_le (by omega)]
      simp
theorem idx_any (p : Nat → Bool) (s : Str) (H : ∀ b ∈ s, b.toNat < 128 ∨ ∀ r : Nat, 128 ≤ r → p r = true) : decide (0 ≤ Lib.idxFunc p true ⟨s.toArray⟩) = s.any (fun b => p b.toNat) := by
  have := idxFrom_any p s H s.length 0 (by omega)
  simp only [List.drop_zero] at this
  rw [← this]
  unfold Lib.idxFunc
  rw [show (⟨s.toArray⟩ : ByteArray).size = s.length by simp [ByteArray.size]]
theorem oddS_any (s : Str) : oddS s = s.any (fun b => oddRune b.toNat) :=
  idx_any oddRune s fun b _ => .inr fun r hr => by
    have : (r : Int) > 126 := by omega
    simp [oddRune, this]
theorem odd_shown (b : UInt8) : oddRune b.toNat = !shownC b := by simp [oddRune, shownC]
theorem oddS_shown (s : Str) : oddS s = !s.all shownC := by
  rw [oddS_any, List.not_all_eq_any_not]
  congr 1
  funext b
  exact odd_shown b
theorem lineErr_ref (s : Str) : lineErr s = if decide ((s.length : Int) > 120) then 2 else if !shownP s 120 then 5 else 0 := by
  unfold lineErr shownP
  rw [oddS_shown]
  by_cases h : (s.length : Int) > 120
  · simp [h, firstOf]
  · have h' : (s.length : Int) ≤ 120 := by omega
    cases s.all shownC <;> simp [h, h', firstOf]
theorem linesGo_ref : ∀ (l : List Str) (n : Int), linesGo l n = refLinesGo l n
  | [], _ => rfl
  | s :: l, n => by
    rw [linesGo, refLinesGo, lineErr_ref, linesGo_ref l (n + 1)]
    by_cases h : (s.length : Int) > 120
    · simp [h]
    · cases h2 : shownP s 120 <;> simp [h]
theorem checkLines_ref (l : List Str) : checkLinesP l = refLinesP l := by
  unfold checkLinesP refLinesP
  rw [linesGo_ref]
end Go.Proofs.YtlmmgblghgmgeaaGreatDoor

/- The program's pieces are the reference's: symbols, numbers. -/
namespace Go.Proofs.YtlmmgblghgmgeaaGreatDoor
open Go Ev
set_option linter.unusedSimpArgs false

theorem sym_any (x : Str) : isSym x = allSyms.any (fun y => y == x) := by
  have hp : symL.isPerm allSyms = true := by decide +kernel
  have hperm := List.isPerm_iff.1 hp
  unfold isSym
  cases h : allSyms.any (fun y => y == x)
  · rw [List.any_eq_false] at h ⊢
    exact fun y hy => h y (hperm.mem_iff.1 hy)
  · rw [List.any_eq_true] at h ⊢
    obtain ⟨y, hy, he⟩ := h
    exact ⟨y, hperm.mem_iff.2 hy, he⟩
theorem isSym_iff (x : Str) : isSym x = true ↔ x ∈ allSyms := by
  rw [sym_any, List.any_eq_true]
  constructor
  · rintro ⟨y, hy, he⟩
    have : y = x := by simpa using he
    exact this ▸ hy
  · exact fun h => ⟨x, h, by simp⟩
theorem longest_append (s : Str) (n : Int) (a b : List Str) : longest s n (a ++ b) = longest s (longest s n a) b := by
  unfold longest; rw [List.foldl_append]
theorem longest_spec (s : Str) : ∀ (l : List Str) (n : Int), n ≤ longest s n l ∧ (longest s n l = n ∨ ∃ x ∈ l, hasPre s x = true ∧ longest s n l = x.length) ∧ ∀ x ∈ l, hasPre s x = true → (x.length : Int) ≤ longest s n l
  | [], n => ⟨Int.le_refl _, .inl rfl, by simp⟩
  | x :: l, n => by
    show n ≤ longest s (if hasPre s x then maxI n x.length else n) l ∧ (longest s (if hasPre s x then maxI n x.length else n) l = n ∨ _) ∧ _
    obtain ⟨h1, h2, h3⟩ := longest_spec s l (if hasPre s x then maxI n x.length else n)
    have e : longest s n (x :: l) = longest s (if hasPre s x then maxI n x.length else n) l := rfl
    rw [e]
    cases hx : hasPre s x with
    | false =>
      simp only [hx, Bool.false_eq_true, if_false] at h1 h2 h3 ⊢
      refine ⟨h1, ?_, fun y hy hp => ?_⟩
      · rcases h2 with h2 | ⟨y, hy, hp, he⟩
        · exact .inl h2
        · exact .inr ⟨y, List.mem_cons_of_mem _ hy, hp, he⟩
      · rcases List.mem_cons.1 hy with rfl | hy
        · rw [hx] at hp; simp at hp
        · exact h3 y hy hp
    | true =>
      simp only [hx, if_true] at h1 h2 h3 ⊢
      have hm : maxI n x.length = n ∧ (x.length : Int) ≤ n ∨ maxI n x.length = x.length ∧ n ≤ x.length := by
        unfold maxI; split
        · exact .inr ⟨rfl, by omega⟩
        · exact .inl ⟨rfl, by omega⟩
      refine ⟨by rcases hm with h | h <;> omega, ?_, fun y hy hp => ?_⟩
      · rcases h2 with h2 | ⟨y, hy, hp, he⟩
        · rcases hm with h | h
          · exact .inl (by omega)
          · exact .inr ⟨x, by simp, hx, by omega⟩
        · exact .inr ⟨y, List.mem_cons_of_mem _ hy, hp, he⟩
      · rcases List.mem_cons.1 hy with rfl | hy
        · rcases hm with h | h <;> omega
        · exact h3 y hy hp
theorem hasPre_iff (s p : Str) : hasPre s p = true ↔ p <+: s := by
  unfold hasPre
  simp only [Bool.and_eq_true, decide_eq_true_eq, beq_iff_eq]
  rw [List.prefix_iff_eq_take]
  constructor
  · rintro ⟨_, h⟩; exact h.symm
  · intro h
    refine ⟨?_, h.symm⟩
    have := congrArg List.length h
    rw [List.length_take] at this; omega
/-- The longest symbol with which a text begins. -/
def longSym (t : Str) : Int := longest t (longest t 0 plainL) (othersL.map (·.1))
theorem longSym_eq (t : Str) : longSym t = longest t 0 allSyms := by
  unfold longSym allSyms; rw [longest_append]
theorem longSym_spec (t : Str) : 0 ≤ longSym t ∧ (longSym t = 0 ∨ ∃ x ∈ allSyms, x <+: t ∧ longSym t = x.length) ∧ ∀ x ∈ allSyms, x <+: t → (x.length : Int) ≤ longSym t := by
  rw [longSym_eq]
  obtain ⟨h1, h2, h3⟩ := longest_spec t allSyms 0
  refine ⟨h1, ?_, fun x hx hp => h3 x hx ((hasPre_iff t x).2 hp)⟩
  rcases h2 with h2 | ⟨x, hx, hp, he⟩
  · exact .inl h2
  · exact .inr ⟨x, hx, (hasPre_iff t x).1 hp, he⟩
/-- Long symbols are backslashes with letters. -/
def longOk (x : Str) : Bool :=
  match x with
  | 92 :: b :: r => if letterB b.toNat then r.all fun b => letterB b.toNat else r.isEmpty
  | x => decide (x.length ≤ 3)
theorem syms_long : ∀ x ∈ allSyms, longOk x = true := by
  have : allSyms.all longOk = true := by decide +kernel
  exact fun x hx => List.all_eq_true.1 this x hx
theorem syms_ne : ∀ x ∈ allSyms, x ≠ [] := by
  have : allSyms.all (fun x => !x.isEmpty) = true := by decide +kernel
  intro x hx he
  have := List.all_eq_true.1 this x hx
  rw [he] at this; simp at this
theorem prefix_run {p : UInt8 → Bool} {x r : Str} (h : x <+: r) (ha : x.all p = true) : x.length ≤ run p r := by
  obtain ⟨z, rfl⟩ := h
  unfold run
  induction x with
  | nil => simp
  | cons b x ih =>
    simp only [List.all_cons, Bool.and_eq_true] at ha
    simp only [List.cons_append, List.takeWhile_cons, ha.1, if_true, List.length_cons]
    have := ih ha.2
    omega
/-- A backslash with letters. -/
theorem symbol_letters (b : UInt8) (r : Str) (hb : letterB b.toNat = true) :
    (longSym (92 :: b :: r) = (run (fun b => letterB b.toNat) (b :: r) : Int) + 1) ↔ isSym ((92 :: b :: r).take (run (fun b => letterB b.toNat) (b :: r) + 1)) = true := by
  obtain ⟨h1, h2, h3⟩ := longSym_spec (92 :: b :: r)
  have hle := run_le (fun b => letterB b.toNat) (b :: r)
  generalize hk : run (fun b => letterB b.toNat) (b :: r) = k at hle ⊢
  simp only [List.length_cons] at hle
  constructor
  · intro he
    rcases h2 with h2 | ⟨x, hx, hp, hlen⟩
    · omega
    · rw [isSym_iff]
      have hxl : x.length = k + 1 := by omega
      rw [← hxl, ← List.prefix_iff_eq_take.1 hp]
      exact hx
  · intro hs
    rw [isSym_iff] at hs
    have hp : (92 :: b :: r).take (k + 1) <+: 92 :: b :: r := List.take_prefix _ _
    have hl := h3 _ hs hp
    rw [List.length_take, List.length_cons, List.length_cons] at hl
    rcases h2 with h2 | ⟨x, hx, hpx, hlen⟩
    · omega
    · have hxk : x.length ≤ k + 1 := by
        have ho := syms_long x hx
        match x, hpx, ho, hlen with
        | [], _, _, _ => simp
        | [a], _, _, _ => simp
        | a :: a2 :: x', hpx, ho, _ =>
          obtain ⟨rfl, hp2⟩ := List.cons_prefix_cons.1 hpx
          obtain ⟨rfl, hp3⟩ := List.cons_prefix_cons.1 hp2
          simp only [longOk, hb, if_true] at ho
          have := prefix_run (p := fun b => letterB b.toNat) (x := a2 :: x') hp2 (by simp [hb]; simpa using ho)
          rw [hk] at this
          simpa using this
      omega
/-- Any other symbol has at most three characters. -/
theorem symbol_short (t : Str) (h : ∀ b r, t = 92 :: b :: r → letterB b.toNat = false) : longSym t ≤ 3 := by
  obtain ⟨h1, h2, h3⟩ := longSym_spec t
  rcases h2 with h2 | ⟨x, hx, hp, hlen⟩
  · omega
  · have ho := syms_long x hx
    unfold longOk at ho
    split at ho
    · rename_i b r
      obtain ⟨z, rfl⟩ := hp
      rw [h b (r ++ z) rfl] at ho
      simp at ho
      rw [hlen, ho]; simp
    · simp at ho; omega
theorem symTry_long (s : Str) (i : Nat) : ∀ n, n ≤ s.length - i → longSym (s.drop i) ≤ n → symTry s i n = if longSym (s.drop i) = 0 then piece 0 0 8 else piece 4 (longSym (s.drop i)) 0
  | 0, _, h => by
    have := (longSym_spec (s.drop i)).1
    rw [if_pos (by omega)]; rfl
  | n + 1, hn, h => by
    obtain ⟨h1, h2, h3⟩ := longSym_spec (s.drop i)
    unfold symTry
    rw [sub_eq]
    cases hs : isSym ((s.drop i).take (n + 1))
    · simp only [Bool.false_eq_true, if_false]
      refine symTry_long s i n (by omega) ?_
      rcases h2 with h2 | ⟨x, hx, hp, hlen⟩
      · omega
      · rcases Int.lt_or_le (longSym (s.drop i)) ((n + 1 : Nat) : Int) with h4 | h4
        · omega
        · exfalso
          have hxl : x.length = n + 1 := by omega
          rw [← hxl, ← List.prefix_iff_eq_take.1 hp, (isSym_iff x).2 hx] at hs
          simp at hs
    · simp only [if_true]
      rw [isSym_iff] at hs
      have := h3 _ hs (List.take_prefix _ _)
      rw [List.length_take, List.length_drop] at this
      have e : longSym (s.drop i) = ((n + 1 : Nat) : Int) := by omega
      rw [if_neg (by omega), e]
end Go.Proofs.YtlmmgblghgmgeaaGreatDoor
