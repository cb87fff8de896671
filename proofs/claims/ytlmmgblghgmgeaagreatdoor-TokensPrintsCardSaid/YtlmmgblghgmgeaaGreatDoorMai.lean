/- The texts RefG, PureB, PureC, PureD, PureE, merged. -/
import Derived.Test.YtlmmgblghgmgeaaGreatDoorMag
import Derived.Test.YtlmmgblghgmgeaaGreatDoorMah
import Derived.Test.YtlmmgblghgmgeaaGreatDoorMad
import Derived.Lib.TrimByte
set_option linter.unusedVariables false
set_option linter.unusedSimpArgs false
/- The reference reads a text, evaluated. -/
namespace Go.Proofs.YtlmmgblghgmgeaaGreatDoor
open Go Ev
set_option maxRecDepth 100000
set_option linter.unusedSimpArgs false

/-- What begins at a place, as numbers. -/
def atT (s : Str) (i : Nat) : Pc :=
  match atP s i with
  | .agg [.int _ a, .int _ b, .int _ d] => ⟨a, b, d⟩
  | _ => ⟨0, 0, 8⟩
def PcIs (x : AV) : Prop := ∃ a b d, x = .agg [.int .i64 a, .int .i64 b, .int .i64 d]
theorem atP_is (s : Str) (i : Nat) : PcIs (atP s i) := by
  unfold PcIs atP
  split
  · exact ⟨_, _, _, rfl⟩
  split
  · exact wordP_is s i
  split
  · exact quotedP_is s i
  split
  · exact ⟨_, _, _, rfl⟩
  split
  · split
    · exact ⟨_, _, _, rfl⟩
    · exact ⟨_, _, _, rfl⟩
  · exact symTry_is s i _
theorem atP_eq (s : Str) (i : Nat) : atP s i = .agg [.int .i64 (atT s i).kind, .int .i64 (atT s i).len, .int .i64 (atT s i).err] := by
  obtain ⟨a, b, d, h⟩ := atP_is s i
  unfold atT
  rw [h]
/-- A piece that is no error lies within its line. -/
def PcIn (s : Str) (i : Nat) (x : AV) : Prop := ∀ a b, x = .agg [.int .i64 a, .int .i64 b, .int .i64 0] → 0 < b ∧ b ≤ ((s.length - i : Nat) : Int)
theorem pcIn_err {s : Str} {i : Nat} {a b e : Int} (h : e ≠ 0) : PcIn s i (piece a b e) := fun a' b' he => by
  simp [piece] at he; exact absurd he.2.2 h
theorem pcIn_mk {s : Str} {i : Nat} {a b e : Int} (h1 : 0 < b) (h2 : b ≤ ((s.length - i : Nat) : Int)) : PcIn s i (piece a b e) := fun a' b' he => by
  simp [piece] at he; omega
theorem sub_len (s : Str) (i n : Nat) (h : i + n ≤ s.length) : (sub s i n).length = n := by rw [sub_eq, List.length_take, List.length_drop]; omega
theorem run_drop_le (p : UInt8 → Bool) (s : Str) (i : Nat) : run p (s.drop i) ≤ s.length - i := by
  have := run_le p (s.drop i); rwa [List.length_drop] at this
theorem run_pos {p : UInt8 → Bool} {s : Str} {i : Nat} (h : i < s.length) (hp : p s[i] = true) : 0 < run p (s.drop i) := by
  rw [run_drop p s i h, if_pos hp]; omega
theorem wordP_in (s : Str) (i : Nat) (hi : i < s.length) (hw : wordB s[i].toNat = true) : PcIn s i (wordP s i) := by
  have h1 := run_drop_le (fun b => wordB b.toNat) s i
  have h2 := run_drop_le (fun b => digitB b.toNat) s i
  have h3 := run_pos (p := fun b => wordB b.toNat) hi hw
  have h4 := sub_len s i (run (fun b => wordB b.toNat) (s.drop i)) (by omega)
  unfold wordP wordTail
  rw [h4]
  split
  · split
    · rename_i h
      simp only [Bool.and_eq_true, decide_eq_true_eq] at h
      exact pcIn_mk (by omega) (by omega)
    · split
      · exact pcIn_err (by decide)
      · split <;> exact pcIn_mk (by omega) (by omega)
  · split
    · exact pcIn_mk (by omega) (by omega)
    · split
      · exact pcIn_err (by decide)
      · split
        · exact pcIn_err (by decide)
        · rename_i h5 _ _
          exact pcIn_mk (by omega) (by omega)
theorem quotedP_in (s : Str) (i : Nat) (hi : i < s.length) : PcIn s i (quotedP s i) := by
  have h1 := run_drop_le (fun b => (b.toNat : Int) != 34) s (i + 1)
  unfold quotedP
  simp only
  split
  · exact pcIn_err (by decide)
  split
  · exact pcIn_err (by decide)
  split
  · exact pcIn_err (by decide)
  · exact pcIn_mk (by omega) (by omega)
theorem symTry_in (s : Str) (i : Nat) : ∀ n, n ≤ s.length - i → PcIn s i (symTry s i n)
  | 0, _ => pcIn_err (by decide)
  | n + 1, h => by
    unfold symTry
    split
    · exact pcIn_mk (by omega) (by omega)
    · exact symTry_in s i n (by omega)
theorem atP_in (s : Str) (i : Nat) (hi : i < s.length) : PcIn s i (atP s i) := by
  have hg : s.getD i 0 = s[i] := by simp [List.getD_eq_getElem?_getD, hi]
  unfold atP
  rw [hg]
  split
  · rename_i h
    simp only [Bool.and_eq_true, decide_eq_true_eq] at h
    have := run_drop_le (fun b => (b.toNat : Int) == (s.getD i 0).toNat) s i
    refine pcIn_mk (by omega) ?_
    unfold sameP; omega
  split
  · exact wordP_in s i hi (by assumption)
  split
  · exact quotedP_in s i hi
  split
  · exact pcIn_err (by decide)
  split
  · rename_i h
    simp only [Bool.and_eq_true, decide_eq_true_eq] at h
    have := run_drop_le (fun b => letterB b.toNat) s (i + 1)
    split
    · exact pcIn_mk (by omega) (by omega)
    · exact pcIn_err (by decide)
  · exact symTry_in s i _ (by omega)
theorem atT_in (s : Str) (i : Nat) (hi : i < s.length) (h : (atT s i).err = 0) : 0 < (atT s i).len ∧ (atT s i).len ≤ ((s.length - i : Nat) : Int) :=
  atP_in s i hi (atT s i).kind (atT s i).len (by rw [atP_eq, h])
/-- One step of the reference: the error, and how far it has come. -/
def refStep (l : List Str) (n : Nat) (s : St) : Int × St :=
  if s.j < lineLen l s.i then
    (if (((l.getD s.i []).getD s.j 0).toNat : Int) == 32 then (0, { s with j := s.j + 1 })
    else if two (l.getD s.i []) s.j == [92, 42] then (0, { s with j := lineLen l s.i, cs := s.cs ++ [⟨s.i, s.j, s.i, lineLen l s.i⟩] })
    else if two (l.getD s.i []) s.j == [40, 42] then
      (if (refCom l n s.i s.j 0).1 then (0, { s with i := (refCom l n s.i s.j 0).2.1, j := (refCom l n s.i s.j 0).2.2, cs := s.cs ++ [⟨s.i, s.j, (refCom l n s.i s.j 0).2.1, (refCom l n s.i s.j 0).2.2⟩] }) else (15, s))
    else if (atT (l.getD s.i []) s.j).err != 0 then ((atT (l.getD s.i []) s.j).err, s)
    else (0, { s with j := s.j + (atT (l.getD s.i []) s.j).len.toNat, ts := s.ts ++ [⟨(atT (l.getD s.i []) s.j).kind, sub (l.getD s.i []) s.j (atT (l.getD s.i []) s.j).len.toNat, s.i, s.j⟩] }))
  else (0, { s with i := s.i + 1, j := 0 })
def refLoop (l : List Str) (n : Nat) : Nat → St → Int × St
  | 0, s => (0, s)
  | k + 1, s => if s.i < l.length then (if (refStep l n s).1 != 0 then refStep l n s else refLoop l n k (refStep l n s).2) else (0, s)
def refAll (l : List Str) : Int × St := refLoop l (total l + 1) (total l + 1) st0
theorem refCom_range (l : List Str) : ∀ (n i j : Nat) (d : Int) (q : Bool × Nat × Nat), refCom l n i j d = q → (i < l.length → j ≤ lineLen l i) → i ≤ l.length →
    q.2.1 ≤ l.length ∧ (q.2.1 < l.length → q.2.2 ≤ lineLen l q.2.1) ∧ (q.1 = true → q.2.1 < l.length ∧ left l q.2.1 q.2.2 < left l i j)
  | 0, i, j, d, q, hq, hj, hi => by
    subst hq
    exact ⟨hi, hj, by simp [refCom]⟩
  | n + 1, i, j, d, q, hq, hj, hi => by
    rw [refCom] at hq
    by_cases h : i < l.length
    · rw [dif_pos h] at hq
      have hjl := hj h
      have hle := lineLen_eq l i h
      have htwo : ∀ {x : Str}, x ≠ [] → (two l[i] j == x) = true → j + 2 ≤ l[i].length := fun hx he => by
        rcases Nat.lt_or_ge (j + 1) l[i].length with h1 | h1
        · exact h1
        · unfold two at he
          rw [if_neg (by omega)] at he
          simp at he; exact absurd he.symm (by simpa using hx)
      split at hq
      · rename_i h0
        have s1 := left_step l i j 1 h (by omega)
        split at hq
        · rename_i h1
          have h5 := htwo (by simp) h1
          have s2 := left_step l i j 2 h (by omega)
          split at hq
          · subst hq
            exact ⟨hi, fun _ => by simp only; omega, fun _ => ⟨h, by simp only; omega⟩⟩
          · obtain ⟨h1, h2, h3⟩ := refCom_range l n i (j + 2) (d + 1) q hq (fun _ => by omega) hi
            exact ⟨h1, h2, fun ht => ⟨(h3 ht).1, by have := (h3 ht).2; omega⟩⟩
        · split at hq
          · rename_i h1
            have h5 := htwo (by simp) h1
            have s2 := left_step l i j 2 h (by omega)
            split at hq
            · subst hq
              exact ⟨hi, fun _ => by simp only; omega, fun _ => ⟨h, by simp only; omega⟩⟩
            · obtain ⟨h1, h2, h3⟩ := refCom_range l n i (j + 2) (d - 1) q hq (fun _ => by omega) hi
              exact ⟨h1, h2, fun ht => ⟨(h3 ht).1, by have := (h3 ht).2; omega⟩⟩
          · split at hq
            · subst hq
              exact ⟨hi, fun _ => by simp only; omega, fun _ => ⟨h, by simp only; omega⟩⟩
            · obtain ⟨h1, h2, h3⟩ := refCom_range l n i (j + 1) d q hq (fun _ => by omega) hi
              exact ⟨h1, h2, fun ht => ⟨(h3 ht).1, by have := (h3 ht).2; omega⟩⟩
      · obtain ⟨h1, h2, h3⟩ := refCom_range l n (i + 1) 0 d q hq (fun _ => Nat.zero_le _) h
        have := left_turn l i j h hjl
        exact ⟨h1, h2, fun ht => ⟨(h3 ht).1, by have := (h3 ht).2; omega⟩⟩
    · rw [dif_neg h] at hq
      subst hq
      exact ⟨hi, hj, by simp⟩
theorem refStep_ok (l : List Str) (n k : Nat) (s : St) (hi : s.i < l.length) (h : s.Ok l n) : (refStep l k s).2.Ok l n ∧ ((refStep l k s).1 = 0 → left l (refStep l k s).2.i (refStep l k s).2.j < left l s.i s.j) := by
  obtain ⟨i, j, ts, cs⟩ := s
  obtain ⟨_, hj, hn⟩ := h
  simp only at hi hj hn
  have hj := hj hi
  have hle := lineLen_eq l i hi
  have hg : l.getD i [] = l[i] := by simp [List.getD_eq_getElem?_getD, hi]
  unfold refStep
  simp only [hg]
  split
  · rename_i h0
    split
    · have := left_step l i j 1 hi (by omega)
      exact ⟨⟨by simp only; omega, fun _ => by simp only; omega, by simp only; omega⟩, fun _ => by simp only; omega⟩
    split
    · have := left_step l i j (lineLen l i - j) hi (by omega)
      rw [show j + (lineLen l i - j) = lineLen l i by omega] at this
      exact ⟨⟨by simp only; omega, fun _ => by simp only; omega, by simp only [List.length_append, List.length_cons, List.length_nil]; omega⟩, fun _ => by simp only; omega⟩
    split
    · split
      · rename_i h1
        obtain ⟨h2, h3, h4⟩ := refCom_range l k i j 0 _ rfl (fun _ => hj) (by omega)
        obtain ⟨h5, h6⟩ := h4 h1
        exact ⟨⟨by simp only; omega, fun h => by simp only at h ⊢; exact h3 h, by simp only [List.length_append, List.length_cons, List.length_nil]; omega⟩, fun _ => h6⟩
      · exact ⟨⟨by simp only; omega, fun _ => hj, hn⟩, by simp⟩
    split
    · rename_i h5
      exact ⟨⟨by simp only; omega, fun _ => hj, hn⟩, fun h => by rw [show (atT l[i] j).err = 0 from h] at h5; simp at h5⟩
    · rename_i h5
      have h6 : (atT l[i] j).err = 0 := by simpa using h5
      obtain ⟨h7, h8⟩ := atT_in l[i] j (by omega) h6
      have := left_step l i j (atT l[i] j).len.toNat hi (by omega)
      exact ⟨⟨by simp only; omega, fun _ => by simp only; omega, by simp only [List.length_append, List.length_cons, List.length_nil]; omega⟩, fun _ => by simp only; omega⟩
  · have := left_turn l i j hi hj
    exact ⟨⟨by simp only; omega, fun _ => Nat.zero_le _, by simp only; omega⟩, fun _ => this⟩
def RefInv (l : List Str) (R : Int × St) (q : Nat × St) : Prop := q.2.Ok l (total l) ∧ left l q.2.i q.2.j < q.1 ∧ refLoop l (total l + 1) q.1 q.2 = R
theorem RefInv.start (l : List Str) : RefInv l (refAll l) (total l + 1, st0) := ⟨st0_ok l, by simp [st0, total], rfl⟩
theorem RefInv.step {l : List Str} {R : Int × St} {k : Nat} {s : St} (h : RefInv l R (k, s)) (hi : s.i < l.length) (h0 : (refStep l (total l + 1) s).1 = 0) : ∃ k', k = k' + 1 ∧ RefInv l R (k', (refStep l (total l + 1) s).2) := by
  obtain ⟨h1, h2, h3⟩ := h
  simp only at h1 h2 h3
  obtain ⟨k, rfl⟩ : ∃ k', k = k' + 1 := ⟨k - 1, by omega⟩
  obtain ⟨h4, h5⟩ := refStep_ok l (total l) (total l + 1) s hi h1
  refine ⟨k, rfl, h4, by have := h5 h0; simp only; omega, ?_⟩
  rw [refLoop, if_pos hi, h0] at h3
  exact h3
theorem RefInv.stop {l : List Str} {R : Int × St} {k : Nat} {s : St} (h : RefInv l R (k, s)) (hi : s.i < l.length) (h0 : (refStep l (total l + 1) s).1 ≠ 0) : R = refStep l (total l + 1) s := by
  obtain ⟨h1, h2, h3⟩ := h
  simp only at h1 h2 h3
  obtain ⟨k, rfl⟩ : ∃ k', k = k' + 1 := ⟨k - 1, by omega⟩
  rw [refLoop, if_pos hi, if_pos (by simpa using h0)] at h3
  exact h3.symm
theorem RefInv.over {l : List Str} {R : Int × St} {k : Nat} {s : St} (h : RefInv l R (k, s)) (hi : ¬ s.i < l.length) : R = (0, s) := by
  obtain ⟨h1, h2, h3⟩ := h
  simp only at h1 h2 h3
  obtain ⟨k, rfl⟩ : ∃ k', k = k' + 1 := ⟨k - 1, by omega⟩
  rw [refLoop, if_neg hi] at h3
  exact h3.symm
end Go.Proofs.YtlmmgblghgmgeaaGreatDoor

/- The program's pieces are the reference's: symbols, numbers. -/
namespace Go.Proofs.YtlmmgblghgmgeaaGreatDoor
open Go Ev
set_option linter.unusedSimpArgs false

theorem sym_any (x : Str) : isSym x = allSyms.any (fun y => y == x) := by
  have hp : symL.isPerm allSyms = true := by decide +kernel
  have hperm := List.isPerm_iff.1 hp
  unfold isSym
  cases h : allSyms.any (fun y => y == x)
  · rw [List.any_eq_false] at h ⊢
    exact fun y hy => h y (hperm.mem_iff.1 hy)
  · rw [List.any_eq_true] at h ⊢
    obtain ⟨y, hy, he⟩ := h
    exact ⟨y, hperm.mem_iff.2 hy, he⟩
theorem isSym_iff (x : Str) : isSym x = true ↔ x ∈ allSyms := by
  rw [sym_any, List.any_eq_true]
  constructor
  · rintro ⟨y, hy, he⟩
    have : y = x := by simpa using he
    exact this ▸ hy
  · exact fun h => ⟨x, h, by simp⟩
theorem longest_append (s : Str) (n : Int) (a b : List Str) : longest s n (a ++ b) = longest s (longest s n a) b := by
  unfold longest; rw [List.foldl_append]
theorem longest_spec (s : Str) : ∀ (l : List Str) (n : Int), n ≤ longest s n l ∧ (longest s n l = n ∨ ∃ x ∈ l, hasPre s x = true ∧ longest s n l = x.length) ∧ ∀ x ∈ l, hasPre s x = true → (x.length : Int) ≤ longest s n l
  | [], n => ⟨Int.le_refl _, .inl rfl, by simp⟩
  | x :: l, n => by
    show n ≤ longest s (if hasPre s x then maxI n x.length else n) l ∧ (longest s (if hasPre s x then maxI n x.length else n) l = n ∨ _) ∧ _
    obtain ⟨h1, h2, h3⟩ := longest_spec s l (if hasPre s x then maxI n x.length else n)
    have e : longest s n (x :: l) = longest s (if hasPre s x then maxI n x.length else n) l := rfl
    rw [e]
    cases hx : hasPre s x with
    | false =>
      simp only [hx, Bool.false_eq_true, if_false] at h1 h2 h3 ⊢
      refine ⟨h1, ?_, fun y hy hp => ?_⟩
      · rcases h2 with h2 | ⟨y, hy, hp, he⟩
        · exact .inl h2
        · exact .inr ⟨y, List.mem_cons_of_mem _ hy, hp, he⟩
      · rcases List.mem_cons.1 hy with rfl | hy
        · rw [hx] at hp; simp at hp
        · exact h3 y hy hp
    | true =>
      simp only [hx, if_true] at h1 h2 h3 ⊢
      have hm : maxI n x.length = n ∧ (x.length : Int) ≤ n ∨ maxI n x.length = x.length ∧ n ≤ x.length := by
        unfold maxI; split
        · exact .inr ⟨rfl, by omega⟩
        · exact .inl ⟨rfl, by omega⟩
      refine ⟨by rcases hm with h | h <;> omega, ?_, fun y hy hp => ?_⟩
      · rcases h2 with h2 | ⟨y, hy, hp, he⟩
        · rcases hm with h | h
          · exact .inl (by omega)
          · exact .inr ⟨x, by simp, hx, by omega⟩
        · exact .inr ⟨y, List.mem_cons_of_mem _ hy, hp, he⟩
      · rcases List.mem_cons.1 hy with rfl | hy
        · rcases hm with h | h <;> omega
        · exact h3 y hy hp
theorem hasPre_iff (s p : Str) : hasPre s p = true ↔ p <+: s := by
  unfold hasPre
  simp only [Bool.and_eq_true, decide_eq_true_eq, beq_iff_eq]
  rw [List.prefix_iff_eq_take]
  constructor
  · rintro ⟨_, h⟩; exact h.symm
  · intro h
    refine ⟨?_, h.symm⟩
    have := congrArg List.length h
    rw [List.length_take] at this; omega
/-- The longest symbol with which a text begins. -/
def longSym (t : Str) : Int := longest t (longest t 0 plainL) (othersL.map (·.1))
theorem longSym_eq (t : Str) : longSym t = longest t 0 allSyms := by
  unfold longSym allSyms; rw [longest_append]
theorem longSym_spec (t : Str) : 0 ≤ longSym t ∧ (longSym t = 0 ∨ ∃ x ∈ allSyms, x <+: t ∧ longSym t = x.length) ∧ ∀ x ∈ allSyms, x <+: t → (x.length : Int) ≤ longSym t := by
  rw [longSym_eq]
  obtain ⟨h1, h2, h3⟩ := longest_spec t allSyms 0
  refine ⟨h1, ?_, fun x hx hp => h3 x hx ((hasPre_iff t x).2 hp)⟩
  rcases h2 with h2 | ⟨x, hx, hp, he⟩
  · exact .inl h2
  · exact .inr ⟨x, hx, (hasPre_iff t x).1 hp, he⟩
/-- Long symbols are backslashes with letters. -/
def longOk (x : Str) : Bool :=
  match x with
  | 92 :: b :: r => if letterB b.toNat then r.all fun b => letterB b.toNat else r.isEmpty
  | x => decide (x.length ≤ 3)
theorem syms_long : ∀ x ∈ allSyms, longOk x = true := by
  have : allSyms.all longOk = true := by decide +kernel
  exact fun x hx => List.all_eq_true.1 this x hx
theorem syms_ne : ∀ x ∈ allSyms, x ≠ [] := by
  have : allSyms.all (fun x => !x.isEmpty) = true := by decide +kernel
  intro x hx he
  have := List.all_eq_true.1 this x hx
  rw [he] at this; simp at this
theorem prefix_run {p : UInt8 → Bool} {x r : Str} (h : x <+: r) (ha : x.all p = true) : x.length ≤ run p r := by
  obtain ⟨z, rfl⟩ := h
  unfold run
  induction x with
  | nil => simp
  | cons b x ih =>
    simp only [List.all_cons, Bool.and_eq_true] at ha
    simp only [List.cons_append, List.takeWhile_cons, ha.1, if_true, List.length_cons]
    have := ih ha.2
    omega
/-- A backslash with letters. -/
theorem symbol_letters (b : UInt8) (r : Str) (hb : letterB b.toNat = true) :
    (longSym (92 :: b :: r) = (run (fun b => letterB b.toNat) (b :: r) : Int) + 1) ↔ isSym ((92 :: b :: r).take (run (fun b => letterB b.toNat) (b :: r) + 1)) = true := by
  obtain ⟨h1, h2, h3⟩ := longSym_spec (92 :: b :: r)
  have hle := run_le (fun b => letterB b.toNat) (b :: r)
  generalize hk : run (fun b => letterB b.toNat) (b :: r) = k at hle ⊢
  simp only [List.length_cons] at hle
  constructor
  · intro he
    rcases h2 with h2 | ⟨x, hx, hp, hlen⟩
    · omega
    · rw [isSym_iff]
      have hxl : x.length = k + 1 := by omega
      rw [← hxl, ← List.prefix_iff_eq_take.1 hp]
      exact hx
  · intro hs
    rw [isSym_iff] at hs
    have hp : (92 :: b :: r).take (k + 1) <+: 92 :: b :: r := List.take_prefix _ _
    have hl := h3 _ hs hp
    rw [List.length_take, List.length_cons, List.length_cons] at hl
    rcases h2 with h2 | ⟨x, hx, hpx, hlen⟩
    · omega
    · have hxk : x.length ≤ k + 1 := by
        have ho := syms_long x hx
        match x, hpx, ho, hlen with
        | [], _, _, _ => simp
        | [a], _, _, _ => simp
        | a :: a2 :: x', hpx, ho, _ =>
          obtain ⟨rfl, hp2⟩ := List.cons_prefix_cons.1 hpx
          obtain ⟨rfl, hp3⟩ := List.cons_prefix_cons.1 hp2
          simp only [longOk, hb, if_true] at ho
          have := prefix_run (p := fun b => letterB b.toNat) (x := a2 :: x') hp2 (by simp [hb]; simpa using ho)
          rw [hk] at this
          simpa using this
      omega
/-- Any other symbol has at most three characters. -/
theorem symbol_short (t : Str) (h : ∀ b r, t = 92 :: b :: r → letterB b.toNat = false) : longSym t ≤ 3 := by
  obtain ⟨h1, h2, h3⟩ := longSym_spec t
  rcases h2 with h2 | ⟨x, hx, hp, hlen⟩
  · omega
  · have ho := syms_long x hx
    unfold longOk at ho
    split at ho
    · rename_i b r
      obtain ⟨z, rfl⟩ := hp
      rw [h b (r ++ z) rfl] at ho
      simp at ho
      rw [hlen, ho]; simp
    · simp at ho; omega
theorem symTry_long (s : Str) (i : Nat) : ∀ n, n ≤ s.length - i → longSym (s.drop i) ≤ n → symTry s i n = if longSym (s.drop i) = 0 then piece 0 0 8 else piece 4 (longSym (s.drop i)) 0
  | 0, _, h => by
    have := (longSym_spec (s.drop i)).1
    rw [if_pos (by omega)]; rfl
  | n + 1, hn, h => by
    obtain ⟨h1, h2, h3⟩ := longSym_spec (s.drop i)
    unfold symTry
    rw [sub_eq]
    cases hs : isSym ((s.drop i).take (n + 1))
    · simp only [Bool.false_eq_true, if_false]
      refine symTry_long s i n (by omega) ?_
      rcases h2 with h2 | ⟨x, hx, hp, hlen⟩
      · omega
      · rcases Int.lt_or_le (longSym (s.drop i)) ((n + 1 : Nat) : Int) with h4 | h4
        · omega
        · exfalso
          have hxl : x.length = n + 1 := by omega
          rw [← hxl, ← List.prefix_iff_eq_take.1 hp, (isSym_iff x).2 hx] at hs
          simp at hs
    · simp only [if_true]
      rw [isSym_iff] at hs
      have := h3 _ hs (List.take_prefix _ _)
      rw [List.length_take, List.length_drop] at this
      have e : longSym (s.drop i) = ((n + 1 : Nat) : Int) := by omega
      rw [if_neg (by omega), e]
end Go.Proofs.YtlmmgblghgmgeaaGreatDoor

/- The program's pieces are the reference's. -/
namespace Go.Proofs.YtlmmgblghgmgeaaGreatDoor
open Go Ev
set_option linter.unusedSimpArgs false

/-- The same error; without one, the same kind and length. -/
def SameP (p : Pc) (x : AV) : Prop := ∃ k l, x = piece k l p.err ∧ (p.err = 0 → k = p.kind ∧ l = p.len)
theorem sameP_refl (k l e : Int) : SameP ⟨k, l, e⟩ (piece k l e) := ⟨k, l, rfl, fun _ => ⟨rfl, rfl⟩⟩
theorem sameP_err {k l k' l' e : Int} (h : e ≠ 0) : SameP ⟨k, l, e⟩ (piece k' l' e) := ⟨k', l', rfl, fun h' => absurd h' h⟩
theorem byte_of (c : UInt8) (n : Nat) (hn : n < 256) (h : c.toNat = n) : c = n.toUInt8 := by
  have : c.toNat = (n.toUInt8).toNat := by
    rw [h]; simp [Nat.toUInt8, UInt8.toNat_ofNat']; omega
  exact UInt8.toNat_inj.1 this
theorem firstOf_0 (l : List Int) : firstOf (0 :: l) = firstOf l := rfl
theorem firstOf_8 (l : List Int) : firstOf (8 :: l) = 8 := rfl
theorem firstOf_2 (l : List Int) : firstOf (2 :: l) = 2 := rfl
theorem firstOf_3 (l : List Int) : firstOf (3 :: l) = 3 := rfl
theorem firstOf_n : firstOf [] = 0 := rfl
/-! ### texts in quotation marks -/
theorem indexByte_run (b : UInt8) : ∀ s : Str, Lib.indexByte s b = if run (fun x => (x.toNat : Int) != b.toNat) s = s.length then -1 else (run (fun x => (x.toNat : Int) != b.toNat) s : Int)
  | [] => rfl
  | x :: s => by
    have ih := indexByte_run b s
    have hle := run_le (fun x => (x.toNat : Int) != b.toNat) s
    unfold Lib.indexByte
    cases h : (x == b)
    · have hx : ((x.toNat : Int) != b.toNat) = true := by
        have : x ≠ b := by simpa using h
        have : x.toNat ≠ b.toNat := fun he => this (UInt8.toNat_inj.1 he)
        simp; omega
      have hr : run (fun x => (x.toNat : Int) != b.toNat) (x :: s) = run (fun x => (x.toNat : Int) != b.toNat) s + 1 := by
        unfold run; rw [List.takeWhile_cons, if_pos hx]; rfl
      rw [hr, ih]
      simp only [Bool.false_eq_true, if_false, List.length_cons]
      by_cases he : run (fun x => (x.toNat : Int) != b.toNat) s = s.length
      · simp [he]
      · have h1 : ¬ ((run (fun x => (x.toNat : Int) != b.toNat) s : Int) == -1) = true := by simp <;> omega
        have h2 : ¬ run (fun x => (x.toNat : Int) != b.toNat) s + 1 = s.length + 1 := by omega
        simp only [if_neg he, if_neg h1, if_neg h2]
        omega
    · have hx : ((x.toNat : Int) != b.toNat) = false := by
        have : x = b := by simpa using h
        subst this; simp
      have hr : run (fun x => (x.toNat : Int) != b.toNat) (x :: s) = 0 := by
        unfold run; rw [List.takeWhile_cons, hx]; rfl
      rw [hr]
      simp
theorem indexByte_has (b : UInt8) (s : Str) : decide (0 ≤ Lib.indexByte s b) = s.any (fun x => (x.toNat : Int) == b.toNat) := by
  induction s with
  | nil => rfl
  | cons x s ih =>
    unfold Lib.indexByte
    cases h : (x == b)
    · have hx : ((x.toNat : Int) == b.toNat) = false := by
        have : x ≠ b := by simpa using h
        have : x.toNat ≠ b.toNat := fun he => this (UInt8.toNat_inj.1 he)
        simp; omega
      rw [List.any_cons, hx, ← ih]
      have := (indexByte_lt s b).1
      by_cases he : Lib.indexByte s b = -1
      · simp [he]
      · have : ¬ (Lib.indexByte s b == -1) = true := by simpa using he
        simp only [Bool.false_eq_true, if_false, if_neg this, Bool.false_or]
        have h1 : 0 ≤ Lib.indexByte s b + 1 := by omega
        have h2 : 0 ≤ Lib.indexByte s b := by omega
        simp [h1, h2]
    · have : x = b := by simpa using h
      subst this
      simp
theorem quoted_same (s : Str) (j : Nat) (c : UInt8) (r : Str) (h : s.drop j = c :: r) : SameP (textT r) (quotedP s j) := by
  have hj : j < s.length := by
    rcases Nat.lt_or_ge j s.length with h' | h'
    · exact h'
    · rw [List.drop_eq_nil_of_le h'] at h; simp at h
  have hr : s.drop (j + 1) = r := by rw [List.drop_eq_getElem_cons hj] at h; exact (List.cons.inj h).2
  have hrl : r.length = s.length - (j + 1) := by rw [← hr, List.length_drop]
  unfold textT quotedP
  simp only [hr]
  have hi := indexByte_run 34 r
  have e34 : (fun x : UInt8 => (x.toNat : Int) != (34 : UInt8).toNat) = fun x => (x.toNat : Int) != 34 := rfl
  rw [e34] at hi
  have hle := run_le (fun b => (b.toNat : Int) != 34) r
  generalize run (fun b => (b.toNat : Int) != 34) r = q at hi hle ⊢
  by_cases hq : q = r.length
  · have hi' : Lib.indexByte r 34 = -1 := by rw [hi, if_pos hq]
    have a2 : j + 1 + q = s.length := by omega
    rw [if_pos (show Lib.indexByte r 34 < 0 by rw [hi']; decide), if_pos a2]
    exact sameP_err (by decide)
  · have hi' : Lib.indexByte r 34 = q := by rw [hi, if_neg hq]
    have a2 : ¬ j + 1 + q = s.length := by omega
    rw [if_neg (show ¬ Lib.indexByte r 34 < 0 by omega), if_neg a2, hi']
    have ha := indexByte_has 92 (r.take q)
    have e92 : (fun x : UInt8 => (x.toNat : Int) == (92 : UInt8).toNat) = fun x => (x.toNat : Int) == 92 := rfl
    rw [e92] at ha
    simp only [Int.toNat_natCast, ha]
    cases (r.take q).any (fun x => (x.toNat : Int) == 92)
    · by_cases h40 : (40 : Int) < q
      · have h40' : (q : Int) > 40 := h40
        simp only [h40, h40', decide_true, if_true, Bool.false_eq_true, if_false, firstOf_0, firstOf_2]
        exact sameP_err (by decide)
      · have h40' : ¬ (q : Int) > 40 := h40
        simp only [h40, h40', decide_false, Bool.false_eq_true, if_false, firstOf_0, firstOf_n]
        exact sameP_refl _ _ _
    · simp only [if_true, firstOf_8]
      exact sameP_err (by decide)
/-! ### numbers -/
theorem numOf_val (s : Str) (hd : ∀ b ∈ s, digitB b.toNat = true) : ∀ i, i ≤ s.length → numOf (s.take i) = min (valOf (s.take i)) 10001
  | 0, _ => by rw [List.take_zero]; show (0 : Int) = min 0 10001; omega
  | i + 1, h => by
    have ih := numOf_val s hd i (by omega)
    have hr := digit_range (hd s[i] (List.getElem_mem (by omega)))
    have hv := (valOf_range s hd i (by omega)).1
    rw [numOf_take s i (by omega), valOf_take s i (by omega), ih]
    omega
theorem valOf_ge (s : Str) (hd : ∀ b ∈ s, digitB b.toNat = true) (h0 : 0 < s.length) (h1 : s[0].toNat ≠ 48) : ∀ i, i < s.length → 10 ^ i ≤ valOf (s.take (i + 1))
  | 0, h => by
    have hr := digit_range (hd s[0] (List.getElem_mem h0))
    rw [valOf_take s 0 h]
    simp [valOf]; omega
  | i + 1, h => by
    have ih := valOf_ge s hd h0 h1 i (by omega)
    have hr := digit_range (hd s[i + 1] (List.getElem_mem h))
    rw [valOf_take s (i + 1) h, Int.pow_succ]
    omega
theorem number_same (g : Str) (hd : ∀ b ∈ g, digitB b.toNat = true) (h0 : 0 < g.length) :
    SameP ⟨2, g.length, numErr g⟩ (if (g.getD 0 0).toNat == 48 && decide (1 < g.length) then piece 0 0 8 else if !(bReadP g).2 || decide ((bReadP g).1 > 10000) then piece 0 0 3 else piece 2 g.length 0) := by
  have hg : g.getD 0 0 = g[0] := by simp [List.getD_eq_getElem?_getD, h0]
  have hn := numOf_val g hd g.length (Nat.le_refl _)
  rw [List.take_length] at hn
  unfold numErr bReadP
  rw [hg]
  by_cases h1 : (g[0].toNat == 48 && decide (1 < g.length)) = true
  · have h2 : g[0].toNat = 48 ∧ 1 < g.length := by simpa using h1
    have h3 : (decide ((1 : Int) < g.length) && ((g[0].toNat : Int) == 48)) = true := by simp; omega
    rw [if_pos h1, h3]
    simp only [if_true, firstOf_8]
    exact sameP_err (by decide)
  · have h1' : (g[0].toNat == 48 && decide (1 < g.length)) = false := by simpa using h1
    have h3 : (decide ((1 : Int) < g.length) && ((g[0].toNat : Int) == 48)) = false := by
      cases h4 : decide ((1 : Int) < g.length)
      · rfl
      · have : 1 < g.length := by simp at h4; omega
        have h5 : g[0].toNat ≠ 48 := fun he => by simp [he, this] at h1
        simp; omega
    rw [if_neg h1, h3]
    simp only [Bool.false_eq_true, if_false, firstOf_0]
    by_cases h9 : g.length ≤ 9
    · have hs : spansB g.length 1 9 = true := by simp [spansB]; omega
      rw [hs]
      simp only [Bool.not_true, Bool.or_false, Bool.false_eq_true, if_false]
      by_cases hv : valOf g > 10000
      · have : numOf g > 10000 := by omega
        simp only [hv, this, Bool.not_true, decide_true, Bool.false_or, if_true, firstOf_3]
        exact sameP_err (e := 3) (by decide)
      · have : ¬ numOf g > 10000 := by omega
        simp only [hv, this, Bool.not_true, decide_false, Bool.false_or, if_false, Bool.false_eq_true, firstOf_0, firstOf_n]
        exact sameP_refl _ _ _
    · have hs : spansB g.length 1 9 = false := by simp [spansB]; omega
      rw [hs]
      simp only [Bool.not_false, Bool.or_false, if_true, Bool.true_or]
      have h5 : g[0].toNat ≠ 48 := fun he => by
        have : 1 < g.length := by omega
        simp [he, this] at h1
      have hge := valOf_ge g hd h0 h5 (g.length - 1) (by omega)
      rw [show g.length - 1 + 1 = g.length by omega, List.take_length] at hge
      have hp : (10 : Int) ^ 9 ≤ 10 ^ (g.length - 1) := by
        have := Nat.pow_le_pow_right (n := 10) (by omega) (show 9 ≤ g.length - 1 by omega)
        exact_mod_cast this
      have : numOf g > 10000 := by omega
      simp only [this, if_true, firstOf_3]
      exact sameP_err (e := 3) (by decide)
end Go.Proofs.YtlmmgblghgmgeaaGreatDoor

/- The program's pieces are the reference's. -/
namespace Go.Proofs.YtlmmgblghgmgeaaGreatDoor
open Go Ev
set_option linter.unusedSimpArgs false

theorem trim_same (n : Nat) (c : UInt8) : Lib.trimB (List.replicate n c) c = [] := by
  unfold Lib.trimB Lib.trimLeftB Lib.trimRightB
  have h : ∀ l : Str, (∀ b ∈ l, b = c) → l.dropWhile (· == c) = [] := fun l => by
    induction l with
    | nil => intro _; rfl
    | cons a l ih =>
      intro hl
      have : a = c := hl a (by simp)
      rw [List.dropWhile_cons, if_pos (by simp [this])]
      exact ih fun b hb => hl b (by simp [hb])
  have h1 : ((List.replicate n c).reverse.dropWhile (· == c)) = [] := h _ fun b hb => by simp at hb; exact hb.2
  rw [h1]
  rfl
theorem trim_other (n : Nat) (c d : UInt8) (h : c ≠ d) : Lib.trimB (List.replicate n c) d = List.replicate n c := by
  unfold Lib.trimB Lib.trimLeftB Lib.trimRightB
  have hk : ∀ l : Str, (∀ b ∈ l, b = c) → l.dropWhile (· == d) = l := fun l hl => by
    cases l with
    | nil => rfl
    | cons a l =>
      have : a = c := hl a (by simp)
      rw [List.dropWhile_cons, if_neg (by simp [this, h])]
  have hr : ∀ b ∈ List.replicate n c, b = c := fun b hb => (List.mem_replicate.1 hb).2
  rw [List.reverse_replicate, hk _ hr, List.reverse_replicate, hk _ hr]
theorem sign_rep (c : UInt8) (r : Str) : (c :: r).take (signOf c r) = List.replicate (signOf c r) c := by
  refine List.eq_replicate_iff.2 ⟨?_, fun b hb => ?_⟩
  · rw [List.length_take]
    have := run_le (fun b => (b.toNat : Int) == c.toNat) (c :: r)
    unfold signOf; omega
  · unfold signOf at hb
    rw [take_run] at hb
    have := takeWhile_all _ _ b hb
    have : b.toNat = c.toNat := by simp at this; omega
    exact UInt8.toNat_inj.1 this
theorem sign_pos (c : UInt8) (r : Str) : 0 < signOf c r := by
  unfold signOf run
  rw [List.takeWhile_cons, if_pos (by simp)]; simp
theorem rule_eq (c : UInt8) (r : Str) : isRuleB ((c :: r).take (signOf c r)) = (decide (4 ≤ signOf c r) && (((c.toNat : Int) == 45) || ((c.toNat : Int) == 61))) := by
  have hp := sign_pos c r
  rw [sign_rep]
  generalize signOf c r = n at hp
  have hne : (List.replicate n c == ([] : Str)) = false := by
    cases n with
    | zero => omega
    | succ n => rfl
  unfold isRuleB
  rw [List.length_replicate]
  by_cases h1 : c.toNat = 45
  · have : c = 45 := byte_of c 45 (by decide) h1
    subst this
    rw [trim_same]; rfl
  · have hc1 : c ≠ 45 := fun he => h1 (by rw [he]; rfl)
    have e1 : ((c.toNat : Int) == 45) = false := by simp <;> omega
    rw [trim_other n c 45 hc1, hne, e1]
    by_cases h2 : c.toNat = 61
    · have : c = 61 := byte_of c 61 (by decide) h2
      subst this
      rw [trim_same]; rfl
    · have hc2 : c ≠ 61 := fun he => h2 (by rw [he]; rfl)
      have e2 : ((c.toNat : Int) == 61) = false := by simp <;> omega
      rw [trim_other n c 61 hc2, hne, e2]
theorem idxIn_any (x : Str) : ∀ (l : List Str) (n : Int), 0 ≤ n → decide (0 ≤ idxIn x l n) = l.any (fun y => y == x)
  | [], n, _ => rfl
  | y :: l, n, h => by
    unfold idxIn
    rw [List.any_cons]
    cases h1 : (x == y)
    · have h2 : (y == x) = false := by
        have : x ≠ y := by simpa using h1
        simp; exact fun he => this he.symm
      rw [h2]
      simp only [Bool.false_eq_true, if_false, Bool.false_or]
      exact idxIn_any x l (n + 1) (by omega)
    · have h2 : (y == x) = true := by
        have : x = y := by simpa using h1
        simp [this]
      rw [h2]
      simp [h]
theorem word_ascii {b : UInt8} (h : wordB b.toNat = true) : b.toNat < 128 := by
  simp only [wordB, letterB, digitB, spansB, Bool.or_eq_true, Bool.and_eq_true, decide_eq_true_eq, beq_iff_eq] at h
  omega
theorem hasLetter_any (t : Str) : hasLetter (wordOf t) = (wordOf t).any (fun b => letterB b.toNat) := by
  unfold hasLetter
  have hw : ∀ b ∈ wordOf t, wordB b.toNat = true := fun b hb => by
    unfold wordOf at hb
    rw [take_run] at hb
    exact takeWhile_all _ _ b hb
  have := idx_any (fun x => letterB (x % 256)) (wordOf t) fun b hb => .inl (word_ascii (hw b hb))
  rw [this]
  congr 1
  funext b
  rw [Nat.mod_eq_of_lt b.toNat_lt]
theorem under_sym (r : Str) : longSym (95 :: r) = 1 := by
  obtain ⟨h1, h2, h3⟩ := longSym_spec (95 :: r)
  have hm : ([95] : Str) ∈ allSyms := by decide +kernel
  have hl := h3 _ hm ⟨r, rfl⟩
  rcases h2 with h2 | ⟨x, hx, hp, hlen⟩
  · simp at hl; omega
  · have ho : allSyms.all (fun x => match x with | 95 :: y => y.isEmpty | _ => true) = true := by decide +kernel
    have hxo := List.all_eq_true.1 ho x hx
    have hne := syms_ne x hx
    match x, hxo, hp, hne, hlen with
    | [], _, _, hne, _ => exact absurd rfl hne
    | a :: y, hxo, hp, _, hlen =>
      obtain ⟨rfl, _⟩ := List.cons_prefix_cons.1 hp
      simp at hxo
      rw [hlen, hxo]; rfl
end Go.Proofs.YtlmmgblghgmgeaaGreatDoor

/- What begins at a place is the same for both. -/
namespace Go.Proofs.YtlmmgblghgmgeaaGreatDoor
open Go Ev
set_option linter.unusedSimpArgs false

theorem word_same (s : Str) (j : Nat) (c : UInt8) (r : Str) (h : s.drop j = c :: r) (hw : wordB c.toNat = true) : SameP (pieceT c r) (wordP s j) := by
  have hany := hasLetter_any (c :: r)
  have hwl := run_le (fun b => wordB b.toNat) (c :: r)
  have hdl := run_le (fun b => digitB b.toNat) (c :: r)
  have hpos : 0 < run (fun b => wordB b.toNat) (c :: r) := by
    unfold run; rw [List.takeWhile_cons, if_pos hw]; simp
  have hWm : c ∈ wordOf (c :: r) := by
    unfold wordOf; rw [take_run, List.takeWhile_cons, if_pos hw]; simp
  have hlen : (wordOf (c :: r)).length = run (fun b => wordB b.toNat) (c :: r) := by unfold wordOf; rw [take_len]
  have hdg : (digitsOf (c :: r)).length = run (fun b => digitB b.toNat) (c :: r) := by unfold digitsOf; rw [take_len]
  have hdd : ∀ b ∈ digitsOf (c :: r), digitB b.toNat = true := fun b hb => by
    unfold digitsOf at hb
    rw [take_run] at hb
    exact takeWhile_all _ _ b hb
  have hc34 : ((c.toNat : Int) == 34) = false := by
    cases h34 : ((c.toNat : Int) == 34)
    · rfl
    · have : c.toNat = 34 := by simp at h34; omega
      rw [this] at hw; exact absurd hw (by decide)
  have hc45 : ((c.toNat : Int) == 45) = false := by
    cases h45 : ((c.toNat : Int) == 45)
    · rfl
    · have : c.toNat = 45 := by simp at h45; omega
      rw [this] at hw; exact absurd hw (by decide)
  have hc61 : ((c.toNat : Int) == 61) = false := by
    cases h61 : ((c.toNat : Int) == 61)
    · rfl
    · have : c.toNat = 61 := by simp at h61; omega
      rw [this] at hw; exact absurd hw (by decide)
  have hc92 : ((c.toNat : Int) == 92) = false := by
    cases h92 : ((c.toNat : Int) == 92)
    · rfl
    · have : c.toNat = 92 := by simp at h92; omega
      rw [this] at hw; exact absurd hw (by decide)
  have hrule := rule_eq c r
  rw [hc45, hc61] at hrule
  simp only [Bool.or_false, Bool.and_false] at hrule
  have hsub : ∀ n, sub s j n = (c :: r).take n := fun n => by rw [sub_eq, h]
  unfold wordP
  rw [h, hsub]
  have hW : (c :: r).take (run (fun b => wordB b.toNat) (c :: r)) = wordOf (c :: r) := rfl
  rw [hW]
  unfold wordTail pieceT
  rw [hany, hrule, hc34, hsub, hdg]
  have hD : (c :: r).take (run (fun b => digitB b.toNat) (c :: r)) = digitsOf (c :: r) := rfl
  rw [hD]
  have hres := idxIn_any (wordOf (c :: r)) reservedL 0 (by decide)
  rw [hres]
  have hcnt : (0 < (wordOf (c :: r)).countP fun b => letterB b.toNat) ↔ (wordOf (c :: r)).any (fun b => letterB b.toNat) = true := by
    rw [List.countP_pos_iff, List.any_eq_true]
  have hWF : hasPre (wordOf (c :: r)) [87, 70, 95] = (decide ((2 : Int) < (wordOf (c :: r)).length) && ((wordOf (c :: r)).take 3 == [87, 70, 95])) := by
    unfold hasPre
    have : decide (([87, 70, 95] : Str).length ≤ (wordOf (c :: r)).length) = decide ((2 : Int) < (wordOf (c :: r)).length) := by
      simp only [List.length_cons, List.length_nil, decide_eq_decide]; omega
    rw [this]; rfl
  have hSF : hasPre (wordOf (c :: r)) [83, 70, 95] = (decide ((2 : Int) < (wordOf (c :: r)).length) && ((wordOf (c :: r)).take 3 == [83, 70, 95])) := by
    unfold hasPre
    have : decide (([83, 70, 95] : Str).length ≤ (wordOf (c :: r)).length) = decide ((2 : Int) < (wordOf (c :: r)).length) := by
      simp only [List.length_cons, List.length_nil, decide_eq_decide]; omega
    rw [this]; rfl
  have hpre : ∀ a b d : UInt8, letterB a.toNat = true → hasPre (wordOf (c :: r)) [a, b, d] = true → (wordOf (c :: r)).any (fun b => letterB b.toNat) = true := fun a b d ha hp => by
    obtain ⟨z, hz⟩ := (hasPre_iff _ _).1 hp
    rw [← hz]
    simp [ha]
  cases hl : (wordOf (c :: r)).any (fun b => letterB b.toNat)
  · have hnl : ¬ 0 < (wordOf (c :: r)).countP fun b => letterB b.toNat := fun hc => by rw [hcnt, hl] at hc; simp at hc
    have h1 : hasPre (wordOf (c :: r)) [87, 70, 95] = false := by
      cases hp : hasPre (wordOf (c :: r)) [87, 70, 95]
      · rfl
      · have := hpre _ _ _ (by decide) hp; rw [hl] at this; simp at this
    have h2 : hasPre (wordOf (c :: r)) [83, 70, 95] = false := by
      cases hp : hasPre (wordOf (c :: r)) [83, 70, 95]
      · rfl
      · have := hpre _ _ _ (by decide) hp; rw [hl] at this; simp at this
    have hcl : letterB c.toNat = false := by
      have := List.any_eq_false.1 hl c hWm
      simpa using this
    rw [if_neg hnl, h1, h2]
    simp only [Bool.or_false, Bool.false_eq_true, if_false]
    cases hd : digitB c.toNat
    · have hr0 : run (fun b => digitB b.toNat) (c :: r) = 0 := by
        unfold run; rw [List.takeWhile_cons, hd]; rfl
      rw [if_pos hr0]
      simp only [Bool.false_eq_true, if_false]
      have hc95 : c = 95 := by
        have : c.toNat = 95 := by
          unfold wordB at hw
          rw [hcl, hd] at hw
          simp at hw; omega
        exact byte_of c 95 (by decide) this
      have hy : symT c r = ⟨4, 1, 0⟩ := by
        have hu := under_sym r
        unfold symT
        simp only [hc92, Bool.false_and, Bool.false_eq_true, if_false]
        have : longest (c :: r) (longest (c :: r) 0 plainL) (othersL.map (·.1)) = 1 := by rw [hc95]; exact hu
        rw [this]; rfl
      rw [hy]
      exact sameP_refl _ _ _
    · have hr0 : ¬ run (fun b => digitB b.toNat) (c :: r) = 0 := by
        unfold run; rw [List.takeWhile_cons, if_pos hd]; simp
      rw [if_neg hr0]
      simp only [if_true]
      have := number_same (digitsOf (c :: r)) hdd (by omega)
      rw [hdg] at this
      exact this
  · have hnl : 0 < (wordOf (c :: r)).countP fun b => letterB b.toNat := hcnt.2 hl
    rw [if_pos hnl, hWF, hSF]
    generalize wordOf (c :: r) = W
    cases hA : decide ((2 : Int) < W.length) <;> cases hB : (W.take 3 == [87, 70, 95]) <;> cases hC : (W.take 3 == [83, 70, 95]) <;>
      simp only [Bool.false_and, Bool.true_and, Bool.or_false, Bool.false_or, Bool.or_true, Bool.true_or, Bool.false_eq_true, if_false, if_true] <;>
      first
      | exact sameP_refl _ _ _
      | (cases hE : decide ((24 : Int) < W.length)
         · simp only [Bool.false_eq_true, if_false]
           cases reservedL.any (fun y => y == W)
           · exact sameP_refl _ _ _
           · exact sameP_refl _ _ _
         · simp only [if_true]
           exact sameP_err (e := 7) (by decide))
theorem at_same (s : Str) (j : Nat) (c : UInt8) (r : Str) (h : s.drop j = c :: r) (hs : hasPre (c :: r) [42, 41] = false) : SameP (pieceT c r) (atP s j) := by
  have hj : j < s.length := by
    rcases Nat.lt_or_ge j s.length with h' | h'
    · exact h'
    · rw [List.drop_eq_nil_of_le h'] at h; simp at h
  have hd := h
  rw [List.drop_eq_getElem_cons hj] at hd
  obtain ⟨hc, hr⟩ := List.cons.inj hd
  have hg : s.getD j 0 = c := by simp [List.getD_eq_getElem?_getD, hj, hc]
  have hsm : sameP s j = signOf c r := by unfold sameP signOf; rw [hg, h]
  have hlen : s.length - j = r.length + 1 := by
    have := congrArg List.length h
    rw [List.length_drop] at this; simpa using this
  have hnext : decide (j + 1 < s.length) = !r.isEmpty := by
    cases r with
    | nil => simp at hlen ⊢; omega
    | cons b r => simp at hlen ⊢; omega
  have hsub : ∀ n, sub s j n = (c :: r).take n := fun n => by rw [sub_eq, h]
  have hstar : (decide (j + 1 < s.length) && (sub s j 2 == [42, 41])) = false := by
    rw [hnext, hsub]
    cases r with
    | nil => rfl
    | cons b r =>
      cases hx : ((c :: b :: r).take 2 == [42, 41])
      · simp
      · exfalso
        have : c = 42 ∧ b = 41 := by simpa using hx
        obtain ⟨rfl, rfl⟩ := this
        have h5 := (hasPre_iff (42 :: 41 :: r) [42, 41]).2 ⟨r, rfl⟩
        rw [h5] at hs
        simp at hs
  have hrule := rule_eq c r
  unfold atP
  rw [hg, hsm, hstar]
  simp only [Bool.false_eq_true, if_false]
  cases hw : wordB c.toNat
  · have hnotw : wordOf (c :: r) = [] := by
      unfold wordOf; rw [take_run, List.takeWhile_cons, hw]; rfl
    have hnd : digitB c.toNat = false := by
      cases hd : digitB c.toNat
      · rfl
      · unfold wordB at hw; rw [hd] at hw; simp at hw
    have hL : hasLetter [] = false := by decide
    have hp1 : hasPre [] [87, 70, 95] = false := rfl
    have hp2 : hasPre [] [83, 70, 95] = false := rfl
    have hpc : pieceT c r = if ((c.toNat : Int) == 34) then textT r else if (decide (4 ≤ signOf c r) && (((c.toNat : Int) == 45) || ((c.toNat : Int) == 61))) then ⟨5, signOf c r, 0⟩ else symT c r := by
      unfold pieceT
      rw [hnotw, hL, hp1, hp2, hnd, hrule]; rfl
    rw [hpc]
    simp only [Bool.false_eq_true, if_false]
    cases hR : (decide (4 ≤ signOf c r) && (((c.toNat : Int) == 45) || ((c.toNat : Int) == 61)))
    · have hR' : ((((c.toNat : Int) == 45) || ((c.toNat : Int) == 61)) && decide ((signOf c r : Int) > 3)) = false := by
        rw [Bool.and_comm, ← hR]
        congr 1
        simp only [decide_eq_decide]; omega
      rw [hR']
      simp only [Bool.false_eq_true, if_false]
      cases hq : ((c.toNat : Int) == 34)
      · simp only [Bool.false_eq_true, if_false]
        -- symbols
        have hls : ∀ n : Int, n = longSym (c :: r) → longest (c :: r) (longest (c :: r) 0 plainL) (othersL.map (·.1)) = n := fun n hn => hn ▸ rfl
        unfold symT
        simp only [hls _ rfl]
        cases hb : ((c.toNat : Int) == 92 && (decide (j + 1 < s.length) && letterB (s.getD (j + 1) 0).toNat))
        · have hk : (((c.toNat : Int) == 92) && decide ((run (fun b => letterB b.toNat) r : Int) > 0)) = false := by
            cases h92 : ((c.toNat : Int) == 92)
            · rfl
            · rw [h92, hnext] at hb
              cases r with
              | nil => simp [run]
              | cons b r' =>
                have hgb : s.getD (j + 1) 0 = b := by
                  have : s.drop (j + 1) = b :: r' := hr
                  have h1 : j + 1 < s.length := by simp at hlen; omega
                  rw [List.drop_eq_getElem_cons h1] at this
                  simp [List.getD_eq_getElem?_getD, h1, (List.cons.inj this).1]
                rw [hgb] at hb
                simp at hb
                have : run (fun b => letterB b.toNat) (b :: r') = 0 := by
                  unfold run; rw [List.takeWhile_cons, hb]; rfl
                rw [this]; simp
          rw [hk]
          simp only [Bool.false_eq_true, if_false]
          have hshort : longSym (c :: r) ≤ 3 := symbol_short _ fun b r' he => by
            obtain ⟨rfl, rfl⟩ := List.cons.inj he
            cases hlb : letterB b.toNat
            · rfl
            · exfalso
              have : 0 < run (fun b => letterB b.toNat) (b :: r') := by unfold run; rw [List.takeWhile_cons, if_pos hlb]; simp
              have h2 : decide ((run (fun b => letterB b.toNat) (b :: r') : Int) > 0) = true := by simp; omega
              rw [h2] at hk
              simp at hk
          have hle : longSym (c :: r) ≤ ((min 3 (s.length - j) : Nat) : Int) := by
            rcases (longSym_spec (c :: r)).2.1 with h0 | ⟨x, hx, hp, hxl⟩
            · omega
            · have := hp.length_le
              simp only [List.length_cons] at this
              omega
          have ht := symTry_long s j (min 3 (s.length - j)) (by omega) (by rw [h]; exact hle)
          rw [h] at ht
          rw [ht]
          by_cases h0 : longSym (c :: r) = 0
          · rw [if_pos h0, h0]
            exact sameP_err (e := 8) (by decide)
          · have : (longSym (c :: r) == 0) = false := by simp [h0]
            rw [if_neg h0, this]
            exact sameP_refl _ _ _
        · simp only [Bool.and_eq_true] at hb
          obtain ⟨hb1, hb2, hb3⟩ := hb
          rw [hnext] at hb2
          cases r with
          | nil => simp at hb2
          | cons b r' =>
            have hgb : s.getD (j + 1) 0 = b := by
              have : s.drop (j + 1) = b :: r' := hr
              have h1 : j + 1 < s.length := by simp at hlen; omega
              rw [List.drop_eq_getElem_cons h1] at this
              simp [List.getD_eq_getElem?_getD, h1, (List.cons.inj this).1]
            rw [hgb] at hb3
            have hc92 : c = 92 := byte_of c 92 (by decide) (by simp at hb1; omega)
            have hk0 : 0 < run (fun b => letterB b.toNat) (b :: r') := by unfold run; rw [List.takeWhile_cons, if_pos hb3]; simp
            have hk : (((c.toNat : Int) == 92) && decide ((run (fun b => letterB b.toNat) (b :: r') : Int) > 0)) = true := by
              rw [hb1]; simp; omega
            rw [hk]
            simp only [if_true]
            have hl := symbol_letters b r' hb3
            rw [hr, hsub]
            subst hc92
            cases hsy : isSym ((92 :: b :: r').take (run (fun b => letterB b.toNat) (b :: r') + 1))
            · have hne : ¬ longSym (92 :: b :: r') = (run (fun b => letterB b.toNat) (b :: r') : Int) + 1 := fun he => by rw [hl.1 he] at hsy; simp at hsy
              have : (longSym (92 :: b :: r') != (run (fun b => letterB b.toNat) (b :: r') : Int) + 1) = true := by simpa using hne
              rw [this]
              simp only [if_true, Bool.false_eq_true, if_false]
              exact sameP_err (e := 8) (by decide)
            · have he := hl.2 hsy
              have : (longSym (92 :: b :: r') != (run (fun b => letterB b.toNat) (b :: r') : Int) + 1) = false := by simpa using he
              rw [this]
              simp only [if_true, Bool.false_eq_true, if_false]
              have e1 : ((run (fun b => letterB b.toNat) (b :: r') + 1 : Nat) : Int) = (run (fun b => letterB b.toNat) (b :: r') : Int) + 1 := by omega
              rw [e1]
              exact sameP_refl _ _ _
      · simp only [if_true]
        exact quoted_same s j c r h
    · have hR' : ((((c.toNat : Int) == 45) || ((c.toNat : Int) == 61)) && decide ((signOf c r : Int) > 3)) = true := by
        rw [Bool.and_comm, ← hR]
        congr 1
        simp only [decide_eq_decide]; omega
      have hq : ((c.toNat : Int) == 34) = false := by
        simp only [Bool.and_eq_true, Bool.or_eq_true] at hR
        rcases hR.2 with h1 | h1 <;> simp at h1 ⊢ <;> omega
      rw [hR', hq]
      simp only [if_true, Bool.false_eq_true, if_false]
      exact sameP_refl _ _ _
  · have hR' : ((((c.toNat : Int) == 45) || ((c.toNat : Int) == 61)) && decide ((signOf c r : Int) > 3)) = false := by
      cases h1 : ((c.toNat : Int) == 45)
      · cases h2 : ((c.toNat : Int) == 61)
        · rfl
        · have : c.toNat = 61 := by simp at h2; omega
          rw [this] at hw; exact absurd hw (by decide)
      · have : c.toNat = 45 := by simp at h1; omega
        rw [this] at hw; exact absurd hw (by decide)
    rw [hR']
    simp only [Bool.false_eq_true, if_false, if_true]
    exact word_same s j c r h hw
end Go.Proofs.YtlmmgblghgmgeaaGreatDoor
