/- A text without its comments is the reference's. -/
import Derived.Test.YtlmmgblghgmgeaaGreatDoorPureM
import Derived.Test.YtlmmgblghgmgeaaGreatDoorRefK
namespace Go.Proofs.YtlmmgblghgmgeaaGreatDoor
open Go Ev Go.RowKit
set_option linter.unusedSimpArgs false

theorem blankChars_get (cs : List Sp) (i : Nat) : ∀ (s : Str) (k0 k : Nat), (blankChars cs i k0 s)[k]? = (s[k]?).map fun b => if withinP cs i ((k0 + k : Nat) : Int) then 32 else b
  | [], k0, k => by simp [blankChars]
  | b :: r, k0, 0 => by simp [blankChars]
  | b :: r, k0, k + 1 => by
    simp only [blankChars, List.getElem?_cons_succ]
    rw [blankChars_get cs i r (k0 + 1) k]
    rw [show k0 + 1 + k = k0 + (k + 1) by omega]
theorem blankLine_get (s : Str) (a b k : Nat) (h1 : a ≤ b) (h2 : b ≤ s.length) : (blankLine s a b)[k]? = (s[k]?).map fun x => if a ≤ k ∧ k < b then 32 else x := by
  unfold blankLine
  rw [repeatL_one]
  have hta : (s.take a).length = a := by rw [List.length_take]; omega
  rcases Nat.lt_or_ge k a with h3 | h3
  · rw [List.append_assoc, List.getElem?_append_left (by omega), List.getElem?_take, if_pos h3]
    have : ¬ (a ≤ k ∧ k < b) := by omega
    cases s[k]? <;> simp [this]
  · rcases Nat.lt_or_ge k b with h4 | h4
    · rw [List.append_assoc, List.getElem?_append_right (by omega), hta, List.getElem?_append_left (by simp; omega), List.getElem?_replicate, if_pos (by omega)]
      have : s[k]? = some s[k] := by simp
      rw [this]
      simp [h3, h4]
    · rw [List.getElem?_append_right (by simp [hta]; omega)]
      have hl : (s.take a ++ List.replicate (b - a) 32).length = b := by simp [hta]; omega
      rw [hl, List.getElem?_drop, show b + (k - b) = k by omega]
      have : ¬ (a ≤ k ∧ k < b) := by omega
      cases s[k]? <;> simp [this]
theorem blankAt_get (c : Sp) (out : List Str) (i j : Nat) (h : i < out.length) : (blankAt c out i).getD j [] = if j = i then blankLine (out.getD i []) (spanFrom c i) (spanTo c (out.getD i []).length i) else out.getD j [] := by
  unfold blankAt
  simp only [List.getD_eq_getElem?_getD, List.getElem?_set]
  by_cases hj : j = i
  · subst hj; simp [h]
  · rw [if_neg (fun he => hj he.symm), if_neg hj]
theorem blankGo_get (c : Sp) : ∀ (n i : Nat) (out : List Str) (j : Nat), i + n ≤ out.length → (blankGo c n i out).length = out.length ∧
    (blankGo c n i out).getD j [] = if i ≤ j ∧ j < i + n then blankLine (out.getD j []) (spanFrom c j) (spanTo c (out.getD j []).length j) else out.getD j []
  | 0, i, out, j, _ => ⟨rfl, by rw [if_neg (by omega)]; rfl⟩
  | n + 1, i, out, j, h => by
    have hl : (blankAt c out i).length = out.length := by simp [blankAt]
    obtain ⟨h1, h2⟩ := blankGo_get c n (i + 1) (blankAt c out i) j (by rw [hl]; omega)
    have hg := blankAt_get c out i j (by omega)
    refine ⟨by show (blankGo c n (i + 1) (blankAt c out i)).length = _; rw [h1, hl], ?_⟩
    show (blankGo c n (i + 1) (blankAt c out i)).getD j [] = _
    rw [h2]
    by_cases hj : j = i
    · subst hj
      rw [if_neg (by omega), if_pos (by omega), hg, if_pos rfl]
    · rw [if_neg hj] at hg
      rw [hg]
      by_cases hj2 : i + 1 ≤ j ∧ j < i + 1 + n
      · rw [if_pos hj2, if_pos (by omega)]
      · rw [if_neg hj2, if_neg (by omega)]
theorem withinP_snoc (cs : List Sp) (c : Sp) (i k : Int) : withinP (cs ++ [c]) i k = (withinP cs i k || inSpan i k c) := by
  simp [withinP]
theorem inSpan_iff {ns : List Nat} {c : Sp} (h : SpOk ns c) (i k : Nat) (hk : k < ns.getD i 0) : inSpan i k c = true ↔ (c.l0 ≤ i ∧ i < c.l0 + (c.l1 + 1 - c.l0)) ∧ spanFrom c i ≤ k ∧ k < spanTo c (ns.getD i 0) i := by
  obtain ⟨q1, q2, q3, q4, q5⟩ := h
  unfold inSpan beforeP spanFrom spanTo
  simp only [Bool.and_eq_true, Bool.not_eq_true', Bool.or_eq_false_iff, decide_eq_false_iff_not, Bool.and_eq_false_iff, beq_eq_false_iff_ne, Bool.or_eq_true, decide_eq_true_eq, beq_iff_eq]
  constructor
  · rintro ⟨⟨h1, h2⟩, h3⟩
    refine ⟨by omega, ?_, ?_⟩
    · split <;> omega
    · split <;> omega
  · rintro ⟨⟨h1, h2⟩, h3, h4⟩
    refine ⟨⟨by omega, ?_⟩, ?_⟩
    · by_cases hi : i = c.l0
      · rw [if_pos hi] at h3; right; omega
      · left; omega
    · by_cases hi : i = c.l1
      · rw [if_pos hi] at h4; right; omega
      · left; omega
/-- What has been blanked so far. -/
def Blanks (l out : List Str) (done : List Sp) : Prop := out.length = l.length ∧ ∀ i, i < l.length → out.getD i [] = blankChars done i 0 (l.getD i [])
theorem blankOne_step {l out : List Str} {done : List Sp} {c : Sp} (h : Blanks l out done) (hc : SpOk (lens l) c) : Blanks l (blankOne out c) (done ++ [c]) := by
  obtain ⟨h1, h2⟩ := h
  have hlt := hc.lt
  have hle := hc.le
  rw [lens_length] at hlt
  unfold blankOne
  refine ⟨(blankGo_get c _ c.l0 out 0 (by omega)).1.trans h1, fun i hi => ?_⟩
  rw [(blankGo_get c (c.l1 + 1 - c.l0) c.l0 out i (by omega)).2, h2 i hi]
  have hlen : (blankChars done i 0 (l.getD i [])).length = (lens l).getD i 0 := by rw [blankChars_len, lens_getD]
  apply List.ext_getElem?
  intro k
  rw [blankChars_get (done ++ [c]), withinP_snoc, Nat.zero_add]
  by_cases hr : c.l0 ≤ i ∧ i < c.l0 + (c.l1 + 1 - c.l0)
  · rw [if_pos hr]
    have hs := span_range hc i hr.1 (by omega)
    rw [hlen]
    rw [blankLine_get _ _ _ _ hs.1 (by rw [hlen]; exact hs.2), blankChars_get, Nat.zero_add]
    cases hk : (l.getD i [])[k]? with
    | none => rfl
    | some b =>
      have hkl : k < (lens l).getD i 0 := by
        rw [lens_getD]; exact (List.getElem?_eq_some_iff.1 hk).1
      have hin := inSpan_iff hc i k hkl
      simp only [Option.map_some]
      by_cases hin2 : inSpan i k c = true
      · rw [if_pos (hin.1 hin2).2, hin2, Bool.or_true]; rfl
      · have hin3 : inSpan i k c = false := by simpa using hin2
        rw [if_neg fun he => hin2 (hin.2 ⟨hr, he⟩), hin3, Bool.or_false]
  · rw [if_neg hr, blankChars_get, Nat.zero_add]
    cases hk : (l.getD i [])[k]? with
    | none => rfl
    | some b =>
      have hkl : k < (lens l).getD i 0 := by
        rw [lens_getD]; exact (List.getElem?_eq_some_iff.1 hk).1
      have hin3 : inSpan i k c = false := by
        cases hq : inSpan i k c with
        | false => rfl
        | true => exact absurd ((inSpan_iff hc i k hkl).1 hq).1 hr
      simp only [Option.map_some, hin3, Bool.or_false]
theorem without_blanks {l : List Str} : ∀ (cs done : List Sp) (out : List Str), Blanks l out done → (∀ c ∈ cs, SpOk (lens l) c) → Blanks l (cs.foldl blankOne out) (done ++ cs)
  | [], done, out, h, _ => by simpa using h
  | c :: cs, done, out, h, hc => by
    have := without_blanks cs (done ++ [c]) (blankOne out c) (blankOne_step h (hc c (by simp))) fun c' hc' => hc c' (List.mem_cons_of_mem _ hc')
    simpa using this
theorem refBlanked_get (cs : List Sp) : ∀ (l : List Str) (i0 j : Nat), (refBlanked cs i0 l)[j]? = (l[j]?).map (blankChars cs (i0 + j) 0)
  | [], i0, j => by simp [refBlanked]
  | s :: l, i0, 0 => by simp [refBlanked]
  | s :: l, i0, j + 1 => by
    simp only [refBlanked, List.getElem?_cons_succ]
    rw [refBlanked_get cs l (i0 + 1) j, show i0 + 1 + j = i0 + (j + 1) by omega]
theorem blankChars_nil (i : Nat) : ∀ (s : Str) (k : Nat), blankChars [] i k s = s
  | [], _ => rfl
  | b :: r, k => by
    simp only [blankChars, blankChars_nil i r (k + 1)]
    simp [withinP]
theorem without_ref (l : List Str) (cs : List Sp) (h : ∀ c ∈ cs, SpOk (lens l) c) : withoutP l cs = refBlanked cs 0 l := by
  have h0 : Blanks l l [] := ⟨rfl, fun i hi => by rw [blankChars_nil]⟩
  obtain ⟨h1, h2⟩ := without_blanks cs [] l h0 h
  rw [List.nil_append] at h2
  apply List.ext_getElem?
  intro j
  rw [refBlanked_get, Nat.zero_add]
  show (cs.foldl blankOne l)[j]? = _
  rcases Nat.lt_or_ge j l.length with hj | hj
  · have h3 := h2 j hj
    have e1 : (cs.foldl blankOne l)[j]? = some ((cs.foldl blankOne l).getD j []) := by
      simp [List.getD_eq_getElem?_getD, show j < (cs.foldl blankOne l).length by omega]
    have e2 : l[j]? = some (l.getD j []) := by simp [List.getD_eq_getElem?_getD, hj]
    rw [e1, e2, h3]; rfl
  · rw [List.getElem?_eq_none (by omega), List.getElem?_eq_none hj]; rfl
theorem eqTexts_refl : ∀ a : List Str, eqTexts a a = true
  | [] => rfl
  | x :: a => by simp [eqTexts, eqTexts_refl a]
theorem eqToks_refl : ∀ a : List Tk, eqToks a a = true
  | [] => rfl
  | x :: a => by simp [eqToks, sameTk, eqToks_refl a]
end Go.Proofs.YtlmmgblghgmgeaaGreatDoor
