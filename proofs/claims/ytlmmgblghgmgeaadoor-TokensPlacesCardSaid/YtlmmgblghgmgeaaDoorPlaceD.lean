/- Between tokens stand blanks; each token is accepted. -/
import Derived.Test.YtlmmgblghgmgeaaDoorPlaceC
namespace Go.Proofs.YtlmmgblghgmgeaaDoor
open Go Ev
set_option linter.unusedSimpArgs false

theorem line_is (l : List Str) (i : Nat) (h : i < l.length) : l.getD i [] = l[i] := by simp [List.getD_eq_getElem?_getD, h]
/-- From a place of a text to another one there are only blanks. -/
structure Clear (l w : List Str) (a b x y : Nat) : Prop where
  le : a < x ∨ (a = x ∧ b ≤ y)
  hx : x ≤ l.length
  hy : y ≤ lineLen l x
  hb : b ≤ lineLen l a
  same : w.length = l.length ∧ ∀ p, lineLen w p = lineLen l p
  blank : ∀ p q, p < l.length → q < lineLen l p → ¬ (p < a ∨ (p = a ∧ q < b)) → (p < x ∨ (p = x ∧ q < y)) → (w.getD p []).getD q 0 = 32
theorem lineLen_over (l : List Str) (i : Nat) (h : l.length ≤ i) : lineLen l i = 0 := by simp [lineLen, List.getD_eq_getElem?_getD, h]
theorem Clear.turn {l w : List Str} {a b x y : Nat} (h : Clear l w a b x y) (ha : a < x) (hb : lineLen l a ≤ b) : Clear l w (a + 1) 0 x y where
  le := by omega
  hx := h.hx
  hy := h.hy
  hb := Nat.zero_le _
  same := h.same
  blank p q hp hq h1 h2 := h.blank p q hp hq (by
    intro h3
    rcases h3 with h3 | ⟨rfl, h3⟩
    · omega
    · omega) h2
theorem Clear.step {l w : List Str} {a b x y : Nat} (h : Clear l w a b x y) (hl : a < x ∨ b < y) (hb : b < lineLen l a) : Clear l w a (b + 1) x y where
  le := by have := h.le; omega
  hx := h.hx
  hy := h.hy
  hb := by omega
  same := h.same
  blank p q hp hq h1 h2 := h.blank p q hp hq (by omega) h2
theorem withoutP_get (l : List Str) (cs : List Sp) (h : ∀ c ∈ cs, SpOk (lens l) c) (p : Nat) : (withoutP l cs).getD p [] = if p < l.length then blankChars cs p 0 (l.getD p []) else [] := by
  rw [without_ref l cs h, List.getD_eq_getElem?_getD, refBlanked_get, Nat.zero_add]
  by_cases hp : p < l.length
  · rw [if_pos hp, List.getElem?_eq_getElem hp, line_is l p hp]; rfl
  · rw [if_neg hp, List.getElem?_eq_none (by omega)]; rfl
theorem withoutP_line (l : List Str) (cs : List Sp) (h : ∀ c ∈ cs, SpOk (lens l) c) (p : Nat) : lineLen (withoutP l cs) p = lineLen l p := by
  unfold lineLen
  rw [withoutP_get l cs h]
  split
  · exact blankChars_len _ _ _ _
  · rename_i hp
    simp [List.getD_eq_getElem?_getD, Nat.le_of_not_lt hp]
theorem withoutP_len2 (l : List Str) (cs : List Sp) (h : ∀ c ∈ cs, SpOk (lens l) c) : (withoutP l cs).length = l.length := by
  rw [without_ref l cs h]
  have hg := fun j => refBlanked_get cs l 0 j
  have h1 := hg l.length
  have h2 := fun (hh : 0 < l.length) => hg (l.length - 1)
  rcases Nat.lt_trichotomy (refBlanked cs 0 l).length l.length with h3 | h3 | h3
  · have := h2 (by omega)
    rw [List.getElem?_eq_none (by omega), List.getElem?_eq_getElem (by omega)] at this
    simp at this
  · exact h3
  · rw [List.getElem?_eq_getElem h3, List.getElem?_eq_none (by omega)] at h1
    simp at h1
theorem withoutP_at (l : List Str) (cs : List Sp) (h : ∀ c ∈ cs, SpOk (lens l) c) (p q : Nat) (hp : p < l.length) (hq : q < l[p].length) (hb : l[p][q] = 32 ∨ ∃ c ∈ cs, inSpan p q c = true) : ((withoutP l cs).getD p []).getD q 0 = 32 := by
  rw [withoutP_get l cs h, if_pos hp, line_is l p hp, List.getD_eq_getElem?_getD, blankChars_get, Nat.zero_add, List.getElem?_eq_getElem hq]
  simp only [Option.map_some, Option.getD_some]
  rcases hb with hb | ⟨c, hc, hb⟩
  · rw [hb]; simp
  · rw [if_pos]
    unfold withinP
    exact List.any_eq_true.2 ⟨c, hc, hb⟩
/-- The place behind some of the tokens. -/
def Behind (ts : List Tk) (i a b : Nat) : Prop := (i = 0 ∧ a = 0 ∧ b = 0) ∨ ∃ k, ∃ h : k < ts.length, i = k + 1 ∧ ts[k].line = a ∧ ts[k].col + ts[k].text.length = b
theorem clear_of {l : List Str} {I J : Nat} {ts : List Tk} {cs : List Sp} (hs : Standing l I J ts cs) (hI : l.length ≤ I) (hc : ∀ c ∈ cs, SpOk (lens l) c) (i a b x y : Nat) (hp : Behind ts i a b)
    (ht : (i = ts.length ∧ x = l.length ∧ y = 0) ∨ ∃ h : i < ts.length, ts[i].line = x ∧ ts[i].col = y) : Clear l (withoutP l cs) a b x y := by
  have hget : ∀ k (h : k < ts.length), Stands l I J ts[k] := fun k h => hs.each _ (List.getElem_mem h)
  have hasc : ∀ j k (hj : j < ts.length) (hk : k < ts.length), j < k → Before ts[j] ts[k] := fun j k hj hk hjk => List.pairwise_iff_getElem.1 hs.asc j k hj hk hjk
  have hx : x ≤ l.length ∧ y ≤ lineLen l x := by
    rcases ht with ⟨_, rfl, rfl⟩ | ⟨h, h1, h2⟩
    · exact ⟨Nat.le_refl _, Nat.zero_le _⟩
    · obtain ⟨⟨x', y', e1, e2, ⟨h3, h4, _⟩, _⟩, _⟩ := hget i h
      have e1' : x = x' := by omega
      have e2' : y = y' := by omega
      subst e1'; subst e2'
      exact ⟨by omega, by rw [lineLen_eq l x h3]; omega⟩
  have hb : b ≤ lineLen l a ∧ (a < l.length ∨ (a = 0 ∧ b = 0)) := by
    rcases hp with ⟨_, rfl, rfl⟩ | ⟨k, h, _, h1, h2⟩
    · exact ⟨Nat.zero_le _, .inr ⟨rfl, rfl⟩⟩
    · obtain ⟨⟨x', y', e1, e2, ⟨h3, h4, _⟩, _⟩, _⟩ := hget k h
      have e1' : a = x' := by omega
      subst e1'
      exact ⟨by rw [lineLen_eq l a h3]; omega, .inl h3⟩
  refine ⟨?_, hx.1, hx.2, hb.1, ⟨withoutP_len2 l cs hc, withoutP_line l cs hc⟩, fun p q hp' hq hn hlt => ?_⟩
  · rcases ht with ⟨h0, rfl, rfl⟩ | ⟨h, h1, h2⟩
    · have := hb.2; omega
    · rcases hp with ⟨_, rfl, rfl⟩ | ⟨k, hk, h3, h4, h5⟩
      · omega
      · have := hasc k i hk h (by omega)
        unfold Before at this
        omega
  · rw [lineLen_eq l p hp'] at hq
    refine withoutP_at l cs hc p q hp' hq ?_
    rcases hs.cover p q hp' hq (.inl (by omega)) with h1 | h1 | ⟨t, h1, h2, h3, h4⟩
    · exact .inl h1
    · exact .inr h1
    · exfalso
      obtain ⟨k, hk, rfl⟩ := List.getElem_of_mem h1
      rcases Nat.lt_or_ge k i with h5 | h5
      · rcases hp with ⟨rfl, _⟩ | ⟨j, hj, h6, h7, h8⟩
        · omega
        · rcases Nat.lt_or_ge k j with h9 | h9
          · have := hasc k j hk hj h9
            unfold Before at this
            obtain ⟨⟨x', y', e1, e2, _, _⟩, _⟩ := hget j hj
            omega
          · have : k = j := by omega
            subst this
            omega
      · rcases ht with ⟨h0, _⟩ | ⟨h, h6, h7⟩
        · omega
        · rcases Nat.lt_or_ge i k with h9 | h9
          · have := hasc i k h hk h9
            unfold Before at this
            omega
          · have : k = i := by omega
            subst this
            omega
theorem pieceT_kind (c : UInt8) (r : Str) : spansB (pieceT c r).kind 0 5 = true := by
  unfold pieceT
  repeat' split
  all_goals first | rfl | skip
  · unfold textT; split <;> rfl
  · unfold symT; simp only; split <;> rfl
theorem oneTok_kind (x : Str) (k : Int) (h : oneTok x = some k) : spansB k 0 5 = true := by
  rw [oneTok_first] at h
  cases x with
  | nil => simp [firstTok] at h
  | cons c r =>
    unfold firstTok at h
    simp only at h
    split at h
    · simp at h
    · split at h
      · simp only [Option.some.injEq, Prod.mk.injEq] at h
        rw [← h.1]; exact pieceT_kind c r
      · simp at h
theorem check_placed {l : List Str} {I J : Nat} {t : Tk} (hs : Stands l I J t) (hl : l.length ≤ 300) (hc : ∀ s ∈ l, s.length ≤ 120 ∧ oddS s = false) : checkTokenP t = 0 := by
  obtain ⟨⟨x, y, e1, e2, ⟨h3, h4, h5⟩, _⟩, h6⟩ := hs
  obtain ⟨h7, h8⟩ := hc l[x] (List.getElem_mem h3)
  have ho : oddS t.text = false := by
    rw [oddS_any, List.any_eq_false] at h8 ⊢
    intro b hb
    refine h8 b ?_
    rw [← h5] at hb
    exact List.mem_of_mem_drop (List.mem_of_mem_take hb)
  have ht : textErrP t = 0 := by
    unfold textErrP
    rw [if_pos (oneTok_kind _ _ h6), isRead_one, ho, h6]
    simp
  unfold checkTokenP
  rw [ht, e1, e2]
  have : spansB (x : Int) 0 299 = true ∧ spansB (y : Int) 0 (120 - t.text.length) = true := by
    simp only [spansB, Bool.and_eq_true, decide_eq_true_eq]; omega
  rw [this.1, this.2]
  rfl
end Go.Proofs.YtlmmgblghgmgeaaDoor
