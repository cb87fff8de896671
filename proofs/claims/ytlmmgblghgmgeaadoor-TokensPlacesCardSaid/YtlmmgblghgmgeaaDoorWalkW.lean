/- A text without its comments: the call, as one that is known. -/
import Derived.Test.YtlmmgblghgmgeaaDoorPureM
import Derived.Test.YtlmmgblghgmgeaaDoorOver
namespace Go.Proofs.YtlmmgblghgmgeaaDoor
open Go Ev Go.RowKit
set_option maxRecDepth 100000
set_option linter.unusedSimpArgs false

theorem freshClone_sound : FreshSound Tryd.prog freshClone := fun f args z els h => by
  unfold freshClone at h
  split at h
  case isFalse => simp at h
  rename_i hf
  subst hf
  split at h
  case h_2 => simp at h
  rename_i els2 tk
  split at h
  case isFalse => simp at h
  rename_i hc
  obtain ⟨h1, h2, h3⟩ := hc
  simp only [Option.some.injEq, Prod.mk.injEq] at h
  obtain ⟨rfl, rfl⟩ := h
  obtain ⟨l, rfl⟩ : ∃ l, els2 = strs l := by
    clear h2
    induction els2 with
    | nil => exact ⟨[], rfl⟩
    | cons e r ih =>
      simp only [isStrs, List.all_cons, Bool.and_eq_true] at h1
      obtain ⟨l, hl⟩ := ih h1.2
      have h1 := h1.1
      split at h1
      · exact ⟨_ :: l, by rw [hl]; rfl⟩
      · simp at h1
  exact clone_fresh l tk h3 (by simpa [strs] using h2)
theorem without_sim (l : List Str) (tk : Tok) (ht : Fx tk) (hl : l.length ≤ 400) (hx : ∀ x ∈ l, x.length < 2 ^ 40) : SimCall Tryd.prog 11 [.sl 1 (strs l) tk] [] (withoutR l) [] := by
  obtain ⟨c, hc⟩ : ∃ c, Tryd.f11.body = some c := ⟨_, rfl⟩
  have hok := without_ok
  rw [hc] at hok
  obtain ⟨h1, h2⟩ := readP_spans l
  exact fnO_sound planFollows (E := envWithout) (evc_sound plan_ok) ⟨freshClone_sound, noTurn_sound _⟩ Tryd.func11 hc rfl (Nat.le_refl _) hok Tryd.call11 (without_ev l tk ht hl h1 h2 hx c hc)
theorem few_small {l : List Str} (h : fewP l = true) : l.length ≤ 305 ∧ ∀ x ∈ l, x.length < 2 ^ 40 := by
  simp only [fewP, Bool.and_eq_true, decide_eq_true_eq] at h
  refine ⟨by omega, fun x hx => ?_⟩
  have h9 := h.1
  rw [List.take_of_length_le (by omega), List.all_eq_true] at h9
  have := h9 x hx
  simp at this; omega
end Go.Proofs.YtlmmgblghgmgeaaDoor
