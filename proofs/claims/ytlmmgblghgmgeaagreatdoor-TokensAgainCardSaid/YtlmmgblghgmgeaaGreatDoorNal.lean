/- The texts PrinC, Over, merged. -/
import Derived.Test.YtlmmgblghgmgeaaGreatDoorNak
import Derived.Test.YtlmmgblghgmgeaaGreatDoorNae
set_option linter.unusedVariables false
set_option linter.unusedSimpArgs false
/- Tokens printed at their places: what is computed, and how large it gets. -/
namespace Go.Proofs.YtlmmgblghgmgeaaGreatDoor
open Go Ev
set_option linter.unusedSimpArgs false

def padTo (out : List Str) (n : Nat) : List Str := out ++ List.replicate (n - out.length) []
def putTok (out : List Str) (t : Tk) : List Str :=
  (padTo out (t.line.toNat + 1)).set t.line.toNat ((padTo out (t.line.toNat + 1)).getD t.line.toNat [] ++ (List.replicate (t.col - ((padTo out (t.line.toNat + 1)).getD t.line.toNat []).length).toNat 32 ++ t.text))
/-- The error of a token behind another one, or behind none. -/
def stepErr (p : Option Tk) (t : Tk) : Int :=
  if checkTokenP t = 0 then (match p with | none => 0 | some a => behindP a t) else checkTokenP t
structure Pr where
  out : List Str
  i : Nat
  err : Int
def printGo : List Tk → Option Tk → Nat → List Str → Pr
  | [], _, i, out => ⟨out, i, 0⟩
  | t :: r, p, i, out => if stepErr p t = 0 then printGo r (some t) (i + 1) (putTok out t) else ⟨[], i, stepErr p t⟩
/-- Tokens printed: the lines (none with an error), the index, the error. -/
def printP (l : List Tk) : Pr :=
  if 1200 < l.length then ⟨[], 0, 2⟩
  else if (printGo l none 0 []).err = 0 then
    (if sameLen (readAll (printGo l none 0 []).out).2.ts l < l.length then ⟨[], sameLen (readAll (printGo l none 0 []).out).2.ts l, 14⟩ else ⟨(printGo l none 0 []).out, (printGo l none 0 []).out.length, 0⟩)
  else ⟨[], (printGo l none 0 []).i, (printGo l none 0 []).err⟩
theorem firstOf_zero {a b : Int} (h : firstOf [a, b] = 0) : a = 0 ∧ b = 0 := by
  by_cases h1 : a = 0
  · refine ⟨h1, ?_⟩
    by_cases h2 : b = 0
    · exact h2
    · simp [firstOf, h1, h2] at h
  · simp [firstOf, h1] at h
theorem check_range {t : Tk} (h : checkTokenP t = 0) : 0 ≤ t.line ∧ t.line ≤ 299 ∧ 0 ≤ t.col ∧ t.col + t.text.length ≤ 120 ∧ textErrP t = 0 := by
  obtain ⟨h1, h2⟩ := firstOf_zero h
  split at h2
  · rename_i h3
    simp only [spansB, Bool.and_eq_true, decide_eq_true_eq] at h3
    exact ⟨h3.1.1, h3.1.2, h3.2.1, by omega, h1⟩
  · omega
/-- What holds of the lines behind a token. -/
structure PrInv (p : Option Tk) (out : List Str) : Prop where
  none_ : p = none → out = []
  some_ : ∀ a, p = some a → checkTokenP a = 0 ∧ (out.length : Int) = a.line + 1 ∧ ((out.getD a.line.toNat []).length : Int) = a.col + a.text.length
  short : ∀ x ∈ out, x.length ≤ 120
  few : out.length ≤ 300
theorem padTo_len (out : List Str) (n : Nat) (h : out.length ≤ n) : (padTo out n).length = n := by
  simp [padTo]; omega
theorem padTo_get (out : List Str) (n k : Nat) : (padTo out n).getD k [] = out.getD k [] := by
  unfold padTo
  rw [List.getD_eq_getElem?_getD, List.getD_eq_getElem?_getD]
  by_cases h : k < out.length
  · rw [List.getElem?_append_left h]
  · rw [List.getElem?_append_right (by omega), List.getElem?_eq_none (show out.length ≤ k by omega)]
    by_cases h2 : k - out.length < n - out.length
    · rw [List.getElem?_eq_getElem (by simpa using h2)]; simp
    · rw [List.getElem?_eq_none (by simp; omega)]
theorem behind_zero {a b : Tk} (h : behindP a b = 0) : a.line < b.line ∨ (a.line = b.line ∧ a.col + a.text.length ≤ b.col) := by
  obtain ⟨h1, _⟩ := firstOf_zero h
  split at h1
  · omega
  · rename_i h2
    simp only [Bool.or_eq_true, Bool.and_eq_true, decide_eq_true_eq, beq_iff_eq, not_or, not_and] at h2
    rcases Int.lt_or_le a.line b.line with h3 | h3
    · exact .inl h3
    · refine .inr ⟨by omega, ?_⟩
      have := h2.2 (by omega)
      omega
/-- Where a token is to be put: its line is not yet too long. -/
theorem room {p : Option Tk} {out : List Str} {t : Tk} (hI : PrInv p out) (h : stepErr p t = 0) : checkTokenP t = 0 ∧ (out.length : Int) ≤ t.line + 1 ∧ ((out.getD t.line.toNat []).length : Int) ≤ t.col := by
  unfold stepErr at h
  split at h
  case isFalse h1 => exact absurd h h1
  rename_i h1
  have hr := check_range h1
  refine ⟨h1, ?_⟩
  cases p with
  | none =>
    rw [hI.none_ rfl]
    simp; omega
  | some a =>
    simp only at h
    obtain ⟨h2, h3, h4⟩ := hI.some_ a rfl
    have hra := check_range h2
    rcases behind_zero h with h5 | ⟨h5, h6⟩
    · refine ⟨by omega, ?_⟩
      have : out.getD t.line.toNat [] = [] := by
        rw [List.getD_eq_getElem?_getD, List.getElem?_eq_none (by omega)]; rfl
      rw [this]; simp; omega
    · rw [← h5]
      exact ⟨by omega, by omega⟩
theorem putTok_inv {p : Option Tk} {out : List Str} {t : Tk} (hI : PrInv p out) (h : stepErr p t = 0) : PrInv (some t) (putTok out t) := by
  obtain ⟨h1, h2, h3⟩ := room hI h
  obtain ⟨r1, r2, r3, r4, _⟩ := check_range h1
  have hp := padTo_len out (t.line.toNat + 1) (by omega)
  have hg := padTo_get out (t.line.toNat + 1) t.line.toNat
  unfold putTok
  rw [hg]
  refine ⟨fun h => by simp at h, fun a ha => ?_, fun x hx => ?_, ?_⟩
  · simp only [Option.some.injEq] at ha
    subst ha
    refine ⟨h1, by rw [List.length_set, hp]; omega, ?_⟩
    rw [List.getD_eq_getElem?_getD, List.getElem?_set_self (by omega)]
    simp only [Option.getD_some, List.length_append, List.length_replicate]
    omega
  · rcases List.mem_or_eq_of_mem_set hx with hx | hx
    · unfold padTo at hx
      rcases List.mem_append.1 hx with hx | hx
      · exact hI.short x hx
      · rw [(List.mem_replicate.1 hx).2]; simp
    · rw [hx]
      simp only [List.length_append, List.length_replicate]
      omega
  · rw [List.length_set, hp]; omega
theorem printGo_inv : ∀ (l : List Tk) (p : Option Tk) (i : Nat) (out : List Str), PrInv p out → (printGo l p i out).err = 0 → (∀ x ∈ (printGo l p i out).out, x.length ≤ 120) ∧ (printGo l p i out).out.length ≤ 300
  | [], p, i, out, h, _ => ⟨h.short, h.few⟩
  | t :: r, p, i, out, h, h0 => by
    unfold printGo at h0 ⊢
    split at h0
    · rename_i h1
      rw [if_pos h1]
      exact printGo_inv r _ _ _ (putTok_inv h h1) h0
    · rename_i h1
      exact absurd h0 h1
theorem printGo_start : PrInv none [] := ⟨fun _ => rfl, fun a h => by simp at h, by simp, by simp⟩
end Go.Proofs.YtlmmgblghgmgeaaGreatDoor

/- What is known of one more call. -/
namespace Go.Proofs.YtlmmgblghgmgeaaGreatDoor
open Go Ev

/-- What is known of one more call. -/
noncomputable def overO (C : Oracle) (f0 : FuncId) (a0 : List AV) (r0 : AV) : Oracle := fun f args bs => open Classical in if f = f0 then (if args = a0 ∧ bs = [] then some (r0, []) else none) else C f args bs
theorem overO_sound {P : Program} {C : Oracle} {f0 : FuncId} {a0 : List AV} {r0 : AV} (hC : Sound P C) (h : SimCall P f0 a0 [] r0 []) : Sound P (overO C f0 a0 r0) := fun f args bs r bs' hr => by
  unfold overO at hr
  split at hr
  · rename_i hf
    subst hf
    split at hr
    · rename_i hc
      obtain ⟨rfl, rfl⟩ := hc
      simp only [Option.some.injEq, Prod.mk.injEq] at hr
      obtain ⟨rfl, rfl⟩ := hr
      exact h
    · simp at hr
  · exact hC _ _ _ _ _ hr
theorem overO_self (C : Oracle) (f0 : FuncId) (a0 : List AV) (r0 : AV) : overO C f0 a0 r0 f0 a0 [] = some (r0, []) := by
  unfold overO; rw [if_pos rfl, if_pos ⟨rfl, rfl⟩]
theorem overO_ne (C : Oracle) {f f0 : FuncId} (a0 : List AV) (r0 : AV) (args : List AV) (bs : List (Nat × Box)) (h : f ≠ f0) : overO C f0 a0 r0 f args bs = C f args bs := by
  unfold overO; rw [if_neg h]
end Go.Proofs.YtlmmgblghgmgeaaGreatDoor
