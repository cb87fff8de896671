/- What is known of one more call. -/
import Derived.Test.YtlmmgblghgmgeaaDoorPlanOk
namespace Go.Proofs.YtlmmgblghgmgeaaDoor
open Go Ev

/-- What is known of one more call. -/
noncomputable def overO (C : Oracle) (f0 : FuncId) (a0 : List AV) (r0 : AV) : Oracle := fun f args bs => open Classical in if f = f0 then (if args = a0 ∧ bs = [] then some (r0, []) else none) else C f args bs
theorem overO_sound {P : Program} {C : Oracle} {f0 : FuncId} {a0 : List AV} {r0 : AV} (hC : Sound P C) (h : SimCall P f0 a0 [] r0 []) : Sound P (overO C f0 a0 r0) := fun f args bs r bs' hr => by
  unfold overO at hr
  split at hr
  · rename_i hf
    subst hf
    split at hr
    · rename_i hc
      obtain ⟨rfl, rfl⟩ := hc
      simp only [Option.some.injEq, Prod.mk.injEq] at hr
      obtain ⟨rfl, rfl⟩ := hr
      exact h
    · simp at hr
  · exact hC _ _ _ _ _ hr
theorem overO_self (C : Oracle) (f0 : FuncId) (a0 : List AV) (r0 : AV) : overO C f0 a0 r0 f0 a0 [] = some (r0, []) := by
  unfold overO; rw [if_pos rfl, if_pos ⟨rfl, rfl⟩]
theorem overO_ne (C : Oracle) {f f0 : FuncId} (a0 : List AV) (r0 : AV) (args : List AV) (bs : List (Nat × Box)) (h : f ≠ f0) : overO C f0 a0 r0 f args bs = C f args bs := by
  unfold overO; rw [if_neg h]
end Go.Proofs.YtlmmgblghgmgeaaDoor
