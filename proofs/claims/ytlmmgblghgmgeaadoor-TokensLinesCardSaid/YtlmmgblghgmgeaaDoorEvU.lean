/- A verified evaluator, part U: statements whose order is open: every order gives what the order of the text gives. -/
import Derived.Test.YtlmmgblghgmgeaaDoorEvT
set_option linter.unusedVariables false
set_option linter.unusedSimpArgs false
namespace Ev
open Go
section
variable {P : Program} {m m' : Mem} {t : Tmps} {C : Oracle} {ro : FuncId → Bool} {Dl : List Nat} {d : Nat} {x : AV} {ρ ρ' : Operand → AV}

theorem aop_eff {o : Op} (hb : barrier o = false) (h : aop P C ro (some Dl) o d ρ m = some (x, m')) : HasEff P C ro Dl o d ρ m x m' := by
  cases o with
  | store => simp [barrier] at hb
  | alloc e =>
    simp only [aop] at h
    split at h
    case h_2 => simp at h
    rename_i z hz hd
    split at h
    · simp at h
    rename_i hv
    simp only [Option.some.injEq, Prod.mk.injEq] at h
    obtain ⟨rfl, rfl⟩ := h
    refine ⟨{ box := some z.cells }, ⟨fun _ => hd, by simp, by simp, by simp, by simp⟩, ?_, fun m2 h1 h2 => ?_⟩
    · simp only [Eff.app, Mem.mk.injEq, true_and]
      exact ⟨by funext p q; simp [addNames], by funext i; simp⟩
    · have hd2 := h2.box rfl
      simp only [aop, hz, hd2, hv]
      rw [if_neg (by simp)]
      simp only [Eff.app, Option.some.injEq, Prod.mk.injEq, true_and, Mem.mk.injEq]
      exact ⟨by funext p q; simp [addNames], by funext i; simp⟩
  | box e y =>
    simp only [aop] at h
    split at h
    case h_2 => simp at h
    rename_i hd
    split at h
    · simp at h
    rename_i hv
    simp only [Option.some.injEq, Prod.mk.injEq] at h
    obtain ⟨rfl, rfl⟩ := h
    refine ⟨{ box := some (ρ y).cells }, ⟨fun _ => hd, by simp, by simp, by simp, by simp⟩, ?_, fun m2 h1 h2 => ?_⟩
    · simp only [Eff.app, Mem.mk.injEq, true_and]
      exact ⟨by funext p q; simp [addNames], by funext i; simp⟩
    · have hd2 := h2.box rfl
      simp only [aop, hd2, hv]
      rw [if_neg (by simp)]
      simp only [Eff.app, Option.some.injEq, Prod.mk.injEq, true_and, Mem.mk.injEq]
      exact ⟨by funext p q; simp [addNames], by funext i; simp⟩
  | load ty p =>
    simp only [aop] at h
    split at h
    · rename_i id off heq
      split at h
      case isFalse => simp at h
      rename_i hm
      split at h
      case h_2 => simp at h
      rename_i bx hbx
      simp only [Option.map_eq_some_iff] at h
      obtain ⟨v, hv, hx⟩ := h
      simp only [Prod.mk.injEq] at hx
      obtain ⟨rfl, rfl⟩ := hx
      refine .quiet fun m2 hb2 => ?_
      simp only [aop, heq, hm, if_true, hb2 id (mayRead_some hm), hbx, hv, Option.map_some]
    · rename_i cl heq
      simp only [Option.map_eq_some_iff] at h
      obtain ⟨v, hv, hx⟩ := h
      simp only [Prod.mk.injEq] at hx
      obtain ⟨rfl, rfl⟩ := hx
      refine .quiet fun m2 hb2 => ?_
      simp only [aop, heq, hv, Option.map_some]
    · simp at h
  | makeFunc fn fs caps =>
    cases fn with
    | func f =>
      simp only [aop] at h
      split at h
      case isFalse => simp at h
      rename_i hfs
      split at h
      case h_2 => simp at h
      rename_i vs m1 hc
      simp only [Option.some.injEq, Prod.mk.injEq] at h
      obtain ⟨rfl, rfl⟩ := h
      obtain ⟨h1, _, _, _⟩ := capture_eq _ _ _ hc
      have h2 := fun m2 hb => capture_congr (caps.toList.map ρ) vs m m1 m2 hc hb
      refine ⟨{ frz := capIds (caps.toList.map ρ) }, ⟨by simp, by simp, by simp, by simp, (h2 m (fun _ _ => rfl)).1⟩, ?_, fun m2 hb2 hok => ?_⟩
      · rw [h1]
        simp only [Eff.app, Mem.mk.injEq, true_and]
        exact ⟨by funext p q; simp [addNames], by funext i; simp⟩
      · simp only [aop, hfs, if_true, (h2 m2 hb2).2]
        simp only [Eff.app, Option.some.injEq, Prod.mk.injEq, true_and, Mem.mk.injEq]
        exact ⟨by funext p q; simp [addNames], by funext i; simp⟩
    | _ => simp [aop] at h
  | call cl =>
    obtain ⟨callee, args, tys⟩ := cl
    cases callee with
    | invoke r n => simp [aop] at h
    | value f =>
      simp only [aop] at h
      split at h
      case h_2 => simp at h
      rename_i g caps hf
      unfold acall at h
      split at h
      · rename_i hnp
        split at h
        case h_2 => simp at h
        rename_i r hr
        obtain ⟨vs, a1, a2, a3, a4⟩ := adopt_eff h
        refine ⟨{ add := vs }, ⟨by simp, by simp, a2, a1, by simp⟩, ?_, fun m2 hb2 hok => ?_⟩
        · rw [a3]
          simp only [Eff.app, Mem.mk.injEq, true_and]
          exact ⟨by funext p q; simp, by funext i; simp⟩
        · simp only [aop, hf]
          unfold acall
          rw [if_pos hnp, hr]
          simp only
          rw [a4 m2 hok.fresh]
          simp only [Eff.app, Option.some.injEq, Prod.mk.injEq, true_and, Mem.mk.injEq]
          exact ⟨by funext p q; simp, by funext i; simp⟩
      · rename_i hnp
        split at h
        · rename_i hro
          split at h
          case isFalse => simp at h
          rename_i hall
          split at h
          case h_2 => simp at h
          rename_i as hv
          split at h
          case h_2 => simp at h
          rename_i r hr
          split at h
          case isFalse => simp at h
          rename_i hs
          simp only [Option.some.injEq, Prod.mk.injEq] at h
          obtain ⟨rfl, rfl⟩ := h
          refine .quiet fun m2 hb2 => ?_
          simp only [aop, hf]
          unfold acall
          rw [if_neg hnp, if_pos hro, if_pos hall, viewed_congr _ (fun id hid => hb2 id (mayRead_some (List.all_eq_true.1 hall id hid))), hv]
          simp only [hr, hs, if_true]
        · simp at h
    | builtin b =>
      cases b with
      | append =>
        simp only [aop] at h
        split at h
        case h_2 => simp at h
        rename_i t1 t2 hty
        split at h
        case h_2 => simp at h
        rename_i e e2 y s els tok h1 h2 h3
        split at h
        case isFalse => simp at h
        rename_i hc
        obtain ⟨ef, k1, k2, k3⟩ := aappend_eff (Dl := Dl) h
        refine ⟨ef, k1, k2, fun m2 hb2 hok => ?_⟩
        simp only [aop, hty, h1, h2, h3]
        rw [if_pos hc]
        exact k3 m2 hok
      | len =>
        simp only [aop] at h
        split at h
        · rename_i s h1 h2
          simp only [Option.some.injEq, Prod.mk.injEq] at h; obtain ⟨rfl, rfl⟩ := h
          exact .quiet fun m2 _ => by simp only [aop, h1, h2]
        · rename_i z els tok e h1 h2
          simp only [Option.some.injEq, Prod.mk.injEq] at h; obtain ⟨rfl, rfl⟩ := h
          exact .quiet fun m2 _ => by simp only [aop, h1, h2]
        · simp at h
      | min =>
        simp only [aop, Option.map_eq_some_iff] at h
        obtain ⟨r, hr, hx⟩ := h
        simp only [Prod.mk.injEq] at hx; obtain ⟨rfl, rfl⟩ := hx
        exact .quiet fun m2 _ => by simp only [aop, hr, Option.map_some]
      | max =>
        simp only [aop, Option.map_eq_some_iff] at h
        obtain ⟨r, hr, hx⟩ := h
        simp only [Prod.mk.injEq] at hx; obtain ⟨rfl, rfl⟩ := hx
        exact .quiet fun m2 _ => by simp only [aop, hr, Option.map_some]
      | _ => simp [aop] at h
  | slice ty y lo hi mx =>
    cases mx with
    | some _ => simp [aop] at h
    | none =>
      simp only [aop] at h
      split at h
      · rename_i s hu h1
        simp only [Option.map_eq_some_iff] at h
        obtain ⟨v, hv, hx⟩ := h
        simp only [Prod.mk.injEq] at hx; obtain ⟨rfl, rfl⟩ := hx
        exact .quiet fun m2 _ => by simp only [aop, hu, h1, hv, Option.map_some]
      · rename_i e z els tok hu h1
        split at h
        case isFalse => simp at h
        rename_i hc
        simp only [Option.map_eq_some_iff] at h
        obtain ⟨v, hv, hx⟩ := h
        simp only [Prod.mk.injEq] at hx; obtain ⟨rfl, rfl⟩ := hx
        exact .quiet fun m2 _ => by simp only [aop, hu, h1]; rw [if_pos hc]; simp only [hv, Option.map_some]
      · simp at h
  | move y => simp only [aop, Option.some.injEq, Prod.mk.injEq] at h; obtain ⟨rfl, rfl⟩ := h; exact .quiet fun m2 _ => by simp only [aop]
  | assign y => simp only [aop, Option.some.injEq, Prod.mk.injEq] at h; obtain ⟨rfl, rfl⟩ := h; exact .quiet fun m2 _ => by simp only [aop]
  | pick e p q =>
    simp only [aop] at h
    split at h
    case h_2 => simp at h
    rename_i b hb'
    simp only [Option.some.injEq, Prod.mk.injEq] at h; obtain ⟨rfl, rfl⟩ := h
    exact .quiet fun m2 _ => by simp only [aop, hb']
  | build ty ps =>
    simp only [aop] at h
    split at h
    case h_2 => simp at h
    rename_i z places hz hp
    split at h
    case isFalse => simp at h
    rename_i hv
    simp only [Option.map_eq_some_iff] at h
    obtain ⟨cs, hf, hx⟩ := h
    simp only [Prod.mk.injEq] at hx; obtain ⟨rfl, rfl⟩ := hx
    exact .quiet fun m2 _ => by simp only [aop, hz, hp]; rw [if_pos hv, hf]; rfl
  | buildSlice ty n ps =>
    simp only [aop] at h
    split at h
    case h_2 => simp at h
    rename_i e he
    split at h
    case h_2 => simp at h
    rename_i z k hz hk
    split at h
    case isFalse => simp at h
    rename_i hc
    simp only [Option.some.injEq, Prod.mk.injEq] at h; obtain ⟨rfl, rfl⟩ := h
    exact .quiet fun m2 _ => by simp only [aop, he, hz, hk]; rw [if_pos hc]
  | nilCheck y =>
    simp only [aop] at h
    split at h
    · rename_i id off heq
      simp only [Option.some.injEq, Prod.mk.injEq] at h; obtain ⟨rfl, rfl⟩ := h
      exact .quiet fun m2 _ => by simp only [aop, heq]
    · rename_i cl heq
      simp only [Option.some.injEq, Prod.mk.injEq] at h; obtain ⟨rfl, rfl⟩ := h
      exact .quiet fun m2 _ => by simp only [aop, heq]
    · simp at h
  | binOp op ty y z yt =>
    have key : ∀ m2 : Mem, aop P C ro (some Dl) (.binOp op ty y z yt) d ρ m2 = (aop P C ro (some Dl) (.binOp op ty y z yt) d ρ m).map fun r => (r.1, m2) := fun m2 => by
      simp only [aop]
      split
      · split <;> rfl
      · split
        · rfl
        · simp [Option.map_map, Function.comp_def]
    have hm : m' = m := by
      have := key m
      rw [h] at this
      simpa using this
    subst hm
    exact .quiet fun m2 _ => by rw [key m2, h]; rfl
  | unOp op ty y =>
    simp only [aop] at h
    split at h
    · rename_i b h1
      simp only [Option.some.injEq, Prod.mk.injEq] at h; obtain ⟨rfl, rfl⟩ := h
      exact .quiet fun m2 _ => by simp only [aop, h1]
    · rename_i k n h1
      simp only [Option.some.injEq, Prod.mk.injEq] at h; obtain ⟨rfl, rfl⟩ := h
      exact .quiet fun m2 _ => by simp only [aop, h1]
    · simp at h
  | convert src dst y =>
    simp only [aop] at h
    split at h
    · rename_i k k' n hu h1
      split at h
      case isFalse => simp at h
      rename_i hs
      simp only [Option.some.injEq, Prod.mk.injEq] at h; obtain ⟨rfl, rfl⟩ := h
      exact .quiet fun m2 _ => by simp only [aop, hu, h1]; rw [if_pos hs]
    · rename_i s hu h1
      split at h
      case isFalse => simp at h
      rename_i hs
      simp only [Option.some.injEq, Prod.mk.injEq] at h; obtain ⟨rfl, rfl⟩ := h
      exact .quiet fun m2 _ => by simp only [aop, hu, h1]; rw [if_pos hs]
    · simp at h
  | fieldAddr ty y i =>
    simp only [aop] at h
    split at h
    · rename_i id off o ft h1 h2
      simp only [Option.some.injEq, Prod.mk.injEq] at h; obtain ⟨rfl, rfl⟩ := h
      exact .quiet fun m2 _ => by simp only [aop, h1, h2]
    · rename_i cl o ft h1 h2
      simp only [Option.some.injEq, Prod.mk.injEq] at h; obtain ⟨rfl, rfl⟩ := h
      exact .quiet fun m2 _ => by simp only [aop, h1, h2]
    · simp at h
  | field ty y i =>
    simp only [aop] at h
    split at h
    case h_2 => simp at h
    rename_i cl o ft h1 h2
    simp only [Option.map_eq_some_iff] at h
    obtain ⟨v, hv, hx⟩ := h
    simp only [Prod.mk.injEq] at hx; obtain ⟨rfl, rfl⟩ := hx
    exact .quiet fun m2 _ => by simp only [aop, h1, h2, hv, Option.map_some]
  | indexAddr ty y i =>
    simp only [aop] at h
    split at h
    case h_2 => simp at h
    rename_i s els tok k n e h1 h2 h3
    split at h
    case isFalse => simp at h
    rename_i hc
    simp only [Option.some.injEq, Prod.mk.injEq] at h; obtain ⟨rfl, rfl⟩ := h
    exact .quiet fun m2 _ => by simp only [aop, h1, h2, h3]; rw [if_pos hc]
  | index ty y i =>
    simp only [aop] at h
    split at h
    case h_2 => simp at h
    rename_i s k n hu h1 h2
    split at h
    case isFalse => simp at h
    rename_i hc
    simp only [Option.some.injEq, Prod.mk.injEq] at h; obtain ⟨rfl, rfl⟩ := h
    exact .quiet fun m2 _ => by simp only [aop, hu, h1, h2]; rw [if_pos hc]
  | extract y i =>
    simp only [aop] at h
    split at h
    case h_2 => simp at h
    rename_i vs h1
    simp only [Option.map_eq_some_iff] at h
    obtain ⟨v, hv, hx⟩ := h
    simp only [Prod.mk.injEq] at hx; obtain ⟨rfl, rfl⟩ := hx
    exact .quiet fun m2 _ => by simp only [aop, h1, hv, Option.map_some]
  | _ => simp [aop] at h
end
end Ev
