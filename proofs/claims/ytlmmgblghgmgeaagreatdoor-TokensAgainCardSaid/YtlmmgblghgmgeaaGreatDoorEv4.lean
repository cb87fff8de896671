/- A verified evaluator of the model's code over abstract values: the texts EvU, EvV, EvW, EvX, EvY, EvZ. -/
import Derived.Test.YtlmmgblghgmgeaaGreatDoorEv3
import Derived.Below
set_option linter.unusedVariables false
set_option linter.unusedSimpArgs false
/- A verified evaluator, part U: statements whose order is open: every order gives what the order of the text gives. -/
namespace Ev
open Go
section
variable {P : Program} {m m' : Mem} {t : Tmps} {C : Oracle} {ro : FuncId → Bool} {Dl : List Nat} {d : Nat} {x : AV} {ρ ρ' : Operand → AV}

theorem lessL_or {i : Nat} {l : List Operand} (hi : i ∈ Dl) : i ∈ lessL Dl l ∨ i ∈ lkL l := by
  by_cases h : i ∈ lkL l
  · exact .inr h
  · exact .inl (List.mem_filter.2 ⟨hi, by simpa using h⟩)
theorem aop_eff {o : Op} (hb : barrier o = false) (h : aop P C ro (some Dl) o d ρ m = some (x, m')) : HasEff P C ro Dl o d ρ m x m' := by
  cases o with
  | store => simp [barrier] at hb
  | alloc e =>
    simp only [aop] at h
    split at h
    case h_2 => simp at h
    rename_i z hz hd
    split at h
    · simp at h
    rename_i hv
    simp only [Option.some.injEq, Prod.mk.injEq] at h
    obtain ⟨rfl, rfl⟩ := h
    refine ⟨Dl, { box := some z.cells }, fun i hi => .inl hi, ⟨fun _ => hd, by simp, by simp, by simp, by simp⟩, ?_, fun m2 h1 h2 => ?_⟩
    · simp only [Eff.app, Mem.mk.injEq, true_and]
      exact ⟨by funext p q; simp [addNames], by funext i; simp⟩
    · have hd2 := h2.box rfl
      simp only [aop, hz, hd2, hv]
      rw [if_neg (by simp)]
      simp only [Eff.app, Option.some.injEq, Prod.mk.injEq, true_and, Mem.mk.injEq]
      exact ⟨by funext p q; simp [addNames], by funext i; simp⟩
  | box e y =>
    simp only [aop] at h
    split at h
    case h_2 => simp at h
    rename_i hd
    split at h
    · simp at h
    rename_i hv
    simp only [Option.some.injEq, Prod.mk.injEq] at h
    obtain ⟨rfl, rfl⟩ := h
    refine ⟨Dl, { box := some (ρ y).cells }, fun i hi => .inl hi, ⟨fun _ => hd, by simp, by simp, by simp, by simp⟩, ?_, fun m2 h1 h2 => ?_⟩
    · simp only [Eff.app, Mem.mk.injEq, true_and]
      exact ⟨by funext p q; simp [addNames], by funext i; simp⟩
    · have hd2 := h2.box rfl
      simp only [aop, hd2, hv]
      rw [if_neg (by simp)]
      simp only [Eff.app, Option.some.injEq, Prod.mk.injEq, true_and, Mem.mk.injEq]
      exact ⟨by funext p q; simp [addNames], by funext i; simp⟩
  | load ty p =>
    simp only [aop] at h
    split at h
    · rename_i id off heq
      split at h
      case isFalse => simp at h
      rename_i hm
      split at h
      case h_2 => simp at h
      rename_i bx hbx
      simp only [Option.map_eq_some_iff] at h
      obtain ⟨v, hv, hx⟩ := h
      simp only [Prod.mk.injEq] at hx
      obtain ⟨rfl, rfl⟩ := hx
      refine .quiet fun m2 hb2 => ?_
      simp only [aop, heq, hm, if_true, hb2 id (mayRead_some hm), hbx, hv, Option.map_some]
    · rename_i cl heq
      simp only [Option.map_eq_some_iff] at h
      obtain ⟨v, hv, hx⟩ := h
      simp only [Prod.mk.injEq] at hx
      obtain ⟨rfl, rfl⟩ := hx
      refine .quiet fun m2 hb2 => ?_
      simp only [aop, heq, hv, Option.map_some]
    · simp at h
  | makeFunc fn fs caps =>
    cases fn with
    | func f =>
      simp only [aop] at h
      split at h
      case isFalse => simp at h
      rename_i hfs
      split at h
      case h_2 => simp at h
      rename_i vs m1 hc
      simp only [Option.some.injEq, Prod.mk.injEq] at h
      obtain ⟨rfl, rfl⟩ := h
      obtain ⟨h1, _, _, _⟩ := capture_eq _ _ _ hc
      have h2 := fun m2 hb => capture_congr (caps.toList.map ρ) vs m m1 m2 hc hb
      refine ⟨Dl, { frz := capIds (caps.toList.map ρ) }, fun i hi => .inl hi, ⟨by simp, by simp, by simp, by simp, (h2 m (fun _ _ => rfl)).1⟩, ?_, fun m2 hb2 hok => ?_⟩
      · rw [h1]
        simp only [Eff.app, Mem.mk.injEq, true_and]
        exact ⟨by funext p q; simp [addNames], by funext i; simp⟩
      · simp only [aop, hfs, if_true, (h2 m2 hb2).2]
        simp only [Eff.app, Option.some.injEq, Prod.mk.injEq, true_and, Mem.mk.injEq]
        exact ⟨by funext p q; simp [addNames], by funext i; simp⟩
    | _ => simp [aop] at h
  | call cl =>
    obtain ⟨callee, args, tys⟩ := cl
    cases callee with
    | invoke r n => simp [aop] at h
    | value f =>
      simp only [aop] at h
      split at h
      case h_2 => simp at h
      rename_i g caps hf
      unfold acall at h
      split at h
      · rename_i hnp
        split at h
        case h_2 => simp at h
        rename_i r hr
        obtain ⟨vs, a1, a2, a3, a4⟩ := adopt_eff h
        refine ⟨Dl, { add := vs }, fun i hi => .inl hi, ⟨by simp, by simp, a2, a1, by simp⟩, ?_, fun m2 hb2 hok => ?_⟩
        · rw [a3]
          simp only [Eff.app, Mem.mk.injEq, true_and]
          exact ⟨by funext p q; simp, by funext i; simp⟩
        · simp only [aop, hf]
          unfold acall
          rw [if_pos hnp, hr]
          simp only
          rw [a4 m2 hok.fresh]
          simp only [Eff.app, Option.some.injEq, Prod.mk.injEq, true_and, Mem.mk.injEq]
          exact ⟨by funext p q; simp, by funext i; simp⟩
      · rename_i hnp
        split at h
        · rename_i hro
          split at h
          case isFalse => simp at h
          rename_i hall
          split at h
          case h_2 => simp at h
          rename_i as hv
          split at h
          case h_2 => simp at h
          rename_i r hr
          split at h
          case isFalse => simp at h
          rename_i hs
          simp only [Option.some.injEq, Prod.mk.injEq] at h
          obtain ⟨rfl, rfl⟩ := h
          refine .quiet fun m2 hb2 => ?_
          simp only [aop, hf]
          unfold acall
          rw [if_neg hnp, if_pos hro, if_pos hall, viewed_congr _ (fun id hid => hb2 id (mayRead_some (List.all_eq_true.1 hall id hid))), hv]
          simp only [hr, hs, if_true]
        · simp at h
    | builtin b =>
      cases b with
      | append =>
        simp only [aop] at h
        split at h
        case h_2 => simp at h
        rename_i t1 t2 hty
        split at h
        case h_2 => simp at h
        rename_i e e2 y s els tok h1 h2 h3
        split at h
        case isFalse => simp at h
        rename_i hc
        obtain ⟨ef, k1, k2, k3⟩ := aappend_eff (Dl := Dl) h
        refine ⟨lessL Dl args.toList, ef, fun i hi => (lessL_or hi).imp id fun h => by simpa [Op.operands, Call.operands] using h, k1, k2, fun m2 hb2 hok => ?_⟩
        simp only [aop, hty, h1, h2, h3]
        rw [if_pos hc]
        exact k3 m2 hok
      | len =>
        simp only [aop] at h
        split at h
        · rename_i s h1 h2
          simp only [Option.some.injEq, Prod.mk.injEq] at h; obtain ⟨rfl, rfl⟩ := h
          exact .quiet fun m2 _ => by simp only [aop, h1, h2]
        · rename_i z els tok e h1 h2
          simp only [Option.some.injEq, Prod.mk.injEq] at h; obtain ⟨rfl, rfl⟩ := h
          exact .quiet fun m2 _ => by simp only [aop, h1, h2]
        · simp at h
      | min =>
        simp only [aop, Option.map_eq_some_iff] at h
        obtain ⟨r, hr, hx⟩ := h
        simp only [Prod.mk.injEq] at hx; obtain ⟨rfl, rfl⟩ := hx
        exact .quiet fun m2 _ => by simp only [aop, hr, Option.map_some]
      | max =>
        simp only [aop, Option.map_eq_some_iff] at h
        obtain ⟨r, hr, hx⟩ := h
        simp only [Prod.mk.injEq] at hx; obtain ⟨rfl, rfl⟩ := hx
        exact .quiet fun m2 _ => by simp only [aop, hr, Option.map_some]
      | _ => simp [aop] at h
  | slice ty y lo hi mx =>
    cases mx with
    | some _ => simp [aop] at h
    | none =>
      simp only [aop] at h
      split at h
      · rename_i s hu h1
        simp only [Option.map_eq_some_iff] at h
        obtain ⟨v, hv, hx⟩ := h
        simp only [Prod.mk.injEq] at hx; obtain ⟨rfl, rfl⟩ := hx
        exact .quiet fun m2 _ => by simp only [aop, hu, h1, hv, Option.map_some]
      · rename_i e z els tok hu h1
        split at h
        case isFalse => simp at h
        rename_i hc
        simp only [Option.map_eq_some_iff] at h
        obtain ⟨v, hv, hx⟩ := h
        simp only [Prod.mk.injEq] at hx; obtain ⟨rfl, rfl⟩ := hx
        exact .quiet fun m2 _ => by simp only [aop, hu, h1]; rw [if_pos hc]; simp only [hv, Option.map_some]
      · simp at h
  | move y => simp only [aop, Option.some.injEq, Prod.mk.injEq] at h; obtain ⟨rfl, rfl⟩ := h; exact .quiet fun m2 _ => by simp only [aop]
  | assign y => simp only [aop, Option.some.injEq, Prod.mk.injEq] at h; obtain ⟨rfl, rfl⟩ := h; exact .quiet fun m2 _ => by simp only [aop]
  | pick e p q =>
    simp only [aop] at h
    split at h
    case h_2 => simp at h
    rename_i b hb'
    simp only [Option.some.injEq, Prod.mk.injEq] at h; obtain ⟨rfl, rfl⟩ := h
    exact .quiet fun m2 _ => by simp only [aop, hb']
  | build ty ps =>
    simp only [aop] at h
    split at h
    case h_2 => simp at h
    rename_i z places hz hp
    split at h
    case isFalse => simp at h
    rename_i hv
    simp only [Option.map_eq_some_iff] at h
    obtain ⟨cs, hf, hx⟩ := h
    simp only [Prod.mk.injEq] at hx; obtain ⟨rfl, rfl⟩ := hx
    exact .quiet fun m2 _ => by simp only [aop, hz, hp]; rw [if_pos hv, hf]; rfl
  | buildSlice ty n ps =>
    simp only [aop] at h
    split at h
    case h_2 => simp at h
    rename_i e he
    split at h
    case h_2 => simp at h
    rename_i z k hz hk
    split at h
    case isFalse => simp at h
    rename_i hc
    simp only [Option.some.injEq, Prod.mk.injEq] at h; obtain ⟨rfl, rfl⟩ := h
    exact .quiet fun m2 _ => by simp only [aop, he, hz, hk]; rw [if_pos hc]
  | nilCheck y =>
    simp only [aop] at h
    split at h
    · rename_i id off heq
      simp only [Option.some.injEq, Prod.mk.injEq] at h; obtain ⟨rfl, rfl⟩ := h
      exact .quiet fun m2 _ => by simp only [aop, heq]
    · rename_i cl heq
      simp only [Option.some.injEq, Prod.mk.injEq] at h; obtain ⟨rfl, rfl⟩ := h
      exact .quiet fun m2 _ => by simp only [aop, heq]
    · simp at h
  | binOp op ty y z yt =>
    have key : ∀ m2 : Mem, aop P C ro (some Dl) (.binOp op ty y z yt) d ρ m2 = (aop P C ro (some Dl) (.binOp op ty y z yt) d ρ m).map fun r => (r.1, m2) := fun m2 => by
      simp only [aop]
      split
      · split <;> rfl
      · split
        · rfl
        · simp [Option.map_map, Function.comp_def]
    have hm : m' = m := by
      have := key m
      rw [h] at this
      simpa using this
    subst hm
    exact .quiet fun m2 _ => by rw [key m2, h]; rfl
  | unOp op ty y =>
    simp only [aop] at h
    split at h
    · rename_i b h1
      simp only [Option.some.injEq, Prod.mk.injEq] at h; obtain ⟨rfl, rfl⟩ := h
      exact .quiet fun m2 _ => by simp only [aop, h1]
    · rename_i k n h1
      simp only [Option.some.injEq, Prod.mk.injEq] at h; obtain ⟨rfl, rfl⟩ := h
      exact .quiet fun m2 _ => by simp only [aop, h1]
    · simp at h
  | convert src dst y =>
    simp only [aop] at h
    split at h
    · rename_i k k' n hu h1
      split at h
      case isFalse => simp at h
      rename_i hs
      simp only [Option.some.injEq, Prod.mk.injEq] at h; obtain ⟨rfl, rfl⟩ := h
      exact .quiet fun m2 _ => by simp only [aop, hu, h1]; rw [if_pos hs]
    · rename_i s hu h1
      split at h
      case isFalse => simp at h
      rename_i hs
      simp only [Option.some.injEq, Prod.mk.injEq] at h; obtain ⟨rfl, rfl⟩ := h
      exact .quiet fun m2 _ => by simp only [aop, hu, h1]; rw [if_pos hs]
    · simp at h
  | fieldAddr ty y i =>
    simp only [aop] at h
    split at h
    · rename_i id off o ft h1 h2
      simp only [Option.some.injEq, Prod.mk.injEq] at h; obtain ⟨rfl, rfl⟩ := h
      exact .quiet fun m2 _ => by simp only [aop, h1, h2]
    · rename_i cl o ft h1 h2
      simp only [Option.some.injEq, Prod.mk.injEq] at h; obtain ⟨rfl, rfl⟩ := h
      exact .quiet fun m2 _ => by simp only [aop, h1, h2]
    · simp at h
  | field ty y i =>
    simp only [aop] at h
    split at h
    case h_2 => simp at h
    rename_i cl o ft h1 h2
    simp only [Option.map_eq_some_iff] at h
    obtain ⟨v, hv, hx⟩ := h
    simp only [Prod.mk.injEq] at hx; obtain ⟨rfl, rfl⟩ := hx
    exact .quiet fun m2 _ => by simp only [aop, h1, h2, hv, Option.map_some]
  | indexAddr ty y i =>
    simp only [aop] at h
    split at h
    · rename_i s els tok k n e h1 h2 h3
      split at h
      case isFalse => simp at h
      rename_i hc
      simp only [Option.some.injEq, Prod.mk.injEq] at h; obtain ⟨rfl, rfl⟩ := h
      exact .quiet fun m2 _ => by simp only [aop, h1, h2, h3]; rw [if_pos hc]
    · rename_i cl k n h1 h2 h3
      split at h
      case h_2 => simp at h
      rename_i len z h4
      split at h
      case isFalse => simp at h
      rename_i hc
      simp only [Option.some.injEq, Prod.mk.injEq] at h; obtain ⟨rfl, rfl⟩ := h
      exact .quiet fun m2 _ => by simp only [aop, h1, h2, h3, h4]; rw [if_pos hc]
    · simp at h
  | index ty y i =>
    simp only [aop] at h
    split at h
    case h_2 => simp at h
    rename_i s k n hu h1 h2
    split at h
    case isFalse => simp at h
    rename_i hc
    simp only [Option.some.injEq, Prod.mk.injEq] at h; obtain ⟨rfl, rfl⟩ := h
    exact .quiet fun m2 _ => by simp only [aop, hu, h1, h2]; rw [if_pos hc]
  | extract y i =>
    simp only [aop] at h
    split at h
    case h_2 => simp at h
    rename_i vs h1
    simp only [Option.map_eq_some_iff] at h
    obtain ⟨v, hv, hx⟩ := h
    simp only [Prod.mk.injEq] at hx; obtain ⟨rfl, rfl⟩ := hx
    exact .quiet fun m2 _ => by simp only [aop, h1, hv, Option.map_some]
  | _ => simp [aop] at h
end
end Ev

/- A verified evaluator, part V: statements whose order is open: neighbours that do not meet may change places. -/
namespace Ev
open Go
section
variable {P : Program} {m m' : Mem} {t : Tmps} {C : Oracle} {ro : FuncId → Bool} {Dl : List Nat} {d : Nat} {x : AV} {ρ ρ' : Operand → AV}

theorem addN_cases (names : Nat → Nat → Option Bool) (l : List AV) (p q : Nat) : (addNames names l p q = some true ∧ ∃ y ∈ l, rowName y = some (p, q)) ∨ (addNames names l p q = names p q ∧ ∀ y ∈ l, rowName y ≠ some (p, q)) := by
  induction l with
  | nil => exact .inr ⟨rfl, by simp⟩
  | cons y r ih =>
    simp only [addNames]
    by_cases h : rowName y = some (p, q)
    · rw [if_pos h]; exact .inl ⟨rfl, y, by simp, h⟩
    · rw [if_neg h]
      rcases ih with ⟨h1, z, hz, h2⟩ | ⟨h1, h2⟩
      · exact .inl ⟨h1, z, by simp [hz], h2⟩
      · refine .inr ⟨h1, fun z hz => ?_⟩
        simp only [List.mem_cons] at hz
        rcases hz with rfl | hz
        · exact h
        · exact h2 z hz

theorem addNames_congr {n n' : Nat → Nat → Option Bool} {l : List AV} {p q : Nat} (h : n p q = n' p q) : addNames n l p q = addNames n' l p q := by
  induction l with
  | nil => exact h
  | cons y r ih => simp only [addNames, ih]

theorem app_boxes_ne {e : Eff} {id : Nat} (h : id ≠ d + 500000) : (e.app d m).boxes id = m.boxes id := by
  simp only [Eff.app]
  cases e.box with
  | none => rfl
  | some b => simp only [upd_apply, if_neg h]

theorem eff_back {e f : Eff} {d d' : Nat} {De Df Le Lf : List Nat} (hne : d ≠ d') (hd : d ∈ Lf) (hd' : d' ∈ Le) (hdf : d ∈ Df) (hde : d' ∈ De) (he : e.ok Le De d m) (hf : f.ok Lf Df d' (e.app d m)) : f.ok Lf Df d' m ∧ e.ok Le De d (f.app d' m) ∧ e.app d (f.app d' m) = f.app d' (e.app d m) := by
  have hnot : ∀ p q, p ≠ d → (e.app d m).names p q = if e.kill = some (p, q) then some false else m.names p q := fun p q hp => by
    rcases addN_cases (fun p q => if e.kill = some (p, q) then some false else m.names p q) e.add p q with ⟨h1, y, hy, h2⟩ | ⟨h1, h2⟩
    · exact absurd (he.own y hy p q h2) hp
    · exact h1
  have hkill : ∀ p q, f.kill = some (p, q) → m.names p q = some true ∧ p ∉ Df ∧ e.kill ≠ some (p, q) := fun p q hk => by
    obtain ⟨h1, h2⟩ := hf.kill p q hk
    rw [hnot p q (fun h => h2 (h ▸ hdf))] at h1
    by_cases hk : e.kill = some (p, q)
    · rw [if_pos hk] at h1; simp at h1
    · rw [if_neg hk] at h1; exact ⟨h1, h2, hk⟩
  have hnot' : ∀ p q, p ≠ d' → (f.app d' m).names p q = if f.kill = some (p, q) then some false else m.names p q := fun p q hp => by
    rcases addN_cases (fun p q => if f.kill = some (p, q) then some false else m.names p q) f.add p q with ⟨h1, y, hy, h2⟩ | ⟨h1, h2⟩
    · exact absurd (hf.own y hy p q h2) hp
    · exact h1
  refine ⟨⟨fun h => ?_, fun p q hk => ⟨(hkill p q hk).1, (hkill p q hk).2.1⟩, fun y hy p q hr => ?_, hf.own, hf.frz⟩, ⟨fun h => ?_, fun p q hk => ?_, fun y hy p q hr => ?_, he.own, he.frz⟩, ?_⟩
  · have := hf.box h
    rwa [app_boxes_ne (by omega)] at this
  · have h1 := hf.fresh y hy p q hr
    have hp := hf.own y hy p q hr
    rw [hnot p q (by omega)] at h1
    split at h1
    · simp at h1
    · exact h1
  · have := he.box h
    rwa [app_boxes_ne (by omega)]
  · obtain ⟨h1, h2⟩ := he.kill p q hk
    refine ⟨?_, h2⟩
    rw [hnot' p q (fun h => h2 (h ▸ hde)), if_neg (fun hk' => (hkill p q hk').2.2 hk)]
    exact h1
  · have h1 := he.fresh y hy p q hr
    have hp := he.own y hy p q hr
    rw [hnot' p q (by omega), if_neg (fun hk' => (hkill p q hk').2.1 (hp ▸ hdf))]
    exact h1
  · have key : ∀ p q, (e.app d (f.app d' m)).names p q = (f.app d' (e.app d m)).names p q := fun p q => by
      show addNames (fun p q => if e.kill = some (p, q) then some false else (f.app d' m).names p q) e.add p q = addNames (fun p q => if f.kill = some (p, q) then some false else (e.app d m).names p q) f.add p q
      rcases addN_cases (fun p q => if e.kill = some (p, q) then some false else (f.app d' m).names p q) e.add p q with ⟨h1, y, hy, h2⟩ | ⟨h1, h2⟩
      · have hp := he.own y hy p q h2
        rw [h1]
        rcases addN_cases (fun p q => if f.kill = some (p, q) then some false else (e.app d m).names p q) f.add p q with ⟨k1, z, hz, k2⟩ | ⟨k1, k2⟩
        · exact k1.symm
        · rw [k1, if_neg (fun hk => (hkill p q hk).2.1 (hp ▸ hdf))]
          show _ = addNames _ _ _ _
          rcases addN_cases (fun p q => if e.kill = some (p, q) then some false else m.names p q) e.add p q with ⟨j1, _⟩ | ⟨_, j2⟩
          · exact j1.symm
          · exact absurd h2 (j2 y hy)
      · rw [h1]
        rcases addN_cases (fun p q => if f.kill = some (p, q) then some false else (e.app d m).names p q) f.add p q with ⟨k1, z, hz, k2⟩ | ⟨k1, k2⟩
        · have hp := hf.own z hz p q k2
          rw [k1, if_neg (fun hk => (he.kill p q hk).2 (hp ▸ hde))]
          show addNames _ _ _ _ = _
          rcases addN_cases (fun p q => if f.kill = some (p, q) then some false else m.names p q) f.add p q with ⟨j1, _⟩ | ⟨_, j2⟩
          · exact j1
          · exact absurd k2 (j2 z hz)
        · rw [k1]
          have e1 : (f.app d' m).names p q = if f.kill = some (p, q) then some false else m.names p q := by
            rcases addN_cases (fun p q => if f.kill = some (p, q) then some false else m.names p q) f.add p q with ⟨_, z, hz, j1⟩ | ⟨j1, _⟩
            · exact absurd j1 (k2 z hz)
            · exact j1
          have e2 : (e.app d m).names p q = if e.kill = some (p, q) then some false else m.names p q := by
            rcases addN_cases (fun p q => if e.kill = some (p, q) then some false else m.names p q) e.add p q with ⟨_, z, hz, j1⟩ | ⟨j1, _⟩
            · exact absurd j1 (h2 z hz)
            · exact j1
          rw [e1, e2]
          by_cases a1 : e.kill = some (p, q) <;> by_cases a2 : f.kill = some (p, q) <;> simp [a1, a2]
    have kb : (e.app d (f.app d' m)).boxes = (f.app d' (e.app d m)).boxes := by
      simp only [Eff.app]
      cases e.box <;> cases f.box <;> simp only []
      funext i
      simp only [upd_apply]
      by_cases h1 : i = d + 500000 <;> by_cases h2 : i = d' + 500000 <;> simp [h1, h2] <;> omega
    have kf : (e.app d (f.app d' m)).froz = (f.app d' (e.app d m)).froz := by
      have n1 : d + 500000 ∉ f.frz := fun h => hf.frz _ h (List.mem_map.2 ⟨d, hd, rfl⟩)
      have n2 : d' + 500000 ∉ e.frz := fun h => he.frz _ h (List.mem_map.2 ⟨d', hd', rfl⟩)
      simp only [Eff.app]
      funext i
      by_cases a1 : i ∈ e.frz <;> by_cases a2 : i ∈ f.frz <;> by_cases a3 : i = d + 500000 <;> by_cases a4 : i = d' + 500000 <;> simp_all
    have : ∀ a b : Mem, a.boxes = b.boxes → (∀ p q, a.names p q = b.names p q) → a.froz = b.froz → a = b := fun a b h1 h2 h3 => by
      cases a; cases b
      simp only at h1 h2 h3
      subst h1; subst h3
      simp only [Mem.mk.injEq, true_and, and_true]
      funext p q; exact h2 p q
    exact this _ _ kb key kf

theorem isWanted_put {ops : Array Oper} {o : Oper} {dst : Option Tmp} {v : AV} (h : ∀ d, dst = some d → d ∉ o.looksAt ops) : isWanted ops o.guard (putT dst v t) = isWanted ops o.guard t := by
  cases dst with
  | none => rfl
  | some d =>
    have h1 := h d rfl
    unfold isWanted
    cases hg : o.guard with
    | none => rfl
    | some jw =>
      obtain ⟨j, want⟩ := jw
      simp only
      cases hd : (ops[j]?).bind (·.dst) with
      | none => rfl
      | some d2 =>
        have hne : d2 ≠ d := fun he => h1 (List.mem_append_right _ (by rw [hg]; simp only; rw [hd, he]; simp))
        simp only [putT, upd_apply, if_neg hne]
theorem opnd_put {ops : Array Oper} {o : Oper} {dst : Option Tmp} {v : AV} (h : ∀ d, dst = some d → d ∉ o.looksAt ops) : ∀ y ∈ o.op.operands, opnd (putT dst v t) y = opnd t y := fun y hy => by
  cases dst with
  | none => rfl
  | some d =>
    cases y with
    | tmp i =>
      have hne : i ≠ d := fun he => h d rfl (List.mem_append_left _ (List.mem_filterMap.2 ⟨.tmp d, by subst he; simpa using hy, rfl⟩))
      simp only [opnd, putT, upd_apply, if_neg hne]
    | _ => rfl
theorem putT_comm {x y : Option Tmp} {v u : AV} (h : ∀ d, x = some d → y ≠ some d) : putT y u (putT x v t) = putT x v (putT y u t) := by
  cases x with
  | none => rfl
  | some d =>
    cases y with
    | none => rfl
    | some e =>
      have hne : d ≠ e := fun he => h d rfl (he ▸ rfl)
      funext i
      simp only [putT, upd_apply]
      by_cases h1 : i = d <;> by_cases h2 : i = e <;> simp_all

theorem lkL_looks {ops : Array Oper} {o : Oper} {i : Nat} (h : i ∈ lkL o.op.operands.toList) : i ∈ o.looksAt ops := by
  unfold Oper.looksAt
  refine List.mem_append_left _ ?_
  have : ∀ l : List Operand, i ∈ lkL l → Operand.tmp i ∈ l := fun l => by
    induction l with
    | nil => intro h; simp [lkL] at h
    | cons x l ih =>
      intro h
      cases x with
      | tmp j =>
        simp only [lkL, List.mem_cons] at h
        rcases h with rfl | h
        · simp
        · exact List.mem_cons_of_mem _ (ih h)
      | const v => exact List.mem_cons_of_mem _ (ih (by simpa [lkL] using h))
      | global g => exact List.mem_cons_of_mem _ (ih (by simpa [lkL] using h))
      | func f => exact List.mem_cons_of_mem _ (ih (by simpa [lkL] using h))
  exact List.mem_filterMap.2 ⟨_, this _ h, rfl⟩
theorem storeFine_nb {D : Option DD} {o : Oper} {t : Tmps} (h : barrier o.op = false) : storeFine D o t = true := by
  unfold storeFine
  split
  · rename_i l k
    have : looseAt k o.op = none := by
      cases ho : o.op <;> first | rfl | (rw [ho] at h; simp [barrier] at h)
    rw [this]
  · rfl
theorem dFor_some {h : Keep} (o : Oper) : ∃ L, (∀ i ∈ Dl, i ∈ L) ∧ dFor (some (Dl, h)) o = some L := by
  unfold dFor
  refine ⟨_, fun i hi => ?_, rfl⟩
  split
  · exact List.mem_append_left _ hi
  · exact hi
theorem swap {h : Keep} {N : Nat} {ops : Array Oper} {oj oi : Oper} {t1 t2 : Tmps} {m1 m2 : Mem} (hap : oj.apart ops oi = true) (bj : barrier oj.op = false) (bi : barrier oi.op = false) {dj di : Nat} (hj : oj.dst = some dj) (hi : oi.dst = some di) (hdj : dj ∈ Dl) (hdi : di ∈ Dl)
    (h1 : astep P C ro (some (Dl, h)) N ops oj t m = some (t1, m1)) (h2 : astep P C ro (some (Dl, h)) N ops oi t1 m1 = some (t2, m2)) :
    ∃ t1' m1', astep P C ro (some (Dl, h)) N ops oi t m = some (t1', m1') ∧ astep P C ro (some (Dl, h)) N ops oj t1' m1' = some (t2, m2) := by
  obtain ⟨a1, a2, a3⟩ := Oper.apart_spec hap
  have hne : dj ≠ di := fun he => a2 dj hj (by rw [hi, he])
  unfold astep at h1 h2
  split at h1
  case isFalse => simp at h1
  rename_i okj
  split at h2
  case isFalse => simp at h2
  rename_i oki
  have oki' : (okDst N oi.dst && storeFine (some (Dl, h)) oi t) = true := by rw [storeFine_nb bi]; rw [storeFine_nb bi] at oki; exact oki
  have okj' : ∀ t', (okDst N oj.dst && storeFine (some (Dl, h)) oj t') = true := fun t' => by rw [storeFine_nb bj]; rw [storeFine_nb bj] at okj; exact okj
  unfold astep
  rw [if_pos oki']
  simp only [if_pos (okj' _)]
  split at h1
  · rename_i wj
    split at h1
    case h_2 => simp at h1
    rename_i vj mj hoj
    simp only [Option.some.injEq, Prod.mk.injEq] at h1
    obtain ⟨rfl, rfl⟩ := h1
    rw [isWanted_put a1] at h2
    split at h2
    · rename_i wi
      split at h2
      case h_2 => simp at h2
      rename_i vi mi hoi
      simp only [Option.some.injEq, Prod.mk.injEq] at h2
      obtain ⟨rfl, rfl⟩ := h2
      rw [aop_congr (opnd_put a1)] at hoi
      rw [hj, Option.getD_some] at hoj
      rw [hi, Option.getD_some] at hoi
      obtain ⟨Lj, sj, ej'⟩ := dFor_some (Dl := Dl) (h := h) oj
      obtain ⟨Li, si, ei'⟩ := dFor_some (Dl := Dl) (h := h) oi
      rw [ej'] at hoj ⊢
      rw [ei'] at hoi ⊢
      obtain ⟨Dj, ej, lj, kj1, kj2, kj3⟩ := aop_eff bj hoj
      obtain ⟨Di, ei, li, ki1, ki2, ki3⟩ := aop_eff bi hoi
      subst kj2
      subst ki2
      obtain ⟨f1, f2, f3⟩ := eff_back hne (si _ hdj) (sj _ hdi) ((li dj (si _ hdj)).resolve_right fun h => a1 dj hj (lkL_looks h)) ((lj di (sj _ hdi)).resolve_right fun h => a3 di hi (lkL_looks h)) kj1 ki1
      have hbx : ∀ (e : Eff) (d : Nat) (Dl : List Nat), d ∈ Dl → ∀ (m : Mem) id, id ∉ Dl.map (· + 500000) → (e.app d m).boxes id = m.boxes id := fun e d Dl hd m id hid => by
        have hn : id ≠ d + 500000 := fun h => hid (List.mem_map.2 ⟨d, hd, h.symm⟩)
        exact app_boxes_ne hn
      have g1 := ki3 m (fun id hid => (hbx ej dj _ (si _ hdj) m id hid).symm) f1
      have g2 := kj3 (ei.app di m) (fun id hid => hbx ei di _ (sj _ hdi) m id hid) f2
      refine ⟨putT oi.dst vi t, ei.app di m, ?_, ?_⟩
      · try rw [wi]
        simp only [hi, Option.getD_some, g1]
      · rw [isWanted_put a3, wj]
        simp only
        rw [aop_congr (opnd_put a3)]
        simp only [hj, Option.getD_some, g2, f3]
        rw [← hj, putT_comm (fun d hd => a2 d hd)]
    · rename_i wi
      simp only [Option.some.injEq, Prod.mk.injEq] at h2
      obtain ⟨rfl, rfl⟩ := h2
      refine ⟨putT oi.dst (.tup []) t, m, ?_, ?_⟩
      · first | rfl | rw [wi]
      · rw [isWanted_put a3, wj]
        simp only
        rw [aop_congr (opnd_put a3), hoj]
        simp only
        rw [putT_comm (fun d hd => a2 d hd)]
    · simp at h2
  · rename_i wj
    simp only [Option.some.injEq, Prod.mk.injEq] at h1
    obtain ⟨rfl, rfl⟩ := h1
    rw [isWanted_put a1] at h2
    split at h2
    · rename_i wi
      split at h2
      case h_2 => simp at h2
      rename_i vi mi hoi
      simp only [Option.some.injEq, Prod.mk.injEq] at h2
      obtain ⟨rfl, rfl⟩ := h2
      rw [aop_congr (opnd_put a1)] at hoi
      refine ⟨putT oi.dst vi t, mi, ?_, ?_⟩
      · try rw [wi]
        simp only [hoi]
      · rw [isWanted_put a3, wj]
        simp only
        rw [putT_comm (fun d hd => a2 d hd)]
    · rename_i wi
      simp only [Option.some.injEq, Prod.mk.injEq] at h2
      obtain ⟨rfl, rfl⟩ := h2
      refine ⟨putT oi.dst (.tup []) t, m, ?_, ?_⟩
      · first | rfl | rw [wi]
      · rw [isWanted_put a3, wj]
        simp only
        rw [putT_comm (fun d hd => a2 d hd)]
    · simp at h2
  · simp at h1

/-- What a step yields. -/
def astepV (P : Program) (C : Oracle) (ro : FuncId → Bool) (D : Option DD) (N : Nat) (ops : Array Oper) (o : Oper) (t : Tmps) (m : Mem) : Option (AV × Mem) :=
  if (okDst N o.dst && storeFine D o t) = true then
    match isWanted ops o.guard t with
    | some true => aop P C ro (dFor D o) o.op (o.dst.getD 999999) (opnd t) m
    | some false => some (.tup [], m)
    | none => none
  else none
theorem astep_eq (N : Nat) (D : Option DD) (ops : Array Oper) (o : Oper) (t : Tmps) (m : Mem) : astep P C ro D N ops o t m = (astepV P C ro D N ops o t m).map fun r => (putT o.dst r.1 t, r.2) := by
  unfold astep astepV
  split
  · cases isWanted ops o.guard t with
    | none => rfl
    | some b =>
      cases b with
      | false => rfl
      | true =>
        simp only
        cases aop P C ro (dFor D o) o.op (o.dst.getD 999999) (opnd t) m <;> rfl
  · rfl
theorem storeFine_put {D : Option DD} {ops : Array Oper} {o : Oper} {dst : Option Tmp} {u : AV} (hd : ∀ d, dst = some d → d ∉ o.looksAt ops) : storeFine D o (putT dst u t) = storeFine D o t := by
  unfold storeFine
  split
  · rename_i l k
    cases hl : looseAt k o.op with
    | none => rfl
    | some q =>
      obtain ⟨a, r⟩ := q
      simp only
      have ha : Operand.tmp a ∈ o.op.operands := by
        unfold looseAt at hl
        split at hl
        · rename_i ty b y heq
          split at hl
          · simp only [Option.some.injEq, Prod.mk.injEq] at hl
            rw [heq, hl.1]
            simp [Op.operands]
          · simp at hl
        · simp at hl
      have := opnd_put (v := u) (t := t) hd (.tmp a) ha
      simp only [opnd] at this
      rw [this]
  · rfl
theorem astepV_put {N : Nat} {D : Option DD} {ops : Array Oper} {o : Oper} {dst : Option Tmp} {u : AV} (hd : ∀ d, dst = some d → d ∉ o.looksAt ops) : astepV P C ro D N ops o (putT dst u t) m = astepV P C ro D N ops o t m := by
  unfold astepV
  rw [isWanted_put hd, aop_congr (opnd_put hd), storeFine_put hd]
theorem astepV_light {N : Nat} {D : Option DD} {ops : Array Oper} {o : Oper} {r : AV × Mem} (hl : light o.op = true) (h : astepV P C ro D N ops o t m = some r) : r.2 = m ∧ ∀ m2, astepV P C ro D N ops o t m2 = some (r.1, m2) := by
  have hop : ∃ y, ∀ (d : Nat) (ρ : Operand → AV) (m : Mem), aop P C ro (dFor D o) o.op d ρ m = some (ρ y, m) := by
    cases hop : o.op <;> rw [hop] at hl <;> simp [light] at hl
    · exact ⟨_, fun _ _ _ => rfl⟩
    · exact ⟨_, fun _ _ _ => rfl⟩
  obtain ⟨y, hy⟩ := hop
  unfold astepV at h ⊢
  simp only [hy] at h ⊢
  split at h
  case isFalse => simp at h
  rename_i ok
  simp only [if_pos ok]
  cases hw : isWanted ops o.guard t with
  | none => rw [hw] at h; simp at h
  | some b =>
    rw [hw] at h
    cases b with
    | true => simp only [Option.some.injEq] at h; subst h; exact ⟨rfl, fun _ => rfl⟩
    | false => simp only [Option.some.injEq] at h; subst h; exact ⟨rfl, fun _ => rfl⟩
theorem swap_light {N : Nat} {D : Option DD} {ops : Array Oper} {oj oi : Oper} {t1 t2 : Tmps} {m1 m2 : Mem} (hap : oj.apart ops oi = true) (hl : light oj.op = true ∨ light oi.op = true)
    (h1 : astep P C ro D N ops oj t m = some (t1, m1)) (h2 : astep P C ro D N ops oi t1 m1 = some (t2, m2)) :
    ∃ t1' m1', astep P C ro D N ops oi t m = some (t1', m1') ∧ astep P C ro D N ops oj t1' m1' = some (t2, m2) := by
  obtain ⟨a1, a2, a3⟩ := Oper.apart_spec hap
  rw [astep_eq] at h1 h2
  simp only [Option.map_eq_some_iff, Prod.mk.injEq] at h1 h2
  obtain ⟨⟨vj, mj⟩, hj, rfl, rfl⟩ := h1
  obtain ⟨⟨vi, mi⟩, hi, rfl, rfl⟩ := h2
  rw [astepV_put a1] at hi
  simp only at hi ⊢
  have hc : putT oi.dst vi (putT oj.dst vj t) = putT oj.dst vj (putT oi.dst vi t) := putT_comm (fun d hd => a2 d hd)
  rcases hl with hl | hl
  · obtain ⟨e, hj2⟩ := astepV_light hl hj
    simp only at e; subst e
    exact ⟨putT oi.dst vi t, mi, by rw [astep_eq, hi]; rfl, by rw [astep_eq, astepV_put a3, hj2, hc]; rfl⟩
  · obtain ⟨e, hi2⟩ := astepV_light hl hi
    simp only at e; subst e
    exact ⟨putT oi.dst vi t, m, by rw [astep_eq, hi2]; rfl, by rw [astep_eq, astepV_put a3, hj, hc]; rfl⟩
/-- A store, and what it asks. -/
theorem store_form {D : Option (List Nat)} {ty : TypeId} {p y : Operand} {id off : Nat} (hp : ρ p = .ptr id off) (h : aop P C ro D (.store ty p y) d ρ m = some (x, m')) :
    ∃ c c', m.boxes id = some c ∧ m.froz id = false ∧ x = .tup [] ∧ m' = { m with boxes := upd m.boxes id (some c') } ∧
      ∀ m2 : Mem, m2.boxes id = some c → m2.froz id = false → aop P C ro D (.store ty p y) d ρ m2 = some (.tup [], { m2 with boxes := upd m2.boxes id (some c') }) := by
  simp only [aop, hp] at h
  split at h
  case h_2 => simp at h
  rename_i c hc
  split at h
  case isFalse => simp at h
  rename_i hcond
  simp only [Option.some.injEq, Prod.mk.injEq] at h
  obtain ⟨rfl, rfl⟩ := h
  refine ⟨c, _, hc, hcond.2.2.1, rfl, rfl, fun m2 h1 h2 => ?_⟩
  simp only [aop, hp, h1]
  rw [if_pos ⟨hcond.1, hcond.2.1, h2, hcond.2.2.2⟩]
theorem mem_eq {a b : Mem} (h1 : a.boxes = b.boxes) (h2 : a.names = b.names) (h3 : a.froz = b.froz) : a = b := by
  cases a; cases b; simp_all
/-- An effect leaves a box alone that its operation could not see, and does not mind what is in it. -/
theorem app_apart {e : Eff} {Dk : List Nat} {id : Nat} {c c' : Box} (he : e.ok Dl Dk d m) (hid : id ∈ Dl.map (· + 500000)) (hne : id ≠ d + 500000) (hc : m.boxes id = some c) :
    (e.app d m).boxes id = some c ∧ (e.app d m).froz id = m.froz id ∧ e.ok Dl Dk d { m with boxes := upd m.boxes id (some c') } ∧
      e.app d { m with boxes := upd m.boxes id (some c') } = { e.app d m with boxes := upd (e.app d m).boxes id (some c') } := by
  have hfz : id ∉ e.frz := fun h => he.frz _ h hid
  refine ⟨?_, ?_, ⟨fun h => ?_, he.kill, he.fresh, he.own, he.frz⟩, ?_⟩
  · rw [app_boxes_ne hne, hc]
  · simp only [Eff.app, if_neg hfz]
    rw [if_neg (fun h => hne h.2)]
  · simp only [upd_apply]
    rw [if_neg (by omega)]
    exact he.box h
  · refine mem_eq ?_ rfl rfl
    simp only [Eff.app]
    cases e.box with
    | none => rfl
    | some b =>
      simp only
      funext i
      simp only [upd_apply]
      by_cases h1 : i = d + 500000
      · subst h1; simp [show ¬ d + 500000 = id from fun h => hne h.symm]
      · simp [h1]
theorem loose_spec {ops : Array Oper} {h : Keep} {os oe : Oper} (hl : loosePair ops h os oe = true) : ∃ ty a y r de, os.op = .store ty (.tmp a) y ∧ looseAt h os.op = some (a, r) ∧ barrier oe.op = false ∧ oe.dst = some de ∧ exposed h oe = true ∧ r ∉ dsts ops ∧ r ∈ rootsOf h := by
  unfold loosePair at hl
  split at hl
  · rename_i a r hla
    simp only [Bool.and_eq_true, Bool.not_eq_true', List.contains_eq_mem, decide_eq_true_eq, decide_eq_false_iff_not] at hl
    obtain ⟨⟨⟨⟨h1, h2⟩, h3⟩, h4⟩, h5⟩ := hl
    obtain ⟨de, hde⟩ := Option.isSome_iff_exists.1 h2
    have hla' := hla
    unfold looseAt at hla
    split at hla
    · rename_i ty b y heq
      split at hla
      · simp only [Option.some.injEq, Prod.mk.injEq] at hla
        obtain ⟨rfl, rfl⟩ := hla
        exact ⟨ty, _, y, _, de, heq, hla', h1, hde, h3, h4, h5⟩
      · simp at hla
    · simp at hla
  · simp at hl
theorem fine_ptr {h : Keep} {l : List Nat} {o : Oper} {a r : Nat} (hla : looseAt h o.op = some (a, r)) (hf : storeFine (some (l, h)) o t = true) : ∃ off, t a = .ptr (r + 500000) off := by
  unfold storeFine at hf
  simp only [hla] at hf
  unfold isBox at hf
  split at hf
  · rename_i i off heq
    simp only [beq_iff_eq] at hf
    exact ⟨off, by rw [heq, hf]⟩
  · simp at hf
/-- A store and an operation that cannot see it. -/
theorem core_ls {h : Keep} {N : Nat} {ops : Array Oper} {os oe : Oper} {ve vs : AV} {me ms : Mem} (hde : ∀ d, oe.dst = some d → d ∈ dsts ops) (hl : loosePair ops h os oe = true)
    (h1 : astepV P C ro (some (dsts ops, h)) N ops oe t m = some (ve, me)) (h2 : astepV P C ro (some (dsts ops, h)) N ops os t me = some (vs, ms)) :
    ∃ m', astepV P C ro (some (dsts ops, h)) N ops os t m = some (vs, m') ∧ astepV P C ro (some (dsts ops, h)) N ops oe t m' = some (ve, ms) := by
  obtain ⟨ty, a, y, r, de, ho, hla, hb, hd, hex, hr, hroot⟩ := loose_spec hl
  unfold astepV at h1 h2 ⊢
  split at h1
  case isFalse => simp at h1
  rename_i oke
  split at h2
  case isFalse => simp at h2
  rename_i oks
  obtain ⟨off, hta⟩ := fine_ptr hla (Bool.and_eq_true_iff.1 oks).2
  simp only [if_pos oke, if_pos oks]
  cases hwe : isWanted ops oe.guard t with
  | none => rw [hwe] at h1; simp at h1
  | some be =>
    rw [hwe] at h1
    cases hws : isWanted ops os.guard t with
    | none => rw [hws] at h2; simp at h2
    | some bs =>
      rw [hws] at h2
      cases bs with
      | false =>
        simp only [Option.some.injEq, Prod.mk.injEq] at h2
        obtain ⟨rfl, rfl⟩ := h2
        exact ⟨m, rfl, h1⟩
      | true =>
        cases be with
        | false =>
          simp only [Option.some.injEq, Prod.mk.injEq] at h1
          obtain ⟨rfl, rfl⟩ := h1
          exact ⟨ms, h2, rfl⟩
        | true =>
          simp only at h1 h2 ⊢
          have eD : dFor (some (dsts ops, h)) oe = some (dsts ops ++ rootsOf h) := by simp [dFor, hex]
          rw [eD] at h1 ⊢
          rw [hd, Option.getD_some] at h1 ⊢
          rw [ho] at h2 ⊢
          obtain ⟨Dk, e, le, k1, k2, k3⟩ := aop_eff hb h1
          obtain ⟨c, c', b1, b2, rfl, b3, b4⟩ := store_form (P := P) (ρ := opnd t) (p := .tmp a) (by simpa [opnd] using hta) h2
          subst k2
          have hid : r + 500000 ∈ (dsts ops ++ rootsOf h).map (· + 500000) := List.mem_map.2 ⟨r, List.mem_append_right _ hroot, rfl⟩
          have hne : r + 500000 ≠ de + 500000 := fun he => hr ((show r = de by omega) ▸ hde de hd)
          have hm0 : m.boxes (r + 500000) = some c := by rw [← b1, app_boxes_ne hne]
          obtain ⟨j1, j2, j3, j4⟩ := app_apart (c' := c') k1 hid hne hm0
          refine ⟨_, b4 m hm0 (by rw [← j2]; exact b2), ?_⟩
          rw [k3 _ (fun id' hid' => ?_) j3, j4, b3]
          simp only [upd_apply]
          rw [if_neg (fun he => hid' (by rw [he]; exact hid))]
theorem core_sl {h : Keep} {N : Nat} {ops : Array Oper} {os oe : Oper} {ve vs : AV} {me ms : Mem} (hde : ∀ d, oe.dst = some d → d ∈ dsts ops) (hl : loosePair ops h os oe = true)
    (h1 : astepV P C ro (some (dsts ops, h)) N ops os t m = some (vs, ms)) (h2 : astepV P C ro (some (dsts ops, h)) N ops oe t ms = some (ve, me)) :
    ∃ m', astepV P C ro (some (dsts ops, h)) N ops oe t m = some (ve, m') ∧ astepV P C ro (some (dsts ops, h)) N ops os t m' = some (vs, me) := by
  obtain ⟨ty, a, y, r, de, ho, hla, hb, hd, hex, hr, hroot⟩ := loose_spec hl
  unfold astepV at h1 h2 ⊢
  split at h1
  case isFalse => simp at h1
  rename_i oks
  split at h2
  case isFalse => simp at h2
  rename_i oke
  obtain ⟨off, hta⟩ := fine_ptr hla (Bool.and_eq_true_iff.1 oks).2
  simp only [if_pos oke, if_pos oks]
  cases hwe : isWanted ops oe.guard t with
  | none => rw [hwe] at h2; simp at h2
  | some be =>
    rw [hwe] at h2
    cases hws : isWanted ops os.guard t with
    | none => rw [hws] at h1; simp at h1
    | some bs =>
      rw [hws] at h1
      cases bs with
      | false =>
        simp only [Option.some.injEq, Prod.mk.injEq] at h1
        obtain ⟨rfl, rfl⟩ := h1
        exact ⟨me, h2, rfl⟩
      | true =>
        cases be with
        | false =>
          simp only [Option.some.injEq, Prod.mk.injEq] at h2
          obtain ⟨rfl, rfl⟩ := h2
          exact ⟨m, rfl, h1⟩
        | true =>
          simp only at h1 h2 ⊢
          have eD : dFor (some (dsts ops, h)) oe = some (dsts ops ++ rootsOf h) := by simp [dFor, hex]
          rw [eD] at h2 ⊢
          rw [hd, Option.getD_some] at h2 ⊢
          rw [ho] at h1 ⊢
          obtain ⟨Dk, e, le, k1, k2, k3⟩ := aop_eff hb h2
          obtain ⟨c, c', b1, b2, rfl, b3, b4⟩ := store_form (P := P) (ρ := opnd t) (p := .tmp a) (by simpa [opnd] using hta) h1
          subst k2
          have hid : r + 500000 ∈ (dsts ops ++ rootsOf h).map (· + 500000) := List.mem_map.2 ⟨r, List.mem_append_right _ hroot, rfl⟩
          have hne : r + 500000 ≠ de + 500000 := fun he => hr ((show r = de by omega) ▸ hde de hd)
          have hback : m = { ms with boxes := upd ms.boxes (r + 500000) (some c) } := by
            refine mem_eq ?_ (by rw [b3]) (by rw [b3])
            rw [b3]
            funext i
            simp only [upd_apply]
            split
            · rename_i hi; rw [hi, b1]
            · rfl
          have hms : ms.boxes (r + 500000) = some c' := by rw [b3]; simp
          obtain ⟨j1, j2, j3, j4⟩ := app_apart (c' := c) k1 hid hne hms
          rw [← hback] at j3 j4
          obtain ⟨q1, q2, q3, q4⟩ := app_apart (c' := c') j3 hid hne b1
          refine ⟨_, k3 m (fun id' hid' => ?_) j3, ?_⟩
          · rw [b3]
            simp only [upd_apply]
            rw [if_neg (fun he => hid' (by rw [he]; exact hid))]
          · rw [b4 _ q1 (by rw [q2]; exact b2)]
            rw [← q4, ← b3]
theorem swap_loose {h : Keep} {N : Nat} {ops : Array Oper} {oj oi : Oper} {t1 t2 : Tmps} {m1 m2 : Mem} (hap : oj.apart ops oi = true) (hdj : ∀ d, oj.dst = some d → d ∈ dsts ops) (hdi : ∀ d, oi.dst = some d → d ∈ dsts ops)
    (hl : loosePair ops h oj oi = true ∨ loosePair ops h oi oj = true)
    (h1 : astep P C ro (some (dsts ops, h)) N ops oj t m = some (t1, m1)) (h2 : astep P C ro (some (dsts ops, h)) N ops oi t1 m1 = some (t2, m2)) :
    ∃ t1' m1', astep P C ro (some (dsts ops, h)) N ops oi t m = some (t1', m1') ∧ astep P C ro (some (dsts ops, h)) N ops oj t1' m1' = some (t2, m2) := by
  obtain ⟨a1, a2, a3⟩ := Oper.apart_spec hap
  rw [astep_eq] at h1 h2
  simp only [Option.map_eq_some_iff, Prod.mk.injEq] at h1 h2
  obtain ⟨⟨vj, mj⟩, hj, rfl, rfl⟩ := h1
  obtain ⟨⟨vi, mi⟩, hi, rfl, rfl⟩ := h2
  rw [astepV_put a1] at hi
  simp only at hi ⊢
  have hc : putT oi.dst vi (putT oj.dst vj t) = putT oj.dst vj (putT oi.dst vi t) := putT_comm (fun d hd => a2 d hd)
  rcases hl with hl | hl
  · obtain ⟨m', k1, k2⟩ := core_sl hdi hl hj hi
    exact ⟨putT oi.dst vi t, m', by rw [astep_eq, k1]; rfl, by rw [astep_eq, astepV_put a3, k2, hc]; rfl⟩
  · obtain ⟨m', k1, k2⟩ := core_ls hdj hl hj hi
    exact ⟨putT oi.dst vi t, m', by rw [astep_eq, k1]; rfl, by rw [astep_eq, astepV_put a3, k2, hc]; rfl⟩
end
end Ev

/- A verified evaluator, part W: statements whose order is open. -/
namespace Ev
open Go
section
variable {P : Program} {m m' : Mem} {t : Tmps} {C : Oracle} {ro : FuncId → Bool} {Dl : List Nat} {d : Nat} {x : AV}

def evIdx {R : Type} (P : Program) (C : Oracle) (ro : FuncId → Bool) (D : Option DD) (N : Nat) (ops : Array Oper) : List Nat → Tmps → Mem → (Tmps → Mem → Option R) → Option R
  | [], t, m, K => K t m
  | i :: r, t, m, K => match ops[i]? with
    | none => none
    | some o => match astep P C ro D N ops o t m with
      | some (t', m') => evIdx P C ro D N ops r t' m' K
      | none => none
theorem evIdx_of {R : Type} {N : Nat} {D : Option DD} {ops : Array Oper} {K : Tmps → Mem → Option R} : ∀ (l : List Oper) (k : Nat) (t : Tmps) (m : Mem), ops.toList.drop k = l → evIdx P C ro D N ops (List.range' k l.length) t m K = evOps P C ro D N ops l t m K
  | [], k, t, m, hl => by simp [evIdx, evOps]
  | o :: l, k, t, m, hl => by
    have hk : ops[k]? = some o := by
      have := congrArg (·[0]?) hl
      simpa [List.getElem?_drop] using this
    simp only [List.length_cons, List.range'_succ, evIdx, evOps, hk]
    cases astep P C ro D N ops o t m with
    | none => rfl
    | some q => exact evIdx_of l (k + 1) q.1 q.2 (by rw [← List.drop_drop, hl]; rfl)

theorem dst_mem {ops : Array Oper} {i : Nat} {o : Oper} {d : Nat} (h : ops[i]? = some o) (hd : o.dst = some d) : d ∈ dsts ops := by
  unfold dsts
  exact List.mem_filterMap.2 ⟨o, by have := Array.mem_of_getElem? h; simpa using this, hd⟩

/-- A statement that may come now may come first of all. -/
theorem to_front {h : Keep} {R : Type} {N : Nat} {ops : Array Oper} {K : Tmps → Mem → Option R} {r : R} {i : Nat} {oi : Oper} (hi : ops[i]? = some oi) {L2 : List Nat} : ∀ (L1 : List Nat) (t : Tmps) (m : Mem),
    (∀ j ∈ L1, ∀ oj, ops[j]? = some oj → oj.apart ops oi = true ∧ ((light oj.op = true ∨ light oi.op = true) ∨ barrier oj.op = false ∧ barrier oi.op = false ∧ oj.dst.isSome = true ∧ oi.dst.isSome = true ∨ (loosePair ops h oj oi = true ∨ loosePair ops h oi oj = true))) →
    evIdx P C ro (some (dsts ops, h)) N ops (L1 ++ i :: L2) t m K = some r → evIdx P C ro (some (dsts ops, h)) N ops (i :: (L1 ++ L2)) t m K = some r
  | [], t, m, hp, hh => hh
  | j :: L1, t, m, hp, hh => by
    simp only [List.cons_append, evIdx] at hh
    split at hh
    · simp at hh
    rename_i oj hj
    split at hh
    case h_2 => simp at hh
    rename_i t1 m1 h1
    have ih := to_front hi L1 t1 m1 (fun k hk => hp k (by simp [hk])) hh
    simp only [evIdx, hi] at ih
    split at ih
    case h_2 => simp at ih
    rename_i t2 m2 h2
    obtain ⟨ha, hl | ⟨b1, b2, d1, d2⟩ | hl⟩ := hp j (by simp) oj hj
    · obtain ⟨t1', m1', k1, k2⟩ := swap_light ha hl h1 h2
      simp only [List.cons_append, evIdx, hi, hj, k1, k2]
      exact ih
    rotate_left
    · obtain ⟨t1', m1', k1, k2⟩ := swap_loose ha (fun d hd => dst_mem hj hd) (fun d hd => dst_mem hi hd) hl h1 h2
      simp only [List.cons_append, evIdx, hi, hj, k1, k2]
      exact ih
    obtain ⟨dj, hdj⟩ := Option.isSome_iff_exists.1 d1
    obtain ⟨di, hdi⟩ := Option.isSome_iff_exists.1 d2
    obtain ⟨t1', m1', k1, k2⟩ := swap ha b1 b2 hdj hdi (dst_mem hj hdj) (dst_mem hi hdi) h1 h2
    simp only [List.cons_append, evIdx, hi, hj, k1, k2]
    exact ih

theorem drawOk_back {ops : Array Oper} {hk : Keep} (h : drawOk ops hk = true) {i : Nat} {o : Oper} (hi : ops[i]? = some o) : ∀ e ∈ o.after, Region.binds .any e = true → e.on < i := fun e he hb => by
  have hlt : i < ops.size := (Array.getElem?_eq_some_iff.1 hi).1
  have := List.all_eq_true.1 h i (by simpa using hlt)
  rw [hi] at this
  simp only [Bool.and_eq_true] at this
  have h2 := Array.all_eq_true_iff_forall_mem.1 this.1 e he
  simp only [hb, Bool.not_true, Bool.false_or, decide_eq_true_eq] at h2
  exact h2
/-- What is listed waits for nothing. -/
def Closed (ops : Array Oper) (listed : Array Bool) : Prop := ∀ k o, ops[k]? = some o → listed.getD k false = true → ∀ e ∈ o.after, Region.binds .any e = true → listed.getD e.on false = true
theorem reach_listed {ops : Array Oper} {listed : Array Bool} (hc : Closed ops listed) : ∀ (n i j : Nat) (o : Oper), ops[i]? = some o → (∀ e ∈ o.after, Region.binds .any e = true → listed.getD e.on false = true) → reach ops n i j = true → listed.getD j false = true
  | 0, i, j, o, hi, he, h => by simp [reach] at h
  | n + 1, i, j, o, hi, he, h => by
    simp only [reach, hi, Bool.or_eq_true] at h
    rcases h with h | h
    · simp only [edgeTo] at h
      obtain ⟨k, hk, hk2⟩ := Array.any_eq_true.1 h
      simp only [Bool.and_eq_true, beq_iff_eq] at hk2
      rw [← hk2.2]
      exact he _ (Array.getElem_mem hk) hk2.1
    · obtain ⟨k, hk, hk2⟩ := Array.any_eq_true.1 h
      simp only [Bool.and_eq_true] at hk2
      have hl := he _ (Array.getElem_mem hk) hk2.1
      cases ho : ops[(o.after[k]).on]? with
      | none =>
        have : reach ops n (o.after[k]).on j = false := by
          cases n with
          | zero => rfl
          | succ n => simp [reach, ho]
        rw [this] at hk2; simp at hk2
      | some o2 => exact reach_listed hc n _ j o2 ho (hc _ o2 ho hl) hk2.2
theorem drawOk_pair {ops : Array Oper} {hk : Keep} (h : drawOk ops hk = true) {i j : Nat} {oi oj : Oper} (hi : ops[i]? = some oi) (hj : ops[j]? = some oj) (hji : j < i) (hn : reach ops 5 i j = false) :
    oj.apart ops oi = true ∧ ((light oj.op = true ∨ light oi.op = true) ∨ barrier oj.op = false ∧ barrier oi.op = false ∧ oj.dst.isSome = true ∧ oi.dst.isSome = true ∨ (loosePair ops hk oj oi = true ∨ loosePair ops hk oi oj = true)) := by
  have hlt : i < ops.size := (Array.getElem?_eq_some_iff.1 hi).1
  have := List.all_eq_true.1 h i (by simpa using hlt)
  rw [hi] at this
  simp only [Bool.and_eq_true] at this
  have h2 := List.all_eq_true.1 this.2 j (by simpa using hji)
  simp only [pairOk, hi, hj, Bool.or_eq_true, Bool.and_eq_true, Bool.not_eq_true'] at h2
  rcases h2 with h2 | h2
  · rw [hn] at h2; simp at h2
  · refine ⟨h2.1, ?_⟩
    rcases h2.2 with ((h3 | h3) | h3) | h3
    · exact .inl h3
    · exact .inr (.inl ⟨h3.1.1.1, h3.1.1.2, h3.1.2, h3.2⟩)
    · exact .inr (.inr (.inl h3))
    · exact .inr (.inr (.inr h3))

def openL (ops : Array Oper) (listed : Array Bool) : List Nat := (List.range ops.size).filter fun i => !listed.getD i true

theorem getD_set {listed : Array Bool} {i j : Nat} {b : Bool} (h : i < listed.size) : (listed.setIfInBounds i true).getD j b = if j = i then true else listed.getD j b := by
  simp only [Array.getD_eq_getD_getElem?, Array.getElem?_setIfInBounds]
  by_cases hj : i = j
  · subst hj; simp [h]
  · simp [hj, show ¬ j = i from fun he => hj he.symm]

theorem filter_split {p : Nat → Bool} {i : Nat} : ∀ (L : List Nat), L.Pairwise (· < ·) → i ∈ L.filter p → ∃ L1 L2, L.filter p = L1 ++ i :: L2 ∧ (∀ j ∈ L1, j < i ∧ p j = true) ∧ L.filter (fun j => p j && j != i) = L1 ++ L2
  | [], _, h => by simp at h
  | a :: L, hp, h => by
    obtain ⟨h1, h2⟩ := List.pairwise_cons.1 hp
    by_cases ha : a = i
    · subst ha
      have hpa : p a = true := (List.mem_filter.1 h).2
      refine ⟨[], L.filter p, by simp [List.filter_cons, hpa], by simp, ?_⟩
      simp only [List.filter_cons, bne_self_eq_false, Bool.and_false, List.nil_append]
      refine List.filter_congr fun x hx => ?_
      have : x ≠ a := by have := h1 x hx; omega
      simp [this]
    · have h' : i ∈ L.filter p := by
        rw [List.mem_filter] at h ⊢
        exact ⟨by simpa [show ¬ i = a from fun he => ha he.symm] using h.1, h.2⟩
      obtain ⟨L1, L2, k1, k2, k3⟩ := filter_split L h2 h'
      have hai : a < i := h1 i (List.mem_filter.1 h').1
      by_cases hpa : p a = true
      · refine ⟨a :: L1, L2, by simp [List.filter_cons, hpa, k1], fun j hj => ?_, ?_⟩
        · simp only [List.mem_cons] at hj
          rcases hj with rfl | hj
          · exact ⟨hai, hpa⟩
          · exact k2 j hj
        · simp only [List.filter_cons, hpa, Bool.true_and, k3]
          simp [ha]
      · refine ⟨L1, L2, by simp [List.filter_cons, hpa, k1], k2, ?_⟩
        simp only [List.filter_cons, hpa, Bool.false_and, k3]
        simp

theorem draw_go {hk : Keep} {R : Type} {N : Nat} {ops : Array Oper} {r : R} {K : Tmps → Mem → Option R} {Q : Exit → Act → World → Prop} (hS : Sound P C) (hok : drawOk ops hk = true) : ∀ (fuel : Nat) (listed : Array Bool) (t : Tmps) (m : Mem), listed.size = ops.size → Closed ops listed → (openL ops listed).length ≤ fuel →
    evIdx P C ro (some (dsts ops, hk)) N ops (openL ops listed) t m K = some r →
    ∀ (c : Cfg) (a : Act) (w : World), SR P N c w t m a → (∀ t' m' c' a' w', K t' m' = some r → SR P N c' w' t' m' a' → Evo c.own w c'.own w' → Low c c' → Q .normal a' w') → wpAny P .any ops Q fuel listed a w := by
  intro fuel
  have hnil : ∀ (listed : Array Bool), listed.size = ops.size → Region.ready .any ops listed = [] → openL ops listed = [] := fun listed hsz hr => by
    by_cases hne : openL ops listed = []
    · exact hne
    · exfalso
      obtain ⟨i, L, hL⟩ := List.exists_cons_of_ne_nil hne
      have hi : i ∈ openL ops listed := by rw [hL]; simp
      have hmin : ∀ j, j < i → listed.getD j false = true := fun j hj => by
        by_cases hl : listed.getD j true = false
        · have hi' := (List.mem_filter.1 hi).1
          have hlt : i < ops.size := by simpa using hi'
          have hj' : j ∈ openL ops listed := List.mem_filter.2 ⟨by simp; omega, by simp [hl]⟩
          have hpw : (openL ops listed).Pairwise (· < ·) := List.Pairwise.filter _ List.pairwise_lt_range
          rw [hL] at hpw hj'
          have := (List.pairwise_cons.1 hpw).1
          simp only [List.mem_cons] at hj'
          rcases hj' with rfl | hj'
          · omega
          · have := this j hj'; omega
        · have hi' := (List.mem_filter.1 hi).1
          have hlt : i < ops.size := by simpa using hi'
          have hjl : j < listed.size := by omega
          simp only [Array.getD_eq_getD_getElem?, Array.getElem?_eq_getElem hjl, Option.getD_some] at hl ⊢
          simpa using hl
      obtain ⟨h1, h2⟩ := List.mem_filter.1 hi
      have hlt : i < ops.size := by simpa using h1
      have : i ∈ Region.ready .any ops listed := mem_ready.2 ⟨by simpa using h2, ops[i], Array.getElem?_eq_getElem hlt, fun e he hb => hmin _ (drawOk_back hok (Array.getElem?_eq_getElem hlt) e he hb)⟩
      rw [hr] at this
      simp at this
  induction fuel with
  | zero =>
    intro listed t m hsz hcl hlen h c a w hR hQ
    have : openL ops listed = [] := List.length_eq_zero_iff.1 (by omega)
    rw [this] at h
    refine ⟨?_, hQ t m c a w h hR (.refl _ _) (fun _ _ _ h => h)⟩
    by_cases hr : Region.ready .any ops listed = []
    · exact hr
    · exfalso
      obtain ⟨i, L, hL⟩ := List.exists_cons_of_ne_nil hr
      have hi : i ∈ Region.ready .any ops listed := by rw [hL]; simp
      obtain ⟨h1, o, ho, _⟩ := mem_ready.1 hi
      have : i ∈ openL ops listed := List.mem_filter.2 ⟨by simpa using (Array.getElem?_eq_some_iff.1 ho).1, by simp [h1]⟩
      simp_all
  | succ fuel ih =>
    intro listed t m hsz hcl hlen h c a w hR hQ
    refine ⟨fun hr => ?_, fun i hi => ?_⟩
    · rw [hnil listed hsz hr] at h
      exact hQ t m c a w h hR (.refl _ _) (fun _ _ _ h => h)
    · obtain ⟨h1, oi, hoi, h3⟩ := mem_ready.1 hi
      have hlt : i < ops.size := (Array.getElem?_eq_some_iff.1 hoi).1
      have hio : i ∈ openL ops listed := List.mem_filter.2 ⟨by simpa using hlt, by simp [h1]⟩
      obtain ⟨L1, L2, k1, k2, k3⟩ := filter_split (p := fun i => !listed.getD i true) (List.range ops.size) List.pairwise_lt_range hio
      have k1' : openL ops listed = L1 ++ i :: L2 := k1
      have hnew : openL ops (listed.setIfInBounds i true) = L1 ++ L2 := by
        rw [← k3]
        unfold openL
        refine List.filter_congr fun j hj => ?_
        rw [getD_set (by omega)]
        by_cases hji : j = i <;> simp [hji]
      rw [k1'] at h hlen
      have hf := to_front hoi L1 t m (fun j hj oj hoj => drawOk_pair hok hoi hoj (k2 j hj).1 <| by
        cases hre : reach ops 5 i j with
        | false => rfl
        | true =>
        exfalso
        have q1 := reach_listed hcl 5 i j oi hoi h3 hre
        have q2 := (k2 j hj).2
        have hjl : j < listed.size := by have := (k2 j hj).1; omega
        simp only [Array.getD_eq_getD_getElem?, Array.getElem?_eq_getElem hjl, Option.getD_some] at q1 q2
        simp [q1] at q2) h
      simp only [evIdx, hoi] at hf
      split at hf
      case h_2 => simp at hf
      rename_i t1 m1 hst
      refine step_sound hS hoi hR hst fun c1 a1 w1 hR1 e1 l1 => ?_
      refine ih (listed.setIfInBounds i true) t1 m1 (by simpa using hsz) (fun k o hk hl e he hb => by
        rw [getD_set (by omega)] at hl ⊢
        split
        · rfl
        · split at hl
          · rename_i hki
            subst hki
            rw [hoi] at hk
            obtain rfl := Option.some.inj hk
            exact h3 e he hb
          · exact hcl k o hk hl e he hb) (by rw [hnew]; simp at hlen ⊢; omega) (by rw [hnew]; exact hf) c1 a1 w1 hR1 fun t' m' c' a' w' hK hR' e' l' => hQ t' m' c' a' w' hK hR' (e1.trans e') (l1.trans l')

theorem drawSound (hf : P.follows .mixedOrders = true) : DrawSound P := fun {R} E ops hk t m K r hS hok h c a w hR id Q hQ => by
  refine wp_region_any hf ?_
  have hopen : openL ops (Array.replicate ops.size false) = List.range ops.size := by
    unfold openL
    refine List.filter_eq_self.2 fun i hi => ?_
    have hlt : i < ops.size := by simpa using hi
    simp [Array.getD_eq_getD_getElem?, hlt]
  have he : Evo c.own w c.own w.drew := (Evo.refl c.own w).drew
  refine draw_go (hk := hk) (ro := E.ro) (K := K) (r := r) (t := t) (m := m) (listed := Array.replicate ops.size false) (N := E.N) hS hok ops.size (by simp) (fun k o hk hl => by simp only [Array.getD_eq_getD_getElem?, Array.getElem?_replicate] at hl; split at hl <;> simp at hl) (by rw [hopen]; simp) ?_ c a w.drew ?_ ?_
  · rw [hopen, List.range_eq_range', ← h]
    have := evIdx_of (P := P) (C := E.C) (ro := E.ro) (N := E.N) (D := some (dsts ops, hk)) (K := K) ops.toList 0 t m rfl
    simpa using this
  · refine ⟨fun i => (hR.T i).mono he (.refl _), ?_, hR.G.mono he, hR.defers, hR.size⟩
    refine ⟨hR.M.dom, fun id bx g h1 h2 => ?_, hR.M.inj, hR.M.names, hR.M.tip, hR.M.tipInj, hR.M.tipBox, hR.M.lt⟩
    obtain ⟨cs, el, k1, k2, k3, k4⟩ := hR.M.box id bx g h1 h2
    refine ⟨cs, el, k1, k2, fun j x v hx hv => ?_, k4⟩
    obtain ⟨q1, q2⟩ := k3 j x v hx hv
    exact ⟨q1.mono he (.refl _), q2⟩
  · exact fun t' m' c' a' w' hK hR' e' l' => hQ t' m' c' a' w' hK hR' (he.trans e') l'
end
end Ev

/- A verified evaluator, part X: all functions of a plan together. -/
namespace Ev
open Go

/-- Which functions are evaluated by their code, which are read-only, what is known of others. -/
structure Plan where
  P : Program
  fn : FuncId → Option (Func × (Nat → Keep))
  ro : FuncId → Bool
  ext : Oracle

noncomputable def stepO (p : Plan) (C : Oracle) : Oracle := fun f args bs =>
  match p.fn f with
  | some (fn, lv) => if (bs.map (·.1)).Nodup then evFn p.P ⟨C, p.ro, lv, fn.ntmps⟩ fn args bs else none
  | none => p.ext f args bs
noncomputable def evk (p : Plan) : Nat → Oracle
  | 0 => fun _ _ _ => none
  | k + 1 => stepO p (evk p k)
/-- What a call comes to. -/
noncomputable def evc (p : Plan) : Oracle := fun f args bs => lim fun k => evk p k f args bs

structure Plan.Ok (p : Plan) : Prop where
  mixed : p.P.follows .mixedOrders = true
  fn : ∀ f fn lv, p.fn f = some (fn, lv) → p.P.funcs[f]? = some fn ∧ (∀ code, fn.body = some code → codeOk lv code = true) ∧ ∀ (vs : Array Value) (w : World), (callFunc f vs).run p.P w = .ok (.enter f vs) w
  ext : Sound p.P p.ext

theorem lim_eq {α : Type} {g : Nat → Option α} {r : α} (hm : ∀ k r, g k = some r → g (k + 1) = some r) {k : Nat} (h : g k = some r) : lim g = some r := by
  have mono : ∀ n k r, g k = some r → g (k + n) = some r := fun n => by
    induction n with
    | zero => intro k r h; exact h
    | succ n ih => intro k r h; exact hm _ _ (ih k r h)
  unfold lim
  have hx : ∃ k r, g k = some r := ⟨k, r, h⟩
  rw [dif_pos hx]
  have := Classical.choose_spec (Classical.choose_spec hx)
  have h1 := mono k _ _ this
  have h2 := mono (Classical.choose hx) _ _ h
  rw [Nat.add_comm] at h1
  rw [h1] at h2
  exact h2

theorem evk_sound {p : Plan} (hp : p.Ok) : ∀ k, Sound p.P (evk p k)
  | 0 => fun f args bs r bs' h => by simp [evk] at h
  | k + 1 => fun f args bs r bs' h => by
    simp only [evk, stepO] at h
    split at h
    · rename_i fn lv hf
      split at h
      case isFalse => simp at h
      rename_i hnd
      obtain ⟨h1, h2, h3⟩ := hp.fn f fn lv hf
      cases hb : fn.body with
      | none => unfold evFn at h; rw [hb] at h; simp at h
      | some code => exact fn_sound (drawSound hp.mixed) hp.mixed (E := ⟨evk p k, p.ro, lv, fn.ntmps⟩) (evk_sound hp k) h1 hb (Nat.le_refl _) (h2 code hb) h3 hnd h
    · exact hp.ext _ _ _ _ _ h
theorem evc_sound {p : Plan} (hp : p.Ok) : Sound p.P (evc p) := fun f args bs r bs' h => by
  obtain ⟨k, hk⟩ := lim_some h
  exact evk_sound hp k _ _ _ _ _ hk

section
variable {P : Program} {Cs : Nat → Oracle} {C : Oracle} {ro : FuncId → Bool} {D : Option (List Nat)} {d : Nat} {m m' : Mem} {x : AV} {ρ : Operand → AV}

/-- A row of oracles that comes to one. -/
def Tends (Cs : Nat → Oracle) (C : Oracle) : Prop := ∀ f args bs r, C f args bs = some r → ∃ k0, ∀ k, k0 ≤ k → Cs k f args bs = some r
/-- From some place on. -/
def Late {α : Type} (g : Nat → Option α) (r : α) : Prop := ∃ k0, ∀ k, k0 ≤ k → g k = some r

theorem Late.const {α : Type} {o : Option α} {r : α} (h : o = some r) : Late (fun _ => o) r := ⟨0, fun _ _ => h⟩
theorem Late.bind {α β : Type} {g : Nat → Option α} {a : α} {f : Nat → α → Option β} {b : β} (h : Late g a) (k : Late (fun n => f n a) b) : Late (fun n => (g n).bind (f n)) b := by
  obtain ⟨k1, h1⟩ := h
  obtain ⟨k2, h2⟩ := k
  exact ⟨max k1 k2, fun n hn => by show (g n).bind (f n) = _; rw [h1 n (by omega)]; exact h2 n (by omega)⟩
theorem Late.congr {α : Type} {g g' : Nat → Option α} {r : α} (h : Late g r) (e : ∀ n, g' n = g n) : Late g' r := by
  obtain ⟨k, h⟩ := h
  exact ⟨k, fun n hn => by rw [e]; exact h n hn⟩

theorem acall_late (hC : Tends Cs C) {f : FuncId} {args : List AV} {q : AV × Mem} (h : acall C ro D d f args m = some q) : Late (fun k => acall (Cs k) ro D d f args m) q := by
  unfold acall at h
  split at h
  · rename_i hn
    split at h
    case h_2 => simp at h
    rename_i r hr
    obtain ⟨k0, hk⟩ := hC _ _ _ _ hr
    refine ⟨k0, fun k hk0 => ?_⟩
    show acall (Cs k) ro D d f args m = _
    unfold acall
    rw [if_pos hn, hk k hk0]
    exact h
  · rename_i hn
    split at h
    · rename_i hro
      split at h
      case isFalse => simp at h
      rename_i hall
      split at h
      case h_2 => simp at h
      rename_i vs hv
      split at h
      case h_2 => simp at h
      rename_i r hr
      obtain ⟨k0, hk⟩ := hC _ _ _ _ hr
      refine ⟨k0, fun k hk0 => ?_⟩
      show acall (Cs k) ro D d f args m = _
      unfold acall
      rw [if_neg hn, if_pos hro, if_pos hall, hv]
      simp only
      have e1 := hk k hk0
      try dsimp only at e1
      rw [e1]
      exact h
    · rename_i hro
      split at h
      · simp at h
      rename_i hD
      split at h
      case h_2 => simp at h
      rename_i vs ids bs hp
      split at h
      case h_2 => simp at h
      rename_i r bs' hr
      obtain ⟨k0, hk⟩ := hC _ _ _ _ hr
      refine ⟨k0, fun k hk0 => ?_⟩
      show acall (Cs k) ro D d f args m = _
      unfold acall
      rw [if_neg hn, if_neg hro, if_neg hD, hp]
      simp only
      have e1 := hk k hk0
      try dsimp only at e1
      rw [e1]
      exact h

theorem aop_late (hC : Tends Cs C) {o : Op} {q : AV × Mem} (h : aop P C ro D o d ρ m = some q) : Late (fun k => aop P (Cs k) ro D o d ρ m) q := by
  by_cases hc : ∃ f args tys, o = .call ⟨.value f, args, tys⟩
  · obtain ⟨f, args, tys, rfl⟩ := hc
    simp only [aop] at h ⊢
    split at h
    case h_2 => simp at h
    rename_i g caps hf
    exact acall_late hC h
  · refine ⟨0, fun k _ => ?_⟩
    rw [← h]
    cases o with
    | call cl =>
      obtain ⟨callee, args, tys⟩ := cl
      cases callee with
      | value f => exact absurd ⟨f, args, tys, rfl⟩ hc
      | invoke r n => rfl
      | builtin b => cases b <;> rfl
    | makeFunc fn fs caps => cases fn <;> rfl
    | slice ty y lo hi mx => cases mx <;> rfl
    | _ => rfl

theorem astep_late {D : Option DD} (hC : Tends Cs C) {N : Nat} {ops : Array Oper} {o : Oper} {t : Tmps} {q : Tmps × Mem} (h : astep P C ro D N ops o t m = some q) : Late (fun k => astep P (Cs k) ro D N ops o t m) q := by
  unfold astep at h
  split at h
  case isFalse => simp at h
  rename_i hd
  split at h
  · rename_i hw
    split at h
    case h_2 => simp at h
    rename_i v m1 hx
    obtain ⟨k0, hk⟩ := aop_late hC hx
    refine ⟨k0, fun k hk0 => ?_⟩
    show astep P (Cs k) ro D N ops o t m = _
    unfold astep
    rw [if_pos hd, hw]
    simp only
    have e1 := hk k hk0
    try dsimp only at e1
    rw [e1]
    exact h
  · rename_i hw
    refine ⟨0, fun k _ => ?_⟩
    show astep P (Cs k) ro D N ops o t m = _
    unfold astep
    rw [if_pos hd, hw]
    exact h
  · simp at h

theorem evOps_late {D : Option DD} {R : Type} (hC : Tends Cs C) {N : Nat} {ops : Array Oper} {K : Tmps → Mem → Option R} {Ks : Nat → Tmps → Mem → Option R} {r : R} (hK : ∀ t m, K t m = some r → Late (fun k => Ks k t m) r) :
    ∀ (l : List Oper) (t : Tmps) (m : Mem), evOps P C ro D N ops l t m K = some r → Late (fun k => evOps P (Cs k) ro D N ops l t m (Ks k)) r
  | [], t, m, h => hK t m h
  | o :: l, t, m, h => by
    simp only [evOps] at h
    split at h
    case h_2 => simp at h
    rename_i t1 m1 h1
    obtain ⟨k1, hk1⟩ := astep_late hC h1
    obtain ⟨k2, hk2⟩ := evOps_late hC hK l t1 m1 h
    refine ⟨max k1 k2, fun k hk => ?_⟩
    simp only [evOps]
    have e1 := hk1 k (by omega)
    try dsimp only at e1
    rw [e1]
    exact hk2 k (by omega)

theorem iter_late {step : Step} {ss : Nat → Step} {r : Ex × Tmps × Mem} (hs : ∀ t m q, step t m = some q → Late (fun k => ss k t m) q) : ∀ (n : Nat) (t : Tmps) (m : Mem), iter step n t m = some r → Late (fun k => iter (ss k) n t m) r
  | 0, t, m, h => by simp [iter] at h
  | n + 1, t, m, h => by
    simp only [iter] at h
    split at h
    · rename_i t1 m1 h1
      obtain ⟨k1, hk1⟩ := hs t m _ h1
      obtain ⟨k2, hk2⟩ := iter_late hs n t1 m1 h
      refine ⟨max k1 k2, fun k hk => ?_⟩
      simp only [iter]
      have e1 := hk1 k (by omega)
      try dsimp only at e1
      rw [e1]
      exact hk2 k (by omega)
    · rename_i q hq h1
      simp only [Option.some.injEq] at h
      subst h
      obtain ⟨k1, hk1⟩ := hs t m _ h1
      refine ⟨k1, fun k hk => ?_⟩
      simp only [iter]
      have e1 := hk1 k hk
      try dsimp only at e1
      rw [e1]
      obtain ⟨e, t', m'⟩ := q
      cases e with
      | normal => exact absurd rfl (hq t' m')
      | _ => rfl
    · simp at h

theorem iter_mono {step : Step} {r : Ex × Tmps × Mem} : ∀ (n : Nat) (t : Tmps) (m : Mem), iter step n t m = some r → iter step (n + 1) t m = some r
  | 0, t, m, h => by simp [iter] at h
  | n + 1, t, m, h => by
    rw [iter] at h ⊢
    cases h1 : step t m with
    | none => rw [h1] at h; simp at h
    | some q =>
      obtain ⟨e, t', m'⟩ := q
      rw [h1] at h
      cases e with
      | normal => exact iter_mono n t' m' h
      | _ => exact h

theorem loopL_late {step : Step} {ss : Nat → Step} {r : Ex × Tmps × Mem} {t : Tmps} (hs : ∀ t m q, step t m = some q → Late (fun k => ss k t m) q) (h : loopL step t m = some r) : Late (fun k => loopL (ss k) t m) r := by
  obtain ⟨n, hn⟩ := lim_some h
  obtain ⟨k0, hk⟩ := iter_late hs n t m hn
  exact ⟨k0, fun k hk0 => lim_eq (fun j r hj => iter_mono j t m hj) (hk k hk0)⟩

theorem evCode_late (hC : Tends Cs C) (lv : Nat → Keep) (N : Nat) : ∀ (code : Code) {R : Type} {K : Ex → Tmps → Mem → Option R} {Ks : Nat → Ex → Tmps → Mem → Option R} {r : R} (hK : ∀ e t m, K e t m = some r → Late (fun k => Ks k e t m) r) (t : Tmps) (m : Mem),
    evCode P ⟨C, ro, lv, N⟩ code t m K = some r → Late (fun k => evCode P ⟨Cs k, ro, lv, N⟩ code t m (Ks k)) r
  | .skip, R, K, Ks, r, hK, t, m, h => by simp only [evCode] at h ⊢; exact hK _ _ _ h
  | .exit id, R, K, Ks, r, hK, t, m, h => by simp only [evCode] at h ⊢; exact hK _ _ _ h
  | .ret, R, K, Ks, r, hK, t, m, h => by simp only [evCode] at h ⊢; exact hK _ _ _ h
  | .seq a b, R, K, Ks, r, hK, t, m, h => by
    simp only [evCode] at h ⊢
    refine evCode_late hC lv N a (fun e t m he => ?_) t m h
    cases e with
    | normal => exact evCode_late hC lv N b hK t m he
    | _ => exact hK _ _ _ he
  | .cond c x y, R, K, Ks, r, hK, t, m, h => by
    simp only [evCode] at h ⊢
    cases hb : opnd t c with
    | bool b =>
      rw [hb] at h
      cases b with
      | true => exact evCode_late hC lv N x hK t m h
      | false => exact evCode_late hC lv N y hK t m h
    | _ => rw [hb] at h; simp at h
  | .block id body, R, K, Ks, r, hK, t, m, h => by
    simp only [evCode] at h ⊢
    refine evCode_late hC lv N body (fun e t m he => ?_) t m h
    cases e with
    | exit i =>
      simp only at he ⊢
      by_cases hi : i = id
      · rw [if_pos hi] at he; simp only [if_pos hi]; exact hK _ _ _ he
      · rw [if_neg hi] at he; simp only [if_neg hi]; exact hK _ _ _ he
    | _ => exact hK _ _ _ he
  | .loop body, R, K, Ks, r, hK, t, m, h => by
    simp only [evCode] at h ⊢
    split at h
    case h_2 => simp at h
    rename_i e t1 m1 h1
    obtain ⟨k1, hk1⟩ := loopL_late (ss := fun k t m => evCode P ⟨Cs k, ro, lv, N⟩ body (clean (lv (firstRegion body)) t m).1 (clean (lv (firstRegion body)) t m).2 (fun e t m => some (e, t, m))) (fun t m q hq => evCode_late hC lv N body (K := fun e t m => some (e, t, m)) (Ks := fun _ e t m => some (e, t, m)) (fun e t m he => Late.const he) _ _ hq) h1
    obtain ⟨k2, hk2⟩ := hK e t1 m1 h
    refine ⟨max k1 k2, fun k hk => ?_⟩
    simp only
    have e1 := hk1 k (by omega)
    try dsimp only at e1
    rw [e1]
    exact hk2 k (by omega)
  | .region id ops dr, R, K, Ks, r, hK, t, m, h => by
    simp only [evCode] at h ⊢
    exact evOps_late hC (fun t m he => hK _ _ _ he) _ t m h
  | .scope .., R, K, Ks, r, hK, t, m, h => by simp [evCode] at h
  | .rangeFunc .., R, K, Ks, r, hK, t, m, h => by simp [evCode] at h
  | .goto .., R, K, Ks, r, hK, t, m, h => by simp [evCode] at h
  | .label .., R, K, Ks, r, hK, t, m, h => by simp [evCode] at h
  | .refuse .., R, K, Ks, r, hK, t, m, h => by simp [evCode] at h

theorem evFn_late (hC : Tends Cs C) (lv : Nat → Keep) (N : Nat) {fn : Func} {args : List AV} {bs : List (Nat × Box)} {r : AV × List (Nat × Box)} (h : evFn P ⟨C, ro, lv, N⟩ fn args bs = some r) : Late (fun k => evFn P ⟨Cs k, ro, lv, N⟩ fn args bs) r := by
  unfold evFn at h ⊢
  cases hb : fn.body with
  | none => rw [hb] at h; simp at h
  | some code =>
    rw [hb] at h
    simp only at h ⊢
    split at h
    case isFalse => simp at h
    rename_i hl
    simp only [if_pos hl]
    exact evCode_late hC lv N code (K := fun e t m => match e with | .exit _ => none | _ => outOf P fn bs (freezeT t m fn.results.toList).1 (freezeT t m fn.results.toList).2) (Ks := fun _ e t m => match e with | .exit _ => none | _ => outOf P fn bs (freezeT t m fn.results.toList).1 (freezeT t m fn.results.toList).2) (fun e t m he => Late.const he) _ _ h
end

theorem evk_mono (p : Plan) : ∀ (k : Nat) (f : FuncId) (args : List AV) (bs : List (Nat × Box)) (r : AV × List (Nat × Box)), evk p k f args bs = some r → evk p (k + 1) f args bs = some r
  | 0, f, args, bs, r, h => by simp [evk] at h
  | k + 1, f, args, bs, r, h => by
    rw [evk, stepO] at h ⊢
    cases hf : p.fn f with
    | none => rw [hf] at h; exact h
    | some q =>
      obtain ⟨fn, lv⟩ := q
      rw [hf] at h
      simp only at h ⊢
      split at h
      case isFalse => simp at h
      rename_i hnd
      rw [if_pos hnd]
      obtain ⟨k0, hk⟩ := evFn_late (Cs := fun _ => evk p (k + 1)) (fun f args bs r hr => Late.const (evk_mono p k f args bs r hr)) lv fn.ntmps h
      exact hk k0 (Nat.le_refl _)
theorem evk_mono' (p : Plan) {f : FuncId} {args : List AV} {bs : List (Nat × Box)} {r : AV × List (Nat × Box)} {k : Nat} (h : evk p k f args bs = some r) : ∀ n, evk p (k + n) f args bs = some r
  | 0 => h
  | n + 1 => evk_mono p (k + n) f args bs r (evk_mono' p h n)
theorem evc_of (p : Plan) {f : FuncId} {args : List AV} {bs : List (Nat × Box)} {r : AV × List (Nat × Box)} {k : Nat} (h : evk p k f args bs = some r) : evc p f args bs = some r :=
  lim_eq (fun k r hk => evk_mono p k f args bs r hk) h
theorem evk_tends (p : Plan) : Tends (evk p) (evc p) := fun f args bs r h => by
  obtain ⟨k, hk⟩ := lim_some h
  exact ⟨k, fun n hn => by
    obtain ⟨j, rfl⟩ := Nat.exists_eq_add_of_le hn
    exact evk_mono' p hk j⟩

/-- A call of a function with code comes to what its code comes to. -/
theorem evc_fn (p : Plan) {f : FuncId} {fn : Func} {lv : Nat → Keep} (hf : p.fn f = some (fn, lv)) {args : List AV} {bs : List (Nat × Box)} (hnd : (bs.map (·.1)).Nodup) {r : AV × List (Nat × Box)} (h : evFn p.P ⟨evc p, p.ro, lv, fn.ntmps⟩ fn args bs = some r) : evc p f args bs = some r := by
  obtain ⟨k, hk⟩ := evFn_late (evk_tends p) lv fn.ntmps h
  refine evc_of p (k := k + 1) ?_
  rw [evk, stepO, hf]
  simp only [if_pos hnd]
  exact hk k (Nat.le_refl _)
theorem evc_ext (p : Plan) {f : FuncId} (hf : p.fn f = none) {args : List AV} {bs : List (Nat × Box)} {r : AV × List (Nat × Box)} (h : p.ext f args bs = some r) : evc p f args bs = some r := by
  refine evc_of p (k := 1) ?_
  rw [evk, stepO, hf]
  exact h

/-- Loops: a round; the end. -/
theorem loopL_more {step : Step} {t t' : Tmps} {m m' : Mem} (h : step t m = some (.normal, t', m')) {r : Ex × Tmps × Mem} (k : loopL step t' m' = some r) : loopL step t m = some r := by
  obtain ⟨n, hn⟩ := lim_some k
  refine lim_eq (fun j r hj => iter_mono j t m hj) (k := n + 1) ?_
  rw [iter, h]
  exact hn
theorem loopL_out {step : Step} {t t' : Tmps} {m m' : Mem} {e : Ex} (h : step t m = some (e, t', m')) (he : e ≠ .normal) : loopL step t m = some (e, t', m') := by
  refine lim_eq (fun j r hj => iter_mono j t m hj) (k := 1) ?_
  rw [iter, h]
  cases e with
  | normal => exact absurd rfl he
  | _ => rfl
end Ev

/- A verified evaluator, part Y: how it is computed. -/
namespace Ev
open Go

theorem evOps_bind {R : Type} {P : Program} {C : Oracle} {ro : FuncId → Bool} {D : Option DD} {N : Nat} {ops : Array Oper} {K : Tmps → Mem → Option R} : ∀ (l : List Oper) (t : Tmps) (m : Mem),
    evOps P C ro D N ops l t m K = (evOps P C ro D N ops l t m fun t m => some (t, m)).bind fun q => K q.1 q.2
  | [], t, m => rfl
  | o :: l, t, m => by
    simp only [evOps]
    cases astep P C ro D N ops o t m with
    | none => rfl
    | some q => exact evOps_bind l q.1 q.2

theorem evCode_bind {P : Program} {E : Env} : ∀ (code : Code) {R : Type} (K : Ex → Tmps → Mem → Option R) (t : Tmps) (m : Mem), evCode P E code t m K = (evCode P E code t m fun e t m => some (e, t, m)).bind fun q => K q.1 q.2.1 q.2.2
  | .skip, R, K, t, m => by simp only [evCode, Option.bind_some]
  | .exit _, R, K, t, m => by simp only [evCode, Option.bind_some]
  | .ret, R, K, t, m => by simp only [evCode, Option.bind_some]
  | .seq a b, R, K, t, m => by
    simp only [evCode]
    refine (evCode_bind a _ t m).trans ?_
    refine .trans ?_ (congrArg (fun z : Option (Ex × Tmps × Mem) => Option.bind z fun q => K q.1 q.2.1 q.2.2) (evCode_bind a _ t m)).symm
    cases evCode P E a t m fun e t m => some (e, t, m) with
    | none => rfl
    | some q =>
      obtain ⟨e, t', m'⟩ := q
      cases e with
      | normal => exact evCode_bind b K t' m'
      | _ => rfl
  | .cond c x y, R, K, t, m => by
    simp only [evCode]
    cases opnd t c with
    | bool b =>
      cases b with
      | true => exact evCode_bind x K t m
      | false => exact evCode_bind y K t m
    | _ => rfl
  | .block id body, R, K, t, m => by
    simp only [evCode]
    refine (evCode_bind body _ t m).trans ?_
    refine .trans ?_ (congrArg (fun z : Option (Ex × Tmps × Mem) => Option.bind z fun q => K q.1 q.2.1 q.2.2) (evCode_bind body _ t m)).symm
    cases evCode P E body t m fun e t m => some (e, t, m) with
    | none => rfl
    | some q =>
      obtain ⟨e, t', m'⟩ := q
      cases e with
      | exit i =>
        simp only [Option.bind_some]
        by_cases h : i = id
        · simp [h]
        · simp [h]
      | _ => rfl
  | .loop body, R, K, t, m => by
    simp only [evCode]
    split <;> rfl
  | .region id ops dr, R, K, t, m => by
    simp only [evCode]
    refine (evOps_bind _ t m).trans ?_
    refine .trans ?_ (congrArg (fun z : Option (Ex × Tmps × Mem) => Option.bind z fun q => K q.1 q.2.1 q.2.2) (evOps_bind _ t m)).symm
    cases evOps P E.C E.ro (if dr then some (dsts ops, E.lv (1000000 + id)) else none) E.N ops ops.toList t m fun t m => some (t, m) <;> rfl
  | .scope .., R, K, t, m => by simp [evCode]
  | .rangeFunc .., R, K, t, m => by simp [evCode]
  | .goto .., R, K, t, m => by simp [evCode]
  | .label .., R, K, t, m => by simp [evCode]
  | .refuse .., R, K, t, m => by simp [evCode]

/-- A loop, and what follows. -/
noncomputable def loopK {R : Type} (P : Program) (E : Env) (body : Code) (t : Tmps) (m : Mem) (K : Ex → Tmps → Mem → Option R) : Option R := evCode P E (.loop body) t m K
/-- A loop's round. -/
theorem loopK_round {R : Type} {P : Program} {E : Env} {body : Code} {t : Tmps} {m : Mem} {K : Ex → Tmps → Mem → Option R} {r : R} {S : Tmps × Mem} (hS : clean (E.lv (firstRegion body)) t m = S)
    (h : evCode P E body S.1 S.2 (fun e t m => match e with | .normal => loopK P E body t m K | e => K e t m) = some r) : loopK P E body t m K = some r := by
  subst hS
  rw [evCode_bind] at h
  unfold loopK
  simp only [evCode]
  cases hq : evCode P E body (clean (E.lv (firstRegion body)) t m).1 (clean (E.lv (firstRegion body)) t m).2 (fun e t m => some (e, t, m)) with
  | none => rw [hq] at h; simp at h
  | some q =>
    obtain ⟨e, t', m'⟩ := q
    rw [hq] at h
    simp only [Option.bind_some] at h
    cases e with
    | normal =>
      simp only [loopK, evCode] at h
      split at h
      case h_2 => simp at h
      rename_i e2 t2 m2 h2
      rw [loopL_more (t' := t') (m' := m') hq h2]
      exact h
    | exit i => rw [loopL_out (t' := t') (m' := m') hq (by simp)]; exact h
    | ret => rw [loopL_out (t' := t') (m' := m') hq (by simp)]; exact h

/-- What follows, as constants: so that nobody looks into it ahead of time. -/
noncomputable def seqK {R : Type} (P : Program) (E : Env) (b : Code) (K : Ex → Tmps → Mem → Option R) (e : Ex) (t : Tmps) (m : Mem) : Option R :=
  match e with
  | .normal => evCode P E b t m K
  | e => K e t m
def blockK {R : Type} (id : Nat) (K : Ex → Tmps → Mem → Option R) (e : Ex) (t : Tmps) (m : Mem) : Option R :=
  match e with
  | .exit i => if i = id then K .normal t m else K (.exit i) t m
  | e => K e t m
def regK {R : Type} (K : Ex → Tmps → Mem → Option R) (t : Tmps) (m : Mem) : Option R := K .normal t m
noncomputable def roundK {R : Type} (P : Program) (E : Env) (body : Code) (K : Ex → Tmps → Mem → Option R) (e : Ex) (t : Tmps) (m : Mem) : Option R :=
  match e with
  | .normal => loopK P E body t m K
  | e => K e t m
def finK (P : Program) (rs : List ResultVar) (bs : List (Nat × Box)) (e : Ex) (t : Tmps) (m : Mem) : Option (AV × List (Nat × Box)) :=
  match e with
  | .exit _ => none
  | _ => let q := freezeT t m rs
    match avAll (rs.map (resOf P q.1 q.2)), outBoxes q.2 bs with
    | some rs, some bs =>
      let x := relabB q.2.names boxName (fun _ _ => none) [] bs
      let y := relabL q.2.names (fun c => (999999, c)) (fun _ => none) 0 x.2 rs
      if noPtr y.1 then some ((match y.1 with | [r] => r | rs => .tup rs), x.1) else none
    | _, _ => none

section
variable {R : Type} {P : Program} {E : Env} {K : Ex → Tmps → Mem → Option R} {t : Tmps} {m : Mem}
theorem evFn_start {fn : Func} {c : Code} {rs : List ResultVar} {args : List AV} {bs : List (Nat × Box)} (hb : fn.body = some c) (hr : fn.results.toList = rs) (hbs : bs.all (fun b => decide (b.1 < 500000)) = true) {r : AV × List (Nat × Box)}
    (h : evCode P E c (params args 0) { boxes := ofB bs, names := namesOf (cellsOfB bs) } (finK P rs bs) = some r) : evFn P E fn args bs = some r := by
  unfold evFn
  rw [hb]
  simp only [hbs, if_true]
  rw [← h]
  congr 1
  funext e t m
  subst hr
  cases e <;> rfl
theorem evCode_skip : evCode P E .skip t m K = K .normal t m := by simp only [evCode]
theorem evCode_exit {id : Nat} : evCode P E (.exit id) t m K = K (.exit id) t m := by simp only [evCode]
theorem evCode_ret : evCode P E .ret t m K = K .ret t m := by simp only [evCode]
theorem evCode_seq {a b : Code} : evCode P E (.seq a b) t m K = evCode P E a t m (seqK P E b K) := by rw [evCode]; rfl
theorem evCode_cond {c : Operand} {x y : Code} : evCode P E (.cond c x y) t m K = match opnd t c with | .bool b => bif b then evCode P E x t m K else evCode P E y t m K | _ => none := by rw [evCode]; rfl
theorem evCode_block {id : Nat} {body : Code} : evCode P E (.block id body) t m K = evCode P E body t m (blockK id K) := by rw [evCode]; rfl
theorem evCode_loop {body : Code} : evCode P E (.loop body) t m K = loopK P E body t m K := rfl
theorem evCode_plain {id : Nat} {l : List Oper} : evCode P E (.region id l.toArray false) t m K = evOps P E.C E.ro none E.N l.toArray l t m (regK K) := by simp only [evCode]; simp; rfl
theorem evCode_draw {id : Nat} {l : List Oper} : evCode P E (.region id l.toArray true) t m K = evOps P E.C E.ro (some (dsts l.toArray, E.lv (1000000 + id))) E.N l.toArray l t m (regK K) := by simp only [evCode]; simp; rfl
theorem seqK_normal {b : Code} : seqK P E b K .normal t m = evCode P E b t m K := rfl
theorem seqK_exit {b : Code} {i : Nat} : seqK P E b K (.exit i) t m = K (.exit i) t m := rfl
theorem seqK_ret {b : Code} : seqK P E b K .ret t m = K .ret t m := rfl
theorem blockK_normal {id : Nat} : blockK id K .normal t m = K .normal t m := rfl
theorem blockK_exit {id i : Nat} : blockK id K (.exit i) t m = if i = id then K .normal t m else K (.exit i) t m := rfl
theorem blockK_ret {id : Nat} : blockK id K .ret t m = K .ret t m := rfl
theorem roundK_normal {b : Code} : roundK P E b K .normal t m = loopK P E b t m K := rfl
theorem roundK_exit {b : Code} {i : Nat} : roundK P E b K (.exit i) t m = K (.exit i) t m := rfl
theorem roundK_ret {b : Code} : roundK P E b K .ret t m = K .ret t m := rfl
theorem regK_eq : regK K t m = K .normal t m := rfl
def noKeep : Keep := ⟨[], [], by decide, by decide⟩
theorem dFor_none (o : Oper) : dFor none o = none := rfl
theorem storeFine_none (o : Oper) (t : Tmps) : storeFine none o t = true := rfl
theorem dFor_no (l : List Nat) (o : Oper) : dFor (some (l, noKeep)) o = some l := by
  unfold dFor exposed noKeep
  cases o.dst <;> rfl
theorem storeFine_no (l : List Nat) (o : Oper) (t : Tmps) : storeFine (some (l, noKeep)) o t = true := by
  unfold storeFine
  have : looseAt noKeep o.op = none := by
    unfold looseAt noKeep
    split <;> simp
  simp only [this]
theorem evOps_nil {C : Oracle} {ro : FuncId → Bool} {D : Option DD} {N : Nat} {all : Array Oper} {K : Tmps → Mem → Option R} : evOps P C ro D N all [] t m K = K t m := rfl
theorem evOps_cons {C : Oracle} {ro : FuncId → Bool} {D : Option DD} {N : Nat} {all : Array Oper} {o : Oper} {l : List Oper} {K : Tmps → Mem → Option R} : evOps P C ro D N all (o :: l) t m K = match astep P C ro D N all o t m with
    | some (t', m') => evOps P C ro D N all l t' m' K
    | none => none := rfl
/-- A loop's round, to be used where the frame at its head is known. -/
theorem round_of {body : Code} {r : R} {S : Tmps × Mem} (hS : clean (E.lv (firstRegion body)) t m = S)
    (h : evCode P E body S.1 S.2 (roundK P E body K) = some r) : loopK P E body t m K = some r := by
  refine loopK_round hS ?_
  rw [← h]
  congr 1
/-- A loop, by what holds at its head. -/
theorem loop_by {body : Code} {r : R} {α : Type} (size : α → Nat) (Inv : α → Tmps → Mem → Prop)
    (h : ∀ (a : α) (t : Tmps) (m : Mem), Inv a t m → (∀ (a' : α) (t' : Tmps) (m' : Mem), size a' < size a → Inv a' t' m' → loopK P E body t' m' K = some r) → loopK P E body t m K = some r) (a : α) (h0 : Inv a t m) : loopK P E body t m K = some r := by
  suffices ∀ n (a : α) (t : Tmps) (m : Mem), size a < n → Inv a t m → loopK P E body t m K = some r from this (size a + 1) a t m (Nat.lt_succ_self _) h0
  intro n
  induction n with
  | zero => intro a t m hn; omega
  | succ n ih => intro a t m hn hi; exact h a t m hi fun a' t' m' hs hi' => ih a' t' m' (by omega) hi'
end
theorem addNames_plain {names : Nat → Nat → Option Bool} {v : AV} (h : rowName v = none) : addNames names [v] = names := by
  funext a b; simp [addNames, h]
theorem adopt_bool {d : Nat} {m : Mem} {b : Bool} : adopt d [] m (.bool b) = some (.bool b, m) := by
  simp [adopt, resParts, relabL, relab1, noPtr, freshAll, rowName, resBack, addNames_plain (v := .bool b) rfl]
theorem adopt_int {d : Nat} {m : Mem} {k : IntKind} {n : Int} : adopt d [] m (.int k n) = some (.int k n, m) := by
  simp [adopt, resParts, relabL, relab1, noPtr, freshAll, rowName, resBack, addNames_plain (v := .int k n) rfl]
theorem adopt_str {d : Nat} {m : Mem} {s : Str} : adopt d [] m (.str s) = some (.str s, m) := by
  simp [adopt, resParts, relabL, relab1, noPtr, freshAll, rowName, resBack, addNames_plain (v := .str s) rfl]
theorem adopt_agg {d : Nat} {m : Mem} {cs : List AV} : adopt d [] m (.agg cs) = some (.agg cs, m) := by
  simp [adopt, resParts, relabL, relab1, noPtr, freshAll, rowName, resBack, addNames_plain (v := .agg cs) rfl]
theorem adopt_clip {d : Nat} {m : Mem} {z : Nat} {els : List (List AV)} : adopt d [] m (.sl z els .clip) = some (.sl z els .clip, m) := by
  simp [adopt, resParts, relabL, relab1, noPtr, freshAll, rowName, resBack, addNames_plain (v := .sl z els .clip) rfl]
theorem wrap_i64 {n : Int} (h1 : -9223372036854775808 ≤ n) (h2 : n < 9223372036854775808) : IntKind.i64.wrap n = n := by
  unfold IntKind.wrap
  simp [IntKind.bits, IntKind.signed]
  omega
theorem wrap_u8 {n : Int} (h1 : 0 ≤ n) (h2 : n < 256) : IntKind.u8.wrap n = n := by
  unfold IntKind.wrap
  simp [IntKind.bits, IntKind.signed]
  omega
theorem upd_false (i : Nat) : upd (fun _ : Nat => false) i false = fun _ => false := by
  funext j; simp
theorem byte_lt (b : UInt8) : b.toNat < 256 := b.toNat_lt
/-- A call of a function with code, evaluated. -/
theorem evc_start (p : Plan) {P : Program} {ro : FuncId → Bool} {f : FuncId} {fn : Func} {lv : Nat → Keep} {c : Code} {rs : List ResultVar} {N : Nat} {args : List AV} {bs : List (Nat × Box)} (hP : p.P = P) (hro : p.ro = ro) (hf : p.fn f = some (fn, lv))
    (hb : fn.body = some c) (hr : fn.results.toList = rs) (hN : fn.ntmps = N) (hnd : (bs.map (·.1)).Nodup) (hbs : bs.all (fun b => decide (b.1 < 500000)) = true) {r : AV × List (Nat × Box)}
    (h : evCode P ⟨evc p, ro, lv, N⟩ c (params args 0) { boxes := ofB bs, names := namesOf (cellsOfB bs) } (finK P rs bs) = some r) : evc p f args bs = some r := by
  refine evc_fn p hf hnd ?_
  subst hP; subst hro; subst hN
  exact evFn_start hb hr hbs h
/-- A frame at a loop's head: its slots, its boxes. -/
def headS (sl : List (Nat × AV)) (bs : List (Nat × Box)) : Tmps × Mem := (ofL .undef sl, { boxes := ofB bs, names := namesOf (cellsOfB bs ++ sl.map (·.2)) })
end Ev

/- A verified evaluator, part Z: contracts from elsewhere. -/
namespace Ev
open Go Go.RowKit
section
variable {P : Program} {c : Cfg} {w w' : World}

theorem Evo.below {own : Own} (h : Below w.heap.size w w') : Evo own w own w' where
  size := h.size
  cells := fun g cs el fr hg => ⟨cs, by rw [h.block g (lt_of_heap hg)]; exact hg, rfl, fun _ _ => rfl⟩
  other := fun g o hg _ => by rw [h.block g (lt_of_heap hg)]; exact hg
  wr := fun _ _ _ h => h
  no := fun _ _ _ h => h
  hid := fun _ _ _ h _ => h
  os := h.os
  tape := h.tape
  output := h.output

theorem namesOf_none : ∀ (l : List AV), (∀ y ∈ l, rowName y = none) → namesOf l = fun _ _ => none
  | [], _ => rfl
  | y :: r, h => by
    funext a b
    simp only [namesOf, h y (by simp)]
    rw [namesOf_none r (fun z hz => h z (List.mem_cons_of_mem _ hz))]
    simp

/-- A contract that touches nothing that was there. -/
theorem SimCall.of_below {f : FuncId} {args : List AV} {r : AV} (hcall : ∀ (vs : Array Value) (w : World), (callFunc f vs).run P w = .ok (.enter f vs) w) (hnp : noPtr args = true) (hr : ∀ y ∈ resParts r, rowName y = none)
    (h : ∀ (c : Cfg) (w : World) (vs : Array Value), Gl P c.own w → (∀ g off, c.own.N g off → g < w.heap.size) → vs.size = args.length → (∀ (i : Nat) (x : AV) (v : Value), args[i]? = some x → vs[i]? = some v → T1 c w x v) →
      Calls P f vs w fun e w' => ∃ v, e = .returned v ∧ Below w.heap.size w w' ∧ T c w' r v) : SimCall P f args [] r [] := by
  refine ⟨hcall, fun c w vs hM hG hsz hargs => ?_⟩
  refine (h c w vs hG hM.lt hsz hargs).mono ?_
  rintro e w' ⟨v, rfl, hb, hT⟩
  have ev : Evo c.own w c.own w' := .below hb
  refine ⟨v, c, rfl, ev, ?_, rfl, hT⟩
  have hn : namesOf (cellsOfB [] ++ resParts r) = namesOf (cellsOfB []) := by
    rw [namesOf_none (cellsOfB [] ++ resParts r) (by simpa [cellsOfB] using hr)]
    rfl
  rw [hn]
  exact hM.mono ev rfl rfl (fun _ _ _ h => h) (fun id g hg cs el hh => by rw [hb.block g (lt_of_heap hh)]; exact hh) (fun g off hn => Nat.lt_of_lt_of_le (hM.lt g off hn) hb.size)

theorem one_val {vs : Array Value} {x : AV} (hsz : vs.size = 1) (h : ∀ (i : Nat) (y : AV) (v : Value), [x][i]? = some y → vs[i]? = some v → T1 c w y v) : ∃ v, vs = #[v] ∧ T1 c w x v := by
  obtain ⟨l⟩ := vs
  match l, hsz with
  | [v], _ => exact ⟨v, rfl, h 0 x v rfl rfl⟩
theorem two_vals {vs : Array Value} {x y : AV} (hsz : vs.size = 2) (h : ∀ (i : Nat) (z : AV) (v : Value), [x, y][i]? = some z → vs[i]? = some v → T1 c w z v) : ∃ u v, vs = #[u, v] ∧ T1 c w x u ∧ T1 c w y v := by
  obtain ⟨l⟩ := vs
  match l, hsz with
  | [u, v], _ => exact ⟨u, v, rfl, h 0 x u rfl rfl, h 1 y v rfl rfl⟩
theorem T1_str {s : Str} {v : Value} (h : T1 c w (.str s) v) : v = .string ⟨s.toArray⟩ := T_str (.of_T1 h)
theorem T1_int {k : IntKind} {n : Int} {v : Value} (h : T1 c w (.int k n) v) : v = .int k n := T_int (.of_T1 h)
theorem T1_bool {b : Bool} {v : Value} (h : T1 c w (.bool b) v) : v = .bool b := T_bool (.of_T1 h)
theorem T1_fn {f : FuncId} {v : Value} (h : T1 c w (.fn f []) v) : v = .func (.func f) #[] #[] := by
  cases (show V c.own w (.fn f []) v from h) with
  | fn _ _ vs h1 h2 =>
    have : vs = #[] := Array.eq_empty_of_size_eq_zero (by simpa using h1)
    rw [this]

/-- A function of a string, by its contract. -/
theorem SimCall.str1 {f : FuncId} {s : Str} {r : AV} {v : Value} (hcall : ∀ (vs : Array Value) (w : World), (callFunc f vs).run P w = .ok (.enter f vs) w) (hr : ∀ y ∈ resParts r, rowName y = none) (hv : ∀ c w, T c w r v)
    (h : ∀ w, Calls P f #[.string ⟨s.toArray⟩] w fun e w' => e = .returned v ∧ Below w.heap.size w w') : SimCall P f [.str s] [] r [] :=
  .of_below hcall rfl hr fun c w vs _ _ hsz hargs => by
    obtain ⟨u, rfl, hu⟩ := one_val hsz hargs
    rw [T1_str hu]
    exact (h w).mono fun e w' ⟨he, hb⟩ => ⟨v, he, hb, hv c w'⟩
theorem SimCall.str2 {f : FuncId} {s t : Str} {r : AV} {v : Value} (hcall : ∀ (vs : Array Value) (w : World), (callFunc f vs).run P w = .ok (.enter f vs) w) (hr : ∀ y ∈ resParts r, rowName y = none) (hv : ∀ c w, T c w r v)
    (h : ∀ w, Calls P f #[.string ⟨s.toArray⟩, .string ⟨t.toArray⟩] w fun e w' => e = .returned v ∧ Below w.heap.size w w') : SimCall P f [.str s, .str t] [] r [] :=
  .of_below hcall rfl hr fun c w vs _ _ hsz hargs => by
    obtain ⟨u, u2, rfl, hu, hu2⟩ := two_vals hsz hargs
    rw [T1_str hu, T1_str hu2]
    exact (h w).mono fun e w' ⟨he, hb⟩ => ⟨v, he, hb, hv c w'⟩
theorem SimCall.strInt {f : FuncId} {s : Str} {k : IntKind} {n : Int} {r : AV} {v : Value} (hcall : ∀ (vs : Array Value) (w : World), (callFunc f vs).run P w = .ok (.enter f vs) w) (hr : ∀ y ∈ resParts r, rowName y = none) (hv : ∀ c w, T c w r v)
    (h : ∀ w, Calls P f #[.string ⟨s.toArray⟩, .int k n] w fun e w' => e = .returned v ∧ Below w.heap.size w w') : SimCall P f [.str s, .int k n] [] r [] :=
  .of_below hcall rfl hr fun c w vs _ _ hsz hargs => by
    obtain ⟨u, u2, rfl, hu, hu2⟩ := two_vals hsz hargs
    rw [T1_str hu, T1_int hu2]
    exact (h w).mono fun e w' ⟨he, hb⟩ => ⟨v, he, hb, hv c w'⟩

/-- Strings in a new block. -/
theorem T_newStrs {l : List Str} {el : TypeId} (hlt : ∀ g off, c.own.N g off → g < w.heap.size) :
    T c (w.alloc (.cells (l.map fun s => Value.string ⟨s.toArray⟩).toArray el)) (.sl 1 (l.map fun s => [.str s]) .clip) (.slice (some ⟨w.heap.size, 0, none⟩) l.length l.length) := by
  refine .of_V (.sl 1 _ .clip _ l.length l.length (fun i _ => .string ⟨(l.getD i []).toArray⟩) (by simp) (Nat.le_refl _) ?_ ?_ ?_ ?_ (by simp) (fun _ => rfl) (by simp))
  · intro e he
    simp only [List.mem_map] at he
    obtain ⟨s, _, rfl⟩ := he
    rfl
  · intro i j e x hi hj
    simp only [List.getElem?_map, Option.map_eq_some_iff] at hi
    obtain ⟨s, hs, rfl⟩ := hi
    have hj0 : j = 0 := by
      cases j with
      | zero => rfl
      | succ j => simp at hj
    subst hj0
    refine ⟨_, rfl, ?_, fun hn => Nat.lt_irrefl _ (hlt _ _ hn)⟩
    rw [add_plain, heap_cell (heap_new w _)]
    simp [hs]
  · intro i j e x hi hj
    simp only [List.getElem?_map, Option.map_eq_some_iff] at hi
    obtain ⟨s, hs, rfl⟩ := hi
    have hj0 : j = 0 := by
      cases j with
      | zero => rfl
      | succ j => simp at hj
    subst hj0
    simp at hj
    subst hj
    simp only [List.getD_eq_getElem?_getD, hs, Option.getD_some]
    exact .str s
  · intro i j e x hi hj
    rfl

/-- Where nothing may be written, nothing is. -/
def noOwn : Own := ⟨fun _ _ => False, fun _ _ => False, fun _ _ h => h⟩
def noCfg : Cfg := ⟨noOwn, fun _ => none, fun _ _ => .unknown⟩
theorem below_of_evo {own own' : Own} (hW : ∀ g off, ¬ own.W g off) (e : Evo own w own' w') : Below w.heap.size w w' where
  os := e.os
  tape := e.tape
  output := e.output
  size := e.size
  block := fun k hk => by
    have hw : w.heap[k]? = some w.heap[k] := Array.getElem?_eq_getElem hk
    by_cases hc : ∃ cs el fr, w.heap[k] = .cells cs el fr
    · obtain ⟨cs, el, fr, h⟩ := hc
      rw [h] at hw
      rw [hw]
      exact e.same hw (hW k)
    · rw [e.other k _ hw (fun cs el fr h => hc ⟨cs, el, fr, h⟩), hw]
/-- A contract as it stands for whoever calls from elsewhere. -/
theorem SimCall.calls {f : FuncId} {args : List AV} {r : AV} (h : SimCall P f args [] r []) {vs : Array Value} (hG : Gl P noOwn w) (hsz : vs.size = args.length) (hargs : ∀ (i : Nat) (x : AV) (v : Value), args[i]? = some x → vs[i]? = some v → T1 noCfg w x v) :
    Calls P f vs w fun e w' => ∃ v own, e = .returned v ∧ Below w.heap.size w w' ∧ ∃ c' : Cfg, c'.own = own ∧ T c' w' r v := by
  refine (h.2 noCfg w vs ?_ hG hsz hargs).mono ?_
  · exact ⟨fun id => rfl, fun id bx g h => by simp [ofB] at h, fun id id' g h => by simp [noCfg] at h, fun p q => rfl, fun p q g e h => by simp [noCfg] at h, fun p q p' q' g e e' h => by simp [noCfg] at h, fun p q g e id h => by simp [noCfg] at h, fun g off h => h.elim⟩
  · rintro e w' ⟨v, c', rfl, ev, _, _, hT⟩
    exact ⟨v, c'.own, rfl, below_of_evo (fun _ _ h => h) ev, c', rfl, hT⟩
/-- A predicate of characters, from its contract. -/
theorem runes_of_sim {g : FuncId} {p : Nat → Bool} (h : ∀ x : Nat, x ≤ 1114111 → SimCall P g [.int .i32 x] [] (.bool (p x)) []) (hG : Gl P noOwn w) (x : Nat) (hx : x ≤ 1114111) :
    Calls P g #[.int .i32 x] w fun e w' => e = .returned (.bool (p x)) ∧ Below w.heap.size w w' := by
  refine ((h x hx).calls hG rfl fun i y v hy hv => ?_).mono ?_
  · cases i with
    | zero => simp at hy hv; subst hy; subst hv; exact .int _ _
    | succ i => simp at hy
  · rintro e w' ⟨v, own, rfl, hb, c', _, hT⟩
    exact ⟨by rw [T_bool hT], hb⟩
end
end Ev
