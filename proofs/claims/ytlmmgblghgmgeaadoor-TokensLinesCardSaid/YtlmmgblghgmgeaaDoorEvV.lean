/- A verified evaluator, part V: statements whose order is open: neighbours that do not meet may change places. -/
import Derived.Test.YtlmmgblghgmgeaaDoorEvU
set_option linter.unusedVariables false
set_option linter.unusedSimpArgs false
namespace Ev
open Go
section
variable {P : Program} {m m' : Mem} {t : Tmps} {C : Oracle} {ro : FuncId → Bool} {Dl : List Nat} {d : Nat} {x : AV} {ρ ρ' : Operand → AV}

theorem addN_cases (names : Nat → Nat → Option Bool) (l : List AV) (p q : Nat) : (addNames names l p q = some true ∧ ∃ y ∈ l, rowName y = some (p, q)) ∨ (addNames names l p q = names p q ∧ ∀ y ∈ l, rowName y ≠ some (p, q)) := by
  induction l with
  | nil => exact .inr ⟨rfl, by simp⟩
  | cons y r ih =>
    simp only [addNames]
    by_cases h : rowName y = some (p, q)
    · rw [if_pos h]; exact .inl ⟨rfl, y, by simp, h⟩
    · rw [if_neg h]
      rcases ih with ⟨h1, z, hz, h2⟩ | ⟨h1, h2⟩
      · exact .inl ⟨h1, z, by simp [hz], h2⟩
      · refine .inr ⟨h1, fun z hz => ?_⟩
        simp only [List.mem_cons] at hz
        rcases hz with rfl | hz
        · exact h
        · exact h2 z hz

theorem addNames_congr {n n' : Nat → Nat → Option Bool} {l : List AV} {p q : Nat} (h : n p q = n' p q) : addNames n l p q = addNames n' l p q := by
  induction l with
  | nil => exact h
  | cons y r ih => simp only [addNames, ih]

theorem app_boxes_ne {e : Eff} {id : Nat} (h : id ≠ d + 500000) : (e.app d m).boxes id = m.boxes id := by
  simp only [Eff.app]
  cases e.box with
  | none => rfl
  | some b => simp only [upd_apply, if_neg h]

theorem eff_back {e f : Eff} {d d' : Nat} (hne : d ≠ d') (hd : d ∈ Dl) (hd' : d' ∈ Dl) (he : e.ok Dl d m) (hf : f.ok Dl d' (e.app d m)) : f.ok Dl d' m ∧ e.ok Dl d (f.app d' m) ∧ e.app d (f.app d' m) = f.app d' (e.app d m) := by
  have hcase : ∀ p q, (p ∈ Dl → p = d ∨ e.kill ≠ some (p, q)) := fun p q hp => .inr fun hk => (he.kill p q hk).2 hp
  have hnot : ∀ p q, p ≠ d → (e.app d m).names p q = if e.kill = some (p, q) then some false else m.names p q := fun p q hp => by
    rcases addN_cases (fun p q => if e.kill = some (p, q) then some false else m.names p q) e.add p q with ⟨h1, y, hy, h2⟩ | ⟨h1, h2⟩
    · exact absurd (he.own y hy p q h2) hp
    · exact h1
  have hkill : ∀ p q, f.kill = some (p, q) → m.names p q = some true ∧ p ∉ Dl ∧ e.kill ≠ some (p, q) := fun p q hk => by
    obtain ⟨h1, h2⟩ := hf.kill p q hk
    rw [hnot p q (fun h => h2 (h ▸ hd))] at h1
    by_cases hk : e.kill = some (p, q)
    · rw [if_pos hk] at h1; simp at h1
    · rw [if_neg hk] at h1; exact ⟨h1, h2, hk⟩
  have hnot' : ∀ p q, p ≠ d' → (f.app d' m).names p q = if f.kill = some (p, q) then some false else m.names p q := fun p q hp => by
    rcases addN_cases (fun p q => if f.kill = some (p, q) then some false else m.names p q) f.add p q with ⟨h1, y, hy, h2⟩ | ⟨h1, h2⟩
    · exact absurd (hf.own y hy p q h2) hp
    · exact h1
  refine ⟨⟨fun h => ?_, fun p q hk => ⟨(hkill p q hk).1, (hkill p q hk).2.1⟩, fun y hy p q hr => ?_, hf.own, hf.frz⟩, ⟨fun h => ?_, fun p q hk => ?_, fun y hy p q hr => ?_, he.own, he.frz⟩, ?_⟩
  · have := hf.box h
    rwa [app_boxes_ne (by omega)] at this
  · have h1 := hf.fresh y hy p q hr
    have hp := hf.own y hy p q hr
    rw [hnot p q (by omega)] at h1
    split at h1
    · simp at h1
    · exact h1
  · have := he.box h
    rwa [app_boxes_ne (by omega)]
  · obtain ⟨h1, h2⟩ := he.kill p q hk
    refine ⟨?_, h2⟩
    rw [hnot' p q (fun h => h2 (h ▸ hd')), if_neg (fun hk' => (hkill p q hk').2.2 hk)]
    exact h1
  · have h1 := he.fresh y hy p q hr
    have hp := he.own y hy p q hr
    rw [hnot' p q (by omega), if_neg (fun hk' => (hkill p q hk').2.1 (hp ▸ hd))]
    exact h1
  · have key : ∀ p q, (e.app d (f.app d' m)).names p q = (f.app d' (e.app d m)).names p q := fun p q => by
      show addNames (fun p q => if e.kill = some (p, q) then some false else (f.app d' m).names p q) e.add p q = addNames (fun p q => if f.kill = some (p, q) then some false else (e.app d m).names p q) f.add p q
      rcases addN_cases (fun p q => if e.kill = some (p, q) then some false else (f.app d' m).names p q) e.add p q with ⟨h1, y, hy, h2⟩ | ⟨h1, h2⟩
      · have hp := he.own y hy p q h2
        rw [h1]
        rcases addN_cases (fun p q => if f.kill = some (p, q) then some false else (e.app d m).names p q) f.add p q with ⟨k1, z, hz, k2⟩ | ⟨k1, k2⟩
        · exact k1.symm
        · rw [k1, if_neg (fun hk => (hkill p q hk).2.1 (hp ▸ hd))]
          show _ = addNames _ _ _ _
          rcases addN_cases (fun p q => if e.kill = some (p, q) then some false else m.names p q) e.add p q with ⟨j1, _⟩ | ⟨_, j2⟩
          · exact j1.symm
          · exact absurd h2 (j2 y hy)
      · rw [h1]
        rcases addN_cases (fun p q => if f.kill = some (p, q) then some false else (e.app d m).names p q) f.add p q with ⟨k1, z, hz, k2⟩ | ⟨k1, k2⟩
        · have hp := hf.own z hz p q k2
          rw [k1, if_neg (fun hk => (he.kill p q hk).2 (hp ▸ hd'))]
          show addNames _ _ _ _ = _
          rcases addN_cases (fun p q => if f.kill = some (p, q) then some false else m.names p q) f.add p q with ⟨j1, _⟩ | ⟨_, j2⟩
          · exact j1
          · exact absurd k2 (j2 z hz)
        · rw [k1]
          have e1 : (f.app d' m).names p q = if f.kill = some (p, q) then some false else m.names p q := by
            rcases addN_cases (fun p q => if f.kill = some (p, q) then some false else m.names p q) f.add p q with ⟨_, z, hz, j1⟩ | ⟨j1, _⟩
            · exact absurd j1 (k2 z hz)
            · exact j1
          have e2 : (e.app d m).names p q = if e.kill = some (p, q) then some false else m.names p q := by
            rcases addN_cases (fun p q => if e.kill = some (p, q) then some false else m.names p q) e.add p q with ⟨_, z, hz, j1⟩ | ⟨j1, _⟩
            · exact absurd j1 (h2 z hz)
            · exact j1
          rw [e1, e2]
          by_cases a1 : e.kill = some (p, q) <;> by_cases a2 : f.kill = some (p, q) <;> simp [a1, a2]
    have kb : (e.app d (f.app d' m)).boxes = (f.app d' (e.app d m)).boxes := by
      simp only [Eff.app]
      cases e.box <;> cases f.box <;> simp only []
      funext i
      simp only [upd_apply]
      by_cases h1 : i = d + 500000 <;> by_cases h2 : i = d' + 500000 <;> simp [h1, h2] <;> omega
    have kf : (e.app d (f.app d' m)).froz = (f.app d' (e.app d m)).froz := by
      have n1 : d + 500000 ∉ f.frz := fun h => hf.frz _ h (List.mem_map.2 ⟨d, hd, rfl⟩)
      have n2 : d' + 500000 ∉ e.frz := fun h => he.frz _ h (List.mem_map.2 ⟨d', hd', rfl⟩)
      simp only [Eff.app]
      funext i
      by_cases a1 : i ∈ e.frz <;> by_cases a2 : i ∈ f.frz <;> by_cases a3 : i = d + 500000 <;> by_cases a4 : i = d' + 500000 <;> simp_all
    have : ∀ a b : Mem, a.boxes = b.boxes → (∀ p q, a.names p q = b.names p q) → a.froz = b.froz → a = b := fun a b h1 h2 h3 => by
      cases a; cases b
      simp only at h1 h2 h3
      subst h1; subst h3
      simp only [Mem.mk.injEq, true_and, and_true]
      funext p q; exact h2 p q
    exact this _ _ kb key kf

theorem isWanted_put {ops : Array Oper} {o : Oper} {dst : Option Tmp} {v : AV} (h : ∀ d, dst = some d → d ∉ o.looksAt ops) : isWanted ops o.guard (putT dst v t) = isWanted ops o.guard t := by
  cases dst with
  | none => rfl
  | some d =>
    have h1 := h d rfl
    unfold isWanted
    cases hg : o.guard with
    | none => rfl
    | some jw =>
      obtain ⟨j, want⟩ := jw
      simp only
      cases hd : (ops[j]?).bind (·.dst) with
      | none => rfl
      | some d2 =>
        have hne : d2 ≠ d := fun he => h1 (List.mem_append_right _ (by rw [hg]; simp only; rw [hd, he]; simp))
        simp only [putT, upd_apply, if_neg hne]
theorem opnd_put {ops : Array Oper} {o : Oper} {dst : Option Tmp} {v : AV} (h : ∀ d, dst = some d → d ∉ o.looksAt ops) : ∀ y ∈ o.op.operands, opnd (putT dst v t) y = opnd t y := fun y hy => by
  cases dst with
  | none => rfl
  | some d =>
    cases y with
    | tmp i =>
      have hne : i ≠ d := fun he => h d rfl (List.mem_append_left _ (List.mem_filterMap.2 ⟨.tmp d, by subst he; simpa using hy, rfl⟩))
      simp only [opnd, putT, upd_apply, if_neg hne]
    | _ => rfl
theorem putT_comm {x y : Option Tmp} {v u : AV} (h : ∀ d, x = some d → y ≠ some d) : putT y u (putT x v t) = putT x v (putT y u t) := by
  cases x with
  | none => rfl
  | some d =>
    cases y with
    | none => rfl
    | some e =>
      have hne : d ≠ e := fun he => h d rfl (he ▸ rfl)
      funext i
      simp only [putT, upd_apply]
      by_cases h1 : i = d <;> by_cases h2 : i = e <;> simp_all

theorem swap {N : Nat} {ops : Array Oper} {oj oi : Oper} {t1 t2 : Tmps} {m1 m2 : Mem} (hap : oj.apart ops oi = true) (bj : barrier oj.op = false) (bi : barrier oi.op = false) {dj di : Nat} (hj : oj.dst = some dj) (hi : oi.dst = some di) (hdj : dj ∈ Dl) (hdi : di ∈ Dl)
    (h1 : astep P C ro (some Dl) N ops oj t m = some (t1, m1)) (h2 : astep P C ro (some Dl) N ops oi t1 m1 = some (t2, m2)) :
    ∃ t1' m1', astep P C ro (some Dl) N ops oi t m = some (t1', m1') ∧ astep P C ro (some Dl) N ops oj t1' m1' = some (t2, m2) := by
  obtain ⟨a1, a2, a3⟩ := Oper.apart_spec hap
  have hne : dj ≠ di := fun he => a2 dj hj (by rw [hi, he])
  unfold astep at h1 h2
  split at h1
  case isFalse => simp at h1
  rename_i okj
  split at h2
  case isFalse => simp at h2
  rename_i oki
  unfold astep
  rw [if_pos oki]
  simp only [if_pos okj]
  split at h1
  · rename_i wj
    split at h1
    case h_2 => simp at h1
    rename_i vj mj hoj
    simp only [Option.some.injEq, Prod.mk.injEq] at h1
    obtain ⟨rfl, rfl⟩ := h1
    rw [isWanted_put a1] at h2
    split at h2
    · rename_i wi
      split at h2
      case h_2 => simp at h2
      rename_i vi mi hoi
      simp only [Option.some.injEq, Prod.mk.injEq] at h2
      obtain ⟨rfl, rfl⟩ := h2
      rw [aop_congr (opnd_put a1)] at hoi
      rw [hj, Option.getD_some] at hoj
      rw [hi, Option.getD_some] at hoi
      obtain ⟨ej, kj1, kj2, kj3⟩ := aop_eff bj hoj
      obtain ⟨ei, ki1, ki2, ki3⟩ := aop_eff bi hoi
      subst kj2
      subst ki2
      obtain ⟨f1, f2, f3⟩ := eff_back hne hdj hdi kj1 ki1
      have hbx : ∀ (e : Eff) (d : Nat), d ∈ Dl → ∀ (m : Mem) id, id ∉ Dl.map (· + 500000) → (e.app d m).boxes id = m.boxes id := fun e d hd m id hid => by
        have hn : id ≠ d + 500000 := fun h => hid (List.mem_map.2 ⟨d, hd, h.symm⟩)
        exact app_boxes_ne hn
      have g1 := ki3 m (fun id hid => (hbx ej dj hdj m id hid).symm) f1
      have g2 := kj3 (ei.app di m) (fun id hid => hbx ei di hdi m id hid) f2
      refine ⟨putT oi.dst vi t, ei.app di m, ?_, ?_⟩
      · try rw [wi]
        simp only [hi, Option.getD_some, g1]
      · rw [isWanted_put a3, wj]
        simp only
        rw [aop_congr (opnd_put a3)]
        simp only [hj, Option.getD_some, g2, f3]
        rw [← hj, putT_comm (fun d hd => a2 d hd)]
    · rename_i wi
      simp only [Option.some.injEq, Prod.mk.injEq] at h2
      obtain ⟨rfl, rfl⟩ := h2
      refine ⟨putT oi.dst (.tup []) t, m, ?_, ?_⟩
      · first | rfl | rw [wi]
      · rw [isWanted_put a3, wj]
        simp only
        rw [aop_congr (opnd_put a3), hoj]
        simp only
        rw [putT_comm (fun d hd => a2 d hd)]
    · simp at h2
  · rename_i wj
    simp only [Option.some.injEq, Prod.mk.injEq] at h1
    obtain ⟨rfl, rfl⟩ := h1
    rw [isWanted_put a1] at h2
    split at h2
    · rename_i wi
      split at h2
      case h_2 => simp at h2
      rename_i vi mi hoi
      simp only [Option.some.injEq, Prod.mk.injEq] at h2
      obtain ⟨rfl, rfl⟩ := h2
      rw [aop_congr (opnd_put a1)] at hoi
      refine ⟨putT oi.dst vi t, mi, ?_, ?_⟩
      · try rw [wi]
        simp only [hoi]
      · rw [isWanted_put a3, wj]
        simp only
        rw [putT_comm (fun d hd => a2 d hd)]
    · rename_i wi
      simp only [Option.some.injEq, Prod.mk.injEq] at h2
      obtain ⟨rfl, rfl⟩ := h2
      refine ⟨putT oi.dst (.tup []) t, m, ?_, ?_⟩
      · first | rfl | rw [wi]
      · rw [isWanted_put a3, wj]
        simp only
        rw [putT_comm (fun d hd => a2 d hd)]
    · simp at h2
  · simp at h1

/-- What a step yields. -/
def astepV (P : Program) (C : Oracle) (ro : FuncId → Bool) (D : Option (List Nat)) (N : Nat) (ops : Array Oper) (o : Oper) (t : Tmps) (m : Mem) : Option (AV × Mem) :=
  if okDst N o.dst then
    match isWanted ops o.guard t with
    | some true => aop P C ro D o.op (o.dst.getD 999999) (opnd t) m
    | some false => some (.tup [], m)
    | none => none
  else none
theorem astep_eq (N : Nat) (D : Option (List Nat)) (ops : Array Oper) (o : Oper) (t : Tmps) (m : Mem) : astep P C ro D N ops o t m = (astepV P C ro D N ops o t m).map fun r => (putT o.dst r.1 t, r.2) := by
  unfold astep astepV
  split
  · cases isWanted ops o.guard t with
    | none => rfl
    | some b =>
      cases b with
      | false => rfl
      | true =>
        simp only
        cases aop P C ro D o.op (o.dst.getD 999999) (opnd t) m <;> rfl
  · rfl
theorem astepV_put {N : Nat} {D : Option (List Nat)} {ops : Array Oper} {o : Oper} {dst : Option Tmp} {u : AV} (hd : ∀ d, dst = some d → d ∉ o.looksAt ops) : astepV P C ro D N ops o (putT dst u t) m = astepV P C ro D N ops o t m := by
  unfold astepV
  rw [isWanted_put hd, aop_congr (opnd_put hd)]
theorem astepV_light {N : Nat} {D : Option (List Nat)} {ops : Array Oper} {o : Oper} {r : AV × Mem} (hl : light o.op = true) (h : astepV P C ro D N ops o t m = some r) : r.2 = m ∧ ∀ m2, astepV P C ro D N ops o t m2 = some (r.1, m2) := by
  have hop : ∃ y, ∀ (d : Nat) (ρ : Operand → AV) (m : Mem), aop P C ro D o.op d ρ m = some (ρ y, m) := by
    cases hop : o.op <;> rw [hop] at hl <;> simp [light] at hl
    · exact ⟨_, fun _ _ _ => rfl⟩
    · exact ⟨_, fun _ _ _ => rfl⟩
  obtain ⟨y, hy⟩ := hop
  unfold astepV at h ⊢
  simp only [hy] at h ⊢
  split at h
  case isFalse => simp at h
  rename_i ok
  simp only [if_pos ok]
  cases hw : isWanted ops o.guard t with
  | none => rw [hw] at h; simp at h
  | some b =>
    rw [hw] at h
    cases b with
    | true => simp only [Option.some.injEq] at h; subst h; exact ⟨rfl, fun _ => rfl⟩
    | false => simp only [Option.some.injEq] at h; subst h; exact ⟨rfl, fun _ => rfl⟩
theorem swap_light {N : Nat} {D : Option (List Nat)} {ops : Array Oper} {oj oi : Oper} {t1 t2 : Tmps} {m1 m2 : Mem} (hap : oj.apart ops oi = true) (hl : light oj.op = true ∨ light oi.op = true)
    (h1 : astep P C ro D N ops oj t m = some (t1, m1)) (h2 : astep P C ro D N ops oi t1 m1 = some (t2, m2)) :
    ∃ t1' m1', astep P C ro D N ops oi t m = some (t1', m1') ∧ astep P C ro D N ops oj t1' m1' = some (t2, m2) := by
  obtain ⟨a1, a2, a3⟩ := Oper.apart_spec hap
  rw [astep_eq] at h1 h2
  simp only [Option.map_eq_some_iff, Prod.mk.injEq] at h1 h2
  obtain ⟨⟨vj, mj⟩, hj, rfl, rfl⟩ := h1
  obtain ⟨⟨vi, mi⟩, hi, rfl, rfl⟩ := h2
  rw [astepV_put a1] at hi
  simp only at hi ⊢
  have hc : putT oi.dst vi (putT oj.dst vj t) = putT oj.dst vj (putT oi.dst vi t) := putT_comm (fun d hd => a2 d hd)
  rcases hl with hl | hl
  · obtain ⟨e, hj2⟩ := astepV_light hl hj
    simp only at e; subst e
    exact ⟨putT oi.dst vi t, mi, by rw [astep_eq, hi]; rfl, by rw [astep_eq, astepV_put a3, hj2, hc]; rfl⟩
  · obtain ⟨e, hi2⟩ := astepV_light hl hi
    simp only at e; subst e
    exact ⟨putT oi.dst vi t, m, by rw [astep_eq, hi2]; rfl, by rw [astep_eq, astepV_put a3, hj, hc]; rfl⟩
end
end Ev
