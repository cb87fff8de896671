/- A verified evaluator, part Q: every operation; one step of a statement. -/
import Derived.Test.YtlmmgblghgmgeaaDoorEvP
set_option linter.unusedVariables false
set_option linter.unusedSimpArgs false
namespace Ev
open Go
section
variable {P : Program} {c : Cfg} {w : World} {m m' : Mem} {t : Tmps} {a : Act} {C : Oracle} {ro : FuncId → Bool} {D : Option (List Nat)} {d : Nat} {x : AV}

/-- An oracle that tells no more than contracts. -/
def Sound (P : Program) (C : Oracle) : Prop := ∀ f args bs r bs', C f args bs = some (r, bs') → SimCall P f args bs r bs'

theorem opres_enter {f : FuncId} {vs : Array Value} {s : Sem Next} (h : s.run P w = .ok (.enter f vs) w) (hc : Calls P f vs w fun e w' => ∃ v, e = .returned v ∧ Post c w m' x v w') : OpRes P c w m' x (s.run P w) := by
  rw [h]; exact hc

theorem aop_acall {f : FuncId} {args : List AV} {vs : Array Value} {s : Sem Next} (hS : Sound P C) (hM : MemRel c m w) (hG : Gl P c.own w) (h : acall C ro D d f args m = some (x, m')) (hrun : s.run P w = (callFunc f vs).run P w) (hsz : vs.size = args.length)
    (hargs : ∀ (i : Nat) (x : AV) (v : Value), args[i]? = some x → vs[i]? = some v → T c w x v) : OpRes P c w m' x (s.run P w) := by
  unfold acall at h
  split at h
  · split at h
    case h_2 => simp at h
    rename_i r hr
    have hc := hS _ _ _ _ _ hr
    exact opres_enter (hrun.trans (hc.1 vs w)) (acall_quiet hM hG hc h hsz hargs)
  · split at h
    · split at h
      case isFalse => simp at h
      split at h
      case h_2 => simp at h
      rename_i as hv
      split at h
      case h_2 => simp at h
      rename_i r hr
      split at h
      case isFalse => simp at h
      rename_i hs
      simp only [Option.some.injEq, Prod.mk.injEq] at h
      obtain ⟨rfl, rfl⟩ := h
      have hc := hS _ _ _ _ _ hr
      exact opres_enter (hrun.trans (hc.1 vs w)) (acall_ro hM hG hv hc hs hsz hargs)
    · split at h
      · simp at h
      split at h
      case h_2 => simp at h
      rename_i as ids bs hp
      split at h
      case h_2 => simp at h
      rename_i r bs' hr
      split at h
      case isFalse => simp at h
      rename_i hk
      simp only at h
      split at h
      case isFalse => simp at h
      rename_i hf
      have hc := hS _ _ _ _ _ hr
      exact opres_enter (hrun.trans (hc.1 vs w)) (acall_ptr hM hG hp hc hk hf h hsz hargs)

theorem opnds_T (hT : TRel c w t a) (xs : Array Operand) : ∀ (i : Nat) (x : AV) (v : Value), (xs.toList.map (opnd t))[i]? = some x → (xs.map a.eval)[i]? = some v → T c w x v := fun i x v hx hv => by
  simp only [List.getElem?_map, Option.map_eq_some_iff, Array.getElem?_map] at hx hv
  obtain ⟨o, ho, rfl⟩ := hx
  obtain ⟨o', ho', rfl⟩ := hv
  simp at ho
  rw [ho] at ho'; simp at ho'; subst ho'
  exact T_opnd hT o

theorem two_args {xs : Array Operand} {p q : AV} (h : xs.toList.map (opnd t) = [p, q]) : ∃ o1 o2, xs = #[o1, o2] ∧ opnd t o1 = p ∧ opnd t o2 = q := by
  obtain ⟨l⟩ := xs
  match l, h with
  | [o1, o2], h => simp at h; exact ⟨o1, o2, rfl, h.1, h.2⟩
  | [], h => simp at h
  | [_], h => simp at h
  | _ :: _ :: _ :: _, h => simp at h
theorem one_arg {xs : Array Operand} {p : AV} (h : xs.toList.map (opnd t) = [p]) : ∃ o1, xs = #[o1] ∧ opnd t o1 = p := by
  obtain ⟨l⟩ := xs
  match l, h with
  | [o1], h => simp at h; exact ⟨o1, rfl, h⟩
  | [], h => simp at h
  | _ :: _ :: _, h => simp at h

theorem exec_builtin (ρ : Operand → Value) (dst : Option Tmp) (b : Builtin) (xs : Array Operand) (ats : Array TypeId) (ty : TypeId) (pos : String) (after : Array Edge) (guard : Option (Nat × Bool)) :
    execOp ρ { dst := dst, op := .call { callee := .builtin b, args := xs, argTypes := ats }, type := ty, pos := pos, after := after, guard := guard } = builtin b ats ty (xs.map fun | .const _ => true | _ => false) (xs.map ρ) := rfl

theorem aop_sound {o : Oper} (hS : Sound P C) (hT : TRel c w t a) (hM : MemRel c m w) (hG : Gl P c.own w) (h : aop P C ro D o.op d (opnd t) m = some (x, m')) : OpRes P c w m' x ((execOp a.eval o).run P w) := by
  by_cases hnc : ∀ cl, o.op ≠ .call cl
  · exact aop_plain hT hM hnc h
  · obtain ⟨cl, hcl⟩ : ∃ cl, o.op = .call cl := by
      cases ho : o.op <;> first | exact ⟨_, rfl⟩ | exact absurd (fun cl => by rw [ho]; simp) hnc
    obtain ⟨dst, op, type, pos, after, guard⟩ := o
    simp only at hcl h
    subst hcl
    obtain ⟨callee, args, argTypes⟩ := cl
    cases callee with
    | invoke r n => simp [aop] at h
    | value f =>
      simp only [aop] at h
      split at h
      case h_2 => simp at h
      rename_i g caps hf
      have hfT := T_opnd hT f
      rw [hf] at hfT
      obtain ⟨vs, hfv, hvl, hcv⟩ : ∃ vs : Array Value, a.eval f = .func (.func g) #[] vs ∧ vs.size = caps.length ∧ ∀ (j : Nat) (x : AV) (v : Value), caps[j]? = some x → vs[j]? = some v → V c.own w x v := by
        generalize a.eval f = fv at hfT
        cases (show V c.own w (.fn g caps) fv from hfT) with
        | fn _ _ vs h1 h2 => exact ⟨vs, rfl, h1, h2⟩
      refine aop_acall (vs := args.map a.eval ++ vs) hS hM hG h ?_ (by simp [hvl]) (fun i y v hy hv => ?_)
      · simp [execOp, resolve, hfv, Deferred.ofValue, invoke]
      · rcases Nat.lt_or_ge i args.size with hi | hi
        · rw [List.getElem?_append_left (by simpa using hi)] at hy
          rw [Array.getElem?_append_left (by simpa using hi)] at hv
          exact opnds_T hT args i y v hy hv
        · rw [List.getElem?_append_right (by simpa using hi)] at hy
          rw [Array.getElem?_append_right (by simpa using hi)] at hv
          simp only [List.length_map, Array.length_toList, Array.size_map] at hy hv
          exact .of_V (hcv _ _ _ hy hv)
    | builtin b =>
      rw [exec_builtin]
      cases b with
      | len =>
        simp only [aop] at h
        split at h
        · rename_i s h1 h2
          obtain ⟨o1, rfl, ho1⟩ := one_arg h1
          have hx := T_opnd hT o1
          rw [ho1] at hx
          simp at h
          obtain ⟨rfl, rfl⟩ := h
          cases hty : argTypes.toList with
          | nil => simp [hty] at h2
          | cons ty rest =>
            have hty0 : argTypes[0]? = some ty := by rw [← Array.getElem?_toList, hty]; rfl
            simp [hty] at h2
            refine opres_of (P := P) (s := Builtin.len_ argTypes type (#[o1].map a.eval)) (v := goInt s.length) (w' := w) ?_ (.same hM (by simpa [goInt] using T.of_V (.int .i64 (s.length : Int))))
            simp [Builtin.len_, hty0, T_str hx, run_underlying h2, size_mk]
        · rename_i z els tok e h1 h2
          obtain ⟨o1, rfl, ho1⟩ := one_arg h1
          have hx := T_opnd hT o1
          rw [ho1] at hx
          obtain ⟨ad, len, cap, cv, hv, hlen, _⟩ := V_sl (T_sl hx)
          simp at h
          obtain ⟨rfl, rfl⟩ := h
          cases hty : argTypes.toList with
          | nil => simp [hty] at h2
          | cons ty rest =>
            have hty0 : argTypes[0]? = some ty := by rw [← Array.getElem?_toList, hty]; rfl
            simp [hty] at h2
            refine opres_of (P := P) (s := Builtin.len_ argTypes type (#[o1].map a.eval)) (v := goInt len) (w' := w) ?_ (.same hM (by simpa [goInt, hlen] using T.of_V (.int .i64 (els.length : Int))))
            simp [Builtin.len_, hty0, hv, run_underlying h2]
        · simp at h
      | min =>
        simp only [aop, Option.map_eq_some_iff] at h
        obtain ⟨r, hr, hx⟩ := h
        simp at hx
        obtain ⟨rfl, rfl⟩ := hx
        unfold aminmax at hr
        split at hr
        case h_2 => simp at hr
        rename_i k p k' q h1
        obtain ⟨o1, o2, rfl, h1, h2⟩ := two_args h1
        have e1 := T_opnd hT o1
        have e2 := T_opnd hT o2
        rw [h1] at e1
        rw [h2] at e2
        simp at hr
        subst hr
        refine opres_of (P := P) (s := Builtin.min_ argTypes type (#[o1, o2].map a.eval)) (v := .int k (if q < p then q else p)) (w' := w) ?_ (.same hM (by simpa using T.of_V (.int k (if q < p then q else p))))
        simp [Builtin.min_, T_int e1, T_int e2, Builtin.min2]
      | max =>
        simp only [aop, Option.map_eq_some_iff] at h
        obtain ⟨r, hr, hx⟩ := h
        simp at hx
        obtain ⟨rfl, rfl⟩ := hx
        unfold aminmax at hr
        split at hr
        case h_2 => simp at hr
        rename_i k p k' q h1
        obtain ⟨o1, o2, rfl, h1, h2⟩ := two_args h1
        have e1 := T_opnd hT o1
        have e2 := T_opnd hT o2
        rw [h1] at e1
        rw [h2] at e2
        simp at hr
        subst hr
        refine opres_of (P := P) (s := Builtin.max_ argTypes type (#[o1, o2].map a.eval)) (v := .int k (if q > p then q else p)) (w' := w) ?_ (.same hM (by simpa using T.of_V (.int k (if q > p then q else p))))
        simp [Builtin.max_, T_int e1, T_int e2, Builtin.max2]
      | append =>
        simp only [aop] at h
        split at h
        case h_2 => simp at h
        rename_i t1 t2 hty
        split at h
        case h_2 => simp at h
        rename_i e e2 y s els tok h1 h2 h3
        obtain ⟨o1, o2, rfl, k1, k2⟩ := two_args h3
        split at h
        case isFalse => simp at h
        rename_i hc
        have e1' := T_opnd hT o1
        have e2' := T_opnd hT o2
        rw [k1] at e1'
        rw [k2] at e2'
        have hta : argTypes = #[t1, t2] := by
          apply Array.ext'
          simpa using hty
        subst hta
        cases y with
        | sl s1 els1 tok1 =>
          have hmap : (#[o1, o2] : Array Operand).map a.eval = #[a.eval o1, a.eval o2] := by simp
          rw [hmap]
          exact aop_append hM (under_of_elemT h1) h2 e1' (T_sl e2') hc h
        | _ => simp [aappend] at h
      | _ => simp [aop] at h

/-- The state of a frame. N: how many slots it has. -/
structure SR (P : Program) (N : Nat) (c : Cfg) (w : World) (t : Tmps) (m : Mem) (a : Act) : Prop where
  T : TRel c w t a
  M : MemRel c m w
  G : Gl P c.own w
  defers : a.defers = []
  size : N ≤ a.tmps.size

/-- The boxes that the function was handed are where they were. -/
def Low (c c' : Cfg) : Prop := ∀ id g, id < 500000 → c'.ρ id = some g → c.ρ id = some g
theorem Low.trans {a b c : Cfg} (h : Low a b) (k : Low b c) : Low a c := fun i g hl hi => h i g hl (k i g hl hi)
theorem SR.put {N : Nat} {c' : Cfg} {w' : World} {o : Oper} {v : Value} (h : SR P N c w t m a) (hd : ∀ d, o.dst = some d → d < N) (e : Evo c.own w c'.own w') (k : Ext c c') (hM : MemRel c' m' w') (hx : Ev.T c' w' x v) : SR P N c' w' (putT o.dst x t) m' (a.put o.dst v) := by
  refine ⟨fun i => ?_, hM, h.G.mono e, ?_, ?_⟩
  · cases hdst : o.dst with
    | none => exact (h.T i).mono e k
    | some d =>
      simp only [putT, Act.put, upd_apply]
      by_cases hi : i = d
      · subst hi
        have : i < a.tmps.size := Nat.lt_of_lt_of_le (hd i hdst) h.size
        simp [this]
        exact hx
      · simp only [hi, if_false]
        have : (a.tmps.setIfInBounds d v).getD i undef = a.tmps.getD i undef := by
          simp [Array.getD_eq_getD_getElem?, Array.getElem?_setIfInBounds, show ¬ d = i from fun he => hi he.symm]
        rw [this]
        exact (h.T i).mono e k
  · cases o.dst <;> exact h.defers
  · cases o.dst with
    | none => exact h.size
    | some d => simpa [Act.put] using h.size

theorem wanted_of {ops : Array Oper} {o : Oper} {b : Bool} (hT : TRel c w t a) (h : isWanted ops o.guard t = some b) : Region.wanted o (yielded ops a.tmps) = b := by
  unfold isWanted at h
  unfold Region.wanted
  cases hg : o.guard with
  | none => rw [hg] at h; simp at h; subst h; rfl
  | some jw =>
    obtain ⟨j, want⟩ := jw
    rw [hg] at h
    simp only at h ⊢
    unfold yielded
    cases hd : (ops[j]?).bind (·.dst) with
    | none => rw [hd] at h; simp at h; subst h; simp
    | some d =>
      rw [hd] at h
      simp only [Option.bind_some] at h ⊢
      have hTd := hT d
      split at h
      · rename_i b' hb
        simp at h
        rw [hb] at hTd
        have hv := T_bool hTd
        have : a.tmps[d]? = some (.bool b') := by
          rw [Array.getD_eq_getD_getElem?] at hv
          cases hq : a.tmps[d]? with
          | none => simp [hq, undef] at hv
          | some u => simp [hq] at hv; rw [hv]
        rw [this]
        simp [← h]
      · rename_i hb
        simp at h
        subst h
        rw [hb] at hTd
        obtain ⟨vs, hv, hsz, _⟩ := T_tup hTd
        have : ∀ b', a.tmps[d]? ≠ some (.bool b') := fun b' hq => by
          simp [Array.getD_eq_getD_getElem?, hq] at hv
        cases hq : a.tmps[d]? with
        | none => simp
        | some u =>
          cases u <;> first | exact absurd hq (this _) | simp
      · simp at h

theorem step_sound {N : Nat} {ops : Array Oper} {i : Nat} {o : Oper} {t' : Tmps} {Q : Exit → Act → World → Prop} {K : Act → World → Prop} (hS : Sound P C) (hi : ops[i]? = some o) (hR : SR P N c w t m a) (h : astep P C ro D N ops o t m = some (t', m'))
    (hK : ∀ c' a' w', SR P N c' w' t' m' a' → Evo c.own w c'.own w' → Low c c' → K a' w') : wpOp P ops Q i K a w := by
  unfold astep at h
  split at h
  case isFalse => simp at h
  rename_i hdst
  have hd : ∀ d, o.dst = some d → d < N := fun d hd => by rw [hd] at hdst; simpa [okDst] using hdst
  unfold wpOp
  rw [hi]
  simp only
  split at h
  · rename_i hw
    rw [wanted_of hR.T hw, if_pos rfl]
    split at h
    case h_2 => simp at h
    rename_i x m1 hx
    simp only [Option.some.injEq, Prod.mk.injEq] at h
    obtain ⟨rfl, rfl⟩ := h
    refine .inl ?_
    have := aop_sound hS hR.T hR.M hR.G hx
    unfold Oper.wp
    generalize (execOp a.eval o).run P w = res at this
    unfold OpRes at this
    split at this
    · obtain ⟨c', e, k, hM, hT⟩ := this
      exact hK c' _ _ (hR.put hd e k hM hT) e k.low
    · obtain ⟨c', e, k, hM, hT⟩ := this
      exact hK c' _ _ (hR.put hd e k hM hT) e k.low
    · refine this.mono ?_
      rintro e w' ⟨v, rfl, c', ev, k, hM, hT⟩
      exact hK c' _ _ (hR.put hd ev k hM hT) ev k.low
    · exact this.elim
  · rename_i hw
    rw [wanted_of hR.T hw]
    simp only [Option.some.injEq, Prod.mk.injEq] at h
    obtain ⟨rfl, rfl⟩ := h
    exact hK c _ _ (hR.put hd (.refl _ _) (.refl _) hR.M (⟨#[], rfl, rfl, by simp⟩ : Ev.T c w (.tup []) undef)) (.refl _ _) (fun _ _ _ h => h)
  · simp at h
end
end Ev
