/- A verified evaluator, slices of one's own, part F: functions; how it is computed. -/
import Derived.Test.YtlmmgblghgmgeaaDoorOwnE
set_option linter.unusedVariables false
set_option linter.unusedSimpArgs false
namespace Ev
open Go Go.RowKit
section
variable {P : Program} {c c' c2 : Cfg} {w w' w2 : World} {m m2 : Mem} {t t' t2 : Tmps} {a a' : Act} {o0 : Own} {w0 : World} {c0 : Cfg} {O O' : List OS} {ops : Array Oper}

theorem codeO_sound (hf : P.follows .mixedOrders = true) (E : EnvO) (hS : Sound P E.E.C) (hF : FreshSound P E.fresh ∧ TurnSound P E.turn) : ∀ (code : Code), codeOkO E code = true → ∀ {R : Type} (t : Tmps) (m : Mem) (O : List OS) (K : Ex → Tmps → Mem → List OS → Option R) (r : R), evO P E code t m O K = some r →
    ∀ (c : Cfg) (a : Act) (w : World), SRO P E.E.N o0 w0 c0 c w t m O a → InSlots E.slots O → ∀ (Q : Exit → Act → World → Prop), (∀ e t' m' O' c' a' w', K e t' m' O' = some r → SRO P E.E.N o0 w0 c0 c' w' t' m' O' a' → InSlots E.slots O' → Q (exOf e) a' w') → code.wp P Q a w
  | .skip, _, R, t, m, O, K, r, h, c, a, w, hR, hI, Q, hQ => by
    simp only [evO] at h
    exact wp_skip (hQ _ _ _ _ _ _ _ h hR hI)
  | .exit id, _, R, t, m, O, K, r, h, c, a, w, hR, hI, Q, hQ => by
    simp only [evO] at h
    exact wp_exit (hQ _ _ _ _ _ _ _ h hR hI)
  | .ret, _, R, t, m, O, K, r, h, c, a, w, hR, hI, Q, hQ => by
    simp only [evO] at h
    exact wp_ret (hQ _ _ _ _ _ _ _ h hR hI)
  | .seq x y, hok, R, t, m, O, K, r, h, c, a, w, hR, hI, Q, hQ => by
    simp only [codeOkO, Bool.and_eq_true] at hok
    simp only [evO] at h
    refine wp_seq (codeO_sound hf E hS hF x hok.1 t m O _ r h c a w hR hI _ fun e t1 m1 O1 c1 a1 w1 h1 hR1 hI1 => ?_)
    cases e with
    | normal => exact codeO_sound hf E hS hF y hok.2 t1 m1 O1 K r h1 c1 a1 w1 hR1 hI1 Q hQ
    | exit id => exact hQ _ _ _ _ _ _ _ h1 hR1 hI1
    | ret => exact hQ _ _ _ _ _ _ _ h1 hR1 hI1
  | .cond o x y, hok, R, t, m, O, K, r, h, c, a, w, hR, hI, Q, hQ => by
    simp only [codeOkO, Bool.and_eq_true] at hok
    simp only [evO] at h
    split at h
    case h_2 => simp at h
    rename_i b hb
    have hv := T_opnd hR.sr.T o
    rw [hb] at hv
    refine wp_cond (T_bool hv) ?_
    cases b with
    | true => exact codeO_sound hf E hS hF x hok.1 t m O K r h c a w hR hI Q hQ
    | false => exact codeO_sound hf E hS hF y hok.2 t m O K r h c a w hR hI Q hQ
  | .block id x, hok, R, t, m, O, K, r, h, c, a, w, hR, hI, Q, hQ => by
    simp only [codeOkO] at hok
    simp only [evO] at h
    refine wp_block (codeO_sound hf E hS hF x hok t m O _ r h c a w hR hI _ fun e t1 m1 O1 c1 a1 w1 h1 hR1 hI1 => ?_)
    cases e with
    | normal => exact hQ _ _ _ _ _ _ _ h1 hR1 hI1
    | ret => exact hQ _ _ _ _ _ _ _ h1 hR1 hI1
    | exit i =>
      simp only at h1
      show Exit.inBlock id Q (.exit i) a1 w1
      simp only [Exit.inBlock]
      split at h1
      · rename_i hi
        rw [if_pos hi]
        exact hQ _ _ _ _ _ _ _ h1 hR1 hI1
      · rename_i hi
        rw [if_neg hi]
        exact hQ _ _ _ _ _ _ _ h1 hR1 hI1
  | .loop x, hok, R, t, m, O, K, r, h, c, a, w, hR, hI, Q, hQ => by
    simp only [codeOkO] at hok
    simp only [evO] at h
    split at h
    case h_2 => simp at h
    rename_i e0 t0 m0 O0 hl
    obtain ⟨k, hk⟩ := lim_some hl
    refine wp_loop_rounds k ?_
    have key : ∀ (k : Nat) (t : Tmps) (m : Mem) (O : List OS), iterO (fun t m O => evO P E x (clean (E.E.lv (firstRegion x)) t m).1 (clean (E.E.lv (firstRegion x)) t m).2 O (fun e t m O => some (e, t, m, O))) k t m O = some (e0, t0, m0, O0) →
        ∀ (c1 : Cfg) (a : Act) (w1 : World), SRO P E.E.N o0 w0 c0 c1 w1 t m O a → InSlots E.slots O → Code.rounds P x Q k a w1 := by
      intro k
      induction k with
      | zero => intro t m O hk; simp [iterO] at hk
      | succ k ih =>
        intro t m O hk c1 a w1 hR1 hI1
        rw [rounds_succ]
        simp only [iterO] at hk
        obtain ⟨c2, hR2, e2, l2⟩ := clean_sound (L := E.E.lv (firstRegion x)) hR1.sr
        have hR2' : SRO P E.E.N o0 w0 c0 c2 w1 (clean (E.E.lv (firstRegion x)) t m).1 (clean (E.E.lv (firstRegion x)) t m).2 O a := hR1.plain (l := []) hR2 e2 l2 (fun _ _ => rfl) (by simp)
        cases hb : evO P E x (clean (E.E.lv (firstRegion x)) t m).1 (clean (E.E.lv (firstRegion x)) t m).2 O (fun e t m O => some (e, t, m, O)) with
        | none => rw [hb] at hk; simp at hk
        | some rr =>
          obtain ⟨e, t', m', O'⟩ := rr
          refine codeO_sound hf E hS hF x hok _ _ _ _ _ hb c2 a w1 hR2' hI1 _ fun e' t'' m'' O'' c3 a3 w3 h3 hR3 hI3 => ?_
          simp only [Option.some.injEq, Prod.mk.injEq] at h3
          obtain ⟨rfl, rfl, rfl, rfl⟩ := h3
          rw [hb] at hk
          cases e' with
          | normal => exact ih t'' m'' O'' hk c3 a3 w3 hR3 hI3
          | exit id =>
            simp at hk
            obtain ⟨rfl, rfl, rfl, rfl⟩ := hk
            exact hQ _ _ _ _ _ _ _ h hR3 hI3
          | ret =>
            simp at hk
            obtain ⟨rfl, rfl, rfl, rfl⟩ := hk
            exact hQ _ _ _ _ _ _ _ h hR3 hI3
    exact key k t m O hk c a w hR hI
  | .region id ops draw, hok, R, t, m, O, K, r, h, c, a, w, hR, hI, Q, hQ => by
    simp only [codeOkO] at hok
    simp only [evO] at h
    exact evReg_sound hf hS hF hok h hR hI fun t' m' O' c' a' w' hK hR' hI' => hQ _ _ _ _ _ _ _ hK hR' hI'
  | .rangeFunc .., _, R, t, m, O, K, r, h, c, a, w, hR, hI, Q, hQ => by simp [evO] at h
  | .scope .., _, R, t, m, O, K, r, h, c, a, w, hR, hI, Q, hQ => by simp [evO] at h
  | .label .., _, R, t, m, O, K, r, h, c, a, w, hR, hI, Q, hQ => by simp [evO] at h
  | .goto .., _, R, t, m, O, K, r, h, c, a, w, hR, hI, Q, hQ => by simp [evO] at h
  | .refuse .., _, R, t, m, O, K, r, h, c, a, w, hR, hI, Q, hQ => by simp [evO] at h

theorem params_T {N : Nat} {fn : Func} {args : List AV} {vs : Array Value} (hN : N ≤ fn.ntmps) (hsz : vs.size = args.length) (hargs : ∀ (i : Nat) (x : AV) (v : Value), args[i]? = some x → vs[i]? = some v → T1 c w x v) (hM : MemRel c m w) (hG : Gl P c.own w) :
    SR P N c w (params args 0) m { tmps := vs ++ Array.replicate (fn.ntmps - vs.size) undef, defers := [] } := by
  have hpar : ∀ (l : List AV) (k i : Nat), params l k i = if k ≤ i ∧ i < k + l.length then l.getD (i - k) .undef else .undef := by
    intro l
    induction l with
    | nil => intro k i; simp [params]
    | cons x l ih =>
      intro k i
      simp only [params, upd_apply, ih (k + 1) i, List.length_cons]
      by_cases h1 : i = k
      · subst h1; simp
      · rw [if_neg h1]
        by_cases h2 : k + 1 ≤ i ∧ i < k + 1 + l.length
        · rw [if_pos h2, if_pos (by omega)]
          rw [show i - k = (i - (k + 1)) + 1 by omega]
          simp
        · rw [if_neg h2, if_neg (by omega)]
  refine ⟨fun i => ?_, hM, hG, rfl, by simp; omega⟩
  rw [hpar]
  split
  · rename_i hi
    have hi' : i < args.length := by omega
    have hv : (vs ++ Array.replicate (fn.ntmps - vs.size) undef).getD i undef = vs[i]'(by omega) := by
      rw [Array.getD_eq_getD_getElem?, Array.getElem?_append_left (by omega)]
      simp [show i < vs.size by omega]
    simp only
    rw [hv]
    have := hargs i args[i] (vs[i]'(by omega)) (by simp [hi']) (by simp)
    simpa [List.getD, hi'] using T.of_T1 this
  · exact .of_V (.undef _)

theorem fin_out {rs : List ResultVar} {fn : Func} {bs : List (Nat × Box)} {r : AV × List (Nat × Box)} {e : Ex} (hr : fn.results.toList = rs) (h : finK P rs bs e t m = some r) : (∀ i, e ≠ .exit i) ∧ outOf P fn bs (freezeT t m fn.results.toList).1 (freezeT t m fn.results.toList).2 = some r := by
  subst hr
  cases e with
  | exit i => simp [finK] at h
  | normal => exact ⟨fun _ => by simp, h⟩
  | ret => exact ⟨fun _ => by simp, h⟩

/-- A function's contract by the evaluator with slices of one's own. -/
theorem fnO_sound (hf : P.follows .mixedOrders = true) {E : EnvO} (hS : Sound P E.E.C) (hF : FreshSound P E.fresh ∧ TurnSound P E.turn) {f : FuncId} {fn : Func} {code : Code} {rs : List ResultVar} (hfn : P.funcs[f]? = some fn) (hb : fn.body = some code) (hr : fn.results.toList = rs) (hN : E.E.N ≤ fn.ntmps) (hok : codeOkO E code = true)
    (hcall : ∀ (vs : Array Value) (w : World), (callFunc f vs).run P w = .ok (.enter f vs) w) {args : List AV} {r : AV}
    (h : evO P E code (params args 0) { boxes := ofB [], names := namesOf (cellsOfB []) } [] (fun e t m _ => finK P rs [] e t m) = some (r, [])) : SimCall P f args [] r [] := by
  refine ⟨hcall, fun c w vs hM hG hsz hargs => ?_⟩
  refine calls_of_wp hfn hb ?_
  have hR := params_T (N := E.E.N) (fn := fn) hN hsz hargs hM hG
  have hR0 : SRO P E.E.N c.own w c c w (params args 0) { boxes := ofB [], names := namesOf (cellsOfB []) } [] { tmps := vs ++ Array.replicate (fn.ntmps - vs.size) undef, defers := [] } := ⟨hR, .refl _ _, fun _ _ _ h => h, fun _ => none, by simp, by simp⟩
  refine codeO_sound hf E hS hF code hok _ _ _ _ _ h c _ w hR0 (by intro s hs; simp at hs) _ fun e t' m' O' c' a' w' hK hR' hI' => ?_
  have hdom : ∀ id, (c.ρ id).isSome = true ↔ id ∈ ([] : List (Nat × Box)).map (·.1) := fun id => by
    rw [← hM.dom id]
    exact ofB_isSome [] id
  obtain ⟨hne, hout⟩ := fin_out hr hK
  obtain ⟨c1, hR1, e1, l1⟩ := freeze_sound fn.results.toList _ _ _ hR'.sr
  obtain ⟨v, c2, hrun, e2, hM2, hρ2, hT2⟩ := out_sound hR1 hout (by simp) (by simp) (Low.trans hR'.low l1) hdom hM.inj
  cases e with
  | exit i => exact absurd rfl (hne i)
  | normal => exact ⟨hR'.sr.defers, v, hrun, v, c2, rfl, hR'.ev.trans (e1.trans e2), hM2, hρ2, hT2⟩
  | ret => exact ⟨hR'.sr.defers, v, hrun, v, c2, rfl, hR'.ev.trans (e1.trans e2), hM2, hρ2, hT2⟩

/-- What a function that returns a slice of its own comes to. -/
def finO (s : Nat) (e : Ex) (O : List OS) : Option (Nat × List (List AV)) :=
  match e, getO O s with
  | .exit _, _ => none
  | _, some o => some (o.z, o.els)
  | _, none => none
theorem fnO_fresh (hf : P.follows .mixedOrders = true) {E : EnvO} (hS : Sound P E.E.C) (hF : FreshSound P E.fresh ∧ TurnSound P E.turn) {f : FuncId} {fn : Func} {code : Code} {s : Nat} (hfn : P.funcs[f]? = some fn) (hb : fn.body = some code) (hr : fn.results = #[.tmp s]) (hN : E.E.N ≤ fn.ntmps) (hok : codeOkO E code = true)
    (hcall : ∀ (vs : Array Value) (w : World), (callFunc f vs).run P w = .ok (.enter f vs) w) {args : List AV} {z : Nat} {els : List (List AV)}
    (h : evO P E code (params args 0) { boxes := ofB [], names := namesOf (cellsOfB []) } [] (fun e t m O => finO s e O) = some (z, els)) : FreshCall P f args z els := by
  refine ⟨hcall, fun w vs hG hsz hargs => ?_⟩
  refine calls_of_wp hfn hb ?_
  have hM : MemRel noCfg { boxes := ofB [], names := namesOf (cellsOfB []) } w := ⟨fun id => rfl, fun id bx g h => by simp [ofB] at h, fun id id' g h => by simp [noCfg] at h, fun p q => rfl, fun p q g e h => by simp [noCfg] at h, fun p q p' q' g e e' h => by simp [noCfg] at h, fun p q g e id h => by simp [noCfg] at h, fun g off h => h.elim⟩
  have hR := params_T (N := E.E.N) (fn := fn) (c := noCfg) hN hsz (fun i x v hx hv => .of_V (hargs i x v hx hv)) hM hG
  have hR0 : SRO P E.E.N noOwn w noCfg noCfg w (params args 0) { boxes := ofB [], names := namesOf (cellsOfB []) } [] { tmps := vs ++ Array.replicate (fn.ntmps - vs.size) undef, defers := [] } := ⟨hR, .refl _ _, fun _ _ _ h => h, fun _ => none, by simp, by simp⟩
  refine codeO_sound hf E hS hF code hok _ _ _ _ _ h noCfg _ w hR0 (by intro s hs; simp at hs) _ fun e t' m' O' c' a' w' hK hR' hI' => ?_
  have hbel : Below w.heap.size w w' := below_of_evo (fun _ _ h => h) hR'.ev
  obtain ⟨gs, k1, _⟩ := hR'.ow
  have hrun : (results fn a'.tmps).run P w' = .ok (a'.tmps.getD s undef) w' := by
    simp [results, hr]
  have hval : (∀ i, e ≠ .exit i) ∧ FreshV w w' z els (a'.tmps.getD s undef) := by
    unfold finO at hK
    have hgo : ∀ o, getO O' s = some o → (o.z, o.els) = (z, els) → FreshV w w' z els (a'.tmps.getD s undef) := fun o ho he => by
      simp only [Prod.mk.injEq] at he
      obtain ⟨rfl, rfl⟩ := he
      obtain ⟨hm, hsl⟩ := getO_mem ho
      have h3 := k1 o hm
      rw [hsl] at h3
      cases hg : gs s with
      | none =>
        rw [hg] at h3
        exact .inl h3
      | some g =>
        rw [hg] at h3
        obtain ⟨cap, cs, el, q1, q2, q3, q4, q5, q6, q7, q8⟩ := h3
        exact .inr ⟨g, cap, cs, el, q1, q2, q5, q3, q4, q7, fun i j e x hi hj => by
          obtain ⟨u, r1, r2, r3⟩ := q8 i j e x hi hj
          exact ⟨u, r1, r2.keep (.less fun _ _ hk => hk.elim), r3⟩⟩
    split at hK
    · simp at hK
    · rename_i o h1 h2
      exact ⟨fun i he => h1 i he, hgo o h2 (by simpa using hK)⟩
    · simp at hK
  cases e with
  | exit i => exact absurd rfl (hval.1 i)
  | normal => exact ⟨hR'.sr.defers, _, hrun, _, rfl, hbel, hval.2⟩
  | ret => exact ⟨hR'.sr.defers, _, hrun, _, rfl, hbel, hval.2⟩

/-! How it is computed. -/
theorem storeK_bind {R : Type} {o : Option OS} {ty ty2 : TypeId} {i v : AV} {K : OS → Option R} {S : Type} {F : OS → Option S} {G : S → Option R} (h : ∀ o, K o = (F o).bind G) : storeK P o ty ty2 i v K = (storeK P o ty ty2 i v F).bind G := by
  unfold storeK
  split
  · split
    · exact h _
    · rfl
  · rfl
theorem appK_bind {R : Type} {b : Bool} {o : Option (Nat × List (List AV))} {ty ty2 : TypeId} {v : AV} {K : Nat → List (List AV) → Option R} {S : Type} {F : Nat → List (List AV) → Option S} {G : S → Option R} (h : ∀ z els, K z els = (F z els).bind G) : appK P b o ty ty2 v K = (appK P b o ty ty2 v F).bind G := by
  unfold appK
  split
  · split
    · split
      · exact h _ _
      · rfl
    · rfl
  · rfl
theorem madeK_bind {R : Type} {ty : TypeId} {len : Nat} {ps : Array (Nat × Operand)} {t : Tmps} {K : Nat → List (List AV) → Option R} {S : Type} {F : Nat → List (List AV) → Option S} {G : S → Option R} (h : ∀ z els, K z els = (F z els).bind G) : madeK P ty len ps t K = (madeK P ty len ps t F).bind G := by
  unfold madeK
  split
  · split
    · split
      · exact h _ _
      · rfl
    · rfl
  · rfl
theorem inplK_bind {R : Type} {o : Option OS} {I : Nat → List (List AV) → Option (List (List AV))} {K : OS → Option R} {S : Type} {F : OS → Option S} {G : S → Option R} (h : ∀ o, K o = (F o).bind G) : inplK o I K = (inplK o I F).bind G := by
  unfold inplK
  split
  · split
    · split
      · exact h _
      · rfl
    · rfl
  · rfl
theorem evOps_bind2 {R S : Type} {C : Oracle} {ro : FuncId → Bool} {D : Option DD} {N : Nat} {ops : Array Oper} {K : Tmps → Mem → Option R} {F : Tmps → Mem → Option S} {G : S → Option R} (h : ∀ t m, K t m = (F t m).bind G) : ∀ (l : List Oper) (t : Tmps) (m : Mem), evOps P C ro D N ops l t m K = (evOps P C ro D N ops l t m F).bind G
  | [], t, m => h t m
  | o :: l, t, m => by
    simp only [evOps]
    cases astep P C ro D N ops o t m with
    | none => rfl
    | some q => exact evOps_bind2 h l q.1 q.2
theorem evReg_bind {R S : Type} {E : EnvO} {id : Nat} {draw : Bool} {K : Tmps → Mem → List OS → Option R} {F : Tmps → Mem → List OS → Option S} {G : S → Option R} (h : ∀ t m O, K t m O = (F t m O).bind G) : evReg P E id ops draw t m O K = (evReg P E id ops draw t m O F).bind G := by
  unfold evReg
  cases E.kind id with
  | plain => exact evOps_bind2 (fun t m => h t m O) _ _ _
  | give => exact evOps_bind2 (fun t m => h t m []) _ _ _
  | view => exact evOps_bind2 (fun t2 m2 => h _ _ _) _ _ _
  | born s z =>
    refine evOps_bind2 (fun t m => ?_) _ _ _
    split
    · exact h _ _ _
    · rfl
  | store s x =>
    simp only
    split
    · exact evOps_bind2 (fun t m => storeK_bind fun o => h _ _ _) _ _ _
    · rfl
  | app s x =>
    simp only
    split
    · exact evOps_bind2 (fun t m => appK_bind fun z els => h _ _ _) _ _ _
    · rfl
  | app0 s x =>
    simp only
    split
    · exact evOps_bind2 (fun t m => appK_bind fun z els => h _ _ _) _ _ _
    · rfl
  | fresh s =>
    simp only
    split
    · refine evOps_bind2 (fun t m => ?_) _ _ _
      split
      · split
        · exact h _ _ _
        · rfl
      · rfl
    · rfl
  | made s =>
    simp only
    split
    · exact evOps_bind2 (fun t m => madeK_bind fun z els => h _ _ _) _ _ _
    · rfl
  | inpl s x =>
    simp only
    split
    · exact evOps_bind2 (fun t m => inplK_bind fun o => h _ _ _) _ _ _
    · rfl
theorem evO_bind {E : EnvO} : ∀ (code : Code) {R : Type} (K : Ex → Tmps → Mem → List OS → Option R) (t : Tmps) (m : Mem) (O : List OS), evO P E code t m O K = (evO P E code t m O fun e t m O => some (e, t, m, O)).bind fun q => K q.1 q.2.1 q.2.2.1 q.2.2.2
  | .skip, R, K, t, m, O => by simp only [evO, Option.bind_some]
  | .exit _, R, K, t, m, O => by simp only [evO, Option.bind_some]
  | .ret, R, K, t, m, O => by simp only [evO, Option.bind_some]
  | .seq a b, R, K, t, m, O => by
    simp only [evO]
    refine (evO_bind a _ t m O).trans ?_
    refine .trans ?_ (congrArg (fun z : Option (Ex × Tmps × Mem × List OS) => Option.bind z fun q => K q.1 q.2.1 q.2.2.1 q.2.2.2) (evO_bind a _ t m O)).symm
    cases evO P E a t m O fun e t m O => some (e, t, m, O) with
    | none => rfl
    | some q =>
      obtain ⟨e, t', m', O'⟩ := q
      cases e with
      | normal => exact evO_bind b K t' m' O'
      | _ => rfl
  | .cond c x y, R, K, t, m, O => by
    simp only [evO]
    cases opnd t c with
    | bool b =>
      cases b with
      | true => exact evO_bind x K t m O
      | false => exact evO_bind y K t m O
    | _ => rfl
  | .block id body, R, K, t, m, O => by
    simp only [evO]
    refine (evO_bind body _ t m O).trans ?_
    refine .trans ?_ (congrArg (fun z : Option (Ex × Tmps × Mem × List OS) => Option.bind z fun q => K q.1 q.2.1 q.2.2.1 q.2.2.2) (evO_bind body _ t m O)).symm
    cases evO P E body t m O fun e t m O => some (e, t, m, O) with
    | none => rfl
    | some q =>
      obtain ⟨e, t', m', O'⟩ := q
      cases e with
      | exit i =>
        simp only [Option.bind_some]
        by_cases h : i = id
        · simp [h]
        · simp [h]
      | _ => rfl
  | .loop body, R, K, t, m, O => by
    simp only [evO]
    split <;> rfl
  | .region id ops dr, R, K, t, m, O => by
    simp only [evO]
    exact evReg_bind fun t m O => by rw [Option.bind_some]
  | .scope .., R, K, t, m, O => by simp [evO]
  | .rangeFunc .., R, K, t, m, O => by simp [evO]
  | .goto .., R, K, t, m, O => by simp [evO]
  | .label .., R, K, t, m, O => by simp [evO]
  | .refuse .., R, K, t, m, O => by simp [evO]

theorem iterO_mono {step : StepO} {r : Ex × Tmps × Mem × List OS} : ∀ (n : Nat) (t : Tmps) (m : Mem) (O : List OS), iterO step n t m O = some r → iterO step (n + 1) t m O = some r
  | 0, t, m, O, h => by simp [iterO] at h
  | n + 1, t, m, O, h => by
    rw [iterO] at h ⊢
    cases h1 : step t m O with
    | none => rw [h1] at h; simp at h
    | some q =>
      obtain ⟨e, t', m', O'⟩ := q
      rw [h1] at h
      cases e with
      | normal => exact iterO_mono n t' m' O' h
      | _ => exact h
theorem loopOL_more {step : StepO} {r : Ex × Tmps × Mem × List OS} (h1 : step t m O = some (.normal, t', m2, O')) (h : loopOL step t' m2 O' = some r) : loopOL step t m O = some r := by
  obtain ⟨k, hk⟩ := lim_some h
  refine lim_eq (fun j r hj => iterO_mono j t m O hj) (k := k + 1) ?_
  rw [iterO, h1]; exact hk
theorem loopOL_out {step : StepO} {e : Ex} (h1 : step t m O = some (e, t', m2, O')) (he : e ≠ .normal) : loopOL step t m O = some (e, t', m2, O') := by
  refine lim_eq (fun j r hj => iterO_mono j t m O hj) (k := 1) ?_
  rw [iterO, h1]
  cases e with
  | normal => exact absurd rfl he
  | _ => rfl
noncomputable def loopOK {R : Type} (P : Program) (E : EnvO) (body : Code) (t : Tmps) (m : Mem) (O : List OS) (K : Ex → Tmps → Mem → List OS → Option R) : Option R := evO P E (.loop body) t m O K
theorem loopOK_round {R : Type} {E : EnvO} {body : Code} {K : Ex → Tmps → Mem → List OS → Option R} {r : R} {S : Tmps × Mem} (hS : clean (E.E.lv (firstRegion body)) t m = S)
    (h : evO P E body S.1 S.2 O (fun e t m O => match e with | .normal => loopOK P E body t m O K | e => K e t m O) = some r) : loopOK P E body t m O K = some r := by
  subst hS
  rw [evO_bind] at h
  unfold loopOK
  simp only [evO]
  cases hq : evO P E body (clean (E.E.lv (firstRegion body)) t m).1 (clean (E.E.lv (firstRegion body)) t m).2 O (fun e t m O => some (e, t, m, O)) with
  | none => rw [hq] at h; simp at h
  | some q =>
    obtain ⟨e, t', m', O'⟩ := q
    rw [hq] at h
    simp only [Option.bind_some] at h
    cases e with
    | normal =>
      simp only [loopOK, evO] at h
      split at h
      case h_2 => simp at h
      rename_i e2 t2 m2 O2 h2
      rw [loopOL_more (t' := t') (m2 := m') (O' := O') hq h2]
      exact h
    | exit i => rw [loopOL_out (t' := t') (m2 := m') (O' := O') hq (by simp)]; exact h
    | ret => rw [loopOL_out (t' := t') (m2 := m') (O' := O') hq (by simp)]; exact h

noncomputable def seqKO {R : Type} (P : Program) (E : EnvO) (b : Code) (K : Ex → Tmps → Mem → List OS → Option R) (e : Ex) (t : Tmps) (m : Mem) (O : List OS) : Option R :=
  match e with
  | .normal => evO P E b t m O K
  | e => K e t m O
def blockKO {R : Type} (id : Nat) (K : Ex → Tmps → Mem → List OS → Option R) (e : Ex) (t : Tmps) (m : Mem) (O : List OS) : Option R :=
  match e with
  | .exit i => if i = id then K .normal t m O else K (.exit i) t m O
  | e => K e t m O
def regKO {R : Type} (K : Ex → Tmps → Mem → List OS → Option R) (t : Tmps) (m : Mem) (O : List OS) : Option R := K .normal t m O
noncomputable def roundKO {R : Type} (P : Program) (E : EnvO) (body : Code) (K : Ex → Tmps → Mem → List OS → Option R) (e : Ex) (t : Tmps) (m : Mem) (O : List OS) : Option R :=
  match e with
  | .normal => loopOK P E body t m O K
  | e => K e t m O
def finKO (P : Program) (rs : List ResultVar) (e : Ex) (t : Tmps) (m : Mem) (O : List OS) : Option (AV × List (Nat × Box)) := finK P rs [] e t m
end
section
variable {R : Type} {P : Program} {E : EnvO} {K : Ex → Tmps → Mem → List OS → Option R} {t : Tmps} {m : Mem} {O : List OS}
theorem after_apply (l : List Nat) (t2 t : Tmps) (i : Nat) : after l t2 t i = if l.contains i then (if scalarR (t2 i) then t2 i else .undef) else t i := rfl
theorem evO_skip : evO P E .skip t m O K = K .normal t m O := by simp only [evO]
theorem evO_exit {id : Nat} : evO P E (.exit id) t m O K = K (.exit id) t m O := by simp only [evO]
theorem evO_ret : evO P E .ret t m O K = K .ret t m O := by simp only [evO]
theorem evO_seq {a b : Code} : evO P E (.seq a b) t m O K = evO P E a t m O (seqKO P E b K) := by rw [evO]; rfl
theorem evO_cond {c : Operand} {x y : Code} : evO P E (.cond c x y) t m O K = match opnd t c with | .bool b => bif b then evO P E x t m O K else evO P E y t m O K | _ => none := by rw [evO]; rfl
theorem evO_block {id : Nat} {body : Code} : evO P E (.block id body) t m O K = evO P E body t m O (blockKO id K) := by rw [evO]; rfl
theorem evO_loop {body : Code} : evO P E (.loop body) t m O K = loopOK P E body t m O K := rfl
theorem evO_region {id : Nat} {l : List Oper} {d : Bool} : evO P E (.region id l.toArray d) t m O K = evReg P E id l.toArray d t m O (regKO K) := by simp only [evO]; rfl
theorem seqKO_normal {b : Code} : seqKO P E b K .normal t m O = evO P E b t m O K := rfl
theorem seqKO_exit {b : Code} {i : Nat} : seqKO P E b K (.exit i) t m O = K (.exit i) t m O := rfl
theorem seqKO_ret {b : Code} : seqKO P E b K .ret t m O = K .ret t m O := rfl
theorem blockKO_normal {id : Nat} : blockKO id K .normal t m O = K .normal t m O := rfl
theorem blockKO_exit {id i : Nat} : blockKO id K (.exit i) t m O = if i = id then K .normal t m O else K (.exit i) t m O := rfl
theorem blockKO_ret {id : Nat} : blockKO id K .ret t m O = K .ret t m O := rfl
theorem roundKO_normal {b : Code} : roundKO P E b K .normal t m O = loopOK P E b t m O K := rfl
theorem roundKO_exit {b : Code} {i : Nat} : roundKO P E b K (.exit i) t m O = K (.exit i) t m O := rfl
theorem roundKO_ret {b : Code} : roundKO P E b K .ret t m O = K .ret t m O := rfl
theorem regKO_eq : regKO K t m O = K .normal t m O := rfl
theorem roundO_of {body : Code} {r : R} {S : Tmps × Mem} (hS : clean (E.E.lv (firstRegion body)) t m = S)
    (h : evO P E body S.1 S.2 O (roundKO P E body K) = some r) : loopOK P E body t m O K = some r := by
  refine loopOK_round hS ?_
  rw [← h]
  congr 1
theorem loopO_by {body : Code} {r : R} {α : Type} (size : α → Nat) (Inv : α → Tmps → Mem → List OS → Prop)
    (h : ∀ (a : α) (t : Tmps) (m : Mem) (O : List OS), Inv a t m O → (∀ (a' : α) (t' : Tmps) (m' : Mem) (O' : List OS), size a' < size a → Inv a' t' m' O' → loopOK P E body t' m' O' K = some r) → loopOK P E body t m O K = some r) (a : α) (h0 : Inv a t m O) : loopOK P E body t m O K = some r := by
  suffices ∀ n (a : α) (t : Tmps) (m : Mem) (O : List OS), size a < n → Inv a t m O → loopOK P E body t m O K = some r from this (size a + 1) a t m O (Nat.lt_succ_self _) h0
  intro n
  induction n with
  | zero => intro a t m O hn; omega
  | succ n ih => intro a t m O hn hi; exact h a t m O hi fun a' t' m' O' hs hi' => ih a' t' m' O' (by omega) hi'
end
end Ev
