/- A verified evaluator, part T: code and functions. -/
import Derived.Test.YtlmmgblghgmgeaaDoorEvR
set_option linter.unusedVariables false
set_option linter.unusedSimpArgs false
namespace Ev
open Go
section
variable {P : Program} {c : Cfg} {w : World} {m m' : Mem} {t : Tmps} {a : Act} {C : Oracle} {ro : FuncId → Bool} {D : Option (List Nat)} {d : Nat} {x : AV}

def exOf : Ex → Exit
  | .normal => .normal
  | .exit id => .exit id
  | .ret => .ret

/-- What is owed of statements whose order is open. -/
def DrawSound (P : Program) : Prop := ∀ {R : Type} (E : Env) (ops : Array Oper) (t : Tmps) (m : Mem) (K : Tmps → Mem → Option R) (r : R), Sound P E.C → drawOk ops = true → evOps P E.C E.ro (some (dsts ops)) E.N ops ops.toList t m K = some r →
  ∀ (c : Cfg) (a : Act) (w : World), SR P E.N c w t m a → ∀ (id : Nat) (Q : Exit → Act → World → Prop), (∀ t' m' c' a' w', K t' m' = some r → SR P E.N c' w' t' m' a' → Evo c.own w c'.own w' → Low c c' → Q .normal a' w') → (Code.region id ops true).wp P Q a w

theorem ops_sound {R : Type} {N : Nat} {ops : Array Oper} {r : R} {K : Tmps → Mem → Option R} {Q : Exit → Act → World → Prop} (hS : Sound P C) : ∀ (l : List Oper) (k : Nat) (t : Tmps) (m : Mem), ops.toList.drop k = l → evOps P C ro D N ops l t m K = some r →
    ∀ (c : Cfg) (a : Act) (w : World), SR P N c w t m a → (∀ t' m' c' a' w', K t' m' = some r → SR P N c' w' t' m' a' → Evo c.own w c'.own w' → Low c c' → Q .normal a' w') → wpOps P ops Q (List.range' k l.length) a w
  | [], k, t, m, hl, h, c, a, w, hR, hQ => by
    simp only [evOps] at h
    exact hQ t m c a w h hR (.refl _ _) (fun _ _ _ h => h)
  | o :: l, k, t, m, hl, h, c, a, w, hR, hQ => by
    simp only [evOps] at h
    split at h
    case h_2 => simp at h
    rename_i t1 m1 hst
    simp only [List.length_cons, List.range'_succ]
    rw [wpOps_cons]
    have hk : ops[k]? = some o := by
      have := congrArg (·[0]?) hl
      simpa [List.getElem?_drop] using this
    refine step_sound hS hk hR hst fun c1 a1 w1 hR1 e1 l1 => ?_
    exact ops_sound hS l (k + 1) t1 m1 (by rw [← List.drop_drop, hl]; rfl) h c1 a1 w1 hR1 fun t' m' c' a' w' hK hR' e' l' => hQ t' m' c' a' w' hK hR' (e1.trans e') (l1.trans l')

theorem code_sound (hD : DrawSound P) (hf : P.follows .mixedOrders = true) (E : Env) (hS : Sound P E.C) : ∀ (code : Code), codeOk code = true → ∀ {R : Type} (t : Tmps) (m : Mem) (K : Ex → Tmps → Mem → Option R) (r : R), evCode P E code t m K = some r →
    ∀ (c : Cfg) (a : Act) (w : World), SR P E.N c w t m a → ∀ (Q : Exit → Act → World → Prop), (∀ e t' m' c' a' w', K e t' m' = some r → SR P E.N c' w' t' m' a' → Evo c.own w c'.own w' → Low c c' → Q (exOf e) a' w') → code.wp P Q a w
  | .skip, _, R, t, m, K, r, h, c, a, w, hR, Q, hQ => by
    simp only [evCode] at h
    exact wp_skip (hQ _ _ _ _ _ _ h hR (.refl _ _) (fun _ _ _ h => h))
  | .exit id, _, R, t, m, K, r, h, c, a, w, hR, Q, hQ => by
    simp only [evCode] at h
    exact wp_exit (hQ _ _ _ _ _ _ h hR (.refl _ _) (fun _ _ _ h => h))
  | .ret, _, R, t, m, K, r, h, c, a, w, hR, Q, hQ => by
    simp only [evCode] at h
    exact wp_ret (hQ _ _ _ _ _ _ h hR (.refl _ _) (fun _ _ _ h => h))
  | .seq x y, hok, R, t, m, K, r, h, c, a, w, hR, Q, hQ => by
    simp only [codeOk, Bool.and_eq_true] at hok
    simp only [evCode] at h
    refine wp_seq (code_sound hD hf E hS x hok.1 t m _ r h c a w hR _ fun e t1 m1 c1 a1 w1 h1 hR1 e1 l1 => ?_)
    cases e with
    | normal => exact code_sound hD hf E hS y hok.2 t1 m1 K r h1 c1 a1 w1 hR1 Q fun e t' m' c' a' w' hK hR' e' l' => hQ e t' m' c' a' w' hK hR' (e1.trans e') (l1.trans l')
    | exit id => exact hQ _ _ _ _ _ _ h1 hR1 e1 l1
    | ret => exact hQ _ _ _ _ _ _ h1 hR1 e1 l1
  | .cond o x y, hok, R, t, m, K, r, h, c, a, w, hR, Q, hQ => by
    simp only [codeOk, Bool.and_eq_true] at hok
    simp only [evCode] at h
    split at h
    case h_2 => simp at h
    rename_i b hb
    have hv := T_opnd hR.T o
    rw [hb] at hv
    refine wp_cond (T_bool hv) ?_
    cases b with
    | true => exact code_sound hD hf E hS x hok.1 t m K r h c a w hR Q hQ
    | false => exact code_sound hD hf E hS y hok.2 t m K r h c a w hR Q hQ
  | .block id x, hok, R, t, m, K, r, h, c, a, w, hR, Q, hQ => by
    simp only [codeOk] at hok
    simp only [evCode] at h
    refine wp_block (code_sound hD hf E hS x hok t m _ r h c a w hR _ fun e t1 m1 c1 a1 w1 h1 hR1 e1 l1 => ?_)
    cases e with
    | normal => exact hQ _ _ _ _ _ _ h1 hR1 e1 l1
    | ret => exact hQ _ _ _ _ _ _ h1 hR1 e1 l1
    | exit i =>
      simp only at h1
      show Exit.inBlock id Q (.exit i) a1 w1
      simp only [Exit.inBlock]
      split at h1
      · rename_i hi
        rw [if_pos hi]
        exact hQ _ _ _ _ _ _ h1 hR1 e1 l1
      · rename_i hi
        rw [if_neg hi]
        exact hQ _ _ _ _ _ _ h1 hR1 e1 l1
  | .loop x, hok, R, t, m, K, r, h, c, a, w, hR, Q, hQ => by
    simp only [codeOk] at hok
    simp only [evCode] at h
    split at h
    case h_2 => simp at h
    rename_i e0 t0 m0 hl
    obtain ⟨k, hk⟩ := lim_some hl
    refine wp_loop_rounds k ?_
    have key : ∀ (k : Nat) (t : Tmps) (m : Mem), iter (fun t m => evCode P E x (clean (E.lv (firstRegion x)) t m).1 (clean (E.lv (firstRegion x)) t m).2 (fun e t m => some (e, t, m))) k t m = some (e0, t0, m0) →
        ∀ (c1 : Cfg) (a : Act) (w1 : World), SR P E.N c1 w1 t m a → Evo c.own w c1.own w1 → Low c c1 → Code.rounds P x Q k a w1 := by
      intro k
      induction k with
      | zero => intro t m hk; simp [iter] at hk
      | succ k ih =>
        intro t m hk c1 a w1 hR1 e1 l1
        rw [rounds_succ]
        simp only [iter] at hk
        obtain ⟨c2, hR2, e2, l2⟩ := clean_sound (L := E.lv (firstRegion x)) hR1
        cases hb : evCode P E x (clean (E.lv (firstRegion x)) t m).1 (clean (E.lv (firstRegion x)) t m).2 (fun e t m => some (e, t, m)) with
        | none => rw [hb] at hk; simp at hk
        | some rr =>
          obtain ⟨e, t', m'⟩ := rr
          refine code_sound hD hf E hS x hok _ _ _ _ hb c2 a w1 hR2 _ fun e' t'' m'' c3 a3 w3 h3 hR3 e3 l3 => ?_
          simp only [Option.some.injEq, Prod.mk.injEq] at h3
          obtain ⟨rfl, rfl, rfl⟩ := h3
          rw [hb] at hk
          have e13 := e1.trans (e2.trans e3)
          have l13 := l1.trans (l2.trans l3)
          cases e' with
          | normal => exact ih t'' m'' hk c3 a3 w3 hR3 e13 l13
          | exit id =>
            simp at hk
            obtain ⟨rfl, rfl, rfl⟩ := hk
            exact hQ _ _ _ _ _ _ h hR3 e13 l13
          | ret =>
            simp at hk
            obtain ⟨rfl, rfl, rfl⟩ := hk
            exact hQ _ _ _ _ _ _ h hR3 e13 l13
    exact key k t m hk c a w hR (.refl _ _) (fun _ _ _ h => h)
  | .region id ops draw, hok, R, t, m, K, r, h, c, a, w, hR, Q, hQ => by
    simp only [codeOk] at hok
    simp only [evCode] at h
    cases draw with
    | false =>
      refine wp_region ?_
      have := ops_sound (Q := Q) hS ops.toList 0 t m rfl h c a w hR fun t' m' c' a' w' hK hR' e' l' => hQ _ _ _ _ _ _ hK hR' e' l'
      rw [List.range_eq_range']
      simpa using this
    | true =>
      exact hD E ops t m _ r hS (by simpa using hok) h c a w hR id Q fun t' m' c' a' w' hK hR' e' l' => hQ _ _ _ _ _ _ hK hR' e' l'
  | .rangeFunc .., _, R, t, m, K, r, h, c, a, w, hR, Q, hQ => by simp [evCode] at h
  | .scope .., _, R, t, m, K, r, h, c, a, w, hR, Q, hQ => by simp [evCode] at h
  | .label .., _, R, t, m, K, r, h, c, a, w, hR, Q, hQ => by simp [evCode] at h
  | .goto .., _, R, t, m, K, r, h, c, a, w, hR, Q, hQ => by simp [evCode] at h
  | .refuse .., _, R, t, m, K, r, h, c, a, w, hR, Q, hQ => by simp [evCode] at h

theorem T.untup {y : AV} {v : Value} (h : T c w y v) : T1 c w y.untup v := by
  by_cases hy : ∃ xs, y = .tup xs
  · obtain ⟨xs, rfl⟩ := hy
    exact .of_V (.undef _)
  · have h1 := h.to_T1 hy
    have : y.untup = y := by cases y <;> first | rfl | exact absurd ⟨_, rfl⟩ hy
    rw [this]; exact h1

theorem avAll_cons {x : Option AV} {l : List (Option AV)} {rs : List AV} (h : avAll (x :: l) = some rs) : ∃ v vs, x = some v ∧ avAll l = some vs ∧ rs = v :: vs := by
  cases x with
  | none => simp [avAll] at h
  | some v =>
    simp only [avAll, Option.map_eq_some_iff] at h
    obtain ⟨vs, h1, h2⟩ := h
    exact ⟨v, vs, rfl, h1, h2.symm⟩

def resSem (tmps : Array Value) : ResultVar → Sem Value
  | .tmp t => pure (tmps.getD t undef)
  | .cell a t => do loadVar t (← asAddr (tmps.getD a undef))
theorem results_run (hT : TRel c w t a) (hM : MemRel c m w) : ∀ (l : List ResultVar) (rs : List AV), avAll (l.map (resOf P t m)) = some rs →
    ∃ vs : List Value, (l.mapM (resSem a.tmps)).run P w = .ok vs w ∧ TL c w rs vs
  | [], rs, h => by
    simp [avAll] at h; subst h
    exact ⟨[], by simp, rfl, by simp⟩
  | rv :: l, rs, h => by
    obtain ⟨v, vs, h1, h2, rfl⟩ := avAll_cons h
    obtain ⟨us, hu, hTL⟩ := results_run hT hM l vs h2
    have hone : ∃ u, (resSem a.tmps rv).run P w = .ok u w ∧ T1 c w v u := by
      cases rv with
      | tmp i =>
        simp only [resOf, Option.some.injEq] at h1
        subst h1
        exact ⟨_, rfl, (hT i).untup⟩
      | cell b ty =>
        simp only [resOf] at h1
        split at h1
        case h_2 => simp at h1
        rename_i id off hb
        split at h1
        case h_2 => simp at h1
        rename_i bx hbx
        simp only [Option.map_eq_some_iff] at h1
        obtain ⟨v', hv', rfl⟩ := h1
        have hp := hT b
        rw [hb] at hp
        obtain ⟨g, hg, hpv⟩ := T_ptr hp
        obtain ⟨cv, hcv⟩ := box_cells hM hbx hg
        obtain ⟨u, hu1, hu2⟩ := part_load (P := P) (ad := ⟨g, 0, none⟩) hv' hcv
        rw [add_plain, Nat.zero_add] at hu1
        exact ⟨u, by simp [resSem, hpv, asAddr, hu1], hu2.untup⟩
    obtain ⟨u, hu1, hu2⟩ := hone
    refine ⟨u :: us, ?_, by simp [hTL.1], fun i x v hx hv => ?_⟩
    · simp only [List.mapM_cons, Sem.run_bind, hu1, Result.andThen_ok, hu, Sem.run_pure]
    · cases i with
      | zero => simp at hx hv; subst hx; subst hv; exact hu2
      | succ i => exact hTL.2 i x v (by simpa using hx) (by simpa using hv)

theorem outBoxes_spec : ∀ (bs bs' : List (Nat × Box)), outBoxes m bs = some bs' → bs'.map (·.1) = bs.map (·.1) ∧ ∀ b ∈ bs', m.boxes b.1 = some b.2 ∧ m.froz b.1 = false
  | [], bs', h => by simp [outBoxes] at h; subst h; simp
  | (i, b) :: r, bs', h => by
    simp only [outBoxes] at h
    split at h
    case h_2 => simp at h
    rename_i c cs h1 h0 h2
    simp at h
    subst h
    obtain ⟨k1, k2⟩ := outBoxes_spec r cs h2
    exact ⟨by simp [k1], fun b' hb' => by
      rcases List.mem_cons.1 hb' with rfl | hb'
      · exact ⟨h1, h0⟩
      · exact k2 b' hb'⟩

/-- The end of a function: its result and its boxes, in canonical names. -/
theorem out_sound {N : Nat} {fn : Func} {bs bs' : List (Nat × Box)} {r : AV} {c0 : Cfg} (hR : SR P N c w t m a) (h : outOf P fn bs t m = some (r, bs')) (hnd : (bs.map (·.1)).Nodup) (hlow : ∀ b ∈ bs, b.1 < 500000) (hρ : Low c0 c) (hdom : ∀ id, (c0.ρ id).isSome = true ↔ id ∈ bs.map (·.1)) (hinj : ∀ id id' g, c0.ρ id = some g → c0.ρ id' = some g → id = id') :
    ∃ v c', (results fn a.tmps).run P w = .ok v w ∧ Evo c.own w c'.own w ∧ MemRel c' { boxes := ofB bs', names := namesOf (cellsOfB bs' ++ resParts r) } w ∧ c'.ρ = c0.ρ ∧ T c' w r v := by
  have hM := hR.M
  unfold outOf at h
  split at h
  case h_2 => simp at h
  rename_i rs bo h1 h2
  simp only at h
  split at h
  case isFalse => simp at h
  rename_i hnp2
  obtain ⟨k1, k2'⟩ := outBoxes_spec bs bo h2
  have k2 : ∀ b ∈ bo, m.boxes b.1 = some b.2 := fun b hb => (k2' b hb).1
  obtain ⟨us, hus, hTL⟩ := results_run hR.T hM _ _ h1
  have hal : ∀ p q, m.names p q = some true → ∃ s, c.ν p q = .alive s := fun p q hn => by
    have := hM.names p q
    rw [hn] at this
    cases hs : c.ν p q with
    | unknown => rw [hs] at this; simp [statIs] at this
    | dead => rw [hs] at this; simp [statIs] at this
    | alive t => exact ⟨t, rfl⟩
  have hndB : (bo.map (·.1)).Nodup := by rw [k1]; exact hnd
  let valsI : Nat → List Value := fun i => blockVals w (c.ρ i)
  have hTLb : ∀ b ∈ bo, TL c w b.2 (valsI b.1) := fun b hb => box_TL hM (k2 b hb)
  have hnp : ∀ x ∈ cellsOfB bo, ∀ i o, x ≠ .ptr i o := by
    have : ∀ (l : List (Nat × Box)), (∀ b ∈ l, b ∈ bo) → ∀ x ∈ cellsOfB l, ∀ i o, x ≠ .ptr i o := by
      intro l
      induction l with
      | nil => intro _ x hx; simp [cellsOfB] at hx
      | cons b l ih =>
        intro hl x hx
        obtain ⟨bi, bb⟩ := b
        simp only [cellsOfB, List.mem_append] at hx
        rcases hx with hx | hx
        · exact box_noPtr hM (k2 (bi, bb) (hl (bi, bb) (by simp))) x hx
        · exact ih (fun e' he' => hl e' (List.mem_cons_of_mem _ he')) x hx
    exact this bo (fun _ h => h)
  obtain ⟨t1, hc1⟩ := relabB_chain (names := m.names) (nm := boxName) (grow := fun _ _ => none) (vals := valsI) bo [] hTLb (fun x hx p q _ hn => hal p q hn)
  have hshape := relabB_shape (names := m.names) (nm := boxName) (grow := fun _ _ => none) bo []
  have hnpB := relabB_noPtr (names := m.names) (nm := boxName) (grow := fun _ _ => none) bo [] hnp
  generalize hX : relabB m.names boxName (fun _ _ => none) [] bo = X at *
  obtain ⟨t2, hc2⟩ := relabL_chain (names := m.names) (nm := fun k => (999999, k)) (grow := fun _ => none) rs us 0 X.2 hTL (fun y _ p q _ hn => hal p q hn)
  generalize hys : (relabL m.names (fun k => (999999, k)) (fun _ => none) 0 X.2 rs).1 = ys at *
  simp only [Option.some.injEq, Prod.mk.injEq] at h
  obtain ⟨hr, rfl⟩ := h
  have hch := hc1.append hc2
  have hnd' : ((bo.flatMap fun (b : Nat × Box) => (List.range' 0 b.2.length).map (boxName b.1)) ++ (List.range' 0 rs.length).map fun k => (999999, k)).Nodup := by
    rw [List.nodup_append]
    refine ⟨nodup_boxNames (nm := boxName) (fun i j i' j' h => by simp [boxName] at h; omega) bo hndB, nm_nodup 999999 0 _, fun p hp q hq he => ?_⟩
    subst he
    simp only [List.mem_flatMap, List.mem_map] at hp hq
    obtain ⟨b, _, j, _, rfl⟩ := hp
    obtain ⟨k, _, hk⟩ := hq
    simp [boxName] at hk
    omega
  let Y := cellsOfB X.1 ++ ys
  let ts := t1 ++ t2
  let ν' := nuOf (fun _ _ => .unknown) Y ts
  let c' : Cfg := ⟨c.own, c0.ρ, ν'⟩
  have hkeysX : X.1.map (·.1) = bo.map (·.1) := by
    have := congrArg (List.map Prod.fst) hshape
    simpa [Function.comp_def] using this
  have hTL2 : TL c' w Y ((bo.flatMap fun b => valsI b.1) ++ us) := hch.TL hnd' (fun _ _ h => h) (fun y hy => by
    rcases List.mem_append.1 hy with hy | hy
    · exact hnpB y hy
    · exact noPtr_spec hnp2 y hy)
  obtain ⟨hTLB, hTLR⟩ := TL_append hTL2 hc1.len.2.1
  have hsplit : ∀ b ∈ X.1, TL c' w b.2 (valsI b.1) := by
    refine TL_boxes X.1 ?_ (fun b hb => ?_)
    · have : (X.1.flatMap fun b => valsI b.1) = bo.flatMap fun b => valsI b.1 := by
        rw [← List.flatMap_map (f := Prod.fst) (g := valsI), ← List.flatMap_map (f := Prod.fst) (g := valsI), hkeysX]
      rw [this]; exact hTLB
    · have hm : (b.1, b.2.length) ∈ X.1.map fun b => (b.1, b.2.length) := List.mem_map.2 ⟨b, hb, rfl⟩
      rw [hshape] at hm
      obtain ⟨b0, hb0, he⟩ := List.mem_map.1 hm
      simp at he
      have := (hTLb b0 hb0).1
      rw [he.1] at this
      omega
  have hsrc : ∀ (i g en : Nat), ts[i]? = some (some (g, en)) → ∃ p q, c.ν p q = .alive (some (g, en)) := fun i g en hi => by
    obtain ⟨p, q, h1, _, _⟩ := hch.src i g en hi
    exact ⟨p, q, h1⟩
  -- the boxes that the function was handed stand where they stood
  have hρeq : ∀ b ∈ bo, ∀ g, c0.ρ b.1 = some g → c.ρ b.1 = some g := fun b hb g hg => by
    have hs := hM.dom b.1
    rw [k2 b hb] at hs
    obtain ⟨g', hg'⟩ := Option.isSome_iff_exists.1 hs.symm
    have hb' : b.1 ∈ bs.map (·.1) := by rw [← k1]; exact List.mem_map.2 ⟨b, hb, rfl⟩
    obtain ⟨b0, hb0, he⟩ := List.mem_map.1 hb'
    have := hρ b.1 g' (by rw [← he]; exact hlow b0 hb0) hg'
    rw [hg] at this; simp at this; subst this
    exact hg'
  have hmapM : (results fn a.tmps).run P w = .ok (if h : us.toArray.size = 1 then us.toArray[0] else .tuple us.toArray) w := by
    have hfun : results fn a.tmps = (do
        let vs ← fn.results.mapM (resSem a.tmps)
        pure (if h : vs.size = 1 then vs[0] else .tuple vs)) := by
      unfold results
      congr 1
    rw [hfun, Array.mapM_eq_mapM_toList]
    simp only [Sem.run_bind, Sem.run_map, Sem.run_pure, hus, Result.andThen_ok]
  refine ⟨_, c', hmapM, .refl _ _, ?_, rfl, ?_⟩
  · have hparts : resParts r = ys ∨ ∃ y, ys = [y] ∧ resParts r = resParts y ∧ r = y := by
      rw [← hr]
      split
      · rename_i y; exact .inr ⟨y, rfl, rfl, rfl⟩
      · exact .inl rfl
    have hnotup : ∀ y ∈ ys, ∀ xs, y ≠ .tup xs := fun y hy xs he => by
      obtain ⟨i, hi, rfl⟩ := List.mem_iff_getElem.1 hy
      have hl := hTLR.1
      have := hTLR.2 i ys[i] (us[i]'(by omega)) (by simp [hi]) (by simp)
      rw [he] at this
      exact this
    have hparts' : resParts r = ys := by
      rcases hparts with h | ⟨y, h1, h2, h3⟩
      · exact h
      · rw [h2, h1]
        have := hnotup y (by rw [h1]; simp)
        cases y <;> first | rfl | exact absurd rfl (this _)
    rw [hparts']
    refine ⟨fun id => ?_, fun id bx g h1 h2 => ?_, hinj, fun p q => ?_, fun p q g en h => ?_, fun p q p' q' g en en' h h' => ?_, fun p q g en id h hid => ?_, hM.lt⟩
    · show (ofB X.1 id).isSome = (c0.ρ id).isSome
      have e1 := ofB_isSome X.1 id
      rw [hkeysX, k1] at e1
      have e2 := hdom id
      rw [Bool.eq_iff_iff, e1, e2]
    · have hmX := ofB_mem X.1 id bx h1
      have hk : id ∈ bo.map (·.1) := by rw [← hkeysX]; exact List.mem_map.2 ⟨_, hmX, rfl⟩
      obtain ⟨b, hb, hbe⟩ := List.mem_map.1 hk
      have hg := hρeq b hb g (by rw [hbe]; exact h2)
      obtain ⟨cs, el, q1, q2, q3, q4, q5⟩ := hM.box b.1 b.2 g (k2 b hb) hg
      have htl := hsplit (id, bx) hmX
      have hv : valsI id = cs.toList := by
        simp only [valsI, ← hbe, hg]
        exact blockVals_eq q1
      simp only [hv] at htl
      refine ⟨cs, el, q1, by simpa using htl.1, fun j x v hx hv' => ⟨htl.2 j x v hx (by simpa using hv'), ?_, hnpB x (cells_mem hmX (List.mem_of_getElem? hx))⟩, fun _ off ho => q4 (k2' b hb).2 off ho, fun hf => by simp at hf⟩
      have hj : j < b.2.length := by
        rw [← q2]
        rcases Nat.lt_or_ge j cs.size with h' | h'
        · exact h'
        · simp [h'] at hv'
      exact (q3 j b.2[j] v (by simp [hj]) hv').2.1
    · show statIs (nuOf (fun _ _ => .unknown) Y ts p q) (namesOf Y p q)
      rw [← addNames_none]
      exact nuOf_names (base := fun _ _ => .unknown) (names := fun _ _ => none) (fun _ _ => rfl) _ _ hch.len.2.2 p q
    · rcases nuOf_alive _ ts p q _ h with ⟨i, y, h1, h2, h3⟩ | ⟨_, h2⟩
      · obtain ⟨p', q', hs⟩ := hsrc i g en h3
        exact hM.tip p' q' g en hs
      · simp at h2
    · rcases nuOf_alive _ ts p q _ h with ⟨i, y, h1, h2, h3⟩ | ⟨_, h2⟩
      · rcases nuOf_alive _ ts p' q' _ h' with ⟨i', y', h1', h2', h3'⟩ | ⟨_, h2'⟩
        · obtain rfl := hch.inj hM.tipInj i i' g en en' h3 h3'
          rw [h1] at h1'; simp at h1'; subst h1'
          rw [h2] at h2'; simpa using h2'
        · simp at h2'
      · simp at h2
    · rcases nuOf_alive _ ts p q _ h with ⟨i, y, h1, h2, h3⟩ | ⟨_, h2⟩
      · obtain ⟨p', q', hs⟩ := hsrc i g en h3
        have hk : id ∈ bo.map (·.1) := by rw [k1]; exact (hdom id).1 (by rw [hid]; rfl)
        obtain ⟨b, hb, hbe⟩ := List.mem_map.1 hk
        exact hM.tipBox _ _ _ _ _ hs (hρeq b hb g (by rw [hbe]; exact hid))
      · simp at h2
  · have hul : us.length = ys.length := hTLR.1
    subst hr
    split
    · rename_i y
      have h1 : us.length = 1 := by simpa using hul
      obtain ⟨u, rfl⟩ : ∃ u, us = [u] := by
        match us, h1 with
        | [u], _ => exact ⟨u, rfl⟩
      simp
      exact .of_T1 (hTLR.2 0 y u rfl rfl)
    · rename_i hne
      have h1 : ¬ us.toArray.size = 1 := by
        intro h
        simp at h
        rw [h] at hul
        match ys, hul.symm with
        | [y], _ => exact hne y rfl
      rw [dif_neg h1]
      exact ⟨us.toArray, rfl, by simpa using hul, fun i x u hx hu => hTLR.2 i x u hx (by simpa using hu)⟩

theorem freeze_one {N : Nat} {i id off : Nat} {b : Box} (hR : SR P N c w t m a) (hi : t i = .ptr id off) (hb : m.boxes id = some b) :
    ∃ c', SR P N c' w (upd t i (.eptr ((b.drop off).map AV.bare))) { m with froz := fun j => if j = id then true else m.froz j } a ∧ Evo c.own w c'.own w ∧ Low c c' := by
  have h := aop_makeFunc (P := P) (C := fun _ _ _ => none) (ro := fun _ => false) (D := none) (d := 0) (f := 0) (fs := #[]) (caps := #[.tmp i]) (x := .fn 0 [.eptr ((b.drop off).map AV.bare)]) (m' := { m with froz := fun j => if j = id then true else m.froz j }) hR.T hR.M (by
    simp [aop, opnd, hi, capture, mayRead, hb])
  have hrun : (do pure (Next.value (← Instr.makeFunc (.func 0) ((#[] : Array Operand).map a.eval) ((#[.tmp i] : Array Operand).map a.eval))) : Sem Next).run P w = .ok (.value (.func (.func 0) #[] #[a.eval (.tmp i)])) w := by
    simp [Instr.makeFunc]
  rw [hrun] at h
  obtain ⟨c', e, k, hM', hT'⟩ := h
  refine ⟨c', ⟨fun j => ?_, hM', hR.G.mono e, hR.defers, hR.size⟩, e, k.low⟩
  simp only [upd_apply]
  by_cases hj : j = i
  · subst hj
    rw [if_pos rfl]
    cases (show V c'.own w (.fn 0 [.eptr ((b.drop off).map AV.bare)]) _ from hT') with
    | fn _ _ vs h1 h2 => exact .of_V (h2 0 _ _ rfl rfl)
  · rw [if_neg hj]
    exact (hR.T j).mono e k
theorem freeze_sound {N : Nat} : ∀ (rs : List ResultVar) (t : Tmps) (m : Mem) (c : Cfg), SR P N c w t m a → ∃ c', SR P N c' w (freezeT t m rs).1 (freezeT t m rs).2 a ∧ Evo c.own w c'.own w ∧ Low c c'
  | [], t, m, c, h => ⟨c, h, .refl _ _, fun _ _ _ h => h⟩
  | .tmp i :: r, t, m, c, h => by
    simp only [freezeT]
    split
    · rename_i id off hi
      split
      · rename_i b hb
        obtain ⟨c1, h1, e1, l1⟩ := freeze_one h hi hb
        obtain ⟨c2, h2, e2, l2⟩ := freeze_sound r _ _ c1 h1
        exact ⟨c2, h2, e1.trans e2, l1.trans l2⟩
      · exact freeze_sound r t m c h
    · exact freeze_sound r t m c h
  | .cell .. :: r, t, m, c, h => freeze_sound r t m c h

/-- A function's contract by the evaluator. -/
theorem fn_sound (hD : DrawSound P) (hf : P.follows .mixedOrders = true) {E : Env} (hS : Sound P E.C) {f : FuncId} {fn : Func} {code : Code} (hfn : P.funcs[f]? = some fn) (hb : fn.body = some code) (hN : E.N ≤ fn.ntmps) (hok : codeOk code = true)
    (hcall : ∀ (vs : Array Value) (w : World), (callFunc f vs).run P w = .ok (.enter f vs) w) {args : List AV} {bs bs' : List (Nat × Box)} {r : AV} (hnd : (bs.map (·.1)).Nodup) (h : evFn P E fn args bs = some (r, bs')) : SimCall P f args bs r bs' := by
  refine ⟨hcall, fun c w vs hM hG hsz hargs => ?_⟩
  unfold evFn at h
  rw [hb] at h
  simp only at h
  split at h
  case isFalse => simp at h
  rename_i hlow
  have hlow' : ∀ b ∈ bs, b.1 < 500000 := fun b hb => by simpa using List.all_eq_true.1 hlow b hb
  refine calls_of_wp hfn hb ?_
  have hpar : ∀ (l : List AV) (k i : Nat), params l k i = if k ≤ i ∧ i < k + l.length then l.getD (i - k) .undef else .undef := by
    intro l
    induction l with
    | nil => intro k i; simp [params]
    | cons x l ih =>
      intro k i
      simp only [params, upd_apply, ih (k + 1) i, List.length_cons]
      by_cases h1 : i = k
      · subst h1; simp
      · rw [if_neg h1]
        by_cases h2 : k + 1 ≤ i ∧ i < k + 1 + l.length
        · rw [if_pos h2, if_pos (by omega)]
          rw [show i - k = (i - (k + 1)) + 1 by omega]
          simp
        · rw [if_neg h2, if_neg (by omega)]
  have hR : SR P E.N c w (params args 0) { boxes := ofB bs, names := namesOf (cellsOfB bs) } { tmps := vs ++ Array.replicate (fn.ntmps - vs.size) undef, defers := [] } := by
    refine ⟨fun i => ?_, hM, hG, rfl, by simp; omega⟩
    rw [hpar]
    split
    · rename_i hi
      have hi' : i < args.length := by omega
      have hv : (vs ++ Array.replicate (fn.ntmps - vs.size) undef).getD i undef = vs[i]'(by omega) := by
        rw [Array.getD_eq_getD_getElem?, Array.getElem?_append_left (by omega)]
        simp [show i < vs.size by omega]
      simp only
      rw [hv]
      have := hargs i args[i] (vs[i]'(by omega)) (by simp [hi']) (by simp)
      simpa [List.getD, hi'] using T.of_T1 this
    · exact .of_V (.undef _)
  refine code_sound hD hf E hS code hok _ _ _ _ h c _ w hR _ fun e t' m' c' a' w' hK hR' ev hl => ?_
  have hdom : ∀ id, (c.ρ id).isSome = true ↔ id ∈ bs.map (·.1) := fun id => by
    rw [← hM.dom id]
    exact ofB_isSome bs id
  cases e with
  | exit id => simp at hK
  | normal =>
    obtain ⟨c1, hR1, e1, l1⟩ := freeze_sound fn.results.toList _ _ _ hR'
    obtain ⟨v, c2, hr, e2, hM2, hρ2, hT2⟩ := out_sound hR1 hK hnd hlow' (Low.trans hl l1) hdom hM.inj
    exact ⟨hR'.defers, v, hr, v, c2, rfl, ev.trans (e1.trans e2), hM2, hρ2, hT2⟩
  | ret =>
    obtain ⟨c1, hR1, e1, l1⟩ := freeze_sound fn.results.toList _ _ _ hR'
    obtain ⟨v, c2, hr, e2, hM2, hρ2, hT2⟩ := out_sound hR1 hK hnd hlow' (Low.trans hl l1) hdom hM.inj
    exact ⟨hR'.defers, v, hr, v, c2, rfl, ev.trans (e1.trans e2), hM2, hρ2, hT2⟩
end
end Ev
