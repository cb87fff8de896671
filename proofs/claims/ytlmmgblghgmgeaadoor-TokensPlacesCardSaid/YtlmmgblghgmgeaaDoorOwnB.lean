/- A verified evaluator, slices of one's own, part B: the first operations of a statement, in whatever order, and those that come last. -/
import Derived.Test.YtlmmgblghgmgeaaDoorOwnA
set_option linter.unusedVariables false
set_option linter.unusedSimpArgs false
namespace Ev
open Go Go.RowKit
section
variable {P : Program} {c : Cfg} {w : World} {m m' : Mem} {t : Tmps} {a : Act} {C : Oracle} {ro : FuncId → Bool} {D : Option DD} {N : Nat} {ops : Array Oper}

/-- The slot that an operation copies. -/
def copyOf (o : Oper) : Option Nat :=
  match o.guard, o.op with
  | none, .move (.tmp s) => some s
  | none, .assign (.tmp s) => some s
  | _, _ => none
/-- What an operation does to the slots. -/
def Did (o : Oper) (a a' : Act) : Prop := ∃ v, a' = a.put o.dst v ∧ (∀ d, o.dst = some d → d < a.tmps.size) ∧ ∀ s, copyOf o = some s → v = a.tmps.getD s undef

theorem step_did {i : Nat} {o : Oper} {t' : Tmps} {Q : Exit → Act → World → Prop} {K : Act → World → Prop} (hS : Sound P C) (hi : ops[i]? = some o) (hR : SR P N c w t m a) (h : astep P C ro D N ops o t m = some (t', m'))
    (hK : ∀ c' a' w', SR P N c' w' t' m' a' → Evo c.own w c'.own w' → Low c c' → Did o a a' → K a' w') : wpOp P ops Q i K a w := by
  unfold astep at h
  split at h
  case isFalse => simp at h
  rename_i hdst
  have hd : ∀ d, o.dst = some d → d < N := fun d hd => by
    have hdst := (Bool.and_eq_true_iff.1 hdst).1
    rw [hd] at hdst; simpa [okDst] using hdst
  have hd2 : ∀ d, o.dst = some d → d < a.tmps.size := fun d h => Nat.lt_of_lt_of_le (hd d h) hR.size
  unfold wpOp
  rw [hi]
  simp only
  split at h
  · rename_i hw
    rw [wanted_of hR.T hw, if_pos rfl]
    split at h
    case h_2 => simp at h
    rename_i x m1 hx
    simp only [Option.some.injEq, Prod.mk.injEq] at h
    obtain ⟨rfl, rfl⟩ := h
    refine .inl ?_
    have := aop_sound hS hR.T hR.M hR.G hx
    have hcopy : ∀ s, copyOf o = some s → (execOp a.eval o).run P w = .ok (.value (a.tmps.getD s undef)) w := fun s hs => by
      obtain ⟨dst, op, type, pos, aft, guard⟩ := o
      unfold copyOf at hs
      simp only at hs
      split at hs
      · simp only [Option.some.injEq] at hs; subst hs; rfl
      · simp only [Option.some.injEq] at hs; subst hs; rfl
      · simp at hs
    unfold Oper.wp
    generalize (execOp a.eval o).run P w = res at this hcopy
    unfold OpRes at this
    split at this
    · obtain ⟨c', e, k, hM, hT⟩ := this
      exact hK c' _ _ (hR.put hd e k hM hT) e k.low ⟨_, rfl, hd2, fun s hs => Next.value.inj (Result.ok.inj (hcopy s hs)).1⟩
    · obtain ⟨c', e, k, hM, hT⟩ := this
      exact hK c' _ _ (hR.put hd e k hM hT) e k.low ⟨_, rfl, hd2, fun s hs => by have := hcopy s hs; simp at this⟩
    · refine this.mono ?_
      rintro e w' ⟨v, rfl, c', ev, k, hM, hT⟩
      exact hK c' _ _ (hR.put hd ev k hM hT) ev k.low ⟨_, rfl, hd2, fun s hs => by have := hcopy s hs; simp at this⟩
    · exact this.elim
  · rename_i hw
    rw [wanted_of hR.T hw]
    simp only [Option.some.injEq, Prod.mk.injEq] at h
    obtain ⟨rfl, rfl⟩ := h
    refine hK c _ _ (hR.put hd (.refl _ _) (.refl _) hR.M (⟨#[], rfl, rfl, by simp⟩ : Ev.T c w (.tup []) undef)) (.refl _ _) (fun _ _ _ h => h) ⟨_, rfl, hd2, fun s hs => ?_⟩
    unfold copyOf at hs
    unfold isWanted at hw
    cases hg : o.guard with
    | none => rw [hg] at hw; simp at hw
    | some q => rw [hg] at hs; simp at hs
  · simp at h

theorem range_split {n m : Nat} (h : n ≤ m) : List.range m = List.range n ++ List.range' n (m - n) := by
  have := @List.range'_append_1 0 n (m - n)
  rw [Nat.zero_add] at this
  rw [List.range_eq_range', List.range_eq_range', this]; congr 1; omega
theorem dsts_inj {d : Nat} {o o' : Oper} : ∀ (l : List Oper) (k i : Nat), (l.filterMap (·.dst)).Nodup → l[k]? = some o → l[i]? = some o' → o.dst = some d → o'.dst = some d → k = i
  | [], k, i, _, h, _, _, _ => by simp at h
  | x :: l, 0, 0, _, _, _, _, _ => rfl
  | x :: l, 0, i + 1, hn, h1, h2, h3, h4 => by
    simp only [List.getElem?_cons_zero, Option.some.injEq, List.getElem?_cons_succ] at h1 h2
    subst h1
    rw [List.filterMap_cons, h3, List.nodup_cons] at hn
    exact absurd (List.mem_filterMap.2 ⟨o', List.mem_of_getElem? h2, h4⟩) hn.1
  | x :: l, k + 1, 0, hn, h1, h2, h3, h4 => by
    simp only [List.getElem?_cons_zero, Option.some.injEq, List.getElem?_cons_succ] at h1 h2
    subst h2
    rw [List.filterMap_cons, h4, List.nodup_cons] at hn
    exact absurd (List.mem_filterMap.2 ⟨o, List.mem_of_getElem? h1, h3⟩) hn.1
  | x :: l, k + 1, i + 1, hn, h1, h2, h3, h4 => by
    simp only [List.getElem?_cons_succ] at h1 h2
    have : (l.filterMap (·.dst)).Nodup := by
      rw [List.filterMap_cons] at hn
      split at hn
      · exact hn
      · exact (List.nodup_cons.1 hn).2
    rw [dsts_inj l k i this h1 h2 h3 h4]

/-- What has been copied stands there. done: which operations have been carried out. -/
structure Track (ops : Array Oper) (n : Nat) (done : Nat → Prop) (a0 a : Act) : Prop where
  frame : Frame (dn ops n) a0 a
  copies : ∀ (k : Nat) (o : Oper) (d s : Nat), ops[k]? = some o → k < n → done k → o.dst = some d → copyOf o = some s → s ∉ dn ops n → a.tmps.getD d undef = a0.tmps.getD s undef
theorem put_getD {a : Act} {dst : Option Tmp} {v : Value} {i : Nat} (h : dst ≠ some i) : (a.put dst v).tmps.getD i undef = a.tmps.getD i undef := by
  cases dst with
  | none => rfl
  | some d =>
    have : d ≠ i := fun he => h (by rw [he])
    simp [Act.put, Array.getD_eq_getD_getElem?, Array.getElem?_setIfInBounds, this]
theorem put_same {a : Act} {d : Nat} {v : Value} (h : d < a.tmps.size) : (a.put (some d) v).tmps.getD d undef = v := by
  simp [Act.put, Array.getD_eq_getD_getElem?, Array.getElem?_setIfInBounds, h]
theorem take_get {k n : Nat} {o : Oper} (h : ops[k]? = some o) (hk : k < n) : (ops.toList.take n)[k]? = some o := by
  rw [List.getElem?_take, if_pos hk]; simpa using h
theorem mem_dn {k n d : Nat} {o : Oper} (h : ops[k]? = some o) (hk : k < n) (hd : o.dst = some d) : d ∈ dn ops n := List.mem_filterMap.2 ⟨o, List.mem_of_getElem? (take_get h hk), hd⟩
theorem Track.step {n i : Nat} {o : Oper} {done done' : Nat → Prop} {a0 a a' : Act} (h : Track ops n done a0 a) (hn : (dn ops n).Nodup) (hi : ops[i]? = some o) (hin : i < n) (hd : Did o a a') (hdone : ∀ k, done' k → done k ∨ k = i) : Track ops n done' a0 a' := by
  obtain ⟨v, rfl, hd1, hd2⟩ := hd
  refine ⟨fun j hj => ?_, fun k ok d s hk hkn hdk hdst hc hs => ?_⟩
  · rw [put_getD fun he => hj (mem_dn hi hin he)]
    exact h.frame j hj
  · by_cases hki : k = i
    · subst hki
      rw [hi] at hk
      obtain rfl := Option.some.inj hk
      rw [hdst, put_same (hd1 d hdst), hd2 s hc]
      exact h.frame s hs
    · rw [put_getD fun he => hki (dsts_inj (ops.toList.take n) k i hn (take_get hk hkn) (take_get hi hin) hdst he)]
      exact h.copies k ok d s hk hkn ((hdone k hdk).resolve_right hki) hdst hc hs

/-- Each operation from the n-th on waits for all before it. -/
def tailOk (ops : Array Oper) (n : Nat) : Bool := (List.range ops.size).all fun i => decide (i < n) || (match ops[i]? with | some o => edgesBack o i && (List.range i).all fun j => edgeTo o j | none => true)
theorem edge_spec {o : Oper} {j : Nat} (h : edgeTo o j = true) : ∃ e ∈ o.after, Region.binds .any e = true ∧ e.on = j := by
  unfold edgeTo at h
  rw [Array.any_eq_true] at h
  obtain ⟨i, hi, h2⟩ := h
  simp only [Bool.and_eq_true, beq_iff_eq] at h2
  exact ⟨_, Array.getElem_mem hi, h2⟩
theorem tailOk_spec {n i : Nat} {o : Oper} (h : tailOk ops n = true) (hi : ops[i]? = some o) (hn : n ≤ i) : (∀ e ∈ o.after, Region.binds .any e = true → e.on < i) ∧ ∀ j, j < i → ∃ e ∈ o.after, Region.binds .any e = true ∧ e.on = j := by
  have hlt : i < ops.size := (Array.getElem?_eq_some_iff.1 hi).1
  have h1 := List.all_eq_true.1 h i (by simpa using hlt)
  rw [hi] at h1
  simp only [Bool.or_eq_true, decide_eq_true_eq, Bool.and_eq_true] at h1
  obtain ⟨h2, h3⟩ := h1.resolve_left (by omega)
  refine ⟨fun e he hb => ?_, fun j hj => edge_spec (List.all_eq_true.1 h3 j (by simpa using hj))⟩
  unfold edgesBack at h2
  have := Array.all_eq_true_iff_forall_mem.1 h2 e he
  simpa [hb] using this

/-- What comes last comes in its order. -/
theorem draw_tail {n : Nat} {Q : Exit → Act → World → Prop} (ht : tailOk ops n = true) : ∀ (k fuel i : Nat) (listed : Array Bool) (a : Act) (w : World), i + k = ops.size → n ≤ i → k ≤ fuel → listed.size = ops.size → (∀ j, listed.getD j false = decide (j < i)) → wpOps P ops Q (List.range' i k) a w → wpAny P .any ops Q fuel listed a w
  | 0, fuel, i, listed, a, w, hik, hni, hf, hsz, hl, h => by
    have hr : Region.ready .any ops listed = [] := by
      rw [List.eq_nil_iff_forall_not_mem]
      intro j hj
      obtain ⟨h1, o, ho, _⟩ := mem_ready.1 hj
      have hlt : j < ops.size := (Array.getElem?_eq_some_iff.1 ho).1
      have h2 := hl j
      rw [Array.getD_eq_getD_getElem?, Array.getElem?_eq_getElem (by omega)] at h1 h2
      simp only [Option.getD_some] at h1 h2
      rw [h1] at h2
      simp at h2; omega
    cases fuel with
    | zero => exact ⟨hr, h⟩
    | succ fuel => exact ⟨fun _ => h, fun j hj => by rw [hr] at hj; simp at hj⟩
  | k + 1, 0, i, listed, a, w, hik, hni, hf, hsz, hl, h => by omega
  | k + 1, fuel + 1, i, listed, a, w, hik, hni, hf, hsz, hl, h => by
    have hlt : i < ops.size := by omega
    have hoi : ops[i]? = some ops[i] := Array.getElem?_eq_getElem hlt
    obtain ⟨q1, q2⟩ := tailOk_spec ht hoi hni
    have hgl : ∀ j, j < ops.size → listed.getD j true = decide (j < i) := fun j hj => by
      have h2 := hl j
      rw [Array.getD_eq_getD_getElem?, Array.getElem?_eq_getElem (by omega)] at h2 ⊢
      simpa using h2
    have hmem : ∀ j, j ∈ Region.ready .any ops listed ↔ j = i := fun j => by
      rw [mem_ready]
      constructor
      · rintro ⟨h1, o, ho, h3⟩
        have hjl : j < ops.size := (Array.getElem?_eq_some_iff.1 ho).1
        rw [hgl j hjl] at h1
        simp only [decide_eq_false_iff_not] at h1
        rcases Nat.lt_or_ge i j with h4 | h4
        · exfalso
          obtain ⟨e, he, hb, hon⟩ := (tailOk_spec ht ho (by omega)).2 i h4
          have := h3 e he hb
          rw [hon, hl i] at this
          simp at this
        · omega
      · rintro rfl
        refine ⟨by rw [hgl j hlt]; simp, _, hoi, fun e he hb => ?_⟩
        rw [hl]
        simpa using q1 e he hb
    refine ⟨fun hr => ?_, fun j hj => ?_⟩
    · have := (hmem i).2 rfl
      rw [hr] at this; simp at this
    · rw [hmem] at hj
      subst hj
      rw [List.range'_succ, wpOps_cons] at h
      refine wpOp_mono (fun a w h => ?_) h
      refine draw_tail ht k fuel (j + 1) (listed.setIfInBounds j true) a w (by omega) (by omega) (by omega) (by simpa using hsz) (fun i => ?_) h
      rw [getD_set (by omega), hl]
      by_cases hij : i = j
      · subst hij; simp
      · rw [if_neg hij, decide_eq_decide]; omega

/-- The open ones among the first n. -/
def openN (ops : Array Oper) (listed : Array Bool) (n : Nat) : List Nat := (List.range ops.size).filter fun i => !listed.getD i true && decide (i < n)
theorem draw_run {hk : Keep} {R : Type} {n : Nat} {r : R} {K : Tmps → Mem → Option R} {Q : Exit → Act → World → Prop} {a0 : Act} (hS : Sound P C) (hok : drawOk ops hk = true) (hn : n ≤ ops.size) (ht : tailOk ops n = true) (hnd : (dn ops n).Nodup) :
    ∀ (fuel : Nat) (listed : Array Bool) (t : Tmps) (m : Mem), listed.size = ops.size → Closed ops listed → (openL ops listed).length ≤ fuel → (∀ i, n ≤ i → listed.getD i false = false) →
    evIdx P C ro (some (dsts ops, hk)) N ops (openN ops listed n) t m K = some r →
    ∀ (c : Cfg) (a : Act) (w : World), SR P N c w t m a → Track ops n (fun k => listed.getD k false = true) a0 a →
    (∀ t' m' c' a' w', K t' m' = some r → SR P N c' w' t' m' a' → Evo c.own w c'.own w' → Low c c' → Track ops n (fun _ => True) a0 a' → wpOps P ops Q (List.range' n (ops.size - n)) a' w') → wpAny P .any ops Q fuel listed a w := by
  intro fuel
  have hgl : ∀ (listed : Array Bool) (j : Nat), listed.size = ops.size → j < ops.size → listed.getD j true = listed.getD j false := fun listed j hsz hj => by
    rw [Array.getD_eq_getD_getElem?, Array.getD_eq_getD_getElem?, Array.getElem?_eq_getElem (by omega)]; rfl
  have hall : ∀ (listed : Array Bool), listed.size = ops.size → openN ops listed n = [] → (∀ i, n ≤ i → listed.getD i false = false) → ∀ j, listed.getD j false = decide (j < n) := fun listed hsz ho hl j => by
    rcases Nat.lt_or_ge j n with hj | hj
    · rw [decide_eq_true hj, ← hgl listed j hsz (by omega)]
      cases hc : listed.getD j true with
      | true => rfl
      | false =>
        have : j ∈ openN ops listed n := List.mem_filter.2 ⟨by simp; omega, by simp [hc, hj]⟩
        rw [ho] at this; simp at this
    · rw [hl j hj, eq_comm, decide_eq_false_iff_not]; omega
  have hopen : ∀ (listed : Array Bool), listed.size = ops.size → (∀ j, listed.getD j false = decide (j < n)) → ops.size - n ≤ (openL ops listed).length := fun listed hsz h => by
    have : openL ops listed = (List.range ops.size).filter fun i => decide (n ≤ i) := List.filter_congr fun j hj => by
      rw [hgl listed j hsz (by simpa using hj), h j]
      by_cases hjn : j < n
      · rw [decide_eq_true hjn, decide_eq_false (by omega)]; rfl
      · rw [decide_eq_false hjn, decide_eq_true (by omega)]; rfl
    rw [this]
    have h2 : (List.range' n (ops.size - n)).Sublist ((List.range ops.size).filter fun i => decide (n ≤ i)) := by
      have h3 : List.range ops.size = List.range n ++ List.range' n (ops.size - n) := range_split hn
      rw [h3, List.filter_append]
      have h4 : (List.range' n (ops.size - n)).filter (fun i => decide (n ≤ i)) = List.range' n (ops.size - n) := List.filter_eq_self.2 fun x hx => by
        rw [List.mem_range'_1] at hx; simpa using hx.1
      rw [h4]
      exact List.sublist_append_right _ _
    have := h2.length_le
    simpa using this
  have hdone : ∀ (listed : Array Bool) (t : Tmps) (m : Mem) (fuel : Nat), listed.size = ops.size → (openL ops listed).length ≤ fuel → openN ops listed n = [] → (∀ i, n ≤ i → listed.getD i false = false) → K t m = some r →
      ∀ (c : Cfg) (a : Act) (w : World), SR P N c w t m a → Track ops n (fun k => listed.getD k false = true) a0 a →
      (∀ t' m' c' a' w', K t' m' = some r → SR P N c' w' t' m' a' → Evo c.own w c'.own w' → Low c c' → Track ops n (fun _ => True) a0 a' → wpOps P ops Q (List.range' n (ops.size - n)) a' w') → wpAny P .any ops Q fuel listed a w :=
    fun listed t m fuel hsz hlen ho hl hK c a w hR hTr hQ => by
      have h1 := hall listed hsz ho hl
      have h2 := hopen listed hsz h1
      refine draw_tail ht (ops.size - n) fuel n listed a w (by omega) (Nat.le_refl _) (by omega) hsz h1 ?_
      exact hQ t m c a w hK hR (.refl _ _) (fun _ _ _ h => h) ⟨hTr.frame, fun k o d s hk hkn _ => hTr.copies k o d s hk hkn (show listed.getD k false = true by rw [h1 k]; simpa using hkn)⟩
  induction fuel with
  | zero =>
    intro listed t m hsz hcl hlen hl h c a w hR hTr hQ
    have h0 : openL ops listed = [] := List.length_eq_zero_iff.1 (by omega)
    have h1 : openN ops listed n = [] := by
      rw [List.eq_nil_iff_forall_not_mem]
      intro j hj
      obtain ⟨h2, h3⟩ := List.mem_filter.1 hj
      simp only [Bool.and_eq_true] at h3
      have : j ∈ openL ops listed := List.mem_filter.2 ⟨h2, h3.1⟩
      rw [h0] at this; simp at this
    rw [h1] at h
    exact hdone listed t m 0 hsz hlen h1 hl h c a w hR hTr hQ
  | succ fuel ih =>
    intro listed t m hsz hcl hlen hl h c a w hR hTr hQ
    by_cases hno : openN ops listed n = []
    · rw [hno] at h
      exact hdone listed t m (fuel + 1) hsz hlen hno hl h c a w hR hTr hQ
    have hin : ∀ i ∈ Region.ready .any ops listed, i < n := fun i hi => by
      rcases Nat.lt_or_ge i n with h1 | h1
      · exact h1
      · exfalso
        obtain ⟨_, o, ho, h3⟩ := mem_ready.1 hi
        obtain ⟨j, L, hj⟩ := List.exists_cons_of_ne_nil hno
        have hjm : j ∈ openN ops listed n := by rw [hj]; simp
        obtain ⟨q1, q2⟩ := List.mem_filter.1 hjm
        simp only [Bool.and_eq_true, Bool.not_eq_true', decide_eq_true_eq] at q2
        obtain ⟨e, he, hb, hon⟩ := (tailOk_spec ht ho h1).2 j (by omega)
        have := h3 e he hb
        rw [hon, ← hgl listed j hsz (by simpa using q1), q2.1] at this
        simp at this
    refine ⟨fun hr => ?_, fun i hi => ?_⟩
    · exfalso
      obtain ⟨i, L, hL⟩ := List.exists_cons_of_ne_nil hno
      have hi : i ∈ openN ops listed n := by rw [hL]; simp
      obtain ⟨h1, h2⟩ := List.mem_filter.1 hi
      simp only [Bool.and_eq_true, Bool.not_eq_true', decide_eq_true_eq] at h2
      have hlt : i < ops.size := by simpa using h1
      have hmin : ∀ j, j < i → listed.getD j false = true := fun j hj => by
        rw [← hgl listed j hsz (by omega)]
        cases hc : listed.getD j true with
        | true => rfl
        | false =>
          exfalso
          have hj' : j ∈ openN ops listed n := List.mem_filter.2 ⟨by simp; omega, by simp [hc]; omega⟩
          have hpw : (openN ops listed n).Pairwise (· < ·) := List.Pairwise.filter _ List.pairwise_lt_range
          rw [hL] at hpw hj'
          rcases List.mem_cons.1 hj' with rfl | hj'
          · omega
          · have := (List.pairwise_cons.1 hpw).1 j hj'; omega
      have : i ∈ Region.ready .any ops listed := mem_ready.2 ⟨h2.1, ops[i], Array.getElem?_eq_getElem hlt, fun e he hb => hmin _ (drawOk_back hok (Array.getElem?_eq_getElem hlt) e he hb)⟩
      rw [hr] at this
      simp at this
    · have hi_n := hin i hi
      obtain ⟨h1, oi, hoi, h3⟩ := mem_ready.1 hi
      have hlt : i < ops.size := (Array.getElem?_eq_some_iff.1 hoi).1
      have hio : i ∈ openN ops listed n := List.mem_filter.2 ⟨by simpa using hlt, by simp [h1, hi_n]⟩
      obtain ⟨L1, L2, k1, k2, k3⟩ := filter_split (p := fun i => !listed.getD i true && decide (i < n)) (List.range ops.size) List.pairwise_lt_range hio
      have k1' : openN ops listed n = L1 ++ i :: L2 := k1
      have hnew : openN ops (listed.setIfInBounds i true) n = L1 ++ L2 := by
        rw [← k3]
        unfold openN
        refine List.filter_congr fun j hj => ?_
        rw [getD_set (by omega)]
        by_cases hji : j = i <;> simp [hji]
      have hnewL : (openL ops (listed.setIfInBounds i true)).length ≤ fuel := by
        have hioL : i ∈ openL ops listed := List.mem_filter.2 ⟨by simpa using hlt, by simp [h1]⟩
        obtain ⟨M1, M2, j1, _, j3⟩ := filter_split (p := fun i => !listed.getD i true) (List.range ops.size) List.pairwise_lt_range hioL
        have j1' : openL ops listed = M1 ++ i :: M2 := j1
        have : openL ops (listed.setIfInBounds i true) = M1 ++ M2 := by
          rw [← j3]
          unfold openL
          refine List.filter_congr fun j hj => ?_
          rw [getD_set (by omega)]
          by_cases hji : j = i <;> simp [hji]
        rw [this]
        rw [j1'] at hlen
        simp at hlen ⊢; omega
      rw [k1'] at h
      have hf := to_front hoi L1 t m (fun j hj oj hoj => drawOk_pair hok hoi hoj (k2 j hj).1 <| by
        cases hre : reach ops 5 i j with
        | false => rfl
        | true =>
        exfalso
        have q1 := reach_listed hcl 5 i j oi hoi h3 hre
        have q2 := (k2 j hj).2
        have hjl : j < listed.size := by have := (k2 j hj).1; omega
        simp only [Array.getD_eq_getD_getElem?, Array.getElem?_eq_getElem hjl, Option.getD_some] at q1 q2
        simp [q1] at q2) h
      simp only [evIdx, hoi] at hf
      split at hf
      case h_2 => simp at hf
      rename_i t1 m1 hst
      refine step_did hS hoi hR hst fun c1 a1 w1 hR1 e1 l1 hdid => ?_
      refine ih (listed.setIfInBounds i true) t1 m1 (by simpa using hsz) (fun k o hk hl e he hb => by
        rw [getD_set (by omega)] at hl ⊢
        split
        · rfl
        · split at hl
          · rename_i hki
            subst hki
            rw [hoi] at hk
            obtain rfl := Option.some.inj hk
            exact h3 e he hb
          · exact hcl k o hk hl e he hb) hnewL (fun j hj => by rw [getD_set (by omega), if_neg (by omega)]; exact hl j hj) (by rw [hnew]; exact hf) c1 a1 w1 hR1
        (hTr.step hnd hoi hi_n hdid fun k hk => by
          have hk : (listed.setIfInBounds i true).getD k false = true := hk
          rw [getD_set (by omega)] at hk
          split at hk
          · rename_i hki; exact .inr hki
          · exact .inl hk) fun t' m' c' a' w' hK hR' e' l' => hQ t' m' c' a' w' hK hR' (e1.trans e') (l1.trans l')

/-- In the text's order. -/
theorem text_run {R : Type} {n : Nat} {r : R} {K : Tmps → Mem → Option R} {Q : Exit → Act → World → Prop} {a0 : Act} {tail : List Nat} (hS : Sound P C) (hnd : (dn ops n).Nodup) : ∀ (l : List Oper) (k : Nat) (t : Tmps) (m : Mem), k + l.length = n → (∀ j o, l[j]? = some o → ops[k + j]? = some o) → evOps P C ro D N ops l t m K = some r →
    ∀ (c : Cfg) (a : Act) (w : World), SR P N c w t m a → Track ops n (fun j => j < k) a0 a →
    (∀ t' m' c' a' w', K t' m' = some r → SR P N c' w' t' m' a' → Evo c.own w c'.own w' → Low c c' → Track ops n (fun _ => True) a0 a' → wpOps P ops Q tail a' w') → wpOps P ops Q (List.range' k l.length ++ tail) a w
  | [], k, t, m, hk, hl, h, c, a, w, hR, hTr, hQ => by
    simp only [evOps] at h
    simp only [List.length_nil, List.range'_zero, List.nil_append]
    simp only [List.length_nil, Nat.add_zero] at hk
    exact hQ t m c a w h hR (.refl _ _) (fun _ _ _ h => h) ⟨hTr.frame, fun j o d s hj hjn _ => hTr.copies j o d s hj hjn (show j < k by omega)⟩
  | o :: l, k, t, m, hk, hl, h, c, a, w, hR, hTr, hQ => by
    simp only [evOps] at h
    split at h
    case h_2 => simp at h
    rename_i t1 m1 hst
    simp only [List.length_cons] at hk
    simp only [List.length_cons, List.range'_succ, List.cons_append]
    rw [wpOps_cons]
    have hok : ops[k]? = some o := hl 0 o rfl
    refine step_did hS hok hR hst fun c1 a1 w1 hR1 e1 l1 hdid => ?_
    exact text_run hS hnd l (k + 1) t1 m1 (by omega) (fun j o' hj => by rw [show k + 1 + j = k + (j + 1) by omega]; exact hl (j + 1) o' hj) h c1 a1 w1 hR1
      (hTr.step hnd hok (by omega) hdid fun j (hj : j < k + 1) => show j < k ∨ j = k by omega) fun t' m' c' a' w' hK hR' e' l' => hQ t' m' c' a' w' hK hR' (e1.trans e') (l1.trans l')

theorem SR.drew (hR : SR P N c w t m a) : SR P N c w.drew t m a := by
  have he : Evo c.own w c.own w.drew := (Evo.refl c.own w).drew
  refine ⟨fun i => (hR.T i).mono he (.refl _), ?_, hR.G.mono he, hR.defers, hR.size⟩
  exact hR.M.mono he rfl rfl (fun _ _ _ h => h) (fun _ _ _ _ _ h => h) hR.M.lt
/-- A statement: its first operations in whatever order is open, then the others. -/
theorem region_run {id : Nat} {draw : Bool} {hk : Keep} {R : Type} {n : Nat} {r : R} {K : Tmps → Mem → Option R} {Q : Exit → Act → World → Prop} (hf : P.follows .mixedOrders = true) (hS : Sound P C) (hok : draw = true → drawOk ops hk = true) (hn : n ≤ ops.size) (ht : draw = true → tailOk ops n = true) (hnd : (dn ops n).Nodup)
    (h : evOps P C ro (if draw then some (dsts ops, hk) else none) N ops (ops.toList.take n) t m K = some r) (hR : SR P N c w t m a)
    (hQ : ∀ t' m' c' a' w', K t' m' = some r → SR P N c' w' t' m' a' → Evo c.own w c'.own w' → Low c c' → Track ops n (fun _ => True) a a' → wpOps P ops Q (List.range' n (ops.size - n)) a' w') : (Code.region id ops draw).wp P Q a w := by
  have hlt : (ops.toList.take n).length = n := by simp; omega
  have hget : ∀ j o, (ops.toList.take n)[j]? = some o → ops[0 + j]? = some o := fun j o hj => by
    rw [List.getElem?_take] at hj
    split at hj
    · rw [Nat.zero_add]; simpa using hj
    · simp at hj
  cases draw with
  | false =>
    refine wp_region ?_
    have := text_run (Q := Q) (a0 := a) (tail := List.range' n (ops.size - n)) hS hnd (ops.toList.take n) 0 t m (by omega) hget h c a w hR ⟨fun _ _ => rfl, fun k o d s _ _ hk => absurd hk (Nat.not_lt_zero _)⟩ hQ
    rw [hlt, ← List.range_eq_range'] at this
    have h3 : List.range ops.size = List.range n ++ List.range' n (ops.size - n) := range_split hn
    rw [h3]; exact this
  | true =>
    refine wp_region_any hf ?_
    have he : Evo c.own w c.own w.drew := (Evo.refl c.own w).drew
    have hrep : ∀ i, (Array.replicate ops.size false).getD i false = false := fun i => by
      simp only [Array.getD_eq_getD_getElem?, Array.getElem?_replicate]
      split <;> rfl
    have hopen : openN ops (Array.replicate ops.size false) n = List.range' 0 n := by
      unfold openN
      have h3 : List.range ops.size = List.range n ++ List.range' n (ops.size - n) := range_split hn
      rw [h3, List.filter_append]
      have h4 : (List.range n).filter (fun i => !(Array.replicate ops.size false).getD i true && decide (i < n)) = List.range n := List.filter_eq_self.2 fun x hx => by
        have : x < n := by simpa using hx
        simp [Array.getD_eq_getD_getElem?, show x < ops.size by omega, this]
      have h5 : (List.range' n (ops.size - n)).filter (fun i => !(Array.replicate ops.size false).getD i true && decide (i < n)) = [] := List.filter_eq_nil_iff.2 fun x hx => by
        rw [List.mem_range'_1] at hx
        simp; omega
      rw [h4, h5, List.append_nil, List.range_eq_range']
    have hidx : ∀ (l : List Oper) (k : Nat) (t : Tmps) (m : Mem), (∀ j o, l[j]? = some o → ops[k + j]? = some o) → evIdx P C ro (some (dsts ops, hk)) N ops (List.range' k l.length) t m K = evOps P C ro (some (dsts ops, hk)) N ops l t m K := by
      intro l
      induction l with
      | nil => intro k t m _; rfl
      | cons o l ih =>
        intro k t m hl
        have hok : ops[k]? = some o := hl 0 o rfl
        simp only [List.length_cons, List.range'_succ, evIdx, hok, evOps]
        cases astep P C ro (some (dsts ops, hk)) N ops o t m with
        | none => rfl
        | some q => exact ih (k + 1) q.1 q.2 fun j o' hj => by rw [show k + 1 + j = k + (j + 1) by omega]; exact hl (j + 1) o' hj
    refine draw_run (hk := hk) (ro := ro) (K := K) (r := r) (t := t) (m := m) (n := n) (a0 := a) (listed := Array.replicate ops.size false) (N := N) hS (hok rfl) hn (ht rfl) hnd ops.size (by simp) (fun k o hk hl => by rw [hrep] at hl; simp at hl) ?_ (fun i _ => hrep i) ?_ c a w.drew hR.drew ⟨fun _ _ => rfl, fun k o d s _ _ (hk : (Array.replicate ops.size false).getD k false = true) => by rw [hrep] at hk; simp at hk⟩
      fun t' m' c' a' w' hK hR' e' l' => hQ t' m' c' a' w' hK hR' (he.trans e') l'
    · exact Nat.le_trans (List.length_filter_le _ _) (by simp)
    · rw [hopen]
      have := hidx (ops.toList.take n) 0 t m hget
      rw [hlt] at this
      rw [this]; exact h
end
end Ev
