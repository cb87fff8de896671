/- A verified evaluator, part W: statements whose order is open. -/
import Derived.Test.YtlmmgblghgmgeaaDoorEvV
set_option linter.unusedVariables false
set_option linter.unusedSimpArgs false
namespace Ev
open Go
section
variable {P : Program} {m m' : Mem} {t : Tmps} {C : Oracle} {ro : FuncId → Bool} {Dl : List Nat} {d : Nat} {x : AV}

def evIdx {R : Type} (P : Program) (C : Oracle) (ro : FuncId → Bool) (D : Option (List Nat)) (N : Nat) (ops : Array Oper) : List Nat → Tmps → Mem → (Tmps → Mem → Option R) → Option R
  | [], t, m, K => K t m
  | i :: r, t, m, K => match ops[i]? with
    | none => none
    | some o => match astep P C ro D N ops o t m with
      | some (t', m') => evIdx P C ro D N ops r t' m' K
      | none => none
theorem evIdx_of {R : Type} {N : Nat} {D : Option (List Nat)} {ops : Array Oper} {K : Tmps → Mem → Option R} : ∀ (l : List Oper) (k : Nat) (t : Tmps) (m : Mem), ops.toList.drop k = l → evIdx P C ro D N ops (List.range' k l.length) t m K = evOps P C ro D N ops l t m K
  | [], k, t, m, hl => by simp [evIdx, evOps]
  | o :: l, k, t, m, hl => by
    have hk : ops[k]? = some o := by
      have := congrArg (·[0]?) hl
      simpa [List.getElem?_drop] using this
    simp only [List.length_cons, List.range'_succ, evIdx, evOps, hk]
    cases astep P C ro D N ops o t m with
    | none => rfl
    | some q => exact evIdx_of l (k + 1) q.1 q.2 (by rw [← List.drop_drop, hl]; rfl)

theorem dst_mem {ops : Array Oper} {i : Nat} {o : Oper} {d : Nat} (h : ops[i]? = some o) (hd : o.dst = some d) : d ∈ dsts ops := by
  unfold dsts
  exact List.mem_filterMap.2 ⟨o, by have := Array.mem_of_getElem? h; simpa using this, hd⟩

/-- A statement that may come now may come first of all. -/
theorem to_front {R : Type} {N : Nat} {ops : Array Oper} {K : Tmps → Mem → Option R} {r : R} {i : Nat} {oi : Oper} (hi : ops[i]? = some oi) {L2 : List Nat} : ∀ (L1 : List Nat) (t : Tmps) (m : Mem),
    (∀ j ∈ L1, ∀ oj, ops[j]? = some oj → oj.apart ops oi = true ∧ ((light oj.op = true ∨ light oi.op = true) ∨ barrier oj.op = false ∧ barrier oi.op = false ∧ oj.dst.isSome = true ∧ oi.dst.isSome = true)) →
    evIdx P C ro (some (dsts ops)) N ops (L1 ++ i :: L2) t m K = some r → evIdx P C ro (some (dsts ops)) N ops (i :: (L1 ++ L2)) t m K = some r
  | [], t, m, hp, h => h
  | j :: L1, t, m, hp, h => by
    simp only [List.cons_append, evIdx] at h
    split at h
    · simp at h
    rename_i oj hj
    split at h
    case h_2 => simp at h
    rename_i t1 m1 h1
    have ih := to_front hi L1 t1 m1 (fun k hk => hp k (by simp [hk])) h
    simp only [evIdx, hi] at ih
    split at ih
    case h_2 => simp at ih
    rename_i t2 m2 h2
    obtain ⟨ha, hl | ⟨b1, b2, d1, d2⟩⟩ := hp j (by simp) oj hj
    · obtain ⟨t1', m1', k1, k2⟩ := swap_light ha hl h1 h2
      simp only [List.cons_append, evIdx, hi, hj, k1, k2]
      exact ih
    obtain ⟨dj, hdj⟩ := Option.isSome_iff_exists.1 d1
    obtain ⟨di, hdi⟩ := Option.isSome_iff_exists.1 d2
    obtain ⟨t1', m1', k1, k2⟩ := swap ha b1 b2 hdj hdi (dst_mem hj hdj) (dst_mem hi hdi) h1 h2
    simp only [List.cons_append, evIdx, hi, hj, k1, k2]
    exact ih

theorem drawOk_back {ops : Array Oper} (h : drawOk ops = true) {i : Nat} {o : Oper} (hi : ops[i]? = some o) : ∀ e ∈ o.after, Region.binds .any e = true → e.on < i := fun e he hb => by
  have hlt : i < ops.size := (Array.getElem?_eq_some_iff.1 hi).1
  have := List.all_eq_true.1 h i (by simpa using hlt)
  rw [hi] at this
  simp only [Bool.and_eq_true] at this
  have h2 := Array.all_eq_true_iff_forall_mem.1 this.1 e he
  simp only [hb, Bool.not_true, Bool.false_or, decide_eq_true_eq] at h2
  exact h2
/-- What is listed waits for nothing. -/
def Closed (ops : Array Oper) (listed : Array Bool) : Prop := ∀ k o, ops[k]? = some o → listed.getD k false = true → ∀ e ∈ o.after, Region.binds .any e = true → listed.getD e.on false = true
theorem reach_listed {ops : Array Oper} {listed : Array Bool} (hc : Closed ops listed) : ∀ (n i j : Nat) (o : Oper), ops[i]? = some o → (∀ e ∈ o.after, Region.binds .any e = true → listed.getD e.on false = true) → reach ops n i j = true → listed.getD j false = true
  | 0, i, j, o, hi, he, h => by simp [reach] at h
  | n + 1, i, j, o, hi, he, h => by
    simp only [reach, hi, Bool.or_eq_true] at h
    rcases h with h | h
    · simp only [edgeTo] at h
      obtain ⟨k, hk, hk2⟩ := Array.any_eq_true.1 h
      simp only [Bool.and_eq_true, beq_iff_eq] at hk2
      rw [← hk2.2]
      exact he _ (Array.getElem_mem hk) hk2.1
    · obtain ⟨k, hk, hk2⟩ := Array.any_eq_true.1 h
      simp only [Bool.and_eq_true] at hk2
      have hl := he _ (Array.getElem_mem hk) hk2.1
      cases ho : ops[(o.after[k]).on]? with
      | none =>
        have : reach ops n (o.after[k]).on j = false := by
          cases n with
          | zero => rfl
          | succ n => simp [reach, ho]
        rw [this] at hk2; simp at hk2
      | some o2 => exact reach_listed hc n _ j o2 ho (hc _ o2 ho hl) hk2.2
theorem drawOk_pair {ops : Array Oper} (h : drawOk ops = true) {i j : Nat} {oi oj : Oper} (hi : ops[i]? = some oi) (hj : ops[j]? = some oj) (hji : j < i) (hn : reach ops 5 i j = false) :
    oj.apart ops oi = true ∧ ((light oj.op = true ∨ light oi.op = true) ∨ barrier oj.op = false ∧ barrier oi.op = false ∧ oj.dst.isSome = true ∧ oi.dst.isSome = true) := by
  have hlt : i < ops.size := (Array.getElem?_eq_some_iff.1 hi).1
  have := List.all_eq_true.1 h i (by simpa using hlt)
  rw [hi] at this
  simp only [Bool.and_eq_true] at this
  have h2 := List.all_eq_true.1 this.2 j (by simpa using hji)
  simp only [pairOk, hi, hj, Bool.or_eq_true, Bool.and_eq_true, Bool.not_eq_true'] at h2
  rcases h2 with h2 | h2
  · rw [hn] at h2; simp at h2
  · exact ⟨h2.1, h2.2.imp id fun h3 => ⟨h3.1.1.1, h3.1.1.2, h3.1.2, h3.2⟩⟩

def openL (ops : Array Oper) (listed : Array Bool) : List Nat := (List.range ops.size).filter fun i => !listed.getD i true

theorem getD_set {listed : Array Bool} {i j : Nat} {b : Bool} (h : i < listed.size) : (listed.setIfInBounds i true).getD j b = if j = i then true else listed.getD j b := by
  simp only [Array.getD_eq_getD_getElem?, Array.getElem?_setIfInBounds]
  by_cases hj : i = j
  · subst hj; simp [h]
  · simp [hj, show ¬ j = i from fun he => hj he.symm]

theorem filter_split {p : Nat → Bool} {i : Nat} : ∀ (L : List Nat), L.Pairwise (· < ·) → i ∈ L.filter p → ∃ L1 L2, L.filter p = L1 ++ i :: L2 ∧ (∀ j ∈ L1, j < i ∧ p j = true) ∧ L.filter (fun j => p j && j != i) = L1 ++ L2
  | [], _, h => by simp at h
  | a :: L, hp, h => by
    obtain ⟨h1, h2⟩ := List.pairwise_cons.1 hp
    by_cases ha : a = i
    · subst ha
      have hpa : p a = true := (List.mem_filter.1 h).2
      refine ⟨[], L.filter p, by simp [List.filter_cons, hpa], by simp, ?_⟩
      simp only [List.filter_cons, bne_self_eq_false, Bool.and_false, List.nil_append]
      refine List.filter_congr fun x hx => ?_
      have : x ≠ a := by have := h1 x hx; omega
      simp [this]
    · have h' : i ∈ L.filter p := by
        rw [List.mem_filter] at h ⊢
        exact ⟨by simpa [show ¬ i = a from fun he => ha he.symm] using h.1, h.2⟩
      obtain ⟨L1, L2, k1, k2, k3⟩ := filter_split L h2 h'
      have hai : a < i := h1 i (List.mem_filter.1 h').1
      by_cases hpa : p a = true
      · refine ⟨a :: L1, L2, by simp [List.filter_cons, hpa, k1], fun j hj => ?_, ?_⟩
        · simp only [List.mem_cons] at hj
          rcases hj with rfl | hj
          · exact ⟨hai, hpa⟩
          · exact k2 j hj
        · simp only [List.filter_cons, hpa, Bool.true_and, k3]
          simp [ha]
      · refine ⟨L1, L2, by simp [List.filter_cons, hpa, k1], k2, ?_⟩
        simp only [List.filter_cons, hpa, Bool.false_and, k3]
        simp

theorem draw_go {R : Type} {N : Nat} {ops : Array Oper} {r : R} {K : Tmps → Mem → Option R} {Q : Exit → Act → World → Prop} (hS : Sound P C) (hok : drawOk ops = true) : ∀ (fuel : Nat) (listed : Array Bool) (t : Tmps) (m : Mem), listed.size = ops.size → Closed ops listed → (openL ops listed).length ≤ fuel →
    evIdx P C ro (some (dsts ops)) N ops (openL ops listed) t m K = some r →
    ∀ (c : Cfg) (a : Act) (w : World), SR P N c w t m a → (∀ t' m' c' a' w', K t' m' = some r → SR P N c' w' t' m' a' → Evo c.own w c'.own w' → Low c c' → Q .normal a' w') → wpAny P .any ops Q fuel listed a w := by
  intro fuel
  have hnil : ∀ (listed : Array Bool), listed.size = ops.size → Region.ready .any ops listed = [] → openL ops listed = [] := fun listed hsz hr => by
    by_cases hne : openL ops listed = []
    · exact hne
    · exfalso
      obtain ⟨i, L, hL⟩ := List.exists_cons_of_ne_nil hne
      have hi : i ∈ openL ops listed := by rw [hL]; simp
      have hmin : ∀ j, j < i → listed.getD j false = true := fun j hj => by
        by_cases hl : listed.getD j true = false
        · have hi' := (List.mem_filter.1 hi).1
          have hlt : i < ops.size := by simpa using hi'
          have hj' : j ∈ openL ops listed := List.mem_filter.2 ⟨by simp; omega, by simp [hl]⟩
          have hpw : (openL ops listed).Pairwise (· < ·) := List.Pairwise.filter _ List.pairwise_lt_range
          rw [hL] at hpw hj'
          have := (List.pairwise_cons.1 hpw).1
          simp only [List.mem_cons] at hj'
          rcases hj' with rfl | hj'
          · omega
          · have := this j hj'; omega
        · have hi' := (List.mem_filter.1 hi).1
          have hlt : i < ops.size := by simpa using hi'
          have hjl : j < listed.size := by omega
          simp only [Array.getD_eq_getD_getElem?, Array.getElem?_eq_getElem hjl, Option.getD_some] at hl ⊢
          simpa using hl
      obtain ⟨h1, h2⟩ := List.mem_filter.1 hi
      have hlt : i < ops.size := by simpa using h1
      have : i ∈ Region.ready .any ops listed := mem_ready.2 ⟨by simpa using h2, ops[i], Array.getElem?_eq_getElem hlt, fun e he hb => hmin _ (drawOk_back hok (Array.getElem?_eq_getElem hlt) e he hb)⟩
      rw [hr] at this
      simp at this
  induction fuel with
  | zero =>
    intro listed t m hsz hcl hlen h c a w hR hQ
    have : openL ops listed = [] := List.length_eq_zero_iff.1 (by omega)
    rw [this] at h
    refine ⟨?_, hQ t m c a w h hR (.refl _ _) (fun _ _ _ h => h)⟩
    by_cases hr : Region.ready .any ops listed = []
    · exact hr
    · exfalso
      obtain ⟨i, L, hL⟩ := List.exists_cons_of_ne_nil hr
      have hi : i ∈ Region.ready .any ops listed := by rw [hL]; simp
      obtain ⟨h1, o, ho, _⟩ := mem_ready.1 hi
      have : i ∈ openL ops listed := List.mem_filter.2 ⟨by simpa using (Array.getElem?_eq_some_iff.1 ho).1, by simp [h1]⟩
      simp_all
  | succ fuel ih =>
    intro listed t m hsz hcl hlen h c a w hR hQ
    refine ⟨fun hr => ?_, fun i hi => ?_⟩
    · rw [hnil listed hsz hr] at h
      exact hQ t m c a w h hR (.refl _ _) (fun _ _ _ h => h)
    · obtain ⟨h1, oi, hoi, h3⟩ := mem_ready.1 hi
      have hlt : i < ops.size := (Array.getElem?_eq_some_iff.1 hoi).1
      have hio : i ∈ openL ops listed := List.mem_filter.2 ⟨by simpa using hlt, by simp [h1]⟩
      obtain ⟨L1, L2, k1, k2, k3⟩ := filter_split (p := fun i => !listed.getD i true) (List.range ops.size) List.pairwise_lt_range hio
      have k1' : openL ops listed = L1 ++ i :: L2 := k1
      have hnew : openL ops (listed.setIfInBounds i true) = L1 ++ L2 := by
        rw [← k3]
        unfold openL
        refine List.filter_congr fun j hj => ?_
        rw [getD_set (by omega)]
        by_cases hji : j = i <;> simp [hji]
      rw [k1'] at h hlen
      have hf := to_front hoi L1 t m (fun j hj oj hoj => drawOk_pair hok hoi hoj (k2 j hj).1 <| by
        cases hre : reach ops 5 i j with
        | false => rfl
        | true =>
        exfalso
        have q1 := reach_listed hcl 5 i j oi hoi h3 hre
        have q2 := (k2 j hj).2
        have hjl : j < listed.size := by have := (k2 j hj).1; omega
        simp only [Array.getD_eq_getD_getElem?, Array.getElem?_eq_getElem hjl, Option.getD_some] at q1 q2
        simp [q1] at q2) h
      simp only [evIdx, hoi] at hf
      split at hf
      case h_2 => simp at hf
      rename_i t1 m1 hst
      refine step_sound hS hoi hR hst fun c1 a1 w1 hR1 e1 l1 => ?_
      refine ih (listed.setIfInBounds i true) t1 m1 (by simpa using hsz) (fun k o hk hl e he hb => by
        rw [getD_set (by omega)] at hl ⊢
        split
        · rfl
        · split at hl
          · rename_i hki
            subst hki
            rw [hoi] at hk
            obtain rfl := Option.some.inj hk
            exact h3 e he hb
          · exact hcl k o hk hl e he hb) (by rw [hnew]; simp at hlen ⊢; omega) (by rw [hnew]; exact hf) c1 a1 w1 hR1 fun t' m' c' a' w' hK hR' e' l' => hQ t' m' c' a' w' hK hR' (e1.trans e') (l1.trans l')

theorem drawSound (hf : P.follows .mixedOrders = true) : DrawSound P := fun {R} E ops t m K r hS hok h c a w hR id Q hQ => by
  refine wp_region_any hf ?_
  have hopen : openL ops (Array.replicate ops.size false) = List.range ops.size := by
    unfold openL
    refine List.filter_eq_self.2 fun i hi => ?_
    have hlt : i < ops.size := by simpa using hi
    simp [Array.getD_eq_getD_getElem?, hlt]
  have he : Evo c.own w c.own w.drew := (Evo.refl c.own w).drew
  refine draw_go (ro := E.ro) (K := K) (r := r) (t := t) (m := m) (listed := Array.replicate ops.size false) (N := E.N) hS hok ops.size (by simp) (fun k o hk hl => by simp only [Array.getD_eq_getD_getElem?, Array.getElem?_replicate] at hl; split at hl <;> simp at hl) (by rw [hopen]; simp) ?_ c a w.drew ?_ ?_
  · rw [hopen, List.range_eq_range', ← h]
    have := evIdx_of (P := P) (C := E.C) (ro := E.ro) (N := E.N) (D := some (dsts ops)) (K := K) ops.toList 0 t m rfl
    simpa using this
  · refine ⟨fun i => (hR.T i).mono he (.refl _), ?_, hR.G.mono he, hR.defers, hR.size⟩
    refine ⟨hR.M.dom, fun id bx g h1 h2 => ?_, hR.M.inj, hR.M.names, hR.M.tip, hR.M.tipInj, hR.M.tipBox, hR.M.lt⟩
    obtain ⟨cs, el, k1, k2, k3, k4⟩ := hR.M.box id bx g h1 h2
    refine ⟨cs, el, k1, k2, fun j x v hx hv => ?_, k4⟩
    obtain ⟨q1, q2⟩ := k3 j x v hx hv
    exact ⟨q1.mono he (.refl _), q2⟩
  · exact fun t' m' c' a' w' hK hR' e' l' => hQ t' m' c' a' w' hK hR' (he.trans e') l'
end
end Ev
