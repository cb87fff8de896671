/- The texts OwnA, OwnB, OwnC, merged. -/
import Derived.Test.YtlmmgblghgmgeaaGreatDoorEv4
set_option linter.unusedVariables false
set_option linter.unusedSimpArgs false
/- A verified evaluator, slices of one's own, part A: what stays when the world goes on; a view of the memory that nothing may write. -/
set_option linter.unusedVariables false
set_option linter.unusedSimpArgs false
namespace Ev
open Go Go.RowKit

/-- A slice of one's own: the slot where it stands, the size of its elements, these. -/
structure OS where
  slot : Nat
  z : Nat
  els : List (List AV)

/-- What was readable is so, and reads as it did. -/
structure Kp (o o' : Own) (w w' : World) : Prop where
  cell : ∀ (a : Addr) (v : Value), w.cell? a = some v → ¬ o.N a.block a.off → w'.cell? a = some v ∧ ¬ o'.N a.block a.off
  blk : ∀ (g : Nat) (cs : Array Value) (el : TypeId) (fr : Nat × Nat), w.heap[g]? = some (.cells cs el fr) → ∃ cs' : Array Value, w'.heap[g]? = some (.cells cs' el fr) ∧ cs'.size = cs.size

section
variable {P : Program} {o o' : Own} {c c' : Cfg} {w w' : World} {m m' : Mem} {t t' : Tmps} {a a' : Act} {N : Nat}

theorem Kp.of_evo (e : Evo o w o' w') : Kp o o' w w' :=
  ⟨fun _ _ h hn => ⟨e.cell h hn, e.lt h hn⟩, fun g cs el fr h => let ⟨cs', h1, h2, _⟩ := e.cells g cs el fr h; ⟨cs', h1, h2⟩⟩
theorem Kp.less (h : ∀ g off, o'.N g off → o.N g off) : Kp o o' w w :=
  ⟨fun _ _ h1 hn => ⟨h1, fun hk => hn (h _ _ hk)⟩, fun g cs el fr h => ⟨cs, h, rfl⟩⟩

theorem V.keep {x : AV} {v : Value} (h : V o w x v) (k : Kp o o' w w') : V o' w' x v := by
  induction h with
  | undef v => exact .undef v
  | bool b => exact .bool b
  | int k n => exact .int k n
  | str s => exact .str s
  | sl s els tok a len cap cv hlen hcap hel hc hv ho hn hk hr ih =>
    refine .sl s els tok a len cap cv hlen hcap hel (fun i j el x hi hj => ?_) ih ho hn hk hr
    obtain ⟨ad, ha, hcell, hown⟩ := hc i j el x hi hj
    have hown' : ¬ o.N (ad.add (i * s + j)).block (ad.add (i * s + j)).off := by rw [add_block, add_off]; exact hown
    obtain ⟨q1, q2⟩ := k.cell _ _ hcell hown'
    refine ⟨ad, ha, q1, ?_⟩
    rwa [add_block, add_off] at q2
  | eptr cells ad cv hc hv ho ih =>
    refine .eptr cells ad cv (fun j x hj => ?_) ih ho
    obtain ⟨hcell, hown⟩ := hc j x hj
    have hown' : ¬ o.N (ad.add j).block (ad.add j).off := by rw [add_block, add_off]; exact hown
    obtain ⟨q1, q2⟩ := k.cell _ _ hcell hown'
    refine ⟨q1, ?_⟩
    rwa [add_block, add_off] at q2
  | pnil => exact .pnil
  | fn f cap vs hl hv ih => exact .fn f cap vs hl ih
  | fnil => exact .fnil
  | agg cells cs hl hv ho ih => exact .agg cells cs hl ih ho
theorem Tip.keep {s n : Nat} {st : Stat} {v : Value} (h : Tip w s n st v) (k : Kp o o' w w') : Tip w' s n st v := by
  cases st with
  | unknown => exact h
  | dead => trivial
  | alive t =>
    cases t with
    | none => exact h
    | some t =>
      obtain ⟨g, en⟩ := t
      obtain ⟨q, cap, cs, el, h1, h2, h3, h4⟩ := h
      obtain ⟨cs', k1, k2⟩ := k.blk _ _ _ _ h3
      exact ⟨q, cap, cs', el, h1, h2, k1, by omega⟩
theorem T1.keep {x : AV} {v : Value} (h : T1 c w x v) (k : Kp c.own c'.own w w') (hρ : ∀ id g, c.ρ id = some g → c'.ρ id = some g) (hν : ∀ p q, c'.ν p q = c.ν p q ∨ c'.ν p q = .dead) : T1 c' w' x v := by
  cases x with
  | ptr id off => obtain ⟨g, h1, h2⟩ := h; exact ⟨g, hρ _ _ h1, h2⟩
  | sl s els tok =>
    cases tok with
    | row p q =>
      refine ⟨h.1.keep k, ?_⟩
      rcases hν p q with e | e
      · rw [e]; exact h.2.keep k
      · rw [e]; trivial
    | nil => exact V.keep h k
    | none => exact V.keep h k
    | clip => exact V.keep h k
  | tup => exact h
  | _ => exact V.keep h k
theorem T.keep {x : AV} {v : Value} (h : T c w x v) (k : Kp c.own c'.own w w') (hρ : ∀ id g, c.ρ id = some g → c'.ρ id = some g) (hν : ∀ p q, c'.ν p q = c.ν p q ∨ c'.ν p q = .dead) : T c' w' x v := by
  by_cases hx : ∃ xs, x = .tup xs
  · obtain ⟨xs, rfl⟩ := hx
    obtain ⟨vs, h1, h2, h3⟩ := h
    exact ⟨vs, h1, h2, fun i x u hx hu => (h3 i x u hx hu).keep k hρ hν⟩
  · exact .of_T1 ((h.to_T1 hx).keep k hρ hν)

theorem MemRel.keep (h : MemRel c m w) (k : Kp c.own c'.own w w') (hρ : c'.ρ = c.ρ) (hν : c'.ν = c.ν)
    (hW : ∀ g off, g < w.heap.size → c.own.W g off → c'.own.W g off) (hN : ∀ g off, g < w.heap.size → c'.own.N g off → c.own.N g off)
    (hb : ∀ id g, c.ρ id = some g → ∀ cs el, w.heap[g]? = some (.cells cs el (0, 0)) → w'.heap[g]? = some (.cells cs el (0, 0)))
    (hlt : ∀ g off, c'.own.N g off → g < w'.heap.size) : MemRel c' m w' where
  dom := fun id => by rw [hρ]; exact h.dom id
  box := fun id bx g h1 h2 => by
    rw [hρ] at h2
    obtain ⟨cs, el, k1, k2, k3, k4, k5⟩ := h.box id bx g h1 h2
    refine ⟨cs, el, hb id g h2 cs el k1, k2, fun j x v hx hv => ⟨(k3 j x v hx hv).1.keep k (fun id g hi => by rw [hρ]; exact hi) (fun p q => .inl (by rw [hν])), (k3 j x v hx hv).2⟩,
      fun hf off ho => hW _ _ (lt_of_heap k1) (k4 hf off ho), fun hf off ho hn => k5 hf off ho (hN _ _ (lt_of_heap k1) hn)⟩
  inj := fun i j g h1 h2 => by rw [hρ] at h1 h2; exact h.inj i j g h1 h2
  names := fun p q => by rw [hν]; exact h.names p q
  tip := fun p q g en hs => by
    rw [hν] at hs
    obtain ⟨cs, el, k1, kl, k2⟩ := h.tip p q g en hs
    obtain ⟨cs', k3, k4⟩ := k.blk _ _ _ _ k1
    exact ⟨cs', el, k3, by omega, fun off h1 h2 => hW _ _ (lt_of_heap k1) (k2 off h1 (by omega))⟩
  tipInj := fun p q p' q' g en en' h1 h2 => by rw [hν] at h1 h2; exact h.tipInj p q p' q' g en en' h1 h2
  tipBox := fun p q g en id h1 h2 => by rw [hν] at h1; rw [hρ] at h2; exact h.tipBox p q g en id h1 h2
  lt := hlt

/-- A slice of one's own, and its value: nil, or at the head of a block that nothing else leads to. -/
def OwnedAt (c : Cfg) (w : World) (base : Nat) (v : Value) (o : OS) : Option Nat → Prop
  | none => o.els = [] ∧ ∃ ad, v = .slice ad 0 0
  | some g => ∃ cap cs el, v = .slice (some ⟨g, 0, none⟩) o.els.length cap ∧ o.els.length ≤ cap ∧ w.heap[g]? = some (.cells cs el (0, 0)) ∧ cap * o.z ≤ cs.size ∧ base ≤ g ∧
      (∀ off, c.own.N g off ∧ ¬ c.own.W g off) ∧ (∀ e ∈ o.els, e.length = o.z) ∧
      ∀ (i j : Nat) (e : List AV) (x : AV), o.els[i]? = some e → e[j]? = some x → ∃ u, cs[i * o.z + j]? = some u ∧ V c.own w x u ∧ u.oneCell' = true
theorem OwnedAt.keep {base : Nat} {v : Value} {s : OS} {q : Option Nat} (h : OwnedAt c w base v s q) (k : Kp c.own c'.own w w')
    (hh : ∀ g, q = some g → w'.heap[g]? = w.heap[g]?) (hN : ∀ g, q = some g → (∀ off, c.own.N g off ∧ ¬ c.own.W g off) → g < w.heap.size → ∀ off, c'.own.N g off ∧ ¬ c'.own.W g off) : OwnedAt c' w' base v s q := by
  cases q with
  | none => exact h
  | some g =>
    obtain ⟨cap, cs, el, h1, h2, h3, h4, h5, h6, h7, h8⟩ := h
    exact ⟨cap, cs, el, h1, h2, by rw [hh g rfl]; exact h3, h4, h5, hN g rfl h6 (lt_of_heap h3), h7, fun i j e x hi hj => by
      obtain ⟨u, k1, k2, k3⟩ := h8 i j e x hi hj
      exact ⟨u, k1, k2.keep k, k3⟩⟩
theorem OwnedAt.evo {base : Nat} {v : Value} {s : OS} {q : Option Nat} (h : OwnedAt c w base v s q) (e : Evo c.own w c'.own w') : OwnedAt c' w' base v s q := by
  cases q with
  | none => exact h
  | some g =>
    obtain ⟨cap, cs, el, h1, h2, h3, h4, h5, h6, h7, h8⟩ := h
    have hlt := lt_of_heap h3
    exact ⟨cap, cs, el, h1, h2, e.same h3 fun off => (h6 off).2, h4, h5, fun off => ⟨e.hid g off hlt (h6 off).1 (h6 off).2, fun hk => (h6 off).2 (e.wr g off hlt hk)⟩, h7, fun i j el x hi hj => by
      obtain ⟨u, k1, k2, k3⟩ := h8 i j el x hi hj
      exact ⟨u, k1, k2.mono e, k3⟩⟩
theorem OwnedAt.view {base : Nat} {v : Value} {s : OS} {q : Option Nat} (h : OwnedAt c w base v s q) : V noOwn w (.sl s.z s.els .none) v := by
  cases q with
  | none =>
    obtain ⟨h1, ad, rfl⟩ := h
    rw [h1]; exact V_empty
  | some g =>
    obtain ⟨cap, cs, el, rfl, h2, h3, h4, h5, h6, h7, h8⟩ := h
    refine .sl s.z s.els .none _ _ cap (fun i j => cs.getD (i * s.z + j) undef) rfl h2 h7 (fun i j e x hi hj => ?_) (fun i j e x hi hj => ?_) (fun i j e x hi hj => ?_) (by simp) (by simp) (by simp)
    · obtain ⟨u, k1, k2, k3⟩ := h8 i j e x hi hj
      refine ⟨⟨g, 0, none⟩, rfl, ?_, fun hk => hk⟩
      rw [add_plain, heap_cell h3, Nat.zero_add]
      simp [Array.getD_eq_getD_getElem?, k1]
    · obtain ⟨u, k1, k2, k3⟩ := h8 i j e x hi hj
      simpa [Array.getD_eq_getD_getElem?, k1] using k2.keep (o' := noOwn) (w' := w) (.less fun _ _ hk => hk.elim)
    · obtain ⟨u, k1, k2, k3⟩ := h8 i j e x hi hj
      simpa [Array.getD_eq_getD_getElem?, k1] using k3

/-- The state of a frame, with slices of its own. -/
structure SRO (P : Program) (N : Nat) (o0 : Own) (w0 : World) (c0 : Cfg) (c : Cfg) (w : World) (t : Tmps) (m : Mem) (O : List OS) (a : Act) : Prop where
  sr : SR P N c w t m a
  ev : Evo o0 w0 c.own w
  low : Low c0 c
  ow : ∃ gs : Nat → Option Nat, (∀ s ∈ O, OwnedAt c w w0.heap.size (a.tmps.getD s.slot undef) s (gs s.slot)) ∧ ∀ s ∈ O, ∀ s' ∈ O, ∀ g, gs s.slot = some g → gs s'.slot = some g → s.slot = s'.slot

/-- Slices of one's own, seen as slices that nobody writes. -/
def viewT : List OS → Tmps → Tmps
  | [], t => t
  | s :: r, t => upd (viewT r t) s.slot (.sl s.z s.els .none)
theorem viewT_spec : ∀ (O : List OS) (t : Tmps) (i : Nat), ((∀ s ∈ O, s.slot ≠ i) ∧ viewT O t i = t i) ∨ ∃ s ∈ O, s.slot = i ∧ viewT O t i = .sl s.z s.els .none
  | [], t, i => .inl ⟨by simp, rfl⟩
  | s :: r, t, i => by
    by_cases h : i = s.slot
    · exact .inr ⟨s, by simp, h.symm, by simp [viewT, h]⟩
    · have hv : viewT (s :: r) t i = viewT r t i := by simp [viewT, h]
      rw [hv]
      rcases viewT_spec r t i with ⟨h1, h2⟩ | ⟨s', h1, h2, h3⟩
      · exact .inl ⟨fun s' hs' => by rcases List.mem_cons.1 hs' with rfl | hs'; exact fun he => h he.symm; exact h1 s' hs', h2⟩
      · exact .inr ⟨s', List.mem_cons_of_mem _ h1, h2, h3⟩
/-- A memory that nothing may write. -/
def frozen (m : Mem) : Mem := ⟨m.boxes, fun _ _ => some false, fun _ => true⟩
def viewCfg (c : Cfg) : Cfg := ⟨noOwn, c.ρ, fun _ _ => .dead⟩

theorem frozen_rel (hM : MemRel c m w) : MemRel (viewCfg c) (frozen m) w where
  dom := hM.dom
  box := fun id bx g h1 h2 => by
    obtain ⟨cs, el, k1, k2, k3, k4, k5⟩ := hM.box id bx g h1 h2
    exact ⟨cs, el, k1, k2, fun j x v hx hv => ⟨(k3 j x v hx hv).1.keep (.less fun _ _ hk => hk.elim) (fun _ _ h => h) (fun _ _ => .inr rfl), (k3 j x v hx hv).2⟩, fun hf => by simp [frozen] at hf, fun _ _ _ hn => hn⟩
  inj := hM.inj
  names := fun p q => rfl
  tip := fun p q g en hs => by simp [viewCfg] at hs
  tipInj := fun p q p' q' g en en' hs => by simp [viewCfg] at hs
  tipBox := fun p q g en id hs => by simp [viewCfg] at hs
  lt := fun g off hn => hn.elim
theorem view_start {o0 : Own} {w0 : World} {c0 : Cfg} {O : List OS} (h : SRO P N o0 w0 c0 c w t m O a) : SR P N (viewCfg c) w (viewT O t) (frozen m) a where
  T := fun i => by
    rcases viewT_spec O t i with ⟨h1, h2⟩ | ⟨s, h1, h2, h3⟩
    · rw [h2]
      exact (h.sr.T i).keep (.less fun _ _ hk => hk.elim) (fun _ _ h => h) (fun _ _ => .inr rfl)
    · obtain ⟨gs, k1, _⟩ := h.ow
      have := (k1 s h1).view
      rw [h3, ← h2]
      exact .of_V this
  M := frozen_rel h.sr.M
  G := h.sr.G.weaker fun _ _ hk => hk.elim
  defers := h.sr.defers
  size := h.sr.size

/-- The slots that the first n operations write. -/
def dn (ops : Array Oper) (n : Nat) : List Nat := (ops.toList.take n).filterMap (·.dst)
def Frame (l : List Nat) (a a' : Act) : Prop := ∀ i, i ∉ l → a'.tmps.getD i undef = a.tmps.getD i undef
/-- Behind a reading: plain values come out. -/
def after (l : List Nat) (t2 t : Tmps) : Tmps := fun i => if l.contains i then (if scalarR (t2 i) then t2 i else .undef) else t i

theorem SRO.below {o0 : Own} {w0 : World} {c0 : Cfg} {O : List OS} (h : SRO P N o0 w0 c0 c w t m O a) (hb : Below w.heap.size w w') (hT : ∀ i, T c w' (t' i) (a'.tmps.getD i undef)) (hd : a'.defers = []) (hs : N ≤ a'.tmps.size)
    (hf : ∀ s ∈ O, a'.tmps.getD s.slot undef = a.tmps.getD s.slot undef) : SRO P N o0 w0 c0 c w' t' m O a' where
  sr := ⟨hT, h.sr.M.mono (.below hb) rfl rfl (fun _ _ _ h => h) (fun id g hg cs el hh => by rw [hb.block g (lt_of_heap hh)]; exact hh) (fun g off hn => Nat.lt_of_lt_of_le (h.sr.M.lt g off hn) hb.size), h.sr.G.mono (.below hb), hd, hs⟩
  ev := h.ev.trans (.below hb)
  low := h.low
  ow := by
    obtain ⟨gs, k1, k2⟩ := h.ow
    exact ⟨gs, fun s hs => by rw [hf s hs]; exact (k1 s hs).evo (.below hb), k2⟩
theorem view_end {o0 : Own} {w0 : World} {c0 c2 : Cfg} {O : List OS} {l : List Nat} {t2 : Tmps} {m2 : Mem} (h : SRO P N o0 w0 c0 c w t m O a) (h2 : SR P N c2 w' t2 m2 a') (e : Evo noOwn w c2.own w') (hf : Frame l a a') (hO : ∀ s ∈ O, s.slot ∉ l) :
    SRO P N o0 w0 c0 c w' (after l t2 t) m O a' := by
  have hb : Below w.heap.size w w' := below_of_evo (fun _ _ h => h) e
  refine h.below hb (fun i => ?_) h2.defers h2.size (fun s hs => hf _ (hO s hs))
  unfold after
  by_cases hi : i ∈ l
  · rw [if_pos (by simpa using hi)]
    split
    · rename_i hs
      exact scalarR_T hs (h2.T i)
    · exact .of_V (.undef _)
  · rw [if_neg (by simpa using hi), hf i hi]
    exact (h.sr.T i).mono (.below hb) (.refl _)
end
end Ev

/- A verified evaluator, slices of one's own, part B: the first operations of a statement, in whatever order, and those that come last. -/
set_option linter.unusedVariables false
set_option linter.unusedSimpArgs false
namespace Ev
open Go Go.RowKit
section
variable {P : Program} {c : Cfg} {w : World} {m m' : Mem} {t : Tmps} {a : Act} {C : Oracle} {ro : FuncId → Bool} {D : Option DD} {N : Nat} {ops : Array Oper}

/-- The slot that an operation copies. -/
def copyOf (o : Oper) : Option Nat :=
  match o.guard, o.op with
  | none, .move (.tmp s) => some s
  | none, .assign (.tmp s) => some s
  | _, _ => none
/-- What an operation does to the slots. -/
def Did (o : Oper) (a a' : Act) : Prop := ∃ v, a' = a.put o.dst v ∧ (∀ d, o.dst = some d → d < a.tmps.size) ∧ ∀ s, copyOf o = some s → v = a.tmps.getD s undef

theorem step_did {i : Nat} {o : Oper} {t' : Tmps} {Q : Exit → Act → World → Prop} {K : Act → World → Prop} (hS : Sound P C) (hi : ops[i]? = some o) (hR : SR P N c w t m a) (h : astep P C ro D N ops o t m = some (t', m'))
    (hK : ∀ c' a' w', SR P N c' w' t' m' a' → Evo c.own w c'.own w' → Low c c' → Did o a a' → K a' w') : wpOp P ops Q i K a w := by
  unfold astep at h
  split at h
  case isFalse => simp at h
  rename_i hdst
  have hd : ∀ d, o.dst = some d → d < N := fun d hd => by
    have hdst := (Bool.and_eq_true_iff.1 hdst).1
    rw [hd] at hdst; simpa [okDst] using hdst
  have hd2 : ∀ d, o.dst = some d → d < a.tmps.size := fun d h => Nat.lt_of_lt_of_le (hd d h) hR.size
  unfold wpOp
  rw [hi]
  simp only
  split at h
  · rename_i hw
    rw [wanted_of hR.T hw, if_pos rfl]
    split at h
    case h_2 => simp at h
    rename_i x m1 hx
    simp only [Option.some.injEq, Prod.mk.injEq] at h
    obtain ⟨rfl, rfl⟩ := h
    refine .inl ?_
    have := aop_sound hS hR.T hR.M hR.G hx
    have hcopy : ∀ s, copyOf o = some s → (execOp a.eval o).run P w = .ok (.value (a.tmps.getD s undef)) w := fun s hs => by
      obtain ⟨dst, op, type, pos, aft, guard⟩ := o
      unfold copyOf at hs
      simp only at hs
      split at hs
      · simp only [Option.some.injEq] at hs; subst hs; rfl
      · simp only [Option.some.injEq] at hs; subst hs; rfl
      · simp at hs
    unfold Oper.wp
    generalize (execOp a.eval o).run P w = res at this hcopy
    unfold OpRes at this
    split at this
    · obtain ⟨c', e, k, hM, hT⟩ := this
      exact hK c' _ _ (hR.put hd e k hM hT) e k.low ⟨_, rfl, hd2, fun s hs => Next.value.inj (Result.ok.inj (hcopy s hs)).1⟩
    · obtain ⟨c', e, k, hM, hT⟩ := this
      exact hK c' _ _ (hR.put hd e k hM hT) e k.low ⟨_, rfl, hd2, fun s hs => by have := hcopy s hs; simp at this⟩
    · refine this.mono ?_
      rintro e w' ⟨v, rfl, c', ev, k, hM, hT⟩
      exact hK c' _ _ (hR.put hd ev k hM hT) ev k.low ⟨_, rfl, hd2, fun s hs => by have := hcopy s hs; simp at this⟩
    · exact this.elim
  · rename_i hw
    rw [wanted_of hR.T hw]
    simp only [Option.some.injEq, Prod.mk.injEq] at h
    obtain ⟨rfl, rfl⟩ := h
    refine hK c _ _ (hR.put hd (.refl _ _) (.refl _) hR.M (⟨#[], rfl, rfl, by simp⟩ : Ev.T c w (.tup []) undef)) (.refl _ _) (fun _ _ _ h => h) ⟨_, rfl, hd2, fun s hs => ?_⟩
    unfold copyOf at hs
    unfold isWanted at hw
    cases hg : o.guard with
    | none => rw [hg] at hw; simp at hw
    | some q => rw [hg] at hs; simp at hs
  · simp at h

theorem range_split {n m : Nat} (h : n ≤ m) : List.range m = List.range n ++ List.range' n (m - n) := by
  have := @List.range'_append_1 0 n (m - n)
  rw [Nat.zero_add] at this
  rw [List.range_eq_range', List.range_eq_range', this]; congr 1; omega
theorem dsts_inj {d : Nat} {o o' : Oper} : ∀ (l : List Oper) (k i : Nat), (l.filterMap (·.dst)).Nodup → l[k]? = some o → l[i]? = some o' → o.dst = some d → o'.dst = some d → k = i
  | [], k, i, _, h, _, _, _ => by simp at h
  | x :: l, 0, 0, _, _, _, _, _ => rfl
  | x :: l, 0, i + 1, hn, h1, h2, h3, h4 => by
    simp only [List.getElem?_cons_zero, Option.some.injEq, List.getElem?_cons_succ] at h1 h2
    subst h1
    rw [List.filterMap_cons, h3, List.nodup_cons] at hn
    exact absurd (List.mem_filterMap.2 ⟨o', List.mem_of_getElem? h2, h4⟩) hn.1
  | x :: l, k + 1, 0, hn, h1, h2, h3, h4 => by
    simp only [List.getElem?_cons_zero, Option.some.injEq, List.getElem?_cons_succ] at h1 h2
    subst h2
    rw [List.filterMap_cons, h4, List.nodup_cons] at hn
    exact absurd (List.mem_filterMap.2 ⟨o, List.mem_of_getElem? h1, h3⟩) hn.1
  | x :: l, k + 1, i + 1, hn, h1, h2, h3, h4 => by
    simp only [List.getElem?_cons_succ] at h1 h2
    have : (l.filterMap (·.dst)).Nodup := by
      rw [List.filterMap_cons] at hn
      split at hn
      · exact hn
      · exact (List.nodup_cons.1 hn).2
    rw [dsts_inj l k i this h1 h2 h3 h4]

/-- What has been copied stands there. done: which operations have been carried out. -/
structure Track (ops : Array Oper) (n : Nat) (done : Nat → Prop) (a0 a : Act) : Prop where
  frame : Frame (dn ops n) a0 a
  copies : ∀ (k : Nat) (o : Oper) (d s : Nat), ops[k]? = some o → k < n → done k → o.dst = some d → copyOf o = some s → s ∉ dn ops n → a.tmps.getD d undef = a0.tmps.getD s undef
theorem put_getD {a : Act} {dst : Option Tmp} {v : Value} {i : Nat} (h : dst ≠ some i) : (a.put dst v).tmps.getD i undef = a.tmps.getD i undef := by
  cases dst with
  | none => rfl
  | some d =>
    have : d ≠ i := fun he => h (by rw [he])
    simp [Act.put, Array.getD_eq_getD_getElem?, Array.getElem?_setIfInBounds, this]
theorem put_same {a : Act} {d : Nat} {v : Value} (h : d < a.tmps.size) : (a.put (some d) v).tmps.getD d undef = v := by
  simp [Act.put, Array.getD_eq_getD_getElem?, Array.getElem?_setIfInBounds, h]
theorem take_get {k n : Nat} {o : Oper} (h : ops[k]? = some o) (hk : k < n) : (ops.toList.take n)[k]? = some o := by
  rw [List.getElem?_take, if_pos hk]; simpa using h
theorem mem_dn {k n d : Nat} {o : Oper} (h : ops[k]? = some o) (hk : k < n) (hd : o.dst = some d) : d ∈ dn ops n := List.mem_filterMap.2 ⟨o, List.mem_of_getElem? (take_get h hk), hd⟩
theorem Track.step {n i : Nat} {o : Oper} {done done' : Nat → Prop} {a0 a a' : Act} (h : Track ops n done a0 a) (hn : (dn ops n).Nodup) (hi : ops[i]? = some o) (hin : i < n) (hd : Did o a a') (hdone : ∀ k, done' k → done k ∨ k = i) : Track ops n done' a0 a' := by
  obtain ⟨v, rfl, hd1, hd2⟩ := hd
  refine ⟨fun j hj => ?_, fun k ok d s hk hkn hdk hdst hc hs => ?_⟩
  · rw [put_getD fun he => hj (mem_dn hi hin he)]
    exact h.frame j hj
  · by_cases hki : k = i
    · subst hki
      rw [hi] at hk
      obtain rfl := Option.some.inj hk
      rw [hdst, put_same (hd1 d hdst), hd2 s hc]
      exact h.frame s hs
    · rw [put_getD fun he => hki (dsts_inj (ops.toList.take n) k i hn (take_get hk hkn) (take_get hi hin) hdst he)]
      exact h.copies k ok d s hk hkn ((hdone k hdk).resolve_right hki) hdst hc hs

/-- Each operation from the n-th on waits for all before it. -/
def tailOk (ops : Array Oper) (n : Nat) : Bool := (List.range ops.size).all fun i => decide (i < n) || (match ops[i]? with | some o => edgesBack o i && (List.range i).all fun j => edgeTo o j | none => true)
theorem edge_spec {o : Oper} {j : Nat} (h : edgeTo o j = true) : ∃ e ∈ o.after, Region.binds .any e = true ∧ e.on = j := by
  unfold edgeTo at h
  rw [Array.any_eq_true] at h
  obtain ⟨i, hi, h2⟩ := h
  simp only [Bool.and_eq_true, beq_iff_eq] at h2
  exact ⟨_, Array.getElem_mem hi, h2⟩
theorem tailOk_spec {n i : Nat} {o : Oper} (h : tailOk ops n = true) (hi : ops[i]? = some o) (hn : n ≤ i) : (∀ e ∈ o.after, Region.binds .any e = true → e.on < i) ∧ ∀ j, j < i → ∃ e ∈ o.after, Region.binds .any e = true ∧ e.on = j := by
  have hlt : i < ops.size := (Array.getElem?_eq_some_iff.1 hi).1
  have h1 := List.all_eq_true.1 h i (by simpa using hlt)
  rw [hi] at h1
  simp only [Bool.or_eq_true, decide_eq_true_eq, Bool.and_eq_true] at h1
  obtain ⟨h2, h3⟩ := h1.resolve_left (by omega)
  refine ⟨fun e he hb => ?_, fun j hj => edge_spec (List.all_eq_true.1 h3 j (by simpa using hj))⟩
  unfold edgesBack at h2
  have := Array.all_eq_true_iff_forall_mem.1 h2 e he
  simpa [hb] using this

/-- What comes last comes in its order. -/
theorem draw_tail {n : Nat} {Q : Exit → Act → World → Prop} (ht : tailOk ops n = true) : ∀ (k fuel i : Nat) (listed : Array Bool) (a : Act) (w : World), i + k = ops.size → n ≤ i → k ≤ fuel → listed.size = ops.size → (∀ j, listed.getD j false = decide (j < i)) → wpOps P ops Q (List.range' i k) a w → wpAny P .any ops Q fuel listed a w
  | 0, fuel, i, listed, a, w, hik, hni, hf, hsz, hl, h => by
    have hr : Region.ready .any ops listed = [] := by
      rw [List.eq_nil_iff_forall_not_mem]
      intro j hj
      obtain ⟨h1, o, ho, _⟩ := mem_ready.1 hj
      have hlt : j < ops.size := (Array.getElem?_eq_some_iff.1 ho).1
      have h2 := hl j
      rw [Array.getD_eq_getD_getElem?, Array.getElem?_eq_getElem (by omega)] at h1 h2
      simp only [Option.getD_some] at h1 h2
      rw [h1] at h2
      simp at h2; omega
    cases fuel with
    | zero => exact ⟨hr, h⟩
    | succ fuel => exact ⟨fun _ => h, fun j hj => by rw [hr] at hj; simp at hj⟩
  | k + 1, 0, i, listed, a, w, hik, hni, hf, hsz, hl, h => by omega
  | k + 1, fuel + 1, i, listed, a, w, hik, hni, hf, hsz, hl, h => by
    have hlt : i < ops.size := by omega
    have hoi : ops[i]? = some ops[i] := Array.getElem?_eq_getElem hlt
    obtain ⟨q1, q2⟩ := tailOk_spec ht hoi hni
    have hgl : ∀ j, j < ops.size → listed.getD j true = decide (j < i) := fun j hj => by
      have h2 := hl j
      rw [Array.getD_eq_getD_getElem?, Array.getElem?_eq_getElem (by omega)] at h2 ⊢
      simpa using h2
    have hmem : ∀ j, j ∈ Region.ready .any ops listed ↔ j = i := fun j => by
      rw [mem_ready]
      constructor
      · rintro ⟨h1, o, ho, h3⟩
        have hjl : j < ops.size := (Array.getElem?_eq_some_iff.1 ho).1
        rw [hgl j hjl] at h1
        simp only [decide_eq_false_iff_not] at h1
        rcases Nat.lt_or_ge i j with h4 | h4
        · exfalso
          obtain ⟨e, he, hb, hon⟩ := (tailOk_spec ht ho (by omega)).2 i h4
          have := h3 e he hb
          rw [hon, hl i] at this
          simp at this
        · omega
      · rintro rfl
        refine ⟨by rw [hgl j hlt]; simp, _, hoi, fun e he hb => ?_⟩
        rw [hl]
        simpa using q1 e he hb
    refine ⟨fun hr => ?_, fun j hj => ?_⟩
    · have := (hmem i).2 rfl
      rw [hr] at this; simp at this
    · rw [hmem] at hj
      subst hj
      rw [List.range'_succ, wpOps_cons] at h
      refine wpOp_mono (fun a w h => ?_) h
      refine draw_tail ht k fuel (j + 1) (listed.setIfInBounds j true) a w (by omega) (by omega) (by omega) (by simpa using hsz) (fun i => ?_) h
      rw [getD_set (by omega), hl]
      by_cases hij : i = j
      · subst hij; simp
      · rw [if_neg hij, decide_eq_decide]; omega

/-- The open ones among the first n. -/
def openN (ops : Array Oper) (listed : Array Bool) (n : Nat) : List Nat := (List.range ops.size).filter fun i => !listed.getD i true && decide (i < n)
theorem draw_run {hk : Keep} {R : Type} {n : Nat} {r : R} {K : Tmps → Mem → Option R} {Q : Exit → Act → World → Prop} {a0 : Act} (hS : Sound P C) (hok : drawOk ops hk = true) (hn : n ≤ ops.size) (ht : tailOk ops n = true) (hnd : (dn ops n).Nodup) :
    ∀ (fuel : Nat) (listed : Array Bool) (t : Tmps) (m : Mem), listed.size = ops.size → Closed ops listed → (openL ops listed).length ≤ fuel → (∀ i, n ≤ i → listed.getD i false = false) →
    evIdx P C ro (some (dsts ops, hk)) N ops (openN ops listed n) t m K = some r →
    ∀ (c : Cfg) (a : Act) (w : World), SR P N c w t m a → Track ops n (fun k => listed.getD k false = true) a0 a →
    (∀ t' m' c' a' w', K t' m' = some r → SR P N c' w' t' m' a' → Evo c.own w c'.own w' → Low c c' → Track ops n (fun _ => True) a0 a' → wpOps P ops Q (List.range' n (ops.size - n)) a' w') → wpAny P .any ops Q fuel listed a w := by
  intro fuel
  have hgl : ∀ (listed : Array Bool) (j : Nat), listed.size = ops.size → j < ops.size → listed.getD j true = listed.getD j false := fun listed j hsz hj => by
    rw [Array.getD_eq_getD_getElem?, Array.getD_eq_getD_getElem?, Array.getElem?_eq_getElem (by omega)]; rfl
  have hall : ∀ (listed : Array Bool), listed.size = ops.size → openN ops listed n = [] → (∀ i, n ≤ i → listed.getD i false = false) → ∀ j, listed.getD j false = decide (j < n) := fun listed hsz ho hl j => by
    rcases Nat.lt_or_ge j n with hj | hj
    · rw [decide_eq_true hj, ← hgl listed j hsz (by omega)]
      cases hc : listed.getD j true with
      | true => rfl
      | false =>
        have : j ∈ openN ops listed n := List.mem_filter.2 ⟨by simp; omega, by simp [hc, hj]⟩
        rw [ho] at this; simp at this
    · rw [hl j hj, eq_comm, decide_eq_false_iff_not]; omega
  have hopen : ∀ (listed : Array Bool), listed.size = ops.size → (∀ j, listed.getD j false = decide (j < n)) → ops.size - n ≤ (openL ops listed).length := fun listed hsz h => by
    have : openL ops listed = (List.range ops.size).filter fun i => decide (n ≤ i) := List.filter_congr fun j hj => by
      rw [hgl listed j hsz (by simpa using hj), h j]
      by_cases hjn : j < n
      · rw [decide_eq_true hjn, decide_eq_false (by omega)]; rfl
      · rw [decide_eq_false hjn, decide_eq_true (by omega)]; rfl
    rw [this]
    have h2 : (List.range' n (ops.size - n)).Sublist ((List.range ops.size).filter fun i => decide (n ≤ i)) := by
      have h3 : List.range ops.size = List.range n ++ List.range' n (ops.size - n) := range_split hn
      rw [h3, List.filter_append]
      have h4 : (List.range' n (ops.size - n)).filter (fun i => decide (n ≤ i)) = List.range' n (ops.size - n) := List.filter_eq_self.2 fun x hx => by
        rw [List.mem_range'_1] at hx; simpa using hx.1
      rw [h4]
      exact List.sublist_append_right _ _
    have := h2.length_le
    simpa using this
  have hdone : ∀ (listed : Array Bool) (t : Tmps) (m : Mem) (fuel : Nat), listed.size = ops.size → (openL ops listed).length ≤ fuel → openN ops listed n = [] → (∀ i, n ≤ i → listed.getD i false = false) → K t m = some r →
      ∀ (c : Cfg) (a : Act) (w : World), SR P N c w t m a → Track ops n (fun k => listed.getD k false = true) a0 a →
      (∀ t' m' c' a' w', K t' m' = some r → SR P N c' w' t' m' a' → Evo c.own w c'.own w' → Low c c' → Track ops n (fun _ => True) a0 a' → wpOps P ops Q (List.range' n (ops.size - n)) a' w') → wpAny P .any ops Q fuel listed a w :=
    fun listed t m fuel hsz hlen ho hl hK c a w hR hTr hQ => by
      have h1 := hall listed hsz ho hl
      have h2 := hopen listed hsz h1
      refine draw_tail ht (ops.size - n) fuel n listed a w (by omega) (Nat.le_refl _) (by omega) hsz h1 ?_
      exact hQ t m c a w hK hR (.refl _ _) (fun _ _ _ h => h) ⟨hTr.frame, fun k o d s hk hkn _ => hTr.copies k o d s hk hkn (show listed.getD k false = true by rw [h1 k]; simpa using hkn)⟩
  induction fuel with
  | zero =>
    intro listed t m hsz hcl hlen hl h c a w hR hTr hQ
    have h0 : openL ops listed = [] := List.length_eq_zero_iff.1 (by omega)
    have h1 : openN ops listed n = [] := by
      rw [List.eq_nil_iff_forall_not_mem]
      intro j hj
      obtain ⟨h2, h3⟩ := List.mem_filter.1 hj
      simp only [Bool.and_eq_true] at h3
      have : j ∈ openL ops listed := List.mem_filter.2 ⟨h2, h3.1⟩
      rw [h0] at this; simp at this
    rw [h1] at h
    exact hdone listed t m 0 hsz hlen h1 hl h c a w hR hTr hQ
  | succ fuel ih =>
    intro listed t m hsz hcl hlen hl h c a w hR hTr hQ
    by_cases hno : openN ops listed n = []
    · rw [hno] at h
      exact hdone listed t m (fuel + 1) hsz hlen hno hl h c a w hR hTr hQ
    have hin : ∀ i ∈ Region.ready .any ops listed, i < n := fun i hi => by
      rcases Nat.lt_or_ge i n with h1 | h1
      · exact h1
      · exfalso
        obtain ⟨_, o, ho, h3⟩ := mem_ready.1 hi
        obtain ⟨j, L, hj⟩ := List.exists_cons_of_ne_nil hno
        have hjm : j ∈ openN ops listed n := by rw [hj]; simp
        obtain ⟨q1, q2⟩ := List.mem_filter.1 hjm
        simp only [Bool.and_eq_true, Bool.not_eq_true', decide_eq_true_eq] at q2
        obtain ⟨e, he, hb, hon⟩ := (tailOk_spec ht ho h1).2 j (by omega)
        have := h3 e he hb
        rw [hon, ← hgl listed j hsz (by simpa using q1), q2.1] at this
        simp at this
    refine ⟨fun hr => ?_, fun i hi => ?_⟩
    · exfalso
      obtain ⟨i, L, hL⟩ := List.exists_cons_of_ne_nil hno
      have hi : i ∈ openN ops listed n := by rw [hL]; simp
      obtain ⟨h1, h2⟩ := List.mem_filter.1 hi
      simp only [Bool.and_eq_true, Bool.not_eq_true', decide_eq_true_eq] at h2
      have hlt : i < ops.size := by simpa using h1
      have hmin : ∀ j, j < i → listed.getD j false = true := fun j hj => by
        rw [← hgl listed j hsz (by omega)]
        cases hc : listed.getD j true with
        | true => rfl
        | false =>
          exfalso
          have hj' : j ∈ openN ops listed n := List.mem_filter.2 ⟨by simp; omega, by simp [hc]; omega⟩
          have hpw : (openN ops listed n).Pairwise (· < ·) := List.Pairwise.filter _ List.pairwise_lt_range
          rw [hL] at hpw hj'
          rcases List.mem_cons.1 hj' with rfl | hj'
          · omega
          · have := (List.pairwise_cons.1 hpw).1 j hj'; omega
      have : i ∈ Region.ready .any ops listed := mem_ready.2 ⟨h2.1, ops[i], Array.getElem?_eq_getElem hlt, fun e he hb => hmin _ (drawOk_back hok (Array.getElem?_eq_getElem hlt) e he hb)⟩
      rw [hr] at this
      simp at this
    · have hi_n := hin i hi
      obtain ⟨h1, oi, hoi, h3⟩ := mem_ready.1 hi
      have hlt : i < ops.size := (Array.getElem?_eq_some_iff.1 hoi).1
      have hio : i ∈ openN ops listed n := List.mem_filter.2 ⟨by simpa using hlt, by simp [h1, hi_n]⟩
      obtain ⟨L1, L2, k1, k2, k3⟩ := filter_split (p := fun i => !listed.getD i true && decide (i < n)) (List.range ops.size) List.pairwise_lt_range hio
      have k1' : openN ops listed n = L1 ++ i :: L2 := k1
      have hnew : openN ops (listed.setIfInBounds i true) n = L1 ++ L2 := by
        rw [← k3]
        unfold openN
        refine List.filter_congr fun j hj => ?_
        rw [getD_set (by omega)]
        by_cases hji : j = i <;> simp [hji]
      have hnewL : (openL ops (listed.setIfInBounds i true)).length ≤ fuel := by
        have hioL : i ∈ openL ops listed := List.mem_filter.2 ⟨by simpa using hlt, by simp [h1]⟩
        obtain ⟨M1, M2, j1, _, j3⟩ := filter_split (p := fun i => !listed.getD i true) (List.range ops.size) List.pairwise_lt_range hioL
        have j1' : openL ops listed = M1 ++ i :: M2 := j1
        have : openL ops (listed.setIfInBounds i true) = M1 ++ M2 := by
          rw [← j3]
          unfold openL
          refine List.filter_congr fun j hj => ?_
          rw [getD_set (by omega)]
          by_cases hji : j = i <;> simp [hji]
        rw [this]
        rw [j1'] at hlen
        simp at hlen ⊢; omega
      rw [k1'] at h
      have hf := to_front hoi L1 t m (fun j hj oj hoj => drawOk_pair hok hoi hoj (k2 j hj).1 <| by
        cases hre : reach ops 5 i j with
        | false => rfl
        | true =>
        exfalso
        have q1 := reach_listed hcl 5 i j oi hoi h3 hre
        have q2 := (k2 j hj).2
        have hjl : j < listed.size := by have := (k2 j hj).1; omega
        simp only [Array.getD_eq_getD_getElem?, Array.getElem?_eq_getElem hjl, Option.getD_some] at q1 q2
        simp [q1] at q2) h
      simp only [evIdx, hoi] at hf
      split at hf
      case h_2 => simp at hf
      rename_i t1 m1 hst
      refine step_did hS hoi hR hst fun c1 a1 w1 hR1 e1 l1 hdid => ?_
      refine ih (listed.setIfInBounds i true) t1 m1 (by simpa using hsz) (fun k o hk hl e he hb => by
        rw [getD_set (by omega)] at hl ⊢
        split
        · rfl
        · split at hl
          · rename_i hki
            subst hki
            rw [hoi] at hk
            obtain rfl := Option.some.inj hk
            exact h3 e he hb
          · exact hcl k o hk hl e he hb) hnewL (fun j hj => by rw [getD_set (by omega), if_neg (by omega)]; exact hl j hj) (by rw [hnew]; exact hf) c1 a1 w1 hR1
        (hTr.step hnd hoi hi_n hdid fun k hk => by
          have hk : (listed.setIfInBounds i true).getD k false = true := hk
          rw [getD_set (by omega)] at hk
          split at hk
          · rename_i hki; exact .inr hki
          · exact .inl hk) fun t' m' c' a' w' hK hR' e' l' => hQ t' m' c' a' w' hK hR' (e1.trans e') (l1.trans l')

/-- In the text's order. -/
theorem text_run {R : Type} {n : Nat} {r : R} {K : Tmps → Mem → Option R} {Q : Exit → Act → World → Prop} {a0 : Act} {tail : List Nat} (hS : Sound P C) (hnd : (dn ops n).Nodup) : ∀ (l : List Oper) (k : Nat) (t : Tmps) (m : Mem), k + l.length = n → (∀ j o, l[j]? = some o → ops[k + j]? = some o) → evOps P C ro D N ops l t m K = some r →
    ∀ (c : Cfg) (a : Act) (w : World), SR P N c w t m a → Track ops n (fun j => j < k) a0 a →
    (∀ t' m' c' a' w', K t' m' = some r → SR P N c' w' t' m' a' → Evo c.own w c'.own w' → Low c c' → Track ops n (fun _ => True) a0 a' → wpOps P ops Q tail a' w') → wpOps P ops Q (List.range' k l.length ++ tail) a w
  | [], k, t, m, hk, hl, h, c, a, w, hR, hTr, hQ => by
    simp only [evOps] at h
    simp only [List.length_nil, List.range'_zero, List.nil_append]
    simp only [List.length_nil, Nat.add_zero] at hk
    exact hQ t m c a w h hR (.refl _ _) (fun _ _ _ h => h) ⟨hTr.frame, fun j o d s hj hjn _ => hTr.copies j o d s hj hjn (show j < k by omega)⟩
  | o :: l, k, t, m, hk, hl, h, c, a, w, hR, hTr, hQ => by
    simp only [evOps] at h
    split at h
    case h_2 => simp at h
    rename_i t1 m1 hst
    simp only [List.length_cons] at hk
    simp only [List.length_cons, List.range'_succ, List.cons_append]
    rw [wpOps_cons]
    have hok : ops[k]? = some o := hl 0 o rfl
    refine step_did hS hok hR hst fun c1 a1 w1 hR1 e1 l1 hdid => ?_
    exact text_run hS hnd l (k + 1) t1 m1 (by omega) (fun j o' hj => by rw [show k + 1 + j = k + (j + 1) by omega]; exact hl (j + 1) o' hj) h c1 a1 w1 hR1
      (hTr.step hnd hok (by omega) hdid fun j (hj : j < k + 1) => show j < k ∨ j = k by omega) fun t' m' c' a' w' hK hR' e' l' => hQ t' m' c' a' w' hK hR' (e1.trans e') (l1.trans l')

theorem SR.drew (hR : SR P N c w t m a) : SR P N c w.drew t m a := by
  have he : Evo c.own w c.own w.drew := (Evo.refl c.own w).drew
  refine ⟨fun i => (hR.T i).mono he (.refl _), ?_, hR.G.mono he, hR.defers, hR.size⟩
  exact hR.M.mono he rfl rfl (fun _ _ _ h => h) (fun _ _ _ _ _ h => h) hR.M.lt
/-- A statement: its first operations in whatever order is open, then the others. -/
theorem region_run {id : Nat} {draw : Bool} {hk : Keep} {R : Type} {n : Nat} {r : R} {K : Tmps → Mem → Option R} {Q : Exit → Act → World → Prop} (hf : P.follows .mixedOrders = true) (hS : Sound P C) (hok : draw = true → drawOk ops hk = true) (hn : n ≤ ops.size) (ht : draw = true → tailOk ops n = true) (hnd : (dn ops n).Nodup)
    (h : evOps P C ro (if draw then some (dsts ops, hk) else none) N ops (ops.toList.take n) t m K = some r) (hR : SR P N c w t m a)
    (hQ : ∀ t' m' c' a' w', K t' m' = some r → SR P N c' w' t' m' a' → Evo c.own w c'.own w' → Low c c' → Track ops n (fun _ => True) a a' → wpOps P ops Q (List.range' n (ops.size - n)) a' w') : (Code.region id ops draw).wp P Q a w := by
  have hlt : (ops.toList.take n).length = n := by simp; omega
  have hget : ∀ j o, (ops.toList.take n)[j]? = some o → ops[0 + j]? = some o := fun j o hj => by
    rw [List.getElem?_take] at hj
    split at hj
    · rw [Nat.zero_add]; simpa using hj
    · simp at hj
  cases draw with
  | false =>
    refine wp_region ?_
    have := text_run (Q := Q) (a0 := a) (tail := List.range' n (ops.size - n)) hS hnd (ops.toList.take n) 0 t m (by omega) hget h c a w hR ⟨fun _ _ => rfl, fun k o d s _ _ hk => absurd hk (Nat.not_lt_zero _)⟩ hQ
    rw [hlt, ← List.range_eq_range'] at this
    have h3 : List.range ops.size = List.range n ++ List.range' n (ops.size - n) := range_split hn
    rw [h3]; exact this
  | true =>
    refine wp_region_any hf ?_
    have he : Evo c.own w c.own w.drew := (Evo.refl c.own w).drew
    have hrep : ∀ i, (Array.replicate ops.size false).getD i false = false := fun i => by
      simp only [Array.getD_eq_getD_getElem?, Array.getElem?_replicate]
      split <;> rfl
    have hopen : openN ops (Array.replicate ops.size false) n = List.range' 0 n := by
      unfold openN
      have h3 : List.range ops.size = List.range n ++ List.range' n (ops.size - n) := range_split hn
      rw [h3, List.filter_append]
      have h4 : (List.range n).filter (fun i => !(Array.replicate ops.size false).getD i true && decide (i < n)) = List.range n := List.filter_eq_self.2 fun x hx => by
        have : x < n := by simpa using hx
        simp [Array.getD_eq_getD_getElem?, show x < ops.size by omega, this]
      have h5 : (List.range' n (ops.size - n)).filter (fun i => !(Array.replicate ops.size false).getD i true && decide (i < n)) = [] := List.filter_eq_nil_iff.2 fun x hx => by
        rw [List.mem_range'_1] at hx
        simp; omega
      rw [h4, h5, List.append_nil, List.range_eq_range']
    have hidx : ∀ (l : List Oper) (k : Nat) (t : Tmps) (m : Mem), (∀ j o, l[j]? = some o → ops[k + j]? = some o) → evIdx P C ro (some (dsts ops, hk)) N ops (List.range' k l.length) t m K = evOps P C ro (some (dsts ops, hk)) N ops l t m K := by
      intro l
      induction l with
      | nil => intro k t m _; rfl
      | cons o l ih =>
        intro k t m hl
        have hok : ops[k]? = some o := hl 0 o rfl
        simp only [List.length_cons, List.range'_succ, evIdx, hok, evOps]
        cases astep P C ro (some (dsts ops, hk)) N ops o t m with
        | none => rfl
        | some q => exact ih (k + 1) q.1 q.2 fun j o' hj => by rw [show k + 1 + j = k + (j + 1) by omega]; exact hl (j + 1) o' hj
    refine draw_run (hk := hk) (ro := ro) (K := K) (r := r) (t := t) (m := m) (n := n) (a0 := a) (listed := Array.replicate ops.size false) (N := N) hS (hok rfl) hn (ht rfl) hnd ops.size (by simp) (fun k o hk hl => by rw [hrep] at hl; simp at hl) ?_ (fun i _ => hrep i) ?_ c a w.drew hR.drew ⟨fun _ _ => rfl, fun k o d s _ _ (hk : (Array.replicate ops.size false).getD k false = true) => by rw [hrep] at hk; simp at hk⟩
      fun t' m' c' a' w' hK hR' e' l' => hQ t' m' c' a' w' hK hR' (he.trans e') l'
    · exact Nat.le_trans (List.length_filter_le _ _) (by simp)
    · rw [hopen]
      have := hidx (ops.toList.take n) 0 t m hget
      rw [hlt] at this
      rw [this]; exact h
end
end Ev

/- A verified evaluator, slices of one's own, part C: stores into them, what is appended to them. -/
set_option linter.unusedVariables false
set_option linter.unusedSimpArgs false
namespace Ev
open Go Go.RowKit

def getO : List OS → Nat → Option OS
  | [], _ => none
  | o :: r, s => if o.slot = s then some o else getO r s
def dropO : List OS → Nat → List OS
  | [], _ => []
  | o :: r, s => if o.slot = s then dropO r s else o :: dropO r s
def setO (O : List OS) (o : OS) : List OS := o :: dropO O o.slot
theorem getO_mem : ∀ {O : List OS} {s : Nat} {o : OS}, getO O s = some o → o ∈ O ∧ o.slot = s
  | [], s, o, h => by simp [getO] at h
  | x :: r, s, o, h => by
    unfold getO at h
    split at h
    · rename_i hx
      simp only [Option.some.injEq] at h
      subst h
      exact ⟨by simp, hx⟩
    · obtain ⟨h1, h2⟩ := getO_mem h
      exact ⟨List.mem_cons_of_mem _ h1, h2⟩
theorem dropO_mem : ∀ {O : List OS} {s : Nat} {o : OS}, o ∈ dropO O s → o ∈ O ∧ o.slot ≠ s
  | [], s, o, h => by simp [dropO] at h
  | x :: r, s, o, h => by
    unfold dropO at h
    split at h
    · obtain ⟨h1, h2⟩ := dropO_mem h
      exact ⟨List.mem_cons_of_mem _ h1, h2⟩
    · rename_i hx
      rcases List.mem_cons.1 h with rfl | h
      · exact ⟨by simp, hx⟩
      · obtain ⟨h1, h2⟩ := dropO_mem h
        exact ⟨List.mem_cons_of_mem _ h1, h2⟩

section
variable {P : Program} {c c' c2 : Cfg} {w w' w2 : World} {m m2 : Mem} {t t' t2 : Tmps} {a a' : Act} {N : Nat} {o0 : Own} {w0 : World} {c0 : Cfg} {O O' : List OS} {ops : Array Oper}

theorem wpOp_value {i : Nat} {o : Oper} {v : Value} {Q : Exit → Act → World → Prop} {K : Act → World → Prop} (hi : ops[i]? = some o) (hg : o.guard = none) (h : (execOp a.eval o).run P w = .ok (.value v) w') (hK : K (a.put o.dst v) w') : wpOp P ops Q i K a w := by
  unfold wpOp
  rw [hi]
  simp only [Region.wanted, hg, if_true]
  exact .inl (by unfold Oper.wp; rw [h]; exact hK)
theorem wpOp_skip {i : Nat} {o : Oper} {Q : Exit → Act → World → Prop} {K : Act → World → Prop} (hi : ops[i]? = some o) (hg : o.guard = none) (h : (execOp a.eval o).run P w = .ok .skip w') (hK : K (a.put o.dst undef) w') : wpOp P ops Q i K a w := by
  unfold wpOp
  rw [hi]
  simp only [Region.wanted, hg, if_true]
  exact .inl (by unfold Oper.wp; rw [h]; exact hK)
theorem wpOp_enter {i : Nat} {o : Oper} {f : FuncId} {args : Array Value} {Q : Exit → Act → World → Prop} {K : Act → World → Prop} (hi : ops[i]? = some o) (hg : o.guard = none) (h : (execOp a.eval o).run P w = .ok (.enter f args) w') (hK : Calls P f args w' fun e w'' => ∃ v, e = .returned v ∧ K (a.put o.dst v) w'') : wpOp P ops Q i K a w := by
  unfold wpOp
  rw [hi]
  simp only [Region.wanted, hg, if_true]
  refine .inl ?_
  unfold Oper.wp
  rw [h]
  refine hK.mono ?_
  rintro e w'' ⟨v, rfl, hk⟩
  exact hk

/-- A step that turns one block of one's own, or makes one. -/
theorem SRO.turn (h : SRO P N o0 w0 c0 c w t m O a) {own' : Own} {G : Nat} (hW : own'.W = c.own.W) (hN : ∀ g off, g < w.heap.size → (own'.N g off ↔ c.own.N g off))
    (hsame : ∀ g, g < w.heap.size → g ≠ G → w'.heap[g]? = w.heap[g]?)
    (hG : G < w.heap.size → w0.heap.size ≤ G ∧ (∀ off, c.own.N G off ∧ ¬ c.own.W G off) ∧ ∃ cs el cs', w.heap[G]? = some (.cells cs el (0, 0)) ∧ 0 < cs.size ∧ w'.heap[G]? = some (.cells cs' el (0, 0)) ∧ cs'.size = cs.size)
    (hsz : w.heap.size ≤ w'.heap.size) (hos : w'.os = w.os) (htp : w'.tape = w.tape) (hou : w'.output = w.output) (hlt : ∀ g off, own'.N g off → g < w'.heap.size)
    (hT : ∀ i, t' i = t i ∧ a'.tmps.getD i undef = a.tmps.getD i undef ∨ t' i = .undef) (hd : a'.defers = []) (hs : N ≤ a'.tmps.size)
    (how : ∃ gs : Nat → Option Nat, (∀ s ∈ O', OwnedAt ⟨own', c.ρ, c.ν⟩ w' w0.heap.size (a'.tmps.getD s.slot undef) s (gs s.slot)) ∧ ∀ s ∈ O', ∀ s' ∈ O', ∀ g, gs s.slot = some g → gs s'.slot = some g → s.slot = s'.slot) :
    SRO P N o0 w0 c0 ⟨own', c.ρ, c.ν⟩ w' t' m O' a' := by
  have hcells : ∀ (g : Nat) (cs : Array Value) (el : TypeId) (fr : Nat × Nat), w.heap[g]? = some (.cells cs el fr) → ∃ cs' : Array Value, w'.heap[g]? = some (.cells cs' el fr) ∧ cs'.size = cs.size := fun g cs el fr hg => by
    by_cases hgG : g = G
    · subst hgG
      obtain ⟨_, _, cs1, el1, cs2, h1, _, h3, h4⟩ := hG (lt_of_heap hg)
      rw [hg] at h1
      simp at h1
      obtain ⟨rfl, rfl, rfl⟩ := h1
      exact ⟨cs2, h3, h4⟩
    · exact ⟨cs, by rw [hsame g (lt_of_heap hg) hgG]; exact hg, rfl⟩
  have k : Kp c.own own' w w' := ⟨fun ad v hc hn => by
    obtain ⟨hsp, cs, el, fr, hb, hv⟩ := cell_heap hc
    have hlt' := lt_of_heap hb
    have hgG : ad.block ≠ G := fun he => hn (by rw [he]; exact ((hG (he ▸ hlt')).2.1 _).1)
    refine ⟨?_, fun hk => hn ((hN _ _ hlt').1 hk)⟩
    obtain ⟨ab, ao, as⟩ := ad
    simp only at hsp hb hv hgG
    subst hsp
    rw [heap_cell (by rw [hsame ab hlt' hgG]; exact hb), hv], hcells⟩
  have hw0 : w0.heap.size ≤ w.heap.size := h.ev.size
  have hlow : ∀ g, g < w0.heap.size → g < w.heap.size ∧ g ≠ G := fun g hg => ⟨by omega, fun he => by
    subst he
    have := (hG (by omega)).1
    omega⟩
  refine ⟨⟨fun i => ?_, ?_, ?_, hd, hs⟩, ?_, h.low, how⟩
  · rcases hT i with ⟨h1, h2⟩ | h1
    · rw [h1, h2]
      exact (h.sr.T i).keep k (fun _ _ h => h) (fun _ _ => .inl rfl)
    · rw [h1]; exact .of_V (.undef _)
  · refine h.sr.M.keep (c' := ⟨own', c.ρ, c.ν⟩) k rfl rfl (fun g off _ hk => by simp only; rw [hW]; exact hk) (fun g off hg hk => (hN g off hg).1 hk) (fun id g hid cs el hg => ?_) hlt
    by_cases hgG : g = G
    · exfalso
      subst hgG
      obtain ⟨_, h1, cs1, el1, cs2, h2, h3, _⟩ := hG (lt_of_heap hg)
      have hdom := h.sr.M.dom id
      rw [hid] at hdom
      obtain ⟨bx, hbx⟩ := Option.isSome_iff_exists.1 hdom
      obtain ⟨cs3, el3, q1, q2, q3, q4, q5⟩ := h.sr.M.box id bx g hbx hid
      rw [h2] at q1
      simp at q1
      obtain ⟨rfl, rfl⟩ := q1
      cases hf : m.froz id with
      | false => exact (h1 0).2 (q4 hf 0 h3)
      | true => exact q5 hf 0 h3 (h1 0).1
    · rw [hsame g (lt_of_heap hg) hgG]; exact hg
  · intro e he g hg
    obtain ⟨⟨el, fr, q1⟩, q2⟩ := h.sr.G e he g hg
    have hgl := lt_of_heap q1
    have hgG : g ≠ G := fun hk => q2 0 (by rw [hk]; exact ((hG (hk ▸ hgl)).2.1 0).1)
    exact ⟨⟨el, fr, by rw [hsame g hgl hgG]; exact q1⟩, fun off hk => q2 off ((hN g off hgl).1 hk)⟩
  · have e := h.ev
    refine ⟨Nat.le_trans e.size hsz, fun g cs el fr hg => ?_, fun g o hg ho => ?_, fun g off hg hk => ?_, fun g off hg hk => ?_, fun g off hg h1 h2 => ?_, hos.trans e.os, htp.trans e.tape, hou.trans e.output⟩
    · obtain ⟨cs', h1, h2, h3⟩ := e.cells g cs el fr hg
      obtain ⟨q1, q2⟩ := hlow g (lt_of_heap hg)
      exact ⟨cs', by rw [hsame g q1 q2]; exact h1, h2, h3⟩
    · obtain ⟨q1, q2⟩ := hlow g (lt_of_heap hg)
      rw [hsame g q1 q2]; exact e.other g o hg ho
    · simp only at hk; rw [hW] at hk; exact e.wr g off hg hk
    · exact e.no g off hg ((hN g off (hlow g hg).1).1 hk)
    · exact (hN g off (hlow g hg).1).2 (e.hid g off hg h1 h2)

/-- Which slot holds the slice's value. -/
def isCopy (ops : Array Oper) (n s x : Nat) : Bool := !(dn ops n).contains s && (x == s || (ops.toList.take n).any fun o => o.dst == some x && copyOf o == some s)
theorem copy_val {n s x : Nat} (h : isCopy ops n s x = true) (hT : Track ops n (fun _ => True) a a') : a'.tmps.getD x undef = a.tmps.getD s undef := by
  simp only [isCopy, Bool.and_eq_true, Bool.not_eq_true', Bool.or_eq_true, beq_iff_eq, List.any_eq_true] at h
  obtain ⟨h1, h2⟩ := h
  have h1' : s ∉ dn ops n := by simpa using h1
  rcases h2 with rfl | ⟨o, ho, h3, h4⟩
  · exact hT.frame x h1'
  · obtain ⟨k, hk, rfl⟩ := List.mem_iff_getElem.1 ho
    have hk2 : k < n := by rw [List.length_take] at hk; omega
    have hk3 : ops[k]? = some ((ops.toList.take n)[k]) := by
      rw [List.length_take] at hk
      simp
    exact hT.copies k _ x s hk3 hk2 trivial h3 h4 h1'

/-- A store into a slice of one's own. -/
theorem own_store {n s x p : Nat} {ty ty2 : TypeId} {ix xv : Operand} {oi os : Oper} {Q : Exit → Act → World → Prop} {o : OS} {kd : IntKind} {kk : Int} {e : TypeId}
    (h : SRO P N o0 w0 c0 c w t m O a) (h2 : SR P N c2 w2 t2 m2 a') (ev : Evo noOwn w c2.own w2) (hTr : Track ops n (fun _ => True) a a') (hO : ∀ s ∈ O, s.slot ∉ dn ops n) (hp : ∀ s ∈ O, s.slot ≠ p)
    (hcopy : isCopy ops n s x = true) (hsz : n + 2 = ops.size) (hi : ops[n]? = some oi) (hs : ops[n + 1]? = some os) (gi : oi.guard = none) (gs : os.guard = none) (hdi : oi.dst = some p) (hds : os.dst = none)
    (hoi : oi.op = .indexAddr ty (.tmp x) ix) (hos : os.op = .store ty2 (.tmp p) xv) (hxv : xv ≠ .tmp p) (hpN : p < N)
    (ho : getO O s = some o) (hix : opnd t2 ix = .int kd kk) (h0 : 0 ≤ kk) (hlt : kk < o.els.length) (hel : elemT P ty = some e) (hz : tsz P e = some o.z) (hz2 : tsz P ty2 = some o.z) (hz0 : o.z ≠ 0)
    (hval : (opnd t2 xv).isVal = true) (hsc : (opnd t2 xv).cells.all AV.scalar = true) (hcl : (opnd t2 xv).cells.length = o.z)
    (hQ : ∀ c' a' w', SRO P N o0 w0 c0 c' w' (upd (after (dn ops n) t2 t) p .undef) m (setO O ⟨s, o.z, o.els.set kk.toNat (opnd t2 xv).cells⟩) a' → Q .normal a' w') :
    wpOps P ops Q (List.range' n (ops.size - n)) a' w2 := by
  have hE := view_end (l := dn ops n) h h2 ev hTr.frame hO
  obtain ⟨hoO, hos1⟩ := getO_mem ho
  obtain ⟨gsf, k1, k2⟩ := hE.ow
  have hown := k1 o hoO
  have hxval := copy_val hcopy hTr
  have hsval : a'.tmps.getD s undef = a.tmps.getD s undef := hTr.frame s (by rw [← hos1]; exact hO o hoO)
  rw [hos1] at hown
  cases hgs : gsf s with
  | none =>
    rw [hgs] at hown
    rw [hown.1] at hlt
    simp at hlt; omega
  | some g =>
  rw [hgs] at hown
  obtain ⟨cap, cs, el, v1, v2, v3, v4, v5, v6, v7, v8⟩ := hown
  have hxv1 : a'.tmps.getD x undef = .slice (some ⟨g, 0, none⟩) o.els.length cap := by rw [hxval, ← hsval, v1]
  have hkk : kk.toNat < o.els.length := by omega
  have hmul : (kk.toNat + 1) * o.z ≤ cap * o.z := Nat.mul_le_mul_right _ (by omega)
  rw [Nat.add_mul, Nat.one_mul] at hmul
  have hsz2 : ops.size - n = 2 := by omega
  rw [hsz2]
  show wpOps P ops Q [n, n + 1] a' w2
  rw [wpOps_cons]
  have hTi := T_opnd h2.T ix
  rw [hix] at hTi
  have hu := under_of_elemT hel
  have hnn : kk < (o.els.length : Int) := hlt
  refine wpOp_value hi gi (v := .pointer (some ⟨g, kk.toNat * o.z, none⟩)) (w' := w2) ?_ ?_
  · unfold execOp
    rw [hoi]
    have : a'.eval (.tmp x) = .slice (some ⟨g, 0, none⟩) o.els.length cap := hxv1
    simp [Instr.indexAt, T_int hTi, this, asIntOf, run_underlying hu, h0, hnn, run_tsz hz, add_plain]
  rw [wpOps_cons]
  have hps : p < a'.tmps.size := Nat.lt_of_lt_of_le hpN h2.size
  rw [hdi]
  have hTv := T_opnd h2.T xv
  generalize opnd t2 xv = X at *
  have hUeq : (a'.put (some p) (.pointer (some ⟨g, kk.toNat * o.z, none⟩))).eval xv = a'.eval xv := Act.eval_put fun d hd => by
    simp only [Option.some.injEq] at hd; subst hd; exact hxv
  generalize a'.eval xv = U at *
  have hcr := T.cells hval hTv
  have hv1 : ∀ v ∈ U.cells.toList, v.oneCell' = true := fun v hv => by
    obtain ⟨i, hi, rfl⟩ := List.mem_iff_getElem.1 hv
    exact hcr.2.2 i _ (by simp at hi ⊢)
  have hUl : U.cells.toList.length = o.z := by simp [hcr.1, hcl]
  obtain ⟨w3, cs', s1, s2, s3, s4, s5, s6, s7⟩ := run_storeCells (P := P) (g := g) (el := el) U.cells.toList 0 (kk.toNat * o.z) w2 cs v3 (by omega) hv1
  have ev3 := s4 ⟨fun _ _ => True, fun _ _ => True, fun _ _ h => h⟩ fun _ _ _ => trivial
  refine wpOp_skip hs gs (w' := w3) ?_ ?_
  · unfold execOp
    rw [hos]
    have hpe : (a'.put (some p) (.pointer (some ⟨g, kk.toNat * o.z, none⟩))).eval (.tmp p) = .pointer (some ⟨g, kk.toNat * o.z, none⟩) := put_same hps
    have hsz' : (Go.sizeOf ty2).run P w2 = .ok U.cells.size w2 := by rw [hcr.1, hcl]; exact run_tsz hz2 w2
    simp only [Instr.storeAt, Instr.sureAddr, storeVar, hpe, hUeq, Sem.run_bind, Sem.run_pure, Result.andThen_ok, hsz', ne_eq, not_true_eq_false, if_false, Sem.run_ite, s1]
  rw [hds]
  show Q .normal (a'.put (some p) _) w3
  generalize hA : a'.put (some p) (.pointer (some ⟨g, kk.toNat * o.z, none⟩)) = A
  have hAget : ∀ i, i ≠ p → A.tmps.getD i undef = a'.tmps.getD i undef := fun i hi => by rw [← hA]; exact put_getD fun he => hi (Option.some.inj he).symm
  have hcap0 : 0 < cs.size := by have := Nat.pos_of_ne_zero hz0; omega
  have hsp : s ≠ p := by rw [← hos1]; exact hp o hoO
  refine hQ _ _ _ (hE.turn (own' := c.own) (G := g) (O' := setO O ⟨s, o.z, o.els.set kk.toNat X.cells⟩) rfl (fun _ _ _ => Iff.rfl) (fun k _ hk => s7 k hk) (fun _ => ⟨v5, v6, cs, el, cs', v3, hcap0, s2, s3⟩) ev3.size ev3.os ev3.tape ev3.output (fun g off hn => Nat.lt_of_lt_of_le (hE.sr.M.lt g off hn) ev3.size) (fun i => ?_) ?_ ?_ ⟨gsf, fun s' hs' => ?_, fun s' hs' s'' hs'' g' h1 h2 => ?_⟩)
  · by_cases hip : i = p
    · exact .inr (by simp [hip])
    · exact .inl ⟨by simp [hip], hAget i hip⟩
  · rw [← hA]; exact h2.defers
  · rw [← hA]; simpa [Act.put] using h2.size
  · rcases List.mem_cons.1 hs' with rfl | hs'
    · simp only
      rw [hAget s hsp, hgs]
      refine ⟨cap, cs', el, by rw [v1]; simp, by simpa using v2, s2, by rw [s3]; exact v4, v5, v6, fun e he => ?_, fun i j e x hi hj => ?_⟩
      · rcases List.mem_or_eq_of_mem_set he with he | he
        · exact v7 e he
        · rw [he]; exact hcl
      · simp only at hi ⊢
        rw [List.getElem?_set] at hi
        by_cases hik : kk.toNat = i
        · rw [if_pos hik, if_pos hkk] at hi
          simp only [Option.some.injEq] at hi
          subst hi
          subst hik
          have hjl : j < o.z := by
            rcases Nat.lt_or_ge j X.cells.length with h' | h'
            · omega
            · simp [List.getElem?_eq_none, h'] at hj
          have h6 := s6 j (by omega)
          rw [Nat.add_zero] at h6
          have hjU : j < U.cells.size := by rw [hcr.1, hcl]; exact hjl
          refine ⟨U.cells[j], by rw [h6]; simp [hjU], ?_, hcr.2.2 j _ (by simp [hjU])⟩
          exact scalar_V (List.all_eq_true.1 hsc x (List.mem_of_getElem? hj)) (hcr.2.1 j x U.cells[j] hj (by simp [hjU]))
        · rw [if_neg hik] at hi
          obtain ⟨u, q1, q2, q3⟩ := v8 i j e x hi hj
          have hez : j < o.z := by
            have := v7 e (List.mem_of_getElem? hi)
            rcases Nat.lt_or_ge j e.length with h' | h'
            · omega
            · simp [List.getElem?_eq_none, h'] at hj
          refine ⟨u, ?_, ?_, q3⟩
          · rw [s5 _ ?_]; exact q1
            rw [hUl]
            rcases Nat.lt_or_ge i kk.toNat with h' | h'
            · left
              have : (i + 1) * o.z ≤ kk.toNat * o.z := Nat.mul_le_mul_right _ h'
              rw [Nat.add_mul, Nat.one_mul] at this
              omega
            · right
              have : (kk.toNat + 1) * o.z ≤ i * o.z := Nat.mul_le_mul_right _ (by omega)
              rw [Nat.add_mul, Nat.one_mul] at this
              omega
          · refine q2.keep (o' := c.own) (w' := w3) ⟨fun ad v hc hn => ⟨?_, hn⟩, fun g' cs1 el1 fr1 hg' => ?_⟩
            · obtain ⟨hsp', cs1, el1, fr1, hb, hv⟩ := cell_heap hc
              have hne : ad.block ≠ g := fun he => hn (by rw [he]; exact (v6 _).1)
              obtain ⟨ab, ao, as⟩ := ad
              simp only at hsp' hb hv hne
              subst hsp'
              rw [heap_cell (by rw [s7 ab hne]; exact hb), hv]
            · obtain ⟨cs2, q1, q2, _⟩ := ev3.cells g' cs1 el1 fr1 hg'
              exact ⟨cs2, q1, q2⟩
    · obtain ⟨hs1, hs2⟩ := dropO_mem hs'
      simp only at hs2
      rw [hAget _ (hp s' hs1)]
      refine (k1 s' hs1).keep (c' := ⟨c.own, c.ρ, c.ν⟩) ⟨fun ad v hc hn => ⟨?_, hn⟩, fun g' cs1 el1 fr1 hg' => ?_⟩ (fun g' hg' => s7 g' fun he => hs2 ?_) fun g' _ hh _ => hh
      · obtain ⟨hsp', cs1, el1, fr1, hb, hv⟩ := cell_heap hc
        have hne : ad.block ≠ g := fun he => hn (by rw [he]; exact (v6 _).1)
        obtain ⟨ab, ao, as⟩ := ad
        simp only at hsp' hb hv hne
        subst hsp'
        rw [heap_cell (by rw [s7 ab hne]; exact hb), hv]
      · obtain ⟨cs2, q1, q2, _⟩ := ev3.cells g' cs1 el1 fr1 hg'
        exact ⟨cs2, q1, q2⟩
      · have := k2 s' hs1 o hoO g (by rw [hg', he]) (by rw [hos1]; exact hgs)
        rw [this, hos1]
  · have key : ∀ y ∈ setO O ⟨s, o.z, o.els.set kk.toNat X.cells⟩, ∃ y' ∈ O, y'.slot = y.slot := fun y hy => by
      rcases List.mem_cons.1 hy with rfl | hy
      · exact ⟨o, hoO, hos1⟩
      · exact ⟨y, (dropO_mem hy).1, rfl⟩
    obtain ⟨y, y1, y2⟩ := key s' hs'
    obtain ⟨y', y1', y2'⟩ := key s'' hs''
    rw [← y2] at h1 ⊢
    rw [← y2'] at h2 ⊢
    exact k2 y y1 y' y1' g' h1 h2
theorem exec_append {oa : Oper} {x y : Operand} {t1 t2 : TypeId} {val : Value} {w3 : World} (hop : oa.op = .call { callee := .builtin .append, args := #[x, y], argTypes := #[t1, t2] })
    (h : (Builtin.append_ #[t1, t2] oa.type #[a.eval x, a.eval y]).run P w = .ok val w3) : (execOp a.eval oa).run P w = .ok (.value val) w3 := by
  obtain ⟨dst, op, type, pos, aft, guard⟩ := oa
  simp only at hop h
  subst hop
  have hmap : (#[x, y] : Array Operand).map a.eval = #[a.eval x, a.eval y] := by simp
  rw [exec_builtin, hmap]
  have key : ((do pure (Next.value (← Builtin.append_ #[t1, t2] type #[a.eval x, a.eval y])) : Sem Next).run P w) = .ok (.value val) w3 := by
    simp [h]
  exact key
theorem firstCells_own {g z len cap : Nat} {cs : Array Value} {el : TypeId} {fr : Nat × Nat} (hh : w.heap[g]? = some (.cells cs el fr)) (hle : len * z ≤ cs.size) :
    ∀ w' : World, w'.heap = w.heap → (Builtin.firstCells z len (.slice (some ⟨g, 0, none⟩) len cap)).run P w' = .ok ((List.range (len * z)).map fun j => cs.getD j undef).toArray w' := fun w' hw => by
  have := run_loadCells_of (P := P) (w := w') (ad := ⟨g, 0, none⟩) (n := len * z) (cv := fun j => cs.getD j undef) fun j hj => by
    rw [add_plain, Nat.zero_add, heap_cell (by rw [hw]; exact hh)]
    simp [Array.getD_eq_getD_getElem?, show j < cs.size by omega]
  simpa [Builtin.firstCells] using this

/-- What is appended to a slice of one's own, or to an empty one. -/
theorem own_app {n s x d : Nat} {ty1 ty2 e e2 : TypeId} {y : Operand} {oa ob : Oper} {Q : Exit → Act → World → Prop} {z b s2 : Nat} {els news : List (List AV)} {tok : Tok} {zv : AV}
    (h : SRO P N o0 w0 c0 c w t m O a) (h2 : SR P N c2 w2 t2 m2 a') (ev : Evo noOwn w c2.own w2) (hTr : Track ops n (fun _ => True) a a') (hO : ∀ o ∈ O, o.slot ∉ dn ops n) (hd : ∀ o ∈ O, o.slot ≠ d) (hds : s ≠ d)
    (hbase : (isCopy ops n s x = true ∧ getO O s = some ⟨s, z, els⟩) ∨ (els = [] ∧ ∃ zz tk, t2 x = .sl zz [] tk ∧ (tk = .nil ∨ tk = .clip)))
    (hsz : n + 2 = ops.size) (hi : ops[n]? = some oa) (hs : ops[n + 1]? = some ob) (gi : oa.guard = none) (gs : ob.guard = none) (hda : oa.dst = some d) (hdb : ob.dst = some s)
    (hoa : oa.op = .call { callee := .builtin .append, args := #[.tmp x, y], argTypes := #[ty1, ty2] }) (hob : ob.op = .assign (.tmp d)) (hdN : d < N) (hsN : s < N)
    (hy : opnd t2 y = .sl s2 news tok) (hne : news ≠ []) (hel : elemT P ty1 = some e) (hel2 : elemT P ty2 = some e2) (hs2 : some s2 = tsz P e) (hz : tsz P e = some z) (hb : tbytes P e = some b) (hzv : zeroOf P e = some zv)
    (hb0 : b ≠ 0) (hz0 : z ≠ 0) (hzval : zv.isVal = true) (hzl : zv.cells.length = z) (hbig : (els.length + news.length) * b ≤ 70368744177664) (hsc : news.all (fun q => q.all AV.scalar) = true)
    (hQ : ∀ c' a' w', SRO P N o0 w0 c0 c' w' (upd (upd (after (dn ops n) t2 t) d .undef) s .undef) m (setO O ⟨s, z, els ++ news⟩) a' → Q .normal a' w') :
    wpOps P ops Q (List.range' n (ops.size - n)) a' w2 := by
  have hE := view_end (l := dn ops n) h h2 ev hTr.frame hO
  obtain ⟨gsf, k1, k2⟩ := hE.ow
  have hu := under_of_elemT hel
  have hu2 := under_of_elemT hel2
  have hs2z : s2 = z := by rw [hz] at hs2; exact Option.some.inj hs2
  subst hs2z
  obtain ⟨zvv, rfl, hzrun⟩ := run_zero hzv
  have hzsz : zvv.cells.size = s2 := by rw [(V.cells hzval (V_ofValue c.own w zvv)).1, hzl]
  -- the base
  obtain ⟨q, hq, hqd⟩ : ∃ q, OwnedAt c w2 w0.heap.size (a'.tmps.getD x undef) ⟨s, s2, els⟩ q ∧ ∀ o ∈ dropO O s, ∀ g, q = some g → gsf o.slot ≠ some g := by
    rcases hbase with ⟨hc, ho⟩ | ⟨rfl, zz, tk, h1, h2'⟩
    · obtain ⟨hoO, _⟩ := getO_mem ho
      have hown := k1 _ hoO
      simp only at hown
      have hsval : a'.tmps.getD s undef = a.tmps.getD s undef := hTr.frame s (hO _ hoO)
      refine ⟨gsf s, by rw [copy_val hc hTr, ← hsval]; exact hown, fun o ho' g hg hg' => ?_⟩
      obtain ⟨q1, q2⟩ := dropO_mem ho'
      exact q2 (k2 o q1 _ hoO g hg' hg)
    · have hT := h2.T x
      rw [h1] at hT
      have hv : V c2.own w2 (.sl zz [] tk) (a'.tmps.getD x undef) := by
        rcases h2' with rfl | rfl
        · exact hT
        · exact hT
      refine ⟨none, ⟨rfl, ?_⟩, fun _ _ _ hg => by simp at hg⟩
      generalize a'.tmps.getD x undef = u at hv
      cases hv with
      | sl _ _ _ ad len cap cv hlen hcap hel' hc hv ho hn hk hr =>
        simp at hlen
        subst hlen
        rcases h2' with rfl | rfl
        · obtain ⟨rfl, rfl⟩ := hn rfl
          exact ⟨_, rfl⟩
        · have := hk rfl
          subst this
          exact ⟨_, rfl⟩
  have hlt2 : ∀ g off, c.own.N g off → g < w2.heap.size := hE.sr.M.lt
  -- what is appended
  have hTy := T_opnd h2.T y
  rw [hy] at hTy
  have hVy := T_sl hTy
  obtain ⟨ad2, nn, cap2, cv2, hyv, hn, hcap2, hel2', hc2, hv2, _, _⟩ := V_sl hVy
  rw [hyv] at hVy
  obtain ⟨new, n1, n2, n3, n4⟩ := firstCells_run (P := P) (z := s2) hVy (.inl rfl)
  have hnpos : 0 < nn := by rw [hn]; exact List.length_pos_iff.2 hne
  have hnl : ∀ e ∈ news, e.length = s2 := hel2'
  have hsz2 : ops.size - n = 2 := by omega
  rw [hsz2]
  show wpOps P ops Q [n, n + 1] a' w2
  rw [wpOps_cons]
  have hds1 : d < a'.tmps.size := Nat.lt_of_lt_of_le hdN h2.size
  have hss1 : s < a'.tmps.size := Nat.lt_of_lt_of_le hsN h2.size
  -- behind the append
  have fin : ∀ (val : Value) (w3 : World) (own' : Own) (g : Nat), (∀ c' a'', SRO P N o0 w0 c0 c' w3 (upd (upd (after (dn ops n) t2 t) d .undef) s .undef) m (setO O ⟨s, s2, els ++ news⟩) a'' → Q .normal a'' w3) →
      (∀ a'' : Act, (∀ i, i ≠ d → i ≠ s → a''.tmps.getD i undef = a'.tmps.getD i undef) → a''.tmps.getD s undef = val → a''.defers = [] → N ≤ a''.tmps.size → SRO P N o0 w0 c0 ⟨own', c.ρ, c.ν⟩ w3 (upd (upd (after (dn ops n) t2 t) d .undef) s .undef) m (setO O ⟨s, s2, els ++ news⟩) a'') →
      wpOp P ops Q (n + 1) (wpOps P ops Q []) (a'.put oa.dst val) w3 := fun val w3 own' g hQ' hS => by
    refine wpOp_value hs gs (v := val) (w' := w3) ?_ ?_
    · unfold execOp
      rw [hob]
      have : (a'.put oa.dst val).eval (.tmp d) = val := by rw [hda]; exact put_same hds1
      simp [this]
    · rw [hda, hdb]
      show Q .normal ((a'.put (some d) val).put (some s) val) w3
      refine hQ' _ _ (hS _ (fun i h1 h2 => ?_) ?_ ?_ ?_)
      · rw [put_getD fun he => h2 (Option.some.inj he).symm, put_getD fun he => h1 (Option.some.inj he).symm]
      · exact put_same (by simpa [Act.put] using hss1)
      · exact h2.defers
      · simpa [Act.put] using h2.size
  have hTT : ∀ (a'' : Act), (∀ i, i ≠ d → i ≠ s → a''.tmps.getD i undef = a'.tmps.getD i undef) → ∀ i, upd (upd (after (dn ops n) t2 t) d .undef) s .undef i = after (dn ops n) t2 t i ∧ a''.tmps.getD i undef = a'.tmps.getD i undef ∨ upd (upd (after (dn ops n) t2 t) d .undef) s .undef i = .undef := fun a'' hf i => by
    by_cases h1 : i = s
    · exact .inr (by simp [h1])
    · by_cases h2 : i = d
      · exact .inr (by simp [h2])
      · exact .inl ⟨by simp [h1, h2], hf i h2 h1⟩
  have hother : ∀ (own' : Own) (w3 : World) (a'' : Act) (gg : Nat), (∀ i, i ≠ d → i ≠ s → a''.tmps.getD i undef = a'.tmps.getD i undef) → Kp c.own own' w2 w3 → (∀ g off, g < w2.heap.size → (own'.N g off ↔ c.own.N g off)) → own'.W = c.own.W →
      (∀ g, g < w2.heap.size → g ≠ gg → w3.heap[g]? = w2.heap[g]?) → (q = some gg ∨ w2.heap.size ≤ gg) → OwnedAt ⟨own', c.ρ, c.ν⟩ w3 w0.heap.size (a''.tmps.getD s undef) ⟨s, s2, els ++ news⟩ (some gg) →
      ∃ gs' : Nat → Option Nat, (∀ o ∈ setO O ⟨s, s2, els ++ news⟩, OwnedAt ⟨own', c.ρ, c.ν⟩ w3 w0.heap.size (a''.tmps.getD o.slot undef) o (gs' o.slot)) ∧ ∀ o ∈ setO O ⟨s, s2, els ++ news⟩, ∀ o' ∈ setO O ⟨s, s2, els ++ news⟩, ∀ g, gs' o.slot = some g → gs' o'.slot = some g → o.slot = o'.slot :=
    fun own' w3 a'' gg hf kp hN hW hsame hgg hnew => by
      have hfresh : ∀ o ∈ dropO O s, gsf o.slot ≠ some gg := fun o ho => by
        rcases hgg with hg | hg
        · exact hqd o ho gg hg
        · intro he
          have h3 := k1 o (dropO_mem ho).1
          rw [he] at h3
          obtain ⟨_, _, _, _, _, q3, _⟩ := h3
          have := lt_of_heap q3; omega
      refine ⟨fun i => if i = s then some gg else gsf i, fun o ho => ?_, fun o ho o' ho' g h3 h4 => ?_⟩
      · rcases List.mem_cons.1 ho with rfl | ho
        · simpa using hnew
        · obtain ⟨q1, q2⟩ := dropO_mem ho
          simp only at q2
          simp only [if_neg q2]
          rw [hf _ (hd o q1) q2]
          refine (k1 o q1).keep kp (fun g hg => ?_) fun g _ hh hgl off => ?_
          · have hgl : g < w2.heap.size := by
              have h3 := k1 o q1
              rw [hg] at h3
              obtain ⟨_, _, _, _, _, q3, _⟩ := h3
              exact lt_of_heap q3
            exact hsame g hgl fun he => hfresh o ho (by rw [hg, he])
          · exact ⟨(hN g off hgl).2 (hh off).1, by simp only; rw [hW]; exact (hh off).2⟩
      · rcases List.mem_cons.1 ho with rfl | ho <;> rcases List.mem_cons.1 ho' with rfl | ho'
        · rfl
        · obtain ⟨q1, q2⟩ := dropO_mem ho'
          simp only at q2
          simp only [if_true, Option.some.injEq] at h3
          simp only [if_neg q2] at h4
          subst h3
          exact absurd h4 (hfresh o' ho')
        · obtain ⟨q1, q2⟩ := dropO_mem ho
          simp only at q2
          simp only [if_true, Option.some.injEq] at h4
          simp only [if_neg q2] at h3
          subst h4
          exact absurd h3 (hfresh o ho)
        · obtain ⟨q1, q2⟩ := dropO_mem ho
          obtain ⟨q1', q2'⟩ := dropO_mem ho'
          simp only at q2 q2'
          simp only [if_neg q2] at h3
          simp only [if_neg q2'] at h4
          exact k2 o q1 o' q1' g h3 h4
  have hsplit : ∀ (i j : Nat) (e : List AV) (x : AV), (els ++ news)[i]? = some e → e[j]? = some x → (els[i]? = some e) ∨ (els.length ≤ i ∧ news[i - els.length]? = some e) := fun i j e x hi _ => by
    rcases Nat.lt_or_ge i els.length with h' | h'
    · rw [List.getElem?_append_left h'] at hi; exact .inl hi
    · rw [List.getElem?_append_right h'] at hi; exact .inr ⟨h', hi⟩
  have grow : ∀ (ad : Option Addr) (cap : Nat) (old : Array Value), a'.tmps.getD x undef = .slice ad els.length cap → ¬ els.length + nn ≤ cap → (∀ w' : World, w'.heap = w2.heap → (Builtin.firstCells s2 els.length (.slice ad els.length cap)).run P w' = .ok old w') → old.size = els.length * s2 →
      (∀ e ∈ els, e.length = s2) → (∀ (i j : Nat) (e : List AV) (x : AV), els[i]? = some e → e[j]? = some x → ∃ u, old[i * s2 + j]? = some u ∧ V c.own w2 x u ∧ u.oneCell' = true) → wpOp P ops Q n (wpOps P ops Q [n + 1]) a' w2 := fun ad cap old hv hgt ho hos hels hold => by
    obtain ⟨nc, hnc, hrun⟩ := append_grow (P := P) (w := w2) (ty := oa.type) (ad := ad) (ad2 := ad2) (cap := cap) (cap2 := cap2) hu hu2 hz hb hb0 hzrun (by rw [hn]; exact hbig) n1 ho hgt
    generalize hcs : old ++ new ++ Builtin.zeroCells zvv.cells (nc - (els.length + nn)) = cs at hrun
    have hzc : (Builtin.zeroCells zvv.cells (nc - (els.length + nn))).size = (nc - (els.length + nn)) * s2 := by simp [Builtin.zeroCells, hzsz]
    have hcsz : cs.size = nc * s2 := by
      rw [← hcs]
      simp only [Array.size_append, hos, n2, hzc]
      rw [← Nat.add_mul, ← Nat.add_mul, show els.length + nn + (nc - (els.length + nn)) = nc by omega]
    refine wpOp_value hi gi (exec_append hoa (by
      have e1 : a'.eval (.tmp x) = .slice ad els.length cap := hv
      rw [e1, hyv]; exact hrun)) ?_
    rw [wpOps_cons]
    have hheap : (w2.drew.alloc (.cells cs e)).heap[w2.heap.size]? = some (.cells cs e (0, 0)) := heap_new w2.drew _
    have hWold : ∀ g : Nat, g < w2.heap.size → (w2.drew.alloc (.cells cs e)).heap[g]? = w2.heap[g]? := fun g hg => by show (w2.heap.push _)[g]? = _; rw [Array.getElem?_push, if_neg (Nat.ne_of_lt hg)]
    let own' : Own := ⟨c.own.W, fun g off => c.own.N g off ∨ g = w2.heap.size, fun g off h => .inl (c.own.sub g off h)⟩
    have hN : ∀ g off, g < w2.heap.size → (own'.N g off ↔ c.own.N g off) := fun g off hg => ⟨fun h => h.resolve_right (by omega), .inl⟩
    have kp : Kp c.own own' w2 (w2.drew.alloc (.cells cs e)) := ⟨fun ad v hc hn => by
      obtain ⟨hsp, cs1, el1, fr1, hb1, hv1⟩ := cell_heap hc
      refine ⟨?_, fun hk => hn ((hN _ _ (lt_of_heap hb1)).1 hk)⟩
      obtain ⟨ab, ao, as⟩ := ad
      simp only at hsp hb1 hv1
      subst hsp
      rw [heap_cell (by rw [hWold ab (lt_of_heap hb1)]; exact hb1), hv1], fun g cs1 el1 fr1 hg => ⟨cs1, by rw [hWold g (lt_of_heap hg)]; exact hg, rfl⟩⟩
    refine fin _ _ own' w2.heap.size (fun c' a'' hS => hQ _ _ _ hS) fun a'' hf hsv hdf hsz' => ?_
    refine hE.turn (G := w2.heap.size) rfl hN (fun g hg _ => hWold g hg) (fun hk => absurd hk (Nat.lt_irrefl _)) (by show w2.heap.size ≤ (w2.heap.push _).size; simp) rfl rfl rfl (fun g off hk => ?_) (hTT a'' hf) hdf hsz' (hother own' _ a'' w2.heap.size hf kp hN rfl (fun g hg _ => hWold g hg) (.inr (Nat.le_refl _)) ?_)
    · show g < (w2.heap.push _).size
      rcases hk with hk | hk
      · have := hlt2 g off hk; simp; omega
      · subst hk; simp
    · rw [hsv]
      refine ⟨nc, cs, e, by simp [← hn], by simp only [List.length_append, ← hn]; exact hnc, hheap, by rw [hcsz]; exact Nat.le_refl _, hE.ev.size, fun off => ⟨.inr rfl, fun hk => by have := hlt2 _ _ (c.own.sub _ _ hk); omega⟩, fun e' he' => ?_, fun i j e' x' hi' hj' => ?_⟩
      · rcases List.mem_append.1 he' with he' | he'
        · exact hels e' he'
        · exact hnl e' he'
      · simp only at hi' ⊢
        rcases hsplit i j e' x' hi' hj' with h3 | ⟨h3, h4⟩
        · obtain ⟨u, q1, q2, q3⟩ := hold i j e' x' h3 hj'
          have hk : i * s2 + j < old.size := by
            rcases Nat.lt_or_ge (i * s2 + j) old.size with h' | h'
            · exact h'
            · simp [h'] at q1
          refine ⟨u, ?_, q2.keep kp, q3⟩
          rw [← hcs, Array.append_assoc, Array.getElem?_append_left hk]
          exact q1
        · obtain ⟨u, q1, q2, q3⟩ := n3 (i - els.length) j e' x' h4 hj'
          have hk : (i - els.length) * s2 + j < new.size := by
            rcases Nat.lt_or_ge ((i - els.length) * s2 + j) new.size with h' | h'
            · exact h'
            · simp [h'] at q1
          refine ⟨u, ?_, scalar_V (List.all_eq_true.1 (List.all_eq_true.1 hsc e' (List.mem_of_getElem? h4)) x' (List.mem_of_getElem? hj')) q2, q3⟩
          have hidx : i * s2 + j = old.size + ((i - els.length) * s2 + j) := by
            rw [hos, ← Nat.add_assoc, ← Nat.add_mul, show els.length + (i - els.length) = i by omega]
          rw [← hcs, hidx, Array.getElem?_append_left (by simp; omega), Array.getElem?_append_right (by omega)]
          rw [show old.size + ((i - els.length) * s2 + j) - old.size = (i - els.length) * s2 + j by omega]
          exact q1
  cases q with
  | none =>
    obtain ⟨h3, ad, h4⟩ := hq
    simp only at h3
    subst h3
    refine grow ad 0 #[] h4 (by simp; omega) (fun w' _ => ?_) (by simp) (by simp) (by simp)
    cases ad <;> simp [Builtin.firstCells, loadCells, loadCellsFrom]
  | some g =>
    obtain ⟨cap, cs, el, v1, v2, v3, v4, v5, v6, v7, v8⟩ := hq
    simp only at v1 v2 v4 v7 v8
    have hmul : els.length * s2 ≤ cap * s2 := Nat.mul_le_mul_right _ v2
    by_cases hroom : els.length + nn ≤ cap
    · have hmul2 : (els.length + nn) * s2 ≤ cap * s2 := Nat.mul_le_mul_right _ hroom
      rw [Nat.add_mul] at hmul2
      have hpos : 0 < nn * s2 := Nat.mul_pos hnpos (Nat.pos_of_ne_zero hz0)
      have hnl' : new.toList.length = nn * s2 := by simpa using n2
      obtain ⟨w3, cs', s1, s2', s3, s4, s5, s6, s7⟩ := run_storeCells (P := P) (g := g) (el := el) new.toList 0 (els.length * s2) w2 cs v3 (by omega) (fun u hu' => by
        obtain ⟨k, hk, rfl⟩ := List.mem_iff_getElem.1 hu'
        exact n4 k _ (by simp at hk ⊢))
      have ev3 := s4 ⟨fun _ _ => True, fun _ _ => True, fun _ _ h => h⟩ fun _ _ _ => trivial
      have hrun := append_room (P := P) (w := w2) (ty := oa.type) (ad := some ⟨g, 0, none⟩) (ad2 := ad2) (len := els.length) (cap := cap) (n := nn) (cap2 := cap2) hu hu2 hz (n1 w2 rfl) hroom
      simp only [add_plain, Nat.zero_add, s1, Result.andThen_ok] at hrun
      refine wpOp_value hi gi (exec_append hoa (by
        have e1 : a'.eval (.tmp x) = .slice (some ⟨g, 0, none⟩) els.length cap := v1
        rw [e1, hyv]; exact hrun)) ?_
      rw [wpOps_cons]
      have kp : Kp c.own c.own w2 w3 := ⟨fun ad v hc hn => by
        obtain ⟨hsp, cs1, el1, fr1, hb1, hv1⟩ := cell_heap hc
        have hne : ad.block ≠ g := fun he => hn (by rw [he]; exact (v6 _).1)
        refine ⟨?_, hn⟩
        obtain ⟨ab, ao, as⟩ := ad
        simp only at hsp hb1 hv1 hne
        subst hsp
        rw [heap_cell (by rw [s7 ab hne]; exact hb1), hv1], fun g' cs1 el1 fr1 hg => by
          obtain ⟨cs2, q1, q2, _⟩ := ev3.cells g' cs1 el1 fr1 hg
          exact ⟨cs2, q1, q2⟩⟩
      refine fin _ _ c.own g (fun c' a'' hS => hQ _ _ _ hS) fun a'' hf hsv hdf hsz' => ?_
      refine hE.turn (own' := c.own) (G := g) rfl (fun _ _ _ => Iff.rfl) (fun k _ hk => s7 k hk) (fun _ => ⟨v5, v6, cs, el, cs', v3, by omega, s2', s3⟩) ev3.size ev3.os ev3.tape ev3.output (fun g off hn => Nat.lt_of_lt_of_le (hlt2 g off hn) ev3.size) (hTT a'' hf) hdf hsz' (hother c.own w3 a'' g hf kp (fun _ _ _ => Iff.rfl) rfl (fun k _ hk => s7 k hk) (.inl rfl) ?_)
      rw [hsv]
      refine ⟨cap, cs', el, by simp [← hn], by simp only [List.length_append, ← hn]; exact hroom, s2', by rw [s3]; exact v4, v5, v6, fun e' he' => ?_, fun i j e' x' hi' hj' => ?_⟩
      · rcases List.mem_append.1 he' with he' | he'
        · exact v7 e' he'
        · exact hnl e' he'
      · simp only at hi' ⊢
        rcases hsplit i j e' x' hi' hj' with h3 | ⟨h3, h4⟩
        · obtain ⟨u, q1, q2, q3⟩ := v8 i j e' x' h3 hj'
          refine ⟨u, ?_, q2.keep kp, q3⟩
          have hil : i < els.length := by
            rcases Nat.lt_or_ge i els.length with h' | h'
            · exact h'
            · simp [List.getElem?_eq_none, h'] at h3
          have hjl : j < s2 := by
            have := v7 e' (List.mem_of_getElem? h3)
            rcases Nat.lt_or_ge j e'.length with h' | h'
            · omega
            · simp [List.getElem?_eq_none, h'] at hj'
          have : (i + 1) * s2 ≤ els.length * s2 := Nat.mul_le_mul_right _ hil
          rw [Nat.add_mul, Nat.one_mul] at this
          rw [s5 _ (by omega)]
          exact q1
        · obtain ⟨u, q1, q2, q3⟩ := n3 (i - els.length) j e' x' h4 hj'
          have hk : (i - els.length) * s2 + j < new.size := by
            rcases Nat.lt_or_ge ((i - els.length) * s2 + j) new.size with h' | h'
            · exact h'
            · simp [h'] at q1
          refine ⟨u, ?_, scalar_V (List.all_eq_true.1 (List.all_eq_true.1 hsc e' (List.mem_of_getElem? h4)) x' (List.mem_of_getElem? hj')) q2, q3⟩
          have h6 := s6 ((i - els.length) * s2 + j) (by rw [hnl', ← n2]; exact hk)
          have hidx : els.length * s2 + 0 + ((i - els.length) * s2 + j) = i * s2 + j := by
            rw [Nat.add_zero, ← Nat.add_assoc, ← Nat.add_mul, show els.length + (i - els.length) = i by omega]
          rw [hidx] at h6
          rw [h6]
          simpa using q1
    · refine grow (some ⟨g, 0, none⟩) cap _ v1 hroom (firstCells_own v3 (by omega)) (by simp) v7 fun i j e' x' h3 hj' => ?_
      obtain ⟨u, q1, q2, q3⟩ := v8 i j e' x' h3 hj'
      refine ⟨u, ?_, q2, q3⟩
      have hil : i < els.length := by
        rcases Nat.lt_or_ge i els.length with h' | h'
        · exact h'
        · simp [List.getElem?_eq_none, h'] at h3
      have hjl : j < s2 := by
        have := v7 e' (List.mem_of_getElem? h3)
        rcases Nat.lt_or_ge j e'.length with h' | h'
        · omega
        · simp [List.getElem?_eq_none, h'] at hj'
      have : (i + 1) * s2 ≤ els.length * s2 := Nat.mul_le_mul_right _ hil
      rw [Nat.add_mul, Nat.one_mul] at this
      simp [show i * s2 + j < els.length * s2 by omega, Array.getD_eq_getD_getElem?, q1]
end
end Ev
