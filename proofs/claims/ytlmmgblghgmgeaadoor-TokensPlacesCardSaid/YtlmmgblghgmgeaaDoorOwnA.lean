/- A verified evaluator, slices of one's own, part A: what stays when the world goes on; a view of the memory that nothing may write. -/
import Derived.Test.YtlmmgblghgmgeaaDoorEv4
set_option linter.unusedVariables false
set_option linter.unusedSimpArgs false
namespace Ev
open Go Go.RowKit

/-- A slice of one's own: the slot where it stands, the size of its elements, these. -/
structure OS where
  slot : Nat
  z : Nat
  els : List (List AV)

/-- What was readable is so, and reads as it did. -/
structure Kp (o o' : Own) (w w' : World) : Prop where
  cell : ∀ (a : Addr) (v : Value), w.cell? a = some v → ¬ o.N a.block a.off → w'.cell? a = some v ∧ ¬ o'.N a.block a.off
  blk : ∀ (g : Nat) (cs : Array Value) (el : TypeId) (fr : Nat × Nat), w.heap[g]? = some (.cells cs el fr) → ∃ cs' : Array Value, w'.heap[g]? = some (.cells cs' el fr) ∧ cs'.size = cs.size

section
variable {P : Program} {o o' : Own} {c c' : Cfg} {w w' : World} {m m' : Mem} {t t' : Tmps} {a a' : Act} {N : Nat}

theorem Kp.of_evo (e : Evo o w o' w') : Kp o o' w w' :=
  ⟨fun _ _ h hn => ⟨e.cell h hn, e.lt h hn⟩, fun g cs el fr h => let ⟨cs', h1, h2, _⟩ := e.cells g cs el fr h; ⟨cs', h1, h2⟩⟩
theorem Kp.less (h : ∀ g off, o'.N g off → o.N g off) : Kp o o' w w :=
  ⟨fun _ _ h1 hn => ⟨h1, fun hk => hn (h _ _ hk)⟩, fun g cs el fr h => ⟨cs, h, rfl⟩⟩

theorem V.keep {x : AV} {v : Value} (h : V o w x v) (k : Kp o o' w w') : V o' w' x v := by
  induction h with
  | undef v => exact .undef v
  | bool b => exact .bool b
  | int k n => exact .int k n
  | str s => exact .str s
  | sl s els tok a len cap cv hlen hcap hel hc hv ho hn hk hr ih =>
    refine .sl s els tok a len cap cv hlen hcap hel (fun i j el x hi hj => ?_) ih ho hn hk hr
    obtain ⟨ad, ha, hcell, hown⟩ := hc i j el x hi hj
    have hown' : ¬ o.N (ad.add (i * s + j)).block (ad.add (i * s + j)).off := by rw [add_block, add_off]; exact hown
    obtain ⟨q1, q2⟩ := k.cell _ _ hcell hown'
    refine ⟨ad, ha, q1, ?_⟩
    rwa [add_block, add_off] at q2
  | eptr cells ad cv hc hv ho ih =>
    refine .eptr cells ad cv (fun j x hj => ?_) ih ho
    obtain ⟨hcell, hown⟩ := hc j x hj
    have hown' : ¬ o.N (ad.add j).block (ad.add j).off := by rw [add_block, add_off]; exact hown
    obtain ⟨q1, q2⟩ := k.cell _ _ hcell hown'
    refine ⟨q1, ?_⟩
    rwa [add_block, add_off] at q2
  | pnil => exact .pnil
  | fn f cap vs hl hv ih => exact .fn f cap vs hl ih
  | fnil => exact .fnil
  | agg cells cs hl hv ho ih => exact .agg cells cs hl ih ho
theorem Tip.keep {s n : Nat} {st : Stat} {v : Value} (h : Tip w s n st v) (k : Kp o o' w w') : Tip w' s n st v := by
  cases st with
  | unknown => exact h
  | dead => trivial
  | alive t =>
    cases t with
    | none => exact h
    | some t =>
      obtain ⟨g, en⟩ := t
      obtain ⟨q, cap, cs, el, h1, h2, h3, h4⟩ := h
      obtain ⟨cs', k1, k2⟩ := k.blk _ _ _ _ h3
      exact ⟨q, cap, cs', el, h1, h2, k1, by omega⟩
theorem T1.keep {x : AV} {v : Value} (h : T1 c w x v) (k : Kp c.own c'.own w w') (hρ : ∀ id g, c.ρ id = some g → c'.ρ id = some g) (hν : ∀ p q, c'.ν p q = c.ν p q ∨ c'.ν p q = .dead) : T1 c' w' x v := by
  cases x with
  | ptr id off => obtain ⟨g, h1, h2⟩ := h; exact ⟨g, hρ _ _ h1, h2⟩
  | sl s els tok =>
    cases tok with
    | row p q =>
      refine ⟨h.1.keep k, ?_⟩
      rcases hν p q with e | e
      · rw [e]; exact h.2.keep k
      · rw [e]; trivial
    | nil => exact V.keep h k
    | none => exact V.keep h k
    | clip => exact V.keep h k
  | tup => exact h
  | _ => exact V.keep h k
theorem T.keep {x : AV} {v : Value} (h : T c w x v) (k : Kp c.own c'.own w w') (hρ : ∀ id g, c.ρ id = some g → c'.ρ id = some g) (hν : ∀ p q, c'.ν p q = c.ν p q ∨ c'.ν p q = .dead) : T c' w' x v := by
  by_cases hx : ∃ xs, x = .tup xs
  · obtain ⟨xs, rfl⟩ := hx
    obtain ⟨vs, h1, h2, h3⟩ := h
    exact ⟨vs, h1, h2, fun i x u hx hu => (h3 i x u hx hu).keep k hρ hν⟩
  · exact .of_T1 ((h.to_T1 hx).keep k hρ hν)

theorem MemRel.keep (h : MemRel c m w) (k : Kp c.own c'.own w w') (hρ : c'.ρ = c.ρ) (hν : c'.ν = c.ν)
    (hW : ∀ g off, g < w.heap.size → c.own.W g off → c'.own.W g off) (hN : ∀ g off, g < w.heap.size → c'.own.N g off → c.own.N g off)
    (hb : ∀ id g, c.ρ id = some g → ∀ cs el, w.heap[g]? = some (.cells cs el (0, 0)) → w'.heap[g]? = some (.cells cs el (0, 0)))
    (hlt : ∀ g off, c'.own.N g off → g < w'.heap.size) : MemRel c' m w' where
  dom := fun id => by rw [hρ]; exact h.dom id
  box := fun id bx g h1 h2 => by
    rw [hρ] at h2
    obtain ⟨cs, el, k1, k2, k3, k4, k5⟩ := h.box id bx g h1 h2
    refine ⟨cs, el, hb id g h2 cs el k1, k2, fun j x v hx hv => ⟨(k3 j x v hx hv).1.keep k (fun id g hi => by rw [hρ]; exact hi) (fun p q => .inl (by rw [hν])), (k3 j x v hx hv).2⟩,
      fun hf off ho => hW _ _ (lt_of_heap k1) (k4 hf off ho), fun hf off ho hn => k5 hf off ho (hN _ _ (lt_of_heap k1) hn)⟩
  inj := fun i j g h1 h2 => by rw [hρ] at h1 h2; exact h.inj i j g h1 h2
  names := fun p q => by rw [hν]; exact h.names p q
  tip := fun p q g en hs => by
    rw [hν] at hs
    obtain ⟨cs, el, k1, kl, k2⟩ := h.tip p q g en hs
    obtain ⟨cs', k3, k4⟩ := k.blk _ _ _ _ k1
    exact ⟨cs', el, k3, by omega, fun off h1 h2 => hW _ _ (lt_of_heap k1) (k2 off h1 (by omega))⟩
  tipInj := fun p q p' q' g en en' h1 h2 => by rw [hν] at h1 h2; exact h.tipInj p q p' q' g en en' h1 h2
  tipBox := fun p q g en id h1 h2 => by rw [hν] at h1; rw [hρ] at h2; exact h.tipBox p q g en id h1 h2
  lt := hlt

/-- A slice of one's own, and its value: nil, or at the head of a block that nothing else leads to. -/
def OwnedAt (c : Cfg) (w : World) (base : Nat) (v : Value) (o : OS) : Option Nat → Prop
  | none => o.els = [] ∧ ∃ ad, v = .slice ad 0 0
  | some g => ∃ cap cs el, v = .slice (some ⟨g, 0, none⟩) o.els.length cap ∧ o.els.length ≤ cap ∧ w.heap[g]? = some (.cells cs el (0, 0)) ∧ cap * o.z ≤ cs.size ∧ base ≤ g ∧
      (∀ off, c.own.N g off ∧ ¬ c.own.W g off) ∧ (∀ e ∈ o.els, e.length = o.z) ∧
      ∀ (i j : Nat) (e : List AV) (x : AV), o.els[i]? = some e → e[j]? = some x → ∃ u, cs[i * o.z + j]? = some u ∧ V c.own w x u ∧ u.oneCell' = true
theorem OwnedAt.keep {base : Nat} {v : Value} {s : OS} {q : Option Nat} (h : OwnedAt c w base v s q) (k : Kp c.own c'.own w w')
    (hh : ∀ g, q = some g → w'.heap[g]? = w.heap[g]?) (hN : ∀ g, q = some g → (∀ off, c.own.N g off ∧ ¬ c.own.W g off) → g < w.heap.size → ∀ off, c'.own.N g off ∧ ¬ c'.own.W g off) : OwnedAt c' w' base v s q := by
  cases q with
  | none => exact h
  | some g =>
    obtain ⟨cap, cs, el, h1, h2, h3, h4, h5, h6, h7, h8⟩ := h
    exact ⟨cap, cs, el, h1, h2, by rw [hh g rfl]; exact h3, h4, h5, hN g rfl h6 (lt_of_heap h3), h7, fun i j e x hi hj => by
      obtain ⟨u, k1, k2, k3⟩ := h8 i j e x hi hj
      exact ⟨u, k1, k2.keep k, k3⟩⟩
theorem OwnedAt.evo {base : Nat} {v : Value} {s : OS} {q : Option Nat} (h : OwnedAt c w base v s q) (e : Evo c.own w c'.own w') : OwnedAt c' w' base v s q := by
  cases q with
  | none => exact h
  | some g =>
    obtain ⟨cap, cs, el, h1, h2, h3, h4, h5, h6, h7, h8⟩ := h
    have hlt := lt_of_heap h3
    exact ⟨cap, cs, el, h1, h2, e.same h3 fun off => (h6 off).2, h4, h5, fun off => ⟨e.hid g off hlt (h6 off).1 (h6 off).2, fun hk => (h6 off).2 (e.wr g off hlt hk)⟩, h7, fun i j el x hi hj => by
      obtain ⟨u, k1, k2, k3⟩ := h8 i j el x hi hj
      exact ⟨u, k1, k2.mono e, k3⟩⟩
theorem OwnedAt.view {base : Nat} {v : Value} {s : OS} {q : Option Nat} (h : OwnedAt c w base v s q) : V noOwn w (.sl s.z s.els .none) v := by
  cases q with
  | none =>
    obtain ⟨h1, ad, rfl⟩ := h
    rw [h1]; exact V_empty
  | some g =>
    obtain ⟨cap, cs, el, rfl, h2, h3, h4, h5, h6, h7, h8⟩ := h
    refine .sl s.z s.els .none _ _ cap (fun i j => cs.getD (i * s.z + j) undef) rfl h2 h7 (fun i j e x hi hj => ?_) (fun i j e x hi hj => ?_) (fun i j e x hi hj => ?_) (by simp) (by simp) (by simp)
    · obtain ⟨u, k1, k2, k3⟩ := h8 i j e x hi hj
      refine ⟨⟨g, 0, none⟩, rfl, ?_, fun hk => hk⟩
      rw [add_plain, heap_cell h3, Nat.zero_add]
      simp [Array.getD_eq_getD_getElem?, k1]
    · obtain ⟨u, k1, k2, k3⟩ := h8 i j e x hi hj
      simpa [Array.getD_eq_getD_getElem?, k1] using k2.keep (o' := noOwn) (w' := w) (.less fun _ _ hk => hk.elim)
    · obtain ⟨u, k1, k2, k3⟩ := h8 i j e x hi hj
      simpa [Array.getD_eq_getD_getElem?, k1] using k3

/-- The state of a frame, with slices of its own. -/
structure SRO (P : Program) (N : Nat) (o0 : Own) (w0 : World) (c0 : Cfg) (c : Cfg) (w : World) (t : Tmps) (m : Mem) (O : List OS) (a : Act) : Prop where
  sr : SR P N c w t m a
  ev : Evo o0 w0 c.own w
  low : Low c0 c
  ow : ∃ gs : Nat → Option Nat, (∀ s ∈ O, OwnedAt c w w0.heap.size (a.tmps.getD s.slot undef) s (gs s.slot)) ∧ ∀ s ∈ O, ∀ s' ∈ O, ∀ g, gs s.slot = some g → gs s'.slot = some g → s.slot = s'.slot

/-- Slices of one's own, seen as slices that nobody writes. -/
def viewT : List OS → Tmps → Tmps
  | [], t => t
  | s :: r, t => upd (viewT r t) s.slot (.sl s.z s.els .none)
theorem viewT_spec : ∀ (O : List OS) (t : Tmps) (i : Nat), ((∀ s ∈ O, s.slot ≠ i) ∧ viewT O t i = t i) ∨ ∃ s ∈ O, s.slot = i ∧ viewT O t i = .sl s.z s.els .none
  | [], t, i => .inl ⟨by simp, rfl⟩
  | s :: r, t, i => by
    by_cases h : i = s.slot
    · exact .inr ⟨s, by simp, h.symm, by simp [viewT, h]⟩
    · have hv : viewT (s :: r) t i = viewT r t i := by simp [viewT, h]
      rw [hv]
      rcases viewT_spec r t i with ⟨h1, h2⟩ | ⟨s', h1, h2, h3⟩
      · exact .inl ⟨fun s' hs' => by rcases List.mem_cons.1 hs' with rfl | hs'; exact fun he => h he.symm; exact h1 s' hs', h2⟩
      · exact .inr ⟨s', List.mem_cons_of_mem _ h1, h2, h3⟩
/-- A memory that nothing may write. -/
def frozen (m : Mem) : Mem := ⟨m.boxes, fun _ _ => some false, fun _ => true⟩
def viewCfg (c : Cfg) : Cfg := ⟨noOwn, c.ρ, fun _ _ => .dead⟩

theorem frozen_rel (hM : MemRel c m w) : MemRel (viewCfg c) (frozen m) w where
  dom := hM.dom
  box := fun id bx g h1 h2 => by
    obtain ⟨cs, el, k1, k2, k3, k4, k5⟩ := hM.box id bx g h1 h2
    exact ⟨cs, el, k1, k2, fun j x v hx hv => ⟨(k3 j x v hx hv).1.keep (.less fun _ _ hk => hk.elim) (fun _ _ h => h) (fun _ _ => .inr rfl), (k3 j x v hx hv).2⟩, fun hf => by simp [frozen] at hf, fun _ _ _ hn => hn⟩
  inj := hM.inj
  names := fun p q => rfl
  tip := fun p q g en hs => by simp [viewCfg] at hs
  tipInj := fun p q p' q' g en en' hs => by simp [viewCfg] at hs
  tipBox := fun p q g en id hs => by simp [viewCfg] at hs
  lt := fun g off hn => hn.elim
theorem view_start {o0 : Own} {w0 : World} {c0 : Cfg} {O : List OS} (h : SRO P N o0 w0 c0 c w t m O a) : SR P N (viewCfg c) w (viewT O t) (frozen m) a where
  T := fun i => by
    rcases viewT_spec O t i with ⟨h1, h2⟩ | ⟨s, h1, h2, h3⟩
    · rw [h2]
      exact (h.sr.T i).keep (.less fun _ _ hk => hk.elim) (fun _ _ h => h) (fun _ _ => .inr rfl)
    · obtain ⟨gs, k1, _⟩ := h.ow
      have := (k1 s h1).view
      rw [h3, ← h2]
      exact .of_V this
  M := frozen_rel h.sr.M
  G := h.sr.G.weaker fun _ _ hk => hk.elim
  defers := h.sr.defers
  size := h.sr.size

/-- The slots that the first n operations write. -/
def dn (ops : Array Oper) (n : Nat) : List Nat := (ops.toList.take n).filterMap (·.dst)
def Frame (l : List Nat) (a a' : Act) : Prop := ∀ i, i ∉ l → a'.tmps.getD i undef = a.tmps.getD i undef
/-- Behind a reading: plain values come out. -/
def after (l : List Nat) (t2 t : Tmps) : Tmps := fun i => if l.contains i then (if scalarR (t2 i) then t2 i else .undef) else t i

theorem SRO.below {o0 : Own} {w0 : World} {c0 : Cfg} {O : List OS} (h : SRO P N o0 w0 c0 c w t m O a) (hb : Below w.heap.size w w') (hT : ∀ i, T c w' (t' i) (a'.tmps.getD i undef)) (hd : a'.defers = []) (hs : N ≤ a'.tmps.size)
    (hf : ∀ s ∈ O, a'.tmps.getD s.slot undef = a.tmps.getD s.slot undef) : SRO P N o0 w0 c0 c w' t' m O a' where
  sr := ⟨hT, h.sr.M.mono (.below hb) rfl rfl (fun _ _ _ h => h) (fun id g hg cs el hh => by rw [hb.block g (lt_of_heap hh)]; exact hh) (fun g off hn => Nat.lt_of_lt_of_le (h.sr.M.lt g off hn) hb.size), h.sr.G.mono (.below hb), hd, hs⟩
  ev := h.ev.trans (.below hb)
  low := h.low
  ow := by
    obtain ⟨gs, k1, k2⟩ := h.ow
    exact ⟨gs, fun s hs => by rw [hf s hs]; exact (k1 s hs).evo (.below hb), k2⟩
theorem view_end {o0 : Own} {w0 : World} {c0 c2 : Cfg} {O : List OS} {l : List Nat} {t2 : Tmps} {m2 : Mem} (h : SRO P N o0 w0 c0 c w t m O a) (h2 : SR P N c2 w' t2 m2 a') (e : Evo noOwn w c2.own w') (hf : Frame l a a') (hO : ∀ s ∈ O, s.slot ∉ l) :
    SRO P N o0 w0 c0 c w' (after l t2 t) m O a' := by
  have hb : Below w.heap.size w w' := below_of_evo (fun _ _ h => h) e
  refine h.below hb (fun i => ?_) h2.defers h2.size (fun s hs => hf _ (hO s hs))
  unfold after
  by_cases hi : i ∈ l
  · rw [if_pos (by simpa using hi)]
    split
    · rename_i hs
      exact scalarR_T hs (h2.T i)
    · exact .of_V (.undef _)
  · rw [if_neg (by simpa using hi), hf i hi]
    exact (h.sr.T i).mono (.below hb) (.refl _)
end
end Ev
