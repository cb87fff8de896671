/- A verified evaluator, part C: the operations that call nothing. -/
import Derived.Test.YtlmmgblghgmgeaaDoorEvB
import Derived.Laws.Build
import Derived.Laws.Strings
import Derived.Laws.StructEq
set_option linter.unusedVariables false
set_option linter.unusedSimpArgs false
namespace Ev
open Go

def Post (c : Cfg) (w : World) (m' : Mem) (x : AV) (v : Value) (w' : World) : Prop :=
  ∃ c', Evo c.own w c'.own w' ∧ Ext c c' ∧ MemRel c' m' w' ∧ T c' w' x v
def OpRes (P : Program) (c : Cfg) (w : World) (m' : Mem) (x : AV) : Result Next → Prop
  | .ok (.value v) w' => Post c w m' x v w'
  | .ok .skip w' => Post c w m' x undef w'
  | .ok (.enter f args) w' => Calls P f args w' fun e w'' => ∃ v, e = .returned v ∧ Post c w m' x v w''
  | _ => False
def TRel (c : Cfg) (w : World) (t : Tmps) (a : Act) : Prop := ∀ i, T c w (t i) (a.tmps.getD i undef)

section
variable {P : Program} {c : Cfg} {w : World} {m : Mem} {t : Tmps} {a : Act}

theorem Post.same {x : AV} {v : Value} (hM : MemRel c m w) (h : T c w x v) : Post c w m x v w := ⟨c, .refl _ _, .refl _, hM, h⟩

theorem T_opnd (h : TRel c w t a) (x : Operand) : T c w (opnd t x) (a.eval x) := by
  cases x with
  | tmp i => exact h i
  | const v => exact .of_V (V_ofValue _ _ _)
  | global g => exact .of_V (.undef _)
  | func f => exact .of_V (.fn f [] #[] rfl (by simp))

/-- Cells that read as they are said to. -/
def CR (own : Own) (w : World) (xs : List AV) (vs : Array Value) : Prop :=
  vs.size = xs.length ∧ (∀ (j : Nat) (x : AV) (v : Value), xs[j]? = some x → vs[j]? = some v → V own w x v) ∧ ∀ (j : Nat) (v : Value), vs[j]? = some v → v.oneCell' = true
theorem V.cells {own : Own} {x : AV} {v : Value} (hx : x.isVal = true) (h : V own w x v) : CR own w x.cells v.cells := by
  have one : ∀ (y : AV) (u : Value), V own w y u → u.oneCell' = true → CR own w [y.bare] #[u] := fun y u hu ho => by
    refine ⟨rfl, fun j z v' hj hv' => ?_, fun j v' hv' => by cases j <;> simp at hv'; subst hv'; exact ho⟩
    cases j with
    | succ j => simp at hj
    | zero =>
      simp at hj hv'
      subst hj; subst hv'
      exact T1.bare (c := ⟨own, fun _ => none, fun _ _ => .unknown⟩) (.of_V hu)
  cases h with
  | agg cells cs hl hv ho => exact ⟨hl, hv, ho⟩
  | undef => simp [AV.isVal] at hx
  | bool b => exact one _ _ (.bool b) rfl
  | int k n => exact one _ _ (.int k n) rfl
  | str s => exact one _ _ (.str s) rfl
  | sl s els tok a len cap cv h1 h2 h3 h4 h5 h6 h7 h8 h9 => exact one _ _ (.sl s els tok a len cap cv h1 h2 h3 h4 h5 h6 h7 h8 h9) rfl
  | eptr cells ad cv h1 h2 h3 => exact one _ _ (.eptr cells ad cv h1 h2 h3) rfl
  | pnil => exact one _ _ .pnil rfl
  | fn f cap vs h1 h2 => exact one _ _ (.fn f cap vs h1 h2) rfl
  | fnil => exact one _ _ .fnil rfl
theorem bare_bare (x : AV) : x.bare.bare = x.bare := by
  cases x with
  | sl s els tok => cases tok <;> rfl
  | _ => rfl
theorem T.cells {x : AV} {v : Value} (hx : x.isVal = true) (h : T c w x v) : CR c.own w x.cells v.cells := by
  cases x with
  | tup xs => simp [AV.isVal] at hx
  | undef => simp [AV.isVal] at hx
  | agg cs => exact V.cells rfl (h : V c.own w (.agg cs) v)
  | ptr id off =>
    obtain ⟨g, h1, rfl⟩ := h
    exact ⟨rfl, fun j z u hj hu => by cases j <;> simp [AV.cells, AV.bare] at hj; subst hj; exact .undef _, fun j v' hv' => by cases j <;> simp [Value.cells] at hv'; subst hv'; rfl⟩
  | sl s els tok =>
    have hb := h.bare
    have : (AV.sl s els tok).cells = ((AV.sl s els tok).bare).cells := by simp [AV.cells]; cases tok <;> rfl
    rw [this]
    exact V.cells (by cases tok <;> rfl) hb
  | bool b => exact V.cells rfl (h : V c.own w _ v)
  | int k n => exact V.cells rfl (h : V c.own w _ v)
  | str s => exact V.cells rfl (h : V c.own w _ v)
  | eptr cells => exact V.cells rfl (h : V c.own w _ v)
  | pnil => exact V.cells rfl (h : V c.own w _ v)
  | fn f cap => exact V.cells rfl (h : V c.own w _ v)
  | fnil => exact V.cells rfl (h : V c.own w _ v)

/-! ### tables -/
theorem run_aggT {ty : TypeId} {b : Bool} (h : aggT P ty = some b) (w : World) : (isAgg ty).run P w = .ok b w := by
  unfold aggT at h
  split at h
  · simp at h; subst h; rename_i hu; simp [isAgg, run_underlying hu]
  · simp at h; subst h; rename_i hu; simp [isAgg, run_underlying hu]
  · rename_i d h1 h2 hu
    simp at h; subst h
    unfold isAgg
    rw [Sem.run_bind, run_underlying hu]
    cases d <;> first | rfl | exact absurd rfl (h1 _) | exact absurd rfl (h2 _ _)
  · simp at h
theorem run_tsz {ty : TypeId} {n : Nat} (h : tsz P ty = some n) (w : World) : (Go.sizeOf ty).run P w = .ok n w := by
  unfold tsz at h
  cases hi : P.info? ty with
  | none => simp [hi] at h
  | some i => simp [hi] at h; subst h; simp [Go.sizeOf, typeInfo, hi]
theorem run_zero {ty : TypeId} {z : AV} (h : zeroOf P ty = some z) : ∃ v, z = ofValue v ∧ ∀ w, (zeroValue ty).run P w = .ok v w := by
  unfold zeroOf at h
  cases hi : P.info? ty with
  | none => simp [hi] at h
  | some i =>
    cases hz : i.zero with
    | none => simp [hi, hz] at h
    | some v => simp [hi, hz] at h; exact ⟨v, h.symm, fun w => by simp [zeroValue, typeInfo, hi, hz]⟩
theorem under_of_elemT {ty e : TypeId} (h : elemT P ty = some e) : P.underlying ty = some (.slice e) := by
  unfold elemT at h
  split at h
  · rename_i hu; simp at h; subst h; exact hu
  · simp at h

/-! ### a new block -/
def addOwn (o : Own) (g : Nat) : Own := ⟨fun b off => o.W b off ∨ b = g, fun b off => o.N b off ∨ b = g, fun b off h => h.imp (o.sub b off) id⟩
theorem heap_new (w : World) (o : Obj) : (w.alloc o).heap[w.heap.size]? = some o := by
  show (w.heap.push o)[w.heap.size]? = some o
  simp
theorem heap_old (w : World) (o : Obj) (i : Nat) (h : i < w.heap.size) : (w.alloc o).heap[i]? = w.heap[i]? := by
  show (w.heap.push o)[i]? = w.heap[i]?
  rw [Array.getElem?_push, if_neg (Nat.ne_of_lt h)]
theorem Evo.newBlock (own : Own) (w : World) (o : Obj) : Evo own w (addOwn own w.heap.size) (w.alloc o) where
  size := by simp
  cells := fun g cs el fr h => ⟨cs, by rw [heap_old _ _ _ (lt_of_heap h)]; exact h, rfl, fun _ _ => rfl⟩
  other := fun g o' h _ => by rw [heap_old _ _ _ (lt_of_heap h)]; exact h
  wr := fun g off hg h => h.resolve_right (Nat.ne_of_lt hg)
  no := fun g off hg h => h.resolve_right (Nat.ne_of_lt hg)
  hid := fun g off hg h _ => .inl h
  os := rfl
  tape := rfl
  output := rfl
/-- A block that is made and written no more. -/
theorem Evo.newPlain (own : Own) (w : World) (o : Obj) : Evo own w own (w.alloc o) where
  size := by simp
  cells := fun g cs el fr h => ⟨cs, by rw [heap_old _ _ _ (lt_of_heap h)]; exact h, rfl, fun _ _ => rfl⟩
  other := fun g o' h _ => by rw [heap_old _ _ _ (lt_of_heap h)]; exact h
  wr := fun g off hg h => h
  no := fun g off hg h => h
  hid := fun g off hg h _ => h
  os := rfl
  tape := rfl
  output := rfl

/-- An abstract memory that a stretch leaves alone. -/
theorem MemRel.mono {c c' : Cfg} {w w' : World} (h : MemRel c m w) (e : Evo c.own w c'.own w') (hρ : c'.ρ = c.ρ) (hν : c'.ν = c.ν)
    (hW : ∀ g off, g < w.heap.size → c.own.W g off → c'.own.W g off) (hb : ∀ id g, c.ρ id = some g → ∀ cs el, w.heap[g]? = some (.cells cs el (0, 0)) → w'.heap[g]? = some (.cells cs el (0, 0)))
    (hlt : ∀ g off, c'.own.N g off → g < w'.heap.size) : MemRel c' m w' where
  dom := fun id => by rw [hρ]; exact h.dom id
  box := fun id bx g h1 h2 => by
    rw [hρ] at h2
    obtain ⟨cs, el, k1, k2, k3, k4, k5⟩ := h.box id bx g h1 h2
    refine ⟨cs, el, hb id g h2 cs el k1, k2, fun j x v hx hv => ⟨(k3 j x v hx hv).1.mono e ⟨fun id g hi => by rw [hρ]; exact hi, fun id g _ hi => by rw [hρ] at hi; exact hi, fun a b hd => by rw [hν]; exact hd, fun a b t ha => by rw [hν]; exact .inl ha⟩, (k3 j x v hx hv).2⟩,
      fun hf off ho => hW _ _ (lt_of_heap k1) (k4 hf off ho), fun hf off ho hn => k5 hf off ho (e.no _ _ (lt_of_heap k1) hn)⟩
  inj := fun i j g h1 h2 => by rw [hρ] at h1 h2; exact h.inj i j g h1 h2
  names := fun a b => by rw [hν]; exact h.names a b
  tip := fun a b g en hs => by
    rw [hν] at hs
    obtain ⟨cs, el, k1, kl, k2⟩ := h.tip a b g en hs
    obtain ⟨cs', k3, k4, _⟩ := e.cells _ _ _ _ k1
    exact ⟨cs', el, k3, by omega, fun off h1 h2 => hW _ _ (lt_of_heap k1) (k2 off h1 (by omega))⟩
  tipInj := fun a b a' b' g en en' h1 h2 => by rw [hν] at h1 h2; exact h.tipInj a b a' b' g en en' h1 h2
  tipBox := fun a b g en id h1 h2 => by rw [hν] at h1; rw [hρ] at h2; exact h.tipBox a b g en id h1 h2
  lt := hlt

def addBox (c : Cfg) (d g : Nat) : Cfg := ⟨addOwn c.own g, upd c.ρ d (some g), c.ν⟩
/-- A new box. -/
theorem Post.newBox {d : Nat} (hM : MemRel c m w) (hd5 : 500000 ≤ d) (hd : m.boxes d = none) (xs : List AV) (cs : Array Value) (el : TypeId) (h : CR c.own w xs cs) :
    Post c w { m with boxes := upd m.boxes d (some xs), froz := upd m.froz d false } (.ptr d 0) (.pointer (some ⟨w.heap.size, 0, none⟩)) (w.alloc (.cells cs el)) := by
  have hρd : c.ρ d = none := by have := hM.dom d; rw [hd] at this; cases hq : c.ρ d <;> simp_all
  have hltρ : ∀ id g, c.ρ id = some g → g < w.heap.size := fun id g hi => by
    have hs := hM.dom id
    rw [hi] at hs
    cases hb : m.boxes id with
    | none => simp [hb] at hs
    | some bx =>
      obtain ⟨cs', el', k1, _⟩ := hM.box id bx g hb hi
      exact lt_of_heap k1
  have hltν : ∀ a b g e, c.ν a b = .alive (some (g, e)) → g < w.heap.size := fun a b g e hs => by
    obtain ⟨cs', el', k1, _⟩ := hM.tip a b g e hs
    exact lt_of_heap k1
  have e := Evo.newBlock c.own w (.cells cs el)
  have hext : Ext c (addBox c d w.heap.size) := ⟨fun id g hi => by
      show upd c.ρ d _ id = _
      by_cases hq : id = d
      · subst hq; rw [hρd] at hi; simp at hi
      · simp [hq, hi], fun id g hl hi => by
      have hi' : upd c.ρ d (some w.heap.size) id = some g := hi
      have hq : id ≠ d := by omega
      simpa [hq] using hi', fun _ _ h => h, fun _ _ _ h => .inl h⟩
  refine ⟨addBox c d w.heap.size, e, hext, ?_, ⟨w.heap.size, by simp [addBox], rfl⟩⟩
  refine ⟨fun id => ?_, fun id bx g h1 h2 => ?_, fun i j g h1 h2 => ?_, hM.names, fun a b g en hs => ?_, hM.tipInj, fun a b g en id hs h2 => ?_, fun g off ho => ?_⟩
  · show (upd m.boxes d _ id).isSome = (upd c.ρ d _ id).isSome
    by_cases hq : id = d <;> simp [hq, hM.dom]
  · by_cases hq : id = d
    · subst hq
      simp [addBox] at h1 h2
      subst h1; subst h2
      refine ⟨cs, el, heap_new _ _, h.1, fun j x v hx hv => ⟨.of_V ((h.2.1 j x v hx hv).mono e), h.2.2 j v hv, (h.2.1 j x v hx hv).noPtr⟩, fun _ off _ => .inr rfl, fun hf => by simp at hf⟩
    · simp [addBox, hq] at h1 h2
      obtain ⟨cs', el', k1, k2, k3, k4, k5⟩ := hM.box id bx g h1 h2
      refine ⟨cs', el', by rw [heap_old _ _ _ (lt_of_heap k1)]; exact k1, k2, fun j x v hx hv => ⟨(k3 j x v hx hv).1.mono e hext, (k3 j x v hx hv).2⟩, fun hf off ho => .inl (k4 (by simpa [hq] using hf) off ho), fun hf off hlt ho => ?_⟩
      rcases ho with ho | ho
      · exact k5 (by simpa [hq] using hf) off hlt ho
      · have := lt_of_heap k1; omega
  · simp only [addBox, upd_apply] at h1 h2
    by_cases hi : i = d <;> by_cases hj : j = d
    · rw [hi, hj]
    · simp [hi] at h1; simp [hj] at h2; have := hltρ _ _ h2; omega
    · simp [hj] at h2; simp [hi] at h1; have := hltρ _ _ h1; omega
    · simp [hi] at h1; simp [hj] at h2; exact hM.inj _ _ _ h1 h2
  · obtain ⟨cs', el', k1, kl, k2⟩ := hM.tip a b g en hs
    exact ⟨cs', el', by rw [heap_old _ _ _ (lt_of_heap k1)]; exact k1, kl, fun off h1 h2 => .inl (k2 off h1 h2)⟩
  · simp only [addBox, upd_apply] at h2
    by_cases hi : id = d
    · simp [hi] at h2; have := hltν _ _ _ _ hs; omega
    · simp [hi] at h2; exact hM.tipBox _ _ _ _ _ hs h2
  · rcases ho with ho | ho
    · have := hM.lt _ _ ho; simp; omega
    · simp [ho]
/-- A new block of which nothing is written any more. -/
theorem Post.newRow {x : AV} {v : Value} (hM : MemRel c m w) (o : Obj) (h : T c (w.alloc o) x v) : Post c w m x v (w.alloc o) := by
  have e := Evo.newPlain c.own w o
  refine ⟨c, e, .refl _, hM.mono e rfl rfl (fun _ _ _ h => h) (fun id g hi cs el hg => by rw [heap_old _ _ _ (lt_of_heap hg)]; exact hg) (fun g off ho => ?_), h⟩
  have := hM.lt _ _ ho
  simp; omega
end
end Ev
