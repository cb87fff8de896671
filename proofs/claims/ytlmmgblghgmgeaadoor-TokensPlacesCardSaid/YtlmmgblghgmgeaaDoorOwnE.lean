/- A verified evaluator, slices of one's own, part E: the evaluator of code, and that it is sound. -/
import Derived.Test.YtlmmgblghgmgeaaDoorOwnD
set_option linter.unusedVariables false
set_option linter.unusedSimpArgs false
namespace Ev
open Go Go.RowKit

/-- Elements of plain values. -/
def allScalar (els : List (List AV)) : Bool := els.all fun q => q.all AV.scalar
theorem allScalar_nil : allScalar [] = true := rfl
theorem allScalar_cons (q : List AV) (r : List (List AV)) : allScalar (q :: r) = (q.all AV.scalar && allScalar r) := rfl
inductive RK where
  | plain | give | view
  | born (s z : Nat)
  | store (s x : Nat)
  | app (s x : Nat)
  | app0 (s x : Nat)
  | fresh (s : Nat)
  | made (s : Nat)
  | inpl (s x : Nat)
abbrev Turner := FuncId → Nat → List (List AV) → Option (List (List AV))
def TurnSound (P : Program) (I : Turner) : Prop := ∀ f z els els', I f z els = some els' → InplCall P f z els els'
def noTurn : Turner := fun _ _ _ => none
theorem noTurn_sound (P : Program) : TurnSound P noTurn := fun _ _ _ _ h => by simp [noTurn] at h
structure EnvO where
  E : Env
  kind : Nat → RK
  slots : List Nat
  fresh : Fresher
  turn : Turner

def storeParts (x : Nat) (l : List Oper) : Option (TypeId × Operand × Nat × TypeId × Operand) :=
  match l with
  | [{ dst := some p, op := .indexAddr ty (.tmp x') ix, guard := none, .. }, { dst := none, op := .store ty2 (.tmp p') xv, guard := none, .. }] => if x' = x ∧ p' = p then some (ty, ix, p, ty2, xv) else none
  | _ => none
def appParts (s x : Nat) (l : List Oper) : Option (TypeId × TypeId × Operand × Nat) :=
  match l with
  | [{ dst := some d, op := .call { callee := .builtin .append, args := ⟨[.tmp x', y]⟩, argTypes := ⟨[t1, t2]⟩ }, guard := none, .. }, { dst := some s', op := .assign (.tmp d'), guard := none, .. }] => if x' = x ∧ d' = d ∧ s' = s then some (t1, t2, y, d) else none
  | _ => none
def freshParts (s : Nat) (l : List Oper) : Option (FuncId × Array Operand × Nat) :=
  match l with
  | [{ dst := some d, op := .call { callee := .value (.func f), args := args, .. }, guard := none, .. }, { dst := some s', op := .assign (.tmp d'), guard := none, .. }] => if d' = d ∧ s' = s then some (f, args, d) else none
  | _ => none
def madeParts (s : Nat) (l : List Oper) : Option (TypeId × Nat × Array (Nat × Operand) × Nat) :=
  match l with
  | [{ dst := some d, op := .buildSlice ty len ps, guard := none, .. }, { dst := some s', op := .assign (.tmp d'), guard := none, .. }] => if d' = d ∧ s' = s then some (ty, len, ps, d) else none
  | _ => none
def inplParts (x : Nat) (l : List Oper) : Option (FuncId × Nat) :=
  match l with
  | [{ dst := some d, op := .call { callee := .value (.func f), args := ⟨[.tmp x']⟩, .. }, guard := none, .. }] => if x' = x then some (f, d) else none
  | _ => none
def notTmp (p : Nat) : Operand → Bool
  | .tmp i => i != p
  | _ => true
def disj (l k : List Nat) : Bool := l.all fun s => !k.contains s

def regOk (E : EnvO) (id : Nat) (ops : Array Oper) (draw : Bool) : Bool :=
  (!draw || drawOk ops (E.E.lv (1000000 + id))) &&
  match E.kind id with
  | .plain | .view => decide (dn ops ops.size).Nodup && disj E.slots (dn ops ops.size)
  | .give => decide (dn ops ops.size).Nodup
  | .born s _ => decide (dn ops ops.size).Nodup && disj (E.slots.filter (· != s)) (dn ops ops.size) && E.slots.contains s
  | .store s x => match storeParts x (ops.toList.drop (ops.size - 2)) with
    | some (_, _, p, _, xv) => decide (2 ≤ ops.size) && decide (dn ops (ops.size - 2)).Nodup && disj E.slots (dn ops (ops.size - 2)) && !E.slots.contains p && (!draw || tailOk ops (ops.size - 2)) && isCopy ops (ops.size - 2) s x && decide (p < E.E.N) && notTmp p xv && E.slots.contains s
    | none => false
  | .app s x => match appParts s x (ops.toList.drop (ops.size - 2)) with
    | some (_, _, _, d) => decide (2 ≤ ops.size) && decide (dn ops (ops.size - 2)).Nodup && disj E.slots (dn ops (ops.size - 2)) && !E.slots.contains d && (!draw || tailOk ops (ops.size - 2)) && isCopy ops (ops.size - 2) s x && decide (d < E.E.N) && decide (s < E.E.N) && E.slots.contains s
    | none => false
  | .app0 s x => match appParts s x (ops.toList.drop (ops.size - 2)) with
    | some (_, _, _, d) => decide (2 ≤ ops.size) && decide (dn ops (ops.size - 2)).Nodup && disj E.slots (dn ops (ops.size - 2)) && !E.slots.contains d && (!draw || tailOk ops (ops.size - 2)) && decide (d < E.E.N) && decide (s < E.E.N) && E.slots.contains s
    | none => false
  | .fresh s => match freshParts s (ops.toList.drop (ops.size - 2)) with
    | some (_, _, d) => decide (2 ≤ ops.size) && decide (dn ops (ops.size - 2)).Nodup && disj E.slots (dn ops (ops.size - 2)) && !E.slots.contains d && (!draw || tailOk ops (ops.size - 2)) && decide (d < E.E.N) && decide (s < E.E.N) && E.slots.contains s
    | none => false
  | .made s => match madeParts s (ops.toList.drop (ops.size - 2)) with
    | some (_, _, _, d) => decide (2 ≤ ops.size) && decide (dn ops (ops.size - 2)).Nodup && disj E.slots (dn ops (ops.size - 2)) && !E.slots.contains d && (!draw || tailOk ops (ops.size - 2)) && decide (d < E.E.N) && decide (s < E.E.N) && E.slots.contains s
    | none => false
  | .inpl s x => match inplParts x (ops.toList.drop (ops.size - 1)) with
    | some (_, d) => decide (1 ≤ ops.size) && decide (dn ops (ops.size - 1)).Nodup && disj E.slots (dn ops (ops.size - 1)) && !E.slots.contains d && (!draw || tailOk ops (ops.size - 1)) && isCopy ops (ops.size - 1) s x && decide (d < E.E.N) && E.slots.contains s
    | none => false
def codeOkO (E : EnvO) : Code → Bool
  | .seq a b => codeOkO E a && codeOkO E b
  | .cond _ a b => codeOkO E a && codeOkO E b
  | .block _ a => codeOkO E a
  | .loop a => codeOkO E a
  | .region id ops d => regOk E id ops d
  | _ => true

section
variable {R : Type} (P : Program)
/-- A store: the slice behind it. -/
def storeK (o : Option OS) (ty ty2 : TypeId) (i v : AV) (K : OS → Option R) : Option R :=
  match o, i with
  | some o, .int _ k => if (0 ≤ k ∧ k < o.els.length) ∧ (elemT P ty).bind (tsz P) = some o.z ∧ tsz P ty2 = some o.z ∧ o.z ≠ 0 ∧ v.isVal = true ∧ v.cells.all AV.scalar = true ∧ v.cells.length = o.z then K ⟨o.slot, o.z, o.els.set k.toNat v.cells⟩ else none
  | _, _ => none
def appK (strict : Bool) (base : Option (Nat × List (List AV))) (ty1 ty2 : TypeId) (y : AV) (K : Nat → List (List AV) → Option R) : Option R :=
  match base, y, elemT P ty1, elemT P ty2 with
  | some (z, els), .sl s2 news _, some e, some _ => match tbytes P e, zeroOf P e with
    | some b, some zv => if (tsz P e = some z ∧ s2 = z ∧ b ≠ 0 ∧ z ≠ 0 ∧ zv.isVal = true ∧ zv.cells.length = z) ∧ (els.length + news.length) * b ≤ 70368744177664 ∧ allScalar news = true ∧ (news.isEmpty = false ∨ strict = false ∧ els.isEmpty = true) then K z (els ++ news) else none
    | _, _ => none
  | _, _, _, _ => none
def madeK (ty : TypeId) (len : Nat) (ps : Array (Nat × Operand)) (t : Tmps) (K : Nat → List (List AV) → Option R) : Option R :=
  match elemT P ty with
  | some e => match tsz P e, zeroOf P e with
    | some z, some zv => if (len * z ≤ 16777216 ∧ zv.isVal = true ∧ zv.cells.length = z ∧ z ≠ 0) ∧ ps.toList.map (·.1) = List.range len ∧ (ps.toList.all fun p => (opnd t p.2).isVal && (opnd t p.2).cells.length == z) = true ∧ allScalar (ps.toList.map fun p => (opnd t p.2).cells) = true then K z (ps.toList.map fun p => (opnd t p.2).cells) else none
    | _, _ => none
  | none => none
def inplK (o : Option OS) (I : Nat → List (List AV) → Option (List (List AV))) (K : OS → Option R) : Option R :=
  match o with
  | some o => match I o.z o.els with
    | some els => if allScalar els = true ∧ o.els.isEmpty = false ∧ o.z ≠ 0 then K ⟨o.slot, o.z, els⟩ else none
    | none => none
  | none => none
def base0 (ty1 : TypeId) (x : AV) : Option (Nat × List (List AV)) :=
  match x with
  | .sl _ [] .nil | .sl _ [] .clip => ((elemT P ty1).bind (tsz P)).map fun z => (z, [])
  | _ => none
def evReg (E : EnvO) (id : Nat) (ops : Array Oper) (draw : Bool) (t : Tmps) (m : Mem) (O : List OS) (K : Tmps → Mem → List OS → Option R) : Option R :=
  match E.kind id with
  | .plain => evOps P E.E.C E.E.ro (if draw then some (dsts ops, E.E.lv (1000000 + id)) else none) E.E.N ops ops.toList t m fun t m => K t m O
  | .give => evOps P E.E.C E.E.ro (if draw then some (dsts ops, E.E.lv (1000000 + id)) else none) E.E.N ops ops.toList (viewT O t) m fun t m => K t m []
  | .view => evOps P E.E.C E.E.ro (if draw then some (dsts ops, E.E.lv (1000000 + id)) else none) E.E.N ops ops.toList (viewT O t) (frozen m) fun t2 _ => K (after (dn ops ops.size) t2 t) m O
  | .born s z => evOps P E.E.C E.E.ro (if draw then some (dsts ops, E.E.lv (1000000 + id)) else none) E.E.N ops ops.toList t m fun t m => match t s with
    | .sl _ [] .nil => K (upd t s .undef) m (setO O ⟨s, z, []⟩)
    | _ => none
  | .store s x => match storeParts x (ops.toList.drop (ops.size - 2)) with
    | some (ty, ix, p, ty2, xv) => evOps P E.E.C E.E.ro (if draw then some (dsts ops, E.E.lv (1000000 + id)) else none) E.E.N ops (ops.toList.take (ops.size - 2)) (viewT O t) (frozen m) fun t2 _ =>
        storeK P (getO O s) ty ty2 (opnd t2 ix) (opnd t2 xv) fun o => K (upd (after (dn ops (ops.size - 2)) t2 t) p .undef) m (setO O o)
    | none => none
  | .app s x => match appParts s x (ops.toList.drop (ops.size - 2)) with
    | some (t1, ty2, y, d) => evOps P E.E.C E.E.ro (if draw then some (dsts ops, E.E.lv (1000000 + id)) else none) E.E.N ops (ops.toList.take (ops.size - 2)) (viewT O t) (frozen m) fun t2 _ =>
        appK P true ((getO O s).map fun o => (o.z, o.els)) t1 ty2 (opnd t2 y) fun z els => K (upd (upd (after (dn ops (ops.size - 2)) t2 t) d .undef) s .undef) m (setO O ⟨s, z, els⟩)
    | none => none
  | .app0 s x => match appParts s x (ops.toList.drop (ops.size - 2)) with
    | some (t1, ty2, y, d) => evOps P E.E.C E.E.ro (if draw then some (dsts ops, E.E.lv (1000000 + id)) else none) E.E.N ops (ops.toList.take (ops.size - 2)) (viewT O t) (frozen m) fun t2 _ =>
        appK P false (base0 P t1 (t2 x)) t1 ty2 (opnd t2 y) fun z els => K (upd (upd (after (dn ops (ops.size - 2)) t2 t) d .undef) s .undef) m (setO O ⟨s, z, els⟩)
    | none => none
  | .fresh s => match freshParts s (ops.toList.drop (ops.size - 2)) with
    | some (f, args, d) => evOps P E.E.C E.E.ro (if draw then some (dsts ops, E.E.lv (1000000 + id)) else none) E.E.N ops (ops.toList.take (ops.size - 2)) (viewT O t) (frozen m) fun t2 _ =>
        match E.fresh f (args.toList.map fun o => (opnd t2 o).bare) with
        | some (z, els) => if allScalar els = true then K (upd (upd (after (dn ops (ops.size - 2)) t2 t) d .undef) s .undef) m (setO O ⟨s, z, els⟩) else none
        | none => none
    | none => none
  | .made s => match madeParts s (ops.toList.drop (ops.size - 2)) with
    | some (ty, len, ps, d) => evOps P E.E.C E.E.ro (if draw then some (dsts ops, E.E.lv (1000000 + id)) else none) E.E.N ops (ops.toList.take (ops.size - 2)) (viewT O t) (frozen m) fun t2 _ =>
        madeK P ty len ps t2 fun z els => K (upd (upd (after (dn ops (ops.size - 2)) t2 t) d .undef) s .undef) m (setO O ⟨s, z, els⟩)
    | none => none
  | .inpl s x => match inplParts x (ops.toList.drop (ops.size - 1)) with
    | some (f, d) => evOps P E.E.C E.E.ro (if draw then some (dsts ops, E.E.lv (1000000 + id)) else none) E.E.N ops (ops.toList.take (ops.size - 1)) (viewT O t) (frozen m) fun t2 _ =>
        inplK (getO O s) (E.turn f) fun o => K (upd (after (dn ops (ops.size - 1)) t2 t) d .undef) m (setO O o)
    | none => none

abbrev StepO := Tmps → Mem → List OS → Option (Ex × Tmps × Mem × List OS)
def iterO (step : StepO) : Nat → Tmps → Mem → List OS → Option (Ex × Tmps × Mem × List OS)
  | 0, _, _, _ => none
  | k + 1, t, m, O => match step t m O with
    | some (.normal, t', m', O') => iterO step k t' m' O'
    | some r => some r
    | none => none
noncomputable def loopOL (step : StepO) (t : Tmps) (m : Mem) (O : List OS) : Option (Ex × Tmps × Mem × List OS) := lim fun k => iterO step k t m O
end

noncomputable def evO {R : Type} (P : Program) (E : EnvO) : Code → Tmps → Mem → List OS → (Ex → Tmps → Mem → List OS → Option R) → Option R
  | .skip, t, m, O, K => K .normal t m O
  | .seq a b, t, m, O, K => evO P E a t m O fun e t' m' O' => match e with | .normal => evO P E b t' m' O' K | e => K e t' m' O'
  | .cond c x y, t, m, O, K => match opnd t c with
    | .bool b => bif b then evO P E x t m O K else evO P E y t m O K
    | _ => none
  | .block id body, t, m, O, K => evO P E body t m O fun e t' m' O' => match e with | .exit i => if i = id then K .normal t' m' O' else K (.exit i) t' m' O' | e => K e t' m' O'
  | .loop body, t, m, O, K =>
    match loopOL (fun t m O => evO P E body (clean (E.E.lv (firstRegion body)) t m).1 (clean (E.E.lv (firstRegion body)) t m).2 O (fun e t m O => some (e, t, m, O))) t m O with
    | some (e, t', m', O') => K e t' m' O'
    | none => none
  | .exit id, t, m, O, K => K (.exit id) t m O
  | .ret, t, m, O, K => K .ret t m O
  | .region id ops draw, t, m, O, K => evReg P E id ops draw t m O fun t m O => K .normal t m O
  | _, _, _, _, _ => none

section
variable {P : Program} {c c' c2 : Cfg} {w w' w2 : World} {m m2 : Mem} {t t' t2 : Tmps} {a a' : Act} {o0 : Own} {w0 : World} {c0 : Cfg} {O O' : List OS} {ops : Array Oper}

theorem tailOk_size (ops : Array Oper) : tailOk ops ops.size = true := by
  unfold tailOk
  rw [List.all_eq_true]
  intro i hi
  have : i < ops.size := by simpa using hi
  simp [this]
theorem take_size (ops : Array Oper) : ops.toList.take ops.size = ops.toList := List.take_of_length_le (by simp)
theorem disj_spec {l k : List Nat} (h : disj l k = true) {s : Nat} (hs : s ∈ l) : s ∉ k := by
  have := List.all_eq_true.1 h s hs
  simpa using this
theorem drop_two {l : List Oper} {n : Nat} {x y : Oper} (h : ops.toList.drop n = [x, y]) : ops[n]? = some x ∧ ops[n + 1]? = some y ∧ n + 2 = ops.size := by
  have h1 := congrArg (fun l => l[0]?) h
  have h2 := congrArg (fun l => l[1]?) h
  have h3 := congrArg List.length h
  simp only [List.getElem?_drop, List.length_drop, List.length_cons, List.length_nil, Array.length_toList] at h1 h2 h3
  refine ⟨by simpa using h1, by simpa using h2, by omega⟩
/-- Slices of one's own stand in slots of the plan. -/
def InSlots (l : List Nat) (O : List OS) : Prop := ∀ s ∈ O, s.slot ∈ l
theorem InSlots.set {l : List Nat} {o : OS} (h : InSlots l O) (ho : o.slot ∈ l) : InSlots l (setO O o) := fun s hs => by
  rcases List.mem_cons.1 hs with rfl | hs
  · exact ho
  · exact h s (dropO_mem hs).1
theorem SRO.plain {N : Nat} (h : SRO P N o0 w0 c0 c w t m O a) {l : List Nat} (h2 : SR P N c' w' t' m2 a') (e : Evo c.own w c'.own w') (hl : Low c c') (hf : Frame l a a') (hO : ∀ s ∈ O, s.slot ∉ l) : SRO P N o0 w0 c0 c' w' t' m2 O a' where
  sr := h2
  ev := h.ev.trans e
  low := h.low.trans hl
  ow := by
    obtain ⟨gs, k1, k2⟩ := h.ow
    exact ⟨gs, fun s hs => by rw [hf _ (hO s hs)]; exact (k1 s hs).evo e, k2⟩

theorem storeParts_spec {x : Nat} {l : List Oper} {ty ty2 : TypeId} {ix xv : Operand} {p : Nat} (h : storeParts x l = some (ty, ix, p, ty2, xv)) : ∃ oi os : Oper, l = [oi, os] ∧ oi.dst = some p ∧ oi.op = .indexAddr ty (.tmp x) ix ∧ oi.guard = none ∧ os.dst = none ∧ os.op = .store ty2 (.tmp p) xv ∧ os.guard = none := by
  unfold storeParts at h
  split at h
  · split at h
    · rename_i hc
      obtain ⟨rfl, rfl⟩ := hc
      simp only [Option.some.injEq, Prod.mk.injEq] at h
      obtain ⟨rfl, rfl, rfl, rfl, rfl⟩ := h
      exact ⟨_, _, rfl, rfl, rfl, rfl, rfl, rfl, rfl⟩
    · simp at h
  · simp at h
theorem appParts_spec {s x : Nat} {l : List Oper} {t1 t2 : TypeId} {y : Operand} {d : Nat} (h : appParts s x l = some (t1, t2, y, d)) : ∃ oa ob : Oper, l = [oa, ob] ∧ oa.dst = some d ∧ oa.op = .call { callee := .builtin .append, args := #[.tmp x, y], argTypes := #[t1, t2] } ∧ oa.guard = none ∧ ob.dst = some s ∧ ob.op = .assign (.tmp d) ∧ ob.guard = none := by
  unfold appParts at h
  split at h
  · split at h
    · rename_i hc
      obtain ⟨rfl, rfl, rfl⟩ := hc
      simp only [Option.some.injEq, Prod.mk.injEq] at h
      obtain ⟨rfl, rfl, rfl, rfl⟩ := h
      exact ⟨_, _, rfl, rfl, rfl, rfl, rfl, rfl, rfl⟩
    · simp at h
  · simp at h
theorem freshParts_spec {s : Nat} {l : List Oper} {f : FuncId} {args : Array Operand} {d : Nat} (h : freshParts s l = some (f, args, d)) : ∃ (oa ob : Oper) (tys : Array TypeId), l = [oa, ob] ∧ oa.dst = some d ∧ oa.op = .call { callee := .value (.func f), args := args, argTypes := tys } ∧ oa.guard = none ∧ ob.dst = some s ∧ ob.op = .assign (.tmp d) ∧ ob.guard = none := by
  unfold freshParts at h
  split at h
  · split at h
    · rename_i hc
      obtain ⟨rfl, rfl⟩ := hc
      simp only [Option.some.injEq, Prod.mk.injEq] at h
      obtain ⟨rfl, rfl, rfl⟩ := h
      exact ⟨_, _, _, rfl, rfl, rfl, rfl, rfl, rfl, rfl⟩
    · simp at h
  · simp at h

theorem madeParts_spec {s : Nat} {l : List Oper} {ty : TypeId} {len : Nat} {ps : Array (Nat × Operand)} {d : Nat} (h : madeParts s l = some (ty, len, ps, d)) : ∃ oa ob : Oper, l = [oa, ob] ∧ oa.dst = some d ∧ oa.op = .buildSlice ty len ps ∧ oa.guard = none ∧ ob.dst = some s ∧ ob.op = .assign (.tmp d) ∧ ob.guard = none := by
  unfold madeParts at h
  split at h
  · split at h
    · rename_i hc
      obtain ⟨rfl, rfl⟩ := hc
      simp only [Option.some.injEq, Prod.mk.injEq] at h
      obtain ⟨rfl, rfl, rfl, rfl⟩ := h
      exact ⟨_, _, rfl, rfl, rfl, rfl, rfl, rfl, rfl⟩
    · simp at h
  · simp at h
theorem inplParts_spec {x : Nat} {l : List Oper} {f : FuncId} {d : Nat} (h : inplParts x l = some (f, d)) : ∃ (oa : Oper) (tys : Array TypeId), l = [oa] ∧ oa.dst = some d ∧ oa.op = .call { callee := .value (.func f), args := #[.tmp x], argTypes := tys } ∧ oa.guard = none := by
  unfold inplParts at h
  split at h
  · split at h
    · rename_i hc
      subst hc
      simp only [Option.some.injEq, Prod.mk.injEq] at h
      obtain ⟨rfl, rfl⟩ := h
      exact ⟨_, _, rfl, rfl, rfl, rfl⟩
    · simp at h
  · simp at h
theorem drop_one {l : List Oper} {n : Nat} {x : Oper} (h : ops.toList.drop n = [x]) : ops[n]? = some x ∧ n + 1 = ops.size := by
  have h1 := congrArg (fun l => l[0]?) h
  have h3 := congrArg List.length h
  simp only [List.getElem?_drop, List.length_drop, List.length_cons, List.length_nil, Array.length_toList] at h1 h3
  refine ⟨by simpa using h1, by omega⟩
theorem getO_slot {s : Nat} {o : OS} (h : getO O s = some o) : o = ⟨s, o.z, o.els⟩ := by
  obtain ⟨_, h2⟩ := getO_mem h
  cases o
  simp only at h2
  rw [h2]

theorem appK_spec {R : Type} {strict : Bool} {base : Option (Nat × List (List AV))} {ty1 ty2 : TypeId} {y : AV} {K : Nat → List (List AV) → Option R} {r : R} (h : appK P strict base ty1 ty2 y K = some r) :
    ∃ z els news tok e e2 b zv, base = some (z, els) ∧ y = .sl z news tok ∧ elemT P ty1 = some e ∧ elemT P ty2 = some e2 ∧ tbytes P e = some b ∧ zeroOf P e = some zv ∧ tsz P e = some z ∧ b ≠ 0 ∧ z ≠ 0 ∧ zv.isVal = true ∧ zv.cells.length = z ∧
      (els.length + news.length) * b ≤ 70368744177664 ∧ allScalar news = true ∧ (news.isEmpty = false ∨ strict = false ∧ els.isEmpty = true) ∧ K z (els ++ news) = some r := by
  unfold appK at h
  split at h
  case h_2 => simp at h
  rename_i z els s2 news tok e e2 h1 h2
  split at h
  case h_2 => simp at h
  rename_i b zv h3 h4
  split at h
  case isFalse => simp at h
  rename_i hc
  obtain ⟨⟨q1, rfl, q2, q3, q4, q5⟩, q6, q7, q8⟩ := hc
  exact ⟨_, els, news, tok, e, e2, b, zv, rfl, rfl, h1, h2, h3, h4, q1, q2, q3, q4, q5, q6, q7, q8, h⟩
theorem not_contains {l : List Nat} {p : Nat} (h : (!l.contains p) = true) : p ∉ l := by simpa using h

theorem evReg_sound {R : Type} {E : EnvO} {id : Nat} {draw : Bool} {K : Tmps → Mem → List OS → Option R} {r : R} {Q : Exit → Act → World → Prop} (hf : P.follows .mixedOrders = true) (hS : Sound P E.E.C) (hF : FreshSound P E.fresh ∧ TurnSound P E.turn) (hok : regOk E id ops draw = true)
    (h : evReg P E id ops draw t m O K = some r) (hR : SRO P E.E.N o0 w0 c0 c w t m O a) (hI : InSlots E.slots O)
    (hQ : ∀ t' m' O' c' a' w', K t' m' O' = some r → SRO P E.E.N o0 w0 c0 c' w' t' m' O' a' → InSlots E.slots O' → Q .normal a' w') : (Code.region id ops draw).wp P Q a w := by
  unfold regOk at hok
  rw [Bool.and_eq_true] at hok
  obtain ⟨hdr, hok⟩ := hok
  have hdr' : draw = true → drawOk ops (E.E.lv (1000000 + id)) = true := fun hd => by
    rw [hd] at hdr; simpa using hdr
  have htake := take_size ops
  have hnil : ∀ (a' : Act) (w' : World), Q .normal a' w' → wpOps P ops Q (List.range' ops.size (ops.size - ops.size)) a' w' := fun a' w' h => by
    rw [Nat.sub_self]; exact h
  unfold evReg at h
  generalize hk : E.kind id = kd at hok h
  cases kd with
  | plain =>
    simp only [Bool.and_eq_true, decide_eq_true_eq] at hok h
    obtain ⟨hn, hdj⟩ := hok
    rw [← htake] at h
    refine region_run hf hS hdr' (Nat.le_refl _) (fun _ => tailOk_size ops) hn h hR.sr fun t' m' c' a' w' hK hR' e l hTr => hnil _ _ ?_
    exact hQ _ _ _ _ _ _ hK (hR.plain hR' e l hTr.frame fun s hs => disj_spec hdj (hI s hs)) hI
  | give =>
    simp only [decide_eq_true_eq] at hok h
    obtain ⟨c1, hR1⟩ := own_give hR
    rw [← htake] at h
    refine region_run hf hS hdr' (Nat.le_refl _) (fun _ => tailOk_size ops) hok h hR1.sr fun t' m' c' a' w' hK hR' e l hTr => hnil _ _ ?_
    exact hQ _ _ _ _ _ _ hK (hR1.plain hR' e l hTr.frame (by simp)) (by intro s hs; simp at hs)
  | view =>
    simp only [Bool.and_eq_true, decide_eq_true_eq] at hok h
    obtain ⟨hn, hdj⟩ := hok
    rw [← htake] at h
    refine region_run hf hS hdr' (Nat.le_refl _) (fun _ => tailOk_size ops) hn h (view_start hR) fun t' m' c' a' w' hK hR' e l hTr => hnil _ _ ?_
    exact hQ _ _ _ _ _ _ hK (view_end hR hR' e hTr.frame fun s hs => disj_spec hdj (hI s hs)) hI
  | born s z =>
    simp only [Bool.and_eq_true, decide_eq_true_eq] at hok h
    obtain ⟨⟨hn, hdj⟩, hs⟩ := hok
    have hs' : s ∈ E.slots := by simpa using hs
    rw [← htake] at h
    refine region_run hf hS hdr' (Nat.le_refl _) (fun _ => tailOk_size ops) hn h hR.sr fun t' m' c' a' w' hK hR' e l hTr => hnil _ _ ?_
    split at hK
    · rename_i zz ht
      -- the slice that stood there is forgotten
      have hR2 : SRO P E.E.N o0 w0 c0 c' w' t' m' (dropO O s) a' := by
        obtain ⟨gs, k1, k2⟩ := hR.ow
        refine ⟨hR', hR.ev.trans e, hR.low.trans l, gs, fun o ho => ?_, fun o ho o' ho' => k2 o (dropO_mem ho).1 o' (dropO_mem ho').1⟩
        obtain ⟨q1, q2⟩ := dropO_mem ho
        rw [hTr.frame _ (disj_spec hdj (List.mem_filter.2 ⟨hI o q1, by simpa using q2⟩))]
        exact (k1 o q1).evo e
      have h3 := own_born (z := z) hR2 ht
      have hdd : dropO (dropO O s) s = dropO O s := by
        have : ∀ O : List OS, dropO (dropO O s) s = dropO O s := fun O => by
          induction O with
          | nil => rfl
          | cons x r ih =>
            by_cases hx : x.slot = s
            · simp [dropO, hx, ih]
            · simp [dropO, hx, ih]
        exact this O
      have h4 : setO (dropO O s) ⟨s, z, []⟩ = setO O ⟨s, z, []⟩ := by unfold setO; rw [hdd]
      rw [h4] at h3
      exact hQ _ _ _ _ _ _ hK h3 (hI.set hs')
    · simp at hK
  | store s x =>
    simp only at hok h
    split at hok
    · rename_i ty ix p ty2 xv hp
      rw [hp] at h
      simp only [Bool.and_eq_true, decide_eq_true_eq] at hok h
      obtain ⟨⟨⟨⟨⟨⟨⟨⟨h2, hn⟩, hdj⟩, hpn⟩, htl⟩, hcp⟩, hpN⟩, hnt⟩, hs⟩ := hok
      obtain ⟨oi, os, hl, q1, q2, q3, q4, q5, q6⟩ := storeParts_spec hp
      obtain ⟨i1, i2, i3⟩ := drop_two (l := []) hl
      have htl' : draw = true → tailOk ops (ops.size - 2) = true := fun hd => by rw [hd] at htl; simpa using htl
      refine region_run hf hS hdr' (by omega) htl' hn h (view_start hR) fun t' m' c' a' w' hK hR' e l hTr => ?_
      unfold storeK at hK
      split at hK
      · rename_i o kd k ho hix
        split at hK
        · rename_i hc
          obtain ⟨⟨r1, r2⟩, r3, r4, r5, r6, r7, r8⟩ := hc
          obtain ⟨e1, r9, r10⟩ := Option.bind_eq_some_iff.1 r3
          have hso := getO_slot ho
          have hss : o.slot = s := (getO_mem ho).2
          rw [hss] at hK
          exact own_store hR hR' e hTr (fun s' hs' => disj_spec hdj (hI s' hs')) (fun s' hs' he => not_contains hpn (by rw [← he]; exact hI s' hs')) hcp i3 i1 i2 q3 q6 q1 q4 q2 q5
            (fun he => by rw [he] at hnt; simp [notTmp] at hnt) hpN ho hix r1 r2 r9 r10 r4 r5 r6 r7 r8 fun c'' a'' w'' hS'' => hQ _ _ _ _ _ _ hK hS'' (hI.set (by simpa using hs))
        · simp at hK
      · simp at hK
    · simp at hok
  | app s x =>
    simp only at hok h
    split at hok
    · rename_i ty1 ty2 y d hp
      rw [hp] at h
      simp only [Bool.and_eq_true, decide_eq_true_eq] at hok h
      obtain ⟨⟨⟨⟨⟨⟨⟨⟨h2, hn⟩, hdj⟩, hpn⟩, htl⟩, hcp⟩, hdN⟩, hsN⟩, hs⟩ := hok
      obtain ⟨oa, ob, hl, q1, q2, q3, q4, q5, q6⟩ := appParts_spec hp
      obtain ⟨i1, i2, i3⟩ := drop_two (l := []) hl
      have htl' : draw = true → tailOk ops (ops.size - 2) = true := fun hd => by rw [hd] at htl; simpa using htl
      refine region_run hf hS hdr' (by omega) htl' hn h (view_start hR) fun t' m' c' a' w' hK hR' e l hTr => ?_
      obtain ⟨z, els, news, tok, e1, e2, b, zv, r1, r2, r3, r4, r5, r6, r7, r8, r9, r10, r11, r12, r13, r14, r15⟩ := appK_spec hK
      obtain ⟨o, ho, ho2⟩ := Option.map_eq_some_iff.1 r1
      simp only [Prod.mk.injEq] at ho2
      have hso := getO_slot ho
      obtain ⟨rfl, rfl⟩ := ho2
      by_cases hne : news = []
      · subst hne
        simp at r14
      · have hs' : s ∈ E.slots := by simpa using hs
        exact own_app hR hR' e hTr (fun s' hs' => disj_spec hdj (hI s' hs')) (fun s' hs' he => not_contains hpn (by rw [← he]; exact hI s' hs')) (fun he => not_contains hpn (by rw [← he]; exact hs')) (.inl ⟨hcp, by rw [ho, hso]⟩) i3 i1 i2 q3 q6 q1 q4 q2 q5 hdN hsN r2 hne r3 r4 r7.symm r7 r5 r6 r8 r9 r10 r11 r12 r13
          fun c'' a'' w'' hS'' => hQ _ _ _ _ _ _ r15 hS'' (hI.set hs')
    · simp at hok
  | app0 s x =>
    simp only at hok h
    split at hok
    · rename_i ty1 ty2 y d hp
      rw [hp] at h
      simp only [Bool.and_eq_true, decide_eq_true_eq] at hok h
      obtain ⟨⟨⟨⟨⟨⟨⟨h2, hn⟩, hdj⟩, hpn⟩, htl⟩, hdN⟩, hsN⟩, hs⟩ := hok
      have hs' : s ∈ E.slots := by simpa using hs
      obtain ⟨oa, ob, hl, q1, q2, q3, q4, q5, q6⟩ := appParts_spec hp
      obtain ⟨i1, i2, i3⟩ := drop_two (l := []) hl
      have htl' : draw = true → tailOk ops (ops.size - 2) = true := fun hd => by rw [hd] at htl; simpa using htl
      refine region_run hf hS hdr' (by omega) htl' hn h (view_start hR) fun t' m' c' a' w' hK hR' e l hTr => ?_
      obtain ⟨z, els, news, tok, e1, e2, b, zv, r1, r2, r3, r4, r5, r6, r7, r8, r9, r10, r11, r12, r13, r14, r15⟩ := appK_spec hK
      have hx : els = [] ∧ ∃ zz tk, t' x = .sl zz [] tk ∧ (tk = .nil ∨ tk = .clip) := by
        unfold base0 at r1
        split at r1
        · rename_i zz hx
          obtain ⟨z', _, hz2⟩ := Option.map_eq_some_iff.1 r1
          simp only [Prod.mk.injEq] at hz2
          exact ⟨hz2.2.symm, zz, _, hx, .inl rfl⟩
        · rename_i zz hx
          obtain ⟨z', _, hz2⟩ := Option.map_eq_some_iff.1 r1
          simp only [Prod.mk.injEq] at hz2
          exact ⟨hz2.2.symm, zz, _, hx, .inr rfl⟩
        · simp at r1
      by_cases hne : news = []
      · subst hne
        obtain ⟨rfl, zz, tk, hx1, hx2⟩ := hx
        exact own_app_nil hR hR' e hTr (fun s' hs' => disj_spec hdj (hI s' hs')) (fun s' hs' he => not_contains hpn (by rw [← he]; exact hI s' hs')) hx1 hx2 i3 i1 i2 q3 q6 q1 q4 q2 q5 hdN hsN r2 r3 r4 r7
          fun c'' a'' w'' hS'' => hQ _ _ _ _ _ _ r15 hS'' (hI.set hs')
      · exact own_app hR hR' e hTr (fun s' hs' => disj_spec hdj (hI s' hs')) (fun s' hs' he => not_contains hpn (by rw [← he]; exact hI s' hs')) (fun he => not_contains hpn (by rw [← he]; exact hs')) (.inr hx) i3 i1 i2 q3 q6 q1 q4 q2 q5 hdN hsN r2 hne r3 r4 r7.symm r7 r5 r6 r8 r9 r10 r11 r12 r13
          fun c'' a'' w'' hS'' => hQ _ _ _ _ _ _ r15 hS'' (hI.set hs')
    · simp at hok
  | fresh s =>
    simp only at hok h
    split at hok
    · rename_i f args d hp
      rw [hp] at h
      simp only [Bool.and_eq_true, decide_eq_true_eq] at hok h
      obtain ⟨⟨⟨⟨⟨⟨⟨h2, hn⟩, hdj⟩, hpn⟩, htl⟩, hdN⟩, hsN⟩, hs⟩ := hok
      have hs' : s ∈ E.slots := by simpa using hs
      obtain ⟨oa, ob, tys, hl, q1, q2, q3, q4, q5, q6⟩ := freshParts_spec hp
      obtain ⟨i1, i2, i3⟩ := drop_two (l := []) hl
      have htl' : draw = true → tailOk ops (ops.size - 2) = true := fun hd => by rw [hd] at htl; simpa using htl
      refine region_run hf hS hdr' (by omega) htl' hn h (view_start hR) fun t' m' c' a' w' hK hR' e l hTr => ?_
      split at hK
      · rename_i z els hfr
        split at hK
        · rename_i hsc
          exact own_fresh hR hR' e hTr (fun s' hs' => disj_spec hdj (hI s' hs')) (fun s' hs' he => not_contains hpn (by rw [← he]; exact hI s' hs')) (hF.1 _ _ _ _ hfr) i3 i1 i2 q3 q6 q1 q4 q2 q5 hdN hsN hsc
            fun c'' a'' w'' hS'' => hQ _ _ _ _ _ _ hK hS'' (hI.set hs')
        · simp at hK
      · simp at hK
    · simp at hok
  | made s =>
    simp only at hok h
    split at hok
    · rename_i ty len ps d hp
      rw [hp] at h
      simp only [Bool.and_eq_true, decide_eq_true_eq] at hok h
      obtain ⟨⟨⟨⟨⟨⟨⟨h2, hn⟩, hdj⟩, hpn⟩, htl⟩, hdN⟩, hsN⟩, hs⟩ := hok
      have hs' : s ∈ E.slots := by simpa using hs
      obtain ⟨oa, ob, hl, q1, q2, q3, q4, q5, q6⟩ := madeParts_spec hp
      obtain ⟨i1, i2, i3⟩ := drop_two (l := []) hl
      have htl' : draw = true → tailOk ops (ops.size - 2) = true := fun hd => by rw [hd] at htl; simpa using htl
      refine region_run hf hS hdr' (by omega) htl' hn h (view_start hR) fun t' m' c' a' w' hK hR' e l hTr => ?_
      unfold madeK at hK
      split at hK
      · rename_i e1 he1
        split at hK
        · rename_i z zv hz hzv
          split at hK
          · rename_i hc
            obtain ⟨⟨r1, r2, r3, r4⟩, r5, r6, r7⟩ := hc
            exact own_made hR hR' e hTr (fun s' hs' => disj_spec hdj (hI s' hs')) (fun s' hs' he => not_contains hpn (by rw [← he]; exact hI s' hs')) i3 i1 i2 q3 q6 q1 q4 q2 q5 hdN hsN he1 hz hzv r1 r2 r3 r4 r5 r6 r7
              fun c'' a'' w'' hS'' => hQ _ _ _ _ _ _ hK hS'' (hI.set hs')
          · simp at hK
        · simp at hK
      · simp at hK
    · simp at hok
  | inpl s x =>
    simp only at hok h
    split at hok
    · rename_i f d hp
      rw [hp] at h
      simp only [Bool.and_eq_true, decide_eq_true_eq] at hok h
      obtain ⟨⟨⟨⟨⟨⟨⟨h2, hn⟩, hdj⟩, hpn⟩, htl⟩, hcp⟩, hdN⟩, hs⟩ := hok
      have hs' : s ∈ E.slots := by simpa using hs
      obtain ⟨oa, tys, hl, q1, q2, q3⟩ := inplParts_spec hp
      obtain ⟨i1, i3⟩ := drop_one (l := []) hl
      have htl' : draw = true → tailOk ops (ops.size - 1) = true := fun hd => by rw [hd] at htl; simpa using htl
      refine region_run hf hS hdr' (by omega) htl' hn h (view_start hR) fun t' m' c' a' w' hK hR' e l hTr => ?_
      unfold inplK at hK
      split at hK
      · rename_i o ho
        split at hK
        · rename_i els hels
          split at hK
          · rename_i hc
            have hss : o.slot = s := (getO_mem ho).2
            rw [hss] at hK
            exact own_inpl hR hR' e hTr (fun s' hs' => disj_spec hdj (hI s' hs')) (fun s' hs' he => not_contains hpn (by rw [← he]; exact hI s' hs')) hcp ho (hF.2 _ _ _ _ hels) (by have := hc.2.1; simpa using this) hc.2.2 i3 i1 q3 q1 q2 hdN hc.1
              fun c'' a'' w'' hS'' => hQ _ _ _ _ _ _ hK hS'' (hI.set hs')
          · simp at hK
        · simp at hK
      · simp at hK
    · simp at hok
end
end Ev
