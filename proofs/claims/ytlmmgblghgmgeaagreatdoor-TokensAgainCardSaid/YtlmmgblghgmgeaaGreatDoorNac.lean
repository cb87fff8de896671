/- The texts JoinA, merged. -/
import Derived.Test.YtlmmgblghgmgeaaGreatDoorNab
import Derived.Lib.FrozenHead
import Derived.Lib.OthersKept
set_option linter.unusedVariables false
set_option linter.unusedSimpArgs false
/- Text behind a strings.Builder: what is of no program: pieces that the evaluator walks, and steps by hand between them. -/
set_option linter.unusedVariables false
set_option linter.unusedSimpArgs false
namespace Ev
open Go Go.RowKit
section
variable {P : Program} {c c' : Cfg} {w w' : World} {m m' : Mem} {t t' : Tmps} {a a' : Act} {C : Oracle} {ro : FuncId → Bool} {N : Nat} {ops : Array Oper}

def noMem : Mem := { boxes := ofB [], names := namesOf (cellsOfB []) }
theorem noMem_rel (w : World) : MemRel noCfg noMem w :=
  ⟨fun id => rfl, fun id bx g h => by simp [noMem, ofB] at h, fun id id' g h => by simp [noCfg] at h, fun p q => rfl, fun p q g e h => by simp [noCfg] at h, fun p q p' q' g e e' h => by simp [noCfg] at h, fun p q g e id h => by simp [noCfg] at h, fun g off h => h.elim⟩
theorem T_upd {d : Nat} {x : AV} {tm : Array Value} (h : ∀ i, T c w (t i) (tm.getD i undef)) (hd : T c w x (tm.getD d undef)) : ∀ i, T c w (upd t d x i) (tm.getD i undef) := fun i => by
  simp only [upd_apply]
  split
  · rename_i he; subst he; exact hd
  · exact h i
theorem T_none {tm : Array Value} : ∀ i, T c w ((fun _ => AV.undef : Tmps) i) (tm.getD i undef) := fun i => .of_V (.undef _)
/-- A state that knows some slots, begun anew. -/
theorem SR.start (hG : Gl P noOwn w) (hT : ∀ i, Ev.T noCfg w (t i) (a.tmps.getD i undef)) (hd : a.defers = []) (hs : N ≤ a.tmps.size) : SR P N noCfg w t noMem a := ⟨hT, noMem_rel w, hG, hd, hs⟩
theorem Gl.below (hG : Gl P noOwn w) (hb : Below w.heap.size w w') : Gl P noOwn w' := hG.mono (.below hb)

/-- Three pieces that the evaluator walks, and what comes behind. -/
theorem seq3_ev (hf : P.follows .mixedOrders = true) {E : Env} (hS : Sound P E.C) {x y z s : Code} (hok : codeOk E.lv (.seq x (.seq y z)) = true) {R : Type} {K : Ex → Tmps → Mem → Option R} {r : R} {Q : Exit → Act → World → Prop}
    (h : evCode P E (.seq x (.seq y z)) t m K = some r) (hR : SR P E.N c w t m a)
    (hQ : ∀ e t' m' c' a' w', K e t' m' = some r → SR P E.N c' w' t' m' a' → Evo c.own w c'.own w' → (e = .normal → s.wp P Q a' w') ∧ (e ≠ .normal → Q (exOf e) a' w')) : (Code.seq x (.seq y (.seq z s))).wp P Q a w := by
  simp only [codeOk, Bool.and_eq_true] at hok
  simp only [evCode] at h
  refine wp_seq (code_sound (drawSound hf) hf E hS x hok.1 t m _ r h c a w hR _ fun e t1 m1 c1 a1 w1 h1 hR1 e1 l1 => ?_)
  cases e with
  | exit id => exact (hQ _ _ _ _ _ _ h1 hR1 e1).2 (by simp)
  | ret => exact (hQ _ _ _ _ _ _ h1 hR1 e1).2 (by simp)
  | normal =>
    refine wp_seq (code_sound (drawSound hf) hf E hS y hok.2.1 t1 m1 _ r h1 c1 a1 w1 hR1 _ fun e t2 m2 c2 a2 w2 h2 hR2 e2 l2 => ?_)
    cases e with
    | exit id => exact (hQ _ _ _ _ _ _ h2 hR2 (e1.trans e2)).2 (by simp)
    | ret => exact (hQ _ _ _ _ _ _ h2 hR2 (e1.trans e2)).2 (by simp)
    | normal =>
      refine wp_seq (code_sound (drawSound hf) hf E hS z hok.2.2 t2 m2 _ r h2 c2 a2 w2 hR2 _ fun e t3 m3 c3 a3 w3 h3 hR3 e3 l3 => ?_)
      obtain ⟨q1, q2⟩ := hQ e t3 m3 c3 a3 w3 h3 hR3 (e1.trans (e2.trans e3))
      cases e with
      | exit id => exact q2 (by simp)
      | ret => exact q2 (by simp)
      | normal => exact q1 rfl

/-- A statement that the evaluator walks; slots that it does not write stay. -/
theorem region_ev {id : Nat} {draw : Bool} {hk : Keep} {R : Type} {r : R} {K : Tmps → Mem → Option R} {Q : Exit → Act → World → Prop} (hf : P.follows .mixedOrders = true) (hS : Sound P C) (hok : draw = true → drawOk ops hk = true) (hnd : (dn ops ops.size).Nodup)
    (h : evOps P C ro (if draw then some (dsts ops, hk) else none) N ops ops.toList t m K = some r) (hR : SR P N c w t m a)
    (hQ : ∀ t' m' c' a' w', K t' m' = some r → SR P N c' w' t' m' a' → Evo c.own w c'.own w' → Frame (dn ops ops.size) a a' → Q .normal a' w') : (Code.region id ops draw).wp P Q a w := by
  rw [← take_size ops] at h
  refine region_run hf hS hok (Nat.le_refl _) (fun _ => tailOk_size ops) hnd h hR fun t' m' c' a' w' hK hR' e l hTr => ?_
  rw [Nat.sub_self]
  exact hQ _ _ _ _ _ hK hR' e hTr.frame
/-- A statement that the evaluator walks; and what it copies. -/
theorem region_tr {id : Nat} {draw : Bool} {hk : Keep} {R : Type} {r : R} {K : Tmps → Mem → Option R} {Q : Exit → Act → World → Prop} (hf : P.follows .mixedOrders = true) (hS : Sound P C) (hok : draw = true → drawOk ops hk = true) (hnd : (dn ops ops.size).Nodup)
    (h : evOps P C ro (if draw then some (dsts ops, hk) else none) N ops ops.toList t m K = some r) (hR : SR P N c w t m a)
    (hQ : ∀ t' m' c' a' w', K t' m' = some r → SR P N c' w' t' m' a' → Evo c.own w c'.own w' → Track ops ops.size (fun _ => True) a a' → Q .normal a' w') : (Code.region id ops draw).wp P Q a w := by
  rw [← take_size ops] at h
  refine region_run hf hS hok (Nat.le_refl _) (fun _ => tailOk_size ops) hnd h hR fun t' m' c' a' w' hK hR' e l hTr => ?_
  rw [Nat.sub_self]
  exact hQ _ _ _ _ _ hK hR' e hTr
/-- The first of a statement's operations, in the text's order. -/
theorem region_head {id n : Nat} {R : Type} {r : R} {K : Tmps → Mem → Option R} {Q : Exit → Act → World → Prop} (hf : P.follows .mixedOrders = true) (hS : Sound P C) (hn : n ≤ ops.size) (hnd : (dn ops n).Nodup)
    (h : evOps P C ro none N ops (ops.toList.take n) t m K = some r) (hR : SR P N c w t m a)
    (hQ : ∀ t' m' c' a' w', K t' m' = some r → SR P N c' w' t' m' a' → Evo c.own w c'.own w' → Frame (dn ops n) a a' → wpOps P ops Q (List.range' n (ops.size - n)) a' w') : (Code.region id ops false).wp P Q a w :=
  region_run (hk := noKeep) hf hS (by simp) hn (by simp) hnd h hR fun t' m' c' a' w' hK hR' e l hTr => hQ _ _ _ _ _ hK hR' e hTr.frame

/-- A call of a function by its name. -/
theorem wpOp_call {i : Nat} {o : Oper} {f : FuncId} {args : Array Operand} {tys : Array TypeId} {Q : Exit → Act → World → Prop} {K : Act → World → Prop} (hi : ops[i]? = some o) (hg : o.guard = none)
    (hop : o.op = .call { callee := .value (.func f), args := args, argTypes := tys }) (hcall : ∀ (vs : Array Value) (w : World), (callFunc f vs).run P w = .ok (.enter f vs) w)
    (hK : Calls P f (args.map a.eval) w fun e w'' => ∃ v, e = .returned v ∧ K (a.put o.dst v) w'') : wpOp P ops Q i K a w := by
  refine wpOp_enter hi hg ?_ hK
  obtain ⟨dst, op, type, pos, aft, guard⟩ := o
  simp only at hop
  subst hop
  have hfv : a.eval (.func f) = .func (.func f) #[] #[] := rfl
  have := hcall (args.map a.eval) w
  simpa [execOp, resolve, hfv, Deferred.ofValue, invoke] using this

/-- A variable's box, made and filled, by hand: so that its type is known. -/
theorem box_tail {n d q s v : Nat} {e : TypeId} {o1 o2 o3 : Oper} {X z : AV} {Q : Exit → Act → World → Prop} (hsz : n + 3 = ops.size) (h1 : ops[n]? = some o1) (h2 : ops[n + 1]? = some o2) (h3 : ops[n + 2]? = some o3)
    (g1 : o1.guard = none) (g2 : o2.guard = none) (g3 : o3.guard = none) (d1 : o1.dst = some d) (d2 : o2.dst = some q) (d3 : o3.dst = none) (p1 : o1.op = .alloc e) (p2 : o2.op = .assign (.tmp s)) (p3 : o3.op = .store e (.tmp d) (.tmp v))
    (hdq : d ≠ q) (hds : d ≠ s) (hdv : d ≠ v) (hqv : q ≠ v) (hd : d < a.tmps.size) (hq : q < a.tmps.size) (hz : zeroOf P e = some z) (hzval : z.isVal = true) (hzl : tsz P e = some z.cells.length)
    (hX : T c w X (a.tmps.getD v undef)) (hXv : X.isVal = true) (hXl : X.cells.length = z.cells.length)
    (hQ : ∀ (a' : Act) (w' : World) (cs : Array Value), (∀ i, i ≠ d → i ≠ q → a'.tmps.getD i undef = a.tmps.getD i undef) → a'.tmps.getD d undef = .pointer (some ⟨w.heap.size, 0, none⟩) → a'.tmps.getD q undef = a.tmps.getD s undef → a'.defers = a.defers → a'.tmps.size = a.tmps.size →
      Below w.heap.size w w' → w'.heap[w.heap.size]? = some (.cells cs e (0, 0)) → CR c.own w X.cells cs → Q .normal a' w') : wpOps P ops Q (List.range' n (ops.size - n)) a w := by
  rw [show ops.size - n = 3 by omega]
  show wpOps P ops Q [n, n + 1, n + 2] a w
  obtain ⟨zv, rfl, hzr⟩ := run_zero hz
  have hzc := V.cells hzval (V_ofValue c.own w zv)
  rw [wpOps_cons]
  refine wpOp_value (v := .pointer (some ⟨w.heap.size, 0, none⟩)) (w' := w.alloc (.cells zv.cells e)) h1 g1 (by unfold execOp; rw [p1]; simp [Instr.alloc, hzr, newVar, newRow]) ?_
  rw [d1, wpOps_cons]
  have hs1 : (a.put (some d) (.pointer (some ⟨w.heap.size, 0, none⟩))).tmps.getD s undef = a.tmps.getD s undef := put_getD fun he => hds (Option.some.inj he)
  refine wpOp_value (v := a.tmps.getD s undef) (w' := w.alloc (.cells zv.cells e)) h2 g2 (by
    unfold execOp
    rw [p2]
    have : (a.put (some d) (.pointer (some ⟨w.heap.size, 0, none⟩))).eval (.tmp s) = a.tmps.getD s undef := hs1
    simp [this]) ?_
  rw [d2, wpOps_cons]
  generalize hA : ((a.put (some d) (.pointer (some ⟨w.heap.size, 0, none⟩))).put (some q) (a.tmps.getD s undef)) = A
  have hAi : ∀ i, i ≠ d → i ≠ q → A.tmps.getD i undef = a.tmps.getD i undef := fun i i1 i2 => by
    rw [← hA, put_getD fun he => i2 (Option.some.inj he).symm, put_getD fun he => i1 (Option.some.inj he).symm]
  have hAd : A.tmps.getD d undef = .pointer (some ⟨w.heap.size, 0, none⟩) := by
    rw [← hA, put_getD fun he => hdq (Option.some.inj he).symm, put_same hd]
  have hAq : A.tmps.getD q undef = a.tmps.getD s undef := by
    rw [← hA]; exact put_same (by simpa [Act.put] using hq)
  have hXc := T.cells hXv hX
  generalize hU : a.tmps.getD v undef = U at hXc hX
  have hAv : A.tmps.getD v undef = U := by rw [hAi v (Ne.symm hdv) (Ne.symm hqv), hU]
  have hb0 : (w.alloc (.cells zv.cells e)).heap[w.heap.size]? = some (.cells zv.cells e (0, 0)) := heap_new w _
  obtain ⟨w3, cs', s1, s2, s3, s4, s5, s6, s7⟩ := run_storeCells (P := P) (g := w.heap.size) (el := e) U.cells.toList 0 0 (w.alloc (.cells zv.cells e)) zv.cells hb0 (by simp [hXc.1, hXl, hzc.1]) (fun u hu => by
    obtain ⟨i, hi, rfl⟩ := List.mem_iff_getElem.1 hu
    exact hXc.2.2 i _ (by simp at hi ⊢))
  have ev3 := s4 ⟨fun _ _ => True, fun _ _ => True, fun _ _ h => h⟩ fun _ _ _ => trivial
  refine wpOp_skip h3 g3 (w' := w3) ?_ ?_
  · unfold execOp
    rw [p3]
    have e1 : A.eval (.tmp d) = .pointer (some ⟨w.heap.size, 0, none⟩) := hAd
    have e2 : A.eval (.tmp v) = U := hAv
    have hsz' : (Go.sizeOf e).run P (w.alloc (.cells zv.cells e)) = .ok U.cells.size (w.alloc (.cells zv.cells e)) := by rw [hXc.1, hXl]; exact run_tsz hzl _
    simp only [Instr.storeAt, Instr.sureAddr, storeVar, e1, e2, Sem.run_bind, Sem.run_pure, Result.andThen_ok, hsz', ne_eq, not_true_eq_false, if_false, Sem.run_ite, s1]
  rw [d3]
  have hcs : cs' = U.cells := by
    refine Array.ext (by rw [s3, hzc.1, hXc.1, hXl]) fun i i1 i2 => ?_
    have := s6 i (by simpa using i2)
    simp only [Nat.zero_add] at this
    simpa [i1, i2] using this
  refine hQ A w3 cs' hAi hAd hAq (by rw [← hA]; rfl) (by rw [← hA]; simp [Act.put]) ?_ s2 (by rw [hcs]; exact hXc)
  refine ⟨ev3.os, ev3.tape, ev3.output, Nat.le_trans (by show w.heap.size ≤ (w.heap.push _).size; simp) ev3.size, fun k hk => ?_⟩
  rw [s7 k (by omega)]
  exact heap_old w _ k hk

/-- A builder stays one while the world goes on above it. -/
theorem isB_below {ty e : TypeId} {B b : Nat} {bs : List Value} (h : Lib.IsBuilderF ty e B b bs w) (hb : Below w.heap.size w w') : Lib.IsBuilderF ty e B b bs w' := by
  have key : ∀ p, Lib.BuilderAtF ty e B b p bs w → Lib.BuilderAtF ty e B b p bs w' := fun p ⟨h1, v, h2, h3, h4⟩ => by
    refine ⟨h1, v, by rw [hb.block b (lt_of_heap h2)]; exact h2, ⟨h3.1, ?_⟩, h4⟩
    rcases h3.2 with h5 | ⟨g, cap, cur, fz, h5, h6, h7, h8⟩
    · exact .inl h5
    · exact .inr ⟨g, cap, cur, fz, h5, h6, by rw [hb.block g (lt_of_heap h7)]; exact h7, h8⟩
  exact h.elim (fun h => .inl (key _ h)) (fun h => .inr (key _ h))
theorem isB_new {ty e : TypeId} {B : Nat} (hB : B ≤ w.heap.size) : Lib.IsBuilderF ty e B w.heap.size [] (w.alloc (.cells #[.pointer none, .slice none 0 0] ty)) :=
  .inl ⟨hB, .slice none 0 0, heap_new w _, World.ownsRowF_nil _ _ _ _, by simp [Value.ownBlock]⟩
/-- A box that is no row of bytes is readable behind a call of a builder's. -/
theorem eptr_kept {cells : List AV} {cs : Array Value} {el e : TypeId} {g b : Nat} {own : Own} {w0 : World} (hC : CR own w0 cells cs) (hs : cells.all AV.scalar = true) (hg : w.heap[g]? = some (.cells cs el (0, 0))) : T noCfg w (.eptr cells) (.pointer (some ⟨g, 0, none⟩)) := by
  have hv : ∀ (j : Nat) (x : AV), cells[j]? = some x → ∃ v, cs[j]? = some v ∧ V own w0 x v ∧ v.oneCell' = true := fun j x hx => by
    have hj : j < cs.size := by
      rw [hC.1]
      exact (List.getElem?_eq_some_iff.1 hx).1
    exact ⟨cs[j], by simp [hj], hC.2.1 j x _ hx (by simp [hj]), hC.2.2 j _ (by simp [hj])⟩
  refine .of_V (.eptr cells _ (fun j => cs.getD j undef) (fun j x hx => ?_) (fun j x hx => ?_) (fun j x hx => ?_))
  · obtain ⟨v, h1, _⟩ := hv j x hx
    refine ⟨?_, fun h => h⟩
    rw [add_plain, heap_cell hg, Nat.zero_add, h1]
    simp [Array.getD_eq_getD_getElem?, h1]
  · obtain ⟨v, h1, h2, _⟩ := hv j x hx
    have : cs.getD j undef = v := by simp [Array.getD_eq_getD_getElem?, h1]
    rw [this]
    exact scalar_V (List.all_eq_true.1 hs x (List.mem_of_getElem? hx)) h2
  · obtain ⟨v, h1, _, h3⟩ := hv j x hx
    have : cs.getD j undef = v := by simp [Array.getD_eq_getD_getElem?, h1]
    rw [this]; exact h3

/-- A function that leaves all that stood as it was, and hands out a text and a number. -/
theorem sim_of_below {f : FuncId} {args : List AV} {s : Str} {e : Int} (hcall : ∀ (vs : Array Value) (w : World), (callFunc f vs).run P w = .ok (.enter f vs) w) (hargs : ∀ x ∈ args, ∀ (c : Cfg) (w : World) (v : Value), T1 c w x v → V c.own w x v)
    (h : ∀ (w : World) (vs : Array Value), Gl P noOwn w → vs.size = args.length → (∀ (i : Nat) (x : AV) (v : Value), args[i]? = some x → vs[i]? = some v → V noOwn w x v) →
      Calls P f vs w fun en w' => en = .returned (.tuple #[.string ⟨s.toArray⟩, .int .i64 e]) ∧ Below w.heap.size w w') : SimCall P f args [] (.tup [.str s, .int .i64 e]) [] := by
  refine ⟨hcall, fun c w vs hM hG hsz ha => ?_⟩
  refine (h w vs (hG.weaker fun _ _ hk => hk.elim) hsz fun i x v hx hv => ?_).mono ?_
  · exact (hargs x (List.mem_of_getElem? hx) c w v (ha i x v hx hv)).keep (.less fun _ _ hk => hk.elim)
  · rintro en w' ⟨rfl, hb⟩
    refine ⟨_, c, rfl, .below hb, ?_, rfl, ?_⟩
    · have := hM.mono (c' := c) (w' := w') (.below hb) rfl rfl (fun _ _ _ h => h) (fun id g hg cs el hh => by rw [hb.block g (lt_of_heap hh)]; exact hh) (fun g off hn => Nat.lt_of_lt_of_le (hM.lt g off hn) hb.size)
      have hn : namesOf (cellsOfB [] ++ resParts (.tup [.str s, .int .i64 e])) = namesOf (cellsOfB []) := by funext p q; simp [resParts, namesOf, cellsOfB, rowName]
      rw [hn]; exact this
    · refine ⟨_, rfl, by simp, fun i x u hx hu => ?_⟩
      match i with
      | 0 => simp at hx hu; subst hx; subst hu; exact (V.str s : V c.own w' _ _)
      | 1 => simp at hx hu; subst hx; subst hu; exact (V.int _ _ : V c.own w' _ _)
      | i + 2 => simp at hx
end
end Ev
