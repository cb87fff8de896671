/- A verified evaluator, slices of one's own, part D: code. -/
import Derived.Test.YtlmmgblghgmgeaaDoorOwnC
set_option linter.unusedVariables false
set_option linter.unusedSimpArgs false
namespace Ev
open Go Go.RowKit

/-- Elements of plain values. -/
def allS (els : List (List AV)) : Prop := els.all (fun q => q.all AV.scalar) = true
/-- A value that a call has just made: a slice of its own. -/
def FreshV (w w' : World) (z : Nat) (els : List (List AV)) (v : Value) : Prop :=
  (els = [] ∧ ∃ ad, v = .slice ad 0 0) ∨ ∃ g cap cs el, v = .slice (some ⟨g, 0, none⟩) els.length cap ∧ els.length ≤ cap ∧ w.heap.size ≤ g ∧ w'.heap[g]? = some (.cells cs el (0, 0)) ∧ cap * z ≤ cs.size ∧ (∀ e ∈ els, e.length = z) ∧
    ∀ (i j : Nat) (e : List AV) (x : AV), els[i]? = some e → e[j]? = some x → ∃ u, cs[i * z + j]? = some u ∧ V noOwn w' x u ∧ u.oneCell' = true
def FreshCall (P : Program) (f : FuncId) (args : List AV) (z : Nat) (els : List (List AV)) : Prop :=
  (∀ (vs : Array Value) (w : World), (callFunc f vs).run P w = .ok (.enter f vs) w) ∧
  ∀ (w : World) (vs : Array Value), Gl P noOwn w → vs.size = args.length → (∀ (i : Nat) (x : AV) (v : Value), args[i]? = some x → vs[i]? = some v → V noOwn w x v) →
    Calls P f vs w fun e w' => ∃ v, e = .returned v ∧ Below w.heap.size w w' ∧ FreshV w w' z els v
abbrev Fresher := FuncId → List AV → Option (Nat × List (List AV))
def FreshSound (P : Program) (F : Fresher) : Prop := ∀ f args z els, F f args = some (z, els) → FreshCall P f args z els

section
variable {P : Program} {c c' c2 : Cfg} {w w' w2 : World} {m m2 : Mem} {t t' t2 : Tmps} {a a' : Act} {N : Nat} {o0 : Own} {w0 : World} {c0 : Cfg} {O O' : List OS} {ops : Array Oper}

/-- A slot takes over what stood in another. -/
theorem assign_last {n s d : Nat} {ob : Oper} {Q : Exit → Act → World → Prop} {val : Value} {w3 : World} (hs : ops[n + 1]? = some ob) (gs : ob.guard = none) (hdb : ob.dst = some s) (hob : ob.op = .assign (.tmp d)) (hd1 : d < a'.tmps.size) (hs1 : s < a'.tmps.size)
    (hQ : ∀ a'' : Act, (∀ i, i ≠ d → i ≠ s → a''.tmps.getD i undef = a'.tmps.getD i undef) → a''.tmps.getD s undef = val → a''.defers = a'.defers → a''.tmps.size = a'.tmps.size → Q .normal a'' w3) :
    wpOp P ops Q (n + 1) (wpOps P ops Q []) (a'.put (some d) val) w3 := by
  refine wpOp_value hs gs (v := val) (w' := w3) ?_ ?_
  · unfold execOp
    rw [hob]
    have : (a'.put (some d) val).eval (.tmp d) = val := put_same hd1
    simp [this]
  · rw [hdb]
    show Q .normal ((a'.put (some d) val).put (some s) val) w3
    refine hQ _ (fun i h1 h2 => ?_) ?_ rfl (by simp [Act.put])
    · rw [put_getD fun he => h2 (Option.some.inj he).symm, put_getD fun he => h1 (Option.some.inj he).symm]
    · exact put_same (by simpa [Act.put] using hs1)
theorem two_after {n d s : Nat} {a'' : Act} (hf : ∀ i, i ≠ d → i ≠ s → a''.tmps.getD i undef = a'.tmps.getD i undef) : ∀ i, upd (upd (after (dn ops n) t2 t) d .undef) s .undef i = after (dn ops n) t2 t i ∧ a''.tmps.getD i undef = a'.tmps.getD i undef ∨ upd (upd (after (dn ops n) t2 t) d .undef) s .undef i = .undef := fun i => by
  by_cases h1 : i = s
  · exact .inr (by simp [h1])
  · by_cases h2 : i = d
    · exact .inr (by simp [h2])
    · exact .inl ⟨by simp [h1, h2], hf i h2 h1⟩

/-- Nothing appended. -/
theorem own_app_nil {n s x d : Nat} {ty1 ty2 e e2 : TypeId} {y : Operand} {oa ob : Oper} {Q : Exit → Act → World → Prop} {z s2 : Nat} {tok : Tok} {zz : Nat} {tk : Tok}
    (h : SRO P N o0 w0 c0 c w t m O a) (h2 : SR P N c2 w2 t2 m2 a') (ev : Evo noOwn w c2.own w2) (hTr : Track ops n (fun _ => True) a a') (hO : ∀ o ∈ O, o.slot ∉ dn ops n) (hd : ∀ o ∈ O, o.slot ≠ d)
    (hx : t2 x = .sl zz [] tk) (htk : tk = .nil ∨ tk = .clip)
    (hsz : n + 2 = ops.size) (hi : ops[n]? = some oa) (hs : ops[n + 1]? = some ob) (gi : oa.guard = none) (gs : ob.guard = none) (hda : oa.dst = some d) (hdb : ob.dst = some s)
    (hoa : oa.op = .call { callee := .builtin .append, args := #[.tmp x, y], argTypes := #[ty1, ty2] }) (hob : ob.op = .assign (.tmp d)) (hdN : d < N) (hsN : s < N)
    (hy : opnd t2 y = .sl s2 [] tok) (hel : elemT P ty1 = some e) (hel2 : elemT P ty2 = some e2) (hz : tsz P e = some z)
    (hQ : ∀ c' a' w', SRO P N o0 w0 c0 c' w' (upd (upd (after (dn ops n) t2 t) d .undef) s .undef) m (setO O ⟨s, z, []⟩) a' → Q .normal a' w') :
    wpOps P ops Q (List.range' n (ops.size - n)) a' w2 := by
  have hE := view_end (l := dn ops n) h h2 ev hTr.frame hO
  obtain ⟨gsf, k1, k2⟩ := hE.ow
  obtain ⟨ad, hxv⟩ : ∃ ad, a'.tmps.getD x undef = .slice ad 0 0 := by
    have hT := h2.T x
    rw [hx] at hT
    have hv : V c2.own w2 (.sl zz [] tk) (a'.tmps.getD x undef) := by
      rcases htk with rfl | rfl
      · exact hT
      · exact hT
    generalize a'.tmps.getD x undef = u at hv
    cases hv with
    | sl _ _ _ ad len cap cv hlen hcap hel' hc hv ho hn hk hr =>
      simp at hlen
      subst hlen
      rcases htk with rfl | rfl
      · obtain ⟨rfl, rfl⟩ := hn rfl
        exact ⟨_, rfl⟩
      · have := hk rfl
        subst this
        exact ⟨_, rfl⟩
  have hTy := T_opnd h2.T y
  rw [hy] at hTy
  obtain ⟨ad2, nn, cap2, cv2, hyv, hn, _⟩ := V_sl (T_sl hTy)
  simp at hn
  subst hn
  have hsz2 : ops.size - n = 2 := by omega
  rw [hsz2]
  show wpOps P ops Q [n, n + 1] a' w2
  rw [wpOps_cons]
  have hrun := append_room (P := P) (w := w2) (ty := oa.type) (ad := ad) (ad2 := ad2) (len := 0) (cap := 0) (n := 0) (cap2 := cap2) (new := #[]) (under_of_elemT hel) (under_of_elemT hel2) hz (by cases ad2 <;> simp [Builtin.firstCells, loadCells, loadCellsFrom]) (by omega)
  refine wpOp_value (v := .slice ad 0 0) (w' := w2) hi gi (exec_append hoa (by
    have e1 : a'.eval (.tmp x) = .slice ad 0 0 := hxv
    rw [e1, hyv, hrun]
    cases ad <;> simp [storeCells])) ?_
  rw [wpOps_cons, hda]
  refine assign_last hs gs hdb hob (Nat.lt_of_lt_of_le hdN h2.size) (Nat.lt_of_lt_of_le hsN h2.size) fun a'' hf hsv hdf hsz' => ?_
  refine hQ _ _ _ (hE.turn (own' := c.own) (G := w2.heap.size) rfl (fun _ _ _ => Iff.rfl) (fun g hg _ => rfl) (fun hk => absurd hk (Nat.lt_irrefl _)) (Nat.le_refl _) rfl rfl rfl hE.sr.M.lt (two_after hf) (hdf.trans h2.defers) (by rw [hsz']; exact h2.size) ⟨fun i => if i = s then none else gsf i, fun o ho => ?_, fun o ho o' ho' g h3 h4 => ?_⟩)
  · rcases List.mem_cons.1 ho with rfl | ho
    · simp only [if_true]
      rw [hsv]
      exact ⟨rfl, ad, rfl⟩
    · obtain ⟨q1, q2⟩ := dropO_mem ho
      simp only at q2
      simp only [if_neg q2]
      rw [hf _ (hd o q1) q2]
      exact k1 o q1
  · have key : ∀ o ∈ setO O ⟨s, z, []⟩, ∀ g, (if o.slot = s then none else gsf o.slot) = some g → o ∈ O ∧ gsf o.slot = some g := fun o ho g hg => by
      split at hg
      · simp at hg
      · rename_i hne
        rcases List.mem_cons.1 ho with rfl | ho
        · exact absurd rfl hne
        · exact ⟨(dropO_mem ho).1, hg⟩
    obtain ⟨q1, q2⟩ := key o ho g h3
    obtain ⟨q3, q4⟩ := key o' ho' g h4
    exact k2 o q1 o' q3 g q2 q4

/-- A call that makes a slice. -/
theorem own_fresh {n s d : Nat} {f : FuncId} {args : Array Operand} {tys : Array TypeId} {oa ob : Oper} {Q : Exit → Act → World → Prop} {z : Nat} {els : List (List AV)}
    (h : SRO P N o0 w0 c0 c w t m O a) (h2 : SR P N c2 w2 t2 m2 a') (ev : Evo noOwn w c2.own w2) (hTr : Track ops n (fun _ => True) a a') (hO : ∀ o ∈ O, o.slot ∉ dn ops n) (hd : ∀ o ∈ O, o.slot ≠ d)
    (hF : FreshCall P f (args.toList.map fun o => (opnd t2 o).bare) z els)
    (hsz : n + 2 = ops.size) (hi : ops[n]? = some oa) (hs : ops[n + 1]? = some ob) (gi : oa.guard = none) (gs : ob.guard = none) (hda : oa.dst = some d) (hdb : ob.dst = some s)
    (hoa : oa.op = .call { callee := .value (.func f), args := args, argTypes := tys }) (hob : ob.op = .assign (.tmp d)) (hdN : d < N) (hsN : s < N) (hsc : els.all (fun q => q.all AV.scalar) = true)
    (hQ : ∀ c' a' w', SRO P N o0 w0 c0 c' w' (upd (upd (after (dn ops n) t2 t) d .undef) s .undef) m (setO O ⟨s, z, els⟩) a' → Q .normal a' w') :
    wpOps P ops Q (List.range' n (ops.size - n)) a' w2 := by
  have hE := view_end (l := dn ops n) h h2 ev hTr.frame hO
  obtain ⟨gsf, k1, k2⟩ := hE.ow
  have hsz2 : ops.size - n = 2 := by omega
  rw [hsz2]
  show wpOps P ops Q [n, n + 1] a' w2
  rw [wpOps_cons]
  have hexec : (execOp a'.eval oa).run P w2 = .ok (.enter f (args.map a'.eval)) w2 := by
    obtain ⟨dst, op, type, pos, aft, guard⟩ := oa
    simp only at hoa
    subst hoa
    have hfv : a'.eval (.func f) = .func (.func f) #[] #[] := rfl
    have := hF.1 (args.map a'.eval) w2
    simpa [execOp, resolve, hfv, Deferred.ofValue, invoke] using this
  refine wpOp_enter hi gi hexec ?_
  refine (hF.2 w2 (args.map a'.eval) (hE.sr.G.weaker fun _ _ hk => hk.elim) (by simp) (fun i x v hx hv => ?_)).mono ?_
  · simp only [List.getElem?_map, Option.map_eq_some_iff, Array.getElem?_map] at hx hv
    obtain ⟨o, ho, rfl⟩ := hx
    obtain ⟨o', ho', rfl⟩ := hv
    rw [Array.getElem?_toList] at ho
    rw [ho] at ho'; simp at ho'; subst ho'
    exact (T_opnd h2.T o).bare.keep (.less fun _ _ hk => hk.elim)
  rintro ee w3 ⟨v, rfl, bel, hfv⟩
  refine ⟨v, rfl, ?_⟩
  rw [wpOps_cons, hda]
  have hds1 : d < a'.tmps.size := Nat.lt_of_lt_of_le hdN h2.size
  have hss1 : s < a'.tmps.size := Nat.lt_of_lt_of_le hsN h2.size
  refine assign_last hs gs hdb hob hds1 hss1 fun a'' hf hsv hdf hsz' => ?_
  rcases hfv with ⟨h3, ad, h4⟩ | ⟨g, cap, cs, el, v1, v2, v3, v4, v5, v6, v7⟩
  · subst h3
    refine hQ _ _ _ (hE.turn (own' := c.own) (G := w2.heap.size) rfl (fun _ _ _ => Iff.rfl) (fun g hg _ => bel.block g hg) (fun hk => absurd hk (Nat.lt_irrefl _)) bel.size bel.os bel.tape bel.output (fun g off hn => Nat.lt_of_lt_of_le (hE.sr.M.lt g off hn) bel.size) (two_after hf) (hdf.trans h2.defers) (by rw [hsz']; exact h2.size) ⟨fun i => if i = s then none else gsf i, fun o ho => ?_, fun o ho o' ho' g h5 h6 => ?_⟩)
    · rcases List.mem_cons.1 ho with rfl | ho
      · simp only [if_true]
        rw [hsv]
        exact ⟨rfl, ad, h4⟩
      · obtain ⟨q1, q2⟩ := dropO_mem ho
        simp only at q2
        simp only [if_neg q2]
        rw [hf _ (hd o q1) q2]
        exact (k1 o q1).evo (c' := ⟨c.own, c.ρ, c.ν⟩) (Evo.below bel)
    · have key : ∀ o ∈ setO O ⟨s, z, []⟩, ∀ g, (if o.slot = s then none else gsf o.slot) = some g → o ∈ O ∧ gsf o.slot = some g := fun o ho g hg => by
        split at hg
        · simp at hg
        · rename_i hne
          rcases List.mem_cons.1 ho with rfl | ho
          · exact absurd rfl hne
          · exact ⟨(dropO_mem ho).1, hg⟩
      obtain ⟨q1, q2⟩ := key o ho g h5
      obtain ⟨q3, q4⟩ := key o' ho' g h6
      exact k2 o q1 o' q3 g q2 q4
  · let own' : Own := ⟨c.own.W, fun b off => c.own.N b off ∨ b = g, fun b off h => .inl (c.own.sub b off h)⟩
    have hN : ∀ b off, b < w2.heap.size → (own'.N b off ↔ c.own.N b off) := fun b off hb => ⟨fun h => h.resolve_right (by omega), .inl⟩
    have hgl := lt_of_heap v4
    have kp : Kp c.own own' w2 w3 := ⟨fun ad v hc hn => by
      obtain ⟨hsp, cs1, el1, fr1, hb1, hv1⟩ := cell_heap hc
      refine ⟨?_, fun hk => hn ((hN _ _ (lt_of_heap hb1)).1 hk)⟩
      obtain ⟨ab, ao, as⟩ := ad
      simp only at hsp hb1 hv1
      subst hsp
      rw [heap_cell (by rw [bel.block ab (lt_of_heap hb1)]; exact hb1), hv1], fun b cs1 el1 fr1 hb => ⟨cs1, by rw [bel.block b (lt_of_heap hb)]; exact hb, rfl⟩⟩
    refine hQ _ _ _ (hE.turn (own' := own') (G := w2.heap.size) rfl hN (fun b hb _ => bel.block b hb) (fun hk => absurd hk (Nat.lt_irrefl _)) bel.size bel.os bel.tape bel.output (fun b off hn => ?_) (two_after hf) (hdf.trans h2.defers) (by rw [hsz']; exact h2.size) ⟨fun i => if i = s then some g else gsf i, fun o ho => ?_, fun o ho o' ho' b h5 h6 => ?_⟩)
    · rcases hn with hn | hn
      · exact Nat.lt_of_lt_of_le (hE.sr.M.lt b off hn) bel.size
      · rw [hn]; exact hgl
    · rcases List.mem_cons.1 ho with rfl | ho
      · simp only [if_true]
        rw [hsv]
        refine ⟨cap, cs, el, v1, v2, v4, v5, Nat.le_trans hE.ev.size v3, fun off => ⟨.inr rfl, fun hk => ?_⟩, v6, fun i j e x hi hj => ?_⟩
        · have := hE.sr.M.lt _ _ (c.own.sub _ _ hk); omega
        · obtain ⟨u, q1, q2, q3⟩ := v7 i j e x hi hj
          exact ⟨u, q1, scalar_V (List.all_eq_true.1 (List.all_eq_true.1 hsc e (List.mem_of_getElem? hi)) x (List.mem_of_getElem? hj)) q2, q3⟩
      · obtain ⟨q1, q2⟩ := dropO_mem ho
        simp only at q2
        simp only [if_neg q2]
        rw [hf _ (hd o q1) q2]
        have hbl : ∀ b, gsf o.slot = some b → b < w2.heap.size := fun b hb => by
          have h3 := k1 o q1
          rw [hb] at h3
          obtain ⟨_, _, _, _, _, q3, _⟩ := h3
          exact lt_of_heap q3
        exact (k1 o q1).keep kp (fun b hb => bel.block b (hbl b hb)) fun b _ hh hbl off => ⟨(hN b off hbl).2 (hh off).1, (hh off).2⟩
    · have hno : ∀ o ∈ dropO O s, gsf o.slot ≠ some g := fun o ho hg => by
        have h3 := k1 o (dropO_mem ho).1
        rw [hg] at h3
        obtain ⟨_, _, _, _, _, q3, _⟩ := h3
        have := lt_of_heap q3; omega
      rcases List.mem_cons.1 ho with rfl | ho <;> rcases List.mem_cons.1 ho' with rfl | ho'
      · rfl
      · obtain ⟨q1, q2⟩ := dropO_mem ho'
        simp only at q2
        simp only [if_true, Option.some.injEq] at h5
        simp only [if_neg q2] at h6
        subst h5
        exact absurd h6 (hno o' ho')
      · obtain ⟨q1, q2⟩ := dropO_mem ho
        simp only at q2
        simp only [if_true, Option.some.injEq] at h6
        simp only [if_neg q2] at h5
        subst h6
        exact absurd h5 (hno o ho)
      · obtain ⟨q1, q2⟩ := dropO_mem ho
        obtain ⟨q1', q2'⟩ := dropO_mem ho'
        simp only at q2 q2'
        simp only [if_neg q2] at h5
        simp only [if_neg q2'] at h6
        exact k2 o q1 o' q1' b h5 h6

/-- Slices of one's own given up: from here on nobody writes them. -/
theorem own_give (h : SRO P N o0 w0 c0 c w t m O a) : ∃ c', SRO P N o0 w0 c0 c' w (viewT O t) m [] a := by
  obtain ⟨gsf, k1, k2⟩ := h.ow
  let G : Nat → Prop := fun g => ∃ s ∈ O, gsf s.slot = some g
  have hG : ∀ g, G g → w0.heap.size ≤ g ∧ ∀ off, c.own.N g off ∧ ¬ c.own.W g off := fun g ⟨s, hs, hg⟩ => by
    have := k1 s hs
    rw [hg] at this
    obtain ⟨_, _, _, _, _, _, _, q5, q6, _⟩ := this
    exact ⟨q5, q6⟩
  let own' : Own := ⟨c.own.W, fun g off => c.own.N g off ∧ ¬ G g, fun g off hw => ⟨c.own.sub g off hw, fun hk => ((hG g hk).2 off).2 hw⟩⟩
  have kp : Kp c.own own' w w := .less fun _ _ hk => hk.1
  refine ⟨⟨own', c.ρ, c.ν⟩, ⟨fun i => ?_, ?_, h.sr.G.weaker fun _ _ hk => hk.1, h.sr.defers, h.sr.size⟩, ?_, h.low, fun _ => none, by simp, by simp⟩
  · rcases viewT_spec O t i with ⟨h1, h2⟩ | ⟨s, h1, h2, h3⟩
    · rw [h2]
      exact (h.sr.T i).keep kp (fun _ _ h => h) (fun _ _ => .inl rfl)
    · rw [h3, ← h2]
      refine .of_V ?_
      have hv := k1 s h1
      cases hg : gsf s.slot with
      | none =>
        rw [hg] at hv
        obtain ⟨q1, ad, q2⟩ := hv
        rw [q1, q2]; exact V_empty
      | some g =>
        rw [hg] at hv
        obtain ⟨cap, cs, el, q1, q2, q3, q4, q5, q6, q7, q8⟩ := hv
        rw [q1]
        refine .sl s.z s.els .none _ _ cap (fun i j => cs.getD (i * s.z + j) undef) rfl q2 q7 (fun i j e x hi hj => ?_) (fun i j e x hi hj => ?_) (fun i j e x hi hj => ?_) (by simp) (by simp) (by simp)
        · obtain ⟨u, r1, r2, r3⟩ := q8 i j e x hi hj
          refine ⟨⟨g, 0, none⟩, rfl, ?_, fun hk => hk.2 ⟨s, h1, hg⟩⟩
          rw [add_plain, heap_cell q3, Nat.zero_add]
          simp [Array.getD_eq_getD_getElem?, r1]
        · obtain ⟨u, r1, r2, r3⟩ := q8 i j e x hi hj
          simpa [Array.getD_eq_getD_getElem?, r1] using r2.keep kp
        · obtain ⟨u, r1, r2, r3⟩ := q8 i j e x hi hj
          simpa [Array.getD_eq_getD_getElem?, r1] using r3
  · exact h.sr.M.keep kp rfl rfl (fun _ _ _ h => h) (fun _ _ _ h => h.1) (fun _ _ _ _ _ h => h) (fun g off hk => h.sr.M.lt g off hk.1)
  · have e := h.ev
    exact ⟨e.size, e.cells, e.other, e.wr, fun g off hg hk => e.no g off hg hk.1, fun g off hg h1 h2 => ⟨e.hid g off hg h1 h2, fun hk => by have := (hG g hk).1; omega⟩, e.os, e.tape, e.output⟩
/-- An empty slice is one of one's own. -/
theorem own_born {s z : Nat} {zz : Nat} (h : SRO P N o0 w0 c0 c w t m O a) (ht : t s = .sl zz [] .nil) : SRO P N o0 w0 c0 c w (upd t s .undef) m (setO O ⟨s, z, []⟩) a := by
  obtain ⟨gsf, k1, k2⟩ := h.ow
  have hT := h.sr.T s
  rw [ht] at hT
  have hv : ∃ ad, a.tmps.getD s undef = .slice ad 0 0 := by
    have hv : V c.own w (.sl zz [] .nil) (a.tmps.getD s undef) := hT
    generalize a.tmps.getD s undef = u at hv
    cases hv with
    | sl _ _ _ ad len cap cv hlen hcap hel' hc hv ho hn hk hr =>
      simp at hlen
      subst hlen
      obtain ⟨rfl, rfl⟩ := hn rfl
      exact ⟨_, rfl⟩
  refine ⟨⟨fun i => ?_, h.sr.M, h.sr.G, h.sr.defers, h.sr.size⟩, h.ev, h.low, fun i => if i = s then none else gsf i, fun o ho => ?_, fun o ho o' ho' g h5 h6 => ?_⟩
  · by_cases hi : i = s
    · simp only [upd_apply, hi, if_true]; exact .of_V (.undef _)
    · simp only [upd_apply, hi, if_false]; exact h.sr.T i
  · rcases List.mem_cons.1 ho with rfl | ho
    · simp only [if_true]
      exact ⟨rfl, hv⟩
    · obtain ⟨q1, q2⟩ := dropO_mem ho
      simp only at q2
      simp only [if_neg q2]
      exact k1 o q1
  · have key : ∀ o ∈ setO O ⟨s, z, []⟩, ∀ g, (if o.slot = s then none else gsf o.slot) = some g → o ∈ O ∧ gsf o.slot = some g := fun o ho g hg => by
      split at hg
      · simp at hg
      · rename_i hne
        rcases List.mem_cons.1 ho with rfl | ho
        · exact absurd rfl hne
        · exact ⟨(dropO_mem ho).1, hg⟩
    obtain ⟨q1, q2⟩ := key o ho g h5
    obtain ⟨q3, q4⟩ := key o' ho' g h6
    exact k2 o q1 o' q3 g q2 q4
/-- The run of a literal slice. -/
theorem run_made {c : Cfg} {t : Tmps} {a : Act} {ty e : TypeId} {len z : Nat} {ps : Array (Nat × Operand)} {zv : AV} (hT : TRel c w t a) (hel : elemT P ty = some e) (hz : tsz P e = some z) (hzv : zeroOf P e = some zv) (hle : len * z ≤ 16777216) (hzval : zv.isVal = true) (hzl : zv.cells.length = z) (hn0 : z ≠ 0)
    (hidx : ps.toList.map (·.1) = List.range len) (hall : (ps.toList.all fun p => (opnd t p.2).isVal && (opnd t p.2).cells.length == z) = true) :
    ∃ ws : Array Value, (Instr.buildSlice ty len (ps.map fun (i, x) => (i, a.eval x))).run P w = .ok (.slice (some ⟨w.heap.size, 0, none⟩) len len) (w.alloc (.cells ws e)) ∧ ws.size = len * z ∧ ps.toList.length = len ∧
      ∀ (i j : Nat) (ys : List AV) (y : AV), (ps.toList.map fun p => (opnd t p.2).cells)[i]? = some ys → ys[j]? = some y → ∃ v, ws[i * z + j]? = some v ∧ V c.own w y v ∧ v.oneCell' = true := by
  have hu := under_of_elemT hel
  obtain ⟨zvv, rfl, hzr⟩ := run_zero hzv
  have hzc := V.cells hzval (V_ofValue c.own w zvv)
  have hlen : ps.size = len := by
    have := congrArg List.length hidx
    simpa using this
  have hpsl : ps.toList.length = len := by simpa using hlen
  let us : Array Value := (Array.range (len * z)).map (zvv.cells[· % zvv.cells.size]!)
  have husz : us.size = len * z := by simp [us]
  obtain ⟨ws, f1, f2, f3, f4⟩ := fillSlice_fill (w := w) (own := c.own) (n := z) (ps.map fun (i, x) => (i, a.eval x)).toList (ps.toList.map fun p => (opnd t p.2).cells) 0 len us
    (by
      simp only [Array.toList_map, List.map_map, List.length_map]
      rw [hpsl, ← List.range_eq_range', ← hidx]
      apply List.map_congr_left
      intro p _; rfl)
    (by simp) (fun i q ys h1 h2 => by
      simp only [Array.toList_map, List.getElem?_map, Option.map_eq_some_iff] at h1 h2
      obtain ⟨p, hp, rfl⟩ := h1
      obtain ⟨p', hp', rfl⟩ := h2
      rw [hp] at hp'; simp at hp'; subst hp'
      have hpm : p ∈ ps.toList := List.mem_of_getElem? hp
      have := List.all_eq_true.1 hall p hpm
      simp only [Bool.and_eq_true, beq_iff_eq] at this
      exact ⟨this.2, T.cells this.1 (T_opnd hT p.2)⟩) husz (by simp [hlen])
  have hrun : (Instr.buildSlice ty len (ps.map fun (i, x) => (i, a.eval x))).run P w = .ok (.slice (some ⟨w.heap.size, 0, none⟩) len len) (w.alloc (.cells ws e)) := by
    have h0 : ¬ len * z > 2 ^ 24 := by omega
    unfold Instr.buildSlice
    simp only [Sem.run_bind, run_underlying hu, Result.andThen_ok, run_tsz hz, Sem.run_ite, h0, if_false]
    have f1' : Instr.fill (fun i => some (i * z, z)) us (Array.map (fun x => (x.fst, a.eval x.snd)) ps).toList = some ws := f1
    by_cases hln : len * z = 0
    · rw [if_pos hln]
      have e1 : Array.map (fun x => (#[] : Array Value)[x % (#[] : Array Value).size]!) (Array.range (len * z)) = us := by simp [us, hln]
      simp only [Sem.run_pure, Result.andThen_ok]
      rw [e1, f1']
      simp [newRow]
    · rw [if_neg hln]
      have e1 : Array.map (fun x => zvv.cells[x % zvv.cells.size]!) (Array.range (len * z)) = us := rfl
      simp only [Sem.run_bind, hzr, Result.andThen_ok, Sem.run_pure]
      rw [e1, f1']
      simp [newRow]
  refine ⟨ws, hrun, by rw [f2, husz], hpsl, fun i j ys y hi hj => ?_⟩
  obtain ⟨v, h1, h2⟩ := f4 i j ys y hi hj
  simp only [Nat.zero_add] at h1
  exact ⟨v, h1, h2⟩

/-- A slice that has just come into a block of its own, by whatever step. -/
theorem own_new {n s d : Nat} {ob : Oper} {Q : Exit → Act → World → Prop} {z cap g : Nat} {els : List (List AV)} {cs : Array Value} {el : TypeId} {w3 : World}
    (hE : SRO P N o0 w0 c0 c w2 (after (dn ops n) t2 t) m O a') (hd : ∀ o ∈ O, o.slot ≠ d) (hdf : a'.defers = []) (hdN : d < a'.tmps.size) (hsN : s < a'.tmps.size) (hNs : N ≤ a'.tmps.size)
    (hs : ops[n + 1]? = some ob) (gs : ob.guard = none) (hdb : ob.dst = some s) (hob : ob.op = .assign (.tmp d)) (bel : Below w2.heap.size w2 w3)
    (v2 : els.length ≤ cap) (v3 : w2.heap.size ≤ g) (v4 : w3.heap[g]? = some (.cells cs el (0, 0))) (v5 : cap * z ≤ cs.size) (v6 : ∀ e ∈ els, e.length = z) (hsc : allS els)
    (v7 : ∀ (i j : Nat) (e : List AV) (x : AV), els[i]? = some e → e[j]? = some x → ∃ (u : Value) (o' : Own) (w' : World), cs[i * z + j]? = some u ∧ V o' w' x u ∧ u.oneCell' = true)
    (hQ : ∀ c' a' , SRO P N o0 w0 c0 c' w3 (upd (upd (after (dn ops n) t2 t) d .undef) s .undef) m (setO O ⟨s, z, els⟩) a' → Q .normal a' w3) :
    wpOp P ops Q (n + 1) (wpOps P ops Q []) (a'.put (some d) (.slice (some ⟨g, 0, none⟩) els.length cap)) w3 := by
  obtain ⟨gsf, k1, k2⟩ := hE.ow
  refine assign_last hs gs hdb hob hdN hsN fun a'' hf hsv hdf' hsz' => ?_
  let own' : Own := ⟨c.own.W, fun b off => c.own.N b off ∨ b = g, fun b off h => .inl (c.own.sub b off h)⟩
  have hN : ∀ b off, b < w2.heap.size → (own'.N b off ↔ c.own.N b off) := fun b off hb => ⟨fun h => h.resolve_right (by omega), .inl⟩
  have hgl := lt_of_heap v4
  have kp : Kp c.own own' w2 w3 := ⟨fun ad v hc hn => by
    obtain ⟨hsp, cs1, el1, fr1, hb1, hv1⟩ := cell_heap hc
    refine ⟨?_, fun hk => hn ((hN _ _ (lt_of_heap hb1)).1 hk)⟩
    obtain ⟨ab, ao, as⟩ := ad
    simp only at hsp hb1 hv1
    subst hsp
    rw [heap_cell (by rw [bel.block ab (lt_of_heap hb1)]; exact hb1), hv1], fun b cs1 el1 fr1 hb => ⟨cs1, by rw [bel.block b (lt_of_heap hb)]; exact hb, rfl⟩⟩
  refine hQ _ _ (hE.turn (own' := own') (G := w2.heap.size) rfl hN (fun b hb _ => bel.block b hb) (fun hk => absurd hk (Nat.lt_irrefl _)) bel.size bel.os bel.tape bel.output (fun b off hn => ?_) (two_after hf) (hdf'.trans hdf) (by rw [hsz']; exact hNs) ⟨fun i => if i = s then some g else gsf i, fun o ho => ?_, fun o ho o' ho' b h5 h6 => ?_⟩)
  · rcases hn with hn | hn
    · exact Nat.lt_of_lt_of_le (hE.sr.M.lt b off hn) bel.size
    · rw [hn]; exact hgl
  · rcases List.mem_cons.1 ho with rfl | ho
    · simp only [if_true]
      rw [hsv]
      refine ⟨cap, cs, el, rfl, v2, v4, v5, Nat.le_trans hE.ev.size v3, fun off => ⟨.inr rfl, fun hk => ?_⟩, v6, fun i j e x hi hj => ?_⟩
      · have := hE.sr.M.lt _ _ (c.own.sub _ _ hk); omega
      · obtain ⟨u, o', w', q1, q2, q3⟩ := v7 i j e x hi hj
        exact ⟨u, q1, scalar_V (List.all_eq_true.1 (List.all_eq_true.1 hsc e (List.mem_of_getElem? hi)) x (List.mem_of_getElem? hj)) q2, q3⟩
    · obtain ⟨q1, q2⟩ := dropO_mem ho
      simp only at q2
      simp only [if_neg q2]
      rw [hf _ (hd o q1) q2]
      have hbl : ∀ b, gsf o.slot = some b → b < w2.heap.size := fun b hb => by
        have h3 := k1 o q1
        rw [hb] at h3
        obtain ⟨_, _, _, _, _, q3, _⟩ := h3
        exact lt_of_heap q3
      exact (k1 o q1).keep kp (fun b hb => bel.block b (hbl b hb)) fun b _ hh hbl off => ⟨(hN b off hbl).2 (hh off).1, (hh off).2⟩
  · have hno : ∀ o ∈ dropO O s, gsf o.slot ≠ some g := fun o ho hg => by
      have h3 := k1 o (dropO_mem ho).1
      rw [hg] at h3
      obtain ⟨_, _, _, _, _, q3, _⟩ := h3
      have := lt_of_heap q3; omega
    rcases List.mem_cons.1 ho with rfl | ho <;> rcases List.mem_cons.1 ho' with rfl | ho'
    · rfl
    · obtain ⟨q1, q2⟩ := dropO_mem ho'
      simp only at q2
      simp only [if_true, Option.some.injEq] at h5
      simp only [if_neg q2] at h6
      subst h5
      exact absurd h6 (hno o' ho')
    · obtain ⟨q1, q2⟩ := dropO_mem ho
      simp only at q2
      simp only [if_true, Option.some.injEq] at h6
      simp only [if_neg q2] at h5
      subst h6
      exact absurd h5 (hno o ho)
    · obtain ⟨q1, q2⟩ := dropO_mem ho
      obtain ⟨q1', q2'⟩ := dropO_mem ho'
      simp only at q2 q2'
      simp only [if_neg q2] at h5
      simp only [if_neg q2'] at h6
      exact k2 o q1 o' q1' b h5 h6
/-- A literal slice, made one of one's own. -/
theorem own_made {n s d : Nat} {ty e : TypeId} {len z : Nat} {ps : Array (Nat × Operand)} {zv : AV} {oa ob : Oper} {Q : Exit → Act → World → Prop}
    (h : SRO P N o0 w0 c0 c w t m O a) (h2 : SR P N c2 w2 t2 m2 a') (ev : Evo noOwn w c2.own w2) (hTr : Track ops n (fun _ => True) a a') (hO : ∀ o ∈ O, o.slot ∉ dn ops n) (hd : ∀ o ∈ O, o.slot ≠ d)
    (hsz : n + 2 = ops.size) (hi : ops[n]? = some oa) (hs : ops[n + 1]? = some ob) (gi : oa.guard = none) (gs : ob.guard = none) (hda : oa.dst = some d) (hdb : ob.dst = some s)
    (hoa : oa.op = .buildSlice ty len ps) (hob : ob.op = .assign (.tmp d)) (hdN : d < N) (hsN : s < N)
    (hel : elemT P ty = some e) (hz : tsz P e = some z) (hzv : zeroOf P e = some zv) (hle : len * z ≤ 16777216) (hzval : zv.isVal = true) (hzl : zv.cells.length = z) (hn0 : z ≠ 0)
    (hidx : ps.toList.map (·.1) = List.range len) (hall : (ps.toList.all fun p => (opnd t2 p.2).isVal && (opnd t2 p.2).cells.length == z) = true) (hsc : allS (ps.toList.map fun p => (opnd t2 p.2).cells))
    (hQ : ∀ c' a' w', SRO P N o0 w0 c0 c' w' (upd (upd (after (dn ops n) t2 t) d .undef) s .undef) m (setO O ⟨s, z, ps.toList.map fun p => (opnd t2 p.2).cells⟩) a' → Q .normal a' w') :
    wpOps P ops Q (List.range' n (ops.size - n)) a' w2 := by
  have hE := view_end (l := dn ops n) h h2 ev hTr.frame hO
  have hsz2 : ops.size - n = 2 := by omega
  rw [hsz2]
  show wpOps P ops Q [n, n + 1] a' w2
  rw [wpOps_cons]
  obtain ⟨ws, r1, r2, r3, r4⟩ := run_made (w := w2) h2.T hel hz hzv hle hzval hzl hn0 hidx hall
  refine wpOp_value (v := .slice (some ⟨w2.heap.size, 0, none⟩) len len) (w' := w2.alloc (.cells ws e)) hi gi ?_ ?_
  · unfold execOp
    rw [hoa]
    simp [r1]
  rw [wpOps_cons, hda]
  have hlen : (ps.toList.map fun p => (opnd t2 p.2).cells).length = len := by rw [List.length_map, r3]
  have := own_new (s := s) (d := d) (n := n) (ob := ob) (Q := Q) (ops := ops) (z := z) (cap := len) (g := w2.heap.size) (els := ps.toList.map fun p => (opnd t2 p.2).cells) (cs := ws) (el := e) (w3 := w2.alloc (.cells ws e)) hE hd h2.defers (Nat.lt_of_lt_of_le hdN h2.size) (Nat.lt_of_lt_of_le hsN h2.size) h2.size hs gs hdb hob ((Below.refl _ _).alloc (Nat.le_refl _) _)
    (by rw [hlen]; exact Nat.le_refl _) (Nat.le_refl _) (heap_new _ _) (by rw [r2]; exact Nat.le_refl _) (fun ys hys => by
      obtain ⟨p, hp, rfl⟩ := List.mem_map.1 hys
      have := List.all_eq_true.1 hall p hp
      simp only [Bool.and_eq_true, beq_iff_eq] at this
      exact this.2) hsc (fun i j ys y hi hj => by
      obtain ⟨v, q1, q2, q3⟩ := r4 i j ys y hi hj
      exact ⟨v, _, _, q1, q2, q3⟩) fun c' a'' hS => hQ _ _ _ hS
  rw [hlen] at this
  exact this

/-- A call that turns the elements of a slice in place. -/
def InplCall (P : Program) (f : FuncId) (z : Nat) (els els' : List (List AV)) : Prop :=
  (∀ (vs : Array Value) (w : World), (callFunc f vs).run P w = .ok (.enter f vs) w) ∧ els'.length = els.length ∧ (∀ e ∈ els', e.length = z) ∧
  ∀ (w : World) (g cap : Nat) (cs : Array Value) (el : TypeId), w.heap[g]? = some (.cells cs el (0, 0)) → els.length ≤ cap → cap * z ≤ cs.size →
    (∀ (i j : Nat) (e : List AV) (x : AV), els[i]? = some e → e[j]? = some x → ∃ (u : Value) (o : Own) (w' : World), cs[i * z + j]? = some u ∧ V o w' x u) →
    Calls P f #[.slice (some ⟨g, 0, none⟩) els.length cap] w fun e w' => ∃ (u : Value) (cs' : Array Value), e = .returned u ∧ w.heap.size ≤ w'.heap.size ∧ w'.os = w.os ∧ w'.tape = w.tape ∧ w'.output = w.output ∧
      (∀ k, k < w.heap.size → k ≠ g → w'.heap[k]? = w.heap[k]?) ∧ w'.heap[g]? = some (.cells cs' el (0, 0)) ∧ cs'.size = cs.size ∧
      ∀ (i j : Nat) (e : List AV) (x : AV), els'[i]? = some e → e[j]? = some x → ∃ (u : Value) (o : Own) (w'' : World), cs'[i * z + j]? = some u ∧ V o w'' x u ∧ u.oneCell' = true
theorem own_inpl {n s x : Nat} {f : FuncId} {tys : Array TypeId} {oa : Oper} {Q : Exit → Act → World → Prop} {o : OS} {els' : List (List AV)} {d : Nat}
    (h : SRO P N o0 w0 c0 c w t m O a) (h2 : SR P N c2 w2 t2 m2 a') (ev : Evo noOwn w c2.own w2) (hTr : Track ops n (fun _ => True) a a') (hO : ∀ o ∈ O, o.slot ∉ dn ops n) (hd : ∀ o ∈ O, o.slot ≠ d)
    (hcopy : isCopy ops n s x = true) (ho : getO O s = some o) (hF : InplCall P f o.z o.els els') (hne : o.els ≠ []) (hz0 : o.z ≠ 0)
    (hsz : n + 1 = ops.size) (hi : ops[n]? = some oa) (gi : oa.guard = none) (hda : oa.dst = some d)
    (hoa : oa.op = .call { callee := .value (.func f), args := #[.tmp x], argTypes := tys }) (hdN : d < N) (hsc : allS els')
    (hQ : ∀ c' a' w', SRO P N o0 w0 c0 c' w' (upd (after (dn ops n) t2 t) d .undef) m (setO O ⟨s, o.z, els'⟩) a' → Q .normal a' w') :
    wpOps P ops Q (List.range' n (ops.size - n)) a' w2 := by
  have hE := view_end (l := dn ops n) h h2 ev hTr.frame hO
  obtain ⟨gsf, k1, k2⟩ := hE.ow
  obtain ⟨hoO, hos1⟩ := getO_mem ho
  have hown := k1 o hoO
  have hxval := copy_val hcopy hTr
  have hsval : a'.tmps.getD s undef = a.tmps.getD s undef := hTr.frame s (by rw [← hos1]; exact hO o hoO)
  rw [hos1] at hown
  have hsd : s ≠ d := by rw [← hos1]; exact hd o hoO
  cases hgs : gsf s with
  | none => rw [hgs] at hown; exact absurd hown.1 hne
  | some g =>
  rw [hgs] at hown
  obtain ⟨cap, cs, el, v1, v2, v3, v4, v5, v6, v7, v8⟩ := hown
  have hxv1 : a'.tmps.getD x undef = .slice (some ⟨g, 0, none⟩) o.els.length cap := by rw [hxval, ← hsval, v1]
  have hsz2 : ops.size - n = 1 := by omega
  rw [hsz2]
  show wpOps P ops Q [n] a' w2
  rw [wpOps_cons]
  have hexec : (execOp a'.eval oa).run P w2 = .ok (.enter f #[.slice (some ⟨g, 0, none⟩) o.els.length cap]) w2 := by
    obtain ⟨dst, op, type, pos, aft, guard⟩ := oa
    simp only at hoa
    subst hoa
    have hfv : a'.eval (.func f) = .func (.func f) #[] #[] := rfl
    have hxe : a'.eval (.tmp x) = .slice (some ⟨g, 0, none⟩) o.els.length cap := hxv1
    have := hF.1 #[.slice (some ⟨g, 0, none⟩) o.els.length cap] w2
    simpa [execOp, resolve, hfv, hxe, Deferred.ofValue, invoke] using this
  refine wpOp_enter hi gi hexec ?_
  refine (hF.2.2.2 w2 g cap cs el v3 v2 v4 fun i j e x hi hj => ?_).mono ?_
  · obtain ⟨u, q1, q2, _⟩ := v8 i j e x hi hj
    exact ⟨u, _, _, q1, q2⟩
  rintro ee w3 ⟨u, cs', rfl, b1, b2, b3, b4, b5, b6, b7, b8⟩
  refine ⟨u, rfl, ?_⟩
  rw [hda]
  show Q .normal (a'.put (some d) u) w3
  have hpos : 0 < cs.size := by
    have h1 := List.length_pos_iff.2 hne
    have h2 : 1 * 1 ≤ cap * o.z := Nat.mul_le_mul (by omega) (Nat.pos_of_ne_zero hz0)
    omega
  have hkeep : ∀ i, i ≠ d → (a'.put (some d) u).tmps.getD i undef = a'.tmps.getD i undef := fun i hi => put_getD fun he => hi (Option.some.inj he).symm
  have kp : Kp c.own c.own w2 w3 := ⟨fun ad v hc hn => by
    obtain ⟨hsp, cs1, el1, fr1, hb1, hv1⟩ := cell_heap hc
    have hne : ad.block ≠ g := fun he => hn (by rw [he]; exact (v6 _).1)
    refine ⟨?_, hn⟩
    obtain ⟨ab, ao, as⟩ := ad
    simp only at hsp hb1 hv1 hne
    subst hsp
    rw [heap_cell (by rw [b5 ab (lt_of_heap hb1) hne]; exact hb1), hv1], fun g' cs1 el1 fr1 hg => by
      by_cases hgg : g' = g
      · subst hgg
        rw [v3] at hg
        simp at hg
        obtain ⟨rfl, rfl, rfl⟩ := hg
        exact ⟨cs', b6, b7⟩
      · exact ⟨cs1, by rw [b5 g' (lt_of_heap hg) hgg]; exact hg, rfl⟩⟩
  refine hQ _ _ _ (hE.turn (own' := c.own) (G := g) rfl (fun _ _ _ => Iff.rfl) b5 (fun _ => ⟨v5, v6, cs, el, cs', v3, hpos, b6, b7⟩) b1 b2 b3 b4 (fun b off hn => Nat.lt_of_lt_of_le (hE.sr.M.lt b off hn) b1) (fun i => ?_) h2.defers (by simpa [Act.put] using h2.size) ⟨gsf, fun s' hs' => ?_, fun s' hs' s'' hs'' g' h1 h2 => ?_⟩)
  · by_cases hip : i = d
    · exact .inr (by simp [hip])
    · exact .inl ⟨by simp [hip], hkeep i hip⟩
  · rcases List.mem_cons.1 hs' with rfl | hs'
    · simp only
      rw [hkeep s hsd, hgs]
      refine ⟨cap, cs', el, by rw [v1, hF.2.1], by simp only; rw [hF.2.1]; exact v2, b6, by rw [b7]; exact v4, v5, v6, hF.2.2.1, fun i j e x hi hj => ?_⟩
      obtain ⟨u, o', w', q1, q2, q3⟩ := b8 i j e x hi hj
      exact ⟨u, q1, scalar_V (List.all_eq_true.1 (List.all_eq_true.1 hsc e (List.mem_of_getElem? hi)) x (List.mem_of_getElem? hj)) q2, q3⟩
    · obtain ⟨hs1, hs2⟩ := dropO_mem hs'
      simp only at hs2
      rw [hkeep _ (hd s' hs1)]
      have hbl : ∀ b, gsf s'.slot = some b → b < w2.heap.size := fun b hb => by
        have h3 := k1 s' hs1
        rw [hb] at h3
        obtain ⟨_, _, _, _, _, q3, _⟩ := h3
        exact lt_of_heap q3
      refine (k1 s' hs1).keep (c' := ⟨c.own, c.ρ, c.ν⟩) kp (fun g' hg' => b5 g' (hbl g' hg') fun he => hs2 ?_) fun g' _ hh _ => hh
      have := k2 s' hs1 o hoO g (by rw [hg', he]) (by rw [hos1]; exact hgs)
      rw [this, hos1]
  · have key : ∀ y ∈ setO O ⟨s, o.z, els'⟩, ∃ y' ∈ O, y'.slot = y.slot := fun y hy => by
      rcases List.mem_cons.1 hy with rfl | hy
      · exact ⟨o, hoO, hos1⟩
      · exact ⟨y, (dropO_mem hy).1, rfl⟩
    obtain ⟨y, y1, y2⟩ := key s' hs'
    obtain ⟨y', y1', y2'⟩ := key s'' hs''
    rw [← y2] at h1 ⊢
    rw [← y2'] at h2 ⊢
    exact k2 y y1 y' y1' g' h1 h2
end
end Ev
