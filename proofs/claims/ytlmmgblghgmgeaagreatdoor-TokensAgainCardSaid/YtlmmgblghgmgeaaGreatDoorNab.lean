/- The texts OwnD, OwnE, OwnF, merged. -/
import Derived.Test.YtlmmgblghgmgeaaGreatDoorNaa
set_option linter.unusedVariables false
set_option linter.unusedSimpArgs false
/- A verified evaluator, slices of one's own, part D: code. -/
set_option linter.unusedVariables false
set_option linter.unusedSimpArgs false
namespace Ev
open Go Go.RowKit

/-- Elements of plain values. -/
def allS (els : List (List AV)) : Prop := els.all (fun q => q.all AV.scalar) = true
/-- A value that a call has just made: a slice of its own. -/
def FreshV (w w' : World) (z : Nat) (els : List (List AV)) (v : Value) : Prop :=
  (els = [] ∧ ∃ ad, v = .slice ad 0 0) ∨ ∃ g cap cs el, v = .slice (some ⟨g, 0, none⟩) els.length cap ∧ els.length ≤ cap ∧ w.heap.size ≤ g ∧ w'.heap[g]? = some (.cells cs el (0, 0)) ∧ cap * z ≤ cs.size ∧ (∀ e ∈ els, e.length = z) ∧
    ∀ (i j : Nat) (e : List AV) (x : AV), els[i]? = some e → e[j]? = some x → ∃ u, cs[i * z + j]? = some u ∧ V noOwn w' x u ∧ u.oneCell' = true
def FreshCall (P : Program) (f : FuncId) (args : List AV) (z : Nat) (els : List (List AV)) : Prop :=
  (∀ (vs : Array Value) (w : World), (callFunc f vs).run P w = .ok (.enter f vs) w) ∧
  ∀ (w : World) (vs : Array Value), Gl P noOwn w → vs.size = args.length → (∀ (i : Nat) (x : AV) (v : Value), args[i]? = some x → vs[i]? = some v → V noOwn w x v) →
    Calls P f vs w fun e w' => ∃ v, e = .returned v ∧ Below w.heap.size w w' ∧ FreshV w w' z els v
abbrev Fresher := FuncId → List AV → Option (Nat × List (List AV))
def FreshSound (P : Program) (F : Fresher) : Prop := ∀ f args z els, F f args = some (z, els) → FreshCall P f args z els

section
variable {P : Program} {c c' c2 : Cfg} {w w' w2 : World} {m m2 : Mem} {t t' t2 : Tmps} {a a' : Act} {N : Nat} {o0 : Own} {w0 : World} {c0 : Cfg} {O O' : List OS} {ops : Array Oper}

/-- A slot takes over what stood in another. -/
theorem assign_last {n s d : Nat} {ob : Oper} {Q : Exit → Act → World → Prop} {val : Value} {w3 : World} (hs : ops[n + 1]? = some ob) (gs : ob.guard = none) (hdb : ob.dst = some s) (hob : ob.op = .assign (.tmp d)) (hd1 : d < a'.tmps.size) (hs1 : s < a'.tmps.size)
    (hQ : ∀ a'' : Act, (∀ i, i ≠ d → i ≠ s → a''.tmps.getD i undef = a'.tmps.getD i undef) → a''.tmps.getD s undef = val → a''.defers = a'.defers → a''.tmps.size = a'.tmps.size → Q .normal a'' w3) :
    wpOp P ops Q (n + 1) (wpOps P ops Q []) (a'.put (some d) val) w3 := by
  refine wpOp_value hs gs (v := val) (w' := w3) ?_ ?_
  · unfold execOp
    rw [hob]
    have : (a'.put (some d) val).eval (.tmp d) = val := put_same hd1
    simp [this]
  · rw [hdb]
    show Q .normal ((a'.put (some d) val).put (some s) val) w3
    refine hQ _ (fun i h1 h2 => ?_) ?_ rfl (by simp [Act.put])
    · rw [put_getD fun he => h2 (Option.some.inj he).symm, put_getD fun he => h1 (Option.some.inj he).symm]
    · exact put_same (by simpa [Act.put] using hs1)
theorem two_after {n d s : Nat} {a'' : Act} (hf : ∀ i, i ≠ d → i ≠ s → a''.tmps.getD i undef = a'.tmps.getD i undef) : ∀ i, upd (upd (after (dn ops n) t2 t) d .undef) s .undef i = after (dn ops n) t2 t i ∧ a''.tmps.getD i undef = a'.tmps.getD i undef ∨ upd (upd (after (dn ops n) t2 t) d .undef) s .undef i = .undef := fun i => by
  by_cases h1 : i = s
  · exact .inr (by simp [h1])
  · by_cases h2 : i = d
    · exact .inr (by simp [h2])
    · exact .inl ⟨by simp [h1, h2], hf i h2 h1⟩

/-- Nothing appended. -/
theorem own_app_nil {n s x d : Nat} {ty1 ty2 e e2 : TypeId} {y : Operand} {oa ob : Oper} {Q : Exit → Act → World → Prop} {z s2 : Nat} {tok : Tok} {zz : Nat} {tk : Tok}
    (h : SRO P N o0 w0 c0 c w t m O a) (h2 : SR P N c2 w2 t2 m2 a') (ev : Evo noOwn w c2.own w2) (hTr : Track ops n (fun _ => True) a a') (hO : ∀ o ∈ O, o.slot ∉ dn ops n) (hd : ∀ o ∈ O, o.slot ≠ d)
    (hx : t2 x = .sl zz [] tk) (htk : tk = .nil ∨ tk = .clip)
    (hsz : n + 2 = ops.size) (hi : ops[n]? = some oa) (hs : ops[n + 1]? = some ob) (gi : oa.guard = none) (gs : ob.guard = none) (hda : oa.dst = some d) (hdb : ob.dst = some s)
    (hoa : oa.op = .call { callee := .builtin .append, args := #[.tmp x, y], argTypes := #[ty1, ty2] }) (hob : ob.op = .assign (.tmp d)) (hdN : d < N) (hsN : s < N)
    (hy : opnd t2 y = .sl s2 [] tok) (hel : elemT P ty1 = some e) (hel2 : elemT P ty2 = some e2) (hz : tsz P e = some z)
    (hQ : ∀ c' a' w', SRO P N o0 w0 c0 c' w' (upd (upd (after (dn ops n) t2 t) d .undef) s .undef) m (setO O ⟨s, z, []⟩) a' → Q .normal a' w') :
    wpOps P ops Q (List.range' n (ops.size - n)) a' w2 := by
  have hE := view_end (l := dn ops n) h h2 ev hTr.frame hO
  obtain ⟨gsf, k1, k2⟩ := hE.ow
  obtain ⟨ad, hxv⟩ : ∃ ad, a'.tmps.getD x undef = .slice ad 0 0 := by
    have hT := h2.T x
    rw [hx] at hT
    have hv : V c2.own w2 (.sl zz [] tk) (a'.tmps.getD x undef) := by
      rcases htk with rfl | rfl
      · exact hT
      · exact hT
    generalize a'.tmps.getD x undef = u at hv
    cases hv with
    | sl _ _ _ ad len cap cv hlen hcap hel' hc hv ho hn hk hr =>
      simp at hlen
      subst hlen
      rcases htk with rfl | rfl
      · obtain ⟨rfl, rfl⟩ := hn rfl
        exact ⟨_, rfl⟩
      · have := hk rfl
        subst this
        exact ⟨_, rfl⟩
  have hTy := T_opnd h2.T y
  rw [hy] at hTy
  obtain ⟨ad2, nn, cap2, cv2, hyv, hn, _⟩ := V_sl (T_sl hTy)
  simp at hn
  subst hn
  have hsz2 : ops.size - n = 2 := by omega
  rw [hsz2]
  show wpOps P ops Q [n, n + 1] a' w2
  rw [wpOps_cons]
  have hrun := append_room (P := P) (w := w2) (ty := oa.type) (ad := ad) (ad2 := ad2) (len := 0) (cap := 0) (n := 0) (cap2 := cap2) (new := #[]) (under_of_elemT hel) (under_of_elemT hel2) hz (by cases ad2 <;> simp [Builtin.firstCells, loadCells, loadCellsFrom]) (by omega)
  refine wpOp_value (v := .slice ad 0 0) (w' := w2) hi gi (exec_append hoa (by
    have e1 : a'.eval (.tmp x) = .slice ad 0 0 := hxv
    rw [e1, hyv, hrun]
    cases ad <;> simp [storeCells])) ?_
  rw [wpOps_cons, hda]
  refine assign_last hs gs hdb hob (Nat.lt_of_lt_of_le hdN h2.size) (Nat.lt_of_lt_of_le hsN h2.size) fun a'' hf hsv hdf hsz' => ?_
  refine hQ _ _ _ (hE.turn (own' := c.own) (G := w2.heap.size) rfl (fun _ _ _ => Iff.rfl) (fun g hg _ => rfl) (fun hk => absurd hk (Nat.lt_irrefl _)) (Nat.le_refl _) rfl rfl rfl hE.sr.M.lt (two_after hf) (hdf.trans h2.defers) (by rw [hsz']; exact h2.size) ⟨fun i => if i = s then none else gsf i, fun o ho => ?_, fun o ho o' ho' g h3 h4 => ?_⟩)
  · rcases List.mem_cons.1 ho with rfl | ho
    · simp only [if_true]
      rw [hsv]
      exact ⟨rfl, ad, rfl⟩
    · obtain ⟨q1, q2⟩ := dropO_mem ho
      simp only at q2
      simp only [if_neg q2]
      rw [hf _ (hd o q1) q2]
      exact k1 o q1
  · have key : ∀ o ∈ setO O ⟨s, z, []⟩, ∀ g, (if o.slot = s then none else gsf o.slot) = some g → o ∈ O ∧ gsf o.slot = some g := fun o ho g hg => by
      split at hg
      · simp at hg
      · rename_i hne
        rcases List.mem_cons.1 ho with rfl | ho
        · exact absurd rfl hne
        · exact ⟨(dropO_mem ho).1, hg⟩
    obtain ⟨q1, q2⟩ := key o ho g h3
    obtain ⟨q3, q4⟩ := key o' ho' g h4
    exact k2 o q1 o' q3 g q2 q4

/-- A call that makes a slice. -/
theorem own_fresh {n s d : Nat} {f : FuncId} {args : Array Operand} {tys : Array TypeId} {oa ob : Oper} {Q : Exit → Act → World → Prop} {z : Nat} {els : List (List AV)}
    (h : SRO P N o0 w0 c0 c w t m O a) (h2 : SR P N c2 w2 t2 m2 a') (ev : Evo noOwn w c2.own w2) (hTr : Track ops n (fun _ => True) a a') (hO : ∀ o ∈ O, o.slot ∉ dn ops n) (hd : ∀ o ∈ O, o.slot ≠ d)
    (hF : FreshCall P f (args.toList.map fun o => (opnd t2 o).bare) z els)
    (hsz : n + 2 = ops.size) (hi : ops[n]? = some oa) (hs : ops[n + 1]? = some ob) (gi : oa.guard = none) (gs : ob.guard = none) (hda : oa.dst = some d) (hdb : ob.dst = some s)
    (hoa : oa.op = .call { callee := .value (.func f), args := args, argTypes := tys }) (hob : ob.op = .assign (.tmp d)) (hdN : d < N) (hsN : s < N) (hsc : els.all (fun q => q.all AV.scalar) = true)
    (hQ : ∀ c' a' w', SRO P N o0 w0 c0 c' w' (upd (upd (after (dn ops n) t2 t) d .undef) s .undef) m (setO O ⟨s, z, els⟩) a' → Q .normal a' w') :
    wpOps P ops Q (List.range' n (ops.size - n)) a' w2 := by
  have hE := view_end (l := dn ops n) h h2 ev hTr.frame hO
  obtain ⟨gsf, k1, k2⟩ := hE.ow
  have hsz2 : ops.size - n = 2 := by omega
  rw [hsz2]
  show wpOps P ops Q [n, n + 1] a' w2
  rw [wpOps_cons]
  have hexec : (execOp a'.eval oa).run P w2 = .ok (.enter f (args.map a'.eval)) w2 := by
    obtain ⟨dst, op, type, pos, aft, guard⟩ := oa
    simp only at hoa
    subst hoa
    have hfv : a'.eval (.func f) = .func (.func f) #[] #[] := rfl
    have := hF.1 (args.map a'.eval) w2
    simpa [execOp, resolve, hfv, Deferred.ofValue, invoke] using this
  refine wpOp_enter hi gi hexec ?_
  refine (hF.2 w2 (args.map a'.eval) (hE.sr.G.weaker fun _ _ hk => hk.elim) (by simp) (fun i x v hx hv => ?_)).mono ?_
  · simp only [List.getElem?_map, Option.map_eq_some_iff, Array.getElem?_map] at hx hv
    obtain ⟨o, ho, rfl⟩ := hx
    obtain ⟨o', ho', rfl⟩ := hv
    rw [Array.getElem?_toList] at ho
    rw [ho] at ho'; simp at ho'; subst ho'
    exact (T_opnd h2.T o).bare.keep (.less fun _ _ hk => hk.elim)
  rintro ee w3 ⟨v, rfl, bel, hfv⟩
  refine ⟨v, rfl, ?_⟩
  rw [wpOps_cons, hda]
  have hds1 : d < a'.tmps.size := Nat.lt_of_lt_of_le hdN h2.size
  have hss1 : s < a'.tmps.size := Nat.lt_of_lt_of_le hsN h2.size
  refine assign_last hs gs hdb hob hds1 hss1 fun a'' hf hsv hdf hsz' => ?_
  rcases hfv with ⟨h3, ad, h4⟩ | ⟨g, cap, cs, el, v1, v2, v3, v4, v5, v6, v7⟩
  · subst h3
    refine hQ _ _ _ (hE.turn (own' := c.own) (G := w2.heap.size) rfl (fun _ _ _ => Iff.rfl) (fun g hg _ => bel.block g hg) (fun hk => absurd hk (Nat.lt_irrefl _)) bel.size bel.os bel.tape bel.output (fun g off hn => Nat.lt_of_lt_of_le (hE.sr.M.lt g off hn) bel.size) (two_after hf) (hdf.trans h2.defers) (by rw [hsz']; exact h2.size) ⟨fun i => if i = s then none else gsf i, fun o ho => ?_, fun o ho o' ho' g h5 h6 => ?_⟩)
    · rcases List.mem_cons.1 ho with rfl | ho
      · simp only [if_true]
        rw [hsv]
        exact ⟨rfl, ad, h4⟩
      · obtain ⟨q1, q2⟩ := dropO_mem ho
        simp only at q2
        simp only [if_neg q2]
        rw [hf _ (hd o q1) q2]
        exact (k1 o q1).evo (c' := ⟨c.own, c.ρ, c.ν⟩) (Evo.below bel)
    · have key : ∀ o ∈ setO O ⟨s, z, []⟩, ∀ g, (if o.slot = s then none else gsf o.slot) = some g → o ∈ O ∧ gsf o.slot = some g := fun o ho g hg => by
        split at hg
        · simp at hg
        · rename_i hne
          rcases List.mem_cons.1 ho with rfl | ho
          · exact absurd rfl hne
          · exact ⟨(dropO_mem ho).1, hg⟩
      obtain ⟨q1, q2⟩ := key o ho g h5
      obtain ⟨q3, q4⟩ := key o' ho' g h6
      exact k2 o q1 o' q3 g q2 q4
  · let own' : Own := ⟨c.own.W, fun b off => c.own.N b off ∨ b = g, fun b off h => .inl (c.own.sub b off h)⟩
    have hN : ∀ b off, b < w2.heap.size → (own'.N b off ↔ c.own.N b off) := fun b off hb => ⟨fun h => h.resolve_right (by omega), .inl⟩
    have hgl := lt_of_heap v4
    have kp : Kp c.own own' w2 w3 := ⟨fun ad v hc hn => by
      obtain ⟨hsp, cs1, el1, fr1, hb1, hv1⟩ := cell_heap hc
      refine ⟨?_, fun hk => hn ((hN _ _ (lt_of_heap hb1)).1 hk)⟩
      obtain ⟨ab, ao, as⟩ := ad
      simp only at hsp hb1 hv1
      subst hsp
      rw [heap_cell (by rw [bel.block ab (lt_of_heap hb1)]; exact hb1), hv1], fun b cs1 el1 fr1 hb => ⟨cs1, by rw [bel.block b (lt_of_heap hb)]; exact hb, rfl⟩⟩
    refine hQ _ _ _ (hE.turn (own' := own') (G := w2.heap.size) rfl hN (fun b hb _ => bel.block b hb) (fun hk => absurd hk (Nat.lt_irrefl _)) bel.size bel.os bel.tape bel.output (fun b off hn => ?_) (two_after hf) (hdf.trans h2.defers) (by rw [hsz']; exact h2.size) ⟨fun i => if i = s then some g else gsf i, fun o ho => ?_, fun o ho o' ho' b h5 h6 => ?_⟩)
    · rcases hn with hn | hn
      · exact Nat.lt_of_lt_of_le (hE.sr.M.lt b off hn) bel.size
      · rw [hn]; exact hgl
    · rcases List.mem_cons.1 ho with rfl | ho
      · simp only [if_true]
        rw [hsv]
        refine ⟨cap, cs, el, v1, v2, v4, v5, Nat.le_trans hE.ev.size v3, fun off => ⟨.inr rfl, fun hk => ?_⟩, v6, fun i j e x hi hj => ?_⟩
        · have := hE.sr.M.lt _ _ (c.own.sub _ _ hk); omega
        · obtain ⟨u, q1, q2, q3⟩ := v7 i j e x hi hj
          exact ⟨u, q1, scalar_V (List.all_eq_true.1 (List.all_eq_true.1 hsc e (List.mem_of_getElem? hi)) x (List.mem_of_getElem? hj)) q2, q3⟩
      · obtain ⟨q1, q2⟩ := dropO_mem ho
        simp only at q2
        simp only [if_neg q2]
        rw [hf _ (hd o q1) q2]
        have hbl : ∀ b, gsf o.slot = some b → b < w2.heap.size := fun b hb => by
          have h3 := k1 o q1
          rw [hb] at h3
          obtain ⟨_, _, _, _, _, q3, _⟩ := h3
          exact lt_of_heap q3
        exact (k1 o q1).keep kp (fun b hb => bel.block b (hbl b hb)) fun b _ hh hbl off => ⟨(hN b off hbl).2 (hh off).1, (hh off).2⟩
    · have hno : ∀ o ∈ dropO O s, gsf o.slot ≠ some g := fun o ho hg => by
        have h3 := k1 o (dropO_mem ho).1
        rw [hg] at h3
        obtain ⟨_, _, _, _, _, q3, _⟩ := h3
        have := lt_of_heap q3; omega
      rcases List.mem_cons.1 ho with rfl | ho <;> rcases List.mem_cons.1 ho' with rfl | ho'
      · rfl
      · obtain ⟨q1, q2⟩ := dropO_mem ho'
        simp only at q2
        simp only [if_true, Option.some.injEq] at h5
        simp only [if_neg q2] at h6
        subst h5
        exact absurd h6 (hno o' ho')
      · obtain ⟨q1, q2⟩ := dropO_mem ho
        simp only at q2
        simp only [if_true, Option.some.injEq] at h6
        simp only [if_neg q2] at h5
        subst h6
        exact absurd h5 (hno o ho)
      · obtain ⟨q1, q2⟩ := dropO_mem ho
        obtain ⟨q1', q2'⟩ := dropO_mem ho'
        simp only at q2 q2'
        simp only [if_neg q2] at h5
        simp only [if_neg q2'] at h6
        exact k2 o q1 o' q1' b h5 h6

/-- Slices of one's own given up: from here on nobody writes them. -/
theorem own_give (h : SRO P N o0 w0 c0 c w t m O a) : ∃ c', SRO P N o0 w0 c0 c' w (viewT O t) m [] a := by
  obtain ⟨gsf, k1, k2⟩ := h.ow
  let G : Nat → Prop := fun g => ∃ s ∈ O, gsf s.slot = some g
  have hG : ∀ g, G g → w0.heap.size ≤ g ∧ ∀ off, c.own.N g off ∧ ¬ c.own.W g off := fun g ⟨s, hs, hg⟩ => by
    have := k1 s hs
    rw [hg] at this
    obtain ⟨_, _, _, _, _, _, _, q5, q6, _⟩ := this
    exact ⟨q5, q6⟩
  let own' : Own := ⟨c.own.W, fun g off => c.own.N g off ∧ ¬ G g, fun g off hw => ⟨c.own.sub g off hw, fun hk => ((hG g hk).2 off).2 hw⟩⟩
  have kp : Kp c.own own' w w := .less fun _ _ hk => hk.1
  refine ⟨⟨own', c.ρ, c.ν⟩, ⟨fun i => ?_, ?_, h.sr.G.weaker fun _ _ hk => hk.1, h.sr.defers, h.sr.size⟩, ?_, h.low, fun _ => none, by simp, by simp⟩
  · rcases viewT_spec O t i with ⟨h1, h2⟩ | ⟨s, h1, h2, h3⟩
    · rw [h2]
      exact (h.sr.T i).keep kp (fun _ _ h => h) (fun _ _ => .inl rfl)
    · rw [h3, ← h2]
      refine .of_V ?_
      have hv := k1 s h1
      cases hg : gsf s.slot with
      | none =>
        rw [hg] at hv
        obtain ⟨q1, ad, q2⟩ := hv
        rw [q1, q2]; exact V_empty
      | some g =>
        rw [hg] at hv
        obtain ⟨cap, cs, el, q1, q2, q3, q4, q5, q6, q7, q8⟩ := hv
        rw [q1]
        refine .sl s.z s.els .none _ _ cap (fun i j => cs.getD (i * s.z + j) undef) rfl q2 q7 (fun i j e x hi hj => ?_) (fun i j e x hi hj => ?_) (fun i j e x hi hj => ?_) (by simp) (by simp) (by simp)
        · obtain ⟨u, r1, r2, r3⟩ := q8 i j e x hi hj
          refine ⟨⟨g, 0, none⟩, rfl, ?_, fun hk => hk.2 ⟨s, h1, hg⟩⟩
          rw [add_plain, heap_cell q3, Nat.zero_add]
          simp [Array.getD_eq_getD_getElem?, r1]
        · obtain ⟨u, r1, r2, r3⟩ := q8 i j e x hi hj
          simpa [Array.getD_eq_getD_getElem?, r1] using r2.keep kp
        · obtain ⟨u, r1, r2, r3⟩ := q8 i j e x hi hj
          simpa [Array.getD_eq_getD_getElem?, r1] using r3
  · exact h.sr.M.keep kp rfl rfl (fun _ _ _ h => h) (fun _ _ _ h => h.1) (fun _ _ _ _ _ h => h) (fun g off hk => h.sr.M.lt g off hk.1)
  · have e := h.ev
    exact ⟨e.size, e.cells, e.other, e.wr, fun g off hg hk => e.no g off hg hk.1, fun g off hg h1 h2 => ⟨e.hid g off hg h1 h2, fun hk => by have := (hG g hk).1; omega⟩, e.os, e.tape, e.output⟩
/-- An empty slice is one of one's own. -/
theorem own_born {s z : Nat} {zz : Nat} (h : SRO P N o0 w0 c0 c w t m O a) (ht : t s = .sl zz [] .nil) : SRO P N o0 w0 c0 c w (upd t s .undef) m (setO O ⟨s, z, []⟩) a := by
  obtain ⟨gsf, k1, k2⟩ := h.ow
  have hT := h.sr.T s
  rw [ht] at hT
  have hv : ∃ ad, a.tmps.getD s undef = .slice ad 0 0 := by
    have hv : V c.own w (.sl zz [] .nil) (a.tmps.getD s undef) := hT
    generalize a.tmps.getD s undef = u at hv
    cases hv with
    | sl _ _ _ ad len cap cv hlen hcap hel' hc hv ho hn hk hr =>
      simp at hlen
      subst hlen
      obtain ⟨rfl, rfl⟩ := hn rfl
      exact ⟨_, rfl⟩
  refine ⟨⟨fun i => ?_, h.sr.M, h.sr.G, h.sr.defers, h.sr.size⟩, h.ev, h.low, fun i => if i = s then none else gsf i, fun o ho => ?_, fun o ho o' ho' g h5 h6 => ?_⟩
  · by_cases hi : i = s
    · simp only [upd_apply, hi, if_true]; exact .of_V (.undef _)
    · simp only [upd_apply, hi, if_false]; exact h.sr.T i
  · rcases List.mem_cons.1 ho with rfl | ho
    · simp only [if_true]
      exact ⟨rfl, hv⟩
    · obtain ⟨q1, q2⟩ := dropO_mem ho
      simp only at q2
      simp only [if_neg q2]
      exact k1 o q1
  · have key : ∀ o ∈ setO O ⟨s, z, []⟩, ∀ g, (if o.slot = s then none else gsf o.slot) = some g → o ∈ O ∧ gsf o.slot = some g := fun o ho g hg => by
      split at hg
      · simp at hg
      · rename_i hne
        rcases List.mem_cons.1 ho with rfl | ho
        · exact absurd rfl hne
        · exact ⟨(dropO_mem ho).1, hg⟩
    obtain ⟨q1, q2⟩ := key o ho g h5
    obtain ⟨q3, q4⟩ := key o' ho' g h6
    exact k2 o q1 o' q3 g q2 q4
/-- The run of a literal slice. -/
theorem run_made {c : Cfg} {t : Tmps} {a : Act} {ty e : TypeId} {len z : Nat} {ps : Array (Nat × Operand)} {zv : AV} (hT : TRel c w t a) (hel : elemT P ty = some e) (hz : tsz P e = some z) (hzv : zeroOf P e = some zv) (hle : len * z ≤ 16777216) (hzval : zv.isVal = true) (hzl : zv.cells.length = z) (hn0 : z ≠ 0)
    (hidx : ps.toList.map (·.1) = List.range len) (hall : (ps.toList.all fun p => (opnd t p.2).isVal && (opnd t p.2).cells.length == z) = true) :
    ∃ ws : Array Value, (Instr.buildSlice ty len (ps.map fun (i, x) => (i, a.eval x))).run P w = .ok (.slice (some ⟨w.heap.size, 0, none⟩) len len) (w.alloc (.cells ws e)) ∧ ws.size = len * z ∧ ps.toList.length = len ∧
      ∀ (i j : Nat) (ys : List AV) (y : AV), (ps.toList.map fun p => (opnd t p.2).cells)[i]? = some ys → ys[j]? = some y → ∃ v, ws[i * z + j]? = some v ∧ V c.own w y v ∧ v.oneCell' = true := by
  have hu := under_of_elemT hel
  obtain ⟨zvv, rfl, hzr⟩ := run_zero hzv
  have hzc := V.cells hzval (V_ofValue c.own w zvv)
  have hlen : ps.size = len := by
    have := congrArg List.length hidx
    simpa using this
  have hpsl : ps.toList.length = len := by simpa using hlen
  let us : Array Value := (Array.range (len * z)).map (zvv.cells[· % zvv.cells.size]!)
  have husz : us.size = len * z := by simp [us]
  obtain ⟨ws, f1, f2, f3, f4⟩ := fillSlice_fill (w := w) (own := c.own) (n := z) (ps.map fun (i, x) => (i, a.eval x)).toList (ps.toList.map fun p => (opnd t p.2).cells) 0 len us
    (by
      simp only [Array.toList_map, List.map_map, List.length_map]
      rw [hpsl, ← List.range_eq_range', ← hidx]
      apply List.map_congr_left
      intro p _; rfl)
    (by simp) (fun i q ys h1 h2 => by
      simp only [Array.toList_map, List.getElem?_map, Option.map_eq_some_iff] at h1 h2
      obtain ⟨p, hp, rfl⟩ := h1
      obtain ⟨p', hp', rfl⟩ := h2
      rw [hp] at hp'; simp at hp'; subst hp'
      have hpm : p ∈ ps.toList := List.mem_of_getElem? hp
      have := List.all_eq_true.1 hall p hpm
      simp only [Bool.and_eq_true, beq_iff_eq] at this
      exact ⟨this.2, T.cells this.1 (T_opnd hT p.2)⟩) husz (by simp [hlen])
  have hrun : (Instr.buildSlice ty len (ps.map fun (i, x) => (i, a.eval x))).run P w = .ok (.slice (some ⟨w.heap.size, 0, none⟩) len len) (w.alloc (.cells ws e)) := by
    have h0 : ¬ len * z > 2 ^ 24 := by omega
    unfold Instr.buildSlice
    simp only [Sem.run_bind, run_underlying hu, Result.andThen_ok, run_tsz hz, Sem.run_ite, h0, if_false]
    have f1' : Instr.fill (fun i => some (i * z, z)) us (Array.map (fun x => (x.fst, a.eval x.snd)) ps).toList = some ws := f1
    by_cases hln : len * z = 0
    · rw [if_pos hln]
      have e1 : Array.map (fun x => (#[] : Array Value)[x % (#[] : Array Value).size]!) (Array.range (len * z)) = us := by simp [us, hln]
      simp only [Sem.run_pure, Result.andThen_ok]
      rw [e1, f1']
      simp [newRow]
    · rw [if_neg hln]
      have e1 : Array.map (fun x => zvv.cells[x % zvv.cells.size]!) (Array.range (len * z)) = us := rfl
      simp only [Sem.run_bind, hzr, Result.andThen_ok, Sem.run_pure]
      rw [e1, f1']
      simp [newRow]
  refine ⟨ws, hrun, by rw [f2, husz], hpsl, fun i j ys y hi hj => ?_⟩
  obtain ⟨v, h1, h2⟩ := f4 i j ys y hi hj
  simp only [Nat.zero_add] at h1
  exact ⟨v, h1, h2⟩

/-- A slice that has just come into a block of its own, by whatever step. -/
theorem own_new {n s d : Nat} {ob : Oper} {Q : Exit → Act → World → Prop} {z cap g : Nat} {els : List (List AV)} {cs : Array Value} {el : TypeId} {w3 : World}
    (hE : SRO P N o0 w0 c0 c w2 (after (dn ops n) t2 t) m O a') (hd : ∀ o ∈ O, o.slot ≠ d) (hdf : a'.defers = []) (hdN : d < a'.tmps.size) (hsN : s < a'.tmps.size) (hNs : N ≤ a'.tmps.size)
    (hs : ops[n + 1]? = some ob) (gs : ob.guard = none) (hdb : ob.dst = some s) (hob : ob.op = .assign (.tmp d)) (bel : Below w2.heap.size w2 w3)
    (v2 : els.length ≤ cap) (v3 : w2.heap.size ≤ g) (v4 : w3.heap[g]? = some (.cells cs el (0, 0))) (v5 : cap * z ≤ cs.size) (v6 : ∀ e ∈ els, e.length = z) (hsc : allS els)
    (v7 : ∀ (i j : Nat) (e : List AV) (x : AV), els[i]? = some e → e[j]? = some x → ∃ (u : Value) (o' : Own) (w' : World), cs[i * z + j]? = some u ∧ V o' w' x u ∧ u.oneCell' = true)
    (hQ : ∀ c' a' , SRO P N o0 w0 c0 c' w3 (upd (upd (after (dn ops n) t2 t) d .undef) s .undef) m (setO O ⟨s, z, els⟩) a' → Q .normal a' w3) :
    wpOp P ops Q (n + 1) (wpOps P ops Q []) (a'.put (some d) (.slice (some ⟨g, 0, none⟩) els.length cap)) w3 := by
  obtain ⟨gsf, k1, k2⟩ := hE.ow
  refine assign_last hs gs hdb hob hdN hsN fun a'' hf hsv hdf' hsz' => ?_
  let own' : Own := ⟨c.own.W, fun b off => c.own.N b off ∨ b = g, fun b off h => .inl (c.own.sub b off h)⟩
  have hN : ∀ b off, b < w2.heap.size → (own'.N b off ↔ c.own.N b off) := fun b off hb => ⟨fun h => h.resolve_right (by omega), .inl⟩
  have hgl := lt_of_heap v4
  have kp : Kp c.own own' w2 w3 := ⟨fun ad v hc hn => by
    obtain ⟨hsp, cs1, el1, fr1, hb1, hv1⟩ := cell_heap hc
    refine ⟨?_, fun hk => hn ((hN _ _ (lt_of_heap hb1)).1 hk)⟩
    obtain ⟨ab, ao, as⟩ := ad
    simp only at hsp hb1 hv1
    subst hsp
    rw [heap_cell (by rw [bel.block ab (lt_of_heap hb1)]; exact hb1), hv1], fun b cs1 el1 fr1 hb => ⟨cs1, by rw [bel.block b (lt_of_heap hb)]; exact hb, rfl⟩⟩
  refine hQ _ _ (hE.turn (own' := own') (G := w2.heap.size) rfl hN (fun b hb _ => bel.block b hb) (fun hk => absurd hk (Nat.lt_irrefl _)) bel.size bel.os bel.tape bel.output (fun b off hn => ?_) (two_after hf) (hdf'.trans hdf) (by rw [hsz']; exact hNs) ⟨fun i => if i = s then some g else gsf i, fun o ho => ?_, fun o ho o' ho' b h5 h6 => ?_⟩)
  · rcases hn with hn | hn
    · exact Nat.lt_of_lt_of_le (hE.sr.M.lt b off hn) bel.size
    · rw [hn]; exact hgl
  · rcases List.mem_cons.1 ho with rfl | ho
    · simp only [if_true]
      rw [hsv]
      refine ⟨cap, cs, el, rfl, v2, v4, v5, Nat.le_trans hE.ev.size v3, fun off => ⟨.inr rfl, fun hk => ?_⟩, v6, fun i j e x hi hj => ?_⟩
      · have := hE.sr.M.lt _ _ (c.own.sub _ _ hk); omega
      · obtain ⟨u, o', w', q1, q2, q3⟩ := v7 i j e x hi hj
        exact ⟨u, q1, scalar_V (List.all_eq_true.1 (List.all_eq_true.1 hsc e (List.mem_of_getElem? hi)) x (List.mem_of_getElem? hj)) q2, q3⟩
    · obtain ⟨q1, q2⟩ := dropO_mem ho
      simp only at q2
      simp only [if_neg q2]
      rw [hf _ (hd o q1) q2]
      have hbl : ∀ b, gsf o.slot = some b → b < w2.heap.size := fun b hb => by
        have h3 := k1 o q1
        rw [hb] at h3
        obtain ⟨_, _, _, _, _, q3, _⟩ := h3
        exact lt_of_heap q3
      exact (k1 o q1).keep kp (fun b hb => bel.block b (hbl b hb)) fun b _ hh hbl off => ⟨(hN b off hbl).2 (hh off).1, (hh off).2⟩
  · have hno : ∀ o ∈ dropO O s, gsf o.slot ≠ some g := fun o ho hg => by
      have h3 := k1 o (dropO_mem ho).1
      rw [hg] at h3
      obtain ⟨_, _, _, _, _, q3, _⟩ := h3
      have := lt_of_heap q3; omega
    rcases List.mem_cons.1 ho with rfl | ho <;> rcases List.mem_cons.1 ho' with rfl | ho'
    · rfl
    · obtain ⟨q1, q2⟩ := dropO_mem ho'
      simp only at q2
      simp only [if_true, Option.some.injEq] at h5
      simp only [if_neg q2] at h6
      subst h5
      exact absurd h6 (hno o' ho')
    · obtain ⟨q1, q2⟩ := dropO_mem ho
      simp only at q2
      simp only [if_true, Option.some.injEq] at h6
      simp only [if_neg q2] at h5
      subst h6
      exact absurd h5 (hno o ho)
    · obtain ⟨q1, q2⟩ := dropO_mem ho
      obtain ⟨q1', q2'⟩ := dropO_mem ho'
      simp only at q2 q2'
      simp only [if_neg q2] at h5
      simp only [if_neg q2'] at h6
      exact k2 o q1 o' q1' b h5 h6
/-- A literal slice, made one of one's own. -/
theorem own_made {n s d : Nat} {ty e : TypeId} {len z : Nat} {ps : Array (Nat × Operand)} {zv : AV} {oa ob : Oper} {Q : Exit → Act → World → Prop}
    (h : SRO P N o0 w0 c0 c w t m O a) (h2 : SR P N c2 w2 t2 m2 a') (ev : Evo noOwn w c2.own w2) (hTr : Track ops n (fun _ => True) a a') (hO : ∀ o ∈ O, o.slot ∉ dn ops n) (hd : ∀ o ∈ O, o.slot ≠ d)
    (hsz : n + 2 = ops.size) (hi : ops[n]? = some oa) (hs : ops[n + 1]? = some ob) (gi : oa.guard = none) (gs : ob.guard = none) (hda : oa.dst = some d) (hdb : ob.dst = some s)
    (hoa : oa.op = .buildSlice ty len ps) (hob : ob.op = .assign (.tmp d)) (hdN : d < N) (hsN : s < N)
    (hel : elemT P ty = some e) (hz : tsz P e = some z) (hzv : zeroOf P e = some zv) (hle : len * z ≤ 16777216) (hzval : zv.isVal = true) (hzl : zv.cells.length = z) (hn0 : z ≠ 0)
    (hidx : ps.toList.map (·.1) = List.range len) (hall : (ps.toList.all fun p => (opnd t2 p.2).isVal && (opnd t2 p.2).cells.length == z) = true) (hsc : allS (ps.toList.map fun p => (opnd t2 p.2).cells))
    (hQ : ∀ c' a' w', SRO P N o0 w0 c0 c' w' (upd (upd (after (dn ops n) t2 t) d .undef) s .undef) m (setO O ⟨s, z, ps.toList.map fun p => (opnd t2 p.2).cells⟩) a' → Q .normal a' w') :
    wpOps P ops Q (List.range' n (ops.size - n)) a' w2 := by
  have hE := view_end (l := dn ops n) h h2 ev hTr.frame hO
  have hsz2 : ops.size - n = 2 := by omega
  rw [hsz2]
  show wpOps P ops Q [n, n + 1] a' w2
  rw [wpOps_cons]
  obtain ⟨ws, r1, r2, r3, r4⟩ := run_made (w := w2) h2.T hel hz hzv hle hzval hzl hn0 hidx hall
  refine wpOp_value (v := .slice (some ⟨w2.heap.size, 0, none⟩) len len) (w' := w2.alloc (.cells ws e)) hi gi ?_ ?_
  · unfold execOp
    rw [hoa]
    simp [r1]
  rw [wpOps_cons, hda]
  have hlen : (ps.toList.map fun p => (opnd t2 p.2).cells).length = len := by rw [List.length_map, r3]
  have := own_new (s := s) (d := d) (n := n) (ob := ob) (Q := Q) (ops := ops) (z := z) (cap := len) (g := w2.heap.size) (els := ps.toList.map fun p => (opnd t2 p.2).cells) (cs := ws) (el := e) (w3 := w2.alloc (.cells ws e)) hE hd h2.defers (Nat.lt_of_lt_of_le hdN h2.size) (Nat.lt_of_lt_of_le hsN h2.size) h2.size hs gs hdb hob ((Below.refl _ _).alloc (Nat.le_refl _) _)
    (by rw [hlen]; exact Nat.le_refl _) (Nat.le_refl _) (heap_new _ _) (by rw [r2]; exact Nat.le_refl _) (fun ys hys => by
      obtain ⟨p, hp, rfl⟩ := List.mem_map.1 hys
      have := List.all_eq_true.1 hall p hp
      simp only [Bool.and_eq_true, beq_iff_eq] at this
      exact this.2) hsc (fun i j ys y hi hj => by
      obtain ⟨v, q1, q2, q3⟩ := r4 i j ys y hi hj
      exact ⟨v, _, _, q1, q2, q3⟩) fun c' a'' hS => hQ _ _ _ hS
  rw [hlen] at this
  exact this

/-- A call that turns the elements of a slice in place. -/
def InplCall (P : Program) (f : FuncId) (z : Nat) (els els' : List (List AV)) : Prop :=
  (∀ (vs : Array Value) (w : World), (callFunc f vs).run P w = .ok (.enter f vs) w) ∧ els'.length = els.length ∧ (∀ e ∈ els', e.length = z) ∧
  ∀ (w : World) (g cap : Nat) (cs : Array Value) (el : TypeId), w.heap[g]? = some (.cells cs el (0, 0)) → els.length ≤ cap → cap * z ≤ cs.size →
    (∀ (i j : Nat) (e : List AV) (x : AV), els[i]? = some e → e[j]? = some x → ∃ (u : Value) (o : Own) (w' : World), cs[i * z + j]? = some u ∧ V o w' x u) →
    Calls P f #[.slice (some ⟨g, 0, none⟩) els.length cap] w fun e w' => ∃ (u : Value) (cs' : Array Value), e = .returned u ∧ w.heap.size ≤ w'.heap.size ∧ w'.os = w.os ∧ w'.tape = w.tape ∧ w'.output = w.output ∧
      (∀ k, k < w.heap.size → k ≠ g → w'.heap[k]? = w.heap[k]?) ∧ w'.heap[g]? = some (.cells cs' el (0, 0)) ∧ cs'.size = cs.size ∧
      ∀ (i j : Nat) (e : List AV) (x : AV), els'[i]? = some e → e[j]? = some x → ∃ (u : Value) (o : Own) (w'' : World), cs'[i * z + j]? = some u ∧ V o w'' x u ∧ u.oneCell' = true
theorem own_inpl {n s x : Nat} {f : FuncId} {tys : Array TypeId} {oa : Oper} {Q : Exit → Act → World → Prop} {o : OS} {els' : List (List AV)} {d : Nat}
    (h : SRO P N o0 w0 c0 c w t m O a) (h2 : SR P N c2 w2 t2 m2 a') (ev : Evo noOwn w c2.own w2) (hTr : Track ops n (fun _ => True) a a') (hO : ∀ o ∈ O, o.slot ∉ dn ops n) (hd : ∀ o ∈ O, o.slot ≠ d)
    (hcopy : isCopy ops n s x = true) (ho : getO O s = some o) (hF : InplCall P f o.z o.els els') (hne : o.els ≠ []) (hz0 : o.z ≠ 0)
    (hsz : n + 1 = ops.size) (hi : ops[n]? = some oa) (gi : oa.guard = none) (hda : oa.dst = some d)
    (hoa : oa.op = .call { callee := .value (.func f), args := #[.tmp x], argTypes := tys }) (hdN : d < N) (hsc : allS els')
    (hQ : ∀ c' a' w', SRO P N o0 w0 c0 c' w' (upd (after (dn ops n) t2 t) d .undef) m (setO O ⟨s, o.z, els'⟩) a' → Q .normal a' w') :
    wpOps P ops Q (List.range' n (ops.size - n)) a' w2 := by
  have hE := view_end (l := dn ops n) h h2 ev hTr.frame hO
  obtain ⟨gsf, k1, k2⟩ := hE.ow
  obtain ⟨hoO, hos1⟩ := getO_mem ho
  have hown := k1 o hoO
  have hxval := copy_val hcopy hTr
  have hsval : a'.tmps.getD s undef = a.tmps.getD s undef := hTr.frame s (by rw [← hos1]; exact hO o hoO)
  rw [hos1] at hown
  have hsd : s ≠ d := by rw [← hos1]; exact hd o hoO
  cases hgs : gsf s with
  | none => rw [hgs] at hown; exact absurd hown.1 hne
  | some g =>
  rw [hgs] at hown
  obtain ⟨cap, cs, el, v1, v2, v3, v4, v5, v6, v7, v8⟩ := hown
  have hxv1 : a'.tmps.getD x undef = .slice (some ⟨g, 0, none⟩) o.els.length cap := by rw [hxval, ← hsval, v1]
  have hsz2 : ops.size - n = 1 := by omega
  rw [hsz2]
  show wpOps P ops Q [n] a' w2
  rw [wpOps_cons]
  have hexec : (execOp a'.eval oa).run P w2 = .ok (.enter f #[.slice (some ⟨g, 0, none⟩) o.els.length cap]) w2 := by
    obtain ⟨dst, op, type, pos, aft, guard⟩ := oa
    simp only at hoa
    subst hoa
    have hfv : a'.eval (.func f) = .func (.func f) #[] #[] := rfl
    have hxe : a'.eval (.tmp x) = .slice (some ⟨g, 0, none⟩) o.els.length cap := hxv1
    have := hF.1 #[.slice (some ⟨g, 0, none⟩) o.els.length cap] w2
    simpa [execOp, resolve, hfv, hxe, Deferred.ofValue, invoke] using this
  refine wpOp_enter hi gi hexec ?_
  refine (hF.2.2.2 w2 g cap cs el v3 v2 v4 fun i j e x hi hj => ?_).mono ?_
  · obtain ⟨u, q1, q2, _⟩ := v8 i j e x hi hj
    exact ⟨u, _, _, q1, q2⟩
  rintro ee w3 ⟨u, cs', rfl, b1, b2, b3, b4, b5, b6, b7, b8⟩
  refine ⟨u, rfl, ?_⟩
  rw [hda]
  show Q .normal (a'.put (some d) u) w3
  have hpos : 0 < cs.size := by
    have h1 := List.length_pos_iff.2 hne
    have h2 : 1 * 1 ≤ cap * o.z := Nat.mul_le_mul (by omega) (Nat.pos_of_ne_zero hz0)
    omega
  have hkeep : ∀ i, i ≠ d → (a'.put (some d) u).tmps.getD i undef = a'.tmps.getD i undef := fun i hi => put_getD fun he => hi (Option.some.inj he).symm
  have kp : Kp c.own c.own w2 w3 := ⟨fun ad v hc hn => by
    obtain ⟨hsp, cs1, el1, fr1, hb1, hv1⟩ := cell_heap hc
    have hne : ad.block ≠ g := fun he => hn (by rw [he]; exact (v6 _).1)
    refine ⟨?_, hn⟩
    obtain ⟨ab, ao, as⟩ := ad
    simp only at hsp hb1 hv1 hne
    subst hsp
    rw [heap_cell (by rw [b5 ab (lt_of_heap hb1) hne]; exact hb1), hv1], fun g' cs1 el1 fr1 hg => by
      by_cases hgg : g' = g
      · subst hgg
        rw [v3] at hg
        simp at hg
        obtain ⟨rfl, rfl, rfl⟩ := hg
        exact ⟨cs', b6, b7⟩
      · exact ⟨cs1, by rw [b5 g' (lt_of_heap hg) hgg]; exact hg, rfl⟩⟩
  refine hQ _ _ _ (hE.turn (own' := c.own) (G := g) rfl (fun _ _ _ => Iff.rfl) b5 (fun _ => ⟨v5, v6, cs, el, cs', v3, hpos, b6, b7⟩) b1 b2 b3 b4 (fun b off hn => Nat.lt_of_lt_of_le (hE.sr.M.lt b off hn) b1) (fun i => ?_) h2.defers (by simpa [Act.put] using h2.size) ⟨gsf, fun s' hs' => ?_, fun s' hs' s'' hs'' g' h1 h2 => ?_⟩)
  · by_cases hip : i = d
    · exact .inr (by simp [hip])
    · exact .inl ⟨by simp [hip], hkeep i hip⟩
  · rcases List.mem_cons.1 hs' with rfl | hs'
    · simp only
      rw [hkeep s hsd, hgs]
      refine ⟨cap, cs', el, by rw [v1, hF.2.1], by simp only; rw [hF.2.1]; exact v2, b6, by rw [b7]; exact v4, v5, v6, hF.2.2.1, fun i j e x hi hj => ?_⟩
      obtain ⟨u, o', w', q1, q2, q3⟩ := b8 i j e x hi hj
      exact ⟨u, q1, scalar_V (List.all_eq_true.1 (List.all_eq_true.1 hsc e (List.mem_of_getElem? hi)) x (List.mem_of_getElem? hj)) q2, q3⟩
    · obtain ⟨hs1, hs2⟩ := dropO_mem hs'
      simp only at hs2
      rw [hkeep _ (hd s' hs1)]
      have hbl : ∀ b, gsf s'.slot = some b → b < w2.heap.size := fun b hb => by
        have h3 := k1 s' hs1
        rw [hb] at h3
        obtain ⟨_, _, _, _, _, q3, _⟩ := h3
        exact lt_of_heap q3
      refine (k1 s' hs1).keep (c' := ⟨c.own, c.ρ, c.ν⟩) kp (fun g' hg' => b5 g' (hbl g' hg') fun he => hs2 ?_) fun g' _ hh _ => hh
      have := k2 s' hs1 o hoO g (by rw [hg', he]) (by rw [hos1]; exact hgs)
      rw [this, hos1]
  · have key : ∀ y ∈ setO O ⟨s, o.z, els'⟩, ∃ y' ∈ O, y'.slot = y.slot := fun y hy => by
      rcases List.mem_cons.1 hy with rfl | hy
      · exact ⟨o, hoO, hos1⟩
      · exact ⟨y, (dropO_mem hy).1, rfl⟩
    obtain ⟨y, y1, y2⟩ := key s' hs'
    obtain ⟨y', y1', y2'⟩ := key s'' hs''
    rw [← y2] at h1 ⊢
    rw [← y2'] at h2 ⊢
    exact k2 y y1 y' y1' g' h1 h2
end
end Ev

/- A verified evaluator, slices of one's own, part E: the evaluator of code, and that it is sound. -/
set_option linter.unusedVariables false
set_option linter.unusedSimpArgs false
namespace Ev
open Go Go.RowKit

/-- Elements of plain values. -/
def allScalar (els : List (List AV)) : Bool := els.all fun q => q.all AV.scalar
theorem allScalar_nil : allScalar [] = true := rfl
theorem allScalar_cons (q : List AV) (r : List (List AV)) : allScalar (q :: r) = (q.all AV.scalar && allScalar r) := rfl
inductive RK where
  | plain | give | view
  | born (s z : Nat)
  | store (s x : Nat)
  | app (s x : Nat)
  | app0 (s x : Nat)
  | fresh (s : Nat)
  | made (s : Nat)
  | inpl (s x : Nat)
abbrev Turner := FuncId → Nat → List (List AV) → Option (List (List AV))
def TurnSound (P : Program) (I : Turner) : Prop := ∀ f z els els', I f z els = some els' → InplCall P f z els els'
def noTurn : Turner := fun _ _ _ => none
theorem noTurn_sound (P : Program) : TurnSound P noTurn := fun _ _ _ _ h => by simp [noTurn] at h
structure EnvO where
  E : Env
  kind : Nat → RK
  slots : List Nat
  fresh : Fresher
  turn : Turner

def storeParts (x : Nat) (l : List Oper) : Option (TypeId × Operand × Nat × TypeId × Operand) :=
  match l with
  | [{ dst := some p, op := .indexAddr ty (.tmp x') ix, guard := none, .. }, { dst := none, op := .store ty2 (.tmp p') xv, guard := none, .. }] => if x' = x ∧ p' = p then some (ty, ix, p, ty2, xv) else none
  | _ => none
def appParts (s x : Nat) (l : List Oper) : Option (TypeId × TypeId × Operand × Nat) :=
  match l with
  | [{ dst := some d, op := .call { callee := .builtin .append, args := ⟨[.tmp x', y]⟩, argTypes := ⟨[t1, t2]⟩ }, guard := none, .. }, { dst := some s', op := .assign (.tmp d'), guard := none, .. }] => if x' = x ∧ d' = d ∧ s' = s then some (t1, t2, y, d) else none
  | _ => none
def freshParts (s : Nat) (l : List Oper) : Option (FuncId × Array Operand × Nat) :=
  match l with
  | [{ dst := some d, op := .call { callee := .value (.func f), args := args, .. }, guard := none, .. }, { dst := some s', op := .assign (.tmp d'), guard := none, .. }] => if d' = d ∧ s' = s then some (f, args, d) else none
  | _ => none
def madeParts (s : Nat) (l : List Oper) : Option (TypeId × Nat × Array (Nat × Operand) × Nat) :=
  match l with
  | [{ dst := some d, op := .buildSlice ty len ps, guard := none, .. }, { dst := some s', op := .assign (.tmp d'), guard := none, .. }] => if d' = d ∧ s' = s then some (ty, len, ps, d) else none
  | _ => none
def inplParts (x : Nat) (l : List Oper) : Option (FuncId × Nat) :=
  match l with
  | [{ dst := some d, op := .call { callee := .value (.func f), args := ⟨[.tmp x']⟩, .. }, guard := none, .. }] => if x' = x then some (f, d) else none
  | _ => none
def notTmp (p : Nat) : Operand → Bool
  | .tmp i => i != p
  | _ => true
def disj (l k : List Nat) : Bool := l.all fun s => !k.contains s

def regOk (E : EnvO) (id : Nat) (ops : Array Oper) (draw : Bool) : Bool :=
  (!draw || drawOk ops (E.E.lv (1000000 + id))) &&
  match E.kind id with
  | .plain | .view => decide (dn ops ops.size).Nodup && disj E.slots (dn ops ops.size)
  | .give => decide (dn ops ops.size).Nodup
  | .born s _ => decide (dn ops ops.size).Nodup && disj (E.slots.filter (· != s)) (dn ops ops.size) && E.slots.contains s
  | .store s x => match storeParts x (ops.toList.drop (ops.size - 2)) with
    | some (_, _, p, _, xv) => decide (2 ≤ ops.size) && decide (dn ops (ops.size - 2)).Nodup && disj E.slots (dn ops (ops.size - 2)) && !E.slots.contains p && (!draw || tailOk ops (ops.size - 2)) && isCopy ops (ops.size - 2) s x && decide (p < E.E.N) && notTmp p xv && E.slots.contains s
    | none => false
  | .app s x => match appParts s x (ops.toList.drop (ops.size - 2)) with
    | some (_, _, _, d) => decide (2 ≤ ops.size) && decide (dn ops (ops.size - 2)).Nodup && disj E.slots (dn ops (ops.size - 2)) && !E.slots.contains d && (!draw || tailOk ops (ops.size - 2)) && isCopy ops (ops.size - 2) s x && decide (d < E.E.N) && decide (s < E.E.N) && E.slots.contains s
    | none => false
  | .app0 s x => match appParts s x (ops.toList.drop (ops.size - 2)) with
    | some (_, _, _, d) => decide (2 ≤ ops.size) && decide (dn ops (ops.size - 2)).Nodup && disj E.slots (dn ops (ops.size - 2)) && !E.slots.contains d && (!draw || tailOk ops (ops.size - 2)) && decide (d < E.E.N) && decide (s < E.E.N) && E.slots.contains s
    | none => false
  | .fresh s => match freshParts s (ops.toList.drop (ops.size - 2)) with
    | some (_, _, d) => decide (2 ≤ ops.size) && decide (dn ops (ops.size - 2)).Nodup && disj E.slots (dn ops (ops.size - 2)) && !E.slots.contains d && (!draw || tailOk ops (ops.size - 2)) && decide (d < E.E.N) && decide (s < E.E.N) && E.slots.contains s
    | none => false
  | .made s => match madeParts s (ops.toList.drop (ops.size - 2)) with
    | some (_, _, _, d) => decide (2 ≤ ops.size) && decide (dn ops (ops.size - 2)).Nodup && disj E.slots (dn ops (ops.size - 2)) && !E.slots.contains d && (!draw || tailOk ops (ops.size - 2)) && decide (d < E.E.N) && decide (s < E.E.N) && E.slots.contains s
    | none => false
  | .inpl s x => match inplParts x (ops.toList.drop (ops.size - 1)) with
    | some (_, d) => decide (1 ≤ ops.size) && decide (dn ops (ops.size - 1)).Nodup && disj E.slots (dn ops (ops.size - 1)) && !E.slots.contains d && (!draw || tailOk ops (ops.size - 1)) && isCopy ops (ops.size - 1) s x && decide (d < E.E.N) && E.slots.contains s
    | none => false
def codeOkO (E : EnvO) : Code → Bool
  | .seq a b => codeOkO E a && codeOkO E b
  | .cond _ a b => codeOkO E a && codeOkO E b
  | .block _ a => codeOkO E a
  | .loop a => codeOkO E a
  | .region id ops d => regOk E id ops d
  | _ => true

section
variable {R : Type} (P : Program)
/-- A store: the slice behind it. -/
def storeK (o : Option OS) (ty ty2 : TypeId) (i v : AV) (K : OS → Option R) : Option R :=
  match o, i with
  | some o, .int _ k => if (0 ≤ k ∧ k < o.els.length) ∧ (elemT P ty).bind (tsz P) = some o.z ∧ tsz P ty2 = some o.z ∧ o.z ≠ 0 ∧ v.isVal = true ∧ v.cells.all AV.scalar = true ∧ v.cells.length = o.z then K ⟨o.slot, o.z, o.els.set k.toNat v.cells⟩ else none
  | _, _ => none
def appK (strict : Bool) (base : Option (Nat × List (List AV))) (ty1 ty2 : TypeId) (y : AV) (K : Nat → List (List AV) → Option R) : Option R :=
  match base, y, elemT P ty1, elemT P ty2 with
  | some (z, els), .sl s2 news _, some e, some _ => match tbytes P e, zeroOf P e with
    | some b, some zv => if (tsz P e = some z ∧ s2 = z ∧ b ≠ 0 ∧ z ≠ 0 ∧ zv.isVal = true ∧ zv.cells.length = z) ∧ (els.length + news.length) * b ≤ 70368744177664 ∧ allScalar news = true ∧ (news.isEmpty = false ∨ strict = false ∧ els.isEmpty = true) then K z (els ++ news) else none
    | _, _ => none
  | _, _, _, _ => none
def madeK (ty : TypeId) (len : Nat) (ps : Array (Nat × Operand)) (t : Tmps) (K : Nat → List (List AV) → Option R) : Option R :=
  match elemT P ty with
  | some e => match tsz P e, zeroOf P e with
    | some z, some zv => if (len * z ≤ 16777216 ∧ zv.isVal = true ∧ zv.cells.length = z ∧ z ≠ 0) ∧ ps.toList.map (·.1) = List.range len ∧ (ps.toList.all fun p => (opnd t p.2).isVal && (opnd t p.2).cells.length == z) = true ∧ allScalar (ps.toList.map fun p => (opnd t p.2).cells) = true then K z (ps.toList.map fun p => (opnd t p.2).cells) else none
    | _, _ => none
  | none => none
def inplK (o : Option OS) (I : Nat → List (List AV) → Option (List (List AV))) (K : OS → Option R) : Option R :=
  match o with
  | some o => match I o.z o.els with
    | some els => if allScalar els = true ∧ o.els.isEmpty = false ∧ o.z ≠ 0 then K ⟨o.slot, o.z, els⟩ else none
    | none => none
  | none => none
def base0 (ty1 : TypeId) (x : AV) : Option (Nat × List (List AV)) :=
  match x with
  | .sl _ [] .nil | .sl _ [] .clip => ((elemT P ty1).bind (tsz P)).map fun z => (z, [])
  | _ => none
def evReg (E : EnvO) (id : Nat) (ops : Array Oper) (draw : Bool) (t : Tmps) (m : Mem) (O : List OS) (K : Tmps → Mem → List OS → Option R) : Option R :=
  match E.kind id with
  | .plain => evOps P E.E.C E.E.ro (if draw then some (dsts ops, E.E.lv (1000000 + id)) else none) E.E.N ops ops.toList t m fun t m => K t m O
  | .give => evOps P E.E.C E.E.ro (if draw then some (dsts ops, E.E.lv (1000000 + id)) else none) E.E.N ops ops.toList (viewT O t) m fun t m => K t m []
  | .view => evOps P E.E.C E.E.ro (if draw then some (dsts ops, E.E.lv (1000000 + id)) else none) E.E.N ops ops.toList (viewT O t) (frozen m) fun t2 _ => K (after (dn ops ops.size) t2 t) m O
  | .born s z => evOps P E.E.C E.E.ro (if draw then some (dsts ops, E.E.lv (1000000 + id)) else none) E.E.N ops ops.toList t m fun t m => match t s with
    | .sl _ [] .nil => K (upd t s .undef) m (setO O ⟨s, z, []⟩)
    | _ => none
  | .store s x => match storeParts x (ops.toList.drop (ops.size - 2)) with
    | some (ty, ix, p, ty2, xv) => evOps P E.E.C E.E.ro (if draw then some (dsts ops, E.E.lv (1000000 + id)) else none) E.E.N ops (ops.toList.take (ops.size - 2)) (viewT O t) (frozen m) fun t2 _ =>
        storeK P (getO O s) ty ty2 (opnd t2 ix) (opnd t2 xv) fun o => K (upd (after (dn ops (ops.size - 2)) t2 t) p .undef) m (setO O o)
    | none => none
  | .app s x => match appParts s x (ops.toList.drop (ops.size - 2)) with
    | some (t1, ty2, y, d) => evOps P E.E.C E.E.ro (if draw then some (dsts ops, E.E.lv (1000000 + id)) else none) E.E.N ops (ops.toList.take (ops.size - 2)) (viewT O t) (frozen m) fun t2 _ =>
        appK P true ((getO O s).map fun o => (o.z, o.els)) t1 ty2 (opnd t2 y) fun z els => K (upd (upd (after (dn ops (ops.size - 2)) t2 t) d .undef) s .undef) m (setO O ⟨s, z, els⟩)
    | none => none
  | .app0 s x => match appParts s x (ops.toList.drop (ops.size - 2)) with
    | some (t1, ty2, y, d) => evOps P E.E.C E.E.ro (if draw then some (dsts ops, E.E.lv (1000000 + id)) else none) E.E.N ops (ops.toList.take (ops.size - 2)) (viewT O t) (frozen m) fun t2 _ =>
        appK P false (base0 P t1 (t2 x)) t1 ty2 (opnd t2 y) fun z els => K (upd (upd (after (dn ops (ops.size - 2)) t2 t) d .undef) s .undef) m (setO O ⟨s, z, els⟩)
    | none => none
  | .fresh s => match freshParts s (ops.toList.drop (ops.size - 2)) with
    | some (f, args, d) => evOps P E.E.C E.E.ro (if draw then some (dsts ops, E.E.lv (1000000 + id)) else none) E.E.N ops (ops.toList.take (ops.size - 2)) (viewT O t) (frozen m) fun t2 _ =>
        match E.fresh f (args.toList.map fun o => (opnd t2 o).bare) with
        | some (z, els) => if allScalar els = true then K (upd (upd (after (dn ops (ops.size - 2)) t2 t) d .undef) s .undef) m (setO O ⟨s, z, els⟩) else none
        | none => none
    | none => none
  | .made s => match madeParts s (ops.toList.drop (ops.size - 2)) with
    | some (ty, len, ps, d) => evOps P E.E.C E.E.ro (if draw then some (dsts ops, E.E.lv (1000000 + id)) else none) E.E.N ops (ops.toList.take (ops.size - 2)) (viewT O t) (frozen m) fun t2 _ =>
        madeK P ty len ps t2 fun z els => K (upd (upd (after (dn ops (ops.size - 2)) t2 t) d .undef) s .undef) m (setO O ⟨s, z, els⟩)
    | none => none
  | .inpl s x => match inplParts x (ops.toList.drop (ops.size - 1)) with
    | some (f, d) => evOps P E.E.C E.E.ro (if draw then some (dsts ops, E.E.lv (1000000 + id)) else none) E.E.N ops (ops.toList.take (ops.size - 1)) (viewT O t) (frozen m) fun t2 _ =>
        inplK (getO O s) (E.turn f) fun o => K (upd (after (dn ops (ops.size - 1)) t2 t) d .undef) m (setO O o)
    | none => none

abbrev StepO := Tmps → Mem → List OS → Option (Ex × Tmps × Mem × List OS)
def iterO (step : StepO) : Nat → Tmps → Mem → List OS → Option (Ex × Tmps × Mem × List OS)
  | 0, _, _, _ => none
  | k + 1, t, m, O => match step t m O with
    | some (.normal, t', m', O') => iterO step k t' m' O'
    | some r => some r
    | none => none
noncomputable def loopOL (step : StepO) (t : Tmps) (m : Mem) (O : List OS) : Option (Ex × Tmps × Mem × List OS) := lim fun k => iterO step k t m O
end

noncomputable def evO {R : Type} (P : Program) (E : EnvO) : Code → Tmps → Mem → List OS → (Ex → Tmps → Mem → List OS → Option R) → Option R
  | .skip, t, m, O, K => K .normal t m O
  | .seq a b, t, m, O, K => evO P E a t m O fun e t' m' O' => match e with | .normal => evO P E b t' m' O' K | e => K e t' m' O'
  | .cond c x y, t, m, O, K => match opnd t c with
    | .bool b => bif b then evO P E x t m O K else evO P E y t m O K
    | _ => none
  | .block id body, t, m, O, K => evO P E body t m O fun e t' m' O' => match e with | .exit i => if i = id then K .normal t' m' O' else K (.exit i) t' m' O' | e => K e t' m' O'
  | .loop body, t, m, O, K =>
    match loopOL (fun t m O => evO P E body (clean (E.E.lv (firstRegion body)) t m).1 (clean (E.E.lv (firstRegion body)) t m).2 O (fun e t m O => some (e, t, m, O))) t m O with
    | some (e, t', m', O') => K e t' m' O'
    | none => none
  | .exit id, t, m, O, K => K (.exit id) t m O
  | .ret, t, m, O, K => K .ret t m O
  | .region id ops draw, t, m, O, K => evReg P E id ops draw t m O fun t m O => K .normal t m O
  | _, _, _, _, _ => none

section
variable {P : Program} {c c' c2 : Cfg} {w w' w2 : World} {m m2 : Mem} {t t' t2 : Tmps} {a a' : Act} {o0 : Own} {w0 : World} {c0 : Cfg} {O O' : List OS} {ops : Array Oper}

theorem tailOk_size (ops : Array Oper) : tailOk ops ops.size = true := by
  unfold tailOk
  rw [List.all_eq_true]
  intro i hi
  have : i < ops.size := by simpa using hi
  simp [this]
theorem take_size (ops : Array Oper) : ops.toList.take ops.size = ops.toList := List.take_of_length_le (by simp)
theorem disj_spec {l k : List Nat} (h : disj l k = true) {s : Nat} (hs : s ∈ l) : s ∉ k := by
  have := List.all_eq_true.1 h s hs
  simpa using this
theorem drop_two {l : List Oper} {n : Nat} {x y : Oper} (h : ops.toList.drop n = [x, y]) : ops[n]? = some x ∧ ops[n + 1]? = some y ∧ n + 2 = ops.size := by
  have h1 := congrArg (fun l => l[0]?) h
  have h2 := congrArg (fun l => l[1]?) h
  have h3 := congrArg List.length h
  simp only [List.getElem?_drop, List.length_drop, List.length_cons, List.length_nil, Array.length_toList] at h1 h2 h3
  refine ⟨by simpa using h1, by simpa using h2, by omega⟩
/-- Slices of one's own stand in slots of the plan. -/
def InSlots (l : List Nat) (O : List OS) : Prop := ∀ s ∈ O, s.slot ∈ l
theorem InSlots.set {l : List Nat} {o : OS} (h : InSlots l O) (ho : o.slot ∈ l) : InSlots l (setO O o) := fun s hs => by
  rcases List.mem_cons.1 hs with rfl | hs
  · exact ho
  · exact h s (dropO_mem hs).1
theorem SRO.plain {N : Nat} (h : SRO P N o0 w0 c0 c w t m O a) {l : List Nat} (h2 : SR P N c' w' t' m2 a') (e : Evo c.own w c'.own w') (hl : Low c c') (hf : Frame l a a') (hO : ∀ s ∈ O, s.slot ∉ l) : SRO P N o0 w0 c0 c' w' t' m2 O a' where
  sr := h2
  ev := h.ev.trans e
  low := h.low.trans hl
  ow := by
    obtain ⟨gs, k1, k2⟩ := h.ow
    exact ⟨gs, fun s hs => by rw [hf _ (hO s hs)]; exact (k1 s hs).evo e, k2⟩

theorem storeParts_spec {x : Nat} {l : List Oper} {ty ty2 : TypeId} {ix xv : Operand} {p : Nat} (h : storeParts x l = some (ty, ix, p, ty2, xv)) : ∃ oi os : Oper, l = [oi, os] ∧ oi.dst = some p ∧ oi.op = .indexAddr ty (.tmp x) ix ∧ oi.guard = none ∧ os.dst = none ∧ os.op = .store ty2 (.tmp p) xv ∧ os.guard = none := by
  unfold storeParts at h
  split at h
  · split at h
    · rename_i hc
      obtain ⟨rfl, rfl⟩ := hc
      simp only [Option.some.injEq, Prod.mk.injEq] at h
      obtain ⟨rfl, rfl, rfl, rfl, rfl⟩ := h
      exact ⟨_, _, rfl, rfl, rfl, rfl, rfl, rfl, rfl⟩
    · simp at h
  · simp at h
theorem appParts_spec {s x : Nat} {l : List Oper} {t1 t2 : TypeId} {y : Operand} {d : Nat} (h : appParts s x l = some (t1, t2, y, d)) : ∃ oa ob : Oper, l = [oa, ob] ∧ oa.dst = some d ∧ oa.op = .call { callee := .builtin .append, args := #[.tmp x, y], argTypes := #[t1, t2] } ∧ oa.guard = none ∧ ob.dst = some s ∧ ob.op = .assign (.tmp d) ∧ ob.guard = none := by
  unfold appParts at h
  split at h
  · split at h
    · rename_i hc
      obtain ⟨rfl, rfl, rfl⟩ := hc
      simp only [Option.some.injEq, Prod.mk.injEq] at h
      obtain ⟨rfl, rfl, rfl, rfl⟩ := h
      exact ⟨_, _, rfl, rfl, rfl, rfl, rfl, rfl, rfl⟩
    · simp at h
  · simp at h
theorem freshParts_spec {s : Nat} {l : List Oper} {f : FuncId} {args : Array Operand} {d : Nat} (h : freshParts s l = some (f, args, d)) : ∃ (oa ob : Oper) (tys : Array TypeId), l = [oa, ob] ∧ oa.dst = some d ∧ oa.op = .call { callee := .value (.func f), args := args, argTypes := tys } ∧ oa.guard = none ∧ ob.dst = some s ∧ ob.op = .assign (.tmp d) ∧ ob.guard = none := by
  unfold freshParts at h
  split at h
  · split at h
    · rename_i hc
      obtain ⟨rfl, rfl⟩ := hc
      simp only [Option.some.injEq, Prod.mk.injEq] at h
      obtain ⟨rfl, rfl, rfl⟩ := h
      exact ⟨_, _, _, rfl, rfl, rfl, rfl, rfl, rfl, rfl⟩
    · simp at h
  · simp at h

theorem madeParts_spec {s : Nat} {l : List Oper} {ty : TypeId} {len : Nat} {ps : Array (Nat × Operand)} {d : Nat} (h : madeParts s l = some (ty, len, ps, d)) : ∃ oa ob : Oper, l = [oa, ob] ∧ oa.dst = some d ∧ oa.op = .buildSlice ty len ps ∧ oa.guard = none ∧ ob.dst = some s ∧ ob.op = .assign (.tmp d) ∧ ob.guard = none := by
  unfold madeParts at h
  split at h
  · split at h
    · rename_i hc
      obtain ⟨rfl, rfl⟩ := hc
      simp only [Option.some.injEq, Prod.mk.injEq] at h
      obtain ⟨rfl, rfl, rfl, rfl⟩ := h
      exact ⟨_, _, rfl, rfl, rfl, rfl, rfl, rfl, rfl⟩
    · simp at h
  · simp at h
theorem inplParts_spec {x : Nat} {l : List Oper} {f : FuncId} {d : Nat} (h : inplParts x l = some (f, d)) : ∃ (oa : Oper) (tys : Array TypeId), l = [oa] ∧ oa.dst = some d ∧ oa.op = .call { callee := .value (.func f), args := #[.tmp x], argTypes := tys } ∧ oa.guard = none := by
  unfold inplParts at h
  split at h
  · split at h
    · rename_i hc
      subst hc
      simp only [Option.some.injEq, Prod.mk.injEq] at h
      obtain ⟨rfl, rfl⟩ := h
      exact ⟨_, _, rfl, rfl, rfl, rfl⟩
    · simp at h
  · simp at h
theorem drop_one {l : List Oper} {n : Nat} {x : Oper} (h : ops.toList.drop n = [x]) : ops[n]? = some x ∧ n + 1 = ops.size := by
  have h1 := congrArg (fun l => l[0]?) h
  have h3 := congrArg List.length h
  simp only [List.getElem?_drop, List.length_drop, List.length_cons, List.length_nil, Array.length_toList] at h1 h3
  refine ⟨by simpa using h1, by omega⟩
theorem getO_slot {s : Nat} {o : OS} (h : getO O s = some o) : o = ⟨s, o.z, o.els⟩ := by
  obtain ⟨_, h2⟩ := getO_mem h
  cases o
  simp only at h2
  rw [h2]

theorem appK_spec {R : Type} {strict : Bool} {base : Option (Nat × List (List AV))} {ty1 ty2 : TypeId} {y : AV} {K : Nat → List (List AV) → Option R} {r : R} (h : appK P strict base ty1 ty2 y K = some r) :
    ∃ z els news tok e e2 b zv, base = some (z, els) ∧ y = .sl z news tok ∧ elemT P ty1 = some e ∧ elemT P ty2 = some e2 ∧ tbytes P e = some b ∧ zeroOf P e = some zv ∧ tsz P e = some z ∧ b ≠ 0 ∧ z ≠ 0 ∧ zv.isVal = true ∧ zv.cells.length = z ∧
      (els.length + news.length) * b ≤ 70368744177664 ∧ allScalar news = true ∧ (news.isEmpty = false ∨ strict = false ∧ els.isEmpty = true) ∧ K z (els ++ news) = some r := by
  unfold appK at h
  split at h
  case h_2 => simp at h
  rename_i z els s2 news tok e e2 h1 h2
  split at h
  case h_2 => simp at h
  rename_i b zv h3 h4
  split at h
  case isFalse => simp at h
  rename_i hc
  obtain ⟨⟨q1, rfl, q2, q3, q4, q5⟩, q6, q7, q8⟩ := hc
  exact ⟨_, els, news, tok, e, e2, b, zv, rfl, rfl, h1, h2, h3, h4, q1, q2, q3, q4, q5, q6, q7, q8, h⟩
theorem not_contains {l : List Nat} {p : Nat} (h : (!l.contains p) = true) : p ∉ l := by simpa using h

theorem evReg_sound {R : Type} {E : EnvO} {id : Nat} {draw : Bool} {K : Tmps → Mem → List OS → Option R} {r : R} {Q : Exit → Act → World → Prop} (hf : P.follows .mixedOrders = true) (hS : Sound P E.E.C) (hF : FreshSound P E.fresh ∧ TurnSound P E.turn) (hok : regOk E id ops draw = true)
    (h : evReg P E id ops draw t m O K = some r) (hR : SRO P E.E.N o0 w0 c0 c w t m O a) (hI : InSlots E.slots O)
    (hQ : ∀ t' m' O' c' a' w', K t' m' O' = some r → SRO P E.E.N o0 w0 c0 c' w' t' m' O' a' → InSlots E.slots O' → Q .normal a' w') : (Code.region id ops draw).wp P Q a w := by
  unfold regOk at hok
  rw [Bool.and_eq_true] at hok
  obtain ⟨hdr, hok⟩ := hok
  have hdr' : draw = true → drawOk ops (E.E.lv (1000000 + id)) = true := fun hd => by
    rw [hd] at hdr; simpa using hdr
  have htake := take_size ops
  have hnil : ∀ (a' : Act) (w' : World), Q .normal a' w' → wpOps P ops Q (List.range' ops.size (ops.size - ops.size)) a' w' := fun a' w' h => by
    rw [Nat.sub_self]; exact h
  unfold evReg at h
  generalize hk : E.kind id = kd at hok h
  cases kd with
  | plain =>
    simp only [Bool.and_eq_true, decide_eq_true_eq] at hok h
    obtain ⟨hn, hdj⟩ := hok
    rw [← htake] at h
    refine region_run hf hS hdr' (Nat.le_refl _) (fun _ => tailOk_size ops) hn h hR.sr fun t' m' c' a' w' hK hR' e l hTr => hnil _ _ ?_
    exact hQ _ _ _ _ _ _ hK (hR.plain hR' e l hTr.frame fun s hs => disj_spec hdj (hI s hs)) hI
  | give =>
    simp only [decide_eq_true_eq] at hok h
    obtain ⟨c1, hR1⟩ := own_give hR
    rw [← htake] at h
    refine region_run hf hS hdr' (Nat.le_refl _) (fun _ => tailOk_size ops) hok h hR1.sr fun t' m' c' a' w' hK hR' e l hTr => hnil _ _ ?_
    exact hQ _ _ _ _ _ _ hK (hR1.plain hR' e l hTr.frame (by simp)) (by intro s hs; simp at hs)
  | view =>
    simp only [Bool.and_eq_true, decide_eq_true_eq] at hok h
    obtain ⟨hn, hdj⟩ := hok
    rw [← htake] at h
    refine region_run hf hS hdr' (Nat.le_refl _) (fun _ => tailOk_size ops) hn h (view_start hR) fun t' m' c' a' w' hK hR' e l hTr => hnil _ _ ?_
    exact hQ _ _ _ _ _ _ hK (view_end hR hR' e hTr.frame fun s hs => disj_spec hdj (hI s hs)) hI
  | born s z =>
    simp only [Bool.and_eq_true, decide_eq_true_eq] at hok h
    obtain ⟨⟨hn, hdj⟩, hs⟩ := hok
    have hs' : s ∈ E.slots := by simpa using hs
    rw [← htake] at h
    refine region_run hf hS hdr' (Nat.le_refl _) (fun _ => tailOk_size ops) hn h hR.sr fun t' m' c' a' w' hK hR' e l hTr => hnil _ _ ?_
    split at hK
    · rename_i zz ht
      -- the slice that stood there is forgotten
      have hR2 : SRO P E.E.N o0 w0 c0 c' w' t' m' (dropO O s) a' := by
        obtain ⟨gs, k1, k2⟩ := hR.ow
        refine ⟨hR', hR.ev.trans e, hR.low.trans l, gs, fun o ho => ?_, fun o ho o' ho' => k2 o (dropO_mem ho).1 o' (dropO_mem ho').1⟩
        obtain ⟨q1, q2⟩ := dropO_mem ho
        rw [hTr.frame _ (disj_spec hdj (List.mem_filter.2 ⟨hI o q1, by simpa using q2⟩))]
        exact (k1 o q1).evo e
      have h3 := own_born (z := z) hR2 ht
      have hdd : dropO (dropO O s) s = dropO O s := by
        have : ∀ O : List OS, dropO (dropO O s) s = dropO O s := fun O => by
          induction O with
          | nil => rfl
          | cons x r ih =>
            by_cases hx : x.slot = s
            · simp [dropO, hx, ih]
            · simp [dropO, hx, ih]
        exact this O
      have h4 : setO (dropO O s) ⟨s, z, []⟩ = setO O ⟨s, z, []⟩ := by unfold setO; rw [hdd]
      rw [h4] at h3
      exact hQ _ _ _ _ _ _ hK h3 (hI.set hs')
    · simp at hK
  | store s x =>
    simp only at hok h
    split at hok
    · rename_i ty ix p ty2 xv hp
      rw [hp] at h
      simp only [Bool.and_eq_true, decide_eq_true_eq] at hok h
      obtain ⟨⟨⟨⟨⟨⟨⟨⟨h2, hn⟩, hdj⟩, hpn⟩, htl⟩, hcp⟩, hpN⟩, hnt⟩, hs⟩ := hok
      obtain ⟨oi, os, hl, q1, q2, q3, q4, q5, q6⟩ := storeParts_spec hp
      obtain ⟨i1, i2, i3⟩ := drop_two (l := []) hl
      have htl' : draw = true → tailOk ops (ops.size - 2) = true := fun hd => by rw [hd] at htl; simpa using htl
      refine region_run hf hS hdr' (by omega) htl' hn h (view_start hR) fun t' m' c' a' w' hK hR' e l hTr => ?_
      unfold storeK at hK
      split at hK
      · rename_i o kd k ho hix
        split at hK
        · rename_i hc
          obtain ⟨⟨r1, r2⟩, r3, r4, r5, r6, r7, r8⟩ := hc
          obtain ⟨e1, r9, r10⟩ := Option.bind_eq_some_iff.1 r3
          have hso := getO_slot ho
          have hss : o.slot = s := (getO_mem ho).2
          rw [hss] at hK
          exact own_store hR hR' e hTr (fun s' hs' => disj_spec hdj (hI s' hs')) (fun s' hs' he => not_contains hpn (by rw [← he]; exact hI s' hs')) hcp i3 i1 i2 q3 q6 q1 q4 q2 q5
            (fun he => by rw [he] at hnt; simp [notTmp] at hnt) hpN ho hix r1 r2 r9 r10 r4 r5 r6 r7 r8 fun c'' a'' w'' hS'' => hQ _ _ _ _ _ _ hK hS'' (hI.set (by simpa using hs))
        · simp at hK
      · simp at hK
    · simp at hok
  | app s x =>
    simp only at hok h
    split at hok
    · rename_i ty1 ty2 y d hp
      rw [hp] at h
      simp only [Bool.and_eq_true, decide_eq_true_eq] at hok h
      obtain ⟨⟨⟨⟨⟨⟨⟨⟨h2, hn⟩, hdj⟩, hpn⟩, htl⟩, hcp⟩, hdN⟩, hsN⟩, hs⟩ := hok
      obtain ⟨oa, ob, hl, q1, q2, q3, q4, q5, q6⟩ := appParts_spec hp
      obtain ⟨i1, i2, i3⟩ := drop_two (l := []) hl
      have htl' : draw = true → tailOk ops (ops.size - 2) = true := fun hd => by rw [hd] at htl; simpa using htl
      refine region_run hf hS hdr' (by omega) htl' hn h (view_start hR) fun t' m' c' a' w' hK hR' e l hTr => ?_
      obtain ⟨z, els, news, tok, e1, e2, b, zv, r1, r2, r3, r4, r5, r6, r7, r8, r9, r10, r11, r12, r13, r14, r15⟩ := appK_spec hK
      obtain ⟨o, ho, ho2⟩ := Option.map_eq_some_iff.1 r1
      simp only [Prod.mk.injEq] at ho2
      have hso := getO_slot ho
      obtain ⟨rfl, rfl⟩ := ho2
      by_cases hne : news = []
      · subst hne
        simp at r14
      · have hs' : s ∈ E.slots := by simpa using hs
        exact own_app hR hR' e hTr (fun s' hs' => disj_spec hdj (hI s' hs')) (fun s' hs' he => not_contains hpn (by rw [← he]; exact hI s' hs')) (fun he => not_contains hpn (by rw [← he]; exact hs')) (.inl ⟨hcp, by rw [ho, hso]⟩) i3 i1 i2 q3 q6 q1 q4 q2 q5 hdN hsN r2 hne r3 r4 r7.symm r7 r5 r6 r8 r9 r10 r11 r12 r13
          fun c'' a'' w'' hS'' => hQ _ _ _ _ _ _ r15 hS'' (hI.set hs')
    · simp at hok
  | app0 s x =>
    simp only at hok h
    split at hok
    · rename_i ty1 ty2 y d hp
      rw [hp] at h
      simp only [Bool.and_eq_true, decide_eq_true_eq] at hok h
      obtain ⟨⟨⟨⟨⟨⟨⟨h2, hn⟩, hdj⟩, hpn⟩, htl⟩, hdN⟩, hsN⟩, hs⟩ := hok
      have hs' : s ∈ E.slots := by simpa using hs
      obtain ⟨oa, ob, hl, q1, q2, q3, q4, q5, q6⟩ := appParts_spec hp
      obtain ⟨i1, i2, i3⟩ := drop_two (l := []) hl
      have htl' : draw = true → tailOk ops (ops.size - 2) = true := fun hd => by rw [hd] at htl; simpa using htl
      refine region_run hf hS hdr' (by omega) htl' hn h (view_start hR) fun t' m' c' a' w' hK hR' e l hTr => ?_
      obtain ⟨z, els, news, tok, e1, e2, b, zv, r1, r2, r3, r4, r5, r6, r7, r8, r9, r10, r11, r12, r13, r14, r15⟩ := appK_spec hK
      have hx : els = [] ∧ ∃ zz tk, t' x = .sl zz [] tk ∧ (tk = .nil ∨ tk = .clip) := by
        unfold base0 at r1
        split at r1
        · rename_i zz hx
          obtain ⟨z', _, hz2⟩ := Option.map_eq_some_iff.1 r1
          simp only [Prod.mk.injEq] at hz2
          exact ⟨hz2.2.symm, zz, _, hx, .inl rfl⟩
        · rename_i zz hx
          obtain ⟨z', _, hz2⟩ := Option.map_eq_some_iff.1 r1
          simp only [Prod.mk.injEq] at hz2
          exact ⟨hz2.2.symm, zz, _, hx, .inr rfl⟩
        · simp at r1
      by_cases hne : news = []
      · subst hne
        obtain ⟨rfl, zz, tk, hx1, hx2⟩ := hx
        exact own_app_nil hR hR' e hTr (fun s' hs' => disj_spec hdj (hI s' hs')) (fun s' hs' he => not_contains hpn (by rw [← he]; exact hI s' hs')) hx1 hx2 i3 i1 i2 q3 q6 q1 q4 q2 q5 hdN hsN r2 r3 r4 r7
          fun c'' a'' w'' hS'' => hQ _ _ _ _ _ _ r15 hS'' (hI.set hs')
      · exact own_app hR hR' e hTr (fun s' hs' => disj_spec hdj (hI s' hs')) (fun s' hs' he => not_contains hpn (by rw [← he]; exact hI s' hs')) (fun he => not_contains hpn (by rw [← he]; exact hs')) (.inr hx) i3 i1 i2 q3 q6 q1 q4 q2 q5 hdN hsN r2 hne r3 r4 r7.symm r7 r5 r6 r8 r9 r10 r11 r12 r13
          fun c'' a'' w'' hS'' => hQ _ _ _ _ _ _ r15 hS'' (hI.set hs')
    · simp at hok
  | fresh s =>
    simp only at hok h
    split at hok
    · rename_i f args d hp
      rw [hp] at h
      simp only [Bool.and_eq_true, decide_eq_true_eq] at hok h
      obtain ⟨⟨⟨⟨⟨⟨⟨h2, hn⟩, hdj⟩, hpn⟩, htl⟩, hdN⟩, hsN⟩, hs⟩ := hok
      have hs' : s ∈ E.slots := by simpa using hs
      obtain ⟨oa, ob, tys, hl, q1, q2, q3, q4, q5, q6⟩ := freshParts_spec hp
      obtain ⟨i1, i2, i3⟩ := drop_two (l := []) hl
      have htl' : draw = true → tailOk ops (ops.size - 2) = true := fun hd => by rw [hd] at htl; simpa using htl
      refine region_run hf hS hdr' (by omega) htl' hn h (view_start hR) fun t' m' c' a' w' hK hR' e l hTr => ?_
      split at hK
      · rename_i z els hfr
        split at hK
        · rename_i hsc
          exact own_fresh hR hR' e hTr (fun s' hs' => disj_spec hdj (hI s' hs')) (fun s' hs' he => not_contains hpn (by rw [← he]; exact hI s' hs')) (hF.1 _ _ _ _ hfr) i3 i1 i2 q3 q6 q1 q4 q2 q5 hdN hsN hsc
            fun c'' a'' w'' hS'' => hQ _ _ _ _ _ _ hK hS'' (hI.set hs')
        · simp at hK
      · simp at hK
    · simp at hok
  | made s =>
    simp only at hok h
    split at hok
    · rename_i ty len ps d hp
      rw [hp] at h
      simp only [Bool.and_eq_true, decide_eq_true_eq] at hok h
      obtain ⟨⟨⟨⟨⟨⟨⟨h2, hn⟩, hdj⟩, hpn⟩, htl⟩, hdN⟩, hsN⟩, hs⟩ := hok
      have hs' : s ∈ E.slots := by simpa using hs
      obtain ⟨oa, ob, hl, q1, q2, q3, q4, q5, q6⟩ := madeParts_spec hp
      obtain ⟨i1, i2, i3⟩ := drop_two (l := []) hl
      have htl' : draw = true → tailOk ops (ops.size - 2) = true := fun hd => by rw [hd] at htl; simpa using htl
      refine region_run hf hS hdr' (by omega) htl' hn h (view_start hR) fun t' m' c' a' w' hK hR' e l hTr => ?_
      unfold madeK at hK
      split at hK
      · rename_i e1 he1
        split at hK
        · rename_i z zv hz hzv
          split at hK
          · rename_i hc
            obtain ⟨⟨r1, r2, r3, r4⟩, r5, r6, r7⟩ := hc
            exact own_made hR hR' e hTr (fun s' hs' => disj_spec hdj (hI s' hs')) (fun s' hs' he => not_contains hpn (by rw [← he]; exact hI s' hs')) i3 i1 i2 q3 q6 q1 q4 q2 q5 hdN hsN he1 hz hzv r1 r2 r3 r4 r5 r6 r7
              fun c'' a'' w'' hS'' => hQ _ _ _ _ _ _ hK hS'' (hI.set hs')
          · simp at hK
        · simp at hK
      · simp at hK
    · simp at hok
  | inpl s x =>
    simp only at hok h
    split at hok
    · rename_i f d hp
      rw [hp] at h
      simp only [Bool.and_eq_true, decide_eq_true_eq] at hok h
      obtain ⟨⟨⟨⟨⟨⟨⟨h2, hn⟩, hdj⟩, hpn⟩, htl⟩, hcp⟩, hdN⟩, hs⟩ := hok
      have hs' : s ∈ E.slots := by simpa using hs
      obtain ⟨oa, tys, hl, q1, q2, q3⟩ := inplParts_spec hp
      obtain ⟨i1, i3⟩ := drop_one (l := []) hl
      have htl' : draw = true → tailOk ops (ops.size - 1) = true := fun hd => by rw [hd] at htl; simpa using htl
      refine region_run hf hS hdr' (by omega) htl' hn h (view_start hR) fun t' m' c' a' w' hK hR' e l hTr => ?_
      unfold inplK at hK
      split at hK
      · rename_i o ho
        split at hK
        · rename_i els hels
          split at hK
          · rename_i hc
            have hss : o.slot = s := (getO_mem ho).2
            rw [hss] at hK
            exact own_inpl hR hR' e hTr (fun s' hs' => disj_spec hdj (hI s' hs')) (fun s' hs' he => not_contains hpn (by rw [← he]; exact hI s' hs')) hcp ho (hF.2 _ _ _ _ hels) (by have := hc.2.1; simpa using this) hc.2.2 i3 i1 q3 q1 q2 hdN hc.1
              fun c'' a'' w'' hS'' => hQ _ _ _ _ _ _ hK hS'' (hI.set hs')
          · simp at hK
        · simp at hK
      · simp at hK
    · simp at hok
end
end Ev

/- A verified evaluator, slices of one's own, part F: functions; how it is computed. -/
set_option linter.unusedVariables false
set_option linter.unusedSimpArgs false
namespace Ev
open Go Go.RowKit
section
variable {P : Program} {c c' c2 : Cfg} {w w' w2 : World} {m m2 : Mem} {t t' t2 : Tmps} {a a' : Act} {o0 : Own} {w0 : World} {c0 : Cfg} {O O' : List OS} {ops : Array Oper}

theorem codeO_sound (hf : P.follows .mixedOrders = true) (E : EnvO) (hS : Sound P E.E.C) (hF : FreshSound P E.fresh ∧ TurnSound P E.turn) : ∀ (code : Code), codeOkO E code = true → ∀ {R : Type} (t : Tmps) (m : Mem) (O : List OS) (K : Ex → Tmps → Mem → List OS → Option R) (r : R), evO P E code t m O K = some r →
    ∀ (c : Cfg) (a : Act) (w : World), SRO P E.E.N o0 w0 c0 c w t m O a → InSlots E.slots O → ∀ (Q : Exit → Act → World → Prop), (∀ e t' m' O' c' a' w', K e t' m' O' = some r → SRO P E.E.N o0 w0 c0 c' w' t' m' O' a' → InSlots E.slots O' → Q (exOf e) a' w') → code.wp P Q a w
  | .skip, _, R, t, m, O, K, r, h, c, a, w, hR, hI, Q, hQ => by
    simp only [evO] at h
    exact wp_skip (hQ _ _ _ _ _ _ _ h hR hI)
  | .exit id, _, R, t, m, O, K, r, h, c, a, w, hR, hI, Q, hQ => by
    simp only [evO] at h
    exact wp_exit (hQ _ _ _ _ _ _ _ h hR hI)
  | .ret, _, R, t, m, O, K, r, h, c, a, w, hR, hI, Q, hQ => by
    simp only [evO] at h
    exact wp_ret (hQ _ _ _ _ _ _ _ h hR hI)
  | .seq x y, hok, R, t, m, O, K, r, h, c, a, w, hR, hI, Q, hQ => by
    simp only [codeOkO, Bool.and_eq_true] at hok
    simp only [evO] at h
    refine wp_seq (codeO_sound hf E hS hF x hok.1 t m O _ r h c a w hR hI _ fun e t1 m1 O1 c1 a1 w1 h1 hR1 hI1 => ?_)
    cases e with
    | normal => exact codeO_sound hf E hS hF y hok.2 t1 m1 O1 K r h1 c1 a1 w1 hR1 hI1 Q hQ
    | exit id => exact hQ _ _ _ _ _ _ _ h1 hR1 hI1
    | ret => exact hQ _ _ _ _ _ _ _ h1 hR1 hI1
  | .cond o x y, hok, R, t, m, O, K, r, h, c, a, w, hR, hI, Q, hQ => by
    simp only [codeOkO, Bool.and_eq_true] at hok
    simp only [evO] at h
    split at h
    case h_2 => simp at h
    rename_i b hb
    have hv := T_opnd hR.sr.T o
    rw [hb] at hv
    refine wp_cond (T_bool hv) ?_
    cases b with
    | true => exact codeO_sound hf E hS hF x hok.1 t m O K r h c a w hR hI Q hQ
    | false => exact codeO_sound hf E hS hF y hok.2 t m O K r h c a w hR hI Q hQ
  | .block id x, hok, R, t, m, O, K, r, h, c, a, w, hR, hI, Q, hQ => by
    simp only [codeOkO] at hok
    simp only [evO] at h
    refine wp_block (codeO_sound hf E hS hF x hok t m O _ r h c a w hR hI _ fun e t1 m1 O1 c1 a1 w1 h1 hR1 hI1 => ?_)
    cases e with
    | normal => exact hQ _ _ _ _ _ _ _ h1 hR1 hI1
    | ret => exact hQ _ _ _ _ _ _ _ h1 hR1 hI1
    | exit i =>
      simp only at h1
      show Exit.inBlock id Q (.exit i) a1 w1
      simp only [Exit.inBlock]
      split at h1
      · rename_i hi
        rw [if_pos hi]
        exact hQ _ _ _ _ _ _ _ h1 hR1 hI1
      · rename_i hi
        rw [if_neg hi]
        exact hQ _ _ _ _ _ _ _ h1 hR1 hI1
  | .loop x, hok, R, t, m, O, K, r, h, c, a, w, hR, hI, Q, hQ => by
    simp only [codeOkO] at hok
    simp only [evO] at h
    split at h
    case h_2 => simp at h
    rename_i e0 t0 m0 O0 hl
    obtain ⟨k, hk⟩ := lim_some hl
    refine wp_loop_rounds k ?_
    have key : ∀ (k : Nat) (t : Tmps) (m : Mem) (O : List OS), iterO (fun t m O => evO P E x (clean (E.E.lv (firstRegion x)) t m).1 (clean (E.E.lv (firstRegion x)) t m).2 O (fun e t m O => some (e, t, m, O))) k t m O = some (e0, t0, m0, O0) →
        ∀ (c1 : Cfg) (a : Act) (w1 : World), SRO P E.E.N o0 w0 c0 c1 w1 t m O a → InSlots E.slots O → Code.rounds P x Q k a w1 := by
      intro k
      induction k with
      | zero => intro t m O hk; simp [iterO] at hk
      | succ k ih =>
        intro t m O hk c1 a w1 hR1 hI1
        rw [rounds_succ]
        simp only [iterO] at hk
        obtain ⟨c2, hR2, e2, l2⟩ := clean_sound (L := E.E.lv (firstRegion x)) hR1.sr
        have hR2' : SRO P E.E.N o0 w0 c0 c2 w1 (clean (E.E.lv (firstRegion x)) t m).1 (clean (E.E.lv (firstRegion x)) t m).2 O a := hR1.plain (l := []) hR2 e2 l2 (fun _ _ => rfl) (by simp)
        cases hb : evO P E x (clean (E.E.lv (firstRegion x)) t m).1 (clean (E.E.lv (firstRegion x)) t m).2 O (fun e t m O => some (e, t, m, O)) with
        | none => rw [hb] at hk; simp at hk
        | some rr =>
          obtain ⟨e, t', m', O'⟩ := rr
          refine codeO_sound hf E hS hF x hok _ _ _ _ _ hb c2 a w1 hR2' hI1 _ fun e' t'' m'' O'' c3 a3 w3 h3 hR3 hI3 => ?_
          simp only [Option.some.injEq, Prod.mk.injEq] at h3
          obtain ⟨rfl, rfl, rfl, rfl⟩ := h3
          rw [hb] at hk
          cases e' with
          | normal => exact ih t'' m'' O'' hk c3 a3 w3 hR3 hI3
          | exit id =>
            simp at hk
            obtain ⟨rfl, rfl, rfl, rfl⟩ := hk
            exact hQ _ _ _ _ _ _ _ h hR3 hI3
          | ret =>
            simp at hk
            obtain ⟨rfl, rfl, rfl, rfl⟩ := hk
            exact hQ _ _ _ _ _ _ _ h hR3 hI3
    exact key k t m O hk c a w hR hI
  | .region id ops draw, hok, R, t, m, O, K, r, h, c, a, w, hR, hI, Q, hQ => by
    simp only [codeOkO] at hok
    simp only [evO] at h
    exact evReg_sound hf hS hF hok h hR hI fun t' m' O' c' a' w' hK hR' hI' => hQ _ _ _ _ _ _ _ hK hR' hI'
  | .rangeFunc .., _, R, t, m, O, K, r, h, c, a, w, hR, hI, Q, hQ => by simp [evO] at h
  | .scope .., _, R, t, m, O, K, r, h, c, a, w, hR, hI, Q, hQ => by simp [evO] at h
  | .label .., _, R, t, m, O, K, r, h, c, a, w, hR, hI, Q, hQ => by simp [evO] at h
  | .goto .., _, R, t, m, O, K, r, h, c, a, w, hR, hI, Q, hQ => by simp [evO] at h
  | .refuse .., _, R, t, m, O, K, r, h, c, a, w, hR, hI, Q, hQ => by simp [evO] at h

theorem params_T {N : Nat} {fn : Func} {args : List AV} {vs : Array Value} (hN : N ≤ fn.ntmps) (hsz : vs.size = args.length) (hargs : ∀ (i : Nat) (x : AV) (v : Value), args[i]? = some x → vs[i]? = some v → T1 c w x v) (hM : MemRel c m w) (hG : Gl P c.own w) :
    SR P N c w (params args 0) m { tmps := vs ++ Array.replicate (fn.ntmps - vs.size) undef, defers := [] } := by
  have hpar : ∀ (l : List AV) (k i : Nat), params l k i = if k ≤ i ∧ i < k + l.length then l.getD (i - k) .undef else .undef := by
    intro l
    induction l with
    | nil => intro k i; simp [params]
    | cons x l ih =>
      intro k i
      simp only [params, upd_apply, ih (k + 1) i, List.length_cons]
      by_cases h1 : i = k
      · subst h1; simp
      · rw [if_neg h1]
        by_cases h2 : k + 1 ≤ i ∧ i < k + 1 + l.length
        · rw [if_pos h2, if_pos (by omega)]
          rw [show i - k = (i - (k + 1)) + 1 by omega]
          simp
        · rw [if_neg h2, if_neg (by omega)]
  refine ⟨fun i => ?_, hM, hG, rfl, by simp; omega⟩
  rw [hpar]
  split
  · rename_i hi
    have hi' : i < args.length := by omega
    have hv : (vs ++ Array.replicate (fn.ntmps - vs.size) undef).getD i undef = vs[i]'(by omega) := by
      rw [Array.getD_eq_getD_getElem?, Array.getElem?_append_left (by omega)]
      simp [show i < vs.size by omega]
    simp only
    rw [hv]
    have := hargs i args[i] (vs[i]'(by omega)) (by simp [hi']) (by simp)
    simpa [List.getD, hi'] using T.of_T1 this
  · exact .of_V (.undef _)

theorem fin_out {rs : List ResultVar} {fn : Func} {bs : List (Nat × Box)} {r : AV × List (Nat × Box)} {e : Ex} (hr : fn.results.toList = rs) (h : finK P rs bs e t m = some r) : (∀ i, e ≠ .exit i) ∧ outOf P fn bs (freezeT t m fn.results.toList).1 (freezeT t m fn.results.toList).2 = some r := by
  subst hr
  cases e with
  | exit i => simp [finK] at h
  | normal => exact ⟨fun _ => by simp, h⟩
  | ret => exact ⟨fun _ => by simp, h⟩

/-- A function's contract by the evaluator with slices of one's own. -/
theorem fnO_sound (hf : P.follows .mixedOrders = true) {E : EnvO} (hS : Sound P E.E.C) (hF : FreshSound P E.fresh ∧ TurnSound P E.turn) {f : FuncId} {fn : Func} {code : Code} {rs : List ResultVar} (hfn : P.funcs[f]? = some fn) (hb : fn.body = some code) (hr : fn.results.toList = rs) (hN : E.E.N ≤ fn.ntmps) (hok : codeOkO E code = true)
    (hcall : ∀ (vs : Array Value) (w : World), (callFunc f vs).run P w = .ok (.enter f vs) w) {args : List AV} {r : AV}
    (h : evO P E code (params args 0) { boxes := ofB [], names := namesOf (cellsOfB []) } [] (fun e t m _ => finK P rs [] e t m) = some (r, [])) : SimCall P f args [] r [] := by
  refine ⟨hcall, fun c w vs hM hG hsz hargs => ?_⟩
  refine calls_of_wp hfn hb ?_
  have hR := params_T (N := E.E.N) (fn := fn) hN hsz hargs hM hG
  have hR0 : SRO P E.E.N c.own w c c w (params args 0) { boxes := ofB [], names := namesOf (cellsOfB []) } [] { tmps := vs ++ Array.replicate (fn.ntmps - vs.size) undef, defers := [] } := ⟨hR, .refl _ _, fun _ _ _ h => h, fun _ => none, by simp, by simp⟩
  refine codeO_sound hf E hS hF code hok _ _ _ _ _ h c _ w hR0 (by intro s hs; simp at hs) _ fun e t' m' O' c' a' w' hK hR' hI' => ?_
  have hdom : ∀ id, (c.ρ id).isSome = true ↔ id ∈ ([] : List (Nat × Box)).map (·.1) := fun id => by
    rw [← hM.dom id]
    exact ofB_isSome [] id
  obtain ⟨hne, hout⟩ := fin_out hr hK
  obtain ⟨c1, hR1, e1, l1⟩ := freeze_sound fn.results.toList _ _ _ hR'.sr
  obtain ⟨v, c2, hrun, e2, hM2, hρ2, hT2⟩ := out_sound hR1 hout (by simp) (by simp) (Low.trans hR'.low l1) hdom hM.inj
  cases e with
  | exit i => exact absurd rfl (hne i)
  | normal => exact ⟨hR'.sr.defers, v, hrun, v, c2, rfl, hR'.ev.trans (e1.trans e2), hM2, hρ2, hT2⟩
  | ret => exact ⟨hR'.sr.defers, v, hrun, v, c2, rfl, hR'.ev.trans (e1.trans e2), hM2, hρ2, hT2⟩

/-- What a function that returns a slice of its own comes to. -/
def finO (s : Nat) (e : Ex) (O : List OS) : Option (Nat × List (List AV)) :=
  match e, getO O s with
  | .exit _, _ => none
  | _, some o => some (o.z, o.els)
  | _, none => none
theorem fnO_fresh (hf : P.follows .mixedOrders = true) {E : EnvO} (hS : Sound P E.E.C) (hF : FreshSound P E.fresh ∧ TurnSound P E.turn) {f : FuncId} {fn : Func} {code : Code} {s : Nat} (hfn : P.funcs[f]? = some fn) (hb : fn.body = some code) (hr : fn.results = #[.tmp s]) (hN : E.E.N ≤ fn.ntmps) (hok : codeOkO E code = true)
    (hcall : ∀ (vs : Array Value) (w : World), (callFunc f vs).run P w = .ok (.enter f vs) w) {args : List AV} {z : Nat} {els : List (List AV)}
    (h : evO P E code (params args 0) { boxes := ofB [], names := namesOf (cellsOfB []) } [] (fun e t m O => finO s e O) = some (z, els)) : FreshCall P f args z els := by
  refine ⟨hcall, fun w vs hG hsz hargs => ?_⟩
  refine calls_of_wp hfn hb ?_
  have hM : MemRel noCfg { boxes := ofB [], names := namesOf (cellsOfB []) } w := ⟨fun id => rfl, fun id bx g h => by simp [ofB] at h, fun id id' g h => by simp [noCfg] at h, fun p q => rfl, fun p q g e h => by simp [noCfg] at h, fun p q p' q' g e e' h => by simp [noCfg] at h, fun p q g e id h => by simp [noCfg] at h, fun g off h => h.elim⟩
  have hR := params_T (N := E.E.N) (fn := fn) (c := noCfg) hN hsz (fun i x v hx hv => .of_V (hargs i x v hx hv)) hM hG
  have hR0 : SRO P E.E.N noOwn w noCfg noCfg w (params args 0) { boxes := ofB [], names := namesOf (cellsOfB []) } [] { tmps := vs ++ Array.replicate (fn.ntmps - vs.size) undef, defers := [] } := ⟨hR, .refl _ _, fun _ _ _ h => h, fun _ => none, by simp, by simp⟩
  refine codeO_sound hf E hS hF code hok _ _ _ _ _ h noCfg _ w hR0 (by intro s hs; simp at hs) _ fun e t' m' O' c' a' w' hK hR' hI' => ?_
  have hbel : Below w.heap.size w w' := below_of_evo (fun _ _ h => h) hR'.ev
  obtain ⟨gs, k1, _⟩ := hR'.ow
  have hrun : (results fn a'.tmps).run P w' = .ok (a'.tmps.getD s undef) w' := by
    simp [results, hr]
  have hval : (∀ i, e ≠ .exit i) ∧ FreshV w w' z els (a'.tmps.getD s undef) := by
    unfold finO at hK
    have hgo : ∀ o, getO O' s = some o → (o.z, o.els) = (z, els) → FreshV w w' z els (a'.tmps.getD s undef) := fun o ho he => by
      simp only [Prod.mk.injEq] at he
      obtain ⟨rfl, rfl⟩ := he
      obtain ⟨hm, hsl⟩ := getO_mem ho
      have h3 := k1 o hm
      rw [hsl] at h3
      cases hg : gs s with
      | none =>
        rw [hg] at h3
        exact .inl h3
      | some g =>
        rw [hg] at h3
        obtain ⟨cap, cs, el, q1, q2, q3, q4, q5, q6, q7, q8⟩ := h3
        exact .inr ⟨g, cap, cs, el, q1, q2, q5, q3, q4, q7, fun i j e x hi hj => by
          obtain ⟨u, r1, r2, r3⟩ := q8 i j e x hi hj
          exact ⟨u, r1, r2.keep (.less fun _ _ hk => hk.elim), r3⟩⟩
    split at hK
    · simp at hK
    · rename_i o h1 h2
      exact ⟨fun i he => h1 i he, hgo o h2 (by simpa using hK)⟩
    · simp at hK
  cases e with
  | exit i => exact absurd rfl (hval.1 i)
  | normal => exact ⟨hR'.sr.defers, _, hrun, _, rfl, hbel, hval.2⟩
  | ret => exact ⟨hR'.sr.defers, _, hrun, _, rfl, hbel, hval.2⟩

/-! How it is computed. -/
theorem storeK_bind {R : Type} {o : Option OS} {ty ty2 : TypeId} {i v : AV} {K : OS → Option R} {S : Type} {F : OS → Option S} {G : S → Option R} (h : ∀ o, K o = (F o).bind G) : storeK P o ty ty2 i v K = (storeK P o ty ty2 i v F).bind G := by
  unfold storeK
  split
  · split
    · exact h _
    · rfl
  · rfl
theorem appK_bind {R : Type} {b : Bool} {o : Option (Nat × List (List AV))} {ty ty2 : TypeId} {v : AV} {K : Nat → List (List AV) → Option R} {S : Type} {F : Nat → List (List AV) → Option S} {G : S → Option R} (h : ∀ z els, K z els = (F z els).bind G) : appK P b o ty ty2 v K = (appK P b o ty ty2 v F).bind G := by
  unfold appK
  split
  · split
    · split
      · exact h _ _
      · rfl
    · rfl
  · rfl
theorem madeK_bind {R : Type} {ty : TypeId} {len : Nat} {ps : Array (Nat × Operand)} {t : Tmps} {K : Nat → List (List AV) → Option R} {S : Type} {F : Nat → List (List AV) → Option S} {G : S → Option R} (h : ∀ z els, K z els = (F z els).bind G) : madeK P ty len ps t K = (madeK P ty len ps t F).bind G := by
  unfold madeK
  split
  · split
    · split
      · exact h _ _
      · rfl
    · rfl
  · rfl
theorem inplK_bind {R : Type} {o : Option OS} {I : Nat → List (List AV) → Option (List (List AV))} {K : OS → Option R} {S : Type} {F : OS → Option S} {G : S → Option R} (h : ∀ o, K o = (F o).bind G) : inplK o I K = (inplK o I F).bind G := by
  unfold inplK
  split
  · split
    · split
      · exact h _
      · rfl
    · rfl
  · rfl
theorem evOps_bind2 {R S : Type} {C : Oracle} {ro : FuncId → Bool} {D : Option DD} {N : Nat} {ops : Array Oper} {K : Tmps → Mem → Option R} {F : Tmps → Mem → Option S} {G : S → Option R} (h : ∀ t m, K t m = (F t m).bind G) : ∀ (l : List Oper) (t : Tmps) (m : Mem), evOps P C ro D N ops l t m K = (evOps P C ro D N ops l t m F).bind G
  | [], t, m => h t m
  | o :: l, t, m => by
    simp only [evOps]
    cases astep P C ro D N ops o t m with
    | none => rfl
    | some q => exact evOps_bind2 h l q.1 q.2
theorem evReg_bind {R S : Type} {E : EnvO} {id : Nat} {draw : Bool} {K : Tmps → Mem → List OS → Option R} {F : Tmps → Mem → List OS → Option S} {G : S → Option R} (h : ∀ t m O, K t m O = (F t m O).bind G) : evReg P E id ops draw t m O K = (evReg P E id ops draw t m O F).bind G := by
  unfold evReg
  cases E.kind id with
  | plain => exact evOps_bind2 (fun t m => h t m O) _ _ _
  | give => exact evOps_bind2 (fun t m => h t m []) _ _ _
  | view => exact evOps_bind2 (fun t2 m2 => h _ _ _) _ _ _
  | born s z =>
    refine evOps_bind2 (fun t m => ?_) _ _ _
    split
    · exact h _ _ _
    · rfl
  | store s x =>
    simp only
    split
    · exact evOps_bind2 (fun t m => storeK_bind fun o => h _ _ _) _ _ _
    · rfl
  | app s x =>
    simp only
    split
    · exact evOps_bind2 (fun t m => appK_bind fun z els => h _ _ _) _ _ _
    · rfl
  | app0 s x =>
    simp only
    split
    · exact evOps_bind2 (fun t m => appK_bind fun z els => h _ _ _) _ _ _
    · rfl
  | fresh s =>
    simp only
    split
    · refine evOps_bind2 (fun t m => ?_) _ _ _
      split
      · split
        · exact h _ _ _
        · rfl
      · rfl
    · rfl
  | made s =>
    simp only
    split
    · exact evOps_bind2 (fun t m => madeK_bind fun z els => h _ _ _) _ _ _
    · rfl
  | inpl s x =>
    simp only
    split
    · exact evOps_bind2 (fun t m => inplK_bind fun o => h _ _ _) _ _ _
    · rfl
theorem evO_bind {E : EnvO} : ∀ (code : Code) {R : Type} (K : Ex → Tmps → Mem → List OS → Option R) (t : Tmps) (m : Mem) (O : List OS), evO P E code t m O K = (evO P E code t m O fun e t m O => some (e, t, m, O)).bind fun q => K q.1 q.2.1 q.2.2.1 q.2.2.2
  | .skip, R, K, t, m, O => by simp only [evO, Option.bind_some]
  | .exit _, R, K, t, m, O => by simp only [evO, Option.bind_some]
  | .ret, R, K, t, m, O => by simp only [evO, Option.bind_some]
  | .seq a b, R, K, t, m, O => by
    simp only [evO]
    refine (evO_bind a _ t m O).trans ?_
    refine .trans ?_ (congrArg (fun z : Option (Ex × Tmps × Mem × List OS) => Option.bind z fun q => K q.1 q.2.1 q.2.2.1 q.2.2.2) (evO_bind a _ t m O)).symm
    cases evO P E a t m O fun e t m O => some (e, t, m, O) with
    | none => rfl
    | some q =>
      obtain ⟨e, t', m', O'⟩ := q
      cases e with
      | normal => exact evO_bind b K t' m' O'
      | _ => rfl
  | .cond c x y, R, K, t, m, O => by
    simp only [evO]
    cases opnd t c with
    | bool b =>
      cases b with
      | true => exact evO_bind x K t m O
      | false => exact evO_bind y K t m O
    | _ => rfl
  | .block id body, R, K, t, m, O => by
    simp only [evO]
    refine (evO_bind body _ t m O).trans ?_
    refine .trans ?_ (congrArg (fun z : Option (Ex × Tmps × Mem × List OS) => Option.bind z fun q => K q.1 q.2.1 q.2.2.1 q.2.2.2) (evO_bind body _ t m O)).symm
    cases evO P E body t m O fun e t m O => some (e, t, m, O) with
    | none => rfl
    | some q =>
      obtain ⟨e, t', m', O'⟩ := q
      cases e with
      | exit i =>
        simp only [Option.bind_some]
        by_cases h : i = id
        · simp [h]
        · simp [h]
      | _ => rfl
  | .loop body, R, K, t, m, O => by
    simp only [evO]
    split <;> rfl
  | .region id ops dr, R, K, t, m, O => by
    simp only [evO]
    exact evReg_bind fun t m O => by rw [Option.bind_some]
  | .scope .., R, K, t, m, O => by simp [evO]
  | .rangeFunc .., R, K, t, m, O => by simp [evO]
  | .goto .., R, K, t, m, O => by simp [evO]
  | .label .., R, K, t, m, O => by simp [evO]
  | .refuse .., R, K, t, m, O => by simp [evO]

theorem iterO_mono {step : StepO} {r : Ex × Tmps × Mem × List OS} : ∀ (n : Nat) (t : Tmps) (m : Mem) (O : List OS), iterO step n t m O = some r → iterO step (n + 1) t m O = some r
  | 0, t, m, O, h => by simp [iterO] at h
  | n + 1, t, m, O, h => by
    rw [iterO] at h ⊢
    cases h1 : step t m O with
    | none => rw [h1] at h; simp at h
    | some q =>
      obtain ⟨e, t', m', O'⟩ := q
      rw [h1] at h
      cases e with
      | normal => exact iterO_mono n t' m' O' h
      | _ => exact h
theorem loopOL_more {step : StepO} {r : Ex × Tmps × Mem × List OS} (h1 : step t m O = some (.normal, t', m2, O')) (h : loopOL step t' m2 O' = some r) : loopOL step t m O = some r := by
  obtain ⟨k, hk⟩ := lim_some h
  refine lim_eq (fun j r hj => iterO_mono j t m O hj) (k := k + 1) ?_
  rw [iterO, h1]; exact hk
theorem loopOL_out {step : StepO} {e : Ex} (h1 : step t m O = some (e, t', m2, O')) (he : e ≠ .normal) : loopOL step t m O = some (e, t', m2, O') := by
  refine lim_eq (fun j r hj => iterO_mono j t m O hj) (k := 1) ?_
  rw [iterO, h1]
  cases e with
  | normal => exact absurd rfl he
  | _ => rfl
noncomputable def loopOK {R : Type} (P : Program) (E : EnvO) (body : Code) (t : Tmps) (m : Mem) (O : List OS) (K : Ex → Tmps → Mem → List OS → Option R) : Option R := evO P E (.loop body) t m O K
theorem loopOK_round {R : Type} {E : EnvO} {body : Code} {K : Ex → Tmps → Mem → List OS → Option R} {r : R} {S : Tmps × Mem} (hS : clean (E.E.lv (firstRegion body)) t m = S)
    (h : evO P E body S.1 S.2 O (fun e t m O => match e with | .normal => loopOK P E body t m O K | e => K e t m O) = some r) : loopOK P E body t m O K = some r := by
  subst hS
  rw [evO_bind] at h
  unfold loopOK
  simp only [evO]
  cases hq : evO P E body (clean (E.E.lv (firstRegion body)) t m).1 (clean (E.E.lv (firstRegion body)) t m).2 O (fun e t m O => some (e, t, m, O)) with
  | none => rw [hq] at h; simp at h
  | some q =>
    obtain ⟨e, t', m', O'⟩ := q
    rw [hq] at h
    simp only [Option.bind_some] at h
    cases e with
    | normal =>
      simp only [loopOK, evO] at h
      split at h
      case h_2 => simp at h
      rename_i e2 t2 m2 O2 h2
      rw [loopOL_more (t' := t') (m2 := m') (O' := O') hq h2]
      exact h
    | exit i => rw [loopOL_out (t' := t') (m2 := m') (O' := O') hq (by simp)]; exact h
    | ret => rw [loopOL_out (t' := t') (m2 := m') (O' := O') hq (by simp)]; exact h

noncomputable def seqKO {R : Type} (P : Program) (E : EnvO) (b : Code) (K : Ex → Tmps → Mem → List OS → Option R) (e : Ex) (t : Tmps) (m : Mem) (O : List OS) : Option R :=
  match e with
  | .normal => evO P E b t m O K
  | e => K e t m O
def blockKO {R : Type} (id : Nat) (K : Ex → Tmps → Mem → List OS → Option R) (e : Ex) (t : Tmps) (m : Mem) (O : List OS) : Option R :=
  match e with
  | .exit i => if i = id then K .normal t m O else K (.exit i) t m O
  | e => K e t m O
def regKO {R : Type} (K : Ex → Tmps → Mem → List OS → Option R) (t : Tmps) (m : Mem) (O : List OS) : Option R := K .normal t m O
noncomputable def roundKO {R : Type} (P : Program) (E : EnvO) (body : Code) (K : Ex → Tmps → Mem → List OS → Option R) (e : Ex) (t : Tmps) (m : Mem) (O : List OS) : Option R :=
  match e with
  | .normal => loopOK P E body t m O K
  | e => K e t m O
def finKO (P : Program) (rs : List ResultVar) (e : Ex) (t : Tmps) (m : Mem) (O : List OS) : Option (AV × List (Nat × Box)) := finK P rs [] e t m
end
section
variable {R : Type} {P : Program} {E : EnvO} {K : Ex → Tmps → Mem → List OS → Option R} {t : Tmps} {m : Mem} {O : List OS}
theorem after_apply (l : List Nat) (t2 t : Tmps) (i : Nat) : after l t2 t i = if l.contains i then (if scalarR (t2 i) then t2 i else .undef) else t i := rfl
theorem evO_skip : evO P E .skip t m O K = K .normal t m O := by simp only [evO]
theorem evO_exit {id : Nat} : evO P E (.exit id) t m O K = K (.exit id) t m O := by simp only [evO]
theorem evO_ret : evO P E .ret t m O K = K .ret t m O := by simp only [evO]
theorem evO_seq {a b : Code} : evO P E (.seq a b) t m O K = evO P E a t m O (seqKO P E b K) := by rw [evO] <;> rfl
theorem evO_cond {c : Operand} {x y : Code} : evO P E (.cond c x y) t m O K = match opnd t c with | .bool b => bif b then evO P E x t m O K else evO P E y t m O K | _ => none := by rw [evO] <;> rfl
theorem evO_block {id : Nat} {body : Code} : evO P E (.block id body) t m O K = evO P E body t m O (blockKO id K) := by rw [evO] <;> rfl
theorem evO_loop {body : Code} : evO P E (.loop body) t m O K = loopOK P E body t m O K := rfl
theorem evO_region {id : Nat} {l : List Oper} {d : Bool} : evO P E (.region id l.toArray d) t m O K = evReg P E id l.toArray d t m O (regKO K) := by simp only [evO]; rfl
theorem seqKO_normal {b : Code} : seqKO P E b K .normal t m O = evO P E b t m O K := rfl
theorem seqKO_exit {b : Code} {i : Nat} : seqKO P E b K (.exit i) t m O = K (.exit i) t m O := rfl
theorem seqKO_ret {b : Code} : seqKO P E b K .ret t m O = K .ret t m O := rfl
theorem blockKO_normal {id : Nat} : blockKO id K .normal t m O = K .normal t m O := rfl
theorem blockKO_exit {id i : Nat} : blockKO id K (.exit i) t m O = if i = id then K .normal t m O else K (.exit i) t m O := rfl
theorem blockKO_ret {id : Nat} : blockKO id K .ret t m O = K .ret t m O := rfl
theorem roundKO_normal {b : Code} : roundKO P E b K .normal t m O = loopOK P E b t m O K := rfl
theorem roundKO_exit {b : Code} {i : Nat} : roundKO P E b K (.exit i) t m O = K (.exit i) t m O := rfl
theorem roundKO_ret {b : Code} : roundKO P E b K .ret t m O = K .ret t m O := rfl
theorem regKO_eq : regKO K t m O = K .normal t m O := rfl
theorem roundO_of {body : Code} {r : R} {S : Tmps × Mem} (hS : clean (E.E.lv (firstRegion body)) t m = S)
    (h : evO P E body S.1 S.2 O (roundKO P E body K) = some r) : loopOK P E body t m O K = some r := by
  refine loopOK_round hS ?_
  rw [← h]
  congr 1
theorem loopO_by {body : Code} {r : R} {α : Type} (size : α → Nat) (Inv : α → Tmps → Mem → List OS → Prop)
    (h : ∀ (a : α) (t : Tmps) (m : Mem) (O : List OS), Inv a t m O → (∀ (a' : α) (t' : Tmps) (m' : Mem) (O' : List OS), size a' < size a → Inv a' t' m' O' → loopOK P E body t' m' O' K = some r) → loopOK P E body t m O K = some r) (a : α) (h0 : Inv a t m O) : loopOK P E body t m O K = some r := by
  suffices ∀ n (a : α) (t : Tmps) (m : Mem) (O : List OS), size a < n → Inv a t m O → loopOK P E body t m O K = some r from this (size a + 1) a t m O (Nat.lt_succ_self _) h0
  intro n
  induction n with
  | zero => intro a t m O hn; omega
  | succ n ih => intro a t m O hn hi; exact h a t m O hi fun a' t' m' O' hs hi' => ih a' t' m' O' (by omega) hi'
end
end Ev
