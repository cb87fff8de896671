/- A verified evaluator, part H: an operation that is no call does what 'aop' says. -/
import Derived.Test.YtlmmgblghgmgeaaDoorEvG
set_option linter.unusedVariables false
set_option linter.unusedSimpArgs false
namespace Ev
open Go
section
variable {P : Program} {c : Cfg} {w : World} {m m' : Mem} {t : Tmps} {a : Act} {C : Oracle} {ro : FuncId → Bool} {D : Option (List Nat)} {d : Nat} {x : AV}

theorem aop_buildSlice {ty : TypeId} {len : Nat} {ps : Array (Nat × Operand)} (hT : TRel c w t a) (hM : MemRel c m w) (h : aop P C ro D (.buildSlice ty len ps) d (opnd t) m = some (x, m')) :
    OpRes P c w m' x ((do pure (Next.value (← Instr.buildSlice ty len (ps.map fun (i, x) => (i, a.eval x)))) : Sem Next).run P w) := by
  simp only [aop] at h
  split at h
  case h_2 => simp at h
  rename_i e he
  split at h
  case h_2 => simp at h
  rename_i z n hz hn
  split at h
  case isFalse => simp at h
  rename_i hc
  obtain ⟨hle, hzv, hzl, hn0, hidx, hall⟩ := hc
  simp at h
  obtain ⟨rfl, rfl⟩ := h
  have hu := under_of_elemT he
  obtain ⟨zv, rfl, hzr⟩ := run_zero hz
  have hzc := V.cells hzv (V_ofValue c.own w zv)
  have hlen : ps.size = len := by
    have := congrArg List.length hidx
    simpa using this
  have hpsl : ps.toList.length = len := by simpa using hlen
  let us : Array Value := (Array.range (len * n)).map (zv.cells[· % zv.cells.size]!)
  have husz : us.size = len * n := by simp [us]
  obtain ⟨ws, f1, f2, f3, f4⟩ := fillSlice_fill (w := w) (own := c.own) (n := n) (ps.map fun (i, x) => (i, a.eval x)).toList (ps.toList.map fun p => (opnd t p.2).cells) 0 len us
    (by
      simp only [Array.toList_map, List.map_map, List.length_map]
      rw [hpsl, ← List.range_eq_range', ← hidx]
      apply List.map_congr_left
      intro p _; rfl)
    (by simp) (fun i q ys h1 h2 => by
      simp only [Array.toList_map, List.getElem?_map, Option.map_eq_some_iff] at h1 h2
      obtain ⟨p, hp, rfl⟩ := h1
      obtain ⟨p', hp', rfl⟩ := h2
      rw [hp] at hp'; simp at hp'; subst hp'
      have hpm : p ∈ ps.toList := List.mem_of_getElem? hp
      have := List.all_eq_true.1 hall p hpm
      simp only [Bool.and_eq_true, beq_iff_eq] at this
      exact ⟨this.2, T.cells this.1 (T_opnd hT p.2)⟩) husz (by simp [hlen])
  have hzs : zv.cells.size = n := by rw [hzc.1, hzl]
  have hrun : (Instr.buildSlice ty len (ps.map fun (i, x) => (i, a.eval x))).run P w = .ok (.slice (some ⟨w.heap.size, 0, none⟩) len len) (w.alloc (.cells ws e)) := by
    have h0 : ¬ len * n > 2 ^ 24 := by omega
    unfold Instr.buildSlice
    simp only [Sem.run_bind, run_underlying hu, Result.andThen_ok, run_tsz hn, Sem.run_ite, h0, if_false]
    have f1' : Instr.fill (fun i => some (i * n, n)) us (Array.map (fun x => (x.fst, a.eval x.snd)) ps).toList = some ws := f1
    by_cases hln : len * n = 0
    · rw [if_pos hln]
      have e1 : Array.map (fun x => (#[] : Array Value)[x % (#[] : Array Value).size]!) (Array.range (len * n)) = us := by simp [us, hln]
      simp only [Sem.run_pure, Result.andThen_ok]
      rw [e1, f1']
      simp [newRow]
    · rw [if_neg hln]
      have e1 : Array.map (fun x => zv.cells[x % zv.cells.size]!) (Array.range (len * n)) = us := rfl
      simp only [Sem.run_bind, hzr, Result.andThen_ok, Sem.run_pure]
      rw [e1, f1']
      simp [newRow]
  refine opres_of hrun (.newRow hM _ (.of_V (.sl n _ .clip _ len len (fun i j => ws.getD (i * n + j) undef) (by simp [hlen]) (Nat.le_refl _) (fun e he => ?_) (fun i j ys y hi hj => ?_) (fun i j ys y hi hj => ?_) (fun i j ys y hi hj => ?_) (by simp) (by simp) (by simp))))
  · obtain ⟨p, hp, rfl⟩ := List.mem_map.1 he
    have := List.all_eq_true.1 hall p hp
    simp only [Bool.and_eq_true, beq_iff_eq] at this
    exact this.2
  · obtain ⟨v, h1, h2⟩ := f4 i j ys y hi hj
    simp only [Nat.zero_add] at h1
    have hlt : i * n + j < ws.size := by
      rcases Nat.lt_or_ge (i * n + j) ws.size with h' | h'
      · exact h'
      · simp [h'] at h1
    refine ⟨_, rfl, ?_, fun hN => ?_⟩
    · rw [add_plain]
      simp [World.cell?_alloc_new, Array.getD, hlt]
    · have := hM.lt _ _ hN; simp at this
  · obtain ⟨v, h1, h2⟩ := f4 i j ys y hi hj
    simp only [Nat.zero_add] at h1
    have : ws.getD (i * n + j) undef = v := by simp [Array.getD_eq_getD_getElem?, h1]
    rw [this]
    exact h2.1.mono (.newPlain _ _ _)
  · obtain ⟨v, h1, h2⟩ := f4 i j ys y hi hj
    simp only [Nat.zero_add] at h1
    have : ws.getD (i * n + j) undef = v := by simp [Array.getD_eq_getD_getElem?, h1]
    rw [this]
    exact h2.2

theorem aop_plain {o : Oper} (hT : TRel c w t a) (hM : MemRel c m w) (hnc : ∀ cl, o.op ≠ .call cl) (h : aop P C ro D o.op d (opnd t) m = some (x, m')) :
    OpRes P c w m' x ((execOp a.eval o).run P w) := by
  obtain ⟨dst, op, type, pos, after, guard⟩ := o
  simp only at h hnc
  cases op with
  | move y => simp only [aop, Option.some.injEq, Prod.mk.injEq] at h; obtain ⟨rfl, rfl⟩ := h; exact .same hM (T_opnd hT y)
  | assign y => simp only [aop, Option.some.injEq, Prod.mk.injEq] at h; obtain ⟨rfl, rfl⟩ := h; exact .same hM (T_opnd hT y)
  | pick e p q =>
    simp only [aop] at h
    split at h
    case h_2 => simp at h
    rename_i b hb
    simp at h
    obtain ⟨rfl, rfl⟩ := h
    have he := T_opnd hT e
    rw [hb] at he
    have he' := T_bool he
    simp only [execOp, he', asBool, Sem.run_bind, Sem.run_pure, Result.andThen_ok]
    cases b
    · exact .same hM (T_opnd hT q)
    · exact .same hM (T_opnd hT p)
  | alloc e =>
    simp only [aop] at h
    split at h
    case h_2 => simp at h
    rename_i z hz hd
    split at h
    · simp at h
    rename_i hv
    simp at h
    obtain ⟨rfl, rfl⟩ := h
    obtain ⟨zv, rfl, hzr⟩ := run_zero hz
    refine opres_of (v := .pointer (some ⟨w.heap.size, 0, none⟩)) (w' := w.alloc (.cells zv.cells e)) (by simp [Instr.alloc, hzr, newVar, newRow]) ?_
    exact Post.newBox hM (by omega) hd _ _ e (V.cells (by simpa using hv) (V_ofValue _ _ _))
  | box e y =>
    simp only [aop] at h
    split at h
    case h_2 => simp at h
    rename_i hd
    split at h
    · simp at h
    rename_i hv
    simp at h
    obtain ⟨rfl, rfl⟩ := h
    refine opres_of (v := .pointer (some ⟨w.heap.size, 0, none⟩)) (w' := w.alloc (.cells (a.eval y).cells e)) (by simp [Instr.box, newVar, newRow]) ?_
    exact Post.newBox hM (by omega) hd _ _ e (T.cells (by simpa using hv) (T_opnd hT y))
  | build ty ps =>
    simp only [aop] at h
    split at h
    case h_2 => simp at h
    rename_i z places hz hp
    split at h
    case isFalse => simp at h
    rename_i hv
    obtain ⟨hzv, hall⟩ := hv
    simp only [Option.map_eq_some_iff] at h
    obtain ⟨cs, hf, hx⟩ := h
    simp at hx
    obtain ⟨rfl, rfl⟩ := hx
    have hz' := hz
    unfold zeroOf at hz'
    cases hi : P.info? ty with
    | none => simp [hi] at hz'
    | some it =>
      cases hzz : it.zero with
      | none => simp [hi, hzz] at hz'
      | some zv =>
        simp [hi, hzz] at hz'
        subst hz'
        obtain ⟨ws, f1, f2⟩ := fillC_fill (w := w) (own := c.own) (ps.toList.map fun p => (p.1, opnd t p.2)) (ps.map fun (i, x) => (i, a.eval x)).toList _ zv.cells cs
          (fun p hp => by
            obtain ⟨q, hq, rfl⟩ := List.mem_map.1 hp
            exact List.all_eq_true.1 hall q hq) (by simp)
          (fun i p q h1 h2 => by
            simp only [Array.toList_map, List.getElem?_map, Option.map_eq_some_iff] at h1 h2
            obtain ⟨r, hr, rfl⟩ := h1
            obtain ⟨r', hr', rfl⟩ := h2
            rw [hr] at hr'; simp at hr'; subst hr'
            have := List.all_eq_true.1 hall r (List.mem_of_getElem? hr)
            exact ⟨rfl, T.cells this (T_opnd hT r.2)⟩) (V.cells hzv (V_ofValue _ _ _)) hf
        have hb := placesOf_built hp (by simp [hi, hzz]) f1
        exact opres_of (run_build w ty _ ws hb) (.same hM (.of_V (.agg _ _ f2.1 f2.2.1 f2.2.2)))
  | buildSlice ty len ps => exact aop_buildSlice hT hM h
  | load ty p =>
    simp only [aop] at h
    have hp := T_opnd hT p
    split at h
    · rename_i id off heq
      rw [heq] at hp
      obtain ⟨g, hr, hpv⟩ := T_ptr hp
      split at h
      case isFalse => simp at h
      split at h
      case h_2 => simp at h
      rename_i bx hb
      simp only [Option.map_eq_some_iff] at h
      obtain ⟨v, hv, hx⟩ := h
      simp at hx
      obtain ⟨rfl, rfl⟩ := hx
      obtain ⟨cv, hcv⟩ := box_cells hM hb hr
      obtain ⟨u, hu1, hu2⟩ := part_load (ad := ⟨g, 0, none⟩) hv hcv
      rw [add_plain, Nat.zero_add] at hu1
      exact opres_of (by simp [Instr.loadAt, Instr.sureAddr, hpv, hu1]) (.same hM hu2)
    · rename_i cl heq
      rw [heq] at hp
      obtain ⟨ad, cv, hpv, h1, h2⟩ := T_eptr hp
      simp only [Option.map_eq_some_iff] at h
      obtain ⟨v, hv, hx⟩ := h
      simp at hx
      obtain ⟨rfl, rfl⟩ := hx
      obtain ⟨u, hu1, hu2⟩ := part_load (c := c) (ad := ad) hv (fun j y hy => ⟨(h1 j y hy).1, .of_V (h2 j y hy).1, (h2 j y hy).2⟩)
      have hz : ad.add 0 = ad := rfl
      rw [hz] at hu1
      exact opres_of (by simp [Instr.loadAt, Instr.sureAddr, hpv, hu1]) (.same hM hu2)
    · simp at h
  | store ty p q => exact aop_store hT hM h
  | nilCheck y =>
    simp only [aop] at h
    have hy := T_opnd hT y
    split at h
    · rename_i id off heq
      rw [heq] at hy
      simp at h
      obtain ⟨rfl, rfl⟩ := h
      obtain ⟨g, hr, hv⟩ := T_ptr hy
      simp only [execOp, hv]
      exact .same hM (hv ▸ hy)
    · rename_i cl heq
      rw [heq] at hy
      simp at h
      obtain ⟨rfl, rfl⟩ := h
      obtain ⟨ad, cv, hv, _⟩ := T_eptr hy
      simp only [execOp, hv]
      exact .same hM (hv ▸ hy)
    · simp at h
  | binOp op ty y z yt =>
    simp only [aop] at h
    have hy := T_opnd hT y
    have hz := T_opnd hT z
    split at h
    · rename_i p q h1 h2
      rw [h1] at hy
      rw [h2] at hz
      have e1 := T_bool hy
      have e2 := T_bool hz
      split at h
      · rename_i hu
        simp at h
        obtain ⟨rfl, rfl⟩ := h
        refine opres_of (v := .bool (p == q)) (w' := w) ?_ (.same hM (.of_V (.bool _)))
        simp [e1, e2, eqGuard, binOp, Op.equal, Op.maxDepth, run_equalIn_bool' w 9999 ty p q hu]
      · rename_i hu
        simp at h
        obtain ⟨rfl, rfl⟩ := h
        refine opres_of (v := .bool !(p == q)) (w' := w) ?_ (.same hM (.of_V (.bool _)))
        simp [e1, e2, eqGuard, binOp, Op.equal, Op.maxDepth, run_equalIn_bool' w 9999 ty p q hu]
      · simp at h
    · split at h
      · rename_i v hv
        simp only [Option.some.injEq, Prod.mk.injEq] at h
        obtain ⟨rfl, rfl⟩ := h
        obtain ⟨r, hr1, hr2⟩ := run_abin (P := P) hv hy hz ty y z
        exact opres_of hr1 (.same hM hr2)
      · simp only [Option.map_eq_some_iff] at h
        obtain ⟨v, hv, hx⟩ := h
        simp at hx
        obtain ⟨rfl, rfl⟩ := hx
        obtain ⟨r, hr1, hr2⟩ := run_acmp (P := P) hv hy hz y z
        exact opres_of hr1 (.same hM hr2)
  | unOp op ty y =>
    simp only [aop] at h
    have hy := T_opnd hT y
    split at h
    · rename_i b h1
      rw [h1] at hy
      simp at h
      obtain ⟨rfl, rfl⟩ := h
      exact opres_of (v := .bool !b) (w' := w) (by simp [T_bool hy, Op.unary]) (.same hM (.of_V (.bool _)))
    · rename_i k n h1
      rw [h1] at hy
      simp at h
      obtain ⟨rfl, rfl⟩ := h
      exact opres_of (v := .int k (k.wrap (0 - n))) (w' := w) (by simp [T_int hy, Op.unary, Op.intArith]) (.same hM (by simpa using T.of_V (.int k (k.wrap (0 - n)))))
    · simp at h
  | convert src dst y =>
    simp only [aop] at h
    have hy := T_opnd hT y
    split at h
    · rename_i k k' n hu h1
      rw [h1] at hy
      split at h
      case isFalse => simp at h
      rename_i hs
      obtain ⟨sd, hsd⟩ := Option.isSome_iff_exists.1 hs
      simp at h
      obtain ⟨rfl, rfl⟩ := h
      refine opres_of (v := .int k (k.wrap n)) (w' := w) ?_ (.same hM (.of_V (.int _ _)))
      simp [T_int hy, convert, run_underlying hsd, run_underlying hu, Conv.intToInt]
    · rename_i s hu h1
      rw [h1] at hy
      split at h
      case isFalse => simp at h
      rename_i hs
      obtain ⟨sd, hsd⟩ := Option.isSome_iff_exists.1 hs
      simp at h
      obtain ⟨rfl, rfl⟩ := h
      refine opres_of (v := .string ⟨s.toArray⟩) (w' := w) ?_ (.same hM (.of_V (.str _)))
      simp [T_str hy, convert, run_underlying hsd, run_underlying hu]
    · simp at h
  | makeFunc fn fs caps =>
    cases fn with
    | func f => exact aop_makeFunc hT hM h
    | _ => simp [aop] at h
  | slice ty y lo hi mx =>
    cases mx with
    | some _ => simp [aop] at h
    | none =>
      simp only [aop] at h
      have hy := T_opnd hT y
      have ho : ∀ o : Option Operand, (∀ z, o.map (opnd t) = some z → ∃ v, o.map a.eval = some v ∧ T c w z v) ∧ (o.map (opnd t) = none → o.map a.eval = none) := fun o => by
        cases o with
        | none => simp
        | some p => exact ⟨fun z hz => ⟨_, rfl, by simp at hz; subst hz; exact T_opnd hT p⟩, by simp⟩
      split at h
      · rename_i s hu h1
        rw [h1] at hy
        simp only [Option.map_eq_some_iff] at h
        obtain ⟨v, hv, hx⟩ := h
        simp at hx
        obtain ⟨rfl, rfl⟩ := hx
        obtain ⟨z, hz1, hz2⟩ := run_aslice_str (P := P) (c := c) (w := w) hv hu (ho lo).1 (ho lo).2 (ho hi).1 (ho hi).2
        refine opres_of ?_ (.same hM hz2)
        simp only [T_str hy, Option.map_none]
        exact hz1
      · rename_i e z els tok hu h1
        rw [h1] at hy
        split at h
        case isFalse => simp at h
        rename_i hc
        simp only [Option.map_eq_some_iff] at h
        obtain ⟨v, hv, hx⟩ := h
        simp at hx
        obtain ⟨rfl, rfl⟩ := hx
        obtain ⟨z', hz1, hz2⟩ := run_aslice_sl (P := P) (c := c) (w := w) hv hu (hc.imp id fun h => h) hy (ho lo).1 (ho lo).2 (ho hi).1 (ho hi).2
        exact opres_of hz1 (.same hM hz2)
      · simp at h
  | fieldAddr ty y i =>
    simp only [aop] at h
    have hy := T_opnd hT y
    split at h
    · rename_i id off o ft h1 h2
      rw [h1] at hy
      simp at h
      obtain ⟨rfl, rfl⟩ := h
      obtain ⟨g, hr, hv⟩ := T_ptr hy
      refine opres_of (v := .pointer (some ⟨g, off + o, none⟩)) (w' := w) ?_ (.same hM (⟨g, hr, rfl⟩ : T c w (.ptr id (off + o)) _))
      rw [hv, fieldAt_run h2, add_plain]
    · rename_i cl o ft h1 h2
      rw [h1] at hy
      simp at h
      obtain ⟨rfl, rfl⟩ := h
      obtain ⟨ad, cv, hv, k1, k2⟩ := T_eptr hy
      refine opres_of (v := .pointer (some (ad.add o))) (w' := w) (by rw [hv, fieldAt_run h2]) (.same hM (.of_V (.eptr _ _ (fun j => cv (o + j)) (fun j z hz => ?_) (fun j z hz => ?_) fun j z hz => ?_)))
      · rw [List.getElem?_drop] at hz
        rw [add_add, add_block, add_off]
        have := k1 _ _ hz
        rw [show ad.off + o + j = ad.off + (o + j) by omega]
        exact this
      · rw [List.getElem?_drop] at hz
        exact (k2 _ _ hz).1
      · rw [List.getElem?_drop] at hz
        exact (k2 _ _ hz).2
    · simp at h
  | field ty y i =>
    simp only [aop] at h
    have hy := T_opnd hT y
    split at h
    case h_2 => simp at h
    rename_i cl o ft h1 h2
    rw [h1] at hy
    simp only [Option.map_eq_some_iff] at h
    obtain ⟨v, hv, hx⟩ := h
    simp at hx
    obtain ⟨rfl, rfl⟩ := hx
    obtain ⟨us, hus, hcr⟩ := T_agg hy
    obtain ⟨u, hu1, hu2⟩ := part_agg (P := P) hv hcr
    obtain ⟨fs, f, n, k1, k2, k3, rfl, rfl⟩ := fieldT_spec h2
    refine opres_of ?_ (.same hM hu2)
    simp [hus, Instr.field, run_underlying k1, k2, asAgg, hu1]
  | indexAddr ty y i =>
    simp only [aop] at h
    have hy := T_opnd hT y
    have hi := T_opnd hT i
    split at h
    case h_2 => simp at h
    rename_i s els tok k n e h1 h2 h3
    rw [h1] at hy
    rw [h2] at hi
    split at h
    case isFalse => simp at h
    rename_i hc
    obtain ⟨c1, c2, c3, c4⟩ := hc
    simp at h
    obtain ⟨rfl, rfl⟩ := h
    obtain ⟨ad0, len, cap, cv, hv, hlen, hcap, hel, k1, k2, _, _⟩ := V_sl (T_sl hy)
    have hu := under_of_elemT h3
    have hn : n.toNat < els.length := by omega
    have hel' : els[n.toNat]? = some els[n.toNat] := by simp [hn]
    have hnn : n < (len : Int) := by omega
    cases ad0 with
    | none =>
      have hl : els[n.toNat].length = s := hel _ (List.getElem_mem hn)
      have h0 : els[n.toNat][0]? = some (els[n.toNat][0]'(by omega)) := by simp
      obtain ⟨ad', ha, _⟩ := k1 _ _ _ _ hel' h0
      simp at ha
    | some ad =>
      refine opres_of (v := .pointer (some (ad.add (n.toNat * s)))) (w' := w) ?_ (.same hM (.of_V (.eptr _ _ (fun j => cv n.toNat j) (fun j z hz => ?_) (fun j z hz => ?_) fun j z hz => ?_)))
      · simp [Instr.indexAt, T_int hi, hv, asIntOf, run_underlying hu, c1, hnn, run_tsz c3.symm]
      · rw [hel'] at hz
        simp at hz
        obtain ⟨ad', ha, q1, q2⟩ := k1 _ _ _ _ hel' hz
        simp at ha; subst ha
        rw [add_add, add_block, add_off]
        rw [show ad.off + n.toNat * s + j = ad.off + (n.toNat * s + j) by omega]
        exact ⟨q1, q2⟩
      · rw [hel'] at hz
        simp at hz
        exact (k2 _ _ _ _ hel' hz).1
      · rw [hel'] at hz
        simp at hz
        exact (k2 _ _ _ _ hel' hz).2
  | index ty y i =>
    simp only [aop] at h
    have hy := T_opnd hT y
    have hi := T_opnd hT i
    split at h
    case h_2 => simp at h
    rename_i s k n hu h1 h2
    rw [h1] at hy
    rw [h2] at hi
    split at h
    case isFalse => simp at h
    rename_i hc
    simp at h
    obtain ⟨rfl, rfl⟩ := h
    have hn : n.toNat < s.length := by omega
    refine opres_of (v := .int .u8 (s.getD n.toNat 0).toNat) (w' := w) ?_ (.same hM (by simpa using T.of_V (.int .u8 ((s.getD n.toNat 0).toNat : Int))))
    simp only [T_str hy, T_int hi, Instr.index, asIntOf, Sem.run_bind, Sem.run_pure, Result.andThen_ok, run_underlying hu, hc.1, if_true, get_mk _ _ hn]
  | extract y i =>
    simp only [aop] at h
    have hy := T_opnd hT y
    split at h
    case h_2 => simp at h
    rename_i vs h1
    rw [h1] at hy
    simp only [Option.map_eq_some_iff] at h
    obtain ⟨v, hv, hx⟩ := h
    simp at hx
    obtain ⟨rfl, rfl⟩ := hx
    obtain ⟨us, hus, hsz, hall⟩ := T_tup hy
    have hi : i < us.size := by
      rw [hsz]
      rcases Nat.lt_or_ge i vs.length with h' | h'
      · exact h'
      · simp [List.getElem?_eq_none, h'] at hv
    have hui : us[i]? = some us[i] := by simp [hi]
    refine opres_of (v := us[i]) (w' := w) ?_ (.same hM (.of_T1 (hall i v _ hv hui)))
    simp [hus, Instr.extract, hi]
  | call cl => exact absurd rfl (hnc cl)
  | _ => simp [aop] at h
end
end Ev
