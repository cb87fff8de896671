/- A verified evaluator of the model's code over abstract values: the texts EvF, EvG, EvH, EvI, EvJ, EvK, EvL, EvM. -/
import Derived.Test.YtlmmgblghgmgeaaGreatDoorEv1
set_option linter.unusedVariables false
set_option linter.unusedSimpArgs false
/- A verified evaluator, part F: what an operation that calls nothing does is what 'aop' says. -/
namespace Ev
open Go
section
variable {P : Program} {c : Cfg} {w : World} {m m' : Mem} {t : Tmps} {a : Act} {C : Oracle} {ro : FuncId → Bool} {D : Option (List Nat)} {d : Nat} {x : AV}

/-! ### a store into a box -/
theorem heap_set_same {w : World} {g i : Nat} {cs : Array Value} {t : TypeId} {fr : Nat × Nat} (v : Value) (hg : w.heap[g]? = some (.cells cs t fr)) :
    (w.setCell ⟨g, i, none⟩ v).heap[g]? = some (.cells (cs.setIfInBounds i v) t fr) := by
  simp [World.setCell, Array.getElem?_modify, hg]
theorem heap_set_other {w : World} {g i k : Nat} (v : Value) (h : k ≠ g) : (w.setCell ⟨g, i, none⟩ v).heap[k]? = w.heap[k]? := by
  simp only [World.setCell, Array.getElem?_modify]
  rw [if_neg (fun e => h e.symm)]
theorem Evo.set {own : Own} {g i : Nat} (v : Value) (hi : own.W g i) : Evo own w own (w.setCell ⟨g, i, none⟩ v) where
  size := by simp
  cells := fun k cs el fr h => by
    by_cases hk : k = g
    · subst hk
      refine ⟨_, heap_set_same v h, by simp, fun off hn => ?_⟩
      have : i ≠ off := fun e => hn (e ▸ hi)
      simp [Array.getElem?_setIfInBounds, this]
    · exact ⟨cs, by rw [heap_set_other v hk]; exact h, rfl, fun _ _ => rfl⟩
  other := fun k o h ho => by
    by_cases hk : k = g
    · subst hk
      have : ∀ o' : Obj, (∀ cs el fr, o' ≠ .cells cs el fr) → (match o' with
          | .cells c elem frozen => Obj.cells (c.setIfInBounds i v) elem frozen
          | o => o) = o' := fun o' h' => by
        cases o' with
        | cells cs el fr => exact absurd rfl (h' _ _ _)
        | _ => rfl
      simp only [World.setCell, Array.getElem?_modify, if_true, h, Option.map_some] <;> exact congrArg some (this o ho)
    · rw [heap_set_other v hk]; exact h
  wr := fun _ _ _ h => h
  no := fun _ _ _ h => h
  hid := fun _ _ _ h _ => h
  os := rfl
  tape := rfl
  output := rfl

theorem run_storeCells {g : Nat} {el : TypeId} : ∀ (vs : List Value) (i : Nat) (off : Nat) (w : World) (cs : Array Value), w.heap[g]? = some (.cells cs el (0, 0)) → off + i + vs.length ≤ cs.size →
    (∀ v ∈ vs, v.oneCell' = true) → ∃ (w' : World) (cs' : Array Value), (storeCells ⟨g, off, none⟩ vs i).run P w = .ok () w' ∧ w'.heap[g]? = some (.cells cs' el (0, 0)) ∧ cs'.size = cs.size ∧
      (∀ own : Own, (∀ k, off + i ≤ k → k < off + i + vs.length → own.W g k) → Evo own w own w') ∧ (∀ k, k < off + i ∨ off + i + vs.length ≤ k → cs'[k]? = cs[k]?) ∧ (∀ k, k < vs.length → cs'[off + i + k]? = vs[k]?) ∧
      (∀ k, k ≠ g → w'.heap[k]? = w.heap[k]?)
  | [], i, off, w, cs, hg, hl, hv => ⟨w, cs, rfl, hg, rfl, fun own _ => .refl _ _, fun _ _ => rfl, fun k hk => by simp at hk, fun _ _ => rfl⟩
  | v :: r, i, off, w, cs, hg, hl, hv => by
    simp only [List.length_cons] at hl
    have hg' := heap_set_same (i := off + i) v hg
    obtain ⟨w', cs', h1, h2, h3, h4, h5, h6, h7⟩ := run_storeCells r (i + 1) off (w.setCell ⟨g, off + i, none⟩ v) (cs.setIfInBounds (off + i) v) hg' (by simp; omega) (fun u hu => hv u (List.mem_cons_of_mem _ hu))
    refine ⟨w', cs', ?_, h2, by simp [h3], fun own ho => ?_, fun k hk => ?_, fun k hk => ?_, fun k hk => (h7 k hk).trans (heap_set_other v hk)⟩
    · have hcell : w.cell? ⟨g, off + i, none⟩ = some (cs[off + i]'(by omega)) := by rw [heap_cell hg]; simp
      have hfr : w.frozen? ⟨g, off + i, none⟩ = false := by simp [World.frozen?, hg]
      have : (store ((⟨g, off, none⟩ : Addr).add i) v).run P w = .ok () (w.setCell ⟨g, off + i, none⟩ v) := by
        rw [add_plain, run_store P w _ v .plain (hv v (by simp))]
        simp [hcell, hfr]
      simp only [storeCells, Sem.run_bind, this, Result.andThen_ok]
      exact h1
    · exact (Evo.set v (ho (off + i) (by omega) (by simp))).trans (h4 own fun k h1 h2 => ho k (by omega) (by simp; omega))
    · rw [h5 k (by simp at hk; omega), Array.getElem?_setIfInBounds]
      have : off + i ≠ k := by simp at hk; omega
      simp [this]
    · cases k with
      | zero =>
        rw [h5 (off + i + 0) (by omega), Array.getElem?_setIfInBounds]
        simp; omega
      | succ k =>
        have := h6 k (by simp at hk; omega)
        rw [show off + i + (k + 1) = off + (i + 1) + k by omega]
        simpa using this

theorem getElem?_setCells : ∀ (ys cs : List AV) (off j : Nat), off + ys.length ≤ cs.length →
    (setCells cs off ys)[j]? = if off ≤ j ∧ j < off + ys.length then ys[j - off]? else cs[j]?
  | [], cs, off, j, h => by simp [setCells]; omega
  | y :: r, cs, off, j, h => by
    simp only [List.length_cons] at h
    rw [setCells, getElem?_setCells r (cs.set off y) (off + 1) j (by simp; omega)]
    by_cases h1 : off = j
    · subst h1
      rw [if_neg (by omega), if_pos (by simp)]
      have : off < cs.length := by omega
      simp [this]
    · by_cases h2 : off + 1 ≤ j ∧ j < off + 1 + r.length
      · rw [if_pos h2, if_pos (by simp; omega)]
        obtain ⟨k, rfl⟩ : ∃ k, j = off + 1 + k := ⟨j - (off + 1), by omega⟩
        rw [show off + 1 + k - (off + 1) = k by omega, show off + 1 + k - off = k + 1 by omega]
        simp
      · rw [if_neg h2, if_neg (by simp; omega), List.getElem?_set_ne h1]
theorem length_setCells : ∀ (ys cs : List AV) (off : Nat), (setCells cs off ys).length = cs.length
  | [], cs, off => rfl
  | y :: r, cs, off => by rw [setCells, length_setCells r]; simp

theorem one_oneCell {own : Own} {x : AV} {v : Value} (hx : x.one = true) (h : V own w x v) : v.oneCell' = true := by
  cases h <;> first | rfl | simp [AV.one] at hx

/-- What a store makes of a box. -/
theorem Post.store {id g : Nat} {bx bx' : Box} {cs cs' : Array Value} {el : TypeId} {w' : World} (hM : MemRel c m w) (h1 : m.boxes id = some bx) (h2 : c.ρ id = some g) (hf : m.froz id = false)
    (hg : w.heap[g]? = some (.cells cs el (0, 0))) (hg' : w'.heap[g]? = some (.cells cs' el (0, 0))) (hsz : cs'.size = cs.size) (hl : bx'.length = bx.length) (e : Evo c.own w c.own w') (hother : ∀ k, k ≠ g → w'.heap[k]? = w.heap[k]?)
    (hc : ∀ (j : Nat) (x : AV) (v : Value), bx'[j]? = some x → cs'[j]? = some v → T1 c w' x v ∧ v.oneCell' = true ∧ ∀ i o, x ≠ .ptr i o) : MemRel c { m with boxes := upd m.boxes id (some bx') } w' := by
  obtain ⟨cs0, el0, k1, k2, k3, k4, k5⟩ := hM.box id bx g h1 h2
  rw [hg] at k1
  simp at k1
  obtain ⟨rfl, rfl⟩ := k1
  refine ⟨fun i => ?_, fun i b g' hb hi => ?_, hM.inj, hM.names, fun a b g' en hs => ?_, hM.tipInj, hM.tipBox, fun g' off ho => Nat.lt_of_lt_of_le (hM.lt _ _ ho) e.size⟩
  · show (upd m.boxes id _ i).isSome = _
    by_cases hq : i = id
    · subst hq; simp [h2]
    · simp [hq, hM.dom]
  · by_cases hq : i = id
    · subst hq
      simp at hb; subst hb
      rw [h2] at hi; simp at hi; subst hi
      exact ⟨cs', el, hg', by rw [hsz, k2, hl], hc, fun _ off ho => k4 hf off (by omega), fun hf' => by simp [hf] at hf'⟩
    · simp [hq] at hb
      obtain ⟨cs1, el1, q1, q2, q3, q4, q5⟩ := hM.box i b g' hb hi
      have hne : g' ≠ g := fun he => hq (hM.inj _ _ _ hi (he ▸ h2))
      exact ⟨cs1, el1, by rw [hother g' hne]; exact q1, q2, fun j x v hx hv => ⟨(q3 j x v hx hv).1.mono e (.refl _), (q3 j x v hx hv).2⟩, q4, q5⟩
  · obtain ⟨cs1, el1, q1, ql, q2⟩ := hM.tip a b g' en hs
    obtain ⟨cs2, q3, q4, _⟩ := e.cells _ _ _ _ q1
    exact ⟨cs2, el1, q3, by omega, fun off h1 h2 => q2 off h1 (by omega)⟩

theorem aop_store {ty : TypeId} {p q : Operand} (hT : TRel c w t a) (hM : MemRel c m w) (h : aop P C ro D (.store ty p q) d (opnd t) m = some (x, m')) :
    OpRes P c w m' x ((do Instr.storeAt ty (a.eval p) (a.eval q); pure Next.skip : Sem Next).run P w) := by
  simp only [aop] at h
  have hp := T_opnd hT p
  have hq := T_opnd hT q
  split at h
  case h_2 => simp at h
  rename_i id off heq
  rw [heq] at hp
  obtain ⟨g, hρ, hpv⟩ := T_ptr hp
  split at h
  case h_2 => simp at h
  rename_i bx hbx
  split at h
  case isFalse => simp at h
  rename_i hcond
  obtain ⟨hsz, hle, hf, hval⟩ := hcond
  simp at h
  obtain ⟨rfl, rfl⟩ := h
  obtain ⟨cs, el, k1, k2, k3, k4, k5⟩ := hM.box id bx g hbx hρ
  generalize opnd t q = X at *
  generalize a.eval q = U at *
  have hcr := T.cells hval hq
  have hv1 : ∀ v ∈ U.cells.toList, v.oneCell' = true := fun v hv => by
    obtain ⟨i, hi, rfl⟩ := List.mem_iff_getElem.1 hv
    exact hcr.2.2 i _ (by simp at hi ⊢)
  have hUl : U.cells.toList.length = X.cells.length := by simp [hcr.1]
  obtain ⟨w', cs', s1, s2, s3, s4, s5, s6, s7⟩ := run_storeCells (P := P) (g := g) (el := el) U.cells.toList 0 off w cs k1 (by omega) hv1
  have e := s4 c.own fun k h1 h2 => k4 hf k (by omega)
  have hrun : (do Instr.storeAt ty (a.eval p) U; pure Next.skip : Sem Next).run P w = .ok .skip w' := by
    have hsz' : (Go.sizeOf ty).run P w = .ok X.cells.length w := run_tsz hsz.symm w
    simp only [Instr.storeAt, Instr.sureAddr, storeVar, hpv, Sem.run_bind, Sem.run_pure, Result.andThen_ok, hsz', hcr.1, ne_eq, not_true_eq_false, if_false, Sem.run_ite, s1]
  rw [hrun]
  refine ⟨c, e, .refl _, ?_, (⟨#[], rfl, rfl, by simp⟩ : T c w' (.tup []) undef)⟩
  have hold : ∀ (j : Nat) (y : AV) (v : Value), (j < off ∨ off + X.cells.length ≤ j) → bx[j]? = some y → cs'[j]? = some v → T1 c w' y v ∧ v.oneCell' = true ∧ ∀ i o, y ≠ .ptr i o := fun j y v hj hy hv => by
    rw [s5 j (by omega)] at hv
    exact ⟨(k3 j y v hy hv).1.mono e (.refl _), (k3 j y v hy hv).2⟩
  have hone : ∀ (j : Nat) (v : Value), off ≤ j → j < off + X.cells.length → cs'[j]? = some v → v.oneCell' = true := fun j v h1 h2 hv => by
    have h6 := s6 (j - off) (by omega)
    rw [show off + 0 + (j - off) = j by omega, hv] at h6
    exact hcr.2.2 (j - off) v (by simpa using h6.symm)
  have hset : ∀ Y : AV, X.cells.length = 1 → (∀ v, cs'[off]? = some v → T1 c w' Y v) → (∀ i o, Y ≠ .ptr i o) → MemRel c { m with boxes := upd m.boxes id (some (bx.set off Y)) } w' := fun Y h1 hY hp =>
    Post.store hM hbx hρ hf k1 s2 s3 (by simp) e s7 fun j y v hy hv => by
      rw [List.getElem?_set] at hy
      by_cases hj : off = j
      · subst hj
        simp at hy
        obtain ⟨_, rfl⟩ := hy
        exact ⟨hY v hv, hone off v (by omega) (by omega) hv, hp⟩
      · simp [hj] at hy
        exact hold j y v (by omega) hy hv
  have hcell : ∀ v, X.cells.length = 1 → cs'[off]? = some v → U.cells = #[v] := fun v h1 hv => by
    have := s6 0 (by omega)
    rw [show off + 0 + 0 = off by omega, hv] at this
    have hsz1 : U.cells.size = 1 := by rw [hcr.1, h1]
    apply Array.ext
    · simp [hsz1]
    · intro i h2 h3
      have hi : i = 0 := by omega
      subst hi
      simp at this ⊢
      rw [Array.getElem?_eq_getElem (by omega)] at this
      simpa using this.symm
  have hV : ∀ v, X.cells.length = 1 → cs'[off]? = some v → ∀ y, X.cells = [y] → V c.own w' y v := fun v h1 hv y hy => by
    have h0 := hcell v h1 hv
    have := hcr.2.1 0 y v (by simp [hy]) (by simp [h0])
    exact this.mono e
  cases X with
  | undef => simp [AV.isVal] at hval
  | tup => simp [AV.isVal] at hval
  | agg ys =>
    refine Post.store hM hbx hρ hf k1 s2 s3 (length_setCells _ _ _) e s7 fun j y v hy hv => ?_
    change (setCells bx off ys)[j]? = some y at hy
    rw [getElem?_setCells ys bx off j hle] at hy
    split at hy
    · rename_i hj
      have h6 := s6 (j - off) (by simp only [AV.cells] at hUl; omega)
      rw [show off + 0 + (j - off) = j by omega, hv] at h6
      exact ⟨.of_V ((hcr.2.1 (j - off) y v hy (by simpa using h6.symm)).mono e), hcr.2.2 (j - off) v (by simpa using h6.symm), (hcr.2.1 (j - off) y v hy (by simpa using h6.symm)).noPtr⟩
    · rename_i hj
      exact hold j y v (by simp only [AV.cells] at hj ⊢; omega) hy hv
  | sl z els tok =>
    refine hset _ rfl (fun v hv => ?_) (by simp)
    have h0 := hcell v rfl hv
    have hU : U = v := by
      obtain ⟨a', len, cap, cv, rfl, _⟩ := V_sl (T_sl hq)
      simpa [Value.cells] using h0
    subst hU
    exact T1.mono (c := c) (c' := c) (show T1 c w (.sl z els tok) U from hq) e (.refl _)
  | bool b => exact hset _ rfl (fun v hv => .of_V (hV v rfl hv _ rfl)) (by simp [AV.bare])
  | int k n => exact hset _ rfl (fun v hv => .of_V (hV v rfl hv _ rfl)) (by simp [AV.bare])
  | str s => exact hset _ rfl (fun v hv => .of_V (hV v rfl hv _ rfl)) (by simp [AV.bare])
  | ptr i o => exact hset _ rfl (fun v hv => .of_V (hV v rfl hv _ rfl)) (by simp [AV.bare])
  | eptr cl => exact hset _ rfl (fun v hv => .of_V (hV v rfl hv _ rfl)) (by simp [AV.bare])
  | pnil => exact hset _ rfl (fun v hv => .of_V (hV v rfl hv _ rfl)) (by simp [AV.bare])
  | fn f cp => exact hset _ rfl (fun v hv => .of_V (hV v rfl hv _ rfl)) (by simp [AV.bare])
  | fnil => exact hset _ rfl (fun v hv => .of_V (hV v rfl hv _ rfl)) (by simp [AV.bare])
end
end Ev

/- A verified evaluator, part G: all operations that call nothing. -/
namespace Ev
open Go
section
variable {P : Program} {c : Cfg} {w : World} {m m' : Mem} {t : Tmps} {a : Act} {C : Oracle} {ro : FuncId → Bool} {D : Option (List Nat)} {d : Nat} {x : AV}

theorem opres_value {v : Value} {w' : World} (h : Post c w m' x v w') : OpRes P c w m' x (.ok (.value v) w') := h
theorem opres_of {s : Sem Value} {v : Value} {w' : World} (hr : s.run P w = .ok v w') (h : Post c w m' x v w') : OpRes P c w m' x ((do pure (Next.value (← s)) : Sem Next).run P w) := by
  simp only [Sem.run_bind, hr, Result.andThen_ok, Sem.run_pure]
  exact h

theorem newVar_run {e : TypeId} {v : Value} : (newVar e v).run P w = .ok ⟨w.heap.size, 0, none⟩ (w.alloc (.cells v.cells e)) := by
  simp [newVar, newRow]

theorem fieldT_spec {ty : TypeId} {i o : Nat} {ft : TypeId} (h : fieldT P ty i = some (o, ft)) : ∃ fs f n, P.underlying ty = some (.struct fs) ∧ fs[i]? = some f ∧ tsz P f.type = some (n + 1) ∧ f.offset = o ∧ f.type = ft := by
  unfold fieldT at h
  split at h
  · rename_i fs hu
    cases hf : fs[i]? with
    | none => simp [hf] at h
    | some f =>
      simp only [hf, Option.bind_some] at h
      split at h
      · rename_i n hn
        simp at h
        exact ⟨fs, f, n, hu, hf, hn, h.1, h.2⟩
      · simp at h
  · simp at h

theorem fieldAt_run {ty : TypeId} {i o : Nat} {ft : TypeId} (h : fieldT P ty i = some (o, ft)) (ad : Addr) : (Instr.fieldAt ty (.pointer (some ad)) i).run P w = .ok (.pointer (some (ad.add o))) w := by
  obtain ⟨fs, f, n, hu, hf, hn, rfl, rfl⟩ := fieldT_spec h
  simp [Instr.fieldAt, run_underlying hu, hf, Instr.sureAddr, fieldPlace, run_tsz hn]

theorem arrT_spec {ty : TypeId} {n z : Nat} (h : arrT P ty = some (n, z)) : ∃ e, P.underlying ty = some (.array n e) ∧ tsz P e = some z := by
  unfold arrT at h
  split at h
  · rename_i k e hu
    simp only [Option.map_eq_some_iff, Prod.mk.injEq] at h
    obtain ⟨z', h1, rfl, rfl⟩ := h
    exact ⟨e, hu, h1⟩
  · simp at h
/-- The cells of a literal slice. -/
theorem fillSlice_fill {own : Own} {n : Nat} : ∀ (ps : List (Nat × Value)) (xs : List (List AV)) (k total : Nat) (us : Array Value), ps.map (·.1) = List.range' k ps.length → ps.length = xs.length →
    (∀ (i : Nat) (q : Nat × Value) (ys : List AV), ps[i]? = some q → xs[i]? = some ys → ys.length = n ∧ CR own w ys q.2.cells) → us.size = total * n → k + ps.length ≤ total →
    ∃ ws, Instr.fill (fun i => some (i * n, n)) us ps = some ws ∧ ws.size = us.size ∧ (∀ j, j < k * n → ws[j]? = us[j]?) ∧
      (∀ (i j : Nat) (ys : List AV) (y : AV), xs[i]? = some ys → ys[j]? = some y → ∃ v, ws[(k + i) * n + j]? = some v ∧ V own w y v ∧ v.oneCell' = true)
  | [], xs, k, total, us, _, hl, _, _, _ => ⟨us, by simp [Instr.fill], rfl, fun _ _ => rfl, fun i j ys y h => by cases xs <;> simp_all⟩
  | (i0, v) :: ps, [], k, total, us, _, hl, _, _, _ => by simp at hl
  | (i0, v) :: ps, ys :: xs, k, total, us, hk, hl, hp, hsz, hle => by
    simp only [List.map_cons, List.length_cons, List.range'_succ, List.cons.injEq] at hk
    obtain ⟨hk0, hk⟩ := hk
    obtain rfl := hk0.symm
    obtain ⟨hy1, hy2⟩ := hp 0 _ _ rfl rfl
    simp only at hy2
    simp only [List.length_cons] at hle hl
    have hmul : (k + 1) * n ≤ total * n := Nat.mul_le_mul_right n (by omega)
    have hmul' : (k + 1) * n = k * n + n := by rw [Nat.add_mul, Nat.one_mul]
    have hset : ∀ (zs : List Value) (s : Nat) (us : Array Value), k * n + s + zs.length ≤ us.size →
        ((zs.zipIdx s).foldl (fun cs cj => cs.setIfInBounds (k * n + cj.2) cj.1) us).size = us.size ∧
        (∀ j, (j < k * n + s ∨ k * n + s + zs.length ≤ j) → ((zs.zipIdx s).foldl (fun cs cj => cs.setIfInBounds (k * n + cj.2) cj.1) us)[j]? = us[j]?) ∧
        (∀ j, j < zs.length → ((zs.zipIdx s).foldl (fun cs cj => cs.setIfInBounds (k * n + cj.2) cj.1) us)[k * n + s + j]? = zs[j]?) := by
      intro zs
      induction zs with
      | nil => intro s us _; simp
      | cons z zs ih =>
        intro s us hle
        simp only [List.length_cons] at hle
        simp only [List.zipIdx_cons, List.foldl_cons]
        obtain ⟨h1, h2, h3⟩ := ih (s + 1) (us.setIfInBounds (k * n + s) z) (by simp; omega)
        refine ⟨by rw [h1]; simp, fun j hj => ?_, fun j hj => ?_⟩
        · simp only [List.length_cons] at hj
          rw [h2 j (by omega), Array.getElem?_setIfInBounds, if_neg (by omega)]
        · cases j with
          | zero =>
            rw [h2 _ (by omega), Array.getElem?_setIfInBounds]
            simp; omega
          | succ j =>
            have := h3 j (by simpa using hj)
            rw [show k * n + s + (j + 1) = k * n + (s + 1) + j by omega]
            simpa using this
    obtain ⟨g1, g2, g3⟩ := hset v.cells.toList 0 us (by simp [hy2.1, hy1]; omega)
    obtain ⟨ws, k1, k2, k3, k4⟩ := fillSlice_fill (own := own) (n := n) ps xs (k + 1) total (((v.cells.toList).zipIdx 0).foldl (fun cs cj => cs.setIfInBounds (k * n + cj.2) cj.1) us) hk (by omega)
      (fun i q zs h1 h2 => hp (i + 1) q zs (by simpa using h1) (by simpa using h2)) (by rw [g1, hsz]) (by omega)
    refine ⟨ws, ?_, by rw [k2, g1], fun j hj => ?_, fun i j zs y hi hj => ?_⟩
    · simp only [Instr.fill]
      rw [if_neg (by simp [hy2.1, hy1, hsz]; omega)]
      rw [← k1]
      congr 1
      rw [← Array.foldl_toList]
      congr 1
      simp
    · rw [k3 j (by omega), g2 j (by omega)]
    · cases i with
      | zero =>
        simp at hi; subst hi
        have hjn : j < n := by
          rcases Nat.lt_or_ge j ys.length with h' | h'
          · omega
          · simp [List.getElem?_eq_none, h'] at hj
        have h5 := g3 j (by simp [hy2.1, hy1]; omega)
        rw [show k * n + 0 + j = k * n + j by omega] at h5
        rw [Nat.add_zero, k3 _ (by omega), h5]
        have hjs : j < v.cells.size := by rw [hy2.1, hy1]; exact hjn
        refine ⟨v.cells[j], by simp [hjs], hy2.2.1 j y _ hj (by simp [hjs]), hy2.2.2 j _ (by simp [hjs])⟩
      | succ i =>
        have := k4 i j zs y (by simpa using hi) hj
        rwa [show k + 1 + i = k + (i + 1) by omega] at this

theorem capture_eq : ∀ (xs : List AV) (rs : List AV) (m' : Mem), capture D m xs = some (rs, m') →
    m' = { m with froz := fun i => if i ∈ capIds xs then true else m.froz i } ∧ rs.length = xs.length ∧ (∀ id ∈ capIds xs, (m.boxes id).isSome = true) ∧
    ∀ (i : Nat) (x y : AV), xs[i]? = some x → rs[i]? = some y → (∃ id off b, x = .ptr id off ∧ id ∈ capIds xs ∧ m.boxes id = some b ∧ y = .eptr ((b.drop off).map AV.bare)) ∨ ((∀ id off, x ≠ .ptr id off) ∧ y = x.bare)
  | [], rs, m', h => by
    simp [capture] at h
    obtain ⟨rfl, rfl⟩ := h
    refine ⟨by simp [capIds], rfl, by simp [capIds], by simp⟩
  | x :: r, rs, m', h => by
    by_cases hx : ∃ id off, x = .ptr id off
    · obtain ⟨id, off, rfl⟩ := hx
      simp only [capture] at h
      split at h
      · cases hb : m.boxes id with
        | none => simp [hb] at h
        | some b =>
          cases hr : capture D m r with
          | none => simp [hb, hr] at h
          | some q =>
            obtain ⟨vs, m1⟩ := q
            simp only [hb, hr, Option.some.injEq, Prod.mk.injEq] at h
            obtain ⟨rfl, rfl⟩ := h
            obtain ⟨h1, h2, h3, h4⟩ := capture_eq r vs m1 hr
            subst h1
            refine ⟨?_, by simp [h2], ?_, ?_⟩
            · simp only [capIds, Mem.mk.injEq, true_and]
              funext i
              by_cases hi : i = id <;> simp [hi]
            · intro i hi
              simp only [capIds, List.mem_cons] at hi
              rcases hi with rfl | hi
              · simp [hb]
              · exact h3 i hi
            · intro i y z hy hz
              cases i with
              | zero =>
                simp only [List.getElem?_cons_zero, Option.some.injEq] at hy hz
                subst hy; subst hz
                exact .inl ⟨id, off, b, rfl, by simp [capIds], hb, rfl⟩
              | succ i =>
                rcases h4 i y z (by simpa using hy) (by simpa using hz) with ⟨i', o', b', e1, e2, e3, e4⟩ | h5
                · exact .inl ⟨i', o', b', e1, by simp [capIds, e2], e3, e4⟩
                · exact .inr h5
      · simp at h
    · have hc : capture D m (x :: r) = match capture D m r with
          | some (vs, m') => some (x.bare :: vs, m')
          | none => none := by
        cases x <;> first | rfl | exact absurd ⟨_, _, rfl⟩ hx
      have hi : capIds (x :: r) = capIds r := by
        cases x <;> first | rfl | exact absurd ⟨_, _, rfl⟩ hx
      rw [hc] at h
      cases hr : capture D m r with
      | none => simp [hr] at h
      | some q =>
        obtain ⟨vs, m1⟩ := q
        simp [hr] at h
        obtain ⟨rfl, rfl⟩ := h
        obtain ⟨h1, h2, h3, h4⟩ := capture_eq r vs m1 hr
        rw [hi]
        refine ⟨h1, by simp [h2], h3, fun i y z hy hz => ?_⟩
        cases i with
        | zero =>
          simp at hy hz
          subst hy; subst hz
          exact .inr ⟨fun id off he => hx ⟨id, off, he⟩, rfl⟩
        | succ i => exact h4 i y z (by simpa using hy) (by simpa using hz)

/-- Blocks that are written no more, and may be read. -/
def dropOwn (o : Own) (G : Nat → Prop) : Own := ⟨fun g off => o.W g off ∧ ¬ G g, fun g off => o.N g off ∧ ¬ (G g ∧ o.W g off), fun g off h => ⟨o.sub _ _ h.1, fun k => h.2 k.1⟩⟩
theorem Evo.dropOwn (o : Own) (G : Nat → Prop) (w : World) : Evo o w (dropOwn o G) w :=
  ⟨Nat.le_refl _, fun g cs el fr h => ⟨cs, h, rfl, fun _ _ => rfl⟩, fun _ _ h _ => h, fun _ _ _ h => h.1, fun _ _ _ h => h.1, fun _ _ _ h h' => ⟨h, fun k => h' k.2⟩, rfl, rfl, rfl⟩

theorem aop_makeFunc {f : FuncId} {fs caps : Array Operand} (hT : TRel c w t a) (hM : MemRel c m w) (h : aop P C ro D (.makeFunc (.func f) fs caps) d (opnd t) m = some (x, m')) :
    OpRes P c w m' x ((do pure (Next.value (← Instr.makeFunc (.func f) (fs.map a.eval) (caps.map a.eval))) : Sem Next).run P w) := by
  simp only [aop] at h
  split at h
  case isFalse => simp at h
  rename_i hfs
  subst hfs
  split at h
  case h_2 => simp at h
  rename_i vs m1 hcap
  simp at h
  obtain ⟨rfl, rfl⟩ := h
  obtain ⟨h1, h2, h3, h4⟩ := capture_eq _ _ _ hcap
  subst h1
  refine opres_of (v := .func (.func f) #[] (caps.map a.eval)) (w' := w) (by simp [Instr.makeFunc]) ?_
  let G : Nat → Prop := fun g => ∃ id ∈ capIds (List.map (opnd t) caps.toList), c.ρ id = some g
  have e := Evo.dropOwn c.own G w
  have hGbox : ∀ id bx g cs el, m.boxes id = some bx → c.ρ id = some g → id ∈ capIds (List.map (opnd t) caps.toList) → w.heap[g]? = some (.cells cs el (0, 0)) → ∀ off, off < cs.size → ¬ (dropOwn c.own G).N g off := by
    intro id bx g cs el hb hr hin hg off hoff hN
    obtain ⟨cs0, el0, k1, k2, k3, k4, k5⟩ := hM.box id bx g hb hr
    rw [hg] at k1; simp at k1; obtain ⟨rfl, rfl⟩ := k1
    by_cases hf : m.froz id = true
    · exact k5 hf off hoff hN.1
    · exact hN.2 ⟨⟨id, hin, hr⟩, k4 (by simpa using hf) off hoff⟩
  refine ⟨⟨dropOwn c.own G, c.ρ, c.ν⟩, e, ⟨fun _ _ h => h, fun _ _ _ h => h, fun _ _ h => h, fun _ _ _ h => .inl h⟩, ⟨hM.dom, fun id bx g hb hr => ?_, hM.inj, hM.names, fun a' b g en hs => ?_, hM.tipInj, hM.tipBox, fun g off h => hM.lt g off h.1⟩, .of_V (.fn f vs _ (by simp [h2]) fun j y v hy hv => ?_)⟩
  · obtain ⟨cs, el, k1, k2, k3, k4, k5⟩ := hM.box id bx g hb hr
    refine ⟨cs, el, k1, k2, fun j x v hx hv => ⟨(k3 j x v hx hv).1.mono e ⟨fun _ _ h => h, fun _ _ _ h => h, fun _ _ h => h, fun _ _ _ h => .inl h⟩, (k3 j x v hx hv).2⟩, fun hf off ho => ?_, fun hf off ho => ?_⟩
    · simp only at hf
      split at hf
      · simp at hf
      · rename_i hni
        refine ⟨k4 hf off ho, fun ⟨id', hid', hr'⟩ => ?_⟩
        obtain rfl := hM.inj _ _ _ hr hr'
        exact hni hid'
    · simp only at hf
      split at hf
      · rename_i hin
        exact hGbox id bx g cs el hb hr hin k1 off ho
      · exact fun hn => k5 hf off ho hn.1
  · obtain ⟨cs, el, k1, kl, k2⟩ := hM.tip a' b g en hs
    refine ⟨cs, el, k1, kl, fun off h1 h2 => ⟨k2 off h1 h2, fun ⟨id, _, hr⟩ => hM.tipBox _ _ _ _ _ hs hr⟩⟩
  · have hj : j < caps.size := by
      rcases Nat.lt_or_ge j vs.length with h' | h'
      · simp at h2; omega
      · simp [List.getElem?_eq_none, h'] at hy
    have hx : (List.map (opnd t) caps.toList)[j]? = some (opnd t caps[j]) := by simp [hj]
    have hv' : v = a.eval caps[j] := by simp [hj] at hv; exact hv.symm
    subst hv'
    rcases h4 j _ y hx hy with ⟨id, off, b, e1, e2, e3, rfl⟩ | ⟨_, rfl⟩
    · have hp := T_opnd hT caps[j]
      rw [e1] at hp
      obtain ⟨g, hr, hpv⟩ := T_ptr hp
      rw [hpv]
      obtain ⟨cv, hcv⟩ := box_cells hM e3 hr
      obtain ⟨cs, el, k1, k2, k3, k4, k5⟩ := hM.box id b g e3 hr
      have hb : ∀ (j : Nat) (y : AV), ((b.drop off).map AV.bare)[j]? = some y → ∃ y0, b[off + j]? = some y0 ∧ y = y0.bare := fun j y hy => by
        simp only [List.getElem?_map, List.getElem?_drop, Option.map_eq_some_iff] at hy
        obtain ⟨y0, h1, h2⟩ := hy
        exact ⟨y0, h1, h2.symm⟩
      refine .eptr _ _ (fun j => cv (off + j)) (fun j y hy => ?_) (fun j y hy => ?_) (fun j y hy => ?_)
      · obtain ⟨y0, hy0, rfl⟩ := hb j y hy
        have := (hcv _ _ hy0).1
        rw [add_plain] at this ⊢
        simp only [Nat.zero_add] at this
        refine ⟨this, hGbox id b g cs el e3 hr e2 k1 _ ?_⟩
        rw [k2]
        rcases Nat.lt_or_ge (off + j) b.length with h' | h'
        · exact h'
        · simp [List.getElem?_eq_none, h'] at hy0
      · obtain ⟨y0, hy0, rfl⟩ := hb j y hy
        exact ((hcv _ _ hy0).2.1.bare).mono e
      · obtain ⟨y0, hy0, rfl⟩ := hb j y hy
        exact (hcv _ _ hy0).2.2
    · exact ((T_opnd hT caps[j]).bare).mono e
end
end Ev

/- A verified evaluator, part H: an operation that is no call does what 'aop' says. -/
namespace Ev
open Go
section
variable {P : Program} {c : Cfg} {w : World} {m m' : Mem} {t : Tmps} {a : Act} {C : Oracle} {ro : FuncId → Bool} {D : Option (List Nat)} {d : Nat} {x : AV}

theorem aop_buildSlice {ty : TypeId} {len : Nat} {ps : Array (Nat × Operand)} (hT : TRel c w t a) (hM : MemRel c m w) (h : aop P C ro D (.buildSlice ty len ps) d (opnd t) m = some (x, m')) :
    OpRes P c w m' x ((do pure (Next.value (← Instr.buildSlice ty len (ps.map fun (i, x) => (i, a.eval x)))) : Sem Next).run P w) := by
  simp only [aop] at h
  split at h
  case h_2 => simp at h
  rename_i e he
  split at h
  case h_2 => simp at h
  rename_i z n hz hn
  split at h
  case isFalse => simp at h
  rename_i hc
  obtain ⟨hle, hzv, hzl, hn0, hidx, hall⟩ := hc
  simp at h
  obtain ⟨rfl, rfl⟩ := h
  have hu := under_of_elemT he
  obtain ⟨zv, rfl, hzr⟩ := run_zero hz
  have hzc := V.cells hzv (V_ofValue c.own w zv)
  have hlen : ps.size = len := by
    have := congrArg List.length hidx
    simpa using this
  have hpsl : ps.toList.length = len := by simpa using hlen
  let us : Array Value := (Array.range (len * n)).map (zv.cells[· % zv.cells.size]!)
  have husz : us.size = len * n := by simp [us]
  obtain ⟨ws, f1, f2, f3, f4⟩ := fillSlice_fill (w := w) (own := c.own) (n := n) (ps.map fun (i, x) => (i, a.eval x)).toList (ps.toList.map fun p => (opnd t p.2).cells) 0 len us
    (by
      simp only [Array.toList_map, List.map_map, List.length_map]
      rw [hpsl, ← List.range_eq_range', ← hidx]
      apply List.map_congr_left
      intro p _; rfl)
    (by simp) (fun i q ys h1 h2 => by
      simp only [Array.toList_map, List.getElem?_map, Option.map_eq_some_iff] at h1 h2
      obtain ⟨p, hp, rfl⟩ := h1
      obtain ⟨p', hp', rfl⟩ := h2
      rw [hp] at hp'; simp at hp'; subst hp'
      have hpm : p ∈ ps.toList := List.mem_of_getElem? hp
      have := List.all_eq_true.1 hall p hpm
      simp only [Bool.and_eq_true, beq_iff_eq] at this
      exact ⟨this.2, T.cells this.1 (T_opnd hT p.2)⟩) husz (by simp [hlen])
  have hzs : zv.cells.size = n := by rw [hzc.1, hzl]
  have hrun : (Instr.buildSlice ty len (ps.map fun (i, x) => (i, a.eval x))).run P w = .ok (.slice (some ⟨w.heap.size, 0, none⟩) len len) (w.alloc (.cells ws e)) := by
    have h0 : ¬ len * n > 2 ^ 24 := by omega
    unfold Instr.buildSlice
    simp only [Sem.run_bind, run_underlying hu, Result.andThen_ok, run_tsz hn, Sem.run_ite, h0, if_false]
    have f1' : Instr.fill (fun i => some (i * n, n)) us (Array.map (fun x => (x.fst, a.eval x.snd)) ps).toList = some ws := f1
    by_cases hln : len * n = 0
    · rw [if_pos hln]
      have e1 : Array.map (fun x => (#[] : Array Value)[x % (#[] : Array Value).size]!) (Array.range (len * n)) = us := by simp [us, hln]
      simp only [Sem.run_pure, Result.andThen_ok]
      rw [e1, f1']
      simp [newRow]
    · rw [if_neg hln]
      have e1 : Array.map (fun x => zv.cells[x % zv.cells.size]!) (Array.range (len * n)) = us := rfl
      simp only [Sem.run_bind, hzr, Result.andThen_ok, Sem.run_pure]
      rw [e1, f1']
      simp [newRow]
  refine opres_of hrun (.newRow hM _ (.of_V (.sl n _ .clip _ len len (fun i j => ws.getD (i * n + j) undef) (by simp [hlen]) (Nat.le_refl _) (fun e he => ?_) (fun i j ys y hi hj => ?_) (fun i j ys y hi hj => ?_) (fun i j ys y hi hj => ?_) (by simp) (by simp) (by simp))))
  · obtain ⟨p, hp, rfl⟩ := List.mem_map.1 he
    have := List.all_eq_true.1 hall p hp
    simp only [Bool.and_eq_true, beq_iff_eq] at this
    exact this.2
  · obtain ⟨v, h1, h2⟩ := f4 i j ys y hi hj
    simp only [Nat.zero_add] at h1
    have hlt : i * n + j < ws.size := by
      rcases Nat.lt_or_ge (i * n + j) ws.size with h' | h'
      · exact h'
      · simp [h'] at h1
    refine ⟨_, rfl, ?_, fun hN => ?_⟩
    · rw [add_plain]
      simp [World.cell?_alloc_new, Array.getD, hlt]
    · have := hM.lt _ _ hN; simp at this
  · obtain ⟨v, h1, h2⟩ := f4 i j ys y hi hj
    simp only [Nat.zero_add] at h1
    have : ws.getD (i * n + j) undef = v := by simp [Array.getD_eq_getD_getElem?, h1]
    rw [this]
    exact h2.1.mono (.newPlain _ _ _)
  · obtain ⟨v, h1, h2⟩ := f4 i j ys y hi hj
    simp only [Nat.zero_add] at h1
    have : ws.getD (i * n + j) undef = v := by simp [Array.getD_eq_getD_getElem?, h1]
    rw [this]
    exact h2.2

theorem aop_plain {o : Oper} (hT : TRel c w t a) (hM : MemRel c m w) (hnc : ∀ cl, o.op ≠ .call cl) (h : aop P C ro D o.op d (opnd t) m = some (x, m')) :
    OpRes P c w m' x ((execOp a.eval o).run P w) := by
  obtain ⟨dst, op, type, pos, after, guard⟩ := o
  simp only at h hnc
  cases op with
  | move y => simp only [aop, Option.some.injEq, Prod.mk.injEq] at h; obtain ⟨rfl, rfl⟩ := h; exact .same hM (T_opnd hT y)
  | assign y => simp only [aop, Option.some.injEq, Prod.mk.injEq] at h; obtain ⟨rfl, rfl⟩ := h; exact .same hM (T_opnd hT y)
  | pick e p q =>
    simp only [aop] at h
    split at h
    case h_2 => simp at h
    rename_i b hb
    simp at h
    obtain ⟨rfl, rfl⟩ := h
    have he := T_opnd hT e
    rw [hb] at he
    have he' := T_bool he
    simp only [execOp, he', asBool, Sem.run_bind, Sem.run_pure, Result.andThen_ok]
    cases b
    · exact .same hM (T_opnd hT q)
    · exact .same hM (T_opnd hT p)
  | alloc e =>
    simp only [aop] at h
    split at h
    case h_2 => simp at h
    rename_i z hz hd
    split at h
    · simp at h
    rename_i hv
    simp at h
    obtain ⟨rfl, rfl⟩ := h
    obtain ⟨zv, rfl, hzr⟩ := run_zero hz
    refine opres_of (v := .pointer (some ⟨w.heap.size, 0, none⟩)) (w' := w.alloc (.cells zv.cells e)) (by simp [Instr.alloc, hzr, newVar, newRow]) ?_
    exact Post.newBox hM (by omega) hd _ _ e (V.cells (by simpa using hv) (V_ofValue _ _ _))
  | box e y =>
    simp only [aop] at h
    split at h
    case h_2 => simp at h
    rename_i hd
    split at h
    · simp at h
    rename_i hv
    simp at h
    obtain ⟨rfl, rfl⟩ := h
    refine opres_of (v := .pointer (some ⟨w.heap.size, 0, none⟩)) (w' := w.alloc (.cells (a.eval y).cells e)) (by simp [Instr.box, newVar, newRow]) ?_
    exact Post.newBox hM (by omega) hd _ _ e (T.cells (by simpa using hv) (T_opnd hT y))
  | build ty ps =>
    simp only [aop] at h
    split at h
    case h_2 => simp at h
    rename_i z places hz hp
    split at h
    case isFalse => simp at h
    rename_i hv
    obtain ⟨hzv, hall⟩ := hv
    simp only [Option.map_eq_some_iff] at h
    obtain ⟨cs, hf, hx⟩ := h
    simp at hx
    obtain ⟨rfl, rfl⟩ := hx
    have hz' := hz
    unfold zeroOf at hz'
    cases hi : P.info? ty with
    | none => simp [hi] at hz'
    | some it =>
      cases hzz : it.zero with
      | none => simp [hi, hzz] at hz'
      | some zv =>
        simp [hi, hzz] at hz'
        subst hz'
        obtain ⟨ws, f1, f2⟩ := fillC_fill (w := w) (own := c.own) (ps.toList.map fun p => (p.1, opnd t p.2)) (ps.map fun (i, x) => (i, a.eval x)).toList _ zv.cells cs
          (fun p hp => by
            obtain ⟨q, hq, rfl⟩ := List.mem_map.1 hp
            exact List.all_eq_true.1 hall q hq) (by simp)
          (fun i p q h1 h2 => by
            simp only [Array.toList_map, List.getElem?_map, Option.map_eq_some_iff] at h1 h2
            obtain ⟨r, hr, rfl⟩ := h1
            obtain ⟨r', hr', rfl⟩ := h2
            rw [hr] at hr'; simp at hr'; subst hr'
            have := List.all_eq_true.1 hall r (List.mem_of_getElem? hr)
            exact ⟨rfl, T.cells this (T_opnd hT r.2)⟩) (V.cells hzv (V_ofValue _ _ _)) hf
        have hb := placesOf_built hp (by simp [hi, hzz]) f1
        exact opres_of (run_build w ty _ ws hb) (.same hM (.of_V (.agg _ _ f2.1 f2.2.1 f2.2.2)))
  | buildSlice ty len ps => exact aop_buildSlice hT hM h
  | load ty p =>
    simp only [aop] at h
    have hp := T_opnd hT p
    split at h
    · rename_i id off heq
      rw [heq] at hp
      obtain ⟨g, hr, hpv⟩ := T_ptr hp
      split at h
      case isFalse => simp at h
      split at h
      case h_2 => simp at h
      rename_i bx hb
      simp only [Option.map_eq_some_iff] at h
      obtain ⟨v, hv, hx⟩ := h
      simp at hx
      obtain ⟨rfl, rfl⟩ := hx
      obtain ⟨cv, hcv⟩ := box_cells hM hb hr
      obtain ⟨u, hu1, hu2⟩ := part_load (ad := ⟨g, 0, none⟩) hv hcv
      rw [add_plain, Nat.zero_add] at hu1
      exact opres_of (by simp [Instr.loadAt, Instr.sureAddr, hpv, hu1]) (.same hM hu2)
    · rename_i cl heq
      rw [heq] at hp
      obtain ⟨ad, cv, hpv, h1, h2⟩ := T_eptr hp
      simp only [Option.map_eq_some_iff] at h
      obtain ⟨v, hv, hx⟩ := h
      simp at hx
      obtain ⟨rfl, rfl⟩ := hx
      obtain ⟨u, hu1, hu2⟩ := part_load (c := c) (ad := ad) hv (fun j y hy => ⟨(h1 j y hy).1, .of_V (h2 j y hy).1, (h2 j y hy).2⟩)
      have hz : ad.add 0 = ad := rfl
      rw [hz] at hu1
      exact opres_of (by simp [Instr.loadAt, Instr.sureAddr, hpv, hu1]) (.same hM hu2)
    · simp at h
  | store ty p q => exact aop_store hT hM h
  | nilCheck y =>
    simp only [aop] at h
    have hy := T_opnd hT y
    split at h
    · rename_i id off heq
      rw [heq] at hy
      simp at h
      obtain ⟨rfl, rfl⟩ := h
      obtain ⟨g, hr, hv⟩ := T_ptr hy
      simp only [execOp, hv]
      exact .same hM (hv ▸ hy)
    · rename_i cl heq
      rw [heq] at hy
      simp at h
      obtain ⟨rfl, rfl⟩ := h
      obtain ⟨ad, cv, hv, _⟩ := T_eptr hy
      simp only [execOp, hv]
      exact .same hM (hv ▸ hy)
    · simp at h
  | binOp op ty y z yt =>
    simp only [aop] at h
    have hy := T_opnd hT y
    have hz := T_opnd hT z
    split at h
    · rename_i p q h1 h2
      rw [h1] at hy
      rw [h2] at hz
      have e1 := T_bool hy
      have e2 := T_bool hz
      split at h
      · rename_i hu
        simp at h
        obtain ⟨rfl, rfl⟩ := h
        refine opres_of (v := .bool (p == q)) (w' := w) ?_ (.same hM (.of_V (.bool _)))
        simp [e1, e2, eqGuard, binOp, Op.equal, Op.maxDepth, run_equalIn_bool' w 9999 ty p q hu]
      · rename_i hu
        simp at h
        obtain ⟨rfl, rfl⟩ := h
        refine opres_of (v := .bool !(p == q)) (w' := w) ?_ (.same hM (.of_V (.bool _)))
        simp [e1, e2, eqGuard, binOp, Op.equal, Op.maxDepth, run_equalIn_bool' w 9999 ty p q hu]
      · simp at h
    · split at h
      · rename_i v hv
        simp only [Option.some.injEq, Prod.mk.injEq] at h
        obtain ⟨rfl, rfl⟩ := h
        obtain ⟨r, hr1, hr2⟩ := run_abin (P := P) hv hy hz ty y z
        exact opres_of hr1 (.same hM hr2)
      · simp only [Option.map_eq_some_iff] at h
        obtain ⟨v, hv, hx⟩ := h
        simp at hx
        obtain ⟨rfl, rfl⟩ := hx
        obtain ⟨r, hr1, hr2⟩ := run_acmp (P := P) hv hy hz y z
        exact opres_of hr1 (.same hM hr2)
  | unOp op ty y =>
    simp only [aop] at h
    have hy := T_opnd hT y
    split at h
    · rename_i b h1
      rw [h1] at hy
      simp at h
      obtain ⟨rfl, rfl⟩ := h
      exact opres_of (v := .bool !b) (w' := w) (by simp [T_bool hy, Op.unary]) (.same hM (.of_V (.bool _)))
    · rename_i k n h1
      rw [h1] at hy
      simp at h
      obtain ⟨rfl, rfl⟩ := h
      exact opres_of (v := .int k (k.wrap (0 - n))) (w' := w) (by simp [T_int hy, Op.unary, Op.intArith]) (.same hM (by simpa using T.of_V (.int k (k.wrap (0 - n)))))
    · simp at h
  | convert src dst y =>
    simp only [aop] at h
    have hy := T_opnd hT y
    split at h
    · rename_i k k' n hu h1
      rw [h1] at hy
      split at h
      case isFalse => simp at h
      rename_i hs
      obtain ⟨sd, hsd⟩ := Option.isSome_iff_exists.1 hs
      simp at h
      obtain ⟨rfl, rfl⟩ := h
      refine opres_of (v := .int k (k.wrap n)) (w' := w) ?_ (.same hM (.of_V (.int _ _)))
      simp [T_int hy, convert, run_underlying hsd, run_underlying hu, Conv.intToInt]
    · rename_i s hu h1
      rw [h1] at hy
      split at h
      case isFalse => simp at h
      rename_i hs
      obtain ⟨sd, hsd⟩ := Option.isSome_iff_exists.1 hs
      simp at h
      obtain ⟨rfl, rfl⟩ := h
      refine opres_of (v := .string ⟨s.toArray⟩) (w' := w) ?_ (.same hM (.of_V (.str _)))
      simp [T_str hy, convert, run_underlying hsd, run_underlying hu]
    · simp at h
  | makeFunc fn fs caps =>
    cases fn with
    | func f => exact aop_makeFunc hT hM h
    | _ => simp [aop] at h
  | slice ty y lo hi mx =>
    cases mx with
    | some _ => simp [aop] at h
    | none =>
      simp only [aop] at h
      have hy := T_opnd hT y
      have ho : ∀ o : Option Operand, (∀ z, o.map (opnd t) = some z → ∃ v, o.map a.eval = some v ∧ T c w z v) ∧ (o.map (opnd t) = none → o.map a.eval = none) := fun o => by
        cases o with
        | none => simp
        | some p => exact ⟨fun z hz => ⟨_, rfl, by simp at hz; subst hz; exact T_opnd hT p⟩, by simp⟩
      split at h
      · rename_i s hu h1
        rw [h1] at hy
        simp only [Option.map_eq_some_iff] at h
        obtain ⟨v, hv, hx⟩ := h
        simp at hx
        obtain ⟨rfl, rfl⟩ := hx
        obtain ⟨z, hz1, hz2⟩ := run_aslice_str (P := P) (c := c) (w := w) hv hu (ho lo).1 (ho lo).2 (ho hi).1 (ho hi).2
        refine opres_of ?_ (.same hM hz2)
        simp only [T_str hy, Option.map_none]
        exact hz1
      · rename_i e z els tok hu h1
        rw [h1] at hy
        split at h
        case isFalse => simp at h
        rename_i hc
        simp only [Option.map_eq_some_iff] at h
        obtain ⟨v, hv, hx⟩ := h
        simp at hx
        obtain ⟨rfl, rfl⟩ := hx
        obtain ⟨z', hz1, hz2⟩ := run_aslice_sl (P := P) (c := c) (w := w) hv hu (hc.imp id fun h => h) hy (ho lo).1 (ho lo).2 (ho hi).1 (ho hi).2
        exact opres_of hz1 (.same hM hz2)
      · simp at h
  | fieldAddr ty y i =>
    simp only [aop] at h
    have hy := T_opnd hT y
    split at h
    · rename_i id off o ft h1 h2
      rw [h1] at hy
      simp at h
      obtain ⟨rfl, rfl⟩ := h
      obtain ⟨g, hr, hv⟩ := T_ptr hy
      refine opres_of (v := .pointer (some ⟨g, off + o, none⟩)) (w' := w) ?_ (.same hM (⟨g, hr, rfl⟩ : T c w (.ptr id (off + o)) _))
      rw [hv, fieldAt_run h2, add_plain]
    · rename_i cl o ft h1 h2
      rw [h1] at hy
      simp at h
      obtain ⟨rfl, rfl⟩ := h
      obtain ⟨ad, cv, hv, k1, k2⟩ := T_eptr hy
      refine opres_of (v := .pointer (some (ad.add o))) (w' := w) (by rw [hv, fieldAt_run h2]) (.same hM (.of_V (.eptr _ _ (fun j => cv (o + j)) (fun j z hz => ?_) (fun j z hz => ?_) fun j z hz => ?_)))
      · rw [List.getElem?_drop] at hz
        rw [add_add, add_block, add_off]
        have := k1 _ _ hz
        rw [show ad.off + o + j = ad.off + (o + j) by omega]
        exact this
      · rw [List.getElem?_drop] at hz
        exact (k2 _ _ hz).1
      · rw [List.getElem?_drop] at hz
        exact (k2 _ _ hz).2
    · simp at h
  | field ty y i =>
    simp only [aop] at h
    have hy := T_opnd hT y
    split at h
    case h_2 => simp at h
    rename_i cl o ft h1 h2
    rw [h1] at hy
    simp only [Option.map_eq_some_iff] at h
    obtain ⟨v, hv, hx⟩ := h
    simp at hx
    obtain ⟨rfl, rfl⟩ := hx
    obtain ⟨us, hus, hcr⟩ := T_agg hy
    obtain ⟨u, hu1, hu2⟩ := part_agg (P := P) hv hcr
    obtain ⟨fs, f, n, k1, k2, k3, rfl, rfl⟩ := fieldT_spec h2
    refine opres_of ?_ (.same hM hu2)
    simp [hus, Instr.field, run_underlying k1, k2, asAgg, hu1]
  | indexAddr ty y i =>
    simp only [aop] at h
    have hy := T_opnd hT y
    have hi := T_opnd hT i
    split at h
    · rename_i s els tok k n e h1 h2 h3
      rw [h1] at hy
      rw [h2] at hi
      split at h
      case isFalse => simp at h
      rename_i hc
      obtain ⟨c1, c2, c3, c4⟩ := hc
      simp at h
      obtain ⟨rfl, rfl⟩ := h
      obtain ⟨ad0, len, cap, cv, hv, hlen, hcap, hel, k1, k2, _, _⟩ := V_sl (T_sl hy)
      have hu := under_of_elemT h3
      have hn : n.toNat < els.length := by omega
      have hel' : els[n.toNat]? = some els[n.toNat] := by simp [hn]
      have hnn : n < (len : Int) := by omega
      cases ad0 with
      | none =>
        have hl : els[n.toNat].length = s := hel _ (List.getElem_mem hn)
        have h0 : els[n.toNat][0]? = some (els[n.toNat][0]'(by omega)) := by simp
        obtain ⟨ad', ha, _⟩ := k1 _ _ _ _ hel' h0
        simp at ha
      | some ad =>
        refine opres_of (v := .pointer (some (ad.add (n.toNat * s)))) (w' := w) ?_ (.same hM (.of_V (.eptr _ _ (fun j => cv n.toNat j) (fun j z hz => ?_) (fun j z hz => ?_) fun j z hz => ?_)))
        · simp [Instr.indexAt, T_int hi, hv, asIntOf, run_underlying hu, c1, hnn, run_tsz c3.symm]
        · rw [hel'] at hz
          simp at hz
          obtain ⟨ad', ha, q1, q2⟩ := k1 _ _ _ _ hel' hz
          simp at ha; subst ha
          rw [add_add, add_block, add_off]
          rw [show ad.off + n.toNat * s + j = ad.off + (n.toNat * s + j) by omega]
          exact ⟨q1, q2⟩
        · rw [hel'] at hz
          simp at hz
          exact (k2 _ _ _ _ hel' hz).1
        · rw [hel'] at hz
          simp at hz
          exact (k2 _ _ _ _ hel' hz).2
    · rename_i cl k n h1 h2 h3
      split at h
      case h_2 => simp at h
      rename_i len z h4
      rw [h1] at hy
      rw [h2] at hi
      split at h
      case isFalse => simp at h
      rename_i hc
      simp at h
      obtain ⟨rfl, rfl⟩ := h
      obtain ⟨e, hu, hz⟩ := arrT_spec h4
      obtain ⟨ad, cv, hv, k1, k2⟩ := T_eptr hy
      refine opres_of (v := .pointer (some (ad.add (n.toNat * z)))) (w' := w) ?_ (.same hM (.of_V (.eptr _ _ (fun j => cv (n.toNat * z + j)) (fun j x hx => ?_) (fun j x hx => ?_) fun j x hx => ?_)))
      · simp [Instr.indexAt, T_int hi, hv, asIntOf, run_underlying hu, hc.1, hc.2, run_tsz hz, Instr.sureAddr]
      · rw [List.getElem?_drop] at hx
        rw [add_add, add_block, add_off]
        have := k1 _ _ hx
        rw [show ad.off + n.toNat * z + j = ad.off + (n.toNat * z + j) by omega]
        exact this
      · rw [List.getElem?_drop] at hx
        exact (k2 _ _ hx).1
      · rw [List.getElem?_drop] at hx
        exact (k2 _ _ hx).2
    · simp at h
  | index ty y i =>
    simp only [aop] at h
    have hy := T_opnd hT y
    have hi := T_opnd hT i
    split at h
    case h_2 => simp at h
    rename_i s k n hu h1 h2
    rw [h1] at hy
    rw [h2] at hi
    split at h
    case isFalse => simp at h
    rename_i hc
    simp at h
    obtain ⟨rfl, rfl⟩ := h
    have hn : n.toNat < s.length := by omega
    refine opres_of (v := .int .u8 (s.getD n.toNat 0).toNat) (w' := w) ?_ (.same hM (by simpa using T.of_V (.int .u8 ((s.getD n.toNat 0).toNat : Int))))
    simp only [T_str hy, T_int hi, Instr.index, asIntOf, Sem.run_bind, Sem.run_pure, Result.andThen_ok, run_underlying hu, hc.1, if_true, get_mk _ _ hn]
  | extract y i =>
    simp only [aop] at h
    have hy := T_opnd hT y
    split at h
    case h_2 => simp at h
    rename_i vs h1
    rw [h1] at hy
    simp only [Option.map_eq_some_iff] at h
    obtain ⟨v, hv, hx⟩ := h
    simp at hx
    obtain ⟨rfl, rfl⟩ := hx
    obtain ⟨us, hus, hsz, hall⟩ := T_tup hy
    have hi : i < us.size := by
      rw [hsz]
      rcases Nat.lt_or_ge i vs.length with h' | h'
      · exact h'
      · simp [List.getElem?_eq_none, h'] at hv
    have hui : us[i]? = some us[i] := by simp [hi]
    refine opres_of (v := us[i]) (w' := w) ?_ (.same hM (.of_T1 (hall i v _ hv hui)))
    simp [hus, Instr.extract, hi]
  | call cl => exact absurd rfl (hnc cl)
  | _ => simp [aop] at h
end
end Ev

/- A verified evaluator, part I: append. -/
namespace Ev
open Go
section
variable {P : Program} {c : Cfg} {w : World} {m m' : Mem} {t : Tmps} {a : Act} {C : Oracle} {ro : FuncId → Bool} {D : Option (List Nat)} {d : Nat} {x : AV}

theorem firstCells_run {own : Own} {s z len cap : Nat} {els : List (List AV)} {ad : Option Addr} (h : V own w (.sl s els .none) (.slice ad len cap)) (hz : s = z ∨ els = []) :
    ∃ arr : Array Value, (∀ w' : World, w'.heap = w.heap → (Builtin.firstCells z len (.slice ad len cap)).run P w' = .ok arr w') ∧ arr.size = len * z ∧
      (∀ (i j : Nat) (e : List AV) (x : AV), els[i]? = some e → e[j]? = some x → ∃ u, arr[i * z + j]? = some u ∧ V own w x u ∧ u.oneCell' = true) ∧ ∀ (k : Nat) (u : Value), arr[k]? = some u → u.oneCell' = true := by
  obtain ⟨a', len', cap', cv, heq, hlen, hcap, hel, hc, hv, _, _⟩ := V_sl h
  simp at heq
  obtain ⟨rfl, rfl, rfl⟩ := heq
  by_cases he : els = []
  · subst he
    simp at hlen
    subst hlen
    refine ⟨#[], fun w' _ => ?_, by simp, by simp, by simp⟩
    cases ad <;> simp [Builtin.firstCells, loadCells, loadCellsFrom]
  · have hsz : s = z := hz.resolve_right he
    subst hsz
    by_cases hs0 : s = 0
    · subst hs0
      refine ⟨#[], fun w' _ => ?_, by simp, fun i j e x hi hj => ?_, by simp⟩
      · cases ad <;> simp [Builtin.firstCells, loadCells, loadCellsFrom]
      · have := hel e (List.mem_of_getElem? hi)
        simp [List.length_eq_zero_iff.1 this] at hj
    · have hidx : ∀ k, k < len * s → k / s < els.length ∧ k % s < s ∧ k / s * s + k % s = k := fun k hk => by
        refine ⟨by rw [← hlen]; exact Nat.div_lt_of_lt_mul (by rw [Nat.mul_comm]; exact hk), Nat.mod_lt _ (by omega), Nat.div_add_mod' k s⟩
      have hget : ∀ k, k < len * s → ∃ e x, els[k / s]? = some e ∧ e[k % s]? = some x := fun k hk => by
        obtain ⟨h1, h2, _⟩ := hidx k hk
        refine ⟨els[k / s], els[k / s][k % s]'(by rw [hel _ (List.getElem_mem h1)]; exact h2), by simp [h1], by simp⟩
      obtain ⟨ad', rfl⟩ : ∃ ad', ad = some ad' := by
        have : 0 < len * s := by
          have : els.length ≠ 0 := fun h0 => he (List.length_eq_zero_iff.1 h0)
          exact Nat.mul_pos (by omega) (by omega)
        obtain ⟨e, x, h1, h2⟩ := hget 0 this
        obtain ⟨ad', ha, _⟩ := hc _ _ _ _ h1 h2
        exact ⟨ad', ha⟩
      have hrun : ∀ w' : World, w'.heap = w.heap → _ := fun w' hw' => run_loadCells_of (P := P) (w := w') (ad := ad') (n := len * s) (cv := fun k => cv (k / s) (k % s)) fun k hk => by
        obtain ⟨e, x, h1, h2⟩ := hget k hk
        obtain ⟨ad'', ha, h3, _⟩ := hc _ _ _ _ h1 h2
        simp at ha; subst ha
        rw [(hidx k hk).2.2] at h3
        have hcell : w'.cell? (ad'.add k) = w.cell? (ad'.add k) := by unfold World.cell?; rw [hw']
        rw [hcell]; exact h3
      refine ⟨_, hrun, by simp, fun i j e x hi hj => ?_, fun k u hk => by
        simp at hk
        obtain ⟨k', hk', rfl⟩ := hk
        have hlt : k < len * s := by
          rcases Nat.lt_or_ge k (len * s) with h' | h'
          · exact h'
          · simp [List.getElem?_eq_none, h'] at hk'
        simp [hlt] at hk'
        subst hk'
        obtain ⟨e, x, h1, h2⟩ := hget k hlt
        exact (hv _ _ _ _ h1 h2).2⟩
      have hi' : i < els.length := by
        rcases Nat.lt_or_ge i els.length with h' | h'
        · exact h'
        · simp [List.getElem?_eq_none, h'] at hi
      have hj' : j < s := by
        have := hel e (List.mem_of_getElem? hi)
        rcases Nat.lt_or_ge j e.length with h' | h'
        · omega
        · simp [List.getElem?_eq_none, h'] at hj
      have hlt : i * s + j < len * s := by
        have : (i + 1) * s ≤ len * s := Nat.mul_le_mul_right s (by omega)
        rw [Nat.add_mul, Nat.one_mul] at this
        omega
      have hd : (i * s + j) / s = i := by
        rw [Nat.mul_comm, Nat.mul_add_div (by omega), Nat.div_eq_of_lt hj']; omega
      have hmd : (i * s + j) % s = j := by
        rw [Nat.mul_comm, Nat.mul_add_mod, Nat.mod_eq_of_lt hj']
      refine ⟨cv i j, by simp [hlt, hd, hmd], (hv i j e x hi hj).1, (hv i j e x hi hj).2⟩

/-- Cells that are written no more, and may be read. -/
def dropSet (o : Own) (S : Nat → Nat → Prop) : Own := ⟨fun g off => o.W g off ∧ ¬ S g off, fun g off => o.N g off ∧ ¬ (S g off ∧ o.W g off), fun g off h => ⟨o.sub _ _ h.1, fun k => h.2 k.1⟩⟩
theorem Evo.dropSet (o : Own) (S : Nat → Nat → Prop) (w : World) : Evo o w (dropSet o S) w :=
  ⟨Nat.le_refl _, fun g cs el fr h => ⟨cs, h, rfl, fun _ _ => rfl⟩, fun _ _ h _ => h, fun _ _ _ h => h.1, fun _ _ _ h => h.1, fun _ _ _ h h' => ⟨h, fun k => h' k.2⟩, rfl, rfl, rfl⟩

def updS (ν : Nat → Nat → Stat) (p q : Nat) (s : Stat) : Nat → Nat → Stat := fun i j => if i = p ∧ j = q then s else ν i j

theorem MemRel.namesUpd {own' : Own} {w' : World} {ν' : Nat → Nat → Stat} {names' : Nat → Nat → Option Bool} (hM : MemRel c m w) (e : Evo c.own w own' w') (hnames : ∀ p q, statIs (ν' p q) (names' p q))
    (hext : Ext c ⟨own', c.ρ, ν'⟩) (hW : ∀ id g, c.ρ id = some g → ∀ off, c.own.W g off → own'.W g off)
    (hbox : ∀ id g cs el, c.ρ id = some g → w.heap[g]? = some (.cells cs el (0, 0)) → w'.heap[g]? = some (.cells cs el (0, 0)))
    (htip : ∀ p q g en, ν' p q = .alive (some (g, en)) → ∃ cs el, w'.heap[g]? = some (.cells cs el (0, 0)) ∧ en < cs.size ∧ ∀ off, en ≤ off → off < cs.size → own'.W g off)
    (hinj : ∀ p q p' q' g en en', ν' p q = .alive (some (g, en)) → ν' p' q' = .alive (some (g, en')) → p = p' ∧ q = q')
    (htb : ∀ p q g en id, ν' p q = .alive (some (g, en)) → c.ρ id ≠ some g) (hlt : ∀ g off, own'.N g off → g < w'.heap.size) :
    MemRel ⟨own', c.ρ, ν'⟩ { m with names := names' } w' :=
  ⟨hM.dom, fun id bx g h1 h2 => by
    obtain ⟨cs, el, k1, k2, k3, k4, k5⟩ := hM.box id bx g h1 h2
    exact ⟨cs, el, hbox id g cs el h2 k1, k2, fun j x v hx hv => ⟨(k3 j x v hx hv).1.mono e hext, (k3 j x v hx hv).2⟩, fun hf off ho => hW id g h2 off (k4 hf off ho), fun hf off ho hn => k5 hf off ho (e.no _ _ (lt_of_heap k1) hn)⟩,
    hM.inj, hnames, htip, hinj, htb, hlt⟩

theorem growBy_le (n : Nat) : ∀ (r k : Nat), k < 2 * n → 256 ≤ k → Builtin.growBy n r k ≤ 2 * n
  | 0, k, h, _ => by simp [Builtin.growBy]; omega
  | r + 1, k, h, h' => by
    simp only [Builtin.growBy]
    split
    · omega
    · rename_i hk
      by_cases hk2 : k + (k + 768) / 4 < 2 * n
      · exact growBy_le n r _ hk2 (by omega)
      · exfalso; omega
theorem nextcap_le {need cap : Nat} (h : cap < need) : Builtin.nextslicecap need cap ≤ 2 * need := by
  unfold Builtin.nextslicecap
  split
  · omega
  · split
    · omega
    · exact growBy_le _ _ _ (by omega) (by omega)

/-- What is known of the row behind a slice, before it is appended to. -/
theorem tok_before (hM : MemRel c m w) {s : Nat} {els : List (List AV)} {tok : Tok} {u : Value} (hx : T c w (.sl s els tok) u) (ht : tok ≠ .none) (hal : ∀ p q, tok = .row p q → m.names p q = some true) :
    ∃ ad len cap, u = .slice ad len cap ∧ len = els.length ∧ (cap = len ∨ ∃ p q g en o cs el, tok = .row p q ∧ c.ν p q = .alive (some (g, en)) ∧ ad = some ⟨g, o, none⟩ ∧ en = o + len * s ∧ w.heap[g]? = some (.cells cs el (0, 0)) ∧ o + cap * s ≤ cs.size) := by
  obtain ⟨ad, len, cap, cv, hu, hlen, hcap, _, _, _, hn, hk⟩ := V_sl (tok := .none) (T_sl hx)
  refine ⟨ad, len, cap, hu, hlen, ?_⟩
  cases tok with
  | none => exact absurd rfl ht
  | nil =>
    obtain ⟨ad', len', cap', cv', hu', hlen', hcap', _, _, _, hn', hk'⟩ := V_sl (own := c.own) (tok := .nil) (show V c.own w _ u from hx)
    rw [hu] at hu'; simp at hu'
    obtain ⟨rfl, rfl, rfl⟩ := hu'
    have := hn' rfl
    exact .inl (by omega)
  | clip =>
    obtain ⟨ad', len', cap', cv', hu', hlen', hcap', _, _, _, hn', hk'⟩ := V_sl (own := c.own) (tok := .clip) (show V c.own w _ u from hx)
    rw [hu] at hu'; simp at hu'
    obtain ⟨rfl, rfl, rfl⟩ := hu'
    exact .inl (hk' rfl)
  | row p q =>
    have hst := hM.names p q
    rw [hal p q rfl] at hst
    have htip : Tip w s els.length (c.ν p q) u := hx.2
    cases hν : c.ν p q with
    | unknown => rw [hν] at hst; simp [statIs] at hst
    | dead => rw [hν] at hst; simp [statIs] at hst
    | alive o =>
      rw [hν] at htip
      cases o with
      | none =>
        obtain ⟨a', ha'⟩ := htip
        rw [hu] at ha'; simp at ha'
        exact .inl (by omega)
      | some ge =>
        obtain ⟨g, en⟩ := ge
        obtain ⟨o, cap', cs, el, h1, h2, h3, h4⟩ := htip
        rw [hu] at h1; simp at h1
        obtain ⟨rfl, hl, rfl⟩ := h1
        exact .inr ⟨p, q, g, en, o, cs, el, rfl, hν, rfl, by rw [hlen]; exact h2, h3, h4⟩
end
end Ev

/- A verified evaluator, part J: append does what 'aappend' says. -/
namespace Ev
open Go
section
variable {P : Program} {c : Cfg} {w : World} {m m' : Mem} {t : Tmps} {a : Act} {C : Oracle} {ro : FuncId → Bool} {D : Option (List Nat)} {d : Nat} {x : AV}

/-- The names behind an append: the base's dies, the result's is new. -/
def νApp (ν : Nat → Nat → Stat) (tok : Tok) (d : Nat) (st : Stat) : Nat → Nat → Stat :=
  match tok with
  | .row p q => updS (updS ν p q .dead) d 0 st
  | _ => updS ν d 0 st
def nApp (names : Nat → Nat → Option Bool) (tok : Tok) (d : Nat) : Nat → Nat → Option Bool :=
  match tok with
  | .row p q => upd2 (upd2 names p q false) d 0 true
  | _ => upd2 names d 0 true
theorem νApp_names (hM : MemRel c m w) {tok : Tok} {t : Option (Nat × Nat)} (p q : Nat) : statIs (νApp c.ν tok d (.alive t) p q) (nApp m.names tok d p q) := by
  have h := hM.names p q
  cases tok <;> simp only [νApp, nApp, updS, upd2_apply] <;> (repeat' split) <;> first | exact h | rfl
theorem νApp_ext (hM : MemRel c m w) {tok : Tok} {t : Option (Nat × Nat)} (hd : m.names d 0 = none) (hal : ∀ p q, tok = .row p q → m.names p q = some true) (own' : Own) : Ext c ⟨own', c.ρ, νApp c.ν tok d (.alive t)⟩ := by
  have hun : c.ν d 0 = .unknown := by
    have := hM.names d 0
    rw [hd] at this
    cases hs : c.ν d 0 <;> simp [hs, statIs] at this ⊢
  have hnd : ∀ p q, c.ν p q ≠ .unknown → ¬ (p = d ∧ q = 0) := fun p q h ⟨h1, h2⟩ => h (by rw [h1, h2]; exact hun)
  refine ⟨fun _ _ h => h, fun _ _ _ h => h, fun p q h => ?_, fun p q s h => ?_⟩
  · have h0 := hnd p q (by rw [h]; simp)
    cases tok with
    | row p' q' =>
      simp only [νApp, updS, h0, if_false]
      split
      · rfl
      · exact h
    | _ => simp only [νApp, updS, h0, if_false]; exact h
  · have h0 := hnd p q (by rw [h]; simp)
    cases tok with
    | row p' q' =>
      simp only [νApp, updS, h0, if_false]
      split
      · exact .inr rfl
      · exact .inl h
    | _ => simp only [νApp, updS, h0, if_false]; exact .inl h
theorem νApp_alive {ν : Nat → Nat → Stat} {tok : Tok} {st : Stat} {p q : Nat} {t : Option (Nat × Nat)} (h : νApp ν tok d st p q = .alive t) :
    (p = d ∧ q = 0 ∧ st = .alive t) ∨ (¬ (p = d ∧ q = 0) ∧ tok ≠ .row p q ∧ ν p q = .alive t) := by
  cases tok with
  | row p' q' =>
    simp only [νApp, updS] at h
    split at h
    · rename_i h0; exact .inl ⟨h0.1, h0.2, h⟩
    · rename_i h0
      split at h
      · simp at h
      · rename_i h1
        exact .inr ⟨h0, fun he => h1 (by simp at he; exact ⟨he.1.symm, he.2.symm⟩), h⟩
  | _ =>
    simp only [νApp, updS] at h
    split at h
    · rename_i h0; exact .inl ⟨h0.1, h0.2, h⟩
    · rename_i h0; exact .inr ⟨h0, by simp, h⟩

/-- Names and ownership behind an append whose result's tip is t. -/
theorem MemRel.app {own' : Own} {w' : World} {tok : Tok} {t : Option (Nat × Nat)} (hM : MemRel c m w) (hd : m.names d 0 = none) (hal : ∀ p q, tok = .row p q → m.names p q = some true) (e : Evo c.own w own' w')
    (hbox : ∀ id g, c.ρ id = some g → (∀ off, c.own.W g off → own'.W g off) ∧ ∀ cs el, w.heap[g]? = some (.cells cs el (0, 0)) → w'.heap[g]? = some (.cells cs el (0, 0)))
    (hold : ∀ p q g en, c.ν p q = .alive (some (g, en)) → tok ≠ .row p q → ∀ off, c.own.W g off → own'.W g off)
    (hnew : ∀ g en, t = some (g, en) → (∃ cs el, w'.heap[g]? = some (.cells cs el (0, 0)) ∧ en < cs.size ∧ ∀ off, en ≤ off → off < cs.size → own'.W g off) ∧ (∀ id, c.ρ id ≠ some g) ∧ (∀ p q en', c.ν p q = .alive (some (g, en')) → tok = .row p q))
    (hlt : ∀ g off, own'.N g off → g < w'.heap.size) : MemRel ⟨own', c.ρ, νApp c.ν tok d (.alive t)⟩ { m with names := nApp m.names tok d } w' := by
  refine hM.namesUpd e (fun p q => νApp_names hM p q) (νApp_ext hM hd hal own') (fun id g h => (hbox id g h).1) (fun id g cs el h => (hbox id g h).2 cs el) (fun p q g en h => ?_) (fun p q p' q' g en en' h h' => ?_) (fun p q g en id h => ?_) hlt
  · rcases νApp_alive h with ⟨_, _, h1⟩ | ⟨_, h1, h2⟩
    · simp at h1; exact (hnew g en h1).1
    · obtain ⟨cs, el, k1, kl, k2⟩ := hM.tip p q g en h2
      obtain ⟨cs', k3, k4, _⟩ := e.cells _ _ _ _ k1
      exact ⟨cs', el, k3, by omega, fun off h3 h4 => hold p q g en h2 h1 off (k2 off h3 (by omega))⟩
  · rcases νApp_alive h with ⟨h1, h2, h3⟩ | ⟨h1, h2, h3⟩ <;> rcases νApp_alive h' with ⟨k1, k2, k3⟩ | ⟨k1, k2, k3⟩
    · exact ⟨h1.trans k1.symm, h2.trans k2.symm⟩
    · simp at h3; exact absurd ((hnew g en h3).2.2 _ _ _ k3) k2
    · simp at k3; exact absurd ((hnew g en' k3).2.2 _ _ _ h3) h2
    · exact hM.tipInj _ _ _ _ _ _ _ h3 k3
  · rcases νApp_alive h with ⟨_, _, h1⟩ | ⟨_, h1, h2⟩
    · simp at h1; exact (hnew g en h1).2.1 id
    · exact hM.tipBox _ _ _ _ _ h2

/-- The elements of both slices, in cells. -/
theorem V_append {own : Own} {z n cap : Nat} {els news : List (List AV)} {ad : Addr} {cs : Array Value} {el : TypeId} (hh : w.heap[ad.block]? = some (.cells cs el (0, 0))) (hsp : ad.spot = none)
    (hN : ∀ k, k < n * z → ¬ own.N ad.block (ad.off + k)) (hn : n = els.length + news.length) (hcap : n ≤ cap) (hel : ∀ e ∈ els, e.length = z) (hnl : ∀ e ∈ news, e.length = z)
    (h1 : ∀ (i j : Nat) (e : List AV) (x : AV), els[i]? = some e → e[j]? = some x → ∃ u, cs[ad.off + (i * z + j)]? = some u ∧ V own w x u ∧ u.oneCell' = true)
    (h2 : ∀ (i j : Nat) (e : List AV) (x : AV), news[i]? = some e → e[j]? = some x → ∃ u, cs[ad.off + ((els.length + i) * z + j)]? = some u ∧ V own w x u ∧ u.oneCell' = true) :
    V own w (.sl z (els ++ news) .none) (.slice (some ad) n cap) := by
  obtain ⟨b, o, sp⟩ := ad
  simp only at hsp hh hN h1 h2
  subst hsp
  have hall : ∀ (i j : Nat) (e : List AV) (x : AV), (els ++ news)[i]? = some e → e[j]? = some x → i * z + j < n * z ∧ ∃ u, cs[o + (i * z + j)]? = some u ∧ V own w x u ∧ u.oneCell' = true := fun i j e x hi hj => by
    have hmem : e ∈ els ++ news := List.mem_of_getElem? hi
    have hez : e.length = z := (List.mem_append.1 hmem).elim (hel e) (hnl e)
    have hilt : i < (els ++ news).length := by
      rcases Nat.lt_or_ge i (els ++ news).length with h' | h'
      · exact h'
      · rw [List.getElem?_eq_none h'] at hi; simp at hi
    have hjlt : j < z := by
      rcases Nat.lt_or_ge j e.length with h' | h'
      · omega
      · simp [List.getElem?_eq_none, h'] at hj
    constructor
    · have : (i + 1) * z ≤ n * z := Nat.mul_le_mul_right z (by simp at hilt; omega)
      rw [Nat.add_mul, Nat.one_mul] at this
      omega
    · rcases Nat.lt_or_ge i els.length with hlt | hge
      · rw [List.getElem?_append_left hlt] at hi
        exact h1 i j e x hi hj
      · rw [List.getElem?_append_right hge] at hi
        have := h2 (i - els.length) j e x hi hj
        rwa [show els.length + (i - els.length) = i by omega] at this
  refine .sl z _ .none _ n cap (fun i j => cs.getD (o + (i * z + j)) undef) (by simp [hn]) hcap (fun e he => (List.mem_append.1 he).elim (hel e) (hnl e)) (fun i j e x hi hj => ?_) (fun i j e x hi hj => ?_) (fun i j e x hi hj => ?_) (by simp) (by simp) (by simp)
  · obtain ⟨hk, u, hu, _⟩ := hall i j e x hi hj
    refine ⟨⟨b, o, none⟩, rfl, ?_, hN _ hk⟩
    rw [add_plain, heap_cell hh]
    simp [Array.getD_eq_getD_getElem?, hu]
  · obtain ⟨hk, u, hu, hV, _⟩ := hall i j e x hi hj
    simpa [Array.getD_eq_getD_getElem?, hu] using hV
  · obtain ⟨hk, u, hu, _, hO⟩ := hall i j e x hi hj
    simpa [Array.getD_eq_getD_getElem?, hu] using hO
end
end Ev

/- A verified evaluator, part K: append's run. -/
namespace Ev
open Go
section
variable {P : Program} {c : Cfg} {w : World} {m m' : Mem} {t : Tmps} {a : Act} {C : Oracle} {ro : FuncId → Bool} {D : Option (List Nat)} {d : Nat} {x : AV}

theorem tbytes_run {e : TypeId} {b z : Nat} (hb : tbytes P e = some b) (hz : tsz P e = some z) : ∃ i : TypeInfo, P.info? e = some i ∧ i.bytes = b ∧ i.size = z := by
  unfold tbytes at hb
  unfold tsz at hz
  cases hi : P.info? e with
  | none => simp [hi] at hb
  | some i => simp [hi] at hb hz; exact ⟨i, rfl, hb, hz⟩

theorem append_room {t1 t2 ty e e2 : TypeId} {z len cap n cap2 : Nat} {ad ad2 : Option Addr} {new : Array Value} (hu : P.underlying t1 = some (.slice e)) (hu2 : P.underlying t2 = some (.slice e2)) (hz : tsz P e = some z)
    (hn : (Builtin.firstCells z n (.slice ad2 n cap2)).run P w = .ok new w) (hle : len + n ≤ cap) :
    (Builtin.append_ #[t1, t2] ty #[.slice ad len cap, .slice ad2 n cap2]).run P w =
      (((match ad with | some a => storeCells (a.add (len * z)) new.toList | none => pure () : Sem Unit).run P w).andThen fun _ w' => .ok (.slice ad (len + n) cap) w') := by
  unfold Builtin.append_
  simp only [List.getElem?_toArray, List.getElem?_cons_zero, List.getElem?_cons_succ, Sem.run_bind, run_underlying hu, run_underlying hu2, Result.andThen_ok, run_tsz hz, Sem.run_pure, Builtin.lenOf, Bool.false_eq_true, if_false, Bool.not_false, if_true, hle, hn]
  cases ad
  · rfl
  · simp only [Sem.run_bind, Sem.run_pure]

theorem append_grow {t1 t2 ty e e2 : TypeId} {z b len cap n cap2 : Nat} {ad ad2 : Option Addr} {new old : Array Value} {zv : Value} (hu : P.underlying t1 = some (.slice e)) (hu2 : P.underlying t2 = some (.slice e2)) (hz : tsz P e = some z) (hb : tbytes P e = some b)
    (hb0 : b ≠ 0) (hzv : ∀ w, (zeroValue e).run P w = .ok zv w) (hbig : (len + n) * b ≤ 70368744177664)
    (hn : ∀ w', w'.heap = w.heap → (Builtin.firstCells z n (.slice ad2 n cap2)).run P w' = .ok new w') (ho : ∀ w', w'.heap = w.heap → (Builtin.firstCells z len (.slice ad len cap)).run P w' = .ok old w') (hgt : ¬ len + n ≤ cap) :
    ∃ nc, len + n ≤ nc ∧ (Builtin.append_ #[t1, t2] ty #[.slice ad len cap, .slice ad2 n cap2]).run P w =
      .ok (.slice (some ⟨w.heap.size, 0, none⟩) (len + n) nc) (w.drew.alloc (.cells (old ++ new ++ Builtin.zeroCells zv.cells (nc - (len + n))) e)) := by
  obtain ⟨i, hi, rfl, rfl⟩ := tbytes_run hb hz
  have hsm : len + n ≤ 70368744177664 := Nat.le_trans (Nat.le_mul_of_pos_right _ (by omega)) hbig
  have hcap2 : ¬ Builtin.nextslicecap (len + n) cap * i.bytes > 2 ^ 48 := by
    have := nextcap_le (need := len + n) (cap := cap) (by omega)
    have h2 : Builtin.nextslicecap (len + n) cap * i.bytes ≤ 2 * (len + n) * i.bytes := Nat.mul_le_mul_right _ this
    have h3 : 2 * (len + n) * i.bytes = 2 * ((len + n) * i.bytes) := by rw [Nat.mul_assoc]
    omega
  refine ⟨len + n + w.tape w.drawn (.appendCap (len + n) cap e) % (2 ^ 63 - (len + n)), by omega, ?_⟩
  unfold Builtin.append_
  have hq : Question.forced (.appendCap (len + n) cap e) = false := rfl
  simp only [List.getElem?_toArray, List.getElem?_cons_zero, List.getElem?_cons_succ, Sem.run_bind, run_underlying hu, run_underlying hu2, Result.andThen_ok, run_tsz hz, Sem.run_pure, Builtin.lenOf, Bool.false_eq_true, if_false, Bool.not_false, if_true, hgt,
    typeInfo, run_program, hi, hb0, or_self, and_false, hcap2, run_choose, hq, Question.cut, run_askRoom]
  rw [World.drew_eq, ho w.drew rfl]
  simp only [Result.andThen_ok]
  rw [hn w.drew rfl]
  simp [hzv, newRow]

theorem aop_append {Dl : List Nat} {t1 t2 ty e e2 : TypeId} {s s2 : Nat} {els news : List (List AV)} {tok : Tok} {u v : Value} (hM : MemRel c m w) (hu : P.underlying t1 = some (.slice e)) (hu2 : P.underlying t2 = some (.slice e2))
    (hx : T c w (.sl s els tok) u) (hy : V c.own w (.sl s2 news .none) v) (hs2 : some s2 = tsz P e ∨ news = []) (h : aappend P Dl d e m (.sl s els tok) news = some (x, m')) :
    OpRes P c w m' x ((do pure (Next.value (← Builtin.append_ #[t1, t2] ty #[u, v])) : Sem Next).run P w) := by
  simp only [aappend] at h
  split at h
  case h_2 => simp at h
  rename_i z by_ zv hz hb hzv
  split at h
  case isFalse => simp at h
  rename_i hc
  obtain ⟨hb0, hz0, hzval, hzl, hbig, hse, hd⟩ := hc
  obtain ⟨rfl, rfl, ht, hal⟩ : x = .sl z (els ++ news) (.row d 0) ∧ m' = { m with names := nApp m.names tok d } ∧ tok ≠ .none ∧ ∀ p q, tok = .row p q → m.names p q = some true := by
    cases tok with
    | none => simp at h
    | nil => simp at h; exact ⟨h.1.symm, h.2.symm, by simp, by simp⟩
    | clip => simp at h; exact ⟨h.1.symm, h.2.symm, by simp, by simp⟩
    | row p q =>
      simp at h
      obtain ⟨⟨h1, _⟩, h2, h3⟩ := h
      exact ⟨h2.symm, h3.symm, by simp, fun p' q' he => by simp at he; obtain ⟨rfl, rfl⟩ := he; exact h1⟩
  obtain ⟨zvv, rfl, hzrun⟩ := run_zero hzv
  have hzsz : zvv.cells.size = z := by rw [(V.cells hzval (V_ofValue c.own w zvv)).1, hzl]
  obtain ⟨ad, len, cap, rfl, hlen, hcase⟩ := tok_before hM hx ht hal
  obtain ⟨ad2, n, cap2, cv2, rfl, hn, hcap2, hel2, hc2, hv2, _, _⟩ := V_sl hy
  have hold := T_sl hx
  obtain ⟨_, _, _, _, heq0, _, hcap, hel1, _⟩ := V_sl hold
  simp at heq0
  obtain ⟨rfl, rfl, rfl⟩ := heq0
  have hs2' : s2 = z ∨ news = [] := hs2.imp (fun h => by rw [hz] at h; simpa using h) id
  have hse' : s = z ∨ els = [] := hse.imp id And.left
  have hel : ∀ e ∈ els, e.length = z := fun e he => by
    rcases hse' with rfl | rfl
    · exact hel1 e he
    · simp at he
  have hnl : ∀ e ∈ news, e.length = z := fun e he => by
    rcases hs2' with rfl | rfl
    · exact hel2 e he
    · simp at he
  obtain ⟨old, o1, o2, o3, o4⟩ := firstCells_run (P := P) hold hse'
  obtain ⟨new, n1, n2, n3, n4⟩ := firstCells_run (P := P) hy hs2'
  have hV0 : V c.own w (.sl z els .none) (.slice ad len cap) := by
    rcases hse' with rfl | rfl
    · exact hold
    · simp at hlen; subst hlen; exact V_empty
  by_cases hroom : len + n ≤ cap
  · have hrun := append_room (P := P) (w := w) (ty := ty) (ad := ad) hu hu2 hz (n1 w rfl) hroom
    rcases hcase with hcl | ⟨p, q, g, en, o, cs, el, htok, hν, rfl, hen, hheap, hocap⟩
    · have hn0 : n = 0 := by omega
      subst hn0
      have hnews : news = [] := List.length_eq_zero_iff.1 hn.symm
      subst hnews
      have hnew : new = #[] := Array.eq_empty_of_size_eq_zero (by rw [n2]; omega)
      refine opres_of (v := .slice ad (len + 0) cap) (w' := w) ?_ ?_
      · rw [hrun, hnew]
        cases ad <;> simp [storeCells]
      · refine ⟨⟨c.own, c.ρ, νApp c.ν tok d (.alive none)⟩, .refl _ _, νApp_ext hM hd hal _, hM.app hd hal (.refl _ _) (fun id g _ => ⟨fun _ h => h, fun _ _ h => h⟩) (fun _ _ _ _ _ _ _ h => h) (fun g en h => by simp at h) hM.lt, ?_⟩
        show V c.own w (.sl z (els ++ []) .none) (.slice ad (len + 0) cap) ∧ Tip w z (els ++ []).length (νApp c.ν tok d (.alive none) d 0) (.slice ad (len + 0) cap)
        refine ⟨by simpa using hV0, ?_⟩
        have hst : νApp c.ν tok d (.alive none) d 0 = .alive none := by cases tok <;> simp [νApp, updS]
        rw [hst]
        exact ⟨ad, by simp [hlen, hcl]⟩
    · have hsz : s = z := hse.resolve_right (fun h => by rw [htok] at h; simp at h)
      subst hsz
      have hmul : (len + n) * s ≤ cap * s := Nat.mul_le_mul_right s hroom
      rw [Nat.add_mul] at hmul
      obtain ⟨cs1, el1, t1', tl', t2'⟩ := hM.tip p q g en hν
      rw [hheap] at t1'; simp at t1'; obtain ⟨rfl, rfl⟩ := t1'
      have hnl' : new.toList.length = n * s := by simpa using n2
      obtain ⟨w', cs', s1, s2', s3, s4, s5, s6, s7⟩ := run_storeCells (P := P) (g := g) (el := el) new.toList 0 (o + len * s) w cs hheap (by omega) (fun u hu' => by
        obtain ⟨k, hk, rfl⟩ := List.mem_iff_getElem.1 hu'
        exact n4 k _ (by simp at hk ⊢))
      have e := s4 c.own fun k h1 h2 => t2' k (by omega) (by omega)
      let S : Nat → Nat → Prop := fun g' off => g' = g ∧ en ≤ off ∧ off < en + n * s
      have e2 := e.trans (Evo.dropSet c.own S w')
      have hS : ∀ g' off, g' ≠ g → ((dropSet c.own S).W g' off ↔ c.own.W g' off) := fun g' off hne => ⟨fun h => h.1, fun h => ⟨h, fun h' => hne h'.1⟩⟩
      refine opres_of (v := .slice (some ⟨g, o, none⟩) (len + n) cap) (w' := w') ?_ ?_
      · rw [hrun]
        simp only [add_plain, s1, Result.andThen_ok]
      · let tt : Option (Nat × Nat) := if len + n = cap then none else some (g, en + n * s)
        have hext := νApp_ext (t := tt) hM hd hal (dropSet c.own S)
        refine ⟨⟨dropSet c.own S, c.ρ, νApp c.ν tok d (.alive tt)⟩, e2, hext, ?_, ?_⟩
        · refine hM.app hd hal e2 (fun id g' hid => ?_) (fun p' q' g' en' hν' hne off hW => ?_) (fun g' en' h => ?_) (fun g' off h => ?_)
          · have hne : g' ≠ g := fun h => hM.tipBox _ _ _ _ _ hν (h ▸ hid)
            exact ⟨fun off h => (hS g' off hne).2 h, fun cs el h => by rw [s7 g' hne]; exact h⟩
          · have hne' : g' ≠ g := fun h => by
              subst h
              obtain ⟨h1, h2⟩ := hM.tipInj _ _ _ _ _ _ _ hν' hν
              exact hne (by rw [htok, h1, h2])
            exact (hS g' off hne').2 hW
          · simp only [tt] at h
            split at h
            · simp at h
            rename_i hnc
            simp at h
            obtain ⟨rfl, rfl⟩ := h
            refine ⟨⟨cs', el, s2', by
              have : (len + n + 1) * s ≤ cap * s := Nat.mul_le_mul_right s (by omega)
              rw [Nat.add_mul, Nat.add_mul, Nat.one_mul] at this
              omega, fun off h1 h2 => ⟨t2' off (by omega) (by omega), fun h3 => by have := h3.2.2; omega⟩⟩, fun id hid => hM.tipBox _ _ _ _ _ hν hid, fun p' q' en' h' => ?_⟩
            obtain ⟨h1, h2⟩ := hM.tipInj _ _ _ _ _ _ _ h' hν
            rw [htok, h1, h2]
          · exact Nat.lt_of_lt_of_le (hM.lt _ _ h.1) e.size
        · have hst : νApp c.ν tok d (.alive tt) d 0 = .alive tt := by cases tok <;> simp [νApp, updS]
          have hVw : ∀ {y : AV} {u : Value}, V c.own w y u → V (dropSet c.own S) w' y u := fun h => h.mono e2
          obtain ⟨_, _, _, cv0, heq1, _, _, _, hc0, hv0, _, _⟩ := V_sl hV0
          simp at heq1
          obtain ⟨rfl, rfl, rfl⟩ := heq1
          refine (⟨V_append (ad := ⟨g, o, none⟩) (cs := cs') (el := el) s2' rfl (fun k hk => ?_) (by omega) hroom hel hnl (fun i j e x hi hj => ?_) (fun i j e x hi hj => ?_), ?_⟩ : V (dropSet c.own S) w' _ _ ∧ Tip w' s (els ++ news).length (νApp c.ν tok d (.alive tt) d 0) _)
          · intro hN
            rw [Nat.add_mul] at hk
            rcases Nat.lt_or_ge k (len * s) with h1 | h1
            · -- an old element's cell
              have hs0 : 0 < s := by
                rcases Nat.eq_zero_or_pos s with h0 | h0
                · subst h0; omega
                · exact h0
              have hi : k / s < els.length := by rw [← hlen]; exact Nat.div_lt_of_lt_mul (by rw [Nat.mul_comm]; exact h1)
              have hj : k % s < els[k / s].length := by rw [hel _ (List.getElem_mem hi)]; exact Nat.mod_lt _ hs0
              obtain ⟨ad', ha, _, hno⟩ := hc0 (k / s) (k % s) els[k / s] (els[k / s][k % s]) (by simp [hi]) (by simp [hj])
              simp at ha; subst ha
              rw [Nat.div_add_mod' k s] at hno
              exact hno hN.1
            · exact hN.2 ⟨⟨rfl, by simp only; omega, by simp only; omega⟩, t2' _ (by simp only; omega) (by simp only; omega)⟩
          · obtain ⟨ad', ha, hcell, hno⟩ := hc0 i j e x hi hj
            simp at ha; subst ha
            rw [add_plain, heap_cell hheap] at hcell
            have hi' : i < els.length := by
              rcases Nat.lt_or_ge i els.length with h' | h'
              · exact h'
              · simp [List.getElem?_eq_none, h'] at hi
            have hj' : j < s := by
              have := hel e (List.mem_of_getElem? hi)
              rcases Nat.lt_or_ge j e.length with h' | h'
              · omega
              · simp [List.getElem?_eq_none, h'] at hj
            have hlt : i * s + j < len * s := by
              have : (i + 1) * s ≤ len * s := Nat.mul_le_mul_right s (by omega)
              rw [Nat.add_mul, Nat.one_mul] at this
              omega
            refine ⟨cv0 i j, ?_, hVw (hv0 i j e x hi hj).1, (hv0 i j e x hi hj).2⟩
            show cs'[o + (i * s + j)]? = _
            rw [s5 _ (by omega)]
            exact hcell
          · obtain ⟨u, hu1, hu2', hu3⟩ := n3 i j e x hi hj
            refine ⟨u, ?_, hVw hu2', hu3⟩
            have hk : i * s + j < n * s := by
              rcases Nat.lt_or_ge (i * s + j) new.size with h' | h'
              · omega
              · simp [h'] at hu1
            have := s6 (i * s + j) (by omega)
            rw [show (els.length + i) * s = len * s + i * s by rw [← hlen, Nat.add_mul]]
            rw [show o + (len * s + i * s + j) = o + len * s + 0 + (i * s + j) by omega, this]
            simpa using hu1
          · rw [hst]
            simp only [tt]
            split
            · rename_i hnc
              exact ⟨_, by rw [List.length_append, ← hlen, ← hn, hnc]⟩
            refine ⟨o, cap, cs', el, by rw [List.length_append, ← hlen, ← hn], by rw [hen]; simp only [List.length_append, Nat.add_mul]; rw [← hlen, ← hn]; omega, s2', by omega⟩
  · obtain ⟨nc, hnc, hrun⟩ := append_grow (P := P) (w := w) (ty := ty) (ad := ad) (ad2 := ad2) (cap := cap) hu hu2 hz hb hb0 hzrun (by rw [hlen, hn]; exact hbig) n1 o1 hroom
    let cs : Array Value := old ++ new ++ Builtin.zeroCells zvv.cells (nc - (len + n))
    have hzc : (Builtin.zeroCells zvv.cells (nc - (len + n))).size = (nc - (len + n)) * z := by simp [Builtin.zeroCells, hzsz]
    have hcsz : cs.size = nc * z := by
      simp only [cs, Array.size_append, o2, n2, hzc]
      rw [← Nat.add_mul, ← Nat.add_mul, show len + n + (nc - (len + n)) = nc by omega]
    let W : World := w.drew.alloc (.cells cs e)
    have hheap : W.heap[w.heap.size]? = some (.cells cs e (0, 0)) := heap_new w.drew _
    let own' : Own := ⟨fun g off => c.own.W g off ∨ (g = w.heap.size ∧ (len + n) * z ≤ off), fun g off => c.own.N g off ∨ (g = w.heap.size ∧ (len + n) * z ≤ off), fun g off h => h.imp (c.own.sub g off) id⟩
    have ev : Evo c.own w own' W := by
      refine ⟨by show w.heap.size ≤ (w.heap.push _).size; simp, fun g cs' el fr h => ⟨cs', by show (w.heap.push _)[g]? = _; rw [Array.getElem?_push, if_neg (Nat.ne_of_lt (lt_of_heap h))]; exact h, rfl, fun _ _ => rfl⟩,
        fun g o' h _ => by show (w.heap.push _)[g]? = _; rw [Array.getElem?_push, if_neg (Nat.ne_of_lt (lt_of_heap h))]; exact h, fun g off hg h => h.resolve_right (fun k => by omega), fun g off hg h => h.resolve_right (fun k => by omega), fun g off hg h _ => .inl h, rfl, rfl, rfl⟩
    have hWold : ∀ g : Nat, g < w.heap.size → W.heap[g]? = w.heap[g]? := fun g hg => by show (w.heap.push _)[g]? = _; rw [Array.getElem?_push, if_neg (Nat.ne_of_lt hg)]
    let tt : Option (Nat × Nat) := if nc = len + n then none else some (w.heap.size, (len + n) * z)
    refine opres_of hrun ⟨⟨own', c.ρ, νApp c.ν tok d (.alive tt)⟩, ev, νApp_ext hM hd hal _, ?_, ?_⟩
    · have hltρ : ∀ id g, c.ρ id = some g → g < w.heap.size := fun id g hi => by
        have hs := hM.dom id
        rw [hi] at hs
        cases hb : m.boxes id with
        | none => simp [hb] at hs
        | some bx =>
          obtain ⟨cs', el', k1, _⟩ := hM.box id bx g hb hi
          exact lt_of_heap k1
      refine hM.app hd hal ev (fun id g hid => ⟨fun _ h => .inl h, fun cs el h => by rw [hWold g (lt_of_heap h)]; exact h⟩) (fun _ _ _ _ _ _ _ h => .inl h) (fun g en h => ?_) (fun g off h => ?_)
      · simp only [tt] at h
        split at h
        · simp at h
        rename_i hne
        simp at h
        obtain ⟨rfl, rfl⟩ := h
        refine ⟨⟨cs, e, hheap, by rw [hcsz]; exact Nat.mul_lt_mul_of_pos_right (Nat.lt_of_le_of_ne hnc (fun h => hne h.symm)) (Nat.pos_of_ne_zero hz0), fun off h1 _ => .inr ⟨rfl, h1⟩⟩, fun id hid => by have := hltρ id _ hid; omega, fun p q en' h' => ?_⟩
        obtain ⟨cs', el', k1, _⟩ := hM.tip _ _ _ _ h'
        have := lt_of_heap k1
        omega
      · rcases h with h | h
        · exact Nat.lt_of_lt_of_le (hM.lt _ _ h) ev.size
        · show g < (w.heap.push _).size; simp; omega
    · have hst : νApp c.ν tok d (.alive tt) d 0 = .alive tt := by cases tok <;> simp [νApp, updS]
      have hVw : ∀ {y : AV} {u : Value}, V c.own w y u → V own' W y u := fun h => h.mono ev
      have hosz : old.size = len * z := o2
      refine (⟨V_append (ad := ⟨w.heap.size, 0, none⟩) (cs := cs) (el := e) hheap rfl (fun k hk => ?_) (by omega) hnc hel hnl (fun i j e x hi hj => ?_) (fun i j e x hi hj => ?_), ?_⟩ : V own' W _ _ ∧ Tip W z (els ++ news).length (νApp c.ν tok d (.alive tt) d 0) _)
      · rintro (h | h)
        · have := hM.lt _ _ h; simp at this
        · have := h.2; simp only at this; omega
      · obtain ⟨u, hu1, hu2', hu3⟩ := o3 i j e x hi hj
        have hk : i * z + j < old.size := by
          rcases Nat.lt_or_ge (i * z + j) old.size with h' | h'
          · exact h'
          · simp [h'] at hu1
        refine ⟨u, ?_, hVw hu2', hu3⟩
        simp only [cs, Nat.zero_add]
        rw [Array.append_assoc, Array.getElem?_append_left hk]
        exact hu1
      · obtain ⟨u, hu1, hu2', hu3⟩ := n3 i j e x hi hj
        have hk : i * z + j < new.size := by
          rcases Nat.lt_or_ge (i * z + j) new.size with h' | h'
          · exact h'
          · simp [h'] at hu1
        refine ⟨u, ?_, hVw hu2', hu3⟩
        simp only [cs, Nat.zero_add]
        rw [Nat.add_mul, ← hlen, Nat.add_assoc, Array.getElem?_append_left (by simp [o2]; omega), Array.getElem?_append_right (by rw [o2]; omega), o2]
        rw [show len * z + (i * z + j) - len * z = i * z + j by omega]
        exact hu1
      · rw [hst]
        simp only [tt]
        split
        · rename_i hnc'
          exact ⟨_, by rw [List.length_append, ← hlen, ← hn, hnc']⟩
        exact ⟨0, nc, cs, e, by rw [List.length_append, ← hlen, ← hn], by simp only [List.length_append]; rw [← hlen, ← hn]; omega, hheap, by omega⟩
end
end Ev

/- A verified evaluator, part L: rows' tips by new names. -/
namespace Ev
open Go
section
variable {P : Program} {c : Cfg} {w : World} {m m' : Mem}

/-- A value that stands somewhere, its row's tip being t. -/
def LocOK (own : Own) (ρ : Nat → Option Nat) (w : World) (y : AV) (v : Value) (t : Option (Nat × Nat)) : Prop :=
  match y with
  | .sl s els (.row _ _) => V own w (.sl s els .none) v ∧ Tip w s els.length (.alive t) v
  | .ptr id off => ∃ g, ρ id = some g ∧ v = .pointer (some ⟨g, off, none⟩)
  | .tup _ => False
  | y => V own w y v

theorem LocOK.T1 {own : Own} {ρ : Nat → Option Nat} {ν : Nat → Nat → Stat} {y : AV} {v : Value} {t : Option (Nat × Nat)} (h : LocOK own ρ w y v t) (hν : ∀ p q, rowName y = some (p, q) → ν p q = .alive t) : Ev.T1 ⟨own, ρ, ν⟩ w y v := by
  cases y with
  | sl s els tok =>
    cases tok with
    | row p q => exact ⟨h.1, by rw [show (⟨own, ρ, ν⟩ : Cfg).ν p q = .alive t from hν p q rfl]; exact h.2⟩
    | _ => exact h
  | _ => exact h
theorem LocOK.mono {own own' : Own} {ρ ρ' : Nat → Option Nat} {w' : World} {y : AV} {v : Value} {t : Option (Nat × Nat)} (h : LocOK own ρ w y v t) (e : Evo own w own' w') (hρ : ∀ id g, ρ id = some g → ρ' id = some g) : LocOK own' ρ' w' y v t := by
  cases y with
  | sl s els tok =>
    cases tok with
    | row p q => exact ⟨h.1.mono e, h.2.mono e⟩
    | _ => exact V.mono h e
  | ptr id off => obtain ⟨g, h1, h2⟩ := h; exact ⟨g, hρ _ _ h1, h2⟩
  | tup => exact h
  | _ => exact V.mono h e

structure Step1 (c : Cfg) (w : World) (used : List (Nat × Nat)) (nm : Nat × Nat) (y : AV) (v : Value) (t : Option (Nat × Nat)) (used' : List (Nat × Nat)) : Prop where
  ok : LocOK c.own c.ρ w y v t
  sub : ∀ n, n ∈ used → n ∈ used'
  name : ∀ n, rowName y = some n → n = nm
  src : ∀ g e, t = some (g, e) → ∃ a b, c.ν a b = .alive (some (g, e)) ∧ (a, b) ∉ used ∧ (a, b) ∈ used'

inductive Chain (c : Cfg) (w : World) : List (Nat × Nat) → List (Nat × Nat) → List AV → List Value → List (Option (Nat × Nat)) → List (Nat × Nat) → Prop
  | nil (used : List (Nat × Nat)) : Chain c w used [] [] [] [] used
  | cons {used u1 u2 nms : List (Nat × Nat)} {nm : Nat × Nat} {y : AV} {v : Value} {t : Option (Nat × Nat)} {ys : List AV} {vs : List Value} {ts : List (Option (Nat × Nat))}
      (h : Step1 c w used nm y v t u1) (k : Chain c w u1 nms ys vs ts u2) : Chain c w used (nm :: nms) (y :: ys) (v :: vs) (t :: ts) u2

theorem Chain.append {used u1 u2 n1 n2 : List (Nat × Nat)} {y1 y2 : List AV} {v1 v2 : List Value} {t1 t2 : List (Option (Nat × Nat))} (h : Chain c w used n1 y1 v1 t1 u1) (k : Chain c w u1 n2 y2 v2 t2 u2) :
    Chain c w used (n1 ++ n2) (y1 ++ y2) (v1 ++ v2) (t1 ++ t2) u2 := by
  induction h with
  | nil => exact k
  | cons h _ ih => exact .cons h (ih k)
theorem Chain.sub {used u2 nms : List (Nat × Nat)} {ys : List AV} {vs : List Value} {ts : List (Option (Nat × Nat))} (h : Chain c w used nms ys vs ts u2) : ∀ n, n ∈ used → n ∈ u2 := by
  induction h with
  | nil => exact fun _ h => h
  | cons h _ ih => exact fun n hn => ih n (h.sub n hn)
theorem Chain.len {used u2 nms : List (Nat × Nat)} {ys : List AV} {vs : List Value} {ts : List (Option (Nat × Nat))} (h : Chain c w used nms ys vs ts u2) : nms.length = ys.length ∧ vs.length = ys.length ∧ ts.length = ys.length := by
  induction h with
  | nil => simp
  | cons h _ ih => simp [ih]

theorem relab1_step {names : Nat → Nat → Option Bool} {used : List (Nat × Nat)} {p q : Nat} {grow : Option Nat} {x : AV} {v : Value} (hT : T1 c w x v) (hal : ∀ a b, rowName x = some (a, b) → names a b = some true → ∃ t, c.ν a b = .alive t) :
    ∃ t, Step1 c w used (p, q) (relab1 names used p q grow x).1 v t (relab1 names used p q grow x).2 := by
  cases x with
  | sl s els tok =>
    cases tok with
    | row a b =>
      simp only [relab1]
      split
      · rename_i hc
        obtain ⟨t, ht⟩ := hal a b rfl hc.1
        obtain ⟨h1, h2⟩ := hT
        rw [ht] at h2
        exact ⟨t, ⟨h1, h2⟩, fun n hn => List.mem_cons_of_mem _ hn, fun n hn => by simp [rowName] at hn; exact hn.symm, fun g e he => ⟨a, b, by rw [ht, he], hc.2, by simp⟩⟩
      · exact ⟨none, hT.1, fun n hn => hn, fun n hn => by simp [rowName] at hn, fun g e he => by simp at he⟩
    | nil =>
      simp only [relab1]
      cases grow with
      | none => exact ⟨none, hT, fun n hn => hn, fun n hn => by simp [rowName] at hn, fun g e he => by simp at he⟩
      | some z =>
        obtain ⟨ad, len, cap, cv, rfl, hlen, hcap, _, _, _, hn, _⟩ := V_sl (own := c.own) (tok := .nil) (show V c.own w _ v from hT)
        obtain ⟨rfl, rfl⟩ := hn rfl
        obtain rfl : len = 0 := by omega
        exact ⟨none, ⟨V_empty, none, rfl⟩, fun n hn => hn, fun n hn => by simp [rowName] at hn; exact hn.symm, fun g e he => by simp at he⟩
    | none => exact ⟨none, hT, fun n hn => hn, fun n hn => by simp [rowName, relab1] at hn, fun g e he => by simp at he⟩
    | clip => exact ⟨none, hT, fun n hn => hn, fun n hn => by simp [rowName, relab1] at hn, fun g e he => by simp at he⟩
  | tup => exact hT.elim
  | undef => exact ⟨none, hT, fun n hn => hn, fun n hn => by simp [rowName, relab1] at hn, fun g e he => by simp at he⟩
  | bool => exact ⟨none, hT, fun n hn => hn, fun n hn => by simp [rowName, relab1] at hn, fun g e he => by simp at he⟩
  | int => exact ⟨none, hT, fun n hn => hn, fun n hn => by simp [rowName, relab1] at hn, fun g e he => by simp at he⟩
  | str => exact ⟨none, hT, fun n hn => hn, fun n hn => by simp [rowName, relab1] at hn, fun g e he => by simp at he⟩
  | ptr => exact ⟨none, hT, fun n hn => hn, fun n hn => by simp [rowName, relab1] at hn, fun g e he => by simp at he⟩
  | eptr => exact ⟨none, hT, fun n hn => hn, fun n hn => by simp [rowName, relab1] at hn, fun g e he => by simp at he⟩
  | pnil => exact ⟨none, hT, fun n hn => hn, fun n hn => by simp [rowName, relab1] at hn, fun g e he => by simp at he⟩
  | fn => exact ⟨none, hT, fun n hn => hn, fun n hn => by simp [rowName, relab1] at hn, fun g e he => by simp at he⟩
  | fnil => exact ⟨none, hT, fun n hn => hn, fun n hn => by simp [rowName, relab1] at hn, fun g e he => by simp at he⟩
  | agg => exact ⟨none, hT, fun n hn => hn, fun n hn => by simp [rowName, relab1] at hn, fun g e he => by simp at he⟩

/-- All values of a list are as they are said to be. -/
def TL (c : Cfg) (w : World) (xs : List AV) (vs : List Value) : Prop := vs.length = xs.length ∧ ∀ (i : Nat) (x : AV) (v : Value), xs[i]? = some x → vs[i]? = some v → T1 c w x v
theorem TL.cons {x : AV} {v : Value} {xs : List AV} {vs : List Value} (h : TL c w (x :: xs) (v :: vs)) : T1 c w x v ∧ TL c w xs vs :=
  ⟨h.2 0 x v rfl rfl, by simpa using h.1, fun i y u hy hu => h.2 (i + 1) y u (by simpa using hy) (by simpa using hu)⟩

theorem relabL_chain {names : Nat → Nat → Option Bool} {nm : Nat → Nat × Nat} {grow : Nat → Option Nat} : ∀ (xs : List AV) (vs : List Value) (j : Nat) (used : List (Nat × Nat)), TL c w xs vs →
    (∀ x ∈ xs, ∀ a b, rowName x = some (a, b) → names a b = some true → ∃ t, c.ν a b = .alive t) →
    ∃ ts, Chain c w used ((List.range' j xs.length).map nm) (relabL names nm grow j used xs).1 vs ts (relabL names nm grow j used xs).2
  | [], vs, j, used, h, hal => by
    obtain rfl : vs = [] := List.length_eq_zero_iff.1 h.1
    exact ⟨[], .nil used⟩
  | x :: xs, [], j, used, h, hal => by have := h.1; simp at this
  | x :: xs, v :: vs, j, used, h, hal => by
    obtain ⟨h1, h2⟩ := h.cons
    obtain ⟨t, ht⟩ := relab1_step (names := names) (used := used) (p := (nm j).1) (q := (nm j).2) (grow := grow j) h1 (hal x (by simp))
    obtain ⟨ts, hts⟩ := relabL_chain (names := names) (nm := nm) (grow := grow) xs vs (j + 1) _ h2 (fun y hy => hal y (List.mem_cons_of_mem _ hy))
    refine ⟨t :: ts, ?_⟩
    simp only [List.length_cons, List.range'_succ, List.map_cons, relabL]
    exact .cons ht hts

theorem relab1_used {names : Nat → Nat → Option Bool} {used : List (Nat × Nat)} {p q : Nat} {grow : Option Nat} {x : AV} : ∀ n, n ∈ (relab1 names used p q grow x).2 → n ∈ used ∨ rowName x = some n := by
  intro n hn
  cases x with
  | sl s els tok =>
    cases tok with
    | row a b =>
      simp only [relab1] at hn
      split at hn
      · rcases List.mem_cons.1 hn with rfl | hn
        · exact .inr rfl
        · exact .inl hn
      · exact .inl hn
    | nil => simp only [relab1] at hn; cases grow <;> exact .inl hn
    | none => exact .inl hn
    | clip => exact .inl hn
  | _ => exact .inl hn
theorem relabL_used {names : Nat → Nat → Option Bool} {nm : Nat → Nat × Nat} {grow : Nat → Option Nat} : ∀ (xs : List AV) (j : Nat) (used : List (Nat × Nat)), ∀ n, n ∈ (relabL names nm grow j used xs).2 → n ∈ used ∨ ∃ x ∈ xs, rowName x = some n
  | [], j, used, n, h => .inl h
  | x :: xs, j, used, n, h => by
    simp only [relabL] at h
    rcases relabL_used xs (j + 1) _ n h with h | ⟨y, hy, hr⟩
    · rcases relab1_used n h with h | h
      · exact .inl h
      · exact .inr ⟨x, by simp, h⟩
    · exact .inr ⟨y, List.mem_cons_of_mem _ hy, hr⟩
theorem relabL_len {names : Nat → Nat → Option Bool} {nm : Nat → Nat × Nat} {grow : Nat → Option Nat} : ∀ (xs : List AV) (j : Nat) (used : List (Nat × Nat)), (relabL names nm grow j used xs).1.length = xs.length
  | [], j, used => rfl
  | x :: xs, j, used => by simp [relabL, relabL_len xs]
theorem relab1_noPtr {names : Nat → Nat → Option Bool} {used : List (Nat × Nat)} {p q : Nat} {grow : Option Nat} {x : AV} (h : ∀ i o, x ≠ .ptr i o) : ∀ i o, (relab1 names used p q grow x).1 ≠ .ptr i o := by
  intro i o
  cases x with
  | sl s els tok =>
    cases tok with
    | row a b => simp only [relab1]; split <;> simp
    | nil => simp only [relab1]; cases grow <;> simp
    | none => simp [relab1]
    | clip => simp [relab1]
  | ptr i' o' => exact absurd rfl (h i' o')
  | _ => simp [relab1]
theorem relabL_noPtr {names : Nat → Nat → Option Bool} {nm : Nat → Nat × Nat} {grow : Nat → Option Nat} : ∀ (xs : List AV) (j : Nat) (used : List (Nat × Nat)), (∀ x ∈ xs, ∀ i o, x ≠ .ptr i o) → ∀ y ∈ (relabL names nm grow j used xs).1, ∀ i o, y ≠ .ptr i o
  | [], j, used, _, y, hy => by simp [relabL] at hy
  | x :: xs, j, used, h, y, hy => by
    simp only [relabL, List.mem_cons] at hy
    rcases hy with rfl | hy
    · exact relab1_noPtr (h x (by simp))
    · exact relabL_noPtr xs (j + 1) _ (fun z hz => h z (List.mem_cons_of_mem _ hz)) y hy

/-- A row of boxes. -/
theorem relabB_chain {names : Nat → Nat → Option Bool} {nm : Nat → Nat → Nat × Nat} {grow : Nat → Nat → Option Nat} {vals : Nat → List Value} : ∀ (bs : List (Nat × Box)) (used : List (Nat × Nat)), (∀ b ∈ bs, TL c w b.2 (vals b.1)) →
    (∀ x ∈ cellsOfB bs, ∀ a b, rowName x = some (a, b) → names a b = some true → ∃ t, c.ν a b = .alive t) →
    ∃ ts, Chain c w used (bs.flatMap fun b => (List.range' 0 b.2.length).map (nm b.1)) (cellsOfB (relabB names nm grow used bs).1) (bs.flatMap fun b => vals b.1) ts (relabB names nm grow used bs).2
  | [], used, _, _ => ⟨[], .nil used⟩
  | (i, b) :: bs, used, h, hal => by
    obtain ⟨t1, h1⟩ := relabL_chain (names := names) (nm := nm i) (grow := grow i) b (vals i) 0 used (h (i, b) (by simp)) (fun x hx => hal x (by simp [cellsOfB, hx]))
    obtain ⟨t2, h2⟩ := relabB_chain (names := names) (nm := nm) (grow := grow) (vals := vals) bs (relabL names (nm i) (grow i) 0 used b).2 (fun b' hb => h b' (List.mem_cons_of_mem _ hb)) (fun x hx => hal x (by simp [cellsOfB, hx]))
    exact ⟨t1 ++ t2, h1.append h2⟩
theorem relabB_used {names : Nat → Nat → Option Bool} {nm : Nat → Nat → Nat × Nat} {grow : Nat → Nat → Option Nat} : ∀ (bs : List (Nat × Box)) (used : List (Nat × Nat)), ∀ n, n ∈ (relabB names nm grow used bs).2 → n ∈ used ∨ ∃ x ∈ cellsOfB bs, rowName x = some n
  | [], used, n, h => .inl h
  | (i, b) :: bs, used, n, h => by
    simp only [relabB] at h
    rcases relabB_used bs _ n h with h | ⟨y, hy, hr⟩
    · rcases relabL_used b 0 used n h with h | ⟨y, hy, hr⟩
      · exact .inl h
      · exact .inr ⟨y, by simp [cellsOfB, hy], hr⟩
    · exact .inr ⟨y, by simp [cellsOfB, hy], hr⟩
theorem relabB_shape {names : Nat → Nat → Option Bool} {nm : Nat → Nat → Nat × Nat} {grow : Nat → Nat → Option Nat} : ∀ (bs : List (Nat × Box)) (used : List (Nat × Nat)), (relabB names nm grow used bs).1.map (fun b => (b.1, b.2.length)) = bs.map (fun b => (b.1, b.2.length))
  | [], used => rfl
  | (i, b) :: bs, used => by simp [relabB, relabL_len, relabB_shape bs]
theorem relabB_noPtr {names : Nat → Nat → Option Bool} {nm : Nat → Nat → Nat × Nat} {grow : Nat → Nat → Option Nat} : ∀ (bs : List (Nat × Box)) (used : List (Nat × Nat)), (∀ x ∈ cellsOfB bs, ∀ i o, x ≠ .ptr i o) → ∀ y ∈ cellsOfB (relabB names nm grow used bs).1, ∀ i o, y ≠ .ptr i o
  | [], used, _, y, hy => by simp [relabB, cellsOfB] at hy
  | (i, b) :: bs, used, h, y, hy => by
    simp only [relabB, cellsOfB, List.mem_append] at hy
    rcases hy with hy | hy
    · exact relabL_noPtr b 0 used (fun x hx => h x (by simp [cellsOfB, hx])) y hy
    · exact relabB_noPtr bs _ (fun x hx => h x (by simp [cellsOfB, hx])) y hy

/-- Statuses by a list of values and their tips. -/
def nuOf (base : Nat → Nat → Stat) : List AV → List (Option (Nat × Nat)) → Nat → Nat → Stat
  | y :: ys, t :: ts, p, q => if rowName y = some (p, q) then .alive t else nuOf base ys ts p q
  | _, _, p, q => base p q
theorem nuOf_names {base : Nat → Nat → Stat} {names : Nat → Nat → Option Bool} (hb : ∀ p q, statIs (base p q) (names p q)) : ∀ (ys : List AV) (ts : List (Option (Nat × Nat))), ts.length = ys.length → ∀ p q, statIs (nuOf base ys ts p q) (addNames names ys p q)
  | [], ts, h, p, q => by
    obtain rfl : ts = [] := List.length_eq_zero_iff.1 h
    exact hb p q
  | y :: ys, [], h, p, q => by simp at h
  | y :: ys, t :: ts, h, p, q => by
    simp only [nuOf, addNames]
    split
    · rfl
    · exact nuOf_names hb ys ts (by simpa using h) p q
theorem addNames_none : ∀ (ys : List AV) (p q : Nat), addNames (fun _ _ => none) ys p q = namesOf ys p q
  | [], p, q => rfl
  | y :: ys, p, q => by simp only [addNames, namesOf]; rw [addNames_none ys]

theorem Chain.rowIn {used u2 nms : List (Nat × Nat)} {ys : List AV} {vs : List Value} {ts : List (Option (Nat × Nat))} (h : Chain c w used nms ys vs ts u2) : ∀ y ∈ ys, ∀ n, rowName y = some n → n ∈ nms := by
  induction h with
  | nil => simp
  | cons h _ ih =>
    intro y hy n hn
    rcases List.mem_cons.1 hy with rfl | hy
    · rw [h.name n hn]; simp
    · exact List.mem_cons_of_mem _ (ih y hy n hn)
/-- Each value's status is its own tip. -/
theorem Chain.nu {base : Nat → Nat → Stat} {used u2 nms : List (Nat × Nat)} {ys : List AV} {vs : List Value} {ts : List (Option (Nat × Nat))} (h : Chain c w used nms ys vs ts u2) (hnd : nms.Nodup) :
    ∀ (i : Nat) (y : AV) (t : Option (Nat × Nat)), ys[i]? = some y → ts[i]? = some t → ∀ p q, rowName y = some (p, q) → nuOf base ys ts p q = .alive t := by
  induction h with
  | nil => simp
  | @cons used u1 u2 nms nm y v t ys vs ts h k ih =>
    intro i y' t' hy ht p q hr
    cases i with
    | zero =>
      simp at hy ht
      subst hy; subst ht
      simp [nuOf, hr]
    | succ i =>
      simp at hy ht
      have hmem := k.rowIn y' (List.mem_of_getElem? hy) (p, q) hr
      have hne : rowName y ≠ some (p, q) := fun he => by
        have := h.name _ he
        rw [this] at hmem
        exact (List.nodup_cons.1 hnd).1 hmem
      simp only [nuOf, hne, if_false]
      exact ih (List.nodup_cons.1 hnd).2 i y' t' hy ht p q hr
theorem Chain.ok {used u2 nms : List (Nat × Nat)} {ys : List AV} {vs : List Value} {ts : List (Option (Nat × Nat))} (h : Chain c w used nms ys vs ts u2) :
    ∀ (i : Nat) (y : AV) (v : Value), ys[i]? = some y → vs[i]? = some v → ∃ t, ts[i]? = some t ∧ LocOK c.own c.ρ w y v t := by
  induction h with
  | nil => simp
  | @cons used u1 u2 nms nm y v t ys vs ts h k ih =>
    intro i y' v' hy hv
    cases i with
    | zero => simp at hy hv; subst hy; subst hv; exact ⟨t, rfl, h.ok⟩
    | succ i => simp at hy hv; exact ih i y' v' hy hv
/-- Where a tip comes from; no two come from one. -/
theorem Chain.src {used u2 nms : List (Nat × Nat)} {ys : List AV} {vs : List Value} {ts : List (Option (Nat × Nat))} (h : Chain c w used nms ys vs ts u2) :
    ∀ (i : Nat) (g e : Nat), ts[i]? = some (some (g, e)) → ∃ a b, c.ν a b = .alive (some (g, e)) ∧ (a, b) ∉ used ∧ (a, b) ∈ u2 := by
  induction h with
  | nil => simp
  | @cons used u1 u2 nms nm y v t ys vs ts h k ih =>
    intro i g e ht
    cases i with
    | zero =>
      simp at ht
      obtain ⟨a, b, h1, h2, h3⟩ := h.src g e ht
      exact ⟨a, b, h1, h2, k.sub _ h3⟩
    | succ i =>
      obtain ⟨a, b, h1, h2, h3⟩ := ih i g e (by simpa using ht)
      exact ⟨a, b, h1, fun hm => h2 (h.sub _ hm), h3⟩
theorem Chain.inj (hinj : ∀ a b a' b' g e e', c.ν a b = .alive (some (g, e)) → c.ν a' b' = .alive (some (g, e')) → a = a' ∧ b = b') {used u2 nms : List (Nat × Nat)} {ys : List AV} {vs : List Value} {ts : List (Option (Nat × Nat))} (h : Chain c w used nms ys vs ts u2) :
    ∀ (i j : Nat) (g e e' : Nat), ts[i]? = some (some (g, e)) → ts[j]? = some (some (g, e')) → i = j := by
  induction h with
  | nil => simp
  | @cons used u1 u2 nms nm y v t ys vs ts h k ih =>
    have key : ∀ (i : Nat) (g e e' : Nat), t = some (g, e) → ts[i]? = some (some (g, e')) → False := fun i g e e' h1 h2 => by
      obtain ⟨a, b, k1, _, k3⟩ := h.src g e h1
      obtain ⟨a', b', q1, q2, _⟩ := k.src i g e' h2
      obtain ⟨rfl, rfl⟩ := hinj _ _ _ _ _ _ _ k1 q1
      exact q2 k3
    intro i j g e e' hi hj
    cases i with
    | zero =>
      cases j with
      | zero => rfl
      | succ j => simp at hi hj; exact (key j g e e' hi hj).elim
    | succ i =>
      cases j with
      | zero => simp at hi hj; exact (key i g e' e hj hi).elim
      | succ j => simp at hi hj; rw [ih i j g e e' hi hj]
theorem nuOf_alive {base : Nat → Nat → Stat} : ∀ (ys : List AV) (ts : List (Option (Nat × Nat))) (p q : Nat) (t : Option (Nat × Nat)), nuOf base ys ts p q = .alive t →
    (∃ (i : Nat) (y : AV), ys[i]? = some y ∧ rowName y = some (p, q) ∧ ts[i]? = some t) ∨ ((∀ (i : Nat) (y : AV) (t' : Option (Nat × Nat)), ys[i]? = some y → ts[i]? = some t' → rowName y ≠ some (p, q)) ∧ base p q = .alive t)
  | [], ts, p, q, t, h => .inr ⟨by simp, by simpa [nuOf] using h⟩
  | y :: ys, [], p, q, t, h => .inr ⟨by simp, by simpa [nuOf] using h⟩
  | y :: ys, t0 :: ts, p, q, t, h => by
    simp only [nuOf] at h
    split at h
    · rename_i hr
      simp at h; subst h
      exact .inl ⟨0, y, rfl, hr, rfl⟩
    · rename_i hr
      rcases nuOf_alive ys ts p q t h with ⟨i, y', h1, h2, h3⟩ | ⟨h1, h2⟩
      · exact .inl ⟨i + 1, y', by simpa using h1, h2, by simpa using h3⟩
      · refine .inr ⟨fun i y' t' hy ht => ?_, h2⟩
        cases i with
        | zero => simp at hy; subst hy; exact hr
        | succ i => exact h1 i y' t' (by simpa using hy) (by simpa using ht)
end
end Ev

/- A verified evaluator, part M: calls that are handed no box. -/
namespace Ev
open Go

/-- A function's contract: called with these values it returns that, and does that to the boxes that it is handed. -/
def SimCall (P : Program) (f : FuncId) (args : List AV) (bs : List (Nat × Box)) (r : AV) (bs' : List (Nat × Box)) : Prop :=
  (∀ (vs : Array Value) (w : World), (callFunc f vs).run P w = .ok (.enter f vs) w) ∧
  ∀ (c : Cfg) (w : World) (vs : Array Value), MemRel c { boxes := ofB bs, names := namesOf (cellsOfB bs) } w → Gl P c.own w → vs.size = args.length → (∀ (i : Nat) (x : AV) (v : Value), args[i]? = some x → vs[i]? = some v → T1 c w x v) →
    Calls P f vs w fun e w' => ∃ v c', e = .returned v ∧ Evo c.own w c'.own w' ∧ MemRel c' { boxes := ofB bs', names := namesOf (cellsOfB bs' ++ resParts r) } w' ∧ c'.ρ = c.ρ ∧ T c' w' r v

section
variable {P : Program} {c : Cfg} {w : World} {m m' : Mem} {t : Tmps} {a : Act} {C : Oracle} {ro : FuncId → Bool} {D : Option (List Nat)} {d : Nat} {x : AV}

theorem Evo.same {own own' : Own} {w w' : World} (e : Evo own w own' w') {g : Nat} {cs : Array Value} {el : TypeId} {fr : Nat × Nat} (h : w.heap[g]? = some (.cells cs el fr)) (hn : ∀ off, ¬ own.W g off) : w'.heap[g]? = some (.cells cs el fr) := by
  obtain ⟨cs', h1, h2, h3⟩ := e.cells _ _ _ _ h
  have : cs' = cs := Array.ext (by rw [h2]) (fun i h4 h5 => by
    have := h3 i (hn i)
    simpa [h4, h5] using this)
  rw [h1, this]

theorem namesOf_mem {ys : List AV} {y : AV} {p q : Nat} (hy : y ∈ ys) (hr : rowName y = some (p, q)) : namesOf ys p q = some true := by
  induction ys with
  | nil => simp at hy
  | cons z ys ih =>
    simp only [namesOf]
    split
    · rfl
    · rename_i hz
      rcases List.mem_cons.1 hy with rfl | hy
      · exact absurd hr hz
      · exact ih hy
theorem namesOf_append (xs ys : List AV) (p q : Nat) : namesOf (xs ++ ys) p q = (namesOf xs p q).or (namesOf ys p q) := by
  induction xs with
  | nil => simp [namesOf]
  | cons x xs ih =>
    simp only [List.cons_append, namesOf]
    split
    · rfl
    · exact ih

/-- The parts of a result. -/
theorem res_parts {r : AV} {v : Value} (h : T c w r v) : ∃ us : List Value, TL c w (resParts r) us ∧
    ∀ (c2 : Cfg) (w2 : World) (ys : List AV), ys.length = (resParts r).length → (∀ (i : Nat) (y : AV) (u : Value), ys[i]? = some y → us[i]? = some u → T1 c2 w2 y u) → T c2 w2 (resBack r ys) v := by
  by_cases hr : ∃ xs, r = .tup xs
  · obtain ⟨xs, rfl⟩ := hr
    obtain ⟨vs, rfl, h1, h2⟩ := h
    refine ⟨vs.toList, ⟨by simpa [resParts] using h1, fun i x u hx hu => h2 i x u hx (by simpa using hu)⟩, fun c2 w2 ys hl hy => ⟨vs, rfl, by simp only [resParts] at hl; omega, fun i x u hx hu => hy i x u hx (by simpa using hu)⟩⟩
  · have h1 := h.to_T1 hr
    have hp : resParts r = [r] := by
      cases r <;> first | rfl | exact absurd ⟨_, rfl⟩ hr
    have hb : ∀ ys, resBack r ys = ys.headD r := fun ys => by
      cases r <;> first | rfl | exact absurd ⟨_, rfl⟩ hr
    refine ⟨[v], ⟨by rw [hp]; rfl, fun i x u hx hu => ?_⟩, fun c2 w2 ys hl hy => ?_⟩
    · rw [hp] at hx
      cases i with
      | zero => simp at hx hu; subst hx; subst hu; exact h1
      | succ i => simp at hu
    · rw [hp] at hl
      rw [hb]
      obtain ⟨y, rfl⟩ : ∃ y, ys = [y] := by
        match ys, hl with
        | [y], _ => exact ⟨y, rfl⟩
      exact .of_T1 (hy 0 y v rfl rfl)

/-- What a callee made of its own is put beside what the caller has. -/
def joinOwn (c c1 : Own) (w : World) (h : ∀ g off, c.W g off → c1.N g off) : Own := ⟨fun g off => c.W g off ∨ c1.W g off, c1.N, fun g off k => k.elim (h g off) (c1.sub g off)⟩

theorem freshAll_spec {names : Nat → Nat → Option Bool} {ys : List AV} (h : freshAll names ys = true) : ∀ y ∈ ys, ∀ p q, rowName y = some (p, q) → names p q = none := by
  induction ys with
  | nil => simp
  | cons z ys ih =>
    simp only [freshAll, Bool.and_eq_true] at h
    intro y hy p q hr
    rcases List.mem_cons.1 hy with rfl | hy
    · rw [hr] at h
      simpa using h.1
    · exact ih h.2 y hy p q hr

theorem nm_nodup (d j n : Nat) : ((List.range' j n).map fun k => (d, k)).Nodup := by
  exact List.Pairwise.map _ (fun a b h he => h (by simpa using he)) (List.nodup_range' (s := j) (n := n))

theorem V.sameN {own own' : Own} {w : World} {x : AV} {v : Value} (h : V own w x v) (hN : ∀ g off, own'.N g off → own.N g off) : V own' w x v := by
  induction h with
  | undef v => exact .undef v
  | bool b => exact .bool b
  | int k n => exact .int k n
  | str s => exact .str s
  | sl s els tok a len cap cv hlen hcap hel hc hv ho hn hk hr ih =>
    refine .sl s els tok a len cap cv hlen hcap hel (fun i j el x hi hj => ?_) ih ho hn hk hr
    obtain ⟨ad, ha, hcell, hown⟩ := hc i j el x hi hj
    exact ⟨ad, ha, hcell, fun h => hown (hN _ _ h)⟩
  | eptr cells ad cv hc hv ho ih => exact .eptr cells ad cv (fun j x hj => ⟨(hc j x hj).1, fun h => (hc j x hj).2 (hN _ _ h)⟩) ih ho
  | pnil => exact .pnil
  | fn f cap vs hl hv ih => exact .fn f cap vs hl ih
  | fnil => exact .fnil
  | agg cells cs hl hv ho ih => exact .agg cells cs hl ih ho
theorem LocOK.sameN {own own' : Own} {ρ ρ' : Nat → Option Nat} {y : AV} {v : Value} {t : Option (Nat × Nat)} (h : LocOK own ρ w y v t) (hN : ∀ g off, own'.N g off → own.N g off) (hp : ∀ id off, y ≠ .ptr id off) : LocOK own' ρ' w y v t := by
  cases y with
  | sl s els tok =>
    cases tok with
    | row p q => exact ⟨h.1.sameN hN, h.2⟩
    | _ => exact V.sameN h hN
  | ptr id off => exact absurd rfl (hp id off)
  | tup => exact h
  | _ => exact V.sameN h hN
theorem noPtr_spec {ys : List AV} (h : noPtr ys = true) : ∀ y ∈ ys, ∀ id off, y ≠ .ptr id off := by
  induction ys with
  | nil => simp
  | cons z ys ih =>
    intro y hy id off he
    rcases List.mem_cons.1 hy with rfl | hy
    · subst he; simp [noPtr] at h
    · refine ih ?_ y hy id off he
      cases z <;> first | exact h | simp [noPtr] at h
theorem nuOf_base {base : Nat → Nat → Stat} : ∀ (ys : List AV) (ts : List (Option (Nat × Nat))) (p q : Nat), (∀ y ∈ ys, rowName y ≠ some (p, q)) → nuOf base ys ts p q = base p q
  | [], ts, p, q, _ => by simp [nuOf]
  | y :: ys, [], p, q, _ => by simp [nuOf]
  | y :: ys, t :: ts, p, q, h => by
    simp only [nuOf, h y (by simp), if_false]
    exact nuOf_base ys ts p q (fun z hz => h z (List.mem_cons_of_mem _ hz))

theorem acall_quiet {f : FuncId} {args : List AV} {r : AV} {vs : Array Value} (hM : MemRel c m w) (hG : Gl P c.own w) (hC : SimCall P f (args.map AV.bare) [] r []) (hA : adopt d [] m r = some (x, m')) (hsz : vs.size = args.length)
    (hargs : ∀ (i : Nat) (x : AV) (v : Value), args[i]? = some x → vs[i]? = some v → T c w x v) :
    Calls P f vs w fun e w' => ∃ v, e = .returned v ∧ Post c w m' x v w' := by
  let o0 : Own := ⟨fun _ _ => False, c.own.N, fun _ _ h => h.elim⟩
  let c0 : Cfg := ⟨o0, fun _ => none, fun _ _ => .unknown⟩
  have e0 : Evo c.own w o0 w := ⟨Nat.le_refl _, fun g cs el fr h => ⟨cs, h, rfl, fun _ _ => rfl⟩, fun _ _ h _ => h, fun _ _ _ h => h.elim, fun _ _ _ h => h, fun _ _ _ h _ => h, rfl, rfl, rfl⟩
  have hM0 : MemRel c0 { boxes := ofB [], names := namesOf (cellsOfB []) } w :=
    ⟨fun id => rfl, fun id bx g h => by simp [ofB] at h, fun id id' g h => by simp [c0] at h, fun p q => rfl, fun p q g e h => by simp [c0] at h, fun p q p' q' g e e' h => by simp [c0] at h, fun p q g e id h => by simp [c0] at h, hM.lt⟩
  refine (hC.2 c0 w vs hM0 (hG.weaker fun _ _ h => h) (by simpa using hsz) fun i y v hy hv => ?_).mono ?_
  · simp only [List.getElem?_map, Option.map_eq_some_iff] at hy
    obtain ⟨y0, hy0, rfl⟩ := hy
    exact .of_V (((hargs i y0 v hy0 hv).bare).mono e0)
  · rintro e w' ⟨v, c1, rfl, ev, hM1, hρ1, hT⟩
    refine ⟨v, rfl, ?_⟩
    simp only [adopt] at hA
    split at hA
    case isFalse => simp at hA
    rename_i hf
    simp only [Option.some.injEq, Prod.mk.injEq] at hA
    obtain ⟨rfl, rfl⟩ := hA
    obtain ⟨us, hTL, hback⟩ := res_parts hT
    obtain ⟨ts, hch⟩ := relabL_chain (names := fun _ _ => some true) (nm := fun k => (d, k)) (grow := fun _ => none) (resParts r) us 0 [] hTL (fun y hy p q hr _ => by
      have hn := hM1.names p q
      rw [show (({ boxes := ofB [], names := namesOf (cellsOfB [] ++ resParts r) } : Mem).names p q) = some true from namesOf_mem (by simp [cellsOfB, hy]) hr] at hn
      cases hs : c1.ν p q with
      | unknown => rw [hs] at hn; simp [statIs] at hn
      | dead => rw [hs] at hn; simp [statIs] at hn
      | alive t => exact ⟨t, rfl⟩)
    generalize hys : (relabL (fun _ _ => some true) (fun k => (d, k)) (fun _ => none) 0 [] (resParts r)).1 = ys at *
    have hnd := nm_nodup d 0 (resParts r).length
    have hlen := hch.len
    have hold : ∀ g off, g < w.heap.size → ¬ c1.own.W g off := fun g off hg h => ev.wr g off hg h
    have hsub : ∀ g off, c.own.W g off → c1.own.N g off := fun g off h => ev.hid g off (hM.lt g off (c.own.sub g off h)) (c.own.sub g off h) (fun k => k)
    let own2 : Own := joinOwn c.own c1.own w hsub
    have hW0 : ∀ g off, ¬ o0.W g off := fun _ _ h => h
    have e2 : Evo c.own w own2 w' := ⟨ev.size, fun g cs el fr h => ⟨cs, ev.same h (hW0 g), rfl, fun _ _ => rfl⟩, ev.other, fun g off hg h => h.resolve_right (hold g off hg), fun g off hg h => ev.no g off hg h, fun g off hg h _ => ev.hid g off hg h (hW0 g off), ev.os, ev.tape, ev.output⟩
    have hnu : ∀ p q, m.names p q ≠ none → ∀ (y : AV), y ∈ ys → rowName y ≠ some (p, q) := fun p q hn y hy hr => hn (freshAll_spec hf.2 y hy p q hr)
    have hbase : ∀ p q, c.ν p q ≠ .unknown → nuOf c.ν ys ts p q = c.ν p q := fun p q hu => by
      have hn : m.names p q ≠ none := fun h0 => by
        have := hM.names p q
        rw [h0] at this
        cases hs : c.ν p q <;> simp [hs, statIs] at this hu
      exact nuOf_base ys ts p q (hnu p q hn)
    have hext : Ext c ⟨own2, c.ρ, nuOf c.ν ys ts⟩ := ⟨fun _ _ h => h, fun _ _ _ h => h, fun p q h => by
      show nuOf c.ν ys ts p q = _
      rw [hbase p q (by rw [h]; simp), h], fun p q t h => .inl (by
      show nuOf c.ν ys ts p q = _
      rw [hbase p q (by rw [h]; simp), h])⟩
    have hltρ : ∀ id g, c.ρ id = some g → g < w.heap.size := fun id g hi => by
      have hs := hM.dom id
      rw [hi] at hs
      cases hb : m.boxes id with
      | none => simp [hb] at hs
      | some bx =>
        obtain ⟨cs', el', k1, _⟩ := hM.box id bx g hb hi
        exact lt_of_heap k1
    have hnew : ∀ (i g en : Nat), ts[i]? = some (some (g, en)) → w.heap.size ≤ g ∧ ∃ cs el, w'.heap[g]? = some (.cells cs el (0, 0)) ∧ en < cs.size ∧ ∀ off, en ≤ off → off < cs.size → c1.own.W g off := fun i g en hi => by
      obtain ⟨p, q, h1, _, _⟩ := hch.src i g en hi
      obtain ⟨cs, el, k1, k2, k3⟩ := hM1.tip p q g en h1
      refine ⟨?_, cs, el, k1, k2, k3⟩
      rcases Nat.lt_or_ge g w.heap.size with h | h
      · exact absurd (k3 en (Nat.le_refl _) k2) (hold g en h)
      · exact h
    have holdt : ∀ p q g en, c.ν p q = .alive (some (g, en)) → g < w.heap.size := fun p q g en h => by
      obtain ⟨cs, el, k1, _⟩ := hM.tip p q g en h
      exact lt_of_heap k1
    refine ⟨⟨own2, c.ρ, nuOf c.ν ys ts⟩, e2, hext, ⟨hM.dom, fun id bx g h1 h2 => ?_, hM.inj, fun p q => nuOf_names hM.names ys ts hlen.2.2 p q, fun p q g en h => ?_, fun p q p' q' g en en' h h' => ?_, fun p q g en id h hid => ?_, fun g off h => hM1.lt g off h⟩, ?_⟩
    · obtain ⟨cs, el, k1, k2, k3, k4, k5⟩ := hM.box id bx g h1 h2
      exact ⟨cs, el, ev.same k1 (hW0 g), k2, fun j x v hx hv => ⟨(k3 j x v hx hv).1.mono e2 hext, (k3 j x v hx hv).2⟩, fun hf off ho => .inl (k4 hf off ho), fun hf off ho hn => k5 hf off ho (ev.no g off (lt_of_heap k1) hn)⟩
    · rcases nuOf_alive ys ts p q _ h with ⟨i, y, h1, h2, h3⟩ | ⟨_, h2⟩
      · obtain ⟨_, cs, el, k1, k2, k3⟩ := hnew i g en h3
        exact ⟨cs, el, k1, k2, fun off h4 h5 => .inr (k3 off h4 h5)⟩
      · obtain ⟨cs, el, k1, k2, k3⟩ := hM.tip p q g en h2
        exact ⟨cs, el, ev.same k1 (hW0 g), k2, fun off h4 h5 => .inl (k3 off h4 h5)⟩
    · rcases nuOf_alive ys ts p q _ h with ⟨i, y, h1, h2, h3⟩ | ⟨_, h2⟩ <;> rcases nuOf_alive ys ts p' q' _ h' with ⟨i', y', h1', h2', h3'⟩ | ⟨_, h2'⟩
      · obtain rfl := hch.inj hM1.tipInj i i' g en en' h3 h3'
        rw [h1] at h1'; simp at h1'; subst h1'
        rw [h2] at h2'; simpa using h2'
      · have := (hnew i g en h3).1; have := holdt _ _ _ _ h2'; omega
      · have := (hnew i' g en' h3').1; have := holdt _ _ _ _ h2; omega
      · exact hM.tipInj _ _ _ _ _ _ _ h2 h2'
    · rcases nuOf_alive ys ts p q _ h with ⟨i, y, h1, h2, h3⟩ | ⟨_, h2⟩
      · have := (hnew i g en h3).1; have := hltρ id g hid; omega
      · exact hM.tipBox _ _ _ _ _ h2 hid
    · refine hback _ _ ys (by rw [← hlen.1]; simp) fun i y u hy hu => ?_
      obtain ⟨t, ht, hok⟩ := hch.ok i y u hy hu
      exact (hok.sameN (own' := own2) (ρ' := c.ρ) (fun _ _ h => h) (noPtr_spec hf.1 y (List.mem_of_getElem? hy))).T1 (fun p q hr => hch.nu hnd i y t hy ht p q hr)
end
end Ev
