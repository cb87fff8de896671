/- A verified evaluator, part F: what an operation that calls nothing does is what 'aop' says. -/
import Derived.Test.YtlmmgblghgmgeaaDoorEvE
set_option linter.unusedVariables false
set_option linter.unusedSimpArgs false
namespace Ev
open Go
section
variable {P : Program} {c : Cfg} {w : World} {m m' : Mem} {t : Tmps} {a : Act} {C : Oracle} {ro : FuncId → Bool} {D : Option (List Nat)} {d : Nat} {x : AV}

/-! ### a store into a box -/
theorem heap_set_same {w : World} {g i : Nat} {cs : Array Value} {t : TypeId} {fr : Nat × Nat} (v : Value) (hg : w.heap[g]? = some (.cells cs t fr)) :
    (w.setCell ⟨g, i, none⟩ v).heap[g]? = some (.cells (cs.setIfInBounds i v) t fr) := by
  simp [World.setCell, Array.getElem?_modify, hg]
theorem heap_set_other {w : World} {g i k : Nat} (v : Value) (h : k ≠ g) : (w.setCell ⟨g, i, none⟩ v).heap[k]? = w.heap[k]? := by
  simp only [World.setCell, Array.getElem?_modify]
  rw [if_neg (fun e => h e.symm)]
theorem Evo.set {own : Own} {g i : Nat} (v : Value) (hi : own.W g i) : Evo own w own (w.setCell ⟨g, i, none⟩ v) where
  size := by simp
  cells := fun k cs el fr h => by
    by_cases hk : k = g
    · subst hk
      refine ⟨_, heap_set_same v h, by simp, fun off hn => ?_⟩
      have : i ≠ off := fun e => hn (e ▸ hi)
      simp [Array.getElem?_setIfInBounds, this]
    · exact ⟨cs, by rw [heap_set_other v hk]; exact h, rfl, fun _ _ => rfl⟩
  other := fun k o h ho => by
    by_cases hk : k = g
    · subst hk
      have : ∀ o' : Obj, (∀ cs el fr, o' ≠ .cells cs el fr) → (match o' with
          | .cells c elem frozen => Obj.cells (c.setIfInBounds i v) elem frozen
          | o => o) = o' := fun o' h' => by
        cases o' with
        | cells cs el fr => exact absurd rfl (h' _ _ _)
        | _ => rfl
      simp only [World.setCell, Array.getElem?_modify, if_true, h, Option.map_some] <;> exact congrArg some (this o ho)
    · rw [heap_set_other v hk]; exact h
  wr := fun _ _ _ h => h
  no := fun _ _ _ h => h
  hid := fun _ _ _ h _ => h
  os := rfl
  tape := rfl
  output := rfl

theorem run_storeCells {g : Nat} {el : TypeId} : ∀ (vs : List Value) (i : Nat) (off : Nat) (w : World) (cs : Array Value), w.heap[g]? = some (.cells cs el (0, 0)) → off + i + vs.length ≤ cs.size →
    (∀ v ∈ vs, v.oneCell' = true) → ∃ (w' : World) (cs' : Array Value), (storeCells ⟨g, off, none⟩ vs i).run P w = .ok () w' ∧ w'.heap[g]? = some (.cells cs' el (0, 0)) ∧ cs'.size = cs.size ∧
      (∀ own : Own, (∀ k, off + i ≤ k → k < off + i + vs.length → own.W g k) → Evo own w own w') ∧ (∀ k, k < off + i ∨ off + i + vs.length ≤ k → cs'[k]? = cs[k]?) ∧ (∀ k, k < vs.length → cs'[off + i + k]? = vs[k]?) ∧
      (∀ k, k ≠ g → w'.heap[k]? = w.heap[k]?)
  | [], i, off, w, cs, hg, hl, hv => ⟨w, cs, rfl, hg, rfl, fun own _ => .refl _ _, fun _ _ => rfl, fun k hk => by simp at hk, fun _ _ => rfl⟩
  | v :: r, i, off, w, cs, hg, hl, hv => by
    simp only [List.length_cons] at hl
    have hg' := heap_set_same (i := off + i) v hg
    obtain ⟨w', cs', h1, h2, h3, h4, h5, h6, h7⟩ := run_storeCells r (i + 1) off (w.setCell ⟨g, off + i, none⟩ v) (cs.setIfInBounds (off + i) v) hg' (by simp; omega) (fun u hu => hv u (List.mem_cons_of_mem _ hu))
    refine ⟨w', cs', ?_, h2, by simp [h3], fun own ho => ?_, fun k hk => ?_, fun k hk => ?_, fun k hk => (h7 k hk).trans (heap_set_other v hk)⟩
    · have hcell : w.cell? ⟨g, off + i, none⟩ = some (cs[off + i]'(by omega)) := by rw [heap_cell hg]; simp
      have hfr : w.frozen? ⟨g, off + i, none⟩ = false := by simp [World.frozen?, hg]
      have : (store ((⟨g, off, none⟩ : Addr).add i) v).run P w = .ok () (w.setCell ⟨g, off + i, none⟩ v) := by
        rw [add_plain, run_store P w _ v .plain (hv v (by simp))]
        simp [hcell, hfr]
      simp only [storeCells, Sem.run_bind, this, Result.andThen_ok]
      exact h1
    · exact (Evo.set v (ho (off + i) (by omega) (by simp))).trans (h4 own fun k h1 h2 => ho k (by omega) (by simp; omega))
    · rw [h5 k (by simp at hk; omega), Array.getElem?_setIfInBounds]
      have : off + i ≠ k := by simp at hk; omega
      simp [this]
    · cases k with
      | zero =>
        rw [h5 (off + i + 0) (by omega), Array.getElem?_setIfInBounds]
        simp; omega
      | succ k =>
        have := h6 k (by simp at hk; omega)
        rw [show off + i + (k + 1) = off + (i + 1) + k by omega]
        simpa using this

theorem getElem?_setCells : ∀ (ys cs : List AV) (off j : Nat), off + ys.length ≤ cs.length →
    (setCells cs off ys)[j]? = if off ≤ j ∧ j < off + ys.length then ys[j - off]? else cs[j]?
  | [], cs, off, j, h => by simp [setCells]; omega
  | y :: r, cs, off, j, h => by
    simp only [List.length_cons] at h
    rw [setCells, getElem?_setCells r (cs.set off y) (off + 1) j (by simp; omega)]
    by_cases h1 : off = j
    · subst h1
      rw [if_neg (by omega), if_pos (by simp)]
      have : off < cs.length := by omega
      simp [this]
    · by_cases h2 : off + 1 ≤ j ∧ j < off + 1 + r.length
      · rw [if_pos h2, if_pos (by simp; omega)]
        obtain ⟨k, rfl⟩ : ∃ k, j = off + 1 + k := ⟨j - (off + 1), by omega⟩
        rw [show off + 1 + k - (off + 1) = k by omega, show off + 1 + k - off = k + 1 by omega]
        simp
      · rw [if_neg h2, if_neg (by simp; omega), List.getElem?_set_ne h1]
theorem length_setCells : ∀ (ys cs : List AV) (off : Nat), (setCells cs off ys).length = cs.length
  | [], cs, off => rfl
  | y :: r, cs, off => by rw [setCells, length_setCells r]; simp

theorem one_oneCell {own : Own} {x : AV} {v : Value} (hx : x.one = true) (h : V own w x v) : v.oneCell' = true := by
  cases h <;> first | rfl | simp [AV.one] at hx

/-- What a store makes of a box. -/
theorem Post.store {id g : Nat} {bx bx' : Box} {cs cs' : Array Value} {el : TypeId} {w' : World} (hM : MemRel c m w) (h1 : m.boxes id = some bx) (h2 : c.ρ id = some g) (hf : m.froz id = false)
    (hg : w.heap[g]? = some (.cells cs el (0, 0))) (hg' : w'.heap[g]? = some (.cells cs' el (0, 0))) (hsz : cs'.size = cs.size) (hl : bx'.length = bx.length) (e : Evo c.own w c.own w') (hother : ∀ k, k ≠ g → w'.heap[k]? = w.heap[k]?)
    (hc : ∀ (j : Nat) (x : AV) (v : Value), bx'[j]? = some x → cs'[j]? = some v → T1 c w' x v ∧ v.oneCell' = true ∧ ∀ i o, x ≠ .ptr i o) : MemRel c { m with boxes := upd m.boxes id (some bx') } w' := by
  obtain ⟨cs0, el0, k1, k2, k3, k4, k5⟩ := hM.box id bx g h1 h2
  rw [hg] at k1
  simp at k1
  obtain ⟨rfl, rfl⟩ := k1
  refine ⟨fun i => ?_, fun i b g' hb hi => ?_, hM.inj, hM.names, fun a b g' en hs => ?_, hM.tipInj, hM.tipBox, fun g' off ho => Nat.lt_of_lt_of_le (hM.lt _ _ ho) e.size⟩
  · show (upd m.boxes id _ i).isSome = _
    by_cases hq : i = id
    · subst hq; simp [h2]
    · simp [hq, hM.dom]
  · by_cases hq : i = id
    · subst hq
      simp at hb; subst hb
      rw [h2] at hi; simp at hi; subst hi
      exact ⟨cs', el, hg', by rw [hsz, k2, hl], hc, fun _ off ho => k4 hf off (by omega), fun hf' => by simp [hf] at hf'⟩
    · simp [hq] at hb
      obtain ⟨cs1, el1, q1, q2, q3, q4, q5⟩ := hM.box i b g' hb hi
      have hne : g' ≠ g := fun he => hq (hM.inj _ _ _ hi (he ▸ h2))
      exact ⟨cs1, el1, by rw [hother g' hne]; exact q1, q2, fun j x v hx hv => ⟨(q3 j x v hx hv).1.mono e (.refl _), (q3 j x v hx hv).2⟩, q4, q5⟩
  · obtain ⟨cs1, el1, q1, ql, q2⟩ := hM.tip a b g' en hs
    obtain ⟨cs2, q3, q4, _⟩ := e.cells _ _ _ _ q1
    exact ⟨cs2, el1, q3, by omega, fun off h1 h2 => q2 off h1 (by omega)⟩

theorem aop_store {ty : TypeId} {p q : Operand} (hT : TRel c w t a) (hM : MemRel c m w) (h : aop P C ro D (.store ty p q) d (opnd t) m = some (x, m')) :
    OpRes P c w m' x ((do Instr.storeAt ty (a.eval p) (a.eval q); pure Next.skip : Sem Next).run P w) := by
  simp only [aop] at h
  have hp := T_opnd hT p
  have hq := T_opnd hT q
  split at h
  case h_2 => simp at h
  rename_i id off heq
  rw [heq] at hp
  obtain ⟨g, hρ, hpv⟩ := T_ptr hp
  split at h
  case h_2 => simp at h
  rename_i bx hbx
  split at h
  case isFalse => simp at h
  rename_i hcond
  obtain ⟨hsz, hle, hf, hval⟩ := hcond
  simp at h
  obtain ⟨rfl, rfl⟩ := h
  obtain ⟨cs, el, k1, k2, k3, k4, k5⟩ := hM.box id bx g hbx hρ
  generalize opnd t q = X at *
  generalize a.eval q = U at *
  have hcr := T.cells hval hq
  have hv1 : ∀ v ∈ U.cells.toList, v.oneCell' = true := fun v hv => by
    obtain ⟨i, hi, rfl⟩ := List.mem_iff_getElem.1 hv
    exact hcr.2.2 i _ (by simp at hi ⊢)
  have hUl : U.cells.toList.length = X.cells.length := by simp [hcr.1]
  obtain ⟨w', cs', s1, s2, s3, s4, s5, s6, s7⟩ := run_storeCells (P := P) (g := g) (el := el) U.cells.toList 0 off w cs k1 (by omega) hv1
  have e := s4 c.own fun k h1 h2 => k4 hf k (by omega)
  have hrun : (do Instr.storeAt ty (a.eval p) U; pure Next.skip : Sem Next).run P w = .ok .skip w' := by
    have hsz' : (Go.sizeOf ty).run P w = .ok X.cells.length w := run_tsz hsz.symm w
    simp only [Instr.storeAt, Instr.sureAddr, storeVar, hpv, Sem.run_bind, Sem.run_pure, Result.andThen_ok, hsz', hcr.1, ne_eq, not_true_eq_false, if_false, Sem.run_ite, s1]
  rw [hrun]
  refine ⟨c, e, .refl _, ?_, (⟨#[], rfl, rfl, by simp⟩ : T c w' (.tup []) undef)⟩
  have hold : ∀ (j : Nat) (y : AV) (v : Value), (j < off ∨ off + X.cells.length ≤ j) → bx[j]? = some y → cs'[j]? = some v → T1 c w' y v ∧ v.oneCell' = true ∧ ∀ i o, y ≠ .ptr i o := fun j y v hj hy hv => by
    rw [s5 j (by omega)] at hv
    exact ⟨(k3 j y v hy hv).1.mono e (.refl _), (k3 j y v hy hv).2⟩
  have hone : ∀ (j : Nat) (v : Value), off ≤ j → j < off + X.cells.length → cs'[j]? = some v → v.oneCell' = true := fun j v h1 h2 hv => by
    have h6 := s6 (j - off) (by omega)
    rw [show off + 0 + (j - off) = j by omega, hv] at h6
    exact hcr.2.2 (j - off) v (by simpa using h6.symm)
  have hset : ∀ Y : AV, X.cells.length = 1 → (∀ v, cs'[off]? = some v → T1 c w' Y v) → (∀ i o, Y ≠ .ptr i o) → MemRel c { m with boxes := upd m.boxes id (some (bx.set off Y)) } w' := fun Y h1 hY hp =>
    Post.store hM hbx hρ hf k1 s2 s3 (by simp) e s7 fun j y v hy hv => by
      rw [List.getElem?_set] at hy
      by_cases hj : off = j
      · subst hj
        simp at hy
        obtain ⟨_, rfl⟩ := hy
        exact ⟨hY v hv, hone off v (by omega) (by omega) hv, hp⟩
      · simp [hj] at hy
        exact hold j y v (by omega) hy hv
  have hcell : ∀ v, X.cells.length = 1 → cs'[off]? = some v → U.cells = #[v] := fun v h1 hv => by
    have := s6 0 (by omega)
    rw [show off + 0 + 0 = off by omega, hv] at this
    have hsz1 : U.cells.size = 1 := by rw [hcr.1, h1]
    apply Array.ext
    · simp [hsz1]
    · intro i h2 h3
      have hi : i = 0 := by omega
      subst hi
      simp at this ⊢
      rw [Array.getElem?_eq_getElem (by omega)] at this
      simpa using this.symm
  have hV : ∀ v, X.cells.length = 1 → cs'[off]? = some v → ∀ y, X.cells = [y] → V c.own w' y v := fun v h1 hv y hy => by
    have h0 := hcell v h1 hv
    have := hcr.2.1 0 y v (by simp [hy]) (by simp [h0])
    exact this.mono e
  cases X with
  | undef => simp [AV.isVal] at hval
  | tup => simp [AV.isVal] at hval
  | agg ys =>
    refine Post.store hM hbx hρ hf k1 s2 s3 (length_setCells _ _ _) e s7 fun j y v hy hv => ?_
    change (setCells bx off ys)[j]? = some y at hy
    rw [getElem?_setCells ys bx off j hle] at hy
    split at hy
    · rename_i hj
      have h6 := s6 (j - off) (by simp only [AV.cells] at hUl; omega)
      rw [show off + 0 + (j - off) = j by omega, hv] at h6
      exact ⟨.of_V ((hcr.2.1 (j - off) y v hy (by simpa using h6.symm)).mono e), hcr.2.2 (j - off) v (by simpa using h6.symm), (hcr.2.1 (j - off) y v hy (by simpa using h6.symm)).noPtr⟩
    · rename_i hj
      exact hold j y v (by simp only [AV.cells] at hj ⊢; omega) hy hv
  | sl z els tok =>
    refine hset _ rfl (fun v hv => ?_) (by simp)
    have h0 := hcell v rfl hv
    have hU : U = v := by
      obtain ⟨a', len, cap, cv, rfl, _⟩ := V_sl (T_sl hq)
      simpa [Value.cells] using h0
    subst hU
    exact T1.mono (c := c) (c' := c) (show T1 c w (.sl z els tok) U from hq) e (.refl _)
  | bool b => exact hset _ rfl (fun v hv => .of_V (hV v rfl hv _ rfl)) (by simp [AV.bare])
  | int k n => exact hset _ rfl (fun v hv => .of_V (hV v rfl hv _ rfl)) (by simp [AV.bare])
  | str s => exact hset _ rfl (fun v hv => .of_V (hV v rfl hv _ rfl)) (by simp [AV.bare])
  | ptr i o => exact hset _ rfl (fun v hv => .of_V (hV v rfl hv _ rfl)) (by simp [AV.bare])
  | eptr cl => exact hset _ rfl (fun v hv => .of_V (hV v rfl hv _ rfl)) (by simp [AV.bare])
  | pnil => exact hset _ rfl (fun v hv => .of_V (hV v rfl hv _ rfl)) (by simp [AV.bare])
  | fn f cp => exact hset _ rfl (fun v hv => .of_V (hV v rfl hv _ rfl)) (by simp [AV.bare])
  | fnil => exact hset _ rfl (fun v hv => .of_V (hV v rfl hv _ rfl)) (by simp [AV.bare])
end
end Ev
