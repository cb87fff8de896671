/- A verified evaluator, part D: each operation that calls nothing does what 'aop' says. -/
import Derived.Test.YtlmmgblghgmgeaaDoorEvC
set_option linter.unusedVariables false
set_option linter.unusedSimpArgs false
namespace Ev
open Go
section
variable {P : Program} {c : Cfg} {w : World} {m m' : Mem} {t : Tmps} {a : Act} {C : Oracle} {ro : FuncId → Bool} {D : Option (List Nat)} {d : Nat} {x : AV}

theorem run_loadCells_of {ad : Addr} {n : Nat} {cv : Nat → Value} (h : ∀ j, j < n → w.cell? (ad.add j) = some (cv j)) : (loadCells ad n).run P w = .ok ((List.range n).map cv).toArray w := by
  have := run_loadCells_list (P := P) w ad ((List.range n).map cv) (fun j v hv => by
    simp at hv
    obtain ⟨k, hk, rfl⟩ := hv
    have : k = j ∧ j < n := by
      rcases Nat.lt_or_ge j n with h' | h'
      · simp [h'] at hk; exact ⟨hk.symm, h'⟩
      · simp [List.getElem?_eq_none, h'] at hk
    rw [this.1]; exact h j this.2)
  simpa using this

/-- Reading a part of what can be read. -/
theorem part_load {ty : TypeId} {cs : List AV} {off : Nat} {v : AV} {ad : Addr} {cv : Nat → Value} (h : partOf P ty cs off = some v)
    (hc : ∀ (j : Nat) (x : AV), cs[j]? = some x → w.cell? (ad.add j) = some (cv j) ∧ T1 c w x (cv j) ∧ (cv j).oneCell' = true) :
    ∃ u, (loadVar ty (ad.add off)).run P w = .ok u w ∧ T c w v u := by
  unfold partOf at h
  split at h
  · rename_i n ha hn
    split at h
    · rename_i hle
      simp at h; subst h
      have hl : (loadCells (ad.add off) n).run P w = .ok ((List.range n).map fun j => cv (off + j)).toArray w := run_loadCells_of fun j hj => by
        rw [add_add]
        have hlt : off + j < cs.length := by omega
        exact (hc (off + j) cs[off + j] (by simp [hlt])).1
      refine ⟨.agg ((List.range n).map fun j => cv (off + j)).toArray, by simp [loadVar, run_aggT ha, run_tsz hn, hl], .of_V (.agg _ _ (by simp; omega) (fun j x v hx hv => ?_) fun j v hv => ?_)⟩
      rotate_left
      · simp at hv
        obtain ⟨k, hk, rfl⟩ := hv
        have hj : j < n := by
          rcases Nat.lt_or_ge j n with h' | h'
          · exact h'
          · simp [List.getElem?_eq_none, h'] at hk
        simp [hj] at hk
        subst hk
        have hlt : off + j < cs.length := by omega
        exact (hc (off + j) cs[off + j] (by simp [hlt])).2.2
      simp only [List.map_take, List.map_drop, List.getElem?_take, List.getElem?_drop, List.getElem?_map] at hx
      simp at hv
      obtain ⟨k, hk, rfl⟩ := hv
      split at hx
      · rename_i hj
        simp [hj] at hk
        subst hk
        cases hcs : cs[off + j]? with
        | none => simp [hcs] at hx
        | some y =>
          simp [hcs] at hx
          subst hx
          exact (hc _ _ hcs).2.1.bare
      · simp at hx
    · simp at h
  · rename_i ha
    obtain ⟨h1, h2, _⟩ := hc off v h
    refine ⟨cv off, ?_, .of_T1 h2⟩
    simp [loadVar, run_aggT ha, h1]
  · simp at h

/-- A part of an aggregate. -/
theorem part_agg {ty : TypeId} {cs : List AV} {off : Nat} {v : AV} {us : Array Value} (h : partOf P ty cs off = some v) (hc : CR c.own w cs us) :
    ∃ u, (part ty us off).run P w = .ok u w ∧ T c w v u := by
  unfold partOf at h
  split at h
  · rename_i n ha hn
    split at h
    · rename_i hle
      simp at h; subst h
      refine ⟨.agg (us.extract off (off + n)), by simp [part, run_aggT ha, run_tsz hn], .of_V (.agg _ _ (by simp [hc.1]; omega) (fun j x v hx hv => ?_) fun j v hv => ?_)⟩
      rotate_left
      · rw [Array.getElem?_extract] at hv
        split at hv
        · exact hc.2.2 _ _ hv
        · simp at hv
      simp only [List.map_take, List.map_drop, List.getElem?_take, List.getElem?_drop, List.getElem?_map] at hx
      split at hx
      · rename_i hj
        cases hcs : cs[off + j]? with
        | none => simp [hcs] at hx
        | some y =>
          simp [hcs] at hx
          subst hx
          rw [Array.getElem?_extract] at hv
          split at hv
          · exact T1.bare (c := c) (.of_V (hc.2.1 _ _ _ hcs hv))
          · simp at hv
      · simp at hx
    · simp at h
  · rename_i ha
    have hlt : off < cs.length := by
      rcases Nat.lt_or_ge off cs.length with h' | h'
      · exact h'
      · simp [List.getElem?_eq_none, h'] at h
    have hu : us[off]? = some (us[off]'(by rw [hc.1]; exact hlt)) := by simp [hc.1, hlt]
    refine ⟨_, by simp [part, run_aggT ha, hu], .of_V (hc.2.1 _ _ _ h hu)⟩
  · simp at h

theorem box_cells (hM : MemRel c m w) {id : Nat} {bx : Box} {g : Nat} (h1 : m.boxes id = some bx) (h2 : c.ρ id = some g) :
    ∃ cv : Nat → Value, ∀ (j : Nat) (x : AV), bx[j]? = some x → w.cell? ((⟨g, 0, none⟩ : Addr).add j) = some (cv j) ∧ T1 c w x (cv j) ∧ (cv j).oneCell' = true := by
  obtain ⟨cs, el, k1, k2, k3, _⟩ := hM.box id bx g h1 h2
  refine ⟨fun j => cs.getD j undef, fun j x hx => ?_⟩
  have hj : j < cs.size := by
    rw [k2]
    rcases Nat.lt_or_ge j bx.length with h' | h'
    · exact h'
    · simp [List.getElem?_eq_none, h'] at hx
  have hcs : cs[j]? = some (cs.getD j undef) := by simp [hj, Array.getD]
  rw [add_plain, heap_cell k1]
  simp only [Nat.zero_add]
  exact ⟨hcs, (k3 j x _ hx hcs).1, (k3 j x _ hx hcs).2.1⟩

/-! ### filling -/
theorem fillC_fill {own : Own} {place : Nat → Option (Nat × Nat)} : ∀ (ps : List (Nat × AV)) (qs : List (Nat × Value)) (xs : List AV) (us : Array Value) (rs : List AV),
    (∀ p ∈ ps, p.2.isVal = true) → ps.length = qs.length → (∀ (i : Nat) (p : Nat × AV) (q : Nat × Value), ps[i]? = some p → qs[i]? = some q → p.1 = q.1 ∧ CR own w p.2.cells q.2.cells) → CR own w xs us →
    fillC place xs ps = some rs → ∃ ws, Instr.fill place us qs = some ws ∧ CR own w rs ws
  | [], [], xs, us, rs, _, _, _, hx, h => by
    simp [fillC] at h; subst h
    exact ⟨us, by simp [Instr.fill], hx⟩
  | [], _ :: _, _, _, _, _, hl, _, _, _ => by simp at hl
  | _ :: _, [], _, _, _, _, hl, _, _, _ => by simp at hl
  | (i, p) :: ps, (i', q) :: qs, xs, us, rs, hv, hl, hp, hx, h => by
    obtain ⟨he0, hpq⟩ := hp 0 _ _ rfl rfl
    simp only at hpq he0
    subst he0
    simp only [fillC] at h
    cases hpl : place i with
    | none => simp [hpl] at h
    | some os =>
      obtain ⟨off, size⟩ := os
      simp only [hpl] at h
      split at h
      · rename_i hc
        have hset : ∀ (ys : List AV) (zs : List Value) (k : Nat) (xs : List AV) (us : Array Value), CR own w xs us → ys.length = zs.length →
            (∀ (j : Nat) (y : AV) (z : Value), ys[j]? = some y → zs[j]? = some z → V own w y z ∧ z.oneCell' = true) → CR own w (setCells xs (off + k) ys) ((zs.zipIdx k).foldl (fun cs cj => cs.setIfInBounds (off + cj.2) cj.1) us) := by
          intro ys
          induction ys with
          | nil => intro zs k xs us hx hlen _; cases zs <;> simp_all [setCells]
          | cons y ys ih =>
            intro zs k xs us hx hlen hyz
            cases zs with
            | nil => simp at hlen
            | cons z zs =>
              simp only [setCells, List.zipIdx_cons, List.foldl_cons]
              have := ih zs (k + 1) (xs.set (off + k) y) (us.setIfInBounds (off + k) z) ⟨by simp [hx.1], fun j x v hj hv => ?_, fun j v hv => ?_⟩ (by simpa using hlen) (fun j y' z' h1 h2 => hyz (j + 1) y' z' (by simpa using h1) (by simpa using h2))
              · simpa [Nat.add_assoc] using this
              · rw [List.getElem?_set] at hj
                rw [Array.getElem?_setIfInBounds] at hv
                by_cases he : off + k = j
                · subst he
                  simp at hj hv
                  obtain ⟨_, rfl⟩ := hj
                  obtain ⟨_, rfl⟩ := hv
                  exact (hyz 0 _ _ rfl rfl).1
                · simp [he] at hj hv
                  exact hx.2.1 j x v hj hv
              · rw [Array.getElem?_setIfInBounds] at hv
                by_cases he : off + k = j
                · subst he
                  simp at hv
                  obtain ⟨_, rfl⟩ := hv
                  exact (hyz 0 y _ rfl rfl).2
                · simp [he] at hv
                  exact hx.2.2 j v hv
        have h0 := hset p.cells q.cells.toList 0 xs us hx (by simp [hpq.1]) (fun j y z h1 h2 => ⟨hpq.2.1 j y z h1 (by simpa using h2), hpq.2.2 j z (by simpa using h2)⟩)
        obtain ⟨ws, k1, k2⟩ := fillC_fill ps qs _ _ rs (fun p' h' => hv p' (List.mem_cons_of_mem _ h')) (by simpa using hl) (fun k p' q' h1 h2 => hp (k + 1) p' q' (by simpa using h1) (by simpa using h2)) h0 h
        refine ⟨ws, ?_, k2⟩
        simp only [Instr.fill, hpl]
        rw [if_neg (by simp [hpq.1, hc.1, hx.1]; omega)]
        rw [← k1]
        congr 1
        rw [← Array.foldl_toList]
        congr 1
        simp
      · simp at h

theorem placesOf_built {ty : TypeId} {places : List (Nat × Nat)} {parts : List (Nat × Value)} {ws : Array Value} {zv : Value}
    (h1 : placesOf P ty = some places) (hz : (P.info? ty).bind (·.zero) = some zv) (hf : Instr.fill (fun i => places[i]?) zv.cells parts = some ws) : P.built ty parts = some ws := by
  unfold placesOf at h1
  split at h1
  · rename_i fs hu
    unfold Program.built
    cases hi : P.info? ty with
    | none => simp [hi] at hz
    | some it =>
      simp [hi] at hz
      simp [hu, hz, h1]
      exact hf
  · simp at h1
end
end Ev
