/- A verified evaluator, part G: all operations that call nothing. -/
import Derived.Test.YtlmmgblghgmgeaaDoorEvF
set_option linter.unusedVariables false
set_option linter.unusedSimpArgs false
namespace Ev
open Go
section
variable {P : Program} {c : Cfg} {w : World} {m m' : Mem} {t : Tmps} {a : Act} {C : Oracle} {ro : FuncId → Bool} {D : Option (List Nat)} {d : Nat} {x : AV}

theorem opres_value {v : Value} {w' : World} (h : Post c w m' x v w') : OpRes P c w m' x (.ok (.value v) w') := h
theorem opres_of {s : Sem Value} {v : Value} {w' : World} (hr : s.run P w = .ok v w') (h : Post c w m' x v w') : OpRes P c w m' x ((do pure (Next.value (← s)) : Sem Next).run P w) := by
  simp only [Sem.run_bind, hr, Result.andThen_ok, Sem.run_pure]
  exact h

theorem newVar_run {e : TypeId} {v : Value} : (newVar e v).run P w = .ok ⟨w.heap.size, 0, none⟩ (w.alloc (.cells v.cells e)) := by
  simp [newVar, newRow]

theorem fieldT_spec {ty : TypeId} {i o : Nat} {ft : TypeId} (h : fieldT P ty i = some (o, ft)) : ∃ fs f n, P.underlying ty = some (.struct fs) ∧ fs[i]? = some f ∧ tsz P f.type = some (n + 1) ∧ f.offset = o ∧ f.type = ft := by
  unfold fieldT at h
  split at h
  · rename_i fs hu
    cases hf : fs[i]? with
    | none => simp [hf] at h
    | some f =>
      simp only [hf, Option.bind_some] at h
      split at h
      · rename_i n hn
        simp at h
        exact ⟨fs, f, n, hu, hf, hn, h.1, h.2⟩
      · simp at h
  · simp at h

theorem fieldAt_run {ty : TypeId} {i o : Nat} {ft : TypeId} (h : fieldT P ty i = some (o, ft)) (ad : Addr) : (Instr.fieldAt ty (.pointer (some ad)) i).run P w = .ok (.pointer (some (ad.add o))) w := by
  obtain ⟨fs, f, n, hu, hf, hn, rfl, rfl⟩ := fieldT_spec h
  simp [Instr.fieldAt, run_underlying hu, hf, Instr.sureAddr, fieldPlace, run_tsz hn]

/-- The cells of a literal slice. -/
theorem fillSlice_fill {own : Own} {n : Nat} : ∀ (ps : List (Nat × Value)) (xs : List (List AV)) (k total : Nat) (us : Array Value), ps.map (·.1) = List.range' k ps.length → ps.length = xs.length →
    (∀ (i : Nat) (q : Nat × Value) (ys : List AV), ps[i]? = some q → xs[i]? = some ys → ys.length = n ∧ CR own w ys q.2.cells) → us.size = total * n → k + ps.length ≤ total →
    ∃ ws, Instr.fill (fun i => some (i * n, n)) us ps = some ws ∧ ws.size = us.size ∧ (∀ j, j < k * n → ws[j]? = us[j]?) ∧
      (∀ (i j : Nat) (ys : List AV) (y : AV), xs[i]? = some ys → ys[j]? = some y → ∃ v, ws[(k + i) * n + j]? = some v ∧ V own w y v ∧ v.oneCell' = true)
  | [], xs, k, total, us, _, hl, _, _, _ => ⟨us, by simp [Instr.fill], rfl, fun _ _ => rfl, fun i j ys y h => by cases xs <;> simp_all⟩
  | (i0, v) :: ps, [], k, total, us, _, hl, _, _, _ => by simp at hl
  | (i0, v) :: ps, ys :: xs, k, total, us, hk, hl, hp, hsz, hle => by
    simp only [List.map_cons, List.length_cons, List.range'_succ, List.cons.injEq] at hk
    obtain ⟨hk0, hk⟩ := hk
    obtain rfl := hk0.symm
    obtain ⟨hy1, hy2⟩ := hp 0 _ _ rfl rfl
    simp only at hy2
    simp only [List.length_cons] at hle hl
    have hmul : (k + 1) * n ≤ total * n := Nat.mul_le_mul_right n (by omega)
    have hmul' : (k + 1) * n = k * n + n := by rw [Nat.add_mul, Nat.one_mul]
    have hset : ∀ (zs : List Value) (s : Nat) (us : Array Value), k * n + s + zs.length ≤ us.size →
        ((zs.zipIdx s).foldl (fun cs cj => cs.setIfInBounds (k * n + cj.2) cj.1) us).size = us.size ∧
        (∀ j, (j < k * n + s ∨ k * n + s + zs.length ≤ j) → ((zs.zipIdx s).foldl (fun cs cj => cs.setIfInBounds (k * n + cj.2) cj.1) us)[j]? = us[j]?) ∧
        (∀ j, j < zs.length → ((zs.zipIdx s).foldl (fun cs cj => cs.setIfInBounds (k * n + cj.2) cj.1) us)[k * n + s + j]? = zs[j]?) := by
      intro zs
      induction zs with
      | nil => intro s us _; simp
      | cons z zs ih =>
        intro s us hle
        simp only [List.length_cons] at hle
        simp only [List.zipIdx_cons, List.foldl_cons]
        obtain ⟨h1, h2, h3⟩ := ih (s + 1) (us.setIfInBounds (k * n + s) z) (by simp; omega)
        refine ⟨by rw [h1]; simp, fun j hj => ?_, fun j hj => ?_⟩
        · simp only [List.length_cons] at hj
          rw [h2 j (by omega), Array.getElem?_setIfInBounds, if_neg (by omega)]
        · cases j with
          | zero =>
            rw [h2 _ (by omega), Array.getElem?_setIfInBounds]
            simp; omega
          | succ j =>
            have := h3 j (by simpa using hj)
            rw [show k * n + s + (j + 1) = k * n + (s + 1) + j by omega]
            simpa using this
    obtain ⟨g1, g2, g3⟩ := hset v.cells.toList 0 us (by simp [hy2.1, hy1]; omega)
    obtain ⟨ws, k1, k2, k3, k4⟩ := fillSlice_fill (own := own) (n := n) ps xs (k + 1) total (((v.cells.toList).zipIdx 0).foldl (fun cs cj => cs.setIfInBounds (k * n + cj.2) cj.1) us) hk (by omega)
      (fun i q zs h1 h2 => hp (i + 1) q zs (by simpa using h1) (by simpa using h2)) (by rw [g1, hsz]) (by omega)
    refine ⟨ws, ?_, by rw [k2, g1], fun j hj => ?_, fun i j zs y hi hj => ?_⟩
    · simp only [Instr.fill]
      rw [if_neg (by simp [hy2.1, hy1, hsz]; omega)]
      rw [← k1]
      congr 1
      rw [← Array.foldl_toList]
      congr 1
      simp
    · rw [k3 j (by omega), g2 j (by omega)]
    · cases i with
      | zero =>
        simp at hi; subst hi
        have hjn : j < n := by
          rcases Nat.lt_or_ge j ys.length with h' | h'
          · omega
          · simp [List.getElem?_eq_none, h'] at hj
        have h5 := g3 j (by simp [hy2.1, hy1]; omega)
        rw [show k * n + 0 + j = k * n + j by omega] at h5
        rw [Nat.add_zero, k3 _ (by omega), h5]
        have hjs : j < v.cells.size := by rw [hy2.1, hy1]; exact hjn
        refine ⟨v.cells[j], by simp [hjs], hy2.2.1 j y _ hj (by simp [hjs]), hy2.2.2 j _ (by simp [hjs])⟩
      | succ i =>
        have := k4 i j zs y (by simpa using hi) hj
        rwa [show k + 1 + i = k + (i + 1) by omega] at this

theorem capture_eq : ∀ (xs : List AV) (rs : List AV) (m' : Mem), capture D m xs = some (rs, m') →
    m' = { m with froz := fun i => if i ∈ capIds xs then true else m.froz i } ∧ rs.length = xs.length ∧ (∀ id ∈ capIds xs, (m.boxes id).isSome = true) ∧
    ∀ (i : Nat) (x y : AV), xs[i]? = some x → rs[i]? = some y → (∃ id off b, x = .ptr id off ∧ id ∈ capIds xs ∧ m.boxes id = some b ∧ y = .eptr ((b.drop off).map AV.bare)) ∨ ((∀ id off, x ≠ .ptr id off) ∧ y = x.bare)
  | [], rs, m', h => by
    simp [capture] at h
    obtain ⟨rfl, rfl⟩ := h
    refine ⟨by simp [capIds], rfl, by simp [capIds], by simp⟩
  | x :: r, rs, m', h => by
    by_cases hx : ∃ id off, x = .ptr id off
    · obtain ⟨id, off, rfl⟩ := hx
      simp only [capture] at h
      split at h
      · cases hb : m.boxes id with
        | none => simp [hb] at h
        | some b =>
          cases hr : capture D m r with
          | none => simp [hb, hr] at h
          | some q =>
            obtain ⟨vs, m1⟩ := q
            simp only [hb, hr, Option.some.injEq, Prod.mk.injEq] at h
            obtain ⟨rfl, rfl⟩ := h
            obtain ⟨h1, h2, h3, h4⟩ := capture_eq r vs m1 hr
            subst h1
            refine ⟨?_, by simp [h2], ?_, ?_⟩
            · simp only [capIds, Mem.mk.injEq, true_and]
              funext i
              by_cases hi : i = id <;> simp [hi]
            · intro i hi
              simp only [capIds, List.mem_cons] at hi
              rcases hi with rfl | hi
              · simp [hb]
              · exact h3 i hi
            · intro i y z hy hz
              cases i with
              | zero =>
                simp only [List.getElem?_cons_zero, Option.some.injEq] at hy hz
                subst hy; subst hz
                exact .inl ⟨id, off, b, rfl, by simp [capIds], hb, rfl⟩
              | succ i =>
                rcases h4 i y z (by simpa using hy) (by simpa using hz) with ⟨i', o', b', e1, e2, e3, e4⟩ | h5
                · exact .inl ⟨i', o', b', e1, by simp [capIds, e2], e3, e4⟩
                · exact .inr h5
      · simp at h
    · have hc : capture D m (x :: r) = match capture D m r with
          | some (vs, m') => some (x.bare :: vs, m')
          | none => none := by
        cases x <;> first | rfl | exact absurd ⟨_, _, rfl⟩ hx
      have hi : capIds (x :: r) = capIds r := by
        cases x <;> first | rfl | exact absurd ⟨_, _, rfl⟩ hx
      rw [hc] at h
      cases hr : capture D m r with
      | none => simp [hr] at h
      | some q =>
        obtain ⟨vs, m1⟩ := q
        simp [hr] at h
        obtain ⟨rfl, rfl⟩ := h
        obtain ⟨h1, h2, h3, h4⟩ := capture_eq r vs m1 hr
        rw [hi]
        refine ⟨h1, by simp [h2], h3, fun i y z hy hz => ?_⟩
        cases i with
        | zero =>
          simp at hy hz
          subst hy; subst hz
          exact .inr ⟨fun id off he => hx ⟨id, off, he⟩, rfl⟩
        | succ i => exact h4 i y z (by simpa using hy) (by simpa using hz)

/-- Blocks that are written no more, and may be read. -/
def dropOwn (o : Own) (G : Nat → Prop) : Own := ⟨fun g off => o.W g off ∧ ¬ G g, fun g off => o.N g off ∧ ¬ (G g ∧ o.W g off), fun g off h => ⟨o.sub _ _ h.1, fun k => h.2 k.1⟩⟩
theorem Evo.dropOwn (o : Own) (G : Nat → Prop) (w : World) : Evo o w (dropOwn o G) w :=
  ⟨Nat.le_refl _, fun g cs el fr h => ⟨cs, h, rfl, fun _ _ => rfl⟩, fun _ _ h _ => h, fun _ _ _ h => h.1, fun _ _ _ h => h.1, fun _ _ _ h h' => ⟨h, fun k => h' k.2⟩, rfl, rfl, rfl⟩

theorem aop_makeFunc {f : FuncId} {fs caps : Array Operand} (hT : TRel c w t a) (hM : MemRel c m w) (h : aop P C ro D (.makeFunc (.func f) fs caps) d (opnd t) m = some (x, m')) :
    OpRes P c w m' x ((do pure (Next.value (← Instr.makeFunc (.func f) (fs.map a.eval) (caps.map a.eval))) : Sem Next).run P w) := by
  simp only [aop] at h
  split at h
  case isFalse => simp at h
  rename_i hfs
  subst hfs
  split at h
  case h_2 => simp at h
  rename_i vs m1 hcap
  simp at h
  obtain ⟨rfl, rfl⟩ := h
  obtain ⟨h1, h2, h3, h4⟩ := capture_eq _ _ _ hcap
  subst h1
  refine opres_of (v := .func (.func f) #[] (caps.map a.eval)) (w' := w) (by simp [Instr.makeFunc]) ?_
  let G : Nat → Prop := fun g => ∃ id ∈ capIds (List.map (opnd t) caps.toList), c.ρ id = some g
  have e := Evo.dropOwn c.own G w
  have hGbox : ∀ id bx g cs el, m.boxes id = some bx → c.ρ id = some g → id ∈ capIds (List.map (opnd t) caps.toList) → w.heap[g]? = some (.cells cs el (0, 0)) → ∀ off, off < cs.size → ¬ (dropOwn c.own G).N g off := by
    intro id bx g cs el hb hr hin hg off hoff hN
    obtain ⟨cs0, el0, k1, k2, k3, k4, k5⟩ := hM.box id bx g hb hr
    rw [hg] at k1; simp at k1; obtain ⟨rfl, rfl⟩ := k1
    by_cases hf : m.froz id = true
    · exact k5 hf off hoff hN.1
    · exact hN.2 ⟨⟨id, hin, hr⟩, k4 (by simpa using hf) off hoff⟩
  refine ⟨⟨dropOwn c.own G, c.ρ, c.ν⟩, e, ⟨fun _ _ h => h, fun _ _ _ h => h, fun _ _ h => h, fun _ _ _ h => .inl h⟩, ⟨hM.dom, fun id bx g hb hr => ?_, hM.inj, hM.names, fun a' b g en hs => ?_, hM.tipInj, hM.tipBox, fun g off h => hM.lt g off h.1⟩, .of_V (.fn f vs _ (by simp [h2]) fun j y v hy hv => ?_)⟩
  · obtain ⟨cs, el, k1, k2, k3, k4, k5⟩ := hM.box id bx g hb hr
    refine ⟨cs, el, k1, k2, fun j x v hx hv => ⟨(k3 j x v hx hv).1.mono e ⟨fun _ _ h => h, fun _ _ _ h => h, fun _ _ h => h, fun _ _ _ h => .inl h⟩, (k3 j x v hx hv).2⟩, fun hf off ho => ?_, fun hf off ho => ?_⟩
    · simp only at hf
      split at hf
      · simp at hf
      · rename_i hni
        refine ⟨k4 hf off ho, fun ⟨id', hid', hr'⟩ => ?_⟩
        obtain rfl := hM.inj _ _ _ hr hr'
        exact hni hid'
    · simp only at hf
      split at hf
      · rename_i hin
        exact hGbox id bx g cs el hb hr hin k1 off ho
      · exact fun hn => k5 hf off ho hn.1
  · obtain ⟨cs, el, k1, kl, k2⟩ := hM.tip a' b g en hs
    refine ⟨cs, el, k1, kl, fun off h1 h2 => ⟨k2 off h1 h2, fun ⟨id, _, hr⟩ => hM.tipBox _ _ _ _ _ hs hr⟩⟩
  · have hj : j < caps.size := by
      rcases Nat.lt_or_ge j vs.length with h' | h'
      · simp at h2; omega
      · simp [List.getElem?_eq_none, h'] at hy
    have hx : (List.map (opnd t) caps.toList)[j]? = some (opnd t caps[j]) := by simp [hj]
    have hv' : v = a.eval caps[j] := by simp [hj] at hv; exact hv.symm
    subst hv'
    rcases h4 j _ y hx hy with ⟨id, off, b, e1, e2, e3, rfl⟩ | ⟨_, rfl⟩
    · have hp := T_opnd hT caps[j]
      rw [e1] at hp
      obtain ⟨g, hr, hpv⟩ := T_ptr hp
      rw [hpv]
      obtain ⟨cv, hcv⟩ := box_cells hM e3 hr
      obtain ⟨cs, el, k1, k2, k3, k4, k5⟩ := hM.box id b g e3 hr
      have hb : ∀ (j : Nat) (y : AV), ((b.drop off).map AV.bare)[j]? = some y → ∃ y0, b[off + j]? = some y0 ∧ y = y0.bare := fun j y hy => by
        simp only [List.getElem?_map, List.getElem?_drop, Option.map_eq_some_iff] at hy
        obtain ⟨y0, h1, h2⟩ := hy
        exact ⟨y0, h1, h2.symm⟩
      refine .eptr _ _ (fun j => cv (off + j)) (fun j y hy => ?_) (fun j y hy => ?_) (fun j y hy => ?_)
      · obtain ⟨y0, hy0, rfl⟩ := hb j y hy
        have := (hcv _ _ hy0).1
        rw [add_plain] at this ⊢
        simp only [Nat.zero_add] at this
        refine ⟨this, hGbox id b g cs el e3 hr e2 k1 _ ?_⟩
        rw [k2]
        rcases Nat.lt_or_ge (off + j) b.length with h' | h'
        · exact h'
        · simp [List.getElem?_eq_none, h'] at hy0
      · obtain ⟨y0, hy0, rfl⟩ := hb j y hy
        exact ((hcv _ _ hy0).2.1.bare).mono e
      · obtain ⟨y0, hy0, rfl⟩ := hb j y hy
        exact (hcv _ _ hy0).2.2
    · exact ((T_opnd hT caps[j]).bare).mono e
end
end Ev
