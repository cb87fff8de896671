/- A verified evaluator, part K: append's run. -/
import Derived.Test.YtlmmgblghgmgeaaDoorEvJ
set_option linter.unusedVariables false
set_option linter.unusedSimpArgs false
namespace Ev
open Go
section
variable {P : Program} {c : Cfg} {w : World} {m m' : Mem} {t : Tmps} {a : Act} {C : Oracle} {ro : FuncId → Bool} {D : Option (List Nat)} {d : Nat} {x : AV}

theorem tbytes_run {e : TypeId} {b z : Nat} (hb : tbytes P e = some b) (hz : tsz P e = some z) : ∃ i : TypeInfo, P.info? e = some i ∧ i.bytes = b ∧ i.size = z := by
  unfold tbytes at hb
  unfold tsz at hz
  cases hi : P.info? e with
  | none => simp [hi] at hb
  | some i => simp [hi] at hb hz; exact ⟨i, rfl, hb, hz⟩

theorem append_room {t1 t2 ty e e2 : TypeId} {z len cap n cap2 : Nat} {ad ad2 : Option Addr} {new : Array Value} (hu : P.underlying t1 = some (.slice e)) (hu2 : P.underlying t2 = some (.slice e2)) (hz : tsz P e = some z)
    (hn : (Builtin.firstCells z n (.slice ad2 n cap2)).run P w = .ok new w) (hle : len + n ≤ cap) :
    (Builtin.append_ #[t1, t2] ty #[.slice ad len cap, .slice ad2 n cap2]).run P w =
      (((match ad with | some a => storeCells (a.add (len * z)) new.toList | none => pure () : Sem Unit).run P w).andThen fun _ w' => .ok (.slice ad (len + n) cap) w') := by
  unfold Builtin.append_
  simp only [List.getElem?_toArray, List.getElem?_cons_zero, List.getElem?_cons_succ, Sem.run_bind, run_underlying hu, run_underlying hu2, Result.andThen_ok, run_tsz hz, Sem.run_pure, Builtin.lenOf, Bool.false_eq_true, if_false, Bool.not_false, if_true, hle, hn]
  cases ad
  · rfl
  · simp only [Sem.run_bind, Sem.run_pure]

theorem append_grow {t1 t2 ty e e2 : TypeId} {z b len cap n cap2 : Nat} {ad ad2 : Option Addr} {new old : Array Value} {zv : Value} (hu : P.underlying t1 = some (.slice e)) (hu2 : P.underlying t2 = some (.slice e2)) (hz : tsz P e = some z) (hb : tbytes P e = some b)
    (hb0 : b ≠ 0) (hzv : ∀ w, (zeroValue e).run P w = .ok zv w) (hbig : (len + n) * b ≤ 70368744177664)
    (hn : ∀ w', w'.heap = w.heap → (Builtin.firstCells z n (.slice ad2 n cap2)).run P w' = .ok new w') (ho : ∀ w', w'.heap = w.heap → (Builtin.firstCells z len (.slice ad len cap)).run P w' = .ok old w') (hgt : ¬ len + n ≤ cap) :
    ∃ nc, len + n ≤ nc ∧ (Builtin.append_ #[t1, t2] ty #[.slice ad len cap, .slice ad2 n cap2]).run P w =
      .ok (.slice (some ⟨w.heap.size, 0, none⟩) (len + n) nc) (w.drew.alloc (.cells (old ++ new ++ Builtin.zeroCells zv.cells (nc - (len + n))) e)) := by
  obtain ⟨i, hi, rfl, rfl⟩ := tbytes_run hb hz
  have hsm : len + n ≤ 70368744177664 := Nat.le_trans (Nat.le_mul_of_pos_right _ (by omega)) hbig
  have hcap2 : ¬ Builtin.nextslicecap (len + n) cap * i.bytes > 2 ^ 48 := by
    have := nextcap_le (need := len + n) (cap := cap) (by omega)
    have h2 : Builtin.nextslicecap (len + n) cap * i.bytes ≤ 2 * (len + n) * i.bytes := Nat.mul_le_mul_right _ this
    have h3 : 2 * (len + n) * i.bytes = 2 * ((len + n) * i.bytes) := by rw [Nat.mul_assoc]
    omega
  refine ⟨len + n + w.tape w.drawn (.appendCap (len + n) cap e) % (2 ^ 63 - (len + n)), by omega, ?_⟩
  unfold Builtin.append_
  have hq : Question.forced (.appendCap (len + n) cap e) = false := rfl
  simp only [List.getElem?_toArray, List.getElem?_cons_zero, List.getElem?_cons_succ, Sem.run_bind, run_underlying hu, run_underlying hu2, Result.andThen_ok, run_tsz hz, Sem.run_pure, Builtin.lenOf, Bool.false_eq_true, if_false, Bool.not_false, if_true, hgt,
    typeInfo, run_program, hi, hb0, or_self, and_false, hcap2, run_choose, hq, Question.cut, run_askRoom]
  rw [World.drew_eq, ho w.drew rfl]
  simp only [Result.andThen_ok]
  rw [hn w.drew rfl]
  simp [hzv, newRow]

theorem aop_append {Dl : List Nat} {t1 t2 ty e e2 : TypeId} {s s2 : Nat} {els news : List (List AV)} {tok : Tok} {u v : Value} (hM : MemRel c m w) (hu : P.underlying t1 = some (.slice e)) (hu2 : P.underlying t2 = some (.slice e2))
    (hx : T c w (.sl s els tok) u) (hy : V c.own w (.sl s2 news .none) v) (hs2 : some s2 = tsz P e ∨ news = []) (h : aappend P Dl d e m (.sl s els tok) news = some (x, m')) :
    OpRes P c w m' x ((do pure (Next.value (← Builtin.append_ #[t1, t2] ty #[u, v])) : Sem Next).run P w) := by
  simp only [aappend] at h
  split at h
  case h_2 => simp at h
  rename_i z by_ zv hz hb hzv
  split at h
  case isFalse => simp at h
  rename_i hc
  obtain ⟨hb0, hz0, hzval, hzl, hbig, hse, hd⟩ := hc
  obtain ⟨rfl, rfl, ht, hal⟩ : x = .sl z (els ++ news) (.row d 0) ∧ m' = { m with names := nApp m.names tok d } ∧ tok ≠ .none ∧ ∀ p q, tok = .row p q → m.names p q = some true := by
    cases tok with
    | none => simp at h
    | nil => simp at h; exact ⟨h.1.symm, h.2.symm, by simp, by simp⟩
    | clip => simp at h; exact ⟨h.1.symm, h.2.symm, by simp, by simp⟩
    | row p q =>
      simp at h
      obtain ⟨⟨h1, _⟩, h2, h3⟩ := h
      exact ⟨h2.symm, h3.symm, by simp, fun p' q' he => by simp at he; obtain ⟨rfl, rfl⟩ := he; exact h1⟩
  obtain ⟨zvv, rfl, hzrun⟩ := run_zero hzv
  have hzsz : zvv.cells.size = z := by rw [(V.cells hzval (V_ofValue c.own w zvv)).1, hzl]
  obtain ⟨ad, len, cap, rfl, hlen, hcase⟩ := tok_before hM hx ht hal
  obtain ⟨ad2, n, cap2, cv2, rfl, hn, hcap2, hel2, hc2, hv2, _, _⟩ := V_sl hy
  have hold := T_sl hx
  obtain ⟨_, _, _, _, heq0, _, hcap, hel1, _⟩ := V_sl hold
  simp at heq0
  obtain ⟨rfl, rfl, rfl⟩ := heq0
  have hs2' : s2 = z ∨ news = [] := hs2.imp (fun h => by rw [hz] at h; simpa using h) id
  have hse' : s = z ∨ els = [] := hse.imp id And.left
  have hel : ∀ e ∈ els, e.length = z := fun e he => by
    rcases hse' with rfl | rfl
    · exact hel1 e he
    · simp at he
  have hnl : ∀ e ∈ news, e.length = z := fun e he => by
    rcases hs2' with rfl | rfl
    · exact hel2 e he
    · simp at he
  obtain ⟨old, o1, o2, o3, o4⟩ := firstCells_run (P := P) hold hse'
  obtain ⟨new, n1, n2, n3, n4⟩ := firstCells_run (P := P) hy hs2'
  have hV0 : V c.own w (.sl z els .none) (.slice ad len cap) := by
    rcases hse' with rfl | rfl
    · exact hold
    · simp at hlen; subst hlen; exact V_empty
  by_cases hroom : len + n ≤ cap
  · have hrun := append_room (P := P) (w := w) (ty := ty) (ad := ad) hu hu2 hz (n1 w rfl) hroom
    rcases hcase with hcl | ⟨p, q, g, en, o, cs, el, htok, hν, rfl, hen, hheap, hocap⟩
    · have hn0 : n = 0 := by omega
      subst hn0
      have hnews : news = [] := List.length_eq_zero_iff.1 hn.symm
      subst hnews
      have hnew : new = #[] := Array.eq_empty_of_size_eq_zero (by rw [n2]; omega)
      refine opres_of (v := .slice ad (len + 0) cap) (w' := w) ?_ ?_
      · rw [hrun, hnew]
        cases ad <;> simp [storeCells]
      · refine ⟨⟨c.own, c.ρ, νApp c.ν tok d (.alive none)⟩, .refl _ _, νApp_ext hM hd hal _, hM.app hd hal (.refl _ _) (fun id g _ => ⟨fun _ h => h, fun _ _ h => h⟩) (fun _ _ _ _ _ _ _ h => h) (fun g en h => by simp at h) hM.lt, ?_⟩
        show V c.own w (.sl z (els ++ []) .none) (.slice ad (len + 0) cap) ∧ Tip w z (els ++ []).length (νApp c.ν tok d (.alive none) d 0) (.slice ad (len + 0) cap)
        refine ⟨by simpa using hV0, ?_⟩
        have hst : νApp c.ν tok d (.alive none) d 0 = .alive none := by cases tok <;> simp [νApp, updS]
        rw [hst]
        exact ⟨ad, by simp [hlen, hcl]⟩
    · have hsz : s = z := hse.resolve_right (fun h => by rw [htok] at h; simp at h)
      subst hsz
      have hmul : (len + n) * s ≤ cap * s := Nat.mul_le_mul_right s hroom
      rw [Nat.add_mul] at hmul
      obtain ⟨cs1, el1, t1', tl', t2'⟩ := hM.tip p q g en hν
      rw [hheap] at t1'; simp at t1'; obtain ⟨rfl, rfl⟩ := t1'
      have hnl' : new.toList.length = n * s := by simpa using n2
      obtain ⟨w', cs', s1, s2', s3, s4, s5, s6, s7⟩ := run_storeCells (P := P) (g := g) (el := el) new.toList 0 (o + len * s) w cs hheap (by omega) (fun u hu' => by
        obtain ⟨k, hk, rfl⟩ := List.mem_iff_getElem.1 hu'
        exact n4 k _ (by simp at hk ⊢))
      have e := s4 c.own fun k h1 h2 => t2' k (by omega) (by omega)
      let S : Nat → Nat → Prop := fun g' off => g' = g ∧ en ≤ off ∧ off < en + n * s
      have e2 := e.trans (Evo.dropSet c.own S w')
      have hS : ∀ g' off, g' ≠ g → ((dropSet c.own S).W g' off ↔ c.own.W g' off) := fun g' off hne => ⟨fun h => h.1, fun h => ⟨h, fun h' => hne h'.1⟩⟩
      refine opres_of (v := .slice (some ⟨g, o, none⟩) (len + n) cap) (w' := w') ?_ ?_
      · rw [hrun]
        simp only [add_plain, s1, Result.andThen_ok]
      · let tt : Option (Nat × Nat) := if len + n = cap then none else some (g, en + n * s)
        have hext := νApp_ext (t := tt) hM hd hal (dropSet c.own S)
        refine ⟨⟨dropSet c.own S, c.ρ, νApp c.ν tok d (.alive tt)⟩, e2, hext, ?_, ?_⟩
        · refine hM.app hd hal e2 (fun id g' hid => ?_) (fun p' q' g' en' hν' hne off hW => ?_) (fun g' en' h => ?_) (fun g' off h => ?_)
          · have hne : g' ≠ g := fun h => hM.tipBox _ _ _ _ _ hν (h ▸ hid)
            exact ⟨fun off h => (hS g' off hne).2 h, fun cs el h => by rw [s7 g' hne]; exact h⟩
          · have hne' : g' ≠ g := fun h => by
              subst h
              obtain ⟨h1, h2⟩ := hM.tipInj _ _ _ _ _ _ _ hν' hν
              exact hne (by rw [htok, h1, h2])
            exact (hS g' off hne').2 hW
          · simp only [tt] at h
            split at h
            · simp at h
            rename_i hnc
            simp at h
            obtain ⟨rfl, rfl⟩ := h
            refine ⟨⟨cs', el, s2', by
              have : (len + n + 1) * s ≤ cap * s := Nat.mul_le_mul_right s (by omega)
              rw [Nat.add_mul, Nat.add_mul, Nat.one_mul] at this
              omega, fun off h1 h2 => ⟨t2' off (by omega) (by omega), fun h3 => by have := h3.2.2; omega⟩⟩, fun id hid => hM.tipBox _ _ _ _ _ hν hid, fun p' q' en' h' => ?_⟩
            obtain ⟨h1, h2⟩ := hM.tipInj _ _ _ _ _ _ _ h' hν
            rw [htok, h1, h2]
          · exact Nat.lt_of_lt_of_le (hM.lt _ _ h.1) e.size
        · have hst : νApp c.ν tok d (.alive tt) d 0 = .alive tt := by cases tok <;> simp [νApp, updS]
          have hVw : ∀ {y : AV} {u : Value}, V c.own w y u → V (dropSet c.own S) w' y u := fun h => h.mono e2
          obtain ⟨_, _, _, cv0, heq1, _, _, _, hc0, hv0, _, _⟩ := V_sl hV0
          simp at heq1
          obtain ⟨rfl, rfl, rfl⟩ := heq1
          refine (⟨V_append (ad := ⟨g, o, none⟩) (cs := cs') (el := el) s2' rfl (fun k hk => ?_) (by omega) hroom hel hnl (fun i j e x hi hj => ?_) (fun i j e x hi hj => ?_), ?_⟩ : V (dropSet c.own S) w' _ _ ∧ Tip w' s (els ++ news).length (νApp c.ν tok d (.alive tt) d 0) _)
          · intro hN
            rw [Nat.add_mul] at hk
            rcases Nat.lt_or_ge k (len * s) with h1 | h1
            · -- an old element's cell
              have hs0 : 0 < s := by
                rcases Nat.eq_zero_or_pos s with h0 | h0
                · subst h0; omega
                · exact h0
              have hi : k / s < els.length := by rw [← hlen]; exact Nat.div_lt_of_lt_mul (by rw [Nat.mul_comm]; exact h1)
              have hj : k % s < els[k / s].length := by rw [hel _ (List.getElem_mem hi)]; exact Nat.mod_lt _ hs0
              obtain ⟨ad', ha, _, hno⟩ := hc0 (k / s) (k % s) els[k / s] (els[k / s][k % s]) (by simp [hi]) (by simp [hj])
              simp at ha; subst ha
              rw [Nat.div_add_mod' k s] at hno
              exact hno hN.1
            · exact hN.2 ⟨⟨rfl, by simp only; omega, by simp only; omega⟩, t2' _ (by simp only; omega) (by simp only; omega)⟩
          · obtain ⟨ad', ha, hcell, hno⟩ := hc0 i j e x hi hj
            simp at ha; subst ha
            rw [add_plain, heap_cell hheap] at hcell
            have hi' : i < els.length := by
              rcases Nat.lt_or_ge i els.length with h' | h'
              · exact h'
              · simp [List.getElem?_eq_none, h'] at hi
            have hj' : j < s := by
              have := hel e (List.mem_of_getElem? hi)
              rcases Nat.lt_or_ge j e.length with h' | h'
              · omega
              · simp [List.getElem?_eq_none, h'] at hj
            have hlt : i * s + j < len * s := by
              have : (i + 1) * s ≤ len * s := Nat.mul_le_mul_right s (by omega)
              rw [Nat.add_mul, Nat.one_mul] at this
              omega
            refine ⟨cv0 i j, ?_, hVw (hv0 i j e x hi hj).1, (hv0 i j e x hi hj).2⟩
            show cs'[o + (i * s + j)]? = _
            rw [s5 _ (by omega)]
            exact hcell
          · obtain ⟨u, hu1, hu2', hu3⟩ := n3 i j e x hi hj
            refine ⟨u, ?_, hVw hu2', hu3⟩
            have hk : i * s + j < n * s := by
              rcases Nat.lt_or_ge (i * s + j) new.size with h' | h'
              · omega
              · simp [h'] at hu1
            have := s6 (i * s + j) (by omega)
            rw [show (els.length + i) * s = len * s + i * s by rw [← hlen, Nat.add_mul]]
            rw [show o + (len * s + i * s + j) = o + len * s + 0 + (i * s + j) by omega, this]
            simpa using hu1
          · rw [hst]
            simp only [tt]
            split
            · rename_i hnc
              exact ⟨_, by rw [List.length_append, ← hlen, ← hn, hnc]⟩
            refine ⟨o, cap, cs', el, by rw [List.length_append, ← hlen, ← hn], by rw [hen]; simp only [List.length_append, Nat.add_mul]; rw [← hlen, ← hn]; omega, s2', by omega⟩
  · obtain ⟨nc, hnc, hrun⟩ := append_grow (P := P) (w := w) (ty := ty) (ad := ad) (ad2 := ad2) (cap := cap) hu hu2 hz hb hb0 hzrun (by rw [hlen, hn]; exact hbig) n1 o1 hroom
    let cs : Array Value := old ++ new ++ Builtin.zeroCells zvv.cells (nc - (len + n))
    have hzc : (Builtin.zeroCells zvv.cells (nc - (len + n))).size = (nc - (len + n)) * z := by simp [Builtin.zeroCells, hzsz]
    have hcsz : cs.size = nc * z := by
      simp only [cs, Array.size_append, o2, n2, hzc]
      rw [← Nat.add_mul, ← Nat.add_mul, show len + n + (nc - (len + n)) = nc by omega]
    let W : World := w.drew.alloc (.cells cs e)
    have hheap : W.heap[w.heap.size]? = some (.cells cs e (0, 0)) := heap_new w.drew _
    let own' : Own := ⟨fun g off => c.own.W g off ∨ (g = w.heap.size ∧ (len + n) * z ≤ off), fun g off => c.own.N g off ∨ (g = w.heap.size ∧ (len + n) * z ≤ off), fun g off h => h.imp (c.own.sub g off) id⟩
    have ev : Evo c.own w own' W := by
      refine ⟨by show w.heap.size ≤ (w.heap.push _).size; simp, fun g cs' el fr h => ⟨cs', by show (w.heap.push _)[g]? = _; rw [Array.getElem?_push, if_neg (Nat.ne_of_lt (lt_of_heap h))]; exact h, rfl, fun _ _ => rfl⟩,
        fun g o' h _ => by show (w.heap.push _)[g]? = _; rw [Array.getElem?_push, if_neg (Nat.ne_of_lt (lt_of_heap h))]; exact h, fun g off hg h => h.resolve_right (fun k => by omega), fun g off hg h => h.resolve_right (fun k => by omega), fun g off hg h _ => .inl h, rfl, rfl, rfl⟩
    have hWold : ∀ g : Nat, g < w.heap.size → W.heap[g]? = w.heap[g]? := fun g hg => by show (w.heap.push _)[g]? = _; rw [Array.getElem?_push, if_neg (Nat.ne_of_lt hg)]
    let tt : Option (Nat × Nat) := if nc = len + n then none else some (w.heap.size, (len + n) * z)
    refine opres_of hrun ⟨⟨own', c.ρ, νApp c.ν tok d (.alive tt)⟩, ev, νApp_ext hM hd hal _, ?_, ?_⟩
    · have hltρ : ∀ id g, c.ρ id = some g → g < w.heap.size := fun id g hi => by
        have hs := hM.dom id
        rw [hi] at hs
        cases hb : m.boxes id with
        | none => simp [hb] at hs
        | some bx =>
          obtain ⟨cs', el', k1, _⟩ := hM.box id bx g hb hi
          exact lt_of_heap k1
      refine hM.app hd hal ev (fun id g hid => ⟨fun _ h => .inl h, fun cs el h => by rw [hWold g (lt_of_heap h)]; exact h⟩) (fun _ _ _ _ _ _ _ h => .inl h) (fun g en h => ?_) (fun g off h => ?_)
      · simp only [tt] at h
        split at h
        · simp at h
        rename_i hne
        simp at h
        obtain ⟨rfl, rfl⟩ := h
        refine ⟨⟨cs, e, hheap, by rw [hcsz]; exact Nat.mul_lt_mul_of_pos_right (Nat.lt_of_le_of_ne hnc (fun h => hne h.symm)) (Nat.pos_of_ne_zero hz0), fun off h1 _ => .inr ⟨rfl, h1⟩⟩, fun id hid => by have := hltρ id _ hid; omega, fun p q en' h' => ?_⟩
        obtain ⟨cs', el', k1, _⟩ := hM.tip _ _ _ _ h'
        have := lt_of_heap k1
        omega
      · rcases h with h | h
        · exact Nat.lt_of_lt_of_le (hM.lt _ _ h) ev.size
        · show g < (w.heap.push _).size; simp; omega
    · have hst : νApp c.ν tok d (.alive tt) d 0 = .alive tt := by cases tok <;> simp [νApp, updS]
      have hVw : ∀ {y : AV} {u : Value}, V c.own w y u → V own' W y u := fun h => h.mono ev
      have hosz : old.size = len * z := o2
      refine (⟨V_append (ad := ⟨w.heap.size, 0, none⟩) (cs := cs) (el := e) hheap rfl (fun k hk => ?_) (by omega) hnc hel hnl (fun i j e x hi hj => ?_) (fun i j e x hi hj => ?_), ?_⟩ : V own' W _ _ ∧ Tip W z (els ++ news).length (νApp c.ν tok d (.alive tt) d 0) _)
      · rintro (h | h)
        · have := hM.lt _ _ h; simp at this
        · have := h.2; simp only at this; omega
      · obtain ⟨u, hu1, hu2', hu3⟩ := o3 i j e x hi hj
        have hk : i * z + j < old.size := by
          rcases Nat.lt_or_ge (i * z + j) old.size with h' | h'
          · exact h'
          · simp [h'] at hu1
        refine ⟨u, ?_, hVw hu2', hu3⟩
        simp only [cs, Nat.zero_add]
        rw [Array.append_assoc, Array.getElem?_append_left hk]
        exact hu1
      · obtain ⟨u, hu1, hu2', hu3⟩ := n3 i j e x hi hj
        have hk : i * z + j < new.size := by
          rcases Nat.lt_or_ge (i * z + j) new.size with h' | h'
          · exact h'
          · simp [h'] at hu1
        refine ⟨u, ?_, hVw hu2', hu3⟩
        simp only [cs, Nat.zero_add]
        rw [Nat.add_mul, ← hlen, Nat.add_assoc, Array.getElem?_append_left (by simp [o2]; omega), Array.getElem?_append_right (by rw [o2]; omega), o2]
        rw [show len * z + (i * z + j) - len * z = i * z + j by omega]
        exact hu1
      · rw [hst]
        simp only [tt]
        split
        · rename_i hnc'
          exact ⟨_, by rw [List.length_append, ← hlen, ← hn, hnc']⟩
        exact ⟨0, nc, cs, e, by rw [List.length_append, ← hlen, ← hn], by simp only [List.length_append]; rw [← hlen, ← hn]; omega, hheap, by omega⟩
end
end Ev
