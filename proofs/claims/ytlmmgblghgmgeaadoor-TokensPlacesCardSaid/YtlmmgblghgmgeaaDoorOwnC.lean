/- A verified evaluator, slices of one's own, part C: stores into them, what is appended to them. -/
import Derived.Test.YtlmmgblghgmgeaaDoorOwnB
set_option linter.unusedVariables false
set_option linter.unusedSimpArgs false
namespace Ev
open Go Go.RowKit

def getO : List OS → Nat → Option OS
  | [], _ => none
  | o :: r, s => if o.slot = s then some o else getO r s
def dropO : List OS → Nat → List OS
  | [], _ => []
  | o :: r, s => if o.slot = s then dropO r s else o :: dropO r s
def setO (O : List OS) (o : OS) : List OS := o :: dropO O o.slot
theorem getO_mem : ∀ {O : List OS} {s : Nat} {o : OS}, getO O s = some o → o ∈ O ∧ o.slot = s
  | [], s, o, h => by simp [getO] at h
  | x :: r, s, o, h => by
    unfold getO at h
    split at h
    · rename_i hx
      simp only [Option.some.injEq] at h
      subst h
      exact ⟨by simp, hx⟩
    · obtain ⟨h1, h2⟩ := getO_mem h
      exact ⟨List.mem_cons_of_mem _ h1, h2⟩
theorem dropO_mem : ∀ {O : List OS} {s : Nat} {o : OS}, o ∈ dropO O s → o ∈ O ∧ o.slot ≠ s
  | [], s, o, h => by simp [dropO] at h
  | x :: r, s, o, h => by
    unfold dropO at h
    split at h
    · obtain ⟨h1, h2⟩ := dropO_mem h
      exact ⟨List.mem_cons_of_mem _ h1, h2⟩
    · rename_i hx
      rcases List.mem_cons.1 h with rfl | h
      · exact ⟨by simp, hx⟩
      · obtain ⟨h1, h2⟩ := dropO_mem h
        exact ⟨List.mem_cons_of_mem _ h1, h2⟩

section
variable {P : Program} {c c' c2 : Cfg} {w w' w2 : World} {m m2 : Mem} {t t' t2 : Tmps} {a a' : Act} {N : Nat} {o0 : Own} {w0 : World} {c0 : Cfg} {O O' : List OS} {ops : Array Oper}

theorem wpOp_value {i : Nat} {o : Oper} {v : Value} {Q : Exit → Act → World → Prop} {K : Act → World → Prop} (hi : ops[i]? = some o) (hg : o.guard = none) (h : (execOp a.eval o).run P w = .ok (.value v) w') (hK : K (a.put o.dst v) w') : wpOp P ops Q i K a w := by
  unfold wpOp
  rw [hi]
  simp only [Region.wanted, hg, if_true]
  exact .inl (by unfold Oper.wp; rw [h]; exact hK)
theorem wpOp_skip {i : Nat} {o : Oper} {Q : Exit → Act → World → Prop} {K : Act → World → Prop} (hi : ops[i]? = some o) (hg : o.guard = none) (h : (execOp a.eval o).run P w = .ok .skip w') (hK : K (a.put o.dst undef) w') : wpOp P ops Q i K a w := by
  unfold wpOp
  rw [hi]
  simp only [Region.wanted, hg, if_true]
  exact .inl (by unfold Oper.wp; rw [h]; exact hK)
theorem wpOp_enter {i : Nat} {o : Oper} {f : FuncId} {args : Array Value} {Q : Exit → Act → World → Prop} {K : Act → World → Prop} (hi : ops[i]? = some o) (hg : o.guard = none) (h : (execOp a.eval o).run P w = .ok (.enter f args) w') (hK : Calls P f args w' fun e w'' => ∃ v, e = .returned v ∧ K (a.put o.dst v) w'') : wpOp P ops Q i K a w := by
  unfold wpOp
  rw [hi]
  simp only [Region.wanted, hg, if_true]
  refine .inl ?_
  unfold Oper.wp
  rw [h]
  refine hK.mono ?_
  rintro e w'' ⟨v, rfl, hk⟩
  exact hk

/-- A step that turns one block of one's own, or makes one. -/
theorem SRO.turn (h : SRO P N o0 w0 c0 c w t m O a) {own' : Own} {G : Nat} (hW : own'.W = c.own.W) (hN : ∀ g off, g < w.heap.size → (own'.N g off ↔ c.own.N g off))
    (hsame : ∀ g, g < w.heap.size → g ≠ G → w'.heap[g]? = w.heap[g]?)
    (hG : G < w.heap.size → w0.heap.size ≤ G ∧ (∀ off, c.own.N G off ∧ ¬ c.own.W G off) ∧ ∃ cs el cs', w.heap[G]? = some (.cells cs el (0, 0)) ∧ 0 < cs.size ∧ w'.heap[G]? = some (.cells cs' el (0, 0)) ∧ cs'.size = cs.size)
    (hsz : w.heap.size ≤ w'.heap.size) (hos : w'.os = w.os) (htp : w'.tape = w.tape) (hou : w'.output = w.output) (hlt : ∀ g off, own'.N g off → g < w'.heap.size)
    (hT : ∀ i, t' i = t i ∧ a'.tmps.getD i undef = a.tmps.getD i undef ∨ t' i = .undef) (hd : a'.defers = []) (hs : N ≤ a'.tmps.size)
    (how : ∃ gs : Nat → Option Nat, (∀ s ∈ O', OwnedAt ⟨own', c.ρ, c.ν⟩ w' w0.heap.size (a'.tmps.getD s.slot undef) s (gs s.slot)) ∧ ∀ s ∈ O', ∀ s' ∈ O', ∀ g, gs s.slot = some g → gs s'.slot = some g → s.slot = s'.slot) :
    SRO P N o0 w0 c0 ⟨own', c.ρ, c.ν⟩ w' t' m O' a' := by
  have hcells : ∀ (g : Nat) (cs : Array Value) (el : TypeId) (fr : Nat × Nat), w.heap[g]? = some (.cells cs el fr) → ∃ cs' : Array Value, w'.heap[g]? = some (.cells cs' el fr) ∧ cs'.size = cs.size := fun g cs el fr hg => by
    by_cases hgG : g = G
    · subst hgG
      obtain ⟨_, _, cs1, el1, cs2, h1, _, h3, h4⟩ := hG (lt_of_heap hg)
      rw [hg] at h1
      simp at h1
      obtain ⟨rfl, rfl, rfl⟩ := h1
      exact ⟨cs2, h3, h4⟩
    · exact ⟨cs, by rw [hsame g (lt_of_heap hg) hgG]; exact hg, rfl⟩
  have k : Kp c.own own' w w' := ⟨fun ad v hc hn => by
    obtain ⟨hsp, cs, el, fr, hb, hv⟩ := cell_heap hc
    have hlt' := lt_of_heap hb
    have hgG : ad.block ≠ G := fun he => hn (by rw [he]; exact ((hG (he ▸ hlt')).2.1 _).1)
    refine ⟨?_, fun hk => hn ((hN _ _ hlt').1 hk)⟩
    obtain ⟨ab, ao, as⟩ := ad
    simp only at hsp hb hv hgG
    subst hsp
    rw [heap_cell (by rw [hsame ab hlt' hgG]; exact hb), hv], hcells⟩
  have hw0 : w0.heap.size ≤ w.heap.size := h.ev.size
  have hlow : ∀ g, g < w0.heap.size → g < w.heap.size ∧ g ≠ G := fun g hg => ⟨by omega, fun he => by
    subst he
    have := (hG (by omega)).1
    omega⟩
  refine ⟨⟨fun i => ?_, ?_, ?_, hd, hs⟩, ?_, h.low, how⟩
  · rcases hT i with ⟨h1, h2⟩ | h1
    · rw [h1, h2]
      exact (h.sr.T i).keep k (fun _ _ h => h) (fun _ _ => .inl rfl)
    · rw [h1]; exact .of_V (.undef _)
  · refine h.sr.M.keep (c' := ⟨own', c.ρ, c.ν⟩) k rfl rfl (fun g off _ hk => by simp only; rw [hW]; exact hk) (fun g off hg hk => (hN g off hg).1 hk) (fun id g hid cs el hg => ?_) hlt
    by_cases hgG : g = G
    · exfalso
      subst hgG
      obtain ⟨_, h1, cs1, el1, cs2, h2, h3, _⟩ := hG (lt_of_heap hg)
      have hdom := h.sr.M.dom id
      rw [hid] at hdom
      obtain ⟨bx, hbx⟩ := Option.isSome_iff_exists.1 hdom
      obtain ⟨cs3, el3, q1, q2, q3, q4, q5⟩ := h.sr.M.box id bx g hbx hid
      rw [h2] at q1
      simp at q1
      obtain ⟨rfl, rfl⟩ := q1
      cases hf : m.froz id with
      | false => exact (h1 0).2 (q4 hf 0 h3)
      | true => exact q5 hf 0 h3 (h1 0).1
    · rw [hsame g (lt_of_heap hg) hgG]; exact hg
  · intro e he g hg
    obtain ⟨⟨el, fr, q1⟩, q2⟩ := h.sr.G e he g hg
    have hgl := lt_of_heap q1
    have hgG : g ≠ G := fun hk => q2 0 (by rw [hk]; exact ((hG (hk ▸ hgl)).2.1 0).1)
    exact ⟨⟨el, fr, by rw [hsame g hgl hgG]; exact q1⟩, fun off hk => q2 off ((hN g off hgl).1 hk)⟩
  · have e := h.ev
    refine ⟨Nat.le_trans e.size hsz, fun g cs el fr hg => ?_, fun g o hg ho => ?_, fun g off hg hk => ?_, fun g off hg hk => ?_, fun g off hg h1 h2 => ?_, hos.trans e.os, htp.trans e.tape, hou.trans e.output⟩
    · obtain ⟨cs', h1, h2, h3⟩ := e.cells g cs el fr hg
      obtain ⟨q1, q2⟩ := hlow g (lt_of_heap hg)
      exact ⟨cs', by rw [hsame g q1 q2]; exact h1, h2, h3⟩
    · obtain ⟨q1, q2⟩ := hlow g (lt_of_heap hg)
      rw [hsame g q1 q2]; exact e.other g o hg ho
    · simp only at hk; rw [hW] at hk; exact e.wr g off hg hk
    · exact e.no g off hg ((hN g off (hlow g hg).1).1 hk)
    · exact (hN g off (hlow g hg).1).2 (e.hid g off hg h1 h2)

/-- Which slot holds the slice's value. -/
def isCopy (ops : Array Oper) (n s x : Nat) : Bool := !(dn ops n).contains s && (x == s || (ops.toList.take n).any fun o => o.dst == some x && copyOf o == some s)
theorem copy_val {n s x : Nat} (h : isCopy ops n s x = true) (hT : Track ops n (fun _ => True) a a') : a'.tmps.getD x undef = a.tmps.getD s undef := by
  simp only [isCopy, Bool.and_eq_true, Bool.not_eq_true', Bool.or_eq_true, beq_iff_eq, List.any_eq_true] at h
  obtain ⟨h1, h2⟩ := h
  have h1' : s ∉ dn ops n := by simpa using h1
  rcases h2 with rfl | ⟨o, ho, h3, h4⟩
  · exact hT.frame x h1'
  · obtain ⟨k, hk, rfl⟩ := List.mem_iff_getElem.1 ho
    have hk2 : k < n := by rw [List.length_take] at hk; omega
    have hk3 : ops[k]? = some ((ops.toList.take n)[k]) := by
      rw [List.length_take] at hk
      simp
    exact hT.copies k _ x s hk3 hk2 trivial h3 h4 h1'

/-- A store into a slice of one's own. -/
theorem own_store {n s x p : Nat} {ty ty2 : TypeId} {ix xv : Operand} {oi os : Oper} {Q : Exit → Act → World → Prop} {o : OS} {kd : IntKind} {kk : Int} {e : TypeId}
    (h : SRO P N o0 w0 c0 c w t m O a) (h2 : SR P N c2 w2 t2 m2 a') (ev : Evo noOwn w c2.own w2) (hTr : Track ops n (fun _ => True) a a') (hO : ∀ s ∈ O, s.slot ∉ dn ops n) (hp : ∀ s ∈ O, s.slot ≠ p)
    (hcopy : isCopy ops n s x = true) (hsz : n + 2 = ops.size) (hi : ops[n]? = some oi) (hs : ops[n + 1]? = some os) (gi : oi.guard = none) (gs : os.guard = none) (hdi : oi.dst = some p) (hds : os.dst = none)
    (hoi : oi.op = .indexAddr ty (.tmp x) ix) (hos : os.op = .store ty2 (.tmp p) xv) (hxv : xv ≠ .tmp p) (hpN : p < N)
    (ho : getO O s = some o) (hix : opnd t2 ix = .int kd kk) (h0 : 0 ≤ kk) (hlt : kk < o.els.length) (hel : elemT P ty = some e) (hz : tsz P e = some o.z) (hz2 : tsz P ty2 = some o.z) (hz0 : o.z ≠ 0)
    (hval : (opnd t2 xv).isVal = true) (hsc : (opnd t2 xv).cells.all AV.scalar = true) (hcl : (opnd t2 xv).cells.length = o.z)
    (hQ : ∀ c' a' w', SRO P N o0 w0 c0 c' w' (upd (after (dn ops n) t2 t) p .undef) m (setO O ⟨s, o.z, o.els.set kk.toNat (opnd t2 xv).cells⟩) a' → Q .normal a' w') :
    wpOps P ops Q (List.range' n (ops.size - n)) a' w2 := by
  have hE := view_end (l := dn ops n) h h2 ev hTr.frame hO
  obtain ⟨hoO, hos1⟩ := getO_mem ho
  obtain ⟨gsf, k1, k2⟩ := hE.ow
  have hown := k1 o hoO
  have hxval := copy_val hcopy hTr
  have hsval : a'.tmps.getD s undef = a.tmps.getD s undef := hTr.frame s (by rw [← hos1]; exact hO o hoO)
  rw [hos1] at hown
  cases hgs : gsf s with
  | none =>
    rw [hgs] at hown
    rw [hown.1] at hlt
    simp at hlt; omega
  | some g =>
  rw [hgs] at hown
  obtain ⟨cap, cs, el, v1, v2, v3, v4, v5, v6, v7, v8⟩ := hown
  have hxv1 : a'.tmps.getD x undef = .slice (some ⟨g, 0, none⟩) o.els.length cap := by rw [hxval, ← hsval, v1]
  have hkk : kk.toNat < o.els.length := by omega
  have hmul : (kk.toNat + 1) * o.z ≤ cap * o.z := Nat.mul_le_mul_right _ (by omega)
  rw [Nat.add_mul, Nat.one_mul] at hmul
  have hsz2 : ops.size - n = 2 := by omega
  rw [hsz2]
  show wpOps P ops Q [n, n + 1] a' w2
  rw [wpOps_cons]
  have hTi := T_opnd h2.T ix
  rw [hix] at hTi
  have hu := under_of_elemT hel
  have hnn : kk < (o.els.length : Int) := hlt
  refine wpOp_value hi gi (v := .pointer (some ⟨g, kk.toNat * o.z, none⟩)) (w' := w2) ?_ ?_
  · unfold execOp
    rw [hoi]
    have : a'.eval (.tmp x) = .slice (some ⟨g, 0, none⟩) o.els.length cap := hxv1
    simp [Instr.indexAt, T_int hTi, this, asIntOf, run_underlying hu, h0, hnn, run_tsz hz, add_plain]
  rw [wpOps_cons]
  have hps : p < a'.tmps.size := Nat.lt_of_lt_of_le hpN h2.size
  rw [hdi]
  have hTv := T_opnd h2.T xv
  generalize opnd t2 xv = X at *
  have hUeq : (a'.put (some p) (.pointer (some ⟨g, kk.toNat * o.z, none⟩))).eval xv = a'.eval xv := Act.eval_put fun d hd => by
    simp only [Option.some.injEq] at hd; subst hd; exact hxv
  generalize a'.eval xv = U at *
  have hcr := T.cells hval hTv
  have hv1 : ∀ v ∈ U.cells.toList, v.oneCell' = true := fun v hv => by
    obtain ⟨i, hi, rfl⟩ := List.mem_iff_getElem.1 hv
    exact hcr.2.2 i _ (by simp at hi ⊢)
  have hUl : U.cells.toList.length = o.z := by simp [hcr.1, hcl]
  obtain ⟨w3, cs', s1, s2, s3, s4, s5, s6, s7⟩ := run_storeCells (P := P) (g := g) (el := el) U.cells.toList 0 (kk.toNat * o.z) w2 cs v3 (by omega) hv1
  have ev3 := s4 ⟨fun _ _ => True, fun _ _ => True, fun _ _ h => h⟩ fun _ _ _ => trivial
  refine wpOp_skip hs gs (w' := w3) ?_ ?_
  · unfold execOp
    rw [hos]
    have hpe : (a'.put (some p) (.pointer (some ⟨g, kk.toNat * o.z, none⟩))).eval (.tmp p) = .pointer (some ⟨g, kk.toNat * o.z, none⟩) := put_same hps
    have hsz' : (Go.sizeOf ty2).run P w2 = .ok U.cells.size w2 := by rw [hcr.1, hcl]; exact run_tsz hz2 w2
    simp only [Instr.storeAt, Instr.sureAddr, storeVar, hpe, hUeq, Sem.run_bind, Sem.run_pure, Result.andThen_ok, hsz', ne_eq, not_true_eq_false, if_false, Sem.run_ite, s1]
  rw [hds]
  show Q .normal (a'.put (some p) _) w3
  generalize hA : a'.put (some p) (.pointer (some ⟨g, kk.toNat * o.z, none⟩)) = A
  have hAget : ∀ i, i ≠ p → A.tmps.getD i undef = a'.tmps.getD i undef := fun i hi => by rw [← hA]; exact put_getD fun he => hi (Option.some.inj he).symm
  have hcap0 : 0 < cs.size := by have := Nat.pos_of_ne_zero hz0; omega
  have hsp : s ≠ p := by rw [← hos1]; exact hp o hoO
  refine hQ _ _ _ (hE.turn (own' := c.own) (G := g) (O' := setO O ⟨s, o.z, o.els.set kk.toNat X.cells⟩) rfl (fun _ _ _ => Iff.rfl) (fun k _ hk => s7 k hk) (fun _ => ⟨v5, v6, cs, el, cs', v3, hcap0, s2, s3⟩) ev3.size ev3.os ev3.tape ev3.output (fun g off hn => Nat.lt_of_lt_of_le (hE.sr.M.lt g off hn) ev3.size) (fun i => ?_) ?_ ?_ ⟨gsf, fun s' hs' => ?_, fun s' hs' s'' hs'' g' h1 h2 => ?_⟩)
  · by_cases hip : i = p
    · exact .inr (by simp [hip])
    · exact .inl ⟨by simp [hip], hAget i hip⟩
  · rw [← hA]; exact h2.defers
  · rw [← hA]; simpa [Act.put] using h2.size
  · rcases List.mem_cons.1 hs' with rfl | hs'
    · simp only
      rw [hAget s hsp, hgs]
      refine ⟨cap, cs', el, by rw [v1]; simp, by simpa using v2, s2, by rw [s3]; exact v4, v5, v6, fun e he => ?_, fun i j e x hi hj => ?_⟩
      · rcases List.mem_or_eq_of_mem_set he with he | he
        · exact v7 e he
        · rw [he]; exact hcl
      · simp only at hi ⊢
        rw [List.getElem?_set] at hi
        by_cases hik : kk.toNat = i
        · rw [if_pos hik, if_pos hkk] at hi
          simp only [Option.some.injEq] at hi
          subst hi
          subst hik
          have hjl : j < o.z := by
            rcases Nat.lt_or_ge j X.cells.length with h' | h'
            · omega
            · simp [List.getElem?_eq_none, h'] at hj
          have h6 := s6 j (by omega)
          rw [Nat.add_zero] at h6
          have hjU : j < U.cells.size := by rw [hcr.1, hcl]; exact hjl
          refine ⟨U.cells[j], by rw [h6]; simp [hjU], ?_, hcr.2.2 j _ (by simp [hjU])⟩
          exact scalar_V (List.all_eq_true.1 hsc x (List.mem_of_getElem? hj)) (hcr.2.1 j x U.cells[j] hj (by simp [hjU]))
        · rw [if_neg hik] at hi
          obtain ⟨u, q1, q2, q3⟩ := v8 i j e x hi hj
          have hez : j < o.z := by
            have := v7 e (List.mem_of_getElem? hi)
            rcases Nat.lt_or_ge j e.length with h' | h'
            · omega
            · simp [List.getElem?_eq_none, h'] at hj
          refine ⟨u, ?_, ?_, q3⟩
          · rw [s5 _ ?_]; exact q1
            rw [hUl]
            rcases Nat.lt_or_ge i kk.toNat with h' | h'
            · left
              have : (i + 1) * o.z ≤ kk.toNat * o.z := Nat.mul_le_mul_right _ h'
              rw [Nat.add_mul, Nat.one_mul] at this
              omega
            · right
              have : (kk.toNat + 1) * o.z ≤ i * o.z := Nat.mul_le_mul_right _ (by omega)
              rw [Nat.add_mul, Nat.one_mul] at this
              omega
          · refine q2.keep (o' := c.own) (w' := w3) ⟨fun ad v hc hn => ⟨?_, hn⟩, fun g' cs1 el1 fr1 hg' => ?_⟩
            · obtain ⟨hsp', cs1, el1, fr1, hb, hv⟩ := cell_heap hc
              have hne : ad.block ≠ g := fun he => hn (by rw [he]; exact (v6 _).1)
              obtain ⟨ab, ao, as⟩ := ad
              simp only at hsp' hb hv hne
              subst hsp'
              rw [heap_cell (by rw [s7 ab hne]; exact hb), hv]
            · obtain ⟨cs2, q1, q2, _⟩ := ev3.cells g' cs1 el1 fr1 hg'
              exact ⟨cs2, q1, q2⟩
    · obtain ⟨hs1, hs2⟩ := dropO_mem hs'
      simp only at hs2
      rw [hAget _ (hp s' hs1)]
      refine (k1 s' hs1).keep (c' := ⟨c.own, c.ρ, c.ν⟩) ⟨fun ad v hc hn => ⟨?_, hn⟩, fun g' cs1 el1 fr1 hg' => ?_⟩ (fun g' hg' => s7 g' fun he => hs2 ?_) fun g' _ hh _ => hh
      · obtain ⟨hsp', cs1, el1, fr1, hb, hv⟩ := cell_heap hc
        have hne : ad.block ≠ g := fun he => hn (by rw [he]; exact (v6 _).1)
        obtain ⟨ab, ao, as⟩ := ad
        simp only at hsp' hb hv hne
        subst hsp'
        rw [heap_cell (by rw [s7 ab hne]; exact hb), hv]
      · obtain ⟨cs2, q1, q2, _⟩ := ev3.cells g' cs1 el1 fr1 hg'
        exact ⟨cs2, q1, q2⟩
      · have := k2 s' hs1 o hoO g (by rw [hg', he]) (by rw [hos1]; exact hgs)
        rw [this, hos1]
  · have key : ∀ y ∈ setO O ⟨s, o.z, o.els.set kk.toNat X.cells⟩, ∃ y' ∈ O, y'.slot = y.slot := fun y hy => by
      rcases List.mem_cons.1 hy with rfl | hy
      · exact ⟨o, hoO, hos1⟩
      · exact ⟨y, (dropO_mem hy).1, rfl⟩
    obtain ⟨y, y1, y2⟩ := key s' hs'
    obtain ⟨y', y1', y2'⟩ := key s'' hs''
    rw [← y2] at h1 ⊢
    rw [← y2'] at h2 ⊢
    exact k2 y y1 y' y1' g' h1 h2
theorem exec_append {oa : Oper} {x y : Operand} {t1 t2 : TypeId} {val : Value} {w3 : World} (hop : oa.op = .call { callee := .builtin .append, args := #[x, y], argTypes := #[t1, t2] })
    (h : (Builtin.append_ #[t1, t2] oa.type #[a.eval x, a.eval y]).run P w = .ok val w3) : (execOp a.eval oa).run P w = .ok (.value val) w3 := by
  obtain ⟨dst, op, type, pos, aft, guard⟩ := oa
  simp only at hop h
  subst hop
  have hmap : (#[x, y] : Array Operand).map a.eval = #[a.eval x, a.eval y] := by simp
  rw [exec_builtin, hmap]
  have key : ((do pure (Next.value (← Builtin.append_ #[t1, t2] type #[a.eval x, a.eval y])) : Sem Next).run P w) = .ok (.value val) w3 := by
    simp [h]
  exact key
theorem firstCells_own {g z len cap : Nat} {cs : Array Value} {el : TypeId} {fr : Nat × Nat} (hh : w.heap[g]? = some (.cells cs el fr)) (hle : len * z ≤ cs.size) :
    ∀ w' : World, w'.heap = w.heap → (Builtin.firstCells z len (.slice (some ⟨g, 0, none⟩) len cap)).run P w' = .ok ((List.range (len * z)).map fun j => cs.getD j undef).toArray w' := fun w' hw => by
  have := run_loadCells_of (P := P) (w := w') (ad := ⟨g, 0, none⟩) (n := len * z) (cv := fun j => cs.getD j undef) fun j hj => by
    rw [add_plain, Nat.zero_add, heap_cell (by rw [hw]; exact hh)]
    simp [Array.getD_eq_getD_getElem?, show j < cs.size by omega]
  simpa [Builtin.firstCells] using this

/-- What is appended to a slice of one's own, or to an empty one. -/
theorem own_app {n s x d : Nat} {ty1 ty2 e e2 : TypeId} {y : Operand} {oa ob : Oper} {Q : Exit → Act → World → Prop} {z b s2 : Nat} {els news : List (List AV)} {tok : Tok} {zv : AV}
    (h : SRO P N o0 w0 c0 c w t m O a) (h2 : SR P N c2 w2 t2 m2 a') (ev : Evo noOwn w c2.own w2) (hTr : Track ops n (fun _ => True) a a') (hO : ∀ o ∈ O, o.slot ∉ dn ops n) (hd : ∀ o ∈ O, o.slot ≠ d) (hds : s ≠ d)
    (hbase : (isCopy ops n s x = true ∧ getO O s = some ⟨s, z, els⟩) ∨ (els = [] ∧ ∃ zz tk, t2 x = .sl zz [] tk ∧ (tk = .nil ∨ tk = .clip)))
    (hsz : n + 2 = ops.size) (hi : ops[n]? = some oa) (hs : ops[n + 1]? = some ob) (gi : oa.guard = none) (gs : ob.guard = none) (hda : oa.dst = some d) (hdb : ob.dst = some s)
    (hoa : oa.op = .call { callee := .builtin .append, args := #[.tmp x, y], argTypes := #[ty1, ty2] }) (hob : ob.op = .assign (.tmp d)) (hdN : d < N) (hsN : s < N)
    (hy : opnd t2 y = .sl s2 news tok) (hne : news ≠ []) (hel : elemT P ty1 = some e) (hel2 : elemT P ty2 = some e2) (hs2 : some s2 = tsz P e) (hz : tsz P e = some z) (hb : tbytes P e = some b) (hzv : zeroOf P e = some zv)
    (hb0 : b ≠ 0) (hz0 : z ≠ 0) (hzval : zv.isVal = true) (hzl : zv.cells.length = z) (hbig : (els.length + news.length) * b ≤ 70368744177664) (hsc : news.all (fun q => q.all AV.scalar) = true)
    (hQ : ∀ c' a' w', SRO P N o0 w0 c0 c' w' (upd (upd (after (dn ops n) t2 t) d .undef) s .undef) m (setO O ⟨s, z, els ++ news⟩) a' → Q .normal a' w') :
    wpOps P ops Q (List.range' n (ops.size - n)) a' w2 := by
  have hE := view_end (l := dn ops n) h h2 ev hTr.frame hO
  obtain ⟨gsf, k1, k2⟩ := hE.ow
  have hu := under_of_elemT hel
  have hu2 := under_of_elemT hel2
  have hs2z : s2 = z := by rw [hz] at hs2; exact Option.some.inj hs2
  subst hs2z
  obtain ⟨zvv, rfl, hzrun⟩ := run_zero hzv
  have hzsz : zvv.cells.size = s2 := by rw [(V.cells hzval (V_ofValue c.own w zvv)).1, hzl]
  -- the base
  obtain ⟨q, hq, hqd⟩ : ∃ q, OwnedAt c w2 w0.heap.size (a'.tmps.getD x undef) ⟨s, s2, els⟩ q ∧ ∀ o ∈ dropO O s, ∀ g, q = some g → gsf o.slot ≠ some g := by
    rcases hbase with ⟨hc, ho⟩ | ⟨rfl, zz, tk, h1, h2'⟩
    · obtain ⟨hoO, _⟩ := getO_mem ho
      have hown := k1 _ hoO
      simp only at hown
      have hsval : a'.tmps.getD s undef = a.tmps.getD s undef := hTr.frame s (hO _ hoO)
      refine ⟨gsf s, by rw [copy_val hc hTr, ← hsval]; exact hown, fun o ho' g hg hg' => ?_⟩
      obtain ⟨q1, q2⟩ := dropO_mem ho'
      exact q2 (k2 o q1 _ hoO g hg' hg)
    · have hT := h2.T x
      rw [h1] at hT
      have hv : V c2.own w2 (.sl zz [] tk) (a'.tmps.getD x undef) := by
        rcases h2' with rfl | rfl
        · exact hT
        · exact hT
      refine ⟨none, ⟨rfl, ?_⟩, fun _ _ _ hg => by simp at hg⟩
      generalize a'.tmps.getD x undef = u at hv
      cases hv with
      | sl _ _ _ ad len cap cv hlen hcap hel' hc hv ho hn hk hr =>
        simp at hlen
        subst hlen
        rcases h2' with rfl | rfl
        · obtain ⟨rfl, rfl⟩ := hn rfl
          exact ⟨_, rfl⟩
        · have := hk rfl
          subst this
          exact ⟨_, rfl⟩
  have hlt2 : ∀ g off, c.own.N g off → g < w2.heap.size := hE.sr.M.lt
  -- what is appended
  have hTy := T_opnd h2.T y
  rw [hy] at hTy
  have hVy := T_sl hTy
  obtain ⟨ad2, nn, cap2, cv2, hyv, hn, hcap2, hel2', hc2, hv2, _, _⟩ := V_sl hVy
  rw [hyv] at hVy
  obtain ⟨new, n1, n2, n3, n4⟩ := firstCells_run (P := P) (z := s2) hVy (.inl rfl)
  have hnpos : 0 < nn := by rw [hn]; exact List.length_pos_iff.2 hne
  have hnl : ∀ e ∈ news, e.length = s2 := hel2'
  have hsz2 : ops.size - n = 2 := by omega
  rw [hsz2]
  show wpOps P ops Q [n, n + 1] a' w2
  rw [wpOps_cons]
  have hds1 : d < a'.tmps.size := Nat.lt_of_lt_of_le hdN h2.size
  have hss1 : s < a'.tmps.size := Nat.lt_of_lt_of_le hsN h2.size
  -- behind the append
  have fin : ∀ (val : Value) (w3 : World) (own' : Own) (g : Nat), (∀ c' a'', SRO P N o0 w0 c0 c' w3 (upd (upd (after (dn ops n) t2 t) d .undef) s .undef) m (setO O ⟨s, s2, els ++ news⟩) a'' → Q .normal a'' w3) →
      (∀ a'' : Act, (∀ i, i ≠ d → i ≠ s → a''.tmps.getD i undef = a'.tmps.getD i undef) → a''.tmps.getD s undef = val → a''.defers = [] → N ≤ a''.tmps.size → SRO P N o0 w0 c0 ⟨own', c.ρ, c.ν⟩ w3 (upd (upd (after (dn ops n) t2 t) d .undef) s .undef) m (setO O ⟨s, s2, els ++ news⟩) a'') →
      wpOp P ops Q (n + 1) (wpOps P ops Q []) (a'.put oa.dst val) w3 := fun val w3 own' g hQ' hS => by
    refine wpOp_value hs gs (v := val) (w' := w3) ?_ ?_
    · unfold execOp
      rw [hob]
      have : (a'.put oa.dst val).eval (.tmp d) = val := by rw [hda]; exact put_same hds1
      simp [this]
    · rw [hda, hdb]
      show Q .normal ((a'.put (some d) val).put (some s) val) w3
      refine hQ' _ _ (hS _ (fun i h1 h2 => ?_) ?_ ?_ ?_)
      · rw [put_getD fun he => h2 (Option.some.inj he).symm, put_getD fun he => h1 (Option.some.inj he).symm]
      · exact put_same (by simpa [Act.put] using hss1)
      · exact h2.defers
      · simpa [Act.put] using h2.size
  have hTT : ∀ (a'' : Act), (∀ i, i ≠ d → i ≠ s → a''.tmps.getD i undef = a'.tmps.getD i undef) → ∀ i, upd (upd (after (dn ops n) t2 t) d .undef) s .undef i = after (dn ops n) t2 t i ∧ a''.tmps.getD i undef = a'.tmps.getD i undef ∨ upd (upd (after (dn ops n) t2 t) d .undef) s .undef i = .undef := fun a'' hf i => by
    by_cases h1 : i = s
    · exact .inr (by simp [h1])
    · by_cases h2 : i = d
      · exact .inr (by simp [h2])
      · exact .inl ⟨by simp [h1, h2], hf i h2 h1⟩
  have hother : ∀ (own' : Own) (w3 : World) (a'' : Act) (gg : Nat), (∀ i, i ≠ d → i ≠ s → a''.tmps.getD i undef = a'.tmps.getD i undef) → Kp c.own own' w2 w3 → (∀ g off, g < w2.heap.size → (own'.N g off ↔ c.own.N g off)) → own'.W = c.own.W →
      (∀ g, g < w2.heap.size → g ≠ gg → w3.heap[g]? = w2.heap[g]?) → (q = some gg ∨ w2.heap.size ≤ gg) → OwnedAt ⟨own', c.ρ, c.ν⟩ w3 w0.heap.size (a''.tmps.getD s undef) ⟨s, s2, els ++ news⟩ (some gg) →
      ∃ gs' : Nat → Option Nat, (∀ o ∈ setO O ⟨s, s2, els ++ news⟩, OwnedAt ⟨own', c.ρ, c.ν⟩ w3 w0.heap.size (a''.tmps.getD o.slot undef) o (gs' o.slot)) ∧ ∀ o ∈ setO O ⟨s, s2, els ++ news⟩, ∀ o' ∈ setO O ⟨s, s2, els ++ news⟩, ∀ g, gs' o.slot = some g → gs' o'.slot = some g → o.slot = o'.slot :=
    fun own' w3 a'' gg hf kp hN hW hsame hgg hnew => by
      have hfresh : ∀ o ∈ dropO O s, gsf o.slot ≠ some gg := fun o ho => by
        rcases hgg with hg | hg
        · exact hqd o ho gg hg
        · intro he
          have h3 := k1 o (dropO_mem ho).1
          rw [he] at h3
          obtain ⟨_, _, _, _, _, q3, _⟩ := h3
          have := lt_of_heap q3; omega
      refine ⟨fun i => if i = s then some gg else gsf i, fun o ho => ?_, fun o ho o' ho' g h3 h4 => ?_⟩
      · rcases List.mem_cons.1 ho with rfl | ho
        · simpa using hnew
        · obtain ⟨q1, q2⟩ := dropO_mem ho
          simp only at q2
          simp only [if_neg q2]
          rw [hf _ (hd o q1) q2]
          refine (k1 o q1).keep kp (fun g hg => ?_) fun g _ hh hgl off => ?_
          · have hgl : g < w2.heap.size := by
              have h3 := k1 o q1
              rw [hg] at h3
              obtain ⟨_, _, _, _, _, q3, _⟩ := h3
              exact lt_of_heap q3
            exact hsame g hgl fun he => hfresh o ho (by rw [hg, he])
          · exact ⟨(hN g off hgl).2 (hh off).1, by simp only; rw [hW]; exact (hh off).2⟩
      · rcases List.mem_cons.1 ho with rfl | ho <;> rcases List.mem_cons.1 ho' with rfl | ho'
        · rfl
        · obtain ⟨q1, q2⟩ := dropO_mem ho'
          simp only at q2
          simp only [if_true, Option.some.injEq] at h3
          simp only [if_neg q2] at h4
          subst h3
          exact absurd h4 (hfresh o' ho')
        · obtain ⟨q1, q2⟩ := dropO_mem ho
          simp only at q2
          simp only [if_true, Option.some.injEq] at h4
          simp only [if_neg q2] at h3
          subst h4
          exact absurd h3 (hfresh o ho)
        · obtain ⟨q1, q2⟩ := dropO_mem ho
          obtain ⟨q1', q2'⟩ := dropO_mem ho'
          simp only at q2 q2'
          simp only [if_neg q2] at h3
          simp only [if_neg q2'] at h4
          exact k2 o q1 o' q1' g h3 h4
  have hsplit : ∀ (i j : Nat) (e : List AV) (x : AV), (els ++ news)[i]? = some e → e[j]? = some x → (els[i]? = some e) ∨ (els.length ≤ i ∧ news[i - els.length]? = some e) := fun i j e x hi _ => by
    rcases Nat.lt_or_ge i els.length with h' | h'
    · rw [List.getElem?_append_left h'] at hi; exact .inl hi
    · rw [List.getElem?_append_right h'] at hi; exact .inr ⟨h', hi⟩
  have grow : ∀ (ad : Option Addr) (cap : Nat) (old : Array Value), a'.tmps.getD x undef = .slice ad els.length cap → ¬ els.length + nn ≤ cap → (∀ w' : World, w'.heap = w2.heap → (Builtin.firstCells s2 els.length (.slice ad els.length cap)).run P w' = .ok old w') → old.size = els.length * s2 →
      (∀ e ∈ els, e.length = s2) → (∀ (i j : Nat) (e : List AV) (x : AV), els[i]? = some e → e[j]? = some x → ∃ u, old[i * s2 + j]? = some u ∧ V c.own w2 x u ∧ u.oneCell' = true) → wpOp P ops Q n (wpOps P ops Q [n + 1]) a' w2 := fun ad cap old hv hgt ho hos hels hold => by
    obtain ⟨nc, hnc, hrun⟩ := append_grow (P := P) (w := w2) (ty := oa.type) (ad := ad) (ad2 := ad2) (cap := cap) (cap2 := cap2) hu hu2 hz hb hb0 hzrun (by rw [hn]; exact hbig) n1 ho hgt
    generalize hcs : old ++ new ++ Builtin.zeroCells zvv.cells (nc - (els.length + nn)) = cs at hrun
    have hzc : (Builtin.zeroCells zvv.cells (nc - (els.length + nn))).size = (nc - (els.length + nn)) * s2 := by simp [Builtin.zeroCells, hzsz]
    have hcsz : cs.size = nc * s2 := by
      rw [← hcs]
      simp only [Array.size_append, hos, n2, hzc]
      rw [← Nat.add_mul, ← Nat.add_mul, show els.length + nn + (nc - (els.length + nn)) = nc by omega]
    refine wpOp_value hi gi (exec_append hoa (by
      have e1 : a'.eval (.tmp x) = .slice ad els.length cap := hv
      rw [e1, hyv]; exact hrun)) ?_
    rw [wpOps_cons]
    have hheap : (w2.drew.alloc (.cells cs e)).heap[w2.heap.size]? = some (.cells cs e (0, 0)) := heap_new w2.drew _
    have hWold : ∀ g : Nat, g < w2.heap.size → (w2.drew.alloc (.cells cs e)).heap[g]? = w2.heap[g]? := fun g hg => by show (w2.heap.push _)[g]? = _; rw [Array.getElem?_push, if_neg (Nat.ne_of_lt hg)]
    let own' : Own := ⟨c.own.W, fun g off => c.own.N g off ∨ g = w2.heap.size, fun g off h => .inl (c.own.sub g off h)⟩
    have hN : ∀ g off, g < w2.heap.size → (own'.N g off ↔ c.own.N g off) := fun g off hg => ⟨fun h => h.resolve_right (by omega), .inl⟩
    have kp : Kp c.own own' w2 (w2.drew.alloc (.cells cs e)) := ⟨fun ad v hc hn => by
      obtain ⟨hsp, cs1, el1, fr1, hb1, hv1⟩ := cell_heap hc
      refine ⟨?_, fun hk => hn ((hN _ _ (lt_of_heap hb1)).1 hk)⟩
      obtain ⟨ab, ao, as⟩ := ad
      simp only at hsp hb1 hv1
      subst hsp
      rw [heap_cell (by rw [hWold ab (lt_of_heap hb1)]; exact hb1), hv1], fun g cs1 el1 fr1 hg => ⟨cs1, by rw [hWold g (lt_of_heap hg)]; exact hg, rfl⟩⟩
    refine fin _ _ own' w2.heap.size (fun c' a'' hS => hQ _ _ _ hS) fun a'' hf hsv hdf hsz' => ?_
    refine hE.turn (G := w2.heap.size) rfl hN (fun g hg _ => hWold g hg) (fun hk => absurd hk (Nat.lt_irrefl _)) (by show w2.heap.size ≤ (w2.heap.push _).size; simp) rfl rfl rfl (fun g off hk => ?_) (hTT a'' hf) hdf hsz' (hother own' _ a'' w2.heap.size hf kp hN rfl (fun g hg _ => hWold g hg) (.inr (Nat.le_refl _)) ?_)
    · show g < (w2.heap.push _).size
      rcases hk with hk | hk
      · have := hlt2 g off hk; simp; omega
      · subst hk; simp
    · rw [hsv]
      refine ⟨nc, cs, e, by simp [← hn], by simp only [List.length_append, ← hn]; exact hnc, hheap, by rw [hcsz]; exact Nat.le_refl _, hE.ev.size, fun off => ⟨.inr rfl, fun hk => by have := hlt2 _ _ (c.own.sub _ _ hk); omega⟩, fun e' he' => ?_, fun i j e' x' hi' hj' => ?_⟩
      · rcases List.mem_append.1 he' with he' | he'
        · exact hels e' he'
        · exact hnl e' he'
      · simp only at hi' ⊢
        rcases hsplit i j e' x' hi' hj' with h3 | ⟨h3, h4⟩
        · obtain ⟨u, q1, q2, q3⟩ := hold i j e' x' h3 hj'
          have hk : i * s2 + j < old.size := by
            rcases Nat.lt_or_ge (i * s2 + j) old.size with h' | h'
            · exact h'
            · simp [h'] at q1
          refine ⟨u, ?_, q2.keep kp, q3⟩
          rw [← hcs, Array.append_assoc, Array.getElem?_append_left hk]
          exact q1
        · obtain ⟨u, q1, q2, q3⟩ := n3 (i - els.length) j e' x' h4 hj'
          have hk : (i - els.length) * s2 + j < new.size := by
            rcases Nat.lt_or_ge ((i - els.length) * s2 + j) new.size with h' | h'
            · exact h'
            · simp [h'] at q1
          refine ⟨u, ?_, scalar_V (List.all_eq_true.1 (List.all_eq_true.1 hsc e' (List.mem_of_getElem? h4)) x' (List.mem_of_getElem? hj')) q2, q3⟩
          have hidx : i * s2 + j = old.size + ((i - els.length) * s2 + j) := by
            rw [hos, ← Nat.add_assoc, ← Nat.add_mul, show els.length + (i - els.length) = i by omega]
          rw [← hcs, hidx, Array.getElem?_append_left (by simp; omega), Array.getElem?_append_right (by omega)]
          rw [show old.size + ((i - els.length) * s2 + j) - old.size = (i - els.length) * s2 + j by omega]
          exact q1
  cases q with
  | none =>
    obtain ⟨h3, ad, h4⟩ := hq
    simp only at h3
    subst h3
    refine grow ad 0 #[] h4 (by simp; omega) (fun w' _ => ?_) (by simp) (by simp) (by simp)
    cases ad <;> simp [Builtin.firstCells, loadCells, loadCellsFrom]
  | some g =>
    obtain ⟨cap, cs, el, v1, v2, v3, v4, v5, v6, v7, v8⟩ := hq
    simp only at v1 v2 v4 v7 v8
    have hmul : els.length * s2 ≤ cap * s2 := Nat.mul_le_mul_right _ v2
    by_cases hroom : els.length + nn ≤ cap
    · have hmul2 : (els.length + nn) * s2 ≤ cap * s2 := Nat.mul_le_mul_right _ hroom
      rw [Nat.add_mul] at hmul2
      have hpos : 0 < nn * s2 := Nat.mul_pos hnpos (Nat.pos_of_ne_zero hz0)
      have hnl' : new.toList.length = nn * s2 := by simpa using n2
      obtain ⟨w3, cs', s1, s2', s3, s4, s5, s6, s7⟩ := run_storeCells (P := P) (g := g) (el := el) new.toList 0 (els.length * s2) w2 cs v3 (by omega) (fun u hu' => by
        obtain ⟨k, hk, rfl⟩ := List.mem_iff_getElem.1 hu'
        exact n4 k _ (by simp at hk ⊢))
      have ev3 := s4 ⟨fun _ _ => True, fun _ _ => True, fun _ _ h => h⟩ fun _ _ _ => trivial
      have hrun := append_room (P := P) (w := w2) (ty := oa.type) (ad := some ⟨g, 0, none⟩) (ad2 := ad2) (len := els.length) (cap := cap) (n := nn) (cap2 := cap2) hu hu2 hz (n1 w2 rfl) hroom
      simp only [add_plain, Nat.zero_add, s1, Result.andThen_ok] at hrun
      refine wpOp_value hi gi (exec_append hoa (by
        have e1 : a'.eval (.tmp x) = .slice (some ⟨g, 0, none⟩) els.length cap := v1
        rw [e1, hyv]; exact hrun)) ?_
      rw [wpOps_cons]
      have kp : Kp c.own c.own w2 w3 := ⟨fun ad v hc hn => by
        obtain ⟨hsp, cs1, el1, fr1, hb1, hv1⟩ := cell_heap hc
        have hne : ad.block ≠ g := fun he => hn (by rw [he]; exact (v6 _).1)
        refine ⟨?_, hn⟩
        obtain ⟨ab, ao, as⟩ := ad
        simp only at hsp hb1 hv1 hne
        subst hsp
        rw [heap_cell (by rw [s7 ab hne]; exact hb1), hv1], fun g' cs1 el1 fr1 hg => by
          obtain ⟨cs2, q1, q2, _⟩ := ev3.cells g' cs1 el1 fr1 hg
          exact ⟨cs2, q1, q2⟩⟩
      refine fin _ _ c.own g (fun c' a'' hS => hQ _ _ _ hS) fun a'' hf hsv hdf hsz' => ?_
      refine hE.turn (own' := c.own) (G := g) rfl (fun _ _ _ => Iff.rfl) (fun k _ hk => s7 k hk) (fun _ => ⟨v5, v6, cs, el, cs', v3, by omega, s2', s3⟩) ev3.size ev3.os ev3.tape ev3.output (fun g off hn => Nat.lt_of_lt_of_le (hlt2 g off hn) ev3.size) (hTT a'' hf) hdf hsz' (hother c.own w3 a'' g hf kp (fun _ _ _ => Iff.rfl) rfl (fun k _ hk => s7 k hk) (.inl rfl) ?_)
      rw [hsv]
      refine ⟨cap, cs', el, by simp [← hn], by simp only [List.length_append, ← hn]; exact hroom, s2', by rw [s3]; exact v4, v5, v6, fun e' he' => ?_, fun i j e' x' hi' hj' => ?_⟩
      · rcases List.mem_append.1 he' with he' | he'
        · exact v7 e' he'
        · exact hnl e' he'
      · simp only at hi' ⊢
        rcases hsplit i j e' x' hi' hj' with h3 | ⟨h3, h4⟩
        · obtain ⟨u, q1, q2, q3⟩ := v8 i j e' x' h3 hj'
          refine ⟨u, ?_, q2.keep kp, q3⟩
          have hil : i < els.length := by
            rcases Nat.lt_or_ge i els.length with h' | h'
            · exact h'
            · simp [List.getElem?_eq_none, h'] at h3
          have hjl : j < s2 := by
            have := v7 e' (List.mem_of_getElem? h3)
            rcases Nat.lt_or_ge j e'.length with h' | h'
            · omega
            · simp [List.getElem?_eq_none, h'] at hj'
          have : (i + 1) * s2 ≤ els.length * s2 := Nat.mul_le_mul_right _ hil
          rw [Nat.add_mul, Nat.one_mul] at this
          rw [s5 _ (by omega)]
          exact q1
        · obtain ⟨u, q1, q2, q3⟩ := n3 (i - els.length) j e' x' h4 hj'
          have hk : (i - els.length) * s2 + j < new.size := by
            rcases Nat.lt_or_ge ((i - els.length) * s2 + j) new.size with h' | h'
            · exact h'
            · simp [h'] at q1
          refine ⟨u, ?_, scalar_V (List.all_eq_true.1 (List.all_eq_true.1 hsc e' (List.mem_of_getElem? h4)) x' (List.mem_of_getElem? hj')) q2, q3⟩
          have h6 := s6 ((i - els.length) * s2 + j) (by rw [hnl', ← n2]; exact hk)
          have hidx : els.length * s2 + 0 + ((i - els.length) * s2 + j) = i * s2 + j := by
            rw [Nat.add_zero, ← Nat.add_assoc, ← Nat.add_mul, show els.length + (i - els.length) = i by omega]
          rw [hidx] at h6
          rw [h6]
          simpa using q1
    · refine grow (some ⟨g, 0, none⟩) cap _ v1 hroom (firstCells_own v3 (by omega)) (by simp) v7 fun i j e' x' h3 hj' => ?_
      obtain ⟨u, q1, q2, q3⟩ := v8 i j e' x' h3 hj'
      refine ⟨u, ?_, q2, q3⟩
      have hil : i < els.length := by
        rcases Nat.lt_or_ge i els.length with h' | h'
        · exact h'
        · simp [List.getElem?_eq_none, h'] at h3
      have hjl : j < s2 := by
        have := v7 e' (List.mem_of_getElem? h3)
        rcases Nat.lt_or_ge j e'.length with h' | h'
        · omega
        · simp [List.getElem?_eq_none, h'] at hj'
      have : (i + 1) * s2 ≤ els.length * s2 := Nat.mul_le_mul_right _ hil
      rw [Nat.add_mul, Nat.one_mul] at this
      simp [show i * s2 + j < els.length * s2 by omega, Array.getD_eq_getD_getElem?, q1]
end
end Ev
