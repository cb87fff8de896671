/- A verified evaluator, part M: calls that are handed no box. -/
import Derived.Test.YtlmmgblghgmgeaaDoorEvL
set_option linter.unusedVariables false
set_option linter.unusedSimpArgs false
namespace Ev
open Go

/-- A function's contract: called with these values it returns that, and does that to the boxes that it is handed. -/
def SimCall (P : Program) (f : FuncId) (args : List AV) (bs : List (Nat × Box)) (r : AV) (bs' : List (Nat × Box)) : Prop :=
  (∀ (vs : Array Value) (w : World), (callFunc f vs).run P w = .ok (.enter f vs) w) ∧
  ∀ (c : Cfg) (w : World) (vs : Array Value), MemRel c { boxes := ofB bs, names := namesOf (cellsOfB bs) } w → Gl P c.own w → vs.size = args.length → (∀ (i : Nat) (x : AV) (v : Value), args[i]? = some x → vs[i]? = some v → T1 c w x v) →
    Calls P f vs w fun e w' => ∃ v c', e = .returned v ∧ Evo c.own w c'.own w' ∧ MemRel c' { boxes := ofB bs', names := namesOf (cellsOfB bs' ++ resParts r) } w' ∧ c'.ρ = c.ρ ∧ T c' w' r v

section
variable {P : Program} {c : Cfg} {w : World} {m m' : Mem} {t : Tmps} {a : Act} {C : Oracle} {ro : FuncId → Bool} {D : Option (List Nat)} {d : Nat} {x : AV}

theorem Evo.same {own own' : Own} {w w' : World} (e : Evo own w own' w') {g : Nat} {cs : Array Value} {el : TypeId} {fr : Nat × Nat} (h : w.heap[g]? = some (.cells cs el fr)) (hn : ∀ off, ¬ own.W g off) : w'.heap[g]? = some (.cells cs el fr) := by
  obtain ⟨cs', h1, h2, h3⟩ := e.cells _ _ _ _ h
  have : cs' = cs := Array.ext (by rw [h2]) (fun i h4 h5 => by
    have := h3 i (hn i)
    simpa [h4, h5] using this)
  rw [h1, this]

theorem namesOf_mem {ys : List AV} {y : AV} {p q : Nat} (hy : y ∈ ys) (hr : rowName y = some (p, q)) : namesOf ys p q = some true := by
  induction ys with
  | nil => simp at hy
  | cons z ys ih =>
    simp only [namesOf]
    split
    · rfl
    · rename_i hz
      rcases List.mem_cons.1 hy with rfl | hy
      · exact absurd hr hz
      · exact ih hy
theorem namesOf_append (xs ys : List AV) (p q : Nat) : namesOf (xs ++ ys) p q = (namesOf xs p q).or (namesOf ys p q) := by
  induction xs with
  | nil => simp [namesOf]
  | cons x xs ih =>
    simp only [List.cons_append, namesOf]
    split
    · rfl
    · exact ih

/-- The parts of a result. -/
theorem res_parts {r : AV} {v : Value} (h : T c w r v) : ∃ us : List Value, TL c w (resParts r) us ∧
    ∀ (c2 : Cfg) (w2 : World) (ys : List AV), ys.length = (resParts r).length → (∀ (i : Nat) (y : AV) (u : Value), ys[i]? = some y → us[i]? = some u → T1 c2 w2 y u) → T c2 w2 (resBack r ys) v := by
  by_cases hr : ∃ xs, r = .tup xs
  · obtain ⟨xs, rfl⟩ := hr
    obtain ⟨vs, rfl, h1, h2⟩ := h
    refine ⟨vs.toList, ⟨by simpa [resParts] using h1, fun i x u hx hu => h2 i x u hx (by simpa using hu)⟩, fun c2 w2 ys hl hy => ⟨vs, rfl, by simp only [resParts] at hl; omega, fun i x u hx hu => hy i x u hx (by simpa using hu)⟩⟩
  · have h1 := h.to_T1 hr
    have hp : resParts r = [r] := by
      cases r <;> first | rfl | exact absurd ⟨_, rfl⟩ hr
    have hb : ∀ ys, resBack r ys = ys.headD r := fun ys => by
      cases r <;> first | rfl | exact absurd ⟨_, rfl⟩ hr
    refine ⟨[v], ⟨by rw [hp]; rfl, fun i x u hx hu => ?_⟩, fun c2 w2 ys hl hy => ?_⟩
    · rw [hp] at hx
      cases i with
      | zero => simp at hx hu; subst hx; subst hu; exact h1
      | succ i => simp at hu
    · rw [hp] at hl
      rw [hb]
      obtain ⟨y, rfl⟩ : ∃ y, ys = [y] := by
        match ys, hl with
        | [y], _ => exact ⟨y, rfl⟩
      exact .of_T1 (hy 0 y v rfl rfl)

/-- What a callee made of its own is put beside what the caller has. -/
def joinOwn (c c1 : Own) (w : World) (h : ∀ g off, c.W g off → c1.N g off) : Own := ⟨fun g off => c.W g off ∨ c1.W g off, c1.N, fun g off k => k.elim (h g off) (c1.sub g off)⟩

theorem freshAll_spec {names : Nat → Nat → Option Bool} {ys : List AV} (h : freshAll names ys = true) : ∀ y ∈ ys, ∀ p q, rowName y = some (p, q) → names p q = none := by
  induction ys with
  | nil => simp
  | cons z ys ih =>
    simp only [freshAll, Bool.and_eq_true] at h
    intro y hy p q hr
    rcases List.mem_cons.1 hy with rfl | hy
    · rw [hr] at h
      simpa using h.1
    · exact ih h.2 y hy p q hr

theorem nm_nodup (d j n : Nat) : ((List.range' j n).map fun k => (d, k)).Nodup := by
  exact List.Pairwise.map _ (fun a b h he => h (by simpa using he)) (List.nodup_range' (s := j) (n := n))

theorem V.sameN {own own' : Own} {w : World} {x : AV} {v : Value} (h : V own w x v) (hN : ∀ g off, own'.N g off → own.N g off) : V own' w x v := by
  induction h with
  | undef v => exact .undef v
  | bool b => exact .bool b
  | int k n => exact .int k n
  | str s => exact .str s
  | sl s els tok a len cap cv hlen hcap hel hc hv ho hn hk hr ih =>
    refine .sl s els tok a len cap cv hlen hcap hel (fun i j el x hi hj => ?_) ih ho hn hk hr
    obtain ⟨ad, ha, hcell, hown⟩ := hc i j el x hi hj
    exact ⟨ad, ha, hcell, fun h => hown (hN _ _ h)⟩
  | eptr cells ad cv hc hv ho ih => exact .eptr cells ad cv (fun j x hj => ⟨(hc j x hj).1, fun h => (hc j x hj).2 (hN _ _ h)⟩) ih ho
  | pnil => exact .pnil
  | fn f cap vs hl hv ih => exact .fn f cap vs hl ih
  | fnil => exact .fnil
  | agg cells cs hl hv ho ih => exact .agg cells cs hl ih ho
theorem LocOK.sameN {own own' : Own} {ρ ρ' : Nat → Option Nat} {y : AV} {v : Value} {t : Option (Nat × Nat)} (h : LocOK own ρ w y v t) (hN : ∀ g off, own'.N g off → own.N g off) (hp : ∀ id off, y ≠ .ptr id off) : LocOK own' ρ' w y v t := by
  cases y with
  | sl s els tok =>
    cases tok with
    | row p q => exact ⟨h.1.sameN hN, h.2⟩
    | _ => exact V.sameN h hN
  | ptr id off => exact absurd rfl (hp id off)
  | tup => exact h
  | _ => exact V.sameN h hN
theorem noPtr_spec {ys : List AV} (h : noPtr ys = true) : ∀ y ∈ ys, ∀ id off, y ≠ .ptr id off := by
  induction ys with
  | nil => simp
  | cons z ys ih =>
    intro y hy id off he
    rcases List.mem_cons.1 hy with rfl | hy
    · subst he; simp [noPtr] at h
    · refine ih ?_ y hy id off he
      cases z <;> first | exact h | simp [noPtr] at h
theorem nuOf_base {base : Nat → Nat → Stat} : ∀ (ys : List AV) (ts : List (Option (Nat × Nat))) (p q : Nat), (∀ y ∈ ys, rowName y ≠ some (p, q)) → nuOf base ys ts p q = base p q
  | [], ts, p, q, _ => by simp [nuOf]
  | y :: ys, [], p, q, _ => by simp [nuOf]
  | y :: ys, t :: ts, p, q, h => by
    simp only [nuOf, h y (by simp), if_false]
    exact nuOf_base ys ts p q (fun z hz => h z (List.mem_cons_of_mem _ hz))

theorem acall_quiet {f : FuncId} {args : List AV} {r : AV} {vs : Array Value} (hM : MemRel c m w) (hG : Gl P c.own w) (hC : SimCall P f (args.map AV.bare) [] r []) (hA : adopt d [] m r = some (x, m')) (hsz : vs.size = args.length)
    (hargs : ∀ (i : Nat) (x : AV) (v : Value), args[i]? = some x → vs[i]? = some v → T c w x v) :
    Calls P f vs w fun e w' => ∃ v, e = .returned v ∧ Post c w m' x v w' := by
  let o0 : Own := ⟨fun _ _ => False, c.own.N, fun _ _ h => h.elim⟩
  let c0 : Cfg := ⟨o0, fun _ => none, fun _ _ => .unknown⟩
  have e0 : Evo c.own w o0 w := ⟨Nat.le_refl _, fun g cs el fr h => ⟨cs, h, rfl, fun _ _ => rfl⟩, fun _ _ h _ => h, fun _ _ _ h => h.elim, fun _ _ _ h => h, fun _ _ _ h _ => h, rfl, rfl, rfl⟩
  have hM0 : MemRel c0 { boxes := ofB [], names := namesOf (cellsOfB []) } w :=
    ⟨fun id => rfl, fun id bx g h => by simp [ofB] at h, fun id id' g h => by simp [c0] at h, fun p q => rfl, fun p q g e h => by simp [c0] at h, fun p q p' q' g e e' h => by simp [c0] at h, fun p q g e id h => by simp [c0] at h, hM.lt⟩
  refine (hC.2 c0 w vs hM0 (hG.weaker fun _ _ h => h) (by simpa using hsz) fun i y v hy hv => ?_).mono ?_
  · simp only [List.getElem?_map, Option.map_eq_some_iff] at hy
    obtain ⟨y0, hy0, rfl⟩ := hy
    exact .of_V (((hargs i y0 v hy0 hv).bare).mono e0)
  · rintro e w' ⟨v, c1, rfl, ev, hM1, hρ1, hT⟩
    refine ⟨v, rfl, ?_⟩
    simp only [adopt] at hA
    split at hA
    case isFalse => simp at hA
    rename_i hf
    simp only [Option.some.injEq, Prod.mk.injEq] at hA
    obtain ⟨rfl, rfl⟩ := hA
    obtain ⟨us, hTL, hback⟩ := res_parts hT
    obtain ⟨ts, hch⟩ := relabL_chain (names := fun _ _ => some true) (nm := fun k => (d, k)) (grow := fun _ => none) (resParts r) us 0 [] hTL (fun y hy p q hr _ => by
      have hn := hM1.names p q
      rw [show (({ boxes := ofB [], names := namesOf (cellsOfB [] ++ resParts r) } : Mem).names p q) = some true from namesOf_mem (by simp [cellsOfB, hy]) hr] at hn
      cases hs : c1.ν p q with
      | unknown => rw [hs] at hn; simp [statIs] at hn
      | dead => rw [hs] at hn; simp [statIs] at hn
      | alive t => exact ⟨t, rfl⟩)
    generalize hys : (relabL (fun _ _ => some true) (fun k => (d, k)) (fun _ => none) 0 [] (resParts r)).1 = ys at *
    have hnd := nm_nodup d 0 (resParts r).length
    have hlen := hch.len
    have hold : ∀ g off, g < w.heap.size → ¬ c1.own.W g off := fun g off hg h => ev.wr g off hg h
    have hsub : ∀ g off, c.own.W g off → c1.own.N g off := fun g off h => ev.hid g off (hM.lt g off (c.own.sub g off h)) (c.own.sub g off h) (fun k => k)
    let own2 : Own := joinOwn c.own c1.own w hsub
    have hW0 : ∀ g off, ¬ o0.W g off := fun _ _ h => h
    have e2 : Evo c.own w own2 w' := ⟨ev.size, fun g cs el fr h => ⟨cs, ev.same h (hW0 g), rfl, fun _ _ => rfl⟩, ev.other, fun g off hg h => h.resolve_right (hold g off hg), fun g off hg h => ev.no g off hg h, fun g off hg h _ => ev.hid g off hg h (hW0 g off), ev.os, ev.tape, ev.output⟩
    have hnu : ∀ p q, m.names p q ≠ none → ∀ (y : AV), y ∈ ys → rowName y ≠ some (p, q) := fun p q hn y hy hr => hn (freshAll_spec hf.2 y hy p q hr)
    have hbase : ∀ p q, c.ν p q ≠ .unknown → nuOf c.ν ys ts p q = c.ν p q := fun p q hu => by
      have hn : m.names p q ≠ none := fun h0 => by
        have := hM.names p q
        rw [h0] at this
        cases hs : c.ν p q <;> simp [hs, statIs] at this hu
      exact nuOf_base ys ts p q (hnu p q hn)
    have hext : Ext c ⟨own2, c.ρ, nuOf c.ν ys ts⟩ := ⟨fun _ _ h => h, fun _ _ _ h => h, fun p q h => by
      show nuOf c.ν ys ts p q = _
      rw [hbase p q (by rw [h]; simp), h], fun p q t h => .inl (by
      show nuOf c.ν ys ts p q = _
      rw [hbase p q (by rw [h]; simp), h])⟩
    have hltρ : ∀ id g, c.ρ id = some g → g < w.heap.size := fun id g hi => by
      have hs := hM.dom id
      rw [hi] at hs
      cases hb : m.boxes id with
      | none => simp [hb] at hs
      | some bx =>
        obtain ⟨cs', el', k1, _⟩ := hM.box id bx g hb hi
        exact lt_of_heap k1
    have hnew : ∀ (i g en : Nat), ts[i]? = some (some (g, en)) → w.heap.size ≤ g ∧ ∃ cs el, w'.heap[g]? = some (.cells cs el (0, 0)) ∧ en < cs.size ∧ ∀ off, en ≤ off → off < cs.size → c1.own.W g off := fun i g en hi => by
      obtain ⟨p, q, h1, _, _⟩ := hch.src i g en hi
      obtain ⟨cs, el, k1, k2, k3⟩ := hM1.tip p q g en h1
      refine ⟨?_, cs, el, k1, k2, k3⟩
      rcases Nat.lt_or_ge g w.heap.size with h | h
      · exact absurd (k3 en (Nat.le_refl _) k2) (hold g en h)
      · exact h
    have holdt : ∀ p q g en, c.ν p q = .alive (some (g, en)) → g < w.heap.size := fun p q g en h => by
      obtain ⟨cs, el, k1, _⟩ := hM.tip p q g en h
      exact lt_of_heap k1
    refine ⟨⟨own2, c.ρ, nuOf c.ν ys ts⟩, e2, hext, ⟨hM.dom, fun id bx g h1 h2 => ?_, hM.inj, fun p q => nuOf_names hM.names ys ts hlen.2.2 p q, fun p q g en h => ?_, fun p q p' q' g en en' h h' => ?_, fun p q g en id h hid => ?_, fun g off h => hM1.lt g off h⟩, ?_⟩
    · obtain ⟨cs, el, k1, k2, k3, k4, k5⟩ := hM.box id bx g h1 h2
      exact ⟨cs, el, ev.same k1 (hW0 g), k2, fun j x v hx hv => ⟨(k3 j x v hx hv).1.mono e2 hext, (k3 j x v hx hv).2⟩, fun hf off ho => .inl (k4 hf off ho), fun hf off ho hn => k5 hf off ho (ev.no g off (lt_of_heap k1) hn)⟩
    · rcases nuOf_alive ys ts p q _ h with ⟨i, y, h1, h2, h3⟩ | ⟨_, h2⟩
      · obtain ⟨_, cs, el, k1, k2, k3⟩ := hnew i g en h3
        exact ⟨cs, el, k1, k2, fun off h4 h5 => .inr (k3 off h4 h5)⟩
      · obtain ⟨cs, el, k1, k2, k3⟩ := hM.tip p q g en h2
        exact ⟨cs, el, ev.same k1 (hW0 g), k2, fun off h4 h5 => .inl (k3 off h4 h5)⟩
    · rcases nuOf_alive ys ts p q _ h with ⟨i, y, h1, h2, h3⟩ | ⟨_, h2⟩ <;> rcases nuOf_alive ys ts p' q' _ h' with ⟨i', y', h1', h2', h3'⟩ | ⟨_, h2'⟩
      · obtain rfl := hch.inj hM1.tipInj i i' g en en' h3 h3'
        rw [h1] at h1'; simp at h1'; subst h1'
        rw [h2] at h2'; simpa using h2'
      · have := (hnew i g en h3).1; have := holdt _ _ _ _ h2'; omega
      · have := (hnew i' g en' h3').1; have := holdt _ _ _ _ h2; omega
      · exact hM.tipInj _ _ _ _ _ _ _ h2 h2'
    · rcases nuOf_alive ys ts p q _ h with ⟨i, y, h1, h2, h3⟩ | ⟨_, h2⟩
      · have := (hnew i g en h3).1; have := hltρ id g hid; omega
      · exact hM.tipBox _ _ _ _ _ h2 hid
    · refine hback _ _ ys (by rw [← hlen.1]; simp) fun i y u hy hu => ?_
      obtain ⟨t, ht, hok⟩ := hch.ok i y u hy hu
      exact (hok.sameN (own' := own2) (ρ' := c.ρ) (fun _ _ h => h) (noPtr_spec hf.1 y (List.mem_of_getElem? hy))).T1 (fun p q hr => hch.nu hnd i y t hy ht p q hr)
end
end Ev
