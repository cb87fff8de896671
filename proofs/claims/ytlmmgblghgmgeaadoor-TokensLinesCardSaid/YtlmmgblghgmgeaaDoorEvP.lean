/- A verified evaluator, part P: calls that are handed boxes. -/
import Derived.Test.YtlmmgblghgmgeaaDoorEvO
set_option linter.unusedVariables false
set_option linter.unusedSimpArgs false
namespace Ev
open Go
section
variable {P : Program} {c : Cfg} {w : World} {m m' : Mem} {t : Tmps} {a : Act} {C : Oracle} {ro : FuncId → Bool} {D : Option (List Nat)} {d : Nat} {x : AV}

theorem map_inj {α β : Type} {f : α → β} : ∀ (l : List α), (l.map f).Nodup → ∀ (p q : α), p ∈ l → q ∈ l → f p = f q → p = q
  | [], _, p, q, hp, _, _ => by simp at hp
  | e :: r, hn, p, q, hp, hq, he => by
    simp only [List.map_cons, List.nodup_cons] at hn
    rcases List.mem_cons.1 hp with k1 | k1 <;> rcases List.mem_cons.1 hq with k2 | k2
    · rw [k1, k2]
    · rw [k1] at he; exact absurd (he ▸ List.mem_map.2 ⟨q, k2, rfl⟩) hn.1
    · rw [k2] at he; exact absurd (he ▸ List.mem_map.2 ⟨p, k1, rfl⟩) hn.1
    · exact map_inj r hn.2 p q k1 k2 he
theorem setBoxes_other {boxes : Nat → Option Box} {ids : List (Nat × Nat)} : ∀ (bs : List (Nat × Box)) (id : Nat), (∀ i, (i, id) ∉ ids) → setBoxes boxes ids bs id = boxes id
  | [], id, h => rfl
  | (i, b) :: r, id, h => by
    simp only [setBoxes]
    cases hl : List.lookup i ids with
    | none => exact setBoxes_other r id h
    | some j =>
      have : id ≠ j := fun he => h i (he ▸ lookup_mem _ _ _ hl)
      simp [this, setBoxes_other r id h]
theorem setBoxes_mem {boxes : Nat → Option Box} {ids : List (Nat × Nat)} (hk : (ids.map (·.1)).Nodup) (hv : (ids.map (·.2)).Nodup) : ∀ (bs : List (Nat × Box)) (i id : Nat) (b : Box), (bs.map (·.1)).Nodup → (i, id) ∈ ids → (i, b) ∈ bs → setBoxes boxes ids bs id = some b
  | [], i, id, b, _, _, h => by simp at h
  | (j, b') :: r, i, id, b, hn, hi, h => by
    simp only [List.map_cons, List.nodup_cons] at hn
    simp only [setBoxes]
    rcases List.mem_cons.1 h with h | h
    · simp at h
      obtain ⟨rfl, rfl⟩ := h
      simp [lookup_of_mem ids i id hk hi]
    · have hne : i ≠ j := fun he => hn.1 (he ▸ List.mem_map.2 ⟨(i, b), h, rfl⟩)
      have hr := setBoxes_mem (boxes := boxes) hk hv r i id b hn.2 hi h
      cases hl : List.lookup j ids with
      | none => exact hr
      | some j' =>
        have hm := lookup_mem _ _ _ hl
        have : id ≠ j' := fun he => by
          subst he
          have := map_inj ids hv _ _ hi hm rfl
          simp at this; exact hne this
        simp [this, hr]

theorem cells_mem {i : Nat} {b : Box} {x : AV} : ∀ {l : List (Nat × Box)}, (i, b) ∈ l → x ∈ b → x ∈ cellsOfB l
  | [], h, _ => by simp at h
  | (j, b') :: l, h, hx => by
    simp only [cellsOfB, List.mem_append]
    rcases List.mem_cons.1 h with k | k
    · simp at k; obtain ⟨_, rfl⟩ := k; exact .inl hx
    · exact .inr (cells_mem k hx)

theorem ltρ (hM : MemRel c m w) {id g : Nat} (hi : c.ρ id = some g) : g < w.heap.size := by
  have hs := hM.dom id
  rw [hi] at hs
  cases hb : m.boxes id with
  | none => simp [hb] at hs
  | some bx =>
    obtain ⟨cs', el', k1, _⟩ := hM.box id bx g hb hi
    exact lt_of_heap k1
theorem ltν (hM : MemRel c m w) {p q g e : Nat} (h : c.ν p q = .alive (some (g, e))) : g < w.heap.size := by
  obtain ⟨cs, el, k1, _⟩ := hM.tip p q g e h
  exact lt_of_heap k1

/-- The state of a call that is handed boxes. L: places, ids, boxes. -/
theorem callee_rel {L : List (Nat × Nat × Box)} (hM : MemRel c m w) (h3 : (L.map (·.1)).Nodup) (h4 : (L.map (·.2.1)).Nodup) (h5 : ∀ e ∈ L, m.boxes e.2.1 = some e.2.2 ∧ m.froz e.2.1 = false) :
    ∃ (c0 : Cfg) (PB : Nat → Prop), (∀ g off, c0.own.W g off ↔ c.own.W g off ∧ PB g) ∧ c0.own.N = c.own.N ∧ (∀ e ∈ L, c0.ρ e.1 = c.ρ e.2.1) ∧
      MemRel c0 { boxes := ofB (relabB m.names boxName (fun _ _ => none) [] (L.map fun e => (e.1, e.2.2))).1, names := namesOf (cellsOfB (relabB m.names boxName (fun _ _ => none) [] (L.map fun e => (e.1, e.2.2))).1) } w ∧
      (∀ e ∈ L, ∀ g, c.ρ e.2.1 = some g → PB g) ∧ (∀ id g, c.ρ id = some g → PB g → ∃ e ∈ L, e.2.1 = id) ∧
      (∀ p q g e, c.ν p q = .alive (some (g, e)) → PB g → ∃ x ∈ cellsOfB (L.map fun e => (e.1, e.2.2)), rowName x = some (p, q)) := by
  let bs := L.map fun e => (e.1, e.2.2)
  let bs' := (relabB m.names boxName (fun _ _ => none) [] bs).1
  have hkeys : bs.map (·.1) = L.map (·.1) := by simp [bs]
  have hshape := relabB_shape (names := m.names) (nm := boxName) (grow := fun _ _ => none) bs []
  have hkeys' : bs'.map (·.1) = L.map (·.1) := by
    have := congrArg (List.map Prod.fst) hshape
    simpa [bs', bs, Function.comp_def] using this
  -- values by place
  let valsI : Nat → List Value := fun i => blockVals w (((L.map fun e => (e.1, e.2.1)).lookup i).bind c.ρ)
  have hlk : ∀ e ∈ L, (L.map fun e => (e.1, e.2.1)).lookup e.1 = some e.2.1 := fun e he => lookup_of_mem _ _ _ (by simpa [Function.comp_def] using h3) (List.mem_map.2 ⟨e, he, rfl⟩)
  have hTLb : ∀ b ∈ bs, TL c w b.2 (valsI b.1) := fun b hb => by
    obtain ⟨e, he, rfl⟩ := List.mem_map.1 hb
    simp only [valsI, hlk e he, Option.bind_some]
    exact box_TL hM (h5 e he).1
  have hnp : ∀ x ∈ cellsOfB bs, ∀ i o, x ≠ .ptr i o := by
    have : ∀ (l : List (Nat × Nat × Box)), (∀ e ∈ l, e ∈ L) → ∀ x ∈ cellsOfB (l.map fun e => (e.1, e.2.2)), ∀ i o, x ≠ .ptr i o := by
      intro l
      induction l with
      | nil => intro _ x hx; simp [cellsOfB] at hx
      | cons e l ih =>
        intro hl x hx
        simp only [List.map_cons, cellsOfB, List.mem_append] at hx
        rcases hx with hx | hx
        · exact box_noPtr hM (h5 e (hl e (by simp))).1 x hx
        · exact ih (fun e' he' => hl e' (List.mem_cons_of_mem _ he')) x hx
    exact this L (fun _ h => h)
  obtain ⟨ts, hch⟩ := relabB_chain (names := m.names) (nm := boxName) (grow := fun _ _ => none) (vals := valsI) bs [] hTLb (fun x hx p q hr hn => by
    have := hM.names p q
    rw [hn] at this
    cases hs : c.ν p q with
    | unknown => rw [hs] at this; simp [statIs] at this
    | dead => rw [hs] at this; simp [statIs] at this
    | alive t => exact ⟨t, rfl⟩)
  have hnd := nodup_boxNames (nm := boxName) (fun i j i' j' h => by simp [boxName] at h; omega) bs (by rw [hkeys]; exact h3)
  let PB : Nat → Prop := fun g => (∃ e ∈ L, c.ρ e.2.1 = some g) ∨ ∃ (i en : Nat), ts[i]? = some (some (g, en))
  let own0 : Own := ⟨fun g off => c.own.W g off ∧ PB g, c.own.N, fun g off h => c.own.sub g off h.1⟩
  let ρ0 : Nat → Option Nat := fun i => ((L.map fun e => (e.1, e.2.1)).lookup i).bind c.ρ
  let c0 : Cfg := ⟨own0, ρ0, nuOf (fun _ _ => .unknown) (cellsOfB bs') ts⟩
  have hTL0 : TL c0 w (cellsOfB bs') (bs.flatMap fun b => valsI b.1) := hch.TL hnd (fun _ _ h => h) (relabB_noPtr bs [] hnp)
  have hsplit : ∀ b ∈ bs', TL c0 w b.2 (valsI b.1) := by
    refine TL_boxes bs' ?_ (fun b hb => ?_)
    · have : (bs'.flatMap fun b => valsI b.1) = bs.flatMap fun b => valsI b.1 := by
        rw [← List.flatMap_map (f := Prod.fst) (g := valsI), ← List.flatMap_map (f := Prod.fst) (g := valsI), hkeys', hkeys]
      rw [this]; exact hTL0
    · -- lengths
      have hm : (b.1, b.2.length) ∈ bs'.map fun b => (b.1, b.2.length) := List.mem_map.2 ⟨b, hb, rfl⟩
      rw [show (bs'.map fun b => (b.1, b.2.length)) = bs.map fun b => (b.1, b.2.length) from hshape] at hm
      obtain ⟨b0, hb0, he⟩ := List.mem_map.1 hm
      simp at he
      have := (hTLb b0 hb0).1
      rw [he.1] at this
      omega
  have hsrc : ∀ (i g en : Nat), ts[i]? = some (some (g, en)) → ∃ p q, c.ν p q = .alive (some (g, en)) ∧ ∃ x ∈ cellsOfB bs, rowName x = some (p, q) := fun i g en hi => by
    obtain ⟨p, q, h1, h2, h3⟩ := hch.src i g en hi
    rcases relabB_used bs [] _ h3 with h | ⟨x, hx, hr⟩
    · simp at h
    · exact ⟨p, q, h1, x, hx, hr⟩
  have hρ0 : ∀ i g, ρ0 i = some g → ∃ e ∈ L, e.1 = i ∧ c.ρ e.2.1 = some g := fun i g h => by
    simp only [ρ0, Option.bind_eq_some_iff] at h
    obtain ⟨id, h1, h2⟩ := h
    obtain ⟨e, he, heq⟩ := List.mem_map.1 (lookup_mem _ _ _ h1)
    simp at heq
    exact ⟨e, he, heq.1, by rw [heq.2]; exact h2⟩
  have hρ0' : ∀ e ∈ L, ρ0 e.1 = c.ρ e.2.1 := fun e he => by simp only [ρ0, hlk e he, Option.bind_some]
  refine ⟨c0, PB, fun g off => Iff.rfl, rfl, hρ0', ?_, fun e he g hg => .inl ⟨e, he, hg⟩, fun id g hi hp => ?_, fun p q g en hν hp => ?_⟩
  · refine ⟨fun i => ?_, fun i bx g h1 h2 => ?_, fun i i' g h1 h2 => ?_, fun p q => ?_, fun p q g en h => ?_, fun p q p' q' g en en' h h' => ?_, fun p q g en i h hi => ?_, hM.lt⟩
    · show (ofB bs' i).isSome = (ρ0 i).isSome
      have h1 := ofB_isSome bs' i
      rw [hkeys'] at h1
      cases hb : (ofB bs' i).isSome
      · have hn : i ∉ L.map (·.1) := fun h => by rw [h1.2 h] at hb; simp at hb
        cases hr : ρ0 i with
        | none => rfl
        | some g =>
          obtain ⟨e, he, hei, _⟩ := hρ0 i g hr
          exact absurd (List.mem_map.2 ⟨e, he, hei⟩) hn
      · obtain ⟨e, he, rfl⟩ := List.mem_map.1 (h1.1 hb)
        rw [hρ0' e he]
        have := hM.dom e.2.1
        rw [(h5 e he).1] at this
        exact this
    · obtain ⟨e, he, hei, hg⟩ := hρ0 i g h2
      obtain ⟨cs, el, k1, k2, k3, k4, k5⟩ := hM.box e.2.1 e.2.2 g (h5 e he).1 hg
      have hmem := ofB_mem bs' i bx h1
      have htl := hsplit (i, bx) hmem
      have hv : valsI i = cs.toList := by
        simp only [valsI]
        rw [← hei, hlk e he]
        simp only [Option.bind_some, hg]
        exact blockVals_eq k1
      simp only [hv] at htl
      refine ⟨cs, el, k1, by simpa using htl.1, fun j x v hx hv' => ⟨htl.2 j x v hx (by simpa using hv'), ?_, ?_⟩, fun _ off ho => ⟨k4 (h5 e he).2 off ho, .inl ⟨e, he, hg⟩⟩, fun hf => by simp at hf⟩
      · have hj : j < e.2.2.length := by
          rw [← k2]
          rcases Nat.lt_or_ge j cs.size with h' | h'
          · exact h'
          · simp [h'] at hv'
        exact (k3 j e.2.2[j] v (by simp [hj]) hv').2.1
      · have : x ∈ cellsOfB bs' := by
          exact cells_mem hmem (List.mem_of_getElem? hx)
        exact relabB_noPtr bs [] hnp x this
    · obtain ⟨e, he, hei, hg⟩ := hρ0 i g h1
      obtain ⟨e', he', hei', hg'⟩ := hρ0 i' g h2
      have := map_inj L h4 e e' he he' (hM.inj _ _ _ hg hg')
      rw [← hei, ← hei', this]
    · show statIs (nuOf (fun _ _ => .unknown) (cellsOfB bs') ts p q) (namesOf (cellsOfB bs') p q)
      rw [← addNames_none]
      exact nuOf_names (base := fun _ _ => .unknown) (names := fun _ _ => none) (fun _ _ => rfl) _ _ hch.len.2.2 p q
    · rcases nuOf_alive _ ts p q _ h with ⟨i, y, h1, h2, h3⟩ | ⟨_, h2⟩
      · obtain ⟨p', q', hs, _⟩ := hsrc i g en h3
        obtain ⟨cs, el, k1, k2, k3⟩ := hM.tip p' q' g en hs
        exact ⟨cs, el, k1, k2, fun off h4 h5 => ⟨k3 off h4 h5, .inr ⟨i, en, h3⟩⟩⟩
      · simp at h2
    · rcases nuOf_alive _ ts p q _ h with ⟨i, y, h1, h2, h3⟩ | ⟨_, h2⟩
      · rcases nuOf_alive _ ts p' q' _ h' with ⟨i', y', h1', h2', h3'⟩ | ⟨_, h2'⟩
        · obtain rfl := hch.inj hM.tipInj i i' g en en' h3 h3'
          rw [h1] at h1'; simp at h1'; subst h1'
          rw [h2] at h2'; simpa using h2'
        · simp at h2'
      · simp at h2
    · rcases nuOf_alive _ ts p q _ h with ⟨i', y, h1, h2, h3⟩ | ⟨_, h2⟩
      · obtain ⟨p', q', hs, _⟩ := hsrc i' g en h3
        obtain ⟨e, he, _, hg⟩ := hρ0 i g hi
        exact hM.tipBox _ _ _ _ _ hs hg
      · simp at h2
  · rcases hp with ⟨e, he, hg⟩ | ⟨i, en, ht⟩
    · exact ⟨e, he, hM.inj _ _ _ hg hi⟩
    · obtain ⟨p', q', hs, _⟩ := hsrc i g en ht
      exact absurd hi (hM.tipBox _ _ _ _ _ hs)
  · rcases hp with ⟨e, he, hg⟩ | ⟨i, en', ht⟩
    · exact absurd hg (hM.tipBox _ _ _ _ _ hν)
    · obtain ⟨p', q', hs, hx⟩ := hsrc i g en' ht
      obtain ⟨rfl, rfl⟩ := hM.tipInj _ _ _ _ _ _ _ hν hs
      exact hx

theorem acall_ptr {f : FuncId} {args as : List AV} {r : AV} {vs : Array Value} {ids : List (Nat × Nat)} {bs bs' : List (Nat × Box)} (hM : MemRel c m w) (hG : Gl P c.own w) (hp : passed m args 0 [] = some (as, ids, bs))
    (hC : SimCall P f as (relabB m.names boxName (fun _ _ => none) [] bs).1 r bs') (hk : bs'.map (·.1) = bs.map (·.1))
    (hf : freshAll m.names (cellsOfB (relabB (fun _ _ => some true) (fun i j => (d + 1000 * (i + 1), j)) (fun _ _ => none) [] bs').1) = true)
    (hA : adopt d (relabB (fun _ _ => some true) (fun i j => (d + 1000 * (i + 1), j)) (fun _ _ => none) [] bs').2
      { m with boxes := setBoxes m.boxes ids (relabB (fun _ _ => some true) (fun i j => (d + 1000 * (i + 1), j)) (fun _ _ => none) [] bs').1, names := addNames (killNames m.names (cellsOfB bs)) (cellsOfB (relabB (fun _ _ => some true) (fun i j => (d + 1000 * (i + 1), j)) (fun _ _ => none) [] bs').1) } r = some (x, m'))
    (hsz : vs.size = args.length) (hargs : ∀ (i : Nat) (x : AV) (v : Value), args[i]? = some x → vs[i]? = some v → T c w x v) :
    Calls P f vs w fun e w' => ∃ v, e = .returned v ∧ Post c w m' x v w' := by
  obtain ⟨L, rfl, rfl, h3, h4, h5, h6, h7⟩ := passed_spec args 0 [] as ids bs hp
  obtain ⟨c0, PB, hW0, hN0, hρ0, hM0, hPB1, hPB2, hPB3⟩ := callee_rel hM h3 h4 (fun e he => (h5 e he).2.2)
  have hargs0 : ∀ (i : Nat) (x : AV) (v : Value), as[i]? = some x → vs[i]? = some v → T1 c0 w x v := fun i y v hy hv => by
    have hi : i < args.length := by
      rcases Nat.lt_or_ge i as.length with h' | h'
      · omega
      · simp [List.getElem?_eq_none, h'] at hy
    have hx : args[i]? = some args[i] := by simp [hi]
    rcases h7 i _ y hx hy with ⟨e, he, e1, e2, e3⟩ | ⟨_, rfl⟩
    · have hT := hargs i _ v hx hv
      rw [e1] at hT
      obtain ⟨g, hr, hpv⟩ := T_ptr hT
      subst e2; subst hpv
      refine ⟨g, ?_, rfl⟩
      rw [← e3, hρ0 e he, hr]
    · exact .of_V (((hargs i _ v hx hv).bare).sameN (fun g off h => by rw [hN0] at h; exact h))
  refine (hC.2 c0 w vs hM0 (hG.weaker fun g off h => by rw [hN0] at h; exact h) (by omega) hargs0).mono ?_
  rintro e w' ⟨v, c1, rfl, ev, hM1, hρ1, hT⟩
  refine ⟨v, rfl, ?_⟩
  simp only [adopt] at hA
  split at hA
  case isFalse => simp at hA
  rename_i hfr
  simp only [Option.some.injEq, Prod.mk.injEq] at hA
  obtain ⟨rfl, rfl⟩ := hA
  obtain ⟨us, hTL, hback⟩ := res_parts hT
  have hkeys : bs'.map (·.1) = L.map (·.1) := by rw [hk]; simp
  have hal : ∀ y ∈ cellsOfB bs' ++ resParts r, ∀ p q, rowName y = some (p, q) → ∃ t, c1.ν p q = .alive t := fun y hy p q hr => by
    have hn := hM1.names p q
    rw [show (({ boxes := ofB bs', names := namesOf (cellsOfB bs' ++ resParts r) } : Mem).names p q) = some true from namesOf_mem hy hr] at hn
    cases hs : c1.ν p q with
    | unknown => rw [hs] at hn; simp [statIs] at hn
    | dead => rw [hs] at hn; simp [statIs] at hn
    | alive t => exact ⟨t, rfl⟩
  have hnd' : (bs'.map (·.1)).Nodup := by rw [hkeys]; exact h3
  let valsI : Nat → List Value := fun i => blockVals w' (c1.ρ i)
  have hTLb : ∀ b ∈ bs', TL c1 w' b.2 (valsI b.1) := fun b hb => box_TL (m := { boxes := ofB bs', names := namesOf (cellsOfB bs' ++ resParts r) }) hM1 (ofB_of_mem bs' b.1 b.2 hnd' hb)
  have hnp : ∀ x ∈ cellsOfB bs', ∀ i o, x ≠ .ptr i o := by
    have : ∀ (l : List (Nat × Box)), (∀ b ∈ l, b ∈ bs') → ∀ x ∈ cellsOfB l, ∀ i o, x ≠ .ptr i o := by
      intro l
      induction l with
      | nil => intro _ x hx; simp [cellsOfB] at hx
      | cons b l ih =>
        intro hl x hx
        obtain ⟨bi, bb⟩ := b
        simp only [cellsOfB, List.mem_append] at hx
        rcases hx with hx | hx
        · exact box_noPtr (m := { boxes := ofB bs', names := namesOf (cellsOfB bs' ++ resParts r) }) hM1 (ofB_of_mem bs' bi bb hnd' (hl (bi, bb) (by simp))) x hx
        · exact ih (fun e' he' => hl e' (List.mem_cons_of_mem _ he')) x hx
    exact this bs' (fun _ h => h)
  obtain ⟨t1, hc1⟩ := relabB_chain (names := fun _ _ => some true) (nm := fun i j => (d + 1000 * (i + 1), j)) (grow := fun _ _ => none) (vals := valsI) bs' [] hTLb (fun x hx p q hr _ => hal x (by simp [hx]) p q hr)
  have hshape := relabB_shape (names := fun _ _ => some true) (nm := fun i j => (d + 1000 * (i + 1), j)) (grow := fun _ _ => none) bs' []
  have hnpB := relabB_noPtr (names := fun _ _ => some true) (nm := fun i j => (d + 1000 * (i + 1), j)) (grow := fun _ _ => none) bs' [] hnp
  generalize hX : relabB (fun _ _ => some true) (fun i j => (d + 1000 * (i + 1), j)) (fun _ _ => none) [] bs' = X at *
  obtain ⟨t2, hc2⟩ := relabL_chain (names := fun _ _ => some true) (nm := fun k => (d, k)) (grow := fun _ => none) (resParts r) us 0 X.2 hTL (fun y hy p q hr _ => hal y (by simp [hy]) p q hr)
  generalize hys : (relabL (fun _ _ => some true) (fun k => (d, k)) (fun _ => none) 0 X.2 (resParts r)).1 = ys at *
  have hch := hc1.append hc2
  have hnd : ((bs'.flatMap fun b => (List.range' 0 b.2.length).map (fun j => (d + 1000 * (b.1 + 1), j))) ++ (List.range' 0 (resParts r).length).map fun k => (d, k)).Nodup := by
    rw [List.nodup_append]
    refine ⟨nodup_boxNames (nm := fun i j => (d + 1000 * (i + 1), j)) (fun i j i' j' h => by simp at h; omega) bs' hnd', nm_nodup d 0 _, fun p hp q hq he => ?_⟩
    subst he
    simp only [List.mem_flatMap, List.mem_map] at hp hq
    obtain ⟨b, _, j, _, rfl⟩ := hp
    obtain ⟨k, _, hk⟩ := hq
    simp at hk
  -- the joined state
  have hWsub : ∀ g off, g < w.heap.size → c1.own.W g off → c.own.W g off ∧ PB g := fun g off hg h => (hW0 g off).1 (ev.wr g off hg h)
  have hsub : ∀ g off, c.own.W g off ∧ ¬ PB g → c1.own.N g off := fun g off h => ev.hid g off (hM.lt g off (c.own.sub g off h.1)) (by rw [hN0]; exact c.own.sub g off h.1) (fun k => h.2 ((hW0 g off).1 k).2)
  let own2 : Own := ⟨fun g off => (c.own.W g off ∧ ¬ PB g) ∨ c1.own.W g off, c1.own.N, fun g off k => k.elim (hsub g off) (c1.own.sub g off)⟩
  have hW2 : ∀ g off, ¬ PB g → c.own.W g off → own2.W g off := fun g off h1 h2 => .inl ⟨h2, h1⟩
  have e2 : Evo c.own w own2 w' := by
    refine ⟨ev.size, fun g cs el fr h => ?_, ev.other, fun g off hg h => h.elim And.left (fun h => (hWsub g off hg h).1), fun g off hg h => by have := ev.no g off hg h; rw [hN0] at this; exact this, fun g off hg h h' => ev.hid g off hg (by rw [hN0]; exact h) (fun k => h' ((hW0 g off).1 k).1), ev.os, ev.tape, ev.output⟩
    obtain ⟨cs', k1, k2, k3⟩ := ev.cells g cs el fr h
    exact ⟨cs', k1, k2, fun off hn => k3 off (fun k => hn ((hW0 g off).1 k).1)⟩
  have hsame : ∀ {g : Nat} {cs : Array Value} {el : TypeId} {fr : Nat × Nat}, w.heap[g]? = some (.cells cs el fr) → ¬ PB g → w'.heap[g]? = some (.cells cs el fr) := fun h hn => ev.same h (fun off k => hn ((hW0 _ off).1 k).2)
  let νk := killS c.ν (cellsOfB (L.map fun e => (e.1, e.2.2)))
  let Y := cellsOfB X.1 ++ ys
  let ts := t1 ++ t2
  have hfreshY : ∀ y ∈ Y, ∀ p q, rowName y = some (p, q) → m.names p q = none := fun y hy p q hr => by
    rcases List.mem_append.1 hy with hy | hy
    · exact freshAll_spec hf y hy p q hr
    · have h0 := freshAll_spec hfr.2 y hy p q hr
      change addNames (killNames m.names (cellsOfB (L.map fun e => (e.1, e.2.2)))) (cellsOfB X.1) p q = none at h0
      rcases addNames_cases (killNames m.names (cellsOfB (L.map fun e => (e.1, e.2.2)))) (cellsOfB X.1) p q with ⟨k1, _⟩ | ⟨k1, _⟩
      · rw [k1] at h0; simp at h0
      · rw [k1] at h0
        have := killS_names hM.names (cellsOfB (L.map fun e => (e.1, e.2.2))) p q
        rw [h0] at this
        rcases killS_cases c.ν (cellsOfB (L.map fun e => (e.1, e.2.2))) p q with ⟨q1, _⟩ | ⟨q1, _⟩
        · rw [q1] at this; simp [statIs] at this
        · rw [q1] at this
          have h9 := hM.names p q
          cases hs : c.ν p q with
          | unknown => rw [hs] at h9; exact h9
          | dead => rw [hs] at this; simp [statIs] at this
          | alive t => rw [hs] at this; simp [statIs] at this
  have hbase : ∀ p q, c.ν p q ≠ .unknown → nuOf νk Y ts p q = νk p q := fun p q hu => by
    refine nuOf_base Y ts p q fun y hy hr => hu ?_
    have h0 := hfreshY y hy p q hr
    have h9 := hM.names p q
    rw [h0] at h9
    cases hs : c.ν p q <;> simp [hs, statIs] at h9 ⊢
  have hext : Ext c ⟨own2, c.ρ, nuOf νk Y ts⟩ := by
    refine ⟨fun _ _ h => h, fun _ _ _ h => h, fun p q h => ?_, fun p q t h => ?_⟩
    · show nuOf νk Y ts p q = _
      rw [hbase p q (by rw [h]; simp)]
      rcases killS_cases c.ν (cellsOfB (L.map fun e => (e.1, e.2.2))) p q with ⟨q1, _⟩ | ⟨q1, _⟩
      · exact q1
      · exact q1.trans h
    · show nuOf νk Y ts p q = _ ∨ nuOf νk Y ts p q = _
      rw [hbase p q (by rw [h]; simp)]
      rcases killS_cases c.ν (cellsOfB (L.map fun e => (e.1, e.2.2))) p q with ⟨q1, _⟩ | ⟨q1, _⟩
      · exact .inr q1
      · exact .inl (q1.trans h)
  have hTL2 : TL ⟨own2, c.ρ, nuOf νk Y ts⟩ w' Y ((bs'.flatMap fun b => valsI b.1) ++ us) := hch.TL hnd (fun _ _ h => h) (fun y hy => by
    rcases List.mem_append.1 hy with hy | hy
    · exact hnpB y hy
    · exact noPtr_spec hfr.1 y hy)
  have hlenF : (bs'.flatMap fun b => valsI b.1).length = (cellsOfB X.1).length := hc1.len.2.1
  obtain ⟨hTLB, hTLR⟩ := TL_append hTL2 hlenF
  have hkeysX : X.1.map (·.1) = bs'.map (·.1) := by
    have := congrArg (List.map Prod.fst) hshape
    simpa [Function.comp_def] using this
  have hsplit : ∀ b ∈ X.1, TL ⟨own2, c.ρ, nuOf νk Y ts⟩ w' b.2 (valsI b.1) := by
    refine TL_boxes X.1 ?_ (fun b hb => ?_)
    · have : (X.1.flatMap fun b => valsI b.1) = bs'.flatMap fun b => valsI b.1 := by
        rw [← List.flatMap_map (f := Prod.fst) (g := valsI), ← List.flatMap_map (f := Prod.fst) (g := valsI), hkeysX]
      rw [this]; exact hTLB
    · have hm : (b.1, b.2.length) ∈ X.1.map fun b => (b.1, b.2.length) := List.mem_map.2 ⟨b, hb, rfl⟩
      rw [hshape] at hm
      obtain ⟨b0, hb0, he⟩ := List.mem_map.1 hm
      simp at he
      have := (hTLb b0 hb0).1
      rw [he.1] at this
      omega
  have hnew : ∀ (i g en : Nat), ts[i]? = some (some (g, en)) → ∃ p q, c1.ν p q = .alive (some (g, en)) ∧ (g < w.heap.size → PB g) := fun i g en hi => by
    obtain ⟨p, q, h1, _, _⟩ := hch.src i g en hi
    obtain ⟨cs, el, k1, k2, k3⟩ := hM1.tip p q g en h1
    exact ⟨p, q, h1, fun hg => (hWsub g en hg (k3 en (Nat.le_refl _) k2)).2⟩
  have hold : ∀ p q g en, νk p q = .alive (some (g, en)) → c.ν p q = .alive (some (g, en)) ∧ ¬ PB g := fun p q g en h => by
    rcases killS_cases c.ν (cellsOfB (L.map fun e => (e.1, e.2.2))) p q with ⟨q1, _⟩ | ⟨q1, q2⟩
    · rw [show νk p q = .dead from q1] at h; simp at h
    · have hν : c.ν p q = .alive (some (g, en)) := by rw [← q1]; exact h
      refine ⟨hν, fun hP => ?_⟩
      obtain ⟨x, hx, hr⟩ := hPB3 p q g en hν hP
      exact q2 x hx hr
  have hnewBox : ∀ (i g en id : Nat), ts[i]? = some (some (g, en)) → c.ρ id ≠ some g := fun i g en id hi hid => by
    obtain ⟨p, q, h1, h2⟩ := hnew i g en hi
    obtain ⟨e, he, rfl⟩ := hPB2 id g hid (h2 (ltρ hM hid))
    exact hM1.tipBox p q g en e.1 h1 (by rw [hρ1, hρ0 e he, hid])
  refine ⟨⟨own2, c.ρ, nuOf νk Y ts⟩, e2, hext, ⟨fun id => ?_, fun id bx g h1 h2 => ?_, hM.inj, fun p q => ?_, fun p q g en h => ?_, fun p q p' q' g en en' h h' => ?_, fun p q g en id h hid => ?_, fun g off h => hM1.lt g off h⟩, ?_⟩
  · show (setBoxes m.boxes _ X.1 id).isSome = (c.ρ id).isSome
    by_cases hid : ∃ e ∈ L, e.2.1 = id
    · obtain ⟨e, he, rfl⟩ := hid
      have hmem : e.1 ∈ X.1.map (·.1) := by rw [hkeysX, hkeys]; exact List.mem_map.2 ⟨e, he, rfl⟩
      obtain ⟨b, hb, hbe⟩ := List.mem_map.1 hmem
      have hs := setBoxes_mem (boxes := m.boxes) (ids := L.map fun e => (e.1, e.2.1)) (by simpa [Function.comp_def] using h3) (by simpa [Function.comp_def] using h4) X.1 e.1 e.2.1 b.2 (by rw [hkeysX]; exact hnd') (List.mem_map.2 ⟨e, he, rfl⟩) (by rw [← hbe]; exact hb)
      rw [hs, ← hM.dom, (h5 e he).2.2.1]
      rfl
    · rw [setBoxes_other X.1 id (fun i hi => by
        obtain ⟨e, he, heq⟩ := List.mem_map.1 hi
        simp at heq
        exact hid ⟨e, he, heq.2⟩)]
      exact hM.dom id
  · by_cases hid : ∃ e ∈ L, e.2.1 = id
    · obtain ⟨e, he, rfl⟩ := hid
      have hmem : e.1 ∈ X.1.map (·.1) := by rw [hkeysX, hkeys]; exact List.mem_map.2 ⟨e, he, rfl⟩
      obtain ⟨b, hb, hbe⟩ := List.mem_map.1 hmem
      have hs := setBoxes_mem (boxes := m.boxes) (ids := L.map fun e => (e.1, e.2.1)) (by simpa [Function.comp_def] using h3) (by simpa [Function.comp_def] using h4) X.1 e.1 e.2.1 b.2 (by rw [hkeysX]; exact hnd') (List.mem_map.2 ⟨e, he, rfl⟩) (by rw [← hbe]; exact hb)
      rw [show setBoxes m.boxes (L.map fun e => (e.1, e.2.1)) X.1 e.2.1 = some bx from h1] at hs
      simp at hs
      subst hs
      have hmem' : e.1 ∈ bs'.map (·.1) := by rw [hkeys]; exact List.mem_map.2 ⟨e, he, rfl⟩
      obtain ⟨b', hb', hbe'⟩ := List.mem_map.1 hmem'
      have hρe : c1.ρ e.1 = some g := by rw [hρ1, hρ0 e he, h2]
      obtain ⟨cs, el, k1, k2, k3, k4, k5⟩ := hM1.box e.1 b'.2 g (by rw [← hbe']; exact ofB_of_mem bs' b'.1 b'.2 hnd' hb') hρe
      have htl := hsplit b hb
      have hv : valsI b.1 = cs.toList := by
        simp only [valsI, hbe, hρe]
        exact blockVals_eq k1
      rw [hv] at htl
      refine ⟨cs, el, k1, by simpa using htl.1, fun j x v hx hv' => ⟨htl.2 j x v hx (by simpa using hv'), ?_, hnpB x (cells_mem hb (List.mem_of_getElem? hx))⟩, fun _ off ho => .inr (k4 rfl off ho), fun hff => ?_⟩
      · have hj : j < b'.2.length := by
          rw [← k2]
          rcases Nat.lt_or_ge j cs.size with h' | h'
          · exact h'
          · simp [h'] at hv'
        exact (k3 j b'.2[j] v (by simp [hj]) hv').2.1
      · have := (h5 e he).2.2.2
        simp only at hff
        rw [this] at hff; simp at hff
    · have h1' : m.boxes id = some bx := by
        rw [← h1]
        exact (setBoxes_other X.1 id (fun i hi => by
          obtain ⟨e, he, heq⟩ := List.mem_map.1 hi
          simp at heq
          exact hid ⟨e, he, heq.2⟩)).symm
      have hnP : ¬ PB g := fun hP => hid (hPB2 id g h2 hP)
      obtain ⟨cs, el, k1, k2, k3, k4, k5⟩ := hM.box id bx g h1' h2
      exact ⟨cs, el, hsame k1 hnP, k2, fun j x v hx hv => ⟨(k3 j x v hx hv).1.mono e2 hext, (k3 j x v hx hv).2⟩, fun hff off ho => hW2 g off hnP (k4 hff off ho), fun hff off ho hn => k5 hff off ho (by have := ev.no g off (lt_of_heap k1) hn; rw [hN0] at this; exact this)⟩
  · have h0 := nuOf_names (killS_names hM.names (cellsOfB (L.map fun e => (e.1, e.2.2)))) Y ts hch.len.2.2 p q
    show statIs (nuOf νk Y ts p q) (addNames (addNames (killNames m.names (cellsOfB (L.map fun e => (e.1, e.2.2)))) (cellsOfB X.1)) ys p q)
    rw [addNames_append]
    exact h0
  · rcases nuOf_alive Y ts p q _ h with ⟨i, y, q1, q2, q3⟩ | ⟨_, q2⟩
    · obtain ⟨p', q', h1, _⟩ := hnew i g en q3
      obtain ⟨cs, el, k1, k2, k3⟩ := hM1.tip p' q' g en h1
      exact ⟨cs, el, k1, k2, fun off h4 h5 => .inr (k3 off h4 h5)⟩
    · obtain ⟨hν, hnP⟩ := hold p q g en q2
      obtain ⟨cs, el, k1, k2, k3⟩ := hM.tip p q g en hν
      exact ⟨cs, el, hsame k1 hnP, k2, fun off h4 h5 => hW2 g off hnP (k3 off h4 h5)⟩
  · rcases nuOf_alive Y ts p q _ h with ⟨i, y, q1, q2, q3⟩ | ⟨_, q2⟩ <;> rcases nuOf_alive Y ts p' q' _ h' with ⟨i', y', q1', q2', q3'⟩ | ⟨_, q2'⟩
    · obtain rfl := hch.inj hM1.tipInj i i' g en en' q3 q3'
      rw [q1] at q1'; simp at q1'; subst q1'
      rw [q2] at q2'; simpa using q2'
    · obtain ⟨hν, hnP⟩ := hold _ _ _ _ q2'
      obtain ⟨_, _, _, k⟩ := hnew i g en q3
      exact absurd (k (ltν hM hν)) hnP
    · obtain ⟨hν, hnP⟩ := hold _ _ _ _ q2
      obtain ⟨_, _, _, k⟩ := hnew i' g en' q3'
      exact absurd (k (ltν hM hν)) hnP
    · exact hM.tipInj _ _ _ _ _ _ _ (hold _ _ _ _ q2).1 (hold _ _ _ _ q2').1
  · rcases nuOf_alive Y ts p q _ h with ⟨i, y, q1, q2, q3⟩ | ⟨_, q2⟩
    · exact hnewBox i g en id q3 hid
    · exact hM.tipBox _ _ _ _ _ (hold _ _ _ _ q2).1 hid
  · exact hback _ _ ys (by have := hc2.len.1; simpa using this.symm) (fun i y u hy hu => hTLR.2 i y u hy hu)
end
end Ev
