/- A verified evaluator of the model's code over abstract values: the texts EvN, EvO, EvP, EvQ, EvS, EvR, EvT. -/
import Derived.Test.YtlmmgblghgmgeaaGreatDoorEv2
import Derived.LoopN
set_option linter.unusedVariables false
set_option linter.unusedSimpArgs false
/- A verified evaluator, part N: calls of functions that only read. -/
namespace Ev
open Go
section
variable {P : Program} {c : Cfg} {w : World} {m m' : Mem} {t : Tmps} {a : Act} {C : Oracle} {ro : FuncId → Bool} {D : Option (List Nat)} {d : Nat} {x : AV}

theorem scalar_V {x : AV} {own own' : Own} {w w' : World} {v : Value} (hx : x.scalar = true) (h : V own w x v) : V own' w' x v := by
  cases h <;> first | exact .bool _ | exact .int _ _ | exact .str _ | simp [AV.scalar] at hx
theorem T1_scalar {x : AV} {c : Cfg} {w : World} {v : Value} (hx : x.scalar = true) (h : T1 c w x v) : V c.own w x v := by
  cases x <;> first | exact h | simp [AV.scalar] at hx
theorem scalarR_T {r : AV} {c c' : Cfg} {w w' : World} {v : Value} (hr : scalarR r = true) (h : T c w r v) : T c' w' r v := by
  cases r with
  | tup xs =>
    obtain ⟨vs, rfl, h1, h2⟩ := h
    refine ⟨vs, rfl, h1, fun i x u hx hu => ?_⟩
    have hs := List.all_eq_true.1 hr x (List.mem_of_getElem? hx)
    exact .of_V (scalar_V hs (T1_scalar hs (h2 i x u hx hu)))
  | agg xs =>
    obtain ⟨us, rfl, h1, h2, h3⟩ := T_agg h
    refine .of_V (.agg _ _ h1 (fun j x u hx hu => ?_) h3)
    have hs := List.all_eq_true.1 hr x (List.mem_of_getElem? hx)
    exact scalar_V hs (h2 j x u hx hu)
  | bool b => exact .of_V (scalar_V hr (show V c.own w _ v from h))
  | int k n => exact .of_V (scalar_V hr (show V c.own w _ v from h))
  | str s => exact .of_V (scalar_V hr (show V c.own w _ v from h))
  | _ => simp [scalarR, AV.scalar] at hr

theorem viewed_spec {boxes : Nat → Option Box} : ∀ (args vs : List AV), viewed boxes args = some vs → vs.length = args.length ∧
    ∀ (i : Nat) (x y : AV), args[i]? = some x → vs[i]? = some y → (∃ id off b, x = .ptr id off ∧ id ∈ capIds args ∧ boxes id = some b ∧ y = .eptr ((b.drop off).map AV.bare)) ∨ ((∀ id off, x ≠ .ptr id off) ∧ y = x.bare)
  | [], vs, h => by simp [viewed] at h; subst h; simp
  | x :: r, vs, h => by
    by_cases hx : ∃ id off, x = .ptr id off
    · obtain ⟨id, off, rfl⟩ := hx
      simp only [viewed] at h
      cases hb : boxes id with
      | none => simp [hb] at h
      | some b =>
        cases hr : viewed boxes r with
        | none => simp [hb, hr] at h
        | some us =>
          simp only [hb, hr, Option.some.injEq] at h
          subst h
          obtain ⟨h1, h2⟩ := viewed_spec r us hr
          refine ⟨by simp [h1], fun i y z hy hz => ?_⟩
          cases i with
          | zero =>
            simp only [List.getElem?_cons_zero, Option.some.injEq] at hy hz
            subst hy; subst hz
            exact .inl ⟨id, off, b, rfl, by simp [capIds], hb, rfl⟩
          | succ i =>
            rcases h2 i y z (by simpa using hy) (by simpa using hz) with ⟨i', o', b', e1, e2, e3, e4⟩ | h5
            · exact .inl ⟨i', o', b', e1, by simp [capIds, e2], e3, e4⟩
            · exact .inr h5
    · have hc : viewed boxes (x :: r) = (viewed boxes r).map (x.bare :: ·) := by
        cases x <;> first | rfl | exact absurd ⟨_, _, rfl⟩ hx
      have hi : capIds (x :: r) = capIds r := by
        cases x <;> first | rfl | exact absurd ⟨_, _, rfl⟩ hx
      rw [hc] at h
      cases hr : viewed boxes r with
      | none => simp [hr] at h
      | some us =>
        simp only [hr, Option.map_some, Option.some.injEq] at h
        subst h
        obtain ⟨h1, h2⟩ := viewed_spec r us hr
        rw [hi]
        refine ⟨by simp [h1], fun i y z hy hz => ?_⟩
        cases i with
        | zero =>
          simp only [List.getElem?_cons_zero, Option.some.injEq] at hy hz
          subst hy; subst hz
          exact .inr ⟨fun id off he => hx ⟨id, off, he⟩, rfl⟩
        | succ i => exact h2 i y z (by simpa using hy) (by simpa using hz)

theorem acall_ro {f : FuncId} {args as : List AV} {r : AV} {vs : Array Value} (hM : MemRel c m w) (hG : Gl P c.own w) (hv : viewed m.boxes args = some as) (hC : SimCall P f as [] r []) (hs : scalarR r = true) (hsz : vs.size = args.length)
    (hargs : ∀ (i : Nat) (x : AV) (v : Value), args[i]? = some x → vs[i]? = some v → T c w x v) :
    Calls P f vs w fun e w' => ∃ v, e = .returned v ∧ Post c w m r v w' := by
  obtain ⟨hl, hvs⟩ := viewed_spec _ _ hv
  let B : Nat → Prop := fun g => ∃ id ∈ capIds args, c.ρ id = some g
  let o0 : Own := ⟨fun _ _ => False, fun g off => c.own.N g off ∧ ¬ B g, fun _ _ h => h.elim⟩
  let c0 : Cfg := ⟨o0, fun _ => none, fun _ _ => .unknown⟩
  have hN0 : ∀ g off, o0.N g off → c.own.N g off := fun _ _ h => h.1
  have hM0 : MemRel c0 { boxes := ofB [], names := namesOf (cellsOfB []) } w :=
    ⟨fun id => rfl, fun id bx g h => by simp [ofB] at h, fun id id' g h => by simp [c0] at h, fun p q => rfl, fun p q g e h => by simp [c0] at h, fun p q p' q' g e e' h => by simp [c0] at h, fun p q g e id h => by simp [c0] at h, fun g off h => hM.lt g off h.1⟩
  refine (hC.2 c0 w vs hM0 (hG.weaker hN0) (by omega) fun i y v hy hv => ?_).mono ?_
  · have hi : i < args.length := by
      rcases Nat.lt_or_ge i as.length with h' | h'
      · omega
      · simp [List.getElem?_eq_none, h'] at hy
    have hx : args[i]? = some args[i] := by simp [hi]
    rcases hvs i _ y hx hy with ⟨id, off, b, e1, e2, e3, rfl⟩ | ⟨_, rfl⟩
    · have hp := hargs i _ v hx hv
      rw [e1] at hp
      obtain ⟨g, hr, hpv⟩ := T_ptr hp
      subst hpv
      obtain ⟨cv, hcv⟩ := box_cells hM e3 hr
      have hb : ∀ (j : Nat) (y : AV), ((b.drop off).map AV.bare)[j]? = some y → ∃ y0, b[off + j]? = some y0 ∧ y = y0.bare := fun j y hy => by
        simp only [List.getElem?_map, List.getElem?_drop, Option.map_eq_some_iff] at hy
        obtain ⟨y0, h1, h2⟩ := hy
        exact ⟨y0, h1, h2.symm⟩
      refine .of_V (.eptr _ _ (fun j => cv (off + j)) (fun j y hy => ?_) (fun j y hy => ?_) (fun j y hy => ?_))
      · obtain ⟨y0, hy0, rfl⟩ := hb j y hy
        have := (hcv _ _ hy0).1
        rw [add_plain] at this ⊢
        simp only [Nat.zero_add] at this
        exact ⟨this, fun hn => hn.2 ⟨id, e2, hr⟩⟩
      · obtain ⟨y0, hy0, rfl⟩ := hb j y hy
        exact ((hcv _ _ hy0).2.1.bare).sameN hN0
      · obtain ⟨y0, hy0, rfl⟩ := hb j y hy
        exact (hcv _ _ hy0).2.2
    · exact .of_V (((hargs i _ v hx hv).bare).sameN hN0)
  · rintro e w' ⟨v, c1, rfl, ev, hM1, hρ1, hT⟩
    have hW0 : ∀ g off, ¬ o0.W g off := fun _ _ h => h
    have e2 : Evo c.own w c.own w' := ⟨ev.size, fun g cs el fr h => ⟨cs, ev.same h (hW0 g), rfl, fun _ _ => rfl⟩, ev.other, fun _ _ _ h => h, fun _ _ _ h => h, fun _ _ _ h _ => h, ev.os, ev.tape, ev.output⟩
    exact ⟨v, rfl, c, e2, .refl _, hM.mono e2 rfl rfl (fun _ _ _ h => h) (fun id g _ cs el h => ev.same h (hW0 g)) (fun g off h => Nat.lt_of_lt_of_le (hM.lt g off h) ev.size), scalarR_T hs hT⟩
end
end Ev

/- A verified evaluator, part O: boxes that are handed to a call. -/
namespace Ev
open Go
section
variable {P : Program} {c : Cfg} {w : World} {m m' : Mem} {t : Tmps} {a : Act} {C : Oracle} {ro : FuncId → Bool} {D : Option (List Nat)} {d : Nat} {x : AV}

theorem passed_spec : ∀ (args : List AV) (i : Nat) (seen : List Nat) (vs : List AV) (ids : List (Nat × Nat)) (bs : List (Nat × Box)), passed m args i seen = some (vs, ids, bs) →
    ∃ L : List (Nat × Nat × Box), ids = L.map (fun e => (e.1, e.2.1)) ∧ bs = L.map (fun e => (e.1, e.2.2)) ∧ (L.map (·.1)).Nodup ∧ (L.map (·.2.1)).Nodup ∧
      (∀ e ∈ L, i ≤ e.1 ∧ e.2.1 ∉ seen ∧ m.boxes e.2.1 = some e.2.2 ∧ m.froz e.2.1 = false) ∧ vs.length = args.length ∧
      ∀ (k : Nat) (x y : AV), args[k]? = some x → vs[k]? = some y → (∃ e ∈ L, x = .ptr e.2.1 0 ∧ y = .ptr (i + k) 0 ∧ e.1 = i + k) ∨ ((∀ id off, x ≠ .ptr id off) ∧ y = x.bare)
  | [], i, seen, vs, ids, bs, h => by
    simp [passed] at h
    obtain ⟨rfl, rfl, rfl⟩ := h
    exact ⟨[], by simp⟩
  | x :: r, i, seen, vs, ids, bs, h => by
    by_cases hx : ∃ id off, x = .ptr id off
    · obtain ⟨id, off, rfl⟩ := hx
      simp only [passed] at h
      split at h
      case isFalse => simp at h
      rename_i hc
      obtain ⟨rfl, hs, hf⟩ := hc
      split at h
      case h_2 => simp at h
      rename_i b us is cs hb hr
      simp only [Option.some.injEq, Prod.mk.injEq] at h
      obtain ⟨rfl, rfl, rfl⟩ := h
      obtain ⟨L, h1, h2, h3, h4, h5, h6, h7⟩ := passed_spec r (i + 1) (id :: seen) us is cs hr
      refine ⟨(i, id, b) :: L, by simp [h1], by simp [h2], ?_, ?_, ?_, by simp [h6], ?_⟩
      · simp only [List.map_cons, List.nodup_cons]
        refine ⟨fun hm => ?_, h3⟩
        obtain ⟨e, he, hei⟩ := List.mem_map.1 hm
        have := (h5 e he).1
        omega
      · simp only [List.map_cons, List.nodup_cons]
        refine ⟨fun hm => ?_, h4⟩
        obtain ⟨e, he, hei⟩ := List.mem_map.1 hm
        exact (h5 e he).2.1 (by rw [hei]; simp)
      · intro e he
        rcases List.mem_cons.1 he with rfl | he
        · exact ⟨Nat.le_refl _, hs, hb, hf⟩
        · obtain ⟨k1, k2, k3, k4⟩ := h5 e he
          exact ⟨by omega, fun hm => k2 (List.mem_cons_of_mem _ hm), k3, k4⟩
      · intro k y z hy hz
        cases k with
        | zero =>
          simp only [List.getElem?_cons_zero, Option.some.injEq] at hy hz
          subst hy; subst hz
          exact .inl ⟨(i, id, b), by simp, rfl, rfl, rfl⟩
        | succ k =>
          rcases h7 k y z (by simpa using hy) (by simpa using hz) with ⟨e, he, e1, e2, e3⟩ | h8
          · exact .inl ⟨e, List.mem_cons_of_mem _ he, e1, by rw [e2]; congr 1; omega, by omega⟩
          · exact .inr h8
    · have hc : passed m (x :: r) i seen = match passed m r (i + 1) seen with
          | some (vs, ids, bs) => some (x.bare :: vs, ids, bs)
          | none => none := by
        cases x <;> first | rfl | exact absurd ⟨_, _, rfl⟩ hx
      rw [hc] at h
      split at h
      case h_2 => simp at h
      rename_i us is cs hr
      simp only [Option.some.injEq, Prod.mk.injEq] at h
      obtain ⟨rfl, rfl, rfl⟩ := h
      obtain ⟨L, h1, h2, h3, h4, h5, h6, h7⟩ := passed_spec r (i + 1) seen us is cs hr
      refine ⟨L, h1, h2, h3, h4, fun e he => ⟨by have := (h5 e he).1; omega, (h5 e he).2⟩, by simp [h6], fun k y z hy hz => ?_⟩
      cases k with
      | zero =>
        simp only [List.getElem?_cons_zero, Option.some.injEq] at hy hz
        subst hy; subst hz
        exact .inr ⟨fun id off he => hx ⟨id, off, he⟩, rfl⟩
      | succ k =>
        rcases h7 k y z (by simpa using hy) (by simpa using hz) with ⟨e, he, e1, e2, e3⟩ | h8
        · exact .inl ⟨e, he, e1, by rw [e2]; congr 1; omega, by omega⟩
        · exact .inr h8

theorem ofB_mem : ∀ (bs : List (Nat × Box)) (i : Nat) (b : Box), ofB bs i = some b → (i, b) ∈ bs
  | [], i, b, h => by simp [ofB] at h
  | (j, b') :: r, i, b, h => by
    simp only [ofB] at h
    split at h
    · rename_i he; subst he; simp at h; subst h; simp
    · exact List.mem_cons_of_mem _ (ofB_mem r i b h)
theorem ofB_of_mem : ∀ (bs : List (Nat × Box)) (i : Nat) (b : Box), (bs.map (·.1)).Nodup → (i, b) ∈ bs → ofB bs i = some b
  | [], i, b, _, h => by simp at h
  | (j, b') :: r, i, b, hn, h => by
    simp only [List.map_cons, List.nodup_cons] at hn
    simp only [ofB]
    rcases List.mem_cons.1 h with h | h
    · simp at h; obtain ⟨rfl, rfl⟩ := h; simp
    · have : i ≠ j := fun he => hn.1 (he ▸ List.mem_map.2 ⟨(i, b), h, rfl⟩)
      simp only [this, if_false]
      exact ofB_of_mem r i b hn.2 h
theorem ofB_isSome (bs : List (Nat × Box)) (i : Nat) : (ofB bs i).isSome = true ↔ i ∈ bs.map (·.1) := by
  induction bs with
  | nil => simp [ofB]
  | cons e r ih =>
    obtain ⟨j, b⟩ := e
    simp only [ofB, List.map_cons, List.mem_cons]
    split
    · rename_i he; simp [he]
    · rename_i he; rw [ih]; simp [he]
theorem lookup_mem : ∀ (l : List (Nat × Nat)) (i j : Nat), l.lookup i = some j → (i, j) ∈ l
  | [], i, j, h => by simp at h
  | (k, v) :: r, i, j, h => by
    simp only [List.lookup] at h
    split at h
    · rename_i he; simp at he h; subst he; subst h; simp
    · exact List.mem_cons_of_mem _ (lookup_mem r i j h)
theorem lookup_of_mem : ∀ (l : List (Nat × Nat)) (i j : Nat), (l.map (·.1)).Nodup → (i, j) ∈ l → l.lookup i = some j
  | [], i, j, _, h => by simp at h
  | (k, v) :: r, i, j, hn, h => by
    simp only [List.map_cons, List.nodup_cons] at hn
    simp only [List.lookup]
    rcases List.mem_cons.1 h with h | h
    · simp at h; obtain ⟨rfl, rfl⟩ := h; simp
    · have : i ≠ k := fun he => hn.1 (he ▸ List.mem_map.2 ⟨(i, j), h, rfl⟩)
      have hb : (i == k) = false := by simpa using this
      simp only [hb]
      exact lookup_of_mem r i j hn.2 h

/-- What stands in a block. -/
def blockVals (w : World) (g : Option Nat) : List Value :=
  match g.bind (w.heap[·]?) with
  | some (.cells cs _ _) => cs.toList
  | _ => []
theorem blockVals_eq {w : World} {g : Nat} {cs : Array Value} {el : TypeId} {fr : Nat × Nat} (h : w.heap[g]? = some (.cells cs el fr)) : blockVals w (some g) = cs.toList := by simp [blockVals, h]
theorem box_TL (hM : MemRel c m w) {id : Nat} {b : Box} (h : m.boxes id = some b) : TL c w b (blockVals w (c.ρ id)) := by
  have hs := hM.dom id
  rw [h] at hs
  cases hr : c.ρ id with
  | none => simp [hr] at hs
  | some g =>
    obtain ⟨cs, el, k1, k2, k3, _⟩ := hM.box id b g h hr
    rw [blockVals_eq k1]
    exact ⟨by simpa using k2, fun i x v hx hv => (k3 i x v hx (by simpa using hv)).1⟩
theorem box_noPtr (hM : MemRel c m w) {id : Nat} {b : Box} (h : m.boxes id = some b) : ∀ x ∈ b, ∀ i o, x ≠ .ptr i o := by
  have hs := hM.dom id
  rw [h] at hs
  cases hr : c.ρ id with
  | none => simp [hr] at hs
  | some g =>
    obtain ⟨cs, el, k1, k2, k3, _⟩ := hM.box id b g h hr
    intro x hx
    obtain ⟨j, hj, rfl⟩ := List.mem_iff_getElem.1 hx
    exact (k3 j b[j] (cs[j]'(by omega)) (by simp [hj]) (by simp)).2.2

theorem TL_append {xs ys : List AV} {us vs : List Value} (h : TL c w (xs ++ ys) (us ++ vs)) (hl : us.length = xs.length) : TL c w xs us ∧ TL c w ys vs := by
  refine ⟨⟨hl, fun i x v hx hv => h.2 i x v ?_ ?_⟩, ⟨by have := h.1; simp at this; omega, fun i x v hx hv => h.2 (xs.length + i) x v ?_ ?_⟩⟩
  · rw [List.getElem?_append_left]
    · exact hx
    · rcases Nat.lt_or_ge i xs.length with h' | h'
      · exact h'
      · simp [List.getElem?_eq_none, h'] at hx
  · rw [List.getElem?_append_left]
    · exact hv
    · rcases Nat.lt_or_ge i us.length with h' | h'
      · exact h'
      · simp [List.getElem?_eq_none, h'] at hv
  · rw [List.getElem?_append_right (by omega)]
    rw [show xs.length + i - xs.length = i by omega]; exact hx
  · rw [List.getElem?_append_right (by omega)]
    rw [show xs.length + i - us.length = i by omega]; exact hv
theorem TL_boxes {vals : Nat → List Value} : ∀ (bs : List (Nat × Box)), TL c w (cellsOfB bs) (bs.flatMap fun b => vals b.1) → (∀ b ∈ bs, (vals b.1).length = b.2.length) → ∀ b ∈ bs, TL c w b.2 (vals b.1)
  | [], _, _, b, hb => by simp at hb
  | (i, b0) :: r, h, hl, b, hb => by
    simp only [cellsOfB, List.flatMap_cons] at h
    obtain ⟨h1, h2⟩ := TL_append h (hl (i, b0) (by simp))
    rcases List.mem_cons.1 hb with rfl | hb
    · exact h1
    · exact TL_boxes r h2 (fun b' hb' => hl b' (List.mem_cons_of_mem _ hb')) b hb
theorem Chain.TL {own' : Own} {ρ' : Nat → Option Nat} {base : Nat → Nat → Stat} {used u2 nms : List (Nat × Nat)} {ys : List AV} {vs : List Value} {ts : List (Option (Nat × Nat))} (h : Chain c w used nms ys vs ts u2) (hnd : nms.Nodup)
    (hN : ∀ g off, own'.N g off → c.own.N g off) (hp : ∀ y ∈ ys, ∀ i o, y ≠ .ptr i o) : Ev.TL ⟨own', ρ', nuOf base ys ts⟩ w ys vs := by
  refine ⟨h.len.2.1, fun i y v hy hv => ?_⟩
  obtain ⟨t, ht, hok⟩ := h.ok i y v hy hv
  exact (hok.sameN (ρ' := ρ') hN (hp y (List.mem_of_getElem? hy))).T1 (fun p q hr => h.nu hnd i y t hy ht p q hr)

theorem nodup_boxNames {nm : Nat → Nat → Nat × Nat} (hnm : ∀ i j i' j', nm i j = nm i' j' → i = i' ∧ j = j') : ∀ (bs : List (Nat × Box)), (bs.map (·.1)).Nodup → (bs.flatMap fun b => (List.range' 0 b.2.length).map (nm b.1)).Nodup
  | [], _ => by simp
  | (i, b) :: r, h => by
    simp only [List.map_cons, List.nodup_cons] at h
    simp only [List.flatMap_cons]
    rw [List.nodup_append]
    refine ⟨List.Pairwise.map _ (fun x y hxy he => hxy (hnm _ _ _ _ he).2) (List.nodup_range' (s := 0) (n := b.length)), nodup_boxNames hnm r h.2, fun x hx y hy he => ?_⟩
    subst he
    simp only [List.mem_map, List.mem_flatMap] at hx hy
    obtain ⟨j, _, rfl⟩ := hx
    obtain ⟨b', hb', j', _, he⟩ := hy
    exact h.1 (List.mem_map.2 ⟨b', hb', (hnm _ _ _ _ he).1⟩)

def killS (ν : Nat → Nat → Stat) : List AV → Nat → Nat → Stat
  | [], p, q => ν p q
  | y :: r, p, q => if rowName y = some (p, q) then .dead else killS ν r p q
theorem killS_names {ν : Nat → Nat → Stat} {names : Nat → Nat → Option Bool} (h : ∀ p q, statIs (ν p q) (names p q)) : ∀ (ys : List AV) (p q : Nat), statIs (killS ν ys p q) (killNames names ys p q)
  | [], p, q => h p q
  | y :: r, p, q => by
    simp only [killS, killNames]
    split
    · rfl
    · exact killS_names h r p q
theorem killS_cases (ν : Nat → Nat → Stat) : ∀ (ys : List AV) (p q : Nat), (killS ν ys p q = .dead ∧ ∃ y ∈ ys, rowName y = some (p, q)) ∨ (killS ν ys p q = ν p q ∧ ∀ y ∈ ys, rowName y ≠ some (p, q))
  | [], p, q => .inr ⟨rfl, by simp⟩
  | y :: r, p, q => by
    simp only [killS]
    split
    · rename_i h; exact .inl ⟨rfl, y, by simp, h⟩
    · rename_i h
      rcases killS_cases ν r p q with ⟨h1, z, hz, hr⟩ | ⟨h1, h2⟩
      · exact .inl ⟨h1, z, List.mem_cons_of_mem _ hz, hr⟩
      · refine .inr ⟨h1, fun z hz => ?_⟩
        rcases List.mem_cons.1 hz with rfl | hz
        · exact h
        · exact h2 z hz
theorem addNames_cases (names : Nat → Nat → Option Bool) : ∀ (ys : List AV) (p q : Nat), (addNames names ys p q = some true ∧ ∃ y ∈ ys, rowName y = some (p, q)) ∨ (addNames names ys p q = names p q ∧ ∀ y ∈ ys, rowName y ≠ some (p, q))
  | [], p, q => .inr ⟨rfl, by simp⟩
  | y :: r, p, q => by
    simp only [addNames]
    split
    · rename_i h; exact .inl ⟨rfl, y, by simp, h⟩
    · rename_i h
      rcases addNames_cases names r p q with ⟨h1, z, hz, hr⟩ | ⟨h1, h2⟩
      · exact .inl ⟨h1, z, List.mem_cons_of_mem _ hz, hr⟩
      · refine .inr ⟨h1, fun z hz => ?_⟩
        rcases List.mem_cons.1 hz with rfl | hz
        · exact h
        · exact h2 z hz
theorem addNames_append (names : Nat → Nat → Option Bool) (xs ys : List AV) (p q : Nat) : addNames (addNames names xs) ys p q = addNames names (xs ++ ys) p q := by
  rcases addNames_cases (addNames names xs) ys p q with ⟨h1, y, hy, hr⟩ | ⟨h1, h2⟩
  · rcases addNames_cases names (xs ++ ys) p q with ⟨k1, _⟩ | ⟨_, k2⟩
    · rw [h1, k1]
    · exact absurd hr (k2 y (by simp [hy]))
  · rcases addNames_cases names xs p q with ⟨k1, x, hx, hr⟩ | ⟨k1, k2⟩
    · rcases addNames_cases names (xs ++ ys) p q with ⟨q1, _⟩ | ⟨_, q2⟩
      · rw [h1, k1, q1]
      · exact absurd hr (q2 x (by simp [hx]))
    · rcases addNames_cases names (xs ++ ys) p q with ⟨_, z, hz, hr⟩ | ⟨q1, _⟩
      · rcases List.mem_append.1 hz with hz | hz
        · exact absurd hr (k2 z hz)
        · exact absurd hr (h2 z hz)
      · rw [h1, k1, q1]
end
end Ev

/- A verified evaluator, part P: calls that are handed boxes. -/
namespace Ev
open Go
section
variable {P : Program} {c : Cfg} {w : World} {m m' : Mem} {t : Tmps} {a : Act} {C : Oracle} {ro : FuncId → Bool} {D : Option (List Nat)} {d : Nat} {x : AV}

theorem map_inj {α β : Type} {f : α → β} : ∀ (l : List α), (l.map f).Nodup → ∀ (p q : α), p ∈ l → q ∈ l → f p = f q → p = q
  | [], _, p, q, hp, _, _ => by simp at hp
  | e :: r, hn, p, q, hp, hq, he => by
    simp only [List.map_cons, List.nodup_cons] at hn
    rcases List.mem_cons.1 hp with k1 | k1 <;> rcases List.mem_cons.1 hq with k2 | k2
    · rw [k1, k2]
    · rw [k1] at he; exact absurd (he ▸ List.mem_map.2 ⟨q, k2, rfl⟩) hn.1
    · rw [k2] at he; exact absurd (he ▸ List.mem_map.2 ⟨p, k1, rfl⟩) hn.1
    · exact map_inj r hn.2 p q k1 k2 he
theorem setBoxes_other {boxes : Nat → Option Box} {ids : List (Nat × Nat)} : ∀ (bs : List (Nat × Box)) (id : Nat), (∀ i, (i, id) ∉ ids) → setBoxes boxes ids bs id = boxes id
  | [], id, h => rfl
  | (i, b) :: r, id, h => by
    simp only [setBoxes]
    cases hl : List.lookup i ids with
    | none => exact setBoxes_other r id h
    | some j =>
      have : id ≠ j := fun he => h i (he ▸ lookup_mem _ _ _ hl)
      simp [this, setBoxes_other r id h]
theorem setBoxes_mem {boxes : Nat → Option Box} {ids : List (Nat × Nat)} (hk : (ids.map (·.1)).Nodup) (hv : (ids.map (·.2)).Nodup) : ∀ (bs : List (Nat × Box)) (i id : Nat) (b : Box), (bs.map (·.1)).Nodup → (i, id) ∈ ids → (i, b) ∈ bs → setBoxes boxes ids bs id = some b
  | [], i, id, b, _, _, h => by simp at h
  | (j, b') :: r, i, id, b, hn, hi, h => by
    simp only [List.map_cons, List.nodup_cons] at hn
    simp only [setBoxes]
    rcases List.mem_cons.1 h with h | h
    · simp at h
      obtain ⟨rfl, rfl⟩ := h
      simp [lookup_of_mem ids i id hk hi]
    · have hne : i ≠ j := fun he => hn.1 (he ▸ List.mem_map.2 ⟨(i, b), h, rfl⟩)
      have hr := setBoxes_mem (boxes := boxes) hk hv r i id b hn.2 hi h
      cases hl : List.lookup j ids with
      | none => exact hr
      | some j' =>
        have hm := lookup_mem _ _ _ hl
        have : id ≠ j' := fun he => by
          subst he
          have := map_inj ids hv _ _ hi hm rfl
          simp at this; exact hne this
        simp [this, hr]

theorem cells_mem {i : Nat} {b : Box} {x : AV} : ∀ {l : List (Nat × Box)}, (i, b) ∈ l → x ∈ b → x ∈ cellsOfB l
  | [], h, _ => by simp at h
  | (j, b') :: l, h, hx => by
    simp only [cellsOfB, List.mem_append]
    rcases List.mem_cons.1 h with k | k
    · simp at k; obtain ⟨_, rfl⟩ := k; exact .inl hx
    · exact .inr (cells_mem k hx)

theorem ltρ (hM : MemRel c m w) {id g : Nat} (hi : c.ρ id = some g) : g < w.heap.size := by
  have hs := hM.dom id
  rw [hi] at hs
  cases hb : m.boxes id with
  | none => simp [hb] at hs
  | some bx =>
    obtain ⟨cs', el', k1, _⟩ := hM.box id bx g hb hi
    exact lt_of_heap k1
theorem ltν (hM : MemRel c m w) {p q g e : Nat} (h : c.ν p q = .alive (some (g, e))) : g < w.heap.size := by
  obtain ⟨cs, el, k1, _⟩ := hM.tip p q g e h
  exact lt_of_heap k1

/-- The state of a call that is handed boxes. L: places, ids, boxes. -/
theorem callee_rel {L : List (Nat × Nat × Box)} (hM : MemRel c m w) (h3 : (L.map (·.1)).Nodup) (h4 : (L.map (·.2.1)).Nodup) (h5 : ∀ e ∈ L, m.boxes e.2.1 = some e.2.2 ∧ m.froz e.2.1 = false) :
    ∃ (c0 : Cfg) (PB : Nat → Prop), (∀ g off, c0.own.W g off ↔ c.own.W g off ∧ PB g) ∧ c0.own.N = c.own.N ∧ (∀ e ∈ L, c0.ρ e.1 = c.ρ e.2.1) ∧
      MemRel c0 { boxes := ofB (relabB m.names boxName (fun _ _ => none) [] (L.map fun e => (e.1, e.2.2))).1, names := namesOf (cellsOfB (relabB m.names boxName (fun _ _ => none) [] (L.map fun e => (e.1, e.2.2))).1) } w ∧
      (∀ e ∈ L, ∀ g, c.ρ e.2.1 = some g → PB g) ∧ (∀ id g, c.ρ id = some g → PB g → ∃ e ∈ L, e.2.1 = id) ∧
      (∀ p q g e, c.ν p q = .alive (some (g, e)) → PB g → ∃ x ∈ cellsOfB (L.map fun e => (e.1, e.2.2)), rowName x = some (p, q)) := by
  let bs := L.map fun e => (e.1, e.2.2)
  let bs' := (relabB m.names boxName (fun _ _ => none) [] bs).1
  have hkeys : bs.map (·.1) = L.map (·.1) := by simp [bs]
  have hshape := relabB_shape (names := m.names) (nm := boxName) (grow := fun _ _ => none) bs []
  have hkeys' : bs'.map (·.1) = L.map (·.1) := by
    have := congrArg (List.map Prod.fst) hshape
    simpa [bs', bs, Function.comp_def] using this
  -- values by place
  let valsI : Nat → List Value := fun i => blockVals w (((L.map fun e => (e.1, e.2.1)).lookup i).bind c.ρ)
  have hlk : ∀ e ∈ L, (L.map fun e => (e.1, e.2.1)).lookup e.1 = some e.2.1 := fun e he => lookup_of_mem _ _ _ (by simpa [Function.comp_def] using h3) (List.mem_map.2 ⟨e, he, rfl⟩)
  have hTLb : ∀ b ∈ bs, TL c w b.2 (valsI b.1) := fun b hb => by
    obtain ⟨e, he, rfl⟩ := List.mem_map.1 hb
    simp only [valsI, hlk e he, Option.bind_some]
    exact box_TL hM (h5 e he).1
  have hnp : ∀ x ∈ cellsOfB bs, ∀ i o, x ≠ .ptr i o := by
    have : ∀ (l : List (Nat × Nat × Box)), (∀ e ∈ l, e ∈ L) → ∀ x ∈ cellsOfB (l.map fun e => (e.1, e.2.2)), ∀ i o, x ≠ .ptr i o := by
      intro l
      induction l with
      | nil => intro _ x hx; simp [cellsOfB] at hx
      | cons e l ih =>
        intro hl x hx
        simp only [List.map_cons, cellsOfB, List.mem_append] at hx
        rcases hx with hx | hx
        · exact box_noPtr hM (h5 e (hl e (by simp))).1 x hx
        · exact ih (fun e' he' => hl e' (List.mem_cons_of_mem _ he')) x hx
    exact this L (fun _ h => h)
  obtain ⟨ts, hch⟩ := relabB_chain (names := m.names) (nm := boxName) (grow := fun _ _ => none) (vals := valsI) bs [] hTLb (fun x hx p q hr hn => by
    have := hM.names p q
    rw [hn] at this
    cases hs : c.ν p q with
    | unknown => rw [hs] at this; simp [statIs] at this
    | dead => rw [hs] at this; simp [statIs] at this
    | alive t => exact ⟨t, rfl⟩)
  have hnd := nodup_boxNames (nm := boxName) (fun i j i' j' h => by simp [boxName] at h; omega) bs (by rw [hkeys]; exact h3)
  let PB : Nat → Prop := fun g => (∃ e ∈ L, c.ρ e.2.1 = some g) ∨ ∃ (i en : Nat), ts[i]? = some (some (g, en))
  let own0 : Own := ⟨fun g off => c.own.W g off ∧ PB g, c.own.N, fun g off h => c.own.sub g off h.1⟩
  let ρ0 : Nat → Option Nat := fun i => ((L.map fun e => (e.1, e.2.1)).lookup i).bind c.ρ
  let c0 : Cfg := ⟨own0, ρ0, nuOf (fun _ _ => .unknown) (cellsOfB bs') ts⟩
  have hTL0 : TL c0 w (cellsOfB bs') (bs.flatMap fun b => valsI b.1) := hch.TL hnd (fun _ _ h => h) (relabB_noPtr bs [] hnp)
  have hsplit : ∀ b ∈ bs', TL c0 w b.2 (valsI b.1) := by
    refine TL_boxes bs' ?_ (fun b hb => ?_)
    · have : (bs'.flatMap fun b => valsI b.1) = bs.flatMap fun b => valsI b.1 := by
        rw [← List.flatMap_map (f := Prod.fst) (g := valsI), ← List.flatMap_map (f := Prod.fst) (g := valsI), hkeys', hkeys]
      rw [this]; exact hTL0
    · -- lengths
      have hm : (b.1, b.2.length) ∈ bs'.map fun b => (b.1, b.2.length) := List.mem_map.2 ⟨b, hb, rfl⟩
      rw [show (bs'.map fun b => (b.1, b.2.length)) = bs.map fun b => (b.1, b.2.length) from hshape] at hm
      obtain ⟨b0, hb0, he⟩ := List.mem_map.1 hm
      simp at he
      have := (hTLb b0 hb0).1
      rw [he.1] at this
      omega
  have hsrc : ∀ (i g en : Nat), ts[i]? = some (some (g, en)) → ∃ p q, c.ν p q = .alive (some (g, en)) ∧ ∃ x ∈ cellsOfB bs, rowName x = some (p, q) := fun i g en hi => by
    obtain ⟨p, q, h1, h2, h3⟩ := hch.src i g en hi
    rcases relabB_used bs [] _ h3 with h | ⟨x, hx, hr⟩
    · simp at h
    · exact ⟨p, q, h1, x, hx, hr⟩
  have hρ0 : ∀ i g, ρ0 i = some g → ∃ e ∈ L, e.1 = i ∧ c.ρ e.2.1 = some g := fun i g h => by
    simp only [ρ0, Option.bind_eq_some_iff] at h
    obtain ⟨id, h1, h2⟩ := h
    obtain ⟨e, he, heq⟩ := List.mem_map.1 (lookup_mem _ _ _ h1)
    simp at heq
    exact ⟨e, he, heq.1, by rw [heq.2]; exact h2⟩
  have hρ0' : ∀ e ∈ L, ρ0 e.1 = c.ρ e.2.1 := fun e he => by simp only [ρ0, hlk e he, Option.bind_some]
  refine ⟨c0, PB, fun g off => Iff.rfl, rfl, hρ0', ?_, fun e he g hg => .inl ⟨e, he, hg⟩, fun id g hi hp => ?_, fun p q g en hν hp => ?_⟩
  · refine ⟨fun i => ?_, fun i bx g h1 h2 => ?_, fun i i' g h1 h2 => ?_, fun p q => ?_, fun p q g en h => ?_, fun p q p' q' g en en' h h' => ?_, fun p q g en i h hi => ?_, hM.lt⟩
    · show (ofB bs' i).isSome = (ρ0 i).isSome
      have h1 := ofB_isSome bs' i
      rw [hkeys'] at h1
      cases hb : (ofB bs' i).isSome
      · have hn : i ∉ L.map (·.1) := fun h => by rw [h1.2 h] at hb; simp at hb
        cases hr : ρ0 i with
        | none => rfl
        | some g =>
          obtain ⟨e, he, hei, _⟩ := hρ0 i g hr
          exact absurd (List.mem_map.2 ⟨e, he, hei⟩) hn
      · obtain ⟨e, he, rfl⟩ := List.mem_map.1 (h1.1 hb)
        rw [hρ0' e he]
        have := hM.dom e.2.1
        rw [(h5 e he).1] at this
        exact this
    · obtain ⟨e, he, hei, hg⟩ := hρ0 i g h2
      obtain ⟨cs, el, k1, k2, k3, k4, k5⟩ := hM.box e.2.1 e.2.2 g (h5 e he).1 hg
      have hmem := ofB_mem bs' i bx h1
      have htl := hsplit (i, bx) hmem
      have hv : valsI i = cs.toList := by
        simp only [valsI]
        rw [← hei, hlk e he]
        simp only [Option.bind_some, hg]
        exact blockVals_eq k1
      simp only [hv] at htl
      refine ⟨cs, el, k1, by simpa using htl.1, fun j x v hx hv' => ⟨htl.2 j x v hx (by simpa using hv'), ?_, ?_⟩, fun _ off ho => ⟨k4 (h5 e he).2 off ho, .inl ⟨e, he, hg⟩⟩, fun hf => by simp at hf⟩
      · have hj : j < e.2.2.length := by
          rw [← k2]
          rcases Nat.lt_or_ge j cs.size with h' | h'
          · exact h'
          · simp [h'] at hv'
        exact (k3 j e.2.2[j] v (by simp [hj]) hv').2.1
      · have : x ∈ cellsOfB bs' := by
          exact cells_mem hmem (List.mem_of_getElem? hx)
        exact relabB_noPtr bs [] hnp x this
    · obtain ⟨e, he, hei, hg⟩ := hρ0 i g h1
      obtain ⟨e', he', hei', hg'⟩ := hρ0 i' g h2
      have := map_inj L h4 e e' he he' (hM.inj _ _ _ hg hg')
      rw [← hei, ← hei', this]
    · show statIs (nuOf (fun _ _ => .unknown) (cellsOfB bs') ts p q) (namesOf (cellsOfB bs') p q)
      rw [← addNames_none]
      exact nuOf_names (base := fun _ _ => .unknown) (names := fun _ _ => none) (fun _ _ => rfl) _ _ hch.len.2.2 p q
    · rcases nuOf_alive _ ts p q _ h with ⟨i, y, h1, h2, h3⟩ | ⟨_, h2⟩
      · obtain ⟨p', q', hs, _⟩ := hsrc i g en h3
        obtain ⟨cs, el, k1, k2, k3⟩ := hM.tip p' q' g en hs
        exact ⟨cs, el, k1, k2, fun off h4 h5 => ⟨k3 off h4 h5, .inr ⟨i, en, h3⟩⟩⟩
      · simp at h2
    · rcases nuOf_alive _ ts p q _ h with ⟨i, y, h1, h2, h3⟩ | ⟨_, h2⟩
      · rcases nuOf_alive _ ts p' q' _ h' with ⟨i', y', h1', h2', h3'⟩ | ⟨_, h2'⟩
        · obtain rfl := hch.inj hM.tipInj i i' g en en' h3 h3'
          rw [h1] at h1'; simp at h1'; subst h1'
          rw [h2] at h2'; simpa using h2'
        · simp at h2'
      · simp at h2
    · rcases nuOf_alive _ ts p q _ h with ⟨i', y, h1, h2, h3⟩ | ⟨_, h2⟩
      · obtain ⟨p', q', hs, _⟩ := hsrc i' g en h3
        obtain ⟨e, he, _, hg⟩ := hρ0 i g hi
        exact hM.tipBox _ _ _ _ _ hs hg
      · simp at h2
  · rcases hp with ⟨e, he, hg⟩ | ⟨i, en, ht⟩
    · exact ⟨e, he, hM.inj _ _ _ hg hi⟩
    · obtain ⟨p', q', hs, _⟩ := hsrc i g en ht
      exact absurd hi (hM.tipBox _ _ _ _ _ hs)
  · rcases hp with ⟨e, he, hg⟩ | ⟨i, en', ht⟩
    · exact absurd hg (hM.tipBox _ _ _ _ _ hν)
    · obtain ⟨p', q', hs, hx⟩ := hsrc i g en' ht
      obtain ⟨rfl, rfl⟩ := hM.tipInj _ _ _ _ _ _ _ hν hs
      exact hx

theorem acall_ptr {f : FuncId} {args as : List AV} {r : AV} {vs : Array Value} {ids : List (Nat × Nat)} {bs bs' : List (Nat × Box)} (hM : MemRel c m w) (hG : Gl P c.own w) (hp : passed m args 0 [] = some (as, ids, bs))
    (hC : SimCall P f as (relabB m.names boxName (fun _ _ => none) [] bs).1 r bs') (hk : bs'.map (·.1) = bs.map (·.1))
    (hf : freshAll m.names (cellsOfB (relabB (fun _ _ => some true) (fun i j => (d + 1000 * (i + 1), j)) (fun _ _ => none) [] bs').1) = true)
    (hA : adopt d (relabB (fun _ _ => some true) (fun i j => (d + 1000 * (i + 1), j)) (fun _ _ => none) [] bs').2
      { m with boxes := setBoxes m.boxes ids (relabB (fun _ _ => some true) (fun i j => (d + 1000 * (i + 1), j)) (fun _ _ => none) [] bs').1, names := addNames (killNames m.names (cellsOfB bs)) (cellsOfB (relabB (fun _ _ => some true) (fun i j => (d + 1000 * (i + 1), j)) (fun _ _ => none) [] bs').1) } r = some (x, m'))
    (hsz : vs.size = args.length) (hargs : ∀ (i : Nat) (x : AV) (v : Value), args[i]? = some x → vs[i]? = some v → T c w x v) :
    Calls P f vs w fun e w' => ∃ v, e = .returned v ∧ Post c w m' x v w' := by
  obtain ⟨L, rfl, rfl, h3, h4, h5, h6, h7⟩ := passed_spec args 0 [] as ids bs hp
  obtain ⟨c0, PB, hW0, hN0, hρ0, hM0, hPB1, hPB2, hPB3⟩ := callee_rel hM h3 h4 (fun e he => (h5 e he).2.2)
  have hargs0 : ∀ (i : Nat) (x : AV) (v : Value), as[i]? = some x → vs[i]? = some v → T1 c0 w x v := fun i y v hy hv => by
    have hi : i < args.length := by
      rcases Nat.lt_or_ge i as.length with h' | h'
      · omega
      · simp [List.getElem?_eq_none, h'] at hy
    have hx : args[i]? = some args[i] := by simp [hi]
    rcases h7 i _ y hx hy with ⟨e, he, e1, e2, e3⟩ | ⟨_, rfl⟩
    · have hT := hargs i _ v hx hv
      rw [e1] at hT
      obtain ⟨g, hr, hpv⟩ := T_ptr hT
      subst e2; subst hpv
      refine ⟨g, ?_, rfl⟩
      rw [← e3, hρ0 e he, hr]
    · exact .of_V (((hargs i _ v hx hv).bare).sameN (fun g off h => by rw [hN0] at h; exact h))
  refine (hC.2 c0 w vs hM0 (hG.weaker fun g off h => by rw [hN0] at h; exact h) (by omega) hargs0).mono ?_
  rintro e w' ⟨v, c1, rfl, ev, hM1, hρ1, hT⟩
  refine ⟨v, rfl, ?_⟩
  simp only [adopt] at hA
  split at hA
  case isFalse => simp at hA
  rename_i hfr
  simp only [Option.some.injEq, Prod.mk.injEq] at hA
  obtain ⟨rfl, rfl⟩ := hA
  obtain ⟨us, hTL, hback⟩ := res_parts hT
  have hkeys : bs'.map (·.1) = L.map (·.1) := by rw [hk]; simp
  have hal : ∀ y ∈ cellsOfB bs' ++ resParts r, ∀ p q, rowName y = some (p, q) → ∃ t, c1.ν p q = .alive t := fun y hy p q hr => by
    have hn := hM1.names p q
    rw [show (({ boxes := ofB bs', names := namesOf (cellsOfB bs' ++ resParts r) } : Mem).names p q) = some true from namesOf_mem hy hr] at hn
    cases hs : c1.ν p q with
    | unknown => rw [hs] at hn; simp [statIs] at hn
    | dead => rw [hs] at hn; simp [statIs] at hn
    | alive t => exact ⟨t, rfl⟩
  have hnd' : (bs'.map (·.1)).Nodup := by rw [hkeys]; exact h3
  let valsI : Nat → List Value := fun i => blockVals w' (c1.ρ i)
  have hTLb : ∀ b ∈ bs', TL c1 w' b.2 (valsI b.1) := fun b hb => box_TL (m := { boxes := ofB bs', names := namesOf (cellsOfB bs' ++ resParts r) }) hM1 (ofB_of_mem bs' b.1 b.2 hnd' hb)
  have hnp : ∀ x ∈ cellsOfB bs', ∀ i o, x ≠ .ptr i o := by
    have : ∀ (l : List (Nat × Box)), (∀ b ∈ l, b ∈ bs') → ∀ x ∈ cellsOfB l, ∀ i o, x ≠ .ptr i o := by
      intro l
      induction l with
      | nil => intro _ x hx; simp [cellsOfB] at hx
      | cons b l ih =>
        intro hl x hx
        obtain ⟨bi, bb⟩ := b
        simp only [cellsOfB, List.mem_append] at hx
        rcases hx with hx | hx
        · exact box_noPtr (m := { boxes := ofB bs', names := namesOf (cellsOfB bs' ++ resParts r) }) hM1 (ofB_of_mem bs' bi bb hnd' (hl (bi, bb) (by simp))) x hx
        · exact ih (fun e' he' => hl e' (List.mem_cons_of_mem _ he')) x hx
    exact this bs' (fun _ h => h)
  obtain ⟨t1, hc1⟩ := relabB_chain (names := fun _ _ => some true) (nm := fun i j => (d + 1000 * (i + 1), j)) (grow := fun _ _ => none) (vals := valsI) bs' [] hTLb (fun x hx p q hr _ => hal x (by simp [hx]) p q hr)
  have hshape := relabB_shape (names := fun _ _ => some true) (nm := fun i j => (d + 1000 * (i + 1), j)) (grow := fun _ _ => none) bs' []
  have hnpB := relabB_noPtr (names := fun _ _ => some true) (nm := fun i j => (d + 1000 * (i + 1), j)) (grow := fun _ _ => none) bs' [] hnp
  generalize hX : relabB (fun _ _ => some true) (fun i j => (d + 1000 * (i + 1), j)) (fun _ _ => none) [] bs' = X at *
  obtain ⟨t2, hc2⟩ := relabL_chain (names := fun _ _ => some true) (nm := fun k => (d, k)) (grow := fun _ => none) (resParts r) us 0 X.2 hTL (fun y hy p q hr _ => hal y (by simp [hy]) p q hr)
  generalize hys : (relabL (fun _ _ => some true) (fun k => (d, k)) (fun _ => none) 0 X.2 (resParts r)).1 = ys at *
  have hch := hc1.append hc2
  have hnd : ((bs'.flatMap fun b => (List.range' 0 b.2.length).map (fun j => (d + 1000 * (b.1 + 1), j))) ++ (List.range' 0 (resParts r).length).map fun k => (d, k)).Nodup := by
    rw [List.nodup_append]
    refine ⟨nodup_boxNames (nm := fun i j => (d + 1000 * (i + 1), j)) (fun i j i' j' h => by simp at h; omega) bs' hnd', nm_nodup d 0 _, fun p hp q hq he => ?_⟩
    subst he
    simp only [List.mem_flatMap, List.mem_map] at hp hq
    obtain ⟨b, _, j, _, rfl⟩ := hp
    obtain ⟨k, _, hk⟩ := hq
    simp at hk
  -- the joined state
  have hWsub : ∀ g off, g < w.heap.size → c1.own.W g off → c.own.W g off ∧ PB g := fun g off hg h => (hW0 g off).1 (ev.wr g off hg h)
  have hsub : ∀ g off, c.own.W g off ∧ ¬ PB g → c1.own.N g off := fun g off h => ev.hid g off (hM.lt g off (c.own.sub g off h.1)) (by rw [hN0]; exact c.own.sub g off h.1) (fun k => h.2 ((hW0 g off).1 k).2)
  let own2 : Own := ⟨fun g off => (c.own.W g off ∧ ¬ PB g) ∨ c1.own.W g off, c1.own.N, fun g off k => k.elim (hsub g off) (c1.own.sub g off)⟩
  have hW2 : ∀ g off, ¬ PB g → c.own.W g off → own2.W g off := fun g off h1 h2 => .inl ⟨h2, h1⟩
  have e2 : Evo c.own w own2 w' := by
    refine ⟨ev.size, fun g cs el fr h => ?_, ev.other, fun g off hg h => h.elim And.left (fun h => (hWsub g off hg h).1), fun g off hg h => by have := ev.no g off hg h; rw [hN0] at this; exact this, fun g off hg h h' => ev.hid g off hg (by rw [hN0]; exact h) (fun k => h' ((hW0 g off).1 k).1), ev.os, ev.tape, ev.output⟩
    obtain ⟨cs', k1, k2, k3⟩ := ev.cells g cs el fr h
    exact ⟨cs', k1, k2, fun off hn => k3 off (fun k => hn ((hW0 g off).1 k).1)⟩
  have hsame : ∀ {g : Nat} {cs : Array Value} {el : TypeId} {fr : Nat × Nat}, w.heap[g]? = some (.cells cs el fr) → ¬ PB g → w'.heap[g]? = some (.cells cs el fr) := fun h hn => ev.same h (fun off k => hn ((hW0 _ off).1 k).2)
  let νk := killS c.ν (cellsOfB (L.map fun e => (e.1, e.2.2)))
  let Y := cellsOfB X.1 ++ ys
  let ts := t1 ++ t2
  have hfreshY : ∀ y ∈ Y, ∀ p q, rowName y = some (p, q) → m.names p q = none := fun y hy p q hr => by
    rcases List.mem_append.1 hy with hy | hy
    · exact freshAll_spec hf y hy p q hr
    · have h0 := freshAll_spec hfr.2 y hy p q hr
      change addNames (killNames m.names (cellsOfB (L.map fun e => (e.1, e.2.2)))) (cellsOfB X.1) p q = none at h0
      rcases addNames_cases (killNames m.names (cellsOfB (L.map fun e => (e.1, e.2.2)))) (cellsOfB X.1) p q with ⟨k1, _⟩ | ⟨k1, _⟩
      · rw [k1] at h0; simp at h0
      · rw [k1] at h0
        have := killS_names hM.names (cellsOfB (L.map fun e => (e.1, e.2.2))) p q
        rw [h0] at this
        rcases killS_cases c.ν (cellsOfB (L.map fun e => (e.1, e.2.2))) p q with ⟨q1, _⟩ | ⟨q1, _⟩
        · rw [q1] at this; simp [statIs] at this
        · rw [q1] at this
          have h9 := hM.names p q
          cases hs : c.ν p q with
          | unknown => rw [hs] at h9; exact h9
          | dead => rw [hs] at this; simp [statIs] at this
          | alive t => rw [hs] at this; simp [statIs] at this
  have hbase : ∀ p q, c.ν p q ≠ .unknown → nuOf νk Y ts p q = νk p q := fun p q hu => by
    refine nuOf_base Y ts p q fun y hy hr => hu ?_
    have h0 := hfreshY y hy p q hr
    have h9 := hM.names p q
    rw [h0] at h9
    cases hs : c.ν p q <;> simp [hs, statIs] at h9 ⊢
  have hext : Ext c ⟨own2, c.ρ, nuOf νk Y ts⟩ := by
    refine ⟨fun _ _ h => h, fun _ _ _ h => h, fun p q h => ?_, fun p q t h => ?_⟩
    · show nuOf νk Y ts p q = _
      rw [hbase p q (by rw [h]; simp)]
      rcases killS_cases c.ν (cellsOfB (L.map fun e => (e.1, e.2.2))) p q with ⟨q1, _⟩ | ⟨q1, _⟩
      · exact q1
      · exact q1.trans h
    · show nuOf νk Y ts p q = _ ∨ nuOf νk Y ts p q = _
      rw [hbase p q (by rw [h]; simp)]
      rcases killS_cases c.ν (cellsOfB (L.map fun e => (e.1, e.2.2))) p q with ⟨q1, _⟩ | ⟨q1, _⟩
      · exact .inr q1
      · exact .inl (q1.trans h)
  have hTL2 : TL ⟨own2, c.ρ, nuOf νk Y ts⟩ w' Y ((bs'.flatMap fun b => valsI b.1) ++ us) := hch.TL hnd (fun _ _ h => h) (fun y hy => by
    rcases List.mem_append.1 hy with hy | hy
    · exact hnpB y hy
    · exact noPtr_spec hfr.1 y hy)
  have hlenF : (bs'.flatMap fun b => valsI b.1).length = (cellsOfB X.1).length := hc1.len.2.1
  obtain ⟨hTLB, hTLR⟩ := TL_append hTL2 hlenF
  have hkeysX : X.1.map (·.1) = bs'.map (·.1) := by
    have := congrArg (List.map Prod.fst) hshape
    simpa [Function.comp_def] using this
  have hsplit : ∀ b ∈ X.1, TL ⟨own2, c.ρ, nuOf νk Y ts⟩ w' b.2 (valsI b.1) := by
    refine TL_boxes X.1 ?_ (fun b hb => ?_)
    · have : (X.1.flatMap fun b => valsI b.1) = bs'.flatMap fun b => valsI b.1 := by
        rw [← List.flatMap_map (f := Prod.fst) (g := valsI), ← List.flatMap_map (f := Prod.fst) (g := valsI), hkeysX]
      rw [this]; exact hTLB
    · have hm : (b.1, b.2.length) ∈ X.1.map fun b => (b.1, b.2.length) := List.mem_map.2 ⟨b, hb, rfl⟩
      rw [hshape] at hm
      obtain ⟨b0, hb0, he⟩ := List.mem_map.1 hm
      simp at he
      have := (hTLb b0 hb0).1
      rw [he.1] at this
      omega
  have hnew : ∀ (i g en : Nat), ts[i]? = some (some (g, en)) → ∃ p q, c1.ν p q = .alive (some (g, en)) ∧ (g < w.heap.size → PB g) := fun i g en hi => by
    obtain ⟨p, q, h1, _, _⟩ := hch.src i g en hi
    obtain ⟨cs, el, k1, k2, k3⟩ := hM1.tip p q g en h1
    exact ⟨p, q, h1, fun hg => (hWsub g en hg (k3 en (Nat.le_refl _) k2)).2⟩
  have hold : ∀ p q g en, νk p q = .alive (some (g, en)) → c.ν p q = .alive (some (g, en)) ∧ ¬ PB g := fun p q g en h => by
    rcases killS_cases c.ν (cellsOfB (L.map fun e => (e.1, e.2.2))) p q with ⟨q1, _⟩ | ⟨q1, q2⟩
    · rw [show νk p q = .dead from q1] at h; simp at h
    · have hν : c.ν p q = .alive (some (g, en)) := by rw [← q1]; exact h
      refine ⟨hν, fun hP => ?_⟩
      obtain ⟨x, hx, hr⟩ := hPB3 p q g en hν hP
      exact q2 x hx hr
  have hnewBox : ∀ (i g en id : Nat), ts[i]? = some (some (g, en)) → c.ρ id ≠ some g := fun i g en id hi hid => by
    obtain ⟨p, q, h1, h2⟩ := hnew i g en hi
    obtain ⟨e, he, rfl⟩ := hPB2 id g hid (h2 (ltρ hM hid))
    exact hM1.tipBox p q g en e.1 h1 (by rw [hρ1, hρ0 e he, hid])
  refine ⟨⟨own2, c.ρ, nuOf νk Y ts⟩, e2, hext, ⟨fun id => ?_, fun id bx g h1 h2 => ?_, hM.inj, fun p q => ?_, fun p q g en h => ?_, fun p q p' q' g en en' h h' => ?_, fun p q g en id h hid => ?_, fun g off h => hM1.lt g off h⟩, ?_⟩
  · show (setBoxes m.boxes _ X.1 id).isSome = (c.ρ id).isSome
    by_cases hid : ∃ e ∈ L, e.2.1 = id
    · obtain ⟨e, he, rfl⟩ := hid
      have hmem : e.1 ∈ X.1.map (·.1) := by rw [hkeysX, hkeys]; exact List.mem_map.2 ⟨e, he, rfl⟩
      obtain ⟨b, hb, hbe⟩ := List.mem_map.1 hmem
      have hs := setBoxes_mem (boxes := m.boxes) (ids := L.map fun e => (e.1, e.2.1)) (by simpa [Function.comp_def] using h3) (by simpa [Function.comp_def] using h4) X.1 e.1 e.2.1 b.2 (by rw [hkeysX]; exact hnd') (List.mem_map.2 ⟨e, he, rfl⟩) (by rw [← hbe]; exact hb)
      rw [hs, ← hM.dom, (h5 e he).2.2.1]
      rfl
    · rw [setBoxes_other X.1 id (fun i hi => by
        obtain ⟨e, he, heq⟩ := List.mem_map.1 hi
        simp at heq
        exact hid ⟨e, he, heq.2⟩)]
      exact hM.dom id
  · by_cases hid : ∃ e ∈ L, e.2.1 = id
    · obtain ⟨e, he, rfl⟩ := hid
      have hmem : e.1 ∈ X.1.map (·.1) := by rw [hkeysX, hkeys]; exact List.mem_map.2 ⟨e, he, rfl⟩
      obtain ⟨b, hb, hbe⟩ := List.mem_map.1 hmem
      have hs := setBoxes_mem (boxes := m.boxes) (ids := L.map fun e => (e.1, e.2.1)) (by simpa [Function.comp_def] using h3) (by simpa [Function.comp_def] using h4) X.1 e.1 e.2.1 b.2 (by rw [hkeysX]; exact hnd') (List.mem_map.2 ⟨e, he, rfl⟩) (by rw [← hbe]; exact hb)
      rw [show setBoxes m.boxes (L.map fun e => (e.1, e.2.1)) X.1 e.2.1 = some bx from h1] at hs
      simp at hs
      subst hs
      have hmem' : e.1 ∈ bs'.map (·.1) := by rw [hkeys]; exact List.mem_map.2 ⟨e, he, rfl⟩
      obtain ⟨b', hb', hbe'⟩ := List.mem_map.1 hmem'
      have hρe : c1.ρ e.1 = some g := by rw [hρ1, hρ0 e he, h2]
      obtain ⟨cs, el, k1, k2, k3, k4, k5⟩ := hM1.box e.1 b'.2 g (by rw [← hbe']; exact ofB_of_mem bs' b'.1 b'.2 hnd' hb') hρe
      have htl := hsplit b hb
      have hv : valsI b.1 = cs.toList := by
        simp only [valsI, hbe, hρe]
        exact blockVals_eq k1
      rw [hv] at htl
      refine ⟨cs, el, k1, by simpa using htl.1, fun j x v hx hv' => ⟨htl.2 j x v hx (by simpa using hv'), ?_, hnpB x (cells_mem hb (List.mem_of_getElem? hx))⟩, fun _ off ho => .inr (k4 rfl off ho), fun hff => ?_⟩
      · have hj : j < b'.2.length := by
          rw [← k2]
          rcases Nat.lt_or_ge j cs.size with h' | h'
          · exact h'
          · simp [h'] at hv'
        exact (k3 j b'.2[j] v (by simp [hj]) hv').2.1
      · have := (h5 e he).2.2.2
        simp only at hff
        rw [this] at hff; simp at hff
    · have h1' : m.boxes id = some bx := by
        rw [← h1]
        exact (setBoxes_other X.1 id (fun i hi => by
          obtain ⟨e, he, heq⟩ := List.mem_map.1 hi
          simp at heq
          exact hid ⟨e, he, heq.2⟩)).symm
      have hnP : ¬ PB g := fun hP => hid (hPB2 id g h2 hP)
      obtain ⟨cs, el, k1, k2, k3, k4, k5⟩ := hM.box id bx g h1' h2
      exact ⟨cs, el, hsame k1 hnP, k2, fun j x v hx hv => ⟨(k3 j x v hx hv).1.mono e2 hext, (k3 j x v hx hv).2⟩, fun hff off ho => hW2 g off hnP (k4 hff off ho), fun hff off ho hn => k5 hff off ho (by have := ev.no g off (lt_of_heap k1) hn; rw [hN0] at this; exact this)⟩
  · have h0 := nuOf_names (killS_names hM.names (cellsOfB (L.map fun e => (e.1, e.2.2)))) Y ts hch.len.2.2 p q
    show statIs (nuOf νk Y ts p q) (addNames (addNames (killNames m.names (cellsOfB (L.map fun e => (e.1, e.2.2)))) (cellsOfB X.1)) ys p q)
    rw [addNames_append]
    exact h0
  · rcases nuOf_alive Y ts p q _ h with ⟨i, y, q1, q2, q3⟩ | ⟨_, q2⟩
    · obtain ⟨p', q', h1, _⟩ := hnew i g en q3
      obtain ⟨cs, el, k1, k2, k3⟩ := hM1.tip p' q' g en h1
      exact ⟨cs, el, k1, k2, fun off h4 h5 => .inr (k3 off h4 h5)⟩
    · obtain ⟨hν, hnP⟩ := hold p q g en q2
      obtain ⟨cs, el, k1, k2, k3⟩ := hM.tip p q g en hν
      exact ⟨cs, el, hsame k1 hnP, k2, fun off h4 h5 => hW2 g off hnP (k3 off h4 h5)⟩
  · rcases nuOf_alive Y ts p q _ h with ⟨i, y, q1, q2, q3⟩ | ⟨_, q2⟩ <;> rcases nuOf_alive Y ts p' q' _ h' with ⟨i', y', q1', q2', q3'⟩ | ⟨_, q2'⟩
    · obtain rfl := hch.inj hM1.tipInj i i' g en en' q3 q3'
      rw [q1] at q1'; simp at q1'; subst q1'
      rw [q2] at q2'; simpa using q2'
    · obtain ⟨hν, hnP⟩ := hold _ _ _ _ q2'
      obtain ⟨_, _, _, k⟩ := hnew i g en q3
      exact absurd (k (ltν hM hν)) hnP
    · obtain ⟨hν, hnP⟩ := hold _ _ _ _ q2
      obtain ⟨_, _, _, k⟩ := hnew i' g en' q3'
      exact absurd (k (ltν hM hν)) hnP
    · exact hM.tipInj _ _ _ _ _ _ _ (hold _ _ _ _ q2).1 (hold _ _ _ _ q2').1
  · rcases nuOf_alive Y ts p q _ h with ⟨i, y, q1, q2, q3⟩ | ⟨_, q2⟩
    · exact hnewBox i g en id q3 hid
    · exact hM.tipBox _ _ _ _ _ (hold _ _ _ _ q2).1 hid
  · exact hback _ _ ys (by have := hc2.len.1; simpa using this.symm) (fun i y u hy hu => hTLR.2 i y u hy hu)
end
end Ev

/- A verified evaluator, part Q: every operation; one step of a statement. -/
namespace Ev
open Go
section
variable {P : Program} {c : Cfg} {w : World} {m m' : Mem} {t : Tmps} {a : Act} {C : Oracle} {ro : FuncId → Bool} {D : Option (List Nat)} {d : Nat} {x : AV}

/-- An oracle that tells no more than contracts. -/
def Sound (P : Program) (C : Oracle) : Prop := ∀ f args bs r bs', C f args bs = some (r, bs') → SimCall P f args bs r bs'

theorem opres_enter {f : FuncId} {vs : Array Value} {s : Sem Next} (h : s.run P w = .ok (.enter f vs) w) (hc : Calls P f vs w fun e w' => ∃ v, e = .returned v ∧ Post c w m' x v w') : OpRes P c w m' x (s.run P w) := by
  rw [h]; exact hc

theorem aop_acall {f : FuncId} {args : List AV} {vs : Array Value} {s : Sem Next} (hS : Sound P C) (hM : MemRel c m w) (hG : Gl P c.own w) (h : acall C ro D d f args m = some (x, m')) (hrun : s.run P w = (callFunc f vs).run P w) (hsz : vs.size = args.length)
    (hargs : ∀ (i : Nat) (x : AV) (v : Value), args[i]? = some x → vs[i]? = some v → T c w x v) : OpRes P c w m' x (s.run P w) := by
  unfold acall at h
  split at h
  · split at h
    case h_2 => simp at h
    rename_i r hr
    have hc := hS _ _ _ _ _ hr
    exact opres_enter (hrun.trans (hc.1 vs w)) (acall_quiet hM hG hc h hsz hargs)
  · split at h
    · split at h
      case isFalse => simp at h
      split at h
      case h_2 => simp at h
      rename_i as hv
      split at h
      case h_2 => simp at h
      rename_i r hr
      split at h
      case isFalse => simp at h
      rename_i hs
      simp only [Option.some.injEq, Prod.mk.injEq] at h
      obtain ⟨rfl, rfl⟩ := h
      have hc := hS _ _ _ _ _ hr
      exact opres_enter (hrun.trans (hc.1 vs w)) (acall_ro hM hG hv hc hs hsz hargs)
    · split at h
      · simp at h
      split at h
      case h_2 => simp at h
      rename_i as ids bs hp
      split at h
      case h_2 => simp at h
      rename_i r bs' hr
      split at h
      case isFalse => simp at h
      rename_i hk
      simp only at h
      split at h
      case isFalse => simp at h
      rename_i hf
      have hc := hS _ _ _ _ _ hr
      exact opres_enter (hrun.trans (hc.1 vs w)) (acall_ptr hM hG hp hc hk hf h hsz hargs)

theorem opnds_T (hT : TRel c w t a) (xs : Array Operand) : ∀ (i : Nat) (x : AV) (v : Value), (xs.toList.map (opnd t))[i]? = some x → (xs.map a.eval)[i]? = some v → T c w x v := fun i x v hx hv => by
  simp only [List.getElem?_map, Option.map_eq_some_iff, Array.getElem?_map] at hx hv
  obtain ⟨o, ho, rfl⟩ := hx
  obtain ⟨o', ho', rfl⟩ := hv
  simp at ho
  rw [ho] at ho'; simp at ho'; subst ho'
  exact T_opnd hT o

theorem two_args {xs : Array Operand} {p q : AV} (h : xs.toList.map (opnd t) = [p, q]) : ∃ o1 o2, xs = #[o1, o2] ∧ opnd t o1 = p ∧ opnd t o2 = q := by
  obtain ⟨l⟩ := xs
  match l, h with
  | [o1, o2], h => simp at h; exact ⟨o1, o2, rfl, h.1, h.2⟩
  | [], h => simp at h
  | [_], h => simp at h
  | _ :: _ :: _ :: _, h => simp at h
theorem one_arg {xs : Array Operand} {p : AV} (h : xs.toList.map (opnd t) = [p]) : ∃ o1, xs = #[o1] ∧ opnd t o1 = p := by
  obtain ⟨l⟩ := xs
  match l, h with
  | [o1], h => simp at h; exact ⟨o1, rfl, h⟩
  | [], h => simp at h
  | _ :: _ :: _, h => simp at h

theorem exec_builtin (ρ : Operand → Value) (dst : Option Tmp) (b : Builtin) (xs : Array Operand) (ats : Array TypeId) (ty : TypeId) (pos : String) (after : Array Edge) (guard : Option (Nat × Bool)) :
    execOp ρ { dst := dst, op := .call { callee := .builtin b, args := xs, argTypes := ats }, type := ty, pos := pos, after := after, guard := guard } = builtin b ats ty (xs.map fun | .const _ => true | _ => false) (xs.map ρ) := rfl

theorem aop_sound {o : Oper} (hS : Sound P C) (hT : TRel c w t a) (hM : MemRel c m w) (hG : Gl P c.own w) (h : aop P C ro D o.op d (opnd t) m = some (x, m')) : OpRes P c w m' x ((execOp a.eval o).run P w) := by
  by_cases hnc : ∀ cl, o.op ≠ .call cl
  · exact aop_plain hT hM hnc h
  · obtain ⟨cl, hcl⟩ : ∃ cl, o.op = .call cl := by
      cases ho : o.op <;> first | exact ⟨_, rfl⟩ | exact absurd (fun cl => by rw [ho]; simp) hnc
    obtain ⟨dst, op, type, pos, after, guard⟩ := o
    simp only at hcl h
    subst hcl
    obtain ⟨callee, args, argTypes⟩ := cl
    cases callee with
    | invoke r n => simp [aop] at h
    | value f =>
      simp only [aop] at h
      split at h
      case h_2 => simp at h
      rename_i g caps hf
      have hfT := T_opnd hT f
      rw [hf] at hfT
      obtain ⟨vs, hfv, hvl, hcv⟩ : ∃ vs : Array Value, a.eval f = .func (.func g) #[] vs ∧ vs.size = caps.length ∧ ∀ (j : Nat) (x : AV) (v : Value), caps[j]? = some x → vs[j]? = some v → V c.own w x v := by
        generalize a.eval f = fv at hfT
        cases (show V c.own w (.fn g caps) fv from hfT) with
        | fn _ _ vs h1 h2 => exact ⟨vs, rfl, h1, h2⟩
      refine aop_acall (vs := args.map a.eval ++ vs) hS hM hG h ?_ (by simp [hvl]) (fun i y v hy hv => ?_)
      · simp [execOp, resolve, hfv, Deferred.ofValue, invoke]
      · rcases Nat.lt_or_ge i args.size with hi | hi
        · rw [List.getElem?_append_left (by simpa using hi)] at hy
          rw [Array.getElem?_append_left (by simpa using hi)] at hv
          exact opnds_T hT args i y v hy hv
        · rw [List.getElem?_append_right (by simpa using hi)] at hy
          rw [Array.getElem?_append_right (by simpa using hi)] at hv
          simp only [List.length_map, Array.length_toList, Array.size_map] at hy hv
          exact .of_V (hcv _ _ _ hy hv)
    | builtin b =>
      rw [exec_builtin]
      cases b with
      | len =>
        simp only [aop] at h
        split at h
        · rename_i s h1 h2
          obtain ⟨o1, rfl, ho1⟩ := one_arg h1
          have hx := T_opnd hT o1
          rw [ho1] at hx
          simp at h
          obtain ⟨rfl, rfl⟩ := h
          cases hty : argTypes.toList with
          | nil => simp [hty] at h2
          | cons ty rest =>
            have hty0 : argTypes[0]? = some ty := by rw [← Array.getElem?_toList, hty]; rfl
            simp [hty] at h2
            refine opres_of (P := P) (s := Builtin.len_ argTypes type (#[o1].map a.eval)) (v := goInt s.length) (w' := w) ?_ (.same hM (by simpa [goInt] using T.of_V (.int .i64 (s.length : Int))))
            simp [Builtin.len_, hty0, T_str hx, run_underlying h2, size_mk]
        · rename_i z els tok e h1 h2
          obtain ⟨o1, rfl, ho1⟩ := one_arg h1
          have hx := T_opnd hT o1
          rw [ho1] at hx
          obtain ⟨ad, len, cap, cv, hv, hlen, _⟩ := V_sl (T_sl hx)
          simp at h
          obtain ⟨rfl, rfl⟩ := h
          cases hty : argTypes.toList with
          | nil => simp [hty] at h2
          | cons ty rest =>
            have hty0 : argTypes[0]? = some ty := by rw [← Array.getElem?_toList, hty]; rfl
            simp [hty] at h2
            refine opres_of (P := P) (s := Builtin.len_ argTypes type (#[o1].map a.eval)) (v := goInt len) (w' := w) ?_ (.same hM (by simpa [goInt, hlen] using T.of_V (.int .i64 (els.length : Int))))
            simp [Builtin.len_, hty0, hv, run_underlying h2]
        · simp at h
      | min =>
        simp only [aop, Option.map_eq_some_iff] at h
        obtain ⟨r, hr, hx⟩ := h
        simp at hx
        obtain ⟨rfl, rfl⟩ := hx
        unfold aminmax at hr
        split at hr
        case h_2 => simp at hr
        rename_i k p k' q h1
        obtain ⟨o1, o2, rfl, h1, h2⟩ := two_args h1
        have e1 := T_opnd hT o1
        have e2 := T_opnd hT o2
        rw [h1] at e1
        rw [h2] at e2
        simp at hr
        subst hr
        refine opres_of (P := P) (s := Builtin.min_ argTypes type (#[o1, o2].map a.eval)) (v := .int k (if q < p then q else p)) (w' := w) ?_ (.same hM (by simpa using T.of_V (.int k (if q < p then q else p))))
        simp [Builtin.min_, T_int e1, T_int e2, Builtin.min2]
      | max =>
        simp only [aop, Option.map_eq_some_iff] at h
        obtain ⟨r, hr, hx⟩ := h
        simp at hx
        obtain ⟨rfl, rfl⟩ := hx
        unfold aminmax at hr
        split at hr
        case h_2 => simp at hr
        rename_i k p k' q h1
        obtain ⟨o1, o2, rfl, h1, h2⟩ := two_args h1
        have e1 := T_opnd hT o1
        have e2 := T_opnd hT o2
        rw [h1] at e1
        rw [h2] at e2
        simp at hr
        subst hr
        refine opres_of (P := P) (s := Builtin.max_ argTypes type (#[o1, o2].map a.eval)) (v := .int k (if q > p then q else p)) (w' := w) ?_ (.same hM (by simpa using T.of_V (.int k (if q > p then q else p))))
        simp [Builtin.max_, T_int e1, T_int e2, Builtin.max2]
      | append =>
        simp only [aop] at h
        split at h
        case h_2 => simp at h
        rename_i t1 t2 hty
        split at h
        case h_2 => simp at h
        rename_i e e2 y s els tok h1 h2 h3
        obtain ⟨o1, o2, rfl, k1, k2⟩ := two_args h3
        split at h
        case isFalse => simp at h
        rename_i hc
        have e1' := T_opnd hT o1
        have e2' := T_opnd hT o2
        rw [k1] at e1'
        rw [k2] at e2'
        have hta : argTypes = #[t1, t2] := by
          apply Array.ext'
          simpa using hty
        subst hta
        cases y with
        | sl s1 els1 tok1 =>
          have hmap : (#[o1, o2] : Array Operand).map a.eval = #[a.eval o1, a.eval o2] := by simp
          rw [hmap]
          exact aop_append hM (under_of_elemT h1) h2 e1' (T_sl e2') hc h
        | _ => simp [aappend] at h
      | _ => simp [aop] at h

/-- The state of a frame. N: how many slots it has. -/
structure SR (P : Program) (N : Nat) (c : Cfg) (w : World) (t : Tmps) (m : Mem) (a : Act) : Prop where
  T : TRel c w t a
  M : MemRel c m w
  G : Gl P c.own w
  defers : a.defers = []
  size : N ≤ a.tmps.size

/-- The boxes that the function was handed are where they were. -/
def Low (c c' : Cfg) : Prop := ∀ id g, id < 500000 → c'.ρ id = some g → c.ρ id = some g
theorem Low.trans {a b c : Cfg} (h : Low a b) (k : Low b c) : Low a c := fun i g hl hi => h i g hl (k i g hl hi)
theorem SR.put {N : Nat} {c' : Cfg} {w' : World} {o : Oper} {v : Value} (h : SR P N c w t m a) (hd : ∀ d, o.dst = some d → d < N) (e : Evo c.own w c'.own w') (k : Ext c c') (hM : MemRel c' m' w') (hx : Ev.T c' w' x v) : SR P N c' w' (putT o.dst x t) m' (a.put o.dst v) := by
  refine ⟨fun i => ?_, hM, h.G.mono e, ?_, ?_⟩
  · cases hdst : o.dst with
    | none => exact (h.T i).mono e k
    | some d =>
      simp only [putT, Act.put, upd_apply]
      by_cases hi : i = d
      · subst hi
        have : i < a.tmps.size := Nat.lt_of_lt_of_le (hd i hdst) h.size
        simp [this]
        exact hx
      · simp only [hi, if_false]
        have : (a.tmps.setIfInBounds d v).getD i undef = a.tmps.getD i undef := by
          simp [Array.getD_eq_getD_getElem?, Array.getElem?_setIfInBounds, show ¬ d = i from fun he => hi he.symm]
        rw [this]
        exact (h.T i).mono e k
  · cases o.dst <;> exact h.defers
  · cases o.dst with
    | none => exact h.size
    | some d => simpa [Act.put] using h.size

theorem wanted_of {ops : Array Oper} {o : Oper} {b : Bool} (hT : TRel c w t a) (h : isWanted ops o.guard t = some b) : Region.wanted o (yielded ops a.tmps) = b := by
  unfold isWanted at h
  unfold Region.wanted
  cases hg : o.guard with
  | none => rw [hg] at h; simp at h; subst h; rfl
  | some jw =>
    obtain ⟨j, want⟩ := jw
    rw [hg] at h
    simp only at h ⊢
    unfold yielded
    cases hd : (ops[j]?).bind (·.dst) with
    | none => rw [hd] at h; simp at h; subst h; simp
    | some d =>
      rw [hd] at h
      simp only [Option.bind_some] at h ⊢
      have hTd := hT d
      split at h
      · rename_i b' hb
        simp at h
        rw [hb] at hTd
        have hv := T_bool hTd
        have : a.tmps[d]? = some (.bool b') := by
          rw [Array.getD_eq_getD_getElem?] at hv
          cases hq : a.tmps[d]? with
          | none => simp [hq, undef] at hv
          | some u => simp [hq] at hv; rw [hv]
        rw [this]
        simp [← h]
      · rename_i hb
        simp at h
        subst h
        rw [hb] at hTd
        obtain ⟨vs, hv, hsz, _⟩ := T_tup hTd
        have : ∀ b', a.tmps[d]? ≠ some (.bool b') := fun b' hq => by
          simp [Array.getD_eq_getD_getElem?, hq] at hv
        cases hq : a.tmps[d]? with
        | none => simp
        | some u =>
          cases u <;> first | exact absurd hq (this _) | simp
      · simp at h

theorem step_sound {D : Option DD} {N : Nat} {ops : Array Oper} {i : Nat} {o : Oper} {t' : Tmps} {Q : Exit → Act → World → Prop} {K : Act → World → Prop} (hS : Sound P C) (hi : ops[i]? = some o) (hR : SR P N c w t m a) (h : astep P C ro D N ops o t m = some (t', m'))
    (hK : ∀ c' a' w', SR P N c' w' t' m' a' → Evo c.own w c'.own w' → Low c c' → K a' w') : wpOp P ops Q i K a w := by
  unfold astep at h
  split at h
  case isFalse => simp at h
  rename_i hdst
  have hd : ∀ d, o.dst = some d → d < N := fun d hd => by
    have hdst := (Bool.and_eq_true_iff.1 hdst).1
    rw [hd] at hdst; simpa [okDst] using hdst
  unfold wpOp
  rw [hi]
  simp only
  split at h
  · rename_i hw
    rw [wanted_of hR.T hw, if_pos rfl]
    split at h
    case h_2 => simp at h
    rename_i x m1 hx
    simp only [Option.some.injEq, Prod.mk.injEq] at h
    obtain ⟨rfl, rfl⟩ := h
    refine .inl ?_
    have := aop_sound hS hR.T hR.M hR.G hx
    unfold Oper.wp
    generalize (execOp a.eval o).run P w = res at this
    unfold OpRes at this
    split at this
    · obtain ⟨c', e, k, hM, hT⟩ := this
      exact hK c' _ _ (hR.put hd e k hM hT) e k.low
    · obtain ⟨c', e, k, hM, hT⟩ := this
      exact hK c' _ _ (hR.put hd e k hM hT) e k.low
    · refine this.mono ?_
      rintro e w' ⟨v, rfl, c', ev, k, hM, hT⟩
      exact hK c' _ _ (hR.put hd ev k hM hT) ev k.low
    · exact this.elim
  · rename_i hw
    rw [wanted_of hR.T hw]
    simp only [Option.some.injEq, Prod.mk.injEq] at h
    obtain ⟨rfl, rfl⟩ := h
    exact hK c _ _ (hR.put hd (.refl _ _) (.refl _) hR.M (⟨#[], rfl, rfl, by simp⟩ : Ev.T c w (.tup []) undef)) (.refl _ _) (fun _ _ _ h => h)
  · simp at h
end
end Ev

/- A verified evaluator, part S: code. -/
namespace Ev
open Go
section
variable {P : Program} {c : Cfg} {w : World} {m m' : Mem} {t : Tmps} {a : Act} {C : Oracle} {ro : FuncId → Bool} {D : Option (List Nat)} {d : Nat} {x : AV}

theorem lim_some {α : Type} {g : Nat → Option α} {r : α} (h : lim g = some r) : ∃ k, g k = some r := by
  unfold lim at h
  split at h
  · rename_i hx
    simp at h
    have := Classical.choose_spec (Classical.choose_spec hx)
    exact ⟨_, by rw [← h]; exact this⟩
  · simp at h

/-! ### a loop's head -/
theorem cleanS_chain {names : Nat → Nat → Option Bool} {bs : List (Nat × Box)} (hT : TRel c w t a) (hal : ∀ p q, names p q = some true → ∃ s, c.ν p q = .alive s) : ∀ (l : List (Nat × Option Nat)) (used : List (Nat × Nat)),
    ∃ ts, Chain c w used (l.map fun s => (1000000 + s.1, 0)) ((cleanS names bs t used l).1.map (·.2)) (l.map fun s => a.tmps.getD s.1 undef) ts (cleanS names bs t used l).2
  | [], used => ⟨[], .nil used⟩
  | (s, g) :: r, used => by
    have hx : T1 c w (fixPtr bs (t s)) (a.tmps.getD s undef) := by
      have h := hT s
      generalize t s = y at h
      cases y with
      | ptr id off =>
        simp only [fixPtr]
        split
        · exact h
        · exact .of_V (.undef _)
      | tup xs => exact .of_V (.undef _)
      | _ => exact h
    obtain ⟨t1, h1⟩ := relab1_step (names := names) (used := used) (p := 1000000 + s) (q := 0) (grow := g) hx (fun p q _ h => hal p q h)
    obtain ⟨ts, h2⟩ := cleanS_chain (names := names) (bs := bs) hT hal r (relab1 names used (1000000 + s) 0 g (fixPtr bs (t s))).2
    exact ⟨t1 :: ts, .cons h1 h2⟩
theorem cleanS_keys {names : Nat → Nat → Option Bool} {bs : List (Nat × Box)} : ∀ (l : List (Nat × Option Nat)) (used : List (Nat × Nat)), (cleanS names bs t used l).1.map (·.1) = l.map (·.1)
  | [], used => rfl
  | (s, g) :: r, used => by simp [cleanS, cleanS_keys r]
theorem cleanS_ptr {names : Nat → Nat → Option Bool} {bs : List (Nat × Box)} : ∀ (l : List (Nat × Option Nat)) (used : List (Nat × Nat)), ∀ e ∈ (cleanS names bs t used l).1, ∀ id off, e.2 = .ptr id off → id ∈ bs.map (·.1)
  | [], used, e, he => by simp [cleanS] at he
  | (s, g) :: r, used, e, he => by
    simp only [cleanS, List.mem_cons] at he
    rcases he with rfl | he
    · intro id off h
      simp only at h
      have key : ∀ y : AV, (∀ i o, fixPtr bs y = .ptr i o → i ∈ bs.map (·.1)) := fun y i o hy => by
        cases y with
        | ptr i' o' =>
          simp only [fixPtr] at hy
          split at hy
          · rename_i hc
            simp at hy
            obtain ⟨rfl, rfl⟩ := hy
            simpa using hc
          · simp at hy
        | _ => simp [fixPtr] at hy
      generalize hz : fixPtr bs (t s) = z at h
      by_cases hp : ∃ i o, z = .ptr i o
      · obtain ⟨i, o, rfl⟩ := hp
        simp [relab1] at h
        rw [← h.1]
        exact key _ i o hz
      · exact absurd h (relab1_noPtr (fun i o he => hp ⟨i, o, he⟩) id off)
    · exact cleanS_ptr r _ e he
theorem ofL_mem {α : Type} {z : α} : ∀ (l : List (Nat × α)) (i : Nat), ofL z l i = z ∨ ∃ e ∈ l, e.1 = i ∧ ofL z l i = e.2
  | [], i => .inl rfl
  | (j, v) :: r, i => by
    simp only [ofL]
    split
    · rename_i h; exact .inr ⟨(j, v), by simp, h.symm, rfl⟩
    · rcases ofL_mem r i with h | ⟨e, he, h1, h2⟩
      · exact .inl h
      · exact .inr ⟨e, List.mem_cons_of_mem _ he, h1, h2⟩
theorem keepBoxes_mem {boxes : Nat → Option Box} : ∀ (l : List (Nat × Option Nat)) (e : Nat × Box), e ∈ keepBoxes boxes l → boxes e.1 = some e.2 ∧ ∃ s ∈ l, e.1 = s.1 ∨ e.1 = s.1 + 500000
  | [], e, h => by simp [keepBoxes] at h
  | (s, g) :: r, e, h => by
    simp only [keepBoxes] at h
    have hr : e ∈ keepBoxes boxes r → boxes e.1 = some e.2 ∧ ∃ s' ∈ (s, g) :: r, e.1 = s'.1 ∨ e.1 = s'.1 + 500000 := fun h => by
      obtain ⟨h1, s', h2, h3⟩ := keepBoxes_mem r e h
      exact ⟨h1, s', List.mem_cons_of_mem _ h2, h3⟩
    split at h
    · rename_i b hb
      rcases List.mem_cons.1 h with rfl | h
      · exact ⟨hb, (s, g), by simp, .inl rfl⟩
      · exact hr h
    · rename_i b hb1 hb
      rcases List.mem_cons.1 h with rfl | h
      · exact ⟨hb, (s, g), by simp, .inr rfl⟩
      · exact hr h
    · exact hr h
theorem keepBoxes_nodup {boxes : Nat → Option Box} : ∀ (l : List (Nat × Option Nat)), (l.map (·.1)).Nodup → (∀ s ∈ l, s.1 < 500000) → ((keepBoxes boxes l).map (·.1)).Nodup
  | [], _, _ => by simp [keepBoxes]
  | (s, g) :: r, h, hs => by
    simp only [List.map_cons, List.nodup_cons] at h
    have ih := keepBoxes_nodup (boxes := boxes) r h.2 (fun s' h' => hs s' (List.mem_cons_of_mem _ h'))
    have hs0 := hs (s, g) (by simp)
    have hno : ∀ k, (k = s ∨ k = s + 500000) → k ∉ (keepBoxes boxes r).map (·.1) := fun k hk hm => by
      obtain ⟨e, he, heq⟩ := List.mem_map.1 hm
      obtain ⟨_, s', h2, h3⟩ := keepBoxes_mem r e he
      have hs' := hs s' (List.mem_cons_of_mem _ h2)
      have : s'.1 = s := by (simp only at hs0; omega)
      exact h.1 (List.mem_map.2 ⟨s', h2, this⟩)
    simp only [keepBoxes]
    split
    · exact List.nodup_cons.2 ⟨hno s (.inl rfl), ih⟩
    · exact List.nodup_cons.2 ⟨hno (s + 500000) (.inr rfl), ih⟩
    · exact ih

theorem clean_sound {N : Nat} {L : Keep} (hR : SR P N c w t m a) : ∃ c', SR P N c' w (clean L t m).1 (clean L t m).2 a ∧ Evo c.own w c'.own w ∧ Low c c' := by
  let bs := keepBoxes m.boxes L.slots
  have hM := hR.M
  have hmem : ∀ e ∈ bs, m.boxes e.1 = some e.2 := fun e he => (keepBoxes_mem L.slots e he).1
  have hndB : (bs.map (·.1)).Nodup := keepBoxes_nodup L.slots L.nd (fun s hs => by simpa using List.all_eq_true.1 L.small s hs)
  have hal : ∀ p q, m.names p q = some true → ∃ s, c.ν p q = .alive s := fun p q hn => by
    have := hM.names p q
    rw [hn] at this
    cases hs : c.ν p q with
    | unknown => rw [hs] at this; simp [statIs] at this
    | dead => rw [hs] at this; simp [statIs] at this
    | alive t => exact ⟨t, rfl⟩
  let valsI : Nat → List Value := fun i => blockVals w (c.ρ i)
  have hTLb : ∀ b ∈ bs, TL c w b.2 (valsI b.1) := fun b hb => box_TL hM (hmem b hb)
  have hnp : ∀ x ∈ cellsOfB bs, ∀ i o, x ≠ .ptr i o := by
    have : ∀ (l : List (Nat × Box)), (∀ b ∈ l, b ∈ bs) → ∀ x ∈ cellsOfB l, ∀ i o, x ≠ .ptr i o := by
      intro l
      induction l with
      | nil => intro _ x hx; simp [cellsOfB] at hx
      | cons b l ih =>
        intro hl x hx
        obtain ⟨bi, bb⟩ := b
        simp only [cellsOfB, List.mem_append] at hx
        rcases hx with hx | hx
        · exact box_noPtr hM (hmem (bi, bb) (hl (bi, bb) (by simp))) x hx
        · exact ih (fun e' he' => hl e' (List.mem_cons_of_mem _ he')) x hx
    exact this bs (fun _ h => h)
  obtain ⟨t1, hc1⟩ := relabB_chain (names := m.names) (nm := boxName) (grow := growOf L.cells) (vals := valsI) bs [] hTLb (fun x hx p q _ hn => hal p q hn)
  have hshape := relabB_shape (names := m.names) (nm := boxName) (grow := growOf L.cells) bs []
  have hnpB := relabB_noPtr (names := m.names) (nm := boxName) (grow := growOf L.cells) bs [] hnp
  have hcl : clean L t m = (ofL .undef (cleanS m.names bs t (relabB m.names boxName (growOf L.cells) [] bs).2 L.slots).1, { boxes := ofB (relabB m.names boxName (growOf L.cells) [] bs).1, names := namesOf (cellsOfB (relabB m.names boxName (growOf L.cells) [] bs).1 ++ (cleanS m.names bs t (relabB m.names boxName (growOf L.cells) [] bs).2 L.slots).1.map (·.2)), froz := m.froz }) := rfl
  rw [hcl]
  generalize hX : relabB m.names boxName (growOf L.cells) [] bs = X at *
  obtain ⟨t2, hc2⟩ := cleanS_chain (names := m.names) (bs := bs) hR.T hal L.slots X.2
  have hck := cleanS_keys (names := m.names) (bs := bs) (t := t) L.slots X.2
  have hcp := cleanS_ptr (names := m.names) (bs := bs) (t := t) L.slots X.2
  generalize hY : cleanS m.names bs t X.2 L.slots = Z at *
  have hch := hc1.append hc2
  have hnd : ((bs.flatMap fun (b : Nat × Box) => (List.range' 0 b.2.length).map (boxName b.1)) ++ L.slots.map fun (s : Nat × Option Nat) => (1000000 + s.1, 0)).Nodup := by
    rw [List.nodup_append]
    refine ⟨nodup_boxNames (nm := boxName) (fun i j i' j' h => by simp [boxName] at h; omega) bs hndB, ?_, fun p hp q hq he => ?_⟩
    · have h0 := L.nd
      have : (L.slots.map fun s => (1000000 + s.1, 0)) = (L.slots.map (·.1)).map fun s => (1000000 + s, 0) := by simp
      rw [this]
      exact List.Pairwise.map _ (fun a b h he => h (by simp at he; omega)) h0
    · subst he
      simp only [List.mem_flatMap, List.mem_map] at hp hq
      obtain ⟨b, _, j, _, rfl⟩ := hp
      obtain ⟨k, _, hk⟩ := hq
      simp [boxName] at hk
      omega
  let Y := cellsOfB X.1 ++ Z.1.map (·.2)
  let ts := t1 ++ t2
  let ρ' : Nat → Option Nat := fun i => if i ∈ bs.map (·.1) then c.ρ i else none
  let ν' := nuOf (fun _ _ => .unknown) Y ts
  have hkeysX : X.1.map (·.1) = bs.map (·.1) := by
    have := congrArg (List.map Prod.fst) hshape
    simpa [Function.comp_def] using this
  have hTLB : TL ⟨c.own, ρ', ν'⟩ w (cellsOfB X.1) (bs.flatMap fun b => valsI b.1) := by
    refine ⟨hc1.len.2.1, fun i y v hy hv => ?_⟩
    have hi : i < (cellsOfB X.1).length := by
      rcases Nat.lt_or_ge i (cellsOfB X.1).length with h' | h'
      · exact h'
      · simp [List.getElem?_eq_none, h'] at hy
    have hl := hc1.len
    obtain ⟨t, ht, hok⟩ := hch.ok i y v (by rw [List.getElem?_append_left hi]; exact hy) (by rw [List.getElem?_append_left (by omega)]; exact hv)
    exact (hok.sameN (ρ' := ρ') (fun _ _ h => h) (hnpB y (List.mem_of_getElem? hy))).T1 (fun p q hr => hch.nu hnd i y t (by rw [List.getElem?_append_left hi]; exact hy) ht p q hr)
  have hsplit : ∀ b ∈ X.1, TL ⟨c.own, ρ', ν'⟩ w b.2 (valsI b.1) := by
    refine TL_boxes X.1 ?_ (fun b hb => ?_)
    · have : (X.1.flatMap fun b => valsI b.1) = bs.flatMap fun b => valsI b.1 := by
        rw [← List.flatMap_map (f := Prod.fst) (g := valsI), ← List.flatMap_map (f := Prod.fst) (g := valsI), hkeysX]
      rw [this]; exact hTLB
    · have hm : (b.1, b.2.length) ∈ X.1.map fun b => (b.1, b.2.length) := List.mem_map.2 ⟨b, hb, rfl⟩
      rw [hshape] at hm
      obtain ⟨b0, hb0, he⟩ := List.mem_map.1 hm
      simp at he
      have := (hTLb b0 hb0).1
      rw [he.1] at this
      omega
  have hsrc : ∀ (i g en : Nat), ts[i]? = some (some (g, en)) → ∃ p q, c.ν p q = .alive (some (g, en)) := fun i g en hi => by
    obtain ⟨p, q, h1, _, _⟩ := hch.src i g en hi
    exact ⟨p, q, h1⟩
  have hρ' : ∀ i g, ρ' i = some g → i ∈ bs.map (·.1) ∧ c.ρ i = some g := fun i g h => by
    simp only [ρ'] at h
    split at h
    · rename_i hm; exact ⟨hm, h⟩
    · simp at h
  refine ⟨⟨c.own, ρ', ν'⟩, ⟨fun i => ?_, ⟨fun id => ?_, fun id bx g h1 h2 => ?_, fun id id' g h1 h2 => hM.inj _ _ _ (hρ' id g h1).2 (hρ' id' g h2).2, fun p q => ?_, fun p q g en h => ?_, fun p q p' q' g en en' h h' => ?_, fun p q g en id h hid => ?_, hM.lt⟩, hR.G, hR.defers, hR.size⟩, .refl _ _, fun id g _ h => (hρ' id g h).2⟩
  · rcases ofL_mem (z := AV.undef) Z.1 i with h | ⟨e, he, h1, h2⟩
    · show T _ w (ofL .undef Z.1 i) _
      rw [h]; exact .of_V (.undef _)
    · show T _ w (ofL .undef Z.1 i) _
      rw [h2]
      obtain ⟨k, hk, hke⟩ := List.mem_iff_getElem.1 he
      have hkl : k < L.slots.length := by have := congrArg List.length hck; simp at this; omega
      have hl1 := hc1.len
      have hsk : L.slots[k].1 = i := by
        have := congrArg (·[k]?) hck
        simp [hk, hkl] at this
        rw [← this, hke, h1]
      have hyk : Y[(cellsOfB X.1).length + k]? = some e.2 := by
        simp only [Y]
        rw [List.getElem?_append_right (by omega)]
        simp [hk, hke]
      have hvk : ((bs.flatMap fun b => valsI b.1) ++ L.slots.map fun s => a.tmps.getD s.1 undef)[(cellsOfB X.1).length + k]? = some (a.tmps.getD i undef) := by
        rw [List.getElem?_append_right (by omega)]
        rw [show (cellsOfB X.1).length + k - (bs.flatMap fun b => valsI b.1).length = k by omega]
        simp [hkl, hsk]
      obtain ⟨t0, ht0, hok⟩ := hch.ok _ _ _ hyk hvk
      refine .of_T1 ?_
      by_cases hp : ∃ id off, e.2 = .ptr id off
      · obtain ⟨id, off, hp⟩ := hp
        rw [hp] at hok ⊢
        obtain ⟨g, hg, hv⟩ := hok
        refine ⟨g, ?_, hv⟩
        show (if id ∈ bs.map (·.1) then c.ρ id else none) = some g
        rw [if_pos (hcp e he id off hp)]
        exact hg
      · exact (hok.sameN (ρ' := ρ') (fun _ _ h => h) (fun id off hq => hp ⟨id, off, hq⟩)).T1 (fun p q hr => hch.nu hnd _ _ _ hyk ht0 p q hr)
  · show (ofB X.1 id).isSome = (ρ' id).isSome
    have h1 := ofB_isSome X.1 id
    rw [hkeysX] at h1
    simp only [ρ']
    split
    · rename_i hm
      rw [h1.2 hm]
      obtain ⟨e, he, rfl⟩ := List.mem_map.1 hm
      have := hM.dom e.1
      rw [hmem e he] at this
      exact this
    · rename_i hm
      cases hb : (ofB X.1 id).isSome
      · rfl
      · exact absurd (h1.1 hb) hm
  · obtain ⟨hm, hg⟩ := hρ' id g h2
    obtain ⟨e, he, rfl⟩ := List.mem_map.1 hm
    obtain ⟨cs, el, k1, k2, k3, k4, k5⟩ := hM.box e.1 e.2 g (hmem e he) hg
    have hmX := ofB_mem X.1 e.1 bx h1
    have htl := hsplit (e.1, bx) hmX
    have hv : valsI e.1 = cs.toList := by
      simp only [valsI, hg]
      exact blockVals_eq k1
    simp only [hv] at htl
    refine ⟨cs, el, k1, by simpa using htl.1, fun j x v hx hv' => ⟨htl.2 j x v hx (by simpa using hv'), ?_, hnpB x (cells_mem hmX (List.mem_of_getElem? hx))⟩, k4, k5⟩
    have hj : j < e.2.length := by
      rw [← k2]
      rcases Nat.lt_or_ge j cs.size with h' | h'
      · exact h'
      · simp [h'] at hv'
    exact (k3 j e.2[j] v (by simp [hj]) hv').2.1
  · show statIs (nuOf (fun _ _ => .unknown) Y ts p q) (namesOf Y p q)
    rw [← addNames_none]
    exact nuOf_names (base := fun _ _ => .unknown) (names := fun _ _ => none) (fun _ _ => rfl) _ _ hch.len.2.2 p q
  · rcases nuOf_alive _ ts p q _ h with ⟨i, y, h1, h2, h3⟩ | ⟨_, h2⟩
    · obtain ⟨p', q', hs⟩ := hsrc i g en h3
      exact hM.tip p' q' g en hs
    · simp at h2
  · rcases nuOf_alive _ ts p q _ h with ⟨i, y, h1, h2, h3⟩ | ⟨_, h2⟩
    · rcases nuOf_alive _ ts p' q' _ h' with ⟨i', y', h1', h2', h3'⟩ | ⟨_, h2'⟩
      · obtain rfl := hch.inj hM.tipInj i i' g en en' h3 h3'
        rw [h1] at h1'; simp at h1'; subst h1'
        rw [h2] at h2'; simpa using h2'
      · simp at h2'
    · simp at h2
  · rcases nuOf_alive _ ts p q _ h with ⟨i, y, h1, h2, h3⟩ | ⟨_, h2⟩
    · obtain ⟨p', q', hs⟩ := hsrc i g en h3
      exact hM.tipBox _ _ _ _ _ hs (hρ' id g hid).2
    · simp at h2
end
end Ev

/- A verified evaluator, part R: statements whose order is open: what an operation's effect on the memory is. -/
namespace Ev
open Go

/-- An operation that comes last (or first) among all. -/
def barrier : Op → Bool
  | .store .. => true
  | _ => false
/-- An operation that neither reads nor writes the memory. -/
def light : Op → Bool
  | .move _ | .assign _ => true
  | _ => false
def edgeTo (o : Oper) (j : Nat) : Bool := o.after.any fun e => Region.binds .any e && e.on == j
def edgesBack (o : Oper) (i : Nat) : Bool := o.after.all fun e => !Region.binds .any e || decide (e.on < i)
/-- Does the i-th wait for the j-th, through others too? -/
def reach (ops : Array Oper) : Nat → Nat → Nat → Bool
  | 0, _, _ => false
  | n + 1, i, j => match ops[i]? with
    | some o => edgeTo o j || o.after.any fun e => Region.binds .any e && reach ops n e.on j
    | none => false
/-- A store that stands in no order with another operation, which cannot see it. -/
def loosePair (ops : Array Oper) (h : Keep) (os oe : Oper) : Bool :=
  match looseAt h os.op with
  | some (_, r) => !barrier oe.op && oe.dst.isSome && exposed h oe && !(dsts ops).contains r && (rootsOf h).contains r
  | none => false
def pairOk (ops : Array Oper) (h : Keep) (i j : Nat) : Bool :=
  match ops[j]?, ops[i]? with
  | some oj, some oi => reach ops 5 i j || (oj.apart ops oi && (light oj.op || light oi.op || !barrier oj.op && !barrier oi.op && oj.dst.isSome && oi.dst.isSome || loosePair ops h oj oi || loosePair ops h oi oj))
  | _, _ => true
/-- Operations that are in no order do not meet; all stand behind what they wait for. -/
def drawOk (ops : Array Oper) (h : Keep) : Bool :=
  (List.range ops.size).all fun i => (match ops[i]? with | some o => edgesBack o i | none => true) && (List.range i).all fun j => pairOk ops h i j

def codeOk (lv : Nat → Keep) : Code → Bool
  | .seq a b => codeOk lv a && codeOk lv b
  | .cond _ a b => codeOk lv a && codeOk lv b
  | .block _ a => codeOk lv a
  | .loop a => codeOk lv a
  | .region id ops d => !d || drawOk ops (lv (1000000 + id))
  | _ => true

structure Eff where
  box : Option Box := none
  frz : List Nat := []
  kill : Option (Nat × Nat) := none
  add : List AV := []
def Eff.app (e : Eff) (d : Nat) (m : Mem) : Mem where
  boxes := match e.box with | some b => upd m.boxes (d + 500000) (some b) | none => m.boxes
  names := addNames (fun p q => if e.kill = some (p, q) then some false else m.names p q) e.add
  froz := fun i => if i ∈ e.frz then true else if e.box.isSome = true ∧ i = d + 500000 then false else m.froz i
structure Eff.ok (e : Eff) (Dl Dk : List Nat) (d : Nat) (m : Mem) : Prop where
  box : e.box.isSome = true → m.boxes (d + 500000) = none
  kill : ∀ p q, e.kill = some (p, q) → m.names p q = some true ∧ p ∉ Dk
  fresh : ∀ y ∈ e.add, ∀ p q, rowName y = some (p, q) → m.names p q = none
  own : ∀ y ∈ e.add, ∀ p q, rowName y = some (p, q) → p = d
  frz : ∀ id ∈ e.frz, id ∉ Dl.map (· + 500000)
theorem Eff.app_empty (d : Nat) (m : Mem) : Eff.app {} d m = m := by
  simp only [Eff.app]
  cases m with
  | mk b n f =>
    simp only [Mem.mk.injEq, true_and]
    refine ⟨?_, ?_⟩
    · funext p q; simp [addNames]
    · funext i; simp
theorem Eff.ok_empty (Dl Dk : List Nat) (d : Nat) (m : Mem) : Eff.ok {} Dl Dk d m := ⟨by simp, by simp, by simp, by simp, by simp⟩

section
variable {P : Program} {m m' : Mem} {t : Tmps} {C : Oracle} {ro : FuncId → Bool} {Dl : List Nat} {d : Nat} {x : AV} {ρ ρ' : Operand → AV}

/-- What an operation gives, and its effect; the same in any memory with the same old boxes in which the effect may be had. -/
def HasEff (P : Program) (C : Oracle) (ro : FuncId → Bool) (Dl : List Nat) (o : Op) (d : Nat) (ρ : Operand → AV) (m : Mem) (x : AV) (m' : Mem) : Prop :=
  ∃ (Dk : List Nat) (e : Eff), (∀ i ∈ Dl, i ∈ Dk ∨ i ∈ lkL o.operands.toList) ∧ e.ok Dl Dk d m ∧ m' = e.app d m ∧ ∀ m2 : Mem, (∀ id, id ∉ Dl.map (· + 500000) → m2.boxes id = m.boxes id) → e.ok Dl Dk d m2 → aop P C ro (some Dl) o d ρ m2 = some (x, e.app d m2)

theorem HasEff.quiet {o : Op} (h : ∀ m2 : Mem, (∀ id, id ∉ Dl.map (· + 500000) → m2.boxes id = m.boxes id) → aop P C ro (some Dl) o d ρ m2 = some (x, m2)) : HasEff P C ro Dl o d ρ m x m :=
  ⟨Dl, {}, fun i hi => .inl hi, Eff.ok_empty _ _ _ _, (Eff.app_empty d m).symm, fun m2 hb _ => by rw [Eff.app_empty]; exact h m2 hb⟩

theorem mayRead_some {id : Nat} (h : mayRead (some Dl) id = true) : id ∉ Dl.map (· + 500000) := by
  simp only [mayRead] at h
  simpa using h

theorem viewed_congr {b b2 : Nat → Option Box} : ∀ (args : List AV), (∀ id ∈ capIds args, b2 id = b id) → viewed b2 args = viewed b args
  | [], _ => rfl
  | x :: r, h => by
    by_cases hx : ∃ id off, x = .ptr id off
    · obtain ⟨id, off, rfl⟩ := hx
      simp only [viewed]
      rw [h id (by simp [capIds]), viewed_congr r (fun i hi => h i (by simp [capIds, hi]))]
    · have hc : ∀ b : Nat → Option Box, viewed b (x :: r) = (viewed b r).map (x.bare :: ·) := fun b => by
        cases x <;> first | rfl | exact absurd ⟨_, _, rfl⟩ hx
      have hi : capIds (x :: r) = capIds r := by
        cases x <;> first | rfl | exact absurd ⟨_, _, rfl⟩ hx
      rw [hc, hc, viewed_congr r (fun i h' => h i (by rw [hi]; exact h'))]

theorem capture_congr : ∀ (xs : List AV) (rs : List AV) (m m' m2 : Mem), capture (some Dl) m xs = some (rs, m') → (∀ id, id ∉ Dl.map (· + 500000) → m2.boxes id = m.boxes id) →
    (∀ id ∈ capIds xs, id ∉ Dl.map (· + 500000)) ∧ capture (some Dl) m2 xs = some (rs, { m2 with froz := fun i => if i ∈ capIds xs then true else m2.froz i })
  | [], rs, m, m', m2, h, hb => by
    simp [capture] at h
    obtain ⟨rfl, rfl⟩ := h
    exact ⟨by simp [capIds], by simp [capture, capIds]⟩
  | x :: r, rs, m, m', m2, h, hb => by
    by_cases hx : ∃ id off, x = .ptr id off
    · obtain ⟨id, off, rfl⟩ := hx
      simp only [capture] at h ⊢
      split at h
      case isFalse => simp at h
      rename_i hm
      have hid := mayRead_some hm
      cases hbx : m.boxes id with
      | none => simp [hbx] at h
      | some b =>
        cases hr : capture (some Dl) m r with
        | none => simp [hbx, hr] at h
        | some q =>
          obtain ⟨vs, m1⟩ := q
          simp only [hbx, hr, Option.some.injEq, Prod.mk.injEq] at h
          obtain ⟨rfl, rfl⟩ := h
          obtain ⟨h1, h2⟩ := capture_congr r vs m m1 m2 hr hb
          refine ⟨fun i hi => ?_, ?_⟩
          · simp only [capIds, List.mem_cons] at hi
            rcases hi with rfl | hi
            · exact hid
            · exact h1 i hi
          · rw [if_pos hm, hb id hid, hbx, h2]
            simp only [Option.some.injEq, Prod.mk.injEq, true_and, Mem.mk.injEq]
            funext i
            by_cases hi : i = id <;> simp [hi, capIds]
    · have hc : ∀ m : Mem, capture (some Dl) m (x :: r) = match capture (some Dl) m r with
          | some (vs, m') => some (x.bare :: vs, m')
          | none => none := fun m => by
        cases x <;> first | rfl | exact absurd ⟨_, _, rfl⟩ hx
      have hi : capIds (x :: r) = capIds r := by
        cases x <;> first | rfl | exact absurd ⟨_, _, rfl⟩ hx
      rw [hc] at h ⊢
      rw [hi]
      cases hr : capture (some Dl) m r with
      | none => simp [hr] at h
      | some q =>
        obtain ⟨vs, m1⟩ := q
        simp only [hr, Option.some.injEq, Prod.mk.injEq] at h
        obtain ⟨rfl, rfl⟩ := h
        obtain ⟨h1, h2⟩ := capture_congr r vs m m1 m2 hr hb
        exact ⟨h1, by rw [h2]⟩

theorem relabL_names {names : Nat → Nat → Option Bool} {nm : Nat → Nat × Nat} : ∀ (xs : List AV) (j : Nat) (used : List (Nat × Nat)), ∀ y ∈ (relabL names nm (fun _ => none) j used xs).1, ∀ n, rowName y = some n → ∃ k, n = nm k
  | [], j, used, y, hy => by simp [relabL] at hy
  | x :: xs, j, used, y, hy => by
    simp only [relabL, List.mem_cons] at hy
    rcases hy with rfl | hy
    · intro n hn
      cases x with
      | sl s els tok =>
        cases tok with
        | row a b =>
          simp only [relab1] at hn
          split at hn
          · simp [rowName] at hn; exact ⟨j, hn.symm⟩
          · simp [rowName] at hn
        | _ => simp [relab1, rowName] at hn
      | _ => simp [relab1, rowName] at hn
    · exact relabL_names xs (j + 1) _ y hy
theorem freshAll_of {names : Nat → Nat → Option Bool} : ∀ (ys : List AV), (∀ y ∈ ys, ∀ p q, rowName y = some (p, q) → names p q = none) → freshAll names ys = true
  | [], _ => rfl
  | y :: r, h => by
    simp only [freshAll, Bool.and_eq_true]
    refine ⟨?_, freshAll_of r (fun z hz => h z (List.mem_cons_of_mem _ hz))⟩
    cases hr : rowName y with
    | none => rfl
    | some n => obtain ⟨p, q⟩ := n; simp [h y (by simp) p q hr]

theorem adopt_eff {r : AV} (h : adopt d [] m r = some (x, m')) : ∃ vs : List AV, (∀ y ∈ vs, ∀ p q, rowName y = some (p, q) → p = d) ∧ (∀ y ∈ vs, ∀ p q, rowName y = some (p, q) → m.names p q = none) ∧ m' = { m with names := addNames m.names vs } ∧
    ∀ m2 : Mem, (∀ y ∈ vs, ∀ p q, rowName y = some (p, q) → m2.names p q = none) → adopt d [] m2 r = some (x, { m2 with names := addNames m2.names vs }) := by
  simp only [adopt] at h
  split at h
  case isFalse => simp at h
  rename_i hf
  simp only [Option.some.injEq, Prod.mk.injEq] at h
  obtain ⟨rfl, rfl⟩ := h
  refine ⟨_, fun y hy p q hr => ?_, freshAll_spec hf.2, rfl, fun m2 h2 => ?_⟩
  · obtain ⟨k, hk⟩ := relabL_names _ _ _ y hy _ hr
    simp at hk; exact hk.1
  · simp only [adopt]
    rw [if_pos ⟨hf.1, freshAll_of _ h2⟩]

theorem aappend_eff {e : TypeId} {y : AV} {news : List (List AV)} {Dk : List Nat} (h : aappend P Dk d e m y news = some (x, m')) : ∃ ef : Eff, ef.ok Dl Dk d m ∧ m' = ef.app d m ∧ ∀ m2 : Mem, ef.ok Dl Dk d m2 → aappend P Dk d e m2 y news = some (x, ef.app d m2) := by
  cases y with
  | sl s els tok =>
    simp only [aappend] at h
    split at h
    case h_2 => simp at h
    rename_i z by_ zv hz hb hzv
    split at h
    case isFalse => simp at h
    rename_i hc
    have key : ∀ (kill : Option (Nat × Nat)), (∀ p q, kill = some (p, q) → m.names p q = some true ∧ p ∉ Dk) → x = .sl z (els ++ news) (.row d 0) → m' = { m with names := upd2 (fun p q => if kill = some (p, q) then some false else m.names p q) d 0 true } →
        Eff.ok { kill := kill, add := [x] } Dl Dk d m ∧ m' = Eff.app { kill := kill, add := [x] } d m := fun kill hk hx hm => by
      subst hx
      refine ⟨⟨by simp, hk, fun y hy p q hr => ?_, fun y hy p q hr => ?_, by simp⟩, ?_⟩
      · simp at hy; subst hy; simp [rowName] at hr; obtain ⟨rfl, rfl⟩ := hr; exact hc.2.2.2.2.2.2
      · simp at hy; subst hy; simp [rowName] at hr; exact hr.1.symm
      · rw [hm]
        simp only [Eff.app, Mem.mk.injEq, true_and]
        refine ⟨?_, by funext i; simp⟩
        funext p q
        simp only [addNames, upd2_apply]
        by_cases hpq : p = d ∧ q = 0
        · rw [if_pos hpq, if_pos (show rowName (.sl z (els ++ news) (.row d 0)) = some (p, q) from by simp [rowName, hpq])]
        · rw [if_neg hpq, if_neg (show ¬ rowName (.sl z (els ++ news) (.row d 0)) = some (p, q) from fun he => hpq (by simp [rowName] at he; exact ⟨he.1.symm, he.2.symm⟩))]
    have again : ∀ (kill : Option (Nat × Nat)) (m2 : Mem), Eff.ok { kill := kill, add := [x] } Dl Dk d m2 → x = .sl z (els ++ news) (.row d 0) → m2.names d 0 = none ∧ ({ m2 with names := upd2 (fun p q => if kill = some (p, q) then some false else m2.names p q) d 0 true } : Mem) = Eff.app { kill := kill, add := [x] } d m2 := fun kill m2 hok hx => by
      subst hx
      refine ⟨hok.fresh (.sl z (els ++ news) (.row d 0)) (by simp) d 0 rfl, ?_⟩
      simp only [Eff.app, Mem.mk.injEq, true_and]
      refine ⟨?_, by funext i; simp⟩
      funext p q
      simp only [addNames, upd2_apply]
      by_cases hpq : p = d ∧ q = 0
      · rw [if_pos hpq, if_pos (show rowName (.sl z (els ++ news) (.row d 0)) = some (p, q) from by simp [rowName, hpq])]
      · rw [if_neg hpq, if_neg (show ¬ rowName (.sl z (els ++ news) (.row d 0)) = some (p, q) from fun he => hpq (by simp [rowName] at he; exact ⟨he.1.symm, he.2.symm⟩))]
    have hnone : ∀ m : Mem, (upd2 (fun p q => if (none : Option (Nat × Nat)) = some (p, q) then some false else m.names p q) d 0 true) = upd2 m.names d 0 true := fun m => by
      funext p q; simp
    cases tok with
    | none => simp at h
    | nil =>
      simp only [Option.some.injEq, Prod.mk.injEq] at h
      obtain ⟨hx, hm⟩ := h
      obtain ⟨k1, k2⟩ := key none (by simp) hx.symm (by rw [hnone]; exact hm.symm)
      refine ⟨_, k1, k2, fun m2 h2 => ?_⟩
      obtain ⟨q1, q2⟩ := again none m2 h2 hx.symm
      simp only [aappend, hz, hb, hzv]
      rw [if_pos ⟨hc.1, hc.2.1, hc.2.2.1, hc.2.2.2.1, hc.2.2.2.2.1, (by first | exact hc.2.2.2.2.2.1 | simpa using hc.2.2.2.2.2.1), q1⟩, ← q2, hnone, hx]
    | clip =>
      simp only [Option.some.injEq, Prod.mk.injEq] at h
      obtain ⟨hx, hm⟩ := h
      obtain ⟨k1, k2⟩ := key none (by simp) hx.symm (by rw [hnone]; exact hm.symm)
      refine ⟨_, k1, k2, fun m2 h2 => ?_⟩
      obtain ⟨q1, q2⟩ := again none m2 h2 hx.symm
      simp only [aappend, hz, hb, hzv]
      rw [if_pos ⟨hc.1, hc.2.1, hc.2.2.1, hc.2.2.2.1, hc.2.2.2.2.1, (by first | exact hc.2.2.2.2.2.1 | simpa using hc.2.2.2.2.2.1), q1⟩, ← q2, hnone, hx]
    | row p q =>
      simp only [Option.ite_none_right_eq_some, Option.some.injEq, Prod.mk.injEq] at h
      obtain ⟨hn, hx, hm⟩ := h
      have hu : ∀ m : Mem, (upd2 (fun p' q' => if (some (p, q) : Option (Nat × Nat)) = some (p', q') then some false else m.names p' q') d 0 true) = upd2 (upd2 m.names p q false) d 0 true := fun m => by
        funext p' q'
        simp only [upd2_apply, Option.some.injEq, Prod.mk.injEq]
        by_cases h1 : p' = d ∧ q' = 0
        · simp [h1]
        · rw [if_neg h1, if_neg h1]
          by_cases h2 : p' = p ∧ q' = q
          · simp [h2]
          · rw [if_neg h2, if_neg (fun he => h2 ⟨he.1.symm, he.2.symm⟩)]
      obtain ⟨k1, k2⟩ := key (some (p, q)) (fun p' q' he => by simp at he; obtain ⟨rfl, rfl⟩ := he; exact hn) hx.symm (by rw [hu]; exact hm.symm)
      refine ⟨_, k1, k2, fun m2 h2 => ?_⟩
      obtain ⟨q1, q2⟩ := again (some (p, q)) m2 h2 hx.symm
      have hk := h2.kill p q rfl
      simp only [aappend, hz, hb, hzv]
      rw [if_pos ⟨hc.1, hc.2.1, hc.2.2.1, hc.2.2.2.1, hc.2.2.2.2.1, (by first | exact hc.2.2.2.2.2.1 | simpa using hc.2.2.2.2.2.1), q1⟩, if_pos hk, ← q2, hu, hx]
  | _ => simp [aappend] at h

theorem opnds_congr {xs : Array Operand} (h : ∀ y ∈ xs, ρ y = ρ' y) : xs.toList.map ρ = xs.toList.map ρ' := List.map_congr_left fun y hy => h y (by simpa using hy)

/-- An operation asks of its operands alone. -/
theorem aop_congr {D : Option (List Nat)} {o : Op} (h : ∀ y ∈ o.operands, ρ y = ρ' y) : aop P C ro D o d ρ m = aop P C ro D o d ρ' m := by
  have pairs : ∀ ps : Array (Nat × Operand), (∀ x ∈ (ps.toList.map (·.2)).toArray, ρ x = ρ' x) → ∀ p ∈ ps.toList, ρ p.2 = ρ' p.2 := fun ps hp p hm => hp p.2 (by simp; exact ⟨p.1, by simpa using hm⟩)
  cases o with
  | build ty ps =>
    have h1 := pairs ps (by simpa [Op.operands] using h)
    simp only [aop]
    have e1 : (ps.toList.all fun p => (ρ p.2).isVal) = ps.toList.all fun p => (ρ' p.2).isVal := by
      rw [Bool.eq_iff_iff, List.all_eq_true, List.all_eq_true]
      exact ⟨fun q p hp => by rw [← h1 p hp]; exact q p hp, fun q p hp => by rw [h1 p hp]; exact q p hp⟩
    have e2 : (ps.toList.map fun p => (p.1, ρ p.2)) = ps.toList.map fun p => (p.1, ρ' p.2) := List.map_congr_left fun p hp => by rw [h1 p hp]
    rw [e1, e2]
  | buildSlice ty n ps =>
    have h1 := pairs ps (by simpa [Op.operands] using h)
    simp only [aop]
    have e1 : ∀ n : Nat, (ps.toList.all fun p => (ρ p.2).isVal && (ρ p.2).cells.length == n) = ps.toList.all fun p => (ρ' p.2).isVal && (ρ' p.2).cells.length == n := fun n => by
      rw [Bool.eq_iff_iff, List.all_eq_true, List.all_eq_true]
      exact ⟨fun q p hp => by rw [← h1 p hp]; exact q p hp, fun q p hp => by rw [h1 p hp]; exact q p hp⟩
    have e2 : (ps.toList.map fun p => (ρ p.2).cells) = ps.toList.map fun p => (ρ' p.2).cells := List.map_congr_left fun p hp => by rw [h1 p hp]
    simp only [e1, e2]
  | makeFunc fn fs caps =>
    have e : caps.toList.map ρ = caps.toList.map ρ' := opnds_congr fun y hy => h y (by simp [Op.operands, hy])
    cases fn <;> simp only [aop] <;> rw [e]
  | call cl =>
    obtain ⟨callee, args, tys⟩ := cl
    have e : args.toList.map ρ = args.toList.map ρ' := opnds_congr fun y hy => h y (by simp [Op.operands, Call.operands, hy])
    cases callee with
    | value f =>
      have ef : ρ f = ρ' f := h f (by simp [Op.operands, Call.operands])
      simp only [aop, e, ef]
    | invoke r n => simp only [aop]
    | builtin b => cases b <;> simp only [aop, e]
  | slice ty x lo hi mx =>
    have e1 : ρ x = ρ' x := h x (by simp [Op.operands])
    have e2 : lo.map ρ = lo.map ρ' := by cases lo <;> simp; exact h _ (by simp [Op.operands])
    have e3 : hi.map ρ = hi.map ρ' := by cases hi <;> simp; exact h _ (by simp [Op.operands])
    cases mx <;> simp only [aop, e1, e2, e3]
  | _ => simp only [Op.operands] at h; simp only [aop] <;> simp_all
end
end Ev

/- A verified evaluator, part T: code and functions. -/
namespace Ev
open Go
section
variable {P : Program} {c : Cfg} {w : World} {m m' : Mem} {t : Tmps} {a : Act} {C : Oracle} {ro : FuncId → Bool} {D : Option (List Nat)} {d : Nat} {x : AV}

def exOf : Ex → Exit
  | .normal => .normal
  | .exit id => .exit id
  | .ret => .ret

/-- What is owed of statements whose order is open. -/
def DrawSound (P : Program) : Prop := ∀ {R : Type} (E : Env) (ops : Array Oper) (h : Keep) (t : Tmps) (m : Mem) (K : Tmps → Mem → Option R) (r : R), Sound P E.C → drawOk ops h = true → evOps P E.C E.ro (some (dsts ops, h)) E.N ops ops.toList t m K = some r →
  ∀ (c : Cfg) (a : Act) (w : World), SR P E.N c w t m a → ∀ (id : Nat) (Q : Exit → Act → World → Prop), (∀ t' m' c' a' w', K t' m' = some r → SR P E.N c' w' t' m' a' → Evo c.own w c'.own w' → Low c c' → Q .normal a' w') → (Code.region id ops true).wp P Q a w

theorem ops_sound {D : Option DD} {R : Type} {N : Nat} {ops : Array Oper} {r : R} {K : Tmps → Mem → Option R} {Q : Exit → Act → World → Prop} (hS : Sound P C) : ∀ (l : List Oper) (k : Nat) (t : Tmps) (m : Mem), ops.toList.drop k = l → evOps P C ro D N ops l t m K = some r →
    ∀ (c : Cfg) (a : Act) (w : World), SR P N c w t m a → (∀ t' m' c' a' w', K t' m' = some r → SR P N c' w' t' m' a' → Evo c.own w c'.own w' → Low c c' → Q .normal a' w') → wpOps P ops Q (List.range' k l.length) a w
  | [], k, t, m, hl, h, c, a, w, hR, hQ => by
    simp only [evOps] at h
    exact hQ t m c a w h hR (.refl _ _) (fun _ _ _ h => h)
  | o :: l, k, t, m, hl, h, c, a, w, hR, hQ => by
    simp only [evOps] at h
    split at h
    case h_2 => simp at h
    rename_i t1 m1 hst
    simp only [List.length_cons, List.range'_succ]
    rw [wpOps_cons]
    have hk : ops[k]? = some o := by
      have := congrArg (·[0]?) hl
      simpa [List.getElem?_drop] using this
    refine step_sound hS hk hR hst fun c1 a1 w1 hR1 e1 l1 => ?_
    exact ops_sound hS l (k + 1) t1 m1 (by rw [← List.drop_drop, hl]; rfl) h c1 a1 w1 hR1 fun t' m' c' a' w' hK hR' e' l' => hQ t' m' c' a' w' hK hR' (e1.trans e') (l1.trans l')

theorem code_sound (hD : DrawSound P) (hf : P.follows .mixedOrders = true) (E : Env) (hS : Sound P E.C) : ∀ (code : Code), codeOk E.lv code = true → ∀ {R : Type} (t : Tmps) (m : Mem) (K : Ex → Tmps → Mem → Option R) (r : R), evCode P E code t m K = some r →
    ∀ (c : Cfg) (a : Act) (w : World), SR P E.N c w t m a → ∀ (Q : Exit → Act → World → Prop), (∀ e t' m' c' a' w', K e t' m' = some r → SR P E.N c' w' t' m' a' → Evo c.own w c'.own w' → Low c c' → Q (exOf e) a' w') → code.wp P Q a w
  | .skip, _, R, t, m, K, r, h, c, a, w, hR, Q, hQ => by
    simp only [evCode] at h
    exact wp_skip (hQ _ _ _ _ _ _ h hR (.refl _ _) (fun _ _ _ h => h))
  | .exit id, _, R, t, m, K, r, h, c, a, w, hR, Q, hQ => by
    simp only [evCode] at h
    exact wp_exit (hQ _ _ _ _ _ _ h hR (.refl _ _) (fun _ _ _ h => h))
  | .ret, _, R, t, m, K, r, h, c, a, w, hR, Q, hQ => by
    simp only [evCode] at h
    exact wp_ret (hQ _ _ _ _ _ _ h hR (.refl _ _) (fun _ _ _ h => h))
  | .seq x y, hok, R, t, m, K, r, h, c, a, w, hR, Q, hQ => by
    simp only [codeOk, Bool.and_eq_true] at hok
    simp only [evCode] at h
    refine wp_seq (code_sound hD hf E hS x hok.1 t m _ r h c a w hR _ fun e t1 m1 c1 a1 w1 h1 hR1 e1 l1 => ?_)
    cases e with
    | normal => exact code_sound hD hf E hS y hok.2 t1 m1 K r h1 c1 a1 w1 hR1 Q fun e t' m' c' a' w' hK hR' e' l' => hQ e t' m' c' a' w' hK hR' (e1.trans e') (l1.trans l')
    | exit id => exact hQ _ _ _ _ _ _ h1 hR1 e1 l1
    | ret => exact hQ _ _ _ _ _ _ h1 hR1 e1 l1
  | .cond o x y, hok, R, t, m, K, r, h, c, a, w, hR, Q, hQ => by
    simp only [codeOk, Bool.and_eq_true] at hok
    simp only [evCode] at h
    split at h
    case h_2 => simp at h
    rename_i b hb
    have hv := T_opnd hR.T o
    rw [hb] at hv
    refine wp_cond (T_bool hv) ?_
    cases b with
    | true => exact code_sound hD hf E hS x hok.1 t m K r h c a w hR Q hQ
    | false => exact code_sound hD hf E hS y hok.2 t m K r h c a w hR Q hQ
  | .block id x, hok, R, t, m, K, r, h, c, a, w, hR, Q, hQ => by
    simp only [codeOk] at hok
    simp only [evCode] at h
    refine wp_block (code_sound hD hf E hS x hok t m _ r h c a w hR _ fun e t1 m1 c1 a1 w1 h1 hR1 e1 l1 => ?_)
    cases e with
    | normal => exact hQ _ _ _ _ _ _ h1 hR1 e1 l1
    | ret => exact hQ _ _ _ _ _ _ h1 hR1 e1 l1
    | exit i =>
      simp only at h1
      show Exit.inBlock id Q (.exit i) a1 w1
      simp only [Exit.inBlock]
      split at h1
      · rename_i hi
        rw [if_pos hi]
        exact hQ _ _ _ _ _ _ h1 hR1 e1 l1
      · rename_i hi
        rw [if_neg hi]
        exact hQ _ _ _ _ _ _ h1 hR1 e1 l1
  | .loop x, hok, R, t, m, K, r, h, c, a, w, hR, Q, hQ => by
    simp only [codeOk] at hok
    simp only [evCode] at h
    split at h
    case h_2 => simp at h
    rename_i e0 t0 m0 hl
    obtain ⟨k, hk⟩ := lim_some hl
    refine wp_loop_rounds k ?_
    have key : ∀ (k : Nat) (t : Tmps) (m : Mem), iter (fun t m => evCode P E x (clean (E.lv (firstRegion x)) t m).1 (clean (E.lv (firstRegion x)) t m).2 (fun e t m => some (e, t, m))) k t m = some (e0, t0, m0) →
        ∀ (c1 : Cfg) (a : Act) (w1 : World), SR P E.N c1 w1 t m a → Evo c.own w c1.own w1 → Low c c1 → Code.rounds P x Q k a w1 := by
      intro k
      induction k with
      | zero => intro t m hk; simp [iter] at hk
      | succ k ih =>
        intro t m hk c1 a w1 hR1 e1 l1
        rw [rounds_succ]
        simp only [iter] at hk
        obtain ⟨c2, hR2, e2, l2⟩ := clean_sound (L := E.lv (firstRegion x)) hR1
        cases hb : evCode P E x (clean (E.lv (firstRegion x)) t m).1 (clean (E.lv (firstRegion x)) t m).2 (fun e t m => some (e, t, m)) with
        | none => rw [hb] at hk; simp at hk
        | some rr =>
          obtain ⟨e, t', m'⟩ := rr
          refine code_sound hD hf E hS x hok _ _ _ _ hb c2 a w1 hR2 _ fun e' t'' m'' c3 a3 w3 h3 hR3 e3 l3 => ?_
          simp only [Option.some.injEq, Prod.mk.injEq] at h3
          obtain ⟨rfl, rfl, rfl⟩ := h3
          rw [hb] at hk
          have e13 := e1.trans (e2.trans e3)
          have l13 := l1.trans (l2.trans l3)
          cases e' with
          | normal => exact ih t'' m'' hk c3 a3 w3 hR3 e13 l13
          | exit id =>
            simp at hk
            obtain ⟨rfl, rfl, rfl⟩ := hk
            exact hQ _ _ _ _ _ _ h hR3 e13 l13
          | ret =>
            simp at hk
            obtain ⟨rfl, rfl, rfl⟩ := hk
            exact hQ _ _ _ _ _ _ h hR3 e13 l13
    exact key k t m hk c a w hR (.refl _ _) (fun _ _ _ h => h)
  | .region id ops draw, hok, R, t, m, K, r, h, c, a, w, hR, Q, hQ => by
    simp only [codeOk] at hok
    simp only [evCode] at h
    cases draw with
    | false =>
      refine wp_region ?_
      have := ops_sound (Q := Q) hS ops.toList 0 t m rfl h c a w hR fun t' m' c' a' w' hK hR' e' l' => hQ _ _ _ _ _ _ hK hR' e' l'
      rw [List.range_eq_range']
      simpa using this
    | true =>
      exact hD E ops (E.lv (1000000 + id)) t m _ r hS (by simpa using hok) h c a w hR id Q fun t' m' c' a' w' hK hR' e' l' => hQ _ _ _ _ _ _ hK hR' e' l'
  | .rangeFunc .., _, R, t, m, K, r, h, c, a, w, hR, Q, hQ => by simp [evCode] at h
  | .scope .., _, R, t, m, K, r, h, c, a, w, hR, Q, hQ => by simp [evCode] at h
  | .label .., _, R, t, m, K, r, h, c, a, w, hR, Q, hQ => by simp [evCode] at h
  | .goto .., _, R, t, m, K, r, h, c, a, w, hR, Q, hQ => by simp [evCode] at h
  | .refuse .., _, R, t, m, K, r, h, c, a, w, hR, Q, hQ => by simp [evCode] at h

theorem T.untup {y : AV} {v : Value} (h : T c w y v) : T1 c w y.untup v := by
  by_cases hy : ∃ xs, y = .tup xs
  · obtain ⟨xs, rfl⟩ := hy
    exact .of_V (.undef _)
  · have h1 := h.to_T1 hy
    have : y.untup = y := by cases y <;> first | rfl | exact absurd ⟨_, rfl⟩ hy
    rw [this]; exact h1

theorem avAll_cons {x : Option AV} {l : List (Option AV)} {rs : List AV} (h : avAll (x :: l) = some rs) : ∃ v vs, x = some v ∧ avAll l = some vs ∧ rs = v :: vs := by
  cases x with
  | none => simp [avAll] at h
  | some v =>
    simp only [avAll, Option.map_eq_some_iff] at h
    obtain ⟨vs, h1, h2⟩ := h
    exact ⟨v, vs, rfl, h1, h2.symm⟩

def resSem (tmps : Array Value) : ResultVar → Sem Value
  | .tmp t => pure (tmps.getD t undef)
  | .cell a t => do loadVar t (← asAddr (tmps.getD a undef))
theorem results_run (hT : TRel c w t a) (hM : MemRel c m w) : ∀ (l : List ResultVar) (rs : List AV), avAll (l.map (resOf P t m)) = some rs →
    ∃ vs : List Value, (l.mapM (resSem a.tmps)).run P w = .ok vs w ∧ TL c w rs vs
  | [], rs, h => by
    simp [avAll] at h; subst h
    exact ⟨[], by simp, rfl, by simp⟩
  | rv :: l, rs, h => by
    obtain ⟨v, vs, h1, h2, rfl⟩ := avAll_cons h
    obtain ⟨us, hu, hTL⟩ := results_run hT hM l vs h2
    have hone : ∃ u, (resSem a.tmps rv).run P w = .ok u w ∧ T1 c w v u := by
      cases rv with
      | tmp i =>
        simp only [resOf, Option.some.injEq] at h1
        subst h1
        exact ⟨_, rfl, (hT i).untup⟩
      | cell b ty =>
        simp only [resOf] at h1
        split at h1
        case h_2 => simp at h1
        rename_i id off hb
        split at h1
        case h_2 => simp at h1
        rename_i bx hbx
        simp only [Option.map_eq_some_iff] at h1
        obtain ⟨v', hv', rfl⟩ := h1
        have hp := hT b
        rw [hb] at hp
        obtain ⟨g, hg, hpv⟩ := T_ptr hp
        obtain ⟨cv, hcv⟩ := box_cells hM hbx hg
        obtain ⟨u, hu1, hu2⟩ := part_load (P := P) (ad := ⟨g, 0, none⟩) hv' hcv
        rw [add_plain, Nat.zero_add] at hu1
        exact ⟨u, by simp [resSem, hpv, asAddr, hu1], hu2.untup⟩
    obtain ⟨u, hu1, hu2⟩ := hone
    refine ⟨u :: us, ?_, by simp [hTL.1], fun i x v hx hv => ?_⟩
    · simp only [List.mapM_cons, Sem.run_bind, hu1, Result.andThen_ok, hu, Sem.run_pure]
    · cases i with
      | zero => simp at hx hv; subst hx; subst hv; exact hu2
      | succ i => exact hTL.2 i x v (by simpa using hx) (by simpa using hv)

theorem outBoxes_spec : ∀ (bs bs' : List (Nat × Box)), outBoxes m bs = some bs' → bs'.map (·.1) = bs.map (·.1) ∧ ∀ b ∈ bs', m.boxes b.1 = some b.2 ∧ m.froz b.1 = false
  | [], bs', h => by simp [outBoxes] at h; subst h; simp
  | (i, b) :: r, bs', h => by
    simp only [outBoxes] at h
    split at h
    case h_2 => simp at h
    rename_i c cs h1 h0 h2
    simp at h
    subst h
    obtain ⟨k1, k2⟩ := outBoxes_spec r cs h2
    exact ⟨by simp [k1], fun b' hb' => by
      rcases List.mem_cons.1 hb' with rfl | hb'
      · exact ⟨h1, h0⟩
      · exact k2 b' hb'⟩

/-- The end of a function: its result and its boxes, in canonical names. -/
theorem out_sound {N : Nat} {fn : Func} {bs bs' : List (Nat × Box)} {r : AV} {c0 : Cfg} (hR : SR P N c w t m a) (h : outOf P fn bs t m = some (r, bs')) (hnd : (bs.map (·.1)).Nodup) (hlow : ∀ b ∈ bs, b.1 < 500000) (hρ : Low c0 c) (hdom : ∀ id, (c0.ρ id).isSome = true ↔ id ∈ bs.map (·.1)) (hinj : ∀ id id' g, c0.ρ id = some g → c0.ρ id' = some g → id = id') :
    ∃ v c', (results fn a.tmps).run P w = .ok v w ∧ Evo c.own w c'.own w ∧ MemRel c' { boxes := ofB bs', names := namesOf (cellsOfB bs' ++ resParts r) } w ∧ c'.ρ = c0.ρ ∧ T c' w r v := by
  have hM := hR.M
  unfold outOf at h
  split at h
  case h_2 => simp at h
  rename_i rs bo h1 h2
  simp only at h
  split at h
  case isFalse => simp at h
  rename_i hnp2
  obtain ⟨k1, k2'⟩ := outBoxes_spec bs bo h2
  have k2 : ∀ b ∈ bo, m.boxes b.1 = some b.2 := fun b hb => (k2' b hb).1
  obtain ⟨us, hus, hTL⟩ := results_run hR.T hM _ _ h1
  have hal : ∀ p q, m.names p q = some true → ∃ s, c.ν p q = .alive s := fun p q hn => by
    have := hM.names p q
    rw [hn] at this
    cases hs : c.ν p q with
    | unknown => rw [hs] at this; simp [statIs] at this
    | dead => rw [hs] at this; simp [statIs] at this
    | alive t => exact ⟨t, rfl⟩
  have hndB : (bo.map (·.1)).Nodup := by rw [k1]; exact hnd
  let valsI : Nat → List Value := fun i => blockVals w (c.ρ i)
  have hTLb : ∀ b ∈ bo, TL c w b.2 (valsI b.1) := fun b hb => box_TL hM (k2 b hb)
  have hnp : ∀ x ∈ cellsOfB bo, ∀ i o, x ≠ .ptr i o := by
    have : ∀ (l : List (Nat × Box)), (∀ b ∈ l, b ∈ bo) → ∀ x ∈ cellsOfB l, ∀ i o, x ≠ .ptr i o := by
      intro l
      induction l with
      | nil => intro _ x hx; simp [cellsOfB] at hx
      | cons b l ih =>
        intro hl x hx
        obtain ⟨bi, bb⟩ := b
        simp only [cellsOfB, List.mem_append] at hx
        rcases hx with hx | hx
        · exact box_noPtr hM (k2 (bi, bb) (hl (bi, bb) (by simp))) x hx
        · exact ih (fun e' he' => hl e' (List.mem_cons_of_mem _ he')) x hx
    exact this bo (fun _ h => h)
  obtain ⟨t1, hc1⟩ := relabB_chain (names := m.names) (nm := boxName) (grow := fun _ _ => none) (vals := valsI) bo [] hTLb (fun x hx p q _ hn => hal p q hn)
  have hshape := relabB_shape (names := m.names) (nm := boxName) (grow := fun _ _ => none) bo []
  have hnpB := relabB_noPtr (names := m.names) (nm := boxName) (grow := fun _ _ => none) bo [] hnp
  generalize hX : relabB m.names boxName (fun _ _ => none) [] bo = X at *
  obtain ⟨t2, hc2⟩ := relabL_chain (names := m.names) (nm := fun k => (999999, k)) (grow := fun _ => none) rs us 0 X.2 hTL (fun y _ p q _ hn => hal p q hn)
  generalize hys : (relabL m.names (fun k => (999999, k)) (fun _ => none) 0 X.2 rs).1 = ys at *
  simp only [Option.some.injEq, Prod.mk.injEq] at h
  obtain ⟨hr, rfl⟩ := h
  have hch := hc1.append hc2
  have hnd' : ((bo.flatMap fun (b : Nat × Box) => (List.range' 0 b.2.length).map (boxName b.1)) ++ (List.range' 0 rs.length).map fun k => (999999, k)).Nodup := by
    rw [List.nodup_append]
    refine ⟨nodup_boxNames (nm := boxName) (fun i j i' j' h => by simp [boxName] at h; omega) bo hndB, nm_nodup 999999 0 _, fun p hp q hq he => ?_⟩
    subst he
    simp only [List.mem_flatMap, List.mem_map] at hp hq
    obtain ⟨b, _, j, _, rfl⟩ := hp
    obtain ⟨k, _, hk⟩ := hq
    simp [boxName] at hk
    omega
  let Y := cellsOfB X.1 ++ ys
  let ts := t1 ++ t2
  let ν' := nuOf (fun _ _ => .unknown) Y ts
  let c' : Cfg := ⟨c.own, c0.ρ, ν'⟩
  have hkeysX : X.1.map (·.1) = bo.map (·.1) := by
    have := congrArg (List.map Prod.fst) hshape
    simpa [Function.comp_def] using this
  have hTL2 : TL c' w Y ((bo.flatMap fun b => valsI b.1) ++ us) := hch.TL hnd' (fun _ _ h => h) (fun y hy => by
    rcases List.mem_append.1 hy with hy | hy
    · exact hnpB y hy
    · exact noPtr_spec hnp2 y hy)
  obtain ⟨hTLB, hTLR⟩ := TL_append hTL2 hc1.len.2.1
  have hsplit : ∀ b ∈ X.1, TL c' w b.2 (valsI b.1) := by
    refine TL_boxes X.1 ?_ (fun b hb => ?_)
    · have : (X.1.flatMap fun b => valsI b.1) = bo.flatMap fun b => valsI b.1 := by
        rw [← List.flatMap_map (f := Prod.fst) (g := valsI), ← List.flatMap_map (f := Prod.fst) (g := valsI), hkeysX]
      rw [this]; exact hTLB
    · have hm : (b.1, b.2.length) ∈ X.1.map fun b => (b.1, b.2.length) := List.mem_map.2 ⟨b, hb, rfl⟩
      rw [hshape] at hm
      obtain ⟨b0, hb0, he⟩ := List.mem_map.1 hm
      simp at he
      have := (hTLb b0 hb0).1
      rw [he.1] at this
      omega
  have hsrc : ∀ (i g en : Nat), ts[i]? = some (some (g, en)) → ∃ p q, c.ν p q = .alive (some (g, en)) := fun i g en hi => by
    obtain ⟨p, q, h1, _, _⟩ := hch.src i g en hi
    exact ⟨p, q, h1⟩
  -- the boxes that the function was handed stand where they stood
  have hρeq : ∀ b ∈ bo, ∀ g, c0.ρ b.1 = some g → c.ρ b.1 = some g := fun b hb g hg => by
    have hs := hM.dom b.1
    rw [k2 b hb] at hs
    obtain ⟨g', hg'⟩ := Option.isSome_iff_exists.1 hs.symm
    have hb' : b.1 ∈ bs.map (·.1) := by rw [← k1]; exact List.mem_map.2 ⟨b, hb, rfl⟩
    obtain ⟨b0, hb0, he⟩ := List.mem_map.1 hb'
    have := hρ b.1 g' (by rw [← he]; exact hlow b0 hb0) hg'
    rw [hg] at this; simp at this; subst this
    exact hg'
  have hmapM : (results fn a.tmps).run P w = .ok (if h : us.toArray.size = 1 then us.toArray[0] else .tuple us.toArray) w := by
    have hfun : results fn a.tmps = (do
        let vs ← fn.results.mapM (resSem a.tmps)
        pure (if h : vs.size = 1 then vs[0] else .tuple vs)) := by
      unfold results
      congr 1
    rw [hfun, Array.mapM_eq_mapM_toList]
    simp only [Sem.run_bind, Sem.run_map, Sem.run_pure, hus, Result.andThen_ok]
  refine ⟨_, c', hmapM, .refl _ _, ?_, rfl, ?_⟩
  · have hparts : resParts r = ys ∨ ∃ y, ys = [y] ∧ resParts r = resParts y ∧ r = y := by
      rw [← hr]
      split
      · rename_i y; exact .inr ⟨y, rfl, rfl, rfl⟩
      · exact .inl rfl
    have hnotup : ∀ y ∈ ys, ∀ xs, y ≠ .tup xs := fun y hy xs he => by
      obtain ⟨i, hi, rfl⟩ := List.mem_iff_getElem.1 hy
      have hl := hTLR.1
      have := hTLR.2 i ys[i] (us[i]'(by omega)) (by simp [hi]) (by simp)
      rw [he] at this
      exact this
    have hparts' : resParts r = ys := by
      rcases hparts with h | ⟨y, h1, h2, h3⟩
      · exact h
      · rw [h2, h1]
        have := hnotup y (by rw [h1]; simp)
        cases y <;> first | rfl | exact absurd rfl (this _)
    rw [hparts']
    refine ⟨fun id => ?_, fun id bx g h1 h2 => ?_, hinj, fun p q => ?_, fun p q g en h => ?_, fun p q p' q' g en en' h h' => ?_, fun p q g en id h hid => ?_, hM.lt⟩
    · show (ofB X.1 id).isSome = (c0.ρ id).isSome
      have e1 := ofB_isSome X.1 id
      rw [hkeysX, k1] at e1
      have e2 := hdom id
      rw [Bool.eq_iff_iff, e1, e2]
    · have hmX := ofB_mem X.1 id bx h1
      have hk : id ∈ bo.map (·.1) := by rw [← hkeysX]; exact List.mem_map.2 ⟨_, hmX, rfl⟩
      obtain ⟨b, hb, hbe⟩ := List.mem_map.1 hk
      have hg := hρeq b hb g (by rw [hbe]; exact h2)
      obtain ⟨cs, el, q1, q2, q3, q4, q5⟩ := hM.box b.1 b.2 g (k2 b hb) hg
      have htl := hsplit (id, bx) hmX
      have hv : valsI id = cs.toList := by
        simp only [valsI, ← hbe, hg]
        exact blockVals_eq q1
      simp only [hv] at htl
      refine ⟨cs, el, q1, by simpa using htl.1, fun j x v hx hv' => ⟨htl.2 j x v hx (by simpa using hv'), ?_, hnpB x (cells_mem hmX (List.mem_of_getElem? hx))⟩, fun _ off ho => q4 (k2' b hb).2 off ho, fun hf => by simp at hf⟩
      have hj : j < b.2.length := by
        rw [← q2]
        rcases Nat.lt_or_ge j cs.size with h' | h'
        · exact h'
        · simp [h'] at hv'
      exact (q3 j b.2[j] v (by simp [hj]) hv').2.1
    · show statIs (nuOf (fun _ _ => .unknown) Y ts p q) (namesOf Y p q)
      rw [← addNames_none]
      exact nuOf_names (base := fun _ _ => .unknown) (names := fun _ _ => none) (fun _ _ => rfl) _ _ hch.len.2.2 p q
    · rcases nuOf_alive _ ts p q _ h with ⟨i, y, h1, h2, h3⟩ | ⟨_, h2⟩
      · obtain ⟨p', q', hs⟩ := hsrc i g en h3
        exact hM.tip p' q' g en hs
      · simp at h2
    · rcases nuOf_alive _ ts p q _ h with ⟨i, y, h1, h2, h3⟩ | ⟨_, h2⟩
      · rcases nuOf_alive _ ts p' q' _ h' with ⟨i', y', h1', h2', h3'⟩ | ⟨_, h2'⟩
        · obtain rfl := hch.inj hM.tipInj i i' g en en' h3 h3'
          rw [h1] at h1'; simp at h1'; subst h1'
          rw [h2] at h2'; simpa using h2'
        · simp at h2'
      · simp at h2
    · rcases nuOf_alive _ ts p q _ h with ⟨i, y, h1, h2, h3⟩ | ⟨_, h2⟩
      · obtain ⟨p', q', hs⟩ := hsrc i g en h3
        have hk : id ∈ bo.map (·.1) := by rw [k1]; exact (hdom id).1 (by rw [hid]; rfl)
        obtain ⟨b, hb, hbe⟩ := List.mem_map.1 hk
        exact hM.tipBox _ _ _ _ _ hs (hρeq b hb g (by rw [hbe]; exact hid))
      · simp at h2
  · have hul : us.length = ys.length := hTLR.1
    subst hr
    split
    · rename_i y
      have h1 : us.length = 1 := by simpa using hul
      obtain ⟨u, rfl⟩ : ∃ u, us = [u] := by
        match us, h1 with
        | [u], _ => exact ⟨u, rfl⟩
      simp
      exact .of_T1 (hTLR.2 0 y u rfl rfl)
    · rename_i hne
      have h1 : ¬ us.toArray.size = 1 := by
        intro h
        simp at h
        rw [h] at hul
        match ys, hul.symm with
        | [y], _ => exact hne y rfl
      rw [dif_neg h1]
      exact ⟨us.toArray, rfl, by simpa using hul, fun i x u hx hu => hTLR.2 i x u hx (by simpa using hu)⟩

theorem freeze_one {N : Nat} {i id off : Nat} {b : Box} (hR : SR P N c w t m a) (hi : t i = .ptr id off) (hb : m.boxes id = some b) :
    ∃ c', SR P N c' w (upd t i (.eptr ((b.drop off).map AV.bare))) { m with froz := fun j => if j = id then true else m.froz j } a ∧ Evo c.own w c'.own w ∧ Low c c' := by
  have h := aop_makeFunc (P := P) (C := fun _ _ _ => none) (ro := fun _ => false) (D := none) (d := 0) (f := 0) (fs := #[]) (caps := #[.tmp i]) (x := .fn 0 [.eptr ((b.drop off).map AV.bare)]) (m' := { m with froz := fun j => if j = id then true else m.froz j }) hR.T hR.M (by
    simp [aop, opnd, hi, capture, mayRead, hb])
  have hrun : (do pure (Next.value (← Instr.makeFunc (.func 0) ((#[] : Array Operand).map a.eval) ((#[.tmp i] : Array Operand).map a.eval))) : Sem Next).run P w = .ok (.value (.func (.func 0) #[] #[a.eval (.tmp i)])) w := by
    simp [Instr.makeFunc]
  rw [hrun] at h
  obtain ⟨c', e, k, hM', hT'⟩ := h
  refine ⟨c', ⟨fun j => ?_, hM', hR.G.mono e, hR.defers, hR.size⟩, e, k.low⟩
  simp only [upd_apply]
  by_cases hj : j = i
  · subst hj
    rw [if_pos rfl]
    cases (show V c'.own w (.fn 0 [.eptr ((b.drop off).map AV.bare)]) _ from hT') with
    | fn _ _ vs h1 h2 => exact .of_V (h2 0 _ _ rfl rfl)
  · rw [if_neg hj]
    exact (hR.T j).mono e k
theorem freeze_sound {N : Nat} : ∀ (rs : List ResultVar) (t : Tmps) (m : Mem) (c : Cfg), SR P N c w t m a → ∃ c', SR P N c' w (freezeT t m rs).1 (freezeT t m rs).2 a ∧ Evo c.own w c'.own w ∧ Low c c'
  | [], t, m, c, h => ⟨c, h, .refl _ _, fun _ _ _ h => h⟩
  | .tmp i :: r, t, m, c, h => by
    simp only [freezeT]
    split
    · rename_i id off hi
      split
      · rename_i b hb
        obtain ⟨c1, h1, e1, l1⟩ := freeze_one h hi hb
        obtain ⟨c2, h2, e2, l2⟩ := freeze_sound r _ _ c1 h1
        exact ⟨c2, h2, e1.trans e2, l1.trans l2⟩
      · exact freeze_sound r t m c h
    · exact freeze_sound r t m c h
  | .cell .. :: r, t, m, c, h => freeze_sound r t m c h

/-- A function's contract by the evaluator. -/
theorem fn_sound (hD : DrawSound P) (hf : P.follows .mixedOrders = true) {E : Env} (hS : Sound P E.C) {f : FuncId} {fn : Func} {code : Code} (hfn : P.funcs[f]? = some fn) (hb : fn.body = some code) (hN : E.N ≤ fn.ntmps) (hok : codeOk E.lv code = true)
    (hcall : ∀ (vs : Array Value) (w : World), (callFunc f vs).run P w = .ok (.enter f vs) w) {args : List AV} {bs bs' : List (Nat × Box)} {r : AV} (hnd : (bs.map (·.1)).Nodup) (h : evFn P E fn args bs = some (r, bs')) : SimCall P f args bs r bs' := by
  refine ⟨hcall, fun c w vs hM hG hsz hargs => ?_⟩
  unfold evFn at h
  rw [hb] at h
  simp only at h
  split at h
  case isFalse => simp at h
  rename_i hlow
  have hlow' : ∀ b ∈ bs, b.1 < 500000 := fun b hb => by simpa using List.all_eq_true.1 hlow b hb
  refine calls_of_wp hfn hb ?_
  have hpar : ∀ (l : List AV) (k i : Nat), params l k i = if k ≤ i ∧ i < k + l.length then l.getD (i - k) .undef else .undef := by
    intro l
    induction l with
    | nil => intro k i; simp [params]
    | cons x l ih =>
      intro k i
      simp only [params, upd_apply, ih (k + 1) i, List.length_cons]
      by_cases h1 : i = k
      · subst h1; simp
      · rw [if_neg h1]
        by_cases h2 : k + 1 ≤ i ∧ i < k + 1 + l.length
        · rw [if_pos h2, if_pos (by omega)]
          rw [show i - k = (i - (k + 1)) + 1 by omega]
          simp
        · rw [if_neg h2, if_neg (by omega)]
  have hR : SR P E.N c w (params args 0) { boxes := ofB bs, names := namesOf (cellsOfB bs) } { tmps := vs ++ Array.replicate (fn.ntmps - vs.size) undef, defers := [] } := by
    refine ⟨fun i => ?_, hM, hG, rfl, by simp; omega⟩
    rw [hpar]
    split
    · rename_i hi
      have hi' : i < args.length := by omega
      have hv : (vs ++ Array.replicate (fn.ntmps - vs.size) undef).getD i undef = vs[i]'(by omega) := by
        rw [Array.getD_eq_getD_getElem?, Array.getElem?_append_left (by omega)]
        simp [show i < vs.size by omega]
      simp only
      rw [hv]
      have := hargs i args[i] (vs[i]'(by omega)) (by simp [hi']) (by simp)
      simpa [List.getD, hi'] using T.of_T1 this
    · exact .of_V (.undef _)
  refine code_sound hD hf E hS code hok _ _ _ _ h c _ w hR _ fun e t' m' c' a' w' hK hR' ev hl => ?_
  have hdom : ∀ id, (c.ρ id).isSome = true ↔ id ∈ bs.map (·.1) := fun id => by
    rw [← hM.dom id]
    exact ofB_isSome bs id
  cases e with
  | exit id => simp at hK
  | normal =>
    obtain ⟨c1, hR1, e1, l1⟩ := freeze_sound fn.results.toList _ _ _ hR'
    obtain ⟨v, c2, hr, e2, hM2, hρ2, hT2⟩ := out_sound hR1 hK hnd hlow' (Low.trans hl l1) hdom hM.inj
    exact ⟨hR'.defers, v, hr, v, c2, rfl, ev.trans (e1.trans e2), hM2, hρ2, hT2⟩
  | ret =>
    obtain ⟨c1, hR1, e1, l1⟩ := freeze_sound fn.results.toList _ _ _ hR'
    obtain ⟨v, c2, hr, e2, hM2, hρ2, hT2⟩ := out_sound hR1 hK hnd hlow' (Low.trans hl l1) hdom hM.inj
    exact ⟨hR'.defers, v, hr, v, c2, rfl, ev.trans (e1.trans e2), hM2, hρ2, hT2⟩
end
end Ev
