/- A verified evaluator, part O: boxes that are handed to a call. -/
import Derived.Test.YtlmmgblghgmgeaaDoorEvN
set_option linter.unusedVariables false
set_option linter.unusedSimpArgs false
namespace Ev
open Go
section
variable {P : Program} {c : Cfg} {w : World} {m m' : Mem} {t : Tmps} {a : Act} {C : Oracle} {ro : FuncId → Bool} {D : Option (List Nat)} {d : Nat} {x : AV}

theorem passed_spec : ∀ (args : List AV) (i : Nat) (seen : List Nat) (vs : List AV) (ids : List (Nat × Nat)) (bs : List (Nat × Box)), passed m args i seen = some (vs, ids, bs) →
    ∃ L : List (Nat × Nat × Box), ids = L.map (fun e => (e.1, e.2.1)) ∧ bs = L.map (fun e => (e.1, e.2.2)) ∧ (L.map (·.1)).Nodup ∧ (L.map (·.2.1)).Nodup ∧
      (∀ e ∈ L, i ≤ e.1 ∧ e.2.1 ∉ seen ∧ m.boxes e.2.1 = some e.2.2 ∧ m.froz e.2.1 = false) ∧ vs.length = args.length ∧
      ∀ (k : Nat) (x y : AV), args[k]? = some x → vs[k]? = some y → (∃ e ∈ L, x = .ptr e.2.1 0 ∧ y = .ptr (i + k) 0 ∧ e.1 = i + k) ∨ ((∀ id off, x ≠ .ptr id off) ∧ y = x.bare)
  | [], i, seen, vs, ids, bs, h => by
    simp [passed] at h
    obtain ⟨rfl, rfl, rfl⟩ := h
    exact ⟨[], by simp⟩
  | x :: r, i, seen, vs, ids, bs, h => by
    by_cases hx : ∃ id off, x = .ptr id off
    · obtain ⟨id, off, rfl⟩ := hx
      simp only [passed] at h
      split at h
      case isFalse => simp at h
      rename_i hc
      obtain ⟨rfl, hs, hf⟩ := hc
      split at h
      case h_2 => simp at h
      rename_i b us is cs hb hr
      simp only [Option.some.injEq, Prod.mk.injEq] at h
      obtain ⟨rfl, rfl, rfl⟩ := h
      obtain ⟨L, h1, h2, h3, h4, h5, h6, h7⟩ := passed_spec r (i + 1) (id :: seen) us is cs hr
      refine ⟨(i, id, b) :: L, by simp [h1], by simp [h2], ?_, ?_, ?_, by simp [h6], ?_⟩
      · simp only [List.map_cons, List.nodup_cons]
        refine ⟨fun hm => ?_, h3⟩
        obtain ⟨e, he, hei⟩ := List.mem_map.1 hm
        have := (h5 e he).1
        omega
      · simp only [List.map_cons, List.nodup_cons]
        refine ⟨fun hm => ?_, h4⟩
        obtain ⟨e, he, hei⟩ := List.mem_map.1 hm
        exact (h5 e he).2.1 (by rw [hei]; simp)
      · intro e he
        rcases List.mem_cons.1 he with rfl | he
        · exact ⟨Nat.le_refl _, hs, hb, hf⟩
        · obtain ⟨k1, k2, k3, k4⟩ := h5 e he
          exact ⟨by omega, fun hm => k2 (List.mem_cons_of_mem _ hm), k3, k4⟩
      · intro k y z hy hz
        cases k with
        | zero =>
          simp only [List.getElem?_cons_zero, Option.some.injEq] at hy hz
          subst hy; subst hz
          exact .inl ⟨(i, id, b), by simp, rfl, rfl, rfl⟩
        | succ k =>
          rcases h7 k y z (by simpa using hy) (by simpa using hz) with ⟨e, he, e1, e2, e3⟩ | h8
          · exact .inl ⟨e, List.mem_cons_of_mem _ he, e1, by rw [e2]; congr 1; omega, by omega⟩
          · exact .inr h8
    · have hc : passed m (x :: r) i seen = match passed m r (i + 1) seen with
          | some (vs, ids, bs) => some (x.bare :: vs, ids, bs)
          | none => none := by
        cases x <;> first | rfl | exact absurd ⟨_, _, rfl⟩ hx
      rw [hc] at h
      split at h
      case h_2 => simp at h
      rename_i us is cs hr
      simp only [Option.some.injEq, Prod.mk.injEq] at h
      obtain ⟨rfl, rfl, rfl⟩ := h
      obtain ⟨L, h1, h2, h3, h4, h5, h6, h7⟩ := passed_spec r (i + 1) seen us is cs hr
      refine ⟨L, h1, h2, h3, h4, fun e he => ⟨by have := (h5 e he).1; omega, (h5 e he).2⟩, by simp [h6], fun k y z hy hz => ?_⟩
      cases k with
      | zero =>
        simp only [List.getElem?_cons_zero, Option.some.injEq] at hy hz
        subst hy; subst hz
        exact .inr ⟨fun id off he => hx ⟨id, off, he⟩, rfl⟩
      | succ k =>
        rcases h7 k y z (by simpa using hy) (by simpa using hz) with ⟨e, he, e1, e2, e3⟩ | h8
        · exact .inl ⟨e, he, e1, by rw [e2]; congr 1; omega, by omega⟩
        · exact .inr h8

theorem ofB_mem : ∀ (bs : List (Nat × Box)) (i : Nat) (b : Box), ofB bs i = some b → (i, b) ∈ bs
  | [], i, b, h => by simp [ofB] at h
  | (j, b') :: r, i, b, h => by
    simp only [ofB] at h
    split at h
    · rename_i he; subst he; simp at h; subst h; simp
    · exact List.mem_cons_of_mem _ (ofB_mem r i b h)
theorem ofB_of_mem : ∀ (bs : List (Nat × Box)) (i : Nat) (b : Box), (bs.map (·.1)).Nodup → (i, b) ∈ bs → ofB bs i = some b
  | [], i, b, _, h => by simp at h
  | (j, b') :: r, i, b, hn, h => by
    simp only [List.map_cons, List.nodup_cons] at hn
    simp only [ofB]
    rcases List.mem_cons.1 h with h | h
    · simp at h; obtain ⟨rfl, rfl⟩ := h; simp
    · have : i ≠ j := fun he => hn.1 (he ▸ List.mem_map.2 ⟨(i, b), h, rfl⟩)
      simp only [this, if_false]
      exact ofB_of_mem r i b hn.2 h
theorem ofB_isSome (bs : List (Nat × Box)) (i : Nat) : (ofB bs i).isSome = true ↔ i ∈ bs.map (·.1) := by
  induction bs with
  | nil => simp [ofB]
  | cons e r ih =>
    obtain ⟨j, b⟩ := e
    simp only [ofB, List.map_cons, List.mem_cons]
    split
    · rename_i he; simp [he]
    · rename_i he; rw [ih]; simp [he]
theorem lookup_mem : ∀ (l : List (Nat × Nat)) (i j : Nat), l.lookup i = some j → (i, j) ∈ l
  | [], i, j, h => by simp at h
  | (k, v) :: r, i, j, h => by
    simp only [List.lookup] at h
    split at h
    · rename_i he; simp at he h; subst he; subst h; simp
    · exact List.mem_cons_of_mem _ (lookup_mem r i j h)
theorem lookup_of_mem : ∀ (l : List (Nat × Nat)) (i j : Nat), (l.map (·.1)).Nodup → (i, j) ∈ l → l.lookup i = some j
  | [], i, j, _, h => by simp at h
  | (k, v) :: r, i, j, hn, h => by
    simp only [List.map_cons, List.nodup_cons] at hn
    simp only [List.lookup]
    rcases List.mem_cons.1 h with h | h
    · simp at h; obtain ⟨rfl, rfl⟩ := h; simp
    · have : i ≠ k := fun he => hn.1 (he ▸ List.mem_map.2 ⟨(i, j), h, rfl⟩)
      have hb : (i == k) = false := by simpa using this
      simp only [hb]
      exact lookup_of_mem r i j hn.2 h

/-- What stands in a block. -/
def blockVals (w : World) (g : Option Nat) : List Value :=
  match g.bind (w.heap[·]?) with
  | some (.cells cs _ _) => cs.toList
  | _ => []
theorem blockVals_eq {w : World} {g : Nat} {cs : Array Value} {el : TypeId} {fr : Nat × Nat} (h : w.heap[g]? = some (.cells cs el fr)) : blockVals w (some g) = cs.toList := by simp [blockVals, h]
theorem box_TL (hM : MemRel c m w) {id : Nat} {b : Box} (h : m.boxes id = some b) : TL c w b (blockVals w (c.ρ id)) := by
  have hs := hM.dom id
  rw [h] at hs
  cases hr : c.ρ id with
  | none => simp [hr] at hs
  | some g =>
    obtain ⟨cs, el, k1, k2, k3, _⟩ := hM.box id b g h hr
    rw [blockVals_eq k1]
    exact ⟨by simpa using k2, fun i x v hx hv => (k3 i x v hx (by simpa using hv)).1⟩
theorem box_noPtr (hM : MemRel c m w) {id : Nat} {b : Box} (h : m.boxes id = some b) : ∀ x ∈ b, ∀ i o, x ≠ .ptr i o := by
  have hs := hM.dom id
  rw [h] at hs
  cases hr : c.ρ id with
  | none => simp [hr] at hs
  | some g =>
    obtain ⟨cs, el, k1, k2, k3, _⟩ := hM.box id b g h hr
    intro x hx
    obtain ⟨j, hj, rfl⟩ := List.mem_iff_getElem.1 hx
    exact (k3 j b[j] (cs[j]'(by omega)) (by simp [hj]) (by simp)).2.2

theorem TL_append {xs ys : List AV} {us vs : List Value} (h : TL c w (xs ++ ys) (us ++ vs)) (hl : us.length = xs.length) : TL c w xs us ∧ TL c w ys vs := by
  refine ⟨⟨hl, fun i x v hx hv => h.2 i x v ?_ ?_⟩, ⟨by have := h.1; simp at this; omega, fun i x v hx hv => h.2 (xs.length + i) x v ?_ ?_⟩⟩
  · rw [List.getElem?_append_left]
    · exact hx
    · rcases Nat.lt_or_ge i xs.length with h' | h'
      · exact h'
      · simp [List.getElem?_eq_none, h'] at hx
  · rw [List.getElem?_append_left]
    · exact hv
    · rcases Nat.lt_or_ge i us.length with h' | h'
      · exact h'
      · simp [List.getElem?_eq_none, h'] at hv
  · rw [List.getElem?_append_right (by omega)]
    rw [show xs.length + i - xs.length = i by omega]; exact hx
  · rw [List.getElem?_append_right (by omega)]
    rw [show xs.length + i - us.length = i by omega]; exact hv
theorem TL_boxes {vals : Nat → List Value} : ∀ (bs : List (Nat × Box)), TL c w (cellsOfB bs) (bs.flatMap fun b => vals b.1) → (∀ b ∈ bs, (vals b.1).length = b.2.length) → ∀ b ∈ bs, TL c w b.2 (vals b.1)
  | [], _, _, b, hb => by simp at hb
  | (i, b0) :: r, h, hl, b, hb => by
    simp only [cellsOfB, List.flatMap_cons] at h
    obtain ⟨h1, h2⟩ := TL_append h (hl (i, b0) (by simp))
    rcases List.mem_cons.1 hb with rfl | hb
    · exact h1
    · exact TL_boxes r h2 (fun b' hb' => hl b' (List.mem_cons_of_mem _ hb')) b hb
theorem Chain.TL {own' : Own} {ρ' : Nat → Option Nat} {base : Nat → Nat → Stat} {used u2 nms : List (Nat × Nat)} {ys : List AV} {vs : List Value} {ts : List (Option (Nat × Nat))} (h : Chain c w used nms ys vs ts u2) (hnd : nms.Nodup)
    (hN : ∀ g off, own'.N g off → c.own.N g off) (hp : ∀ y ∈ ys, ∀ i o, y ≠ .ptr i o) : Ev.TL ⟨own', ρ', nuOf base ys ts⟩ w ys vs := by
  refine ⟨h.len.2.1, fun i y v hy hv => ?_⟩
  obtain ⟨t, ht, hok⟩ := h.ok i y v hy hv
  exact (hok.sameN (ρ' := ρ') hN (hp y (List.mem_of_getElem? hy))).T1 (fun p q hr => h.nu hnd i y t hy ht p q hr)

theorem nodup_boxNames {nm : Nat → Nat → Nat × Nat} (hnm : ∀ i j i' j', nm i j = nm i' j' → i = i' ∧ j = j') : ∀ (bs : List (Nat × Box)), (bs.map (·.1)).Nodup → (bs.flatMap fun b => (List.range' 0 b.2.length).map (nm b.1)).Nodup
  | [], _ => by simp
  | (i, b) :: r, h => by
    simp only [List.map_cons, List.nodup_cons] at h
    simp only [List.flatMap_cons]
    rw [List.nodup_append]
    refine ⟨List.Pairwise.map _ (fun x y hxy he => hxy (hnm _ _ _ _ he).2) (List.nodup_range' (s := 0) (n := b.length)), nodup_boxNames hnm r h.2, fun x hx y hy he => ?_⟩
    subst he
    simp only [List.mem_map, List.mem_flatMap] at hx hy
    obtain ⟨j, _, rfl⟩ := hx
    obtain ⟨b', hb', j', _, he⟩ := hy
    exact h.1 (List.mem_map.2 ⟨b', hb', (hnm _ _ _ _ he).1⟩)

def killS (ν : Nat → Nat → Stat) : List AV → Nat → Nat → Stat
  | [], p, q => ν p q
  | y :: r, p, q => if rowName y = some (p, q) then .dead else killS ν r p q
theorem killS_names {ν : Nat → Nat → Stat} {names : Nat → Nat → Option Bool} (h : ∀ p q, statIs (ν p q) (names p q)) : ∀ (ys : List AV) (p q : Nat), statIs (killS ν ys p q) (killNames names ys p q)
  | [], p, q => h p q
  | y :: r, p, q => by
    simp only [killS, killNames]
    split
    · rfl
    · exact killS_names h r p q
theorem killS_cases (ν : Nat → Nat → Stat) : ∀ (ys : List AV) (p q : Nat), (killS ν ys p q = .dead ∧ ∃ y ∈ ys, rowName y = some (p, q)) ∨ (killS ν ys p q = ν p q ∧ ∀ y ∈ ys, rowName y ≠ some (p, q))
  | [], p, q => .inr ⟨rfl, by simp⟩
  | y :: r, p, q => by
    simp only [killS]
    split
    · rename_i h; exact .inl ⟨rfl, y, by simp, h⟩
    · rename_i h
      rcases killS_cases ν r p q with ⟨h1, z, hz, hr⟩ | ⟨h1, h2⟩
      · exact .inl ⟨h1, z, List.mem_cons_of_mem _ hz, hr⟩
      · refine .inr ⟨h1, fun z hz => ?_⟩
        rcases List.mem_cons.1 hz with rfl | hz
        · exact h
        · exact h2 z hz
theorem addNames_cases (names : Nat → Nat → Option Bool) : ∀ (ys : List AV) (p q : Nat), (addNames names ys p q = some true ∧ ∃ y ∈ ys, rowName y = some (p, q)) ∨ (addNames names ys p q = names p q ∧ ∀ y ∈ ys, rowName y ≠ some (p, q))
  | [], p, q => .inr ⟨rfl, by simp⟩
  | y :: r, p, q => by
    simp only [addNames]
    split
    · rename_i h; exact .inl ⟨rfl, y, by simp, h⟩
    · rename_i h
      rcases addNames_cases names r p q with ⟨h1, z, hz, hr⟩ | ⟨h1, h2⟩
      · exact .inl ⟨h1, z, List.mem_cons_of_mem _ hz, hr⟩
      · refine .inr ⟨h1, fun z hz => ?_⟩
        rcases List.mem_cons.1 hz with rfl | hz
        · exact h
        · exact h2 z hz
theorem addNames_append (names : Nat → Nat → Option Bool) (xs ys : List AV) (p q : Nat) : addNames (addNames names xs) ys p q = addNames names (xs ++ ys) p q := by
  rcases addNames_cases (addNames names xs) ys p q with ⟨h1, y, hy, hr⟩ | ⟨h1, h2⟩
  · rcases addNames_cases names (xs ++ ys) p q with ⟨k1, _⟩ | ⟨_, k2⟩
    · rw [h1, k1]
    · exact absurd hr (k2 y (by simp [hy]))
  · rcases addNames_cases names xs p q with ⟨k1, x, hx, hr⟩ | ⟨k1, k2⟩
    · rcases addNames_cases names (xs ++ ys) p q with ⟨q1, _⟩ | ⟨_, q2⟩
      · rw [h1, k1, q1]
      · exact absurd hr (q2 x (by simp [hx]))
    · rcases addNames_cases names (xs ++ ys) p q with ⟨_, z, hz, hr⟩ | ⟨q1, _⟩
      · rcases List.mem_append.1 hz with hz | hz
        · exact absurd hr (k2 z hz)
        · exact absurd hr (h2 z hz)
      · rw [h1, k1, q1]
end
end Ev
