/- A verified evaluator, part S: code. -/
import Derived.Test.YtlmmgblghgmgeaaDoorEvQ
import Derived.LoopN
set_option linter.unusedVariables false
set_option linter.unusedSimpArgs false
namespace Ev
open Go
section
variable {P : Program} {c : Cfg} {w : World} {m m' : Mem} {t : Tmps} {a : Act} {C : Oracle} {ro : FuncId → Bool} {D : Option (List Nat)} {d : Nat} {x : AV}

theorem lim_some {α : Type} {g : Nat → Option α} {r : α} (h : lim g = some r) : ∃ k, g k = some r := by
  unfold lim at h
  split at h
  · rename_i hx
    simp at h
    have := Classical.choose_spec (Classical.choose_spec hx)
    exact ⟨_, by rw [← h]; exact this⟩
  · simp at h

/-! ### a loop's head -/
theorem cleanS_chain {names : Nat → Nat → Option Bool} {bs : List (Nat × Box)} (hT : TRel c w t a) (hal : ∀ p q, names p q = some true → ∃ s, c.ν p q = .alive s) : ∀ (l : List (Nat × Option Nat)) (used : List (Nat × Nat)),
    ∃ ts, Chain c w used (l.map fun s => (1000000 + s.1, 0)) ((cleanS names bs t used l).1.map (·.2)) (l.map fun s => a.tmps.getD s.1 undef) ts (cleanS names bs t used l).2
  | [], used => ⟨[], .nil used⟩
  | (s, g) :: r, used => by
    have hx : T1 c w (fixPtr bs (t s)) (a.tmps.getD s undef) := by
      have h := hT s
      generalize t s = y at h
      cases y with
      | ptr id off =>
        simp only [fixPtr]
        split
        · exact h
        · exact .of_V (.undef _)
      | tup xs => exact .of_V (.undef _)
      | _ => exact h
    obtain ⟨t1, h1⟩ := relab1_step (names := names) (used := used) (p := 1000000 + s) (q := 0) (grow := g) hx (fun p q _ h => hal p q h)
    obtain ⟨ts, h2⟩ := cleanS_chain (names := names) (bs := bs) hT hal r (relab1 names used (1000000 + s) 0 g (fixPtr bs (t s))).2
    exact ⟨t1 :: ts, .cons h1 h2⟩
theorem cleanS_keys {names : Nat → Nat → Option Bool} {bs : List (Nat × Box)} : ∀ (l : List (Nat × Option Nat)) (used : List (Nat × Nat)), (cleanS names bs t used l).1.map (·.1) = l.map (·.1)
  | [], used => rfl
  | (s, g) :: r, used => by simp [cleanS, cleanS_keys r]
theorem cleanS_ptr {names : Nat → Nat → Option Bool} {bs : List (Nat × Box)} : ∀ (l : List (Nat × Option Nat)) (used : List (Nat × Nat)), ∀ e ∈ (cleanS names bs t used l).1, ∀ id off, e.2 = .ptr id off → id ∈ bs.map (·.1)
  | [], used, e, he => by simp [cleanS] at he
  | (s, g) :: r, used, e, he => by
    simp only [cleanS, List.mem_cons] at he
    rcases he with rfl | he
    · intro id off h
      simp only at h
      have key : ∀ y : AV, (∀ i o, fixPtr bs y = .ptr i o → i ∈ bs.map (·.1)) := fun y i o hy => by
        cases y with
        | ptr i' o' =>
          simp only [fixPtr] at hy
          split at hy
          · rename_i hc
            simp at hy
            obtain ⟨rfl, rfl⟩ := hy
            simpa using hc
          · simp at hy
        | _ => simp [fixPtr] at hy
      generalize hz : fixPtr bs (t s) = z at h
      by_cases hp : ∃ i o, z = .ptr i o
      · obtain ⟨i, o, rfl⟩ := hp
        simp [relab1] at h
        rw [← h.1]
        exact key _ i o hz
      · exact absurd h (relab1_noPtr (fun i o he => hp ⟨i, o, he⟩) id off)
    · exact cleanS_ptr r _ e he
theorem ofL_mem {α : Type} {z : α} : ∀ (l : List (Nat × α)) (i : Nat), ofL z l i = z ∨ ∃ e ∈ l, e.1 = i ∧ ofL z l i = e.2
  | [], i => .inl rfl
  | (j, v) :: r, i => by
    simp only [ofL]
    split
    · rename_i h; exact .inr ⟨(j, v), by simp, h.symm, rfl⟩
    · rcases ofL_mem r i with h | ⟨e, he, h1, h2⟩
      · exact .inl h
      · exact .inr ⟨e, List.mem_cons_of_mem _ he, h1, h2⟩
theorem keepBoxes_mem {boxes : Nat → Option Box} : ∀ (l : List (Nat × Option Nat)) (e : Nat × Box), e ∈ keepBoxes boxes l → boxes e.1 = some e.2 ∧ ∃ s ∈ l, e.1 = s.1 ∨ e.1 = s.1 + 500000
  | [], e, h => by simp [keepBoxes] at h
  | (s, g) :: r, e, h => by
    simp only [keepBoxes] at h
    have hr : e ∈ keepBoxes boxes r → boxes e.1 = some e.2 ∧ ∃ s' ∈ (s, g) :: r, e.1 = s'.1 ∨ e.1 = s'.1 + 500000 := fun h => by
      obtain ⟨h1, s', h2, h3⟩ := keepBoxes_mem r e h
      exact ⟨h1, s', List.mem_cons_of_mem _ h2, h3⟩
    split at h
    · rename_i b hb
      rcases List.mem_cons.1 h with rfl | h
      · exact ⟨hb, (s, g), by simp, .inl rfl⟩
      · exact hr h
    · rename_i b hb1 hb
      rcases List.mem_cons.1 h with rfl | h
      · exact ⟨hb, (s, g), by simp, .inr rfl⟩
      · exact hr h
    · exact hr h
theorem keepBoxes_nodup {boxes : Nat → Option Box} : ∀ (l : List (Nat × Option Nat)), (l.map (·.1)).Nodup → (∀ s ∈ l, s.1 < 500000) → ((keepBoxes boxes l).map (·.1)).Nodup
  | [], _, _ => by simp [keepBoxes]
  | (s, g) :: r, h, hs => by
    simp only [List.map_cons, List.nodup_cons] at h
    have ih := keepBoxes_nodup (boxes := boxes) r h.2 (fun s' h' => hs s' (List.mem_cons_of_mem _ h'))
    have hs0 := hs (s, g) (by simp)
    have hno : ∀ k, (k = s ∨ k = s + 500000) → k ∉ (keepBoxes boxes r).map (·.1) := fun k hk hm => by
      obtain ⟨e, he, heq⟩ := List.mem_map.1 hm
      obtain ⟨_, s', h2, h3⟩ := keepBoxes_mem r e he
      have hs' := hs s' (List.mem_cons_of_mem _ h2)
      have : s'.1 = s := by (simp only at hs0; omega)
      exact h.1 (List.mem_map.2 ⟨s', h2, this⟩)
    simp only [keepBoxes]
    split
    · exact List.nodup_cons.2 ⟨hno s (.inl rfl), ih⟩
    · exact List.nodup_cons.2 ⟨hno (s + 500000) (.inr rfl), ih⟩
    · exact ih

theorem clean_sound {N : Nat} {L : Keep} (hR : SR P N c w t m a) : ∃ c', SR P N c' w (clean L t m).1 (clean L t m).2 a ∧ Evo c.own w c'.own w ∧ Low c c' := by
  let bs := keepBoxes m.boxes L.slots
  have hM := hR.M
  have hmem : ∀ e ∈ bs, m.boxes e.1 = some e.2 := fun e he => (keepBoxes_mem L.slots e he).1
  have hndB : (bs.map (·.1)).Nodup := keepBoxes_nodup L.slots L.nd (fun s hs => by simpa using List.all_eq_true.1 L.small s hs)
  have hal : ∀ p q, m.names p q = some true → ∃ s, c.ν p q = .alive s := fun p q hn => by
    have := hM.names p q
    rw [hn] at this
    cases hs : c.ν p q with
    | unknown => rw [hs] at this; simp [statIs] at this
    | dead => rw [hs] at this; simp [statIs] at this
    | alive t => exact ⟨t, rfl⟩
  let valsI : Nat → List Value := fun i => blockVals w (c.ρ i)
  have hTLb : ∀ b ∈ bs, TL c w b.2 (valsI b.1) := fun b hb => box_TL hM (hmem b hb)
  have hnp : ∀ x ∈ cellsOfB bs, ∀ i o, x ≠ .ptr i o := by
    have : ∀ (l : List (Nat × Box)), (∀ b ∈ l, b ∈ bs) → ∀ x ∈ cellsOfB l, ∀ i o, x ≠ .ptr i o := by
      intro l
      induction l with
      | nil => intro _ x hx; simp [cellsOfB] at hx
      | cons b l ih =>
        intro hl x hx
        obtain ⟨bi, bb⟩ := b
        simp only [cellsOfB, List.mem_append] at hx
        rcases hx with hx | hx
        · exact box_noPtr hM (hmem (bi, bb) (hl (bi, bb) (by simp))) x hx
        · exact ih (fun e' he' => hl e' (List.mem_cons_of_mem _ he')) x hx
    exact this bs (fun _ h => h)
  obtain ⟨t1, hc1⟩ := relabB_chain (names := m.names) (nm := boxName) (grow := growOf L.cells) (vals := valsI) bs [] hTLb (fun x hx p q _ hn => hal p q hn)
  have hshape := relabB_shape (names := m.names) (nm := boxName) (grow := growOf L.cells) bs []
  have hnpB := relabB_noPtr (names := m.names) (nm := boxName) (grow := growOf L.cells) bs [] hnp
  have hcl : clean L t m = (ofL .undef (cleanS m.names bs t (relabB m.names boxName (growOf L.cells) [] bs).2 L.slots).1, { boxes := ofB (relabB m.names boxName (growOf L.cells) [] bs).1, names := namesOf (cellsOfB (relabB m.names boxName (growOf L.cells) [] bs).1 ++ (cleanS m.names bs t (relabB m.names boxName (growOf L.cells) [] bs).2 L.slots).1.map (·.2)), froz := m.froz }) := rfl
  rw [hcl]
  generalize hX : relabB m.names boxName (growOf L.cells) [] bs = X at *
  obtain ⟨t2, hc2⟩ := cleanS_chain (names := m.names) (bs := bs) hR.T hal L.slots X.2
  have hck := cleanS_keys (names := m.names) (bs := bs) (t := t) L.slots X.2
  have hcp := cleanS_ptr (names := m.names) (bs := bs) (t := t) L.slots X.2
  generalize hY : cleanS m.names bs t X.2 L.slots = Z at *
  have hch := hc1.append hc2
  have hnd : ((bs.flatMap fun (b : Nat × Box) => (List.range' 0 b.2.length).map (boxName b.1)) ++ L.slots.map fun (s : Nat × Option Nat) => (1000000 + s.1, 0)).Nodup := by
    rw [List.nodup_append]
    refine ⟨nodup_boxNames (nm := boxName) (fun i j i' j' h => by simp [boxName] at h; omega) bs hndB, ?_, fun p hp q hq he => ?_⟩
    · have h0 := L.nd
      have : (L.slots.map fun s => (1000000 + s.1, 0)) = (L.slots.map (·.1)).map fun s => (1000000 + s, 0) := by simp
      rw [this]
      exact List.Pairwise.map _ (fun a b h he => h (by simp at he; omega)) h0
    · subst he
      simp only [List.mem_flatMap, List.mem_map] at hp hq
      obtain ⟨b, _, j, _, rfl⟩ := hp
      obtain ⟨k, _, hk⟩ := hq
      simp [boxName] at hk
      omega
  let Y := cellsOfB X.1 ++ Z.1.map (·.2)
  let ts := t1 ++ t2
  let ρ' : Nat → Option Nat := fun i => if i ∈ bs.map (·.1) then c.ρ i else none
  let ν' := nuOf (fun _ _ => .unknown) Y ts
  have hkeysX : X.1.map (·.1) = bs.map (·.1) := by
    have := congrArg (List.map Prod.fst) hshape
    simpa [Function.comp_def] using this
  have hTLB : TL ⟨c.own, ρ', ν'⟩ w (cellsOfB X.1) (bs.flatMap fun b => valsI b.1) := by
    refine ⟨hc1.len.2.1, fun i y v hy hv => ?_⟩
    have hi : i < (cellsOfB X.1).length := by
      rcases Nat.lt_or_ge i (cellsOfB X.1).length with h' | h'
      · exact h'
      · simp [List.getElem?_eq_none, h'] at hy
    have hl := hc1.len
    obtain ⟨t, ht, hok⟩ := hch.ok i y v (by rw [List.getElem?_append_left hi]; exact hy) (by rw [List.getElem?_append_left (by omega)]; exact hv)
    exact (hok.sameN (ρ' := ρ') (fun _ _ h => h) (hnpB y (List.mem_of_getElem? hy))).T1 (fun p q hr => hch.nu hnd i y t (by rw [List.getElem?_append_left hi]; exact hy) ht p q hr)
  have hsplit : ∀ b ∈ X.1, TL ⟨c.own, ρ', ν'⟩ w b.2 (valsI b.1) := by
    refine TL_boxes X.1 ?_ (fun b hb => ?_)
    · have : (X.1.flatMap fun b => valsI b.1) = bs.flatMap fun b => valsI b.1 := by
        rw [← List.flatMap_map (f := Prod.fst) (g := valsI), ← List.flatMap_map (f := Prod.fst) (g := valsI), hkeysX]
      rw [this]; exact hTLB
    · have hm : (b.1, b.2.length) ∈ X.1.map fun b => (b.1, b.2.length) := List.mem_map.2 ⟨b, hb, rfl⟩
      rw [hshape] at hm
      obtain ⟨b0, hb0, he⟩ := List.mem_map.1 hm
      simp at he
      have := (hTLb b0 hb0).1
      rw [he.1] at this
      omega
  have hsrc : ∀ (i g en : Nat), ts[i]? = some (some (g, en)) → ∃ p q, c.ν p q = .alive (some (g, en)) := fun i g en hi => by
    obtain ⟨p, q, h1, _, _⟩ := hch.src i g en hi
    exact ⟨p, q, h1⟩
  have hρ' : ∀ i g, ρ' i = some g → i ∈ bs.map (·.1) ∧ c.ρ i = some g := fun i g h => by
    simp only [ρ'] at h
    split at h
    · rename_i hm; exact ⟨hm, h⟩
    · simp at h
  refine ⟨⟨c.own, ρ', ν'⟩, ⟨fun i => ?_, ⟨fun id => ?_, fun id bx g h1 h2 => ?_, fun id id' g h1 h2 => hM.inj _ _ _ (hρ' id g h1).2 (hρ' id' g h2).2, fun p q => ?_, fun p q g en h => ?_, fun p q p' q' g en en' h h' => ?_, fun p q g en id h hid => ?_, hM.lt⟩, hR.G, hR.defers, hR.size⟩, .refl _ _, fun id g _ h => (hρ' id g h).2⟩
  · rcases ofL_mem (z := AV.undef) Z.1 i with h | ⟨e, he, h1, h2⟩
    · show T _ w (ofL .undef Z.1 i) _
      rw [h]; exact .of_V (.undef _)
    · show T _ w (ofL .undef Z.1 i) _
      rw [h2]
      obtain ⟨k, hk, hke⟩ := List.mem_iff_getElem.1 he
      have hkl : k < L.slots.length := by have := congrArg List.length hck; simp at this; omega
      have hl1 := hc1.len
      have hsk : L.slots[k].1 = i := by
        have := congrArg (·[k]?) hck
        simp [hk, hkl] at this
        rw [← this, hke, h1]
      have hyk : Y[(cellsOfB X.1).length + k]? = some e.2 := by
        simp only [Y]
        rw [List.getElem?_append_right (by omega)]
        simp [hk, hke]
      have hvk : ((bs.flatMap fun b => valsI b.1) ++ L.slots.map fun s => a.tmps.getD s.1 undef)[(cellsOfB X.1).length + k]? = some (a.tmps.getD i undef) := by
        rw [List.getElem?_append_right (by omega)]
        rw [show (cellsOfB X.1).length + k - (bs.flatMap fun b => valsI b.1).length = k by omega]
        simp [hkl, hsk]
      obtain ⟨t0, ht0, hok⟩ := hch.ok _ _ _ hyk hvk
      refine .of_T1 ?_
      by_cases hp : ∃ id off, e.2 = .ptr id off
      · obtain ⟨id, off, hp⟩ := hp
        rw [hp] at hok ⊢
        obtain ⟨g, hg, hv⟩ := hok
        refine ⟨g, ?_, hv⟩
        show (if id ∈ bs.map (·.1) then c.ρ id else none) = some g
        rw [if_pos (hcp e he id off hp)]
        exact hg
      · exact (hok.sameN (ρ' := ρ') (fun _ _ h => h) (fun id off hq => hp ⟨id, off, hq⟩)).T1 (fun p q hr => hch.nu hnd _ _ _ hyk ht0 p q hr)
  · show (ofB X.1 id).isSome = (ρ' id).isSome
    have h1 := ofB_isSome X.1 id
    rw [hkeysX] at h1
    simp only [ρ']
    split
    · rename_i hm
      rw [h1.2 hm]
      obtain ⟨e, he, rfl⟩ := List.mem_map.1 hm
      have := hM.dom e.1
      rw [hmem e he] at this
      exact this
    · rename_i hm
      cases hb : (ofB X.1 id).isSome
      · rfl
      · exact absurd (h1.1 hb) hm
  · obtain ⟨hm, hg⟩ := hρ' id g h2
    obtain ⟨e, he, rfl⟩ := List.mem_map.1 hm
    obtain ⟨cs, el, k1, k2, k3, k4, k5⟩ := hM.box e.1 e.2 g (hmem e he) hg
    have hmX := ofB_mem X.1 e.1 bx h1
    have htl := hsplit (e.1, bx) hmX
    have hv : valsI e.1 = cs.toList := by
      simp only [valsI, hg]
      exact blockVals_eq k1
    simp only [hv] at htl
    refine ⟨cs, el, k1, by simpa using htl.1, fun j x v hx hv' => ⟨htl.2 j x v hx (by simpa using hv'), ?_, hnpB x (cells_mem hmX (List.mem_of_getElem? hx))⟩, k4, k5⟩
    have hj : j < e.2.length := by
      rw [← k2]
      rcases Nat.lt_or_ge j cs.size with h' | h'
      · exact h'
      · simp [h'] at hv'
    exact (k3 j e.2[j] v (by simp [hj]) hv').2.1
  · show statIs (nuOf (fun _ _ => .unknown) Y ts p q) (namesOf Y p q)
    rw [← addNames_none]
    exact nuOf_names (base := fun _ _ => .unknown) (names := fun _ _ => none) (fun _ _ => rfl) _ _ hch.len.2.2 p q
  · rcases nuOf_alive _ ts p q _ h with ⟨i, y, h1, h2, h3⟩ | ⟨_, h2⟩
    · obtain ⟨p', q', hs⟩ := hsrc i g en h3
      exact hM.tip p' q' g en hs
    · simp at h2
  · rcases nuOf_alive _ ts p q _ h with ⟨i, y, h1, h2, h3⟩ | ⟨_, h2⟩
    · rcases nuOf_alive _ ts p' q' _ h' with ⟨i', y', h1', h2', h3'⟩ | ⟨_, h2'⟩
      · obtain rfl := hch.inj hM.tipInj i i' g en en' h3 h3'
        rw [h1] at h1'; simp at h1'; subst h1'
        rw [h2] at h2'; simpa using h2'
      · simp at h2'
    · simp at h2
  · rcases nuOf_alive _ ts p q _ h with ⟨i, y, h1, h2, h3⟩ | ⟨_, h2⟩
    · obtain ⟨p', q', hs⟩ := hsrc i g en h3
      exact hM.tipBox _ _ _ _ _ hs (hρ' id g hid).2
    · simp at h2
end
end Ev
