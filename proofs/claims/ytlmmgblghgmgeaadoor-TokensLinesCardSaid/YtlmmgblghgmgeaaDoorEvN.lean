/- A verified evaluator, part N: calls of functions that only read. -/
import Derived.Test.YtlmmgblghgmgeaaDoorEvM
set_option linter.unusedVariables false
set_option linter.unusedSimpArgs false
namespace Ev
open Go
section
variable {P : Program} {c : Cfg} {w : World} {m m' : Mem} {t : Tmps} {a : Act} {C : Oracle} {ro : FuncId → Bool} {D : Option (List Nat)} {d : Nat} {x : AV}

theorem scalar_V {x : AV} {own own' : Own} {w w' : World} {v : Value} (hx : x.scalar = true) (h : V own w x v) : V own' w' x v := by
  cases h <;> first | exact .bool _ | exact .int _ _ | exact .str _ | simp [AV.scalar] at hx
theorem T1_scalar {x : AV} {c : Cfg} {w : World} {v : Value} (hx : x.scalar = true) (h : T1 c w x v) : V c.own w x v := by
  cases x <;> first | exact h | simp [AV.scalar] at hx
theorem scalarR_T {r : AV} {c c' : Cfg} {w w' : World} {v : Value} (hr : scalarR r = true) (h : T c w r v) : T c' w' r v := by
  cases r with
  | tup xs =>
    obtain ⟨vs, rfl, h1, h2⟩ := h
    refine ⟨vs, rfl, h1, fun i x u hx hu => ?_⟩
    have hs := List.all_eq_true.1 hr x (List.mem_of_getElem? hx)
    exact .of_V (scalar_V hs (T1_scalar hs (h2 i x u hx hu)))
  | agg xs =>
    obtain ⟨us, rfl, h1, h2, h3⟩ := T_agg h
    refine .of_V (.agg _ _ h1 (fun j x u hx hu => ?_) h3)
    have hs := List.all_eq_true.1 hr x (List.mem_of_getElem? hx)
    exact scalar_V hs (h2 j x u hx hu)
  | bool b => exact .of_V (scalar_V hr (show V c.own w _ v from h))
  | int k n => exact .of_V (scalar_V hr (show V c.own w _ v from h))
  | str s => exact .of_V (scalar_V hr (show V c.own w _ v from h))
  | _ => simp [scalarR, AV.scalar] at hr

theorem viewed_spec {boxes : Nat → Option Box} : ∀ (args vs : List AV), viewed boxes args = some vs → vs.length = args.length ∧
    ∀ (i : Nat) (x y : AV), args[i]? = some x → vs[i]? = some y → (∃ id off b, x = .ptr id off ∧ id ∈ capIds args ∧ boxes id = some b ∧ y = .eptr ((b.drop off).map AV.bare)) ∨ ((∀ id off, x ≠ .ptr id off) ∧ y = x.bare)
  | [], vs, h => by simp [viewed] at h; subst h; simp
  | x :: r, vs, h => by
    by_cases hx : ∃ id off, x = .ptr id off
    · obtain ⟨id, off, rfl⟩ := hx
      simp only [viewed] at h
      cases hb : boxes id with
      | none => simp [hb] at h
      | some b =>
        cases hr : viewed boxes r with
        | none => simp [hb, hr] at h
        | some us =>
          simp only [hb, hr, Option.some.injEq] at h
          subst h
          obtain ⟨h1, h2⟩ := viewed_spec r us hr
          refine ⟨by simp [h1], fun i y z hy hz => ?_⟩
          cases i with
          | zero =>
            simp only [List.getElem?_cons_zero, Option.some.injEq] at hy hz
            subst hy; subst hz
            exact .inl ⟨id, off, b, rfl, by simp [capIds], hb, rfl⟩
          | succ i =>
            rcases h2 i y z (by simpa using hy) (by simpa using hz) with ⟨i', o', b', e1, e2, e3, e4⟩ | h5
            · exact .inl ⟨i', o', b', e1, by simp [capIds, e2], e3, e4⟩
            · exact .inr h5
    · have hc : viewed boxes (x :: r) = (viewed boxes r).map (x.bare :: ·) := by
        cases x <;> first | rfl | exact absurd ⟨_, _, rfl⟩ hx
      have hi : capIds (x :: r) = capIds r := by
        cases x <;> first | rfl | exact absurd ⟨_, _, rfl⟩ hx
      rw [hc] at h
      cases hr : viewed boxes r with
      | none => simp [hr] at h
      | some us =>
        simp only [hr, Option.map_some, Option.some.injEq] at h
        subst h
        obtain ⟨h1, h2⟩ := viewed_spec r us hr
        rw [hi]
        refine ⟨by simp [h1], fun i y z hy hz => ?_⟩
        cases i with
        | zero =>
          simp only [List.getElem?_cons_zero, Option.some.injEq] at hy hz
          subst hy; subst hz
          exact .inr ⟨fun id off he => hx ⟨id, off, he⟩, rfl⟩
        | succ i => exact h2 i y z (by simpa using hy) (by simpa using hz)

theorem acall_ro {f : FuncId} {args as : List AV} {r : AV} {vs : Array Value} (hM : MemRel c m w) (hG : Gl P c.own w) (hv : viewed m.boxes args = some as) (hC : SimCall P f as [] r []) (hs : scalarR r = true) (hsz : vs.size = args.length)
    (hargs : ∀ (i : Nat) (x : AV) (v : Value), args[i]? = some x → vs[i]? = some v → T c w x v) :
    Calls P f vs w fun e w' => ∃ v, e = .returned v ∧ Post c w m r v w' := by
  obtain ⟨hl, hvs⟩ := viewed_spec _ _ hv
  let B : Nat → Prop := fun g => ∃ id ∈ capIds args, c.ρ id = some g
  let o0 : Own := ⟨fun _ _ => False, fun g off => c.own.N g off ∧ ¬ B g, fun _ _ h => h.elim⟩
  let c0 : Cfg := ⟨o0, fun _ => none, fun _ _ => .unknown⟩
  have hN0 : ∀ g off, o0.N g off → c.own.N g off := fun _ _ h => h.1
  have hM0 : MemRel c0 { boxes := ofB [], names := namesOf (cellsOfB []) } w :=
    ⟨fun id => rfl, fun id bx g h => by simp [ofB] at h, fun id id' g h => by simp [c0] at h, fun p q => rfl, fun p q g e h => by simp [c0] at h, fun p q p' q' g e e' h => by simp [c0] at h, fun p q g e id h => by simp [c0] at h, fun g off h => hM.lt g off h.1⟩
  refine (hC.2 c0 w vs hM0 (hG.weaker hN0) (by omega) fun i y v hy hv => ?_).mono ?_
  · have hi : i < args.length := by
      rcases Nat.lt_or_ge i as.length with h' | h'
      · omega
      · simp [List.getElem?_eq_none, h'] at hy
    have hx : args[i]? = some args[i] := by simp [hi]
    rcases hvs i _ y hx hy with ⟨id, off, b, e1, e2, e3, rfl⟩ | ⟨_, rfl⟩
    · have hp := hargs i _ v hx hv
      rw [e1] at hp
      obtain ⟨g, hr, hpv⟩ := T_ptr hp
      subst hpv
      obtain ⟨cv, hcv⟩ := box_cells hM e3 hr
      have hb : ∀ (j : Nat) (y : AV), ((b.drop off).map AV.bare)[j]? = some y → ∃ y0, b[off + j]? = some y0 ∧ y = y0.bare := fun j y hy => by
        simp only [List.getElem?_map, List.getElem?_drop, Option.map_eq_some_iff] at hy
        obtain ⟨y0, h1, h2⟩ := hy
        exact ⟨y0, h1, h2.symm⟩
      refine .of_V (.eptr _ _ (fun j => cv (off + j)) (fun j y hy => ?_) (fun j y hy => ?_) (fun j y hy => ?_))
      · obtain ⟨y0, hy0, rfl⟩ := hb j y hy
        have := (hcv _ _ hy0).1
        rw [add_plain] at this ⊢
        simp only [Nat.zero_add] at this
        exact ⟨this, fun hn => hn.2 ⟨id, e2, hr⟩⟩
      · obtain ⟨y0, hy0, rfl⟩ := hb j y hy
        exact ((hcv _ _ hy0).2.1.bare).sameN hN0
      · obtain ⟨y0, hy0, rfl⟩ := hb j y hy
        exact (hcv _ _ hy0).2.2
    · exact .of_V (((hargs i _ v hx hv).bare).sameN hN0)
  · rintro e w' ⟨v, c1, rfl, ev, hM1, hρ1, hT⟩
    have hW0 : ∀ g off, ¬ o0.W g off := fun _ _ h => h
    have e2 : Evo c.own w c.own w' := ⟨ev.size, fun g cs el fr h => ⟨cs, ev.same h (hW0 g), rfl, fun _ _ => rfl⟩, ev.other, fun _ _ _ h => h, fun _ _ _ h => h, fun _ _ _ h _ => h, ev.os, ev.tape, ev.output⟩
    exact ⟨v, rfl, c, e2, .refl _, hM.mono e2 rfl rfl (fun _ _ _ h => h) (fun id g _ cs el h => ev.same h (hW0 g)) (fun g off h => Nat.lt_of_lt_of_le (hM.lt g off h) ev.size), scalarR_T hs hT⟩
end
end Ev
