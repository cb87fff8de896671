/- The canonical spelling of a text, and all symbols, are as specified, for every text (row and tied card of the law TokensSpellings). Conditions: the listed variables of Go's library read as the program's text lays them, tied by the given tie. -/
import Derived.Test.YtlmmgblghgmgeaaGreatDoorLaid
import Derived.Test.YtlmmgblghgmgeaaGreatDoorLawSpell
import Derived.Test.YtlmmgblghgmgeaaGreatDoorCards
namespace Go.Proofs.YtlmmgblghgmgeaaGreatDoor
open Go Ev Go.ChangeShapes Go.WideShapes Go.ChangeAt Go.RowKit
set_option maxRecDepth 100000

/-- The call, in whatever memory. -/
theorem spell_calls {W : World} (l : Str) (hG : Gl Tryz.prog noOwn W) :
    Calls Tryz.prog 7 #[.string ⟨l.toArray⟩] W fun e W' => e = .returned (.bool true) ∧ Below W.heap.size W W' := by
  refine ((spell_sim l).calls hG rfl fun i y u hy hu => ?_).mono ?_
  · match i with
    | 0 => simp at hy hu; subst hy; subst hu; exact .of_V (.str _)
    | i + 1 => simp at hy
  · rintro e W' ⟨u, own, rfl, hb, c', _, hT⟩
    exact ⟨by rw [T_bool hT], hb⟩

theorem liftedSpell (os : Os) (started : os.Started) (H : Type) (enc : TypeId × Value → H) :
    ReturnsInHanded {} Tryz.checked os 7 .any (fun w args => (Rows.tokensSpellingsSpec.pre enc Tryz.prog Tryz.f7 Rows.tokensSpellingsRow.domain false w args ∧ laidMetH Tryz.prog Rows.tokensSpellingsRow.laid w) ∧ sizedMet enc Tryz.prog Tryz.f7 (OpenSpec.ofChange Rows.tokensSpellingsSpec) false w args)
      (Rows.tokensSpellingsSpec.post enc Tryz.prog Tryz.f7 false true false false) := by
  refine returnsInHanded_of_change_and (C := Tryz.checked) (X := fun w _ => laidMetH Tryz.prog laidL w) (fun _ _ _ hh h => h.of_heap hh) ownKnobs started (by kernel_rfl) Tryz.func7
    (ChangeSpec.witness_shaped (enc := enc) (C := Tryz.checked) (os := os) (X := fun w _ => laidMetH Tryz.prog laidL w) false (World.laidAll Tryz.prog os laidL) #[.string ⟨#[]⟩] 8 (World.laidAll_os _ _ _)
      (World.shaped_of_ZipB (by kernel_rfl) (by kernel_rfl)) (by kernel_rfl) (by kernel_rfl) (by kernel_rfl)
      (by rw [laid_plain]; exact laidMet_laidAll _ (by kernel_rfl) (by kernel_rfl))) ?_
  intro W base args ds gs before hval0 hW _ hsz0 hL _
  have hval : ∀ (j : Nat) t v, Tryz.f7.params[j]? = some t → args[j]? = some v → Value.okWide Tryz.prog W .any base t v := hval0
  have hW' := hW
  obtain ⟨p, q, hA0, hV, rfl, hfz, hnd⟩ := hW
  have hA : DataW.TrodAll enc Tryz.prog W 0 (fun _ => true) true Tryz.f7.params.toList args.toList ds p := hA0
  rw [Tryz.params7] at hA hval
  obtain ⟨v0, vs0, d0, ds0, p0, q0, hargs, rfl, rfl, h0, r0⟩ := trodAll_cons hA
  obtain ⟨rfl, rfl, rfl⟩ := trodAll_nil r0
  obtain rfl : args = #[v0] := by cases args; simp_all
  obtain ⟨rfl, rfl⟩ := trodVars_none hV
  have k0 := h0
  have lt0 : ∀ x ∈ p0, x.block < W.heap.size := by obtain ⟨m, hm⟩ := k0; exact DataW.trod_lt m _ _ _ hm
  obtain ⟨sb, rfl⟩ := okWide_string under_string (hval 0 9 v0 rfl rfl)
  obtain ⟨l, rfl⟩ : ∃ l : Str, sb = ⟨l.toArray⟩ := ⟨sb.data.toList, by simp⟩
  clear hA0 hval0 hsz0
  refine (spell_calls l (gl_of_laid hL)).mono fun e W' ⟨he, bel⟩ => ?_
  subst he
  exact ⟨_, rfl, _, _, _, [], _, [], hW', trodAll_mk1 (shut_bool Tryz.underlying4 _), (trodAll_cons_mk (Below.trod laidOuts (by kernel_rfl) (of_decide_eq_true (by kernel_rfl)) k0 bel lt0) trodAll_mk0), rfl, bel.frame _, fun h => by cases h⟩
theorem rowSpell_holds : Rows.TokensSpellingsSaid :=
  OpenClaim.holds_of_wide 7 Tryz.f7 rfl rfl rfl rfl rfl rfl rfl ⟨rfl, rfl, rfl, rfl, rfl⟩ rfl rfl rfl rfl rfl (by kernel_rfl) Tryz.func7 (by kernel_rfl)
    (of_decide_eq_true (by kernel_rfl)) (by unfold Func.isWrapper; first | (rw [if_pos (by decide +kernel)]; kernel_rfl) | (rw [if_neg (by decide +kernel)]; exact ⟨rfl, rfl⟩))
    (fun os started H enc _ => liftedSpell os started H enc)
theorem tokensSpellings_card : Rows.TokensSpellingsCardSaid :=
  Claim7.holds_tied_plain_at .later [] [.data, .listed, .data, .pinned] true (true, "82b6df560e3e66ff26c5ae73ac5a80ec1f39ec9e1c257a58c49eb3a81994e024") false rowSpell_holds (fun _ h => by cases h) (by kernel_rfl) (fun _ h => by cases h) tokensSpellings_row_tie rfl ⟨rfl, rfl⟩ (by kernel_rfl) rfl
    (fun f fn hf hfn => by
      obtain rfl : f = 7 := Option.some.inj ((show Tryz.prog.funcNamed "stutter/stutterlaw01.TokensSpellings" = some 7 by kernel_rfl).symm.trans hf) |>.symm
      obtain rfl : fn = Tryz.f7 := (Option.some.inj (Tryz.func7.symm.trans hfn)).symm
      exact ⟨by kernel_rfl, fun j t ht => by
        rw [Tryz.params7] at ht
        have hm : t ∈ [9] := by
          have := Array.mem_of_getElem? ht
          simpa using this
        have hall : ([9].all fun u => !Tryz.prog.wantsStandIn u) = true := by kernel_rfl
        exact (show Tryz.prog.wantsStandIn t = false by simpa using List.all_eq_true.1 hall t hm)⟩)
    (by kernel_rfl)
#print axioms tokensSpellings_card
end Go.Proofs.YtlmmgblghgmgeaaGreatDoor
