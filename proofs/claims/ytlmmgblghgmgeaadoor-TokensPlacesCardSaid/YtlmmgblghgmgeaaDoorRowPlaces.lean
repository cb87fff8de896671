/- Each token of a text stands at its place, tokens ascend, each is accepted, and between them stand only blanks and comments, for every list of texts (row and tied card of the law TokensPlaces). Conditions: the listed variables of Go's library read as the program's text lays them, tied by the given tie. -/
import Derived.Test.YtlmmgblghgmgeaaDoorLaid
import Derived.Test.YtlmmgblghgmgeaaDoorLawPlaces
import Derived.Test.YtlmmgblghgmgeaaDoorCards
namespace Go.Proofs.YtlmmgblghgmgeaaDoor
open Go Ev Go.ChangeShapes Go.WideShapes Go.ChangeAt Go.RowKit

/-- The call, in whatever memory its argument lies. -/
theorem places_calls {W : World} {v : Value} {l : List Str} (hl : l.length < 2 ^ 62) (hG : Gl Tryd.prog noOwn W) (hv : V noOwn W (.sl 1 (strs l) .none) v) :
    Calls Tryd.prog 4 #[v] W fun e W' => e = .returned (.bool true) ∧ Below W.heap.size W W' := by
  refine ((places_sim l hl).calls hG rfl fun i y u hy hu => ?_).mono ?_
  · cases i with
    | zero => simp at hy hu; subst hy; subst hu; exact .of_V hv
    | succ i => simp at hy
  · rintro e W' ⟨u, own, rfl, hb, c', _, hT⟩
    exact ⟨by rw [T_bool hT], hb⟩

set_option maxRecDepth 100000 in
theorem liftedPlaces (os : Os) (started : os.Started) (H : Type) (enc : TypeId × Value → H) :
    ReturnsInHanded {} Tryd.checked os 4 .any (fun w args => (Rows.tokensPlacesSpec.pre enc Tryd.prog Tryd.f4 Rows.tokensPlacesRow.domain false w args ∧ laidMetH Tryd.prog Rows.tokensPlacesRow.laid w) ∧ sizedMet enc Tryd.prog Tryd.f4 (OpenSpec.ofChange Rows.tokensPlacesSpec) false w args)
      (Rows.tokensPlacesSpec.post enc Tryd.prog Tryd.f4 false true false false) := by
  refine returnsInHanded_of_change_and (C := Tryd.checked) (X := fun w _ => laidMetH Tryd.prog laidL w) (fun _ _ _ hh h => h.of_heap hh) ownKnobs started (by kernel_rfl) Tryd.func4
    (ChangeSpec.witness_shaped (enc := enc) (C := Tryd.checked) (os := os) (X := fun w _ => laidMetH Tryd.prog laidL w) false (World.laidAll Tryd.prog os laidL) #[.slice none 0 0] 8 (World.laidAll_os _ _ _)
      (World.shaped_of_ZipB (by kernel_rfl) (by kernel_rfl)) (by kernel_rfl) (by kernel_rfl) (by kernel_rfl)
      (by rw [laid_plain]; exact laidMet_laidAll _ (by kernel_rfl) (by kernel_rfl))) ?_
  intro W base args ds gs before hval0 hW _ hsz0 hL _
  have hsz : (DataW.weightsEach Tryd.prog (Tryd.f4.params.toList ++ Rows.tokensPlacesSpec.plain.varTypes Tryd.prog) (ds ++ gs)).all (· ≤ reachBytes) = true := hsz0
  have hval : ∀ (j : Nat) t v, Tryd.f4.params[j]? = some t → args[j]? = some v → Value.okWide Tryd.prog W .any base t v := hval0
  have hW' := hW
  obtain ⟨p, q, hA0, hV, rfl, hfz, hnd⟩ := hW
  have hA : DataW.TrodAll enc Tryd.prog W 0 (fun _ => true) true Tryd.f4.params.toList args.toList ds p := hA0
  rw [Tryd.params4] at hA hval hsz
  obtain ⟨v0, vs0, d0, ds0, p0, q0, hargs, rfl, rfl, h0, r0⟩ := trodAll_cons hA
  obtain ⟨rfl, rfl, rfl⟩ := trodAll_nil r0
  obtain rfl : args = #[v0] := by cases args; simp_all
  obtain ⟨rfl, rfl⟩ := trodVars_none hV
  have k0 := h0
  have lt0 : ∀ x ∈ p0, x.block < W.heap.size := by obtain ⟨m, hm⟩ := k0; exact DataW.trod_lt m _ _ _ hm
  obtain ⟨a0, len0, cap0, rfl⟩ := okWide_slice Tryd.underlying22 (hval 0 22 v0 rfl rfl)
  obtain ⟨l, hl, hv⟩ : ∃ l : List Str, l.length < 2 ^ 62 ∧ V noOwn W (.sl 1 (strs l) .none) (.slice a0 len0 cap0) := by
    obtain ⟨fuel, hf⟩ := h0
    rcases open_strings Tryd.underlying22 Tryd.underlying9 (by kernel_rfl) hf with ⟨hcs, _⟩ | ⟨a, len, cap, ss, hcs, _, hle, hm, hz, hx, hcell, _⟩
    · simp [Value.cells] at hcs
      obtain ⟨rfl, rfl, rfl⟩ := hcs
      exact ⟨[], by simp, V_noStrings⟩
    · simp [Value.cells] at hcs
      obtain ⟨rfl, rfl, rfl⟩ := hcs
      have hz' : len0 ≤ ss.length := by rw [hz]; simpa using hle
      refine ⟨_, ?_, V_strings hle hz' hcell⟩
      simp only [List.length_map, List.length_take]
      have hd := (Prod.mk.inj hx).1
      have z := sized_slice hsz (j := 0) rfl (congrArg some hd) Tryd.underlying22
      rw [show Tryd.prog.bytesOf 9 = 16 from by kernel_rfl] at z
      simp only [ChangeShapes.strs, List.length_map, List.length_take, List.length_drop, reachBytes] at z
      omega
  clear hA0 hval0 hsz0
  refine (places_calls hl (gl_of_laid hL) hv).mono fun e W' ⟨he, bel⟩ => ?_
  subst he
  exact ⟨_, rfl, _, _, _, [], _, [], hW', trodAll_mk1 (shut_bool Tryd.underlying4 _), (trodAll_cons_mk (Below.trod laidOuts (by kernel_rfl) (of_decide_eq_true (by kernel_rfl)) k0 bel lt0) trodAll_mk0), rfl, bel.frame _, fun h => by cases h⟩
theorem rowPlaces_holds : Rows.TokensPlacesSaid :=
  OpenClaim.holds_of_wide 4 Tryd.f4 rfl rfl rfl rfl rfl rfl rfl ⟨rfl, rfl, rfl, rfl, rfl⟩ rfl rfl rfl rfl rfl (by kernel_rfl) Tryd.func4 (by kernel_rfl)
    (of_decide_eq_true (by kernel_rfl)) (by unfold Func.isWrapper; first | (rw [if_pos (by decide +kernel)]; kernel_rfl) | (rw [if_neg (by decide +kernel)]; exact ⟨rfl, rfl⟩))
    (fun os started H enc _ => liftedPlaces os started H enc)
theorem tokensPlaces_card : Rows.TokensPlacesCardSaid :=
  Claim7.holds_tied_plain_at .later [] [.data, .listed, .data, .pinned] true (true, "fbcbc49a88176a00390bdef52103d4c0f1f3ad0bc5ef0a4ff4dd14e0572be1d1") false rowPlaces_holds (fun _ h => by cases h) (by kernel_rfl) (fun _ h => by cases h) tokensPlaces_row_tie rfl ⟨rfl, rfl⟩ (by kernel_rfl) rfl
    (fun f fn hf hfn => by
      obtain rfl : f = 4 := Option.some.inj ((show Tryd.prog.funcNamed "stutter/stutterlaw01.TokensPlaces" = some 4 by kernel_rfl).symm.trans hf) |>.symm
      obtain rfl : fn = Tryd.f4 := (Option.some.inj (Tryd.func4.symm.trans hfn)).symm
      exact ⟨by kernel_rfl, fun j t ht => by
        rw [Tryd.params4] at ht
        have hm : t ∈ [22] := by simpa using Array.mem_of_getElem? ht
        have hall : ([22].all fun u => !Tryd.prog.wantsStandIn u) = true := by kernel_rfl
        exact (show Tryd.prog.wantsStandIn t = false by simpa using List.all_eq_true.1 hall t hm)⟩)
    (by kernel_rfl)
#print axioms tokensPlaces_card
end Go.Proofs.YtlmmgblghgmgeaaDoor
