/- A text without its comments, its tokens printed at their places, and joined, are read again as the same tokens, for every list of texts (row and tied card of the law TokensAgain). Conditions: the listed variables of Go's library read as the program's text lays them, tied by the given tie. -/
import Derived.Test.YtlmmgblghgmgeaaGreatDoorNas
import Derived.Test.YtlmmgblghgmgeaaGreatDoorNar
import Derived.Test.YtlmmgblghgmgeaaGreatDoorCards
namespace Go.Proofs.YtlmmgblghgmgeaaGreatDoor
open Go Ev Go.ChangeShapes Go.WideShapes Go.ChangeAt Go.RowKit

/-- The call, in whatever memory its argument lies. -/
theorem again_calls {W : World} {v : Value} {l : List Str} (hl : l.length < 2 ^ 62) (hG : Gl Tryz.prog noOwn W) (hv : V noOwn W (.sl 1 (strs l) .none) v) :
    Calls Tryz.prog 6 #[v] W fun e W' => e = .returned (.bool true) ∧ Below W.heap.size W W' := by
  refine ((again_sim l hl).calls hG rfl fun i y u hy hu => ?_).mono ?_
  · cases i with
    | zero => simp at hy hu; subst hy; subst hu; exact .of_V hv
    | succ i => simp at hy
  · rintro e W' ⟨u, own, rfl, hb, c', _, hT⟩
    exact ⟨by rw [T_bool hT], hb⟩

set_option maxRecDepth 100000 in
theorem liftedAgain (os : Os) (started : os.Started) (H : Type) (enc : TypeId × Value → H) :
    ReturnsInHanded {} Tryz.checked os 6 .any (fun w args => (Rows.tokensAgainSpec.pre enc Tryz.prog Tryz.f6 Rows.tokensAgainRow.domain false w args ∧ laidMetH Tryz.prog Rows.tokensAgainRow.laid w) ∧ sizedMet enc Tryz.prog Tryz.f6 (OpenSpec.ofChange Rows.tokensAgainSpec) false w args)
      (Rows.tokensAgainSpec.post enc Tryz.prog Tryz.f6 false true false false) := by
  refine returnsInHanded_of_change_and (C := Tryz.checked) (X := fun w _ => laidMetH Tryz.prog laidL w) (fun _ _ _ hh h => h.of_heap hh) ownKnobs started (by kernel_rfl) Tryz.func6
    (ChangeSpec.witness_shaped (enc := enc) (C := Tryz.checked) (os := os) (X := fun w _ => laidMetH Tryz.prog laidL w) false (World.laidAll Tryz.prog os laidL) #[.slice none 0 0] 8 (World.laidAll_os _ _ _)
      (World.shaped_of_ZipB (by kernel_rfl) (by kernel_rfl)) (by kernel_rfl) (by kernel_rfl) (by kernel_rfl)
      (by rw [laid_plain]; exact laidMet_laidAll _ (by kernel_rfl) (by kernel_rfl))) ?_
  intro W base args ds gs before hval0 hW _ hsz0 hL _
  have hsz : (DataW.weightsEach Tryz.prog (Tryz.f6.params.toList ++ Rows.tokensAgainSpec.plain.varTypes Tryz.prog) (ds ++ gs)).all (· ≤ reachBytes) = true := hsz0
  have hval : ∀ (j : Nat) t v, Tryz.f6.params[j]? = some t → args[j]? = some v → Value.okWide Tryz.prog W .any base t v := hval0
  have hW' := hW
  obtain ⟨p, q, hA0, hV, rfl, hfz, hnd⟩ := hW
  have hA : DataW.TrodAll enc Tryz.prog W 0 (fun _ => true) true Tryz.f6.params.toList args.toList ds p := hA0
  rw [Tryz.params6] at hA hval hsz
  obtain ⟨v0, vs0, d0, ds0, p0, q0, hargs, rfl, rfl, h0, r0⟩ := trodAll_cons hA
  obtain ⟨rfl, rfl, rfl⟩ := trodAll_nil r0
  obtain rfl : args = #[v0] := by cases args; simp_all
  obtain ⟨rfl, rfl⟩ := trodVars_none hV
  have k0 := h0
  have lt0 : ∀ x ∈ p0, x.block < W.heap.size := by obtain ⟨m, hm⟩ := k0; exact DataW.trod_lt m _ _ _ hm
  obtain ⟨a0, len0, cap0, rfl⟩ := okWide_slice Tryz.underlying31 (hval 0 31 v0 rfl rfl)
  obtain ⟨l, hl, hv⟩ : ∃ l : List Str, l.length < 2 ^ 62 ∧ V noOwn W (.sl 1 (strs l) .none) (.slice a0 len0 cap0) := by
    obtain ⟨fuel, hf⟩ := h0
    rcases open_strings Tryz.underlying31 Tryz.underlying9 (by kernel_rfl) hf with ⟨hcs, _⟩ | ⟨a, len, cap, ss, hcs, _, hle, hm, hz, hx, hcell, _⟩
    · simp [Value.cells] at hcs
      obtain ⟨rfl, rfl, rfl⟩ := hcs
      exact ⟨[], by simp, V_noStrings⟩
    · simp [Value.cells] at hcs
      obtain ⟨rfl, rfl, rfl⟩ := hcs
      have hz' : len0 ≤ ss.length := by rw [hz]; simpa using hle
      refine ⟨_, ?_, V_strings hle hz' hcell⟩
      simp only [List.length_map, List.length_take]
      have hd := (Prod.mk.inj hx).1
      have z := sized_slice hsz (j := 0) rfl (congrArg some hd) Tryz.underlying31
      rw [show Tryz.prog.bytesOf 9 = 16 from by kernel_rfl] at z
      simp only [ChangeShapes.strs, List.length_map, List.length_take, List.length_drop, reachBytes] at z
      omega
  clear hA0 hval0 hsz0
  refine (again_calls hl (gl_of_laid hL) hv).mono fun e W' ⟨he, bel⟩ => ?_
  subst he
  exact ⟨_, rfl, _, _, _, [], _, [], hW', trodAll_mk1 (shut_bool Tryz.underlying4 _), (trodAll_cons_mk (Below.trod laidOuts (by kernel_rfl) (of_decide_eq_true (by kernel_rfl)) k0 bel lt0) trodAll_mk0), rfl, bel.frame _, fun h => by cases h⟩
theorem rowAgain_holds : Rows.TokensAgainSaid :=
  OpenClaim.holds_of_wide 6 Tryz.f6 rfl rfl rfl rfl rfl rfl rfl ⟨rfl, rfl, rfl, rfl, rfl⟩ rfl rfl rfl rfl rfl (by kernel_rfl) Tryz.func6 (by kernel_rfl)
    (of_decide_eq_true (by kernel_rfl)) (by unfold Func.isWrapper; first | (rw [if_pos (by decide +kernel)]; kernel_rfl) | (rw [if_neg (by decide +kernel)]; exact ⟨rfl, rfl⟩))
    (fun os started H enc _ => liftedAgain os started H enc)
theorem tokensAgain_card : Rows.TokensAgainCardSaid :=
  Claim7.holds_tied_plain_at .later [] [.data, .listed, .data, .pinned] true (true, "82b6df560e3e66ff26c5ae73ac5a80ec1f39ec9e1c257a58c49eb3a81994e024") false rowAgain_holds (fun _ h => by cases h) (by kernel_rfl) (fun _ h => by cases h) tokensAgain_row_tie rfl ⟨rfl, rfl⟩ (by kernel_rfl) rfl
    (fun f fn hf hfn => by
      obtain rfl : f = 6 := Option.some.inj ((show Tryz.prog.funcNamed "stutter/stutterlaw01.TokensAgain" = some 6 by kernel_rfl).symm.trans hf) |>.symm
      obtain rfl : fn = Tryz.f6 := (Option.some.inj (Tryz.func6.symm.trans hfn)).symm
      exact ⟨by kernel_rfl, fun j t ht => by
        rw [Tryz.params6] at ht
        have hm : t ∈ [31] := by simpa using Array.mem_of_getElem? ht
        have hall : ([31].all fun u => !Tryz.prog.wantsStandIn u) = true := by kernel_rfl
        exact (show Tryz.prog.wantsStandIn t = false by simpa using List.all_eq_true.1 hall t hm)⟩)
    (by kernel_rfl)
#print axioms tokensAgain_card
end Go.Proofs.YtlmmgblghgmgeaaGreatDoor
