/- Tokens printed at their places, and joined, are as specified, for every list of tokens (row and tied card of the law TokensPrints). Conditions: the listed variables of Go's library read as the program's text lays them, tied by the given tie. -/
import Derived.Test.YtlmmgblghgmgeaaGreatDoorMbg
import Derived.Test.YtlmmgblghgmgeaaGreatDoorMbd
import Derived.Test.YtlmmgblghgmgeaaGreatDoorMbe
import Derived.Test.YtlmmgblghgmgeaaGreatDoorCards
namespace Go.Proofs.YtlmmgblghgmgeaaGreatDoor
open Go Ev Go.ChangeShapes Go.WideShapes Go.ChangeAt Go.RowKit

theorem law_sim (l : List Tk) (hl : l.length < 2 ^ 62) : SimCall Tryz.prog 5 [.sl 4 (l.map tkC) .none] [] (.bool true) [] :=
  prints_sim l hl fun h => jt_sim l (fewT_small h).1 (fewT_small h).2
/-- The call, in whatever memory its argument lies. -/
theorem prints_calls {W : World} {v : Value} {l : List Tk} (hl : l.length < 2 ^ 62) (hG : Gl Tryz.prog noOwn W) (hv : V noOwn W (.sl 4 (l.map tkC) .none) v) :
    Calls Tryz.prog 5 #[v] W fun e W' => e = .returned (.bool true) ∧ Below W.heap.size W W' := by
  refine ((law_sim l hl).calls hG rfl fun i y u hy hu => ?_).mono ?_
  · cases i with
    | zero => simp at hy hu; subst hy; subst hu; exact .of_V hv
    | succ i => simp at hy
  · rintro e W' ⟨u, own, rfl, hb, c', _, hT⟩
    exact ⟨by rw [T_bool hT], hb⟩

set_option maxRecDepth 100000 in
theorem liftedPrints (os : Os) (started : os.Started) (H : Type) (enc : TypeId × Value → H) :
    ReturnsInHanded {} Tryz.checked os 5 .any (fun w args => (Rows.tokensPrintsSpec.pre enc Tryz.prog Tryz.f5 Rows.tokensPrintsRow.domain false w args ∧ laidMetH Tryz.prog Rows.tokensPrintsRow.laid w) ∧ sizedMet enc Tryz.prog Tryz.f5 (OpenSpec.ofChange Rows.tokensPrintsSpec) false w args)
      (Rows.tokensPrintsSpec.post enc Tryz.prog Tryz.f5 false true false false) := by
  refine returnsInHanded_of_change_and (C := Tryz.checked) (X := fun w _ => laidMetH Tryz.prog laidL w) (fun _ _ _ hh h => h.of_heap hh) ownKnobs started (by kernel_rfl) Tryz.func5
    (ChangeSpec.witness_shaped (enc := enc) (C := Tryz.checked) (os := os) (X := fun w _ => laidMetH Tryz.prog laidL w) false (World.laidAll Tryz.prog os laidL) #[.slice none 0 0] 8 (World.laidAll_os _ _ _)
      (World.shaped_of_ZipB (by kernel_rfl) (by kernel_rfl)) (by kernel_rfl) (by kernel_rfl) (by kernel_rfl)
      (by rw [laid_plain]; exact laidMet_laidAll _ (by kernel_rfl) (by kernel_rfl))) ?_
  intro W base args ds gs before hval0 hW _ hsz0 hL _
  have hsz : (DataW.weightsEach Tryz.prog (Tryz.f5.params.toList ++ Rows.tokensPrintsSpec.plain.varTypes Tryz.prog) (ds ++ gs)).all (· ≤ reachBytes) = true := hsz0
  have hval : ∀ (j : Nat) t v, Tryz.f5.params[j]? = some t → args[j]? = some v → Value.okWide Tryz.prog W .any base t v := hval0
  have hW' := hW
  obtain ⟨p, q, hA0, hV, rfl, hfz, hnd⟩ := hW
  have hA : DataW.TrodAll enc Tryz.prog W 0 (fun _ => true) true Tryz.f5.params.toList args.toList ds p := hA0
  rw [Tryz.params5] at hA hval hsz
  obtain ⟨v0, vs0, d0, ds0, p0, q0, hargs, rfl, rfl, h0, r0⟩ := trodAll_cons hA
  obtain ⟨rfl, rfl, rfl⟩ := trodAll_nil r0
  obtain rfl : args = #[v0] := by cases args; simp_all
  obtain ⟨rfl, rfl⟩ := trodVars_none hV
  have k0 := h0
  have lt0 : ∀ x ∈ p0, x.block < W.heap.size := by obtain ⟨m, hm⟩ := k0; exact DataW.trod_lt m _ _ _ hm
  obtain ⟨a0, len0, cap0, rfl⟩ := okWide_slice Tryz.underlying33 (hval 0 33 v0 rfl rfl)
  obtain ⟨l, hl, hv⟩ : ∃ l : List Tk, l.length < 2 ^ 62 ∧ V noOwn W (.sl 4 (l.map tkC) .none) (.slice a0 len0 cap0) := by
    obtain ⟨fuel, hf⟩ := h0
    obtain ⟨l, hv, hl⟩ := open_tokens hf
    refine ⟨l, ?_, hv⟩
    rcases hl with rfl | ⟨elems, rest, hx, hlen⟩
    · simp
    · have z := sized_slice hsz (j := 0) rfl (congrArg some hx) Tryz.underlying33
      rw [show Tryz.prog.bytesOf 23 = 40 from by kernel_rfl] at z
      simp only [reachBytes] at z
      omega
  clear hA0 hval0 hsz0
  refine (prints_calls hl (gl_of_laid hL) hv).mono fun e W' ⟨he, bel⟩ => ?_
  subst he
  exact ⟨_, rfl, _, _, _, [], _, [], hW', trodAll_mk1 (shut_bool Tryz.underlying4 _), (trodAll_cons_mk (Below.trod laidOuts (by kernel_rfl) (of_decide_eq_true (by kernel_rfl)) k0 bel lt0) trodAll_mk0), rfl, bel.frame _, fun h => by cases h⟩
theorem rowPrints_holds : Rows.TokensPrintsSaid :=
  OpenClaim.holds_of_wide 5 Tryz.f5 rfl rfl rfl rfl rfl rfl rfl ⟨rfl, rfl, rfl, rfl, rfl⟩ rfl rfl rfl rfl rfl (by kernel_rfl) Tryz.func5 (by kernel_rfl)
    (of_decide_eq_true (by kernel_rfl)) (by unfold Func.isWrapper; first | (rw [if_pos (by decide +kernel)]; kernel_rfl) | (rw [if_neg (by decide +kernel)]; exact ⟨rfl, rfl⟩))
    (fun os started H enc _ => liftedPrints os started H enc)
theorem tokensPrints_card : Rows.TokensPrintsCardSaid :=
  Claim7.holds_tied_plain_at .later [] [.data, .listed, .data, .pinned] true (true, "82b6df560e3e66ff26c5ae73ac5a80ec1f39ec9e1c257a58c49eb3a81994e024") false rowPrints_holds (fun _ h => by cases h) (by kernel_rfl) (fun _ h => by cases h) tokensPrints_row_tie rfl ⟨rfl, rfl⟩ (by kernel_rfl) rfl
    (fun f fn hf hfn => by
      obtain rfl : f = 5 := Option.some.inj ((show Tryz.prog.funcNamed "stutter/stutterlaw01.TokensPrints" = some 5 by kernel_rfl).symm.trans hf) |>.symm
      obtain rfl : fn = Tryz.f5 := (Option.some.inj (Tryz.func5.symm.trans hfn)).symm
      exact ⟨by kernel_rfl, fun j t ht => by
        rw [Tryz.params5] at ht
        have hm : t ∈ [33] := by simpa using Array.mem_of_getElem? ht
        have hall : ([33].all fun u => !Tryz.prog.wantsStandIn u) = true := by kernel_rfl
        exact (show Tryz.prog.wantsStandIn t = false by simpa using List.all_eq_true.1 hall t hm)⟩)
    (by kernel_rfl)
#print axioms tokensPrints_card
end Go.Proofs.YtlmmgblghgmgeaaGreatDoor
