/- The law of the spellings: by its code it answers true. -/
import Derived.Test.YtlmmgblghgmgeaaGreatDoorPureO
import Derived.Test.YtlmmgblghgmgeaaGreatDoorWalkS
import Derived.Test.YtlmmgblghgmgeaaGreatDoorOver
import Derived.Test.YtlmmgblghgmgeaaGreatDoorRefC
namespace Go.Proofs.YtlmmgblghgmgeaaGreatDoor
open Go Ev
set_option maxRecDepth 100000
set_option linter.unusedSimpArgs false

theorem symL_len : symL.length < 2 ^ 62 := by
  have lA : allSyms.length = 76 := rfl
  have : symL.length = 76 := by unfold symL; rw [foldl_ins_len allSyms [], lA]; rfl
  omega
noncomputable def oracleS : Oracle := overO (evc plan) 29 [] (.sl 1 (strs symL) .none)
def lvNone : Nat → Keep := fun _ => noKeep
@[simp] theorem lvNone_h (k : Nat) : lvNone k = noKeep := rfl
set_option maxHeartbeats 4000000 in
theorem spell_law (s : Str) : evFn Tryz.prog ⟨oracleS, planRo, lvNone, 43⟩ Tryz.f7 [.str s] [] = some (.bool true, []) := by
  refine evFn_start rfl rfl rfl ?_
  have hne : ∀ (f : FuncId) (args : List AV) (bs : List (Nat × Box)), f ≠ 29 → oracleS f args bs = evc plan f args bs := fun f args bs h => overO_ne _ _ _ _ _ h
  have h1 := awake_ev
  cases h2 : decide ((s.length : Int) > 140)
  · have hl : s.length ≤ 140 := by simp at h2; omega
    have h3 := canon_ev s (by omega)
    have h4 := rcanon_ev s (by omega)
    have h5 : oracleS 29 [] [] = some (.sl 1 (strs symL) .none, []) := overO_self _ _ _ _
    have h6 := symbols_ev
    have h7 := equalT_ev symL symL .none .none fx_none fx_none symL_len symL_len
    rw [eqT_refl] at h7
    rw [canon_same s] at h3
    generalize rcanonP s = C at h3 h4
    obtain ⟨w, ok⟩ := C
    generalize strs symL = V at h5 h6 h7
    cases ok
    · simp [dFor_none, storeFine_none, dFor_no, storeFine_no, lessL, lkL, evCode_exit, evCode_seq, evCode_plain, evCode_draw, evCode_cond, evCode_ret, evCode_skip, evCode_block, evCode_loop, roundK_normal, roundK_exit, roundK_ret, seqK_normal, seqK_exit, seqK_ret, blockK_normal, blockK_exit, blockK_ret, regK_eq, evOps_nil, evOps_cons, params, astep, okDst, isWanted, aop, opnd, ofValue, putT, abin, headS, ofL, noPtr, acall, adopt_bool, adopt_int, adopt_str, adopt_agg, adopt_clip, upd_false, AV.cells, partOf, setCells, fillC, AV.isVal, List.range, List.range.loop, ofB, mayRead, dsts, planRo, capIds, viewed, scalarR, AV.scalar, bare_undef, bare_bool, bare_int, bare_str, bare_snil, bare_snone, bare_sclip, bare_srow, bare_ptr, bare_eptr, bare_pnil, bare_fn, bare_fnil, bare_agg, bare_tup, passed, setBoxes, killNames, addNames, freshAll, adopt, resParts, resBack, relabB, relabL, namesOf, cellsOfB, boxName, row_undef, row_bool, row_int, row_str, row_snil, row_snone, row_sclip, row_srow, row_ptr, row_eptr, row_pnil, row_fn, row_fnil, row_agg, row_tup, relab_undef, relab_bool, relab_int, relab_str, relab_snil, relab_snone, relab_sclip, relab_srow, relab_ptr, relab_eptr, relab_pnil, relab_fn, relab_fnil, relab_agg, relab_tup, relab_sgrow, finK, freezeT, avAll, resOf, outBoxes, relabB, relabL, noPtr, AV.untup, relab_undef, relab_bool, relab_int, relab_str, relab_snil, relab_snone, relab_sclip, relab_srow, relab_ptr, relab_eptr, relab_pnil, relab_fn, relab_fnil, relab_agg, relab_tup, relab_sgrow, hne, h1, h2, h3, h4, h5, h6, h7]
    · simp [dFor_none, storeFine_none, dFor_no, storeFine_no, lessL, lkL, evCode_exit, evCode_seq, evCode_plain, evCode_draw, evCode_cond, evCode_ret, evCode_skip, evCode_block, evCode_loop, roundK_normal, roundK_exit, roundK_ret, seqK_normal, seqK_exit, seqK_ret, blockK_normal, blockK_exit, blockK_ret, regK_eq, evOps_nil, evOps_cons, params, astep, okDst, isWanted, aop, opnd, ofValue, putT, abin, headS, ofL, noPtr, acall, adopt_bool, adopt_int, adopt_str, adopt_agg, adopt_clip, upd_false, AV.cells, partOf, setCells, fillC, AV.isVal, List.range, List.range.loop, ofB, mayRead, dsts, planRo, capIds, viewed, scalarR, AV.scalar, bare_undef, bare_bool, bare_int, bare_str, bare_snil, bare_snone, bare_sclip, bare_srow, bare_ptr, bare_eptr, bare_pnil, bare_fn, bare_fnil, bare_agg, bare_tup, passed, setBoxes, killNames, addNames, freshAll, adopt, resParts, resBack, relabB, relabL, namesOf, cellsOfB, boxName, row_undef, row_bool, row_int, row_str, row_snil, row_snone, row_sclip, row_srow, row_ptr, row_eptr, row_pnil, row_fn, row_fnil, row_agg, row_tup, relab_undef, relab_bool, relab_int, relab_str, relab_snil, relab_snone, relab_sclip, relab_srow, relab_ptr, relab_eptr, relab_pnil, relab_fn, relab_fnil, relab_agg, relab_tup, relab_sgrow, finK, freezeT, avAll, resOf, outBoxes, relabB, relabL, noPtr, AV.untup, relab_undef, relab_bool, relab_int, relab_str, relab_snil, relab_snone, relab_sclip, relab_srow, relab_ptr, relab_eptr, relab_pnil, relab_fn, relab_fnil, relab_agg, relab_tup, relab_sgrow, hne, h1, h2, h3, h4, h5, h6, h7]
  · simp [dFor_none, storeFine_none, dFor_no, storeFine_no, lessL, lkL, evCode_exit, evCode_seq, evCode_plain, evCode_draw, evCode_cond, evCode_ret, evCode_skip, evCode_block, evCode_loop, roundK_normal, roundK_exit, roundK_ret, seqK_normal, seqK_exit, seqK_ret, blockK_normal, blockK_exit, blockK_ret, regK_eq, evOps_nil, evOps_cons, params, astep, okDst, isWanted, aop, opnd, ofValue, putT, abin, headS, ofL, noPtr, acall, adopt_bool, adopt_int, adopt_str, adopt_agg, adopt_clip, upd_false, AV.cells, partOf, setCells, fillC, AV.isVal, List.range, List.range.loop, ofB, mayRead, dsts, planRo, capIds, viewed, scalarR, AV.scalar, bare_undef, bare_bool, bare_int, bare_str, bare_snil, bare_snone, bare_sclip, bare_srow, bare_ptr, bare_eptr, bare_pnil, bare_fn, bare_fnil, bare_agg, bare_tup, passed, setBoxes, killNames, addNames, freshAll, adopt, resParts, resBack, relabB, relabL, namesOf, cellsOfB, boxName, row_undef, row_bool, row_int, row_str, row_snil, row_snone, row_sclip, row_srow, row_ptr, row_eptr, row_pnil, row_fn, row_fnil, row_agg, row_tup, relab_undef, relab_bool, relab_int, relab_str, relab_snil, relab_snone, relab_sclip, relab_srow, relab_ptr, relab_eptr, relab_pnil, relab_fn, relab_fnil, relab_agg, relab_tup, relab_sgrow, finK, freezeT, avAll, resOf, outBoxes, relabB, relabL, noPtr, AV.untup, relab_undef, relab_bool, relab_int, relab_str, relab_snil, relab_snone, relab_sclip, relab_srow, relab_ptr, relab_eptr, relab_pnil, relab_fn, relab_fnil, relab_agg, relab_tup, relab_sgrow, hne, h1, h2]
theorem spell_ok : codeOk lvNone (Tryz.f7.body.getD .skip) = true := by kernel_rfl
theorem spell_sim (s : Str) : SimCall Tryz.prog 7 [.str s] [] (.bool true) [] := by
  obtain ⟨c, hc⟩ : ∃ c, Tryz.f7.body = some c := ⟨_, rfl⟩
  have hok := spell_ok
  rw [hc] at hok
  exact fn_sound (drawSound planFollows) planFollows (E := ⟨oracleS, planRo, lvNone, 43⟩) (overO_sound (evc_sound plan_ok) symsOf_sim) Tryz.func7 hc (Nat.le_refl _) hok Tryz.call7 (by simp) (spell_law s)
end Go.Proofs.YtlmmgblghgmgeaaGreatDoor
