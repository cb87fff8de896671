/- The law of the lines, by its code. -/
import Derived.Test.YtlmmgblghgmgeaaDoorWalkO
import Derived.KernelRfl
namespace Go.Proofs.YtlmmgblghgmgeaaDoor
open Go Ev
set_option maxRecDepth 100000
set_option linter.unusedSimpArgs false

def fld (n : String) (t o b : Nat) : Field := { name := n, type := t, offset := o, embedded := false, tag := "", pkgPath := "", byteOffset := b }
theorem under_token : Tryd.prog.underlying 39 = some (.struct #[fld "Kind" 3 0 0, fld "Text" 9 1 8, fld "Line" 3 2 24, fld "Column" 3 3 32]) := by kernel_rfl
theorem under_place : Tryd.prog.underlying 33 = some (.struct #[fld "Line" 3 0 0, fld "Column" 3 1 8]) := by kernel_rfl
theorem under_int : Tryd.prog.underlying 3 = some (.int .i64) := by kernel_rfl
theorem under_string : Tryd.prog.underlying 9 = some .string := by kernel_rfl
theorem guard_token : Tryd.prog.eqGuardType Tryd.prog.depth 39 = false := by kernel_rfl
theorem guard_place : Tryd.prog.eqGuardType Tryd.prog.depth 33 = false := by kernel_rfl
theorem held_token : Tryd.prog.stoodInHeld 39 = false := by kernel_rfl
theorem held_place : Tryd.prog.stoodInHeld 33 = false := by kernel_rfl
def sameTk (x y : Tk) : Bool := x.kind == y.kind && (x.text == y.text && (x.line == y.line && x.col == y.col))
theorem acmp_token (x y : Tk) : acmp Tryd.prog 39 (.agg (tkC x)) (.agg (tkC y)) = some (sameTk x y) := by
  simp only [acmp, guard_token, Bool.false_eq_true, if_false, aeq, under_token, held_token, aeqF]
  simp [aeqF, fld, partOf, under_int, under_string, tkC, sameTk, aeq]
theorem acmp_place (a b c d : Int) : acmp Tryd.prog 33 (.agg [.int .i64 a, .int .i64 b]) (.agg [.int .i64 c, .int .i64 d]) = some (a == c && b == d) := by
  simp only [acmp, guard_place, Bool.false_eq_true, if_false, aeq, under_place, held_place, aeqF]
  simp [aeqF, fld, partOf, under_int, under_string, aeq]
deriving instance DecidableEq for Rd
def exTs : List Tk := [⟨0, [120], 0, 0⟩, ⟨4, [39], 0, 1⟩, ⟨4, [61], 0, 3⟩, ⟨0, [120], 0, 5⟩, ⟨4, [43], 0, 7⟩, ⟨2, [49], 0, 9⟩, ⟨4, [47, 92], 1, 8⟩, ⟨0, [121], 1, 11⟩, ⟨4, [35], 1, 13⟩, ⟨3, [34, 97, 34], 1, 15⟩]
theorem ex_read : readP exL = ⟨0, 0, 0, exTs, [⟨0, 11, 1, 7⟩]⟩ := by decide +kernel
theorem ex_canon : canonP [92, 108, 97, 110, 100] = ([47, 92], 0) := by decide +kernel
theorem ex_must : mustP ⟨4, [45], 0, 0⟩ ⟨4, [62], 0, 0⟩ = (true, 0) := by decide +kernel
set_option maxHeartbeats 2000000 in
theorem awake_ev : evc plan 5 [] [] = some (.bool true, []) := by
  refine evc_start plan (P := Tryd.prog) (ro := planRo) rfl rfl rfl rfl rfl rfl (by simp) rfl ?_
  have h1 := ex_ev
  have h2 := tokensOf_ev exL .clip fx_clip (by decide)
  have h3 := commentsIn_ev exL .clip fx_clip (by decide)
  have h4 := canon_ev [92, 108, 97, 110, 100] (by decide)
  have h5 := must_ev ⟨4, [45], 0, 0⟩ ⟨4, [62], 0, 0⟩ (by decide) (by decide)
  have h6 := acmp_token ⟨0, [121], 1, 11⟩ ⟨0, [121], 1, 11⟩
  have h7 := acmp_place 1 7 1 7
  rw [ex_read] at h2 h3
  rw [ex_canon] at h4
  rw [ex_must] at h5
  simp [slTk, slSp, exTs, tkC, spC, sameTk] at h2 h3 h5 h6 h7
  simp at h4
  simp [dFor_none, storeFine_none, dFor_no, storeFine_no, lessL, lkL, evCode_exit, evCode_seq, evCode_plain, evCode_draw, evCode_cond, evCode_ret, evCode_skip, evCode_block, evCode_loop, roundK_normal, roundK_exit, roundK_ret, seqK_normal, seqK_exit, seqK_ret, blockK_normal, blockK_exit, blockK_ret, regK_eq, evOps_nil, evOps_cons, params, astep, okDst, isWanted, aop, opnd, ofValue, putT, abin, headS, ofL, noPtr, acall, adopt_bool, adopt_int, adopt_str, adopt_agg, adopt_clip, upd_false, AV.cells, partOf, setCells, fillC, AV.isVal, List.range, List.range.loop, ofB, mayRead, dsts, planRo, capIds, viewed, scalarR, AV.scalar, bare_undef, bare_bool, bare_int, bare_str, bare_snil, bare_snone, bare_sclip, bare_srow, bare_ptr, bare_eptr, bare_pnil, bare_fn, bare_fnil, bare_agg, bare_tup, passed, setBoxes, killNames, addNames, freshAll, adopt, resParts, resBack, relabB, relabL, namesOf, cellsOfB, boxName, row_undef, row_bool, row_int, row_str, row_snil, row_snone, row_sclip, row_srow, row_ptr, row_eptr, row_pnil, row_fn, row_fnil, row_agg, row_tup, relab_undef, relab_bool, relab_int, relab_str, relab_snil, relab_snone, relab_sclip, relab_srow, relab_ptr, relab_eptr, relab_pnil, relab_fn, relab_fnil, relab_agg, relab_tup, relab_sgrow, finK, freezeT, avAll, resOf, outBoxes, relabB, relabL, noPtr, AV.untup, relab_undef, relab_bool, relab_int, relab_str, relab_snil, relab_snone, relab_sclip, relab_srow, relab_ptr, relab_eptr, relab_pnil, relab_fn, relab_fnil, relab_agg, relab_tup, relab_sgrow, h1, h2, h3, h4, h5, h6, h7, acmpOp]
end Go.Proofs.YtlmmgblghgmgeaaDoor
