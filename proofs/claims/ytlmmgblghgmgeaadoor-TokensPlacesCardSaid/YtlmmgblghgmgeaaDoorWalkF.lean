/- The reader, step by step. -/
import Derived.Test.YtlmmgblghgmgeaaDoorWalkE
namespace Go.Proofs.YtlmmgblghgmgeaaDoor
open Go Ev
set_option maxRecDepth 100000
set_option linter.unusedSimpArgs false

theorem over_ev (l : List Str) (tk : Tok) (i j : Nat) (x y : AV) : evc plan 35 [.eptr [.sl 1 (strs l) tk, .int .i64 i, .int .i64 j, x, y]] [] = some (.bool (decide (l.length ≤ i)), []) := by
  refine evc_start plan (P := Tryd.prog) (ro := planRo) rfl rfl rfl rfl rfl rfl (by simp) rfl ?_
  simp [dFor_none, storeFine_none, dFor_no, storeFine_no, lessL, lkL, evCode_exit, evCode_seq, evCode_plain, evCode_draw, evCode_cond, evCode_ret, evCode_skip, evCode_block, evCode_loop, roundK_normal, roundK_exit, roundK_ret, seqK_normal, seqK_exit, seqK_ret, blockK_normal, blockK_exit, blockK_ret, regK_eq, evOps_nil, evOps_cons, params, astep, okDst, isWanted, aop, opnd, ofValue, putT, abin, headS, ofL, noPtr, acall, adopt_bool, adopt_int, adopt_str, adopt_agg, adopt_clip, AV.bare, upd_false, AV.cells, partOf, setCells, fillC, AV.isVal, List.range, List.range.loop, ofB, mayRead, dsts, planRo, capIds, viewed, scalarR, AV.scalar, finK, freezeT, avAll, resOf, outBoxes, relabB, relabL, relab1, noPtr, AV.untup, strs]
theorem rest_ev (l : List Str) (tk : Tok) (i j : Nat) (x y : AV) (hi : i < l.length) (hj : j ≤ l[i].length) : evc plan 47 [.eptr [.sl 1 (strs l) tk, .int .i64 i, .int .i64 j, x, y]] [] = some (.str (l[i].drop j), []) := by
  refine evc_start plan (P := Tryd.prog) (ro := planRo) rfl rfl rfl rfl rfl rfl (by simp) rfl ?_
  simp [dFor_none, storeFine_none, dFor_no, storeFine_no, lessL, lkL, evCode_exit, evCode_seq, evCode_plain, evCode_draw, evCode_cond, evCode_ret, evCode_skip, evCode_block, evCode_loop, roundK_normal, roundK_exit, roundK_ret, seqK_normal, seqK_exit, seqK_ret, blockK_normal, blockK_exit, blockK_ret, regK_eq, evOps_nil, evOps_cons, params, astep, okDst, isWanted, aop, opnd, ofValue, putT, abin, headS, ofL, noPtr, acall, adopt_bool, adopt_int, adopt_str, adopt_agg, adopt_clip, AV.bare, upd_false, AV.cells, partOf, setCells, fillC, AV.isVal, List.range, List.range.loop, ofB, mayRead, dsts, planRo, capIds, viewed, scalarR, AV.scalar, finK, freezeT, avAll, resOf, outBoxes, relabB, relabL, relab1, noPtr, AV.untup, strs, hi, hj, aslice, abound]
/-- The reader's box, as a function is handed it. -/
def rd (l : List Str) (tk : Tok) (i j : Int) (ts cs : List (List AV)) : Box := [.sl 1 (strs l) tk, .int .i64 i, .int .i64 j, .sl 4 ts (.row 1000000 4), .sl 4 cs (.row 1000000 5)]
theorem advance_ev (l : List Str) (tk : Tok) (ht : tk = .clip ∨ tk = .none) (i j n : Int) (ts cs : List (List AV)) (h1 : -2 ^ 62 ≤ j + n) (h2 : j + n < 2 ^ 62) :
    evc plan 49 [.ptr 0 0, .int .i64 n] [(0, rd l tk i j ts cs)] = some (.tup [], [(0, rd l tk i (j + n) ts cs)]) := by
  refine evc_start plan (P := Tryd.prog) (ro := planRo) rfl rfl rfl rfl rfl rfl (by simp) rfl ?_
  have w1 : IntKind.i64.wrap (j + n) = j + n := wrap_i64 (by omega) (by omega)
  rcases ht with rfl | rfl <;> simp [dFor_none, storeFine_none, dFor_no, storeFine_no, lessL, lkL, evCode_exit, evCode_seq, evCode_plain, evCode_draw, evCode_cond, evCode_ret, evCode_skip, evCode_block, evCode_loop, roundK_normal, roundK_exit, roundK_ret, seqK_normal, seqK_exit, seqK_ret, blockK_normal, blockK_exit, blockK_ret, regK_eq, evOps_nil, evOps_cons, params, astep, okDst, isWanted, aop, opnd, ofValue, putT, abin, headS, ofL, noPtr, acall, adopt_bool, adopt_int, adopt_str, adopt_agg, adopt_clip, AV.bare, upd_false, AV.cells, partOf, setCells, fillC, AV.isVal, List.range, List.range.loop, ofB, mayRead, dsts, planRo, capIds, viewed, scalarR, AV.scalar, finK, freezeT, avAll, resOf, outBoxes, relabB, relabL, relab1, noPtr, AV.untup, strs, rd, w1, boxName, cellsOfB, namesOf, rowName]
theorem turn_ev (l : List Str) (tk : Tok) (ht : tk = .clip ∨ tk = .none) (i j : Int) (ts cs : List (List AV)) (h1 : -2 ^ 62 ≤ i) (h2 : i < 2 ^ 62) :
    evc plan 48 [.ptr 0 0] [(0, rd l tk i j ts cs)] = some (.tup [], [(0, rd l tk (i + 1) 0 ts cs)]) := by
  refine evc_start plan (P := Tryd.prog) (ro := planRo) rfl rfl rfl rfl rfl rfl (by simp) rfl ?_
  have w1 : IntKind.i64.wrap (i + 1) = i + 1 := wrap_i64 (by omega) (by omega)
  rcases ht with rfl | rfl <;> simp [dFor_none, storeFine_none, dFor_no, storeFine_no, lessL, lkL, evCode_exit, evCode_seq, evCode_plain, evCode_draw, evCode_cond, evCode_ret, evCode_skip, evCode_block, evCode_loop, roundK_normal, roundK_exit, roundK_ret, seqK_normal, seqK_exit, seqK_ret, blockK_normal, blockK_exit, blockK_ret, regK_eq, evOps_nil, evOps_cons, params, astep, okDst, isWanted, aop, opnd, ofValue, putT, abin, headS, ofL, noPtr, acall, adopt_bool, adopt_int, adopt_str, adopt_agg, adopt_clip, AV.bare, upd_false, AV.cells, partOf, setCells, fillC, AV.isVal, List.range, List.range.loop, ofB, mayRead, dsts, planRo, capIds, viewed, scalarR, AV.scalar, finK, freezeT, avAll, resOf, outBoxes, relabB, relabL, relab1, noPtr, AV.untup, strs, rd, w1, boxName, cellsOfB, namesOf, rowName]
end Go.Proofs.YtlmmgblghgmgeaaDoor
