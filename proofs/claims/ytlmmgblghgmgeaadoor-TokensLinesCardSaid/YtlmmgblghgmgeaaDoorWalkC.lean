/- Symbols, rules and reserved words of the program's chapter 1, evaluated. -/
import Derived.Test.YtlmmgblghgmgeaaDoorWalkB
namespace Go.Proofs.YtlmmgblghgmgeaaDoor
open Go Ev
set_option maxRecDepth 100000
set_option linter.unusedSimpArgs false

/-- The symbols that are no other spelling, by their bytes. -/
def plainL : List Str := [[40], [41], [91], [93], [123], [125], [60, 60], [62, 62], [44], [58], [46], [59], [33], [64], [95], [39], [61, 61], [60, 45], [45, 62], [124, 45, 62], [58, 61], [93, 95], [62, 62, 95], [124, 124], [60, 58], [126], [91, 93], [60, 62], [45, 46], [61, 62], [60, 61, 62], [126, 62], [47, 92], [92, 47], [61], [35], [60], [60, 61], [62], [62, 61], [92, 105, 110], [92, 110, 111, 116, 105, 110], [92, 115, 117, 98, 115, 101, 116, 101, 113], [92, 99, 117, 112], [92, 99, 97, 112], [92], [46, 46], [43], [45], [42], [37], [94], [92, 99, 100, 111, 116], [92, 100, 105, 118], [92, 111], [92, 88], [92, 65], [92, 69], [87, 70, 95], [83, 70, 95], [40, 43, 41], [40, 45, 41], [92, 115, 113, 115, 117, 98, 115, 101, 116, 101, 113], [58, 62], [64, 64]]
/-- The other spellings, each with the canonical one. -/
def othersL : List (Str × Str) := [([92, 108, 97, 110, 100], [47, 92]), ([92, 108, 111, 114], [92, 47]), ([92, 108, 110, 111, 116], [126]), ([92, 110, 101, 103], [126]), ([92, 101, 113, 117, 105, 118], [60, 61, 62]), ([47, 61], [35]), ([61, 60], [60, 61]), ([92, 108, 101, 113], [60, 61]), ([92, 103, 101, 113], [62, 61]), ([92, 117, 110, 105, 111, 110], [92, 99, 117, 112]), ([92, 105, 110, 116, 101, 114, 115, 101, 99, 116], [92, 99, 97, 112])]
def strs (l : List Str) : List (List AV) := l.map fun s => [.str s]
def pairs (l : List (Str × Str)) : List (List AV) := l.map fun s => [.str s.1, .str s.2]
set_option maxHeartbeats 1000000 in
theorem plain_ev : evc plan 29 [] [] = some (.sl 1 (strs plainL) .clip, []) := by
  refine evc_start plan (P := Tryd.prog) (ro := planRo) rfl rfl rfl rfl rfl rfl (by simp) rfl ?_
  simp [evCode_exit, evCode_seq, evCode_plain, evCode_draw, evCode_cond, evCode_ret, evCode_skip, evCode_block, evCode_loop, roundK_normal, roundK_exit, roundK_ret, seqK_normal, seqK_exit, seqK_ret, blockK_normal, blockK_exit, blockK_ret, regK_eq, evOps_nil, evOps_cons, params, astep, okDst, isWanted, aop, opnd, ofValue, putT, abin, headS, ofL, noPtr, acall, adopt_bool, adopt_int, adopt_str, adopt_agg, adopt_clip, AV.bare, upd_false, AV.cells, partOf, setCells, fillC, AV.isVal, List.range, List.range.loop, ofB, mayRead, dsts, planRo, capIds, viewed, scalarR, AV.scalar, finK, freezeT, avAll, resOf, outBoxes, relabB, relabL, relab1, noPtr, AV.untup, strs, plainL]
set_option maxHeartbeats 1000000 in
theorem others_ev : evc plan 31 [] [] = some (.sl 2 (pairs othersL) .clip, []) := by
  refine evc_start plan (P := Tryd.prog) (ro := planRo) rfl rfl rfl rfl rfl rfl (by simp) rfl ?_
  simp [evCode_exit, evCode_seq, evCode_plain, evCode_draw, evCode_cond, evCode_ret, evCode_skip, evCode_block, evCode_loop, roundK_normal, roundK_exit, roundK_ret, seqK_normal, seqK_exit, seqK_ret, blockK_normal, blockK_exit, blockK_ret, regK_eq, evOps_nil, evOps_cons, params, astep, okDst, isWanted, aop, opnd, ofValue, putT, abin, headS, ofL, noPtr, acall, adopt_bool, adopt_int, adopt_str, adopt_agg, adopt_clip, AV.bare, upd_false, AV.cells, partOf, setCells, fillC, AV.isVal, List.range, List.range.loop, ofB, mayRead, dsts, planRo, capIds, viewed, scalarR, AV.scalar, finK, freezeT, avAll, resOf, outBoxes, relabB, relabL, relab1, noPtr, AV.untup, pairs, othersL]
def isRuleB (s : Str) : Bool := decide (4 ≤ s.length) && (Lib.trimB s 45 == [] || Lib.trimB s 61 == [])
theorem rule_ev (s : Str) (hl : s.length < 2 ^ 61) : evc plan 27 [.str s] [] = some (.bool (isRuleB s), []) := by
  refine evc_start plan (P := Tryd.prog) (ro := planRo) rfl rfl rfl rfl rfl rfl (by simp) rfl ?_
  have h1 : evc plan 44 [.str s, .str [45]] [] = some (.str (Lib.trimB s 45), []) := evc_ext plan rfl (by
    simp only [plan, planExt]; rw [if_pos (by constructor; decide; omega)])
  have h2 : evc plan 44 [.str s, .str [61]] [] = some (.str (Lib.trimB s 61), []) := evc_ext plan rfl (by
    simp only [plan, planExt]; rw [if_pos (by constructor; decide; omega)])
  by_cases h : (4 : Int) ≤ s.length
  · have h' : 4 ≤ s.length := by omega
    cases h3 : (Lib.trimB s 45 == []) <;> simp [evCode_exit, evCode_seq, evCode_plain, evCode_draw, evCode_cond, evCode_ret, evCode_skip, evCode_block, evCode_loop, roundK_normal, roundK_exit, roundK_ret, seqK_normal, seqK_exit, seqK_ret, blockK_normal, blockK_exit, blockK_ret, regK_eq, evOps_nil, evOps_cons, params, astep, okDst, isWanted, aop, opnd, ofValue, putT, abin, headS, ofL, noPtr, acall, adopt_bool, adopt_int, adopt_str, adopt_agg, adopt_clip, AV.bare, upd_false, AV.cells, partOf, setCells, fillC, AV.isVal, List.range, List.range.loop, ofB, mayRead, dsts, planRo, capIds, viewed, scalarR, AV.scalar, finK, freezeT, avAll, resOf, outBoxes, relabB, relabL, relab1, noPtr, AV.untup, h, h1, h2, h3, isRuleB, h']
  · have h' : ¬ 4 ≤ s.length := by omega
    simp [evCode_exit, evCode_seq, evCode_plain, evCode_draw, evCode_cond, evCode_ret, evCode_skip, evCode_block, evCode_loop, roundK_normal, roundK_exit, roundK_ret, seqK_normal, seqK_exit, seqK_ret, blockK_normal, blockK_exit, blockK_ret, regK_eq, evOps_nil, evOps_cons, params, astep, okDst, isWanted, aop, opnd, ofValue, putT, abin, headS, ofL, noPtr, acall, adopt_bool, adopt_int, adopt_str, adopt_agg, adopt_clip, AV.bare, upd_false, AV.cells, partOf, setCells, fillC, AV.isVal, List.range, List.range.loop, ofB, mayRead, dsts, planRo, capIds, viewed, scalarR, AV.scalar, finK, freezeT, avAll, resOf, outBoxes, relabB, relabL, relab1, noPtr, AV.untup, h, isRuleB, h']
def reservedText : Str := [65, 83, 83, 85, 77, 69, 32, 65, 83, 83, 85, 77, 80, 84, 73, 79, 78, 32, 65, 88, 73, 79, 77, 32, 66, 89, 32, 67, 65, 83, 69, 32, 67, 72, 79, 79, 83, 69, 32, 67, 79, 78, 83, 84, 65, 78, 84, 32, 67, 79, 78, 83, 84, 65, 78, 84, 83, 32, 68, 69, 70, 32, 68, 69, 70, 73, 78, 69, 32, 68, 69, 70, 83, 32, 68, 79, 77, 65, 73, 78, 32, 69, 76, 83, 69, 32, 69, 78, 65, 66, 76, 69, 68, 32, 69, 88, 67, 69, 80, 84, 32, 69, 88, 84, 69, 78, 68, 83, 32, 70, 65, 76, 83, 69, 32, 72, 65, 86, 69, 32, 72, 73, 68, 69, 32, 73, 70, 32, 73, 78, 32, 73, 78, 83, 84, 65, 78, 67, 69, 32, 76, 65, 77, 66, 68, 65, 32, 76, 69, 77, 77, 65, 32, 76, 69, 84, 32, 76, 79, 67, 65, 76, 32, 77, 79, 68, 85, 76, 69, 32, 78, 69, 87, 32, 79, 66, 86, 73, 79, 85, 83, 32, 79, 77, 73, 84, 84, 69, 68, 32, 79, 84, 72, 69, 82, 32, 80, 73, 67, 75, 32, 80, 82, 79, 79, 70, 32, 80, 82, 79, 80, 79, 83, 73, 84, 73, 79, 78, 32, 80, 82, 79, 86, 69, 32, 81, 69, 68, 32, 82, 69, 67, 85, 82, 83, 73, 86, 69, 32, 83, 85, 66, 83, 69, 84, 32, 83, 85, 70, 70, 73, 67, 69, 83, 32, 84, 65, 75, 69, 32, 84, 72, 69, 78, 32, 84, 72, 69, 79, 82, 69, 77, 32, 84, 82, 85, 69, 32, 85, 78, 67, 72, 65, 78, 71, 69, 68, 32, 85, 78, 73, 79, 78, 32, 85, 83, 69, 32, 86, 65, 82, 73, 65, 66, 76, 69, 32, 86, 65, 82, 73, 65, 66, 76, 69, 83, 32, 87, 73, 84, 72, 32, 87, 73, 84, 78, 69, 83, 83]
def reservedL : List Str := [[65, 83, 83, 85, 77, 69], [65, 83, 83, 85, 77, 80, 84, 73, 79, 78], [65, 88, 73, 79, 77], [66, 89], [67, 65, 83, 69], [67, 72, 79, 79, 83, 69], [67, 79, 78, 83, 84, 65, 78, 84], [67, 79, 78, 83, 84, 65, 78, 84, 83], [68, 69, 70], [68, 69, 70, 73, 78, 69], [68, 69, 70, 83], [68, 79, 77, 65, 73, 78], [69, 76, 83, 69], [69, 78, 65, 66, 76, 69, 68], [69, 88, 67, 69, 80, 84], [69, 88, 84, 69, 78, 68, 83], [70, 65, 76, 83, 69], [72, 65, 86, 69], [72, 73, 68, 69], [73, 70], [73, 78], [73, 78, 83, 84, 65, 78, 67, 69], [76, 65, 77, 66, 68, 65], [76, 69, 77, 77, 65], [76, 69, 84], [76, 79, 67, 65, 76], [77, 79, 68, 85, 76, 69], [78, 69, 87], [79, 66, 86, 73, 79, 85, 83], [79, 77, 73, 84, 84, 69, 68], [79, 84, 72, 69, 82], [80, 73, 67, 75], [80, 82, 79, 79, 70], [80, 82, 79, 80, 79, 83, 73, 84, 73, 79, 78], [80, 82, 79, 86, 69], [81, 69, 68], [82, 69, 67, 85, 82, 83, 73, 86, 69], [83, 85, 66, 83, 69, 84], [83, 85, 70, 70, 73, 67, 69, 83], [84, 65, 75, 69], [84, 72, 69, 78], [84, 72, 69, 79, 82, 69, 77], [84, 82, 85, 69], [85, 78, 67, 72, 65, 78, 71, 69, 68], [85, 78, 73, 79, 78], [85, 83, 69], [86, 65, 82, 73, 65, 66, 76, 69], [86, 65, 82, 73, 65, 66, 76, 69, 83], [87, 73, 84, 72], [87, 73, 84, 78, 69, 83, 83]]
theorem fields_reserved : Lib.fields reservedText = reservedL := by decide +kernel
set_option maxHeartbeats 1000000 in
theorem reserved_ev : evc plan 71 [] [] = some (.sl 1 (strs reservedL) .clip, []) := by
  refine evc_start plan (P := Tryd.prog) (ro := planRo) rfl rfl rfl rfl rfl rfl (by simp) rfl ?_
  have h1 : evc plan 82 [.str reservedText] [] = some (.sl 1 (strs reservedL) .clip, []) := evc_ext plan rfl (by
    simp only [plan, planExt]; rw [if_pos (by decide +kernel), fields_reserved]; rfl)
  unfold reservedText at h1
  simp [evCode_exit, evCode_seq, evCode_plain, evCode_draw, evCode_cond, evCode_ret, evCode_skip, evCode_block, evCode_loop, roundK_normal, roundK_exit, roundK_ret, seqK_normal, seqK_exit, seqK_ret, blockK_normal, blockK_exit, blockK_ret, regK_eq, evOps_nil, evOps_cons, params, astep, okDst, isWanted, aop, opnd, ofValue, putT, abin, headS, ofL, noPtr, acall, adopt_bool, adopt_int, adopt_str, adopt_agg, adopt_clip, AV.bare, upd_false, AV.cells, partOf, setCells, fillC, AV.isVal, List.range, List.range.loop, ofB, mayRead, dsts, planRo, capIds, viewed, scalarR, AV.scalar, finK, freezeT, avAll, resOf, outBoxes, relabB, relabL, relab1, noPtr, AV.untup, h1, adopt, resParts, relabL, relab1, noPtr, freshAll, rowName, resBack]
theorem strs_get (l : List Str) (i : Nat) (h : i < l.length) : (strs l)[i]? = some [.str l[i]] := by simp [strs, h]
/-- Where a text is in a list, or -1. -/
def idxIn (x : Str) : List Str → Int → Int
  | [], _ => -1
  | y :: r, n => if x == y then n else idxIn x r (n + 1)
theorem idxIn_drop (x : Str) (l : List Str) (i : Nat) (h : i < l.length) : idxIn x (l.drop i) i = if x == l[i] then (i : Int) else idxIn x (l.drop (i + 1)) (i + 1) := by
  rw [List.drop_eq_getElem_cons h]; rfl
theorem index_ev (l : List Str) (x : Str) (tok : Tok) (ht : tok = .clip ∨ tok = .none) (hl : l.length < 2 ^ 62) : evc plan 45 [.sl 1 (strs l) tok, .str x] [] = some (.int .i64 (idxIn x l 0), []) := by
  refine evc_start plan (P := Tryd.prog) (ro := planRo) rfl rfl rfl rfl rfl rfl (by simp) rfl ?_
  simp [evCode_exit, evCode_seq, evCode_plain, evCode_draw, evCode_cond, evCode_ret, evCode_skip, evCode_block, evCode_loop, roundK_normal, roundK_exit, roundK_ret, seqK_normal, seqK_exit, seqK_ret, blockK_normal, blockK_exit, blockK_ret, regK_eq, evOps_nil, evOps_cons, params, astep, okDst, isWanted, aop, opnd, ofValue, putT, abin, headS, ofL, noPtr, acall, adopt_bool, adopt_int, adopt_str, adopt_agg, adopt_clip, AV.bare, upd_false, AV.cells, partOf, setCells, fillC, AV.isVal, List.range, List.range.loop, ofB, mayRead, dsts, planRo, capIds, viewed, scalarR, AV.scalar, strs]
  refine loop_by (fun i => l.length - i) (fun (i : Nat) t m => i ≤ l.length ∧ idxIn x l 0 = idxIn x (l.drop i) i ∧ clean (lvIndex 2) t m = headS [(0, .sl 1 (l.map fun s => [.str s]) tok), (1, .str x), (7, .int .i64 l.length), (8, .int .i64 i)] []) ?_ 0 ?_
  · intro i t m ⟨hi, hr, hS⟩ ih
    refine round_of hS ?_
    by_cases h1 : i < l.length
    · have hd := idxIn_drop x l i h1
      have w1 : IntKind.i64.wrap ((i : Int) + 1) = i + 1 := wrap_i64 (by omega) (by omega)
      cases h2 : x == l[i]
      · simp [evCode_exit, evCode_seq, evCode_plain, evCode_draw, evCode_cond, evCode_ret, evCode_skip, evCode_block, evCode_loop, roundK_normal, roundK_exit, roundK_ret, seqK_normal, seqK_exit, seqK_ret, blockK_normal, blockK_exit, blockK_ret, regK_eq, evOps_nil, evOps_cons, params, astep, okDst, isWanted, aop, opnd, ofValue, putT, abin, headS, ofL, noPtr, acall, adopt_bool, adopt_int, adopt_str, adopt_agg, adopt_clip, AV.bare, upd_false, AV.cells, partOf, setCells, fillC, AV.isVal, List.range, List.range.loop, ofB, mayRead, dsts, planRo, capIds, viewed, scalarR, AV.scalar, h2, h1, w1, strs]
        rw [h2] at hd
        refine ih (i + 1) _ _ (by omega) ⟨by omega, by rw [hr, hd]; simp, ?_⟩
        rcases ht with rfl | rfl <;> simp [clean, keepBoxes, relabB, relabL, relab1, cleanS, fixPtr, headS, ofL, ofB, cellsOfB, namesOf, rowName, upd_false, AV.cells, lvIndex, lvL, strs]
      · simp [evCode_exit, evCode_seq, evCode_plain, evCode_draw, evCode_cond, evCode_ret, evCode_skip, evCode_block, evCode_loop, roundK_normal, roundK_exit, roundK_ret, seqK_normal, seqK_exit, seqK_ret, blockK_normal, blockK_exit, blockK_ret, regK_eq, evOps_nil, evOps_cons, params, astep, okDst, isWanted, aop, opnd, ofValue, putT, abin, headS, ofL, noPtr, acall, adopt_bool, adopt_int, adopt_str, adopt_agg, adopt_clip, AV.bare, upd_false, AV.cells, partOf, setCells, fillC, AV.isVal, List.range, List.range.loop, ofB, mayRead, dsts, planRo, capIds, viewed, scalarR, AV.scalar, finK, freezeT, avAll, resOf, outBoxes, relabB, relabL, relab1, noPtr, AV.untup, h2, h1, strs]
        rw [h2] at hd
        rw [hr, hd]; rfl
    · simp [evCode_exit, evCode_seq, evCode_plain, evCode_draw, evCode_cond, evCode_ret, evCode_skip, evCode_block, evCode_loop, roundK_normal, roundK_exit, roundK_ret, seqK_normal, seqK_exit, seqK_ret, blockK_normal, blockK_exit, blockK_ret, regK_eq, evOps_nil, evOps_cons, params, astep, okDst, isWanted, aop, opnd, ofValue, putT, abin, headS, ofL, noPtr, acall, adopt_bool, adopt_int, adopt_str, adopt_agg, adopt_clip, AV.bare, upd_false, AV.cells, partOf, setCells, fillC, AV.isVal, List.range, List.range.loop, ofB, mayRead, dsts, planRo, capIds, viewed, scalarR, AV.scalar, finK, freezeT, avAll, resOf, outBoxes, relabB, relabL, relab1, noPtr, AV.untup, h1, strs]
      have : i = l.length := by omega
      subst this
      simp [idxIn] at hr ⊢; omega
  · refine ⟨by omega, by simp, ?_⟩
    rcases ht with rfl | rfl <;> simp [clean, keepBoxes, relabB, relabL, relab1, cleanS, fixPtr, headS, ofL, ofB, cellsOfB, namesOf, rowName, upd_false, AV.cells, lvIndex, lvL, strs]
theorem contains_ev (l : List Str) (x : Str) (tok : Tok) (ht : tok = .clip ∨ tok = .none) (hl : l.length < 2 ^ 62) : evc plan 28 [.sl 1 (strs l) tok, .str x] [] = some (.bool (decide (0 ≤ idxIn x l 0)), []) := by
  refine evc_start plan (P := Tryd.prog) (ro := planRo) rfl rfl rfl rfl rfl rfl (by simp) rfl ?_
  have h1 := index_ev l x tok ht hl
  rcases ht with rfl | rfl <;> simp [evCode_exit, evCode_seq, evCode_plain, evCode_draw, evCode_cond, evCode_ret, evCode_skip, evCode_block, evCode_loop, roundK_normal, roundK_exit, roundK_ret, seqK_normal, seqK_exit, seqK_ret, blockK_normal, blockK_exit, blockK_ret, regK_eq, evOps_nil, evOps_cons, params, astep, okDst, isWanted, aop, opnd, ofValue, putT, abin, headS, ofL, noPtr, acall, adopt_bool, adopt_int, adopt_str, adopt_agg, adopt_clip, AV.bare, upd_false, AV.cells, partOf, setCells, fillC, AV.isVal, List.range, List.range.loop, ofB, mayRead, dsts, planRo, capIds, viewed, scalarR, AV.scalar, finK, freezeT, avAll, resOf, outBoxes, relabB, relabL, relab1, noPtr, AV.untup, h1]
end Go.Proofs.YtlmmgblghgmgeaaDoor
