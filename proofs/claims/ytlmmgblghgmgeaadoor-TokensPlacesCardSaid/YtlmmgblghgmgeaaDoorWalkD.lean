/- The longest symbol; what a text begins with. -/
import Derived.Test.YtlmmgblghgmgeaaDoorWalkC
namespace Go.Proofs.YtlmmgblghgmgeaaDoor
open Go Ev
set_option maxRecDepth 100000
set_option linter.unusedSimpArgs false

def maxI (a b : Int) : Int := if b > a then b else a
/-- The longest of some texts with which another one begins. -/
def longest (s : Str) (n : Int) (l : List Str) : Int := l.foldl (fun n x => if hasPre s x then maxI n x.length else n) n
theorem longest_take (s : Str) (n : Int) (l : List Str) (i : Nat) (h : i < l.length) : longest s n (l.take (i + 1)) = if hasPre s l[i] then maxI (longest s n (l.take i)) l[i].length else longest s n (l.take i) := by
  unfold longest
  rw [List.take_succ_eq_append_getElem h, List.foldl_append]
  rfl
def symPiece (c : UInt8) (s : Str) : AV :=
  let n := longest (c :: s) (longest (c :: s) 0 plainL) (othersL.map (·.1))
  let k : Int := run (fun b => letterB b.toNat) s
  if ((c.toNat : Int) == 92) && decide (k > 0) then piece 4 (k + 1) (if (n != k + 1) then 8 else 0) else piece 4 n (if (n == 0) then 8 else 0)
theorem symbol_ev (c : UInt8) (s : Str) (hl : s.length < 2 ^ 61) : evc plan 75 [.str (c :: s)] [] = some (symPiece c s, []) := by
  refine evc_start plan (P := Tryd.prog) (ro := planRo) rfl rfl rfl rfl rfl rfl (by simp) rfl ?_
  have hp := plain_ev
  have ho := others_ev
  have had : ∀ (d : Nat) (m : Mem) (z : Nat) (els : List (List AV)), adopt d [] m (.sl z els .clip) = some (.sl z els .clip, m) := fun d m z els => by
    simp [adopt, resParts, relabL, relab1, noPtr, freshAll, rowName, resBack, addNames_plain (v := .sl z els .clip) rfl]
  simp [dFor_none, storeFine_none, dFor_no, storeFine_no, lessL, lkL, evCode_exit, evCode_seq, evCode_plain, evCode_draw, evCode_cond, evCode_ret, evCode_skip, evCode_block, evCode_loop, roundK_normal, roundK_exit, roundK_ret, seqK_normal, seqK_exit, seqK_ret, blockK_normal, blockK_exit, blockK_ret, regK_eq, evOps_nil, evOps_cons, params, astep, okDst, isWanted, aop, opnd, ofValue, putT, abin, headS, ofL, noPtr, acall, adopt_bool, adopt_int, adopt_str, adopt_agg, adopt_clip, AV.bare, upd_false, AV.cells, partOf, setCells, fillC, AV.isVal, List.range, List.range.loop, ofB, mayRead, dsts, planRo, capIds, viewed, scalarR, AV.scalar, hp, had]
  refine loop_by (fun i => plainL.length - i) (fun (i : Nat) t m => i ≤ plainL.length ∧ clean (lvSymbol 3) t m = headS [(0, .str (c :: s)), (2, .ptr 500002 0), (3, .int .i64 (longest (c :: s) 0 (plainL.take i))), (9, .sl 1 (strs plainL) .clip), (10, .int .i64 plainL.length), (11, .int .i64 i)] [(500002, [.int .i64 0, .int .i64 0, .int .i64 0])]) ?_ 0 ?_
  · intro i t m ⟨hi, hS⟩ ih
    refine round_of hS ?_
    by_cases h1 : i < plainL.length
    · have hn := longest_take (c :: s) 0 plainL i h1
      have w1 : IntKind.i64.wrap ((i : Int) + 1) = i + 1 := wrap_i64 (by omega) (by have : plainL.length = 65 := rfl; omega)
      cases h2 : hasPre (c :: s) plainL[i]
      · simp [dFor_none, storeFine_none, dFor_no, storeFine_no, lessL, lkL, evCode_exit, evCode_seq, evCode_plain, evCode_draw, evCode_cond, evCode_ret, evCode_skip, evCode_block, evCode_loop, roundK_normal, roundK_exit, roundK_ret, seqK_normal, seqK_exit, seqK_ret, blockK_normal, blockK_exit, blockK_ret, regK_eq, evOps_nil, evOps_cons, params, astep, okDst, isWanted, aop, opnd, ofValue, putT, abin, headS, ofL, noPtr, acall, adopt_bool, adopt_int, adopt_str, adopt_agg, adopt_clip, AV.bare, upd_false, AV.cells, partOf, setCells, fillC, AV.isVal, List.range, List.range.loop, ofB, mayRead, dsts, planRo, capIds, viewed, scalarR, AV.scalar, h1, w1, strs, pre_ev, h2]
        refine ih (i + 1) _ _ (by omega) ⟨by omega, ?_⟩
        rw [hn]
        simp [clean, keepBoxes, relabB, relabL, relab1, cleanS, fixPtr, headS, ofL, ofB, cellsOfB, namesOf, rowName, upd_false, AV.cells, lvSymbol, h2, strs]
      · simp [dFor_none, storeFine_none, dFor_no, storeFine_no, lessL, lkL, evCode_exit, evCode_seq, evCode_plain, evCode_draw, evCode_cond, evCode_ret, evCode_skip, evCode_block, evCode_loop, roundK_normal, roundK_exit, roundK_ret, seqK_normal, seqK_exit, seqK_ret, blockK_normal, blockK_exit, blockK_ret, regK_eq, evOps_nil, evOps_cons, params, astep, okDst, isWanted, aop, opnd, ofValue, putT, abin, headS, ofL, noPtr, acall, adopt_bool, adopt_int, adopt_str, adopt_agg, adopt_clip, AV.bare, upd_false, AV.cells, partOf, setCells, fillC, AV.isVal, List.range, List.range.loop, ofB, mayRead, dsts, planRo, capIds, viewed, scalarR, AV.scalar, h1, w1, strs, pre_ev, h2, aminmax]
        refine ih (i + 1) _ _ (by omega) ⟨by omega, ?_⟩
        rw [hn]
        simp [clean, keepBoxes, relabB, relabL, relab1, cleanS, fixPtr, headS, ofL, ofB, cellsOfB, namesOf, rowName, upd_false, AV.cells, lvSymbol, h2, strs, maxI]
    · have : i = plainL.length := by omega
      subst this
      clear ih hS
      simp only [List.take_length]
      generalize hn0 : longest (c :: s) 0 plainL = n0
      simp [dFor_none, storeFine_none, dFor_no, storeFine_no, lessL, lkL, evCode_exit, evCode_seq, evCode_plain, evCode_draw, evCode_cond, evCode_ret, evCode_skip, evCode_block, evCode_loop, roundK_normal, roundK_exit, roundK_ret, seqK_normal, seqK_exit, seqK_ret, blockK_normal, blockK_exit, blockK_ret, regK_eq, evOps_nil, evOps_cons, params, astep, okDst, isWanted, aop, opnd, ofValue, putT, abin, headS, ofL, noPtr, acall, adopt_bool, adopt_int, adopt_str, adopt_agg, adopt_clip, AV.bare, upd_false, AV.cells, partOf, setCells, fillC, AV.isVal, List.range, List.range.loop, ofB, mayRead, dsts, planRo, capIds, viewed, scalarR, AV.scalar, ho, had]
      refine loop_by (fun i => othersL.length - i) (fun (i : Nat) t m => i ≤ othersL.length ∧ clean (lvSymbol 9) t m = headS [(0, .str (c :: s)), (2, .ptr 500002 0), (3, .int .i64 (longest (c :: s) n0 ((othersL.map (·.1)).take i))), (23, .sl 2 (pairs othersL) .clip), (24, .int .i64 othersL.length), (25, .int .i64 i)] [(500002, [.int .i64 0, .int .i64 0, .int .i64 0])]) ?_ 0 ?_
      · intro i t m ⟨hi, hS⟩ ih
        refine round_of hS ?_
        by_cases h1 : i < othersL.length
        · have hn := longest_take (c :: s) n0 (othersL.map (·.1)) i (by simpa using h1)
          have w1 : IntKind.i64.wrap ((i : Int) + 1) = i + 1 := wrap_i64 (by omega) (by have : othersL.length = 11 := rfl; omega)
          simp only [List.getElem_map] at hn
          cases h2 : hasPre (c :: s) othersL[i].1
          · simp [dFor_none, storeFine_none, dFor_no, storeFine_no, lessL, lkL, evCode_exit, evCode_seq, evCode_plain, evCode_draw, evCode_cond, evCode_ret, evCode_skip, evCode_block, evCode_loop, roundK_normal, roundK_exit, roundK_ret, seqK_normal, seqK_exit, seqK_ret, blockK_normal, blockK_exit, blockK_ret, regK_eq, evOps_nil, evOps_cons, params, astep, okDst, isWanted, aop, opnd, ofValue, putT, abin, headS, ofL, noPtr, acall, adopt_bool, adopt_int, adopt_str, adopt_agg, adopt_clip, AV.bare, upd_false, AV.cells, partOf, setCells, fillC, AV.isVal, List.range, List.range.loop, ofB, mayRead, dsts, planRo, capIds, viewed, scalarR, AV.scalar, h1, w1, pairs, pre_ev, h2]
            refine ih (i + 1) _ _ (by omega) ⟨by omega, ?_⟩
            rw [hn]
            simp [clean, keepBoxes, relabB, relabL, relab1, cleanS, fixPtr, headS, ofL, ofB, cellsOfB, namesOf, rowName, upd_false, AV.cells, lvSymbol, h2, pairs]
          · simp [dFor_none, storeFine_none, dFor_no, storeFine_no, lessL, lkL, evCode_exit, evCode_seq, evCode_plain, evCode_draw, evCode_cond, evCode_ret, evCode_skip, evCode_block, evCode_loop, roundK_normal, roundK_exit, roundK_ret, seqK_normal, seqK_exit, seqK_ret, blockK_normal, blockK_exit, blockK_ret, regK_eq, evOps_nil, evOps_cons, params, astep, okDst, isWanted, aop, opnd, ofValue, putT, abin, headS, ofL, noPtr, acall, adopt_bool, adopt_int, adopt_str, adopt_agg, adopt_clip, AV.bare, upd_false, AV.cells, partOf, setCells, fillC, AV.isVal, List.range, List.range.loop, ofB, mayRead, dsts, planRo, capIds, viewed, scalarR, AV.scalar, h1, w1, pairs, pre_ev, h2, aminmax]
            refine ih (i + 1) _ _ (by omega) ⟨by omega, ?_⟩
            rw [hn]
            simp [clean, keepBoxes, relabB, relabL, relab1, cleanS, fixPtr, headS, ofL, ofB, cellsOfB, namesOf, rowName, upd_false, AV.cells, lvSymbol, h2, pairs, maxI]
        · have : i = othersL.length := by omega
          subst this
          clear ih hS
          rw [show (othersL.map (·.1)).take othersL.length = othersL.map (·.1) from by rw [List.take_of_length_le (by simp)]]
          have hrun := run_ev s 70 [] (fun b => letterB b.toNat) (by omega) rfl rfl (fun b => letter_ev b)
          generalize hn : longest (c :: s) n0 (othersL.map (·.1)) = n
          have hk : run (fun b => letterB b.toNat) s ≤ s.length := (List.takeWhile_prefix _).length_le
          generalize hk' : run (fun b => letterB b.toNat) s = k at hrun hk
          have hsym : symPiece c s = if ((c.toNat : Int) == 92) && decide ((k : Int) > 0) then piece 4 (k + 1) (if (n != (k : Int) + 1) then 8 else 0) else piece 4 n (if (n == 0) then 8 else 0) := by
            unfold symPiece; rw [hn0, hn, hk']
          rw [hsym]
          have w2 : IntKind.i64.wrap ((k : Int) + 1) = k + 1 := wrap_i64 (by omega) (by omega)
          cases h2 : ((c.toNat : Int) == 92)
          · cases h4 : (n == 0) <;> simp [dFor_none, storeFine_none, dFor_no, storeFine_no, lessL, lkL, evCode_exit, evCode_seq, evCode_plain, evCode_draw, evCode_cond, evCode_ret, evCode_skip, evCode_block, evCode_loop, roundK_normal, roundK_exit, roundK_ret, seqK_normal, seqK_exit, seqK_ret, blockK_normal, blockK_exit, blockK_ret, regK_eq, evOps_nil, evOps_cons, params, astep, okDst, isWanted, aop, opnd, ofValue, putT, abin, headS, ofL, noPtr, acall, adopt_bool, adopt_int, adopt_str, adopt_agg, adopt_clip, AV.bare, upd_false, AV.cells, partOf, setCells, fillC, AV.isVal, List.range, List.range.loop, ofB, mayRead, dsts, planRo, capIds, viewed, scalarR, AV.scalar, finK, freezeT, avAll, resOf, outBoxes, relabB, relabL, relab1, noPtr, AV.untup, hrun, h2, h4, aslice, abound, wrong_ev, piece]
          · by_cases h3 : (k : Int) > 0
            · have h3' : 0 < k := by omega
              cases h4 : (n != (k : Int) + 1) <;> simp [dFor_none, storeFine_none, dFor_no, storeFine_no, lessL, lkL, evCode_exit, evCode_seq, evCode_plain, evCode_draw, evCode_cond, evCode_ret, evCode_skip, evCode_block, evCode_loop, roundK_normal, roundK_exit, roundK_ret, seqK_normal, seqK_exit, seqK_ret, blockK_normal, blockK_exit, blockK_ret, regK_eq, evOps_nil, evOps_cons, params, astep, okDst, isWanted, aop, opnd, ofValue, putT, abin, headS, ofL, noPtr, acall, adopt_bool, adopt_int, adopt_str, adopt_agg, adopt_clip, AV.bare, upd_false, AV.cells, partOf, setCells, fillC, AV.isVal, List.range, List.range.loop, ofB, mayRead, dsts, planRo, capIds, viewed, scalarR, AV.scalar, finK, freezeT, avAll, resOf, outBoxes, relabB, relabL, relab1, noPtr, AV.untup, hrun, h2, h3, h3', h4, w2, aslice, abound, wrong_ev, piece]
            · have h3' : ¬ 0 < k := by omega
              cases h4 : (n == 0) <;> simp [dFor_none, storeFine_none, dFor_no, storeFine_no, lessL, lkL, evCode_exit, evCode_seq, evCode_plain, evCode_draw, evCode_cond, evCode_ret, evCode_skip, evCode_block, evCode_loop, roundK_normal, roundK_exit, roundK_ret, seqK_normal, seqK_exit, seqK_ret, blockK_normal, blockK_exit, blockK_ret, regK_eq, evOps_nil, evOps_cons, params, astep, okDst, isWanted, aop, opnd, ofValue, putT, abin, headS, ofL, noPtr, acall, adopt_bool, adopt_int, adopt_str, adopt_agg, adopt_clip, AV.bare, upd_false, AV.cells, partOf, setCells, fillC, AV.isVal, List.range, List.range.loop, ofB, mayRead, dsts, planRo, capIds, viewed, scalarR, AV.scalar, finK, freezeT, avAll, resOf, outBoxes, relabB, relabL, relab1, noPtr, AV.untup, hrun, h2, h3, h3', h4, aslice, abound, wrong_ev, piece]
      · refine ⟨by omega, ?_⟩
        simp [clean, keepBoxes, relabB, relabL, relab1, cleanS, fixPtr, headS, ofL, ofB, cellsOfB, namesOf, rowName, upd_false, AV.cells, lvSymbol, longest, pairs]
  · refine ⟨by omega, ?_⟩
    simp [clean, keepBoxes, relabB, relabL, relab1, cleanS, fixPtr, headS, ofL, ofB, cellsOfB, namesOf, rowName, upd_false, AV.cells, lvSymbol, longest, strs]
end Go.Proofs.YtlmmgblghgmgeaaDoor
