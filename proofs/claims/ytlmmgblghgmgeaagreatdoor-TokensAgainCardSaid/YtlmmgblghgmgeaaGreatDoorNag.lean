/- The texts WalkJ, merged. -/
import Derived.Test.YtlmmgblghgmgeaaGreatDoorNaf
set_option linter.unusedVariables false
set_option linter.unusedSimpArgs false
/- One step of the reader, evaluated. -/
namespace Go.Proofs.YtlmmgblghgmgeaaGreatDoor
open Go Ev
set_option maxRecDepth 100000
set_option linter.unusedSimpArgs false

set_option maxHeartbeats 4000000 in
theorem next_ev (l : List Str) (tk : Tok) (ht : tk = .clip ∨ tk = .none) (s : St) (hl : l.length < 2 ^ 40) (hc : ∀ x ∈ l, x.length < 2 ^ 40) (hi : s.i < l.length) (hj : s.j ≤ l[s.i].length)
    (hts : s.ts.length < 2 ^ 40) (hcs : s.cs.length < 2 ^ 40) (n : Nat) (hn : left l s.i s.j < n) (hn2 : n < 2 ^ 60) :
    evc plan 68 [.ptr 0 0] [(0, rdS l tk s)] = some (.int .i64 (nextGo l n s).1, [(0, rdS l tk (nextGo l n s).2)]) := by
  obtain ⟨i, j, ts, cs⟩ := s
  simp only at hi hj hts hcs hn
  refine evc_start plan (P := Tryz.prog) (ro := planRo) rfl rfl rfl rfl rfl rfl (by simp) rfl ?_
  have hb : ∀ x y : AV, evc plan 85 [.eptr [.sl 1 (strs l) tk, .int .i64 i, .int .i64 j, x, y]] [] = some (.str (l[i].drop j), []) := fun x y => rest_ev l tk i j x y hi hj
  have hg : l.getD i [] = l[i] := by simp [List.getD_eq_getElem?_getD, hi]
  have hlen := hc l[i] (List.getElem_mem hi)
  have hdl : (l[i].drop j).length = l[i].length - j := List.length_drop
  unfold nextGo
  simp only [hg]
  generalize hs : l[i].drop j = s at hb hdl
  cases s with
  | nil =>
    have e1 := turn_ev l tk ht i j (ts.map tkC) (cs.map spC) (by omega) (by omega)
    unfold rd at e1
    rcases ht with rfl | rfl <;> simp [dFor_none, storeFine_none, dFor_no, storeFine_no, lessL, lkL, evCode_exit, evCode_seq, evCode_plain, evCode_draw, evCode_cond, evCode_ret, evCode_skip, evCode_block, evCode_loop, roundK_normal, roundK_exit, roundK_ret, seqK_normal, seqK_exit, seqK_ret, blockK_normal, blockK_exit, blockK_ret, regK_eq, evOps_nil, evOps_cons, params, astep, okDst, isWanted, aop, opnd, ofValue, putT, abin, headS, ofL, noPtr, acall, adopt_bool, adopt_int, adopt_str, adopt_agg, adopt_clip, AV.bare, upd_false, AV.cells, partOf, setCells, fillC, AV.isVal, List.range, List.range.loop, ofB, mayRead, dsts, planRo, capIds, viewed, scalarR, AV.scalar, passed, setBoxes, killNames, addNames, freshAll, adopt, resParts, resBack, relabB, relabL, relab1, namesOf, cellsOfB, rowName, boxName, finK, freezeT, avAll, resOf, outBoxes, relabB, relabL, relab1, noPtr, AV.untup, hb, rdS, rd, e1]
  | cons c r =>
    simp only [List.length_cons] at hdl
    dsimp only
    have e1 := advance_ev l tk ht i j 1 (ts.map tkC) (cs.map spC) (by omega) (by omega)
    have e2 := advance_ev l tk ht i j (r.length + 1) (ts.map tkC) (cs.map spC) (by omega) (by omega)
    have e3 := comment_ev l tk ht i j (ts.map tkC) (cs.map spC) hl hc (fun _ => hj) n hn hn2
    have hp := piece_ev c r (by omega)
    rw [pieceOf_eq] at hp
    have hpl := pieceT_len c r
    generalize hP : pieceT c r = p at hp hpl ⊢
    generalize hQ : comGo l n i j 0 = q at e3 ⊢
    obtain ⟨q1, q2, q3⟩ := q
    obtain ⟨pk, pl, pe⟩ := p
    simp only at hp hpl e3
    unfold piece at hp
    unfold rd at e1 e2 e3
    cases h1 : ((c.toNat : Int) == 32)
    · cases h2 : hasPre (c :: r) [40, 42]
      · cases h3 : hasPre (c :: r) [92, 42]
        · cases h4 : hasPre (c :: r) [42, 41]
          · cases h5 : (pe != 0)
            · have h6 : pe = 0 := by simpa using h5
              obtain ⟨h7, h8⟩ := hpl h6
              have e4 := advance_ev l tk ht i j pl (ts.map tkC ++ [[.int .i64 pk, .str ((c :: r).take pl.toNat), .int .i64 i, .int .i64 j]]) (cs.map spC) (by omega) (by omega)
              unfold rd at e4
              have h9 : 0 ≤ pl := by omega
              have h10 : pl.toNat ≤ r.length + 1 := by omega
              have h11 : max pl 0 = pl := by omega
              have h12 : ((ts.length : Int) + 1) * 40 ≤ 70368744177664 := by omega
              have h13 : (ts.length + 1) * 40 ≤ 70368744177664 := by omega
              rcases ht with rfl | rfl <;> simp [dFor_none, storeFine_none, dFor_no, storeFine_no, lessL, lkL, evCode_exit, evCode_seq, evCode_plain, evCode_draw, evCode_cond, evCode_ret, evCode_skip, evCode_block, evCode_loop, roundK_normal, roundK_exit, roundK_ret, seqK_normal, seqK_exit, seqK_ret, blockK_normal, blockK_exit, blockK_ret, regK_eq, evOps_nil, evOps_cons, params, astep, okDst, isWanted, aop, opnd, ofValue, putT, abin, headS, ofL, noPtr, acall, adopt_bool, adopt_int, adopt_str, adopt_agg, adopt_clip, AV.bare, upd_false, AV.cells, partOf, setCells, fillC, AV.isVal, List.range, List.range.loop, ofB, mayRead, dsts, planRo, capIds, viewed, scalarR, AV.scalar, passed, setBoxes, killNames, addNames, freshAll, adopt, resParts, resBack, relabB, relabL, relab1, namesOf, cellsOfB, rowName, boxName, finK, freezeT, avAll, resOf, outBoxes, relabB, relabL, relab1, noPtr, AV.untup, hb, rdS, rd, tkC, h1, h2, h3, h4, h5, pre_ev, hp, e4, aslice, abound, h9, h10, h11, h13, aappend]
            · rcases ht with rfl | rfl <;> simp [dFor_none, storeFine_none, dFor_no, storeFine_no, lessL, lkL, evCode_exit, evCode_seq, evCode_plain, evCode_draw, evCode_cond, evCode_ret, evCode_skip, evCode_block, evCode_loop, roundK_normal, roundK_exit, roundK_ret, seqK_normal, seqK_exit, seqK_ret, blockK_normal, blockK_exit, blockK_ret, regK_eq, evOps_nil, evOps_cons, params, astep, okDst, isWanted, aop, opnd, ofValue, putT, abin, headS, ofL, noPtr, acall, adopt_bool, adopt_int, adopt_str, adopt_agg, adopt_clip, AV.bare, upd_false, AV.cells, partOf, setCells, fillC, AV.isVal, List.range, List.range.loop, ofB, mayRead, dsts, planRo, capIds, viewed, scalarR, AV.scalar, passed, setBoxes, killNames, addNames, freshAll, adopt, resParts, resBack, relabB, relabL, relab1, namesOf, cellsOfB, rowName, boxName, finK, freezeT, avAll, resOf, outBoxes, relabB, relabL, relab1, noPtr, AV.untup, hb, rdS, rd, h1, h2, h3, h4, h5, pre_ev, hp]
          · rcases ht with rfl | rfl <;> simp [dFor_none, storeFine_none, dFor_no, storeFine_no, lessL, lkL, evCode_exit, evCode_seq, evCode_plain, evCode_draw, evCode_cond, evCode_ret, evCode_skip, evCode_block, evCode_loop, roundK_normal, roundK_exit, roundK_ret, seqK_normal, seqK_exit, seqK_ret, blockK_normal, blockK_exit, blockK_ret, regK_eq, evOps_nil, evOps_cons, params, astep, okDst, isWanted, aop, opnd, ofValue, putT, abin, headS, ofL, noPtr, acall, adopt_bool, adopt_int, adopt_str, adopt_agg, adopt_clip, AV.bare, upd_false, AV.cells, partOf, setCells, fillC, AV.isVal, List.range, List.range.loop, ofB, mayRead, dsts, planRo, capIds, viewed, scalarR, AV.scalar, passed, setBoxes, killNames, addNames, freshAll, adopt, resParts, resBack, relabB, relabL, relab1, namesOf, cellsOfB, rowName, boxName, finK, freezeT, avAll, resOf, outBoxes, relabB, relabL, relab1, noPtr, AV.untup, hb, rdS, rd, h1, h2, h3, h4, pre_ev]
        · have h13 : (cs.length + 1) * 32 ≤ 70368744177664 := by omega
          rcases ht with rfl | rfl <;> simp [dFor_none, storeFine_none, dFor_no, storeFine_no, lessL, lkL, evCode_exit, evCode_seq, evCode_plain, evCode_draw, evCode_cond, evCode_ret, evCode_skip, evCode_block, evCode_loop, roundK_normal, roundK_exit, roundK_ret, seqK_normal, seqK_exit, seqK_ret, blockK_normal, blockK_exit, blockK_ret, regK_eq, evOps_nil, evOps_cons, params, astep, okDst, isWanted, aop, opnd, ofValue, putT, abin, headS, ofL, noPtr, acall, adopt_bool, adopt_int, adopt_str, adopt_agg, adopt_clip, AV.bare, upd_false, AV.cells, partOf, setCells, fillC, AV.isVal, List.range, List.range.loop, ofB, mayRead, dsts, planRo, capIds, viewed, scalarR, AV.scalar, passed, setBoxes, killNames, addNames, freshAll, adopt, resParts, resBack, relabB, relabL, relab1, namesOf, cellsOfB, rowName, boxName, finK, freezeT, avAll, resOf, outBoxes, relabB, relabL, relab1, noPtr, AV.untup, hb, rdS, rd, spC, h1, h2, h3, pre_ev, e2, h13, aappend]
      · cases q1
        · rcases ht with rfl | rfl <;> simp [dFor_none, storeFine_none, dFor_no, storeFine_no, lessL, lkL, evCode_exit, evCode_seq, evCode_plain, evCode_draw, evCode_cond, evCode_ret, evCode_skip, evCode_block, evCode_loop, roundK_normal, roundK_exit, roundK_ret, seqK_normal, seqK_exit, seqK_ret, blockK_normal, blockK_exit, blockK_ret, regK_eq, evOps_nil, evOps_cons, params, astep, okDst, isWanted, aop, opnd, ofValue, putT, abin, headS, ofL, noPtr, acall, adopt_bool, adopt_int, adopt_str, adopt_agg, adopt_clip, AV.bare, upd_false, AV.cells, partOf, setCells, fillC, AV.isVal, List.range, List.range.loop, ofB, mayRead, dsts, planRo, capIds, viewed, scalarR, AV.scalar, passed, setBoxes, killNames, addNames, freshAll, adopt, resParts, resBack, relabB, relabL, relab1, namesOf, cellsOfB, rowName, boxName, finK, freezeT, avAll, resOf, outBoxes, relabB, relabL, relab1, noPtr, AV.untup, hb, rdS, rd, h1, h2, pre_ev, e3]
        · have h13 : (cs.length + 1) * 32 ≤ 70368744177664 := by omega
          rcases ht with rfl | rfl <;> simp [dFor_none, storeFine_none, dFor_no, storeFine_no, lessL, lkL, evCode_exit, evCode_seq, evCode_plain, evCode_draw, evCode_cond, evCode_ret, evCode_skip, evCode_block, evCode_loop, roundK_normal, roundK_exit, roundK_ret, seqK_normal, seqK_exit, seqK_ret, blockK_normal, blockK_exit, blockK_ret, regK_eq, evOps_nil, evOps_cons, params, astep, okDst, isWanted, aop, opnd, ofValue, putT, abin, headS, ofL, noPtr, acall, adopt_bool, adopt_int, adopt_str, adopt_agg, adopt_clip, AV.bare, upd_false, AV.cells, partOf, setCells, fillC, AV.isVal, List.range, List.range.loop, ofB, mayRead, dsts, planRo, capIds, viewed, scalarR, AV.scalar, passed, setBoxes, killNames, addNames, freshAll, adopt, resParts, resBack, relabB, relabL, relab1, namesOf, cellsOfB, rowName, boxName, finK, freezeT, avAll, resOf, outBoxes, relabB, relabL, relab1, noPtr, AV.untup, hb, rdS, rd, spC, h1, h2, pre_ev, e3, h13, aappend]
    · rcases ht with rfl | rfl <;> simp [dFor_none, storeFine_none, dFor_no, storeFine_no, lessL, lkL, evCode_exit, evCode_seq, evCode_plain, evCode_draw, evCode_cond, evCode_ret, evCode_skip, evCode_block, evCode_loop, roundK_normal, roundK_exit, roundK_ret, seqK_normal, seqK_exit, seqK_ret, blockK_normal, blockK_exit, blockK_ret, regK_eq, evOps_nil, evOps_cons, params, astep, okDst, isWanted, aop, opnd, ofValue, putT, abin, headS, ofL, noPtr, acall, adopt_bool, adopt_int, adopt_str, adopt_agg, adopt_clip, AV.bare, upd_false, AV.cells, partOf, setCells, fillC, AV.isVal, List.range, List.range.loop, ofB, mayRead, dsts, planRo, capIds, viewed, scalarR, AV.scalar, passed, setBoxes, killNames, addNames, freshAll, adopt, resParts, resBack, relabB, relabL, relab1, namesOf, cellsOfB, rowName, boxName, finK, freezeT, avAll, resOf, outBoxes, relabB, relabL, relab1, noPtr, AV.untup, hb, rdS, rd, h1, e1]
end Go.Proofs.YtlmmgblghgmgeaaGreatDoor
