/- Comments. -/
import Derived.Test.YtlmmgblghgmgeaaDoorWalkF
namespace Go.Proofs.YtlmmgblghgmgeaaDoor
open Go Ev
set_option maxRecDepth 100000
set_option linter.unusedSimpArgs false

/-- How much is left of a text, from a place on. -/
def left (l : List Str) (i j : Nat) : Nat := ((l.drop i).map fun s => s.length + 1).sum - j
theorem left_here (l : List Str) (i : Nat) (h : i < l.length) : ((l.drop i).map fun s => s.length + 1).sum = l[i].length + 1 + ((l.drop (i + 1)).map fun s => s.length + 1).sum := by
  rw [List.drop_eq_getElem_cons h, List.map_cons, List.sum_cons]
/-- A comment, read on from a place in it: does it end, and where. -/
def comGo (l : List Str) : Nat → Nat → Nat → Int → Bool × Nat × Nat
  | 0, i, j, _ => (false, i, j)
  | n + 1, i, j, d =>
    if h : i < l.length then
      (if l[i].drop j == [] then comGo l n (i + 1) 0 d
      else if hasPre (l[i].drop j) [40, 42] then comGo l n i (j + 2) (d + 1)
      else if hasPre (l[i].drop j) [42, 41] then (if d - 1 == 0 then (true, i, j + 2) else comGo l n i (j + 2) (d - 1))
      else comGo l n i (j + 1) d)
    else (false, i, j)
theorem comment_ev (l : List Str) (tk : Tok) (ht : tk = .clip ∨ tk = .none) (i j : Nat) (ts cs : List (List AV)) (hl : l.length < 2 ^ 40) (hc : ∀ s ∈ l, s.length < 2 ^ 40) (hj : ∀ h : i < l.length, j ≤ l[i].length) (n : Nat) (hn : left l i j < n) (hn2 : n < 2 ^ 60) :
    evc plan 50 [.ptr 0 0] [(0, rd l tk i j ts cs)] = some (.bool (comGo l n i j 0).1, [(0, rd l tk (comGo l n i j 0).2.1 (comGo l n i j 0).2.2 ts cs)]) := by
  refine evc_start plan (P := Tryd.prog) (ro := planRo) rfl rfl rfl rfl rfl rfl (by simp) rfl ?_
  generalize hR : comGo l n i j 0 = R
  simp [dFor_none, storeFine_none, dFor_no, storeFine_no, lessL, lkL, evCode_exit, evCode_seq, evCode_plain, evCode_draw, evCode_cond, evCode_ret, evCode_skip, evCode_block, evCode_loop, roundK_normal, roundK_exit, roundK_ret, seqK_normal, seqK_exit, seqK_ret, blockK_normal, blockK_exit, blockK_ret, regK_eq, evOps_nil, evOps_cons, params, astep, okDst, isWanted, aop, opnd, ofValue, putT, abin, headS, ofL, noPtr, acall, adopt_bool, adopt_int, adopt_str, adopt_agg, adopt_clip, AV.bare, upd_false, AV.cells, partOf, setCells, fillC, AV.isVal, List.range, List.range.loop, ofB, mayRead, dsts, planRo, capIds, viewed, scalarR, AV.scalar]
  refine loop_by (fun (q : Nat × Nat × Nat × Int) => q.1) (fun q t m => left l q.2.1 q.2.2.1 < q.1 ∧ q.2.2.2.natAbs + q.1 ≤ n ∧ (∀ h : q.2.1 < l.length, q.2.2.1 ≤ l[q.2.1].length) ∧ comGo l q.1 q.2.1 q.2.2.1 q.2.2.2 = R ∧ clean (lvComment 2) t m = headS [(0, .ptr 0 0), (3, .int .i64 q.2.2.2)] [(0, rd l tk q.2.1 q.2.2.1 ts cs)]) ?_ (n, i, j, 0) ?_
  · rintro ⟨k, i, j, d⟩ t m ⟨hk, hd, hj, hr, hS⟩ ih
    simp only at hk hd hj hr hS ih
    refine round_of hS ?_
    by_cases h1 : i < l.length
    · have h1' : ¬ l.length ≤ i := by omega
      have hj := hj h1
      have hlen := hc l[i] (List.getElem_mem h1)
      have hb : ∀ x y : AV, evc plan 47 [.eptr [.sl 1 (strs l) tk, .int .i64 i, .int .i64 j, x, y]] [] = some (.str (l[i].drop j), []) := fun x y => rest_ev l tk i j x y h1 hj
      have w1 : IntKind.i64.wrap (d + 1) = d + 1 := wrap_i64 (by omega) (by omega)
      have w2 : IntKind.i64.wrap (d - 1) = d - 1 := wrap_i64 (by omega) (by omega)
      have e1 := turn_ev l tk ht i j ts cs (by omega) (by omega)
      have e2 := advance_ev l tk ht i j 2 ts cs (by omega) (by omega)
      have e3 := advance_ev l tk ht i j 1 ts cs (by omega) (by omega)
      unfold rd at e1 e2 e3
      have hlh := left_here l i h1
      obtain ⟨k, rfl⟩ : ∃ k', k = k' + 1 := ⟨k - 1, by omega⟩
      simp only [comGo, h1, dif_pos] at hr
      have hne : (l[i].drop j == []) = false → j < l[i].length := fun h => by
        rcases Nat.lt_or_ge j l[i].length with h' | h'
        · exact h'
        · rw [List.drop_eq_nil_of_le h'] at h; simp at h
      have two_le : ∀ {a b : UInt8}, hasPre (l[i].drop j) [a, b] = true → j + 2 ≤ l[i].length := fun h => by
        simp only [hasPre, Bool.and_eq_true, decide_eq_true_eq, List.length_cons, List.length_nil, List.length_drop] at h
        omega
      unfold left at hk
      cases h2 : (l[i].drop j == [])
      · have hjl := hne h2
        cases h3 : hasPre (l[i].drop j) [40, 42]
        · cases h4 : hasPre (l[i].drop j) [42, 41]
          · simp only [h2, h3, h4, Bool.false_eq_true, if_false] at hr
            rcases ht with rfl | rfl <;> simp [dFor_none, storeFine_none, dFor_no, storeFine_no, lessL, lkL, evCode_exit, evCode_seq, evCode_plain, evCode_draw, evCode_cond, evCode_ret, evCode_skip, evCode_block, evCode_loop, roundK_normal, roundK_exit, roundK_ret, seqK_normal, seqK_exit, seqK_ret, blockK_normal, blockK_exit, blockK_ret, regK_eq, evOps_nil, evOps_cons, params, astep, okDst, isWanted, aop, opnd, ofValue, putT, abin, headS, ofL, noPtr, acall, adopt_bool, adopt_int, adopt_str, adopt_agg, adopt_clip, AV.bare, upd_false, AV.cells, partOf, setCells, fillC, AV.isVal, List.range, List.range.loop, ofB, mayRead, dsts, planRo, capIds, viewed, scalarR, AV.scalar, passed, setBoxes, killNames, addNames, freshAll, adopt, resParts, resBack, relabB, relabL, relab1, namesOf, cellsOfB, rowName, boxName, over_ev, hb, h1', h2, h3, h4, pre_ev, e3, rd]
            all_goals refine ih (k, i, j + 1, d) _ _ (by simp) ⟨by simp only [left]; omega, by simp only; omega, fun _ => by simp only; omega, hr, ?_⟩
            all_goals simp [clean, keepBoxes, relabB, relabL, relab1, cleanS, fixPtr, headS, ofL, ofB, cellsOfB, namesOf, rowName, upd_false, AV.cells, passed, setBoxes, killNames, addNames, freshAll, adopt, resParts, resBack, relabB, relabL, relab1, namesOf, cellsOfB, rowName, boxName, lvComment, lvL, rd, growOf]
          · simp only [h2, h3, h4, Bool.false_eq_true, if_false, if_true] at hr
            cases h5 : (d - 1 == 0)
            · simp only [h5, Bool.false_eq_true, if_false] at hr
              rcases ht with rfl | rfl <;> simp [dFor_none, storeFine_none, dFor_no, storeFine_no, lessL, lkL, evCode_exit, evCode_seq, evCode_plain, evCode_draw, evCode_cond, evCode_ret, evCode_skip, evCode_block, evCode_loop, roundK_normal, roundK_exit, roundK_ret, seqK_normal, seqK_exit, seqK_ret, blockK_normal, blockK_exit, blockK_ret, regK_eq, evOps_nil, evOps_cons, params, astep, okDst, isWanted, aop, opnd, ofValue, putT, abin, headS, ofL, noPtr, acall, adopt_bool, adopt_int, adopt_str, adopt_agg, adopt_clip, AV.bare, upd_false, AV.cells, partOf, setCells, fillC, AV.isVal, List.range, List.range.loop, ofB, mayRead, dsts, planRo, capIds, viewed, scalarR, AV.scalar, passed, setBoxes, killNames, addNames, freshAll, adopt, resParts, resBack, relabB, relabL, relab1, namesOf, cellsOfB, rowName, boxName, over_ev, hb, h1', h2, h3, h4, h5, w2, pre_ev, e2, rd]
              all_goals refine ih (k, i, j + 2, d - 1) _ _ (by simp) ⟨by simp only [left]; have := two_le h4; omega, by simp only; omega, fun _ => by simp only; have := two_le h4; omega, hr, ?_⟩
              all_goals simp [clean, keepBoxes, relabB, relabL, relab1, cleanS, fixPtr, headS, ofL, ofB, cellsOfB, namesOf, rowName, upd_false, AV.cells, passed, setBoxes, killNames, addNames, freshAll, adopt, resParts, resBack, relabB, relabL, relab1, namesOf, cellsOfB, rowName, boxName, lvComment, lvL, rd, growOf]
            · simp only [h5, if_true] at hr
              subst hr
              rcases ht with rfl | rfl <;> simp [dFor_none, storeFine_none, dFor_no, storeFine_no, lessL, lkL, evCode_exit, evCode_seq, evCode_plain, evCode_draw, evCode_cond, evCode_ret, evCode_skip, evCode_block, evCode_loop, roundK_normal, roundK_exit, roundK_ret, seqK_normal, seqK_exit, seqK_ret, blockK_normal, blockK_exit, blockK_ret, regK_eq, evOps_nil, evOps_cons, params, astep, okDst, isWanted, aop, opnd, ofValue, putT, abin, headS, ofL, noPtr, acall, adopt_bool, adopt_int, adopt_str, adopt_agg, adopt_clip, AV.bare, upd_false, AV.cells, partOf, setCells, fillC, AV.isVal, List.range, List.range.loop, ofB, mayRead, dsts, planRo, capIds, viewed, scalarR, AV.scalar, passed, setBoxes, killNames, addNames, freshAll, adopt, resParts, resBack, relabB, relabL, relab1, namesOf, cellsOfB, rowName, boxName, finK, freezeT, avAll, resOf, outBoxes, relabB, relabL, relab1, noPtr, AV.untup, over_ev, hb, h1', h2, h3, h4, h5, w2, pre_ev, e2, rd]
        · simp only [h2, h3, Bool.false_eq_true, if_false, if_true] at hr
          rcases ht with rfl | rfl <;> simp [dFor_none, storeFine_none, dFor_no, storeFine_no, lessL, lkL, evCode_exit, evCode_seq, evCode_plain, evCode_draw, evCode_cond, evCode_ret, evCode_skip, evCode_block, evCode_loop, roundK_normal, roundK_exit, roundK_ret, seqK_normal, seqK_exit, seqK_ret, blockK_normal, blockK_exit, blockK_ret, regK_eq, evOps_nil, evOps_cons, params, astep, okDst, isWanted, aop, opnd, ofValue, putT, abin, headS, ofL, noPtr, acall, adopt_bool, adopt_int, adopt_str, adopt_agg, adopt_clip, AV.bare, upd_false, AV.cells, partOf, setCells, fillC, AV.isVal, List.range, List.range.loop, ofB, mayRead, dsts, planRo, capIds, viewed, scalarR, AV.scalar, passed, setBoxes, killNames, addNames, freshAll, adopt, resParts, resBack, relabB, relabL, relab1, namesOf, cellsOfB, rowName, boxName, over_ev, hb, h1', h2, h3, w1, pre_ev, e2, rd]
          all_goals refine ih (k, i, j + 2, d + 1) _ _ (by simp) ⟨by simp only [left]; have := two_le h3; omega, by simp only; omega, fun _ => by simp only; have := two_le h3; omega, hr, ?_⟩
          all_goals simp [clean, keepBoxes, relabB, relabL, relab1, cleanS, fixPtr, headS, ofL, ofB, cellsOfB, namesOf, rowName, upd_false, AV.cells, passed, setBoxes, killNames, addNames, freshAll, adopt, resParts, resBack, relabB, relabL, relab1, namesOf, cellsOfB, rowName, boxName, lvComment, lvL, rd, growOf]
      · simp only [h2, if_true] at hr
        rcases ht with rfl | rfl <;> simp [dFor_none, storeFine_none, dFor_no, storeFine_no, lessL, lkL, evCode_exit, evCode_seq, evCode_plain, evCode_draw, evCode_cond, evCode_ret, evCode_skip, evCode_block, evCode_loop, roundK_normal, roundK_exit, roundK_ret, seqK_normal, seqK_exit, seqK_ret, blockK_normal, blockK_exit, blockK_ret, regK_eq, evOps_nil, evOps_cons, params, astep, okDst, isWanted, aop, opnd, ofValue, putT, abin, headS, ofL, noPtr, acall, adopt_bool, adopt_int, adopt_str, adopt_agg, adopt_clip, AV.bare, upd_false, AV.cells, partOf, setCells, fillC, AV.isVal, List.range, List.range.loop, ofB, mayRead, dsts, planRo, capIds, viewed, scalarR, AV.scalar, passed, setBoxes, killNames, addNames, freshAll, adopt, resParts, resBack, relabB, relabL, relab1, namesOf, cellsOfB, rowName, boxName, over_ev, hb, h1', h2, pre_ev, e1, rd]
        all_goals refine ih (k, i + 1, 0, d) _ _ (by simp) ⟨by simp only [left]; omega, by simp only; omega, fun _ => by simp only; omega, hr, ?_⟩
        all_goals simp [clean, keepBoxes, relabB, relabL, relab1, cleanS, fixPtr, headS, ofL, ofB, cellsOfB, namesOf, rowName, upd_false, AV.cells, passed, setBoxes, killNames, addNames, freshAll, adopt, resParts, resBack, relabB, relabL, relab1, namesOf, cellsOfB, rowName, boxName, lvComment, lvL, rd, growOf]
    · obtain ⟨k, rfl⟩ : ∃ k', k = k' + 1 := ⟨k - 1, by omega⟩
      simp only [comGo, h1, dif_neg, not_false_eq_true] at hr
      subst hr
      have h1' : l.length ≤ i := by omega
      rcases ht with rfl | rfl <;> simp [dFor_none, storeFine_none, dFor_no, storeFine_no, lessL, lkL, evCode_exit, evCode_seq, evCode_plain, evCode_draw, evCode_cond, evCode_ret, evCode_skip, evCode_block, evCode_loop, roundK_normal, roundK_exit, roundK_ret, seqK_normal, seqK_exit, seqK_ret, blockK_normal, blockK_exit, blockK_ret, regK_eq, evOps_nil, evOps_cons, params, astep, okDst, isWanted, aop, opnd, ofValue, putT, abin, headS, ofL, noPtr, acall, adopt_bool, adopt_int, adopt_str, adopt_agg, adopt_clip, AV.bare, upd_false, AV.cells, partOf, setCells, fillC, AV.isVal, List.range, List.range.loop, ofB, mayRead, dsts, planRo, capIds, viewed, scalarR, AV.scalar, passed, setBoxes, killNames, addNames, freshAll, adopt, resParts, resBack, relabB, relabL, relab1, namesOf, cellsOfB, rowName, boxName, finK, freezeT, avAll, resOf, outBoxes, relabB, relabL, relab1, noPtr, AV.untup, over_ev, h1', rd]
  · refine ⟨hn, by simp, hj, hR, ?_⟩
    rcases ht with rfl | rfl <;> simp [clean, keepBoxes, relabB, relabL, relab1, cleanS, fixPtr, headS, ofL, ofB, cellsOfB, namesOf, rowName, upd_false, AV.cells, lvComment, lvL, rd, strs, boxName]
end Go.Proofs.YtlmmgblghgmgeaaDoor
