/- Tokens compared; the smaller callers. -/
import Derived.Test.YtlmmgblghgmgeaaDoorTools
namespace Go.Proofs.YtlmmgblghgmgeaaDoor
open Go Ev
set_option maxRecDepth 100000
set_option linter.unusedSimpArgs false

/-- A slice that nobody appends to in place, and that is not nil. -/
def Fx (t : Tok) : Prop := t = .clip ∨ t = .none
theorem bare_fx {t : Tok} (h : Fx t) (z : Nat) (els : List (List AV)) : AV.bare (.sl z els t) = .sl z els t := by rcases h with rfl | rfl <;> rfl
theorem row_fx {t : Tok} (h : Fx t) (z : Nat) (els : List (List AV)) : rowName (.sl z els t) = none := by rcases h with rfl | rfl <;> rfl
theorem relab_fx {t : Tok} (h : Fx t) (names : Nat → Nat → Option Bool) (used : List (Nat × Nat)) (p q : Nat) (g : Option Nat) (z : Nat) (els : List (List AV)) : relab1 names used p q g (.sl z els t) = (.sl z els t, used) := by
  rcases h with rfl | rfl <;> rfl
theorem same_tk_ev (a b : Tk) : evc plan 58 [.agg (tkC a), .agg (tkC b)] [] = some (.bool (a.kind == b.kind && a.text == b.text), []) := by
  refine evc_start plan (P := Tryd.prog) (ro := planRo) rfl rfl rfl rfl rfl rfl (by simp) rfl ?_
  cases h : a.kind == b.kind <;> simp [dFor_none, storeFine_none, dFor_no, storeFine_no, lessL, lkL, evCode_exit, evCode_seq, evCode_plain, evCode_draw, evCode_cond, evCode_ret, evCode_skip, evCode_block, evCode_loop, roundK_normal, roundK_exit, roundK_ret, seqK_normal, seqK_exit, seqK_ret, blockK_normal, blockK_exit, blockK_ret, regK_eq, evOps_nil, evOps_cons, params, astep, okDst, isWanted, aop, opnd, ofValue, putT, abin, headS, ofL, noPtr, acall, adopt_bool, adopt_int, adopt_str, adopt_agg, adopt_clip, AV.bare, upd_false, AV.cells, partOf, setCells, fillC, AV.isVal, List.range, List.range.loop, ofB, mayRead, dsts, planRo, capIds, viewed, scalarR, AV.scalar, finK, freezeT, avAll, resOf, outBoxes, relabB, relabL, relab1, noPtr, AV.untup, tkC, h]
/-- Kinds and texts of tokens compared. -/
def eqKT : List Tk → List Tk → Bool
  | [], [] => true
  | x :: a, y :: b => (x.kind == y.kind && x.text == y.text) && eqKT a b
  | _, _ => false
theorem eqKT_len : ∀ (a b : List Tk), a.length ≠ b.length → eqKT a b = false
  | [], [], h => by simp at h
  | [], _ :: _, _ => rfl
  | _ :: _, [], _ => rfl
  | x :: a, y :: b, h => by
    have := eqKT_len a b (by simpa using h)
    simp [eqKT, this]
theorem eqKT_drop (a b : List Tk) (i : Nat) (h : i < a.length) (h' : i < b.length) : eqKT (a.drop i) (b.drop i) = ((a[i].kind == b[i].kind && a[i].text == b[i].text) && eqKT (a.drop (i + 1)) (b.drop (i + 1))) := by
  rw [List.drop_eq_getElem_cons h, List.drop_eq_getElem_cons h']; rfl
theorem equal_ev (a b : List Tk) (ta tb : Tok) (hta : Fx ta) (htb : Fx tb) (hl : a.length < 2 ^ 62) (hlb : b.length < 2 ^ 62) : evc plan 57 [.sl 4 (a.map tkC) ta, .sl 4 (b.map tkC) tb, .fn 58 []] [] = some (.bool (eqKT a b), []) := by
  refine evc_start plan (P := Tryd.prog) (ro := planRo) rfl rfl rfl rfl rfl rfl (by simp) rfl ?_
  cases h0 : ((a.length : Int) != b.length)
  · have h0' : a.length = b.length := by simp at h0; omega
    simp [dFor_none, storeFine_none, dFor_no, storeFine_no, lessL, lkL, evCode_exit, evCode_seq, evCode_plain, evCode_draw, evCode_cond, evCode_ret, evCode_skip, evCode_block, evCode_loop, roundK_normal, roundK_exit, roundK_ret, seqK_normal, seqK_exit, seqK_ret, blockK_normal, blockK_exit, blockK_ret, regK_eq, evOps_nil, evOps_cons, params, astep, okDst, isWanted, aop, opnd, ofValue, putT, abin, headS, ofL, noPtr, acall, adopt_bool, adopt_int, adopt_str, adopt_agg, adopt_clip, AV.bare, upd_false, AV.cells, partOf, setCells, fillC, AV.isVal, List.range, List.range.loop, ofB, mayRead, dsts, planRo, capIds, viewed, scalarR, AV.scalar, h0]
    refine loop_by (fun i => a.length - i) (fun (i : Nat) t m => i ≤ a.length ∧ eqKT a b = eqKT (a.drop i) (b.drop i) ∧ clean (lvEqual 3) t m = headS [(1, .sl 4 (b.map tkC) tb), (2, .fn 58 []), (15, .sl 4 (a.map tkC) ta), (16, .int .i64 a.length), (17, .int .i64 i)] []) ?_ 0 ?_
    · intro i t m ⟨hi, hr, hS⟩ ih
      refine round_of hS ?_
      by_cases h1 : i < a.length
      · have h2 : i < b.length := by omega
        have hd := eqKT_drop a b i h1 h2
        have w1 : IntKind.i64.wrap ((i : Int) + 1) = i + 1 := wrap_i64 (by omega) (by omega)
        have hsm := same_tk_ev a[i] b[i]
        have e1 : (a.map tkC)[i]? = some (tkC a[i]) := by simp [h1]
        have e2 : (b.map tkC)[i]? = some (tkC b[i]) := by simp [h2]
        unfold tkC at hsm
        cases h3 : (a[i].kind == b[i].kind && a[i].text == b[i].text)
        · rw [h3] at hsm hd
          simp [dFor_none, storeFine_none, dFor_no, storeFine_no, lessL, lkL, evCode_exit, evCode_seq, evCode_plain, evCode_draw, evCode_cond, evCode_ret, evCode_skip, evCode_block, evCode_loop, roundK_normal, roundK_exit, roundK_ret, seqK_normal, seqK_exit, seqK_ret, blockK_normal, blockK_exit, blockK_ret, regK_eq, evOps_nil, evOps_cons, params, astep, okDst, isWanted, aop, opnd, ofValue, putT, abin, headS, ofL, noPtr, acall, adopt_bool, adopt_int, adopt_str, adopt_agg, adopt_clip, AV.bare, upd_false, AV.cells, partOf, setCells, fillC, AV.isVal, List.range, List.range.loop, ofB, mayRead, dsts, planRo, capIds, viewed, scalarR, AV.scalar, finK, freezeT, avAll, resOf, outBoxes, relabB, relabL, relab1, noPtr, AV.untup, h1, h2, w1, hsm, tkC]
          rw [hr, hd]; rfl
        · rw [h3] at hsm hd
          simp [dFor_none, storeFine_none, dFor_no, storeFine_no, lessL, lkL, evCode_exit, evCode_seq, evCode_plain, evCode_draw, evCode_cond, evCode_ret, evCode_skip, evCode_block, evCode_loop, roundK_normal, roundK_exit, roundK_ret, seqK_normal, seqK_exit, seqK_ret, blockK_normal, blockK_exit, blockK_ret, regK_eq, evOps_nil, evOps_cons, params, astep, okDst, isWanted, aop, opnd, ofValue, putT, abin, headS, ofL, noPtr, acall, adopt_bool, adopt_int, adopt_str, adopt_agg, adopt_clip, AV.bare, upd_false, AV.cells, partOf, setCells, fillC, AV.isVal, List.range, List.range.loop, ofB, mayRead, dsts, planRo, capIds, viewed, scalarR, AV.scalar, h1, h2, w1, hsm, tkC]
          refine ih (i + 1) _ _ (by omega) ⟨by omega, by rw [hr, hd]; simp, ?_⟩
          rcases hta with rfl | rfl <;> rcases htb with rfl | rfl <;> simp [clean, keepBoxes, relabB, relabL, relab1, cleanS, fixPtr, headS, ofL, ofB, cellsOfB, namesOf, rowName, upd_false, AV.cells, lvEqual, lvL, tkC]
      · simp [dFor_none, storeFine_none, dFor_no, storeFine_no, lessL, lkL, evCode_exit, evCode_seq, evCode_plain, evCode_draw, evCode_cond, evCode_ret, evCode_skip, evCode_block, evCode_loop, roundK_normal, roundK_exit, roundK_ret, seqK_normal, seqK_exit, seqK_ret, blockK_normal, blockK_exit, blockK_ret, regK_eq, evOps_nil, evOps_cons, params, astep, okDst, isWanted, aop, opnd, ofValue, putT, abin, headS, ofL, noPtr, acall, adopt_bool, adopt_int, adopt_str, adopt_agg, adopt_clip, AV.bare, upd_false, AV.cells, partOf, setCells, fillC, AV.isVal, List.range, List.range.loop, ofB, mayRead, dsts, planRo, capIds, viewed, scalarR, AV.scalar, finK, freezeT, avAll, resOf, outBoxes, relabB, relabL, relab1, noPtr, AV.untup, h1]
        have : i = a.length := by omega
        subst this
        simp [h0', eqKT] at hr ⊢; rw [hr]; simp [← h0', eqKT]
    · refine ⟨by omega, by simp, ?_⟩
      rcases hta with rfl | rfl <;> rcases htb with rfl | rfl <;> simp [clean, keepBoxes, relabB, relabL, relab1, cleanS, fixPtr, headS, ofL, ofB, cellsOfB, namesOf, rowName, upd_false, AV.cells, lvEqual, lvL]
  · have := eqKT_len a b (fun h => by simp [h] at h0)
    simp [dFor_none, storeFine_none, dFor_no, storeFine_no, lessL, lkL, evCode_exit, evCode_seq, evCode_plain, evCode_draw, evCode_cond, evCode_ret, evCode_skip, evCode_block, evCode_loop, roundK_normal, roundK_exit, roundK_ret, seqK_normal, seqK_exit, seqK_ret, blockK_normal, blockK_exit, blockK_ret, regK_eq, evOps_nil, evOps_cons, params, astep, okDst, isWanted, aop, opnd, ofValue, putT, abin, headS, ofL, noPtr, acall, adopt_bool, adopt_int, adopt_str, adopt_agg, adopt_clip, AV.bare, upd_false, AV.cells, partOf, setCells, fillC, AV.isVal, List.range, List.range.loop, ofB, mayRead, dsts, planRo, capIds, viewed, scalarR, AV.scalar, finK, freezeT, avAll, resOf, outBoxes, relabB, relabL, relab1, noPtr, AV.untup, h0, this]
/-- Has a text an odd character? -/
def oddS (s : Str) : Bool := decide (0 ≤ Lib.idxFunc oddRune true ⟨s.toArray⟩)
theorem odd_ev (s : Str) : evc plan 19 [.str s, .fn 20 []] [] = some (.bool (oddS s), []) := evc_ext plan rfl rfl
def lineErr (s : Str) : Int := firstOf [if decide ((s.length : Int) > 120) then 2 else 0, if oddS s then 5 else 0]
/-- The lines of a text checked, from a line on. -/
def linesGo : List Str → Int → Int × Int
  | [], n => (n, 0)
  | s :: r, n => if lineErr s != 0 then (n, lineErr s) else linesGo r (n + 1)
def checkLinesP (l : List Str) : Int × Int := if decide ((l.length : Int) > 300) then (0, 2) else linesGo l 0
theorem linesGo_drop (l : List Str) (i : Nat) (h : i < l.length) : linesGo (l.drop i) i = if lineErr l[i] != 0 then ((i : Int), lineErr l[i]) else linesGo (l.drop (i + 1)) ((i + 1 : Nat) : Int) := by
  rw [List.drop_eq_getElem_cons h]; rfl
theorem lines_ev (l : List Str) (tk : Tok) (ht : Fx tk) (hl : l.length < 2 ^ 62) : evc plan 7 [.sl 1 (strs l) tk] [] = some (.tup [.int .i64 (checkLinesP l).1, .int .i64 (checkLinesP l).2], []) := by
  refine evc_start plan (P := Tryd.prog) (ro := planRo) rfl rfl rfl rfl rfl rfl (by simp) rfl ?_
  cases h0 : decide ((l.length : Int) > 300)
  · have e0 : checkLinesP l = linesGo l 0 := by simp [checkLinesP, h0]
    rw [e0]
    simp [dFor_none, storeFine_none, dFor_no, storeFine_no, lessL, lkL, evCode_exit, evCode_seq, evCode_plain, evCode_draw, evCode_cond, evCode_ret, evCode_skip, evCode_block, evCode_loop, roundK_normal, roundK_exit, roundK_ret, seqK_normal, seqK_exit, seqK_ret, blockK_normal, blockK_exit, blockK_ret, regK_eq, evOps_nil, evOps_cons, params, astep, okDst, isWanted, aop, opnd, ofValue, putT, abin, headS, ofL, noPtr, acall, adopt_bool, adopt_int, adopt_str, adopt_agg, adopt_clip, AV.bare, upd_false, AV.cells, partOf, setCells, fillC, AV.isVal, List.range, List.range.loop, ofB, mayRead, dsts, planRo, capIds, viewed, scalarR, AV.scalar, h0, strs]
    refine loop_by (fun i => l.length - i) (fun (i : Nat) t m => i ≤ l.length ∧ linesGo l 0 = linesGo (l.drop i) i ∧ clean (lvLines 4) t m = headS [(0, .sl 1 (strs l) tk), (10, .sl 1 (strs l) tk), (11, .int .i64 l.length), (12, .int .i64 i)] []) ?_ 0 ?_
    · intro i t m ⟨hi, hr, hS⟩ ih
      refine round_of hS ?_
      by_cases h1 : i < l.length
      · have hd := linesGo_drop l i h1
        have w1 : IntKind.i64.wrap ((i : Int) + 1) = i + 1 := wrap_i64 (by omega) (by omega)
        have ho := or2_ev (if decide ((l[i].length : Int) > 120) then 2 else 0) (if oddS l[i] then 5 else 0)
        rw [show firstOf [if decide ((l[i].length : Int) > 120) then 2 else 0, if oddS l[i] then 5 else 0] = lineErr l[i] from rfl] at ho
        generalize hE : lineErr l[i] = E at ho hd
        cases h2 : E != 0
        · rw [h2] at hd
          cases h3 : decide ((l[i].length : Int) > 120) <;> cases h4 : oddS l[i] <;> simp [h3, h4] at ho <;> simp [dFor_none, storeFine_none, dFor_no, storeFine_no, lessL, lkL, evCode_exit, evCode_seq, evCode_plain, evCode_draw, evCode_cond, evCode_ret, evCode_skip, evCode_block, evCode_loop, roundK_normal, roundK_exit, roundK_ret, seqK_normal, seqK_exit, seqK_ret, blockK_normal, blockK_exit, blockK_ret, regK_eq, evOps_nil, evOps_cons, params, astep, okDst, isWanted, aop, opnd, ofValue, putT, abin, headS, ofL, noPtr, acall, adopt_bool, adopt_int, adopt_str, adopt_agg, adopt_clip, AV.bare, upd_false, AV.cells, partOf, setCells, fillC, AV.isVal, List.range, List.range.loop, ofB, mayRead, dsts, planRo, capIds, viewed, scalarR, AV.scalar, h1, w1, strs, wrong_ev, odd_ev, h3, h4, ho, h2] <;>
            (refine ih (i + 1) _ _ (by omega) ⟨by omega, by rw [hr, hd]; simp, ?_⟩; rcases ht with rfl | rfl <;> simp [clean, keepBoxes, relabB, relabL, relab1, cleanS, fixPtr, headS, ofL, ofB, cellsOfB, namesOf, rowName, upd_false, AV.cells, lvLines, lvL, strs])
        · rw [h2] at hd
          cases h3 : decide ((l[i].length : Int) > 120) <;> cases h4 : oddS l[i] <;> simp [h3, h4] at ho <;> simp [dFor_none, storeFine_none, dFor_no, storeFine_no, lessL, lkL, evCode_exit, evCode_seq, evCode_plain, evCode_draw, evCode_cond, evCode_ret, evCode_skip, evCode_block, evCode_loop, roundK_normal, roundK_exit, roundK_ret, seqK_normal, seqK_exit, seqK_ret, blockK_normal, blockK_exit, blockK_ret, regK_eq, evOps_nil, evOps_cons, params, astep, okDst, isWanted, aop, opnd, ofValue, putT, abin, headS, ofL, noPtr, acall, adopt_bool, adopt_int, adopt_str, adopt_agg, adopt_clip, AV.bare, upd_false, AV.cells, partOf, setCells, fillC, AV.isVal, List.range, List.range.loop, ofB, mayRead, dsts, planRo, capIds, viewed, scalarR, AV.scalar, finK, freezeT, avAll, resOf, outBoxes, relabB, relabL, relab1, noPtr, AV.untup, h1, w1, strs, wrong_ev, odd_ev, h3, h4, ho, h2] <;> (rw [hr, hd]; simp)
      · simp [dFor_none, storeFine_none, dFor_no, storeFine_no, lessL, lkL, evCode_exit, evCode_seq, evCode_plain, evCode_draw, evCode_cond, evCode_ret, evCode_skip, evCode_block, evCode_loop, roundK_normal, roundK_exit, roundK_ret, seqK_normal, seqK_exit, seqK_ret, blockK_normal, blockK_exit, blockK_ret, regK_eq, evOps_nil, evOps_cons, params, astep, okDst, isWanted, aop, opnd, ofValue, putT, abin, headS, ofL, noPtr, acall, adopt_bool, adopt_int, adopt_str, adopt_agg, adopt_clip, AV.bare, upd_false, AV.cells, partOf, setCells, fillC, AV.isVal, List.range, List.range.loop, ofB, mayRead, dsts, planRo, capIds, viewed, scalarR, AV.scalar, finK, freezeT, avAll, resOf, outBoxes, relabB, relabL, relab1, noPtr, AV.untup, h1, strs]
        have : i = l.length := by omega
        subst this
        simp [linesGo] at hr
        rw [hr]; simp
    · refine ⟨by omega, by simp, ?_⟩
      rcases ht with rfl | rfl <;> simp [clean, keepBoxes, relabB, relabL, relab1, cleanS, fixPtr, headS, ofL, ofB, cellsOfB, namesOf, rowName, upd_false, AV.cells, lvLines, lvL, strs]
  · simp [dFor_none, storeFine_none, dFor_no, storeFine_no, lessL, lkL, evCode_exit, evCode_seq, evCode_plain, evCode_draw, evCode_cond, evCode_ret, evCode_skip, evCode_block, evCode_loop, roundK_normal, roundK_exit, roundK_ret, seqK_normal, seqK_exit, seqK_ret, blockK_normal, blockK_exit, blockK_ret, regK_eq, evOps_nil, evOps_cons, params, astep, okDst, isWanted, aop, opnd, ofValue, putT, abin, headS, ofL, noPtr, acall, adopt_bool, adopt_int, adopt_str, adopt_agg, adopt_clip, AV.bare, upd_false, AV.cells, partOf, setCells, fillC, AV.isVal, List.range, List.range.loop, ofB, mayRead, dsts, planRo, capIds, viewed, scalarR, AV.scalar, finK, freezeT, avAll, resOf, outBoxes, relabB, relabL, relab1, noPtr, AV.untup, h0, strs, checkLinesP]
end Go.Proofs.YtlmmgblghgmgeaaDoor
