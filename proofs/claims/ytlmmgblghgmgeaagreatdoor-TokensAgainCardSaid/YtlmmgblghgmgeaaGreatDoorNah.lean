/- The texts Tools, WalkK, WalkL, WalkM, WalkN, WalkO, WalkP, WalkQ, merged. -/
import Derived.Test.YtlmmgblghgmgeaaGreatDoorNag
import Derived.KernelRfl
import Derived.Test.YtlmmgblghgmgeaaGreatDoorNab
set_option linter.unusedVariables false
set_option linter.unusedSimpArgs false
/- The evaluator's small functions at each kind of value, for simp. -/
namespace Ev
open Go

theorem bare_undef  : AV.bare .undef = .undef := rfl
theorem bare_bool (b : Bool) : AV.bare (.bool b) = .bool b := rfl
theorem bare_int (k : IntKind) (n : Int) : AV.bare (.int k n) = .int k n := rfl
theorem bare_str (s : Str) : AV.bare (.str s) = .str s := rfl
theorem bare_snil (z : Nat) (els : List (List AV)) : AV.bare (.sl z els .nil) = .sl z els .nil := rfl
theorem bare_snone (z : Nat) (els : List (List AV)) : AV.bare (.sl z els .none) = .sl z els .none := rfl
theorem bare_sclip (z : Nat) (els : List (List AV)) : AV.bare (.sl z els .clip) = .sl z els .clip := rfl
theorem bare_srow (z : Nat) (els : List (List AV)) (p q : Nat) : AV.bare (.sl z els (.row p q)) = .sl z els .none := rfl
theorem bare_ptr (i o : Nat) : AV.bare (.ptr i o) = .undef := rfl
theorem bare_eptr (c : List AV) : AV.bare (.eptr c) = .eptr c := rfl
theorem bare_pnil  : AV.bare .pnil = .pnil := rfl
theorem bare_fn (f : FuncId) (c : List AV) : AV.bare (.fn f c) = .fn f c := rfl
theorem bare_fnil  : AV.bare .fnil = .fnil := rfl
theorem bare_agg (c : List AV) : AV.bare (.agg c) = .agg c := rfl
theorem bare_tup (c : List AV) : AV.bare (.tup c) = .undef := rfl
theorem row_undef  : rowName .undef = none := rfl
theorem row_bool (b : Bool) : rowName (.bool b) = none := rfl
theorem row_int (k : IntKind) (n : Int) : rowName (.int k n) = none := rfl
theorem row_str (s : Str) : rowName (.str s) = none := rfl
theorem row_snil (z : Nat) (els : List (List AV)) : rowName (.sl z els .nil) = none := rfl
theorem row_snone (z : Nat) (els : List (List AV)) : rowName (.sl z els .none) = none := rfl
theorem row_sclip (z : Nat) (els : List (List AV)) : rowName (.sl z els .clip) = none := rfl
theorem row_srow (z : Nat) (els : List (List AV)) (p q : Nat) : rowName (.sl z els (.row p q)) = some (p, q) := rfl
theorem row_ptr (i o : Nat) : rowName (.ptr i o) = none := rfl
theorem row_eptr (c : List AV) : rowName (.eptr c) = none := rfl
theorem row_pnil  : rowName .pnil = none := rfl
theorem row_fn (f : FuncId) (c : List AV) : rowName (.fn f c) = none := rfl
theorem row_fnil  : rowName .fnil = none := rfl
theorem row_agg (c : List AV) : rowName (.agg c) = none := rfl
theorem row_tup (c : List AV) : rowName (.tup c) = none := rfl
theorem relab_undef (names : Nat → Nat → Option Bool) (used : List (Nat × Nat)) (a b : Nat) (g : Option Nat)  : relab1 names used a b g .undef = (.undef, used) := rfl
theorem relab_bool (names : Nat → Nat → Option Bool) (used : List (Nat × Nat)) (a b : Nat) (g : Option Nat) (x : Bool) : relab1 names used a b g (.bool x) = ((.bool x), used) := rfl
theorem relab_int (names : Nat → Nat → Option Bool) (used : List (Nat × Nat)) (a b : Nat) (g : Option Nat) (k : IntKind) (n : Int) : relab1 names used a b g (.int k n) = ((.int k n), used) := rfl
theorem relab_str (names : Nat → Nat → Option Bool) (used : List (Nat × Nat)) (a b : Nat) (g : Option Nat) (s : Str) : relab1 names used a b g (.str s) = ((.str s), used) := rfl
theorem relab_snil (names : Nat → Nat → Option Bool) (used : List (Nat × Nat)) (a b : Nat) (z : Nat) (els : List (List AV)) : relab1 names used a b none (.sl z els .nil) = ((.sl z els .nil), used) := rfl
theorem relab_sgrow (names : Nat → Nat → Option Bool) (used : List (Nat × Nat)) (a b y : Nat) (z : Nat) (els : List (List AV)) : relab1 names used a b (some y) (.sl z els .nil) = (.sl y [] (.row a b), used) := rfl
theorem relab_snone (names : Nat → Nat → Option Bool) (used : List (Nat × Nat)) (a b : Nat) (g : Option Nat) (z : Nat) (els : List (List AV)) : relab1 names used a b g (.sl z els .none) = ((.sl z els .none), used) := rfl
theorem relab_sclip (names : Nat → Nat → Option Bool) (used : List (Nat × Nat)) (a b : Nat) (g : Option Nat) (z : Nat) (els : List (List AV)) : relab1 names used a b g (.sl z els .clip) = ((.sl z els .clip), used) := rfl
theorem relab_srow (names : Nat → Nat → Option Bool) (used : List (Nat × Nat)) (a b : Nat) (g : Option Nat) (z : Nat) (els : List (List AV)) (p q : Nat) : relab1 names used a b g (.sl z els (.row p q)) = if names p q = some true ∧ ¬ (p, q) ∈ used then (.sl z els (.row a b), (p, q) :: used) else (.sl z els .none, used) := rfl
theorem relab_ptr (names : Nat → Nat → Option Bool) (used : List (Nat × Nat)) (a b : Nat) (g : Option Nat) (i o : Nat) : relab1 names used a b g (.ptr i o) = ((.ptr i o), used) := rfl
theorem relab_eptr (names : Nat → Nat → Option Bool) (used : List (Nat × Nat)) (a b : Nat) (g : Option Nat) (c : List AV) : relab1 names used a b g (.eptr c) = ((.eptr c), used) := rfl
theorem relab_pnil (names : Nat → Nat → Option Bool) (used : List (Nat × Nat)) (a b : Nat) (g : Option Nat)  : relab1 names used a b g .pnil = (.pnil, used) := rfl
theorem relab_fn (names : Nat → Nat → Option Bool) (used : List (Nat × Nat)) (a b : Nat) (g : Option Nat) (f : FuncId) (c : List AV) : relab1 names used a b g (.fn f c) = ((.fn f c), used) := rfl
theorem relab_fnil (names : Nat → Nat → Option Bool) (used : List (Nat × Nat)) (a b : Nat) (g : Option Nat)  : relab1 names used a b g .fnil = (.fnil, used) := rfl
theorem relab_agg (names : Nat → Nat → Option Bool) (used : List (Nat × Nat)) (a b : Nat) (g : Option Nat) (c : List AV) : relab1 names used a b g (.agg c) = ((.agg c), used) := rfl
theorem relab_tup (names : Nat → Nat → Option Bool) (used : List (Nat × Nat)) (a b : Nat) (g : Option Nat) (c : List AV) : relab1 names used a b g (.tup c) = ((.tup c), used) := rfl
end Ev

/- Tokens compared; the smaller callers. -/
namespace Go.Proofs.YtlmmgblghgmgeaaGreatDoor
open Go Ev
set_option maxRecDepth 100000
set_option linter.unusedSimpArgs false

/-- A slice that nobody appends to in place, and that is not nil. -/
def Fx (t : Tok) : Prop := t = .clip ∨ t = .none
theorem bare_fx {t : Tok} (h : Fx t) (z : Nat) (els : List (List AV)) : AV.bare (.sl z els t) = .sl z els t := by rcases h with rfl | rfl <;> rfl
theorem row_fx {t : Tok} (h : Fx t) (z : Nat) (els : List (List AV)) : rowName (.sl z els t) = none := by rcases h with rfl | rfl <;> rfl
theorem relab_fx {t : Tok} (h : Fx t) (names : Nat → Nat → Option Bool) (used : List (Nat × Nat)) (p q : Nat) (g : Option Nat) (z : Nat) (els : List (List AV)) : relab1 names used p q g (.sl z els t) = (.sl z els t, used) := by
  rcases h with rfl | rfl <;> rfl
theorem same_tk_ev (a b : Tk) : evc plan 84 [.agg (tkC a), .agg (tkC b)] [] = some (.bool (a.kind == b.kind && a.text == b.text), []) := by
  refine evc_start plan (P := Tryz.prog) (ro := planRo) rfl rfl rfl rfl rfl rfl (by simp) rfl ?_
  cases h : a.kind == b.kind <;> simp [dFor_none, storeFine_none, dFor_no, storeFine_no, lessL, lkL, evCode_exit, evCode_seq, evCode_plain, evCode_draw, evCode_cond, evCode_ret, evCode_skip, evCode_block, evCode_loop, roundK_normal, roundK_exit, roundK_ret, seqK_normal, seqK_exit, seqK_ret, blockK_normal, blockK_exit, blockK_ret, regK_eq, evOps_nil, evOps_cons, params, astep, okDst, isWanted, aop, opnd, ofValue, putT, abin, headS, ofL, noPtr, acall, adopt_bool, adopt_int, adopt_str, adopt_agg, adopt_clip, AV.bare, upd_false, AV.cells, partOf, setCells, fillC, AV.isVal, List.range, List.range.loop, ofB, mayRead, dsts, planRo, capIds, viewed, scalarR, AV.scalar, finK, freezeT, avAll, resOf, outBoxes, relabB, relabL, relab1, noPtr, AV.untup, tkC, h]
/-- Kinds and texts of tokens compared. -/
def eqKT : List Tk → List Tk → Bool
  | [], [] => true
  | x :: a, y :: b => (x.kind == y.kind && x.text == y.text) && eqKT a b
  | _, _ => false
theorem eqKT_len : ∀ (a b : List Tk), a.length ≠ b.length → eqKT a b = false
  | [], [], h => by simp at h
  | [], _ :: _, _ => rfl
  | _ :: _, [], _ => rfl
  | x :: a, y :: b, h => by
    have := eqKT_len a b (by simpa using h)
    simp [eqKT, this]
theorem eqKT_drop (a b : List Tk) (i : Nat) (h : i < a.length) (h' : i < b.length) : eqKT (a.drop i) (b.drop i) = ((a[i].kind == b[i].kind && a[i].text == b[i].text) && eqKT (a.drop (i + 1)) (b.drop (i + 1))) := by
  rw [List.drop_eq_getElem_cons h, List.drop_eq_getElem_cons h']; rfl
theorem equal_ev (a b : List Tk) (ta tb : Tok) (hta : Fx ta) (htb : Fx tb) (hl : a.length < 2 ^ 62) (hlb : b.length < 2 ^ 62) : evc plan 83 [.sl 4 (a.map tkC) ta, .sl 4 (b.map tkC) tb, .fn 84 []] [] = some (.bool (eqKT a b), []) := by
  refine evc_start plan (P := Tryz.prog) (ro := planRo) rfl rfl rfl rfl rfl rfl (by simp) rfl ?_
  cases h0 : ((a.length : Int) != b.length)
  · have h0' : a.length = b.length := by simp at h0; omega
    simp [dFor_none, storeFine_none, dFor_no, storeFine_no, lessL, lkL, evCode_exit, evCode_seq, evCode_plain, evCode_draw, evCode_cond, evCode_ret, evCode_skip, evCode_block, evCode_loop, roundK_normal, roundK_exit, roundK_ret, seqK_normal, seqK_exit, seqK_ret, blockK_normal, blockK_exit, blockK_ret, regK_eq, evOps_nil, evOps_cons, params, astep, okDst, isWanted, aop, opnd, ofValue, putT, abin, headS, ofL, noPtr, acall, adopt_bool, adopt_int, adopt_str, adopt_agg, adopt_clip, AV.bare, upd_false, AV.cells, partOf, setCells, fillC, AV.isVal, List.range, List.range.loop, ofB, mayRead, dsts, planRo, capIds, viewed, scalarR, AV.scalar, h0]
    refine loop_by (fun i => a.length - i) (fun (i : Nat) t m => i ≤ a.length ∧ eqKT a b = eqKT (a.drop i) (b.drop i) ∧ clean (lvEqual 3) t m = headS [(1, .sl 4 (b.map tkC) tb), (2, .fn 84 []), (15, .sl 4 (a.map tkC) ta), (16, .int .i64 a.length), (17, .int .i64 i)] []) ?_ 0 ?_
    · intro i t m ⟨hi, hr, hS⟩ ih
      refine round_of hS ?_
      by_cases h1 : i < a.length
      · have h2 : i < b.length := by omega
        have hd := eqKT_drop a b i h1 h2
        have w1 : IntKind.i64.wrap ((i : Int) + 1) = i + 1 := wrap_i64 (by omega) (by omega)
        have hsm := same_tk_ev a[i] b[i]
        have e1 : (a.map tkC)[i]? = some (tkC a[i]) := by simp [h1]
        have e2 : (b.map tkC)[i]? = some (tkC b[i]) := by simp [h2]
        unfold tkC at hsm
        cases h3 : (a[i].kind == b[i].kind && a[i].text == b[i].text)
        · rw [h3] at hsm hd
          simp [dFor_none, storeFine_none, dFor_no, storeFine_no, lessL, lkL, evCode_exit, evCode_seq, evCode_plain, evCode_draw, evCode_cond, evCode_ret, evCode_skip, evCode_block, evCode_loop, roundK_normal, roundK_exit, roundK_ret, seqK_normal, seqK_exit, seqK_ret, blockK_normal, blockK_exit, blockK_ret, regK_eq, evOps_nil, evOps_cons, params, astep, okDst, isWanted, aop, opnd, ofValue, putT, abin, headS, ofL, noPtr, acall, adopt_bool, adopt_int, adopt_str, adopt_agg, adopt_clip, AV.bare, upd_false, AV.cells, partOf, setCells, fillC, AV.isVal, List.range, List.range.loop, ofB, mayRead, dsts, planRo, capIds, viewed, scalarR, AV.scalar, finK, freezeT, avAll, resOf, outBoxes, relabB, relabL, relab1, noPtr, AV.untup, h1, h2, w1, hsm, tkC]
          rw [hr, hd]; rfl
        · rw [h3] at hsm hd
          simp [dFor_none, storeFine_none, dFor_no, storeFine_no, lessL, lkL, evCode_exit, evCode_seq, evCode_plain, evCode_draw, evCode_cond, evCode_ret, evCode_skip, evCode_block, evCode_loop, roundK_normal, roundK_exit, roundK_ret, seqK_normal, seqK_exit, seqK_ret, blockK_normal, blockK_exit, blockK_ret, regK_eq, evOps_nil, evOps_cons, params, astep, okDst, isWanted, aop, opnd, ofValue, putT, abin, headS, ofL, noPtr, acall, adopt_bool, adopt_int, adopt_str, adopt_agg, adopt_clip, AV.bare, upd_false, AV.cells, partOf, setCells, fillC, AV.isVal, List.range, List.range.loop, ofB, mayRead, dsts, planRo, capIds, viewed, scalarR, AV.scalar, h1, h2, w1, hsm, tkC]
          refine ih (i + 1) _ _ (by omega) ⟨by omega, by rw [hr, hd]; simp, ?_⟩
          rcases hta with rfl | rfl <;> rcases htb with rfl | rfl <;> simp [clean, keepBoxes, relabB, relabL, relab1, cleanS, fixPtr, headS, ofL, ofB, cellsOfB, namesOf, rowName, upd_false, AV.cells, lvEqual, lvL, tkC]
      · simp [dFor_none, storeFine_none, dFor_no, storeFine_no, lessL, lkL, evCode_exit, evCode_seq, evCode_plain, evCode_draw, evCode_cond, evCode_ret, evCode_skip, evCode_block, evCode_loop, roundK_normal, roundK_exit, roundK_ret, seqK_normal, seqK_exit, seqK_ret, blockK_normal, blockK_exit, blockK_ret, regK_eq, evOps_nil, evOps_cons, params, astep, okDst, isWanted, aop, opnd, ofValue, putT, abin, headS, ofL, noPtr, acall, adopt_bool, adopt_int, adopt_str, adopt_agg, adopt_clip, AV.bare, upd_false, AV.cells, partOf, setCells, fillC, AV.isVal, List.range, List.range.loop, ofB, mayRead, dsts, planRo, capIds, viewed, scalarR, AV.scalar, finK, freezeT, avAll, resOf, outBoxes, relabB, relabL, relab1, noPtr, AV.untup, h1]
        have : i = a.length := by omega
        subst this
        simp [h0', eqKT] at hr ⊢; rw [hr]; simp [← h0', eqKT]
    · refine ⟨by omega, by simp, ?_⟩
      rcases hta with rfl | rfl <;> rcases htb with rfl | rfl <;> simp [clean, keepBoxes, relabB, relabL, relab1, cleanS, fixPtr, headS, ofL, ofB, cellsOfB, namesOf, rowName, upd_false, AV.cells, lvEqual, lvL]
  · have := eqKT_len a b (fun h => by simp [h] at h0)
    simp [dFor_none, storeFine_none, dFor_no, storeFine_no, lessL, lkL, evCode_exit, evCode_seq, evCode_plain, evCode_draw, evCode_cond, evCode_ret, evCode_skip, evCode_block, evCode_loop, roundK_normal, roundK_exit, roundK_ret, seqK_normal, seqK_exit, seqK_ret, blockK_normal, blockK_exit, blockK_ret, regK_eq, evOps_nil, evOps_cons, params, astep, okDst, isWanted, aop, opnd, ofValue, putT, abin, headS, ofL, noPtr, acall, adopt_bool, adopt_int, adopt_str, adopt_agg, adopt_clip, AV.bare, upd_false, AV.cells, partOf, setCells, fillC, AV.isVal, List.range, List.range.loop, ofB, mayRead, dsts, planRo, capIds, viewed, scalarR, AV.scalar, finK, freezeT, avAll, resOf, outBoxes, relabB, relabL, relab1, noPtr, AV.untup, h0, this]
/-- Has a text an odd character? -/
def oddS (s : Str) : Bool := decide (0 ≤ Lib.idxFunc oddRune true ⟨s.toArray⟩)
theorem odd_ev (s : Str) : evc plan 81 [.str s, .fn 82 []] [] = some (.bool (oddS s), []) := evc_ext plan rfl rfl
def lineErr (s : Str) : Int := firstOf [if decide ((s.length : Int) > 120) then 2 else 0, if oddS s then 5 else 0]
/-- The lines of a text checked, from a line on. -/
def linesGo : List Str → Int → Int × Int
  | [], n => (n, 0)
  | s :: r, n => if lineErr s != 0 then (n, lineErr s) else linesGo r (n + 1)
def checkLinesP (l : List Str) : Int × Int := if decide ((l.length : Int) > 300) then (0, 2) else linesGo l 0
theorem linesGo_drop (l : List Str) (i : Nat) (h : i < l.length) : linesGo (l.drop i) i = if lineErr l[i] != 0 then ((i : Int), lineErr l[i]) else linesGo (l.drop (i + 1)) ((i + 1 : Nat) : Int) := by
  rw [List.drop_eq_getElem_cons h]; rfl
theorem lines_ev (l : List Str) (tk : Tok) (ht : Fx tk) (hl : l.length < 2 ^ 62) : evc plan 66 [.sl 1 (strs l) tk] [] = some (.tup [.int .i64 (checkLinesP l).1, .int .i64 (checkLinesP l).2], []) := by
  refine evc_start plan (P := Tryz.prog) (ro := planRo) rfl rfl rfl rfl rfl rfl (by simp) rfl ?_
  cases h0 : decide ((l.length : Int) > 300)
  · have e0 : checkLinesP l = linesGo l 0 := by simp [checkLinesP, h0]
    rw [e0]
    simp [dFor_none, storeFine_none, dFor_no, storeFine_no, lessL, lkL, evCode_exit, evCode_seq, evCode_plain, evCode_draw, evCode_cond, evCode_ret, evCode_skip, evCode_block, evCode_loop, roundK_normal, roundK_exit, roundK_ret, seqK_normal, seqK_exit, seqK_ret, blockK_normal, blockK_exit, blockK_ret, regK_eq, evOps_nil, evOps_cons, params, astep, okDst, isWanted, aop, opnd, ofValue, putT, abin, headS, ofL, noPtr, acall, adopt_bool, adopt_int, adopt_str, adopt_agg, adopt_clip, AV.bare, upd_false, AV.cells, partOf, setCells, fillC, AV.isVal, List.range, List.range.loop, ofB, mayRead, dsts, planRo, capIds, viewed, scalarR, AV.scalar, h0, strs]
    refine loop_by (fun i => l.length - i) (fun (i : Nat) t m => i ≤ l.length ∧ linesGo l 0 = linesGo (l.drop i) i ∧ clean (lvLines 4) t m = headS [(0, .sl 1 (strs l) tk), (10, .sl 1 (strs l) tk), (11, .int .i64 l.length), (12, .int .i64 i)] []) ?_ 0 ?_
    · intro i t m ⟨hi, hr, hS⟩ ih
      refine round_of hS ?_
      by_cases h1 : i < l.length
      · have hd := linesGo_drop l i h1
        have w1 : IntKind.i64.wrap ((i : Int) + 1) = i + 1 := wrap_i64 (by omega) (by omega)
        have ho := or2_ev (if decide ((l[i].length : Int) > 120) then 2 else 0) (if oddS l[i] then 5 else 0)
        rw [show firstOf [if decide ((l[i].length : Int) > 120) then 2 else 0, if oddS l[i] then 5 else 0] = lineErr l[i] from rfl] at ho
        generalize hE : lineErr l[i] = E at ho hd
        cases h2 : E != 0
        · rw [h2] at hd
          cases h3 : decide ((l[i].length : Int) > 120) <;> cases h4 : oddS l[i] <;> simp [h3, h4] at ho <;> simp [dFor_none, storeFine_none, dFor_no, storeFine_no, lessL, lkL, evCode_exit, evCode_seq, evCode_plain, evCode_draw, evCode_cond, evCode_ret, evCode_skip, evCode_block, evCode_loop, roundK_normal, roundK_exit, roundK_ret, seqK_normal, seqK_exit, seqK_ret, blockK_normal, blockK_exit, blockK_ret, regK_eq, evOps_nil, evOps_cons, params, astep, okDst, isWanted, aop, opnd, ofValue, putT, abin, headS, ofL, noPtr, acall, adopt_bool, adopt_int, adopt_str, adopt_agg, adopt_clip, AV.bare, upd_false, AV.cells, partOf, setCells, fillC, AV.isVal, List.range, List.range.loop, ofB, mayRead, dsts, planRo, capIds, viewed, scalarR, AV.scalar, h1, w1, strs, wrong_ev, odd_ev, h3, h4, ho, h2] <;>
            (refine ih (i + 1) _ _ (by omega) ⟨by omega, by rw [hr, hd]; simp, ?_⟩; rcases ht with rfl | rfl <;> simp [clean, keepBoxes, relabB, relabL, relab1, cleanS, fixPtr, headS, ofL, ofB, cellsOfB, namesOf, rowName, upd_false, AV.cells, lvLines, lvL, strs])
        · rw [h2] at hd
          cases h3 : decide ((l[i].length : Int) > 120) <;> cases h4 : oddS l[i] <;> simp [h3, h4] at ho <;> simp [dFor_none, storeFine_none, dFor_no, storeFine_no, lessL, lkL, evCode_exit, evCode_seq, evCode_plain, evCode_draw, evCode_cond, evCode_ret, evCode_skip, evCode_block, evCode_loop, roundK_normal, roundK_exit, roundK_ret, seqK_normal, seqK_exit, seqK_ret, blockK_normal, blockK_exit, blockK_ret, regK_eq, evOps_nil, evOps_cons, params, astep, okDst, isWanted, aop, opnd, ofValue, putT, abin, headS, ofL, noPtr, acall, adopt_bool, adopt_int, adopt_str, adopt_agg, adopt_clip, AV.bare, upd_false, AV.cells, partOf, setCells, fillC, AV.isVal, List.range, List.range.loop, ofB, mayRead, dsts, planRo, capIds, viewed, scalarR, AV.scalar, finK, freezeT, avAll, resOf, outBoxes, relabB, relabL, relab1, noPtr, AV.untup, h1, w1, strs, wrong_ev, odd_ev, h3, h4, ho, h2] <;> (rw [hr, hd]; simp)
      · simp [dFor_none, storeFine_none, dFor_no, storeFine_no, lessL, lkL, evCode_exit, evCode_seq, evCode_plain, evCode_draw, evCode_cond, evCode_ret, evCode_skip, evCode_block, evCode_loop, roundK_normal, roundK_exit, roundK_ret, seqK_normal, seqK_exit, seqK_ret, blockK_normal, blockK_exit, blockK_ret, regK_eq, evOps_nil, evOps_cons, params, astep, okDst, isWanted, aop, opnd, ofValue, putT, abin, headS, ofL, noPtr, acall, adopt_bool, adopt_int, adopt_str, adopt_agg, adopt_clip, AV.bare, upd_false, AV.cells, partOf, setCells, fillC, AV.isVal, List.range, List.range.loop, ofB, mayRead, dsts, planRo, capIds, viewed, scalarR, AV.scalar, finK, freezeT, avAll, resOf, outBoxes, relabB, relabL, relab1, noPtr, AV.untup, h1, strs]
        have : i = l.length := by omega
        subst this
        simp [linesGo] at hr
        rw [hr]; simp
    · refine ⟨by omega, by simp, ?_⟩
      rcases ht with rfl | rfl <;> simp [clean, keepBoxes, relabB, relabL, relab1, cleanS, fixPtr, headS, ofL, ofB, cellsOfB, namesOf, rowName, upd_false, AV.cells, lvLines, lvL, strs]
  · simp [dFor_none, storeFine_none, dFor_no, storeFine_no, lessL, lkL, evCode_exit, evCode_seq, evCode_plain, evCode_draw, evCode_cond, evCode_ret, evCode_skip, evCode_block, evCode_loop, roundK_normal, roundK_exit, roundK_ret, seqK_normal, seqK_exit, seqK_ret, blockK_normal, blockK_exit, blockK_ret, regK_eq, evOps_nil, evOps_cons, params, astep, okDst, isWanted, aop, opnd, ofValue, putT, abin, headS, ofL, noPtr, acall, adopt_bool, adopt_int, adopt_str, adopt_agg, adopt_clip, AV.bare, upd_false, AV.cells, partOf, setCells, fillC, AV.isVal, List.range, List.range.loop, ofB, mayRead, dsts, planRo, capIds, viewed, scalarR, AV.scalar, finK, freezeT, avAll, resOf, outBoxes, relabB, relabL, relab1, noPtr, AV.untup, h0, strs, checkLinesP]
end Go.Proofs.YtlmmgblghgmgeaaGreatDoor

/- A text read. -/
namespace Go.Proofs.YtlmmgblghgmgeaaGreatDoor
open Go Ev
set_option maxRecDepth 100000
set_option linter.unusedSimpArgs false
attribute [local simp] dFor_none storeFine_none dFor_no storeFine_no lessL lkL evCode_exit evCode_seq evCode_plain evCode_draw evCode_cond evCode_ret evCode_skip evCode_block evCode_loop roundK_normal roundK_exit roundK_ret seqK_normal seqK_exit seqK_ret blockK_normal blockK_exit blockK_ret regK_eq evOps_nil evOps_cons params astep okDst isWanted aop opnd ofValue putT abin headS ofL noPtr acall adopt_bool adopt_int adopt_str adopt_agg adopt_clip upd_false AV.cells partOf setCells fillC AV.isVal List.range List.range.loop ofB mayRead dsts planRo capIds viewed scalarR AV.scalar bare_undef bare_bool bare_int bare_str bare_snil bare_snone bare_sclip bare_srow bare_ptr bare_eptr bare_pnil bare_fn bare_fnil bare_agg bare_tup clean keepBoxes relabB relabL cleanS fixPtr cellsOfB namesOf row_undef row_bool row_int row_str row_snil row_snone row_sclip row_srow row_ptr row_eptr row_pnil row_fn row_fnil row_agg row_tup relab_undef relab_bool relab_int relab_str relab_snil relab_snone relab_sclip relab_srow relab_ptr relab_eptr relab_pnil relab_fn relab_fnil relab_agg relab_tup relab_sgrow passed setBoxes killNames addNames freshAll adopt resParts resBack boxName finK freezeT avAll resOf outBoxes AV.untup

def readLoop (l : List Str) (n : Nat) : Nat → St → Int × St
  | 0, s => (0, s)
  | k + 1, s => if s.i < l.length then (if (nextGo l n s).1 != 0 then nextGo l n s else readLoop l n k (nextGo l n s).2) else (0, s)
def total (l : List Str) : Nat := left l 0 0
def st0 : St := ⟨0, 0, [], []⟩
/-- A text read: the error, and how far the reader has come. -/
def readAll (l : List Str) : Int × St := readLoop l (total l + 1) (total l + 1) st0
theorem st0_ok (l : List Str) : st0.Ok l (total l) := ⟨Nat.zero_le _, fun _ => Nat.zero_le _, by simp [st0, total]⟩
/-- The reader's box in a caller's frame. -/
def rdAt (l : List Str) (tk : Tok) (s : St) (a b c d : Nat) : Box := [.sl 1 (strs l) tk, .int .i64 s.i, .int .i64 s.j, .sl 4 (s.ts.map tkC) (.row a b), .sl 4 (s.cs.map spC) (.row c d)]
def rdOut (l : List Str) (tk : Tok) (s : St) : List AV := [.sl 1 (strs l) tk, .int .i64 s.i, .int .i64 s.j, .sl 4 (s.ts.map tkC) .none, .sl 4 (s.cs.map spC) .none]
/-- What the loop of a reading keeps. -/
def ReadInv (l : List Str) (R : Int × St) (q : Nat × St) : Prop := q.2.Ok l (total l) ∧ left l q.2.i q.2.j < q.1 ∧ readLoop l (total l + 1) q.1 q.2 = R
theorem ReadInv.start (l : List Str) : ReadInv l (readAll l) (total l + 1, st0) := ⟨st0_ok l, by simp [st0, total], rfl⟩
theorem ReadInv.step {l : List Str} {R : Int × St} {k : Nat} {s : St} (h : ReadInv l R (k, s)) (hi : s.i < l.length) (h0 : (nextGo l (total l + 1) s).1 = 0) : ∃ k', k = k' + 1 ∧ ReadInv l R (k', (nextGo l (total l + 1) s).2) := by
  obtain ⟨h1, h2, h3⟩ := h
  simp only at h1 h2 h3
  obtain ⟨k, rfl⟩ : ∃ k', k = k' + 1 := ⟨k - 1, by omega⟩
  obtain ⟨h4, h5⟩ := nextGo_ok l (total l) (total l + 1) s hi h1
  refine ⟨k, rfl, h4, by have := h5 h0; simp only; omega, ?_⟩
  rw [readLoop, if_pos hi, h0] at h3
  exact h3
theorem ReadInv.stop {l : List Str} {R : Int × St} {k : Nat} {s : St} (h : ReadInv l R (k, s)) (hi : s.i < l.length) (h0 : (nextGo l (total l + 1) s).1 ≠ 0) : R = nextGo l (total l + 1) s := by
  obtain ⟨h1, h2, h3⟩ := h
  simp only at h1 h2 h3
  obtain ⟨k, rfl⟩ : ∃ k', k = k' + 1 := ⟨k - 1, by omega⟩
  rw [readLoop, if_pos hi, if_pos (by simpa using h0)] at h3
  exact h3.symm
theorem ReadInv.over {l : List Str} {R : Int × St} {k : Nat} {s : St} (h : ReadInv l R (k, s)) (hi : ¬ s.i < l.length) : R = (0, s) := by
  obtain ⟨h1, h2, h3⟩ := h
  simp only at h1 h2 h3
  obtain ⟨k, rfl⟩ : ∃ k', k = k' + 1 := ⟨k - 1, by omega⟩
  rw [readLoop, if_neg hi] at h3
  exact h3.symm
def readR (l : List Str) (tk : Tok) : AV :=
  if (checkLinesP l).2 != 0 then .tup [.pnil, .agg [.int .i64 (checkLinesP l).1, .int .i64 0], .int .i64 (checkLinesP l).2]
  else if (readAll l).1 != 0 then .tup [.pnil, .agg [.int .i64 (readAll l).2.i, .int .i64 (readAll l).2.j], .int .i64 (readAll l).1]
  else .tup [.eptr (rdOut l tk (readAll l).2), .agg [.int .i64 0, .int .i64 0], .int .i64 (if decide (((readAll l).2.ts.length : Int) > 1200) then 2 else 0)]
theorem lineErr_len {s : Str} (h : lineErr s = 0) : s.length ≤ 120 := by
  unfold lineErr firstOf at h
  rcases Nat.lt_or_ge 120 s.length with h1 | h1
  · have : ((s.length : Int) > 120) := by omega
    simp [this] at h
  · exact h1
theorem linesGo_len : ∀ (l : List Str) (n : Int), (linesGo l n).2 = 0 → ∀ s ∈ l, lineErr s = 0
  | [], _, _, s, hs => by simp at hs
  | x :: l, n, h, s, hs => by
    unfold linesGo at h
    split at h
    · rename_i h1
      simp only at h
      rw [h] at h1; simp at h1
    · rename_i h1
      rcases List.mem_cons.1 hs with rfl | hs
      · simpa using h1
      · exact linesGo_len l (n + 1) h s hs
theorem checked_len {l : List Str} (h : (checkLinesP l).2 = 0) : l.length ≤ 300 ∧ ∀ s ∈ l, s.length ≤ 120 := by
  unfold checkLinesP at h
  split at h
  · simp at h
  · rename_i h1
    refine ⟨by simp only [decide_eq_true_eq] at h1; omega, fun s hs => lineErr_len (linesGo_len l 0 h s hs)⟩
theorem total_le : ∀ (l : List Str) (m : Nat), (∀ s ∈ l, s.length ≤ m) → total l ≤ l.length * (m + 1)
  | [], m, _ => by simp [total, left]
  | s :: l, m, h => by
    have h1 := total_le l m fun x hx => h x (by simp [hx])
    have h2 := h s (by simp)
    have h3 : (l.length + 1) * (m + 1) = l.length * (m + 1) + (m + 1) := by rw [Nat.add_mul]; omega
    simp only [total, left, List.drop_zero, List.map_cons, List.sum_cons, List.length_cons] at h1 ⊢
    omega
theorem next_of (l : List Str) (tk : Tok) (ht : Fx tk) (s : St) (hl : l.length < 2 ^ 40) (hc : ∀ x ∈ l, x.length < 2 ^ 40) (hT : total l < 2 ^ 39) (hi : s.i < l.length) (hs : s.Ok l (total l)) :
    evc plan 68 [.ptr 0 0] [(0, rdS l tk s)] = some (.int .i64 (nextGo l (total l + 1) s).1, [(0, rdS l tk (nextGo l (total l + 1) s).2)]) := by
  have hle := lineLen_eq l s.i hi
  have := hs.n
  have := hs.j hi
  exact next_ev l tk ht s hl hc hi (by omega) (by omega) (by omega) (total l + 1) (by omega) (by omega)
set_option maxHeartbeats 1000000 in
theorem read_ev (l : List Str) (tk : Tok) (ht : Fx tk) (hl : l.length < 2 ^ 62) : evc plan 41 [.sl 1 (strs l) tk] [] = some (readR l tk, []) := by
  refine evc_start plan (P := Tryz.prog) (ro := planRo) rfl rfl rfl rfl rfl rfl (by simp) rfl ?_
  have hL := lines_ev l tk ht hl
  unfold readR
  generalize hQ : checkLinesP l = q at hL
  obtain ⟨q1, q2⟩ := q
  simp only at hL
  cases h0 : q2 != 0
  · have h0' : (checkLinesP l).2 = 0 := by rw [hQ]; simpa using h0
    obtain ⟨hn, hc⟩ := checked_len h0'
    have hT := total_le l 120 hc
    have hT2 : total l < 2 ^ 39 := by
      have : l.length * 121 ≤ 300 * 121 := Nat.mul_le_mul_right _ hn
      omega
    generalize hR : readAll l = R
    simp [hL, h0, adopt, resParts, resBack, freshAll, relabL, relab1, rowName, addNames, bare_fx ht, row_fx ht, relab_fx ht]
    refine loop_by (fun (q : Nat × St) => q.1) (fun q t m => ReadInv l R q ∧ clean (lvRead 5) t m = headS [(3, .ptr 500003 0), (7, .ptr 500021 0), (21, .ptr 500021 0)] [(500003, [.int .i64 0, .int .i64 0]), (500021, rdAt l tk q.2 1500021 4 1500021 5)]) ?_ (total l + 1, st0) ?_
    · rintro ⟨k, s⟩ t m ⟨hI, hS⟩ ih
      refine round_of hS ?_
      by_cases h1 : s.i < l.length
      · have h1' : ¬ l.length ≤ s.i := by omega
        have hnx := next_of l tk ht s (by omega) (fun x hx => by have := hc x hx; omega) hT2 h1 hI.1
        generalize hN : nextGo l (total l + 1) s = N at hnx
        obtain ⟨e, s'⟩ := N
        unfold rdS rd at hnx
        simp only at hnx
        cases h2 : e != 0
        · have he : e = 0 := by simpa using h2
          obtain ⟨k', rfl, hI'⟩ := hI.step h1 (by rw [hN]; exact he)
          rw [hN] at hI'
          simp only at hI'
          simp [over_ev, h1', hnx, h2, rdAt, bare_fx ht, row_fx ht, relab_fx ht]
          refine ih (k', s') _ _ (by simp) ⟨hI', ?_⟩
          simp [lvRead, lvL, rdAt, growOf, bare_fx ht, row_fx ht, relab_fx ht]
        · have := hI.stop h1 (by rw [hN]; simpa using h2)
          rw [hN] at this
          subst this
          simp [over_ev, h1', hnx, h2, rdAt, bare_fx ht, row_fx ht, relab_fx ht]
          simpa using h2
      · have := hI.over h1
        subst this
        have h1' : l.length ≤ s.i := by omega
        have hw : ∀ b : Bool, evc plan 37 [.bool b, .int .i64 2] [] = some (.int .i64 (if b then 2 else 0), []) := fun b => wrong_ev b 2
        cases h3 : decide ((s.ts.length : Int) > 1200) <;> simp [over_ev, h1', rdAt, rdOut, hw, h3, bare_fx ht, row_fx ht, relab_fx ht] <;> simpa using h3
    · refine ⟨hR ▸ ReadInv.start l, ?_⟩
      simp [lvRead, lvL, rdAt, growOf, strs, bare_fx ht, row_fx ht, relab_fx ht, st0]
  · simp [hL, h0, adopt, resParts, resBack, freshAll, relabL, relab1, rowName, addNames, bare_fx ht, row_fx ht, relab_fx ht]
end Go.Proofs.YtlmmgblghgmgeaaGreatDoor

/- Tokens checked. -/
namespace Go.Proofs.YtlmmgblghgmgeaaGreatDoor
open Go Ev
set_option maxRecDepth 100000
set_option linter.unusedSimpArgs false
attribute [local simp] dFor_none storeFine_none dFor_no storeFine_no lessL lkL evCode_exit evCode_seq evCode_plain evCode_draw evCode_cond evCode_ret evCode_skip evCode_block evCode_loop roundK_normal roundK_exit roundK_ret seqK_normal seqK_exit seqK_ret blockK_normal blockK_exit blockK_ret regK_eq evOps_nil evOps_cons params astep okDst isWanted aop opnd ofValue putT abin headS ofL noPtr acall adopt_bool adopt_int adopt_str adopt_agg adopt_clip upd_false AV.cells partOf setCells fillC AV.isVal List.range List.range.loop ofB mayRead dsts planRo capIds viewed scalarR AV.scalar bare_undef bare_bool bare_int bare_str bare_snil bare_snone bare_sclip bare_srow bare_ptr bare_eptr bare_pnil bare_fn bare_fnil bare_agg bare_tup clean keepBoxes relabB relabL cleanS fixPtr cellsOfB namesOf row_undef row_bool row_int row_str row_snil row_snone row_sclip row_srow row_ptr row_eptr row_pnil row_fn row_fnil row_agg row_tup relab_undef relab_bool relab_int relab_str relab_snil relab_snone relab_sclip relab_srow relab_ptr relab_eptr relab_pnil relab_fn relab_fnil relab_agg relab_tup relab_sgrow passed setBoxes killNames addNames freshAll adopt resParts resBack boxName finK freezeT avAll resOf outBoxes AV.untup

theorem fx_clip : Fx .clip := .inl rfl
theorem fx_none : Fx .none := .inr rfl
/-- A text is read as some tokens. -/
def isReadP (s : Str) (want : List Tk) : Bool := !oddS s && ((readAll [s]).1 == 0 && eqKT (readAll [s]).2.ts want)
theorem total_one (s : Str) : total [s] = s.length + 1 := by simp [total, left]
theorem isRead_ev (s : Str) (want : List Tk) (tk : Tok) (ht : Fx tk) (hl : s.length < 2 ^ 38) (hw : want.length < 2 ^ 62) : evc plan 65 [.str s, .sl 4 (want.map tkC) tk] [] = some (.bool (isReadP s want), []) := by
  refine evc_start plan (P := Tryz.prog) (ro := planRo) rfl rfl rfl rfl rfl rfl (by simp) rfl ?_
  have hV : isReadP s want = (!oddS s && ((readAll [s]).1 == 0 && eqKT (readAll [s]).2.ts want)) := rfl
  generalize isReadP s want = V at hV ⊢
  obtain ⟨X, hX⟩ : ∃ X, X = [s] := ⟨_, rfl⟩
  have hT2 : total X < 2 ^ 39 := by rw [hX, total_one]; omega
  have hXl : X.length < 2 ^ 40 := by rw [hX]; simp
  have hXc : ∀ x ∈ X, x.length < 2 ^ 40 := fun x hx => by rw [hX] at hx; simp at hx; subst hx; omega
  rw [← hX] at hV
  generalize hR : readAll X = R at hV
  cases h0 : oddS s
  · simp [odd_ev, h0]
    refine loop_by (fun (q : Nat × St) => q.1) (fun q t m => ReadInv X R q ∧ clean (lvIsRead 4) t m = headS [(1, .sl 4 (want.map tkC) tk), (5, .ptr 500011 0), (11, .ptr 500011 0)] [(500011, rdAt X .clip q.2 1500011 4 1500011 5)]) ?_ (total X + 1, st0) ?_
    · rintro ⟨k, r⟩ t m ⟨hI, hS⟩ ih
      refine round_of hS ?_
      clear hX
      by_cases h1 : r.i < X.length
      · have h1' : ¬ X.length ≤ r.i := by omega
        have hnx := next_of X .clip fx_clip r hXl hXc hT2 h1 hI.1
        generalize hN : nextGo X (total X + 1) r = N at hnx
        obtain ⟨e, r'⟩ := N
        unfold rdS rd at hnx
        simp only at hnx
        cases h2 : e != 0
        · have he : e = 0 := by simpa using h2
          obtain ⟨k', rfl, hI'⟩ := hI.step h1 (by rw [hN]; exact he)
          rw [hN] at hI'
          simp only at hI'
          simp [over_ev, h1', hnx, h2, rdAt, bare_fx ht, row_fx ht, relab_fx ht]
          refine ih (k', r') _ _ (by simp) ⟨hI', ?_⟩
          simp [lvIsRead, lvL, rdAt, growOf, bare_fx ht, row_fx ht, relab_fx ht]
        · have := hI.stop h1 (by rw [hN]; simpa using h2)
          rw [hN] at this
          subst this
          have he : (e == 0) = false := by simpa using h2
          simp only [he] at hV
          simp at hV
          subst hV
          simp [over_ev, h1', hnx, h2, rdAt, bare_fx ht, row_fx ht, relab_fx ht]
      · have := hI.over h1
        subst this
        have h1' : X.length ≤ r.i := by omega
        have hq := equal_ev r.ts want .none tk fx_none ht (by have := hI.1.n; simp only at this; omega) hw
        simp [h0] at hV
        subst hV
        simp [over_ev, h1', rdAt, hq, bare_fx ht, row_fx ht, relab_fx ht]
    · refine ⟨hR ▸ ReadInv.start X, ?_⟩
      subst hX
      simp [lvIsRead, lvL, rdAt, growOf, strs, bare_fx ht, row_fx ht, relab_fx ht, st0]
  · simp [h0] at hV
    subst hV
    simp [odd_ev, h0]
/-- The error of the kind and the text of a token. -/
def textErrP (t : Tk) : Int := if spansB t.kind 0 5 then (if isReadP t.text [t] then 0 else 8) else 4
theorem textErr_ev (t : Tk) (hl : t.text.length < 2 ^ 38) : evc plan 34 [.agg (tkC t)] [] = some (.int .i64 (textErrP t), []) := by
  refine evc_start plan (P := Tryz.prog) (ro := planRo) rfl rfl rfl rfl rfl rfl (by simp) rfl ?_
  have h := isRead_ev t.text [t] .clip fx_clip hl (by simp)
  simp only [List.map_cons, List.map_nil, tkC] at h
  cases h1 : spansB t.kind 0 5 <;> cases h2 : isReadP t.text [t] <;> simp [tkC, spans_ev, wrong_ev, h, h1, h2, textErrP]
def checkTokenP (t : Tk) : Int := firstOf [textErrP t, if spansB t.line 0 299 && spansB t.col 0 (120 - t.text.length) then 0 else 3]
theorem checkToken_ev (t : Tk) (hl : t.text.length < 2 ^ 38) : evc plan 10 [.agg (tkC t)] [] = some (.int .i64 (checkTokenP t), []) := by
  refine evc_start plan (P := Tryz.prog) (ro := planRo) rfl rfl rfl rfl rfl rfl (by simp) rfl ?_
  have h := textErr_ev t hl
  unfold tkC at h
  have w1 : IntKind.i64.wrap (120 - (t.text.length : Int)) = 120 - t.text.length := wrap_i64 (by omega) (by omega)
  cases h1 : spansB t.line 0 299
  · simp [tkC, spans_ev, wrong_ev, or2_ev, h, h1, checkTokenP]
  · cases h2 : spansB t.col 0 (120 - t.text.length) <;> simp [tkC, spans_ev, wrong_ev, or2_ev, h, h1, h2, w1, checkTokenP]
def apartP (a b : Tk) : Bool := !isReadP (a.text ++ b.text) [a, b]
theorem apart_ev (a b : Tk) (ha : a.text.length < 2 ^ 37) (hb : b.text.length < 2 ^ 37) : evc plan 35 [.agg (tkC a), .agg (tkC b)] [] = some (.bool (apartP a b), []) := by
  refine evc_start plan (P := Tryz.prog) (ro := planRo) rfl rfl rfl rfl rfl rfl (by simp) rfl ?_
  have h := isRead_ev (a.text ++ b.text) [a, b] .clip fx_clip (by simp; omega) (by simp)
  simp only [List.map_cons, List.map_nil, tkC] at h
  have h1 : a.text.length + b.text.length ≤ 9223372036854775807 := by omega
  simp [tkC, h, h1, apartP]
def mustP (a b : Tk) : Bool × Int := if firstOf [textErrP a, textErrP b] != 0 then (false, firstOf [textErrP a, textErrP b]) else (apartP a b, 0)
theorem must_ev (a b : Tk) (ha : a.text.length < 2 ^ 37) (hb : b.text.length < 2 ^ 37) : evc plan 9 [.agg (tkC a), .agg (tkC b)] [] = some (.tup [.bool (mustP a b).1, .int .i64 (mustP a b).2], []) := by
  refine evc_start plan (P := Tryz.prog) (ro := planRo) rfl rfl rfl rfl rfl rfl (by simp) rfl ?_
  have h1 := textErr_ev a (by omega)
  have h2 := textErr_ev b (by omega)
  have h3 := apart_ev a b ha hb
  unfold tkC at h1 h2 h3
  unfold mustP
  have ho := or2_ev (textErrP a) (textErrP b)
  generalize firstOf [textErrP a, textErrP b] = e at ho
  cases h4 : e != 0 <;> simp [tkC, h1, h2, h3, ho, h4]
end Go.Proofs.YtlmmgblghgmgeaaGreatDoor

/- The exported functions of the program's chapter 1, but for printing. -/
namespace Go.Proofs.YtlmmgblghgmgeaaGreatDoor
open Go Ev
set_option maxRecDepth 100000
set_option linter.unusedSimpArgs false
attribute [local simp] dFor_none storeFine_none dFor_no storeFine_no lessL lkL evCode_exit evCode_seq evCode_plain evCode_draw evCode_cond evCode_ret evCode_skip evCode_block evCode_loop roundK_normal roundK_exit roundK_ret seqK_normal seqK_exit seqK_ret blockK_normal blockK_exit blockK_ret regK_eq evOps_nil evOps_cons params astep okDst isWanted aop opnd ofValue putT abin headS ofL noPtr acall adopt_bool adopt_int adopt_str adopt_agg adopt_clip upd_false AV.cells partOf setCells fillC AV.isVal List.range List.range.loop ofB mayRead dsts planRo capIds viewed scalarR AV.scalar bare_undef bare_bool bare_int bare_str bare_snil bare_snone bare_sclip bare_srow bare_ptr bare_eptr bare_pnil bare_fn bare_fnil bare_agg bare_tup clean keepBoxes relabB relabL cleanS fixPtr cellsOfB namesOf row_undef row_bool row_int row_str row_snil row_snone row_sclip row_srow row_ptr row_eptr row_pnil row_fn row_fnil row_agg row_tup relab_undef relab_bool relab_int relab_str relab_snil relab_snone relab_sclip relab_srow relab_ptr relab_eptr relab_pnil relab_fn relab_fnil relab_agg relab_tup relab_sgrow passed setBoxes killNames addNames freshAll adopt resParts resBack boxName finK freezeT avAll resOf outBoxes AV.untup

/-- What a reading comes to: the error and its place, or the tokens and the comments. -/
structure Rd where
  err : Int
  line : Int
  col : Int
  ts : List Tk
  cs : List Sp
def readP (l : List Str) : Rd :=
  if (checkLinesP l).2 != 0 then ⟨(checkLinesP l).2, (checkLinesP l).1, 0, [], []⟩
  else if (readAll l).1 != 0 then ⟨(readAll l).1, (readAll l).2.i, (readAll l).2.j, [], []⟩
  else if decide (((readAll l).2.ts.length : Int) > 1200) then ⟨2, 0, 0, [], []⟩
  else ⟨0, 0, 0, (readAll l).2.ts, (readAll l).2.cs⟩
theorem readR_cases (l : List Str) (tk : Tok) :
    (∃ e a b rp, (e != 0) = true ∧ readP l = ⟨e, a, b, [], []⟩ ∧ (rp = .pnil ∨ ∃ c, rp = .eptr c) ∧ readR l tk = .tup [rp, .agg [.int .i64 a, .int .i64 b], .int .i64 e]) ∨
    (∃ s, readP l = ⟨0, 0, 0, s.ts, s.cs⟩ ∧ readR l tk = .tup [.eptr (rdOut l tk s), .agg [.int .i64 0, .int .i64 0], .int .i64 0]) := by
  unfold readP readR
  cases h0 : (checkLinesP l).2 != 0
  · cases h1 : (readAll l).1 != 0
    · cases h2 : decide (((readAll l).2.ts.length : Int) > 1200)
      · exact .inr ⟨(readAll l).2, by simp, by simp⟩
      · exact .inl ⟨2, 0, 0, .eptr (rdOut l tk (readAll l).2), rfl, by simp, .inr ⟨_, rfl⟩, by simp⟩
    · exact .inl ⟨_, _, _, .pnil, h1, rfl, .inl rfl, rfl⟩
  · exact .inl ⟨_, _, _, .pnil, h0, rfl, .inl rfl, rfl⟩
def slTk (r : Rd) : AV := if r.err != 0 then .sl 0 [] .nil else .sl 4 (r.ts.map tkC) .none
def slSp (r : Rd) : AV := if r.err != 0 then .sl 0 [] .nil else .sl 4 (r.cs.map spC) .none
theorem tokensOf_ev (l : List Str) (tk : Tok) (ht : Fx tk) (hl : l.length < 2 ^ 62) : evc plan 15 [.sl 1 (strs l) tk] [] = some (.tup [slTk (readP l), .agg [.int .i64 (readP l).line, .int .i64 (readP l).col], .int .i64 (readP l).err], []) := by
  refine evc_start plan (P := Tryz.prog) (ro := planRo) rfl rfl rfl rfl rfl rfl (by simp) rfl ?_
  have h := read_ev l tk ht hl
  rcases readR_cases l tk with ⟨e, a, b, rp, he, hp, hr, hR⟩ | ⟨s, hp, hR⟩
  · rw [hR] at h
    rw [hp]
    rcases hr with rfl | ⟨c, rfl⟩ <;> simp [h, he, slTk, bare_fx ht, row_fx ht, relab_fx ht]
  · rw [hR] at h
    rw [hp]
    simp [h, slTk, rdOut, bare_fx ht, row_fx ht, relab_fx ht]
theorem commentsIn_ev (l : List Str) (tk : Tok) (ht : Fx tk) (hl : l.length < 2 ^ 62) : evc plan 17 [.sl 1 (strs l) tk] [] = some (.tup [slSp (readP l), .agg [.int .i64 (readP l).line, .int .i64 (readP l).col], .int .i64 (readP l).err], []) := by
  refine evc_start plan (P := Tryz.prog) (ro := planRo) rfl rfl rfl rfl rfl rfl (by simp) rfl ?_
  have h := read_ev l tk ht hl
  rcases readR_cases l tk with ⟨e, a, b, rp, he, hp, hr, hR⟩ | ⟨s, hp, hR⟩
  · rw [hR] at h
    rw [hp]
    rcases hr with rfl | ⟨c, rfl⟩ <;> simp [h, he, slSp, bare_fx ht, row_fx ht, relab_fx ht]
  · rw [hR] at h
    rw [hp]
    simp [h, slSp, rdOut, bare_fx ht, row_fx ht, relab_fx ht]
/-- The first place of a list that is of a kind, or -1. -/
def idxP {α : Type} (p : α → Bool) : List α → Int → Int
  | [], _ => -1
  | x :: r, n => if p x then n else idxP p r (n + 1)
theorem idxP_drop {α : Type} (p : α → Bool) (l : List α) (i : Nat) (h : i < l.length) : idxP p (l.drop i) i = if p l[i] then (i : Int) else idxP p (l.drop (i + 1)) ((i + 1 : Nat) : Int) := by
  rw [List.drop_eq_getElem_cons h]; rfl
theorem idxP_range {α : Type} (p : α → Bool) : ∀ (l : List α) (n : Nat), idxP p l n = -1 ∨ ∃ k : Nat, idxP p l n = ((n + k : Nat) : Int) ∧ k < l.length
  | [], _ => .inl rfl
  | x :: l, n => by
    unfold idxP
    cases h : p x
    · rcases idxP_range p l (n + 1) with h1 | ⟨k, h1, h2⟩
      · exact .inl (by simpa using h1)
      · refine .inr ⟨k + 1, ?_, by simpa using h2⟩
        simp only [Bool.false_eq_true, if_false]
        rw [show ((n : Int) + 1) = ((n + 1 : Nat) : Int) by omega, h1]; omega
    · exact .inr ⟨0, by simp, by simp⟩
theorem spell_ev (s a b : Str) : evc plan 60 [.agg [.str a, .str b], .eptr [.str s]] [] = some (.bool (a == s), []) := by
  refine evc_start plan (P := Tryz.prog) (ro := planRo) rfl rfl rfl rfl rfl rfl (by simp) rfl ?_
  simp []
theorem indexSpell_ev (l : List (Str × Str)) (s : Str) (tk : Tok) (ht : Fx tk) (hl : l.length < 2 ^ 62) : evc plan 58 [.sl 2 (pairs l) tk, .fn 60 [.eptr [.str s]]] [] = some (.int .i64 (idxP (fun x => x.1 == s) l 0), []) := by
  refine evc_start plan (P := Tryz.prog) (ro := planRo) rfl rfl rfl rfl rfl rfl (by simp) rfl ?_
  simp [pairs]
  refine loop_by (fun i => l.length - i) (fun (i : Nat) t m => i ≤ l.length ∧ idxP (fun x => x.1 == s) l 0 = idxP (fun x => x.1 == s) (l.drop i) i ∧ clean (lvIndex 2) t m = headS [(0, .sl 2 (pairs l) tk), (1, .fn 60 [.eptr [.str s]]), (7, .int .i64 l.length), (8, .int .i64 i)] []) ?_ 0 ?_
  · intro i t m ⟨hi, hr, hS⟩ ih
    refine round_of hS ?_
    by_cases h1 : i < l.length
    · have hd := idxP_drop (fun x : Str × Str => x.1 == s) l i h1
      have w1 : IntKind.i64.wrap ((i : Int) + 1) = i + 1 := wrap_i64 (by omega) (by omega)
      have hs := spell_ev s l[i].1 l[i].2
      cases h2 : l[i].1 == s
      · simp only [h2] at hd hs
        simp [h1, w1, pairs, hs]
        refine ih (i + 1) _ _ (by omega) ⟨by omega, by rw [hr, hd]; simp, ?_⟩
        simp [lvIndex, lvL, pairs, bare_fx ht, row_fx ht, relab_fx ht]
      · simp only [h2] at hd hs
        simp [h1, w1, pairs, hs]
        rw [hr, hd]; simp
    · simp [h1, pairs]
      have : i = l.length := by omega
      subst this
      simp [idxP] at hr ⊢; omega
  · refine ⟨by omega, by simp, ?_⟩
    simp [lvIndex, lvL, pairs, bare_fx ht, row_fx ht, relab_fx ht]
/-- The canonical spelling of a text, and the error. -/
def canonP (s : Str) : Str × Int :=
  if isRuleB s then (Lib.repeatL (s.take 1) 4, 0)
  else if decide (0 ≤ idxIn s plainL 0) then (s, 0)
  else if decide (idxP (fun x => x.1 == s) othersL 0 < 0) then ([], 10)
  else ((othersL.getD (idxP (fun x => x.1 == s) othersL 0).toNat ([], [])).2, 0)
theorem canon_ev (s : Str) (hl : s.length < 2 ^ 40) : evc plan 28 [.str s] [] = some (.tup [.str (canonP s).1, .int .i64 (canonP s).2], []) := by
  refine evc_start plan (P := Tryz.prog) (ro := planRo) rfl rfl rfl rfl rfl rfl (by simp) rfl ?_
  have h1 := rule_ev s (by omega)
  have h2 := plain_ev
  have h3 := contains_ev plainL s .clip (.inl rfl) (by decide)
  have h4 := others_ev
  have h5 := indexSpell_ev othersL s .clip fx_clip (by decide)
  have h6 : evc plan 43 [.str (s.take 1), .int .i64 4] [] = some (.str (Lib.repeatL (s.take 1) 4), []) := evc_ext plan rfl (by
    simp only [plan, planExt]
    rw [if_pos ⟨by decide, by decide, Nat.le_trans (show (s.take 1).length * 4 ≤ 4 by rw [List.length_take]; omega) (by decide)⟩]; rfl)
  unfold canonP
  cases h7 : isRuleB s
  · cases h8 : decide (0 ≤ idxIn s plainL 0)
    · rw [h8] at h3
      have hlen : othersL.length = 11 := rfl
      rcases idxP_range (fun x : Str × Str => x.1 == s) othersL 0 with h9 | ⟨k, h9, h10⟩
      · simp only [Int.natCast_zero] at h9
        rw [h9] at h5
        simp only [h9]
        simp [h1, h2, h3, h4, h5, h7, h8, capture]
      · simp only [Nat.zero_add, Int.natCast_zero] at h9
        rw [h9] at h5
        simp only [h9]
        have h11 : k < (pairs othersL).length := by simpa [pairs] using h10
        have h12 : ¬ (k : Int) < 0 := by omega
        simp [h1, h2, h3, h4, h5, h7, h8, h10, h11, h12, capture]
        simp [pairs, h10]
    · rw [h8] at h3
      simp [h1, h2, h3, h7, h8]
  · have : 1 ≤ s.length := by
      simp only [isRuleB, Bool.and_eq_true, decide_eq_true_eq] at h7; omega
    simp [h1, h6, h7, aslice, abound, this]
end Go.Proofs.YtlmmgblghgmgeaaGreatDoor

/- Few, IsShown, CheckLines of the reference, own copies. -/
namespace Go.Proofs.YtlmmgblghgmgeaaGreatDoor
open Go Ev
set_option maxRecDepth 100000
set_option linter.unusedSimpArgs false
attribute [local simp] dFor_none storeFine_none dFor_no storeFine_no lessL lkL evCode_exit evCode_seq evCode_plain evCode_draw evCode_cond evCode_ret evCode_skip evCode_block evCode_loop roundK_normal roundK_exit roundK_ret seqK_normal seqK_exit seqK_ret blockK_normal blockK_exit blockK_ret regK_eq evOps_nil evOps_cons params astep okDst isWanted aop opnd ofValue putT abin headS ofL noPtr acall adopt_bool adopt_int adopt_str adopt_agg adopt_clip upd_false AV.cells partOf setCells fillC AV.isVal List.range List.range.loop ofB mayRead dsts planRo capIds viewed scalarR AV.scalar bare_undef bare_bool bare_int bare_str bare_snil bare_snone bare_sclip bare_srow bare_ptr bare_eptr bare_pnil bare_fn bare_fnil bare_agg bare_tup clean keepBoxes relabB relabL cleanS fixPtr cellsOfB namesOf row_undef row_bool row_int row_str row_snil row_snone row_sclip row_srow row_ptr row_eptr row_pnil row_fn row_fnil row_agg row_tup relab_undef relab_bool relab_int relab_str relab_snil relab_snone relab_sclip relab_srow relab_ptr relab_eptr relab_pnil relab_fn relab_fnil relab_agg relab_tup relab_sgrow passed setBoxes killNames addNames freshAll adopt resParts resBack boxName finK freezeT avAll resOf outBoxes AV.untup

theorem own_ev (l : List Str) (tk : Tok) (ht : Fx tk) (hl : l.length < 2 ^ 42) : evc plan 16 [.sl 1 (strs l) tk] [] = some (.sl 1 (strs l) (.row 999999 0), []) := by
  refine evc_start plan (P := Tryz.prog) (ro := planRo) rfl rfl rfl rfl rfl rfl (by simp) rfl ?_
  have h1 : (strs l).length * 16 ≤ 70368744177664 := by simp [strs]; omega
  simp [h1, aappend, bare_fx ht, row_fx ht, relab_fx ht]
/-- Not larger than it may be by much. -/
def fewP (l : List Str) : Bool := (l.take 310).all (fun s => decide ((s.length : Int) ≤ 140)) && decide ((l.length : Int) ≤ 305)
theorem all_drop {α : Type} (p : α → Bool) (l : List α) (i : Nat) (h : i < l.length) : (l.drop i).all p = (p l[i] && (l.drop (i + 1)).all p) := by
  rw [List.drop_eq_getElem_cons h]; rfl
theorem few_ev (l : List Str) (tk : Tok) (ht : Fx tk) (hl : l.length < 2 ^ 62) : evc plan 14 [.sl 1 (strs l) tk] [] = some (.bool (fewP l), []) := by
  refine evc_start plan (P := Tryz.prog) (ro := planRo) rfl rfl rfl rfl rfl rfl (by simp) rfl ?_
  have hV : fewP l = ((l.take 310).all (fun s => decide ((s.length : Int) ≤ 140)) && decide ((l.length : Int) ≤ 305)) := rfl
  generalize fewP l = V at hV ⊢
  simp []
  refine loop_by (fun i => l.length - i) (fun (i : Nat) t m => i ≤ (l.take 310).length ∧ V = (((l.take 310).drop i).all (fun s => decide ((s.length : Int) ≤ 140)) && decide ((l.length : Int) ≤ 305)) ∧ clean (lvFew 2) t m = headS [(0, .sl 1 (strs l) tk), (3, .int .i64 i)] []) ?_ 0 ?_
  · intro i t m ⟨hi, hr, hS⟩ ih
    refine round_of hS ?_
    have hi2 : i ≤ 310 ∧ i ≤ l.length := by rw [List.length_take] at hi; omega
    by_cases h1 : i < l.length
    · by_cases h2 : (i : Int) < 310
      · have h3 : i < (l.take 310).length := by rw [List.length_take]; omega
        have hd := all_drop (fun s : Str => decide ((s.length : Int) ≤ 140)) (l.take 310) i h3
        have w1 : IntKind.i64.wrap ((i : Int) + 1) = i + 1 := wrap_i64 (by omega) (by omega)
        rw [List.getElem_take] at hd
        by_cases h4 : (l[i].length : Int) ≤ 140
        · have h5 : ¬ (140 : Int) < l[i].length := by omega
          simp [h1, h2, w1, strs, h5]
          refine ih (i + 1) _ _ (by omega) ⟨by omega, by rw [hr, hd]; simp [h4], ?_⟩
          simp [lvFew, lvL, strs, bare_fx ht, row_fx ht, relab_fx ht]
        · have h5 : (140 : Int) < l[i].length := by omega
          simp [h1, h2, w1, strs, h5]
          rw [hr, hd]; simp [h4]
      · have h6 : (l.take 310).drop i = [] := List.drop_eq_nil_of_le (by rw [List.length_take]; omega)
        simp [h1, h2, strs]
        rw [hr, h6]; simp
    · have h6 : (l.take 310).drop i = [] := List.drop_eq_nil_of_le (by rw [List.length_take]; omega)
      simp [h1, strs]
      rw [hr, h6]; simp
  · refine ⟨by omega, by simpa using hV, ?_⟩
    simp [lvFew, lvL, strs, bare_fx ht, row_fx ht, relab_fx ht]
def shownC (b : UInt8) : Bool := !(decide ((b.toNat : Int) < 32) || decide ((b.toNat : Int) > 126))
def shownP (s : Str) (m : Int) : Bool := decide ((s.length : Int) ≤ m) && s.all shownC
theorem shown_ev (s : Str) (n : Int) (hl : s.length < 2 ^ 62) : evc plan 72 [.str s, .int .i64 n] [] = some (.bool (shownP s n), []) := by
  refine evc_start plan (P := Tryz.prog) (ro := planRo) rfl rfl rfl rfl rfl rfl (by simp) rfl ?_
  unfold shownP
  by_cases h0 : (s.length : Int) ≤ n
  · have h0' : ¬ n < s.length := by omega
    obtain ⟨V, hV⟩ : ∃ V, V = s.all shownC := ⟨_, rfl⟩
    rw [show (decide ((s.length : Int) ≤ n) && s.all shownC) = V by simp [h0, hV]]
    simp [h0']
    refine loop_by (fun i => s.length - i) (fun (i : Nat) t m => i ≤ s.length ∧ V = (s.drop i).all shownC ∧ clean (lvShown 4) t m = headS [(0, .str s), (5, .int .i64 i)] []) ?_ 0 ?_
    · intro i t m ⟨hi, hr, hS⟩ ih
      refine round_of hS ?_
      by_cases h1 : i < s.length
      · have hd := all_drop shownC s i h1
        have w1 : IntKind.i64.wrap ((i : Int) + 1) = i + 1 := wrap_i64 (by omega) (by omega)
        by_cases h2 : (s[i].toNat : Int) < 32
        · simp [h1, h2]
          rw [hr, hd]; simp [shownC, h2]
        · by_cases h3 : (126 : Int) < s[i].toNat
          · simp [h1, h2, h3]
            rw [hr, hd]; simp [shownC, h2, h3]
          · simp [h1, h2, h3, w1]
            refine ih (i + 1) _ _ (by omega) ⟨by omega, by rw [hr, hd]; simp [shownC, h2, h3], ?_⟩
            simp [lvShown, lvL]
      · simp [h1]
        have : i = s.length := by omega
        subst this
        rw [hr]; simp
    · refine ⟨by omega, by simpa using hV, ?_⟩
      simp [lvShown, lvL]
  · have h0' : n < s.length := by omega
    simp [h0, h0']
/-- The reference's lines checked, from a line on. -/
def refLinesGo : List Str → Int → Int × Int
  | [], n => (n, 0)
  | s :: r, n => if decide ((s.length : Int) > 120) then (n, 2) else if !shownP s 120 then (n, 5) else refLinesGo r (n + 1)
def refLinesP (l : List Str) : Int × Int := if decide ((l.length : Int) > 300) then (0, 2) else refLinesGo l 0
theorem refLinesGo_drop (l : List Str) (i : Nat) (h : i < l.length) : refLinesGo (l.drop i) i = if decide ((l[i].length : Int) > 120) then ((i : Int), 2) else if !shownP l[i] 120 then ((i : Int), 5) else refLinesGo (l.drop (i + 1)) ((i + 1 : Nat) : Int) := by
  rw [List.drop_eq_getElem_cons h]; rfl
theorem refLines_ev (l : List Str) (tk : Tok) (ht : Fx tk) (hl : l.length < 2 ^ 62) : evc plan 44 [.sl 1 (strs l) tk] [] = some (.tup [.int .i64 (refLinesP l).1, .int .i64 (refLinesP l).2], []) := by
  refine evc_start plan (P := Tryz.prog) (ro := planRo) rfl rfl rfl rfl rfl rfl (by simp) rfl ?_
  cases h0 : decide ((l.length : Int) > 300)
  · have e0 : refLinesP l = refLinesGo l 0 := by simp [refLinesP, h0]
    rw [e0]
    simp [h0, strs]
    refine loop_by (fun i => l.length - i) (fun (i : Nat) t m => i ≤ l.length ∧ refLinesGo l 0 = refLinesGo (l.drop i) i ∧ clean (lvRefLines 4) t m = headS [(0, .sl 1 (strs l) tk), (4, .int .i64 i)] []) ?_ 0 ?_
    · intro i t m ⟨hi, hr, hS⟩ ih
      refine round_of hS ?_
      by_cases h1 : i < l.length
      · have hd := refLinesGo_drop l i h1
        have w1 : IntKind.i64.wrap ((i : Int) + 1) = i + 1 := wrap_i64 (by omega) (by omega)
        by_cases h2 : (l[i].length : Int) > 120
        · simp [h1, h2, strs]
          rw [hr, hd]; simp [h2]
        · have h3 := shown_ev l[i] 120 (by omega)
          cases h4 : shownP l[i] 120
          · simp [h1, h2, h3, h4, strs]
            rw [hr, hd]; simp [h2, h4]
          · simp [h1, h2, h3, h4, w1, strs]
            refine ih (i + 1) _ _ (by omega) ⟨by omega, by rw [hr, hd]; simp [h2, h4], ?_⟩
            simp [lvRefLines, lvL, strs, bare_fx ht, row_fx ht, relab_fx ht]
      · simp [h1, strs]
        have : i = l.length := by omega
        subst this
        simp [refLinesGo] at hr
        rw [hr]; simp
    · refine ⟨by omega, by simp, ?_⟩
      simp [lvRefLines, lvL, strs, bare_fx ht, row_fx ht, relab_fx ht]
  · simp [h0, strs, refLinesP]
/-- The lines of the chapter's first example. -/
def exL : List Str := [[120, 39, 32, 61, 32, 120, 32, 43, 32, 49, 32, 40, 42, 32, 111, 110, 101], [109, 111, 114, 101, 32, 42, 41, 32, 47, 92, 32, 121, 32, 35, 32, 34, 97, 34]]
theorem ex_ev : evc plan 32 [] [] = some (.sl 1 (strs exL) .clip, []) := by
  refine evc_start plan (P := Tryz.prog) (ro := planRo) rfl rfl rfl rfl rfl rfl (by simp) rfl ?_
  simp [strs, exL]
end Go.Proofs.YtlmmgblghgmgeaaGreatDoor

/- The law of the lines, by its code. -/
namespace Go.Proofs.YtlmmgblghgmgeaaGreatDoor
open Go Ev
set_option maxRecDepth 100000
set_option linter.unusedSimpArgs false
attribute [local simp] dFor_none storeFine_none dFor_no storeFine_no lessL lkL evCode_exit evCode_seq evCode_plain evCode_draw evCode_cond evCode_ret evCode_skip evCode_block evCode_loop roundK_normal roundK_exit roundK_ret seqK_normal seqK_exit seqK_ret blockK_normal blockK_exit blockK_ret regK_eq evOps_nil evOps_cons params astep okDst isWanted aop opnd ofValue putT abin headS ofL noPtr acall adopt_bool adopt_int adopt_str adopt_agg adopt_clip upd_false AV.cells partOf setCells fillC AV.isVal List.range List.range.loop ofB mayRead dsts planRo capIds viewed scalarR AV.scalar bare_undef bare_bool bare_int bare_str bare_snil bare_snone bare_sclip bare_srow bare_ptr bare_eptr bare_pnil bare_fn bare_fnil bare_agg bare_tup passed setBoxes killNames addNames freshAll adopt resParts resBack relabB relabL namesOf cellsOfB boxName row_undef row_bool row_int row_str row_snil row_snone row_sclip row_srow row_ptr row_eptr row_pnil row_fn row_fnil row_agg row_tup relab_undef relab_bool relab_int relab_str relab_snil relab_snone relab_sclip relab_srow relab_ptr relab_eptr relab_pnil relab_fn relab_fnil relab_agg relab_tup relab_sgrow finK freezeT avAll resOf outBoxes AV.untup

def fld (n : String) (t o b : Nat) : Field := { name := n, type := t, offset := o, embedded := false, tag := "", pkgPath := "", byteOffset := b }
theorem under_token : Tryz.prog.underlying 23 = some (.struct #[fld "Kind" 3 0 0, fld "Text" 9 1 8, fld "Line" 3 2 24, fld "Column" 3 3 32]) := by kernel_rfl
theorem under_place : Tryz.prog.underlying 35 = some (.struct #[fld "Line" 3 0 0, fld "Column" 3 1 8]) := by kernel_rfl
theorem under_int : Tryz.prog.underlying 3 = some (.int .i64) := by kernel_rfl
theorem under_string : Tryz.prog.underlying 9 = some .string := by kernel_rfl
theorem guard_token : Tryz.prog.eqGuardType Tryz.prog.depth 23 = false := by kernel_rfl
theorem guard_place : Tryz.prog.eqGuardType Tryz.prog.depth 35 = false := by kernel_rfl
theorem held_token : Tryz.prog.stoodInHeld 23 = false := by kernel_rfl
theorem held_place : Tryz.prog.stoodInHeld 35 = false := by kernel_rfl
def sameTk (x y : Tk) : Bool := x.kind == y.kind && (x.text == y.text && (x.line == y.line && x.col == y.col))
theorem acmp_token (x y : Tk) : acmp Tryz.prog 23 (.agg (tkC x)) (.agg (tkC y)) = some (sameTk x y) := by
  simp only [acmp, guard_token, Bool.false_eq_true, if_false, aeq, under_token, held_token, aeqF]
  simp [aeqF, fld, partOf, under_int, under_string, tkC, sameTk, aeq]
theorem acmp_place (a b c d : Int) : acmp Tryz.prog 35 (.agg [.int .i64 a, .int .i64 b]) (.agg [.int .i64 c, .int .i64 d]) = some (a == c && b == d) := by
  simp only [acmp, guard_place, Bool.false_eq_true, if_false, aeq, under_place, held_place, aeqF]
  simp [aeqF, fld, partOf, under_int, under_string, aeq]
deriving instance DecidableEq for Rd
def exTs : List Tk := [⟨0, [120], 0, 0⟩, ⟨4, [39], 0, 1⟩, ⟨4, [61], 0, 3⟩, ⟨0, [120], 0, 5⟩, ⟨4, [43], 0, 7⟩, ⟨2, [49], 0, 9⟩, ⟨4, [47, 92], 1, 8⟩, ⟨0, [121], 1, 11⟩, ⟨4, [35], 1, 13⟩, ⟨3, [34, 97, 34], 1, 15⟩]
theorem ex_read : readP exL = ⟨0, 0, 0, exTs, [⟨0, 11, 1, 7⟩]⟩ := by decide +kernel
theorem ex_canon : canonP [92, 108, 97, 110, 100] = ([47, 92], 0) := by decide +kernel
theorem ex_must : mustP ⟨4, [45], 0, 0⟩ ⟨4, [62], 0, 0⟩ = (true, 0) := by decide +kernel
set_option maxHeartbeats 2000000 in
theorem awake_ev : evc plan 8 [] [] = some (.bool true, []) := by
  refine evc_start plan (P := Tryz.prog) (ro := planRo) rfl rfl rfl rfl rfl rfl (by simp) rfl ?_
  have h1 := ex_ev
  have h2 := tokensOf_ev exL .clip fx_clip (by decide)
  have h3 := commentsIn_ev exL .clip fx_clip (by decide)
  have h4 := canon_ev [92, 108, 97, 110, 100] (by decide)
  have h5 := must_ev ⟨4, [45], 0, 0⟩ ⟨4, [62], 0, 0⟩ (by decide) (by decide)
  have h6 := acmp_token ⟨0, [121], 1, 11⟩ ⟨0, [121], 1, 11⟩
  have h7 := acmp_place 1 7 1 7
  rw [ex_read] at h2 h3
  rw [ex_canon] at h4
  rw [ex_must] at h5
  simp [slTk, slSp, exTs, tkC, spC, sameTk] at h2 h3 h5 h6 h7
  simp at h4
  simp [h1, h2, h3, h4, h5, h6, h7, acmpOp]
end Go.Proofs.YtlmmgblghgmgeaaGreatDoor

/- A text without its comments: slices.Clone. -/
namespace Go.Proofs.YtlmmgblghgmgeaaGreatDoor
open Go Ev Go.RowKit
set_option maxRecDepth 100000
set_option linter.unusedSimpArgs false
attribute [local simp] evO_exit evO_seq evO_region evO_cond evO_ret evO_skip evO_block evO_loop roundKO_normal roundKO_exit roundKO_ret seqKO_normal seqKO_exit seqKO_ret blockKO_normal blockKO_exit blockKO_ret regKO_eq finKO evReg storeParts appParts freshParts madeParts inplParts storeK appK madeK inplK base0 getO setO dropO viewT frozen after_apply dn finO allScalar_nil allScalar_cons scalarR dFor_none storeFine_none dFor_no storeFine_no lessL lkL evCode_exit evCode_seq evCode_plain evCode_draw evCode_cond evCode_ret evCode_skip evCode_block evCode_loop roundK_normal roundK_exit roundK_ret seqK_normal seqK_exit seqK_ret blockK_normal blockK_exit blockK_ret regK_eq evOps_nil evOps_cons params astep okDst isWanted aop opnd ofValue putT abin headS ofL noPtr acall adopt_bool adopt_int adopt_str adopt_agg adopt_clip upd_false AV.cells partOf setCells fillC AV.isVal List.range List.range.loop ofB mayRead dsts planRo capIds viewed AV.scalar bare_undef bare_bool bare_int bare_str bare_snil bare_snone bare_sclip bare_srow bare_ptr bare_eptr bare_pnil bare_fn bare_fnil bare_agg bare_tup

def kindClone : Nat → RK := fun id => if id = 0 then .born 2 1 else if id = 2 then .born 2 1 else if id = 3 then .app0 2 5 else .plain
def noFresh : Fresher := fun _ _ => none
noncomputable def envClone : EnvO := ⟨⟨evc plan, planRo, lv0, 8⟩, kindClone, [2], noFresh, noTurn⟩
theorem noFresh_sound : FreshSound Tryz.prog noFresh ∧ TurnSound Tryz.prog noTurn := ⟨fun _ _ _ _ h => by simp [noFresh] at h, noTurn_sound _⟩
theorem strs_scalar (l : List Str) : allScalar (strs l) = true := by
  simp [allScalar, strs, AV.scalar]
theorem fnClone_body : ∃ c, Tryz.f42.body = some c := ⟨_, rfl⟩
theorem clone_ok : codeOkO envClone (Tryz.f42.body.getD .skip) = true := by kernel_rfl
theorem planFollows : Tryz.prog.follows .mixedOrders = true := mixed

theorem clone_ev (s : Str) (l : List Str) (tk : Tok) (ht : Fx tk) (hl : (l.length + 1) * 16 ≤ 70368744177664) (c : Code) (hc : Tryz.f42.body = some c) :
    evO Tryz.prog envClone c (params [.sl 1 (strs (s :: l)) tk] 0) { boxes := ofB [], names := namesOf (cellsOfB []) } [] (fun e _ _ O => finO 2 e O) = some (1, strs (s :: l)) := by
  obtain rfl := Option.some.inj hc.symm
  have hs := strs_scalar l
  simp only [strs] at hs
  rcases ht with rfl | rfl <;> simp [-Int.natCast_add, envClone, kindClone, strs, acmpOp, acmp, hs, hl]
/-- Of an empty slice, nil or not: both ways. -/
theorem clone_fresh0 (tk : Tok) (ht : Fx tk) : FreshCall Tryz.prog 42 [.sl 1 [] tk] 1 [] := by
  refine ⟨Tryz.call42, fun w vs hG hsz hargs => ?_⟩
  refine calls_of_wp Tryz.func42 rfl ?_
  have hM : MemRel noCfg { boxes := ofB [], names := namesOf (cellsOfB []) } w := ⟨fun id => rfl, fun id bx g h => by simp [ofB] at h, fun id id' g h => by simp [noCfg] at h, fun p q => rfl, fun p q g e h => by simp [noCfg] at h, fun p q p' q' g e e' h => by simp [noCfg] at h, fun p q g e id h => by simp [noCfg] at h, fun g off h => h.elim⟩
  have hR := params_T (N := 8) (fn := Tryz.f42) (c := noCfg) (Nat.le_refl _) hsz (fun i x v hx hv => .of_V (hargs i x v hx hv)) hM hG
  have hR0 : SRO Tryz.prog 8 noOwn w noCfg noCfg w (params [.sl 1 [] tk] 0) { boxes := ofB [], names := namesOf (cellsOfB []) } [] _ := ⟨hR, .refl _ _, fun _ _ _ h => h, fun _ => none, by simp, by simp⟩
  have hS : Sound Tryz.prog envClone.E.C := evc_sound plan_ok
  have hpost : ∀ (e : Ex) (O' : List OS) (t' : Tmps) (m' : Mem) (c' : Cfg) (a' : Act) (w' : World), finO 2 e O' = some (1, ([] : List (List AV))) → SRO Tryz.prog 8 noOwn w noCfg c' w' t' m' O' a' →
      bodyPost Tryz.prog Tryz.f42 (fun e w' => ∃ v, e = .returned v ∧ Below w.heap.size w w' ∧ FreshV w w' 1 [] v) (exOf e) a' w' := fun e O' t' m' c' a' w' hK hR' => by
    have hbel : Below w.heap.size w w' := below_of_evo (fun _ _ h => h) hR'.ev
    obtain ⟨gs, k1, _⟩ := hR'.ow
    have hrun : (results Tryz.f42 a'.tmps).run Tryz.prog w' = .ok (a'.tmps.getD 2 undef) w' := by
      simp [results, Tryz.f42]
    have hval : (∀ i, e ≠ .exit i) ∧ FreshV w w' 1 [] (a'.tmps.getD 2 undef) := by
      unfold finO at hK
      split at hK
      · simp at hK
      · rename_i o h1 h2
        refine ⟨fun i he => h1 i he, ?_⟩
        simp only [Option.some.injEq, Prod.mk.injEq] at hK
        obtain ⟨hm, hsl⟩ := getO_mem h2
        have h3 := k1 o hm
        rw [hsl] at h3
        cases hg : gs 2 with
        | none =>
          rw [hg] at h3
          exact .inl ⟨rfl, h3.2⟩
        | some g =>
          rw [hg] at h3
          obtain ⟨cap, cs, el, q1, q2, q3, q4, q5, q6, q7, q8⟩ := h3
          rw [hK.2] at q1 q2
          rw [hK.1] at q4
          exact .inr ⟨g, cap, cs, el, q1, q2, q5, q3, q4, by simp, by simp⟩
      · simp at hK
    cases e with
    | exit i => exact absurd rfl (hval.1 i)
    | normal => exact ⟨hR'.sr.defers, _, hrun, _, rfl, hbel, hval.2⟩
    | ret => exact ⟨hR'.sr.defers, _, hrun, _, rfl, hbel, hval.2⟩
  refine wp_seq (codeO_sound planFollows envClone hS noFresh_sound (.region 0 _ false) (by kernel_rfl) (R := Ex × Tmps × Mem × List OS) _ _ _ (fun e t m O => some (e, t, m, O)) _ rfl noCfg _ w hR0 (by intro s hs; simp at hs) _ fun e t1 m1 O1 c1 a1 w1 h1 hR1 hI1 => ?_)
  simp only [Option.some.injEq, Prod.mk.injEq] at h1
  obtain ⟨rfl, rfl, rfl, rfl⟩ := h1
  have hv0 := hR1.sr.T 0
  obtain ⟨ad, cap, hva⟩ : ∃ ad cap, a1.tmps.getD 0 undef = .slice ad 0 cap := by
    have hv : V c1.own w1 (.sl 1 [] tk) (a1.tmps.getD 0 undef) := by rcases ht with rfl | rfl <;> exact hv0
    generalize a1.tmps.getD 0 undef = u at hv
    cases hv with
    | sl _ _ _ ad len cap cv hlen hcap hel' hc hv ho hn hk hr =>
      simp at hlen
      subst hlen
      exact ⟨ad, cap, rfl⟩
  have hus : Tryz.prog.underlying 31 = some (.slice 9) := by kernel_rfl
  refine wp_seq (wp_seq (wp_region ?_))
  have hop : ∀ (i : Nat) (v : Value) (a : Act), 8 ≤ a.tmps.size → i < 8 → (a.put (some i) v).tmps.getD i undef = v := fun i v a ha hi => put_same (by omega)
  have hsz1 : 8 ≤ a1.tmps.size := hR1.sr.size
  show wpOps Tryz.prog _ _ [0, 1] a1 w1
  rw [wpOps_cons]
  refine wpOp_value (v := .slice ad 0 cap) (w' := w1) rfl rfl ?_ ?_
  · show (pure (Next.value (a1.tmps.getD 0 undef)) : Sem Next).run _ _ = _
    rw [hva]; rfl
  rw [wpOps_cons]
  have hp3 : (a1.put (some 3) (.slice ad 0 cap)).eval (.tmp 3) = .slice ad 0 cap := hop 3 _ _ hsz1 (by omega)
  refine wpOp_value (v := .bool ad.isNone) (w' := w1) rfl rfl ?_ ?_
  · show (do pure (Next.value (← (do eqGuard .eql 31 (.tmp 3) (.const (.slice none 0 0)) ((a1.put (some 3) (.slice ad 0 cap)).eval (.tmp 3)) (.slice none 0 0); binOp .eql 31 ((a1.put (some 3) (.slice ad 0 cap)).eval (.tmp 3)) (.slice none 0 0) : Sem Value))) : Sem Next).run _ _ = _
    rw [hp3]
    have hg : (eqGuard .eql 31 (.tmp 3) (.const (.slice none 0 0)) (.slice ad 0 cap) (.slice none 0 0)).run Tryz.prog w1 = .ok () w1 := rfl
    have he := run_equalIn_sl_nil (P := Tryz.prog) (w := w1) 9999 31 _ ad 0 cap 0 0 hus
    have hb : binOp .eql 31 (.slice ad 0 cap) (.slice none 0 0) = (do pure (.bool (← Op.equal 31 (.slice ad 0 cap) (.slice none 0 0)))) := rfl
    have he2 : (Op.equal 31 (.slice ad 0 cap) (.slice none 0 0)).run Tryz.prog w1 = .ok ad.isNone w1 := he
    rw [hb]
    simp [hg, he2]
  -- the state behind
  have hR2 : SRO Tryz.prog 8 noOwn w noCfg c1 w1 (upd (upd (upd (upd (params [.sl 1 [] tk] 0) 2 (.sl 0 [] .nil)) 2 .undef) 3 .undef) 4 (.bool ad.isNone)) { boxes := ofB [], names := namesOf (cellsOfB []) } [⟨2, 1, []⟩] ((a1.put (some 3) (.slice ad 0 cap)).put (some 4) (.bool ad.isNone)) := by
    obtain ⟨gs, k1, k2⟩ := hR1.ow
    have hget : ∀ i, i ≠ 3 → i ≠ 4 → ((a1.put (some 3) (.slice ad 0 cap)).put (some 4) (.bool ad.isNone)).tmps.getD i undef = a1.tmps.getD i undef := fun i h3 h4 => by
      rw [put_getD fun he => h4 (Option.some.inj he).symm, put_getD fun he => h3 (Option.some.inj he).symm]
    refine ⟨⟨fun i => ?_, hR1.sr.M, hR1.sr.G, hR1.sr.defers, by show 8 ≤ _; simpa [Act.put] using hsz1⟩, hR1.ev, hR1.low, gs, fun s hs => ?_, k2⟩
    · by_cases h4 : i = 4
      · subst h4
        rw [put_same (by show 4 < ((a1.put (some 3) (.slice ad 0 cap))).tmps.size; simp [Act.put]; omega)]
        exact .of_V (.bool _)
      · by_cases h3 : i = 3
        · subst h3
          exact .of_V (.undef _)
        · rw [hget i h3 h4]
          have := hR1.sr.T i
          simp only [upd_apply, h3, h4, if_false] at this ⊢
          exact this
    · have hs2 : s = ⟨2, 1, []⟩ := by simpa using hs
      subst hs2
      rw [hget 2 (by omega) (by omega)]
      exact k1 _ hs
  show Exit.then _ _ .normal _ _
  cases hn : ad.isNone with
  | true =>
    rw [hn] at hR2
    exact codeO_sound planFollows envClone hS noFresh_sound (.cond (.tmp 4) _ _) (by kernel_rfl) (R := Nat × List (List AV)) _ _ _ (fun e t m O => match e with | .normal => none | e => finO 2 e O) (1, []) rfl c1 _ w1 hR2 (by simp [InSlots, envClone]) _ fun e t' m' O' c' a' w' hK hR' _ => by
      cases e with
      | normal => simp at hK
      | exit i => exact hpost (.exit i) O' t' m' c' a' w' hK hR'
      | ret => exact hpost .ret O' t' m' c' a' w' hK hR'
  | false =>
    rw [hn] at hR2
    refine codeO_sound planFollows envClone hS noFresh_sound (.cond (.tmp 4) _ _) (by kernel_rfl) (R := Ex × Tmps × Mem × List OS) _ _ _ (fun e t m O => some (e, t, m, O)) _ rfl c1 _ w1 hR2 (by simp [InSlots, envClone]) _ fun e t' m' O' c' a' w' hK hR' hI' => ?_
    simp only [Option.some.injEq, Prod.mk.injEq] at hK
    obtain ⟨rfl, rfl, rfl, rfl⟩ := hK
    refine codeO_sound planFollows envClone hS noFresh_sound (.seq (.region 3 _ false) .ret) (by kernel_rfl) (R := Nat × List (List AV)) _ _ _ (fun e t m O => finO 2 e O) (1, []) ?_ c' _ w' hR' hI' _ fun e t' m' O' c' a' w' hK hR' _ => hpost e O' t' m' c' a' w' hK hR'
    rcases ht with rfl | rfl <;> simp [-Int.natCast_add, envClone, kindClone]
theorem clone_fresh (l : List Str) (tk : Tok) (ht : Fx tk) (hl : l.length * 16 ≤ 70368744177664) : FreshCall Tryz.prog 42 [.sl 1 (strs l) tk] 1 (strs l) := by
  cases l with
  | nil => exact clone_fresh0 tk ht
  | cons s l =>
    obtain ⟨c, hc⟩ := fnClone_body
    have hok := clone_ok
    rw [hc] at hok
    exact fnO_fresh planFollows (E := envClone) (evc_sound plan_ok) noFresh_sound Tryz.func42 hc rfl (Nat.le_refl _) hok Tryz.call42 (clone_ev s l tk ht (by simpa using hl) c hc)
end Go.Proofs.YtlmmgblghgmgeaaGreatDoor
