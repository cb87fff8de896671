/- The exported functions of the program's chapter 1, but for printing. -/
import Derived.Test.YtlmmgblghgmgeaaDoorWalkM
namespace Go.Proofs.YtlmmgblghgmgeaaDoor
open Go Ev
set_option maxRecDepth 100000
set_option linter.unusedSimpArgs false

/-- What a reading comes to: the error and its place, or the tokens and the comments. -/
structure Rd where
  err : Int
  line : Int
  col : Int
  ts : List Tk
  cs : List Sp
def readP (l : List Str) : Rd :=
  if (checkLinesP l).2 != 0 then ⟨(checkLinesP l).2, (checkLinesP l).1, 0, [], []⟩
  else if (readAll l).1 != 0 then ⟨(readAll l).1, (readAll l).2.i, (readAll l).2.j, [], []⟩
  else if decide (((readAll l).2.ts.length : Int) > 1200) then ⟨2, 0, 0, [], []⟩
  else ⟨0, 0, 0, (readAll l).2.ts, (readAll l).2.cs⟩
theorem readR_cases (l : List Str) (tk : Tok) :
    (∃ e a b rp, (e != 0) = true ∧ readP l = ⟨e, a, b, [], []⟩ ∧ (rp = .pnil ∨ ∃ c, rp = .eptr c) ∧ readR l tk = .tup [rp, .agg [.int .i64 a, .int .i64 b], .int .i64 e]) ∨
    (∃ s, readP l = ⟨0, 0, 0, s.ts, s.cs⟩ ∧ readR l tk = .tup [.eptr (rdOut l tk s), .agg [.int .i64 0, .int .i64 0], .int .i64 0]) := by
  unfold readP readR
  cases h0 : (checkLinesP l).2 != 0
  · cases h1 : (readAll l).1 != 0
    · cases h2 : decide (((readAll l).2.ts.length : Int) > 1200)
      · exact .inr ⟨(readAll l).2, by simp, by simp⟩
      · exact .inl ⟨2, 0, 0, .eptr (rdOut l tk (readAll l).2), rfl, by simp, .inr ⟨_, rfl⟩, by simp⟩
    · exact .inl ⟨_, _, _, .pnil, h1, rfl, .inl rfl, rfl⟩
  · exact .inl ⟨_, _, _, .pnil, h0, rfl, .inl rfl, rfl⟩
def slTk (r : Rd) : AV := if r.err != 0 then .sl 0 [] .nil else .sl 4 (r.ts.map tkC) .none
def slSp (r : Rd) : AV := if r.err != 0 then .sl 0 [] .nil else .sl 4 (r.cs.map spC) .none
theorem tokensOf_ev (l : List Str) (tk : Tok) (ht : Fx tk) (hl : l.length < 2 ^ 62) : evc plan 10 [.sl 1 (strs l) tk] [] = some (.tup [slTk (readP l), .agg [.int .i64 (readP l).line, .int .i64 (readP l).col], .int .i64 (readP l).err], []) := by
  refine evc_start plan (P := Tryd.prog) (ro := planRo) rfl rfl rfl rfl rfl rfl (by simp) rfl ?_
  have h := read_ev l tk ht hl
  rcases readR_cases l tk with ⟨e, a, b, rp, he, hp, hr, hR⟩ | ⟨s, hp, hR⟩
  · rw [hR] at h
    rw [hp]
    rcases hr with rfl | ⟨c, rfl⟩ <;> simp [dFor_none, storeFine_none, dFor_no, storeFine_no, lessL, lkL, evCode_exit, evCode_seq, evCode_plain, evCode_draw, evCode_cond, evCode_ret, evCode_skip, evCode_block, evCode_loop, roundK_normal, roundK_exit, roundK_ret, seqK_normal, seqK_exit, seqK_ret, blockK_normal, blockK_exit, blockK_ret, regK_eq, evOps_nil, evOps_cons, params, astep, okDst, isWanted, aop, opnd, ofValue, putT, abin, headS, ofL, noPtr, acall, adopt_bool, adopt_int, adopt_str, adopt_agg, adopt_clip, upd_false, AV.cells, partOf, setCells, fillC, AV.isVal, List.range, List.range.loop, ofB, mayRead, dsts, planRo, capIds, viewed, scalarR, AV.scalar, bare_undef, bare_bool, bare_int, bare_str, bare_snil, bare_snone, bare_sclip, bare_srow, bare_ptr, bare_eptr, bare_pnil, bare_fn, bare_fnil, bare_agg, bare_tup, passed, setBoxes, killNames, addNames, freshAll, adopt, resParts, resBack, relabB, relabL, namesOf, cellsOfB, boxName, row_undef, row_bool, row_int, row_str, row_snil, row_snone, row_sclip, row_srow, row_ptr, row_eptr, row_pnil, row_fn, row_fnil, row_agg, row_tup, relab_undef, relab_bool, relab_int, relab_str, relab_snil, relab_snone, relab_sclip, relab_srow, relab_ptr, relab_eptr, relab_pnil, relab_fn, relab_fnil, relab_agg, relab_tup, relab_sgrow, finK, freezeT, avAll, resOf, outBoxes, relabB, relabL, noPtr, AV.untup, relab_undef, relab_bool, relab_int, relab_str, relab_snil, relab_snone, relab_sclip, relab_srow, relab_ptr, relab_eptr, relab_pnil, relab_fn, relab_fnil, relab_agg, relab_tup, relab_sgrow, h, he, slTk, bare_fx ht, row_fx ht, relab_fx ht]
  · rw [hR] at h
    rw [hp]
    simp [dFor_none, storeFine_none, dFor_no, storeFine_no, lessL, lkL, evCode_exit, evCode_seq, evCode_plain, evCode_draw, evCode_cond, evCode_ret, evCode_skip, evCode_block, evCode_loop, roundK_normal, roundK_exit, roundK_ret, seqK_normal, seqK_exit, seqK_ret, blockK_normal, blockK_exit, blockK_ret, regK_eq, evOps_nil, evOps_cons, params, astep, okDst, isWanted, aop, opnd, ofValue, putT, abin, headS, ofL, noPtr, acall, adopt_bool, adopt_int, adopt_str, adopt_agg, adopt_clip, upd_false, AV.cells, partOf, setCells, fillC, AV.isVal, List.range, List.range.loop, ofB, mayRead, dsts, planRo, capIds, viewed, scalarR, AV.scalar, bare_undef, bare_bool, bare_int, bare_str, bare_snil, bare_snone, bare_sclip, bare_srow, bare_ptr, bare_eptr, bare_pnil, bare_fn, bare_fnil, bare_agg, bare_tup, passed, setBoxes, killNames, addNames, freshAll, adopt, resParts, resBack, relabB, relabL, namesOf, cellsOfB, boxName, row_undef, row_bool, row_int, row_str, row_snil, row_snone, row_sclip, row_srow, row_ptr, row_eptr, row_pnil, row_fn, row_fnil, row_agg, row_tup, relab_undef, relab_bool, relab_int, relab_str, relab_snil, relab_snone, relab_sclip, relab_srow, relab_ptr, relab_eptr, relab_pnil, relab_fn, relab_fnil, relab_agg, relab_tup, relab_sgrow, finK, freezeT, avAll, resOf, outBoxes, relabB, relabL, noPtr, AV.untup, relab_undef, relab_bool, relab_int, relab_str, relab_snil, relab_snone, relab_sclip, relab_srow, relab_ptr, relab_eptr, relab_pnil, relab_fn, relab_fnil, relab_agg, relab_tup, relab_sgrow, h, slTk, rdOut, bare_fx ht, row_fx ht, relab_fx ht]
theorem commentsIn_ev (l : List Str) (tk : Tok) (ht : Fx tk) (hl : l.length < 2 ^ 62) : evc plan 14 [.sl 1 (strs l) tk] [] = some (.tup [slSp (readP l), .agg [.int .i64 (readP l).line, .int .i64 (readP l).col], .int .i64 (readP l).err], []) := by
  refine evc_start plan (P := Tryd.prog) (ro := planRo) rfl rfl rfl rfl rfl rfl (by simp) rfl ?_
  have h := read_ev l tk ht hl
  rcases readR_cases l tk with ⟨e, a, b, rp, he, hp, hr, hR⟩ | ⟨s, hp, hR⟩
  · rw [hR] at h
    rw [hp]
    rcases hr with rfl | ⟨c, rfl⟩ <;> simp [dFor_none, storeFine_none, dFor_no, storeFine_no, lessL, lkL, evCode_exit, evCode_seq, evCode_plain, evCode_draw, evCode_cond, evCode_ret, evCode_skip, evCode_block, evCode_loop, roundK_normal, roundK_exit, roundK_ret, seqK_normal, seqK_exit, seqK_ret, blockK_normal, blockK_exit, blockK_ret, regK_eq, evOps_nil, evOps_cons, params, astep, okDst, isWanted, aop, opnd, ofValue, putT, abin, headS, ofL, noPtr, acall, adopt_bool, adopt_int, adopt_str, adopt_agg, adopt_clip, upd_false, AV.cells, partOf, setCells, fillC, AV.isVal, List.range, List.range.loop, ofB, mayRead, dsts, planRo, capIds, viewed, scalarR, AV.scalar, bare_undef, bare_bool, bare_int, bare_str, bare_snil, bare_snone, bare_sclip, bare_srow, bare_ptr, bare_eptr, bare_pnil, bare_fn, bare_fnil, bare_agg, bare_tup, passed, setBoxes, killNames, addNames, freshAll, adopt, resParts, resBack, relabB, relabL, namesOf, cellsOfB, boxName, row_undef, row_bool, row_int, row_str, row_snil, row_snone, row_sclip, row_srow, row_ptr, row_eptr, row_pnil, row_fn, row_fnil, row_agg, row_tup, relab_undef, relab_bool, relab_int, relab_str, relab_snil, relab_snone, relab_sclip, relab_srow, relab_ptr, relab_eptr, relab_pnil, relab_fn, relab_fnil, relab_agg, relab_tup, relab_sgrow, finK, freezeT, avAll, resOf, outBoxes, relabB, relabL, noPtr, AV.untup, relab_undef, relab_bool, relab_int, relab_str, relab_snil, relab_snone, relab_sclip, relab_srow, relab_ptr, relab_eptr, relab_pnil, relab_fn, relab_fnil, relab_agg, relab_tup, relab_sgrow, h, he, slSp, bare_fx ht, row_fx ht, relab_fx ht]
  · rw [hR] at h
    rw [hp]
    simp [dFor_none, storeFine_none, dFor_no, storeFine_no, lessL, lkL, evCode_exit, evCode_seq, evCode_plain, evCode_draw, evCode_cond, evCode_ret, evCode_skip, evCode_block, evCode_loop, roundK_normal, roundK_exit, roundK_ret, seqK_normal, seqK_exit, seqK_ret, blockK_normal, blockK_exit, blockK_ret, regK_eq, evOps_nil, evOps_cons, params, astep, okDst, isWanted, aop, opnd, ofValue, putT, abin, headS, ofL, noPtr, acall, adopt_bool, adopt_int, adopt_str, adopt_agg, adopt_clip, upd_false, AV.cells, partOf, setCells, fillC, AV.isVal, List.range, List.range.loop, ofB, mayRead, dsts, planRo, capIds, viewed, scalarR, AV.scalar, bare_undef, bare_bool, bare_int, bare_str, bare_snil, bare_snone, bare_sclip, bare_srow, bare_ptr, bare_eptr, bare_pnil, bare_fn, bare_fnil, bare_agg, bare_tup, passed, setBoxes, killNames, addNames, freshAll, adopt, resParts, resBack, relabB, relabL, namesOf, cellsOfB, boxName, row_undef, row_bool, row_int, row_str, row_snil, row_snone, row_sclip, row_srow, row_ptr, row_eptr, row_pnil, row_fn, row_fnil, row_agg, row_tup, relab_undef, relab_bool, relab_int, relab_str, relab_snil, relab_snone, relab_sclip, relab_srow, relab_ptr, relab_eptr, relab_pnil, relab_fn, relab_fnil, relab_agg, relab_tup, relab_sgrow, finK, freezeT, avAll, resOf, outBoxes, relabB, relabL, noPtr, AV.untup, relab_undef, relab_bool, relab_int, relab_str, relab_snil, relab_snone, relab_sclip, relab_srow, relab_ptr, relab_eptr, relab_pnil, relab_fn, relab_fnil, relab_agg, relab_tup, relab_sgrow, h, slSp, rdOut, bare_fx ht, row_fx ht, relab_fx ht]
/-- The first place of a list that is of a kind, or -1. -/
def idxP {α : Type} (p : α → Bool) : List α → Int → Int
  | [], _ => -1
  | x :: r, n => if p x then n else idxP p r (n + 1)
theorem idxP_drop {α : Type} (p : α → Bool) (l : List α) (i : Nat) (h : i < l.length) : idxP p (l.drop i) i = if p l[i] then (i : Int) else idxP p (l.drop (i + 1)) ((i + 1 : Nat) : Int) := by
  rw [List.drop_eq_getElem_cons h]; rfl
theorem idxP_range {α : Type} (p : α → Bool) : ∀ (l : List α) (n : Nat), idxP p l n = -1 ∨ ∃ k : Nat, idxP p l n = ((n + k : Nat) : Int) ∧ k < l.length
  | [], _ => .inl rfl
  | x :: l, n => by
    unfold idxP
    cases h : p x
    · rcases idxP_range p l (n + 1) with h1 | ⟨k, h1, h2⟩
      · exact .inl (by simpa using h1)
      · refine .inr ⟨k + 1, ?_, by simpa using h2⟩
        simp only [Bool.false_eq_true, if_false]
        rw [show ((n : Int) + 1) = ((n + 1 : Nat) : Int) by omega, h1]; omega
    · exact .inr ⟨0, by simp, by simp⟩
theorem spell_ev (s a b : Str) : evc plan 32 [.agg [.str a, .str b], .eptr [.str s]] [] = some (.bool (a == s), []) := by
  refine evc_start plan (P := Tryd.prog) (ro := planRo) rfl rfl rfl rfl rfl rfl (by simp) rfl ?_
  simp [dFor_none, storeFine_none, dFor_no, storeFine_no, lessL, lkL, evCode_exit, evCode_seq, evCode_plain, evCode_draw, evCode_cond, evCode_ret, evCode_skip, evCode_block, evCode_loop, roundK_normal, roundK_exit, roundK_ret, seqK_normal, seqK_exit, seqK_ret, blockK_normal, blockK_exit, blockK_ret, regK_eq, evOps_nil, evOps_cons, params, astep, okDst, isWanted, aop, opnd, ofValue, putT, abin, headS, ofL, noPtr, acall, adopt_bool, adopt_int, adopt_str, adopt_agg, adopt_clip, upd_false, AV.cells, partOf, setCells, fillC, AV.isVal, List.range, List.range.loop, ofB, mayRead, dsts, planRo, capIds, viewed, scalarR, AV.scalar, bare_undef, bare_bool, bare_int, bare_str, bare_snil, bare_snone, bare_sclip, bare_srow, bare_ptr, bare_eptr, bare_pnil, bare_fn, bare_fnil, bare_agg, bare_tup, finK, freezeT, avAll, resOf, outBoxes, relabB, relabL, noPtr, AV.untup, relab_undef, relab_bool, relab_int, relab_str, relab_snil, relab_snone, relab_sclip, relab_srow, relab_ptr, relab_eptr, relab_pnil, relab_fn, relab_fnil, relab_agg, relab_tup, relab_sgrow]
theorem indexSpell_ev (l : List (Str × Str)) (s : Str) (tk : Tok) (ht : Fx tk) (hl : l.length < 2 ^ 62) : evc plan 30 [.sl 2 (pairs l) tk, .fn 32 [.eptr [.str s]]] [] = some (.int .i64 (idxP (fun x => x.1 == s) l 0), []) := by
  refine evc_start plan (P := Tryd.prog) (ro := planRo) rfl rfl rfl rfl rfl rfl (by simp) rfl ?_
  simp [dFor_none, storeFine_none, dFor_no, storeFine_no, lessL, lkL, evCode_exit, evCode_seq, evCode_plain, evCode_draw, evCode_cond, evCode_ret, evCode_skip, evCode_block, evCode_loop, roundK_normal, roundK_exit, roundK_ret, seqK_normal, seqK_exit, seqK_ret, blockK_normal, blockK_exit, blockK_ret, regK_eq, evOps_nil, evOps_cons, params, astep, okDst, isWanted, aop, opnd, ofValue, putT, abin, headS, ofL, noPtr, acall, adopt_bool, adopt_int, adopt_str, adopt_agg, adopt_clip, upd_false, AV.cells, partOf, setCells, fillC, AV.isVal, List.range, List.range.loop, ofB, mayRead, dsts, planRo, capIds, viewed, scalarR, AV.scalar, bare_undef, bare_bool, bare_int, bare_str, bare_snil, bare_snone, bare_sclip, bare_srow, bare_ptr, bare_eptr, bare_pnil, bare_fn, bare_fnil, bare_agg, bare_tup, pairs]
  refine loop_by (fun i => l.length - i) (fun (i : Nat) t m => i ≤ l.length ∧ idxP (fun x => x.1 == s) l 0 = idxP (fun x => x.1 == s) (l.drop i) i ∧ clean (lvIndex 2) t m = headS [(0, .sl 2 (pairs l) tk), (1, .fn 32 [.eptr [.str s]]), (7, .int .i64 l.length), (8, .int .i64 i)] []) ?_ 0 ?_
  · intro i t m ⟨hi, hr, hS⟩ ih
    refine round_of hS ?_
    by_cases h1 : i < l.length
    · have hd := idxP_drop (fun x : Str × Str => x.1 == s) l i h1
      have w1 : IntKind.i64.wrap ((i : Int) + 1) = i + 1 := wrap_i64 (by omega) (by omega)
      have hs := spell_ev s l[i].1 l[i].2
      cases h2 : l[i].1 == s
      · simp only [h2] at hd hs
        simp [dFor_none, storeFine_none, dFor_no, storeFine_no, lessL, lkL, evCode_exit, evCode_seq, evCode_plain, evCode_draw, evCode_cond, evCode_ret, evCode_skip, evCode_block, evCode_loop, roundK_normal, roundK_exit, roundK_ret, seqK_normal, seqK_exit, seqK_ret, blockK_normal, blockK_exit, blockK_ret, regK_eq, evOps_nil, evOps_cons, params, astep, okDst, isWanted, aop, opnd, ofValue, putT, abin, headS, ofL, noPtr, acall, adopt_bool, adopt_int, adopt_str, adopt_agg, adopt_clip, upd_false, AV.cells, partOf, setCells, fillC, AV.isVal, List.range, List.range.loop, ofB, mayRead, dsts, planRo, capIds, viewed, scalarR, AV.scalar, bare_undef, bare_bool, bare_int, bare_str, bare_snil, bare_snone, bare_sclip, bare_srow, bare_ptr, bare_eptr, bare_pnil, bare_fn, bare_fnil, bare_agg, bare_tup, h1, w1, pairs, hs]
        refine ih (i + 1) _ _ (by omega) ⟨by omega, by rw [hr, hd]; simp, ?_⟩
        simp [clean, keepBoxes, relabB, relabL, cleanS, fixPtr, headS, ofL, ofB, cellsOfB, namesOf, upd_false, AV.cells, row_undef, row_bool, row_int, row_str, row_snil, row_snone, row_sclip, row_srow, row_ptr, row_eptr, row_pnil, row_fn, row_fnil, row_agg, row_tup, relab_undef, relab_bool, relab_int, relab_str, relab_snil, relab_snone, relab_sclip, relab_srow, relab_ptr, relab_eptr, relab_pnil, relab_fn, relab_fnil, relab_agg, relab_tup, relab_sgrow, lvIndex, lvL, pairs, bare_fx ht, row_fx ht, relab_fx ht]
      · simp only [h2] at hd hs
        simp [dFor_none, storeFine_none, dFor_no, storeFine_no, lessL, lkL, evCode_exit, evCode_seq, evCode_plain, evCode_draw, evCode_cond, evCode_ret, evCode_skip, evCode_block, evCode_loop, roundK_normal, roundK_exit, roundK_ret, seqK_normal, seqK_exit, seqK_ret, blockK_normal, blockK_exit, blockK_ret, regK_eq, evOps_nil, evOps_cons, params, astep, okDst, isWanted, aop, opnd, ofValue, putT, abin, headS, ofL, noPtr, acall, adopt_bool, adopt_int, adopt_str, adopt_agg, adopt_clip, upd_false, AV.cells, partOf, setCells, fillC, AV.isVal, List.range, List.range.loop, ofB, mayRead, dsts, planRo, capIds, viewed, scalarR, AV.scalar, bare_undef, bare_bool, bare_int, bare_str, bare_snil, bare_snone, bare_sclip, bare_srow, bare_ptr, bare_eptr, bare_pnil, bare_fn, bare_fnil, bare_agg, bare_tup, finK, freezeT, avAll, resOf, outBoxes, relabB, relabL, noPtr, AV.untup, relab_undef, relab_bool, relab_int, relab_str, relab_snil, relab_snone, relab_sclip, relab_srow, relab_ptr, relab_eptr, relab_pnil, relab_fn, relab_fnil, relab_agg, relab_tup, relab_sgrow, h1, w1, pairs, hs]
        rw [hr, hd]; simp
    · simp [dFor_none, storeFine_none, dFor_no, storeFine_no, lessL, lkL, evCode_exit, evCode_seq, evCode_plain, evCode_draw, evCode_cond, evCode_ret, evCode_skip, evCode_block, evCode_loop, roundK_normal, roundK_exit, roundK_ret, seqK_normal, seqK_exit, seqK_ret, blockK_normal, blockK_exit, blockK_ret, regK_eq, evOps_nil, evOps_cons, params, astep, okDst, isWanted, aop, opnd, ofValue, putT, abin, headS, ofL, noPtr, acall, adopt_bool, adopt_int, adopt_str, adopt_agg, adopt_clip, upd_false, AV.cells, partOf, setCells, fillC, AV.isVal, List.range, List.range.loop, ofB, mayRead, dsts, planRo, capIds, viewed, scalarR, AV.scalar, bare_undef, bare_bool, bare_int, bare_str, bare_snil, bare_snone, bare_sclip, bare_srow, bare_ptr, bare_eptr, bare_pnil, bare_fn, bare_fnil, bare_agg, bare_tup, finK, freezeT, avAll, resOf, outBoxes, relabB, relabL, noPtr, AV.untup, relab_undef, relab_bool, relab_int, relab_str, relab_snil, relab_snone, relab_sclip, relab_srow, relab_ptr, relab_eptr, relab_pnil, relab_fn, relab_fnil, relab_agg, relab_tup, relab_sgrow, h1, pairs]
      have : i = l.length := by omega
      subst this
      simp [idxP] at hr ⊢; omega
  · refine ⟨by omega, by simp, ?_⟩
    simp [clean, keepBoxes, relabB, relabL, cleanS, fixPtr, headS, ofL, ofB, cellsOfB, namesOf, upd_false, AV.cells, row_undef, row_bool, row_int, row_str, row_snil, row_snone, row_sclip, row_srow, row_ptr, row_eptr, row_pnil, row_fn, row_fnil, row_agg, row_tup, relab_undef, relab_bool, relab_int, relab_str, relab_snil, relab_snone, relab_sclip, relab_srow, relab_ptr, relab_eptr, relab_pnil, relab_fn, relab_fnil, relab_agg, relab_tup, relab_sgrow, lvIndex, lvL, pairs, bare_fx ht, row_fx ht, relab_fx ht]
/-- The canonical spelling of a text, and the error. -/
def canonP (s : Str) : Str × Int :=
  if isRuleB s then (Lib.repeatL (s.take 1) 4, 0)
  else if decide (0 ≤ idxIn s plainL 0) then (s, 0)
  else if decide (idxP (fun x => x.1 == s) othersL 0 < 0) then ([], 10)
  else ((othersL.getD (idxP (fun x => x.1 == s) othersL 0).toNat ([], [])).2, 0)
theorem canon_ev (s : Str) (hl : s.length < 2 ^ 40) : evc plan 15 [.str s] [] = some (.tup [.str (canonP s).1, .int .i64 (canonP s).2], []) := by
  refine evc_start plan (P := Tryd.prog) (ro := planRo) rfl rfl rfl rfl rfl rfl (by simp) rfl ?_
  have h1 := rule_ev s (by omega)
  have h2 := plain_ev
  have h3 := contains_ev plainL s .clip (.inl rfl) (by decide)
  have h4 := others_ev
  have h5 := indexSpell_ev othersL s .clip fx_clip (by decide)
  have h6 : evc plan 24 [.str (s.take 1), .int .i64 4] [] = some (.str (Lib.repeatL (s.take 1) 4), []) := evc_ext plan rfl (by
    simp only [plan, planExt]
    rw [if_pos ⟨by decide, by decide, Nat.le_trans (show (s.take 1).length * 4 ≤ 4 by rw [List.length_take]; omega) (by decide)⟩]; rfl)
  unfold canonP
  cases h7 : isRuleB s
  · cases h8 : decide (0 ≤ idxIn s plainL 0)
    · rw [h8] at h3
      have hlen : othersL.length = 11 := rfl
      rcases idxP_range (fun x : Str × Str => x.1 == s) othersL 0 with h9 | ⟨k, h9, h10⟩
      · simp only [Int.natCast_zero] at h9
        rw [h9] at h5
        simp only [h9]
        simp [dFor_none, storeFine_none, dFor_no, storeFine_no, lessL, lkL, evCode_exit, evCode_seq, evCode_plain, evCode_draw, evCode_cond, evCode_ret, evCode_skip, evCode_block, evCode_loop, roundK_normal, roundK_exit, roundK_ret, seqK_normal, seqK_exit, seqK_ret, blockK_normal, blockK_exit, blockK_ret, regK_eq, evOps_nil, evOps_cons, params, astep, okDst, isWanted, aop, opnd, ofValue, putT, abin, headS, ofL, noPtr, acall, adopt_bool, adopt_int, adopt_str, adopt_agg, adopt_clip, upd_false, AV.cells, partOf, setCells, fillC, AV.isVal, List.range, List.range.loop, ofB, mayRead, dsts, planRo, capIds, viewed, scalarR, AV.scalar, bare_undef, bare_bool, bare_int, bare_str, bare_snil, bare_snone, bare_sclip, bare_srow, bare_ptr, bare_eptr, bare_pnil, bare_fn, bare_fnil, bare_agg, bare_tup, passed, setBoxes, killNames, addNames, freshAll, adopt, resParts, resBack, relabB, relabL, namesOf, cellsOfB, boxName, row_undef, row_bool, row_int, row_str, row_snil, row_snone, row_sclip, row_srow, row_ptr, row_eptr, row_pnil, row_fn, row_fnil, row_agg, row_tup, relab_undef, relab_bool, relab_int, relab_str, relab_snil, relab_snone, relab_sclip, relab_srow, relab_ptr, relab_eptr, relab_pnil, relab_fn, relab_fnil, relab_agg, relab_tup, relab_sgrow, finK, freezeT, avAll, resOf, outBoxes, relabB, relabL, noPtr, AV.untup, relab_undef, relab_bool, relab_int, relab_str, relab_snil, relab_snone, relab_sclip, relab_srow, relab_ptr, relab_eptr, relab_pnil, relab_fn, relab_fnil, relab_agg, relab_tup, relab_sgrow, h1, h2, h3, h4, h5, h7, h8, capture]
      · simp only [Nat.zero_add, Int.natCast_zero] at h9
        rw [h9] at h5
        simp only [h9]
        have h11 : k < (pairs othersL).length := by simpa [pairs] using h10
        have h12 : ¬ (k : Int) < 0 := by omega
        simp [dFor_none, storeFine_none, dFor_no, storeFine_no, lessL, lkL, evCode_exit, evCode_seq, evCode_plain, evCode_draw, evCode_cond, evCode_ret, evCode_skip, evCode_block, evCode_loop, roundK_normal, roundK_exit, roundK_ret, seqK_normal, seqK_exit, seqK_ret, blockK_normal, blockK_exit, blockK_ret, regK_eq, evOps_nil, evOps_cons, params, astep, okDst, isWanted, aop, opnd, ofValue, putT, abin, headS, ofL, noPtr, acall, adopt_bool, adopt_int, adopt_str, adopt_agg, adopt_clip, upd_false, AV.cells, partOf, setCells, fillC, AV.isVal, List.range, List.range.loop, ofB, mayRead, dsts, planRo, capIds, viewed, scalarR, AV.scalar, bare_undef, bare_bool, bare_int, bare_str, bare_snil, bare_snone, bare_sclip, bare_srow, bare_ptr, bare_eptr, bare_pnil, bare_fn, bare_fnil, bare_agg, bare_tup, passed, setBoxes, killNames, addNames, freshAll, adopt, resParts, resBack, relabB, relabL, namesOf, cellsOfB, boxName, row_undef, row_bool, row_int, row_str, row_snil, row_snone, row_sclip, row_srow, row_ptr, row_eptr, row_pnil, row_fn, row_fnil, row_agg, row_tup, relab_undef, relab_bool, relab_int, relab_str, relab_snil, relab_snone, relab_sclip, relab_srow, relab_ptr, relab_eptr, relab_pnil, relab_fn, relab_fnil, relab_agg, relab_tup, relab_sgrow, finK, freezeT, avAll, resOf, outBoxes, relabB, relabL, noPtr, AV.untup, relab_undef, relab_bool, relab_int, relab_str, relab_snil, relab_snone, relab_sclip, relab_srow, relab_ptr, relab_eptr, relab_pnil, relab_fn, relab_fnil, relab_agg, relab_tup, relab_sgrow, h1, h2, h3, h4, h5, h7, h8, h10, h11, h12, capture]
        simp [finK, freezeT, avAll, resOf, outBoxes, relabB, relabL, noPtr, AV.untup, relab_undef, relab_bool, relab_int, relab_str, relab_snil, relab_snone, relab_sclip, relab_srow, relab_ptr, relab_eptr, relab_pnil, relab_fn, relab_fnil, relab_agg, relab_tup, relab_sgrow, pairs, h10]
    · rw [h8] at h3
      simp [dFor_none, storeFine_none, dFor_no, storeFine_no, lessL, lkL, evCode_exit, evCode_seq, evCode_plain, evCode_draw, evCode_cond, evCode_ret, evCode_skip, evCode_block, evCode_loop, roundK_normal, roundK_exit, roundK_ret, seqK_normal, seqK_exit, seqK_ret, blockK_normal, blockK_exit, blockK_ret, regK_eq, evOps_nil, evOps_cons, params, astep, okDst, isWanted, aop, opnd, ofValue, putT, abin, headS, ofL, noPtr, acall, adopt_bool, adopt_int, adopt_str, adopt_agg, adopt_clip, upd_false, AV.cells, partOf, setCells, fillC, AV.isVal, List.range, List.range.loop, ofB, mayRead, dsts, planRo, capIds, viewed, scalarR, AV.scalar, bare_undef, bare_bool, bare_int, bare_str, bare_snil, bare_snone, bare_sclip, bare_srow, bare_ptr, bare_eptr, bare_pnil, bare_fn, bare_fnil, bare_agg, bare_tup, passed, setBoxes, killNames, addNames, freshAll, adopt, resParts, resBack, relabB, relabL, namesOf, cellsOfB, boxName, row_undef, row_bool, row_int, row_str, row_snil, row_snone, row_sclip, row_srow, row_ptr, row_eptr, row_pnil, row_fn, row_fnil, row_agg, row_tup, relab_undef, relab_bool, relab_int, relab_str, relab_snil, relab_snone, relab_sclip, relab_srow, relab_ptr, relab_eptr, relab_pnil, relab_fn, relab_fnil, relab_agg, relab_tup, relab_sgrow, finK, freezeT, avAll, resOf, outBoxes, relabB, relabL, noPtr, AV.untup, relab_undef, relab_bool, relab_int, relab_str, relab_snil, relab_snone, relab_sclip, relab_srow, relab_ptr, relab_eptr, relab_pnil, relab_fn, relab_fnil, relab_agg, relab_tup, relab_sgrow, h1, h2, h3, h7, h8]
  · have : 1 ≤ s.length := by
      simp only [isRuleB, Bool.and_eq_true, decide_eq_true_eq] at h7; omega
    simp [dFor_none, storeFine_none, dFor_no, storeFine_no, lessL, lkL, evCode_exit, evCode_seq, evCode_plain, evCode_draw, evCode_cond, evCode_ret, evCode_skip, evCode_block, evCode_loop, roundK_normal, roundK_exit, roundK_ret, seqK_normal, seqK_exit, seqK_ret, blockK_normal, blockK_exit, blockK_ret, regK_eq, evOps_nil, evOps_cons, params, astep, okDst, isWanted, aop, opnd, ofValue, putT, abin, headS, ofL, noPtr, acall, adopt_bool, adopt_int, adopt_str, adopt_agg, adopt_clip, upd_false, AV.cells, partOf, setCells, fillC, AV.isVal, List.range, List.range.loop, ofB, mayRead, dsts, planRo, capIds, viewed, scalarR, AV.scalar, bare_undef, bare_bool, bare_int, bare_str, bare_snil, bare_snone, bare_sclip, bare_srow, bare_ptr, bare_eptr, bare_pnil, bare_fn, bare_fnil, bare_agg, bare_tup, passed, setBoxes, killNames, addNames, freshAll, adopt, resParts, resBack, relabB, relabL, namesOf, cellsOfB, boxName, row_undef, row_bool, row_int, row_str, row_snil, row_snone, row_sclip, row_srow, row_ptr, row_eptr, row_pnil, row_fn, row_fnil, row_agg, row_tup, relab_undef, relab_bool, relab_int, relab_str, relab_snil, relab_snone, relab_sclip, relab_srow, relab_ptr, relab_eptr, relab_pnil, relab_fn, relab_fnil, relab_agg, relab_tup, relab_sgrow, finK, freezeT, avAll, resOf, outBoxes, relabB, relabL, noPtr, AV.untup, relab_undef, relab_bool, relab_int, relab_str, relab_snil, relab_snone, relab_sclip, relab_srow, relab_ptr, relab_eptr, relab_pnil, relab_fn, relab_fnil, relab_agg, relab_tup, relab_sgrow, h1, h6, h7, aslice, abound, this]
end Go.Proofs.YtlmmgblghgmgeaaDoor
