/- Tokens checked. -/
import Derived.Test.YtlmmgblghgmgeaaDoorWalkL
namespace Go.Proofs.YtlmmgblghgmgeaaDoor
open Go Ev
set_option maxRecDepth 100000
set_option linter.unusedSimpArgs false

theorem fx_clip : Fx .clip := .inl rfl
theorem fx_none : Fx .none := .inr rfl
/-- A text is read as some tokens. -/
def isReadP (s : Str) (want : List Tk) : Bool := !oddS s && ((readAll [s]).1 == 0 && eqKT (readAll [s]).2.ts want)
theorem total_one (s : Str) : total [s] = s.length + 1 := by simp [total, left]
theorem isRead_ev (s : Str) (want : List Tk) (tk : Tok) (ht : Fx tk) (hl : s.length < 2 ^ 38) (hw : want.length < 2 ^ 62) : evc plan 43 [.str s, .sl 4 (want.map tkC) tk] [] = some (.bool (isReadP s want), []) := by
  refine evc_start plan (P := Tryd.prog) (ro := planRo) rfl rfl rfl rfl rfl rfl (by simp) rfl ?_
  have hV : isReadP s want = (!oddS s && ((readAll [s]).1 == 0 && eqKT (readAll [s]).2.ts want)) := rfl
  generalize isReadP s want = V at hV ⊢
  obtain ⟨X, hX⟩ : ∃ X, X = [s] := ⟨_, rfl⟩
  have hT2 : total X < 2 ^ 39 := by rw [hX, total_one]; omega
  have hXl : X.length < 2 ^ 40 := by rw [hX]; simp
  have hXc : ∀ x ∈ X, x.length < 2 ^ 40 := fun x hx => by rw [hX] at hx; simp at hx; subst hx; omega
  rw [← hX] at hV
  generalize hR : readAll X = R at hV
  cases h0 : oddS s
  · simp [dFor_none, storeFine_none, dFor_no, storeFine_no, lessL, lkL, evCode_exit, evCode_seq, evCode_plain, evCode_draw, evCode_cond, evCode_ret, evCode_skip, evCode_block, evCode_loop, roundK_normal, roundK_exit, roundK_ret, seqK_normal, seqK_exit, seqK_ret, blockK_normal, blockK_exit, blockK_ret, regK_eq, evOps_nil, evOps_cons, params, astep, okDst, isWanted, aop, opnd, ofValue, putT, abin, headS, ofL, noPtr, acall, adopt_bool, adopt_int, adopt_str, adopt_agg, adopt_clip, upd_false, AV.cells, partOf, setCells, fillC, AV.isVal, List.range, List.range.loop, ofB, mayRead, dsts, planRo, capIds, viewed, scalarR, AV.scalar, bare_undef, bare_bool, bare_int, bare_str, bare_snil, bare_snone, bare_sclip, bare_srow, bare_ptr, bare_eptr, bare_pnil, bare_fn, bare_fnil, bare_agg, bare_tup, odd_ev, h0]
    refine loop_by (fun (q : Nat × St) => q.1) (fun q t m => ReadInv X R q ∧ clean (lvIsRead 4) t m = headS [(1, .sl 4 (want.map tkC) tk), (5, .ptr 500011 0), (11, .ptr 500011 0)] [(500011, rdAt X .clip q.2 1500011 4 1500011 5)]) ?_ (total X + 1, st0) ?_
    · rintro ⟨k, r⟩ t m ⟨hI, hS⟩ ih
      refine round_of hS ?_
      clear hX
      by_cases h1 : r.i < X.length
      · have h1' : ¬ X.length ≤ r.i := by omega
        have hnx := next_of X .clip fx_clip r hXl hXc hT2 h1 hI.1
        generalize hN : nextGo X (total X + 1) r = N at hnx
        obtain ⟨e, r'⟩ := N
        unfold rdS rd at hnx
        simp only at hnx
        cases h2 : e != 0
        · have he : e = 0 := by simpa using h2
          obtain ⟨k', rfl, hI'⟩ := hI.step h1 (by rw [hN]; exact he)
          rw [hN] at hI'
          simp only at hI'
          simp [dFor_none, storeFine_none, dFor_no, storeFine_no, lessL, lkL, evCode_exit, evCode_seq, evCode_plain, evCode_draw, evCode_cond, evCode_ret, evCode_skip, evCode_block, evCode_loop, roundK_normal, roundK_exit, roundK_ret, seqK_normal, seqK_exit, seqK_ret, blockK_normal, blockK_exit, blockK_ret, regK_eq, evOps_nil, evOps_cons, params, astep, okDst, isWanted, aop, opnd, ofValue, putT, abin, headS, ofL, noPtr, acall, adopt_bool, adopt_int, adopt_str, adopt_agg, adopt_clip, upd_false, AV.cells, partOf, setCells, fillC, AV.isVal, List.range, List.range.loop, ofB, mayRead, dsts, planRo, capIds, viewed, scalarR, AV.scalar, bare_undef, bare_bool, bare_int, bare_str, bare_snil, bare_snone, bare_sclip, bare_srow, bare_ptr, bare_eptr, bare_pnil, bare_fn, bare_fnil, bare_agg, bare_tup, passed, setBoxes, killNames, addNames, freshAll, adopt, resParts, resBack, relabB, relabL, namesOf, cellsOfB, boxName, row_undef, row_bool, row_int, row_str, row_snil, row_snone, row_sclip, row_srow, row_ptr, row_eptr, row_pnil, row_fn, row_fnil, row_agg, row_tup, relab_undef, relab_bool, relab_int, relab_str, relab_snil, relab_snone, relab_sclip, relab_srow, relab_ptr, relab_eptr, relab_pnil, relab_fn, relab_fnil, relab_agg, relab_tup, relab_sgrow, over_ev, h1', hnx, h2, rdAt, bare_fx ht, row_fx ht, relab_fx ht]
          refine ih (k', r') _ _ (by simp) ⟨hI', ?_⟩
          simp [clean, keepBoxes, relabB, relabL, cleanS, fixPtr, headS, ofL, ofB, cellsOfB, namesOf, upd_false, AV.cells, row_undef, row_bool, row_int, row_str, row_snil, row_snone, row_sclip, row_srow, row_ptr, row_eptr, row_pnil, row_fn, row_fnil, row_agg, row_tup, relab_undef, relab_bool, relab_int, relab_str, relab_snil, relab_snone, relab_sclip, relab_srow, relab_ptr, relab_eptr, relab_pnil, relab_fn, relab_fnil, relab_agg, relab_tup, relab_sgrow, passed, setBoxes, killNames, addNames, freshAll, adopt, resParts, resBack, relabB, relabL, namesOf, cellsOfB, boxName, row_undef, row_bool, row_int, row_str, row_snil, row_snone, row_sclip, row_srow, row_ptr, row_eptr, row_pnil, row_fn, row_fnil, row_agg, row_tup, relab_undef, relab_bool, relab_int, relab_str, relab_snil, relab_snone, relab_sclip, relab_srow, relab_ptr, relab_eptr, relab_pnil, relab_fn, relab_fnil, relab_agg, relab_tup, relab_sgrow, lvIsRead, lvL, rdAt, growOf, bare_fx ht, row_fx ht, relab_fx ht]
        · have := hI.stop h1 (by rw [hN]; simpa using h2)
          rw [hN] at this
          subst this
          have he : (e == 0) = false := by simpa using h2
          simp only [he] at hV
          simp at hV
          subst hV
          simp [dFor_none, storeFine_none, dFor_no, storeFine_no, lessL, lkL, evCode_exit, evCode_seq, evCode_plain, evCode_draw, evCode_cond, evCode_ret, evCode_skip, evCode_block, evCode_loop, roundK_normal, roundK_exit, roundK_ret, seqK_normal, seqK_exit, seqK_ret, blockK_normal, blockK_exit, blockK_ret, regK_eq, evOps_nil, evOps_cons, params, astep, okDst, isWanted, aop, opnd, ofValue, putT, abin, headS, ofL, noPtr, acall, adopt_bool, adopt_int, adopt_str, adopt_agg, adopt_clip, upd_false, AV.cells, partOf, setCells, fillC, AV.isVal, List.range, List.range.loop, ofB, mayRead, dsts, planRo, capIds, viewed, scalarR, AV.scalar, bare_undef, bare_bool, bare_int, bare_str, bare_snil, bare_snone, bare_sclip, bare_srow, bare_ptr, bare_eptr, bare_pnil, bare_fn, bare_fnil, bare_agg, bare_tup, passed, setBoxes, killNames, addNames, freshAll, adopt, resParts, resBack, relabB, relabL, namesOf, cellsOfB, boxName, row_undef, row_bool, row_int, row_str, row_snil, row_snone, row_sclip, row_srow, row_ptr, row_eptr, row_pnil, row_fn, row_fnil, row_agg, row_tup, relab_undef, relab_bool, relab_int, relab_str, relab_snil, relab_snone, relab_sclip, relab_srow, relab_ptr, relab_eptr, relab_pnil, relab_fn, relab_fnil, relab_agg, relab_tup, relab_sgrow, finK, freezeT, avAll, resOf, outBoxes, relabB, relabL, noPtr, AV.untup, relab_undef, relab_bool, relab_int, relab_str, relab_snil, relab_snone, relab_sclip, relab_srow, relab_ptr, relab_eptr, relab_pnil, relab_fn, relab_fnil, relab_agg, relab_tup, relab_sgrow, over_ev, h1', hnx, h2, rdAt, bare_fx ht, row_fx ht, relab_fx ht]
      · have := hI.over h1
        subst this
        have h1' : X.length ≤ r.i := by omega
        have hq := equal_ev r.ts want .none tk fx_none ht (by have := hI.1.n; simp only at this; omega) hw
        simp [h0] at hV
        subst hV
        simp [dFor_none, storeFine_none, dFor_no, storeFine_no, lessL, lkL, evCode_exit, evCode_seq, evCode_plain, evCode_draw, evCode_cond, evCode_ret, evCode_skip, evCode_block, evCode_loop, roundK_normal, roundK_exit, roundK_ret, seqK_normal, seqK_exit, seqK_ret, blockK_normal, blockK_exit, blockK_ret, regK_eq, evOps_nil, evOps_cons, params, astep, okDst, isWanted, aop, opnd, ofValue, putT, abin, headS, ofL, noPtr, acall, adopt_bool, adopt_int, adopt_str, adopt_agg, adopt_clip, upd_false, AV.cells, partOf, setCells, fillC, AV.isVal, List.range, List.range.loop, ofB, mayRead, dsts, planRo, capIds, viewed, scalarR, AV.scalar, bare_undef, bare_bool, bare_int, bare_str, bare_snil, bare_snone, bare_sclip, bare_srow, bare_ptr, bare_eptr, bare_pnil, bare_fn, bare_fnil, bare_agg, bare_tup, passed, setBoxes, killNames, addNames, freshAll, adopt, resParts, resBack, relabB, relabL, namesOf, cellsOfB, boxName, row_undef, row_bool, row_int, row_str, row_snil, row_snone, row_sclip, row_srow, row_ptr, row_eptr, row_pnil, row_fn, row_fnil, row_agg, row_tup, relab_undef, relab_bool, relab_int, relab_str, relab_snil, relab_snone, relab_sclip, relab_srow, relab_ptr, relab_eptr, relab_pnil, relab_fn, relab_fnil, relab_agg, relab_tup, relab_sgrow, finK, freezeT, avAll, resOf, outBoxes, relabB, relabL, noPtr, AV.untup, relab_undef, relab_bool, relab_int, relab_str, relab_snil, relab_snone, relab_sclip, relab_srow, relab_ptr, relab_eptr, relab_pnil, relab_fn, relab_fnil, relab_agg, relab_tup, relab_sgrow, over_ev, h1', rdAt, hq, bare_fx ht, row_fx ht, relab_fx ht]
    · refine ⟨hR ▸ ReadInv.start X, ?_⟩
      subst hX
      simp [clean, keepBoxes, relabB, relabL, cleanS, fixPtr, headS, ofL, ofB, cellsOfB, namesOf, upd_false, AV.cells, row_undef, row_bool, row_int, row_str, row_snil, row_snone, row_sclip, row_srow, row_ptr, row_eptr, row_pnil, row_fn, row_fnil, row_agg, row_tup, relab_undef, relab_bool, relab_int, relab_str, relab_snil, relab_snone, relab_sclip, relab_srow, relab_ptr, relab_eptr, relab_pnil, relab_fn, relab_fnil, relab_agg, relab_tup, relab_sgrow, passed, setBoxes, killNames, addNames, freshAll, adopt, resParts, resBack, relabB, relabL, namesOf, cellsOfB, boxName, row_undef, row_bool, row_int, row_str, row_snil, row_snone, row_sclip, row_srow, row_ptr, row_eptr, row_pnil, row_fn, row_fnil, row_agg, row_tup, relab_undef, relab_bool, relab_int, relab_str, relab_snil, relab_snone, relab_sclip, relab_srow, relab_ptr, relab_eptr, relab_pnil, relab_fn, relab_fnil, relab_agg, relab_tup, relab_sgrow, lvIsRead, lvL, rdAt, growOf, strs, bare_fx ht, row_fx ht, relab_fx ht, st0]
  · simp [h0] at hV
    subst hV
    simp [dFor_none, storeFine_none, dFor_no, storeFine_no, lessL, lkL, evCode_exit, evCode_seq, evCode_plain, evCode_draw, evCode_cond, evCode_ret, evCode_skip, evCode_block, evCode_loop, roundK_normal, roundK_exit, roundK_ret, seqK_normal, seqK_exit, seqK_ret, blockK_normal, blockK_exit, blockK_ret, regK_eq, evOps_nil, evOps_cons, params, astep, okDst, isWanted, aop, opnd, ofValue, putT, abin, headS, ofL, noPtr, acall, adopt_bool, adopt_int, adopt_str, adopt_agg, adopt_clip, upd_false, AV.cells, partOf, setCells, fillC, AV.isVal, List.range, List.range.loop, ofB, mayRead, dsts, planRo, capIds, viewed, scalarR, AV.scalar, bare_undef, bare_bool, bare_int, bare_str, bare_snil, bare_snone, bare_sclip, bare_srow, bare_ptr, bare_eptr, bare_pnil, bare_fn, bare_fnil, bare_agg, bare_tup, finK, freezeT, avAll, resOf, outBoxes, relabB, relabL, noPtr, AV.untup, relab_undef, relab_bool, relab_int, relab_str, relab_snil, relab_snone, relab_sclip, relab_srow, relab_ptr, relab_eptr, relab_pnil, relab_fn, relab_fnil, relab_agg, relab_tup, relab_sgrow, odd_ev, h0]
/-- The error of the kind and the text of a token. -/
def textErrP (t : Tk) : Int := if spansB t.kind 0 5 then (if isReadP t.text [t] then 0 else 8) else 4
theorem textErr_ev (t : Tk) (hl : t.text.length < 2 ^ 38) : evc plan 26 [.agg (tkC t)] [] = some (.int .i64 (textErrP t), []) := by
  refine evc_start plan (P := Tryd.prog) (ro := planRo) rfl rfl rfl rfl rfl rfl (by simp) rfl ?_
  have h := isRead_ev t.text [t] .clip fx_clip hl (by simp)
  simp only [List.map_cons, List.map_nil, tkC] at h
  cases h1 : spansB t.kind 0 5 <;> cases h2 : isReadP t.text [t] <;> simp [dFor_none, storeFine_none, dFor_no, storeFine_no, lessL, lkL, evCode_exit, evCode_seq, evCode_plain, evCode_draw, evCode_cond, evCode_ret, evCode_skip, evCode_block, evCode_loop, roundK_normal, roundK_exit, roundK_ret, seqK_normal, seqK_exit, seqK_ret, blockK_normal, blockK_exit, blockK_ret, regK_eq, evOps_nil, evOps_cons, params, astep, okDst, isWanted, aop, opnd, ofValue, putT, abin, headS, ofL, noPtr, acall, adopt_bool, adopt_int, adopt_str, adopt_agg, adopt_clip, upd_false, AV.cells, partOf, setCells, fillC, AV.isVal, List.range, List.range.loop, ofB, mayRead, dsts, planRo, capIds, viewed, scalarR, AV.scalar, bare_undef, bare_bool, bare_int, bare_str, bare_snil, bare_snone, bare_sclip, bare_srow, bare_ptr, bare_eptr, bare_pnil, bare_fn, bare_fnil, bare_agg, bare_tup, finK, freezeT, avAll, resOf, outBoxes, relabB, relabL, noPtr, AV.untup, relab_undef, relab_bool, relab_int, relab_str, relab_snil, relab_snone, relab_sclip, relab_srow, relab_ptr, relab_eptr, relab_pnil, relab_fn, relab_fnil, relab_agg, relab_tup, relab_sgrow, tkC, spans_ev, wrong_ev, h, h1, h2, textErrP]
def checkTokenP (t : Tk) : Int := firstOf [textErrP t, if spansB t.line 0 299 && spansB t.col 0 (120 - t.text.length) then 0 else 3]
theorem checkToken_ev (t : Tk) (hl : t.text.length < 2 ^ 38) : evc plan 12 [.agg (tkC t)] [] = some (.int .i64 (checkTokenP t), []) := by
  refine evc_start plan (P := Tryd.prog) (ro := planRo) rfl rfl rfl rfl rfl rfl (by simp) rfl ?_
  have h := textErr_ev t hl
  unfold tkC at h
  have w1 : IntKind.i64.wrap (120 - (t.text.length : Int)) = 120 - t.text.length := wrap_i64 (by omega) (by omega)
  cases h1 : spansB t.line 0 299
  · simp [dFor_none, storeFine_none, dFor_no, storeFine_no, lessL, lkL, evCode_exit, evCode_seq, evCode_plain, evCode_draw, evCode_cond, evCode_ret, evCode_skip, evCode_block, evCode_loop, roundK_normal, roundK_exit, roundK_ret, seqK_normal, seqK_exit, seqK_ret, blockK_normal, blockK_exit, blockK_ret, regK_eq, evOps_nil, evOps_cons, params, astep, okDst, isWanted, aop, opnd, ofValue, putT, abin, headS, ofL, noPtr, acall, adopt_bool, adopt_int, adopt_str, adopt_agg, adopt_clip, upd_false, AV.cells, partOf, setCells, fillC, AV.isVal, List.range, List.range.loop, ofB, mayRead, dsts, planRo, capIds, viewed, scalarR, AV.scalar, bare_undef, bare_bool, bare_int, bare_str, bare_snil, bare_snone, bare_sclip, bare_srow, bare_ptr, bare_eptr, bare_pnil, bare_fn, bare_fnil, bare_agg, bare_tup, finK, freezeT, avAll, resOf, outBoxes, relabB, relabL, noPtr, AV.untup, relab_undef, relab_bool, relab_int, relab_str, relab_snil, relab_snone, relab_sclip, relab_srow, relab_ptr, relab_eptr, relab_pnil, relab_fn, relab_fnil, relab_agg, relab_tup, relab_sgrow, tkC, spans_ev, wrong_ev, or2_ev, h, h1, checkTokenP]
  · cases h2 : spansB t.col 0 (120 - t.text.length) <;> simp [dFor_none, storeFine_none, dFor_no, storeFine_no, lessL, lkL, evCode_exit, evCode_seq, evCode_plain, evCode_draw, evCode_cond, evCode_ret, evCode_skip, evCode_block, evCode_loop, roundK_normal, roundK_exit, roundK_ret, seqK_normal, seqK_exit, seqK_ret, blockK_normal, blockK_exit, blockK_ret, regK_eq, evOps_nil, evOps_cons, params, astep, okDst, isWanted, aop, opnd, ofValue, putT, abin, headS, ofL, noPtr, acall, adopt_bool, adopt_int, adopt_str, adopt_agg, adopt_clip, upd_false, AV.cells, partOf, setCells, fillC, AV.isVal, List.range, List.range.loop, ofB, mayRead, dsts, planRo, capIds, viewed, scalarR, AV.scalar, bare_undef, bare_bool, bare_int, bare_str, bare_snil, bare_snone, bare_sclip, bare_srow, bare_ptr, bare_eptr, bare_pnil, bare_fn, bare_fnil, bare_agg, bare_tup, finK, freezeT, avAll, resOf, outBoxes, relabB, relabL, noPtr, AV.untup, relab_undef, relab_bool, relab_int, relab_str, relab_snil, relab_snone, relab_sclip, relab_srow, relab_ptr, relab_eptr, relab_pnil, relab_fn, relab_fnil, relab_agg, relab_tup, relab_sgrow, tkC, spans_ev, wrong_ev, or2_ev, h, h1, h2, w1, checkTokenP]
def apartP (a b : Tk) : Bool := !isReadP (a.text ++ b.text) [a, b]
theorem apart_ev (a b : Tk) (ha : a.text.length < 2 ^ 37) (hb : b.text.length < 2 ^ 37) : evc plan 33 [.agg (tkC a), .agg (tkC b)] [] = some (.bool (apartP a b), []) := by
  refine evc_start plan (P := Tryd.prog) (ro := planRo) rfl rfl rfl rfl rfl rfl (by simp) rfl ?_
  have h := isRead_ev (a.text ++ b.text) [a, b] .clip fx_clip (by simp; omega) (by simp)
  simp only [List.map_cons, List.map_nil, tkC] at h
  have h1 : a.text.length + b.text.length ≤ 9223372036854775807 := by omega
  simp [dFor_none, storeFine_none, dFor_no, storeFine_no, lessL, lkL, evCode_exit, evCode_seq, evCode_plain, evCode_draw, evCode_cond, evCode_ret, evCode_skip, evCode_block, evCode_loop, roundK_normal, roundK_exit, roundK_ret, seqK_normal, seqK_exit, seqK_ret, blockK_normal, blockK_exit, blockK_ret, regK_eq, evOps_nil, evOps_cons, params, astep, okDst, isWanted, aop, opnd, ofValue, putT, abin, headS, ofL, noPtr, acall, adopt_bool, adopt_int, adopt_str, adopt_agg, adopt_clip, upd_false, AV.cells, partOf, setCells, fillC, AV.isVal, List.range, List.range.loop, ofB, mayRead, dsts, planRo, capIds, viewed, scalarR, AV.scalar, bare_undef, bare_bool, bare_int, bare_str, bare_snil, bare_snone, bare_sclip, bare_srow, bare_ptr, bare_eptr, bare_pnil, bare_fn, bare_fnil, bare_agg, bare_tup, finK, freezeT, avAll, resOf, outBoxes, relabB, relabL, noPtr, AV.untup, relab_undef, relab_bool, relab_int, relab_str, relab_snil, relab_snone, relab_sclip, relab_srow, relab_ptr, relab_eptr, relab_pnil, relab_fn, relab_fnil, relab_agg, relab_tup, relab_sgrow, tkC, h, h1, apartP]
def mustP (a b : Tk) : Bool × Int := if firstOf [textErrP a, textErrP b] != 0 then (false, firstOf [textErrP a, textErrP b]) else (apartP a b, 0)
theorem must_ev (a b : Tk) (ha : a.text.length < 2 ^ 37) (hb : b.text.length < 2 ^ 37) : evc plan 16 [.agg (tkC a), .agg (tkC b)] [] = some (.tup [.bool (mustP a b).1, .int .i64 (mustP a b).2], []) := by
  refine evc_start plan (P := Tryd.prog) (ro := planRo) rfl rfl rfl rfl rfl rfl (by simp) rfl ?_
  have h1 := textErr_ev a (by omega)
  have h2 := textErr_ev b (by omega)
  have h3 := apart_ev a b ha hb
  unfold tkC at h1 h2 h3
  unfold mustP
  have ho := or2_ev (textErrP a) (textErrP b)
  generalize firstOf [textErrP a, textErrP b] = e at ho
  cases h4 : e != 0 <;> simp [dFor_none, storeFine_none, dFor_no, storeFine_no, lessL, lkL, evCode_exit, evCode_seq, evCode_plain, evCode_draw, evCode_cond, evCode_ret, evCode_skip, evCode_block, evCode_loop, roundK_normal, roundK_exit, roundK_ret, seqK_normal, seqK_exit, seqK_ret, blockK_normal, blockK_exit, blockK_ret, regK_eq, evOps_nil, evOps_cons, params, astep, okDst, isWanted, aop, opnd, ofValue, putT, abin, headS, ofL, noPtr, acall, adopt_bool, adopt_int, adopt_str, adopt_agg, adopt_clip, upd_false, AV.cells, partOf, setCells, fillC, AV.isVal, List.range, List.range.loop, ofB, mayRead, dsts, planRo, capIds, viewed, scalarR, AV.scalar, bare_undef, bare_bool, bare_int, bare_str, bare_snil, bare_snone, bare_sclip, bare_srow, bare_ptr, bare_eptr, bare_pnil, bare_fn, bare_fnil, bare_agg, bare_tup, finK, freezeT, avAll, resOf, outBoxes, relabB, relabL, noPtr, AV.untup, relab_undef, relab_bool, relab_int, relab_str, relab_snil, relab_snone, relab_sclip, relab_srow, relab_ptr, relab_eptr, relab_pnil, relab_fn, relab_fnil, relab_agg, relab_tup, relab_sgrow, tkC, h1, h2, h3, ho, h4]
end Go.Proofs.YtlmmgblghgmgeaaDoor
