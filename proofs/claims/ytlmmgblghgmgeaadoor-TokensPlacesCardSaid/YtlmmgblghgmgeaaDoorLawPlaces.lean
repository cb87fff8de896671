/- The law of the places: by its code it answers true. -/
import Derived.Test.YtlmmgblghgmgeaaDoorPlaceD
import Derived.Test.YtlmmgblghgmgeaaDoorWalkW
namespace Go.Proofs.YtlmmgblghgmgeaaDoor
open Go Ev
set_option maxRecDepth 100000
set_option linter.unusedSimpArgs false

def keepP13 : Keep := ⟨[(0, none), (3, none), (6, none), (9, none), (10, none), (11, none)], [], by decide, by decide⟩
def keepP22 : Keep := ⟨[(0, none), (3, none), (6, none), (9, none), (10, none), (11, none), (12, none)], [], by decide, by decide⟩
def lvPlaces : Nat → Keep := fun id => if id = 13 then keepP13 else if id = 22 then keepP22 else noKeep
theorem places_ok : codeOk lvPlaces (Tryd.f4.body.getD .skip) = true := by kernel_rfl
noncomputable def oracleP (l : List Str) : Oracle := if fewP l = true then overO (evc plan) 11 [.sl 1 (strs l) .none] (withoutR l) else evc plan
/-- A text is read wrongly, or its tokens stand in it. -/
theorem read_either (l : List Str) : (∃ e a b, (e != 0) = true ∧ readP l = ⟨e, a, b, [], []⟩) ∨ ∃ ts cs, readP l = ⟨0, 0, 0, ts, cs⟩ ∧ ts.length < 2 ^ 40 ∧ (∀ i a b x y : Nat, Behind ts i a b → ((i = ts.length ∧ x = l.length ∧ y = 0) ∨ ∃ h : i < ts.length, ts[i].line = x ∧ ts[i].col = y) → Clear l (withoutP l cs) a b x y) ∧
    ∀ t ∈ ts, checkTokenP t = 0 ∧ t.text.length ≤ 120 ∧ ∃ x y : Nat, t.line = x ∧ t.col = y ∧ ∃ h : x < l.length, y + t.text.length ≤ l[x].length ∧ (l[x].drop y).take t.text.length = t.text := by
  obtain ⟨hsp, hok⟩ := readAll_spans l
  unfold readP
  by_cases h0 : ((checkLinesP l).2 != 0) = true
  · rw [if_pos h0]; exact .inl ⟨_, _, _, h0, rfl⟩
  rw [if_neg h0]
  by_cases h1 : ((readAll l).1 != 0) = true
  · rw [if_pos h1]; exact .inl ⟨_, _, _, h1, rfl⟩
  rw [if_neg h1]
  by_cases h2 : decide (((readAll l).2.ts.length : Int) > 1200) = true
  · refine .inl ?_
    simp only [h2, if_true]
    exact ⟨_, _, _, by decide, rfl⟩
  · refine .inr ?_
    have h1' : (readAll l).1 = 0 := by simpa using h1
    have h0' : (checkLinesP l).2 = 0 := by simpa using h0
    obtain ⟨h3, h4⟩ := checkLines_small h0'
    have hs := readAll_standing l h1'
    have he := readAll_end l h1'
    refine ⟨(readAll l).2.ts, (readAll l).2.cs, ?_, ?_, fun i a b x y hp ht => clear_of hs (by omega) hsp i a b x y hp ht, fun t ht => ?_⟩
    · simp [h2]
    · simp at h2; omega
    · have h5 := hs.each t ht
      refine ⟨check_placed h5 h3 h4, ?_, ?_⟩
      · obtain ⟨⟨x, y, e1, e2, ⟨h6, h7, h8⟩, _⟩, _⟩ := h5
        have := (h4 l[x] (List.getElem_mem h6)).1
        omega
      · obtain ⟨⟨x, y, e1, e2, h6, _⟩, _⟩ := h5
        exact ⟨x, y, e1, e2, h6⟩
set_option maxHeartbeats 8000000 in
theorem places_ev (l : List Str) (tk : Tok) (ht : Fx tk) (hl : l.length < 2 ^ 62) : evFn Tryd.prog ⟨oracleP l, planRo, lvPlaces, 179⟩ Tryd.f4 [.sl 1 (strs l) tk] [] = some (.bool true, []) := by
  refine evFn_start rfl rfl rfl ?_
  have hne : ∀ (f : FuncId) (args : List AV) (bs : List (Nat × Box)), f ≠ 11 → oracleP l f args bs = evc plan f args bs := fun f args bs h => by
    unfold oracleP
    split
    · exact overO_ne _ _ _ _ _ h
    · rfl
  have h1 := awake_ev
  have h2 := few_ev l tk ht hl
  cases h6 : fewP l
  · simp [dFor_none, storeFine_none, dFor_no, storeFine_no, lessL, lkL, evCode_exit, evCode_seq, evCode_plain, evCode_draw, evCode_cond, evCode_ret, evCode_skip, evCode_block, evCode_loop, roundK_normal, roundK_exit, roundK_ret, seqK_normal, seqK_exit, seqK_ret, blockK_normal, blockK_exit, blockK_ret, regK_eq, evOps_nil, evOps_cons, params, astep, okDst, isWanted, aop, opnd, ofValue, putT, abin, headS, ofL, noPtr, acall, adopt_bool, adopt_int, adopt_str, adopt_agg, adopt_clip, upd_false, AV.cells, partOf, setCells, fillC, AV.isVal, List.range, List.range.loop, ofB, mayRead, dsts, planRo, capIds, viewed, scalarR, AV.scalar, bare_undef, bare_bool, bare_int, bare_str, bare_snil, bare_snone, bare_sclip, bare_srow, bare_ptr, bare_eptr, bare_pnil, bare_fn, bare_fnil, bare_agg, bare_tup, passed, setBoxes, killNames, addNames, freshAll, adopt, resParts, resBack, relabB, relabL, namesOf, cellsOfB, boxName, row_undef, row_bool, row_int, row_str, row_snil, row_snone, row_sclip, row_srow, row_ptr, row_eptr, row_pnil, row_fn, row_fnil, row_agg, row_tup, relab_undef, relab_bool, relab_int, relab_str, relab_snil, relab_snone, relab_sclip, relab_srow, relab_ptr, relab_eptr, relab_pnil, relab_fn, relab_fnil, relab_agg, relab_tup, relab_sgrow, finK, freezeT, avAll, resOf, outBoxes, relabB, relabL, noPtr, AV.untup, relab_undef, relab_bool, relab_int, relab_str, relab_snil, relab_snone, relab_sclip, relab_srow, relab_ptr, relab_eptr, relab_pnil, relab_fn, relab_fnil, relab_agg, relab_tup, relab_sgrow, hne, h1, h2, h6, bare_fx ht, row_fx ht, relab_fx ht]
  · have hf := few_small h6
    have hlx : ∀ p, lineLen l p < 2 ^ 40 := fun p => by
      by_cases hp : p < l.length
      · rw [lineLen_eq l p hp]; exact hf.2 _ (List.getElem_mem hp)
      · rw [lineLen_over l p (by omega)]; omega
    have h3 := own_ev l tk ht (by omega)
    have h4 := tokensOf_ev l .none fx_none hl
    have h7 : oracleP l 11 [.sl 1 (strs l) .none] [] = some (withoutR l, []) := by
      unfold oracleP; rw [if_pos h6]; exact overO_self _ _ _ _
    unfold withoutR at h7
    rcases read_either l with ⟨e, a, b, he, hp⟩ | ⟨ts, cs, hp, hts, hclear, htok⟩
    · rw [hp] at h4 h7
      have he' : e ≠ 0 := by simpa using he
      simp only [slTk, he, if_true] at h4 h7
      simp [dFor_none, storeFine_none, dFor_no, storeFine_no, lessL, lkL, evCode_exit, evCode_seq, evCode_plain, evCode_draw, evCode_cond, evCode_ret, evCode_skip, evCode_block, evCode_loop, roundK_normal, roundK_exit, roundK_ret, seqK_normal, seqK_exit, seqK_ret, blockK_normal, blockK_exit, blockK_ret, regK_eq, evOps_nil, evOps_cons, params, astep, okDst, isWanted, aop, opnd, ofValue, putT, abin, headS, ofL, noPtr, acall, adopt_bool, adopt_int, adopt_str, adopt_agg, adopt_clip, upd_false, AV.cells, partOf, setCells, fillC, AV.isVal, List.range, List.range.loop, ofB, mayRead, dsts, planRo, capIds, viewed, scalarR, AV.scalar, bare_undef, bare_bool, bare_int, bare_str, bare_snil, bare_snone, bare_sclip, bare_srow, bare_ptr, bare_eptr, bare_pnil, bare_fn, bare_fnil, bare_agg, bare_tup, passed, setBoxes, killNames, addNames, freshAll, adopt, resParts, resBack, relabB, relabL, namesOf, cellsOfB, boxName, row_undef, row_bool, row_int, row_str, row_snil, row_snone, row_sclip, row_srow, row_ptr, row_eptr, row_pnil, row_fn, row_fnil, row_agg, row_tup, relab_undef, relab_bool, relab_int, relab_str, relab_snil, relab_snone, relab_sclip, relab_srow, relab_ptr, relab_eptr, relab_pnil, relab_fn, relab_fnil, relab_agg, relab_tup, relab_sgrow, finK, freezeT, avAll, resOf, outBoxes, relabB, relabL, noPtr, AV.untup, relab_undef, relab_bool, relab_int, relab_str, relab_snil, relab_snone, relab_sclip, relab_srow, relab_ptr, relab_eptr, relab_pnil, relab_fn, relab_fnil, relab_agg, relab_tup, relab_sgrow, hne, h1, h2, h3, h4, h6, h7, he, he', bare_fx ht, row_fx ht, relab_fx ht]
    · rw [hp] at h4 h7
      simp only [slTk, bne_self_eq_false, Bool.false_eq_true, if_false] at h4 h7
      have hWlen : (withoutP l cs).length = l.length := (hclear ts.length _ _ _ _ (show Behind ts ts.length (if h : 0 < ts.length then (ts[ts.length - 1]).line.toNat else 0) (if h : 0 < ts.length then ((ts[ts.length - 1]).col + (ts[ts.length - 1]).text.length).toNat else 0) by
        by_cases h : 0 < ts.length
        · rw [dif_pos h, dif_pos h]
          obtain ⟨_, _, x, y, e1, e2, _⟩ := htok _ (List.getElem_mem (show ts.length - 1 < ts.length by omega))
          exact .inr ⟨ts.length - 1, by omega, by omega, by omega, by omega⟩
        · rw [dif_neg h, dif_neg h]
          exact .inl ⟨by omega, rfl, rfl⟩) (.inl ⟨rfl, rfl, rfl⟩)).same.1
      generalize withoutP l cs = W at h7 hclear hWlen
      simp [dFor_none, storeFine_none, dFor_no, storeFine_no, lessL, lkL, evCode_exit, evCode_seq, evCode_plain, evCode_draw, evCode_cond, evCode_ret, evCode_skip, evCode_block, evCode_loop, roundK_normal, roundK_exit, roundK_ret, seqK_normal, seqK_exit, seqK_ret, blockK_normal, blockK_exit, blockK_ret, regK_eq, evOps_nil, evOps_cons, params, astep, okDst, isWanted, aop, opnd, ofValue, putT, abin, headS, ofL, noPtr, acall, adopt_bool, adopt_int, adopt_str, adopt_agg, adopt_clip, upd_false, AV.cells, partOf, setCells, fillC, AV.isVal, List.range, List.range.loop, ofB, mayRead, dsts, planRo, capIds, viewed, scalarR, AV.scalar, bare_undef, bare_bool, bare_int, bare_str, bare_snil, bare_snone, bare_sclip, bare_srow, bare_ptr, bare_eptr, bare_pnil, bare_fn, bare_fnil, bare_agg, bare_tup, passed, setBoxes, killNames, addNames, freshAll, adopt, resParts, resBack, relabB, relabL, namesOf, cellsOfB, boxName, row_undef, row_bool, row_int, row_str, row_snil, row_snone, row_sclip, row_srow, row_ptr, row_eptr, row_pnil, row_fn, row_fnil, row_agg, row_tup, relab_undef, relab_bool, relab_int, relab_str, relab_snil, relab_snone, relab_sclip, relab_srow, relab_ptr, relab_eptr, relab_pnil, relab_fn, relab_fnil, relab_agg, relab_tup, relab_sgrow, finK, freezeT, avAll, resOf, outBoxes, relabB, relabL, noPtr, AV.untup, relab_undef, relab_bool, relab_int, relab_str, relab_snil, relab_snone, relab_sclip, relab_srow, relab_ptr, relab_eptr, relab_pnil, relab_fn, relab_fnil, relab_agg, relab_tup, relab_sgrow, hne, h1, h2, h3, h4, h6, h7, strs_len, hWlen, bare_fx ht, row_fx ht, relab_fx ht]
      refine loop_by (fun q : Nat × Nat × Nat => ts.length + 1 - q.1) (fun (q : Nat × Nat × Nat) t m => q.1 ≤ ts.length + 1 ∧ (q.1 ≤ ts.length → Behind ts q.1 q.2.1 q.2.2) ∧ clean (lvPlaces 13) t m = headS [(0, .sl 1 (strs l) tk), (3, .sl 4 (ts.map tkC) .none), (6, .sl 1 (strs W) .none), (9, .int .i64 q.2.1), (10, .int .i64 q.2.2), (11, .int .i64 q.1)] []) ?_ (0, 0, 0) ?_
      · rintro ⟨i, a, b⟩ t m ⟨hi, hB, hS⟩ ih
        simp only at hi hB hS ih
        refine round_of hS ?_
        have w3 : i ≤ ts.length → IntKind.i64.wrap ((i : Int) + 1) = ((i + 1 : Nat) : Int) := fun h => wrap_i64 (by omega) (by omega)
        by_cases hin : i < ts.length
        · skip
          have hB' := hB (by omega)
          obtain ⟨hck, htl, x, y, e1, e2, hx0, hx1, hx2⟩ := htok ts[i] (List.getElem_mem hin)
          have hC := hclear i a b x y hB' (.inr ⟨hin, e1, e2⟩)
          rcases hq : ts[i] with ⟨kd, tx, ln, cl⟩
          rw [hq] at hck htl e1 e2 hx1 hx2
          simp only at htl e1 e2 hx1 hx2
          subst e1
          subst e2
          have hcd := checkToken_ev ⟨kd, tx, x, y⟩ (by simp only; omega)
          rw [hck] at hcd
          simp only [tkC] at hcd
          have hiI : (i : Int) ≤ ts.length := by omega
          have hiN : i ≤ ts.length := by omega
          have c2 : ¬ l.length < x := by omega
          rcases hC.le with hlt | ⟨hae0, hby0⟩
          · have c1 : ¬ x < a := by omega
            have c3 : ¬ x = a := by omega
            have c4 : ((x : Int) == a) = false := by simp; omega
            simp [-Int.natCast_add, dFor_none, storeFine_none, dFor_no, storeFine_no, lessL, lkL, evCode_exit, evCode_seq, evCode_plain, evCode_draw, evCode_cond, evCode_ret, evCode_skip, evCode_block, evCode_loop, roundK_normal, roundK_exit, roundK_ret, seqK_normal, seqK_exit, seqK_ret, blockK_normal, blockK_exit, blockK_ret, regK_eq, evOps_nil, evOps_cons, params, astep, okDst, isWanted, aop, opnd, ofValue, putT, abin, headS, ofL, noPtr, acall, adopt_bool, adopt_int, adopt_str, adopt_agg, adopt_clip, upd_false, AV.cells, partOf, setCells, fillC, AV.isVal, List.range, List.range.loop, ofB, mayRead, dsts, planRo, capIds, viewed, scalarR, AV.scalar, bare_undef, bare_bool, bare_int, bare_str, bare_snil, bare_snone, bare_sclip, bare_srow, bare_ptr, bare_eptr, bare_pnil, bare_fn, bare_fnil, bare_agg, bare_tup, passed, setBoxes, killNames, addNames, freshAll, adopt, resParts, resBack, relabB, relabL, namesOf, cellsOfB, boxName, row_undef, row_bool, row_int, row_str, row_snil, row_snone, row_sclip, row_srow, row_ptr, row_eptr, row_pnil, row_fn, row_fnil, row_agg, row_tup, relab_undef, relab_bool, relab_int, relab_str, relab_snil, relab_snone, relab_sclip, relab_srow, relab_ptr, relab_eptr, relab_pnil, relab_fn, relab_fnil, relab_agg, relab_tup, relab_sgrow, finK, freezeT, avAll, resOf, outBoxes, relabB, relabL, noPtr, AV.untup, relab_undef, relab_bool, relab_int, relab_str, relab_snil, relab_snone, relab_sclip, relab_srow, relab_ptr, relab_eptr, relab_pnil, relab_fn, relab_fnil, relab_agg, relab_tup, relab_sgrow, lvPlaces, keepP13, keepP22, hne, strs, hin, hiI, hiN, hq, tkC, hcd, c1, c2, c3, c4]
            refine loop_by (fun q : Nat × Nat => left l q.1 q.2) (fun (q : Nat × Nat) t m => Clear l W q.1 q.2 x y ∧ clean (lvPlaces 22) t m = headS [(0, .sl 1 (strs l) tk), (3, .sl 4 (ts.map tkC) .none), (6, .sl 1 (strs W) .none), (9, .int .i64 q.1), (10, .int .i64 q.2), (11, .int .i64 i), (12, .ptr 500012 0)] [(500012, [.int .i64 x, .int .i64 y])]) ?_ (a, b) ?_
            · rintro ⟨u, v⟩ t m ⟨hD, hS⟩ ih2
              simp only at hD hS ih2
              refine round_of hS ?_
              have hle := hD.le
              have hx := hD.hx
              have hy := hD.hy
              have hb := hD.hb
              have hux := hlx u
              obtain ⟨_, hWs⟩ := hD.same
              have hov := lineLen_over l u
              by_cases hgo : u < x ∨ (u = x ∧ u < l.length ∧ v < y)
              · have ha : u < l.length := by omega
                have haW : u < W.length := by omega
                have hlen : W[u].length = lineLen l u := by rw [← hWs u, lineLen_eq W u haW]
                have w1 : IntKind.i64.wrap ((u : Int) + 1) = ((u + 1 : Nat) : Int) := wrap_i64 (by omega) (by omega)
                by_cases hend : lineLen l u ≤ v
                · have hax : u < x := by
                    rcases hgo with h5 | ⟨h5, _, h6⟩
                    · exact h5
                    · exfalso
                      rw [← h5] at hy
                      omega
                  have haxI : (u : Int) < (x : Int) := by omega
                  have hne2 : ((u : Int) == (x : Int)) = false := by simp; omega
                  have hne3 : ¬ u = x := by omega
                  have hend2 : W[u].length ≤ v := by omega
                  simp [-Int.natCast_add, dFor_none, storeFine_none, dFor_no, storeFine_no, lessL, lkL, evCode_exit, evCode_seq, evCode_plain, evCode_draw, evCode_cond, evCode_ret, evCode_skip, evCode_block, evCode_loop, roundK_normal, roundK_exit, roundK_ret, seqK_normal, seqK_exit, seqK_ret, blockK_normal, blockK_exit, blockK_ret, regK_eq, evOps_nil, evOps_cons, params, astep, okDst, isWanted, aop, opnd, ofValue, putT, abin, headS, ofL, noPtr, acall, adopt_bool, adopt_int, adopt_str, adopt_agg, adopt_clip, upd_false, AV.cells, partOf, setCells, fillC, AV.isVal, List.range, List.range.loop, ofB, mayRead, dsts, planRo, capIds, viewed, scalarR, AV.scalar, bare_undef, bare_bool, bare_int, bare_str, bare_snil, bare_snone, bare_sclip, bare_srow, bare_ptr, bare_eptr, bare_pnil, bare_fn, bare_fnil, bare_agg, bare_tup, passed, setBoxes, killNames, addNames, freshAll, adopt, resParts, resBack, relabB, relabL, namesOf, cellsOfB, boxName, row_undef, row_bool, row_int, row_str, row_snil, row_snone, row_sclip, row_srow, row_ptr, row_eptr, row_pnil, row_fn, row_fnil, row_agg, row_tup, relab_undef, relab_bool, relab_int, relab_str, relab_snil, relab_snone, relab_sclip, relab_srow, relab_ptr, relab_eptr, relab_pnil, relab_fn, relab_fnil, relab_agg, relab_tup, relab_sgrow, finK, freezeT, avAll, resOf, outBoxes, relabB, relabL, noPtr, AV.untup, relab_undef, relab_bool, relab_int, relab_str, relab_snil, relab_snone, relab_sclip, relab_srow, relab_ptr, relab_eptr, relab_pnil, relab_fn, relab_fnil, relab_agg, relab_tup, relab_sgrow, lvPlaces, keepP13, keepP22, hne, strs, haW, hax, haxI, hne2, hne3, hend2, w1]
                  refine ih2 (u + 1, 0) _ _ (left_turn l u v ha hb) ⟨hD.turn hax hend, ?_⟩
                  simp [-Int.natCast_add, clean, keepBoxes, relabB, relabL, cleanS, fixPtr, headS, ofL, ofB, cellsOfB, namesOf, upd_false, AV.cells, row_undef, row_bool, row_int, row_str, row_snil, row_snone, row_sclip, row_srow, row_ptr, row_eptr, row_pnil, row_fn, row_fnil, row_agg, row_tup, relab_undef, relab_bool, relab_int, relab_str, relab_snil, relab_snone, relab_sclip, relab_srow, relab_ptr, relab_eptr, relab_pnil, relab_fn, relab_fnil, relab_agg, relab_tup, relab_sgrow, passed, setBoxes, killNames, addNames, freshAll, adopt, resParts, resBack, relabB, relabL, namesOf, cellsOfB, boxName, row_undef, row_bool, row_int, row_str, row_snil, row_snone, row_sclip, row_srow, row_ptr, row_eptr, row_pnil, row_fn, row_fnil, row_agg, row_tup, relab_undef, relab_bool, relab_int, relab_str, relab_snil, relab_snone, relab_sclip, relab_srow, relab_ptr, relab_eptr, relab_pnil, relab_fn, relab_fnil, relab_agg, relab_tup, relab_sgrow, lvPlaces, keepP13, keepP22, growOf, strs, bare_fx ht, row_fx ht, relab_fx ht]
                · have hbW : v < W[u].length := by omega
                  have w2 : IntKind.i64.wrap ((v : Int) + 1) = ((v + 1 : Nat) : Int) := wrap_i64 (by omega) (by omega)
                  have hend2 : ¬ W[u].length ≤ v := by omega
                  have hq0 := hD.blank u v ha (by omega) (by omega) (by omega)
                  have hq2 : W[u][v] = 32 := by
                    rw [line_is W u haW] at hq0
                    simpa [List.getD_eq_getElem?_getD, hbW] using hq0
                  have hstep : left l u (v + 1) < left l u v := by have := left_step l u v 1 ha (by omega); omega
                  by_cases hax : u < x
                  · have haxI : (u : Int) < (x : Int) := by omega
                    simp [-Int.natCast_add, dFor_none, storeFine_none, dFor_no, storeFine_no, lessL, lkL, evCode_exit, evCode_seq, evCode_plain, evCode_draw, evCode_cond, evCode_ret, evCode_skip, evCode_block, evCode_loop, roundK_normal, roundK_exit, roundK_ret, seqK_normal, seqK_exit, seqK_ret, blockK_normal, blockK_exit, blockK_ret, regK_eq, evOps_nil, evOps_cons, params, astep, okDst, isWanted, aop, opnd, ofValue, putT, abin, headS, ofL, noPtr, acall, adopt_bool, adopt_int, adopt_str, adopt_agg, adopt_clip, upd_false, AV.cells, partOf, setCells, fillC, AV.isVal, List.range, List.range.loop, ofB, mayRead, dsts, planRo, capIds, viewed, scalarR, AV.scalar, bare_undef, bare_bool, bare_int, bare_str, bare_snil, bare_snone, bare_sclip, bare_srow, bare_ptr, bare_eptr, bare_pnil, bare_fn, bare_fnil, bare_agg, bare_tup, passed, setBoxes, killNames, addNames, freshAll, adopt, resParts, resBack, relabB, relabL, namesOf, cellsOfB, boxName, row_undef, row_bool, row_int, row_str, row_snil, row_snone, row_sclip, row_srow, row_ptr, row_eptr, row_pnil, row_fn, row_fnil, row_agg, row_tup, relab_undef, relab_bool, relab_int, relab_str, relab_snil, relab_snone, relab_sclip, relab_srow, relab_ptr, relab_eptr, relab_pnil, relab_fn, relab_fnil, relab_agg, relab_tup, relab_sgrow, finK, freezeT, avAll, resOf, outBoxes, relabB, relabL, noPtr, AV.untup, relab_undef, relab_bool, relab_int, relab_str, relab_snil, relab_snone, relab_sclip, relab_srow, relab_ptr, relab_eptr, relab_pnil, relab_fn, relab_fnil, relab_agg, relab_tup, relab_sgrow, lvPlaces, keepP13, keepP22, hne, strs, haW, hax, haxI, hend2, hbW, hq2, w2]
                    refine ih2 (u, v + 1) _ _ hstep ⟨hD.step (.inl hax) (by omega), ?_⟩
                    simp [-Int.natCast_add, clean, keepBoxes, relabB, relabL, cleanS, fixPtr, headS, ofL, ofB, cellsOfB, namesOf, upd_false, AV.cells, row_undef, row_bool, row_int, row_str, row_snil, row_snone, row_sclip, row_srow, row_ptr, row_eptr, row_pnil, row_fn, row_fnil, row_agg, row_tup, relab_undef, relab_bool, relab_int, relab_str, relab_snil, relab_snone, relab_sclip, relab_srow, relab_ptr, relab_eptr, relab_pnil, relab_fn, relab_fnil, relab_agg, relab_tup, relab_sgrow, passed, setBoxes, killNames, addNames, freshAll, adopt, resParts, resBack, relabB, relabL, namesOf, cellsOfB, boxName, row_undef, row_bool, row_int, row_str, row_snil, row_snone, row_sclip, row_srow, row_ptr, row_eptr, row_pnil, row_fn, row_fnil, row_agg, row_tup, relab_undef, relab_bool, relab_int, relab_str, relab_snil, relab_snone, relab_sclip, relab_srow, relab_ptr, relab_eptr, relab_pnil, relab_fn, relab_fnil, relab_agg, relab_tup, relab_sgrow, lvPlaces, keepP13, keepP22, growOf, strs, bare_fx ht, row_fx ht, relab_fx ht]
                  · have hae : u = x := by omega
                    have hby : v < y := by omega
                    have hbyI : (v : Int) < (y : Int) := by omega
                    have hae2 : ((u : Int) == (x : Int)) = true := by simp; omega
                    have haxI : ¬ (u : Int) < (x : Int) := by omega
                    simp [-Int.natCast_add, dFor_none, storeFine_none, dFor_no, storeFine_no, lessL, lkL, evCode_exit, evCode_seq, evCode_plain, evCode_draw, evCode_cond, evCode_ret, evCode_skip, evCode_block, evCode_loop, roundK_normal, roundK_exit, roundK_ret, seqK_normal, seqK_exit, seqK_ret, blockK_normal, blockK_exit, blockK_ret, regK_eq, evOps_nil, evOps_cons, params, astep, okDst, isWanted, aop, opnd, ofValue, putT, abin, headS, ofL, noPtr, acall, adopt_bool, adopt_int, adopt_str, adopt_agg, adopt_clip, upd_false, AV.cells, partOf, setCells, fillC, AV.isVal, List.range, List.range.loop, ofB, mayRead, dsts, planRo, capIds, viewed, scalarR, AV.scalar, bare_undef, bare_bool, bare_int, bare_str, bare_snil, bare_snone, bare_sclip, bare_srow, bare_ptr, bare_eptr, bare_pnil, bare_fn, bare_fnil, bare_agg, bare_tup, passed, setBoxes, killNames, addNames, freshAll, adopt, resParts, resBack, relabB, relabL, namesOf, cellsOfB, boxName, row_undef, row_bool, row_int, row_str, row_snil, row_snone, row_sclip, row_srow, row_ptr, row_eptr, row_pnil, row_fn, row_fnil, row_agg, row_tup, relab_undef, relab_bool, relab_int, relab_str, relab_snil, relab_snone, relab_sclip, relab_srow, relab_ptr, relab_eptr, relab_pnil, relab_fn, relab_fnil, relab_agg, relab_tup, relab_sgrow, finK, freezeT, avAll, resOf, outBoxes, relabB, relabL, noPtr, AV.untup, relab_undef, relab_bool, relab_int, relab_str, relab_snil, relab_snone, relab_sclip, relab_srow, relab_ptr, relab_eptr, relab_pnil, relab_fn, relab_fnil, relab_agg, relab_tup, relab_sgrow, lvPlaces, keepP13, keepP22, hne, strs, haW, ha, hax, haxI, hae2, hby, hbyI, hend2, hbW, hq2, w2]
                    refine ih2 (u, v + 1) _ _ hstep ⟨hD.step (.inr hby) (by omega), ?_⟩
                    simp [-Int.natCast_add, clean, keepBoxes, relabB, relabL, cleanS, fixPtr, headS, ofL, ofB, cellsOfB, namesOf, upd_false, AV.cells, row_undef, row_bool, row_int, row_str, row_snil, row_snone, row_sclip, row_srow, row_ptr, row_eptr, row_pnil, row_fn, row_fnil, row_agg, row_tup, relab_undef, relab_bool, relab_int, relab_str, relab_snil, relab_snone, relab_sclip, relab_srow, relab_ptr, relab_eptr, relab_pnil, relab_fn, relab_fnil, relab_agg, relab_tup, relab_sgrow, passed, setBoxes, killNames, addNames, freshAll, adopt, resParts, resBack, relabB, relabL, namesOf, cellsOfB, boxName, row_undef, row_bool, row_int, row_str, row_snil, row_snone, row_sclip, row_srow, row_ptr, row_eptr, row_pnil, row_fn, row_fnil, row_agg, row_tup, relab_undef, relab_bool, relab_int, relab_str, relab_snil, relab_snone, relab_sclip, relab_srow, relab_ptr, relab_eptr, relab_pnil, relab_fn, relab_fnil, relab_agg, relab_tup, relab_sgrow, lvPlaces, keepP13, keepP22, growOf, strs, bare_fx ht, row_fx ht, relab_fx ht]
              · have hae : u = x := by omega
                have hbe : v = y := by omega
                have hxl : x < l.length := hx0
                have hyx : y + tx.length ≤ 2 ^ 41 := by have := hlx x; rw [lineLen_eq l x hx0] at this; omega
                subst hae
                subst hbe
                have w4 : IntKind.i64.wrap ((v : Int) + tx.length) = ((v + tx.length : Nat) : Int) := wrap_i64 (by omega) (by omega)
                have s1 : ¬ l[u].length < v + tx.length := by omega
                have s2 : v ≤ v + tx.length := by omega
                have s3 : (l[u].take (v + tx.length)).drop v = tx := by rw [List.drop_take, Nat.add_sub_cancel_left]; exact hx2
                simp [-Int.natCast_add, dFor_none, storeFine_none, dFor_no, storeFine_no, lessL, lkL, evCode_exit, evCode_seq, evCode_plain, evCode_draw, evCode_cond, evCode_ret, evCode_skip, evCode_block, evCode_loop, roundK_normal, roundK_exit, roundK_ret, seqK_normal, seqK_exit, seqK_ret, blockK_normal, blockK_exit, blockK_ret, regK_eq, evOps_nil, evOps_cons, params, astep, okDst, isWanted, aop, opnd, ofValue, putT, abin, headS, ofL, noPtr, acall, adopt_bool, adopt_int, adopt_str, adopt_agg, adopt_clip, upd_false, AV.cells, partOf, setCells, fillC, AV.isVal, List.range, List.range.loop, ofB, mayRead, dsts, planRo, capIds, viewed, scalarR, AV.scalar, bare_undef, bare_bool, bare_int, bare_str, bare_snil, bare_snone, bare_sclip, bare_srow, bare_ptr, bare_eptr, bare_pnil, bare_fn, bare_fnil, bare_agg, bare_tup, passed, setBoxes, killNames, addNames, freshAll, adopt, resParts, resBack, relabB, relabL, namesOf, cellsOfB, boxName, row_undef, row_bool, row_int, row_str, row_snil, row_snone, row_sclip, row_srow, row_ptr, row_eptr, row_pnil, row_fn, row_fnil, row_agg, row_tup, relab_undef, relab_bool, relab_int, relab_str, relab_snil, relab_snone, relab_sclip, relab_srow, relab_ptr, relab_eptr, relab_pnil, relab_fn, relab_fnil, relab_agg, relab_tup, relab_sgrow, finK, freezeT, avAll, resOf, outBoxes, relabB, relabL, noPtr, AV.untup, relab_undef, relab_bool, relab_int, relab_str, relab_snil, relab_snone, relab_sclip, relab_srow, relab_ptr, relab_eptr, relab_pnil, relab_fn, relab_fnil, relab_agg, relab_tup, relab_sgrow, lvPlaces, keepP13, keepP22, hne, strs, hin, hq, tkC, hx0, w4, s1, s2, s3, aslice, abound, hx1, w3 (Nat.le_of_lt hin)]
                refine ih (i + 1, u, v + tx.length) _ _ (by simp only; omega) ⟨by simp only; omega, fun _ => .inr ⟨i, hin, rfl, by rw [hq], by rw [hq]; simp⟩, ?_⟩
                simp [-Int.natCast_add, clean, keepBoxes, relabB, relabL, cleanS, fixPtr, headS, ofL, ofB, cellsOfB, namesOf, upd_false, AV.cells, row_undef, row_bool, row_int, row_str, row_snil, row_snone, row_sclip, row_srow, row_ptr, row_eptr, row_pnil, row_fn, row_fnil, row_agg, row_tup, relab_undef, relab_bool, relab_int, relab_str, relab_snil, relab_snone, relab_sclip, relab_srow, relab_ptr, relab_eptr, relab_pnil, relab_fn, relab_fnil, relab_agg, relab_tup, relab_sgrow, passed, setBoxes, killNames, addNames, freshAll, adopt, resParts, resBack, relabB, relabL, namesOf, cellsOfB, boxName, row_undef, row_bool, row_int, row_str, row_snil, row_snone, row_sclip, row_srow, row_ptr, row_eptr, row_pnil, row_fn, row_fnil, row_agg, row_tup, relab_undef, relab_bool, relab_int, relab_str, relab_snil, relab_snone, relab_sclip, relab_srow, relab_ptr, relab_eptr, relab_pnil, relab_fn, relab_fnil, relab_agg, relab_tup, relab_sgrow, lvPlaces, keepP13, keepP22, growOf, strs, bare_fx ht, row_fx ht, relab_fx ht]
            · refine ⟨hC, ?_⟩
              simp [-Int.natCast_add, clean, keepBoxes, relabB, relabL, cleanS, fixPtr, headS, ofL, ofB, cellsOfB, namesOf, upd_false, AV.cells, row_undef, row_bool, row_int, row_str, row_snil, row_snone, row_sclip, row_srow, row_ptr, row_eptr, row_pnil, row_fn, row_fnil, row_agg, row_tup, relab_undef, relab_bool, relab_int, relab_str, relab_snil, relab_snone, relab_sclip, relab_srow, relab_ptr, relab_eptr, relab_pnil, relab_fn, relab_fnil, relab_agg, relab_tup, relab_sgrow, passed, setBoxes, killNames, addNames, freshAll, adopt, resParts, resBack, relabB, relabL, namesOf, cellsOfB, boxName, row_undef, row_bool, row_int, row_str, row_snil, row_snone, row_sclip, row_srow, row_ptr, row_eptr, row_pnil, row_fn, row_fnil, row_agg, row_tup, relab_undef, relab_bool, relab_int, relab_str, relab_snil, relab_snone, relab_sclip, relab_srow, relab_ptr, relab_eptr, relab_pnil, relab_fn, relab_fnil, relab_agg, relab_tup, relab_sgrow, lvPlaces, keepP13, keepP22, growOf, strs, bare_fx ht, row_fx ht, relab_fx ht]
          · subst hae0
            have c1 : ¬ y < b := by omega
            simp [-Int.natCast_add, dFor_none, storeFine_none, dFor_no, storeFine_no, lessL, lkL, evCode_exit, evCode_seq, evCode_plain, evCode_draw, evCode_cond, evCode_ret, evCode_skip, evCode_block, evCode_loop, roundK_normal, roundK_exit, roundK_ret, seqK_normal, seqK_exit, seqK_ret, blockK_normal, blockK_exit, blockK_ret, regK_eq, evOps_nil, evOps_cons, params, astep, okDst, isWanted, aop, opnd, ofValue, putT, abin, headS, ofL, noPtr, acall, adopt_bool, adopt_int, adopt_str, adopt_agg, adopt_clip, upd_false, AV.cells, partOf, setCells, fillC, AV.isVal, List.range, List.range.loop, ofB, mayRead, dsts, planRo, capIds, viewed, scalarR, AV.scalar, bare_undef, bare_bool, bare_int, bare_str, bare_snil, bare_snone, bare_sclip, bare_srow, bare_ptr, bare_eptr, bare_pnil, bare_fn, bare_fnil, bare_agg, bare_tup, passed, setBoxes, killNames, addNames, freshAll, adopt, resParts, resBack, relabB, relabL, namesOf, cellsOfB, boxName, row_undef, row_bool, row_int, row_str, row_snil, row_snone, row_sclip, row_srow, row_ptr, row_eptr, row_pnil, row_fn, row_fnil, row_agg, row_tup, relab_undef, relab_bool, relab_int, relab_str, relab_snil, relab_snone, relab_sclip, relab_srow, relab_ptr, relab_eptr, relab_pnil, relab_fn, relab_fnil, relab_agg, relab_tup, relab_sgrow, finK, freezeT, avAll, resOf, outBoxes, relabB, relabL, noPtr, AV.untup, relab_undef, relab_bool, relab_int, relab_str, relab_snil, relab_snone, relab_sclip, relab_srow, relab_ptr, relab_eptr, relab_pnil, relab_fn, relab_fnil, relab_agg, relab_tup, relab_sgrow, lvPlaces, keepP13, keepP22, hne, strs, hin, hiI, hiN, hq, tkC, hcd, c1, c2]
            refine loop_by (fun q : Nat × Nat => left l q.1 q.2) (fun (q : Nat × Nat) t m => Clear l W q.1 q.2 a y ∧ clean (lvPlaces 22) t m = headS [(0, .sl 1 (strs l) tk), (3, .sl 4 (ts.map tkC) .none), (6, .sl 1 (strs W) .none), (9, .int .i64 q.1), (10, .int .i64 q.2), (11, .int .i64 i), (12, .ptr 500012 0)] [(500012, [.int .i64 a, .int .i64 y])]) ?_ (a, b) ?_
            · rintro ⟨u, v⟩ t m ⟨hD, hS⟩ ih2
              simp only at hD hS ih2
              refine round_of hS ?_
              have hle := hD.le
              have hx := hD.hx
              have hy := hD.hy
              have hb := hD.hb
              have hux := hlx u
              obtain ⟨_, hWs⟩ := hD.same
              have hov := lineLen_over l u
              by_cases hgo : u < a ∨ (u = a ∧ u < l.length ∧ v < y)
              · have ha : u < l.length := by omega
                have haW : u < W.length := by omega
                have hlen : W[u].length = lineLen l u := by rw [← hWs u, lineLen_eq W u haW]
                have w1 : IntKind.i64.wrap ((u : Int) + 1) = ((u + 1 : Nat) : Int) := wrap_i64 (by omega) (by omega)
                by_cases hend : lineLen l u ≤ v
                · have hax : u < a := by
                    rcases hgo with h5 | ⟨h5, _, h6⟩
                    · exact h5
                    · exfalso
                      rw [← h5] at hy
                      omega
                  have haxI : (u : Int) < (a : Int) := by omega
                  have hne2 : ((u : Int) == (a : Int)) = false := by simp; omega
                  have hne3 : ¬ u = a := by omega
                  have hend2 : W[u].length ≤ v := by omega
                  simp [-Int.natCast_add, dFor_none, storeFine_none, dFor_no, storeFine_no, lessL, lkL, evCode_exit, evCode_seq, evCode_plain, evCode_draw, evCode_cond, evCode_ret, evCode_skip, evCode_block, evCode_loop, roundK_normal, roundK_exit, roundK_ret, seqK_normal, seqK_exit, seqK_ret, blockK_normal, blockK_exit, blockK_ret, regK_eq, evOps_nil, evOps_cons, params, astep, okDst, isWanted, aop, opnd, ofValue, putT, abin, headS, ofL, noPtr, acall, adopt_bool, adopt_int, adopt_str, adopt_agg, adopt_clip, upd_false, AV.cells, partOf, setCells, fillC, AV.isVal, List.range, List.range.loop, ofB, mayRead, dsts, planRo, capIds, viewed, scalarR, AV.scalar, bare_undef, bare_bool, bare_int, bare_str, bare_snil, bare_snone, bare_sclip, bare_srow, bare_ptr, bare_eptr, bare_pnil, bare_fn, bare_fnil, bare_agg, bare_tup, passed, setBoxes, killNames, addNames, freshAll, adopt, resParts, resBack, relabB, relabL, namesOf, cellsOfB, boxName, row_undef, row_bool, row_int, row_str, row_snil, row_snone, row_sclip, row_srow, row_ptr, row_eptr, row_pnil, row_fn, row_fnil, row_agg, row_tup, relab_undef, relab_bool, relab_int, relab_str, relab_snil, relab_snone, relab_sclip, relab_srow, relab_ptr, relab_eptr, relab_pnil, relab_fn, relab_fnil, relab_agg, relab_tup, relab_sgrow, finK, freezeT, avAll, resOf, outBoxes, relabB, relabL, noPtr, AV.untup, relab_undef, relab_bool, relab_int, relab_str, relab_snil, relab_snone, relab_sclip, relab_srow, relab_ptr, relab_eptr, relab_pnil, relab_fn, relab_fnil, relab_agg, relab_tup, relab_sgrow, lvPlaces, keepP13, keepP22, hne, strs, haW, hax, haxI, hne2, hne3, hend2, w1]
                  refine ih2 (u + 1, 0) _ _ (left_turn l u v ha hb) ⟨hD.turn hax hend, ?_⟩
                  simp [-Int.natCast_add, clean, keepBoxes, relabB, relabL, cleanS, fixPtr, headS, ofL, ofB, cellsOfB, namesOf, upd_false, AV.cells, row_undef, row_bool, row_int, row_str, row_snil, row_snone, row_sclip, row_srow, row_ptr, row_eptr, row_pnil, row_fn, row_fnil, row_agg, row_tup, relab_undef, relab_bool, relab_int, relab_str, relab_snil, relab_snone, relab_sclip, relab_srow, relab_ptr, relab_eptr, relab_pnil, relab_fn, relab_fnil, relab_agg, relab_tup, relab_sgrow, passed, setBoxes, killNames, addNames, freshAll, adopt, resParts, resBack, relabB, relabL, namesOf, cellsOfB, boxName, row_undef, row_bool, row_int, row_str, row_snil, row_snone, row_sclip, row_srow, row_ptr, row_eptr, row_pnil, row_fn, row_fnil, row_agg, row_tup, relab_undef, relab_bool, relab_int, relab_str, relab_snil, relab_snone, relab_sclip, relab_srow, relab_ptr, relab_eptr, relab_pnil, relab_fn, relab_fnil, relab_agg, relab_tup, relab_sgrow, lvPlaces, keepP13, keepP22, growOf, strs, bare_fx ht, row_fx ht, relab_fx ht]
                · have hbW : v < W[u].length := by omega
                  have w2 : IntKind.i64.wrap ((v : Int) + 1) = ((v + 1 : Nat) : Int) := wrap_i64 (by omega) (by omega)
                  have hend2 : ¬ W[u].length ≤ v := by omega
                  have hq0 := hD.blank u v ha (by omega) (by omega) (by omega)
                  have hq2 : W[u][v] = 32 := by
                    rw [line_is W u haW] at hq0
                    simpa [List.getD_eq_getElem?_getD, hbW] using hq0
                  have hstep : left l u (v + 1) < left l u v := by have := left_step l u v 1 ha (by omega); omega
                  by_cases hax : u < a
                  · have haxI : (u : Int) < (a : Int) := by omega
                    simp [-Int.natCast_add, dFor_none, storeFine_none, dFor_no, storeFine_no, lessL, lkL, evCode_exit, evCode_seq, evCode_plain, evCode_draw, evCode_cond, evCode_ret, evCode_skip, evCode_block, evCode_loop, roundK_normal, roundK_exit, roundK_ret, seqK_normal, seqK_exit, seqK_ret, blockK_normal, blockK_exit, blockK_ret, regK_eq, evOps_nil, evOps_cons, params, astep, okDst, isWanted, aop, opnd, ofValue, putT, abin, headS, ofL, noPtr, acall, adopt_bool, adopt_int, adopt_str, adopt_agg, adopt_clip, upd_false, AV.cells, partOf, setCells, fillC, AV.isVal, List.range, List.range.loop, ofB, mayRead, dsts, planRo, capIds, viewed, scalarR, AV.scalar, bare_undef, bare_bool, bare_int, bare_str, bare_snil, bare_snone, bare_sclip, bare_srow, bare_ptr, bare_eptr, bare_pnil, bare_fn, bare_fnil, bare_agg, bare_tup, passed, setBoxes, killNames, addNames, freshAll, adopt, resParts, resBack, relabB, relabL, namesOf, cellsOfB, boxName, row_undef, row_bool, row_int, row_str, row_snil, row_snone, row_sclip, row_srow, row_ptr, row_eptr, row_pnil, row_fn, row_fnil, row_agg, row_tup, relab_undef, relab_bool, relab_int, relab_str, relab_snil, relab_snone, relab_sclip, relab_srow, relab_ptr, relab_eptr, relab_pnil, relab_fn, relab_fnil, relab_agg, relab_tup, relab_sgrow, finK, freezeT, avAll, resOf, outBoxes, relabB, relabL, noPtr, AV.untup, relab_undef, relab_bool, relab_int, relab_str, relab_snil, relab_snone, relab_sclip, relab_srow, relab_ptr, relab_eptr, relab_pnil, relab_fn, relab_fnil, relab_agg, relab_tup, relab_sgrow, lvPlaces, keepP13, keepP22, hne, strs, haW, hax, haxI, hend2, hbW, hq2, w2]
                    refine ih2 (u, v + 1) _ _ hstep ⟨hD.step (.inl hax) (by omega), ?_⟩
                    simp [-Int.natCast_add, clean, keepBoxes, relabB, relabL, cleanS, fixPtr, headS, ofL, ofB, cellsOfB, namesOf, upd_false, AV.cells, row_undef, row_bool, row_int, row_str, row_snil, row_snone, row_sclip, row_srow, row_ptr, row_eptr, row_pnil, row_fn, row_fnil, row_agg, row_tup, relab_undef, relab_bool, relab_int, relab_str, relab_snil, relab_snone, relab_sclip, relab_srow, relab_ptr, relab_eptr, relab_pnil, relab_fn, relab_fnil, relab_agg, relab_tup, relab_sgrow, passed, setBoxes, killNames, addNames, freshAll, adopt, resParts, resBack, relabB, relabL, namesOf, cellsOfB, boxName, row_undef, row_bool, row_int, row_str, row_snil, row_snone, row_sclip, row_srow, row_ptr, row_eptr, row_pnil, row_fn, row_fnil, row_agg, row_tup, relab_undef, relab_bool, relab_int, relab_str, relab_snil, relab_snone, relab_sclip, relab_srow, relab_ptr, relab_eptr, relab_pnil, relab_fn, relab_fnil, relab_agg, relab_tup, relab_sgrow, lvPlaces, keepP13, keepP22, growOf, strs, bare_fx ht, row_fx ht, relab_fx ht]
                  · have hae : u = a := by omega
                    have hby : v < y := by omega
                    have hbyI : (v : Int) < (y : Int) := by omega
                    have hae2 : ((u : Int) == (a : Int)) = true := by simp; omega
                    have haxI : ¬ (u : Int) < (a : Int) := by omega
                    simp [-Int.natCast_add, dFor_none, storeFine_none, dFor_no, storeFine_no, lessL, lkL, evCode_exit, evCode_seq, evCode_plain, evCode_draw, evCode_cond, evCode_ret, evCode_skip, evCode_block, evCode_loop, roundK_normal, roundK_exit, roundK_ret, seqK_normal, seqK_exit, seqK_ret, blockK_normal, blockK_exit, blockK_ret, regK_eq, evOps_nil, evOps_cons, params, astep, okDst, isWanted, aop, opnd, ofValue, putT, abin, headS, ofL, noPtr, acall, adopt_bool, adopt_int, adopt_str, adopt_agg, adopt_clip, upd_false, AV.cells, partOf, setCells, fillC, AV.isVal, List.range, List.range.loop, ofB, mayRead, dsts, planRo, capIds, viewed, scalarR, AV.scalar, bare_undef, bare_bool, bare_int, bare_str, bare_snil, bare_snone, bare_sclip, bare_srow, bare_ptr, bare_eptr, bare_pnil, bare_fn, bare_fnil, bare_agg, bare_tup, passed, setBoxes, killNames, addNames, freshAll, adopt, resParts, resBack, relabB, relabL, namesOf, cellsOfB, boxName, row_undef, row_bool, row_int, row_str, row_snil, row_snone, row_sclip, row_srow, row_ptr, row_eptr, row_pnil, row_fn, row_fnil, row_agg, row_tup, relab_undef, relab_bool, relab_int, relab_str, relab_snil, relab_snone, relab_sclip, relab_srow, relab_ptr, relab_eptr, relab_pnil, relab_fn, relab_fnil, relab_agg, relab_tup, relab_sgrow, finK, freezeT, avAll, resOf, outBoxes, relabB, relabL, noPtr, AV.untup, relab_undef, relab_bool, relab_int, relab_str, relab_snil, relab_snone, relab_sclip, relab_srow, relab_ptr, relab_eptr, relab_pnil, relab_fn, relab_fnil, relab_agg, relab_tup, relab_sgrow, lvPlaces, keepP13, keepP22, hne, strs, haW, ha, hax, haxI, hae2, hby, hbyI, hend2, hbW, hq2, w2]
                    refine ih2 (u, v + 1) _ _ hstep ⟨hD.step (.inr hby) (by omega), ?_⟩
                    simp [-Int.natCast_add, clean, keepBoxes, relabB, relabL, cleanS, fixPtr, headS, ofL, ofB, cellsOfB, namesOf, upd_false, AV.cells, row_undef, row_bool, row_int, row_str, row_snil, row_snone, row_sclip, row_srow, row_ptr, row_eptr, row_pnil, row_fn, row_fnil, row_agg, row_tup, relab_undef, relab_bool, relab_int, relab_str, relab_snil, relab_snone, relab_sclip, relab_srow, relab_ptr, relab_eptr, relab_pnil, relab_fn, relab_fnil, relab_agg, relab_tup, relab_sgrow, passed, setBoxes, killNames, addNames, freshAll, adopt, resParts, resBack, relabB, relabL, namesOf, cellsOfB, boxName, row_undef, row_bool, row_int, row_str, row_snil, row_snone, row_sclip, row_srow, row_ptr, row_eptr, row_pnil, row_fn, row_fnil, row_agg, row_tup, relab_undef, relab_bool, relab_int, relab_str, relab_snil, relab_snone, relab_sclip, relab_srow, relab_ptr, relab_eptr, relab_pnil, relab_fn, relab_fnil, relab_agg, relab_tup, relab_sgrow, lvPlaces, keepP13, keepP22, growOf, strs, bare_fx ht, row_fx ht, relab_fx ht]
              · have hae : u = a := by omega
                have hbe : v = y := by omega
                have hxl : a < l.length := hx0
                have hyx : y + tx.length ≤ 2 ^ 41 := by have := hlx a; rw [lineLen_eq l a hx0] at this; omega
                subst hae
                subst hbe
                have w4 : IntKind.i64.wrap ((v : Int) + tx.length) = ((v + tx.length : Nat) : Int) := wrap_i64 (by omega) (by omega)
                have s1 : ¬ l[u].length < v + tx.length := by omega
                have s2 : v ≤ v + tx.length := by omega
                have s3 : (l[u].take (v + tx.length)).drop v = tx := by rw [List.drop_take, Nat.add_sub_cancel_left]; exact hx2
                simp [-Int.natCast_add, dFor_none, storeFine_none, dFor_no, storeFine_no, lessL, lkL, evCode_exit, evCode_seq, evCode_plain, evCode_draw, evCode_cond, evCode_ret, evCode_skip, evCode_block, evCode_loop, roundK_normal, roundK_exit, roundK_ret, seqK_normal, seqK_exit, seqK_ret, blockK_normal, blockK_exit, blockK_ret, regK_eq, evOps_nil, evOps_cons, params, astep, okDst, isWanted, aop, opnd, ofValue, putT, abin, headS, ofL, noPtr, acall, adopt_bool, adopt_int, adopt_str, adopt_agg, adopt_clip, upd_false, AV.cells, partOf, setCells, fillC, AV.isVal, List.range, List.range.loop, ofB, mayRead, dsts, planRo, capIds, viewed, scalarR, AV.scalar, bare_undef, bare_bool, bare_int, bare_str, bare_snil, bare_snone, bare_sclip, bare_srow, bare_ptr, bare_eptr, bare_pnil, bare_fn, bare_fnil, bare_agg, bare_tup, passed, setBoxes, killNames, addNames, freshAll, adopt, resParts, resBack, relabB, relabL, namesOf, cellsOfB, boxName, row_undef, row_bool, row_int, row_str, row_snil, row_snone, row_sclip, row_srow, row_ptr, row_eptr, row_pnil, row_fn, row_fnil, row_agg, row_tup, relab_undef, relab_bool, relab_int, relab_str, relab_snil, relab_snone, relab_sclip, relab_srow, relab_ptr, relab_eptr, relab_pnil, relab_fn, relab_fnil, relab_agg, relab_tup, relab_sgrow, finK, freezeT, avAll, resOf, outBoxes, relabB, relabL, noPtr, AV.untup, relab_undef, relab_bool, relab_int, relab_str, relab_snil, relab_snone, relab_sclip, relab_srow, relab_ptr, relab_eptr, relab_pnil, relab_fn, relab_fnil, relab_agg, relab_tup, relab_sgrow, lvPlaces, keepP13, keepP22, hne, strs, hin, hq, tkC, hx0, w4, s1, s2, s3, aslice, abound, hx1, w3 (Nat.le_of_lt hin)]
                refine ih (i + 1, u, v + tx.length) _ _ (by simp only; omega) ⟨by simp only; omega, fun _ => .inr ⟨i, hin, rfl, by rw [hq], by rw [hq]; simp⟩, ?_⟩
                simp [-Int.natCast_add, clean, keepBoxes, relabB, relabL, cleanS, fixPtr, headS, ofL, ofB, cellsOfB, namesOf, upd_false, AV.cells, row_undef, row_bool, row_int, row_str, row_snil, row_snone, row_sclip, row_srow, row_ptr, row_eptr, row_pnil, row_fn, row_fnil, row_agg, row_tup, relab_undef, relab_bool, relab_int, relab_str, relab_snil, relab_snone, relab_sclip, relab_srow, relab_ptr, relab_eptr, relab_pnil, relab_fn, relab_fnil, relab_agg, relab_tup, relab_sgrow, passed, setBoxes, killNames, addNames, freshAll, adopt, resParts, resBack, relabB, relabL, namesOf, cellsOfB, boxName, row_undef, row_bool, row_int, row_str, row_snil, row_snone, row_sclip, row_srow, row_ptr, row_eptr, row_pnil, row_fn, row_fnil, row_agg, row_tup, relab_undef, relab_bool, relab_int, relab_str, relab_snil, relab_snone, relab_sclip, relab_srow, relab_ptr, relab_eptr, relab_pnil, relab_fn, relab_fnil, relab_agg, relab_tup, relab_sgrow, lvPlaces, keepP13, keepP22, growOf, strs, bare_fx ht, row_fx ht, relab_fx ht]
            · refine ⟨hC, ?_⟩
              simp [-Int.natCast_add, clean, keepBoxes, relabB, relabL, cleanS, fixPtr, headS, ofL, ofB, cellsOfB, namesOf, upd_false, AV.cells, row_undef, row_bool, row_int, row_str, row_snil, row_snone, row_sclip, row_srow, row_ptr, row_eptr, row_pnil, row_fn, row_fnil, row_agg, row_tup, relab_undef, relab_bool, relab_int, relab_str, relab_snil, relab_snone, relab_sclip, relab_srow, relab_ptr, relab_eptr, relab_pnil, relab_fn, relab_fnil, relab_agg, relab_tup, relab_sgrow, passed, setBoxes, killNames, addNames, freshAll, adopt, resParts, resBack, relabB, relabL, namesOf, cellsOfB, boxName, row_undef, row_bool, row_int, row_str, row_snil, row_snone, row_sclip, row_srow, row_ptr, row_eptr, row_pnil, row_fn, row_fnil, row_agg, row_tup, relab_undef, relab_bool, relab_int, relab_str, relab_snil, relab_snone, relab_sclip, relab_srow, relab_ptr, relab_eptr, relab_pnil, relab_fn, relab_fnil, relab_agg, relab_tup, relab_sgrow, lvPlaces, keepP13, keepP22, growOf, strs, bare_fx ht, row_fx ht, relab_fx ht]
        · by_cases hen : i = ts.length
          · skip
            subst hen
            have hB' := hB (Nat.le_refl _)
            have hC := hclear ts.length a b l.length 0 hB' (.inl ⟨rfl, rfl, rfl⟩)
            rcases hC.le with hlt | ⟨hae0, hby0⟩
            · have c1 : ¬ l.length < a := by omega
              have c3 : ¬ l.length = a := by omega
              have c4 : ((l.length : Int) == a) = false := by simp; omega
              simp [-Int.natCast_add, dFor_none, storeFine_none, dFor_no, storeFine_no, lessL, lkL, evCode_exit, evCode_seq, evCode_plain, evCode_draw, evCode_cond, evCode_ret, evCode_skip, evCode_block, evCode_loop, roundK_normal, roundK_exit, roundK_ret, seqK_normal, seqK_exit, seqK_ret, blockK_normal, blockK_exit, blockK_ret, regK_eq, evOps_nil, evOps_cons, params, astep, okDst, isWanted, aop, opnd, ofValue, putT, abin, headS, ofL, noPtr, acall, adopt_bool, adopt_int, adopt_str, adopt_agg, adopt_clip, upd_false, AV.cells, partOf, setCells, fillC, AV.isVal, List.range, List.range.loop, ofB, mayRead, dsts, planRo, capIds, viewed, scalarR, AV.scalar, bare_undef, bare_bool, bare_int, bare_str, bare_snil, bare_snone, bare_sclip, bare_srow, bare_ptr, bare_eptr, bare_pnil, bare_fn, bare_fnil, bare_agg, bare_tup, passed, setBoxes, killNames, addNames, freshAll, adopt, resParts, resBack, relabB, relabL, namesOf, cellsOfB, boxName, row_undef, row_bool, row_int, row_str, row_snil, row_snone, row_sclip, row_srow, row_ptr, row_eptr, row_pnil, row_fn, row_fnil, row_agg, row_tup, relab_undef, relab_bool, relab_int, relab_str, relab_snil, relab_snone, relab_sclip, relab_srow, relab_ptr, relab_eptr, relab_pnil, relab_fn, relab_fnil, relab_agg, relab_tup, relab_sgrow, finK, freezeT, avAll, resOf, outBoxes, relabB, relabL, noPtr, AV.untup, relab_undef, relab_bool, relab_int, relab_str, relab_snil, relab_snone, relab_sclip, relab_srow, relab_ptr, relab_eptr, relab_pnil, relab_fn, relab_fnil, relab_agg, relab_tup, relab_sgrow, lvPlaces, keepP13, keepP22, hne, strs, c1, c3, c4]
              refine loop_by (fun q : Nat × Nat => left l q.1 q.2) (fun (q : Nat × Nat) t m => Clear l W q.1 q.2 l.length 0 ∧ clean (lvPlaces 22) t m = headS [(0, .sl 1 (strs l) tk), (3, .sl 4 (ts.map tkC) .none), (6, .sl 1 (strs W) .none), (9, .int .i64 q.1), (10, .int .i64 q.2), (11, .int .i64 ts.length), (12, .ptr 500012 0)] [(500012, [.int .i64 l.length, .int .i64 0])]) ?_ (a, b) ?_
              · rintro ⟨u, v⟩ t m ⟨hD, hS⟩ ih2
                simp only at hD hS ih2
                refine round_of hS ?_
                have hle := hD.le
                have hx := hD.hx
                have hy := hD.hy
                have hb := hD.hb
                have hux := hlx u
                obtain ⟨_, hWs⟩ := hD.same
                have hov := lineLen_over l u
                by_cases hgo : u < l.length ∨ (u = l.length ∧ u < l.length ∧ v < 0)
                · have ha : u < l.length := by omega
                  have haW : u < W.length := by omega
                  have hlen : W[u].length = lineLen l u := by rw [← hWs u, lineLen_eq W u haW]
                  have w1 : IntKind.i64.wrap ((u : Int) + 1) = ((u + 1 : Nat) : Int) := wrap_i64 (by omega) (by omega)
                  by_cases hend : lineLen l u ≤ v
                  · have hax : u < l.length := by
                      rcases hgo with h5 | ⟨h5, _, h6⟩
                      · exact h5
                      · exfalso
                        rw [← h5] at hy
                        omega
                    have haxI : (u : Int) < (l.length : Int) := by omega
                    have hne2 : ((u : Int) == (l.length : Int)) = false := by simp; omega
                    have hne3 : ¬ u = l.length := by omega
                    have hend2 : W[u].length ≤ v := by omega
                    simp [-Int.natCast_add, dFor_none, storeFine_none, dFor_no, storeFine_no, lessL, lkL, evCode_exit, evCode_seq, evCode_plain, evCode_draw, evCode_cond, evCode_ret, evCode_skip, evCode_block, evCode_loop, roundK_normal, roundK_exit, roundK_ret, seqK_normal, seqK_exit, seqK_ret, blockK_normal, blockK_exit, blockK_ret, regK_eq, evOps_nil, evOps_cons, params, astep, okDst, isWanted, aop, opnd, ofValue, putT, abin, headS, ofL, noPtr, acall, adopt_bool, adopt_int, adopt_str, adopt_agg, adopt_clip, upd_false, AV.cells, partOf, setCells, fillC, AV.isVal, List.range, List.range.loop, ofB, mayRead, dsts, planRo, capIds, viewed, scalarR, AV.scalar, bare_undef, bare_bool, bare_int, bare_str, bare_snil, bare_snone, bare_sclip, bare_srow, bare_ptr, bare_eptr, bare_pnil, bare_fn, bare_fnil, bare_agg, bare_tup, passed, setBoxes, killNames, addNames, freshAll, adopt, resParts, resBack, relabB, relabL, namesOf, cellsOfB, boxName, row_undef, row_bool, row_int, row_str, row_snil, row_snone, row_sclip, row_srow, row_ptr, row_eptr, row_pnil, row_fn, row_fnil, row_agg, row_tup, relab_undef, relab_bool, relab_int, relab_str, relab_snil, relab_snone, relab_sclip, relab_srow, relab_ptr, relab_eptr, relab_pnil, relab_fn, relab_fnil, relab_agg, relab_tup, relab_sgrow, finK, freezeT, avAll, resOf, outBoxes, relabB, relabL, noPtr, AV.untup, relab_undef, relab_bool, relab_int, relab_str, relab_snil, relab_snone, relab_sclip, relab_srow, relab_ptr, relab_eptr, relab_pnil, relab_fn, relab_fnil, relab_agg, relab_tup, relab_sgrow, lvPlaces, keepP13, keepP22, hne, strs, haW, hax, haxI, hne2, hne3, hend2, w1]
                    refine ih2 (u + 1, 0) _ _ (left_turn l u v ha hb) ⟨hD.turn hax hend, ?_⟩
                    simp [-Int.natCast_add, clean, keepBoxes, relabB, relabL, cleanS, fixPtr, headS, ofL, ofB, cellsOfB, namesOf, upd_false, AV.cells, row_undef, row_bool, row_int, row_str, row_snil, row_snone, row_sclip, row_srow, row_ptr, row_eptr, row_pnil, row_fn, row_fnil, row_agg, row_tup, relab_undef, relab_bool, relab_int, relab_str, relab_snil, relab_snone, relab_sclip, relab_srow, relab_ptr, relab_eptr, relab_pnil, relab_fn, relab_fnil, relab_agg, relab_tup, relab_sgrow, passed, setBoxes, killNames, addNames, freshAll, adopt, resParts, resBack, relabB, relabL, namesOf, cellsOfB, boxName, row_undef, row_bool, row_int, row_str, row_snil, row_snone, row_sclip, row_srow, row_ptr, row_eptr, row_pnil, row_fn, row_fnil, row_agg, row_tup, relab_undef, relab_bool, relab_int, relab_str, relab_snil, relab_snone, relab_sclip, relab_srow, relab_ptr, relab_eptr, relab_pnil, relab_fn, relab_fnil, relab_agg, relab_tup, relab_sgrow, lvPlaces, keepP13, keepP22, growOf, strs, bare_fx ht, row_fx ht, relab_fx ht]
                  · have hbW : v < W[u].length := by omega
                    have w2 : IntKind.i64.wrap ((v : Int) + 1) = ((v + 1 : Nat) : Int) := wrap_i64 (by omega) (by omega)
                    have hend2 : ¬ W[u].length ≤ v := by omega
                    have hq0 := hD.blank u v ha (by omega) (by omega) (by omega)
                    have hq2 : W[u][v] = 32 := by
                      rw [line_is W u haW] at hq0
                      simpa [List.getD_eq_getElem?_getD, hbW] using hq0
                    have hstep : left l u (v + 1) < left l u v := by have := left_step l u v 1 ha (by omega); omega
                    by_cases hax : u < l.length
                    · have haxI : (u : Int) < (l.length : Int) := by omega
                      simp [-Int.natCast_add, dFor_none, storeFine_none, dFor_no, storeFine_no, lessL, lkL, evCode_exit, evCode_seq, evCode_plain, evCode_draw, evCode_cond, evCode_ret, evCode_skip, evCode_block, evCode_loop, roundK_normal, roundK_exit, roundK_ret, seqK_normal, seqK_exit, seqK_ret, blockK_normal, blockK_exit, blockK_ret, regK_eq, evOps_nil, evOps_cons, params, astep, okDst, isWanted, aop, opnd, ofValue, putT, abin, headS, ofL, noPtr, acall, adopt_bool, adopt_int, adopt_str, adopt_agg, adopt_clip, upd_false, AV.cells, partOf, setCells, fillC, AV.isVal, List.range, List.range.loop, ofB, mayRead, dsts, planRo, capIds, viewed, scalarR, AV.scalar, bare_undef, bare_bool, bare_int, bare_str, bare_snil, bare_snone, bare_sclip, bare_srow, bare_ptr, bare_eptr, bare_pnil, bare_fn, bare_fnil, bare_agg, bare_tup, passed, setBoxes, killNames, addNames, freshAll, adopt, resParts, resBack, relabB, relabL, namesOf, cellsOfB, boxName, row_undef, row_bool, row_int, row_str, row_snil, row_snone, row_sclip, row_srow, row_ptr, row_eptr, row_pnil, row_fn, row_fnil, row_agg, row_tup, relab_undef, relab_bool, relab_int, relab_str, relab_snil, relab_snone, relab_sclip, relab_srow, relab_ptr, relab_eptr, relab_pnil, relab_fn, relab_fnil, relab_agg, relab_tup, relab_sgrow, finK, freezeT, avAll, resOf, outBoxes, relabB, relabL, noPtr, AV.untup, relab_undef, relab_bool, relab_int, relab_str, relab_snil, relab_snone, relab_sclip, relab_srow, relab_ptr, relab_eptr, relab_pnil, relab_fn, relab_fnil, relab_agg, relab_tup, relab_sgrow, lvPlaces, keepP13, keepP22, hne, strs, haW, hax, haxI, hend2, hbW, hq2, w2]
                      refine ih2 (u, v + 1) _ _ hstep ⟨hD.step (.inl hax) (by omega), ?_⟩
                      simp [-Int.natCast_add, clean, keepBoxes, relabB, relabL, cleanS, fixPtr, headS, ofL, ofB, cellsOfB, namesOf, upd_false, AV.cells, row_undef, row_bool, row_int, row_str, row_snil, row_snone, row_sclip, row_srow, row_ptr, row_eptr, row_pnil, row_fn, row_fnil, row_agg, row_tup, relab_undef, relab_bool, relab_int, relab_str, relab_snil, relab_snone, relab_sclip, relab_srow, relab_ptr, relab_eptr, relab_pnil, relab_fn, relab_fnil, relab_agg, relab_tup, relab_sgrow, passed, setBoxes, killNames, addNames, freshAll, adopt, resParts, resBack, relabB, relabL, namesOf, cellsOfB, boxName, row_undef, row_bool, row_int, row_str, row_snil, row_snone, row_sclip, row_srow, row_ptr, row_eptr, row_pnil, row_fn, row_fnil, row_agg, row_tup, relab_undef, relab_bool, relab_int, relab_str, relab_snil, relab_snone, relab_sclip, relab_srow, relab_ptr, relab_eptr, relab_pnil, relab_fn, relab_fnil, relab_agg, relab_tup, relab_sgrow, lvPlaces, keepP13, keepP22, growOf, strs, bare_fx ht, row_fx ht, relab_fx ht]
                    · have hae : u = l.length := by omega
                      exact absurd hgo (by omega)
                · have hae : u = l.length := by omega
                  subst hae
                  simp [-Int.natCast_add, dFor_none, storeFine_none, dFor_no, storeFine_no, lessL, lkL, evCode_exit, evCode_seq, evCode_plain, evCode_draw, evCode_cond, evCode_ret, evCode_skip, evCode_block, evCode_loop, roundK_normal, roundK_exit, roundK_ret, seqK_normal, seqK_exit, seqK_ret, blockK_normal, blockK_exit, blockK_ret, regK_eq, evOps_nil, evOps_cons, params, astep, okDst, isWanted, aop, opnd, ofValue, putT, abin, headS, ofL, noPtr, acall, adopt_bool, adopt_int, adopt_str, adopt_agg, adopt_clip, upd_false, AV.cells, partOf, setCells, fillC, AV.isVal, List.range, List.range.loop, ofB, mayRead, dsts, planRo, capIds, viewed, scalarR, AV.scalar, bare_undef, bare_bool, bare_int, bare_str, bare_snil, bare_snone, bare_sclip, bare_srow, bare_ptr, bare_eptr, bare_pnil, bare_fn, bare_fnil, bare_agg, bare_tup, passed, setBoxes, killNames, addNames, freshAll, adopt, resParts, resBack, relabB, relabL, namesOf, cellsOfB, boxName, row_undef, row_bool, row_int, row_str, row_snil, row_snone, row_sclip, row_srow, row_ptr, row_eptr, row_pnil, row_fn, row_fnil, row_agg, row_tup, relab_undef, relab_bool, relab_int, relab_str, relab_snil, relab_snone, relab_sclip, relab_srow, relab_ptr, relab_eptr, relab_pnil, relab_fn, relab_fnil, relab_agg, relab_tup, relab_sgrow, finK, freezeT, avAll, resOf, outBoxes, relabB, relabL, noPtr, AV.untup, relab_undef, relab_bool, relab_int, relab_str, relab_snil, relab_snone, relab_sclip, relab_srow, relab_ptr, relab_eptr, relab_pnil, relab_fn, relab_fnil, relab_agg, relab_tup, relab_sgrow, lvPlaces, keepP13, keepP22, hne, strs, w3 (Nat.le_refl _)]
                  refine ih (ts.length + 1, l.length, v) _ _ (by simp only; omega) ⟨Nat.le_refl _, fun h => absurd h (by simp only; omega), ?_⟩
                  simp [-Int.natCast_add, clean, keepBoxes, relabB, relabL, cleanS, fixPtr, headS, ofL, ofB, cellsOfB, namesOf, upd_false, AV.cells, row_undef, row_bool, row_int, row_str, row_snil, row_snone, row_sclip, row_srow, row_ptr, row_eptr, row_pnil, row_fn, row_fnil, row_agg, row_tup, relab_undef, relab_bool, relab_int, relab_str, relab_snil, relab_snone, relab_sclip, relab_srow, relab_ptr, relab_eptr, relab_pnil, relab_fn, relab_fnil, relab_agg, relab_tup, relab_sgrow, passed, setBoxes, killNames, addNames, freshAll, adopt, resParts, resBack, relabB, relabL, namesOf, cellsOfB, boxName, row_undef, row_bool, row_int, row_str, row_snil, row_snone, row_sclip, row_srow, row_ptr, row_eptr, row_pnil, row_fn, row_fnil, row_agg, row_tup, relab_undef, relab_bool, relab_int, relab_str, relab_snil, relab_snone, relab_sclip, relab_srow, relab_ptr, relab_eptr, relab_pnil, relab_fn, relab_fnil, relab_agg, relab_tup, relab_sgrow, lvPlaces, keepP13, keepP22, growOf, strs, bare_fx ht, row_fx ht, relab_fx ht]
                  try rfl
              · refine ⟨hC, ?_⟩
                simp [-Int.natCast_add, clean, keepBoxes, relabB, relabL, cleanS, fixPtr, headS, ofL, ofB, cellsOfB, namesOf, upd_false, AV.cells, row_undef, row_bool, row_int, row_str, row_snil, row_snone, row_sclip, row_srow, row_ptr, row_eptr, row_pnil, row_fn, row_fnil, row_agg, row_tup, relab_undef, relab_bool, relab_int, relab_str, relab_snil, relab_snone, relab_sclip, relab_srow, relab_ptr, relab_eptr, relab_pnil, relab_fn, relab_fnil, relab_agg, relab_tup, relab_sgrow, passed, setBoxes, killNames, addNames, freshAll, adopt, resParts, resBack, relabB, relabL, namesOf, cellsOfB, boxName, row_undef, row_bool, row_int, row_str, row_snil, row_snone, row_sclip, row_srow, row_ptr, row_eptr, row_pnil, row_fn, row_fnil, row_agg, row_tup, relab_undef, relab_bool, relab_int, relab_str, relab_snil, relab_snone, relab_sclip, relab_srow, relab_ptr, relab_eptr, relab_pnil, relab_fn, relab_fnil, relab_agg, relab_tup, relab_sgrow, lvPlaces, keepP13, keepP22, growOf, strs, bare_fx ht, row_fx ht, relab_fx ht]
            · have hb0 : b = 0 := by omega
              subst hae0
              subst hb0
              simp [-Int.natCast_add, dFor_none, storeFine_none, dFor_no, storeFine_no, lessL, lkL, evCode_exit, evCode_seq, evCode_plain, evCode_draw, evCode_cond, evCode_ret, evCode_skip, evCode_block, evCode_loop, roundK_normal, roundK_exit, roundK_ret, seqK_normal, seqK_exit, seqK_ret, blockK_normal, blockK_exit, blockK_ret, regK_eq, evOps_nil, evOps_cons, params, astep, okDst, isWanted, aop, opnd, ofValue, putT, abin, headS, ofL, noPtr, acall, adopt_bool, adopt_int, adopt_str, adopt_agg, adopt_clip, upd_false, AV.cells, partOf, setCells, fillC, AV.isVal, List.range, List.range.loop, ofB, mayRead, dsts, planRo, capIds, viewed, scalarR, AV.scalar, bare_undef, bare_bool, bare_int, bare_str, bare_snil, bare_snone, bare_sclip, bare_srow, bare_ptr, bare_eptr, bare_pnil, bare_fn, bare_fnil, bare_agg, bare_tup, passed, setBoxes, killNames, addNames, freshAll, adopt, resParts, resBack, relabB, relabL, namesOf, cellsOfB, boxName, row_undef, row_bool, row_int, row_str, row_snil, row_snone, row_sclip, row_srow, row_ptr, row_eptr, row_pnil, row_fn, row_fnil, row_agg, row_tup, relab_undef, relab_bool, relab_int, relab_str, relab_snil, relab_snone, relab_sclip, relab_srow, relab_ptr, relab_eptr, relab_pnil, relab_fn, relab_fnil, relab_agg, relab_tup, relab_sgrow, finK, freezeT, avAll, resOf, outBoxes, relabB, relabL, noPtr, AV.untup, relab_undef, relab_bool, relab_int, relab_str, relab_snil, relab_snone, relab_sclip, relab_srow, relab_ptr, relab_eptr, relab_pnil, relab_fn, relab_fnil, relab_agg, relab_tup, relab_sgrow, lvPlaces, keepP13, keepP22, hne, strs]
              refine loop_by (fun q : Nat × Nat => left l q.1 q.2) (fun (q : Nat × Nat) t m => Clear l W q.1 q.2 l.length 0 ∧ clean (lvPlaces 22) t m = headS [(0, .sl 1 (strs l) tk), (3, .sl 4 (ts.map tkC) .none), (6, .sl 1 (strs W) .none), (9, .int .i64 q.1), (10, .int .i64 q.2), (11, .int .i64 ts.length), (12, .ptr 500012 0)] [(500012, [.int .i64 l.length, .int .i64 0])]) ?_ (l.length, 0) ?_
              · rintro ⟨u, v⟩ t m ⟨hD, hS⟩ ih2
                simp only at hD hS ih2
                refine round_of hS ?_
                have hle := hD.le
                have hx := hD.hx
                have hy := hD.hy
                have hb := hD.hb
                have hux := hlx u
                obtain ⟨_, hWs⟩ := hD.same
                have hov := lineLen_over l u
                by_cases hgo : u < l.length ∨ (u = l.length ∧ u < l.length ∧ v < 0)
                · have ha : u < l.length := by omega
                  have haW : u < W.length := by omega
                  have hlen : W[u].length = lineLen l u := by rw [← hWs u, lineLen_eq W u haW]
                  have w1 : IntKind.i64.wrap ((u : Int) + 1) = ((u + 1 : Nat) : Int) := wrap_i64 (by omega) (by omega)
                  by_cases hend : lineLen l u ≤ v
                  · have hax : u < l.length := by
                      rcases hgo with h5 | ⟨h5, _, h6⟩
                      · exact h5
                      · exfalso
                        rw [← h5] at hy
                        omega
                    have haxI : (u : Int) < (l.length : Int) := by omega
                    have hne2 : ((u : Int) == (l.length : Int)) = false := by simp; omega
                    have hne3 : ¬ u = l.length := by omega
                    have hend2 : W[u].length ≤ v := by omega
                    simp [-Int.natCast_add, dFor_none, storeFine_none, dFor_no, storeFine_no, lessL, lkL, evCode_exit, evCode_seq, evCode_plain, evCode_draw, evCode_cond, evCode_ret, evCode_skip, evCode_block, evCode_loop, roundK_normal, roundK_exit, roundK_ret, seqK_normal, seqK_exit, seqK_ret, blockK_normal, blockK_exit, blockK_ret, regK_eq, evOps_nil, evOps_cons, params, astep, okDst, isWanted, aop, opnd, ofValue, putT, abin, headS, ofL, noPtr, acall, adopt_bool, adopt_int, adopt_str, adopt_agg, adopt_clip, upd_false, AV.cells, partOf, setCells, fillC, AV.isVal, List.range, List.range.loop, ofB, mayRead, dsts, planRo, capIds, viewed, scalarR, AV.scalar, bare_undef, bare_bool, bare_int, bare_str, bare_snil, bare_snone, bare_sclip, bare_srow, bare_ptr, bare_eptr, bare_pnil, bare_fn, bare_fnil, bare_agg, bare_tup, passed, setBoxes, killNames, addNames, freshAll, adopt, resParts, resBack, relabB, relabL, namesOf, cellsOfB, boxName, row_undef, row_bool, row_int, row_str, row_snil, row_snone, row_sclip, row_srow, row_ptr, row_eptr, row_pnil, row_fn, row_fnil, row_agg, row_tup, relab_undef, relab_bool, relab_int, relab_str, relab_snil, relab_snone, relab_sclip, relab_srow, relab_ptr, relab_eptr, relab_pnil, relab_fn, relab_fnil, relab_agg, relab_tup, relab_sgrow, finK, freezeT, avAll, resOf, outBoxes, relabB, relabL, noPtr, AV.untup, relab_undef, relab_bool, relab_int, relab_str, relab_snil, relab_snone, relab_sclip, relab_srow, relab_ptr, relab_eptr, relab_pnil, relab_fn, relab_fnil, relab_agg, relab_tup, relab_sgrow, lvPlaces, keepP13, keepP22, hne, strs, haW, hax, haxI, hne2, hne3, hend2, w1]
                    refine ih2 (u + 1, 0) _ _ (left_turn l u v ha hb) ⟨hD.turn hax hend, ?_⟩
                    simp [-Int.natCast_add, clean, keepBoxes, relabB, relabL, cleanS, fixPtr, headS, ofL, ofB, cellsOfB, namesOf, upd_false, AV.cells, row_undef, row_bool, row_int, row_str, row_snil, row_snone, row_sclip, row_srow, row_ptr, row_eptr, row_pnil, row_fn, row_fnil, row_agg, row_tup, relab_undef, relab_bool, relab_int, relab_str, relab_snil, relab_snone, relab_sclip, relab_srow, relab_ptr, relab_eptr, relab_pnil, relab_fn, relab_fnil, relab_agg, relab_tup, relab_sgrow, passed, setBoxes, killNames, addNames, freshAll, adopt, resParts, resBack, relabB, relabL, namesOf, cellsOfB, boxName, row_undef, row_bool, row_int, row_str, row_snil, row_snone, row_sclip, row_srow, row_ptr, row_eptr, row_pnil, row_fn, row_fnil, row_agg, row_tup, relab_undef, relab_bool, relab_int, relab_str, relab_snil, relab_snone, relab_sclip, relab_srow, relab_ptr, relab_eptr, relab_pnil, relab_fn, relab_fnil, relab_agg, relab_tup, relab_sgrow, lvPlaces, keepP13, keepP22, growOf, strs, bare_fx ht, row_fx ht, relab_fx ht]
                  · have hbW : v < W[u].length := by omega
                    have w2 : IntKind.i64.wrap ((v : Int) + 1) = ((v + 1 : Nat) : Int) := wrap_i64 (by omega) (by omega)
                    have hend2 : ¬ W[u].length ≤ v := by omega
                    have hq0 := hD.blank u v ha (by omega) (by omega) (by omega)
                    have hq2 : W[u][v] = 32 := by
                      rw [line_is W u haW] at hq0
                      simpa [List.getD_eq_getElem?_getD, hbW] using hq0
                    have hstep : left l u (v + 1) < left l u v := by have := left_step l u v 1 ha (by omega); omega
                    by_cases hax : u < l.length
                    · have haxI : (u : Int) < (l.length : Int) := by omega
                      simp [-Int.natCast_add, dFor_none, storeFine_none, dFor_no, storeFine_no, lessL, lkL, evCode_exit, evCode_seq, evCode_plain, evCode_draw, evCode_cond, evCode_ret, evCode_skip, evCode_block, evCode_loop, roundK_normal, roundK_exit, roundK_ret, seqK_normal, seqK_exit, seqK_ret, blockK_normal, blockK_exit, blockK_ret, regK_eq, evOps_nil, evOps_cons, params, astep, okDst, isWanted, aop, opnd, ofValue, putT, abin, headS, ofL, noPtr, acall, adopt_bool, adopt_int, adopt_str, adopt_agg, adopt_clip, upd_false, AV.cells, partOf, setCells, fillC, AV.isVal, List.range, List.range.loop, ofB, mayRead, dsts, planRo, capIds, viewed, scalarR, AV.scalar, bare_undef, bare_bool, bare_int, bare_str, bare_snil, bare_snone, bare_sclip, bare_srow, bare_ptr, bare_eptr, bare_pnil, bare_fn, bare_fnil, bare_agg, bare_tup, passed, setBoxes, killNames, addNames, freshAll, adopt, resParts, resBack, relabB, relabL, namesOf, cellsOfB, boxName, row_undef, row_bool, row_int, row_str, row_snil, row_snone, row_sclip, row_srow, row_ptr, row_eptr, row_pnil, row_fn, row_fnil, row_agg, row_tup, relab_undef, relab_bool, relab_int, relab_str, relab_snil, relab_snone, relab_sclip, relab_srow, relab_ptr, relab_eptr, relab_pnil, relab_fn, relab_fnil, relab_agg, relab_tup, relab_sgrow, finK, freezeT, avAll, resOf, outBoxes, relabB, relabL, noPtr, AV.untup, relab_undef, relab_bool, relab_int, relab_str, relab_snil, relab_snone, relab_sclip, relab_srow, relab_ptr, relab_eptr, relab_pnil, relab_fn, relab_fnil, relab_agg, relab_tup, relab_sgrow, lvPlaces, keepP13, keepP22, hne, strs, haW, hax, haxI, hend2, hbW, hq2, w2]
                      refine ih2 (u, v + 1) _ _ hstep ⟨hD.step (.inl hax) (by omega), ?_⟩
                      simp [-Int.natCast_add, clean, keepBoxes, relabB, relabL, cleanS, fixPtr, headS, ofL, ofB, cellsOfB, namesOf, upd_false, AV.cells, row_undef, row_bool, row_int, row_str, row_snil, row_snone, row_sclip, row_srow, row_ptr, row_eptr, row_pnil, row_fn, row_fnil, row_agg, row_tup, relab_undef, relab_bool, relab_int, relab_str, relab_snil, relab_snone, relab_sclip, relab_srow, relab_ptr, relab_eptr, relab_pnil, relab_fn, relab_fnil, relab_agg, relab_tup, relab_sgrow, passed, setBoxes, killNames, addNames, freshAll, adopt, resParts, resBack, relabB, relabL, namesOf, cellsOfB, boxName, row_undef, row_bool, row_int, row_str, row_snil, row_snone, row_sclip, row_srow, row_ptr, row_eptr, row_pnil, row_fn, row_fnil, row_agg, row_tup, relab_undef, relab_bool, relab_int, relab_str, relab_snil, relab_snone, relab_sclip, relab_srow, relab_ptr, relab_eptr, relab_pnil, relab_fn, relab_fnil, relab_agg, relab_tup, relab_sgrow, lvPlaces, keepP13, keepP22, growOf, strs, bare_fx ht, row_fx ht, relab_fx ht]
                    · have hae : u = l.length := by omega
                      exact absurd hgo (by omega)
                · have hae : u = l.length := by omega
                  subst hae
                  simp [-Int.natCast_add, dFor_none, storeFine_none, dFor_no, storeFine_no, lessL, lkL, evCode_exit, evCode_seq, evCode_plain, evCode_draw, evCode_cond, evCode_ret, evCode_skip, evCode_block, evCode_loop, roundK_normal, roundK_exit, roundK_ret, seqK_normal, seqK_exit, seqK_ret, blockK_normal, blockK_exit, blockK_ret, regK_eq, evOps_nil, evOps_cons, params, astep, okDst, isWanted, aop, opnd, ofValue, putT, abin, headS, ofL, noPtr, acall, adopt_bool, adopt_int, adopt_str, adopt_agg, adopt_clip, upd_false, AV.cells, partOf, setCells, fillC, AV.isVal, List.range, List.range.loop, ofB, mayRead, dsts, planRo, capIds, viewed, scalarR, AV.scalar, bare_undef, bare_bool, bare_int, bare_str, bare_snil, bare_snone, bare_sclip, bare_srow, bare_ptr, bare_eptr, bare_pnil, bare_fn, bare_fnil, bare_agg, bare_tup, passed, setBoxes, killNames, addNames, freshAll, adopt, resParts, resBack, relabB, relabL, namesOf, cellsOfB, boxName, row_undef, row_bool, row_int, row_str, row_snil, row_snone, row_sclip, row_srow, row_ptr, row_eptr, row_pnil, row_fn, row_fnil, row_agg, row_tup, relab_undef, relab_bool, relab_int, relab_str, relab_snil, relab_snone, relab_sclip, relab_srow, relab_ptr, relab_eptr, relab_pnil, relab_fn, relab_fnil, relab_agg, relab_tup, relab_sgrow, finK, freezeT, avAll, resOf, outBoxes, relabB, relabL, noPtr, AV.untup, relab_undef, relab_bool, relab_int, relab_str, relab_snil, relab_snone, relab_sclip, relab_srow, relab_ptr, relab_eptr, relab_pnil, relab_fn, relab_fnil, relab_agg, relab_tup, relab_sgrow, lvPlaces, keepP13, keepP22, hne, strs, w3 (Nat.le_refl _)]
                  refine ih (ts.length + 1, l.length, v) _ _ (by simp only; omega) ⟨Nat.le_refl _, fun h => absurd h (by simp only; omega), ?_⟩
                  simp [-Int.natCast_add, clean, keepBoxes, relabB, relabL, cleanS, fixPtr, headS, ofL, ofB, cellsOfB, namesOf, upd_false, AV.cells, row_undef, row_bool, row_int, row_str, row_snil, row_snone, row_sclip, row_srow, row_ptr, row_eptr, row_pnil, row_fn, row_fnil, row_agg, row_tup, relab_undef, relab_bool, relab_int, relab_str, relab_snil, relab_snone, relab_sclip, relab_srow, relab_ptr, relab_eptr, relab_pnil, relab_fn, relab_fnil, relab_agg, relab_tup, relab_sgrow, passed, setBoxes, killNames, addNames, freshAll, adopt, resParts, resBack, relabB, relabL, namesOf, cellsOfB, boxName, row_undef, row_bool, row_int, row_str, row_snil, row_snone, row_sclip, row_srow, row_ptr, row_eptr, row_pnil, row_fn, row_fnil, row_agg, row_tup, relab_undef, relab_bool, relab_int, relab_str, relab_snil, relab_snone, relab_sclip, relab_srow, relab_ptr, relab_eptr, relab_pnil, relab_fn, relab_fnil, relab_agg, relab_tup, relab_sgrow, lvPlaces, keepP13, keepP22, growOf, strs, bare_fx ht, row_fx ht, relab_fx ht]
                  try rfl
              · refine ⟨hC, ?_⟩
                simp [-Int.natCast_add, clean, keepBoxes, relabB, relabL, cleanS, fixPtr, headS, ofL, ofB, cellsOfB, namesOf, upd_false, AV.cells, row_undef, row_bool, row_int, row_str, row_snil, row_snone, row_sclip, row_srow, row_ptr, row_eptr, row_pnil, row_fn, row_fnil, row_agg, row_tup, relab_undef, relab_bool, relab_int, relab_str, relab_snil, relab_snone, relab_sclip, relab_srow, relab_ptr, relab_eptr, relab_pnil, relab_fn, relab_fnil, relab_agg, relab_tup, relab_sgrow, passed, setBoxes, killNames, addNames, freshAll, adopt, resParts, resBack, relabB, relabL, namesOf, cellsOfB, boxName, row_undef, row_bool, row_int, row_str, row_snil, row_snone, row_sclip, row_srow, row_ptr, row_eptr, row_pnil, row_fn, row_fnil, row_agg, row_tup, relab_undef, relab_bool, relab_int, relab_str, relab_snil, relab_snone, relab_sclip, relab_srow, relab_ptr, relab_eptr, relab_pnil, relab_fn, relab_fnil, relab_agg, relab_tup, relab_sgrow, lvPlaces, keepP13, keepP22, growOf, strs, bare_fx ht, row_fx ht, relab_fx ht]
          · have hi' : i = ts.length + 1 := by omega
            subst hi'
            have hno : ¬ ((ts.length + 1 : Nat) : Int) ≤ ts.length := by omega
            simp [-Int.natCast_add, dFor_none, storeFine_none, dFor_no, storeFine_no, lessL, lkL, evCode_exit, evCode_seq, evCode_plain, evCode_draw, evCode_cond, evCode_ret, evCode_skip, evCode_block, evCode_loop, roundK_normal, roundK_exit, roundK_ret, seqK_normal, seqK_exit, seqK_ret, blockK_normal, blockK_exit, blockK_ret, regK_eq, evOps_nil, evOps_cons, params, astep, okDst, isWanted, aop, opnd, ofValue, putT, abin, headS, ofL, noPtr, acall, adopt_bool, adopt_int, adopt_str, adopt_agg, adopt_clip, upd_false, AV.cells, partOf, setCells, fillC, AV.isVal, List.range, List.range.loop, ofB, mayRead, dsts, planRo, capIds, viewed, scalarR, AV.scalar, bare_undef, bare_bool, bare_int, bare_str, bare_snil, bare_snone, bare_sclip, bare_srow, bare_ptr, bare_eptr, bare_pnil, bare_fn, bare_fnil, bare_agg, bare_tup, passed, setBoxes, killNames, addNames, freshAll, adopt, resParts, resBack, relabB, relabL, namesOf, cellsOfB, boxName, row_undef, row_bool, row_int, row_str, row_snil, row_snone, row_sclip, row_srow, row_ptr, row_eptr, row_pnil, row_fn, row_fnil, row_agg, row_tup, relab_undef, relab_bool, relab_int, relab_str, relab_snil, relab_snone, relab_sclip, relab_srow, relab_ptr, relab_eptr, relab_pnil, relab_fn, relab_fnil, relab_agg, relab_tup, relab_sgrow, finK, freezeT, avAll, resOf, outBoxes, relabB, relabL, noPtr, AV.untup, relab_undef, relab_bool, relab_int, relab_str, relab_snil, relab_snone, relab_sclip, relab_srow, relab_ptr, relab_eptr, relab_pnil, relab_fn, relab_fnil, relab_agg, relab_tup, relab_sgrow, lvPlaces, keepP13, hne, hno]
      · refine ⟨by simp, fun _ => .inl ⟨rfl, rfl, rfl⟩, ?_⟩
        simp [clean, keepBoxes, relabB, relabL, cleanS, fixPtr, headS, ofL, ofB, cellsOfB, namesOf, upd_false, AV.cells, row_undef, row_bool, row_int, row_str, row_snil, row_snone, row_sclip, row_srow, row_ptr, row_eptr, row_pnil, row_fn, row_fnil, row_agg, row_tup, relab_undef, relab_bool, relab_int, relab_str, relab_snil, relab_snone, relab_sclip, relab_srow, relab_ptr, relab_eptr, relab_pnil, relab_fn, relab_fnil, relab_agg, relab_tup, relab_sgrow, passed, setBoxes, killNames, addNames, freshAll, adopt, resParts, resBack, relabB, relabL, namesOf, cellsOfB, boxName, row_undef, row_bool, row_int, row_str, row_snil, row_snone, row_sclip, row_srow, row_ptr, row_eptr, row_pnil, row_fn, row_fnil, row_agg, row_tup, relab_undef, relab_bool, relab_int, relab_str, relab_snil, relab_snone, relab_sclip, relab_srow, relab_ptr, relab_eptr, relab_pnil, relab_fn, relab_fnil, relab_agg, relab_tup, relab_sgrow, lvPlaces, keepP13, growOf, strs, bare_fx ht, row_fx ht, relab_fx ht]
theorem places_sim (l : List Str) (hl : l.length < 2 ^ 62) : SimCall Tryd.prog 4 [.sl 1 (strs l) .none] [] (.bool true) [] := by
  have hS : Sound Tryd.prog (oracleP l) := by
    unfold oracleP
    split
    · rename_i h
      obtain ⟨h1, h2⟩ := few_small h
      exact overO_sound (evc_sound plan_ok) (without_sim l .none fx_none (by omega) h2)
    · exact evc_sound plan_ok
  obtain ⟨c, hc⟩ : ∃ c, Tryd.f4.body = some c := ⟨_, rfl⟩
  have hok := places_ok
  rw [hc] at hok
  exact fn_sound (drawSound planFollows) planFollows (E := ⟨oracleP l, planRo, lvPlaces, 179⟩) hS Tryd.func4 hc (Nat.le_refl _) hok Tryd.call4 (by simp) (places_ev l .none fx_none hl)
end Go.Proofs.YtlmmgblghgmgeaaDoor
