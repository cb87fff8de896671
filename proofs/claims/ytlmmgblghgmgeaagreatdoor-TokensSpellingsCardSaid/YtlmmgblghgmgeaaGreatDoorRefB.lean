/- The reference's words, numbers and strings, evaluated. -/
import Derived.Test.YtlmmgblghgmgeaaGreatDoorRefA
namespace Go.Proofs.YtlmmgblghgmgeaaGreatDoor
open Go Ev
set_option maxRecDepth 100000
set_option linter.unusedSimpArgs false

/-- The number of digits. -/
def valOf (s : Str) : Int := s.foldl (fun n b => 10 * n + (b.toNat - 48)) 0
theorem valOf_take (s : Str) (i : Nat) (h : i < s.length) : valOf (s.take (i + 1)) = 10 * valOf (s.take i) + (s[i].toNat - 48) := by
  unfold valOf
  rw [List.take_succ_eq_append_getElem h, List.foldl_append]
  rfl
theorem digit_range {b : UInt8} (h : digitB b.toNat = true) : 48 ≤ b.toNat ∧ b.toNat ≤ 57 := by
  simp only [digitB, spansB, Bool.and_eq_true, decide_eq_true_eq] at h; omega
theorem valOf_range (s : Str) (hd : ∀ b ∈ s, digitB b.toNat = true) : ∀ i, i ≤ s.length → 0 ≤ valOf (s.take i) ∧ valOf (s.take i) < 10 ^ i
  | 0, _ => by simp [valOf]
  | i + 1, h => by
    have h1 := valOf_range s hd i (by omega)
    have h2 := digit_range (hd s[i] (List.getElem_mem (by omega)))
    rw [valOf_take s i (by omega), Int.pow_succ]
    omega
def bReadP (s : Str) : Int × Bool := if !spansB s.length 1 9 || (decide ((1 : Int) < s.length) && ((s.getD 0 0).toNat : Int) == 48) then (0, false) else (valOf s, true)
theorem bread_ev (s : Str) (hd : ∀ b ∈ s, digitB b.toNat = true) (hl : s.length < 2 ^ 62) : evc plan 132 [.str s] [] = some (.tup [.int .i64 (bReadP s).1, .bool (bReadP s).2], []) := by
  refine evc_start plan (P := Tryz.prog) (ro := planRo) rfl rfl rfl rfl rfl rfl (by simp) rfl ?_
  have hb := between_ev s.length 1 9
  unfold bReadP
  cases h1 : spansB s.length 1 9
  · simp [dFor_none, storeFine_none, dFor_no, storeFine_no, lessL, lkL, evCode_exit, evCode_seq, evCode_plain, evCode_draw, evCode_cond, evCode_ret, evCode_skip, evCode_block, evCode_loop, roundK_normal, roundK_exit, roundK_ret, seqK_normal, seqK_exit, seqK_ret, blockK_normal, blockK_exit, blockK_ret, regK_eq, evOps_nil, evOps_cons, params, astep, okDst, isWanted, aop, opnd, ofValue, putT, abin, headS, ofL, noPtr, acall, adopt_bool, adopt_int, adopt_str, adopt_agg, adopt_clip, upd_false, AV.cells, partOf, setCells, fillC, AV.isVal, List.range, List.range.loop, ofB, mayRead, dsts, planRo, capIds, viewed, scalarR, AV.scalar, bare_undef, bare_bool, bare_int, bare_str, bare_snil, bare_snone, bare_sclip, bare_srow, bare_ptr, bare_eptr, bare_pnil, bare_fn, bare_fnil, bare_agg, bare_tup, finK, freezeT, avAll, resOf, outBoxes, relabB, relabL, noPtr, AV.untup, relab_undef, relab_bool, relab_int, relab_str, relab_snil, relab_snone, relab_sclip, relab_srow, relab_ptr, relab_eptr, relab_pnil, relab_fn, relab_fnil, relab_agg, relab_tup, relab_sgrow, hb, h1]
  · have h2 : 1 ≤ s.length ∧ s.length ≤ 9 := by
      simp only [spansB, Bool.and_eq_true, decide_eq_true_eq] at h1; omega
    have h0 : 0 < s.length := by omega
    have hg : s.getD 0 0 = s[0] := by simp [List.getD_eq_getElem?_getD, h0]
    rw [hg]
    have key : ∀ (V : AV), V = .tup [.int .i64 (valOf s), .bool true] → ∀ (t : Tmps) (m : Mem), clean (lvBRead 5) t m = headS [(0, .str s), (4, .int .i64 0), (5, .int .i64 0)] [] → True := fun _ _ _ _ _ => trivial
    by_cases h3 : (1 : Int) < s.length
    · cases h4 : ((s[0].toNat : Int) == 48)
      · have h3' : 1 < s.length := by omega
        simp [dFor_none, storeFine_none, dFor_no, storeFine_no, lessL, lkL, evCode_exit, evCode_seq, evCode_plain, evCode_draw, evCode_cond, evCode_ret, evCode_skip, evCode_block, evCode_loop, roundK_normal, roundK_exit, roundK_ret, seqK_normal, seqK_exit, seqK_ret, blockK_normal, blockK_exit, blockK_ret, regK_eq, evOps_nil, evOps_cons, params, astep, okDst, isWanted, aop, opnd, ofValue, putT, abin, headS, ofL, noPtr, acall, adopt_bool, adopt_int, adopt_str, adopt_agg, adopt_clip, upd_false, AV.cells, partOf, setCells, fillC, AV.isVal, List.range, List.range.loop, ofB, mayRead, dsts, planRo, capIds, viewed, scalarR, AV.scalar, bare_undef, bare_bool, bare_int, bare_str, bare_snil, bare_snone, bare_sclip, bare_srow, bare_ptr, bare_eptr, bare_pnil, bare_fn, bare_fnil, bare_agg, bare_tup, hb, h1, h3, h3', h0, h4]
        refine loop_by (fun i => s.length - i) (fun (i : Nat) t m => i ≤ s.length ∧ clean (lvBRead 5) t m = headS [(0, .str s), (4, .int .i64 (valOf (s.take i))), (5, .int .i64 i)] []) ?_ 0 ?_
        · intro i t m ⟨hi, hS⟩ ih
          refine round_of hS ?_
          by_cases h5 : i < s.length
          · have hv := valOf_range s hd i hi
            have hp : (10 : Int) ^ i ≤ 10 ^ 9 := by
              have := Nat.pow_le_pow_right (n := 10) (by omega) (show i ≤ 9 by omega)
              exact_mod_cast this
            have hr := digit_range (hd s[i] (List.getElem_mem h5))
            have h6 := hd s[i] (List.getElem_mem h5)
            have w1 : IntKind.i64.wrap ((i : Int) + 1) = i + 1 := wrap_i64 (by omega) (by omega)
            have w2 : IntKind.u8.wrap ((s[i].toNat : Int) - 48) = s[i].toNat - 48 := wrap_u8 (by omega) (by omega)
            have w3 : IntKind.i64.wrap ((s[i].toNat : Int) - 48) = s[i].toNat - 48 := wrap_i64 (by omega) (by omega)
            have w4 : IntKind.i64.wrap (10 * valOf (s.take i)) = 10 * valOf (s.take i) := wrap_i64 (by omega) (by omega)
            have w5 : IntKind.i64.wrap (10 * valOf (s.take i) + ((s[i].toNat : Int) - 48)) = 10 * valOf (s.take i) + (s[i].toNat - 48) := wrap_i64 (by omega) (by omega)
            simp [dFor_none, storeFine_none, dFor_no, storeFine_no, lessL, lkL, evCode_exit, evCode_seq, evCode_plain, evCode_draw, evCode_cond, evCode_ret, evCode_skip, evCode_block, evCode_loop, roundK_normal, roundK_exit, roundK_ret, seqK_normal, seqK_exit, seqK_ret, blockK_normal, blockK_exit, blockK_ret, regK_eq, evOps_nil, evOps_cons, params, astep, okDst, isWanted, aop, opnd, ofValue, putT, abin, headS, ofL, noPtr, acall, adopt_bool, adopt_int, adopt_str, adopt_agg, adopt_clip, upd_false, AV.cells, partOf, setCells, fillC, AV.isVal, List.range, List.range.loop, ofB, mayRead, dsts, planRo, capIds, viewed, scalarR, AV.scalar, bare_undef, bare_bool, bare_int, bare_str, bare_snil, bare_snone, bare_sclip, bare_srow, bare_ptr, bare_eptr, bare_pnil, bare_fn, bare_fnil, bare_agg, bare_tup, h5, h6, w1, w2, w3, w4, w5, rdigit_ev]
            refine ih (i + 1) _ _ (by omega) ⟨by omega, ?_⟩
            rw [valOf_take s i h5]
            simp [clean, keepBoxes, relabB, relabL, cleanS, fixPtr, headS, ofL, ofB, cellsOfB, namesOf, upd_false, AV.cells, row_undef, row_bool, row_int, row_str, row_snil, row_snone, row_sclip, row_srow, row_ptr, row_eptr, row_pnil, row_fn, row_fnil, row_agg, row_tup, relab_undef, relab_bool, relab_int, relab_str, relab_snil, relab_snone, relab_sclip, relab_srow, relab_ptr, relab_eptr, relab_pnil, relab_fn, relab_fnil, relab_agg, relab_tup, relab_sgrow, lvBRead, lvL]
          · have : i = s.length := by omega
            subst this
            simp [dFor_none, storeFine_none, dFor_no, storeFine_no, lessL, lkL, evCode_exit, evCode_seq, evCode_plain, evCode_draw, evCode_cond, evCode_ret, evCode_skip, evCode_block, evCode_loop, roundK_normal, roundK_exit, roundK_ret, seqK_normal, seqK_exit, seqK_ret, blockK_normal, blockK_exit, blockK_ret, regK_eq, evOps_nil, evOps_cons, params, astep, okDst, isWanted, aop, opnd, ofValue, putT, abin, headS, ofL, noPtr, acall, adopt_bool, adopt_int, adopt_str, adopt_agg, adopt_clip, upd_false, AV.cells, partOf, setCells, fillC, AV.isVal, List.range, List.range.loop, ofB, mayRead, dsts, planRo, capIds, viewed, scalarR, AV.scalar, bare_undef, bare_bool, bare_int, bare_str, bare_snil, bare_snone, bare_sclip, bare_srow, bare_ptr, bare_eptr, bare_pnil, bare_fn, bare_fnil, bare_agg, bare_tup, finK, freezeT, avAll, resOf, outBoxes, relabB, relabL, noPtr, AV.untup, relab_undef, relab_bool, relab_int, relab_str, relab_snil, relab_snone, relab_sclip, relab_srow, relab_ptr, relab_eptr, relab_pnil, relab_fn, relab_fnil, relab_agg, relab_tup, relab_sgrow]
        · refine ⟨by omega, ?_⟩
          simp [clean, keepBoxes, relabB, relabL, cleanS, fixPtr, headS, ofL, ofB, cellsOfB, namesOf, upd_false, AV.cells, row_undef, row_bool, row_int, row_str, row_snil, row_snone, row_sclip, row_srow, row_ptr, row_eptr, row_pnil, row_fn, row_fnil, row_agg, row_tup, relab_undef, relab_bool, relab_int, relab_str, relab_snil, relab_snone, relab_sclip, relab_srow, relab_ptr, relab_eptr, relab_pnil, relab_fn, relab_fnil, relab_agg, relab_tup, relab_sgrow, lvBRead, lvL, valOf]
      · have h3' : 1 < s.length := by omega
        simp [dFor_none, storeFine_none, dFor_no, storeFine_no, lessL, lkL, evCode_exit, evCode_seq, evCode_plain, evCode_draw, evCode_cond, evCode_ret, evCode_skip, evCode_block, evCode_loop, roundK_normal, roundK_exit, roundK_ret, seqK_normal, seqK_exit, seqK_ret, blockK_normal, blockK_exit, blockK_ret, regK_eq, evOps_nil, evOps_cons, params, astep, okDst, isWanted, aop, opnd, ofValue, putT, abin, headS, ofL, noPtr, acall, adopt_bool, adopt_int, adopt_str, adopt_agg, adopt_clip, upd_false, AV.cells, partOf, setCells, fillC, AV.isVal, List.range, List.range.loop, ofB, mayRead, dsts, planRo, capIds, viewed, scalarR, AV.scalar, bare_undef, bare_bool, bare_int, bare_str, bare_snil, bare_snone, bare_sclip, bare_srow, bare_ptr, bare_eptr, bare_pnil, bare_fn, bare_fnil, bare_agg, bare_tup, finK, freezeT, avAll, resOf, outBoxes, relabB, relabL, noPtr, AV.untup, relab_undef, relab_bool, relab_int, relab_str, relab_snil, relab_snone, relab_sclip, relab_srow, relab_ptr, relab_eptr, relab_pnil, relab_fn, relab_fnil, relab_agg, relab_tup, relab_sgrow, hb, h1, h3, h3', h0, h4]
    · have h3' : ¬ 1 < s.length := by omega
      simp [dFor_none, storeFine_none, dFor_no, storeFine_no, lessL, lkL, evCode_exit, evCode_seq, evCode_plain, evCode_draw, evCode_cond, evCode_ret, evCode_skip, evCode_block, evCode_loop, roundK_normal, roundK_exit, roundK_ret, seqK_normal, seqK_exit, seqK_ret, blockK_normal, blockK_exit, blockK_ret, regK_eq, evOps_nil, evOps_cons, params, astep, okDst, isWanted, aop, opnd, ofValue, putT, abin, headS, ofL, noPtr, acall, adopt_bool, adopt_int, adopt_str, adopt_agg, adopt_clip, upd_false, AV.cells, partOf, setCells, fillC, AV.isVal, List.range, List.range.loop, ofB, mayRead, dsts, planRo, capIds, viewed, scalarR, AV.scalar, bare_undef, bare_bool, bare_int, bare_str, bare_snil, bare_snone, bare_sclip, bare_srow, bare_ptr, bare_eptr, bare_pnil, bare_fn, bare_fnil, bare_agg, bare_tup, hb, h1, h3, h3', h0]
      refine loop_by (fun i => s.length - i) (fun (i : Nat) t m => i ≤ s.length ∧ clean (lvBRead 5) t m = headS [(0, .str s), (4, .int .i64 (valOf (s.take i))), (5, .int .i64 i)] []) ?_ 0 ?_
      · intro i t m ⟨hi, hS⟩ ih
        refine round_of hS ?_
        by_cases h5 : i < s.length
        · have hi0 : i = 0 := by omega
          have hr := digit_range (hd s[i] (List.getElem_mem h5))
          have h6 := hd s[i] (List.getElem_mem h5)
          have hv : valOf (s.take i) = 0 := by subst hi0; simp [valOf]
          rw [hv]
          have w1 : IntKind.i64.wrap ((i : Int) + 1) = i + 1 := wrap_i64 (by omega) (by omega)
          have w2 : IntKind.u8.wrap ((s[i].toNat : Int) - 48) = s[i].toNat - 48 := wrap_u8 (by omega) (by omega)
          have w3 : IntKind.i64.wrap ((s[i].toNat : Int) - 48) = s[i].toNat - 48 := wrap_i64 (by omega) (by omega)
          have w4 : IntKind.i64.wrap (0 : Int) = 0 := wrap_i64 (by omega) (by omega)
          simp [dFor_none, storeFine_none, dFor_no, storeFine_no, lessL, lkL, evCode_exit, evCode_seq, evCode_plain, evCode_draw, evCode_cond, evCode_ret, evCode_skip, evCode_block, evCode_loop, roundK_normal, roundK_exit, roundK_ret, seqK_normal, seqK_exit, seqK_ret, blockK_normal, blockK_exit, blockK_ret, regK_eq, evOps_nil, evOps_cons, params, astep, okDst, isWanted, aop, opnd, ofValue, putT, abin, headS, ofL, noPtr, acall, adopt_bool, adopt_int, adopt_str, adopt_agg, adopt_clip, upd_false, AV.cells, partOf, setCells, fillC, AV.isVal, List.range, List.range.loop, ofB, mayRead, dsts, planRo, capIds, viewed, scalarR, AV.scalar, bare_undef, bare_bool, bare_int, bare_str, bare_snil, bare_snone, bare_sclip, bare_srow, bare_ptr, bare_eptr, bare_pnil, bare_fn, bare_fnil, bare_agg, bare_tup, h5, h6, w1, w2, w3, w4, rdigit_ev]
          refine ih (i + 1) _ _ (by omega) ⟨by omega, ?_⟩
          rw [valOf_take s i h5, hv]
          simp [clean, keepBoxes, relabB, relabL, cleanS, fixPtr, headS, ofL, ofB, cellsOfB, namesOf, upd_false, AV.cells, row_undef, row_bool, row_int, row_str, row_snil, row_snone, row_sclip, row_srow, row_ptr, row_eptr, row_pnil, row_fn, row_fnil, row_agg, row_tup, relab_undef, relab_bool, relab_int, relab_str, relab_snil, relab_snone, relab_sclip, relab_srow, relab_ptr, relab_eptr, relab_pnil, relab_fn, relab_fnil, relab_agg, relab_tup, relab_sgrow, lvBRead, lvL]
        · have : i = s.length := by omega
          subst this
          simp [dFor_none, storeFine_none, dFor_no, storeFine_no, lessL, lkL, evCode_exit, evCode_seq, evCode_plain, evCode_draw, evCode_cond, evCode_ret, evCode_skip, evCode_block, evCode_loop, roundK_normal, roundK_exit, roundK_ret, seqK_normal, seqK_exit, seqK_ret, blockK_normal, blockK_exit, blockK_ret, regK_eq, evOps_nil, evOps_cons, params, astep, okDst, isWanted, aop, opnd, ofValue, putT, abin, headS, ofL, noPtr, acall, adopt_bool, adopt_int, adopt_str, adopt_agg, adopt_clip, upd_false, AV.cells, partOf, setCells, fillC, AV.isVal, List.range, List.range.loop, ofB, mayRead, dsts, planRo, capIds, viewed, scalarR, AV.scalar, bare_undef, bare_bool, bare_int, bare_str, bare_snil, bare_snone, bare_sclip, bare_srow, bare_ptr, bare_eptr, bare_pnil, bare_fn, bare_fnil, bare_agg, bare_tup, finK, freezeT, avAll, resOf, outBoxes, relabB, relabL, noPtr, AV.untup, relab_undef, relab_bool, relab_int, relab_str, relab_snil, relab_snone, relab_sclip, relab_srow, relab_ptr, relab_eptr, relab_pnil, relab_fn, relab_fnil, relab_agg, relab_tup, relab_sgrow]
      · refine ⟨by omega, ?_⟩
        simp [clean, keepBoxes, relabB, relabL, cleanS, fixPtr, headS, ofL, ofB, cellsOfB, namesOf, upd_false, AV.cells, row_undef, row_bool, row_int, row_str, row_snil, row_snone, row_sclip, row_srow, row_ptr, row_eptr, row_pnil, row_fn, row_fnil, row_agg, row_tup, relab_undef, relab_bool, relab_int, relab_str, relab_snil, relab_snone, relab_sclip, relab_srow, relab_ptr, relab_eptr, relab_pnil, relab_fn, relab_fnil, relab_agg, relab_tup, relab_sgrow, lvBRead, lvL, valOf]
/-- A part of a text. -/
def sub (s : Str) (i n : Nat) : Str := (s.take (i + n)).drop i
theorem sub_eq (s : Str) (i n : Nat) : sub s i n = (s.drop i).take n := by
  unfold sub; rw [List.drop_take]; congr 1; omega
/-- A string that begins at a place. -/
def quotedP (s : Str) (i : Nat) : AV :=
  let q := run (fun b => (b.toNat : Int) != 34) (s.drop (i + 1))
  if i + 1 + q = s.length then piece 0 0 15
  else if ((s.drop (i + 1)).take q).any (fun b => (b.toNat : Int) == 92) then piece 0 0 8
  else if decide ((q : Int) > 40) then piece 0 0 2
  else piece 3 (q + 2) 0
theorem any_take {p : UInt8 → Bool} (t : Str) (i : Nat) (h : i < t.length) : (t.take (i + 1)).any p = ((t.take i).any p || p t[i]) := by
  rw [List.take_succ_eq_append_getElem h, List.any_append]; simp
theorem quoted_ev (s : Str) (i : Nat) (hi : i < s.length) (hl : s.length < 2 ^ 61) : evc plan 97 [.str s, .int .i64 i] [] = some (quotedP s i, []) := by
  refine evc_start plan (P := Tryz.prog) (ro := planRo) rfl rfl rfl rfl rfl rfl (by simp) rfl ?_
  have w0 : IntKind.i64.wrap ((i : Int) + 1) = ((i + 1 : Nat) : Int) := by rw [wrap_i64 (by omega) (by omega)]; omega
  have hV : quotedP s i = if i + 1 + run (fun b => (b.toNat : Int) != 34) (s.drop (i + 1)) = s.length then piece 0 0 15
      else if ((s.drop (i + 1)).take (run (fun b => (b.toNat : Int) != 34) (s.drop (i + 1)))).any (fun b => (b.toNat : Int) == 92) then piece 0 0 8
      else if decide ((run (fun b => (b.toNat : Int) != 34) (s.drop (i + 1)) : Int) > 40) then piece 0 0 2
      else piece 3 (run (fun b => (b.toNat : Int) != 34) (s.drop (i + 1)) + 2) 0 := rfl
  generalize quotedP s i = V at hV ⊢
  generalize hq : run (fun b => (b.toNat : Int) != 34) (s.drop (i + 1)) = q at hV
  have hql : q ≤ s.length - (i + 1) := by
    have := run_le (fun b => (b.toNat : Int) != 34) (s.drop (i + 1))
    rw [hq, List.length_drop] at this; exact this
  simp [dFor_none, storeFine_none, dFor_no, storeFine_no, lessL, lkL, evCode_exit, evCode_seq, evCode_plain, evCode_draw, evCode_cond, evCode_ret, evCode_skip, evCode_block, evCode_loop, roundK_normal, roundK_exit, roundK_ret, seqK_normal, seqK_exit, seqK_ret, blockK_normal, blockK_exit, blockK_ret, regK_eq, evOps_nil, evOps_cons, params, astep, okDst, isWanted, aop, opnd, ofValue, putT, abin, headS, ofL, noPtr, acall, adopt_bool, adopt_int, adopt_str, adopt_agg, adopt_clip, upd_false, AV.cells, partOf, setCells, fillC, AV.isVal, List.range, List.range.loop, ofB, mayRead, dsts, planRo, capIds, viewed, scalarR, AV.scalar, bare_undef, bare_bool, bare_int, bare_str, bare_snil, bare_snone, bare_sclip, bare_srow, bare_ptr, bare_eptr, bare_pnil, bare_fn, bare_fnil, bare_agg, bare_tup, w0]
  refine loop_by (fun n => q - n) (fun (n : Nat) t m => n ≤ q ∧ q = n + run (fun b => (b.toNat : Int) != 34) (s.drop (i + 1 + n)) ∧ clean (lvQuoted 2) t m = headS [(0, .str s), (1, .int .i64 i), (4, .ptr 500004 0), (5, .int .i64 ((i + 1 + n : Nat) : Int)), (6, .bool (((s.drop (i + 1)).take n).any (fun b => (b.toNat : Int) == 92)))] [(500004, [.int .i64 0, .int .i64 0, .int .i64 0])]) ?_ 0 ?_
  · intro n t m ⟨hn, hr, hS⟩ ih
    refine round_of hS ?_
    have w1 : IntKind.i64.wrap (((i + 1 + n : Nat) : Int) + 1) = ((i + 1 + (n + 1) : Nat) : Int) := by rw [wrap_i64 (by omega) (by omega)]; omega
    by_cases h1 : i + 1 + n < s.length
    · have hd := run_drop (fun b => (b.toNat : Int) != 34) s (i + 1 + n) h1
      cases h2 : ((s[i + 1 + n].toNat : Int) != 34)
      · rw [h2] at hd
        have hnq : n = q := by simp at hd; omega
        subst hnq
        have h3 : ¬ i + 1 + n = s.length := by omega
        have h3' : (((i + 1 + n : Nat) : Int) == (s.length : Int)) = false := by simp; omega
        have w2 : IntKind.i64.wrap (((i + 1 + n : Nat) : Int) - i) = ((n + 1 : Nat) : Int) := by rw [wrap_i64 (by omega) (by omega)]; omega
        have w3 : IntKind.i64.wrap (((n + 1 : Nat) : Int) - 1) = (n : Int) := by rw [wrap_i64 (by omega) (by omega)]; omega
        have w4 : IntKind.i64.wrap (((i + 1 + (n + 1) : Nat) : Int) - i) = (n : Int) + 2 := by rw [wrap_i64 (by omega) (by omega)]; omega
        have w1' : IntKind.i64.wrap (((i + 1 + n : Nat) : Int) + 1) = ((i + 1 + (n + 1) : Nat) : Int) := w1
        generalize ((s.drop (i + 1)).take n).any (fun b => (b.toNat : Int) == 92) = A at *
        rw [if_neg h3] at hV
        cases A
        · by_cases h5 : (n : Int) > 40
          · simp [h5] at hV; subst hV
            simp [-Int.natCast_add, dFor_none, storeFine_none, dFor_no, storeFine_no, lessL, lkL, evCode_exit, evCode_seq, evCode_plain, evCode_draw, evCode_cond, evCode_ret, evCode_skip, evCode_block, evCode_loop, roundK_normal, roundK_exit, roundK_ret, seqK_normal, seqK_exit, seqK_ret, blockK_normal, blockK_exit, blockK_ret, regK_eq, evOps_nil, evOps_cons, params, astep, okDst, isWanted, aop, opnd, ofValue, putT, abin, headS, ofL, noPtr, acall, adopt_bool, adopt_int, adopt_str, adopt_agg, adopt_clip, upd_false, AV.cells, partOf, setCells, fillC, AV.isVal, List.range, List.range.loop, ofB, mayRead, dsts, planRo, capIds, viewed, scalarR, AV.scalar, bare_undef, bare_bool, bare_int, bare_str, bare_snil, bare_snone, bare_sclip, bare_srow, bare_ptr, bare_eptr, bare_pnil, bare_fn, bare_fnil, bare_agg, bare_tup, finK, freezeT, avAll, resOf, outBoxes, relabB, relabL, noPtr, AV.untup, relab_undef, relab_bool, relab_int, relab_str, relab_snil, relab_snone, relab_sclip, relab_srow, relab_ptr, relab_eptr, relab_pnil, relab_fn, relab_fnil, relab_agg, relab_tup, relab_sgrow, h1, h2, h3, h3', h5, w1, w2, w3, w4, piece]
          · simp [h5] at hV; subst hV
            simp [-Int.natCast_add, dFor_none, storeFine_none, dFor_no, storeFine_no, lessL, lkL, evCode_exit, evCode_seq, evCode_plain, evCode_draw, evCode_cond, evCode_ret, evCode_skip, evCode_block, evCode_loop, roundK_normal, roundK_exit, roundK_ret, seqK_normal, seqK_exit, seqK_ret, blockK_normal, blockK_exit, blockK_ret, regK_eq, evOps_nil, evOps_cons, params, astep, okDst, isWanted, aop, opnd, ofValue, putT, abin, headS, ofL, noPtr, acall, adopt_bool, adopt_int, adopt_str, adopt_agg, adopt_clip, upd_false, AV.cells, partOf, setCells, fillC, AV.isVal, List.range, List.range.loop, ofB, mayRead, dsts, planRo, capIds, viewed, scalarR, AV.scalar, bare_undef, bare_bool, bare_int, bare_str, bare_snil, bare_snone, bare_sclip, bare_srow, bare_ptr, bare_eptr, bare_pnil, bare_fn, bare_fnil, bare_agg, bare_tup, finK, freezeT, avAll, resOf, outBoxes, relabB, relabL, noPtr, AV.untup, relab_undef, relab_bool, relab_int, relab_str, relab_snil, relab_snone, relab_sclip, relab_srow, relab_ptr, relab_eptr, relab_pnil, relab_fn, relab_fnil, relab_agg, relab_tup, relab_sgrow, h1, h2, h3, h3', h5, w1, w2, w3, w4, piece]
        · simp at hV; subst hV
          simp [-Int.natCast_add, dFor_none, storeFine_none, dFor_no, storeFine_no, lessL, lkL, evCode_exit, evCode_seq, evCode_plain, evCode_draw, evCode_cond, evCode_ret, evCode_skip, evCode_block, evCode_loop, roundK_normal, roundK_exit, roundK_ret, seqK_normal, seqK_exit, seqK_ret, blockK_normal, blockK_exit, blockK_ret, regK_eq, evOps_nil, evOps_cons, params, astep, okDst, isWanted, aop, opnd, ofValue, putT, abin, headS, ofL, noPtr, acall, adopt_bool, adopt_int, adopt_str, adopt_agg, adopt_clip, upd_false, AV.cells, partOf, setCells, fillC, AV.isVal, List.range, List.range.loop, ofB, mayRead, dsts, planRo, capIds, viewed, scalarR, AV.scalar, bare_undef, bare_bool, bare_int, bare_str, bare_snil, bare_snone, bare_sclip, bare_srow, bare_ptr, bare_eptr, bare_pnil, bare_fn, bare_fnil, bare_agg, bare_tup, finK, freezeT, avAll, resOf, outBoxes, relabB, relabL, noPtr, AV.untup, relab_undef, relab_bool, relab_int, relab_str, relab_snil, relab_snone, relab_sclip, relab_srow, relab_ptr, relab_eptr, relab_pnil, relab_fn, relab_fnil, relab_agg, relab_tup, relab_sgrow, h1, h2, h3, h3', piece]
      · rw [h2] at hd
        have hd : run (fun b => (b.toNat : Int) != 34) (s.drop (i + 1 + n)) = run (fun b => (b.toNat : Int) != 34) (s.drop (i + 1 + n + 1)) + 1 := by simpa using hd
        have hlt : n < (s.drop (i + 1)).length := by rw [List.length_drop]; omega
        have ha := any_take (p := fun b => (b.toNat : Int) == 92) (s.drop (i + 1)) n hlt
        have hge : (s.drop (i + 1))[n] = s[i + 1 + n] := by simp
        rw [hge] at ha
        have ih := fun t m => ih (n + 1) t m (by omega)
        rw [ha] at ih
        generalize ((s.drop (i + 1)).take n).any (fun b => (b.toNat : Int) == 92) = A at *
        cases A <;> simp [-Int.natCast_add, dFor_none, storeFine_none, dFor_no, storeFine_no, lessL, lkL, evCode_exit, evCode_seq, evCode_plain, evCode_draw, evCode_cond, evCode_ret, evCode_skip, evCode_block, evCode_loop, roundK_normal, roundK_exit, roundK_ret, seqK_normal, seqK_exit, seqK_ret, blockK_normal, blockK_exit, blockK_ret, regK_eq, evOps_nil, evOps_cons, params, astep, okDst, isWanted, aop, opnd, ofValue, putT, abin, headS, ofL, noPtr, acall, adopt_bool, adopt_int, adopt_str, adopt_agg, adopt_clip, upd_false, AV.cells, partOf, setCells, fillC, AV.isVal, List.range, List.range.loop, ofB, mayRead, dsts, planRo, capIds, viewed, scalarR, AV.scalar, bare_undef, bare_bool, bare_int, bare_str, bare_snil, bare_snone, bare_sclip, bare_srow, bare_ptr, bare_eptr, bare_pnil, bare_fn, bare_fnil, bare_agg, bare_tup, h1, h2, w1]
        · refine ih _ _ ⟨by omega, by rw [show i + 1 + (n + 1) = i + 1 + n + 1 by omega]; omega, ?_⟩
          simp [-Int.natCast_add, clean, keepBoxes, relabB, relabL, cleanS, fixPtr, headS, ofL, ofB, cellsOfB, namesOf, upd_false, AV.cells, row_undef, row_bool, row_int, row_str, row_snil, row_snone, row_sclip, row_srow, row_ptr, row_eptr, row_pnil, row_fn, row_fnil, row_agg, row_tup, relab_undef, relab_bool, relab_int, relab_str, relab_snil, relab_snone, relab_sclip, relab_srow, relab_ptr, relab_eptr, relab_pnil, relab_fn, relab_fnil, relab_agg, relab_tup, relab_sgrow, lvQuoted, lvL]
        · refine ih _ _ ⟨by omega, by rw [show i + 1 + (n + 1) = i + 1 + n + 1 by omega]; omega, ?_⟩
          simp [-Int.natCast_add, clean, keepBoxes, relabB, relabL, cleanS, fixPtr, headS, ofL, ofB, cellsOfB, namesOf, upd_false, AV.cells, row_undef, row_bool, row_int, row_str, row_snil, row_snone, row_sclip, row_srow, row_ptr, row_eptr, row_pnil, row_fn, row_fnil, row_agg, row_tup, relab_undef, relab_bool, relab_int, relab_str, relab_snil, relab_snone, relab_sclip, relab_srow, relab_ptr, relab_eptr, relab_pnil, relab_fn, relab_fnil, relab_agg, relab_tup, relab_sgrow, lvQuoted, lvL]
    · have h3 : i + 1 + n = s.length := by omega
      have hnq : n = q := by omega
      subst hnq
      rw [if_pos h3] at hV
      subst hV
      simp [-Int.natCast_add, dFor_none, storeFine_none, dFor_no, storeFine_no, lessL, lkL, evCode_exit, evCode_seq, evCode_plain, evCode_draw, evCode_cond, evCode_ret, evCode_skip, evCode_block, evCode_loop, roundK_normal, roundK_exit, roundK_ret, seqK_normal, seqK_exit, seqK_ret, blockK_normal, blockK_exit, blockK_ret, regK_eq, evOps_nil, evOps_cons, params, astep, okDst, isWanted, aop, opnd, ofValue, putT, abin, headS, ofL, noPtr, acall, adopt_bool, adopt_int, adopt_str, adopt_agg, adopt_clip, upd_false, AV.cells, partOf, setCells, fillC, AV.isVal, List.range, List.range.loop, ofB, mayRead, dsts, planRo, capIds, viewed, scalarR, AV.scalar, bare_undef, bare_bool, bare_int, bare_str, bare_snil, bare_snone, bare_sclip, bare_srow, bare_ptr, bare_eptr, bare_pnil, bare_fn, bare_fnil, bare_agg, bare_tup, finK, freezeT, avAll, resOf, outBoxes, relabB, relabL, noPtr, AV.untup, relab_undef, relab_bool, relab_int, relab_str, relab_snil, relab_snone, relab_sclip, relab_srow, relab_ptr, relab_eptr, relab_pnil, relab_fn, relab_fnil, relab_agg, relab_tup, relab_sgrow, h3, piece]
  · refine ⟨by omega, by simpa using hq.symm, ?_⟩
    simp [clean, keepBoxes, relabB, relabL, cleanS, fixPtr, headS, ofL, ofB, cellsOfB, namesOf, upd_false, AV.cells, row_undef, row_bool, row_int, row_str, row_snil, row_snone, row_sclip, row_srow, row_ptr, row_eptr, row_pnil, row_fn, row_fnil, row_agg, row_tup, relab_undef, relab_bool, relab_int, relab_str, relab_snil, relab_snone, relab_sclip, relab_srow, relab_ptr, relab_eptr, relab_pnil, relab_fn, relab_fnil, relab_agg, relab_tup, relab_sgrow, lvQuoted, lvL]
end Go.Proofs.YtlmmgblghgmgeaaGreatDoor
