/- Numbers and strings of the program's chapter 1, evaluated. -/
import Derived.Test.YtlmmgblghgmgeaaDoorWalkA
namespace Go.Proofs.YtlmmgblghgmgeaaDoor
open Go Ev
set_option maxRecDepth 100000
set_option linter.unusedSimpArgs false

def hasPre (s p : Str) : Bool := decide (p.length ≤ s.length) && (s.take p.length == p)
theorem pre0_ev (s p : Str) : evc plan 54 [.str s, .str p] [] = some (.bool (hasPre s p), []) := by
  refine evc_start plan (P := Tryd.prog) (ro := planRo) rfl rfl rfl rfl rfl rfl (by simp) rfl ?_
  by_cases h : p.length ≤ s.length <;> simp [dFor_none, storeFine_none, dFor_no, storeFine_no, lessL, lkL, evCode_exit, evCode_seq, evCode_plain, evCode_draw, evCode_cond, evCode_ret, evCode_skip, evCode_block, evCode_loop, roundK_normal, roundK_exit, roundK_ret, seqK_normal, seqK_exit, seqK_ret, blockK_normal, blockK_exit, blockK_ret, regK_eq, evOps_nil, evOps_cons, params, astep, okDst, isWanted, aop, opnd, ofValue, putT, abin, headS, ofL, noPtr, acall, adopt_bool, adopt_int, adopt_str, adopt_agg, adopt_clip, AV.bare, upd_false, AV.cells, partOf, setCells, fillC, AV.isVal, List.range, List.range.loop, ofB, mayRead, dsts, planRo, capIds, viewed, scalarR, AV.scalar, finK, freezeT, avAll, resOf, outBoxes, relabB, relabL, relab1, noPtr, AV.untup, hasPre, h, aslice, abound]
theorem pre_ev (s p : Str) : evc plan 38 [.str s, .str p] [] = some (.bool (hasPre s p), []) := by
  refine evc_start plan (P := Tryd.prog) (ro := planRo) rfl rfl rfl rfl rfl rfl (by simp) rfl ?_
  simp [dFor_none, storeFine_none, dFor_no, storeFine_no, lessL, lkL, evCode_exit, evCode_seq, evCode_plain, evCode_draw, evCode_cond, evCode_ret, evCode_skip, evCode_block, evCode_loop, roundK_normal, roundK_exit, roundK_ret, seqK_normal, seqK_exit, seqK_ret, blockK_normal, blockK_exit, blockK_ret, regK_eq, evOps_nil, evOps_cons, params, astep, okDst, isWanted, aop, opnd, ofValue, putT, abin, headS, ofL, noPtr, acall, adopt_bool, adopt_int, adopt_str, adopt_agg, adopt_clip, AV.bare, upd_false, AV.cells, partOf, setCells, fillC, AV.isVal, List.range, List.range.loop, ofB, mayRead, dsts, planRo, capIds, viewed, scalarR, AV.scalar, finK, freezeT, avAll, resOf, outBoxes, relabB, relabL, relab1, noPtr, AV.untup, pre0_ev]

/-- Digits as a number that stops at 10001. -/
def numOf (s : Str) : Int := s.foldl (fun n b => min (10 * n + (b.toNat - 48)) 10001) 0
theorem numOf_take (s : Str) (i : Nat) (h : i < s.length) : numOf (s.take (i + 1)) = min (10 * numOf (s.take i) + (s[i].toNat - 48)) 10001 := by
  unfold numOf
  rw [List.take_succ_eq_append_getElem h, List.foldl_append]
  rfl
theorem numOf_range (s : Str) (h : ∀ b ∈ s, 48 ≤ b.toNat) : 0 ≤ numOf s ∧ numOf s ≤ 10001 := by
  unfold numOf
  have : ∀ (l : Str) (n : Int), (∀ b ∈ l, 48 ≤ b.toNat) → 0 ≤ n ∧ n ≤ 10001 → 0 ≤ l.foldl (fun n b => min (10 * n + ((b.toNat : Int) - 48)) 10001) n ∧ l.foldl (fun n b => min (10 * n + ((b.toNat : Int) - 48)) 10001) n ≤ 10001 := by
    intro l
    induction l with
    | nil => intro n _ h; exact h
    | cons b l ih =>
      intro n hb hn
      have := hb b (by simp)
      refine ih _ (fun x hx => hb x (by simp [hx])) ?_
      show 0 ≤ min _ _ ∧ min _ _ ≤ _
      omega
  exact this s 0 h (by omega)
def piece (k n e : Int) : AV := .agg [.int .i64 k, .int .i64 n, .int .i64 e]
def numErr (s : Str) : Int := firstOf [if decide ((1 : Int) < s.length) && (((s.getD 0 0).toNat : Int) == 48) then 8 else 0, if numOf s > 10000 then 3 else 0]
theorem number_ev (s : Str) (hl : s.length < 2 ^ 62) (hd : ∀ b ∈ s, 48 ≤ b.toNat) : evc plan 73 [.str s] [] = some (piece 2 s.length (numErr s), []) := by
  refine evc_start plan (P := Tryd.prog) (ro := planRo) rfl rfl rfl rfl rfl rfl (by simp) rfl ?_
  simp [dFor_none, storeFine_none, dFor_no, storeFine_no, lessL, lkL, evCode_exit, evCode_seq, evCode_plain, evCode_draw, evCode_cond, evCode_ret, evCode_skip, evCode_block, evCode_loop, roundK_normal, roundK_exit, roundK_ret, seqK_normal, seqK_exit, seqK_ret, blockK_normal, blockK_exit, blockK_ret, regK_eq, evOps_nil, evOps_cons, params, astep, okDst, isWanted, aop, opnd, ofValue, putT, abin, headS, ofL, noPtr, acall, adopt_bool, adopt_int, adopt_str, adopt_agg, adopt_clip, AV.bare, upd_false, AV.cells, partOf, setCells, fillC, AV.isVal, List.range, List.range.loop, ofB, mayRead, dsts, planRo, capIds, viewed, scalarR, AV.scalar]
  refine loop_by (fun i => s.length - i) (fun (i : Nat) t m => i ≤ s.length ∧ clean (lvNumber 2) t m = headS [(0, .str s), (2, .ptr 500002 0), (3, .int .i64 (numOf (s.take i))), (6, .int .i64 s.length), (7, .int .i64 i)] [(500002, [.int .i64 0, .int .i64 0, .int .i64 0])]) ?_ 0 ?_
  · intro i t m ⟨hi, hS⟩ ih
    refine round_of hS ?_
    by_cases h1 : i < s.length
    · have hn := numOf_range (s.take i) (fun b hb => hd b (List.mem_of_mem_take hb))
      have hb := hd s[i] (List.getElem_mem h1)
      have hb2 := byte_lt s[i]
      have w1 : IntKind.i64.wrap ((i : Int) + 1) = i + 1 := wrap_i64 (by omega) (by omega)
      have w2 : IntKind.u8.wrap ((s[i].toNat : Int) - 48) = s[i].toNat - 48 := wrap_u8 (by omega) (by omega)
      have w3 : IntKind.i64.wrap ((s[i].toNat : Int) - 48) = s[i].toNat - 48 := wrap_i64 (by omega) (by omega)
      have w4 : IntKind.i64.wrap (10 * numOf (s.take i)) = 10 * numOf (s.take i) := wrap_i64 (by omega) (by omega)
      have w5 : IntKind.i64.wrap (10 * numOf (s.take i) + ((s[i].toNat : Int) - 48)) = 10 * numOf (s.take i) + (s[i].toNat - 48) := wrap_i64 (by omega) (by omega)
      simp [dFor_none, storeFine_none, dFor_no, storeFine_no, lessL, lkL, evCode_exit, evCode_seq, evCode_plain, evCode_draw, evCode_cond, evCode_ret, evCode_skip, evCode_block, evCode_loop, roundK_normal, roundK_exit, roundK_ret, seqK_normal, seqK_exit, seqK_ret, blockK_normal, blockK_exit, blockK_ret, regK_eq, evOps_nil, evOps_cons, params, astep, okDst, isWanted, aop, opnd, ofValue, putT, abin, headS, ofL, noPtr, acall, adopt_bool, adopt_int, adopt_str, adopt_agg, adopt_clip, AV.bare, upd_false, AV.cells, partOf, setCells, fillC, AV.isVal, List.range, List.range.loop, ofB, mayRead, dsts, planRo, capIds, viewed, scalarR, AV.scalar, h1, w1, w2, w3, w4, w5, aminmax]
      refine ih (i + 1) _ _ (by omega) ⟨by omega, ?_⟩
      have hm : numOf (s.take (i + 1)) = if 10001 < 10 * numOf (s.take i) + ((s[i].toNat : Int) - 48) then 10001 else 10 * numOf (s.take i) + (s[i].toNat - 48) := by
        rw [numOf_take s i h1]; split <;> omega
      simp [clean, keepBoxes, relabB, relabL, relab1, cleanS, fixPtr, headS, ofL, ofB, cellsOfB, namesOf, rowName, upd_false, AV.cells, lvNumber, lvL, hm]
    · have : i = s.length := by omega
      subst this
      clear ih hS
      have hg : ∀ h : 0 < s.length, s.getD 0 0 = s[0] := fun h => by simp [List.getD_eq_getElem?_getD, h]
      by_cases h2 : (1 : Int) < s.length
      · have h0 : 0 < s.length := by omega
        have h5 : 1 < s.length := by omega
        have hg := hg h0
        cases h3 : ((s[0].toNat : Int) == 48) <;> by_cases h4 : 10000 < numOf s <;> simp [dFor_none, storeFine_none, dFor_no, storeFine_no, lessL, lkL, evCode_exit, evCode_seq, evCode_plain, evCode_draw, evCode_cond, evCode_ret, evCode_skip, evCode_block, evCode_loop, roundK_normal, roundK_exit, roundK_ret, seqK_normal, seqK_exit, seqK_ret, blockK_normal, blockK_exit, blockK_ret, regK_eq, evOps_nil, evOps_cons, params, astep, okDst, isWanted, aop, opnd, ofValue, putT, abin, headS, ofL, noPtr, acall, adopt_bool, adopt_int, adopt_str, adopt_agg, adopt_clip, AV.bare, upd_false, AV.cells, partOf, setCells, fillC, AV.isVal, List.range, List.range.loop, ofB, mayRead, dsts, planRo, capIds, viewed, scalarR, AV.scalar, finK, freezeT, avAll, resOf, outBoxes, relabB, relabL, relab1, noPtr, AV.untup, wrong_ev, or2_ev, h2, h5, h0, h3, h4, piece, numErr]
      · have h5 : ¬ 1 < s.length := by omega
        by_cases h4 : 10000 < numOf s <;> simp [dFor_none, storeFine_none, dFor_no, storeFine_no, lessL, lkL, evCode_exit, evCode_seq, evCode_plain, evCode_draw, evCode_cond, evCode_ret, evCode_skip, evCode_block, evCode_loop, roundK_normal, roundK_exit, roundK_ret, seqK_normal, seqK_exit, seqK_ret, blockK_normal, blockK_exit, blockK_ret, regK_eq, evOps_nil, evOps_cons, params, astep, okDst, isWanted, aop, opnd, ofValue, putT, abin, headS, ofL, noPtr, acall, adopt_bool, adopt_int, adopt_str, adopt_agg, adopt_clip, AV.bare, upd_false, AV.cells, partOf, setCells, fillC, AV.isVal, List.range, List.range.loop, ofB, mayRead, dsts, planRo, capIds, viewed, scalarR, AV.scalar, finK, freezeT, avAll, resOf, outBoxes, relabB, relabL, relab1, noPtr, AV.untup, wrong_ev, or2_ev, h2, h5, h4, piece, numErr]
  · refine ⟨by omega, ?_⟩
    simp [clean, keepBoxes, relabB, relabL, relab1, cleanS, fixPtr, headS, ofL, ofB, cellsOfB, namesOf, rowName, upd_false, AV.cells, lvNumber, lvL, numOf]

/-- A string with its quotation marks; behind the first one. -/
def textPiece (s : Str) : AV :=
  if Lib.indexByte s 34 < 0 then piece 0 0 15
  else piece 3 (Lib.indexByte s 34 + 2) (firstOf [if decide (0 ≤ Lib.indexByte (s.take (Lib.indexByte s 34).toNat) 92) then 8 else 0, if decide (40 < Lib.indexByte s 34) then 2 else 0])
theorem indexByte_lt (s : Str) (b : UInt8) : -1 ≤ Lib.indexByte s b ∧ Lib.indexByte s b ≤ s.length := by
  induction s with
  | nil => simp [Lib.indexByte]
  | cons x s ih =>
    simp only [Lib.indexByte, List.length_cons]
    split <;> (try split) <;> omega
theorem text_ev (c : UInt8) (s : Str) (hl : s.length < 2 ^ 61) : evc plan 74 [.str (c :: s)] [] = some (textPiece s, []) := by
  refine evc_start plan (P := Tryd.prog) (ro := planRo) rfl rfl rfl rfl rfl rfl (by simp) rfl ?_
  have hi : ∀ t : Str, evc plan 83 [.str t, .int .u8 34] [] = some (.int .i64 (Lib.indexByte t 34), []) := fun t => evc_ext plan rfl rfl
  have hc : ∀ t : Str, evc plan 84 [.str t, .str [92]] [] = some (.bool (decide (0 ≤ Lib.indexByte t 92)), []) := fun t => evc_ext plan rfl rfl
  have hb := indexByte_lt s 34
  generalize hn : Lib.indexByte s 34 = n at hb
  by_cases h : n < 0
  · simp [dFor_none, storeFine_none, dFor_no, storeFine_no, lessL, lkL, evCode_exit, evCode_seq, evCode_plain, evCode_draw, evCode_cond, evCode_ret, evCode_skip, evCode_block, evCode_loop, roundK_normal, roundK_exit, roundK_ret, seqK_normal, seqK_exit, seqK_ret, blockK_normal, blockK_exit, blockK_ret, regK_eq, evOps_nil, evOps_cons, params, astep, okDst, isWanted, aop, opnd, ofValue, putT, abin, headS, ofL, noPtr, acall, adopt_bool, adopt_int, adopt_str, adopt_agg, adopt_clip, AV.bare, upd_false, AV.cells, partOf, setCells, fillC, AV.isVal, List.range, List.range.loop, ofB, mayRead, dsts, planRo, capIds, viewed, scalarR, AV.scalar, finK, freezeT, avAll, resOf, outBoxes, relabB, relabL, relab1, noPtr, AV.untup, hi, hn, h, aslice, abound, textPiece, piece]
  · have w1 : IntKind.i64.wrap (1 + n) = 1 + n := wrap_i64 (by omega) (by omega)
    have w2 : IntKind.i64.wrap (n + 2) = n + 2 := wrap_i64 (by omega) (by omega)
    have h3 : 0 ≤ 1 + n := by omega
    have h4 : 1 ≤ (1 + n).toNat := by omega
    have h5 : (1 + n).toNat ≤ s.length + 1 := by omega
    have h6 : ((c :: s).take (1 + n).toNat).tail = s.take n.toNat := by rw [show (1 + n).toNat = n.toNat + 1 by omega]; rfl
    cases h7 : decide (0 ≤ Lib.indexByte (s.take n.toNat) 92) <;> by_cases h8 : 40 < n <;> simp [dFor_none, storeFine_none, dFor_no, storeFine_no, lessL, lkL, evCode_exit, evCode_seq, evCode_plain, evCode_draw, evCode_cond, evCode_ret, evCode_skip, evCode_block, evCode_loop, roundK_normal, roundK_exit, roundK_ret, seqK_normal, seqK_exit, seqK_ret, blockK_normal, blockK_exit, blockK_ret, regK_eq, evOps_nil, evOps_cons, params, astep, okDst, isWanted, aop, opnd, ofValue, putT, abin, headS, ofL, noPtr, acall, adopt_bool, adopt_int, adopt_str, adopt_agg, adopt_clip, AV.bare, upd_false, AV.cells, partOf, setCells, fillC, AV.isVal, List.range, List.range.loop, ofB, mayRead, dsts, planRo, capIds, viewed, scalarR, AV.scalar, finK, freezeT, avAll, resOf, outBoxes, relabB, relabL, relab1, noPtr, AV.untup, hi, hc, hn, h, aslice, abound, textPiece, piece, w1, w2, h3, h4, h5, h6, h7, h8, wrong_ev, or2_ev]
end Go.Proofs.YtlmmgblghgmgeaaDoor
