/- What a text begins with. -/
import Derived.Test.YtlmmgblghgmgeaaDoorWalkD
namespace Go.Proofs.YtlmmgblghgmgeaaDoor
open Go Ev
set_option maxRecDepth 100000
set_option linter.unusedSimpArgs false

theorem same_ev (b c : UInt8) (s : Str) : evc plan 68 [.int .u8 b.toNat, .eptr [.str (c :: s)]] [] = some (.bool ((b.toNat : Int) == c.toNat), []) := by
  refine evc_start plan (P := Tryd.prog) (ro := planRo) rfl rfl rfl rfl rfl rfl (by simp) rfl ?_
  simp [dFor_none, storeFine_none, dFor_no, storeFine_no, lessL, lkL, evCode_exit, evCode_seq, evCode_plain, evCode_draw, evCode_cond, evCode_ret, evCode_skip, evCode_block, evCode_loop, roundK_normal, roundK_exit, roundK_ret, seqK_normal, seqK_exit, seqK_ret, blockK_normal, blockK_exit, blockK_ret, regK_eq, evOps_nil, evOps_cons, params, astep, okDst, isWanted, aop, opnd, ofValue, putT, abin, headS, ofL, noPtr, acall, adopt_bool, adopt_int, adopt_str, adopt_agg, adopt_clip, AV.bare, upd_false, AV.cells, partOf, setCells, fillC, AV.isVal, List.range, List.range.loop, ofB, mayRead, dsts, planRo, capIds, viewed, scalarR, AV.scalar, finK, freezeT, avAll, resOf, outBoxes, relabB, relabL, relab1, noPtr, AV.untup]
def hasLetter (s : Str) : Bool := decide (0 ≤ Lib.idxFunc (fun x => letterB (x % 256)) true ⟨s.toArray⟩)
def wordOf (t : Str) : Str := t.take (run (fun b => wordB b.toNat) t)
def signOf (c : UInt8) (s : Str) : Nat := run (fun b => (b.toNat : Int) == c.toNat) (c :: s)
def digitsOf (t : Str) : Str := t.take (run (fun b => digitB b.toNat) t)
def pieceOf (c : UInt8) (s : Str) : AV :=
  if hasPre (wordOf (c :: s)) [87, 70, 95] || hasPre (wordOf (c :: s)) [83, 70, 95] then piece 4 3 0
  else if hasLetter (wordOf (c :: s)) then piece (if decide (0 ≤ idxIn (wordOf (c :: s)) reservedL 0) then 1 else 0) (wordOf (c :: s)).length (if decide ((24 : Int) < (wordOf (c :: s)).length) then 7 else 0)
  else if digitB c.toNat then piece 2 (digitsOf (c :: s)).length (numErr (digitsOf (c :: s)))
  else if ((c.toNat : Int) == 34) then textPiece s
  else if isRuleB ((c :: s).take (signOf c s)) then piece 5 (signOf c s) 0
  else symPiece c s
theorem run_le (p : UInt8 → Bool) (s : Str) : run p s ≤ s.length := (List.takeWhile_prefix _).length_le
theorem take_run (p : UInt8 → Bool) (s : Str) : s.take (run p s) = s.takeWhile p := by
  unfold run
  exact (List.prefix_iff_eq_take.1 (List.takeWhile_prefix p)).symm
theorem takeWhile_all (p : UInt8 → Bool) : ∀ l : Str, ∀ b ∈ l.takeWhile p, p b = true
  | [], b, h => by simp at h
  | a :: l, b, h => by
    rw [List.takeWhile_cons] at h
    split at h
    · rename_i ha
      rcases List.mem_cons.1 h with rfl | h
      · exact ha
      · exact takeWhile_all p l b h
    · simp at h
theorem textPiece_is (s : Str) : ∃ a b d, textPiece s = piece a b d := by
  unfold textPiece; split <;> exact ⟨_, _, _, rfl⟩
theorem symPiece_is (c : UInt8) (s : Str) : ∃ a b d, symPiece c s = piece a b d := by
  unfold symPiece; simp only; split <;> exact ⟨_, _, _, rfl⟩
set_option maxHeartbeats 2000000 in
theorem piece_ev (c : UInt8) (s : Str) (hl : s.length < 2 ^ 60) : evc plan 51 [.str (c :: s)] [] = some (pieceOf c s, []) := by
  refine evc_start plan (P := Tryd.prog) (ro := planRo) rfl rfl rfl rfl rfl rfl (by simp) rfl ?_
  have hw := run_ev (c :: s) 67 [] (fun b => wordB b.toNat) (by simp; omega) rfl rfl (fun b => word_ev b)
  have hs := run_ev (c :: s) 68 [.eptr [.str (c :: s)]] (fun b => (b.toNat : Int) == c.toNat) (by simp; omega) rfl rfl (fun b => same_ev b c s)
  have hd := run_ev (c :: s) 72 [] (fun b => digitB b.toNat) (by simp; omega) rfl rfl (fun b => digit_ev b)
  have lw := run_le (fun b => wordB b.toNat) (c :: s)
  have ls := run_le (fun b => (b.toNat : Int) == c.toNat) (c :: s)
  have ld := run_le (fun b => digitB b.toNat) (c :: s)
  simp only [List.length_cons] at lw ls ld
  have hf : ∀ t : Str, evc plan 19 [.str t, .fn 69 []] [] = some (.bool (hasLetter t), []) := fun t => evc_ext plan rfl rfl
  have had : ∀ (d : Nat) (m : Mem) (z : Nat) (els : List (List AV)), adopt d [] m (.sl z els .clip) = some (.sl z els .clip, m) := fun d m z els => by
    simp [adopt, resParts, relabL, relab1, noPtr, freshAll, rowName, resBack, addNames_plain (v := .sl z els .clip) rfl]
  have eW : (c :: s).take (run (fun b => wordB b.toNat) (c :: s)) = wordOf (c :: s) := rfl
  have eD : (c :: s).take (run (fun b => digitB b.toNat) (c :: s)) = digitsOf (c :: s) := rfl
  have eS : run (fun b => (b.toNat : Int) == c.toNat) (c :: s) = signOf c s := rfl
  have hc : evc plan 28 [.sl 1 (strs reservedL) .clip, .str (wordOf (c :: s))] [] = some (.bool (decide (0 ≤ idxIn (wordOf (c :: s)) reservedL 0)), []) := contains_ev _ _ _ (.inl rfl) (by decide)
  have hr := reserved_ev
  have hlw : (wordOf (c :: s)).length < 2 ^ 61 := by unfold wordOf; rw [List.length_take]; simp only [List.length_cons]; omega
  have hdl : (digitsOf (c :: s)).length < 2 ^ 61 := by unfold digitsOf; rw [List.length_take]; simp only [List.length_cons]; omega
  have hn := number_ev (digitsOf (c :: s)) (by omega) (fun b hb => by
    unfold digitsOf at hb
    rw [take_run] at hb
    have := takeWhile_all _ _ b hb
    simp only [digitB, spansB, Bool.and_eq_true, decide_eq_true_eq] at this
    omega)
  have ht := text_ev c s (by omega)
  have hy := symbol_ev c s (by omega)
  have hru := rule_ev ((c :: s).take (signOf c s)) (by rw [List.length_take]; simp only [List.length_cons]; omega)
  rw [eS] at hs ls
  obtain ⟨y1, y2, y3, hyp⟩ := symPiece_is c s
  obtain ⟨x1, x2, x3, hxp⟩ := textPiece_is s
  rw [hyp] at hy
  rw [hxp] at ht
  unfold piece at hy ht hn
  cases h1 : hasPre (wordOf (c :: s)) [87, 70, 95]
  · cases h2 : hasPre (wordOf (c :: s)) [83, 70, 95]
    · cases h3 : hasLetter (wordOf (c :: s))
      · cases h4 : digitB c.toNat
        · cases h5 : ((c.toNat : Int) == 34)
          · cases h6 : isRuleB ((c :: s).take (signOf c s)) <;> simp [dFor_none, storeFine_none, dFor_no, storeFine_no, lessL, lkL, evCode_exit, evCode_seq, evCode_plain, evCode_draw, evCode_cond, evCode_ret, evCode_skip, evCode_block, evCode_loop, roundK_normal, roundK_exit, roundK_ret, seqK_normal, seqK_exit, seqK_ret, blockK_normal, blockK_exit, blockK_ret, regK_eq, evOps_nil, evOps_cons, params, astep, okDst, isWanted, aop, opnd, ofValue, putT, abin, headS, ofL, noPtr, acall, adopt_bool, adopt_int, adopt_str, adopt_agg, adopt_clip, AV.bare, upd_false, AV.cells, partOf, setCells, fillC, AV.isVal, List.range, List.range.loop, ofB, mayRead, dsts, planRo, capIds, viewed, scalarR, AV.scalar, finK, freezeT, avAll, resOf, outBoxes, relabB, relabL, relab1, noPtr, AV.untup, hw, hs, hd, lw, ls, ld, hf, hru, hy, pre_ev, digit_ev, aslice, abound, capture, pieceOf, piece, hyp, hxp, eW, h1, h2, h3, h4, h5, h6]
          · simp [dFor_none, storeFine_none, dFor_no, storeFine_no, lessL, lkL, evCode_exit, evCode_seq, evCode_plain, evCode_draw, evCode_cond, evCode_ret, evCode_skip, evCode_block, evCode_loop, roundK_normal, roundK_exit, roundK_ret, seqK_normal, seqK_exit, seqK_ret, blockK_normal, blockK_exit, blockK_ret, regK_eq, evOps_nil, evOps_cons, params, astep, okDst, isWanted, aop, opnd, ofValue, putT, abin, headS, ofL, noPtr, acall, adopt_bool, adopt_int, adopt_str, adopt_agg, adopt_clip, AV.bare, upd_false, AV.cells, partOf, setCells, fillC, AV.isVal, List.range, List.range.loop, ofB, mayRead, dsts, planRo, capIds, viewed, scalarR, AV.scalar, finK, freezeT, avAll, resOf, outBoxes, relabB, relabL, relab1, noPtr, AV.untup, hw, hs, hd, lw, ls, ld, hf, ht, pre_ev, digit_ev, aslice, abound, capture, pieceOf, piece, hyp, hxp, eW, h1, h2, h3, h4, h5]
        · simp [dFor_none, storeFine_none, dFor_no, storeFine_no, lessL, lkL, evCode_exit, evCode_seq, evCode_plain, evCode_draw, evCode_cond, evCode_ret, evCode_skip, evCode_block, evCode_loop, roundK_normal, roundK_exit, roundK_ret, seqK_normal, seqK_exit, seqK_ret, blockK_normal, blockK_exit, blockK_ret, regK_eq, evOps_nil, evOps_cons, params, astep, okDst, isWanted, aop, opnd, ofValue, putT, abin, headS, ofL, noPtr, acall, adopt_bool, adopt_int, adopt_str, adopt_agg, adopt_clip, AV.bare, upd_false, AV.cells, partOf, setCells, fillC, AV.isVal, List.range, List.range.loop, ofB, mayRead, dsts, planRo, capIds, viewed, scalarR, AV.scalar, finK, freezeT, avAll, resOf, outBoxes, relabB, relabL, relab1, noPtr, AV.untup, hw, hs, hd, lw, ls, ld, hf, hn, pre_ev, digit_ev, aslice, abound, capture, pieceOf, piece, hyp, hxp, eW, eD, h1, h2, h3, h4]
      · cases h4 : decide (0 ≤ idxIn (wordOf (c :: s)) reservedL 0) <;> cases h5 : decide ((24 : Int) < (wordOf (c :: s)).length) <;> simp [dFor_none, storeFine_none, dFor_no, storeFine_no, lessL, lkL, evCode_exit, evCode_seq, evCode_plain, evCode_draw, evCode_cond, evCode_ret, evCode_skip, evCode_block, evCode_loop, roundK_normal, roundK_exit, roundK_ret, seqK_normal, seqK_exit, seqK_ret, blockK_normal, blockK_exit, blockK_ret, regK_eq, evOps_nil, evOps_cons, params, astep, okDst, isWanted, aop, opnd, ofValue, putT, abin, headS, ofL, noPtr, acall, adopt_bool, adopt_int, adopt_str, adopt_agg, adopt_clip, AV.bare, upd_false, AV.cells, partOf, setCells, fillC, AV.isVal, List.range, List.range.loop, ofB, mayRead, dsts, planRo, capIds, viewed, scalarR, AV.scalar, finK, freezeT, avAll, resOf, outBoxes, relabB, relabL, relab1, noPtr, AV.untup, hw, hs, hd, lw, ls, ld, hf, had, hr, hc, pre_ev, wrong_ev, aslice, abound, capture, pieceOf, piece, hyp, hxp, eW, h1, h2, h3, h4, h5]
    · simp [dFor_none, storeFine_none, dFor_no, storeFine_no, lessL, lkL, evCode_exit, evCode_seq, evCode_plain, evCode_draw, evCode_cond, evCode_ret, evCode_skip, evCode_block, evCode_loop, roundK_normal, roundK_exit, roundK_ret, seqK_normal, seqK_exit, seqK_ret, blockK_normal, blockK_exit, blockK_ret, regK_eq, evOps_nil, evOps_cons, params, astep, okDst, isWanted, aop, opnd, ofValue, putT, abin, headS, ofL, noPtr, acall, adopt_bool, adopt_int, adopt_str, adopt_agg, adopt_clip, AV.bare, upd_false, AV.cells, partOf, setCells, fillC, AV.isVal, List.range, List.range.loop, ofB, mayRead, dsts, planRo, capIds, viewed, scalarR, AV.scalar, finK, freezeT, avAll, resOf, outBoxes, relabB, relabL, relab1, noPtr, AV.untup, hw, hs, hd, lw, ls, ld, hf, had, pre_ev, aslice, abound, capture, pieceOf, piece, hyp, hxp, eW, h1, h2]
  · simp [dFor_none, storeFine_none, dFor_no, storeFine_no, lessL, lkL, evCode_exit, evCode_seq, evCode_plain, evCode_draw, evCode_cond, evCode_ret, evCode_skip, evCode_block, evCode_loop, roundK_normal, roundK_exit, roundK_ret, seqK_normal, seqK_exit, seqK_ret, blockK_normal, blockK_exit, blockK_ret, regK_eq, evOps_nil, evOps_cons, params, astep, okDst, isWanted, aop, opnd, ofValue, putT, abin, headS, ofL, noPtr, acall, adopt_bool, adopt_int, adopt_str, adopt_agg, adopt_clip, AV.bare, upd_false, AV.cells, partOf, setCells, fillC, AV.isVal, List.range, List.range.loop, ofB, mayRead, dsts, planRo, capIds, viewed, scalarR, AV.scalar, finK, freezeT, avAll, resOf, outBoxes, relabB, relabL, relab1, noPtr, AV.untup, hw, hs, hd, lw, ls, ld, hf, had, pre_ev, aslice, abound, capture, pieceOf, piece, hyp, hxp, eW, h1]
end Go.Proofs.YtlmmgblghgmgeaaDoor
