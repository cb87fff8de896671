/- The texts WalkE, WalkF, WalkG, WalkH, WalkI, merged. -/
import Derived.Test.YtlmmgblghgmgeaaGreatDoorNae
set_option linter.unusedVariables false
set_option linter.unusedSimpArgs false
/- What a text begins with. -/
namespace Go.Proofs.YtlmmgblghgmgeaaGreatDoor
open Go Ev
set_option maxRecDepth 100000
set_option linter.unusedSimpArgs false

theorem same_ev (b c : UInt8) (s : Str) : evc plan 121 [.int .u8 b.toNat, .eptr [.str (c :: s)]] [] = some (.bool ((b.toNat : Int) == c.toNat), []) := by
  refine evc_start plan (P := Tryz.prog) (ro := planRo) rfl rfl rfl rfl rfl rfl (by simp) rfl ?_
  simp [dFor_none, storeFine_none, dFor_no, storeFine_no, lessL, lkL, evCode_exit, evCode_seq, evCode_plain, evCode_draw, evCode_cond, evCode_ret, evCode_skip, evCode_block, evCode_loop, roundK_normal, roundK_exit, roundK_ret, seqK_normal, seqK_exit, seqK_ret, blockK_normal, blockK_exit, blockK_ret, regK_eq, evOps_nil, evOps_cons, params, astep, okDst, isWanted, aop, opnd, ofValue, putT, abin, headS, ofL, noPtr, acall, adopt_bool, adopt_int, adopt_str, adopt_agg, adopt_clip, AV.bare, upd_false, AV.cells, partOf, setCells, fillC, AV.isVal, List.range, List.range.loop, ofB, mayRead, dsts, planRo, capIds, viewed, scalarR, AV.scalar, finK, freezeT, avAll, resOf, outBoxes, relabB, relabL, relab1, noPtr, AV.untup]
def hasLetter (s : Str) : Bool := decide (0 ≤ Lib.idxFunc (fun x => letterB (x % 256)) true ⟨s.toArray⟩)
def wordOf (t : Str) : Str := t.take (run (fun b => wordB b.toNat) t)
def signOf (c : UInt8) (s : Str) : Nat := run (fun b => (b.toNat : Int) == c.toNat) (c :: s)
def digitsOf (t : Str) : Str := t.take (run (fun b => digitB b.toNat) t)
def pieceOf (c : UInt8) (s : Str) : AV :=
  if hasPre (wordOf (c :: s)) [87, 70, 95] || hasPre (wordOf (c :: s)) [83, 70, 95] then piece 4 3 0
  else if hasLetter (wordOf (c :: s)) then piece (if decide (0 ≤ idxIn (wordOf (c :: s)) reservedL 0) then 1 else 0) (wordOf (c :: s)).length (if decide ((24 : Int) < (wordOf (c :: s)).length) then 7 else 0)
  else if digitB c.toNat then piece 2 (digitsOf (c :: s)).length (numErr (digitsOf (c :: s)))
  else if ((c.toNat : Int) == 34) then textPiece s
  else if isRuleB ((c :: s).take (signOf c s)) then piece 5 (signOf c s) 0
  else symPiece c s
theorem run_le (p : UInt8 → Bool) (s : Str) : run p s ≤ s.length := (List.takeWhile_prefix _).length_le
theorem take_run (p : UInt8 → Bool) (s : Str) : s.take (run p s) = s.takeWhile p := by
  unfold run
  exact (List.prefix_iff_eq_take.1 (List.takeWhile_prefix p)).symm
theorem takeWhile_all (p : UInt8 → Bool) : ∀ l : Str, ∀ b ∈ l.takeWhile p, p b = true
  | [], b, h => by simp at h
  | a :: l, b, h => by
    rw [List.takeWhile_cons] at h
    split at h
    · rename_i ha
      rcases List.mem_cons.1 h with rfl | h
      · exact ha
      · exact takeWhile_all p l b h
    · simp at h
theorem textPiece_is (s : Str) : ∃ a b d, textPiece s = piece a b d := by
  unfold textPiece; split <;> exact ⟨_, _, _, rfl⟩
theorem symPiece_is (c : UInt8) (s : Str) : ∃ a b d, symPiece c s = piece a b d := by
  unfold symPiece; simp only; split <;> exact ⟨_, _, _, rfl⟩
set_option maxHeartbeats 2000000 in
theorem piece_ev (c : UInt8) (s : Str) (hl : s.length < 2 ^ 60) : evc plan 89 [.str (c :: s)] [] = some (pieceOf c s, []) := by
  refine evc_start plan (P := Tryz.prog) (ro := planRo) rfl rfl rfl rfl rfl rfl (by simp) rfl ?_
  have hw := run_ev (c :: s) 120 [] (fun b => wordB b.toNat) (by simp; omega) rfl rfl (fun b => word_ev b)
  have hs := run_ev (c :: s) 121 [.eptr [.str (c :: s)]] (fun b => (b.toNat : Int) == c.toNat) (by simp; omega) rfl rfl (fun b => same_ev b c s)
  have hd := run_ev (c :: s) 125 [] (fun b => digitB b.toNat) (by simp; omega) rfl rfl (fun b => digit_ev b)
  have lw := run_le (fun b => wordB b.toNat) (c :: s)
  have ls := run_le (fun b => (b.toNat : Int) == c.toNat) (c :: s)
  have ld := run_le (fun b => digitB b.toNat) (c :: s)
  simp only [List.length_cons] at lw ls ld
  have hf : ∀ t : Str, evc plan 81 [.str t, .fn 122 []] [] = some (.bool (hasLetter t), []) := fun t => evc_ext plan rfl rfl
  have had : ∀ (d : Nat) (m : Mem) (z : Nat) (els : List (List AV)), adopt d [] m (.sl z els .clip) = some (.sl z els .clip, m) := fun d m z els => by
    simp [adopt, resParts, relabL, relab1, noPtr, freshAll, rowName, resBack, addNames_plain (v := .sl z els .clip) rfl]
  have eW : (c :: s).take (run (fun b => wordB b.toNat) (c :: s)) = wordOf (c :: s) := rfl
  have eD : (c :: s).take (run (fun b => digitB b.toNat) (c :: s)) = digitsOf (c :: s) := rfl
  have eS : run (fun b => (b.toNat : Int) == c.toNat) (c :: s) = signOf c s := rfl
  have hc : evc plan 56 [.sl 1 (strs reservedL) .clip, .str (wordOf (c :: s))] [] = some (.bool (decide (0 ≤ idxIn (wordOf (c :: s)) reservedL 0)), []) := contains_ev _ _ _ (.inl rfl) (by decide)
  have hr := reserved_ev
  have hlw : (wordOf (c :: s)).length < 2 ^ 61 := by unfold wordOf; rw [List.length_take]; simp only [List.length_cons]; omega
  have hdl : (digitsOf (c :: s)).length < 2 ^ 61 := by unfold digitsOf; rw [List.length_take]; simp only [List.length_cons]; omega
  have hn := number_ev (digitsOf (c :: s)) (by omega) (fun b hb => by
    unfold digitsOf at hb
    rw [take_run] at hb
    have := takeWhile_all _ _ b hb
    simp only [digitB, spansB, Bool.and_eq_true, decide_eq_true_eq] at this
    omega)
  have ht := text_ev c s (by omega)
  have hy := symbol_ev c s (by omega)
  have hru := rule_ev ((c :: s).take (signOf c s)) (by rw [List.length_take]; simp only [List.length_cons]; omega)
  rw [eS] at hs ls
  obtain ⟨y1, y2, y3, hyp⟩ := symPiece_is c s
  obtain ⟨x1, x2, x3, hxp⟩ := textPiece_is s
  rw [hyp] at hy
  rw [hxp] at ht
  unfold piece at hy ht hn
  cases h1 : hasPre (wordOf (c :: s)) [87, 70, 95]
  · cases h2 : hasPre (wordOf (c :: s)) [83, 70, 95]
    · cases h3 : hasLetter (wordOf (c :: s))
      · cases h4 : digitB c.toNat
        · cases h5 : ((c.toNat : Int) == 34)
          · cases h6 : isRuleB ((c :: s).take (signOf c s)) <;> simp [dFor_none, storeFine_none, dFor_no, storeFine_no, lessL, lkL, evCode_exit, evCode_seq, evCode_plain, evCode_draw, evCode_cond, evCode_ret, evCode_skip, evCode_block, evCode_loop, roundK_normal, roundK_exit, roundK_ret, seqK_normal, seqK_exit, seqK_ret, blockK_normal, blockK_exit, blockK_ret, regK_eq, evOps_nil, evOps_cons, params, astep, okDst, isWanted, aop, opnd, ofValue, putT, abin, headS, ofL, noPtr, acall, adopt_bool, adopt_int, adopt_str, adopt_agg, adopt_clip, AV.bare, upd_false, AV.cells, partOf, setCells, fillC, AV.isVal, List.range, List.range.loop, ofB, mayRead, dsts, planRo, capIds, viewed, scalarR, AV.scalar, finK, freezeT, avAll, resOf, outBoxes, relabB, relabL, relab1, noPtr, AV.untup, hw, hs, hd, lw, ls, ld, hf, hru, hy, pre_ev, digit_ev, aslice, abound, capture, pieceOf, piece, hyp, hxp, eW, h1, h2, h3, h4, h5, h6]
          · simp [dFor_none, storeFine_none, dFor_no, storeFine_no, lessL, lkL, evCode_exit, evCode_seq, evCode_plain, evCode_draw, evCode_cond, evCode_ret, evCode_skip, evCode_block, evCode_loop, roundK_normal, roundK_exit, roundK_ret, seqK_normal, seqK_exit, seqK_ret, blockK_normal, blockK_exit, blockK_ret, regK_eq, evOps_nil, evOps_cons, params, astep, okDst, isWanted, aop, opnd, ofValue, putT, abin, headS, ofL, noPtr, acall, adopt_bool, adopt_int, adopt_str, adopt_agg, adopt_clip, AV.bare, upd_false, AV.cells, partOf, setCells, fillC, AV.isVal, List.range, List.range.loop, ofB, mayRead, dsts, planRo, capIds, viewed, scalarR, AV.scalar, finK, freezeT, avAll, resOf, outBoxes, relabB, relabL, relab1, noPtr, AV.untup, hw, hs, hd, lw, ls, ld, hf, ht, pre_ev, digit_ev, aslice, abound, capture, pieceOf, piece, hyp, hxp, eW, h1, h2, h3, h4, h5]
        · simp [dFor_none, storeFine_none, dFor_no, storeFine_no, lessL, lkL, evCode_exit, evCode_seq, evCode_plain, evCode_draw, evCode_cond, evCode_ret, evCode_skip, evCode_block, evCode_loop, roundK_normal, roundK_exit, roundK_ret, seqK_normal, seqK_exit, seqK_ret, blockK_normal, blockK_exit, blockK_ret, regK_eq, evOps_nil, evOps_cons, params, astep, okDst, isWanted, aop, opnd, ofValue, putT, abin, headS, ofL, noPtr, acall, adopt_bool, adopt_int, adopt_str, adopt_agg, adopt_clip, AV.bare, upd_false, AV.cells, partOf, setCells, fillC, AV.isVal, List.range, List.range.loop, ofB, mayRead, dsts, planRo, capIds, viewed, scalarR, AV.scalar, finK, freezeT, avAll, resOf, outBoxes, relabB, relabL, relab1, noPtr, AV.untup, hw, hs, hd, lw, ls, ld, hf, hn, pre_ev, digit_ev, aslice, abound, capture, pieceOf, piece, hyp, hxp, eW, eD, h1, h2, h3, h4]
      · cases h4 : decide (0 ≤ idxIn (wordOf (c :: s)) reservedL 0) <;> cases h5 : decide ((24 : Int) < (wordOf (c :: s)).length) <;> simp [dFor_none, storeFine_none, dFor_no, storeFine_no, lessL, lkL, evCode_exit, evCode_seq, evCode_plain, evCode_draw, evCode_cond, evCode_ret, evCode_skip, evCode_block, evCode_loop, roundK_normal, roundK_exit, roundK_ret, seqK_normal, seqK_exit, seqK_ret, blockK_normal, blockK_exit, blockK_ret, regK_eq, evOps_nil, evOps_cons, params, astep, okDst, isWanted, aop, opnd, ofValue, putT, abin, headS, ofL, noPtr, acall, adopt_bool, adopt_int, adopt_str, adopt_agg, adopt_clip, AV.bare, upd_false, AV.cells, partOf, setCells, fillC, AV.isVal, List.range, List.range.loop, ofB, mayRead, dsts, planRo, capIds, viewed, scalarR, AV.scalar, finK, freezeT, avAll, resOf, outBoxes, relabB, relabL, relab1, noPtr, AV.untup, hw, hs, hd, lw, ls, ld, hf, had, hr, hc, pre_ev, wrong_ev, aslice, abound, capture, pieceOf, piece, hyp, hxp, eW, h1, h2, h3, h4, h5]
    · simp [dFor_none, storeFine_none, dFor_no, storeFine_no, lessL, lkL, evCode_exit, evCode_seq, evCode_plain, evCode_draw, evCode_cond, evCode_ret, evCode_skip, evCode_block, evCode_loop, roundK_normal, roundK_exit, roundK_ret, seqK_normal, seqK_exit, seqK_ret, blockK_normal, blockK_exit, blockK_ret, regK_eq, evOps_nil, evOps_cons, params, astep, okDst, isWanted, aop, opnd, ofValue, putT, abin, headS, ofL, noPtr, acall, adopt_bool, adopt_int, adopt_str, adopt_agg, adopt_clip, AV.bare, upd_false, AV.cells, partOf, setCells, fillC, AV.isVal, List.range, List.range.loop, ofB, mayRead, dsts, planRo, capIds, viewed, scalarR, AV.scalar, finK, freezeT, avAll, resOf, outBoxes, relabB, relabL, relab1, noPtr, AV.untup, hw, hs, hd, lw, ls, ld, hf, had, pre_ev, aslice, abound, capture, pieceOf, piece, hyp, hxp, eW, h1, h2]
  · simp [dFor_none, storeFine_none, dFor_no, storeFine_no, lessL, lkL, evCode_exit, evCode_seq, evCode_plain, evCode_draw, evCode_cond, evCode_ret, evCode_skip, evCode_block, evCode_loop, roundK_normal, roundK_exit, roundK_ret, seqK_normal, seqK_exit, seqK_ret, blockK_normal, blockK_exit, blockK_ret, regK_eq, evOps_nil, evOps_cons, params, astep, okDst, isWanted, aop, opnd, ofValue, putT, abin, headS, ofL, noPtr, acall, adopt_bool, adopt_int, adopt_str, adopt_agg, adopt_clip, AV.bare, upd_false, AV.cells, partOf, setCells, fillC, AV.isVal, List.range, List.range.loop, ofB, mayRead, dsts, planRo, capIds, viewed, scalarR, AV.scalar, finK, freezeT, avAll, resOf, outBoxes, relabB, relabL, relab1, noPtr, AV.untup, hw, hs, hd, lw, ls, ld, hf, had, pre_ev, aslice, abound, capture, pieceOf, piece, hyp, hxp, eW, h1]
end Go.Proofs.YtlmmgblghgmgeaaGreatDoor

/- The reader, step by step. -/
namespace Go.Proofs.YtlmmgblghgmgeaaGreatDoor
open Go Ev
set_option maxRecDepth 100000
set_option linter.unusedSimpArgs false

theorem over_ev (l : List Str) (tk : Tok) (i j : Nat) (x y : AV) : evc plan 67 [.eptr [.sl 1 (strs l) tk, .int .i64 i, .int .i64 j, x, y]] [] = some (.bool (decide (l.length ≤ i)), []) := by
  refine evc_start plan (P := Tryz.prog) (ro := planRo) rfl rfl rfl rfl rfl rfl (by simp) rfl ?_
  simp [dFor_none, storeFine_none, dFor_no, storeFine_no, lessL, lkL, evCode_exit, evCode_seq, evCode_plain, evCode_draw, evCode_cond, evCode_ret, evCode_skip, evCode_block, evCode_loop, roundK_normal, roundK_exit, roundK_ret, seqK_normal, seqK_exit, seqK_ret, blockK_normal, blockK_exit, blockK_ret, regK_eq, evOps_nil, evOps_cons, params, astep, okDst, isWanted, aop, opnd, ofValue, putT, abin, headS, ofL, noPtr, acall, adopt_bool, adopt_int, adopt_str, adopt_agg, adopt_clip, AV.bare, upd_false, AV.cells, partOf, setCells, fillC, AV.isVal, List.range, List.range.loop, ofB, mayRead, dsts, planRo, capIds, viewed, scalarR, AV.scalar, finK, freezeT, avAll, resOf, outBoxes, relabB, relabL, relab1, noPtr, AV.untup, strs]
theorem rest_ev (l : List Str) (tk : Tok) (i j : Nat) (x y : AV) (hi : i < l.length) (hj : j ≤ l[i].length) : evc plan 85 [.eptr [.sl 1 (strs l) tk, .int .i64 i, .int .i64 j, x, y]] [] = some (.str (l[i].drop j), []) := by
  refine evc_start plan (P := Tryz.prog) (ro := planRo) rfl rfl rfl rfl rfl rfl (by simp) rfl ?_
  simp [dFor_none, storeFine_none, dFor_no, storeFine_no, lessL, lkL, evCode_exit, evCode_seq, evCode_plain, evCode_draw, evCode_cond, evCode_ret, evCode_skip, evCode_block, evCode_loop, roundK_normal, roundK_exit, roundK_ret, seqK_normal, seqK_exit, seqK_ret, blockK_normal, blockK_exit, blockK_ret, regK_eq, evOps_nil, evOps_cons, params, astep, okDst, isWanted, aop, opnd, ofValue, putT, abin, headS, ofL, noPtr, acall, adopt_bool, adopt_int, adopt_str, adopt_agg, adopt_clip, AV.bare, upd_false, AV.cells, partOf, setCells, fillC, AV.isVal, List.range, List.range.loop, ofB, mayRead, dsts, planRo, capIds, viewed, scalarR, AV.scalar, finK, freezeT, avAll, resOf, outBoxes, relabB, relabL, relab1, noPtr, AV.untup, strs, hi, hj, aslice, abound]
/-- The reader's box, as a function is handed it. -/
def rd (l : List Str) (tk : Tok) (i j : Int) (ts cs : List (List AV)) : Box := [.sl 1 (strs l) tk, .int .i64 i, .int .i64 j, .sl 4 ts (.row 1000000 4), .sl 4 cs (.row 1000000 5)]
theorem advance_ev (l : List Str) (tk : Tok) (ht : tk = .clip ∨ tk = .none) (i j n : Int) (ts cs : List (List AV)) (h1 : -2 ^ 62 ≤ j + n) (h2 : j + n < 2 ^ 62) :
    evc plan 87 [.ptr 0 0, .int .i64 n] [(0, rd l tk i j ts cs)] = some (.tup [], [(0, rd l tk i (j + n) ts cs)]) := by
  refine evc_start plan (P := Tryz.prog) (ro := planRo) rfl rfl rfl rfl rfl rfl (by simp) rfl ?_
  have w1 : IntKind.i64.wrap (j + n) = j + n := wrap_i64 (by omega) (by omega)
  rcases ht with rfl | rfl <;> simp [dFor_none, storeFine_none, dFor_no, storeFine_no, lessL, lkL, evCode_exit, evCode_seq, evCode_plain, evCode_draw, evCode_cond, evCode_ret, evCode_skip, evCode_block, evCode_loop, roundK_normal, roundK_exit, roundK_ret, seqK_normal, seqK_exit, seqK_ret, blockK_normal, blockK_exit, blockK_ret, regK_eq, evOps_nil, evOps_cons, params, astep, okDst, isWanted, aop, opnd, ofValue, putT, abin, headS, ofL, noPtr, acall, adopt_bool, adopt_int, adopt_str, adopt_agg, adopt_clip, AV.bare, upd_false, AV.cells, partOf, setCells, fillC, AV.isVal, List.range, List.range.loop, ofB, mayRead, dsts, planRo, capIds, viewed, scalarR, AV.scalar, finK, freezeT, avAll, resOf, outBoxes, relabB, relabL, relab1, noPtr, AV.untup, strs, rd, w1, boxName, cellsOfB, namesOf, rowName]
theorem turn_ev (l : List Str) (tk : Tok) (ht : tk = .clip ∨ tk = .none) (i j : Int) (ts cs : List (List AV)) (h1 : -2 ^ 62 ≤ i) (h2 : i < 2 ^ 62) :
    evc plan 86 [.ptr 0 0] [(0, rd l tk i j ts cs)] = some (.tup [], [(0, rd l tk (i + 1) 0 ts cs)]) := by
  refine evc_start plan (P := Tryz.prog) (ro := planRo) rfl rfl rfl rfl rfl rfl (by simp) rfl ?_
  have w1 : IntKind.i64.wrap (i + 1) = i + 1 := wrap_i64 (by omega) (by omega)
  rcases ht with rfl | rfl <;> simp [dFor_none, storeFine_none, dFor_no, storeFine_no, lessL, lkL, evCode_exit, evCode_seq, evCode_plain, evCode_draw, evCode_cond, evCode_ret, evCode_skip, evCode_block, evCode_loop, roundK_normal, roundK_exit, roundK_ret, seqK_normal, seqK_exit, seqK_ret, blockK_normal, blockK_exit, blockK_ret, regK_eq, evOps_nil, evOps_cons, params, astep, okDst, isWanted, aop, opnd, ofValue, putT, abin, headS, ofL, noPtr, acall, adopt_bool, adopt_int, adopt_str, adopt_agg, adopt_clip, AV.bare, upd_false, AV.cells, partOf, setCells, fillC, AV.isVal, List.range, List.range.loop, ofB, mayRead, dsts, planRo, capIds, viewed, scalarR, AV.scalar, finK, freezeT, avAll, resOf, outBoxes, relabB, relabL, relab1, noPtr, AV.untup, strs, rd, w1, boxName, cellsOfB, namesOf, rowName]
end Go.Proofs.YtlmmgblghgmgeaaGreatDoor

/- Comments. -/
namespace Go.Proofs.YtlmmgblghgmgeaaGreatDoor
open Go Ev
set_option maxRecDepth 100000
set_option linter.unusedSimpArgs false

/-- How much is left of a text, from a place on. -/
def left (l : List Str) (i j : Nat) : Nat := ((l.drop i).map fun s => s.length + 1).sum - j
theorem left_here (l : List Str) (i : Nat) (h : i < l.length) : ((l.drop i).map fun s => s.length + 1).sum = l[i].length + 1 + ((l.drop (i + 1)).map fun s => s.length + 1).sum := by
  rw [List.drop_eq_getElem_cons h, List.map_cons, List.sum_cons]
/-- A comment, read on from a place in it: does it end, and where. -/
def comGo (l : List Str) : Nat → Nat → Nat → Int → Bool × Nat × Nat
  | 0, i, j, _ => (false, i, j)
  | n + 1, i, j, d =>
    if h : i < l.length then
      (if l[i].drop j == [] then comGo l n (i + 1) 0 d
      else if hasPre (l[i].drop j) [40, 42] then comGo l n i (j + 2) (d + 1)
      else if hasPre (l[i].drop j) [42, 41] then (if d - 1 == 0 then (true, i, j + 2) else comGo l n i (j + 2) (d - 1))
      else comGo l n i (j + 1) d)
    else (false, i, j)
theorem comment_ev (l : List Str) (tk : Tok) (ht : tk = .clip ∨ tk = .none) (i j : Nat) (ts cs : List (List AV)) (hl : l.length < 2 ^ 40) (hc : ∀ s ∈ l, s.length < 2 ^ 40) (hj : ∀ h : i < l.length, j ≤ l[i].length) (n : Nat) (hn : left l i j < n) (hn2 : n < 2 ^ 60) :
    evc plan 88 [.ptr 0 0] [(0, rd l tk i j ts cs)] = some (.bool (comGo l n i j 0).1, [(0, rd l tk (comGo l n i j 0).2.1 (comGo l n i j 0).2.2 ts cs)]) := by
  refine evc_start plan (P := Tryz.prog) (ro := planRo) rfl rfl rfl rfl rfl rfl (by simp) rfl ?_
  generalize hR : comGo l n i j 0 = R
  simp [dFor_none, storeFine_none, dFor_no, storeFine_no, lessL, lkL, evCode_exit, evCode_seq, evCode_plain, evCode_draw, evCode_cond, evCode_ret, evCode_skip, evCode_block, evCode_loop, roundK_normal, roundK_exit, roundK_ret, seqK_normal, seqK_exit, seqK_ret, blockK_normal, blockK_exit, blockK_ret, regK_eq, evOps_nil, evOps_cons, params, astep, okDst, isWanted, aop, opnd, ofValue, putT, abin, headS, ofL, noPtr, acall, adopt_bool, adopt_int, adopt_str, adopt_agg, adopt_clip, AV.bare, upd_false, AV.cells, partOf, setCells, fillC, AV.isVal, List.range, List.range.loop, ofB, mayRead, dsts, planRo, capIds, viewed, scalarR, AV.scalar]
  refine loop_by (fun (q : Nat × Nat × Nat × Int) => q.1) (fun q t m => left l q.2.1 q.2.2.1 < q.1 ∧ q.2.2.2.natAbs + q.1 ≤ n ∧ (∀ h : q.2.1 < l.length, q.2.2.1 ≤ l[q.2.1].length) ∧ comGo l q.1 q.2.1 q.2.2.1 q.2.2.2 = R ∧ clean (lvComment 2) t m = headS [(0, .ptr 0 0), (3, .int .i64 q.2.2.2)] [(0, rd l tk q.2.1 q.2.2.1 ts cs)]) ?_ (n, i, j, 0) ?_
  · rintro ⟨k, i, j, d⟩ t m ⟨hk, hd, hj, hr, hS⟩ ih
    simp only at hk hd hj hr hS ih
    refine round_of hS ?_
    by_cases h1 : i < l.length
    · have h1' : ¬ l.length ≤ i := by omega
      have hj := hj h1
      have hlen := hc l[i] (List.getElem_mem h1)
      have hb : ∀ x y : AV, evc plan 85 [.eptr [.sl 1 (strs l) tk, .int .i64 i, .int .i64 j, x, y]] [] = some (.str (l[i].drop j), []) := fun x y => rest_ev l tk i j x y h1 hj
      have w1 : IntKind.i64.wrap (d + 1) = d + 1 := wrap_i64 (by omega) (by omega)
      have w2 : IntKind.i64.wrap (d - 1) = d - 1 := wrap_i64 (by omega) (by omega)
      have e1 := turn_ev l tk ht i j ts cs (by omega) (by omega)
      have e2 := advance_ev l tk ht i j 2 ts cs (by omega) (by omega)
      have e3 := advance_ev l tk ht i j 1 ts cs (by omega) (by omega)
      unfold rd at e1 e2 e3
      have hlh := left_here l i h1
      obtain ⟨k, rfl⟩ : ∃ k', k = k' + 1 := ⟨k - 1, by omega⟩
      simp only [comGo, h1, dif_pos] at hr
      have hne : (l[i].drop j == []) = false → j < l[i].length := fun h => by
        rcases Nat.lt_or_ge j l[i].length with h' | h'
        · exact h'
        · rw [List.drop_eq_nil_of_le h'] at h; simp at h
      have two_le : ∀ {a b : UInt8}, hasPre (l[i].drop j) [a, b] = true → j + 2 ≤ l[i].length := fun h => by
        simp only [hasPre, Bool.and_eq_true, decide_eq_true_eq, List.length_cons, List.length_nil, List.length_drop] at h
        omega
      unfold left at hk
      cases h2 : (l[i].drop j == [])
      · have hjl := hne h2
        cases h3 : hasPre (l[i].drop j) [40, 42]
        · cases h4 : hasPre (l[i].drop j) [42, 41]
          · simp only [h2, h3, h4, Bool.false_eq_true, if_false] at hr
            rcases ht with rfl | rfl <;> simp [dFor_none, storeFine_none, dFor_no, storeFine_no, lessL, lkL, evCode_exit, evCode_seq, evCode_plain, evCode_draw, evCode_cond, evCode_ret, evCode_skip, evCode_block, evCode_loop, roundK_normal, roundK_exit, roundK_ret, seqK_normal, seqK_exit, seqK_ret, blockK_normal, blockK_exit, blockK_ret, regK_eq, evOps_nil, evOps_cons, params, astep, okDst, isWanted, aop, opnd, ofValue, putT, abin, headS, ofL, noPtr, acall, adopt_bool, adopt_int, adopt_str, adopt_agg, adopt_clip, AV.bare, upd_false, AV.cells, partOf, setCells, fillC, AV.isVal, List.range, List.range.loop, ofB, mayRead, dsts, planRo, capIds, viewed, scalarR, AV.scalar, passed, setBoxes, killNames, addNames, freshAll, adopt, resParts, resBack, relabB, relabL, relab1, namesOf, cellsOfB, rowName, boxName, over_ev, hb, h1', h2, h3, h4, pre_ev, e3, rd]
            all_goals refine ih (k, i, j + 1, d) _ _ (by simp) ⟨by simp only [left]; omega, by simp only; omega, fun _ => by simp only; omega, hr, ?_⟩
            all_goals simp [clean, keepBoxes, relabB, relabL, relab1, cleanS, fixPtr, headS, ofL, ofB, cellsOfB, namesOf, rowName, upd_false, AV.cells, passed, setBoxes, killNames, addNames, freshAll, adopt, resParts, resBack, relabB, relabL, relab1, namesOf, cellsOfB, rowName, boxName, lvComment, lvL, rd, growOf]
          · simp only [h2, h3, h4, Bool.false_eq_true, if_false, if_true] at hr
            cases h5 : (d - 1 == 0)
            · simp only [h5, Bool.false_eq_true, if_false] at hr
              rcases ht with rfl | rfl <;> simp [dFor_none, storeFine_none, dFor_no, storeFine_no, lessL, lkL, evCode_exit, evCode_seq, evCode_plain, evCode_draw, evCode_cond, evCode_ret, evCode_skip, evCode_block, evCode_loop, roundK_normal, roundK_exit, roundK_ret, seqK_normal, seqK_exit, seqK_ret, blockK_normal, blockK_exit, blockK_ret, regK_eq, evOps_nil, evOps_cons, params, astep, okDst, isWanted, aop, opnd, ofValue, putT, abin, headS, ofL, noPtr, acall, adopt_bool, adopt_int, adopt_str, adopt_agg, adopt_clip, AV.bare, upd_false, AV.cells, partOf, setCells, fillC, AV.isVal, List.range, List.range.loop, ofB, mayRead, dsts, planRo, capIds, viewed, scalarR, AV.scalar, passed, setBoxes, killNames, addNames, freshAll, adopt, resParts, resBack, relabB, relabL, relab1, namesOf, cellsOfB, rowName, boxName, over_ev, hb, h1', h2, h3, h4, h5, w2, pre_ev, e2, rd]
              all_goals refine ih (k, i, j + 2, d - 1) _ _ (by simp) ⟨by simp only [left]; have := two_le h4; omega, by simp only; omega, fun _ => by simp only; have := two_le h4; omega, hr, ?_⟩
              all_goals simp [clean, keepBoxes, relabB, relabL, relab1, cleanS, fixPtr, headS, ofL, ofB, cellsOfB, namesOf, rowName, upd_false, AV.cells, passed, setBoxes, killNames, addNames, freshAll, adopt, resParts, resBack, relabB, relabL, relab1, namesOf, cellsOfB, rowName, boxName, lvComment, lvL, rd, growOf]
            · simp only [h5, if_true] at hr
              subst hr
              rcases ht with rfl | rfl <;> simp [dFor_none, storeFine_none, dFor_no, storeFine_no, lessL, lkL, evCode_exit, evCode_seq, evCode_plain, evCode_draw, evCode_cond, evCode_ret, evCode_skip, evCode_block, evCode_loop, roundK_normal, roundK_exit, roundK_ret, seqK_normal, seqK_exit, seqK_ret, blockK_normal, blockK_exit, blockK_ret, regK_eq, evOps_nil, evOps_cons, params, astep, okDst, isWanted, aop, opnd, ofValue, putT, abin, headS, ofL, noPtr, acall, adopt_bool, adopt_int, adopt_str, adopt_agg, adopt_clip, AV.bare, upd_false, AV.cells, partOf, setCells, fillC, AV.isVal, List.range, List.range.loop, ofB, mayRead, dsts, planRo, capIds, viewed, scalarR, AV.scalar, passed, setBoxes, killNames, addNames, freshAll, adopt, resParts, resBack, relabB, relabL, relab1, namesOf, cellsOfB, rowName, boxName, finK, freezeT, avAll, resOf, outBoxes, relabB, relabL, relab1, noPtr, AV.untup, over_ev, hb, h1', h2, h3, h4, h5, w2, pre_ev, e2, rd]
        · simp only [h2, h3, Bool.false_eq_true, if_false, if_true] at hr
          rcases ht with rfl | rfl <;> simp [dFor_none, storeFine_none, dFor_no, storeFine_no, lessL, lkL, evCode_exit, evCode_seq, evCode_plain, evCode_draw, evCode_cond, evCode_ret, evCode_skip, evCode_block, evCode_loop, roundK_normal, roundK_exit, roundK_ret, seqK_normal, seqK_exit, seqK_ret, blockK_normal, blockK_exit, blockK_ret, regK_eq, evOps_nil, evOps_cons, params, astep, okDst, isWanted, aop, opnd, ofValue, putT, abin, headS, ofL, noPtr, acall, adopt_bool, adopt_int, adopt_str, adopt_agg, adopt_clip, AV.bare, upd_false, AV.cells, partOf, setCells, fillC, AV.isVal, List.range, List.range.loop, ofB, mayRead, dsts, planRo, capIds, viewed, scalarR, AV.scalar, passed, setBoxes, killNames, addNames, freshAll, adopt, resParts, resBack, relabB, relabL, relab1, namesOf, cellsOfB, rowName, boxName, over_ev, hb, h1', h2, h3, w1, pre_ev, e2, rd]
          all_goals refine ih (k, i, j + 2, d + 1) _ _ (by simp) ⟨by simp only [left]; have := two_le h3; omega, by simp only; omega, fun _ => by simp only; have := two_le h3; omega, hr, ?_⟩
          all_goals simp [clean, keepBoxes, relabB, relabL, relab1, cleanS, fixPtr, headS, ofL, ofB, cellsOfB, namesOf, rowName, upd_false, AV.cells, passed, setBoxes, killNames, addNames, freshAll, adopt, resParts, resBack, relabB, relabL, relab1, namesOf, cellsOfB, rowName, boxName, lvComment, lvL, rd, growOf]
      · simp only [h2, if_true] at hr
        rcases ht with rfl | rfl <;> simp [dFor_none, storeFine_none, dFor_no, storeFine_no, lessL, lkL, evCode_exit, evCode_seq, evCode_plain, evCode_draw, evCode_cond, evCode_ret, evCode_skip, evCode_block, evCode_loop, roundK_normal, roundK_exit, roundK_ret, seqK_normal, seqK_exit, seqK_ret, blockK_normal, blockK_exit, blockK_ret, regK_eq, evOps_nil, evOps_cons, params, astep, okDst, isWanted, aop, opnd, ofValue, putT, abin, headS, ofL, noPtr, acall, adopt_bool, adopt_int, adopt_str, adopt_agg, adopt_clip, AV.bare, upd_false, AV.cells, partOf, setCells, fillC, AV.isVal, List.range, List.range.loop, ofB, mayRead, dsts, planRo, capIds, viewed, scalarR, AV.scalar, passed, setBoxes, killNames, addNames, freshAll, adopt, resParts, resBack, relabB, relabL, relab1, namesOf, cellsOfB, rowName, boxName, over_ev, hb, h1', h2, pre_ev, e1, rd]
        all_goals refine ih (k, i + 1, 0, d) _ _ (by simp) ⟨by simp only [left]; omega, by simp only; omega, fun _ => by simp only; omega, hr, ?_⟩
        all_goals simp [clean, keepBoxes, relabB, relabL, relab1, cleanS, fixPtr, headS, ofL, ofB, cellsOfB, namesOf, rowName, upd_false, AV.cells, passed, setBoxes, killNames, addNames, freshAll, adopt, resParts, resBack, relabB, relabL, relab1, namesOf, cellsOfB, rowName, boxName, lvComment, lvL, rd, growOf]
    · obtain ⟨k, rfl⟩ : ∃ k', k = k' + 1 := ⟨k - 1, by omega⟩
      simp only [comGo, h1, dif_neg, not_false_eq_true] at hr
      subst hr
      have h1' : l.length ≤ i := by omega
      rcases ht with rfl | rfl <;> simp [dFor_none, storeFine_none, dFor_no, storeFine_no, lessL, lkL, evCode_exit, evCode_seq, evCode_plain, evCode_draw, evCode_cond, evCode_ret, evCode_skip, evCode_block, evCode_loop, roundK_normal, roundK_exit, roundK_ret, seqK_normal, seqK_exit, seqK_ret, blockK_normal, blockK_exit, blockK_ret, regK_eq, evOps_nil, evOps_cons, params, astep, okDst, isWanted, aop, opnd, ofValue, putT, abin, headS, ofL, noPtr, acall, adopt_bool, adopt_int, adopt_str, adopt_agg, adopt_clip, AV.bare, upd_false, AV.cells, partOf, setCells, fillC, AV.isVal, List.range, List.range.loop, ofB, mayRead, dsts, planRo, capIds, viewed, scalarR, AV.scalar, passed, setBoxes, killNames, addNames, freshAll, adopt, resParts, resBack, relabB, relabL, relab1, namesOf, cellsOfB, rowName, boxName, finK, freezeT, avAll, resOf, outBoxes, relabB, relabL, relab1, noPtr, AV.untup, over_ev, h1', rd]
  · refine ⟨hn, by simp, hj, hR, ?_⟩
    rcases ht with rfl | rfl <;> simp [clean, keepBoxes, relabB, relabL, relab1, cleanS, fixPtr, headS, ofL, ofB, cellsOfB, namesOf, rowName, upd_false, AV.cells, lvComment, lvL, rd, strs, boxName]
end Go.Proofs.YtlmmgblghgmgeaaGreatDoor

/- What comes next in a text. -/
namespace Go.Proofs.YtlmmgblghgmgeaaGreatDoor
open Go Ev
set_option maxRecDepth 100000
set_option linter.unusedSimpArgs false

structure Pc where
  kind : Int
  len : Int
  err : Int
def textT (s : Str) : Pc :=
  if Lib.indexByte s 34 < 0 then ⟨0, 0, 15⟩
  else ⟨3, Lib.indexByte s 34 + 2, firstOf [if decide (0 ≤ Lib.indexByte (s.take (Lib.indexByte s 34).toNat) 92) then 8 else 0, if decide (40 < Lib.indexByte s 34) then 2 else 0]⟩
def symT (c : UInt8) (s : Str) : Pc :=
  let n := longest (c :: s) (longest (c :: s) 0 plainL) (othersL.map (·.1))
  let k : Int := run (fun b => letterB b.toNat) s
  if ((c.toNat : Int) == 92) && decide (k > 0) then ⟨4, k + 1, if (n != k + 1) then 8 else 0⟩ else ⟨4, n, if (n == 0) then 8 else 0⟩
def pieceT (c : UInt8) (s : Str) : Pc :=
  if hasPre (wordOf (c :: s)) [87, 70, 95] || hasPre (wordOf (c :: s)) [83, 70, 95] then ⟨4, 3, 0⟩
  else if hasLetter (wordOf (c :: s)) then ⟨if decide (0 ≤ idxIn (wordOf (c :: s)) reservedL 0) then 1 else 0, (wordOf (c :: s)).length, if decide ((24 : Int) < (wordOf (c :: s)).length) then 7 else 0⟩
  else if digitB c.toNat then ⟨2, (digitsOf (c :: s)).length, numErr (digitsOf (c :: s))⟩
  else if ((c.toNat : Int) == 34) then textT s
  else if isRuleB ((c :: s).take (signOf c s)) then ⟨5, signOf c s, 0⟩
  else symT c s
theorem pieceOf_eq (c : UInt8) (s : Str) : pieceOf c s = piece (pieceT c s).kind (pieceT c s).len (pieceT c s).err := by
  have h1 : textPiece s = piece (textT s).kind (textT s).len (textT s).err := by unfold textPiece textT; split <;> rfl
  have h2 : symPiece c s = piece (symT c s).kind (symT c s).len (symT c s).err := by unfold symPiece symT; simp only; split <;> rfl
  unfold pieceOf pieceT
  rw [h1, h2]
  split
  · rfl
  split
  · rfl
  split
  · rfl
  split
  · rfl
  split <;> rfl
theorem hasPre_len {s p : Str} (h : hasPre s p = true) : p.length ≤ s.length := by
  simp only [hasPre, Bool.and_eq_true, decide_eq_true_eq] at h
  exact h.1
theorem longest_range (s : Str) : ∀ (l : List Str) (n : Int), 0 ≤ n → n ≤ s.length → 0 ≤ longest s n l ∧ longest s n l ≤ s.length
  | [], n, h1, h2 => ⟨h1, h2⟩
  | x :: l, n, h1, h2 => by
    show 0 ≤ longest s (if hasPre s x then maxI n x.length else n) l ∧ longest s (if hasPre s x then maxI n x.length else n) l ≤ s.length
    cases h : hasPre s x with
    | false => exact longest_range s l n h1 h2
    | true =>
      have := hasPre_len h
      refine longest_range s l _ ?_ ?_ <;> simp only [if_true, maxI] <;> split <;> omega
theorem indexByte_found (s : Str) (b : UInt8) (h : ¬ Lib.indexByte s b < 0) : Lib.indexByte s b < s.length := by
  induction s with
  | nil => simp [Lib.indexByte] at h
  | cons x s ih =>
    simp only [Lib.indexByte, List.length_cons] at h ⊢
    split
    · omega
    · rename_i hx
      rw [if_neg hx] at h
      by_cases h2 : Lib.indexByte s b = -1
      · simp [h2] at h
      · have h3 := (indexByte_lt s b).1
        have h4 := ih (by omega)
        simp [h2]
        omega
theorem take_len (p : UInt8 → Bool) (s : Str) : (s.take (run p s)).length = run p s := by
  rw [List.length_take]; have := run_le p s; omega
theorem pieceT_len (c : UInt8) (s : Str) (h : (pieceT c s).err = 0) : 0 < (pieceT c s).len ∧ (pieceT c s).len ≤ s.length + 1 := by
  have lw : (wordOf (c :: s)).length ≤ s.length + 1 := by
    unfold wordOf; rw [take_len]; exact run_le (fun b => wordB b.toNat) (c :: s)
  have ld : (digitsOf (c :: s)).length ≤ s.length + 1 := by
    unfold digitsOf; rw [take_len]; exact run_le (fun b => digitB b.toNat) (c :: s)
  have ls : signOf c s ≤ s.length + 1 := run_le _ _
  unfold pieceT at h ⊢
  split at h
  · rename_i h1
    rw [if_pos h1]
    rcases Bool.or_eq_true_iff.1 h1 with h2 | h2 <;> have := hasPre_len h2 <;> simp only [List.length_cons, List.length_nil] at this <;> simp only <;> omega
  · rename_i h1
    rw [if_neg h1]
    split at h
    · rename_i h2
      rw [if_pos h2]
      simp only
      have : wordOf (c :: s) ≠ [] := fun he => by rw [he] at h2; exact absurd h2 (by decide)
      have := List.length_pos_iff.2 this
      omega
    · rename_i h2
      rw [if_neg h2]
      split at h
      · rename_i h3
        rw [if_pos h3]
        simp only
        have : 0 < (digitsOf (c :: s)).length := by
          unfold digitsOf; rw [take_len]
          unfold run
          rw [List.takeWhile_cons, if_pos h3]; simp
        omega
      · rename_i h3
        rw [if_neg h3]
        split at h
        · rename_i h4
          rw [if_pos h4]
          unfold textT at h ⊢
          split at h
          · simp at h
          · rename_i h5
            rw [if_neg h5]
            have := indexByte_found s 34 h5
            simp only; omega
        · rename_i h4
          rw [if_neg h4]
          split at h
          · rename_i h5
            rw [if_pos h5]
            have : 0 < signOf c s := by
              unfold signOf run
              rw [List.takeWhile_cons, if_pos (by simp)]; simp
            simp only; omega
          · rename_i h5
            rw [if_neg h5]
            have l0 := longest_range (c :: s) plainL 0 (by omega) (by omega)
            have l1 := longest_range (c :: s) (othersL.map (·.1)) _ l0.1 l0.2
            have lk := run_le (fun b => letterB b.toNat) s
            unfold symT at h ⊢
            simp only at h ⊢
            simp only [List.length_cons] at l1
            split at h
            · rename_i h6
              rw [if_pos h6]
              simp only [Bool.and_eq_true, decide_eq_true_eq] at h6
              simp only; omega
            · rename_i h6
              rw [if_neg h6]
              simp only at h ⊢
              split at h
              · simp at h
              · rename_i h7
                simp only [beq_iff_eq] at h7
                omega
end Go.Proofs.YtlmmgblghgmgeaaGreatDoor

/- One step of the reader. -/
namespace Go.Proofs.YtlmmgblghgmgeaaGreatDoor
open Go Ev
set_option maxRecDepth 100000
set_option linter.unusedSimpArgs false

structure Tk where
  kind : Int
  text : Str
  line : Int
  col : Int
  deriving DecidableEq
structure Sp where
  l0 : Nat
  c0 : Nat
  l1 : Nat
  c1 : Nat
  deriving DecidableEq
def tkC (t : Tk) : List AV := [.int .i64 t.kind, .str t.text, .int .i64 t.line, .int .i64 t.col]
def spC (s : Sp) : List AV := [.int .i64 s.l0, .int .i64 s.c0, .int .i64 s.l1, .int .i64 s.c1]
/-- Where a reader is, and what it has read. -/
structure St where
  i : Nat
  j : Nat
  ts : List Tk
  cs : List Sp
def rdS (l : List Str) (tk : Tok) (s : St) : Box := rd l tk s.i s.j (s.ts.map tkC) (s.cs.map spC)
/-- What comes next: the error, and the reader behind it. -/
def nextGo (l : List Str) (n : Nat) (s : St) : Int × St :=
  match (l.getD s.i []).drop s.j with
  | [] => (0, { s with i := s.i + 1, j := 0 })
  | c :: r =>
    if (c.toNat : Int) == 32 then (0, { s with j := s.j + 1 })
    else if hasPre (c :: r) [40, 42] then
      (if (comGo l n s.i s.j 0).1 then (0, { s with i := (comGo l n s.i s.j 0).2.1, j := (comGo l n s.i s.j 0).2.2, cs := s.cs ++ [⟨s.i, s.j, (comGo l n s.i s.j 0).2.1, (comGo l n s.i s.j 0).2.2⟩] }) else (15, s))
    else if hasPre (c :: r) [92, 42] then (0, { s with j := s.j + (r.length + 1), cs := s.cs ++ [⟨s.i, s.j, s.i, s.j + (r.length + 1)⟩] })
    else if hasPre (c :: r) [42, 41] then (8, s)
    else if (pieceT c r).err != 0 then ((pieceT c r).err, s)
    else (0, { s with j := s.j + (pieceT c r).len.toNat, ts := s.ts ++ [⟨(pieceT c r).kind, (c :: r).take (pieceT c r).len.toNat, s.i, s.j⟩] })
def lineLen (l : List Str) (i : Nat) : Nat := (l.getD i []).length
theorem lineLen_eq (l : List Str) (i : Nat) (h : i < l.length) : lineLen l i = l[i].length := by simp [lineLen, List.getD_eq_getElem?_getD, h]
theorem left_line (l : List Str) (i j : Nat) (h : i < l.length) (hj : j ≤ lineLen l i) : left l i j = lineLen l i + 1 + left l (i + 1) 0 - j := by
  unfold left; rw [left_here l i h, lineLen_eq l i h]; omega
theorem left_step (l : List Str) (i j k : Nat) (h : i < l.length) (hj : j + k ≤ lineLen l i) : left l i (j + k) + k = left l i j := by
  rw [left_line l i j h (by omega), left_line l i (j + k) h hj]; omega
theorem left_turn (l : List Str) (i j : Nat) (h : i < l.length) (hj : j ≤ lineLen l i) : left l (i + 1) 0 < left l i j := by
  rw [left_line l i j h hj]; omega
theorem hasPre_two {s : Str} {j : Nat} {a b : UInt8} (h : hasPre (s.drop j) [a, b] = true) : j + 2 ≤ s.length := by
  simp only [hasPre, Bool.and_eq_true, decide_eq_true_eq, List.length_cons, List.length_nil, List.length_drop] at h
  omega
theorem drop_ne {s : Str} {j : Nat} (h : ¬ (s.drop j == []) = true) : j + 1 ≤ s.length := by
  rcases Nat.lt_or_ge j s.length with h' | h'
  · exact h'
  · rw [List.drop_eq_nil_of_le h'] at h; simp at h
theorem comGo_range (l : List Str) : ∀ (n i j : Nat) (d : Int) (q : Bool × Nat × Nat), comGo l n i j d = q → (i < l.length → j ≤ lineLen l i) → i ≤ l.length →
    q.2.1 ≤ l.length ∧ (q.2.1 < l.length → q.2.2 ≤ lineLen l q.2.1) ∧ (q.1 = true → q.2.1 < l.length ∧ left l q.2.1 q.2.2 < left l i j)
  | 0, i, j, d, q, hq, hj, hi => by
    subst hq
    exact ⟨hi, hj, by simp [comGo]⟩
  | n + 1, i, j, d, q, hq, hj, hi => by
    rw [comGo] at hq
    by_cases h : i < l.length
    · rw [dif_pos h] at hq
      have hjl := hj h
      have hle := lineLen_eq l i h
      split at hq
      · obtain ⟨h1, h2, h3⟩ := comGo_range l n (i + 1) 0 d q hq (fun _ => Nat.zero_le _) h
        have := left_turn l i j h hjl
        exact ⟨h1, h2, fun ht => ⟨(h3 ht).1, by have := (h3 ht).2; omega⟩⟩
      · rename_i h0
        split at hq
        · rename_i h4
          have h5 := hasPre_two h4
          obtain ⟨h1, h2, h3⟩ := comGo_range l n i (j + 2) (d + 1) q hq (fun _ => by omega) hi
          have := left_step l i j 2 h (by omega)
          exact ⟨h1, h2, fun ht => ⟨(h3 ht).1, by have := (h3 ht).2; omega⟩⟩
        · split at hq
          · rename_i h4
            have h5 := hasPre_two h4
            have := left_step l i j 2 h (by omega)
            split at hq
            · subst hq
              exact ⟨hi, fun _ => by simp only; omega, fun _ => ⟨h, by simp only; omega⟩⟩
            · obtain ⟨h1, h2, h3⟩ := comGo_range l n i (j + 2) (d - 1) q hq (fun _ => by omega) hi
              exact ⟨h1, h2, fun ht => ⟨(h3 ht).1, by have := (h3 ht).2; omega⟩⟩
          · have h5 := drop_ne h0
            obtain ⟨h1, h2, h3⟩ := comGo_range l n i (j + 1) d q hq (fun _ => by omega) hi
            have := left_step l i j 1 h (by omega)
            exact ⟨h1, h2, fun ht => ⟨(h3 ht).1, by have := (h3 ht).2; omega⟩⟩
    · rw [dif_neg h] at hq
      subst hq
      exact ⟨hi, hj, by simp⟩
/-- What one step keeps, and that it comes on. -/
structure St.Ok (l : List Str) (n : Nat) (s : St) : Prop where
  i : s.i ≤ l.length
  j : s.i < l.length → s.j ≤ lineLen l s.i
  n : left l s.i s.j + s.ts.length + s.cs.length ≤ n
theorem nextGo_ok (l : List Str) (n k : Nat) (s : St) (hi : s.i < l.length) (h : s.Ok l n) : (nextGo l k s).2.Ok l n ∧ ((nextGo l k s).1 = 0 → left l (nextGo l k s).2.i (nextGo l k s).2.j < left l s.i s.j) := by
  obtain ⟨i, j, ts, cs⟩ := s
  obtain ⟨_, hj, hn⟩ := h
  simp only at hi hj hn
  have hj := hj hi
  have hle := lineLen_eq l i hi
  have hg : l.getD i [] = l[i] := by simp [List.getD_eq_getElem?_getD, hi]
  unfold nextGo
  simp only [hg]
  have hdl : (l[i].drop j).length = l[i].length - j := List.length_drop
  have hp2 : ∀ {a b : UInt8}, hasPre (l[i].drop j) [a, b] = true → j + 2 ≤ l[i].length := fun h => hasPre_two h
  generalize hs : l[i].drop j = s at hdl hp2
  cases s with
  | nil =>
    have := left_turn l i j hi hj
    exact ⟨⟨by simp only; omega, fun _ => Nat.zero_le _, by simp only; omega⟩, fun _ => this⟩
  | cons c r =>
    simp only [List.length_cons] at hdl
    simp only
    split
    · have := left_step l i j 1 hi (by omega)
      exact ⟨⟨by simp only; omega, fun _ => by simp only; omega, by simp only; omega⟩, fun _ => by simp only; omega⟩
    split
    · split
      · rename_i h1
        obtain ⟨h2, h3, h4⟩ := comGo_range l k i j 0 _ rfl (fun _ => hj) (by omega)
        obtain ⟨h5, h6⟩ := h4 h1
        exact ⟨⟨by simp only; omega, fun h => by simp only at h ⊢; exact h3 h, by simp only [List.length_append, List.length_cons, List.length_nil]; omega⟩, fun _ => h6⟩
      · exact ⟨⟨by simp only; omega, fun _ => hj, hn⟩, by simp⟩
    split
    · rename_i h2
      have := left_step l i j (r.length + 1) hi (by omega)
      exact ⟨⟨by simp only; omega, fun _ => by simp only; omega, by simp only [List.length_append, List.length_cons, List.length_nil]; omega⟩, fun _ => by simp only; omega⟩
    split
    · exact ⟨⟨by simp only; omega, fun _ => hj, hn⟩, by simp⟩
    split
    · rename_i h5
      exact ⟨⟨by simp only; omega, fun _ => hj, hn⟩, fun h => by rw [show (pieceT c r).err = 0 from h] at h5; simp at h5⟩
    · rename_i h5
      have h6 : (pieceT c r).err = 0 := by simpa using h5
      obtain ⟨h7, h8⟩ := pieceT_len c r h6
      have := left_step l i j (pieceT c r).len.toNat hi (by omega)
      exact ⟨⟨by simp only; omega, fun _ => by simp only; omega, by simp only [List.length_append, List.length_cons, List.length_nil]; omega⟩, fun _ => by simp only; omega⟩
end Go.Proofs.YtlmmgblghgmgeaaGreatDoor
