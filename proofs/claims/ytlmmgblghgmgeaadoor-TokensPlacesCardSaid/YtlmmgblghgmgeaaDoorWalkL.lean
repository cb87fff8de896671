/- A text read. -/
import Derived.Test.YtlmmgblghgmgeaaDoorWalkK
namespace Go.Proofs.YtlmmgblghgmgeaaDoor
open Go Ev
set_option maxRecDepth 100000
set_option linter.unusedSimpArgs false

def readLoop (l : List Str) (n : Nat) : Nat → St → Int × St
  | 0, s => (0, s)
  | k + 1, s => if s.i < l.length then (if (nextGo l n s).1 != 0 then nextGo l n s else readLoop l n k (nextGo l n s).2) else (0, s)
def total (l : List Str) : Nat := left l 0 0
def st0 : St := ⟨0, 0, [], []⟩
/-- A text read: the error, and how far the reader has come. -/
def readAll (l : List Str) : Int × St := readLoop l (total l + 1) (total l + 1) st0
theorem st0_ok (l : List Str) : st0.Ok l (total l) := ⟨Nat.zero_le _, fun _ => Nat.zero_le _, by simp [st0, total]⟩
/-- The reader's box in a caller's frame. -/
def rdAt (l : List Str) (tk : Tok) (s : St) (a b c d : Nat) : Box := [.sl 1 (strs l) tk, .int .i64 s.i, .int .i64 s.j, .sl 4 (s.ts.map tkC) (.row a b), .sl 4 (s.cs.map spC) (.row c d)]
def rdOut (l : List Str) (tk : Tok) (s : St) : List AV := [.sl 1 (strs l) tk, .int .i64 s.i, .int .i64 s.j, .sl 4 (s.ts.map tkC) .none, .sl 4 (s.cs.map spC) .none]
/-- What the loop of a reading keeps. -/
def ReadInv (l : List Str) (R : Int × St) (q : Nat × St) : Prop := q.2.Ok l (total l) ∧ left l q.2.i q.2.j < q.1 ∧ readLoop l (total l + 1) q.1 q.2 = R
theorem ReadInv.start (l : List Str) : ReadInv l (readAll l) (total l + 1, st0) := ⟨st0_ok l, by simp [st0, total], rfl⟩
theorem ReadInv.step {l : List Str} {R : Int × St} {k : Nat} {s : St} (h : ReadInv l R (k, s)) (hi : s.i < l.length) (h0 : (nextGo l (total l + 1) s).1 = 0) : ∃ k', k = k' + 1 ∧ ReadInv l R (k', (nextGo l (total l + 1) s).2) := by
  obtain ⟨h1, h2, h3⟩ := h
  simp only at h1 h2 h3
  obtain ⟨k, rfl⟩ : ∃ k', k = k' + 1 := ⟨k - 1, by omega⟩
  obtain ⟨h4, h5⟩ := nextGo_ok l (total l) (total l + 1) s hi h1
  refine ⟨k, rfl, h4, by have := h5 h0; simp only; omega, ?_⟩
  rw [readLoop, if_pos hi, h0] at h3
  exact h3
theorem ReadInv.stop {l : List Str} {R : Int × St} {k : Nat} {s : St} (h : ReadInv l R (k, s)) (hi : s.i < l.length) (h0 : (nextGo l (total l + 1) s).1 ≠ 0) : R = nextGo l (total l + 1) s := by
  obtain ⟨h1, h2, h3⟩ := h
  simp only at h1 h2 h3
  obtain ⟨k, rfl⟩ : ∃ k', k = k' + 1 := ⟨k - 1, by omega⟩
  rw [readLoop, if_pos hi, if_pos (by simpa using h0)] at h3
  exact h3.symm
theorem ReadInv.over {l : List Str} {R : Int × St} {k : Nat} {s : St} (h : ReadInv l R (k, s)) (hi : ¬ s.i < l.length) : R = (0, s) := by
  obtain ⟨h1, h2, h3⟩ := h
  simp only at h1 h2 h3
  obtain ⟨k, rfl⟩ : ∃ k', k = k' + 1 := ⟨k - 1, by omega⟩
  rw [readLoop, if_neg hi] at h3
  exact h3.symm
def readR (l : List Str) (tk : Tok) : AV :=
  if (checkLinesP l).2 != 0 then .tup [.pnil, .agg [.int .i64 (checkLinesP l).1, .int .i64 0], .int .i64 (checkLinesP l).2]
  else if (readAll l).1 != 0 then .tup [.pnil, .agg [.int .i64 (readAll l).2.i, .int .i64 (readAll l).2.j], .int .i64 (readAll l).1]
  else .tup [.eptr (rdOut l tk (readAll l).2), .agg [.int .i64 0, .int .i64 0], .int .i64 (if decide (((readAll l).2.ts.length : Int) > 1200) then 2 else 0)]
theorem lineErr_len {s : Str} (h : lineErr s = 0) : s.length ≤ 120 := by
  unfold lineErr firstOf at h
  rcases Nat.lt_or_ge 120 s.length with h1 | h1
  · have : ((s.length : Int) > 120) := by omega
    simp [this] at h
  · exact h1
theorem linesGo_len : ∀ (l : List Str) (n : Int), (linesGo l n).2 = 0 → ∀ s ∈ l, lineErr s = 0
  | [], _, _, s, hs => by simp at hs
  | x :: l, n, h, s, hs => by
    unfold linesGo at h
    split at h
    · rename_i h1
      simp only at h
      rw [h] at h1; simp at h1
    · rename_i h1
      rcases List.mem_cons.1 hs with rfl | hs
      · simpa using h1
      · exact linesGo_len l (n + 1) h s hs
theorem checked_len {l : List Str} (h : (checkLinesP l).2 = 0) : l.length ≤ 300 ∧ ∀ s ∈ l, s.length ≤ 120 := by
  unfold checkLinesP at h
  split at h
  · simp at h
  · rename_i h1
    refine ⟨by simp only [decide_eq_true_eq] at h1; omega, fun s hs => lineErr_len (linesGo_len l 0 h s hs)⟩
theorem total_le : ∀ (l : List Str) (m : Nat), (∀ s ∈ l, s.length ≤ m) → total l ≤ l.length * (m + 1)
  | [], m, _ => by simp [total, left]
  | s :: l, m, h => by
    have h1 := total_le l m fun x hx => h x (by simp [hx])
    have h2 := h s (by simp)
    have h3 : (l.length + 1) * (m + 1) = l.length * (m + 1) + (m + 1) := by rw [Nat.add_mul]; omega
    simp only [total, left, List.drop_zero, List.map_cons, List.sum_cons, List.length_cons] at h1 ⊢
    omega
theorem next_of (l : List Str) (tk : Tok) (ht : Fx tk) (s : St) (hl : l.length < 2 ^ 40) (hc : ∀ x ∈ l, x.length < 2 ^ 40) (hT : total l < 2 ^ 39) (hi : s.i < l.length) (hs : s.Ok l (total l)) :
    evc plan 36 [.ptr 0 0] [(0, rdS l tk s)] = some (.int .i64 (nextGo l (total l + 1) s).1, [(0, rdS l tk (nextGo l (total l + 1) s).2)]) := by
  have hle := lineLen_eq l s.i hi
  have := hs.n
  have := hs.j hi
  exact next_ev l tk ht s hl hc hi (by omega) (by omega) (by omega) (total l + 1) (by omega) (by omega)
set_option maxHeartbeats 1000000 in
theorem read_ev (l : List Str) (tk : Tok) (ht : Fx tk) (hl : l.length < 2 ^ 62) : evc plan 22 [.sl 1 (strs l) tk] [] = some (readR l tk, []) := by
  refine evc_start plan (P := Tryd.prog) (ro := planRo) rfl rfl rfl rfl rfl rfl (by simp) rfl ?_
  have hL := lines_ev l tk ht hl
  unfold readR
  generalize hQ : checkLinesP l = q at hL
  obtain ⟨q1, q2⟩ := q
  simp only at hL
  cases h0 : q2 != 0
  · have h0' : (checkLinesP l).2 = 0 := by rw [hQ]; simpa using h0
    obtain ⟨hn, hc⟩ := checked_len h0'
    have hT := total_le l 120 hc
    have hT2 : total l < 2 ^ 39 := by
      have : l.length * 121 ≤ 300 * 121 := Nat.mul_le_mul_right _ hn
      omega
    generalize hR : readAll l = R
    simp [dFor_none, storeFine_none, dFor_no, storeFine_no, lessL, lkL, evCode_exit, evCode_seq, evCode_plain, evCode_draw, evCode_cond, evCode_ret, evCode_skip, evCode_block, evCode_loop, roundK_normal, roundK_exit, roundK_ret, seqK_normal, seqK_exit, seqK_ret, blockK_normal, blockK_exit, blockK_ret, regK_eq, evOps_nil, evOps_cons, params, astep, okDst, isWanted, aop, opnd, ofValue, putT, abin, headS, ofL, noPtr, acall, adopt_bool, adopt_int, adopt_str, adopt_agg, adopt_clip, upd_false, AV.cells, partOf, setCells, fillC, AV.isVal, List.range, List.range.loop, ofB, mayRead, dsts, planRo, capIds, viewed, scalarR, AV.scalar, bare_undef, bare_bool, bare_int, bare_str, bare_snil, bare_snone, bare_sclip, bare_srow, bare_ptr, bare_eptr, bare_pnil, bare_fn, bare_fnil, bare_agg, bare_tup, hL, h0, adopt, resParts, resBack, freshAll, relabL, relab1, rowName, addNames, bare_fx ht, row_fx ht, relab_fx ht]
    refine loop_by (fun (q : Nat × St) => q.1) (fun q t m => ReadInv l R q ∧ clean (lvRead 5) t m = headS [(3, .ptr 500003 0), (7, .ptr 500021 0), (21, .ptr 500021 0)] [(500003, [.int .i64 0, .int .i64 0]), (500021, rdAt l tk q.2 1500021 4 1500021 5)]) ?_ (total l + 1, st0) ?_
    · rintro ⟨k, s⟩ t m ⟨hI, hS⟩ ih
      refine round_of hS ?_
      by_cases h1 : s.i < l.length
      · have h1' : ¬ l.length ≤ s.i := by omega
        have hnx := next_of l tk ht s (by omega) (fun x hx => by have := hc x hx; omega) hT2 h1 hI.1
        generalize hN : nextGo l (total l + 1) s = N at hnx
        obtain ⟨e, s'⟩ := N
        unfold rdS rd at hnx
        simp only at hnx
        cases h2 : e != 0
        · have he : e = 0 := by simpa using h2
          obtain ⟨k', rfl, hI'⟩ := hI.step h1 (by rw [hN]; exact he)
          rw [hN] at hI'
          simp only at hI'
          simp [dFor_none, storeFine_none, dFor_no, storeFine_no, lessL, lkL, evCode_exit, evCode_seq, evCode_plain, evCode_draw, evCode_cond, evCode_ret, evCode_skip, evCode_block, evCode_loop, roundK_normal, roundK_exit, roundK_ret, seqK_normal, seqK_exit, seqK_ret, blockK_normal, blockK_exit, blockK_ret, regK_eq, evOps_nil, evOps_cons, params, astep, okDst, isWanted, aop, opnd, ofValue, putT, abin, headS, ofL, noPtr, acall, adopt_bool, adopt_int, adopt_str, adopt_agg, adopt_clip, upd_false, AV.cells, partOf, setCells, fillC, AV.isVal, List.range, List.range.loop, ofB, mayRead, dsts, planRo, capIds, viewed, scalarR, AV.scalar, bare_undef, bare_bool, bare_int, bare_str, bare_snil, bare_snone, bare_sclip, bare_srow, bare_ptr, bare_eptr, bare_pnil, bare_fn, bare_fnil, bare_agg, bare_tup, passed, setBoxes, killNames, addNames, freshAll, adopt, resParts, resBack, relabB, relabL, namesOf, cellsOfB, boxName, row_undef, row_bool, row_int, row_str, row_snil, row_snone, row_sclip, row_srow, row_ptr, row_eptr, row_pnil, row_fn, row_fnil, row_agg, row_tup, relab_undef, relab_bool, relab_int, relab_str, relab_snil, relab_snone, relab_sclip, relab_srow, relab_ptr, relab_eptr, relab_pnil, relab_fn, relab_fnil, relab_agg, relab_tup, relab_sgrow, over_ev, h1', hnx, h2, rdAt, bare_fx ht, row_fx ht, relab_fx ht]
          refine ih (k', s') _ _ (by simp) ⟨hI', ?_⟩
          simp [clean, keepBoxes, relabB, relabL, cleanS, fixPtr, headS, ofL, ofB, cellsOfB, namesOf, upd_false, AV.cells, row_undef, row_bool, row_int, row_str, row_snil, row_snone, row_sclip, row_srow, row_ptr, row_eptr, row_pnil, row_fn, row_fnil, row_agg, row_tup, relab_undef, relab_bool, relab_int, relab_str, relab_snil, relab_snone, relab_sclip, relab_srow, relab_ptr, relab_eptr, relab_pnil, relab_fn, relab_fnil, relab_agg, relab_tup, relab_sgrow, passed, setBoxes, killNames, addNames, freshAll, adopt, resParts, resBack, relabB, relabL, namesOf, cellsOfB, boxName, row_undef, row_bool, row_int, row_str, row_snil, row_snone, row_sclip, row_srow, row_ptr, row_eptr, row_pnil, row_fn, row_fnil, row_agg, row_tup, relab_undef, relab_bool, relab_int, relab_str, relab_snil, relab_snone, relab_sclip, relab_srow, relab_ptr, relab_eptr, relab_pnil, relab_fn, relab_fnil, relab_agg, relab_tup, relab_sgrow, lvRead, lvL, rdAt, growOf, bare_fx ht, row_fx ht, relab_fx ht]
        · have := hI.stop h1 (by rw [hN]; simpa using h2)
          rw [hN] at this
          subst this
          simp [dFor_none, storeFine_none, dFor_no, storeFine_no, lessL, lkL, evCode_exit, evCode_seq, evCode_plain, evCode_draw, evCode_cond, evCode_ret, evCode_skip, evCode_block, evCode_loop, roundK_normal, roundK_exit, roundK_ret, seqK_normal, seqK_exit, seqK_ret, blockK_normal, blockK_exit, blockK_ret, regK_eq, evOps_nil, evOps_cons, params, astep, okDst, isWanted, aop, opnd, ofValue, putT, abin, headS, ofL, noPtr, acall, adopt_bool, adopt_int, adopt_str, adopt_agg, adopt_clip, upd_false, AV.cells, partOf, setCells, fillC, AV.isVal, List.range, List.range.loop, ofB, mayRead, dsts, planRo, capIds, viewed, scalarR, AV.scalar, bare_undef, bare_bool, bare_int, bare_str, bare_snil, bare_snone, bare_sclip, bare_srow, bare_ptr, bare_eptr, bare_pnil, bare_fn, bare_fnil, bare_agg, bare_tup, passed, setBoxes, killNames, addNames, freshAll, adopt, resParts, resBack, relabB, relabL, namesOf, cellsOfB, boxName, row_undef, row_bool, row_int, row_str, row_snil, row_snone, row_sclip, row_srow, row_ptr, row_eptr, row_pnil, row_fn, row_fnil, row_agg, row_tup, relab_undef, relab_bool, relab_int, relab_str, relab_snil, relab_snone, relab_sclip, relab_srow, relab_ptr, relab_eptr, relab_pnil, relab_fn, relab_fnil, relab_agg, relab_tup, relab_sgrow, finK, freezeT, avAll, resOf, outBoxes, relabB, relabL, noPtr, AV.untup, relab_undef, relab_bool, relab_int, relab_str, relab_snil, relab_snone, relab_sclip, relab_srow, relab_ptr, relab_eptr, relab_pnil, relab_fn, relab_fnil, relab_agg, relab_tup, relab_sgrow, over_ev, h1', hnx, h2, rdAt, bare_fx ht, row_fx ht, relab_fx ht]
          simpa using h2
      · have := hI.over h1
        subst this
        have h1' : l.length ≤ s.i := by omega
        have hw : ∀ b : Bool, evc plan 18 [.bool b, .int .i64 2] [] = some (.int .i64 (if b then 2 else 0), []) := fun b => wrong_ev b 2
        cases h3 : decide ((s.ts.length : Int) > 1200) <;> simp [dFor_none, storeFine_none, dFor_no, storeFine_no, lessL, lkL, evCode_exit, evCode_seq, evCode_plain, evCode_draw, evCode_cond, evCode_ret, evCode_skip, evCode_block, evCode_loop, roundK_normal, roundK_exit, roundK_ret, seqK_normal, seqK_exit, seqK_ret, blockK_normal, blockK_exit, blockK_ret, regK_eq, evOps_nil, evOps_cons, params, astep, okDst, isWanted, aop, opnd, ofValue, putT, abin, headS, ofL, noPtr, acall, adopt_bool, adopt_int, adopt_str, adopt_agg, adopt_clip, upd_false, AV.cells, partOf, setCells, fillC, AV.isVal, List.range, List.range.loop, ofB, mayRead, dsts, planRo, capIds, viewed, scalarR, AV.scalar, bare_undef, bare_bool, bare_int, bare_str, bare_snil, bare_snone, bare_sclip, bare_srow, bare_ptr, bare_eptr, bare_pnil, bare_fn, bare_fnil, bare_agg, bare_tup, passed, setBoxes, killNames, addNames, freshAll, adopt, resParts, resBack, relabB, relabL, namesOf, cellsOfB, boxName, row_undef, row_bool, row_int, row_str, row_snil, row_snone, row_sclip, row_srow, row_ptr, row_eptr, row_pnil, row_fn, row_fnil, row_agg, row_tup, relab_undef, relab_bool, relab_int, relab_str, relab_snil, relab_snone, relab_sclip, relab_srow, relab_ptr, relab_eptr, relab_pnil, relab_fn, relab_fnil, relab_agg, relab_tup, relab_sgrow, finK, freezeT, avAll, resOf, outBoxes, relabB, relabL, noPtr, AV.untup, relab_undef, relab_bool, relab_int, relab_str, relab_snil, relab_snone, relab_sclip, relab_srow, relab_ptr, relab_eptr, relab_pnil, relab_fn, relab_fnil, relab_agg, relab_tup, relab_sgrow, over_ev, h1', rdAt, rdOut, hw, h3, bare_fx ht, row_fx ht, relab_fx ht] <;> simpa using h3
    · refine ⟨hR ▸ ReadInv.start l, ?_⟩
      simp [clean, keepBoxes, relabB, relabL, cleanS, fixPtr, headS, ofL, ofB, cellsOfB, namesOf, upd_false, AV.cells, row_undef, row_bool, row_int, row_str, row_snil, row_snone, row_sclip, row_srow, row_ptr, row_eptr, row_pnil, row_fn, row_fnil, row_agg, row_tup, relab_undef, relab_bool, relab_int, relab_str, relab_snil, relab_snone, relab_sclip, relab_srow, relab_ptr, relab_eptr, relab_pnil, relab_fn, relab_fnil, relab_agg, relab_tup, relab_sgrow, passed, setBoxes, killNames, addNames, freshAll, adopt, resParts, resBack, relabB, relabL, namesOf, cellsOfB, boxName, row_undef, row_bool, row_int, row_str, row_snil, row_snone, row_sclip, row_srow, row_ptr, row_eptr, row_pnil, row_fn, row_fnil, row_agg, row_tup, relab_undef, relab_bool, relab_int, relab_str, relab_snil, relab_snone, relab_sclip, relab_srow, relab_ptr, relab_eptr, relab_pnil, relab_fn, relab_fnil, relab_agg, relab_tup, relab_sgrow, lvRead, lvL, rdAt, growOf, strs, bare_fx ht, row_fx ht, relab_fx ht, st0]
  · simp [dFor_none, storeFine_none, dFor_no, storeFine_no, lessL, lkL, evCode_exit, evCode_seq, evCode_plain, evCode_draw, evCode_cond, evCode_ret, evCode_skip, evCode_block, evCode_loop, roundK_normal, roundK_exit, roundK_ret, seqK_normal, seqK_exit, seqK_ret, blockK_normal, blockK_exit, blockK_ret, regK_eq, evOps_nil, evOps_cons, params, astep, okDst, isWanted, aop, opnd, ofValue, putT, abin, headS, ofL, noPtr, acall, adopt_bool, adopt_int, adopt_str, adopt_agg, adopt_clip, upd_false, AV.cells, partOf, setCells, fillC, AV.isVal, List.range, List.range.loop, ofB, mayRead, dsts, planRo, capIds, viewed, scalarR, AV.scalar, bare_undef, bare_bool, bare_int, bare_str, bare_snil, bare_snone, bare_sclip, bare_srow, bare_ptr, bare_eptr, bare_pnil, bare_fn, bare_fnil, bare_agg, bare_tup, finK, freezeT, avAll, resOf, outBoxes, relabB, relabL, noPtr, AV.untup, relab_undef, relab_bool, relab_int, relab_str, relab_snil, relab_snone, relab_sclip, relab_srow, relab_ptr, relab_eptr, relab_pnil, relab_fn, relab_fnil, relab_agg, relab_tup, relab_sgrow, hL, h0, adopt, resParts, resBack, freshAll, relabL, relab1, rowName, addNames, bare_fx ht, row_fx ht, relab_fx ht]
end Go.Proofs.YtlmmgblghgmgeaaDoor
