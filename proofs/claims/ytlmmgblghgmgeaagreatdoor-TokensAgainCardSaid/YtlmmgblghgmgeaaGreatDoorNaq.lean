/- The texts JoinB, JoinC, merged. -/
import Derived.Test.YtlmmgblghgmgeaaGreatDoorNac
import Derived.Test.YtlmmgblghgmgeaaGreatDoorNad
import Derived.Test.YtlmmgblghgmgeaaGreatDoorNan
set_option linter.unusedVariables false
set_option linter.unusedSimpArgs false
/- JoinedText: its second half walked by hand, with the evaluator between the builder's calls. -/
namespace Go.Proofs.YtlmmgblghgmgeaaGreatDoor
open Go Ev Go.RowKit
set_option maxRecDepth 100000
set_option linter.unusedSimpArgs false
set_option linter.unusedVariables false

noncomputable def okIf (p : Prop) : Option Unit := open Classical in if p then some () else none
theorem okIf_intro {p : Prop} (h : p) : okIf p = some () := by unfold okIf; rw [if_pos h]
theorem okIf_elim {p : Prop} (h : okIf p = some ()) : p := by
  unfold okIf at h
  split at h
  · assumption
  · simp at h
theorem okIf_true : okIf True = some () := okIf_intro trivial
def sL : Code → Code | .seq a _ => a | c => c
def sR : Code → Code | .seq _ b => b | c => c
def inBlk : Code → Code | .block _ c => c | c => c
def inLoop : Code → Code | .loop c => c | c => c
noncomputable def jtAll : Code := Tryz.f25.body.getD .skip
noncomputable def jtRest : Code := sR (sR (sR jtAll))
noncomputable def jtBody : Code := inLoop (inBlk (sR (sL (sR jtRest))))

/-- The state at the loop's head: the builder holds the text so far. -/
structure JS (l : List Tk) (w0 w : World) (b i : Nat) (s : Str) (sv : Value) (a : Act) : Prop where
  hb : Below w0.heap.size w0 w
  hB : Lib.IsBuilderF 85 5 w0.heap.size b (Lib.byteCells s) w
  t0 : a.tmps.getD 0 undef = sv
  t7 : a.tmps.getD 7 undef = .pointer (some ⟨b, 0, none⟩)
  t25 : a.tmps.getD 25 undef = sv
  t26 : a.tmps.getD 26 undef = .int .i64 l.length
  t27 : a.tmps.getD 27 undef = .int .i64 i
  d : a.defers = []
  sz : 62 ≤ a.tmps.size
theorem below_later {w0 w w' : World} (h : Below w0.heap.size w0 w) (k : Below w.heap.size w w') : Below w0.heap.size w0 w' :=
  ⟨k.os.trans h.os, k.tape.trans h.tape, k.output.trans h.output, Nat.le_trans h.size k.size, fun j hj => (k.block j (Nat.lt_of_lt_of_le hj h.size)).trans (h.block j hj)⟩
theorem JS.go {l : List Tk} {w0 w w' : World} {b i : Nat} {s : Str} {sv : Value} {a a' : Act} (h : JS l w0 w b i s sv a) (hb : Below w.heap.size w w') (hf : ∀ k ∈ [0, 7, 25, 26, 27], a'.tmps.getD k undef = a.tmps.getD k undef) (hd : a'.defers = []) (hs : 62 ≤ a'.tmps.size) : JS l w0 w' b i s sv a' :=
  ⟨below_later h.hb hb, isB_below h.hB hb, (hf 0 (by simp)).trans h.t0, (hf 7 (by simp)).trans h.t7, (hf 25 (by simp)).trans h.t25, (hf 26 (by simp)).trans h.t26, (hf 27 (by simp)).trans h.t27, hd, hs⟩
theorem isB_lt {ty e : TypeId} {B b : Nat} {bs : List Value} {w : World} (h : Lib.IsBuilderF ty e B b bs w) : b < w.heap.size := by
  rcases h with ⟨_, v, h, _⟩ | ⟨_, v, h, _⟩ <;> exact lt_of_heap h
theorem wp_cond_join {P : Program} {c : Operand} {x y : Code} {Q : Exit → Act → World → Prop} {a : Act} {w : World} {b : Bool} (I : Act → World → Prop) (hc : a.eval c = .bool b) (hx : b = true → x.wp P (fun e a w => e = .normal ∧ I a w) a w) (hy : b = false → y.wp P (fun e a w => e = .normal ∧ I a w) a w)
    (hQ : ∀ a w, I a w → Q .normal a w) : (Code.cond c x y).wp P Q a w := by
  refine wp_cond hc ?_
  cases b with
  | true => exact wp_mono (hx rfl) fun e a w h => by obtain ⟨rfl, h⟩ := h; exact hQ a w h
  | false => exact wp_mono (hy rfl) fun e a w h => by obtain ⟨rfl, h⟩ := h; exact hQ a w h
def gapB (l : List Tk) (i : Nat) : Bool := match prev l i with | none => false | some a => spacedP a (l.getD i ⟨0, [], 0, 0⟩)

set_option maxHeartbeats 4000000 in
theorem jt_round (l : List Tk) (hl : l.length ≤ 1200) (hx : ∀ t ∈ l, t.text.length ≤ 140) (he : ∀ t ∈ l, textErrP t = 0) (w0 : World) (sv : Value) (hG : Gl Tryz.prog noOwn w0) (hV : V noOwn w0 (.sl 4 (l.map tkC) .none) sv)
    (b i : Nat) (s : Str) (w : World) (a : Act) (h : JS l w0 w b i s sv a) (hs : s.length ≤ 141 * i) (Q : Exit → Act → World → Prop)
    (hend : ¬ i < l.length → ∀ a' w', JS l w0 w' b i s sv a' → Q (.exit 2) a' w')
    (hnext : ∀ hi : i < l.length, ∀ a' w', JS l w0 w' b (i + 1) (s ++ gapP (prev l i) l[i] ++ l[i].text) sv a' → Q .normal a' w') : jtBody.wp Tryz.prog Q a w := by
  have hS : Sound Tryz.prog (evc plan) := evc_sound plan_ok
  have hGw : ∀ {w'}, Below w0.heap.size w0 w' → Gl Tryz.prog noOwn w' := fun hb => hG.below hb
  have hVw : ∀ {w'}, Below w0.heap.size w0 w' → T noCfg w' (.sl 4 (l.map tkC) .none) sv := fun hb => .of_V (hV.mono (.below hb))
  have hint : ∀ {w'} (k : Int), T noCfg w' (.int .i64 k) (.int .i64 k) := fun k => .of_V (.int _ _)
  refine wp_seq (region_ev (C := evc plan) (ro := planRo) (N := 62) (hk := noKeep) planFollows hS (by simp) (by decide) (K := fun t m => okIf (t 28 = .bool (decide ((i : Int) < l.length)))) (r := ()) (t := upd (upd (fun _ => .undef) 27 (.int .i64 i)) 26 (.int .i64 l.length)) ?_ (SR.start (hGw h.hb) (T_upd (T_upd T_none (by rw [h.t27]; exact hint _)) (by rw [h.t26]; exact hint _)) h.d h.sz) ?_)
  · simp [-Int.natCast_add, dFor_none, storeFine_none, dFor_no, storeFine_no, lessL, lkL, evCode_exit, evCode_seq, evCode_plain, evCode_draw, evCode_cond, evCode_ret, evCode_skip, evCode_block, evCode_loop, roundK_normal, roundK_exit, roundK_ret, seqK_normal, seqK_exit, seqK_ret, blockK_normal, blockK_exit, blockK_ret, regK_eq, evOps_nil, evOps_cons, params, astep, okDst, isWanted, aop, opnd, ofValue, putT, abin, headS, ofL, noPtr, acall, adopt_bool, adopt_int, adopt_str, adopt_agg, adopt_clip, upd_false, AV.cells, partOf, setCells, fillC, AV.isVal, List.range, List.range.loop, ofB, mayRead, dsts, planRo, capIds, viewed, scalarR, AV.scalar, bare_undef, bare_bool, bare_int, bare_str, bare_snil, bare_snone, bare_sclip, bare_srow, bare_ptr, bare_eptr, bare_pnil, bare_fn, bare_fnil, bare_agg, bare_tup, okIf_true]
  intro t1 m1 c1 a1 w1 hK1 hR1 e1 hF1
  have hb1 : Below w.heap.size w w1 := below_of_evo (fun _ _ h => h) e1
  have h1 := h.go hb1 (fun k hk => hF1 k (by revert k; decide)) hR1.defers hR1.size
  have hc1 : a1.eval (.tmp 28) = .bool (decide ((i : Int) < l.length)) := T_bool (by have := hR1.T 28; rw [okIf_elim hK1] at this; exact this)
  show Code.wp _ _ _ _ _
  by_cases hi : i < l.length
  · have hi' : (i : Int) < l.length := by omega
    rw [decide_eq_true hi'] at hc1
    refine wp_seq (wp_cond hc1 (wp_skip ?_))
    show Code.wp _ _ _ _ _
    have hxi := hx l[i] (List.getElem_mem hi)
    have hei := he l[i] (List.getElem_mem hi)
    refine wp_seq (wp_block ?_)
    -- the variable's box
    refine wp_seq (region_head (n := 3) (C := evc plan) (ro := planRo) (N := 62) planFollows hS (by decide) (by decide) (K := fun t m => okIf (t 29 = .int .i64 i ∧ t 31 = .agg (tkC l[i]))) (r := ()) (t := upd (upd (fun _ => .undef) 27 (.int .i64 i)) 25 (.sl 4 (l.map tkC) .none)) ?_ (SR.start (hGw h1.hb) (T_upd (T_upd T_none (by rw [h1.t27]; exact hint _)) (by rw [h1.t25]; exact hVw h1.hb)) h1.d h1.sz) ?_)
    · rcases hq : l[i] with ⟨kd, tx, ln, cl⟩
      simp [-Int.natCast_add, dFor_none, storeFine_none, dFor_no, storeFine_no, lessL, lkL, evCode_exit, evCode_seq, evCode_plain, evCode_draw, evCode_cond, evCode_ret, evCode_skip, evCode_block, evCode_loop, roundK_normal, roundK_exit, roundK_ret, seqK_normal, seqK_exit, seqK_ret, blockK_normal, blockK_exit, blockK_ret, regK_eq, evOps_nil, evOps_cons, params, astep, okDst, isWanted, aop, opnd, ofValue, putT, abin, headS, ofL, noPtr, acall, adopt_bool, adopt_int, adopt_str, adopt_agg, adopt_clip, upd_false, AV.cells, partOf, setCells, fillC, AV.isVal, List.range, List.range.loop, ofB, mayRead, dsts, planRo, capIds, viewed, scalarR, AV.scalar, bare_undef, bare_bool, bare_int, bare_str, bare_snil, bare_snone, bare_sclip, bare_srow, bare_ptr, bare_eptr, bare_pnil, bare_fn, bare_fnil, bare_agg, bare_tup, hi, hq, tkC, okIf_true]
    intro t2 m2 c2 a2 w2 hK2 hR2 e2 hF2
    have hb2 : Below w1.heap.size w1 w2 := below_of_evo (fun _ _ h => h) e2
    have h2 := h1.go hb2 (fun k hk => hF2 k (by revert k; decide)) hR2.defers hR2.size
    obtain ⟨k29, k31⟩ := okIf_elim hK2
    have v29 : a2.tmps.getD 29 undef = .int .i64 i := T_int (by have := hR2.T 29; rw [k29] at this; exact this)
    have hX : T c2 w2 (.agg (tkC l[i])) (a2.tmps.getD 31 undef) := by have := hR2.T 31; rw [k31] at this; exact this
    refine box_tail (n := 3) (d := 9) (q := 8) (s := 29) (v := 31) (e := 23) rfl rfl rfl rfl rfl rfl rfl rfl rfl rfl rfl rfl rfl (by decide) (by decide) (by decide) (by decide) (Nat.lt_of_lt_of_le (by decide) h2.sz) (Nat.lt_of_lt_of_le (by decide) h2.sz) zeroOf23 rfl tsz23 hX rfl rfl ?_
    intro a3 w3 cs hf3 v9 v8 d3 s3 hb3 hcs hCR
    rw [v29] at v8
    have h3 := h2.go hb3 (fun k hk => hf3 k (by revert k; decide) (by revert k; decide)) (d3.trans h2.d) (by rw [s3]; exact h2.sz)
    have hscal : (tkC l[i]).all AV.scalar = true := rfl
    have hT9 : T noCfg w3 (.eptr (tkC l[i])) (a3.tmps.getD 9 undef) := by rw [v9]; exact eptr_kept (e := 23) (b := b) hCR hscal hcs
    show Code.wp _ _ _ _ _
    -- whether a blank comes between
    refine wp_seq (wp_seq (region_ev (C := evc plan) (ro := planRo) (N := 62) (hk := noKeep) planFollows hS (fun _ => by kernel_rfl) (by decide) (K := fun t m => okIf (t 53 = .bool (gapB l i))) (r := ()) (t := upd (upd (upd (fun _ => .undef) 0 (.sl 4 (l.map tkC) .none)) 8 (.int .i64 i)) 9 (.eptr (tkC l[i]))) ?_ (SR.start (hGw h3.hb) (T_upd (T_upd (T_upd T_none (by rw [h3.t0]; exact hVw h3.hb)) (by rw [v8]; exact hint _)) hT9) h3.d h3.sz) ?_))
    · unfold gapB
      have hgl : l.getD i ⟨0, [], 0, 0⟩ = l[i] := by simp [List.getD_eq_getElem?_getD, hi]
      rw [hgl]
      rcases hq : l[i] with ⟨kd, tx, ln, cl⟩
      rw [hq] at hxi hei
      simp only at hxi
      by_cases h0 : i = 0
      · have hpz : prev l i = none := by rw [h0]; rfl
        have hi0 : ¬ 0 < i := by omega
        rw [hpz]
        simp [-Int.natCast_add, dFor_none, storeFine_none, dFor_no, storeFine_no, lessL, lkL, evCode_exit, evCode_seq, evCode_plain, evCode_draw, evCode_cond, evCode_ret, evCode_skip, evCode_block, evCode_loop, roundK_normal, roundK_exit, roundK_ret, seqK_normal, seqK_exit, seqK_ret, blockK_normal, blockK_exit, blockK_ret, regK_eq, evOps_nil, evOps_cons, params, astep, okDst, isWanted, aop, opnd, ofValue, putT, abin, headS, ofL, noPtr, acall, adopt_bool, adopt_int, adopt_str, adopt_agg, adopt_clip, upd_false, AV.cells, partOf, setCells, fillC, AV.isVal, List.range, List.range.loop, ofB, mayRead, dsts, planRo, capIds, viewed, scalarR, AV.scalar, bare_undef, bare_bool, bare_int, bare_str, bare_snil, bare_snone, bare_sclip, bare_srow, bare_ptr, bare_eptr, bare_pnil, bare_fn, bare_fnil, bare_agg, bare_tup, hi0, tkC, okIf_true]
      · have hi1 : i - 1 < l.length := by omega
        have hpi : prev l i = some l[i - 1] := by
          cases i with
          | zero => exact absurd rfl h0
          | succ i => exact List.getElem?_eq_getElem hi1
        have hxa := hx l[i - 1] (List.getElem_mem hi1)
        have hea := he l[i - 1] (List.getElem_mem hi1)
        rcases hqa : l[i - 1] with ⟨ka, ta, lna, cla⟩
        rw [hqa] at hxa hea hpi
        simp only at hxa
        rw [hpi]
        have ha := apart_ev ⟨ka, ta, lna, cla⟩ ⟨kd, tx, ln, cl⟩ (by simp only; omega) (by simp only; omega)
        rw [apart_same _ _ hea hei] at ha
        simp only [tkC] at ha
        have hsg := signs2_ev ta tx
        have w0 : IntKind.i64.wrap ((i : Int) - 1) = ((i - 1 : Nat) : Int) := by rw [wrap_i64 (by omega) (by omega)]; omega
        have hi0 : 0 < i := by omega
        unfold spacedP
        cases hra : rApart ⟨ka, ta, lna, cla⟩ ⟨kd, tx, ln, cl⟩
        · rw [hra] at ha
          cases hsp : signsP ta tx
          · rw [hsp] at hsg
            simp [-Int.natCast_add, dFor_none, storeFine_none, dFor_no, storeFine_no, lessL, lkL, evCode_exit, evCode_seq, evCode_plain, evCode_draw, evCode_cond, evCode_ret, evCode_skip, evCode_block, evCode_loop, roundK_normal, roundK_exit, roundK_ret, seqK_normal, seqK_exit, seqK_ret, blockK_normal, blockK_exit, blockK_ret, regK_eq, evOps_nil, evOps_cons, params, astep, okDst, isWanted, aop, opnd, ofValue, putT, abin, headS, ofL, noPtr, acall, adopt_bool, adopt_int, adopt_str, adopt_agg, adopt_clip, upd_false, AV.cells, partOf, setCells, fillC, AV.isVal, List.range, List.range.loop, ofB, mayRead, dsts, planRo, capIds, viewed, scalarR, AV.scalar, bare_undef, bare_bool, bare_int, bare_str, bare_snil, bare_snone, bare_sclip, bare_srow, bare_ptr, bare_eptr, bare_pnil, bare_fn, bare_fnil, bare_agg, bare_tup, passed, setBoxes, killNames, addNames, freshAll, adopt, resParts, resBack, relabB, relabL, namesOf, cellsOfB, boxName, row_undef, row_bool, row_int, row_str, row_snil, row_snone, row_sclip, row_srow, row_ptr, row_eptr, row_pnil, row_fn, row_fnil, row_agg, row_tup, relab_undef, relab_bool, relab_int, relab_str, relab_snil, relab_snone, relab_sclip, relab_srow, relab_ptr, relab_eptr, relab_pnil, relab_fn, relab_fnil, relab_agg, relab_tup, relab_sgrow, hi0, tkC, w0, hi1, hqa, ha, hsg, hra, hsp, okIf_true]
          · rw [hsp] at hsg
            simp [-Int.natCast_add, dFor_none, storeFine_none, dFor_no, storeFine_no, lessL, lkL, evCode_exit, evCode_seq, evCode_plain, evCode_draw, evCode_cond, evCode_ret, evCode_skip, evCode_block, evCode_loop, roundK_normal, roundK_exit, roundK_ret, seqK_normal, seqK_exit, seqK_ret, blockK_normal, blockK_exit, blockK_ret, regK_eq, evOps_nil, evOps_cons, params, astep, okDst, isWanted, aop, opnd, ofValue, putT, abin, headS, ofL, noPtr, acall, adopt_bool, adopt_int, adopt_str, adopt_agg, adopt_clip, upd_false, AV.cells, partOf, setCells, fillC, AV.isVal, List.range, List.range.loop, ofB, mayRead, dsts, planRo, capIds, viewed, scalarR, AV.scalar, bare_undef, bare_bool, bare_int, bare_str, bare_snil, bare_snone, bare_sclip, bare_srow, bare_ptr, bare_eptr, bare_pnil, bare_fn, bare_fnil, bare_agg, bare_tup, passed, setBoxes, killNames, addNames, freshAll, adopt, resParts, resBack, relabB, relabL, namesOf, cellsOfB, boxName, row_undef, row_bool, row_int, row_str, row_snil, row_snone, row_sclip, row_srow, row_ptr, row_eptr, row_pnil, row_fn, row_fnil, row_agg, row_tup, relab_undef, relab_bool, relab_int, relab_str, relab_snil, relab_snone, relab_sclip, relab_srow, relab_ptr, relab_eptr, relab_pnil, relab_fn, relab_fnil, relab_agg, relab_tup, relab_sgrow, hi0, tkC, w0, hi1, hqa, ha, hsg, hra, hsp, okIf_true]
        · rw [hra] at ha
          simp [-Int.natCast_add, dFor_none, storeFine_none, dFor_no, storeFine_no, lessL, lkL, evCode_exit, evCode_seq, evCode_plain, evCode_draw, evCode_cond, evCode_ret, evCode_skip, evCode_block, evCode_loop, roundK_normal, roundK_exit, roundK_ret, seqK_normal, seqK_exit, seqK_ret, blockK_normal, blockK_exit, blockK_ret, regK_eq, evOps_nil, evOps_cons, params, astep, okDst, isWanted, aop, opnd, ofValue, putT, abin, headS, ofL, noPtr, acall, adopt_bool, adopt_int, adopt_str, adopt_agg, adopt_clip, upd_false, AV.cells, partOf, setCells, fillC, AV.isVal, List.range, List.range.loop, ofB, mayRead, dsts, planRo, capIds, viewed, scalarR, AV.scalar, bare_undef, bare_bool, bare_int, bare_str, bare_snil, bare_snone, bare_sclip, bare_srow, bare_ptr, bare_eptr, bare_pnil, bare_fn, bare_fnil, bare_agg, bare_tup, passed, setBoxes, killNames, addNames, freshAll, adopt, resParts, resBack, relabB, relabL, namesOf, cellsOfB, boxName, row_undef, row_bool, row_int, row_str, row_snil, row_snone, row_sclip, row_srow, row_ptr, row_eptr, row_pnil, row_fn, row_fnil, row_agg, row_tup, relab_undef, relab_bool, relab_int, relab_str, relab_snil, relab_snone, relab_sclip, relab_srow, relab_ptr, relab_eptr, relab_pnil, relab_fn, relab_fnil, relab_agg, relab_tup, relab_sgrow, hi0, tkC, w0, hi1, hqa, ha, hra, okIf_true]
    intro t4 m4 c4 a4 w4 hK4 hR4 e4 hF4
    have hb4 : Below w3.heap.size w3 w4 := below_of_evo (fun _ _ h => h) e4
    have h4 := h3.go hb4 (fun k hk => hF4 k (by revert k; decide)) hR4.defers hR4.size
    have hc4 : a4.eval (.tmp 53) = .bool (gapB l i) := T_bool (by have := hR4.T 53; rw [okIf_elim hK4] at this; exact this)
    have v9' : a4.tmps.getD 9 undef = .pointer (some ⟨w2.heap.size, 0, none⟩) := (hF4 9 (by decide)).trans v9
    have hcs4 : w4.heap[w2.heap.size]? = some (.cells cs 23 (0, 0)) := by rw [hb4.block _ (lt_of_heap hcs)]; exact hcs
    have hgap : gapP (prev l i) l[i] = if gapB l i = true then [32] else [] := by
      unfold gapP gapB
      have hgl : l.getD i ⟨0, [], 0, 0⟩ = l[i] := by simp [List.getD_eq_getElem?_getD, hi]
      rw [hgl]
      cases prev l i with
      | none => rfl
      | some a => rfl
    show Code.wp _ _ _ _ _
    have hbw : b < w2.heap.size := isB_lt h2.hB
    refine wp_cond_join (fun a5 w5 => JS l w0 w5 b i (s ++ gapP (prev l i) l[i]) sv a5 ∧ a5.tmps.getD 9 undef = .pointer (some ⟨w2.heap.size, 0, none⟩) ∧ w5.heap[w2.heap.size]? = some (.cells cs 23 (0, 0))) hc4 (fun hg => ?_) (fun hg => ?_) ?_
    · -- a blank is written
      rw [hgap, if_pos hg]
      refine wp_region ?_
      show wpOps _ _ _ [0] _ _
      rw [wpOps_cons]
      refine wpOp_call (f := 50) rfl rfl rfl Tryz.call50 ?_
      have hm : (#[Operand.tmp 7, Operand.const (.int .u8 32)].map a4.eval) = #[.pointer (some ⟨b, 0, none⟩), .int .u8 32] := by
        have q7 : a4.eval (.tmp 7) = .pointer (some ⟨b, 0, none⟩) := h4.t7
        have q8 : a4.eval (.const (.int .u8 32)) = .int .u8 32 := rfl
        simp [q7, q8]
      rw [hm]
      refine (Tryz.Builder_WriteByte_k w0.heap.size b (Lib.byteCells s) 32 w4 h4.hB (by rw [Lib.byteCells_length]; omega) h4.hb.size).mono ?_
      rintro e w5 ⟨rfl, hAt, hbel, hok⟩
      refine ⟨_, rfl, rfl, ⟨h4.hb.trans hbel, .inr ?_, ?_, ?_, ?_, ?_, ?_, h4.d, by simpa [Act.put] using h4.sz⟩, ?_, hok _ _ hcs4 (fun he => by simp only [Option.some.injEq] at he; omega) (fun c fz he => by simp at he)⟩
      · rw [Lib.byteCells_append]; exact hAt
      · exact (put_getD (by simp)).trans h4.t0
      · exact (put_getD (by simp)).trans h4.t7
      · exact (put_getD (by simp)).trans h4.t25
      · exact (put_getD (by simp)).trans h4.t26
      · exact (put_getD (by simp)).trans h4.t27
      · exact (put_getD (by simp)).trans v9'
    · rw [hgap, if_neg (by simp [hg]), List.append_nil]
      exact wp_skip ⟨rfl, h4, v9', hcs4⟩
    · rintro a5 w5 ⟨h5, v9, hcs5⟩
      have hgl : (gapP (prev l i) l[i]).length ≤ 1 := by rw [hgap]; split <;> simp
      show Code.wp _ _ _ _ _
      have hT9 : T noCfg w5 (.eptr (tkC l[i])) (a5.tmps.getD 9 undef) := by rw [v9]; exact eptr_kept (e := 23) (b := b) hCR hscal hcs5
      refine region_head (n := 2) (C := evc plan) (ro := planRo) (N := 62) planFollows hS (by decide) (by decide) (K := fun t m => okIf (t 56 = .str l[i].text)) (r := ()) (t := upd (fun _ => .undef) 9 (.eptr (tkC l[i]))) ?_ (SR.start (hGw h5.hb) (T_upd T_none hT9) h5.d h5.sz) ?_
      · simp [-Int.natCast_add, dFor_none, storeFine_none, dFor_no, storeFine_no, lessL, lkL, evCode_exit, evCode_seq, evCode_plain, evCode_draw, evCode_cond, evCode_ret, evCode_skip, evCode_block, evCode_loop, roundK_normal, roundK_exit, roundK_ret, seqK_normal, seqK_exit, seqK_ret, blockK_normal, blockK_exit, blockK_ret, regK_eq, evOps_nil, evOps_cons, params, astep, okDst, isWanted, aop, opnd, ofValue, putT, abin, headS, ofL, noPtr, acall, adopt_bool, adopt_int, adopt_str, adopt_agg, adopt_clip, upd_false, AV.cells, partOf, setCells, fillC, AV.isVal, List.range, List.range.loop, ofB, mayRead, dsts, planRo, capIds, viewed, scalarR, AV.scalar, bare_undef, bare_bool, bare_int, bare_str, bare_snil, bare_snone, bare_sclip, bare_srow, bare_ptr, bare_eptr, bare_pnil, bare_fn, bare_fnil, bare_agg, bare_tup, tkC, okIf_true]
      intro t6 m6 c6 a6 w6 hK6 hR6 e6 hF6
      have hb6 : Below w5.heap.size w5 w6 := below_of_evo (fun _ _ h => h) e6
      have h6 := h5.go hb6 (fun k hk => hF6 k (by revert k; decide)) hR6.defers hR6.size
      have v56 : a6.tmps.getD 56 undef = .string ⟨l[i].text.toArray⟩ := T_str (by have := hR6.T 56; rw [okIf_elim hK6] at this; exact this)
      show wpOps _ _ _ [2] _ _
      rw [wpOps_cons]
      refine wpOp_call (f := 51) rfl rfl rfl Tryz.call51 ?_
      have hm : (#[Operand.tmp 7, Operand.tmp 56].map a6.eval) = #[.pointer (some ⟨b, 0, none⟩), .string ⟨l[i].text.toArray⟩] := by
        have q7 : a6.eval (.tmp 7) = .pointer (some ⟨b, 0, none⟩) := h6.t7
        have q8 : a6.eval (.tmp 56) = .string ⟨l[i].text.toArray⟩ := v56
        simp [q7, q8]
      rw [hm]
      refine (Tryz.Builder_WriteString_k w0.heap.size b (Lib.byteCells (s ++ gapP (prev l i) l[i])) ⟨l[i].text.toArray⟩ w6 h6.hB (by
        rw [Lib.byteCells_length, List.length_append]
        have : (⟨l[i].text.toArray⟩ : ByteArray).size = l[i].text.length := by simp [ByteArray.size]
        omega) h6.hb.size).mono ?_
      rintro e w7 ⟨rfl, hAt, hbel, hok⟩
      refine ⟨_, rfl, ?_⟩
      generalize hA : Act.put a6 _ _ = a7
      have hput : ∀ k, k ≠ 57 → a7.tmps.getD k undef = a6.tmps.getD k undef := fun k hk => by rw [← hA]; exact put_getD fun he => hk (Option.some.inj he).symm
      have h7 : JS l w0 w7 b i (s ++ gapP (prev l i) l[i] ++ l[i].text) sv a7 := by
        refine ⟨h6.hb.trans hbel, .inr ?_, (hput 0 (by decide)).trans h6.t0, (hput 7 (by decide)).trans h6.t7, (hput 25 (by decide)).trans h6.t25, (hput 26 (by decide)).trans h6.t26, (hput 27 (by decide)).trans h6.t27, by rw [← hA]; exact h6.d, by rw [← hA]; simpa [Act.put] using h6.sz⟩
        rw [Lib.byteCells_append (s ++ _)]; exact hAt
      show Code.wp _ _ _ _ _
      refine region_ev (C := evc plan) (ro := planRo) (N := 62) (hk := noKeep) planFollows hS (by simp) (by decide) (K := fun t m => okIf (t 27 = .int .i64 ((i + 1 : Nat) : Int))) (r := ()) (t := upd (fun _ => .undef) 27 (.int .i64 i)) ?_ (SR.start (hGw h7.hb) (T_upd T_none (by rw [h7.t27]; exact hint _)) h7.d h7.sz) ?_
      · have w2 : IntKind.i64.wrap ((i : Int) + 1) = ((i + 1 : Nat) : Int) := wrap_i64 (by omega) (by omega)
        simp [-Int.natCast_add, dFor_none, storeFine_none, dFor_no, storeFine_no, lessL, lkL, evCode_exit, evCode_seq, evCode_plain, evCode_draw, evCode_cond, evCode_ret, evCode_skip, evCode_block, evCode_loop, roundK_normal, roundK_exit, roundK_ret, seqK_normal, seqK_exit, seqK_ret, blockK_normal, blockK_exit, blockK_ret, regK_eq, evOps_nil, evOps_cons, params, astep, okDst, isWanted, aop, opnd, ofValue, putT, abin, headS, ofL, noPtr, acall, adopt_bool, adopt_int, adopt_str, adopt_agg, adopt_clip, upd_false, AV.cells, partOf, setCells, fillC, AV.isVal, List.range, List.range.loop, ofB, mayRead, dsts, planRo, capIds, viewed, scalarR, AV.scalar, bare_undef, bare_bool, bare_int, bare_str, bare_snil, bare_snone, bare_sclip, bare_srow, bare_ptr, bare_eptr, bare_pnil, bare_fn, bare_fnil, bare_agg, bare_tup, w2, okIf_true]
      intro t8 m8 c8 a8 w8 hK8 hR8 e8 hF8
      have hb8 : Below w7.heap.size w7 w8 := below_of_evo (fun _ _ h => h) e8
      have v27 : a8.tmps.getD 27 undef = .int .i64 ((i + 1 : Nat) : Int) := T_int (by have := hR8.T 27; rw [okIf_elim hK8] at this; exact this)
      exact hnext hi a8 w8 ⟨below_later h7.hb hb8, isB_below h7.hB hb8, (hF8 0 (by decide)).trans h7.t0, (hF8 7 (by decide)).trans h7.t7, (hF8 25 (by decide)).trans h7.t25, (hF8 26 (by decide)).trans h7.t26, v27, hR8.defers, hR8.size⟩
  · have hi' : ¬ (i : Int) < l.length := by omega
    rw [decide_eq_false hi'] at hc1
    refine wp_seq (wp_cond hc1 (wp_exit ?_))
    exact hend hi a1 w1 h1

/-- The loop: all tokens joined. -/
theorem jt_loop (l : List Tk) (hl : l.length ≤ 1200) (hx : ∀ t ∈ l, t.text.length ≤ 140) (he : ∀ t ∈ l, textErrP t = 0) (w0 : World) (sv : Value) (hG : Gl Tryz.prog noOwn w0) (hV : V noOwn w0 (.sl 4 (l.map tkC) .none) sv) (b : Nat) (G : Str × Int) (Q : Exit → Act → World → Prop)
    (hQ : ∀ s a' w', JS l w0 w' b l.length s sv a' → (s, 0) = G → s.length ≤ 141 * l.length → Q (.exit 2) a' w') :
    ∀ (n i : Nat) (s : Str) (w : World) (a : Act), n = l.length - i → i ≤ l.length → JS l w0 w b i s sv a → s.length ≤ 141 * i → joinGo (l.drop i) (prev l i) s = G → Code.rounds Tryz.prog jtBody Q (n + 1) a w := by
  intro n
  induction n with
  | zero =>
    intro i s w a hn hi h hs hg
    have hil : i = l.length := by omega
    subst hil
    rw [rounds_succ]
    refine jt_round l hl hx he w0 sv hG hV b l.length s w a h hs _ (fun _ a' w' h' => ?_) (fun hi => absurd hi (Nat.lt_irrefl _))
    rw [List.drop_eq_nil_of_le (Nat.le_refl _)] at hg
    exact hQ s a' w' h' hg hs
  | succ n ih =>
    intro i s w a hn hi h hs hg
    have hi' : i < l.length := by omega
    rw [rounds_succ]
    refine jt_round l hl hx he w0 sv hG hV b i s w a h hs _ (fun hi => absurd hi' hi) fun _ a' w' h' => ?_
    have hxi := hx l[i] (List.getElem_mem hi')
    rw [List.drop_eq_getElem_cons hi', joinGo, if_pos (he _ (List.getElem_mem hi'))] at hg
    have hgl : (gapP (prev l i) l[i]).length ≤ 1 := by
      unfold gapP
      cases prev l i with
      | none => simp
      | some a => simp only; split <;> simp
    refine ih (i + 1) _ w' a' (by omega) (by omega) h' (by simp only [List.length_append]; omega) ?_
    rw [show prev l (i + 1) = some l[i] from List.getElem?_eq_getElem hi']
    exact hg
end Go.Proofs.YtlmmgblghgmgeaaGreatDoor

/- JoinedText: its first half by the evaluator, its end, and its contract. -/
namespace Go.Proofs.YtlmmgblghgmgeaaGreatDoor
open Go Ev Go.RowKit
set_option maxRecDepth 100000
set_option linter.unusedSimpArgs false
set_option linter.unusedVariables false

theorem joinGo_err : ∀ (l : List Tk) (i : Nat) (p : Option Tk) (s : Str) (h : i < l.length), (∀ x ∈ l.take i, textErrP x = 0) → textErrP l[i] ≠ 0 → joinGo l p s = ([], textErrP l[i])
  | [], i, p, s, h, _, _ => by simp at h
  | t :: r, 0, p, s, h, _, he => by
    have he : textErrP t ≠ 0 := he
    rw [joinGo, if_neg he]; rfl
  | t :: r, i + 1, p, s, h, ha, he => by
    rw [joinGo, if_pos (ha t (by simp))]
    exact joinGo_err r i _ _ (by simpa using h) (fun x hx => ha x (by rw [List.take_succ_cons]; exact List.mem_cons_of_mem _ hx)) he
theorem joinGo_ok : ∀ (l : List Tk) (p : Option Tk) (s : Str), (∀ x ∈ l, textErrP x = 0) → (joinGo l p s).2 = 0
  | [], p, s, _ => rfl
  | t :: r, p, s, h => by
    rw [joinGo, if_pos (h t (by simp))]
    exact joinGo_ok r _ _ fun x hx => h x (List.mem_cons_of_mem _ hx)
/-- What the first half comes to. -/
def PreOk (l : List Tk) (e : Ex) (t : Tmps) : Prop :=
  match e with
  | .ret => t 2 = .str (joinP l).1 ∧ t 3 = .int .i64 (joinP l).2
  | .normal => t 0 = .sl 4 (l.map tkC) .none ∧ l.length ≤ 1200 ∧ ∀ x ∈ l, textErrP x = 0
  | .exit _ => False
noncomputable def preK (l : List Tk) (e : Ex) (t : Tmps) (m : Mem) : Option Unit := okIf (PreOk l e t)
theorem preK_ret {l : List Tk} {t : Tmps} {m : Mem} (h2 : t 2 = .str (joinP l).1) (h3 : t 3 = .int .i64 (joinP l).2) : preK l .ret t m = some () := okIf_intro ⟨h2, h3⟩
theorem preK_normal {l : List Tk} {t : Tmps} {m : Mem} (h2 : t 0 = .sl 4 (l.map tkC) .none) (h3 : l.length ≤ 1200) (h : ∀ x ∈ l, textErrP x = 0) : preK l .normal t m = some () := okIf_intro ⟨h2, h3, h⟩
def keepJt : Keep := ⟨[(0, none), (13, none), (14, none), (15, none)], [], by decide, by decide⟩
def lvJt : Nat → Keep := fun id => if id = 4 then keepJt else noKeep
def jtPre : Code → Code
  | .seq x (.seq y (.seq z _)) => .seq x (.seq y z)
  | c => c
theorem jt_ok : codeOk lvJt (jtPre jtAll) = true := by kernel_rfl
set_option maxHeartbeats 4000000 in
theorem jtPre_ev (l : List Tk) (hl : l.length ≤ 1300) (hx : ∀ t ∈ l, t.text.length ≤ 140) (c : Code) (hc : jtPre jtAll = c) : evCode Tryz.prog ⟨evc plan, planRo, lvJt, 62⟩ c (params [.sl 4 (l.map tkC) .none] 0) noMem (preK l) = some () := by
  obtain rfl := hc
  show evCode Tryz.prog _ (.seq _ (.seq _ _)) _ _ _ = _
  have hJ : joinP l = if 1200 < l.length then ([], 2) else if (joinGo l none []).2 = 0 then (if 20000 < (joinGo l none []).1.length then ([], 2) else ((joinGo l none []).1, 0)) else ([], (joinGo l none []).2) := rfl
  by_cases h0 : 1200 < l.length
  · have h0' : (1200 : Int) < l.length := by omega
    rw [if_pos h0] at hJ
    simp [-Int.natCast_add, dFor_none, storeFine_none, dFor_no, storeFine_no, lessL, lkL, evCode_exit, evCode_seq, evCode_plain, evCode_draw, evCode_cond, evCode_ret, evCode_skip, evCode_block, evCode_loop, roundK_normal, roundK_exit, roundK_ret, seqK_normal, seqK_exit, seqK_ret, blockK_normal, blockK_exit, blockK_ret, regK_eq, evOps_nil, evOps_cons, params, astep, okDst, isWanted, aop, opnd, ofValue, putT, abin, headS, ofL, noPtr, acall, adopt_bool, adopt_int, adopt_str, adopt_agg, adopt_clip, upd_false, AV.cells, partOf, setCells, fillC, AV.isVal, List.range, List.range.loop, ofB, mayRead, dsts, planRo, capIds, viewed, scalarR, AV.scalar, bare_undef, bare_bool, bare_int, bare_str, bare_snil, bare_snone, bare_sclip, bare_srow, bare_ptr, bare_eptr, bare_pnil, bare_fn, bare_fnil, bare_agg, bare_tup, h0, h0', noMem]
    exact preK_ret (by rw [hJ]; simp) (by rw [hJ]; simp)
  · have h0' : ¬ (1200 : Int) < l.length := by omega
    rw [if_neg h0] at hJ
    simp [-Int.natCast_add, dFor_none, storeFine_none, dFor_no, storeFine_no, lessL, lkL, evCode_exit, evCode_seq, evCode_plain, evCode_draw, evCode_cond, evCode_ret, evCode_skip, evCode_block, evCode_loop, roundK_normal, roundK_exit, roundK_ret, seqK_normal, seqK_exit, seqK_ret, blockK_normal, blockK_exit, blockK_ret, regK_eq, evOps_nil, evOps_cons, params, astep, okDst, isWanted, aop, opnd, ofValue, putT, abin, headS, ofL, noPtr, acall, adopt_bool, adopt_int, adopt_str, adopt_agg, adopt_clip, upd_false, AV.cells, partOf, setCells, fillC, AV.isVal, List.range, List.range.loop, ofB, mayRead, dsts, planRo, capIds, viewed, scalarR, AV.scalar, bare_undef, bare_bool, bare_int, bare_str, bare_snil, bare_snone, bare_sclip, bare_srow, bare_ptr, bare_eptr, bare_pnil, bare_fn, bare_fnil, bare_agg, bare_tup, h0, h0', noMem]
    refine loop_by (fun i => l.length - i) (fun (i : Nat) t m => i ≤ l.length ∧ (∀ x ∈ l.take i, textErrP x = 0) ∧ clean (lvJt 4) t m = headS [(0, .sl 4 (l.map tkC) .none), (13, .sl 4 (l.map tkC) .none), (14, .int .i64 l.length), (15, .int .i64 i)] []) ?_ 0 ?_
    · rintro i t m ⟨hi, hI, hS⟩ ih
      refine round_of hS ?_
      by_cases h1 : i < l.length
      · have hxi := hx l[i] (List.getElem_mem h1)
        have hck := textErr_ev l[i] (by omega)
        by_cases h2 : textErrP l[i] = 0
        · rw [h2] at hck
          have hI2 : ∀ x ∈ l.take (i + 1), textErrP x = 0 := fun x hx => by
            rw [List.take_succ_eq_append_getElem h1] at hx
            rcases List.mem_append.1 hx with hx | hx
            · exact hI x hx
            · simp at hx; rw [hx]; exact h2
          rcases hq : l[i] with ⟨kd, tx, ln, cl⟩
          rw [hq] at hck
          simp only [tkC] at hck
          have w2 : IntKind.i64.wrap ((i : Int) + 1) = ((i + 1 : Nat) : Int) := wrap_i64 (by omega) (by omega)
          simp [-Int.natCast_add, dFor_none, storeFine_none, dFor_no, storeFine_no, lessL, lkL, evCode_exit, evCode_seq, evCode_plain, evCode_draw, evCode_cond, evCode_ret, evCode_skip, evCode_block, evCode_loop, roundK_normal, roundK_exit, roundK_ret, seqK_normal, seqK_exit, seqK_ret, blockK_normal, blockK_exit, blockK_ret, regK_eq, evOps_nil, evOps_cons, params, astep, okDst, isWanted, aop, opnd, ofValue, putT, abin, headS, ofL, noPtr, acall, adopt_bool, adopt_int, adopt_str, adopt_agg, adopt_clip, upd_false, AV.cells, partOf, setCells, fillC, AV.isVal, List.range, List.range.loop, ofB, mayRead, dsts, planRo, capIds, viewed, scalarR, AV.scalar, bare_undef, bare_bool, bare_int, bare_str, bare_snil, bare_snone, bare_sclip, bare_srow, bare_ptr, bare_eptr, bare_pnil, bare_fn, bare_fnil, bare_agg, bare_tup, passed, setBoxes, killNames, addNames, freshAll, adopt, resParts, resBack, relabB, relabL, namesOf, cellsOfB, boxName, row_undef, row_bool, row_int, row_str, row_snil, row_snone, row_sclip, row_srow, row_ptr, row_eptr, row_pnil, row_fn, row_fnil, row_agg, row_tup, relab_undef, relab_bool, relab_int, relab_str, relab_snil, relab_snone, relab_sclip, relab_srow, relab_ptr, relab_eptr, relab_pnil, relab_fn, relab_fnil, relab_agg, relab_tup, relab_sgrow, lvJt, keepJt, h1, hq, tkC, hck, w2]
          refine ih (i + 1) _ _ (by omega) ⟨by omega, hI2, ?_⟩
          simp [-Int.natCast_add, clean, keepBoxes, relabB, relabL, cleanS, fixPtr, headS, ofL, ofB, cellsOfB, namesOf, upd_false, AV.cells, row_undef, row_bool, row_int, row_str, row_snil, row_snone, row_sclip, row_srow, row_ptr, row_eptr, row_pnil, row_fn, row_fnil, row_agg, row_tup, relab_undef, relab_bool, relab_int, relab_str, relab_snil, relab_snone, relab_sclip, relab_srow, relab_ptr, relab_eptr, relab_pnil, relab_fn, relab_fnil, relab_agg, relab_tup, relab_sgrow, passed, setBoxes, killNames, addNames, freshAll, adopt, resParts, resBack, relabB, relabL, namesOf, cellsOfB, boxName, row_undef, row_bool, row_int, row_str, row_snil, row_snone, row_sclip, row_srow, row_ptr, row_eptr, row_pnil, row_fn, row_fnil, row_agg, row_tup, relab_undef, relab_bool, relab_int, relab_str, relab_snil, relab_snone, relab_sclip, relab_srow, relab_ptr, relab_eptr, relab_pnil, relab_fn, relab_fnil, relab_agg, relab_tup, relab_sgrow, lvJt, keepJt, tkC]
        · have hjg := joinGo_err l i none [] h1 hI h2
          rw [hjg, if_neg h2] at hJ
          simp only at hJ
          rcases hq : l[i] with ⟨kd, tx, ln, cl⟩
          rw [hq] at hck h2 hJ
          simp only [tkC] at hck
          generalize textErrP ⟨kd, tx, ln, cl⟩ = ee at hck h2 hJ
          have h2' : (ee != 0) = true := by simpa using h2
          simp [-Int.natCast_add, dFor_none, storeFine_none, dFor_no, storeFine_no, lessL, lkL, evCode_exit, evCode_seq, evCode_plain, evCode_draw, evCode_cond, evCode_ret, evCode_skip, evCode_block, evCode_loop, roundK_normal, roundK_exit, roundK_ret, seqK_normal, seqK_exit, seqK_ret, blockK_normal, blockK_exit, blockK_ret, regK_eq, evOps_nil, evOps_cons, params, astep, okDst, isWanted, aop, opnd, ofValue, putT, abin, headS, ofL, noPtr, acall, adopt_bool, adopt_int, adopt_str, adopt_agg, adopt_clip, upd_false, AV.cells, partOf, setCells, fillC, AV.isVal, List.range, List.range.loop, ofB, mayRead, dsts, planRo, capIds, viewed, scalarR, AV.scalar, bare_undef, bare_bool, bare_int, bare_str, bare_snil, bare_snone, bare_sclip, bare_srow, bare_ptr, bare_eptr, bare_pnil, bare_fn, bare_fnil, bare_agg, bare_tup, passed, setBoxes, killNames, addNames, freshAll, adopt, resParts, resBack, relabB, relabL, namesOf, cellsOfB, boxName, row_undef, row_bool, row_int, row_str, row_snil, row_snone, row_sclip, row_srow, row_ptr, row_eptr, row_pnil, row_fn, row_fnil, row_agg, row_tup, relab_undef, relab_bool, relab_int, relab_str, relab_snil, relab_snone, relab_sclip, relab_srow, relab_ptr, relab_eptr, relab_pnil, relab_fn, relab_fnil, relab_agg, relab_tup, relab_sgrow, lvJt, keepJt, h1, hq, tkC, hck, h2']
          refine preK_ret ?_ ?_ <;> rw [hJ] <;> simp
      · have hil : i = l.length := by omega
        simp [-Int.natCast_add, dFor_none, storeFine_none, dFor_no, storeFine_no, lessL, lkL, evCode_exit, evCode_seq, evCode_plain, evCode_draw, evCode_cond, evCode_ret, evCode_skip, evCode_block, evCode_loop, roundK_normal, roundK_exit, roundK_ret, seqK_normal, seqK_exit, seqK_ret, blockK_normal, blockK_exit, blockK_ret, regK_eq, evOps_nil, evOps_cons, params, astep, okDst, isWanted, aop, opnd, ofValue, putT, abin, headS, ofL, noPtr, acall, adopt_bool, adopt_int, adopt_str, adopt_agg, adopt_clip, upd_false, AV.cells, partOf, setCells, fillC, AV.isVal, List.range, List.range.loop, ofB, mayRead, dsts, planRo, capIds, viewed, scalarR, AV.scalar, bare_undef, bare_bool, bare_int, bare_str, bare_snil, bare_snone, bare_sclip, bare_srow, bare_ptr, bare_eptr, bare_pnil, bare_fn, bare_fnil, bare_agg, bare_tup, passed, setBoxes, killNames, addNames, freshAll, adopt, resParts, resBack, relabB, relabL, namesOf, cellsOfB, boxName, row_undef, row_bool, row_int, row_str, row_snil, row_snone, row_sclip, row_srow, row_ptr, row_eptr, row_pnil, row_fn, row_fnil, row_agg, row_tup, relab_undef, relab_bool, relab_int, relab_str, relab_snil, relab_snone, relab_sclip, relab_srow, relab_ptr, relab_eptr, relab_pnil, relab_fn, relab_fnil, relab_agg, relab_tup, relab_sgrow, lvJt, keepJt, h1]
        exact preK_normal (by simp) (by omega) (by rw [hil, List.take_length] at hI; exact hI)
    · refine ⟨by omega, by simp, ?_⟩
      simp [-Int.natCast_add, clean, keepBoxes, relabB, relabL, cleanS, fixPtr, headS, ofL, ofB, cellsOfB, namesOf, upd_false, AV.cells, row_undef, row_bool, row_int, row_str, row_snil, row_snone, row_sclip, row_srow, row_ptr, row_eptr, row_pnil, row_fn, row_fnil, row_agg, row_tup, relab_undef, relab_bool, relab_int, relab_str, relab_snil, relab_snone, relab_sclip, relab_srow, relab_ptr, relab_eptr, relab_pnil, relab_fn, relab_fnil, relab_agg, relab_tup, relab_sgrow, passed, setBoxes, killNames, addNames, freshAll, adopt, resParts, resBack, relabB, relabL, namesOf, cellsOfB, boxName, row_undef, row_bool, row_int, row_str, row_snil, row_snone, row_sclip, row_srow, row_ptr, row_eptr, row_pnil, row_fn, row_fnil, row_agg, row_tup, relab_undef, relab_bool, relab_int, relab_str, relab_snil, relab_snone, relab_sclip, relab_srow, relab_ptr, relab_eptr, relab_pnil, relab_fn, relab_fnil, relab_agg, relab_tup, relab_sgrow, lvJt, keepJt, tkC]

set_option maxHeartbeats 4000000 in
theorem jt_rest (l : List Tk) (hl : l.length ≤ 1200) (hx : ∀ t ∈ l, t.text.length ≤ 140) (he : ∀ t ∈ l, textErrP t = 0) (w0 : World) (sv : Value) (hG : Gl Tryz.prog noOwn w0) (hV : V noOwn w0 (.sl 4 (l.map tkC) .none) sv)
    (a : Act) (h0 : a.tmps.getD 0 undef = sv) (hd : a.defers = []) (hsz : 62 ≤ a.tmps.size) :
    jtRest.wp Tryz.prog (fun e a' w' => e = .ret ∧ a'.defers = [] ∧ a'.tmps.getD 2 undef = .string ⟨(joinP l).1.toArray⟩ ∧ a'.tmps.getD 3 undef = .int .i64 (joinP l).2 ∧ Below w0.heap.size w0 w') a w0 := by
  have hS : Sound Tryz.prog (evc plan) := evc_sound plan_ok
  have hGw : ∀ {w'}, Below w0.heap.size w0 w' → Gl Tryz.prog noOwn w' := fun hb => hG.below hb
  have hVw : ∀ {w'}, Below w0.heap.size w0 w' → T noCfg w' (.sl 4 (l.map tkC) .none) sv := fun hb => .of_V (hV.mono (.below hb))
  have hint : ∀ {w'} (k : Int), T noCfg w' (.int .i64 k) (.int .i64 k) := fun k => .of_V (.int _ _)
  have hJ : joinP l = if 20000 < (joinGo l none []).1.length then ([], 2) else ((joinGo l none []).1, 0) := by
    unfold joinP
    rw [if_neg (by omega), if_pos (joinGo_ok l none [] he)]
  -- the builder
  refine wp_seq (wp_region ?_)
  show wpOps _ _ _ [0] _ _
  rw [wpOps_cons]
  refine wpOp_value (v := .pointer (some ⟨w0.heap.size, 0, none⟩)) (w' := w0.alloc (.cells #[.pointer none, .slice none 0 0] 85)) rfl rfl (by unfold execOp; simp [Instr.alloc, Tryz.zeroValue85, newVar, newRow]; rfl) ?_
  show Code.wp _ _ _ _ _
  generalize hA1 : Act.put a _ _ = a1
  have hput : ∀ k, k ≠ 7 → a1.tmps.getD k undef = a.tmps.getD k undef := fun k hk => by rw [← hA1]; exact put_getD fun he => hk (Option.some.inj he).symm
  have v7 : a1.tmps.getD 7 undef = .pointer (some ⟨w0.heap.size, 0, none⟩) := by rw [← hA1]; exact put_same (by omega)
  have hb1 : Below w0.heap.size w0 (w0.alloc (.cells #[.pointer none, .slice none 0 0] 85)) := (Below.refl _ _).alloc (Nat.le_refl _) _
  have hB1 : Lib.IsBuilderF 85 5 w0.heap.size w0.heap.size (Lib.byteCells []) (w0.alloc (.cells #[.pointer none, .slice none 0 0] 85)) := isB_new (Nat.le_refl _)
  generalize w0.alloc _ = w1 at hb1 hB1
  have hd1 : a1.defers = [] := by rw [← hA1]; exact hd
  have hs1 : 62 ≤ a1.tmps.size := by rw [← hA1]; simpa [Act.put] using hsz
  -- the loop's variables
  refine wp_seq (wp_seq (region_tr (C := evc plan) (ro := planRo) (N := 62) (hk := noKeep) planFollows hS (by simp) (by decide) (K := fun t m => okIf (t 26 = .int .i64 l.length ∧ t 27 = .int .i64 0)) (r := ()) (t := upd (fun _ => .undef) 0 (.sl 4 (l.map tkC) .none)) ?_ (SR.start (hGw hb1) (T_upd T_none (by rw [hput 0 (by decide), h0]; exact hVw hb1)) hd1 hs1) ?_))
  · simp [-Int.natCast_add, dFor_none, storeFine_none, dFor_no, storeFine_no, lessL, lkL, evCode_exit, evCode_seq, evCode_plain, evCode_draw, evCode_cond, evCode_ret, evCode_skip, evCode_block, evCode_loop, roundK_normal, roundK_exit, roundK_ret, seqK_normal, seqK_exit, seqK_ret, blockK_normal, blockK_exit, blockK_ret, regK_eq, evOps_nil, evOps_cons, params, astep, okDst, isWanted, aop, opnd, ofValue, putT, abin, headS, ofL, noPtr, acall, adopt_bool, adopt_int, adopt_str, adopt_agg, adopt_clip, upd_false, AV.cells, partOf, setCells, fillC, AV.isVal, List.range, List.range.loop, ofB, mayRead, dsts, planRo, capIds, viewed, scalarR, AV.scalar, bare_undef, bare_bool, bare_int, bare_str, bare_snil, bare_snone, bare_sclip, bare_srow, bare_ptr, bare_eptr, bare_pnil, bare_fn, bare_fnil, bare_agg, bare_tup, okIf_true]
  intro t2 m2 c2 a2 w2 hK2 hR2 e2 hT2
  have hb2 : Below w1.heap.size w1 w2 := below_of_evo (fun _ _ h => h) e2
  obtain ⟨k26, k27⟩ := okIf_elim hK2
  have h2 : JS l w0 w2 w0.heap.size 0 [] sv a2 := ⟨below_later hb1 hb2, isB_below hB1 hb2, (hT2.frame 0 (by decide)).trans ((hput 0 (by decide)).trans h0), (hT2.frame 7 (by decide)).trans v7,
    (copy_val (s := 0) (x := 25) (by decide) hT2).trans ((hput 0 (by decide)).trans h0), T_int (by have := hR2.T 26; rw [k26] at this; exact this), T_int (by have := hR2.T 27; rw [k27] at this; exact this), hR2.defers, hR2.size⟩
  show Code.wp _ _ _ _ _
  refine wp_block (wp_loop_rounds (l.length + 1) (jt_loop l hl hx he w0 sv hG hV w0.heap.size (joinGo l none []) _ (fun s a3 w3 h3 hs hlen => ?_) l.length 0 [] w2 a2 (by omega) (by omega) h2 (by simp) rfl))
  rw [← hs] at hJ
  simp only at hJ
  show Code.wp _ _ _ _ _
  -- the length
  refine wp_seq (wp_seq (wp_region ?_))
  show wpOps _ _ _ [0, 1] _ _
  rw [wpOps_cons]
  refine wpOp_call (f := 52) rfl rfl rfl Tryz.call52 ?_
  have hm3 : (#[Operand.tmp 7].map a3.eval) = #[.pointer (some ⟨w0.heap.size, 0, none⟩)] := by
    have q7 : a3.eval (.tmp 7) = .pointer (some ⟨w0.heap.size, 0, none⟩) := h3.t7
    simp [q7]
  rw [hm3]
  refine (Tryz.Builder_Len_f2 w0.heap.size w0.heap.size (Lib.byteCells s) w3 h3.hB).mono ?_
  rintro e w4 ⟨rfl, rfl⟩
  refine ⟨_, rfl, ?_⟩
  rw [Lib.byteCells_length]
  generalize hA4 : Act.put a3 _ _ = a4
  have hput4 : ∀ k, k ≠ 59 → a4.tmps.getD k undef = a3.tmps.getD k undef := fun k hk => by rw [← hA4]; exact put_getD fun he => hk (Option.some.inj he).symm
  have v59 : a4.tmps.getD 59 undef = .int .i64 s.length := by rw [← hA4]; exact put_same (Nat.lt_of_lt_of_le (by decide) h3.sz)
  have h4 : JS l w0 w4 w0.heap.size l.length s sv a4 := ⟨h3.hb, h3.hB, (hput4 0 (by decide)).trans h3.t0, (hput4 7 (by decide)).trans h3.t7, (hput4 25 (by decide)).trans h3.t25, (hput4 26 (by decide)).trans h3.t26, (hput4 27 (by decide)).trans h3.t27, by rw [← hA4]; exact h3.d, by rw [← hA4]; simpa [Act.put] using h3.sz⟩
  rw [wpOps_cons]
  refine step_did (C := evc plan) (ro := planRo) (D := none) (N := 62) (t := upd (fun _ => .undef) 59 (.int .i64 s.length)) (m := noMem) (t' := upd (upd (fun _ => .undef) 59 (.int .i64 s.length)) 60 (.bool (decide ((20000 : Int) < s.length)))) (m' := noMem) hS rfl (SR.start (hGw h4.hb) (T_upd T_none (by rw [v59]; exact hint _)) h4.d h4.sz) ?_ ?_
  · simp [-Int.natCast_add, dFor_none, storeFine_none, dFor_no, storeFine_no, lessL, lkL, evCode_exit, evCode_seq, evCode_plain, evCode_draw, evCode_cond, evCode_ret, evCode_skip, evCode_block, evCode_loop, roundK_normal, roundK_exit, roundK_ret, seqK_normal, seqK_exit, seqK_ret, blockK_normal, blockK_exit, blockK_ret, regK_eq, evOps_nil, evOps_cons, params, astep, okDst, isWanted, aop, opnd, ofValue, putT, abin, headS, ofL, noPtr, acall, adopt_bool, adopt_int, adopt_str, adopt_agg, adopt_clip, upd_false, AV.cells, partOf, setCells, fillC, AV.isVal, List.range, List.range.loop, ofB, mayRead, dsts, planRo, capIds, viewed, scalarR, AV.scalar, bare_undef, bare_bool, bare_int, bare_str, bare_snil, bare_snone, bare_sclip, bare_srow, bare_ptr, bare_eptr, bare_pnil, bare_fn, bare_fnil, bare_agg, bare_tup]
  intro c5 a5 w5 hR5 e5 _ hdid
  have hb5 : Below w4.heap.size w4 w5 := below_of_evo (fun _ _ h => h) e5
  obtain ⟨v5, ha5, _, _⟩ := hdid
  have hput5 : ∀ k, k ≠ 60 → a5.tmps.getD k undef = a4.tmps.getD k undef := fun k hk => by rw [ha5]; exact put_getD fun he => hk (Option.some.inj he).symm
  have h5 := h4.go hb5 (fun k hk => hput5 k (by revert k; decide)) hR5.defers hR5.size
  have hc5 : a5.eval (.tmp 60) = .bool (decide ((20000 : Int) < s.length)) := T_bool (hR5.T 60)
  show Code.wp _ _ _ _ _
  by_cases hlong : 20000 < s.length
  · rw [decide_eq_true (by omega)] at hc5
    rw [if_pos hlong] at hJ
    refine wp_cond hc5 ?_
    refine wp_seq (region_ev (C := evc plan) (ro := planRo) (N := 62) (hk := noKeep) planFollows hS (by simp) (by decide) (K := fun t m => okIf (t 2 = .str [] ∧ t 3 = .int .i64 2)) (r := ()) (t := fun _ => .undef) ?_ (SR.start (hGw h5.hb) T_none h5.d h5.sz) ?_)
    · simp [-Int.natCast_add, dFor_none, storeFine_none, dFor_no, storeFine_no, lessL, lkL, evCode_exit, evCode_seq, evCode_plain, evCode_draw, evCode_cond, evCode_ret, evCode_skip, evCode_block, evCode_loop, roundK_normal, roundK_exit, roundK_ret, seqK_normal, seqK_exit, seqK_ret, blockK_normal, blockK_exit, blockK_ret, regK_eq, evOps_nil, evOps_cons, params, astep, okDst, isWanted, aop, opnd, ofValue, putT, abin, headS, ofL, noPtr, acall, adopt_bool, adopt_int, adopt_str, adopt_agg, adopt_clip, upd_false, AV.cells, partOf, setCells, fillC, AV.isVal, List.range, List.range.loop, ofB, mayRead, dsts, planRo, capIds, viewed, scalarR, AV.scalar, bare_undef, bare_bool, bare_int, bare_str, bare_snil, bare_snone, bare_sclip, bare_srow, bare_ptr, bare_eptr, bare_pnil, bare_fn, bare_fnil, bare_agg, bare_tup, okIf_true]
    intro t6 m6 c6 a6 w6 hK6 hR6 e6 _
    have hb6 : Below w5.heap.size w5 w6 := below_of_evo (fun _ _ h => h) e6
    obtain ⟨k2, k3⟩ := okIf_elim hK6
    show Code.wp _ _ _ _ _
    refine wp_ret ⟨rfl, hR6.defers, ?_, ?_, below_later h5.hb hb6⟩
    · rw [hJ]; exact T_str (by have := hR6.T 2; rw [k2] at this; exact this)
    · rw [hJ]; exact T_int (by have := hR6.T 3; rw [k3] at this; exact this)
  · rw [decide_eq_false (by omega)] at hc5
    rw [if_neg hlong] at hJ
    refine wp_cond hc5 (wp_skip ?_)
    show Code.wp _ _ _ _ _
    refine wp_seq (wp_region ?_)
    show wpOps _ _ _ [0, 1, 2] _ _
    rw [wpOps_cons]
    refine wpOp_call (f := 53) rfl rfl rfl Tryz.call53 ?_
    have hm6 : (#[Operand.tmp 7].map a5.eval) = #[.pointer (some ⟨w0.heap.size, 0, none⟩)] := by
      have q7 : a5.eval (.tmp 7) = .pointer (some ⟨w0.heap.size, 0, none⟩) := h5.t7
      simp [q7]
    rw [hm6]
    refine (Tryz.Builder_String_any_f2 w0.heap.size w0.heap.size s w5 h5.hB h5.hb.size).mono ?_
    rintro e w6 ⟨rfl, _, hbel⟩
    refine ⟨_, rfl, ?_⟩
    generalize hA6 : Act.put a5 _ _ = a6
    have v61 : a6.tmps.getD 61 undef = .string ⟨s.toArray⟩ := by rw [← hA6]; exact put_same (Nat.lt_of_lt_of_le (by decide) h5.sz)
    refine ops_sound (C := evc plan) (ro := planRo) (D := none) (N := 62) (K := fun t m => okIf (t 2 = .str s ∧ t 3 = .int .i64 0)) (r := ()) hS _ 1 (upd (fun _ => .undef) 61 (.str s)) noMem rfl ?_ noCfg a6 w6 (SR.start (hGw (h5.hb.trans hbel)) (T_upd T_none (by rw [v61]; exact .of_V (.str _))) (by rw [← hA6]; exact h5.d) (by rw [← hA6]; simpa [Act.put] using h5.sz)) ?_
    · simp [-Int.natCast_add, dFor_none, storeFine_none, dFor_no, storeFine_no, lessL, lkL, evCode_exit, evCode_seq, evCode_plain, evCode_draw, evCode_cond, evCode_ret, evCode_skip, evCode_block, evCode_loop, roundK_normal, roundK_exit, roundK_ret, seqK_normal, seqK_exit, seqK_ret, blockK_normal, blockK_exit, blockK_ret, regK_eq, evOps_nil, evOps_cons, params, astep, okDst, isWanted, aop, opnd, ofValue, putT, abin, headS, ofL, noPtr, acall, adopt_bool, adopt_int, adopt_str, adopt_agg, adopt_clip, upd_false, AV.cells, partOf, setCells, fillC, AV.isVal, List.range, List.range.loop, ofB, mayRead, dsts, planRo, capIds, viewed, scalarR, AV.scalar, bare_undef, bare_bool, bare_int, bare_str, bare_snil, bare_snone, bare_sclip, bare_srow, bare_ptr, bare_eptr, bare_pnil, bare_fn, bare_fnil, bare_agg, bare_tup, okIf_true]
    intro t7 m7 c7 a7 w7 hK7 hR7 e7 _
    have hb7 : Below w6.heap.size w6 w7 := below_of_evo (fun _ _ h => h) e7
    obtain ⟨k2, k3⟩ := okIf_elim hK7
    show Code.wp _ _ _ _ _
    refine wp_ret ⟨rfl, hR7.defers, ?_, ?_, below_later (h5.hb.trans hbel) hb7⟩
    · rw [hJ]; exact T_str (by have := hR7.T 2; rw [k2] at this; exact this)
    · rw [hJ]; exact T_int (by have := hR7.T 3; rw [k3] at this; exact this)

theorem jt_sim (l : List Tk) (hl : l.length ≤ 1300) (hx : ∀ t ∈ l, t.text.length ≤ 140) : SimCall Tryz.prog 25 [.sl 4 (l.map tkC) .none] [] (joAV (joinP l)) [] := by
  refine sim_of_below Tryz.call25 (fun x hx c w v h => by simp at hx; subst hx; exact h) fun w vs hG hsz ha => ?_
  refine calls_of_wp Tryz.func25 (c := jtAll) rfl ?_
  have hR := params_T (N := 62) (fn := Tryz.f25) (c := noCfg) (P := Tryz.prog) (Nat.le_refl _) hsz (fun i x v hx hv => .of_V (ha i x v hx hv)) (noMem_rel w) hG
  refine seq3_ev planFollows (E := ⟨evc plan, planRo, lvJt, 62⟩) (evc_sound plan_ok) jt_ok (jtPre_ev l hl hx _ rfl) hR fun e t1 m1 c1 a1 w1 hK hR1 e1 => ?_
  have hb1 : Below w.heap.size w w1 := below_of_evo (fun _ _ h => h) e1
  have hp := okIf_elim hK
  have res : ∀ a' : Act, a'.tmps.getD 2 undef = .string ⟨(joinP l).1.toArray⟩ → a'.tmps.getD 3 undef = .int .i64 (joinP l).2 → ∀ w', (results Tryz.f25 a'.tmps).run Tryz.prog w' = .ok (.tuple #[.string ⟨(joinP l).1.toArray⟩, .int .i64 (joinP l).2]) w' := fun a' h2 h3 w' => by
    have hr : Tryz.f25.results = #[.tmp 2, .tmp 3] := rfl
    rw [Array.getD_eq_getD_getElem?] at h2 h3
    simp [results, hr, h2, h3]
  refine ⟨fun he => ?_, fun he => ?_⟩
  · subst he
    obtain ⟨k0, k1, k2⟩ := hp
    have hT0 := hR1.T 0
    rw [k0] at hT0
    have hV : V noOwn w1 (.sl 4 (l.map tkC) .none) (a1.tmps.getD 0 undef) := (show V c1.own w1 _ _ from hT0).keep (.less fun _ _ hk => hk.elim)
    refine wp_mono (jt_rest l k1 hx k2 w1 _ (hR1.G.weaker fun _ _ hk => hk.elim) hV a1 rfl hR1.defers hR1.size) fun e a' w' h => ?_
    obtain ⟨rfl, h1, h2, h3, h4⟩ := h
    exact ⟨h1, _, res a' h2 h3 w', rfl, below_later hb1 h4⟩
  · cases e with
    | normal => exact absurd rfl he
    | exit i => exact hp.elim
    | ret =>
      obtain ⟨k2, k3⟩ := hp
      exact ⟨hR1.defers, _, res a1 (T_str (by have := hR1.T 2; rw [k2] at this; exact this)) (T_int (by have := hR1.T 3; rw [k3] at this; exact this)) w1, rfl, hb1⟩
end Go.Proofs.YtlmmgblghgmgeaaGreatDoor
