/- The law of a text read: by its code it answers true. -/
import Derived.Test.YtlmmgblghgmgeaaGreatDoorPureN
import Derived.Test.YtlmmgblghgmgeaaGreatDoorPureF
namespace Go.Proofs.YtlmmgblghgmgeaaGreatDoor
open Go Ev Go.RowKit
set_option maxRecDepth 100000
set_option linter.unusedSimpArgs false

theorem freshClone_sound : FreshSound Tryz.prog freshClone := fun f args z els h => by
  unfold freshClone at h
  split at h
  case isFalse => simp at h
  rename_i hf
  subst hf
  split at h
  case h_2 => simp at h
  rename_i els2 tk
  split at h
  case isFalse => simp at h
  rename_i hc
  obtain ⟨h1, h2, h3⟩ := hc
  simp only [Option.some.injEq, Prod.mk.injEq] at h
  obtain ⟨rfl, rfl⟩ := h
  obtain ⟨l, rfl⟩ : ∃ l, els2 = strs l := by
    clear h2
    induction els2 with
    | nil => exact ⟨[], rfl⟩
    | cons e r ih =>
      simp only [isStrs, List.all_cons, Bool.and_eq_true] at h1
      obtain ⟨l, hl⟩ := ih h1.2
      have h1 := h1.1
      split at h1
      · exact ⟨_ :: l, by rw [hl]; rfl⟩
      · simp at h1
  exact clone_fresh l tk h3 (by simpa [strs] using h2)
theorem without_sim (l : List Str) (tk : Tok) (ht : Fx tk) (hl : l.length ≤ 400) (hx : ∀ x ∈ l, x.length < 2 ^ 40) : SimCall Tryz.prog 18 [.sl 1 (strs l) tk] [] (withoutR l) [] := by
  obtain ⟨c, hc⟩ : ∃ c, Tryz.f18.body = some c := ⟨_, rfl⟩
  have hok := without_ok
  rw [hc] at hok
  obtain ⟨h1, h2⟩ := readP_spans l
  exact fnO_sound planFollows (E := envWithout) (evc_sound plan_ok) freshClone_sound Tryz.func18 hc rfl (Nat.le_refl _) hok Tryz.call18 (without_ev l tk ht hl h1 h2 hx c hc)

/-- What is known of one more call. -/
noncomputable def overO (C : Oracle) (f0 : FuncId) (a0 : List AV) (r0 : AV) : Oracle := fun f args bs => open Classical in if f = f0 then (if args = a0 ∧ bs = [] then some (r0, []) else none) else C f args bs
theorem overO_sound {P : Program} {C : Oracle} {f0 : FuncId} {a0 : List AV} {r0 : AV} (hC : Sound P C) (h : SimCall P f0 a0 [] r0 []) : Sound P (overO C f0 a0 r0) := fun f args bs r bs' hr => by
  unfold overO at hr
  split at hr
  · rename_i hf
    subst hf
    split at hr
    · rename_i hc
      obtain ⟨rfl, rfl⟩ := hc
      simp only [Option.some.injEq, Prod.mk.injEq] at hr
      obtain ⟨rfl, rfl⟩ := hr
      exact h
    · simp at hr
  · exact hC _ _ _ _ _ hr
theorem overO_self (C : Oracle) (f0 : FuncId) (a0 : List AV) (r0 : AV) : overO C f0 a0 r0 f0 a0 [] = some (r0, []) := by
  unfold overO; rw [if_pos rfl, if_pos ⟨rfl, rfl⟩]
theorem overO_ne (C : Oracle) {f f0 : FuncId} (a0 : List AV) (r0 : AV) (args : List AV) (bs : List (Nat × Box)) (h : f ≠ f0) : overO C f0 a0 r0 f args bs = C f args bs := by
  unfold overO; rw [if_neg h]

theorem under_span : Tryz.prog.underlying 49 = some (.struct #[fld "From" 35 0 0, fld "To" 35 2 16]) := by kernel_rfl
theorem guard_span : Tryz.prog.eqGuardType Tryz.prog.depth 49 = false := by kernel_rfl
theorem held_span : Tryz.prog.stoodInHeld 49 = false := by kernel_rfl
theorem acmp_span (a b c d : Int) : acmp Tryz.prog 49 (.agg [.int .i64 a, .int .i64 b, .int .i64 c, .int .i64 d]) (.agg [.int .i64 a, .int .i64 b, .int .i64 c, .int .i64 d]) = some true := by
  simp only [acmp, guard_span, Bool.false_eq_true, if_false, aeq, under_span, held_span, aeqF]
  simp [aeqF, fld, partOf, under_place, held_place, under_int, aeq, AV.bare]
theorem withoutP_len (l : List Str) (cs : List Sp) : (withoutP l cs).length = l.length := by
  have h1 : ∀ (c : Sp) (n i : Nat) (out : List Str), (blankGo c n i out).length = out.length := fun c n => by
    induction n with
    | zero => intro i out; rfl
    | succ n ih => intro i out; show (blankGo c n (i + 1) (blankAt c out i)).length = _; rw [ih]; simp [blankAt]
  have h2 : ∀ (cs : List Sp) (out : List Str), (cs.foldl blankOne out).length = out.length := fun cs => by
    induction cs with
    | nil => intro out; rfl
    | cons c cs ih => intro out; show (cs.foldl blankOne (blankOne out c)).length = _; rw [ih]; exact h1 _ _ _ _
  exact h2 cs l
def keepR12 : Keep := ⟨[(0, none), (6, none), (9, none), (12, none), (13, none)], [], by decide, by decide⟩
def lvReads : Nat → Keep := fun id => if id = 12 then keepR12 else noKeep
theorem sameNil_ev : evc plan 20 [.sl 0 [] .nil, .sl 0 [] .nil] [] = some (.bool true, []) := by
  refine evc_start plan (P := Tryz.prog) (ro := planRo) rfl rfl rfl rfl rfl rfl (by simp) rfl ?_
  simp [dFor_none, storeFine_none, dFor_no, storeFine_no, lessL, lkL, evCode_exit, evCode_seq, evCode_plain, evCode_draw, evCode_cond, evCode_ret, evCode_skip, evCode_block, evCode_loop, roundK_normal, roundK_exit, roundK_ret, seqK_normal, seqK_exit, seqK_ret, blockK_normal, blockK_exit, blockK_ret, regK_eq, evOps_nil, evOps_cons, params, astep, okDst, isWanted, aop, opnd, ofValue, putT, abin, headS, ofL, noPtr, acall, adopt_bool, adopt_int, adopt_str, adopt_agg, adopt_clip, upd_false, AV.cells, partOf, setCells, fillC, AV.isVal, List.range, List.range.loop, ofB, mayRead, dsts, planRo, capIds, viewed, scalarR, AV.scalar, bare_undef, bare_bool, bare_int, bare_str, bare_snil, bare_snone, bare_sclip, bare_srow, bare_ptr, bare_eptr, bare_pnil, bare_fn, bare_fnil, bare_agg, bare_tup]
  refine round_of (S := headS [(0, .sl 0 [] .nil), (1, .sl 0 [] .nil), (5, .int .i64 0)] []) (show clean (lvSame 4) _ _ = _ by simp [clean, keepBoxes, relabB, relabL, cleanS, fixPtr, headS, ofL, ofB, cellsOfB, namesOf, upd_false, AV.cells, row_undef, row_bool, row_int, row_str, row_snil, row_snone, row_sclip, row_srow, row_ptr, row_eptr, row_pnil, row_fn, row_fnil, row_agg, row_tup, relab_undef, relab_bool, relab_int, relab_str, relab_snil, relab_snone, relab_sclip, relab_srow, relab_ptr, relab_eptr, relab_pnil, relab_fn, relab_fnil, relab_agg, relab_tup, relab_sgrow, passed, setBoxes, killNames, addNames, freshAll, adopt, resParts, resBack, relabB, relabL, namesOf, cellsOfB, boxName, row_undef, row_bool, row_int, row_str, row_snil, row_snone, row_sclip, row_srow, row_ptr, row_eptr, row_pnil, row_fn, row_fnil, row_agg, row_tup, relab_undef, relab_bool, relab_int, relab_str, relab_snil, relab_snone, relab_sclip, relab_srow, relab_ptr, relab_eptr, relab_pnil, relab_fn, relab_fnil, relab_agg, relab_tup, relab_sgrow, lvSame, lvL]) ?_
  simp [dFor_none, storeFine_none, dFor_no, storeFine_no, lessL, lkL, evCode_exit, evCode_seq, evCode_plain, evCode_draw, evCode_cond, evCode_ret, evCode_skip, evCode_block, evCode_loop, roundK_normal, roundK_exit, roundK_ret, seqK_normal, seqK_exit, seqK_ret, blockK_normal, blockK_exit, blockK_ret, regK_eq, evOps_nil, evOps_cons, params, astep, okDst, isWanted, aop, opnd, ofValue, putT, abin, headS, ofL, noPtr, acall, adopt_bool, adopt_int, adopt_str, adopt_agg, adopt_clip, upd_false, AV.cells, partOf, setCells, fillC, AV.isVal, List.range, List.range.loop, ofB, mayRead, dsts, planRo, capIds, viewed, scalarR, AV.scalar, bare_undef, bare_bool, bare_int, bare_str, bare_snil, bare_snone, bare_sclip, bare_srow, bare_ptr, bare_eptr, bare_pnil, bare_fn, bare_fnil, bare_agg, bare_tup, finK, freezeT, avAll, resOf, outBoxes, relabB, relabL, noPtr, AV.untup, relab_undef, relab_bool, relab_int, relab_str, relab_snil, relab_snone, relab_sclip, relab_srow, relab_ptr, relab_eptr, relab_pnil, relab_fn, relab_fnil, relab_agg, relab_tup, relab_sgrow]
noncomputable def oracleR (l : List Str) : Oracle := if fewP l = true then overO (evc plan) 18 [.sl 1 (strs l) .none] (withoutR l) else evc plan
set_option maxHeartbeats 8000000 in
theorem reads_ev (l : List Str) (tk : Tok) (ht : Fx tk) (hl : l.length < 2 ^ 62) : evFn Tryz.prog ⟨oracleR l, planRo, lvReads, 119⟩ Tryz.f4 [.sl 1 (strs l) tk] [] = some (.bool true, []) := by
  refine evFn_start rfl rfl rfl ?_
  have hne : ∀ (f : FuncId) (args : List AV) (bs : List (Nat × Box)), f ≠ 18 → oracleR l f args bs = evc plan f args bs := fun f args bs h => by
    unfold oracleR
    split
    · exact overO_ne _ _ _ _ _ h
    · rfl
  have h1 := awake_ev
  have h2 := few_ev l tk ht hl
  have hh : ∀ k, lvReads (1000000 + k) = noKeep := fun k => by unfold lvReads; rw [if_neg (by omega)]
  cases h6 : fewP l
  · simp [dFor_none, storeFine_none, dFor_no, storeFine_no, lessL, lkL, evCode_exit, evCode_seq, evCode_plain, evCode_draw, evCode_cond, evCode_ret, evCode_skip, evCode_block, evCode_loop, roundK_normal, roundK_exit, roundK_ret, seqK_normal, seqK_exit, seqK_ret, blockK_normal, blockK_exit, blockK_ret, regK_eq, evOps_nil, evOps_cons, params, astep, okDst, isWanted, aop, opnd, ofValue, putT, abin, headS, ofL, noPtr, acall, adopt_bool, adopt_int, adopt_str, adopt_agg, adopt_clip, upd_false, AV.cells, partOf, setCells, fillC, AV.isVal, List.range, List.range.loop, ofB, mayRead, dsts, planRo, capIds, viewed, scalarR, AV.scalar, bare_undef, bare_bool, bare_int, bare_str, bare_snil, bare_snone, bare_sclip, bare_srow, bare_ptr, bare_eptr, bare_pnil, bare_fn, bare_fnil, bare_agg, bare_tup, passed, setBoxes, killNames, addNames, freshAll, adopt, resParts, resBack, relabB, relabL, namesOf, cellsOfB, boxName, row_undef, row_bool, row_int, row_str, row_snil, row_snone, row_sclip, row_srow, row_ptr, row_eptr, row_pnil, row_fn, row_fnil, row_agg, row_tup, relab_undef, relab_bool, relab_int, relab_str, relab_snil, relab_snone, relab_sclip, relab_srow, relab_ptr, relab_eptr, relab_pnil, relab_fn, relab_fnil, relab_agg, relab_tup, relab_sgrow, finK, freezeT, avAll, resOf, outBoxes, relabB, relabL, noPtr, AV.untup, relab_undef, relab_bool, relab_int, relab_str, relab_snil, relab_snone, relab_sclip, relab_srow, relab_ptr, relab_eptr, relab_pnil, relab_fn, relab_fnil, relab_agg, relab_tup, relab_sgrow, hne, h1, h2, h6, bare_fx ht, row_fx ht, relab_fx ht]
  · have hf := h6
    simp only [fewP, Bool.and_eq_true, decide_eq_true_eq] at hf
    have h3 := own_ev l tk ht (by omega)
    have h4 := tokensOf_ev l .none fx_none hl
    have h5 := commentsIn_ev l .none fx_none hl
    have h7 : oracleR l 18 [.sl 1 (strs l) .none] [] = some (withoutR l, []) := by
      unfold oracleR; rw [if_pos h6]; exact overO_self _ _ _ _
    have h8 := rread_ev l tk ht hl
    rw [← read_same] at h8
    have hsp := readP_spans l
    have hw : ∀ cs, (∀ c ∈ cs, SpOk (lens l) c) → withoutP l cs = refBlanked cs 0 l := fun cs h => without_ref l cs h
    unfold withoutR at h7
    have hE : (∃ e a b, (e != 0) = true ∧ readP l = ⟨e, a, b, [], []⟩) ∨ ∃ ts cs, readP l = ⟨0, 0, 0, ts, cs⟩ ∧ ts.length < 2 ^ 62 := by
      rcases readR_cases l .none with ⟨e, a, b, _, he, hp, _⟩ | ⟨s, hp, _⟩
      · exact .inl ⟨e, a, b, he, hp⟩
      · refine .inr ⟨s.ts, s.cs, hp, ?_⟩
        have h9 : readP l = ⟨0, 0, 0, s.ts, s.cs⟩ := hp
        unfold readP at h9
        split at h9
        · rename_i hc
          rw [Rd.mk.injEq] at h9
          rw [h9.1] at hc; simp at hc
        · split at h9
          · rename_i hc
            rw [Rd.mk.injEq] at h9
            rw [h9.1] at hc; simp at hc
          · split at h9
            · simp at h9
            · rename_i hc
              rw [Rd.mk.injEq] at h9
              simp at hc
              rw [← h9.2.2.2.1]; omega
    rcases hE with ⟨e, a, b, he, hp⟩ | ⟨ts, cs, hp, hts⟩
    · rw [hp] at h4 h5 h7 h8
      have hpl := acmp_place a b a b
      have he2 : (e != e) = false := by simp
      have he' : e ≠ 0 := by simpa using he
      simp only [slTk, slSp, rdAV, he, if_true] at h4 h5 h7 h8
      simp [dFor_none, storeFine_none, dFor_no, storeFine_no, lessL, lkL, evCode_exit, evCode_seq, evCode_plain, evCode_draw, evCode_cond, evCode_ret, evCode_skip, evCode_block, evCode_loop, roundK_normal, roundK_exit, roundK_ret, seqK_normal, seqK_exit, seqK_ret, blockK_normal, blockK_exit, blockK_ret, regK_eq, evOps_nil, evOps_cons, params, astep, okDst, isWanted, aop, opnd, ofValue, putT, abin, headS, ofL, noPtr, acall, adopt_bool, adopt_int, adopt_str, adopt_agg, adopt_clip, upd_false, AV.cells, partOf, setCells, fillC, AV.isVal, List.range, List.range.loop, ofB, mayRead, dsts, planRo, capIds, viewed, scalarR, AV.scalar, bare_undef, bare_bool, bare_int, bare_str, bare_snil, bare_snone, bare_sclip, bare_srow, bare_ptr, bare_eptr, bare_pnil, bare_fn, bare_fnil, bare_agg, bare_tup, passed, setBoxes, killNames, addNames, freshAll, adopt, resParts, resBack, relabB, relabL, namesOf, cellsOfB, boxName, row_undef, row_bool, row_int, row_str, row_snil, row_snone, row_sclip, row_srow, row_ptr, row_eptr, row_pnil, row_fn, row_fnil, row_agg, row_tup, relab_undef, relab_bool, relab_int, relab_str, relab_snil, relab_snone, relab_sclip, relab_srow, relab_ptr, relab_eptr, relab_pnil, relab_fn, relab_fnil, relab_agg, relab_tup, relab_sgrow, finK, freezeT, avAll, resOf, outBoxes, relabB, relabL, noPtr, AV.untup, relab_undef, relab_bool, relab_int, relab_str, relab_snil, relab_snone, relab_sclip, relab_srow, relab_ptr, relab_eptr, relab_pnil, relab_fn, relab_fnil, relab_agg, relab_tup, relab_sgrow, hne, h1, h2, h3, h4, h5, h6, h7, h8, hpl, acmpOp, sameNil_ev, bare_fx ht, row_fx ht, relab_fx ht]
      refine round_of (S := headS [(0, .sl 1 (strs l) tk), (6, .sl 0 [] .nil), (9, .sl 0 [] .nil), (12, .ptr 500012 0), (13, .int .i64 0)] [(500012, [.sl 0 [] .nil, .sl 0 [] .nil, .int .i64 a, .int .i64 b, .int .i64 e])]) (show clean (lvReads 12) _ _ = _ by simp [clean, keepBoxes, relabB, relabL, cleanS, fixPtr, headS, ofL, ofB, cellsOfB, namesOf, upd_false, AV.cells, row_undef, row_bool, row_int, row_str, row_snil, row_snone, row_sclip, row_srow, row_ptr, row_eptr, row_pnil, row_fn, row_fnil, row_agg, row_tup, relab_undef, relab_bool, relab_int, relab_str, relab_snil, relab_snone, relab_sclip, relab_srow, relab_ptr, relab_eptr, relab_pnil, relab_fn, relab_fnil, relab_agg, relab_tup, relab_sgrow, passed, setBoxes, killNames, addNames, freshAll, adopt, resParts, resBack, relabB, relabL, namesOf, cellsOfB, boxName, row_undef, row_bool, row_int, row_str, row_snil, row_snone, row_sclip, row_srow, row_ptr, row_eptr, row_pnil, row_fn, row_fnil, row_agg, row_tup, relab_undef, relab_bool, relab_int, relab_str, relab_snil, relab_snone, relab_sclip, relab_srow, relab_ptr, relab_eptr, relab_pnil, relab_fn, relab_fnil, relab_agg, relab_tup, relab_sgrow, lvReads, keepR12, growOf, bare_fx ht, row_fx ht, relab_fx ht]) ?_
      simp [dFor_none, storeFine_none, dFor_no, storeFine_no, lessL, lkL, evCode_exit, evCode_seq, evCode_plain, evCode_draw, evCode_cond, evCode_ret, evCode_skip, evCode_block, evCode_loop, roundK_normal, roundK_exit, roundK_ret, seqK_normal, seqK_exit, seqK_ret, blockK_normal, blockK_exit, blockK_ret, regK_eq, evOps_nil, evOps_cons, params, astep, okDst, isWanted, aop, opnd, ofValue, putT, abin, headS, ofL, noPtr, acall, adopt_bool, adopt_int, adopt_str, adopt_agg, adopt_clip, upd_false, AV.cells, partOf, setCells, fillC, AV.isVal, List.range, List.range.loop, ofB, mayRead, dsts, planRo, capIds, viewed, scalarR, AV.scalar, bare_undef, bare_bool, bare_int, bare_str, bare_snil, bare_snone, bare_sclip, bare_srow, bare_ptr, bare_eptr, bare_pnil, bare_fn, bare_fnil, bare_agg, bare_tup, passed, setBoxes, killNames, addNames, freshAll, adopt, resParts, resBack, relabB, relabL, namesOf, cellsOfB, boxName, row_undef, row_bool, row_int, row_str, row_snil, row_snone, row_sclip, row_srow, row_ptr, row_eptr, row_pnil, row_fn, row_fnil, row_agg, row_tup, relab_undef, relab_bool, relab_int, relab_str, relab_snil, relab_snone, relab_sclip, relab_srow, relab_ptr, relab_eptr, relab_pnil, relab_fn, relab_fnil, relab_agg, relab_tup, relab_sgrow, finK, freezeT, avAll, resOf, outBoxes, relabB, relabL, noPtr, AV.untup, relab_undef, relab_bool, relab_int, relab_str, relab_snil, relab_snone, relab_sclip, relab_srow, relab_ptr, relab_eptr, relab_pnil, relab_fn, relab_fnil, relab_agg, relab_tup, relab_sgrow, lvReads, keepR12, he, bare_fx ht, row_fx ht, relab_fx ht]
    · rw [hp] at h4 h5 h7 h8 hsp
      simp only at hsp
      obtain ⟨hs1, hs2⟩ := hsp
      have hpl := acmp_place 0 0 0 0
      have hst := sameTokens_ev ts ts .none .none fx_none fx_none hts hts
      rw [eqToks_refl] at hst
      have hx : ∀ x ∈ l, x.length < 2 ^ 40 := fun x hx => by
        have h9 := hf.1
        rw [List.take_of_length_le (by omega), List.all_eq_true] at h9
        have := h9 x hx
        simp at this; omega
      have hbl := blanked_ev l cs tk .none ht fx_none (by omega) hx (by omega)
      have heq := equalTexts_ev (withoutP l cs) (refBlanked cs 0 l) .none .none fx_none fx_none (by rw [withoutP_len]; omega) (by rw [← hw cs hs1, withoutP_len]; omega)
      rw [hw cs hs1, eqTexts_refl] at heq
      rw [hw cs hs1] at h7
      generalize refBlanked cs 0 l = B at hbl heq h7
      simp only [slTk, slSp, rdAV, bne_self_eq_false, Bool.false_eq_true, if_false] at h4 h5 h7 h8
      simp [dFor_none, storeFine_none, dFor_no, storeFine_no, lessL, lkL, evCode_exit, evCode_seq, evCode_plain, evCode_draw, evCode_cond, evCode_ret, evCode_skip, evCode_block, evCode_loop, roundK_normal, roundK_exit, roundK_ret, seqK_normal, seqK_exit, seqK_ret, blockK_normal, blockK_exit, blockK_ret, regK_eq, evOps_nil, evOps_cons, params, astep, okDst, isWanted, aop, opnd, ofValue, putT, abin, headS, ofL, noPtr, acall, adopt_bool, adopt_int, adopt_str, adopt_agg, adopt_clip, upd_false, AV.cells, partOf, setCells, fillC, AV.isVal, List.range, List.range.loop, ofB, mayRead, dsts, planRo, capIds, viewed, scalarR, AV.scalar, bare_undef, bare_bool, bare_int, bare_str, bare_snil, bare_snone, bare_sclip, bare_srow, bare_ptr, bare_eptr, bare_pnil, bare_fn, bare_fnil, bare_agg, bare_tup, passed, setBoxes, killNames, addNames, freshAll, adopt, resParts, resBack, relabB, relabL, namesOf, cellsOfB, boxName, row_undef, row_bool, row_int, row_str, row_snil, row_snone, row_sclip, row_srow, row_ptr, row_eptr, row_pnil, row_fn, row_fnil, row_agg, row_tup, relab_undef, relab_bool, relab_int, relab_str, relab_snil, relab_snone, relab_sclip, relab_srow, relab_ptr, relab_eptr, relab_pnil, relab_fn, relab_fnil, relab_agg, relab_tup, relab_sgrow, finK, freezeT, avAll, resOf, outBoxes, relabB, relabL, noPtr, AV.untup, relab_undef, relab_bool, relab_int, relab_str, relab_snil, relab_snone, relab_sclip, relab_srow, relab_ptr, relab_eptr, relab_pnil, relab_fn, relab_fnil, relab_agg, relab_tup, relab_sgrow, hne, h1, h2, h3, h4, h5, h6, h7, h8, hpl, acmpOp, hst, bare_fx ht, row_fx ht, relab_fx ht]
      refine loop_by (fun i => cs.length - i) (fun (i : Nat) t m => i ≤ cs.length ∧ clean (lvReads 12) t m = headS [(0, .sl 1 (strs l) tk), (6, .sl 4 (cs.map spC) .none), (9, .sl 1 (strs B) .none), (12, .ptr 500012 0), (13, .int .i64 i)] [(500012, [.sl 4 (ts.map tkC) .none, .sl 4 (cs.map spC) .none, .int .i64 0, .int .i64 0, .int .i64 0])]) ?_ 0 ?_
      · intro i t m ⟨hi, hS⟩ ih
        refine round_of hS ?_
        by_cases h9 : i < cs.length
        · have w1 : IntKind.i64.wrap ((i : Int) + 1) = ((i + 1 : Nat) : Int) := wrap_i64 (by omega) (by omega)
          have hac := acmp_span cs[i].l0 cs[i].c0 cs[i].l1 cs[i].c1
          simp [-Int.natCast_add, dFor_none, storeFine_none, dFor_no, storeFine_no, lessL, lkL, evCode_exit, evCode_seq, evCode_plain, evCode_draw, evCode_cond, evCode_ret, evCode_skip, evCode_block, evCode_loop, roundK_normal, roundK_exit, roundK_ret, seqK_normal, seqK_exit, seqK_ret, blockK_normal, blockK_exit, blockK_ret, regK_eq, evOps_nil, evOps_cons, params, astep, okDst, isWanted, aop, opnd, ofValue, putT, abin, headS, ofL, noPtr, acall, adopt_bool, adopt_int, adopt_str, adopt_agg, adopt_clip, upd_false, AV.cells, partOf, setCells, fillC, AV.isVal, List.range, List.range.loop, ofB, mayRead, dsts, planRo, capIds, viewed, scalarR, AV.scalar, bare_undef, bare_bool, bare_int, bare_str, bare_snil, bare_snone, bare_sclip, bare_srow, bare_ptr, bare_eptr, bare_pnil, bare_fn, bare_fnil, bare_agg, bare_tup, passed, setBoxes, killNames, addNames, freshAll, adopt, resParts, resBack, relabB, relabL, namesOf, cellsOfB, boxName, row_undef, row_bool, row_int, row_str, row_snil, row_snone, row_sclip, row_srow, row_ptr, row_eptr, row_pnil, row_fn, row_fnil, row_agg, row_tup, relab_undef, relab_bool, relab_int, relab_str, relab_snil, relab_snone, relab_sclip, relab_srow, relab_ptr, relab_eptr, relab_pnil, relab_fn, relab_fnil, relab_agg, relab_tup, relab_sgrow, lvReads, keepR12, h9, w1, spC, acmpOp, hac]
          refine ih (i + 1) _ _ (by omega) ⟨by omega, ?_⟩
          simp [-Int.natCast_add, clean, keepBoxes, relabB, relabL, cleanS, fixPtr, headS, ofL, ofB, cellsOfB, namesOf, upd_false, AV.cells, row_undef, row_bool, row_int, row_str, row_snil, row_snone, row_sclip, row_srow, row_ptr, row_eptr, row_pnil, row_fn, row_fnil, row_agg, row_tup, relab_undef, relab_bool, relab_int, relab_str, relab_snil, relab_snone, relab_sclip, relab_srow, relab_ptr, relab_eptr, relab_pnil, relab_fn, relab_fnil, relab_agg, relab_tup, relab_sgrow, passed, setBoxes, killNames, addNames, freshAll, adopt, resParts, resBack, relabB, relabL, namesOf, cellsOfB, boxName, row_undef, row_bool, row_int, row_str, row_snil, row_snone, row_sclip, row_srow, row_ptr, row_eptr, row_pnil, row_fn, row_fnil, row_agg, row_tup, relab_undef, relab_bool, relab_int, relab_str, relab_snil, relab_snone, relab_sclip, relab_srow, relab_ptr, relab_eptr, relab_pnil, relab_fn, relab_fnil, relab_agg, relab_tup, relab_sgrow, lvReads, keepR12, growOf, spC, bare_fx ht, row_fx ht, relab_fx ht]
          try rfl
        · simp [-Int.natCast_add, dFor_none, storeFine_none, dFor_no, storeFine_no, lessL, lkL, evCode_exit, evCode_seq, evCode_plain, evCode_draw, evCode_cond, evCode_ret, evCode_skip, evCode_block, evCode_loop, roundK_normal, roundK_exit, roundK_ret, seqK_normal, seqK_exit, seqK_ret, blockK_normal, blockK_exit, blockK_ret, regK_eq, evOps_nil, evOps_cons, params, astep, okDst, isWanted, aop, opnd, ofValue, putT, abin, headS, ofL, noPtr, acall, adopt_bool, adopt_int, adopt_str, adopt_agg, adopt_clip, upd_false, AV.cells, partOf, setCells, fillC, AV.isVal, List.range, List.range.loop, ofB, mayRead, dsts, planRo, capIds, viewed, scalarR, AV.scalar, bare_undef, bare_bool, bare_int, bare_str, bare_snil, bare_snone, bare_sclip, bare_srow, bare_ptr, bare_eptr, bare_pnil, bare_fn, bare_fnil, bare_agg, bare_tup, passed, setBoxes, killNames, addNames, freshAll, adopt, resParts, resBack, relabB, relabL, namesOf, cellsOfB, boxName, row_undef, row_bool, row_int, row_str, row_snil, row_snone, row_sclip, row_srow, row_ptr, row_eptr, row_pnil, row_fn, row_fnil, row_agg, row_tup, relab_undef, relab_bool, relab_int, relab_str, relab_snil, relab_snone, relab_sclip, relab_srow, relab_ptr, relab_eptr, relab_pnil, relab_fn, relab_fnil, relab_agg, relab_tup, relab_sgrow, finK, freezeT, avAll, resOf, outBoxes, relabB, relabL, noPtr, AV.untup, relab_undef, relab_bool, relab_int, relab_str, relab_snil, relab_snone, relab_sclip, relab_srow, relab_ptr, relab_eptr, relab_pnil, relab_fn, relab_fnil, relab_agg, relab_tup, relab_sgrow, lvReads, keepR12, h9, hne, hbl, heq, bare_fx ht, row_fx ht, relab_fx ht]
      · refine ⟨Nat.zero_le _, ?_⟩
        simp [clean, keepBoxes, relabB, relabL, cleanS, fixPtr, headS, ofL, ofB, cellsOfB, namesOf, upd_false, AV.cells, row_undef, row_bool, row_int, row_str, row_snil, row_snone, row_sclip, row_srow, row_ptr, row_eptr, row_pnil, row_fn, row_fnil, row_agg, row_tup, relab_undef, relab_bool, relab_int, relab_str, relab_snil, relab_snone, relab_sclip, relab_srow, relab_ptr, relab_eptr, relab_pnil, relab_fn, relab_fnil, relab_agg, relab_tup, relab_sgrow, passed, setBoxes, killNames, addNames, freshAll, adopt, resParts, resBack, relabB, relabL, namesOf, cellsOfB, boxName, row_undef, row_bool, row_int, row_str, row_snil, row_snone, row_sclip, row_srow, row_ptr, row_eptr, row_pnil, row_fn, row_fnil, row_agg, row_tup, relab_undef, relab_bool, relab_int, relab_str, relab_snil, relab_snone, relab_sclip, relab_srow, relab_ptr, relab_eptr, relab_pnil, relab_fn, relab_fnil, relab_agg, relab_tup, relab_sgrow, lvReads, keepR12, growOf, bare_fx ht, row_fx ht, relab_fx ht]
theorem few_small {l : List Str} (h : fewP l = true) : l.length ≤ 305 ∧ ∀ x ∈ l, x.length < 2 ^ 40 := by
  simp only [fewP, Bool.and_eq_true, decide_eq_true_eq] at h
  refine ⟨by omega, fun x hx => ?_⟩
  have h9 := h.1
  rw [List.take_of_length_le (by omega), List.all_eq_true] at h9
  have := h9 x hx
  simp at this; omega
theorem reads_ok : codeOk lvReads (Tryz.f4.body.getD .skip) = true := by kernel_rfl
theorem reads_sim (l : List Str) (hl : l.length < 2 ^ 62) : SimCall Tryz.prog 4 [.sl 1 (strs l) .none] [] (.bool true) [] := by
  have hS : Sound Tryz.prog (oracleR l) := by
    unfold oracleR
    split
    · rename_i h
      obtain ⟨h1, h2⟩ := few_small h
      exact overO_sound (evc_sound plan_ok) (without_sim l .none fx_none (by omega) h2)
    · exact evc_sound plan_ok
  obtain ⟨c, hc⟩ : ∃ c, Tryz.f4.body = some c := ⟨_, rfl⟩
  have hok := reads_ok
  rw [hc] at hok
  exact fn_sound (drawSound planFollows) planFollows (E := ⟨oracleR l, planRo, lvReads, 119⟩) hS Tryz.func4 hc (Nat.le_refl _) hok Tryz.call4 (by simp) (reads_ev l .none fx_none hl)
end Go.Proofs.YtlmmgblghgmgeaaGreatDoor
