/- The texts LawAgain, merged. -/
import Derived.Test.YtlmmgblghgmgeaaGreatDoorNap
import Derived.Test.YtlmmgblghgmgeaaGreatDoorNaq
set_option linter.unusedVariables false
set_option linter.unusedSimpArgs false
/- The law of reading again: by its code it answers true. -/
namespace Go.Proofs.YtlmmgblghgmgeaaGreatDoor
open Go Ev Go.RowKit
set_option maxRecDepth 100000
set_option linter.unusedSimpArgs false
attribute [local simp] dFor_none storeFine_none dFor_no storeFine_no lessL lkL evCode_exit evCode_seq evCode_plain evCode_draw evCode_cond evCode_ret evCode_skip evCode_block evCode_loop roundK_normal roundK_exit roundK_ret seqK_normal seqK_exit seqK_ret blockK_normal blockK_exit blockK_ret regK_eq evOps_nil evOps_cons params astep okDst isWanted aop opnd ofValue putT abin headS ofL noPtr acall adopt_bool adopt_int adopt_str adopt_agg adopt_clip upd_false AV.cells partOf setCells fillC AV.isVal List.range List.range.loop ofB mayRead dsts planRo capIds viewed scalarR AV.scalar bare_undef bare_bool bare_int bare_str bare_snil bare_snone bare_sclip bare_srow bare_ptr bare_eptr bare_pnil bare_fn bare_fnil bare_agg bare_tup clean keepBoxes relabB relabL cleanS fixPtr cellsOfB namesOf row_undef row_bool row_int row_str row_snil row_snone row_sclip row_srow row_ptr row_eptr row_pnil row_fn row_fnil row_agg row_tup relab_undef relab_bool relab_int relab_str relab_snil relab_snone relab_sclip relab_srow relab_ptr relab_eptr relab_pnil relab_fn relab_fnil relab_agg relab_tup relab_sgrow passed setBoxes killNames addNames freshAll adopt resParts resBack boxName finK freezeT avAll resOf outBoxes AV.untup

def keepAg : Keep := ⟨[(3, none), (20, none), (23, none)], [], by decide, by decide⟩
def lvAgain : Nat → Keep := fun id => if id = 25 then keepAg else noKeep
noncomputable def oracleAg (l : List Str) : Oracle :=
  if fewP l = true ∧ (readP l).err = 0 then
    overO (overO (overO (evc plan) 24 [.sl 4 ((readP l).ts.map tkC) .none] (prAV (printP (readP l).ts))) 25 [.sl 4 ((readP l).ts.map tkC) .none] (joAV (joinP (readP l).ts))) 18 [.sl 1 (strs l) .none] (withoutR l)
  else evc plan
theorem read_small {l : List Str} (h0 : (readP l).err = 0) : (readP l).ts.length ≤ 1200 ∧ ∀ t ∈ (readP l).ts, t.text.length ≤ 120 := by
  obtain ⟨h1, h2, h3, h4, _⟩ := readP_ok h0
  rw [h4]
  obtain ⟨hl1, hl2⟩ := checkLines_small h1
  have hS := readAll_standing l h2
  refine ⟨h3, fun t ht => ?_⟩
  have := check_range (check_placed (hS.each t ht) hl1 hl2)
  omega
theorem lines_small {l : List Str} (h0 : (readP l).err = 0) : l.length ≤ 300 := (checkLines_small (readP_ok h0).1).1
set_option maxHeartbeats 8000000 in
theorem again_ev (l : List Str) (tk : Tok) (ht : Fx tk) (hl : l.length < 2 ^ 62) : evFn Tryz.prog ⟨oracleAg l, planRo, lvAgain, 155⟩ Tryz.f6 [.sl 1 (strs l) tk] [] = some (.bool true, []) := by
  refine evFn_start rfl rfl rfl ?_
  have hne : ∀ (f : FuncId) (args : List AV) (bs : List (Nat × Box)), f ≠ 24 → f ≠ 25 → f ≠ 18 → oracleAg l f args bs = evc plan f args bs := fun f args bs h1 h2 h3 => by
    unfold oracleAg
    split
    · rw [overO_ne _ _ _ _ _ h3, overO_ne _ _ _ _ _ h2, overO_ne _ _ _ _ _ h1]
    · rfl
  have h1 := awake_ev
  have h2 := few_ev l tk ht hl
  cases h6 : fewP l
  · simp [hne, h1, h2, h6, bare_fx ht, row_fx ht, relab_fx ht]
  · have hf := h6
    simp only [fewP, Bool.and_eq_true, decide_eq_true_eq] at hf
    have h3 := own_ev l tk ht (by omega)
    have h4 := tokensOf_ev l .none fx_none hl
    by_cases he : (readP l).err = 0
    · have hc : fewP l = true ∧ (readP l).err = 0 := ⟨h6, he⟩
      have q1 : oracleAg l 24 [.sl 4 ((readP l).ts.map tkC) .none] [] = some (prAV (printP (readP l).ts), []) := by
        unfold oracleAg
        rw [if_pos hc, overO_ne _ _ _ _ _ (by decide), overO_ne _ _ _ _ _ (by decide)]
        exact overO_self _ _ _ _
      have q2 : oracleAg l 25 [.sl 4 ((readP l).ts.map tkC) .none] [] = some (joAV (joinP (readP l).ts), []) := by
        unfold oracleAg
        rw [if_pos hc, overO_ne _ _ _ _ _ (by decide)]
        exact overO_self _ _ _ _
      have q3 : oracleAg l 18 [.sl 1 (strs l) .none] [] = some (withoutR l, []) := by
        unfold oracleAg
        rw [if_pos hc]
        exact overO_self _ _ _ _
      obtain ⟨a1, a2⟩ := again_without he
      obtain ⟨b1, b2, b3, b4⟩ := again_printed he
      have c1 := again_joined he
      have c2 := again_line he
      obtain ⟨s1, _⟩ := read_small he
      have w1 := lines_small a1
      have w2 := lines_small b3
      have h7 := tokensOf_ev (withoutP l (readP l).cs) .none fx_none (by omega)
      have h8 := tokensOf_ev (printP (readP l).ts).out .none fx_none (by omega)
      have hst := sameTokens_ev (readP l).ts (readP l).ts .none .none fx_none fx_none (by omega) (by omega)
      rw [eqToks_refl] at hst
      unfold withoutR at q3
      unfold prAV at q1
      unfold joAV at q2
      unfold slTk at h4 h7 h8
      rw [a1, a2] at h7
      rw [b3, b4] at h8
      rw [he] at h4 q3
      rw [b1, b2] at q1
      generalize (readP (withoutP l (readP l).cs)).line = x1 at h7
      generalize (readP (withoutP l (readP l).cs)).col = x2 at h7
      generalize (readP (printP (readP l).ts).out).line = x3 at h8
      generalize (readP (printP (readP l).ts).out).col = x4 at h8
      generalize withoutP l (readP l).cs = W at q3 h7
      generalize (printP (readP l).ts).out = O at q1 h8 w2
      generalize joinP (readP l).ts = J at q2 c1 c2
      generalize (readP l).ts = ts at q1 q2 h4 h7 h8 hst s1 c2
      generalize (readP l).line = x5 at h4 q3
      generalize (readP l).col = x6 at h4 q3
      obtain ⟨s, je⟩ := J
      simp only at c1 c2
      simp only [bne_self_eq_false, Bool.false_eq_true, if_false, if_true] at h4 h7 h8 q1 q2 q3
      have n1 : ts.length * 40 ≤ 70368744177664 := by omega
      have hso : (strs O).length = O.length := by simp [strs]
      rcases c1 with rfl | rfl
      · by_cases hs : s.length ≤ 120
        · obtain ⟨d1, d2⟩ := c2 rfl hs
          have h9 := tokensOf_ev [s] .clip fx_clip (by simp)
          unfold slTk at h9
          rw [d1] at h9
          have hz : strs [s] = [[.str s]] := rfl
          rw [hz] at h9
          generalize (readP [s]).ts = us at d2 h9
          generalize (readP [s]).line = x7 at h9
          generalize (readP [s]).col = x8 at h9
          simp only [bne_self_eq_false, Bool.false_eq_true, if_false] at h9
          have hlen : us.length = ts.length := by have := congrArg List.length d2; simpa [kt] using this
          have hs' : ¬ (120 : Int) < s.length := by omega
          have hs2 : ¬ 120 < s.length := by omega
          simp [-Int.natCast_add, hne, h1, h2, h3, h4, h6, h7, h8, h9, q1, q2, q3, hst, n1, hso, aappend, hs', hs2, hlen, bare_fx ht, row_fx ht, relab_fx ht]
          refine loop_by (fun i => us.length - i) (fun (i : Nat) t m => i ≤ us.length ∧ clean (lvAgain 25) t m = headS [(3, .sl 4 (ts.map tkC) .none), (20, .sl 4 (us.map tkC) .none), (23, .int .i64 i)] []) ?_ 0 ?_
          · intro i t m ⟨hi, hS⟩ ih
            refine round_of hS ?_
            by_cases h10 : i < us.length
            · have w1 : IntKind.i64.wrap ((i : Int) + 1) = ((i + 1 : Nat) : Int) := wrap_i64 (by omega) (by omega)
              have h11 : i < ts.length := by omega
              have hk : (us[i].kind, us[i].text) = (ts[i].kind, ts[i].text) := by
                have := congrArg (fun q => q[i]?) d2
                simpa [kt, h10, h11] using this
              rcases hu : us[i] with ⟨ka, ta, la, ca⟩
              rcases htq : ts[i] with ⟨kb, tb, lb, cb⟩
              rw [hu, htq] at hk
              simp only [Prod.mk.injEq] at hk
              obtain ⟨rfl, rfl⟩ := hk
              simp [-Int.natCast_add, lvAgain, keepAg, h10, h11, w1, hu, htq, tkC, hlen]
              refine ih (i + 1) _ _ (by omega) ⟨by omega, ?_⟩
              simp [-Int.natCast_add, lvAgain, keepAg, tkC]
            · have h11 : ¬ i < ts.length := by omega
              simp [-Int.natCast_add, lvAgain, keepAg, h10, h11, hlen]
          · refine ⟨Nat.zero_le _, ?_⟩
            simp [lvAgain, keepAg]
        · have hs' : (120 : Int) < s.length := by omega
          have hs2 : 120 < s.length := by omega
          simp [-Int.natCast_add, hne, h1, h2, h3, h4, h6, h7, h8, q1, q2, q3, hst, n1, hso, aappend, hs', hs2, bare_fx ht, row_fx ht, relab_fx ht]
      · simp [-Int.natCast_add, hne, h1, h2, h3, h4, h6, h7, h8, q1, q2, q3, hst, n1, hso, aappend, bare_fx ht, row_fx ht, relab_fx ht]
    · have he' : ((readP l).err != 0) = true := by simpa using he
      have he2 := he
      unfold slTk at h4
      rw [he'] at h4
      generalize (readP l).err = ee at h4 he' he2
      simp only [if_true] at h4
      simp [hne, h1, h2, h3, h4, h6, he', he2, bare_fx ht, row_fx ht, relab_fx ht]
theorem again_ok : codeOk lvAgain (Tryz.f6.body.getD .skip) = true := by kernel_rfl
theorem again_sim (l : List Str) (hl : l.length < 2 ^ 62) : SimCall Tryz.prog 6 [.sl 1 (strs l) .none] [] (.bool true) [] := by
  have hS : Sound Tryz.prog (oracleAg l) := by
    unfold oracleAg
    split
    · rename_i h
      obtain ⟨h1, h2⟩ := few_small h.1
      obtain ⟨s1, s2⟩ := read_small h.2
      have s3 : ∀ t ∈ (readP l).ts, t.text.length ≤ 140 := fun t ht => by have := s2 t ht; omega
      exact overO_sound (overO_sound (overO_sound (evc_sound plan_ok) (printed_sim _ .none fx_none (by omega) s3)) (jt_sim _ (by omega) s3)) (without_sim l .none fx_none (by omega) h2)
    · exact evc_sound plan_ok
  obtain ⟨c, hc⟩ : ∃ c, Tryz.f6.body = some c := ⟨_, rfl⟩
  have hok := again_ok
  rw [hc] at hok
  exact fn_sound (drawSound planFollows) planFollows (E := ⟨oracleAg l, planRo, lvAgain, 155⟩) hS Tryz.func6 hc (Nat.le_refl _) hok Tryz.call6 (by simp) (again_ev l .none fx_none hl)
end Go.Proofs.YtlmmgblghgmgeaaGreatDoor
