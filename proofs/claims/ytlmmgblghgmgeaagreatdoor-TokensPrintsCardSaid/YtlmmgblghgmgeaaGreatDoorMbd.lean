/- The texts LawPrints, merged. -/
import Derived.Test.YtlmmgblghgmgeaaGreatDoorMbc
import Derived.Test.YtlmmgblghgmgeaaGreatDoorMau
set_option linter.unusedVariables false
set_option linter.unusedSimpArgs false
/- The law of the printing: by its code it answers true, if JoinedText is as said. -/
namespace Go.Proofs.YtlmmgblghgmgeaaGreatDoor
open Go Ev
set_option maxRecDepth 100000
set_option linter.unusedSimpArgs false
attribute [local simp] dFor_none storeFine_none dFor_no storeFine_no lessL lkL evCode_exit evCode_seq evCode_plain evCode_draw evCode_cond evCode_ret evCode_skip evCode_block evCode_loop roundK_normal roundK_exit roundK_ret seqK_normal seqK_exit seqK_ret blockK_normal blockK_exit blockK_ret regK_eq evOps_nil evOps_cons params astep okDst isWanted aop opnd ofValue putT abin headS ofL noPtr acall adopt_bool adopt_int adopt_str adopt_agg adopt_clip upd_false AV.cells partOf setCells fillC AV.isVal List.range List.range.loop ofB mayRead dsts planRo capIds viewed scalarR AV.scalar bare_undef bare_bool bare_int bare_str bare_snil bare_snone bare_sclip bare_srow bare_ptr bare_eptr bare_pnil bare_fn bare_fnil bare_agg bare_tup clean keepBoxes relabB relabL cleanS fixPtr cellsOfB namesOf row_undef row_bool row_int row_str row_snil row_snone row_sclip row_srow row_ptr row_eptr row_pnil row_fn row_fnil row_agg row_tup relab_undef relab_bool relab_int relab_str relab_snil relab_snone relab_sclip relab_srow relab_ptr relab_eptr relab_pnil relab_fn relab_fnil relab_agg relab_tup relab_sgrow passed setBoxes killNames addNames freshAll adopt resParts resBack boxName finK freezeT avAll resOf outBoxes AV.untup

theorem equalNil_ev : evc plan 21 [.sl 0 [] .nil, .sl 0 [] .nil] [] = some (.bool true, []) := by
  refine evc_start plan (P := Tryz.prog) (ro := planRo) rfl rfl rfl rfl rfl rfl (by simp) rfl ?_
  simp []
  refine round_of (S := headS [(0, .sl 0 [] .nil), (1, .sl 0 [] .nil), (5, .int .i64 0)] []) (show clean (lvSame 4) _ _ = _ by simp [lvSame, lvL]) ?_
  simp []
def lvNone2 : Nat → Keep := fun _ => noKeep
@[simp] theorem lvNone2_h (k : Nat) : lvNone2 k = noKeep := rfl
def prArgs (l : List Tk) : List AV := [.sl 4 (l.map tkC) .none]
noncomputable def oracleQ (l : List Tk) : Oracle :=
  if fewT l = true then
    overO (overO (overO (overO (evc plan) 24 (prArgs l) (prAV (printP l))) 25 (prArgs l) (joAV (joinP l))) 26 (prArgs l) (prAV (printP l))) 27 (prArgs l) (joAV (joinP l))
  else evc plan
theorem fewT_small {l : List Tk} (h : fewT l = true) : l.length ≤ 1300 ∧ ∀ t ∈ l, t.text.length ≤ 140 := by
  simp only [fewT, Bool.and_eq_true, decide_eq_true_eq] at h
  refine ⟨by omega, fun t ht => ?_⟩
  have h9 := h.1
  rw [List.take_of_length_le (by omega), List.all_eq_true] at h9
  have := h9 t ht
  simp at this; omega
theorem printP_small (l : List Tk) : (printP l).out.length ≤ 300 := by
  unfold printP
  split
  · simp
  · split
    · rename_i h0
      split
      · simp
      · exact (printGo_inv l none 0 [] printGo_start h0).2
    · simp
set_option maxHeartbeats 4000000 in
theorem prints_law (l : List Tk) (hl : l.length < 2 ^ 62) : evFn Tryz.prog ⟨oracleQ l, planRo, lvNone2, 65⟩ Tryz.f5 [.sl 4 (l.map tkC) .none] [] = some (.bool true, []) := by
  refine evFn_start rfl rfl rfl ?_
  have hne : ∀ (f : FuncId) (args : List AV) (bs : List (Nat × Box)), f ≠ 24 → f ≠ 25 → f ≠ 26 → f ≠ 27 → oracleQ l f args bs = evc plan f args bs := fun f args bs h1 h2 h3 h4 => by
    unfold oracleQ
    split
    · rw [overO_ne _ _ _ _ _ h4, overO_ne _ _ _ _ _ h3, overO_ne _ _ _ _ _ h2, overO_ne _ _ _ _ _ h1]
    · rfl
  have h1 := awake_ev
  have h2 := fewT_ev l .none fx_none hl
  cases h6 : fewT l
  · simp [hne, h1, h2, h6]
  · obtain ⟨hs1, hs2⟩ := fewT_small h6
    have q1 : oracleQ l 24 [.sl 4 (l.map tkC) .none] [] = some (prAV (printP l), []) := by
      unfold oracleQ
      rw [if_pos h6, overO_ne _ _ _ _ _ (by decide), overO_ne _ _ _ _ _ (by decide), overO_ne _ _ _ _ _ (by decide)]
      exact overO_self _ _ _ _
    have q2 : oracleQ l 25 [.sl 4 (l.map tkC) .none] [] = some (joAV (joinP l), []) := by
      unfold oracleQ
      rw [if_pos h6, overO_ne _ _ _ _ _ (by decide), overO_ne _ _ _ _ _ (by decide)]
      exact overO_self _ _ _ _
    have q3 : oracleQ l 26 [.sl 4 (l.map tkC) .none] [] = some (prAV (printP l), []) := by
      unfold oracleQ
      rw [if_pos h6, overO_ne _ _ _ _ _ (by decide)]
      exact overO_self _ _ _ _
    have q4 : oracleQ l 27 [.sl 4 (l.map tkC) .none] [] = some (joAV (joinP l), []) := by
      unfold oracleQ
      rw [if_pos h6]
      exact overO_self _ _ _ _
    have hsm := printP_small l
    have q5 := equalT_ev (printP l).out (printP l).out .none .none fx_none fx_none (by omega) (by omega)
    rw [eqT_refl] at q5
    have q6 := equalNil_ev
    have n1 : l.length * 40 ≤ 70368744177664 := by omega
    unfold prAV at q1 q3
    unfold joAV at q2 q4
    generalize joinP l = J at q2 q4
    generalize printP l = G at q1 q3 q5
    obtain ⟨out, gi, ge⟩ := G
    obtain ⟨js, je⟩ := J
    simp only at q1 q2 q3 q4 q5
    by_cases h0 : ge = 0
    · subst h0
      simp only [if_true] at q1 q3
      generalize strs out = V at q1 q3 q5
      simp [-Int.natCast_add, hne, h1, h2, h6, q1, q2, q3, q4, q5, n1, aappend]
    · rw [if_neg h0] at q1 q3
      simp [-Int.natCast_add, hne, h1, h2, h6, q1, q2, q3, q4, q6, n1, aappend]
theorem prints_ok : codeOk lvNone2 (Tryz.f5.body.getD .skip) = true := by kernel_rfl
theorem prints_sim (l : List Tk) (hl : l.length < 2 ^ 62) (hJ : fewT l = true → SimCall Tryz.prog 25 [.sl 4 (l.map tkC) .none] [] (joAV (joinP l)) []) : SimCall Tryz.prog 5 [.sl 4 (l.map tkC) .none] [] (.bool true) [] := by
  have hS : Sound Tryz.prog (oracleQ l) := by
    unfold oracleQ
    split
    · rename_i h
      obtain ⟨h1, h2⟩ := fewT_small h
      exact overO_sound (overO_sound (overO_sound (overO_sound (evc_sound plan_ok) (printed_sim l .none fx_none h1 h2)) (hJ h)) (rprinted_sim l .none fx_none h1 h2)) (joined_sim l .none fx_none h1 h2)
    · exact evc_sound plan_ok
  obtain ⟨c, hc⟩ : ∃ c, Tryz.f5.body = some c := ⟨_, rfl⟩
  have hok := prints_ok
  rw [hc] at hok
  exact fn_sound (drawSound planFollows) planFollows (E := ⟨oracleQ l, planRo, lvNone2, 65⟩) hS Tryz.func5 hc (Nat.le_refl _) hok Tryz.call5 (by simp) (prints_law l hl)
end Go.Proofs.YtlmmgblghgmgeaaGreatDoor
