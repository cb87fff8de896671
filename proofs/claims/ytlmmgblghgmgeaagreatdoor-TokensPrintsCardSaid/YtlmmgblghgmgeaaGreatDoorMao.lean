/- The texts RefI, merged. -/
import Derived.Test.YtlmmgblghgmgeaaGreatDoorMan
set_option linter.unusedVariables false
set_option linter.unusedSimpArgs false
/- The reference reads a text: the errors. -/
namespace Go.Proofs.YtlmmgblghgmgeaaGreatDoor
open Go Ev
set_option maxRecDepth 100000
set_option linter.unusedSimpArgs false
attribute [local simp] dFor_none storeFine_none dFor_no storeFine_no lessL lkL evCode_exit evCode_seq evCode_plain evCode_draw evCode_cond evCode_ret evCode_skip evCode_block evCode_loop roundK_normal roundK_exit roundK_ret seqK_normal seqK_exit seqK_ret blockK_normal blockK_exit blockK_ret regK_eq evOps_nil evOps_cons params astep okDst isWanted aop opnd ofValue putT abin headS ofL noPtr acall adopt_bool adopt_int adopt_str adopt_agg adopt_clip upd_false AV.cells partOf setCells fillC AV.isVal List.range List.range.loop ofB mayRead dsts planRo capIds viewed scalarR AV.scalar bare_undef bare_bool bare_int bare_str bare_snil bare_snone bare_sclip bare_srow bare_ptr bare_eptr bare_pnil bare_fn bare_fnil bare_agg bare_tup passed setBoxes killNames addNames freshAll adopt resParts resBack relabB relabL namesOf cellsOfB boxName row_undef row_bool row_int row_str row_snil row_snone row_sclip row_srow row_ptr row_eptr row_pnil row_fn row_fnil row_agg row_tup relab_undef relab_bool relab_int relab_str relab_snil relab_snone relab_sclip relab_srow relab_ptr relab_eptr relab_pnil relab_fn relab_fnil relab_agg relab_tup relab_sgrow finK freezeT avAll resOf outBoxes AV.untup

def refReadP (l : List Str) : Rd :=
  if (refLinesP l).2 != 0 then ⟨(refLinesP l).2, (refLinesP l).1, 0, [], []⟩
  else if (refAll l).1 != 0 then ⟨(refAll l).1, (refAll l).2.i, (refAll l).2.j, [], []⟩
  else if decide (((refAll l).2.ts.length : Int) > 1200) then ⟨2, 0, 0, [], []⟩
  else ⟨0, 0, 0, (refAll l).2.ts, (refAll l).2.cs⟩
def rdAV (r : Rd) : AV := .agg [slTk r, slSp r, .int .i64 r.line, .int .i64 r.col, .int .i64 r.err]
theorem refLines_len {l : List Str} (h : (refLinesP l).2 = 0) : l.length ≤ 300 ∧ ∀ s ∈ l, s.length ≤ 120 := by
  unfold refLinesP at h
  split at h
  · simp at h
  · rename_i h1
    refine ⟨by simp only [decide_eq_true_eq] at h1; omega, ?_⟩
    have : ∀ (l : List Str) (n : Int), (refLinesGo l n).2 = 0 → ∀ s ∈ l, s.length ≤ 120 := fun l => by
      induction l with
      | nil => intro n _ s hs; simp at hs
      | cons x l ih =>
        intro n h s hs
        unfold refLinesGo at h
        split at h
        · simp at h
        · rename_i h2
          split at h
          · simp at h
          · rcases List.mem_cons.1 hs with rfl | hs
            · simp only [decide_eq_true_eq] at h2; omega
            · exact ih _ h s hs
    exact this l 0 h
theorem rread_ev (l : List Str) (tk : Tok) (ht : Fx tk) (hl : l.length < 2 ^ 62) : evc plan 19 [.sl 1 (strs l) tk] [] = some (rdAV (refReadP l), []) := by
  refine evc_start plan (P := Tryz.prog) (ro := planRo) rfl rfl rfl rfl rfl rfl (by simp) rfl ?_
  have hL := refLines_ev l tk ht hl
  unfold refReadP
  generalize hQ : refLinesP l = q at hL
  obtain ⟨q1, q2⟩ := q
  simp only at hL
  cases h0 : q2 != 0
  · have h0' : (refLinesP l).2 = 0 := by rw [hQ]; simpa using h0
    obtain ⟨hn, hc⟩ := refLines_len h0'
    have hT := total_le l 120 hc
    have hT2 : total l < 2 ^ 39 := by
      have : l.length * 121 ≤ 300 * 121 := Nat.mul_le_mul_right _ hn
      omega
    have ha := ahead_ev l tk ht (by omega) (fun x hx => by have := hc x hx; omega) hT2
    generalize refAll l = R at ha
    obtain ⟨e, s⟩ := R
    unfold textAV at ha
    simp only at ha
    cases h1 : e != 0
    · have he : e = 0 := by simpa using h1
      subst he
      simp only [if_true] at ha
      cases h2 : decide ((s.ts.length : Int) > 1200)
      · have h2' : ¬ (1200 : Int) < s.ts.length := by simpa using h2
        simp [-Int.natCast_add, hL, h0, ha, h2', bare_fx ht, row_fx ht, relab_fx ht, rdAV, slTk, slSp]
      · have h2' : (1200 : Int) < s.ts.length := by simpa using h2
        simp [-Int.natCast_add, hL, h0, ha, h2', bare_fx ht, row_fx ht, relab_fx ht, rdAV, slTk, slSp]
    · have he : e ≠ 0 := by simpa using h1
      simp only [if_neg he] at ha
      simp [-Int.natCast_add, hL, h0, ha, h1, he, bare_fx ht, row_fx ht, relab_fx ht, rdAV, slTk, slSp]
  · have hq : q2 ≠ 0 := by simpa using h0
    simp [-Int.natCast_add, hL, h0, hq, bare_fx ht, row_fx ht, relab_fx ht, rdAV, slTk, slSp]
end Go.Proofs.YtlmmgblghgmgeaaGreatDoor
