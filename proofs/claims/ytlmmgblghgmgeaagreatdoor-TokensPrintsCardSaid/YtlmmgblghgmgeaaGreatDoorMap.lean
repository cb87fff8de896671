/- The texts RefI2, merged. -/
import Derived.Test.YtlmmgblghgmgeaaGreatDoorMao
set_option linter.unusedVariables false
set_option linter.unusedSimpArgs false
/- The reference's tokens checked, evaluated. -/
namespace Go.Proofs.YtlmmgblghgmgeaaGreatDoor
open Go Ev
set_option maxRecDepth 100000
set_option linter.unusedSimpArgs false
attribute [local simp] dFor_none storeFine_none dFor_no storeFine_no lessL lkL evCode_exit evCode_seq evCode_plain evCode_draw evCode_cond evCode_ret evCode_skip evCode_block evCode_loop roundK_normal roundK_exit roundK_ret seqK_normal seqK_exit seqK_ret blockK_normal blockK_exit blockK_ret regK_eq evOps_nil evOps_cons params astep okDst isWanted aop opnd ofValue putT abin headS ofL noPtr acall adopt_bool adopt_int adopt_str adopt_agg adopt_clip upd_false AV.cells partOf setCells fillC AV.isVal List.range List.range.loop ofB mayRead dsts planRo capIds viewed scalarR AV.scalar bare_undef bare_bool bare_int bare_str bare_snil bare_snone bare_sclip bare_srow bare_ptr bare_eptr bare_pnil bare_fn bare_fnil bare_agg bare_tup passed setBoxes killNames addNames freshAll adopt resParts resBack relabB relabL namesOf cellsOfB boxName row_undef row_bool row_int row_str row_snil row_snone row_sclip row_srow row_ptr row_eptr row_pnil row_fn row_fnil row_agg row_tup relab_undef relab_bool relab_int relab_str relab_snil relab_snone relab_sclip relab_srow relab_ptr relab_eptr relab_pnil relab_fn relab_fnil relab_agg relab_tup relab_sgrow finK freezeT avAll resOf outBoxes AV.untup

/-- A rule's text, with as few signs as it may have. -/
def ruleText (t : Tk) : Str := if t.kind == 5 && decide ((t.text.length : Int) > 4) && ((sameP t.text 0 : Int) == t.text.length) then t.text.take 4 else t.text
/-- Is just one token read, of a kind and a text? -/
def oneRead (r : Rd) (k : Int) (x : Str) : Bool :=
  !(r.err != 0) && (match r.cs, r.ts with | [], [t] => t.text == x && t.kind == k | _, _ => false)
def bareP (t : Tk) : Int := if !spansB t.kind 0 5 then 4 else if oneRead (refReadP [ruleText t]) t.kind (ruleText t) then 0 else 8
set_option maxHeartbeats 4000000 in
theorem bare_ev (t : Tk) (hl : t.text.length < 2 ^ 38) : evc plan 12 [.agg (tkC t)] [] = some (.int .i64 (bareP t), []) := by
  refine evc_start plan (P := Tryz.prog) (ro := planRo) rfl rfl rfl rfl rfl rfl (by simp) rfl ?_
  have hb := between_ev t.kind 0 5
  have hr := rread_ev [ruleText t] .clip fx_clip (by simp)
  have hs := rsame_ev t.text 0 (by omega) (by omega)
  have hV : bareP t = if !spansB t.kind 0 5 then 4 else if oneRead (refReadP [ruleText t]) t.kind (ruleText t) then 0 else 8 := rfl
  have hX : ruleText t = if t.kind == 5 && decide ((t.text.length : Int) > 4) && ((sameP t.text 0 : Int) == t.text.length) then t.text.take 4 else t.text := rfl
  generalize bareP t = V at hV ⊢
  generalize sameP t.text 0 = sm at hs hX
  simp only [Int.natCast_zero] at hs
  generalize refReadP [ruleText t] = r at hr hV
  generalize ruleText t = X at hr hV hX
  have hst : strs [X] = [[.str X]] := rfl
  rw [hst] at hr
  obtain ⟨tk, tx, tl, tc⟩ := t
  simp only at hb hX hV hs hl
  obtain ⟨e, rl, rc, ts, cs⟩ := r
  have key : True := trivial
  cases h1 : spansB tk 0 5
  · rw [h1] at hV
    simp at hV
    subst hV
    simp [-Int.natCast_add, tkC, hb, h1]
  · rw [h1] at hV
    simp only [Bool.not_true, Bool.false_eq_true, if_false] at hV
    cases k5 : tk == 5
    · simp only [k5, Bool.false_and, Bool.false_eq_true, if_false] at hX
      subst hX
      unfold oneRead at hV
      cases h2 : e != 0
      · have he : e = 0 := by simpa using h2
        subst he
        cases cs with
        | cons cc cs' =>
          simp at hV; subst hV
          simp [-Int.natCast_add, tkC, hb, h1, k5, hs, hr, h2, aslice, abound, rdAV, slTk, slSp, tkC, spC]
        | nil =>
          match ts, hV, hr with
          | [], hV, hr =>
            simp at hV; subst hV
            simp [-Int.natCast_add, tkC, hb, h1, k5, hs, hr, h2, aslice, abound, rdAV, slTk, slSp, tkC, spC]
          | [u], hV, hr =>
            cases h3 : u.text == X
            · simp [h3] at hV; subst hV
              simp [-Int.natCast_add, tkC, hb, h1, k5, hs, hr, h2, h3, aslice, abound, rdAV, slTk, slSp, tkC, spC]
            · cases h4 : u.kind == tk
              · have h4' : (u.kind != tk) = !(u.kind == tk) := rfl
                rw [h4] at h4'
                simp [h3, h4] at hV; subst hV
                simp [-Int.natCast_add, tkC, hb, h1, k5, hs, hr, h2, h3, h4, h4', aslice, abound, rdAV, slTk, slSp, tkC, spC]
              · have h4' : (u.kind != tk) = !(u.kind == tk) := rfl
                rw [h4] at h4'
                simp [h3, h4] at hV; subst hV
                simp [-Int.natCast_add, tkC, hb, h1, k5, hs, hr, h2, h3, h4, h4', aslice, abound, rdAV, slTk, slSp, tkC, spC]
          | u :: v :: ts', hV, hr =>
            simp at hV; subst hV
            have h5 : (((ts'.length + 1 + 1 : Nat) : Int) != 1) = true := by simp; omega
            simp [-Int.natCast_add, tkC, hb, h1, k5, hs, hr, h2, h5, aslice, abound, rdAV, slTk, slSp, tkC, spC]
      · simp [h2] at hV; subst hV
        have he : e ≠ 0 := by simpa using h2
        simp [-Int.natCast_add, tkC, hb, h1, k5, hs, hr, h2, he, aslice, abound, rdAV, slTk, slSp, tkC, spC]
    · by_cases l4 : (tx.length : Int) > 4
      · have l4' : 4 ≤ tx.length := by omega
        cases se : ((sm : Int) == tx.length)
        · simp only [k5, l4, se, decide_true, Bool.and_false, Bool.false_eq_true, if_false] at hX
          subst hX
          unfold oneRead at hV
          cases h2 : e != 0
          · have he : e = 0 := by simpa using h2
            subst he
            cases cs with
            | cons cc cs' =>
              simp at hV; subst hV
              simp [-Int.natCast_add, tkC, hb, h1, k5, l4, l4', se, hs, hr, h2, aslice, abound, rdAV, slTk, slSp, tkC, spC]
            | nil =>
              match ts, hV, hr with
              | [], hV, hr =>
                simp at hV; subst hV
                simp [-Int.natCast_add, tkC, hb, h1, k5, l4, l4', se, hs, hr, h2, aslice, abound, rdAV, slTk, slSp, tkC, spC]
              | [u], hV, hr =>
                cases h3 : u.text == X
                · simp [h3] at hV; subst hV
                  simp [-Int.natCast_add, tkC, hb, h1, k5, l4, l4', se, hs, hr, h2, h3, aslice, abound, rdAV, slTk, slSp, tkC, spC]
                · cases h4 : u.kind == tk
                  · have h4' : (u.kind != tk) = !(u.kind == tk) := rfl
                    rw [h4] at h4'
                    simp [h3, h4] at hV; subst hV
                    simp [-Int.natCast_add, tkC, hb, h1, k5, l4, l4', se, hs, hr, h2, h3, h4, h4', aslice, abound, rdAV, slTk, slSp, tkC, spC]
                  · have h4' : (u.kind != tk) = !(u.kind == tk) := rfl
                    rw [h4] at h4'
                    simp [h3, h4] at hV; subst hV
                    simp [-Int.natCast_add, tkC, hb, h1, k5, l4, l4', se, hs, hr, h2, h3, h4, h4', aslice, abound, rdAV, slTk, slSp, tkC, spC]
              | u :: v :: ts', hV, hr =>
                simp at hV; subst hV
                have h5 : (((ts'.length + 1 + 1 : Nat) : Int) != 1) = true := by simp; omega
                simp [-Int.natCast_add, tkC, hb, h1, k5, l4, l4', se, hs, hr, h2, h5, aslice, abound, rdAV, slTk, slSp, tkC, spC]
          · simp [h2] at hV; subst hV
            have he : e ≠ 0 := by simpa using h2
            simp [-Int.natCast_add, tkC, hb, h1, k5, l4, l4', se, hs, hr, h2, he, aslice, abound, rdAV, slTk, slSp, tkC, spC]
        · simp only [k5, l4, se, decide_true, Bool.and_true, if_true] at hX
          have hX' : tx.take 4 = X := hX.symm
          unfold oneRead at hV
          cases h2 : e != 0
          · have he : e = 0 := by simpa using h2
            subst he
            cases cs with
            | cons cc cs' =>
              simp at hV; subst hV
              simp [-Int.natCast_add, tkC, hb, h1, k5, l4, l4', se, hX', hs, hr, h2, aslice, abound, rdAV, slTk, slSp, tkC, spC]
            | nil =>
              match ts, hV, hr with
              | [], hV, hr =>
                simp at hV; subst hV
                simp [-Int.natCast_add, tkC, hb, h1, k5, l4, l4', se, hX', hs, hr, h2, aslice, abound, rdAV, slTk, slSp, tkC, spC]
              | [u], hV, hr =>
                cases h3 : u.text == X
                · simp [h3] at hV; subst hV
                  simp [-Int.natCast_add, tkC, hb, h1, k5, l4, l4', se, hX', hs, hr, h2, h3, aslice, abound, rdAV, slTk, slSp, tkC, spC]
                · cases h4 : u.kind == tk
                  · have h4' : (u.kind != tk) = !(u.kind == tk) := rfl
                    rw [h4] at h4'
                    simp [h3, h4] at hV; subst hV
                    simp [-Int.natCast_add, tkC, hb, h1, k5, l4, l4', se, hX', hs, hr, h2, h3, h4, h4', aslice, abound, rdAV, slTk, slSp, tkC, spC]
                  · have h4' : (u.kind != tk) = !(u.kind == tk) := rfl
                    rw [h4] at h4'
                    simp [h3, h4] at hV; subst hV
                    simp [-Int.natCast_add, tkC, hb, h1, k5, l4, l4', se, hX', hs, hr, h2, h3, h4, h4', aslice, abound, rdAV, slTk, slSp, tkC, spC]
              | u :: v :: ts', hV, hr =>
                simp at hV; subst hV
                have h5 : (((ts'.length + 1 + 1 : Nat) : Int) != 1) = true := by simp; omega
                simp [-Int.natCast_add, tkC, hb, h1, k5, l4, l4', se, hX', hs, hr, h2, h5, aslice, abound, rdAV, slTk, slSp, tkC, spC]
          · simp [h2] at hV; subst hV
            have he : e ≠ 0 := by simpa using h2
            simp [-Int.natCast_add, tkC, hb, h1, k5, l4, l4', se, hX', hs, hr, h2, he, aslice, abound, rdAV, slTk, slSp, tkC, spC]
      · simp only [l4, decide_false, Bool.and_false, Bool.false_and, Bool.false_eq_true, if_false] at hX
        subst hX
        unfold oneRead at hV
        cases h2 : e != 0
        · have he : e = 0 := by simpa using h2
          subst he
          cases cs with
          | cons cc cs' =>
            simp at hV; subst hV
            simp [-Int.natCast_add, tkC, hb, h1, k5, l4, hs, hr, h2, aslice, abound, rdAV, slTk, slSp, tkC, spC]
          | nil =>
            match ts, hV, hr with
            | [], hV, hr =>
              simp at hV; subst hV
              simp [-Int.natCast_add, tkC, hb, h1, k5, l4, hs, hr, h2, aslice, abound, rdAV, slTk, slSp, tkC, spC]
            | [u], hV, hr =>
              cases h3 : u.text == X
              · simp [h3] at hV; subst hV
                simp [-Int.natCast_add, tkC, hb, h1, k5, l4, hs, hr, h2, h3, aslice, abound, rdAV, slTk, slSp, tkC, spC]
              · cases h4 : u.kind == tk
                · have h4' : (u.kind != tk) = !(u.kind == tk) := rfl
                  rw [h4] at h4'
                  simp [h3, h4] at hV; subst hV
                  simp [-Int.natCast_add, tkC, hb, h1, k5, l4, hs, hr, h2, h3, h4, h4', aslice, abound, rdAV, slTk, slSp, tkC, spC]
                · have h4' : (u.kind != tk) = !(u.kind == tk) := rfl
                  rw [h4] at h4'
                  simp [h3, h4] at hV; subst hV
                  simp [-Int.natCast_add, tkC, hb, h1, k5, l4, hs, hr, h2, h3, h4, h4', aslice, abound, rdAV, slTk, slSp, tkC, spC]
            | u :: v :: ts', hV, hr =>
              simp at hV; subst hV
              have h5 : (((ts'.length + 1 + 1 : Nat) : Int) != 1) = true := by simp; omega
              simp [-Int.natCast_add, tkC, hb, h1, k5, l4, hs, hr, h2, h5, aslice, abound, rdAV, slTk, slSp, tkC, spC]
        · simp [h2] at hV; subst hV
          have he : e ≠ 0 := by simpa using h2
          simp [-Int.natCast_add, tkC, hb, h1, k5, l4, hs, hr, h2, he, aslice, abound, rdAV, slTk, slSp, tkC, spC]
end Go.Proofs.YtlmmgblghgmgeaaGreatDoor
