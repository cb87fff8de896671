/- The texts RefJ3, merged. -/
import Derived.Test.YtlmmgblghgmgeaaGreatDoorMaq
set_option linter.unusedVariables false
set_option linter.unusedSimpArgs false
/- Which tokens must be apart, by the reference, evaluated: the first is a rule. -/
namespace Go.Proofs.YtlmmgblghgmgeaaGreatDoor
open Go Ev
set_option maxRecDepth 100000
set_option linter.unusedSimpArgs false
attribute [local simp] dFor_none storeFine_none dFor_no storeFine_no lessL lkL evCode_exit evCode_seq evCode_plain evCode_draw evCode_cond evCode_ret evCode_skip evCode_block evCode_loop roundK_normal roundK_exit roundK_ret seqK_normal seqK_exit seqK_ret blockK_normal blockK_exit blockK_ret regK_eq evOps_nil evOps_cons params astep okDst isWanted aop opnd ofValue putT abin headS ofL noPtr acall adopt_bool adopt_int adopt_str adopt_agg adopt_clip upd_false AV.cells partOf setCells fillC AV.isVal List.range List.range.loop ofB mayRead dsts planRo capIds viewed scalarR AV.scalar bare_undef bare_bool bare_int bare_str bare_snil bare_snone bare_sclip bare_srow bare_ptr bare_eptr bare_pnil bare_fn bare_fnil bare_agg bare_tup passed setBoxes killNames addNames freshAll adopt resParts resBack relabB relabL namesOf cellsOfB boxName row_undef row_bool row_int row_str row_snil row_snone row_sclip row_srow row_ptr row_eptr row_pnil row_fn row_fnil row_agg row_tup relab_undef relab_bool relab_int relab_str relab_snil relab_snone relab_sclip relab_srow relab_ptr relab_eptr relab_pnil relab_fn relab_fnil relab_agg relab_tup relab_sgrow finK freezeT avAll resOf outBoxes AV.untup

set_option maxHeartbeats 8000000 in
theorem rapart_ev3 (a b : Tk) (ha : a.kind = 5 → 4 ≤ a.text.length) (hb : b.kind = 5 → 4 ≤ b.text.length) (hla : a.text.length < 2 ^ 38) (hlb : b.text.length < 2 ^ 38) (k5 : (a.kind == 5) = true) : evc plan 13 [.agg (tkC a), .agg (tkC b)] [] = some (.bool (rApart a b), []) := by
  refine evc_start plan (P := Tryz.prog) (ro := planRo) rfl rfl rfl rfl rfl rfl (by simp) rfl ?_
  have hsa := short_ev a ha
  have hsb := short_ev b hb
  have hr := rread_ev [shortT a ++ shortT b] .clip fx_clip (by simp)
  have hV : rApart a b = !twoRead (refReadP [shortT a ++ shortT b]) a.kind (shortT a) b.kind := rfl
  have hXa : shortT a = if a.kind == 5 then a.text.take 4 else a.text := rfl
  have hXb : shortT b = if b.kind == 5 then b.text.take 4 else b.text := rfl
  have hlX : (shortT a).length + (shortT b).length ≤ 9223372036854775807 := by
    have h1 : (shortT a).length ≤ a.text.length := by unfold shortT; split <;> simp [List.length_take] <;> omega
    have h2 : (shortT b).length ≤ b.text.length := by unfold shortT; split <;> simp [List.length_take] <;> omega
    omega
  generalize rApart a b = V at hV ⊢
  generalize refReadP [shortT a ++ shortT b] = r at hr hV
  have hst : ∀ x : Str, strs [x] = [[.str x]] := fun _ => rfl
  rw [hst] at hr
  obtain ⟨ka, xa, la, ca⟩ := a
  obtain ⟨kb, xb, lb, cb⟩ := b
  generalize shortT ⟨ka, xa, la, ca⟩ = X at *
  generalize shortT ⟨kb, xb, lb, cb⟩ = Y at *
  unfold tkC at hsa hsb
  simp only at hXa hXb hV hsa hsb hla hlb k5
  obtain ⟨e, rl, rc, ts, cs⟩ := r
  clear hXa hXb
  unfold twoRead at hV
  cases h2 : e != 0
  · have he : e = 0 := by simpa using h2
    subst he
    cases cs with
    | cons cc cs' =>
      simp at hV; subst hV
      simp [-Int.natCast_add, dFor, storeFine, looseAt, isBox, exposed, rootsOf, lvApart, noKeep, List.lookup, tkC, hsa, hsb, hr, hlX, k5, h2, rdAV, slTk, slSp, spC]
    | nil =>
      match ts, hV, hr with
      | [], hV, hr =>
        simp at hV; subst hV
        simp [-Int.natCast_add, dFor, storeFine, looseAt, isBox, exposed, rootsOf, lvApart, noKeep, List.lookup, tkC, hsa, hsb, hr, hlX, k5, h2, rdAV, slTk, slSp, spC]
      | [u], hV, hr =>
        simp at hV; subst hV
        simp [-Int.natCast_add, dFor, storeFine, looseAt, isBox, exposed, rootsOf, lvApart, noKeep, List.lookup, tkC, hsa, hsb, hr, hlX, k5, h2, rdAV, slTk, slSp, spC]
      | [u, v], hV, hr =>
        cases h3 : u.text == X
        · simp [h3] at hV; subst hV
          simp [-Int.natCast_add, dFor, storeFine, looseAt, isBox, exposed, rootsOf, lvApart, noKeep, List.lookup, tkC, hsa, hsb, hr, hlX, k5, h2, h3, rdAV, slTk, slSp, spC]
        · have h4' : (u.kind != ka) = !(u.kind == ka) := rfl
          have h5' : (v.kind != kb) = !(v.kind == kb) := rfl
          cases h4 : u.kind == ka
          · rw [h4] at h4'
            simp [h3, h4] at hV; subst hV
            simp [-Int.natCast_add, dFor, storeFine, looseAt, isBox, exposed, rootsOf, lvApart, noKeep, List.lookup, tkC, hsa, hsb, hr, hlX, k5, h2, h3, h4, h4', rdAV, slTk, slSp, spC]
          · rw [h4] at h4'
            cases h5 : v.kind == kb
            · rw [h5] at h5'
              simp [h3, h4, h5] at hV; subst hV
              simp [-Int.natCast_add, dFor, storeFine, looseAt, isBox, exposed, rootsOf, lvApart, noKeep, List.lookup, tkC, hsa, hsb, hr, hlX, k5, h2, h3, h4, h4', h5, h5', rdAV, slTk, slSp, spC]
            · rw [h5] at h5'
              simp [h3, h4, h5] at hV; subst hV
              simp [-Int.natCast_add, dFor, storeFine, looseAt, isBox, exposed, rootsOf, lvApart, noKeep, List.lookup, tkC, hsa, hsb, hr, hlX, k5, h2, h3, h4, h4', h5, h5', rdAV, slTk, slSp, spC]
      | u :: v :: w :: ts', hV, hr =>
        simp at hV; subst hV
        have h6 : (((ts'.length + 1 + 1 + 1 : Nat) : Int) != 2) = true := by simp; omega
        simp [-Int.natCast_add, dFor, storeFine, looseAt, isBox, exposed, rootsOf, lvApart, noKeep, List.lookup, tkC, hsa, hsb, hr, hlX, k5, h2, h6, rdAV, slTk, slSp, spC]
  · simp [h2] at hV; subst hV
    have he : e ≠ 0 := by simpa using h2
    simp [-Int.natCast_add, dFor, storeFine, looseAt, isBox, exposed, rootsOf, lvApart, noKeep, List.lookup, tkC, hsa, hsb, hr, hlX, k5, h2, he, rdAV, slTk, slSp, spC]
end Go.Proofs.YtlmmgblghgmgeaaGreatDoor
