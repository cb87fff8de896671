/- The texts PrinE, merged. -/
import Derived.Test.YtlmmgblghgmgeaaGreatDoorMba
set_option linter.unusedVariables false
set_option linter.unusedSimpArgs false
/- The reference's Printed: evaluated. -/
namespace Go.Proofs.YtlmmgblghgmgeaaGreatDoor
open Go Ev
set_option maxRecDepth 100000
set_option linter.unusedSimpArgs false
attribute [local simp] clean keepBoxes relabB relabL cleanS fixPtr headS ofL ofB cellsOfB namesOf upd_false AV.cells row_undef row_bool row_int row_str row_snil row_snone row_sclip row_srow row_ptr row_eptr row_pnil row_fn row_fnil row_agg row_tup relab_undef relab_bool relab_int relab_str relab_snil relab_snone relab_sclip relab_srow relab_ptr relab_eptr relab_pnil relab_fn relab_fnil relab_agg relab_tup relab_sgrow after_apply viewT scalarR AV.scalar evO_exit evO_seq evO_region evO_cond evO_ret evO_skip evO_block evO_loop roundKO_normal roundKO_exit roundKO_ret seqKO_normal seqKO_exit seqKO_ret blockKO_normal blockKO_exit blockKO_ret regKO_eq finKO evReg storeParts appParts freshParts madeParts inplParts storeK appK madeK inplK base0 getO setO dropO frozen dn finO allScalar_nil allScalar_cons dFor_none storeFine_none dFor_no storeFine_no lessL lkL evCode_exit evCode_seq evCode_plain evCode_draw evCode_cond evCode_ret evCode_skip evCode_block evCode_loop roundK_normal roundK_exit roundK_ret seqK_normal seqK_exit seqK_ret blockK_normal blockK_exit blockK_ret regK_eq evOps_nil evOps_cons params astep okDst isWanted aop opnd ofValue putT abin noPtr acall adopt_bool adopt_int adopt_str adopt_agg adopt_clip partOf setCells fillC AV.isVal List.range List.range.loop mayRead dsts planRo capIds viewed bare_undef bare_bool bare_int bare_str bare_snil bare_snone bare_sclip bare_srow bare_ptr bare_eptr bare_pnil bare_fn bare_fnil bare_agg bare_tup passed setBoxes killNames addNames freshAll adopt resParts resBack boxName finK freezeT avAll resOf outBoxes AV.untup

def keepRe5 : Keep := ⟨[(0, none), (6, none)], [], by decide, by decide⟩
def keepRe18 : Keep := ⟨[(0, none), (6, none), (8, none)], [], by decide, by decide⟩
def keepRe21 : Keep := ⟨[(0, none), (6, none), (8, none), (11, none)], [], by decide, by decide⟩
def keepRe26 : Keep := ⟨[(0, none), (5, none), (12, none), (13, none)], [], by decide, by decide⟩
def lvRe : Nat → Keep := fun id => if id = 5 then keepRe5 else if id = 18 then keepRe18 else if id = 21 then keepRe21 else if id = 26 then keepRe26 else noKeep
def kindRe : Nat → RK := fun id => if id = 3 then .born 5 1 else if id = 18 then .view else if id = 19 then .app 5 90 else if id = 20 then .view else if id = 23 then .store 5 105 else if id = 24 then .give else .plain
noncomputable def envRe : EnvO := ⟨⟨evc plan, planRo, lvRe, 142⟩, kindRe, [5], noFresh, noTurn⟩
theorem re_ok : codeOkO envRe (Tryz.f26.body.getD .skip) = true := by kernel_rfl
theorem behind_is {a b : Tk} (ha : textErrP a = 0) (hb : textErrP b = 0) : behindP a b = if decide (b.line < a.line) || (b.line == a.line && decide (b.col < a.col + a.text.length)) then 13 else if (b.line == a.line && b.col == a.col + a.text.length) && rApart a b then 14 else 0 := by
  unfold behindP
  rw [apart_same a b ha hb]
  cases (decide (b.line < a.line) || (b.line == a.line && decide (b.col < a.col + a.text.length)))
  · cases ((b.line == a.line && b.col == a.col + a.text.length) && rApart a b) <;> simp [firstOf]
  · simp [firstOf]
set_option maxHeartbeats 8000000 in
theorem rprinted_ev (l : List Tk) (tk : Tok) (ht : Fx tk) (hl : l.length ≤ 1300) (hx : ∀ t ∈ l, t.text.length ≤ 140) (c : Code) (hc : Tryz.f26.body = some c) :
    evO Tryz.prog envRe c (params [.sl 4 (l.map tkC) tk] 0) { boxes := ofB [], names := namesOf (cellsOfB []) } [] (finKO Tryz.prog (Tryz.f26.results.toList)) = some (prAV (printP l), []) := by
  obtain rfl := Option.some.inj hc.symm
  obtain ⟨V, hV⟩ : ∃ V, V = prAV (printP l) := ⟨_, rfl⟩
  rw [← hV]
  unfold printP at hV
  generalize hG : printGo l none 0 [] = G at hV
  have hGs := fun h0 => printGo_inv l none 0 [] printGo_start h0
  rw [hG] at hGs
  by_cases h0 : 1200 < l.length
  · have h0' : (1200 : Int) < l.length := by omega
    rw [if_pos h0] at hV
    subst hV
    simp [-Int.natCast_add, Ev.frozen, envRe, kindRe, lvRe, keepRe5, keepRe18, keepRe21, keepRe26, h0, h0', prAV]
  · have h0' : ¬ (1200 : Int) < l.length := by omega
    rw [if_neg h0] at hV
    simp (maxSteps := 1000000) [-Int.natCast_add, Ev.frozen, envRe, kindRe, lvRe, keepRe5, keepRe18, keepRe21, keepRe26, h0, h0', bare_fx ht, row_fx ht, relab_fx ht]
    refine loopO_by (fun q : Nat × List Str => l.length - q.1) (fun q t m O => q.1 ≤ l.length ∧ PrInv (prev l q.1) q.2 ∧ printGo (l.drop q.1) (prev l q.1) q.1 q.2 = G ∧ O = [⟨5, 1, strs q.2⟩] ∧ clean (lvRe 5) t m = headS [(0, .sl 4 (l.map tkC) tk), (6, .int .i64 q.1)] []) ?_ (0, []) ?_
    · rintro ⟨i, out⟩ t m O ⟨hi, hI, hgo, rfl, hS⟩ ih
      simp only at hi hI hgo hS ih
      refine roundO_of hS ?_
      by_cases h1 : i < l.length
      · rw [List.drop_eq_getElem_cons h1] at hgo
        have hpn : prev l (i + 1) = some l[i] := List.getElem?_eq_getElem h1
        have hxi := hx l[i] (List.getElem_mem h1)
        rcases hq : l[i] with ⟨kd, tx, lnI, clI⟩
        rw [hq] at hgo hpn hxi
        simp only at hxi
        have hck := tokenErr_ev ⟨kd, tx, lnI, clI⟩ (by simp only; omega)
        rw [← checkToken_same] at hck
        by_cases h2 : checkTokenP ⟨kd, tx, lnI, clI⟩ = 0
        · obtain ⟨r1, r2, r3, r4, r5⟩ := check_range h2
          simp only at r1 r2 r3 r4
          obtain ⟨ln, rfl⟩ : ∃ n : Nat, lnI = n := ⟨lnI.toNat, by omega⟩
          obtain ⟨cl, rfl⟩ : ∃ n : Nat, clI = n := ⟨clI.toNat, by omega⟩
          rw [h2] at hck
          simp only [tkC] at hck
          by_cases h3 : i = 0
          · have hst : stepErr (prev l i) ⟨kd, tx, ln, cl⟩ = 0 := by unfold stepErr; rw [if_pos h2, h3]; rfl
            have hroom := room hI hst
            simp only at hroom
            have hnx : printGo (l.drop (i + 1)) (some ⟨kd, tx, ln, cl⟩) (i + 1) (putTok out ⟨kd, tx, ln, cl⟩) = G := by
              rw [printGo, if_pos hst] at hgo; exact hgo
            have hi0 : ¬ 0 < i := by omega
            have hi0' : ¬ (0 : Int) < i := by omega
            simp (maxSteps := 1000000) [-Int.natCast_add, Ev.frozen, envRe, kindRe, lvRe, keepRe5, keepRe18, keepRe21, keepRe26, h1, hq, tkC, hck, hi0, hi0']
            refine loopO_by (fun cur : List Str => ln + 1 - cur.length) (fun cur t m O => cur.length ≤ ln + 1 ∧ padTo cur (ln + 1) = padTo out (ln + 1) ∧ O = [⟨5, 1, strs cur⟩] ∧ clean (lvRe 18) t m = headS [(0, .sl 4 (l.map tkC) tk), (6, .int .i64 i), (8, .ptr 500008 0)] [(500008, [.int .i64 kd, .str tx, .int .i64 ln, .int .i64 cl])]) ?_ out ?_
            · rintro cur t m O ⟨k1, k2, rfl, hS2⟩ ih2
              refine roundO_of hS2 ?_
              by_cases k3 : cur.length ≤ ln
              · have k4 : (cur.length + 1) * 16 ≤ 70368744177664 := by omega
                have k5 : strs cur ++ [[.str []]] = strs (cur ++ [[]]) := strs_snoc cur []
                simp (maxSteps := 1000000) [-Int.natCast_add, Ev.frozen, envRe, kindRe, lvRe, keepRe5, keepRe18, keepRe21, keepRe26, strs_len, k3, k4]
                refine ih2 (cur ++ [[]]) _ _ _ (by simp; omega) ⟨by simp; omega, ?_, ?_, ?_⟩
                · rw [← k2, padTo_snoc cur (ln + 1) (by omega)]
                · rw [k5]
                · simp [-Int.natCast_add, lvRe, keepRe5, keepRe18, keepRe21, keepRe26, growOf, tkC, bare_fx ht, row_fx ht, relab_fx ht]
              · have k6 : cur.length = ln + 1 := by omega
                have k7 : padTo cur (ln + 1) = cur := by unfold padTo; rw [k6]; simp
                rw [k7] at k2
                have k8 : ln < cur.length := by omega
                have k9 : cur[ln].length ≤ cl := by
                  have e1 := padTo_get out (ln + 1) ln
                  rw [← k2, List.getD_eq_getElem?_getD, List.getElem?_eq_getElem k8] at e1
                  simp only [Option.getD_some] at e1
                  have := hroom.2.2
                  rw [show (ln : Int).toNat = ln from Int.toNat_natCast ln] at this
                  rw [e1]; omega
                have hput : putTok out ⟨kd, tx, ln, cl⟩ = cur.set ln (cur[ln] ++ (List.replicate (cl - cur[ln].length) 32 ++ tx)) := by
                  unfold putTok
                  simp only [Int.toNat_natCast]
                  rw [← k2, List.getD_eq_getElem?_getD, List.getElem?_eq_getElem k8]
                  simp only [Option.getD_some]
                  rw [show ((cl : Int) - (cur[ln].length : Int)).toNat = cl - cur[ln].length by omega]
                have w2 : IntKind.i64.wrap ((i : Int) + 1) = ((i + 1 : Nat) : Int) := wrap_i64 (by omega) (by omega)
                simp (maxSteps := 1000000) [-Int.natCast_add, Ev.frozen, envRe, kindRe, lvRe, keepRe5, keepRe18, keepRe21, keepRe26, strs, k3, k8]
                refine loopO_by (fun n : Nat => cl - n) (fun n t m O => cur[ln].length ≤ n ∧ n ≤ cl ∧ O = [⟨5, 1, strs cur⟩] ∧ clean (lvRe 21) t m = headS [(0, .sl 4 (l.map tkC) tk), (6, .int .i64 i), (8, .ptr 500008 0), (11, .str (cur[ln] ++ List.replicate (n - cur[ln].length) 32))] [(500008, [.int .i64 kd, .str tx, .int .i64 ln, .int .i64 cl])]) ?_ cur[ln].length ?_
                · rintro n t m O ⟨n1, n2, rfl, hS3⟩ ih3
                  refine roundO_of hS3 ?_
                  have n5 : (cur[ln] ++ List.replicate (n - cur[ln].length) 32).length = n := by simp; omega
                  by_cases n3 : n < cl
                  · have n4 : (cur[ln] ++ List.replicate (n - cur[ln].length) 32) ++ [32] = cur[ln] ++ List.replicate (n + 1 - cur[ln].length) 32 := by
                      rw [List.append_assoc, show n + 1 - cur[ln].length = n - cur[ln].length + 1 by omega, List.replicate_succ']
                    generalize cur[ln] ++ List.replicate (n - cur[ln].length) 32 = Z at n4 n5
                    have n6 : n + 1 ≤ 9223372036854775807 := by omega
                    simp (maxSteps := 1000000) [-Int.natCast_add, Ev.frozen, envRe, kindRe, lvRe, keepRe5, keepRe18, keepRe21, keepRe26, n5, n3, n6]
                    refine ih3 (n + 1) _ _ _ (by omega) ⟨by omega, by omega, rfl, ?_⟩
                    rw [← n4]
                    simp [-Int.natCast_add, lvRe, keepRe5, keepRe18, keepRe21, keepRe26, growOf, tkC, bare_fx ht, row_fx ht, relab_fx ht]
                  · have n7 : n = cl := by omega
                    subst n7
                    generalize hZ : cur[ln] ++ List.replicate (n - cur[ln].length) 32 = Z at n5
                    have n8 : n + tx.length ≤ 9223372036854775807 := by omega
                    simp (maxSteps := 1000000) [-Int.natCast_add, Ev.frozen, envRe, kindRe, lvRe, keepRe5, keepRe18, keepRe21, keepRe26, strs, n5, n8, k8, w2]
                    refine ih (i + 1, putTok out ⟨kd, tx, ln, n⟩) _ _ _ (by simp only; omega) ⟨by simp only; omega, ?_, ?_, ?_, ?_⟩
                    · rw [hpn]; exact putTok_inv hI hst
                    · rw [hpn]; exact hnx
                    · rw [hput, ← List.append_assoc, hZ]; simp [strs, List.map_set]
                    · simp [-Int.natCast_add, lvRe, keepRe5, keepRe18, keepRe21, keepRe26, growOf, tkC, bare_fx ht, row_fx ht, relab_fx ht]
                · refine ⟨Nat.le_refl _, k9, by simp [strs], ?_⟩
                  simp [-Int.natCast_add, lvRe, keepRe5, keepRe18, keepRe21, keepRe26, growOf, tkC, bare_fx ht, row_fx ht, relab_fx ht]
            · refine ⟨by have := hroom.2.1; omega, rfl, rfl, ?_⟩
              simp [-Int.natCast_add, lvRe, keepRe5, keepRe18, keepRe21, keepRe26, growOf, tkC, bare_fx ht, row_fx ht, relab_fx ht]
          · have hi1 : i - 1 < l.length := by omega
            have hpi : prev l i = some l[i - 1] := by
              cases i with
              | zero => exact absurd rfl h3
              | succ i => exact List.getElem?_eq_getElem hi1
            rcases hqa : l[i - 1] with ⟨ka, ta, lna, cla⟩
            rw [hqa] at hpi
            have hxa := hx l[i - 1] (List.getElem_mem hi1)
            rw [hqa] at hxa
            simp only at hxa
            obtain ⟨a1, _, _⟩ := hI.some_ _ hpi
            obtain ⟨_, _, a2, a3, a4⟩ := check_range a1
            simp only at a2 a3
            have hb := rapart_ev ⟨ka, ta, lna, cla⟩ ⟨kd, tx, ln, cl⟩ (right_len _ (by rw [bare_same]; exact a4)) (right_len _ (by rw [bare_same]; exact r5)) (by simp only; omega) (by simp only; omega)
            have w0 : IntKind.i64.wrap ((i : Int) - 1) = ((i - 1 : Nat) : Int) := by rw [wrap_i64 (by omega) (by omega)]; omega
            have w5 : IntKind.i64.wrap (cla + (ta.length : Int)) = cla + ta.length := wrap_i64 (by omega) (by omega)
            have hi0 : 0 < i := by omega
            have hi0' : (0 : Int) < i := by omega
            simp only [tkC] at hb
            have hse : stepErr (prev l i) ⟨kd, tx, ln, cl⟩ = behindP ⟨ka, ta, lna, cla⟩ ⟨kd, tx, ln, cl⟩ := by unfold stepErr; rw [if_pos h2, hpi]
            rw [behind_is a4 r5] at hse
            simp only at hse
            generalize rApart ⟨ka, ta, lna, cla⟩ ⟨kd, tx, ln, cl⟩ = ra at hb hse
            cases hA : decide ((ln : Int) < lna)
            · cases hB : ((ln : Int) == lna)
              · have hst : stepErr (prev l i) ⟨kd, tx, ln, cl⟩ = 0 := by rw [hse]; simp [hA, hB]
                have hroom := room hI hst
                simp only at hroom
                have hnx : printGo (l.drop (i + 1)) (some ⟨kd, tx, ln, cl⟩) (i + 1) (putTok out ⟨kd, tx, ln, cl⟩) = G := by
                  rw [printGo, if_pos hst] at hgo; exact hgo
                simp (maxSteps := 1000000) [-Int.natCast_add, Ev.frozen, envRe, kindRe, lvRe, keepRe5, keepRe18, keepRe21, keepRe26, h1, hq, tkC, hck, hi0, hi0', w0, w5, hi1, hqa, hb, hA, hB]
                refine loopO_by (fun cur : List Str => ln + 1 - cur.length) (fun cur t m O => cur.length ≤ ln + 1 ∧ padTo cur (ln + 1) = padTo out (ln + 1) ∧ O = [⟨5, 1, strs cur⟩] ∧ clean (lvRe 18) t m = headS [(0, .sl 4 (l.map tkC) tk), (6, .int .i64 i), (8, .ptr 500008 0)] [(500008, [.int .i64 kd, .str tx, .int .i64 ln, .int .i64 cl])]) ?_ out ?_
                · rintro cur t m O ⟨k1, k2, rfl, hS2⟩ ih2
                  refine roundO_of hS2 ?_
                  by_cases k3 : cur.length ≤ ln
                  · have k4 : (cur.length + 1) * 16 ≤ 70368744177664 := by omega
                    have k5 : strs cur ++ [[.str []]] = strs (cur ++ [[]]) := strs_snoc cur []
                    simp (maxSteps := 1000000) [-Int.natCast_add, Ev.frozen, envRe, kindRe, lvRe, keepRe5, keepRe18, keepRe21, keepRe26, strs_len, k3, k4]
                    refine ih2 (cur ++ [[]]) _ _ _ (by simp; omega) ⟨by simp; omega, ?_, ?_, ?_⟩
                    · rw [← k2, padTo_snoc cur (ln + 1) (by omega)]
                    · rw [k5]
                    · simp [-Int.natCast_add, lvRe, keepRe5, keepRe18, keepRe21, keepRe26, growOf, tkC, bare_fx ht, row_fx ht, relab_fx ht]
                  · have k6 : cur.length = ln + 1 := by omega
                    have k7 : padTo cur (ln + 1) = cur := by unfold padTo; rw [k6]; simp
                    rw [k7] at k2
                    have k8 : ln < cur.length := by omega
                    have k9 : cur[ln].length ≤ cl := by
                      have e1 := padTo_get out (ln + 1) ln
                      rw [← k2, List.getD_eq_getElem?_getD, List.getElem?_eq_getElem k8] at e1
                      simp only [Option.getD_some] at e1
                      have := hroom.2.2
                      rw [show (ln : Int).toNat = ln from Int.toNat_natCast ln] at this
                      rw [e1]; omega
                    have hput : putTok out ⟨kd, tx, ln, cl⟩ = cur.set ln (cur[ln] ++ (List.replicate (cl - cur[ln].length) 32 ++ tx)) := by
                      unfold putTok
                      simp only [Int.toNat_natCast]
                      rw [← k2, List.getD_eq_getElem?_getD, List.getElem?_eq_getElem k8]
                      simp only [Option.getD_some]
                      rw [show ((cl : Int) - (cur[ln].length : Int)).toNat = cl - cur[ln].length by omega]
                    have w2 : IntKind.i64.wrap ((i : Int) + 1) = ((i + 1 : Nat) : Int) := wrap_i64 (by omega) (by omega)
                    simp (maxSteps := 1000000) [-Int.natCast_add, Ev.frozen, envRe, kindRe, lvRe, keepRe5, keepRe18, keepRe21, keepRe26, strs, k3, k8]
                    refine loopO_by (fun n : Nat => cl - n) (fun n t m O => cur[ln].length ≤ n ∧ n ≤ cl ∧ O = [⟨5, 1, strs cur⟩] ∧ clean (lvRe 21) t m = headS [(0, .sl 4 (l.map tkC) tk), (6, .int .i64 i), (8, .ptr 500008 0), (11, .str (cur[ln] ++ List.replicate (n - cur[ln].length) 32))] [(500008, [.int .i64 kd, .str tx, .int .i64 ln, .int .i64 cl])]) ?_ cur[ln].length ?_
                    · rintro n t m O ⟨n1, n2, rfl, hS3⟩ ih3
                      refine roundO_of hS3 ?_
                      have n5 : (cur[ln] ++ List.replicate (n - cur[ln].length) 32).length = n := by simp; omega
                      by_cases n3 : n < cl
                      · have n4 : (cur[ln] ++ List.replicate (n - cur[ln].length) 32) ++ [32] = cur[ln] ++ List.replicate (n + 1 - cur[ln].length) 32 := by
                          rw [List.append_assoc, show n + 1 - cur[ln].length = n - cur[ln].length + 1 by omega, List.replicate_succ']
                        generalize cur[ln] ++ List.replicate (n - cur[ln].length) 32 = Z at n4 n5
                        have n6 : n + 1 ≤ 9223372036854775807 := by omega
                        simp (maxSteps := 1000000) [-Int.natCast_add, Ev.frozen, envRe, kindRe, lvRe, keepRe5, keepRe18, keepRe21, keepRe26, n5, n3, n6]
                        refine ih3 (n + 1) _ _ _ (by omega) ⟨by omega, by omega, rfl, ?_⟩
                        rw [← n4]
                        simp [-Int.natCast_add, lvRe, keepRe5, keepRe18, keepRe21, keepRe26, growOf, tkC, bare_fx ht, row_fx ht, relab_fx ht]
                      · have n7 : n = cl := by omega
                        subst n7
                        generalize hZ : cur[ln] ++ List.replicate (n - cur[ln].length) 32 = Z at n5
                        have n8 : n + tx.length ≤ 9223372036854775807 := by omega
                        simp (maxSteps := 1000000) [-Int.natCast_add, Ev.frozen, envRe, kindRe, lvRe, keepRe5, keepRe18, keepRe21, keepRe26, strs, n5, n8, k8, w2]
                        refine ih (i + 1, putTok out ⟨kd, tx, ln, n⟩) _ _ _ (by simp only; omega) ⟨by simp only; omega, ?_, ?_, ?_, ?_⟩
                        · rw [hpn]; exact putTok_inv hI hst
                        · rw [hpn]; exact hnx
                        · rw [hput, ← List.append_assoc, hZ]; simp [strs, List.map_set]
                        · simp [-Int.natCast_add, lvRe, keepRe5, keepRe18, keepRe21, keepRe26, growOf, tkC, bare_fx ht, row_fx ht, relab_fx ht]
                    · refine ⟨Nat.le_refl _, k9, by simp [strs], ?_⟩
                      simp [-Int.natCast_add, lvRe, keepRe5, keepRe18, keepRe21, keepRe26, growOf, tkC, bare_fx ht, row_fx ht, relab_fx ht]
                · refine ⟨by have := hroom.2.1; omega, rfl, rfl, ?_⟩
                  simp [-Int.natCast_add, lvRe, keepRe5, keepRe18, keepRe21, keepRe26, growOf, tkC, bare_fx ht, row_fx ht, relab_fx ht]
              · cases hC : decide ((cl : Int) < cla + ta.length)
                · cases hE : ((cl : Int) == cla + ta.length)
                  · have hst : stepErr (prev l i) ⟨kd, tx, ln, cl⟩ = 0 := by rw [hse]; simp [hA, hB, hC, hE]
                    have hroom := room hI hst
                    simp only at hroom
                    have hnx : printGo (l.drop (i + 1)) (some ⟨kd, tx, ln, cl⟩) (i + 1) (putTok out ⟨kd, tx, ln, cl⟩) = G := by
                      rw [printGo, if_pos hst] at hgo; exact hgo
                    simp (maxSteps := 1000000) [-Int.natCast_add, Ev.frozen, envRe, kindRe, lvRe, keepRe5, keepRe18, keepRe21, keepRe26, h1, hq, tkC, hck, hi0, hi0', w0, w5, hi1, hqa, hb, hA, hB, hC, hE]
                    refine loopO_by (fun cur : List Str => ln + 1 - cur.length) (fun cur t m O => cur.length ≤ ln + 1 ∧ padTo cur (ln + 1) = padTo out (ln + 1) ∧ O = [⟨5, 1, strs cur⟩] ∧ clean (lvRe 18) t m = headS [(0, .sl 4 (l.map tkC) tk), (6, .int .i64 i), (8, .ptr 500008 0)] [(500008, [.int .i64 kd, .str tx, .int .i64 ln, .int .i64 cl])]) ?_ out ?_
                    · rintro cur t m O ⟨k1, k2, rfl, hS2⟩ ih2
                      refine roundO_of hS2 ?_
                      by_cases k3 : cur.length ≤ ln
                      · have k4 : (cur.length + 1) * 16 ≤ 70368744177664 := by omega
                        have k5 : strs cur ++ [[.str []]] = strs (cur ++ [[]]) := strs_snoc cur []
                        simp (maxSteps := 1000000) [-Int.natCast_add, Ev.frozen, envRe, kindRe, lvRe, keepRe5, keepRe18, keepRe21, keepRe26, strs_len, k3, k4]
                        refine ih2 (cur ++ [[]]) _ _ _ (by simp; omega) ⟨by simp; omega, ?_, ?_, ?_⟩
                        · rw [← k2, padTo_snoc cur (ln + 1) (by omega)]
                        · rw [k5]
                        · simp [-Int.natCast_add, lvRe, keepRe5, keepRe18, keepRe21, keepRe26, growOf, tkC, bare_fx ht, row_fx ht, relab_fx ht]
                      · have k6 : cur.length = ln + 1 := by omega
                        have k7 : padTo cur (ln + 1) = cur := by unfold padTo; rw [k6]; simp
                        rw [k7] at k2
                        have k8 : ln < cur.length := by omega
                        have k9 : cur[ln].length ≤ cl := by
                          have e1 := padTo_get out (ln + 1) ln
                          rw [← k2, List.getD_eq_getElem?_getD, List.getElem?_eq_getElem k8] at e1
                          simp only [Option.getD_some] at e1
                          have := hroom.2.2
                          rw [show (ln : Int).toNat = ln from Int.toNat_natCast ln] at this
                          rw [e1]; omega
                        have hput : putTok out ⟨kd, tx, ln, cl⟩ = cur.set ln (cur[ln] ++ (List.replicate (cl - cur[ln].length) 32 ++ tx)) := by
                          unfold putTok
                          simp only [Int.toNat_natCast]
                          rw [← k2, List.getD_eq_getElem?_getD, List.getElem?_eq_getElem k8]
                          simp only [Option.getD_some]
                          rw [show ((cl : Int) - (cur[ln].length : Int)).toNat = cl - cur[ln].length by omega]
                        have w2 : IntKind.i64.wrap ((i : Int) + 1) = ((i + 1 : Nat) : Int) := wrap_i64 (by omega) (by omega)
                        simp (maxSteps := 1000000) [-Int.natCast_add, Ev.frozen, envRe, kindRe, lvRe, keepRe5, keepRe18, keepRe21, keepRe26, strs, k3, k8]
                        refine loopO_by (fun n : Nat => cl - n) (fun n t m O => cur[ln].length ≤ n ∧ n ≤ cl ∧ O = [⟨5, 1, strs cur⟩] ∧ clean (lvRe 21) t m = headS [(0, .sl 4 (l.map tkC) tk), (6, .int .i64 i), (8, .ptr 500008 0), (11, .str (cur[ln] ++ List.replicate (n - cur[ln].length) 32))] [(500008, [.int .i64 kd, .str tx, .int .i64 ln, .int .i64 cl])]) ?_ cur[ln].length ?_
                        · rintro n t m O ⟨n1, n2, rfl, hS3⟩ ih3
                          refine roundO_of hS3 ?_
                          have n5 : (cur[ln] ++ List.replicate (n - cur[ln].length) 32).length = n := by simp; omega
                          by_cases n3 : n < cl
                          · have n4 : (cur[ln] ++ List.replicate (n - cur[ln].length) 32) ++ [32] = cur[ln] ++ List.replicate (n + 1 - cur[ln].length) 32 := by
                              rw [List.append_assoc, show n + 1 - cur[ln].length = n - cur[ln].length + 1 by omega, List.replicate_succ']
                            generalize cur[ln] ++ List.replicate (n - cur[ln].length) 32 = Z at n4 n5
                            have n6 : n + 1 ≤ 9223372036854775807 := by omega
                            simp (maxSteps := 1000000) [-Int.natCast_add, Ev.frozen, envRe, kindRe, lvRe, keepRe5, keepRe18, keepRe21, keepRe26, n5, n3, n6]
                            refine ih3 (n + 1) _ _ _ (by omega) ⟨by omega, by omega, rfl, ?_⟩
                            rw [← n4]
                            simp [-Int.natCast_add, lvRe, keepRe5, keepRe18, keepRe21, keepRe26, growOf, tkC, bare_fx ht, row_fx ht, relab_fx ht]
                          · have n7 : n = cl := by omega
                            subst n7
                            generalize hZ : cur[ln] ++ List.replicate (n - cur[ln].length) 32 = Z at n5
                            have n8 : n + tx.length ≤ 9223372036854775807 := by omega
                            simp (maxSteps := 1000000) [-Int.natCast_add, Ev.frozen, envRe, kindRe, lvRe, keepRe5, keepRe18, keepRe21, keepRe26, strs, n5, n8, k8, w2]
                            refine ih (i + 1, putTok out ⟨kd, tx, ln, n⟩) _ _ _ (by simp only; omega) ⟨by simp only; omega, ?_, ?_, ?_, ?_⟩
                            · rw [hpn]; exact putTok_inv hI hst
                            · rw [hpn]; exact hnx
                            · rw [hput, ← List.append_assoc, hZ]; simp [strs, List.map_set]
                            · simp [-Int.natCast_add, lvRe, keepRe5, keepRe18, keepRe21, keepRe26, growOf, tkC, bare_fx ht, row_fx ht, relab_fx ht]
                        · refine ⟨Nat.le_refl _, k9, by simp [strs], ?_⟩
                          simp [-Int.natCast_add, lvRe, keepRe5, keepRe18, keepRe21, keepRe26, growOf, tkC, bare_fx ht, row_fx ht, relab_fx ht]
                    · refine ⟨by have := hroom.2.1; omega, rfl, rfl, ?_⟩
                      simp [-Int.natCast_add, lvRe, keepRe5, keepRe18, keepRe21, keepRe26, growOf, tkC, bare_fx ht, row_fx ht, relab_fx ht]
                  · cases ra
                    · have hst : stepErr (prev l i) ⟨kd, tx, ln, cl⟩ = 0 := by rw [hse]; simp [hA, hB, hC, hE]
                      have hroom := room hI hst
                      simp only at hroom
                      have hnx : printGo (l.drop (i + 1)) (some ⟨kd, tx, ln, cl⟩) (i + 1) (putTok out ⟨kd, tx, ln, cl⟩) = G := by
                        rw [printGo, if_pos hst] at hgo; exact hgo
                      simp (maxSteps := 1000000) [-Int.natCast_add, Ev.frozen, envRe, kindRe, lvRe, keepRe5, keepRe18, keepRe21, keepRe26, h1, hq, tkC, hck, hi0, hi0', w0, w5, hi1, hqa, hb, hA, hB, hC, hE]
                      refine loopO_by (fun cur : List Str => ln + 1 - cur.length) (fun cur t m O => cur.length ≤ ln + 1 ∧ padTo cur (ln + 1) = padTo out (ln + 1) ∧ O = [⟨5, 1, strs cur⟩] ∧ clean (lvRe 18) t m = headS [(0, .sl 4 (l.map tkC) tk), (6, .int .i64 i), (8, .ptr 500008 0)] [(500008, [.int .i64 kd, .str tx, .int .i64 ln, .int .i64 cl])]) ?_ out ?_
                      · rintro cur t m O ⟨k1, k2, rfl, hS2⟩ ih2
                        refine roundO_of hS2 ?_
                        by_cases k3 : cur.length ≤ ln
                        · have k4 : (cur.length + 1) * 16 ≤ 70368744177664 := by omega
                          have k5 : strs cur ++ [[.str []]] = strs (cur ++ [[]]) := strs_snoc cur []
                          simp (maxSteps := 1000000) [-Int.natCast_add, Ev.frozen, envRe, kindRe, lvRe, keepRe5, keepRe18, keepRe21, keepRe26, strs_len, k3, k4]
                          refine ih2 (cur ++ [[]]) _ _ _ (by simp; omega) ⟨by simp; omega, ?_, ?_, ?_⟩
                          · rw [← k2, padTo_snoc cur (ln + 1) (by omega)]
                          · rw [k5]
                          · simp [-Int.natCast_add, lvRe, keepRe5, keepRe18, keepRe21, keepRe26, growOf, tkC, bare_fx ht, row_fx ht, relab_fx ht]
                        · have k6 : cur.length = ln + 1 := by omega
                          have k7 : padTo cur (ln + 1) = cur := by unfold padTo; rw [k6]; simp
                          rw [k7] at k2
                          have k8 : ln < cur.length := by omega
                          have k9 : cur[ln].length ≤ cl := by
                            have e1 := padTo_get out (ln + 1) ln
                            rw [← k2, List.getD_eq_getElem?_getD, List.getElem?_eq_getElem k8] at e1
                            simp only [Option.getD_some] at e1
                            have := hroom.2.2
                            rw [show (ln : Int).toNat = ln from Int.toNat_natCast ln] at this
                            rw [e1]; omega
                          have hput : putTok out ⟨kd, tx, ln, cl⟩ = cur.set ln (cur[ln] ++ (List.replicate (cl - cur[ln].length) 32 ++ tx)) := by
                            unfold putTok
                            simp only [Int.toNat_natCast]
                            rw [← k2, List.getD_eq_getElem?_getD, List.getElem?_eq_getElem k8]
                            simp only [Option.getD_some]
                            rw [show ((cl : Int) - (cur[ln].length : Int)).toNat = cl - cur[ln].length by omega]
                          have w2 : IntKind.i64.wrap ((i : Int) + 1) = ((i + 1 : Nat) : Int) := wrap_i64 (by omega) (by omega)
                          simp (maxSteps := 1000000) [-Int.natCast_add, Ev.frozen, envRe, kindRe, lvRe, keepRe5, keepRe18, keepRe21, keepRe26, strs, k3, k8]
                          refine loopO_by (fun n : Nat => cl - n) (fun n t m O => cur[ln].length ≤ n ∧ n ≤ cl ∧ O = [⟨5, 1, strs cur⟩] ∧ clean (lvRe 21) t m = headS [(0, .sl 4 (l.map tkC) tk), (6, .int .i64 i), (8, .ptr 500008 0), (11, .str (cur[ln] ++ List.replicate (n - cur[ln].length) 32))] [(500008, [.int .i64 kd, .str tx, .int .i64 ln, .int .i64 cl])]) ?_ cur[ln].length ?_
                          · rintro n t m O ⟨n1, n2, rfl, hS3⟩ ih3
                            refine roundO_of hS3 ?_
                            have n5 : (cur[ln] ++ List.replicate (n - cur[ln].length) 32).length = n := by simp; omega
                            by_cases n3 : n < cl
                            · have n4 : (cur[ln] ++ List.replicate (n - cur[ln].length) 32) ++ [32] = cur[ln] ++ List.replicate (n + 1 - cur[ln].length) 32 := by
                                rw [List.append_assoc, show n + 1 - cur[ln].length = n - cur[ln].length + 1 by omega, List.replicate_succ']
                              generalize cur[ln] ++ List.replicate (n - cur[ln].length) 32 = Z at n4 n5
                              have n6 : n + 1 ≤ 9223372036854775807 := by omega
                              simp (maxSteps := 1000000) [-Int.natCast_add, Ev.frozen, envRe, kindRe, lvRe, keepRe5, keepRe18, keepRe21, keepRe26, n5, n3, n6]
                              refine ih3 (n + 1) _ _ _ (by omega) ⟨by omega, by omega, rfl, ?_⟩
                              rw [← n4]
                              simp [-Int.natCast_add, lvRe, keepRe5, keepRe18, keepRe21, keepRe26, growOf, tkC, bare_fx ht, row_fx ht, relab_fx ht]
                            · have n7 : n = cl := by omega
                              subst n7
                              generalize hZ : cur[ln] ++ List.replicate (n - cur[ln].length) 32 = Z at n5
                              have n8 : n + tx.length ≤ 9223372036854775807 := by omega
                              simp (maxSteps := 1000000) [-Int.natCast_add, Ev.frozen, envRe, kindRe, lvRe, keepRe5, keepRe18, keepRe21, keepRe26, strs, n5, n8, k8, w2]
                              refine ih (i + 1, putTok out ⟨kd, tx, ln, n⟩) _ _ _ (by simp only; omega) ⟨by simp only; omega, ?_, ?_, ?_, ?_⟩
                              · rw [hpn]; exact putTok_inv hI hst
                              · rw [hpn]; exact hnx
                              · rw [hput, ← List.append_assoc, hZ]; simp [strs, List.map_set]
                              · simp [-Int.natCast_add, lvRe, keepRe5, keepRe18, keepRe21, keepRe26, growOf, tkC, bare_fx ht, row_fx ht, relab_fx ht]
                          · refine ⟨Nat.le_refl _, k9, by simp [strs], ?_⟩
                            simp [-Int.natCast_add, lvRe, keepRe5, keepRe18, keepRe21, keepRe26, growOf, tkC, bare_fx ht, row_fx ht, relab_fx ht]
                      · refine ⟨by have := hroom.2.1; omega, rfl, rfl, ?_⟩
                        simp [-Int.natCast_add, lvRe, keepRe5, keepRe18, keepRe21, keepRe26, growOf, tkC, bare_fx ht, row_fx ht, relab_fx ht]
                    · have hs2 : stepErr (prev l i) ⟨kd, tx, ln, cl⟩ = 14 := by rw [hse]; simp [hA, hB, hC, hE]
                      rw [printGo, if_neg (by rw [hs2]; decide), hs2] at hgo
                      subst hgo
                      simp only at hV
                      rw [if_neg (by decide)] at hV
                      simp (maxSteps := 1000000) [-Int.natCast_add, Ev.frozen, envRe, kindRe, lvRe, keepRe5, keepRe18, keepRe21, keepRe26, h1, hq, tkC, hck, hi0, hi0', w0, w5, hi1, hqa, hb, hA, hB, hC, hE]
                      rw [hV]; simp [prAV]
                · have hs2 : stepErr (prev l i) ⟨kd, tx, ln, cl⟩ = 13 := by rw [hse]; simp [hA, hB, hC]
                  rw [printGo, if_neg (by rw [hs2]; decide), hs2] at hgo
                  subst hgo
                  simp only at hV
                  rw [if_neg (by decide)] at hV
                  simp (maxSteps := 1000000) [-Int.natCast_add, Ev.frozen, envRe, kindRe, lvRe, keepRe5, keepRe18, keepRe21, keepRe26, h1, hq, tkC, hck, hi0, hi0', w0, w5, hi1, hqa, hb, hA, hB, hC]
                  rw [hV]; simp [prAV]
            · have hs2 : stepErr (prev l i) ⟨kd, tx, ln, cl⟩ = 13 := by rw [hse]; simp [hA]
              rw [printGo, if_neg (by rw [hs2]; decide), hs2] at hgo
              subst hgo
              simp only at hV
              rw [if_neg (by decide)] at hV
              simp (maxSteps := 1000000) [-Int.natCast_add, Ev.frozen, envRe, kindRe, lvRe, keepRe5, keepRe18, keepRe21, keepRe26, h1, hq, tkC, hck, hi0, hi0', w0, w5, hi1, hqa, hb, hA]
              rw [hV]; simp [prAV]
        · have hst : ¬ stepErr (prev l i) ⟨kd, tx, lnI, clI⟩ = 0 := by unfold stepErr; rw [if_neg h2]; exact h2
          have hse : stepErr (prev l i) ⟨kd, tx, lnI, clI⟩ = checkTokenP ⟨kd, tx, lnI, clI⟩ := by unfold stepErr; rw [if_neg h2]
          rw [printGo, if_neg hst, hse] at hgo
          subst hgo
          simp only at hV
          rw [if_neg h2] at hV
          generalize checkTokenP ⟨kd, tx, lnI, clI⟩ = e at h2 hck hV
          have h2' : (e == 0) = false := by simpa using h2
          have h2'' : (e != 0) = true := by simpa using h2
          simp only [tkC] at hck
          simp (maxSteps := 1000000) [-Int.natCast_add, Ev.frozen, envRe, kindRe, lvRe, keepRe5, keepRe18, keepRe21, keepRe26, h1, hq, tkC, hck, h2, h2', h2'']
          rw [hV]; simp [prAV, h2]
      · have hie : i = l.length := by omega
        subst hie
        rw [List.drop_length] at hgo
        have hgo : (⟨out, l.length, 0⟩ : Pr) = G := hgo
        subst hgo
        simp only [if_true] at hV hGs
        obtain ⟨z1, z2⟩ := hGs trivial
        have hah := ahead_ev out .none fx_none (by omega) (fun x hx => by have := z1 x hx; omega) (by have := total_le out 120 z1; omega)
        rw [← all_same] at hah
        unfold textAV at hah
        generalize hT : (readAll out).2.ts = T at hV hah
        generalize (readAll out).2.cs = CS at hah
        generalize (if (readAll out).1 = 0 then (0 : Int) else ((readAll out).2.i : Int)) = u1 at hah
        generalize (if (readAll out).1 = 0 then (0 : Int) else ((readAll out).2.j : Int)) = u2 at hah
        generalize (readAll out).1 = u3 at hah
        simp (maxSteps := 1000000) [-Int.natCast_add, Ev.frozen, envRe, kindRe, lvRe, keepRe5, keepRe18, keepRe21, keepRe26, hah]
        refine loopO_by (fun i => l.length - i) (fun (i : Nat) t m O => i ≤ l.length ∧ i ≤ T.length ∧ sameLen T l = i + sameLen (T.drop i) (l.drop i) ∧ O = [] ∧ clean (lvRe 26) t m = headS [(0, .sl 4 (l.map tkC) tk), (5, .sl 1 (strs out) .none), (12, .ptr 500012 0), (13, .int .i64 i)] [(500012, [.sl 4 (T.map tkC) .none, .sl 4 (CS.map spC) .none, .int .i64 u1, .int .i64 u2, .int .i64 u3])]) ?_ 0 ?_
        · rintro i t m O ⟨hi, hiT, hr, rfl, hS⟩ ih3
          refine roundO_of hS ?_
          by_cases g1 : i < l.length
          · by_cases g2 : i < T.length
            · have g3 : ¬ T.length ≤ i := by omega
              have hd := sameLen_drop T l i g2 g1
              have w1 : IntKind.i64.wrap ((i : Int) + 1) = ((i + 1 : Nat) : Int) := wrap_i64 (by omega) (by omega)
              have hac := acmp_token T[i] l[i]
              simp only [tkC] at hac
              cases g4 : sameTk T[i] l[i]
              · rw [g4] at hac hd
                simp (maxSteps := 1000000) [-Int.natCast_add, Ev.frozen, envRe, kindRe, lvRe, keepRe5, keepRe18, keepRe21, keepRe26, g1, g2, g3, tkC, acmpOp, hac]
                have hz : sameLen T l = i := by rw [hr, hd]; simp
                rw [hz, if_pos g1] at hV
                rw [hV]; simp [prAV]
              · rw [g4] at hac hd
                simp (maxSteps := 1000000) [-Int.natCast_add, Ev.frozen, envRe, kindRe, lvRe, keepRe5, keepRe18, keepRe21, keepRe26, g1, g2, g3, tkC, acmpOp, hac, w1]
                refine ih3 (i + 1) _ _ _ (by omega) ⟨by omega, by omega, by rw [hr, hd]; simp; omega, rfl, ?_⟩
                simp [-Int.natCast_add, lvRe, keepRe5, keepRe18, keepRe21, keepRe26, growOf, tkC, bare_fx ht, row_fx ht, relab_fx ht]
                try rfl
            · have g3 : T.length ≤ i := by omega
              have g4 : i = T.length := by omega
              simp (maxSteps := 1000000) [-Int.natCast_add, Ev.frozen, envRe, kindRe, lvRe, keepRe5, keepRe18, keepRe21, keepRe26, g1, g3, tkC]
              have hz : sameLen T l = i := by rw [hr, g4, List.drop_length]; simp [sameLen_nil]
              rw [hz, if_pos g1] at hV
              rw [hV]; simp [prAV]
          · have g3 : i = l.length := by omega
            subst g3
            have hz : sameLen T l = l.length := by rw [hr, List.drop_length]; simp [sameLen]
            rw [hz, if_neg (by omega)] at hV
            simp (maxSteps := 1000000) [-Int.natCast_add, Ev.frozen, envRe, kindRe, lvRe, keepRe5, keepRe18, keepRe21, keepRe26, strs_len, bare_fx ht, row_fx ht, relab_fx ht]
            rw [hV]; simp [prAV]
        · refine ⟨Nat.zero_le _, Nat.zero_le _, by simp, rfl, ?_⟩
          simp [-Int.natCast_add, lvRe, keepRe5, keepRe18, keepRe21, keepRe26, growOf, tkC, bare_fx ht, row_fx ht, relab_fx ht]
    · refine ⟨Nat.zero_le _, printGo_start, hG, rfl, ?_⟩
      simp [-Int.natCast_add, lvRe, keepRe5, keepRe18, keepRe21, keepRe26, growOf, tkC, bare_fx ht, row_fx ht, relab_fx ht]
end Go.Proofs.YtlmmgblghgmgeaaGreatDoor
