/- The texts PrinD, merged. -/
import Derived.Test.YtlmmgblghgmgeaaGreatDoorNal
set_option linter.unusedVariables false
set_option linter.unusedSimpArgs false
/- PrintedAt: evaluated. -/
namespace Go.Proofs.YtlmmgblghgmgeaaGreatDoor
open Go Ev
set_option maxRecDepth 100000
set_option linter.unusedSimpArgs false
attribute [local simp] clean keepBoxes relabB relabL cleanS fixPtr headS ofL ofB cellsOfB namesOf upd_false AV.cells row_undef row_bool row_int row_str row_snil row_snone row_sclip row_srow row_ptr row_eptr row_pnil row_fn row_fnil row_agg row_tup relab_undef relab_bool relab_int relab_str relab_snil relab_snone relab_sclip relab_srow relab_ptr relab_eptr relab_pnil relab_fn relab_fnil relab_agg relab_tup relab_sgrow after_apply viewT scalarR AV.scalar evO_exit evO_seq evO_region evO_cond evO_ret evO_skip evO_block evO_loop roundKO_normal roundKO_exit roundKO_ret seqKO_normal seqKO_exit seqKO_ret blockKO_normal blockKO_exit blockKO_ret regKO_eq finKO evReg storeParts appParts freshParts madeParts inplParts storeK appK madeK inplK base0 getO setO dropO frozen dn finO allScalar_nil allScalar_cons dFor_none storeFine_none dFor_no storeFine_no lessL lkL evCode_exit evCode_seq evCode_plain evCode_draw evCode_cond evCode_ret evCode_skip evCode_block evCode_loop roundK_normal roundK_exit roundK_ret seqK_normal seqK_exit seqK_ret blockK_normal blockK_exit blockK_ret regK_eq evOps_nil evOps_cons params astep okDst isWanted aop opnd ofValue putT abin noPtr acall adopt_bool adopt_int adopt_str adopt_agg adopt_clip partOf setCells fillC AV.isVal List.range List.range.loop mayRead dsts planRo capIds viewed bare_undef bare_bool bare_int bare_str bare_snil bare_snone bare_sclip bare_srow bare_ptr bare_eptr bare_pnil bare_fn bare_fnil bare_agg bare_tup passed setBoxes killNames addNames freshAll adopt resParts resBack boxName finK freezeT avAll resOf outBoxes AV.untup

theorem strs_snoc2 (l : List Str) (x : Str) : strs l ++ [[.str x]] = strs (l ++ [x]) := by simp [strs]
theorem padTo_snoc (cur : List Str) (n : Nat) (h : cur.length < n) : padTo (cur ++ [[]]) n = padTo cur n := by
  unfold padTo
  obtain ⟨k, hk⟩ : ∃ k, n - cur.length = k + 1 := ⟨n - cur.length - 1, by omega⟩
  rw [List.length_append, hk, show n - (cur.length + [([] : Str)].length) = k by simp; omega, List.replicate_succ, List.append_assoc]; rfl
def keepPr5 : Keep := ⟨[(0, none), (13, none), (14, none), (15, none)], [], by decide, by decide⟩
def keepPr12 : Keep := ⟨[(0, none), (7, none), (13, none), (14, none), (15, none)], [], by decide, by decide⟩
def lvPr : Nat → Keep := fun id => if id = 5 then keepPr5 else if id = 12 then keepPr12 else noKeep
def kindPr : Nat → RK := fun id => if id = 3 then .born 5 1 else if id = 12 then .view else if id = 13 then .app 5 44 else if id = 14 then .store 5 47 else if id = 16 then .give else .plain
noncomputable def oraclePr (l : List Tk) (tk : Tok) : Oracle := if (printGo l none 0 []).err = 0 then overO (evc plan) 48 [.sl 1 (strs (printGo l none 0 []).out) .none, .sl 4 (l.map tkC) tk] (.int .i64 (sameLen (readAll (printGo l none 0 []).out).2.ts l)) else evc plan
noncomputable def envPr (l : List Tk) (tk : Tok) : EnvO := ⟨⟨oraclePr l tk, planRo, lvPr, 79⟩, kindPr, [5], noFresh, noTurn⟩
theorem pr_ok (l : List Tk) (tk : Tok) : codeOkO (envPr l tk) (Tryz.f24.body.getD .skip) = true := by kernel_rfl
/-- What the call comes to. -/
def prAV (p : Pr) : AV := .tup [if p.err = 0 then .sl 1 (strs p.out) .none else .sl 0 [] .nil, .int .i64 p.i, .int .i64 p.err]
def prev (l : List Tk) : Nat → Option Tk
  | 0 => none
  | i + 1 => l[i]?
set_option maxHeartbeats 8000000 in
theorem printed_ev (l : List Tk) (tk : Tok) (ht : Fx tk) (hl : l.length ≤ 1300) (hx : ∀ t ∈ l, t.text.length ≤ 140) (c : Code) (hc : Tryz.f24.body = some c) :
    evO Tryz.prog (envPr l tk) c (params [.sl 4 (l.map tkC) tk] 0) { boxes := ofB [], names := namesOf (cellsOfB []) } [] (finKO Tryz.prog (Tryz.f24.results.toList)) = some (prAV (printP l), []) := by
  obtain rfl := Option.some.inj hc.symm
  have hne : ∀ (f : FuncId) (args : List AV) (bs : List (Nat × Box)), f ≠ 48 → oraclePr l tk f args bs = evc plan f args bs := fun f args bs h => by
    unfold oraclePr
    split
    · exact overO_ne _ _ _ _ _ h
    · rfl
  obtain ⟨V, hV⟩ : ∃ V, V = prAV (printP l) := ⟨_, rfl⟩
  rw [← hV]
  unfold printP at hV
  generalize hG : printGo l none 0 [] = G at hV
  by_cases h0 : 1200 < l.length
  · have h0' : (1200 : Int) < l.length := by omega
    rw [if_pos h0] at hV
    subst hV
    simp [-Int.natCast_add, Ev.frozen, envPr, kindPr, lvPr, keepPr5, keepPr12, h0, h0', prAV]
  · have h0' : ¬ (1200 : Int) < l.length := by omega
    rw [if_neg h0] at hV
    simp (maxSteps := 1000000) [-Int.natCast_add, Ev.frozen, envPr, kindPr, lvPr, keepPr5, keepPr12, h0, h0', bare_fx ht, row_fx ht, relab_fx ht]
    refine loopO_by (fun q : Nat × List Str => l.length - q.1) (fun q t m O => q.1 ≤ l.length ∧ PrInv (prev l q.1) q.2 ∧ printGo (l.drop q.1) (prev l q.1) q.1 q.2 = G ∧ O = [⟨5, 1, strs q.2⟩] ∧ clean (lvPr 5) t m = headS [(0, .sl 4 (l.map tkC) tk), (13, .sl 4 (l.map tkC) tk), (14, .int .i64 l.length), (15, .int .i64 q.1)] []) ?_ (0, []) ?_
    · rintro ⟨i, out⟩ t m O ⟨hi, hI, hgo, rfl, hS⟩ ih
      simp only at hi hI hgo hS ih
      refine roundO_of hS ?_
      by_cases h1 : i < l.length
      · rw [List.drop_eq_getElem_cons h1] at hgo
        have hpn : prev l (i + 1) = some l[i] := List.getElem?_eq_getElem h1
        have hxi := hx l[i] (List.getElem_mem h1)
        rcases hq : l[i] with ⟨kd, tx, lnI, clI⟩
        rw [hq] at hgo hpn hxi
        simp only at hxi
        have hck := checkToken_ev ⟨kd, tx, lnI, clI⟩ (by simp only; omega)
        by_cases h2 : checkTokenP ⟨kd, tx, lnI, clI⟩ = 0
        · obtain ⟨r1, r2, r3, r4, _⟩ := check_range h2
          simp only at r1 r2 r3 r4
          obtain ⟨ln, rfl⟩ : ∃ n : Nat, lnI = n := ⟨lnI.toNat, by omega⟩
          obtain ⟨cl, rfl⟩ : ∃ n : Nat, clI = n := ⟨clI.toNat, by omega⟩
          rw [h2] at hck
          simp only [tkC] at hck
          by_cases h3 : i = 0
          · have hst : stepErr (prev l i) ⟨kd, tx, ln, cl⟩ = 0 := by unfold stepErr; rw [if_pos h2, h3]; rfl
            have hroom := room hI hst
            simp only at hroom
            have hnx : printGo (l.drop (i + 1)) (some ⟨kd, tx, ln, cl⟩) (i + 1) (putTok out ⟨kd, tx, ln, cl⟩) = G := by
              rw [printGo, if_pos hst] at hgo; exact hgo
            have hi0 : ¬ 0 < i := by omega
            have hi0' : ¬ (0 : Int) < i := by omega
            simp (maxSteps := 1000000) [-Int.natCast_add, Ev.frozen, envPr, kindPr, lvPr, keepPr5, keepPr12, hne, h1, hq, tkC, hck, hi0, hi0']
            refine loopO_by (fun cur : List Str => ln + 1 - cur.length) (fun cur t m O => cur.length ≤ ln + 1 ∧ padTo cur (ln + 1) = padTo out (ln + 1) ∧ O = [⟨5, 1, strs cur⟩] ∧ clean (lvPr 12) t m = headS [(0, .sl 4 (l.map tkC) tk), (7, .ptr 500007 0), (13, .sl 4 (l.map tkC) tk), (14, .int .i64 l.length), (15, .int .i64 i)] [(500007, [.int .i64 kd, .str tx, .int .i64 ln, .int .i64 cl])]) ?_ out ?_
            · rintro cur t m O ⟨k1, k2, rfl, hS2⟩ ih2
              refine roundO_of hS2 ?_
              by_cases k3 : cur.length ≤ ln
              · have k4 : (cur.length + 1) * 16 ≤ 70368744177664 := by omega
                have k5 : strs cur ++ [[.str []]] = strs (cur ++ [[]]) := strs_snoc cur []
                simp (maxSteps := 1000000) [-Int.natCast_add, Ev.frozen, envPr, kindPr, lvPr, keepPr5, keepPr12, strs_len, k3, k4]
                refine ih2 (cur ++ [[]]) _ _ _ (by simp; omega) ⟨by simp; omega, ?_, ?_, ?_⟩
                · rw [← k2, padTo_snoc cur (ln + 1) (by omega)]
                · rw [k5]
                · simp [-Int.natCast_add, lvPr, keepPr5, keepPr12, growOf, tkC, bare_fx ht, row_fx ht, relab_fx ht]
              · have k6 : cur.length = ln + 1 := by omega
                have k7 : padTo cur (ln + 1) = cur := by unfold padTo; rw [k6]; simp
                rw [k7] at k2
                have k8 : ln < cur.length := by omega
                have k9 : cur[ln].length ≤ cl := by
                  have e1 := padTo_get out (ln + 1) ln
                  rw [← k2, List.getD_eq_getElem?_getD, List.getElem?_eq_getElem k8] at e1
                  simp only [Option.getD_some] at e1
                  have := hroom.2.2
                  rw [show (ln : Int).toNat = ln from Int.toNat_natCast ln] at this
                  rw [e1]; omega
                have w1 : IntKind.i64.wrap ((cl : Int) - (cur[ln].length : Int)) = ((cl - cur[ln].length : Nat) : Int) := by rw [wrap_i64 (by omega) (by omega)]; omega
                have hrep : evc plan 43 [.str [32], .int .i64 ((cl - cur[ln].length : Nat) : Int)] [] = some (.str (Lib.repeatL [32] (cl - cur[ln].length)), []) := by
                  have := repeat_ev [32] ((cl - cur[ln].length : Nat) : Int) (by omega) (by omega) (by simp; omega)
                  rwa [Int.toNat_natCast] at this
                have w2 : IntKind.i64.wrap ((i : Int) + 1) = ((i + 1 : Nat) : Int) := wrap_i64 (by omega) (by omega)
                have hput : putTok out ⟨kd, tx, ln, cl⟩ = cur.set ln (cur[ln] ++ (Lib.repeatL [32] (cl - cur[ln].length) ++ tx)) := by
                  unfold putTok
                  simp only [Int.toNat_natCast]
                  rw [← k2, List.getD_eq_getElem?_getD, List.getElem?_eq_getElem k8, repeatL_one]
                  simp only [Option.getD_some]
                  rw [show ((cl : Int) - (cur[ln].length : Int)).toNat = cl - cur[ln].length by omega]
                have l1 : (Lib.repeatL [32] (cl - cur[ln].length)).length = cl - cur[ln].length := by rw [repeatL_one]; simp
                have l2 : cl - cur[ln].length + tx.length ≤ 9223372036854775807 := by omega
                have l3 : cur[ln].length + (cl - cur[ln].length + tx.length) ≤ 9223372036854775807 := by omega
                simp (maxSteps := 1000000) [-Int.natCast_add, Ev.frozen, envPr, kindPr, lvPr, keepPr5, keepPr12, hne, strs, k3, k8, w1, w2, hrep, l1, l2, l3]
                refine ih (i + 1, putTok out ⟨kd, tx, ln, cl⟩) _ _ _ (by simp only; omega) ⟨by simp only; omega, ?_, ?_, ?_, ?_⟩
                · rw [hpn]; exact putTok_inv hI hst
                · rw [hpn]; exact hnx
                · rw [hput]; simp [strs, List.map_set]
                · simp [-Int.natCast_add, lvPr, keepPr5, keepPr12, growOf, tkC, bare_fx ht, row_fx ht, relab_fx ht]
            · refine ⟨by have := hroom.2.1; omega, rfl, rfl, ?_⟩
              simp [-Int.natCast_add, lvPr, keepPr5, keepPr12, growOf, tkC, bare_fx ht, row_fx ht, relab_fx ht]
          · have hi1 : i - 1 < l.length := by omega
            have hpi : prev l i = some l[i - 1] := by
              cases i with
              | zero => exact absurd rfl h3
              | succ i => exact List.getElem?_eq_getElem hi1
            rcases hqa : l[i - 1] with ⟨ka, ta, lna, cla⟩
            rw [hqa] at hpi
            have hxa := hx l[i - 1] (List.getElem_mem hi1)
            rw [hqa] at hxa
            simp only at hxa
            obtain ⟨a1, _, _⟩ := hI.some_ _ hpi
            obtain ⟨_, _, a2, a3, _⟩ := check_range a1
            simp only at a2 a3
            have hb := behind_ev ⟨ka, ta, lna, cla⟩ ⟨kd, tx, ln, cl⟩ (by simp only; omega) (by simp only; omega) (by simp only; omega) (by simp only; omega)
            have w0 : IntKind.i64.wrap ((i : Int) - 1) = ((i - 1 : Nat) : Int) := by rw [wrap_i64 (by omega) (by omega)]; omega
            have hi0 : 0 < i := by omega
            have hi0' : (0 : Int) < i := by omega
            simp only [tkC] at hb
            have hse : stepErr (prev l i) ⟨kd, tx, ln, cl⟩ = behindP ⟨ka, ta, lna, cla⟩ ⟨kd, tx, ln, cl⟩ := by unfold stepErr; rw [if_pos h2, hpi]
            by_cases hst : stepErr (prev l i) ⟨kd, tx, ln, cl⟩ = 0
            · have hroom := room hI hst
              simp only at hroom
              have hnx : printGo (l.drop (i + 1)) (some ⟨kd, tx, ln, cl⟩) (i + 1) (putTok out ⟨kd, tx, ln, cl⟩) = G := by
                rw [printGo, if_pos hst] at hgo; exact hgo
              rw [← hse, hst] at hb
              simp (maxSteps := 1000000) [-Int.natCast_add, Ev.frozen, envPr, kindPr, lvPr, keepPr5, keepPr12, hne, h1, hq, tkC, hck, hi0, hi0', w0, hi1, hqa, hb]
              refine loopO_by (fun cur : List Str => ln + 1 - cur.length) (fun cur t m O => cur.length ≤ ln + 1 ∧ padTo cur (ln + 1) = padTo out (ln + 1) ∧ O = [⟨5, 1, strs cur⟩] ∧ clean (lvPr 12) t m = headS [(0, .sl 4 (l.map tkC) tk), (7, .ptr 500007 0), (13, .sl 4 (l.map tkC) tk), (14, .int .i64 l.length), (15, .int .i64 i)] [(500007, [.int .i64 kd, .str tx, .int .i64 ln, .int .i64 cl])]) ?_ out ?_
              · rintro cur t m O ⟨k1, k2, rfl, hS2⟩ ih2
                refine roundO_of hS2 ?_
                by_cases k3 : cur.length ≤ ln
                · have k4 : (cur.length + 1) * 16 ≤ 70368744177664 := by omega
                  have k5 : strs cur ++ [[.str []]] = strs (cur ++ [[]]) := strs_snoc cur []
                  simp (maxSteps := 1000000) [-Int.natCast_add, Ev.frozen, envPr, kindPr, lvPr, keepPr5, keepPr12, strs_len, k3, k4]
                  refine ih2 (cur ++ [[]]) _ _ _ (by simp; omega) ⟨by simp; omega, ?_, ?_, ?_⟩
                  · rw [← k2, padTo_snoc cur (ln + 1) (by omega)]
                  · rw [k5]
                  · simp [-Int.natCast_add, lvPr, keepPr5, keepPr12, growOf, tkC, bare_fx ht, row_fx ht, relab_fx ht]
                · have k6 : cur.length = ln + 1 := by omega
                  have k7 : padTo cur (ln + 1) = cur := by unfold padTo; rw [k6]; simp
                  rw [k7] at k2
                  have k8 : ln < cur.length := by omega
                  have k9 : cur[ln].length ≤ cl := by
                    have e1 := padTo_get out (ln + 1) ln
                    rw [← k2, List.getD_eq_getElem?_getD, List.getElem?_eq_getElem k8] at e1
                    simp only [Option.getD_some] at e1
                    have := hroom.2.2
                    rw [show (ln : Int).toNat = ln from Int.toNat_natCast ln] at this
                    rw [e1]; omega
                  have w1 : IntKind.i64.wrap ((cl : Int) - (cur[ln].length : Int)) = ((cl - cur[ln].length : Nat) : Int) := by rw [wrap_i64 (by omega) (by omega)]; omega
                  have hrep : evc plan 43 [.str [32], .int .i64 ((cl - cur[ln].length : Nat) : Int)] [] = some (.str (Lib.repeatL [32] (cl - cur[ln].length)), []) := by
                    have := repeat_ev [32] ((cl - cur[ln].length : Nat) : Int) (by omega) (by omega) (by simp; omega)
                    rwa [Int.toNat_natCast] at this
                  have w2 : IntKind.i64.wrap ((i : Int) + 1) = ((i + 1 : Nat) : Int) := wrap_i64 (by omega) (by omega)
                  have hput : putTok out ⟨kd, tx, ln, cl⟩ = cur.set ln (cur[ln] ++ (Lib.repeatL [32] (cl - cur[ln].length) ++ tx)) := by
                    unfold putTok
                    simp only [Int.toNat_natCast]
                    rw [← k2, List.getD_eq_getElem?_getD, List.getElem?_eq_getElem k8, repeatL_one]
                    simp only [Option.getD_some]
                    rw [show ((cl : Int) - (cur[ln].length : Int)).toNat = cl - cur[ln].length by omega]
                  have l1 : (Lib.repeatL [32] (cl - cur[ln].length)).length = cl - cur[ln].length := by rw [repeatL_one]; simp
                  have l2 : cl - cur[ln].length + tx.length ≤ 9223372036854775807 := by omega
                  have l3 : cur[ln].length + (cl - cur[ln].length + tx.length) ≤ 9223372036854775807 := by omega
                  simp (maxSteps := 1000000) [-Int.natCast_add, Ev.frozen, envPr, kindPr, lvPr, keepPr5, keepPr12, hne, strs, k3, k8, w1, w2, hrep, l1, l2, l3]
                  refine ih (i + 1, putTok out ⟨kd, tx, ln, cl⟩) _ _ _ (by simp only; omega) ⟨by simp only; omega, ?_, ?_, ?_, ?_⟩
                  · rw [hpn]; exact putTok_inv hI hst
                  · rw [hpn]; exact hnx
                  · rw [hput]; simp [strs, List.map_set]
                  · simp [-Int.natCast_add, lvPr, keepPr5, keepPr12, growOf, tkC, bare_fx ht, row_fx ht, relab_fx ht]
              · refine ⟨by have := hroom.2.1; omega, rfl, rfl, ?_⟩
                simp [-Int.natCast_add, lvPr, keepPr5, keepPr12, growOf, tkC, bare_fx ht, row_fx ht, relab_fx ht]
            · rw [printGo, if_neg hst] at hgo
              subst hgo
              simp only at hV
              rw [if_neg hst] at hV
              rw [← hse] at hb
              generalize stepErr (prev l i) ⟨kd, tx, ln, cl⟩ = e at hst hb hV
              have h2' : (e == 0) = false := by simpa using hst
              have h2'' : (e != 0) = true := by simpa using hst
              simp (maxSteps := 1000000) [-Int.natCast_add, Ev.frozen, envPr, kindPr, lvPr, keepPr5, keepPr12, hne, h1, hq, tkC, hck, hi0, hi0', w0, hi1, hqa, hb, hst, h2', h2'']
              rw [hV]; simp [prAV, hst]
        · have hst : ¬ stepErr (prev l i) ⟨kd, tx, lnI, clI⟩ = 0 := by unfold stepErr; rw [if_neg h2]; exact h2
          have hse : stepErr (prev l i) ⟨kd, tx, lnI, clI⟩ = checkTokenP ⟨kd, tx, lnI, clI⟩ := by unfold stepErr; rw [if_neg h2]
          rw [printGo, if_neg hst, hse] at hgo
          subst hgo
          simp only at hV
          rw [if_neg h2] at hV
          generalize checkTokenP ⟨kd, tx, lnI, clI⟩ = e at h2 hck hV
          have h2' : (e == 0) = false := by simpa using h2
          have h2'' : (e != 0) = true := by simpa using h2
          simp only [tkC] at hck
          simp (maxSteps := 1000000) [-Int.natCast_add, Ev.frozen, envPr, kindPr, lvPr, keepPr5, keepPr12, hne, h1, hq, tkC, hck, h2, h2', h2'']
          rw [hV]; simp [prAV, h2]
      · have hie : i = l.length := by omega
        subst hie
        rw [List.drop_length] at hgo
        have hgo : (⟨out, l.length, 0⟩ : Pr) = G := hgo
        have hra : oraclePr l tk 48 [.sl 1 (strs out) .none, .sl 4 (l.map tkC) tk] [] = some (.int .i64 (sameLen (readAll out).2.ts l), []) := by
          unfold oraclePr
          rw [hG, ← hgo, if_pos rfl]
          exact overO_self _ _ _ _
        subst hgo
        simp only [if_true] at hV
        generalize hk : sameLen (readAll out).2.ts l = k at hV hra
        by_cases h4 : k < l.length
        · rw [if_pos h4] at hV
          simp (maxSteps := 1000000) [-Int.natCast_add, Ev.frozen, envPr, kindPr, lvPr, keepPr5, keepPr12, hra, h4, bare_fx ht, row_fx ht, relab_fx ht]
          rw [hV]; simp [prAV]
        · rw [if_neg h4] at hV
          simp (maxSteps := 1000000) [-Int.natCast_add, Ev.frozen, envPr, kindPr, lvPr, keepPr5, keepPr12, hra, h4, strs_len, bare_fx ht, row_fx ht, relab_fx ht]
          rw [hV]; simp [prAV]
    · refine ⟨Nat.zero_le _, printGo_start, hG, rfl, ?_⟩
      simp [-Int.natCast_add, lvPr, keepPr5, keepPr12, growOf, tkC, bare_fx ht, row_fx ht, relab_fx ht]
end Go.Proofs.YtlmmgblghgmgeaaGreatDoor
