/- The texts PrinB, merged. -/
import Derived.Test.YtlmmgblghgmgeaaGreatDoorNaj
import Derived.Test.YtlmmgblghgmgeaaGreatDoorNai
set_option linter.unusedVariables false
set_option linter.unusedSimpArgs false
/- readAs: how many tokens are read again from lines: evaluated. -/
namespace Go.Proofs.YtlmmgblghgmgeaaGreatDoor
open Go Ev
set_option maxRecDepth 100000
set_option linter.unusedSimpArgs false
attribute [local simp] dFor_none storeFine_none dFor_no storeFine_no lessL lkL evCode_exit evCode_seq evCode_plain evCode_draw evCode_cond evCode_ret evCode_skip evCode_block evCode_loop roundK_normal roundK_exit roundK_ret seqK_normal seqK_exit seqK_ret blockK_normal blockK_exit blockK_ret regK_eq evOps_nil evOps_cons params astep okDst isWanted aop opnd ofValue putT abin headS ofL noPtr acall adopt_bool adopt_int adopt_str adopt_agg adopt_clip upd_false AV.cells partOf setCells fillC AV.isVal List.range List.range.loop ofB mayRead dsts planRo capIds viewed scalarR AV.scalar bare_undef bare_bool bare_int bare_str bare_snil bare_snone bare_sclip bare_srow bare_ptr bare_eptr bare_pnil bare_fn bare_fnil bare_agg bare_tup clean keepBoxes relabB relabL cleanS fixPtr cellsOfB namesOf row_undef row_bool row_int row_str row_snil row_snone row_sclip row_srow row_ptr row_eptr row_pnil row_fn row_fnil row_agg row_tup relab_undef relab_bool relab_int relab_str relab_snil relab_snone relab_sclip relab_srow relab_ptr relab_eptr relab_pnil relab_fn relab_fnil relab_agg relab_tup relab_sgrow passed setBoxes killNames addNames freshAll adopt resParts resBack boxName finK freezeT avAll resOf outBoxes AV.untup

/-- How many tokens at the beginning are the same. -/
def sameLen : List Tk → List Tk → Nat
  | _, [] => 0
  | [], _ :: _ => 0
  | x :: a, y :: b => if sameTk x y then sameLen a b + 1 else 0
theorem sameLen_nil (b : List Tk) : sameLen [] b = 0 := by cases b <;> rfl
theorem sameLen_drop (a b : List Tk) (i : Nat) (h : i < a.length) (h' : i < b.length) : sameLen (a.drop i) (b.drop i) = if sameTk a[i] b[i] then sameLen (a.drop (i + 1)) (b.drop (i + 1)) + 1 else 0 := by
  rw [List.drop_eq_getElem_cons h, List.drop_eq_getElem_cons h']; rfl
def keepAs2 : Keep := ⟨[(0, none), (1, none), (5, none), (10, none)], [(500010, 3, 4), (500010, 4, 4)], by decide, by decide⟩
def keepAs4 : Keep := ⟨[(1, none), (5, none), (10, none), (24, none), (25, none), (26, none)], [(500010, 3, 4), (500010, 4, 4)], by decide, by decide⟩
def lvAs : Nat → Keep := fun id => if id = 2 then keepAs2 else if id = 4 then keepAs4 else noKeep
theorem as_ok : codeOk lvAs (Tryz.f48.body.getD .skip) = true := by kernel_rfl
set_option maxHeartbeats 4000000 in
theorem as_law (X : List Str) (l : List Tk) (tk tk2 : Tok) (ht : Fx tk) (ht2 : Fx tk2) (hT2 : total X < 2 ^ 39) (hXl : X.length < 2 ^ 40) (hXc : ∀ x ∈ X, x.length < 2 ^ 40) (hl : l.length < 2 ^ 62) :
    evFn Tryz.prog ⟨evc plan, planRo, lvAs, 53⟩ Tryz.f48 [.sl 1 (strs X) tk, .sl 4 (l.map tkC) tk2] [] = some (.int .i64 (sameLen (readAll X).2.ts l), []) := by
  refine evFn_start rfl rfl rfl ?_
  generalize hR : readAll X = R
  generalize hT : R.2.ts = T
  by_cases h0 : X.length = 0
  · have hX : X = [] := List.eq_nil_of_length_eq_zero h0
    subst hX
    have hR2 : readAll [] = (0, st0) := rfl
    rw [hR2] at hR
    subst hR
    have hT : T = [] := hT.symm
    simp []
    refine round_of (S := headS [(0, .sl 1 [] tk), (1, .sl 4 (l.map tkC) tk2), (5, .ptr 500010 0), (10, .ptr 500010 0)] [(500010, [.sl 1 [] tk, .int .i64 0, .int .i64 0, .sl 4 (T.map tkC) (.row 1500010 4), .sl 4 (([] : List Sp).map spC) (.row 1500010 5)])]) (show clean (lvAs 2) _ _ = _ by subst hT; simp [lvAs, keepAs2, growOf, strs, bare_fx ht, row_fx ht, relab_fx ht, bare_fx ht2, row_fx ht2, relab_fx ht2]) ?_
    clear hT
    simp [lvAs, keepAs2, bare_fx ht, row_fx ht, relab_fx ht, bare_fx ht2, row_fx ht2, relab_fx ht2]
    refine loop_by (fun i => l.length - i) (fun (i : Nat) t m => i ≤ l.length ∧ i ≤ T.length ∧ sameLen T l = i + sameLen (T.drop i) (l.drop i) ∧ clean (lvAs 4) t m = headS [(1, .sl 4 (l.map tkC) tk2), (5, .ptr 500010 0), (10, .ptr 500010 0), (24, .sl 4 (l.map tkC) tk2), (25, .int .i64 l.length), (26, .int .i64 i)] [(500010, [.sl 1 [] tk, .int .i64 0, .int .i64 0, .sl 4 (T.map tkC) (.row 1500010 4), .sl 4 (([] : List Sp).map spC) (.row 1500010 5)])]) ?_ 0 ?_
    · intro i t m ⟨hi, hiT, hr, hS⟩ ih3
      refine round_of hS ?_
      by_cases g1 : i < l.length
      · by_cases g2 : i < T.length
        · have g3 : ¬ i = T.length := by omega
          have g3' : ((i : Int) == T.length) = false := by simp; omega
          have hd := sameLen_drop T l i g2 g1
          have w1 : IntKind.i64.wrap ((i : Int) + 1) = ((i + 1 : Nat) : Int) := wrap_i64 (by omega) (by omega)
          have hac := acmp_token T[i] l[i]
          simp only [tkC] at hac
          cases g4 : sameTk T[i] l[i]
          · rw [g4] at hac hd
            simp [-Int.natCast_add, lvAs, keepAs2, keepAs4, g1, g2, g3, g3', tkC, acmpOp, hac]
            rw [hr, hd]; simp
          · rw [g4] at hac hd
            simp [-Int.natCast_add, lvAs, keepAs2, keepAs4, g1, g2, g3, g3', tkC, acmpOp, hac, w1]
            refine ih3 (i + 1) _ _ (by omega) ⟨by omega, by omega, by rw [hr, hd]; simp; omega, ?_⟩
            simp [-Int.natCast_add, lvAs, keepAs2, keepAs4, growOf, tkC, bare_fx ht, row_fx ht, relab_fx ht, bare_fx ht2, row_fx ht2, relab_fx ht2]
            try rfl
        · have g3 : i = T.length := by omega
          subst g3
          simp [-Int.natCast_add, lvAs, keepAs2, keepAs4, g1, tkC]
          rw [hr, List.drop_length]; simp [sameLen, sameLen_nil]
      · have g3 : i = l.length := by omega
        subst g3
        simp [-Int.natCast_add, lvAs, keepAs2, keepAs4, g1, tkC, bare_fx ht2, row_fx ht2, relab_fx ht2]
        rw [hr, List.drop_length]; simp [sameLen, sameLen_nil]
    · refine ⟨Nat.zero_le _, Nat.zero_le _, by simp, ?_⟩
      simp [-Int.natCast_add, lvAs, keepAs2, keepAs4, growOf, tkC, rdAt, st0, bare_fx ht, row_fx ht, relab_fx ht, bare_fx ht2, row_fx ht2, relab_fx ht2]
  · simp []
    refine loop_by (fun (q : Nat × St) => q.1) (fun q t m => ReadInv X R q ∧ clean (lvAs 2) t m = headS [(0, .sl 1 (strs X) tk), (1, .sl 4 (l.map tkC) tk2), (5, .ptr 500010 0), (10, .ptr 500010 0)] [(500010, rdAt X tk q.2 1500010 4 1500010 5)]) ?_ (total X + 1, st0) ?_
    · rintro ⟨k, r⟩ t m ⟨hI, hS⟩ ih
      refine round_of hS ?_
      have h0' : 0 < X.length := by omega
      by_cases h1 : r.i < X.length
      · have h1' : ¬ X.length ≤ r.i := by omega
        have hnx := next_of X tk ht r hXl hXc hT2 h1 hI.1
        generalize hN : nextGo X (total X + 1) r = N at hnx
        obtain ⟨e, r'⟩ := N
        unfold rdS rd at hnx
        simp only at hnx
        cases h2 : e != 0
        · have he : e = 0 := by simpa using h2
          obtain ⟨k', rfl, hI'⟩ := hI.step h1 (by rw [hN]; exact he)
          rw [hN] at hI'
          simp only at hI'
          subst he
          simp [lvAs, keepAs2, over_ev, h0', h1', hnx, strs_len, rdAt, bare_fx ht, row_fx ht, relab_fx ht, bare_fx ht2, row_fx ht2, relab_fx ht2]
          refine ih (k', r') _ _ (by simp) ⟨hI', ?_⟩
          simp [lvAs, keepAs2, rdAt, growOf, bare_fx ht, row_fx ht, relab_fx ht, bare_fx ht2, row_fx ht2, relab_fx ht2]
        · have := hI.stop h1 (by rw [hN]; simpa using h2)
          rw [hN] at this
          subst this
          have he : (e == 0) = false := by simpa using h2
          simp only at hT
          obtain ⟨ri, rj, rts, rcs⟩ := r'
          simp only at hT
          subst hT
          simp [lvAs, keepAs2, over_ev, h0', h1', hnx, he, strs_len, rdAt, bare_fx ht, row_fx ht, relab_fx ht, bare_fx ht2, row_fx ht2, relab_fx ht2]
          generalize rts = T
          refine loop_by (fun i => l.length - i) (fun (i : Nat) t m => i ≤ l.length ∧ i ≤ T.length ∧ sameLen T l = i + sameLen (T.drop i) (l.drop i) ∧ clean (lvAs 4) t m = headS [(1, .sl 4 (l.map tkC) tk2), (5, .ptr 500010 0), (10, .ptr 500010 0), (24, .sl 4 (l.map tkC) tk2), (25, .int .i64 l.length), (26, .int .i64 i)] [(500010, [.sl 1 (strs X) tk, .int .i64 ri, .int .i64 rj, .sl 4 (T.map tkC) (.row 1500010 4), .sl 4 (rcs.map spC) (.row 1500010 5)])]) ?_ 0 ?_
          · intro i t m ⟨hi, hiT, hr, hS⟩ ih3
            refine round_of hS ?_
            by_cases g1 : i < l.length
            · by_cases g2 : i < T.length
              · have g3 : ¬ i = T.length := by omega
                have g3' : ((i : Int) == T.length) = false := by simp; omega
                have hd := sameLen_drop T l i g2 g1
                have w1 : IntKind.i64.wrap ((i : Int) + 1) = ((i + 1 : Nat) : Int) := wrap_i64 (by omega) (by omega)
                have hac := acmp_token T[i] l[i]
                simp only [tkC] at hac
                cases g4 : sameTk T[i] l[i]
                · rw [g4] at hac hd
                  simp [-Int.natCast_add, lvAs, keepAs2, keepAs4, g1, g2, g3, g3', tkC, acmpOp, hac]
                  rw [hr, hd]; simp
                · rw [g4] at hac hd
                  simp [-Int.natCast_add, lvAs, keepAs2, keepAs4, g1, g2, g3, g3', tkC, acmpOp, hac, w1]
                  refine ih3 (i + 1) _ _ (by omega) ⟨by omega, by omega, by rw [hr, hd]; simp; omega, ?_⟩
                  simp [-Int.natCast_add, lvAs, keepAs2, keepAs4, growOf, tkC, bare_fx ht, row_fx ht, relab_fx ht, bare_fx ht2, row_fx ht2, relab_fx ht2]
                  try rfl
              · have g3 : i = T.length := by omega
                subst g3
                simp [-Int.natCast_add, lvAs, keepAs2, keepAs4, g1, tkC]
                rw [hr, List.drop_length]; simp [sameLen, sameLen_nil]
            · have g3 : i = l.length := by omega
              subst g3
              simp [-Int.natCast_add, lvAs, keepAs2, keepAs4, g1, tkC, bare_fx ht2, row_fx ht2, relab_fx ht2]
              rw [hr, List.drop_length]; simp [sameLen, sameLen_nil]
          · refine ⟨Nat.zero_le _, Nat.zero_le _, by simp, ?_⟩
            simp [-Int.natCast_add, lvAs, keepAs2, keepAs4, growOf, tkC, rdAt, st0, bare_fx ht, row_fx ht, relab_fx ht, bare_fx ht2, row_fx ht2, relab_fx ht2]
      · have := hI.over h1
        subst this
        have h1' : X.length ≤ r.i := by omega
        obtain ⟨ri, rj, rts, rcs⟩ := r
        simp only at hT h1'
        subst hT
        simp [lvAs, keepAs2, over_ev, h0', h1', strs_len, rdAt, bare_fx ht, row_fx ht, relab_fx ht, bare_fx ht2, row_fx ht2, relab_fx ht2]
        generalize rts = T
        refine loop_by (fun i => l.length - i) (fun (i : Nat) t m => i ≤ l.length ∧ i ≤ T.length ∧ sameLen T l = i + sameLen (T.drop i) (l.drop i) ∧ clean (lvAs 4) t m = headS [(1, .sl 4 (l.map tkC) tk2), (5, .ptr 500010 0), (10, .ptr 500010 0), (24, .sl 4 (l.map tkC) tk2), (25, .int .i64 l.length), (26, .int .i64 i)] [(500010, [.sl 1 (strs X) tk, .int .i64 ri, .int .i64 rj, .sl 4 (T.map tkC) (.row 1500010 4), .sl 4 (rcs.map spC) (.row 1500010 5)])]) ?_ 0 ?_
        · intro i t m ⟨hi, hiT, hr, hS⟩ ih3
          refine round_of hS ?_
          by_cases g1 : i < l.length
          · by_cases g2 : i < T.length
            · have g3 : ¬ i = T.length := by omega
              have g3' : ((i : Int) == T.length) = false := by simp; omega
              have hd := sameLen_drop T l i g2 g1
              have w1 : IntKind.i64.wrap ((i : Int) + 1) = ((i + 1 : Nat) : Int) := wrap_i64 (by omega) (by omega)
              have hac := acmp_token T[i] l[i]
              simp only [tkC] at hac
              cases g4 : sameTk T[i] l[i]
              · rw [g4] at hac hd
                simp [-Int.natCast_add, lvAs, keepAs2, keepAs4, g1, g2, g3, g3', tkC, acmpOp, hac]
                rw [hr, hd]; simp
              · rw [g4] at hac hd
                simp [-Int.natCast_add, lvAs, keepAs2, keepAs4, g1, g2, g3, g3', tkC, acmpOp, hac, w1]
                refine ih3 (i + 1) _ _ (by omega) ⟨by omega, by omega, by rw [hr, hd]; simp; omega, ?_⟩
                simp [-Int.natCast_add, lvAs, keepAs2, keepAs4, growOf, tkC, bare_fx ht, row_fx ht, relab_fx ht, bare_fx ht2, row_fx ht2, relab_fx ht2]
                try rfl
            · have g3 : i = T.length := by omega
              subst g3
              simp [-Int.natCast_add, lvAs, keepAs2, keepAs4, g1, tkC]
              rw [hr, List.drop_length]; simp [sameLen, sameLen_nil]
          · have g3 : i = l.length := by omega
            subst g3
            simp [-Int.natCast_add, lvAs, keepAs2, keepAs4, g1, tkC, bare_fx ht2, row_fx ht2, relab_fx ht2]
            rw [hr, List.drop_length]; simp [sameLen, sameLen_nil]
        · refine ⟨Nat.zero_le _, Nat.zero_le _, by simp, ?_⟩
          simp [-Int.natCast_add, lvAs, keepAs2, keepAs4, growOf, tkC, rdAt, st0, bare_fx ht, row_fx ht, relab_fx ht, bare_fx ht2, row_fx ht2, relab_fx ht2]
    · refine ⟨hR ▸ ReadInv.start X, ?_⟩
      simp [lvAs, keepAs2, rdAt, growOf, bare_fx ht, row_fx ht, relab_fx ht, bare_fx ht2, row_fx ht2, relab_fx ht2, st0]
theorem as_sim (X : List Str) (l : List Tk) (tk tk2 : Tok) (ht : Fx tk) (ht2 : Fx tk2) (hT2 : total X < 2 ^ 39) (hXl : X.length < 2 ^ 40) (hXc : ∀ x ∈ X, x.length < 2 ^ 40) (hl : l.length < 2 ^ 62) :
    SimCall Tryz.prog 48 [.sl 1 (strs X) tk, .sl 4 (l.map tkC) tk2] [] (.int .i64 (sameLen (readAll X).2.ts l)) [] := by
  obtain ⟨c, hc⟩ : ∃ c, Tryz.f48.body = some c := ⟨_, rfl⟩
  have hok := as_ok
  rw [hc] at hok
  exact fn_sound (drawSound planFollows) planFollows (E := ⟨evc plan, planRo, lvAs, 53⟩) (evc_sound plan_ok) Tryz.func48 hc (Nat.le_refl _) hok Tryz.call48 (by simp) (as_law X l tk tk2 ht ht2 hT2 hXl hXc hl)
end Go.Proofs.YtlmmgblghgmgeaaGreatDoor
