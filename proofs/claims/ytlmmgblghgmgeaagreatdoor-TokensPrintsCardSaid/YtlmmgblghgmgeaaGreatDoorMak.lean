/- The texts RefE, merged. -/
import Derived.Test.YtlmmgblghgmgeaaGreatDoorMaj
set_option linter.unusedVariables false
set_option linter.unusedSimpArgs false
/- What begins at a place of a line, as the reference has it, evaluated. -/
namespace Go.Proofs.YtlmmgblghgmgeaaGreatDoor
open Go Ev
set_option maxRecDepth 100000
set_option linter.unusedSimpArgs false
attribute [local simp] dFor_none storeFine_none dFor_no storeFine_no lessL lkL evCode_exit evCode_seq evCode_plain evCode_draw evCode_cond evCode_ret evCode_skip evCode_block evCode_loop roundK_normal roundK_exit roundK_ret seqK_normal seqK_exit seqK_ret blockK_normal blockK_exit blockK_ret regK_eq evOps_nil evOps_cons params astep okDst isWanted aop opnd ofValue putT abin headS ofL noPtr acall adopt_bool adopt_int adopt_str adopt_agg adopt_clip upd_false AV.cells partOf setCells fillC AV.isVal List.range List.range.loop ofB mayRead dsts planRo capIds viewed scalarR AV.scalar bare_undef bare_bool bare_int bare_str bare_snil bare_snone bare_sclip bare_srow bare_ptr bare_eptr bare_pnil bare_fn bare_fnil bare_agg bare_tup clean keepBoxes relabB relabL cleanS fixPtr cellsOfB namesOf row_undef row_bool row_int row_str row_snil row_snone row_sclip row_srow row_ptr row_eptr row_pnil row_fn row_fnil row_agg row_tup relab_undef relab_bool relab_int relab_str relab_snil relab_snone relab_sclip relab_srow relab_ptr relab_eptr relab_pnil relab_fn relab_fnil relab_agg relab_tup relab_sgrow passed setBoxes killNames addNames freshAll adopt resParts resBack boxName finK freezeT avAll resOf outBoxes AV.untup

def isSym (x : Str) : Bool := symL.any fun y => y == x
def symTry (s : Str) (i : Nat) : Nat → AV
  | 0 => piece 0 0 8
  | n + 1 => if isSym (sub s i (n + 1)) then piece 4 ((n + 1 : Nat) : Int) 0 else symTry s i n
def atP (s : Str) (i : Nat) : AV :=
  if (((s.getD i 0).toNat : Int) == 45 || ((s.getD i 0).toNat : Int) == 61) && decide ((sameP s i : Int) > 3) then piece 5 (sameP s i) 0
  else if wordB (s.getD i 0).toNat then wordP s i
  else if ((s.getD i 0).toNat : Int) == 34 then quotedP s i
  else if decide (i + 1 < s.length) && (sub s i 2 == [42, 41]) then piece 0 0 8
  else if ((s.getD i 0).toNat : Int) == 92 && (decide (i + 1 < s.length) && letterB (s.getD (i + 1) 0).toNat) then
    (if isSym (sub s i (run (fun b => letterB b.toNat) (s.drop (i + 1)) + 1)) then piece 4 ((run (fun b => letterB b.toNat) (s.drop (i + 1)) + 1 : Nat) : Int) 0 else piece 0 0 8)
  else symTry s i (min 3 (s.length - i))
theorem wordP_is (s : Str) (i : Nat) : ∃ a b d, wordP s i = .agg [.int .i64 a, .int .i64 b, .int .i64 d] := by
  unfold wordP wordTail piece
  repeat' split
  all_goals exact ⟨_, _, _, rfl⟩
theorem quotedP_is (s : Str) (i : Nat) : ∃ a b d, quotedP s i = .agg [.int .i64 a, .int .i64 b, .int .i64 d] := by
  unfold quotedP piece
  simp only
  repeat' split
  all_goals exact ⟨_, _, _, rfl⟩
theorem symTry_is (s : Str) (i : Nat) : ∀ n, ∃ a b d, symTry s i n = .agg [.int .i64 a, .int .i64 b, .int .i64 d]
  | 0 => ⟨_, _, _, rfl⟩
  | n + 1 => by
    unfold symTry
    split
    · exact ⟨_, _, _, rfl⟩
    · exact symTry_is s i n
theorem sym_has (x : Str) : evc plan 63 [.sl 1 (strs symL) .none, .str x] [] = some (.bool (isSym x), []) := by
  have h : symL.length < 2 ^ 62 := by
    have := foldl_ins_len allSyms []
    have lA : allSyms.length = 76 := rfl
    have : symL.length = 76 := by unfold symL; rw [this, lA]; rfl
    omega
  exact rcontains_ev symL x .none fx_none h
set_option maxHeartbeats 4000000 in
theorem at_ev (s : Str) (i : Nat) (hi : i < s.length) (hl : s.length < 2 ^ 60) : evc plan 74 [.str s, .int .i64 i] [] = some (atP s i, []) := by
  refine evc_start plan (P := Tryz.prog) (ro := planRo) rfl rfl rfl rfl rfl rfl (by simp) rfl ?_
  have hsame := rsame_ev s i (by omega) (by omega)
  have hword := word_tail_ev s i hi (by omega)
  have hquot := quoted_ev s i hi (by omega)
  have hsy := symbols_ev
  have hg : s.getD i 0 = s[i] := by simp [List.getD_eq_getElem?_getD, hi]
  obtain ⟨w1, w2, w3, hw⟩ := wordP_is s i
  obtain ⟨q1, q2, q3, hq⟩ := quotedP_is s i
  have hV : atP s i = atP s i := rfl
  generalize hX : atP s i = V at hV ⊢
  unfold atP at hX
  rw [hg] at hX
  rw [hw] at hword hX
  rw [hq] at hquot hX
  generalize sameP s i = sm at hsame hX
  generalize hc : s[i] = c at hX
  have rule : ∀ (b : Bool), ((c.toNat : Int) == 45 || (c.toNat : Int) == 61) = b → (b && decide ((sm : Int) > 3)) = true → evc plan 39 [.str s, .int .i64 i] [] = some (.int .i64 sm, []) := fun _ _ _ => hsame
  have hns : ∀ b : Bool, (c.toNat == 0) = b → True := fun _ _ => trivial
  have wl : IntKind.i64.wrap ((s.length : Int) - i) = ((s.length - i : Nat) : Int) := by rw [wrap_i64 (by omega) (by omega)]; omega
  have wa : IntKind.i64.wrap ((i : Int) + 1) = ((i + 1 : Nat) : Int) := by rw [wrap_i64 (by omega) (by omega)]; omega
  have wb : IntKind.i64.wrap ((i : Int) + 2) = ((i + 2 : Nat) : Int) := by rw [wrap_i64 (by omega) (by omega)]; omega
  have hmin : (if ((s.length - i : Nat) : Int) < 3 then ((s.length - i : Nat) : Int) else 3) = ((min 3 (s.length - i) : Nat) : Int) := by split <;> omega
  have h32 : ((c.toNat : Int) == 45) = true → wordB c.toNat = false ∧ ((c.toNat : Int) == 34) = false ∧ ((c.toNat : Int) == 92) = false ∧ (c :: []) ≠ [42] := fun h => by
    have : c.toNat = 45 := by simp at h; omega
    refine ⟨by rw [this]; decide, by rw [this]; decide, by rw [this]; decide, fun he => ?_⟩
    simp at he; subst he; simp at this
  have h33 : ((c.toNat : Int) == 61) = true → wordB c.toNat = false ∧ ((c.toNat : Int) == 34) = false ∧ ((c.toNat : Int) == 92) = false ∧ (c :: []) ≠ [42] := fun h => by
    have : c.toNat = 61 := by simp at h; omega
    refine ⟨by rw [this]; decide, by rw [this]; decide, by rw [this]; decide, fun he => ?_⟩
    simp at he; subst he; simp at this
  have hs2 : (s.take (i + 2)).drop i = sub s i 2 := rfl
  have hstar : i + 1 < s.length → (c :: []) ≠ [42] → (sub s i 2 == [42, 41]) = false := fun h h' => by
    rw [sub_eq, List.drop_eq_getElem_cons hi, List.drop_eq_getElem_cons h, hc]
    simp only [List.take_succ_cons, List.take_zero]
    cases he : ([c, s[i + 1]] == [42, 41])
    · rfl
    · exfalso; apply h'; simp at he; rw [he.1]
  cases h1 : (((c.toNat : Int) == 45 || (c.toNat : Int) == 61) && decide ((sm : Int) > 3))
  · rw [h1] at hX
    simp only [Bool.false_eq_true, if_false] at hX
    have final : ∀ (code : Code) (t : Tmps) (m : Mem) (K : Ex → Tmps → Mem → Option (AV × List (Nat × Box))), True := fun _ _ _ _ => trivial
    cases hA : ((c.toNat : Int) == 45)
    · cases hB : ((c.toNat : Int) == 61)
      · cases h2 : wordB c.toNat
        · rw [h2] at hX
          simp only [Bool.false_eq_true, if_false] at hX
          cases h3 : ((c.toNat : Int) == 34)
          · rw [h3] at hX
            simp only [Bool.false_eq_true, if_false] at hX
            by_cases h4 : i + 1 < s.length
            · have h4' : i + 2 ≤ s.length := by omega
              have hg1 : s.getD (i + 1) 0 = s[i + 1] := by simp [List.getD_eq_getElem?_getD, h4]
              cases h5 : (sub s i 2 == [42, 41])
              · simp only [h4, h5, hg1, decide_true, Bool.true_and, Bool.false_eq_true, if_false] at hX
                cases h6 : ((c.toNat : Int) == 92)
                · simp only [h6, Bool.false_and, Bool.false_eq_true, if_false] at hX
                  simp [-Int.natCast_add, hi, hc, hA, hB, h2, h3, h4, h4', h5, h6, wl, wa, wb, hmin, part_ev, aslice, abound, hs2, aminmax]
                  refine loop_by (fun n => n) (fun (n : Nat) t m => n ≤ 3 ∧ n ≤ s.length - i ∧ symTry s i n = V ∧ clean (lvAt 18) t m = headS [(0, .str s), (1, .int .i64 i), (4, .ptr 500004 0), (7, .int .i64 n)] [(500004, [.int .i64 0, .int .i64 0, .int .i64 0])]) ?_ (min 3 (s.length - i)) ?_
                  · rintro n t m ⟨hn1, hn2, hr, hS⟩ ih
                    refine round_of hS ?_
                    cases n with
                    | zero =>
                      simp only [symTry] at hr
                      subst hr
                      simp [-Int.natCast_add, piece]
                    | succ n =>
                      have hsn := sym_has (sub s i (n + 1))
                      have u1 : IntKind.i64.wrap ((i : Int) + ((n + 1 : Nat) : Int)) = ((i + (n + 1) : Nat) : Int) := by rw [wrap_i64 (by omega) (by omega)]; omega
                      have u2 : IntKind.i64.wrap (((n + 1 : Nat) : Int) - 1) = (n : Int) := by rw [wrap_i64 (by omega) (by omega)]; omega
                      have u3 : (s.take (i + (n + 1))).drop i = sub s i (n + 1) := rfl
                      have u4 : i + (n + 1) ≤ s.length := by omega
                      have u5 : (0 : Int) < ((n + 1 : Nat) : Int) := by omega
                      have u6 : i ≤ i + (n + 1) := by omega
                      simp only [symTry] at hr
                      generalize sub s i (n + 1) = y at hsn u3 hr
                      cases hy : isSym y
                      · rw [hy] at hr hsn
                        simp only [Bool.false_eq_true, if_false] at hr
                        simp [-Int.natCast_add, u1, u2, u3, u4, u5, u6, hsy, hsn, aslice, abound]
                        refine ih n _ _ (by omega) ⟨by omega, by omega, hr, ?_⟩
                        simp [-Int.natCast_add, lvAt]
                      · rw [hy] at hr hsn
                        simp only [if_true] at hr
                        subst hr
                        simp [-Int.natCast_add, u1, u2, u3, u4, u5, u6, hsy, hsn, aslice, abound, piece]
                  · refine ⟨by omega, by omega, hX, ?_⟩
                    simp [-Int.natCast_add, lvAt]
                · cases h7 : letterB s[i + 1].toNat
                  · simp only [h6, h7, Bool.and_false, Bool.false_eq_true, if_false] at hX
                    simp [-Int.natCast_add, hi, hc, hA, hB, h2, h3, h4, h4', h5, h6, h7, wl, wa, wb, hmin, part_ev, rletter_ev, aslice, abound, hs2, aminmax]
                    refine loop_by (fun n => n) (fun (n : Nat) t m => n ≤ 3 ∧ n ≤ s.length - i ∧ symTry s i n = V ∧ clean (lvAt 18) t m = headS [(0, .str s), (1, .int .i64 i), (4, .ptr 500004 0), (7, .int .i64 n)] [(500004, [.int .i64 0, .int .i64 0, .int .i64 0])]) ?_ (min 3 (s.length - i)) ?_
                    · rintro n t m ⟨hn1, hn2, hr, hS⟩ ih
                      refine round_of hS ?_
                      cases n with
                      | zero =>
                        simp only [symTry] at hr
                        subst hr
                        simp [-Int.natCast_add, piece]
                      | succ n =>
                        have hsn := sym_has (sub s i (n + 1))
                        have u1 : IntKind.i64.wrap ((i : Int) + ((n + 1 : Nat) : Int)) = ((i + (n + 1) : Nat) : Int) := by rw [wrap_i64 (by omega) (by omega)]; omega
                        have u2 : IntKind.i64.wrap (((n + 1 : Nat) : Int) - 1) = (n : Int) := by rw [wrap_i64 (by omega) (by omega)]; omega
                        have u3 : (s.take (i + (n + 1))).drop i = sub s i (n + 1) := rfl
                        have u4 : i + (n + 1) ≤ s.length := by omega
                        have u5 : (0 : Int) < ((n + 1 : Nat) : Int) := by omega
                        have u6 : i ≤ i + (n + 1) := by omega
                        simp only [symTry] at hr
                        generalize sub s i (n + 1) = y at hsn u3 hr
                        cases hy : isSym y
                        · rw [hy] at hr hsn
                          simp only [Bool.false_eq_true, if_false] at hr
                          simp [-Int.natCast_add, u1, u2, u3, u4, u5, u6, hsy, hsn, aslice, abound]
                          refine ih n _ _ (by omega) ⟨by omega, by omega, hr, ?_⟩
                          simp [-Int.natCast_add, lvAt]
                        · rw [hy] at hr hsn
                          simp only [if_true] at hr
                          subst hr
                          simp [-Int.natCast_add, u1, u2, u3, u4, u5, u6, hsy, hsn, aslice, abound, piece]
                    · refine ⟨by omega, by omega, hX, ?_⟩
                      simp [-Int.natCast_add, lvAt]
                  · simp only [h6, h7, Bool.and_true, if_true] at hX
                    simp [-Int.natCast_add, hi, hc, hA, hB, h2, h3, h4, h4', h5, h6, h7, wl, wa, wb, hmin, part_ev, rletter_ev, aslice, abound, hs2, aminmax]
                    have hRl := run_le (fun b => letterB b.toNat) (s.drop (i + 1))
                    generalize hR : run (fun b => letterB b.toNat) (s.drop (i + 1)) = R at hX hRl
                    rw [List.length_drop] at hRl
                    refine loop_by (fun k => R - k) (fun (k : Nat) t m => k ≤ R ∧ R = k + run (fun b => letterB b.toNat) (s.drop (i + 1 + k)) ∧ clean (lvAt 12) t m = headS [(0, .str s), (1, .int .i64 i), (4, .ptr 500004 0), (6, .int .i64 ((i + 1 + k : Nat) : Int))] [(500004, [.int .i64 0, .int .i64 0, .int .i64 0])]) ?_ 0 ?_
                    · rintro k t m ⟨hk, hr, hS⟩ ih
                      refine round_of hS ?_
                      have u1 : IntKind.i64.wrap (((i + 1 + k : Nat) : Int) + 1) = ((i + 1 + (k + 1) : Nat) : Int) := by rw [wrap_i64 (by omega) (by omega)]; omega
                      have stop : k = R → ∀ X : Option (AV × List (Nat × Box)), X = X := fun _ _ => rfl
                      by_cases h8 : i + 1 + k < s.length
                      · have hd := run_drop (fun b => letterB b.toNat) s (i + 1 + k) h8
                        cases h9 : letterB s[i + 1 + k].toNat
                        · rw [h9] at hd
                          have hkR : k = R := by simp at hd; omega
                          subst hkR
                          have u2 : IntKind.i64.wrap (((i + 1 + k : Nat) : Int) - i) = ((k + 1 : Nat) : Int) := by rw [wrap_i64 (by omega) (by omega)]; omega
                          have u3 : (s.take (i + 1 + k)).drop i = sub s i (k + 1) := by unfold sub; rw [show i + (k + 1) = i + 1 + k by omega]
                          have u4 : i + 1 + k ≤ s.length := by omega
                          have u6 : i ≤ i + 1 + k := by omega
                          have hsn := sym_has (sub s i (k + 1))
                          generalize sub s i (k + 1) = y at hsn u3 hX
                          cases hy : isSym y <;> rw [hy] at hX hsn <;> simp [-Int.natCast_add] at hX <;> subst hX <;> simp [-Int.natCast_add, h8, h9, u2, u3, u4, u6, hsy, hsn, rletter_ev, aslice, abound, piece]
                        · rw [h9] at hd
                          have hd : run (fun b => letterB b.toNat) (s.drop (i + 1 + k)) = run (fun b => letterB b.toNat) (s.drop (i + 1 + k + 1)) + 1 := by simpa using hd
                          simp [-Int.natCast_add, h8, h9, u1, rletter_ev]
                          refine ih (k + 1) _ _ (by omega) ⟨by omega, by rw [show i + 1 + (k + 1) = i + 1 + k + 1 by omega]; omega, ?_⟩
                          simp [-Int.natCast_add, lvAt]
                      · have hkR : k = R := by omega
                        subst hkR
                        have u2 : IntKind.i64.wrap (((i + 1 + k : Nat) : Int) - i) = ((k + 1 : Nat) : Int) := by rw [wrap_i64 (by omega) (by omega)]; omega
                        have u3 : (s.take (i + 1 + k)).drop i = sub s i (k + 1) := by unfold sub; rw [show i + (k + 1) = i + 1 + k by omega]
                        have u4 : i + 1 + k ≤ s.length := by omega
                        have u6 : i ≤ i + 1 + k := by omega
                        have hsn := sym_has (sub s i (k + 1))
                        generalize sub s i (k + 1) = y at hsn u3 hX
                        cases hy : isSym y <;> rw [hy] at hX hsn <;> simp [-Int.natCast_add] at hX <;> subst hX <;> simp [-Int.natCast_add, h8, u2, u3, u4, u6, hsy, hsn, rletter_ev, aslice, abound, piece]
                    · refine ⟨by omega, by simpa using hR.symm, ?_⟩
                      simp [-Int.natCast_add, lvAt]
              · simp only [h4, h5, decide_true, Bool.true_and, if_true] at hX
                subst hX
                simp [-Int.natCast_add, hi, hc, hA, hB, h2, h3, h4, h4', h5, wl, wa, wb, part_ev, aslice, abound, hs2, piece]
            · simp only [h4, decide_false, Bool.false_and, Bool.and_false, Bool.false_eq_true, if_false] at hX
              cases h6 : ((c.toNat : Int) == 92)
              · simp [-Int.natCast_add, hi, hc, hA, hB, h2, h3, h4, h6, wl, wa, wb, hmin, part_ev, aslice, abound, aminmax]
                refine loop_by (fun n => n) (fun (n : Nat) t m => n ≤ 3 ∧ n ≤ s.length - i ∧ symTry s i n = V ∧ clean (lvAt 18) t m = headS [(0, .str s), (1, .int .i64 i), (4, .ptr 500004 0), (7, .int .i64 n)] [(500004, [.int .i64 0, .int .i64 0, .int .i64 0])]) ?_ (min 3 (s.length - i)) ?_
                · rintro n t m ⟨hn1, hn2, hr, hS⟩ ih
                  refine round_of hS ?_
                  cases n with
                  | zero =>
                    simp only [symTry] at hr
                    subst hr
                    simp [-Int.natCast_add, piece]
                  | succ n =>
                    have hsn := sym_has (sub s i (n + 1))
                    have u1 : IntKind.i64.wrap ((i : Int) + ((n + 1 : Nat) : Int)) = ((i + (n + 1) : Nat) : Int) := by rw [wrap_i64 (by omega) (by omega)]; omega
                    have u2 : IntKind.i64.wrap (((n + 1 : Nat) : Int) - 1) = (n : Int) := by rw [wrap_i64 (by omega) (by omega)]; omega
                    have u3 : (s.take (i + (n + 1))).drop i = sub s i (n + 1) := rfl
                    have u4 : i + (n + 1) ≤ s.length := by omega
                    have u5 : (0 : Int) < ((n + 1 : Nat) : Int) := by omega
                    have u6 : i ≤ i + (n + 1) := by omega
                    simp only [symTry] at hr
                    generalize sub s i (n + 1) = y at hsn u3 hr
                    cases hy : isSym y
                    · rw [hy] at hr hsn
                      simp only [Bool.false_eq_true, if_false] at hr
                      simp [-Int.natCast_add, u1, u2, u3, u4, u5, u6, hsy, hsn, aslice, abound]
                      refine ih n _ _ (by omega) ⟨by omega, by omega, hr, ?_⟩
                      simp [-Int.natCast_add, lvAt]
                    · rw [hy] at hr hsn
                      simp only [if_true] at hr
                      subst hr
                      simp [-Int.natCast_add, u1, u2, u3, u4, u5, u6, hsy, hsn, aslice, abound, piece]
                · refine ⟨by omega, by omega, hX, ?_⟩
                  simp [-Int.natCast_add, lvAt]
              · simp [-Int.natCast_add, hi, hc, hA, hB, h2, h3, h4, h6, wl, wa, wb, hmin, part_ev, aslice, abound, aminmax]
                refine loop_by (fun n => n) (fun (n : Nat) t m => n ≤ 3 ∧ n ≤ s.length - i ∧ symTry s i n = V ∧ clean (lvAt 18) t m = headS [(0, .str s), (1, .int .i64 i), (4, .ptr 500004 0), (7, .int .i64 n)] [(500004, [.int .i64 0, .int .i64 0, .int .i64 0])]) ?_ (min 3 (s.length - i)) ?_
                · rintro n t m ⟨hn1, hn2, hr, hS⟩ ih
                  refine round_of hS ?_
                  cases n with
                  | zero =>
                    simp only [symTry] at hr
                    subst hr
                    simp [-Int.natCast_add, piece]
                  | succ n =>
                    have hsn := sym_has (sub s i (n + 1))
                    have u1 : IntKind.i64.wrap ((i : Int) + ((n + 1 : Nat) : Int)) = ((i + (n + 1) : Nat) : Int) := by rw [wrap_i64 (by omega) (by omega)]; omega
                    have u2 : IntKind.i64.wrap (((n + 1 : Nat) : Int) - 1) = (n : Int) := by rw [wrap_i64 (by omega) (by omega)]; omega
                    have u3 : (s.take (i + (n + 1))).drop i = sub s i (n + 1) := rfl
                    have u4 : i + (n + 1) ≤ s.length := by omega
                    have u5 : (0 : Int) < ((n + 1 : Nat) : Int) := by omega
                    have u6 : i ≤ i + (n + 1) := by omega
                    simp only [symTry] at hr
                    generalize sub s i (n + 1) = y at hsn u3 hr
                    cases hy : isSym y
                    · rw [hy] at hr hsn
                      simp only [Bool.false_eq_true, if_false] at hr
                      simp [-Int.natCast_add, u1, u2, u3, u4, u5, u6, hsy, hsn, aslice, abound]
                      refine ih n _ _ (by omega) ⟨by omega, by omega, hr, ?_⟩
                      simp [-Int.natCast_add, lvAt]
                    · rw [hy] at hr hsn
                      simp only [if_true] at hr
                      subst hr
                      simp [-Int.natCast_add, u1, u2, u3, u4, u5, u6, hsy, hsn, aslice, abound, piece]
                · refine ⟨by omega, by omega, hX, ?_⟩
                  simp [-Int.natCast_add, lvAt]
          · rw [h3] at hX
            simp only [if_true] at hX
            subst hX
            simp [-Int.natCast_add, hi, hc, hA, hB, h2, h3, part_ev, hquot]
        · rw [h2] at hX
          simp only [if_true] at hX
          subst hX
          simp [-Int.natCast_add, hi, hc, hA, hB, h2, part_ev, hword]
      · obtain ⟨h2, h3, h6, h8⟩ := h33 hB
        have h9 : ¬ (3 : Int) < sm := by rw [hB] at h1; simpa using h1
        rw [h2, h3, h6] at hX
        simp only [Bool.false_and, Bool.false_eq_true, if_false] at hX
        by_cases h4 : i + 1 < s.length
        · have h4' : i + 2 ≤ s.length := by omega
          have h5 := hstar h4 h8
          simp only [h4, h5, decide_true, Bool.and_false, Bool.false_eq_true, if_false] at hX
          simp [-Int.natCast_add, hi, hc, hA, hB, h2, h3, h4, h4', h5, h6, h9, hsame, wl, wa, wb, hmin, part_ev, aslice, abound, hs2, aminmax]
          refine loop_by (fun n => n) (fun (n : Nat) t m => n ≤ 3 ∧ n ≤ s.length - i ∧ symTry s i n = V ∧ clean (lvAt 18) t m = headS [(0, .str s), (1, .int .i64 i), (4, .ptr 500004 0), (7, .int .i64 n)] [(500004, [.int .i64 0, .int .i64 0, .int .i64 0])]) ?_ (min 3 (s.length - i)) ?_
          · rintro n t m ⟨hn1, hn2, hr, hS⟩ ih
            refine round_of hS ?_
            cases n with
            | zero =>
              simp only [symTry] at hr
              subst hr
              simp [-Int.natCast_add, piece]
            | succ n =>
              have hsn := sym_has (sub s i (n + 1))
              have u1 : IntKind.i64.wrap ((i : Int) + ((n + 1 : Nat) : Int)) = ((i + (n + 1) : Nat) : Int) := by rw [wrap_i64 (by omega) (by omega)]; omega
              have u2 : IntKind.i64.wrap (((n + 1 : Nat) : Int) - 1) = (n : Int) := by rw [wrap_i64 (by omega) (by omega)]; omega
              have u3 : (s.take (i + (n + 1))).drop i = sub s i (n + 1) := rfl
              have u4 : i + (n + 1) ≤ s.length := by omega
              have u5 : (0 : Int) < ((n + 1 : Nat) : Int) := by omega
              have u6 : i ≤ i + (n + 1) := by omega
              simp only [symTry] at hr
              generalize sub s i (n + 1) = y at hsn u3 hr
              cases hy : isSym y
              · rw [hy] at hr hsn
                simp only [Bool.false_eq_true, if_false] at hr
                simp [-Int.natCast_add, u1, u2, u3, u4, u5, u6, hsy, hsn, aslice, abound]
                refine ih n _ _ (by omega) ⟨by omega, by omega, hr, ?_⟩
                simp [-Int.natCast_add, lvAt]
              · rw [hy] at hr hsn
                simp only [if_true] at hr
                subst hr
                simp [-Int.natCast_add, u1, u2, u3, u4, u5, u6, hsy, hsn, aslice, abound, piece]
          · refine ⟨by omega, by omega, hX, ?_⟩
            simp [-Int.natCast_add, lvAt]
        · simp only [h4, decide_false, Bool.false_and, Bool.and_false, Bool.false_eq_true, if_false] at hX
          simp [-Int.natCast_add, hi, hc, hA, hB, h2, h3, h4, h6, h9, hsame, wl, wa, wb, hmin, part_ev, aslice, abound, aminmax]
          refine loop_by (fun n => n) (fun (n : Nat) t m => n ≤ 3 ∧ n ≤ s.length - i ∧ symTry s i n = V ∧ clean (lvAt 18) t m = headS [(0, .str s), (1, .int .i64 i), (4, .ptr 500004 0), (7, .int .i64 n)] [(500004, [.int .i64 0, .int .i64 0, .int .i64 0])]) ?_ (min 3 (s.length - i)) ?_
          · rintro n t m ⟨hn1, hn2, hr, hS⟩ ih
            refine round_of hS ?_
            cases n with
            | zero =>
              simp only [symTry] at hr
              subst hr
              simp [-Int.natCast_add, piece]
            | succ n =>
              have hsn := sym_has (sub s i (n + 1))
              have u1 : IntKind.i64.wrap ((i : Int) + ((n + 1 : Nat) : Int)) = ((i + (n + 1) : Nat) : Int) := by rw [wrap_i64 (by omega) (by omega)]; omega
              have u2 : IntKind.i64.wrap (((n + 1 : Nat) : Int) - 1) = (n : Int) := by rw [wrap_i64 (by omega) (by omega)]; omega
              have u3 : (s.take (i + (n + 1))).drop i = sub s i (n + 1) := rfl
              have u4 : i + (n + 1) ≤ s.length := by omega
              have u5 : (0 : Int) < ((n + 1 : Nat) : Int) := by omega
              have u6 : i ≤ i + (n + 1) := by omega
              simp only [symTry] at hr
              generalize sub s i (n + 1) = y at hsn u3 hr
              cases hy : isSym y
              · rw [hy] at hr hsn
                simp only [Bool.false_eq_true, if_false] at hr
                simp [-Int.natCast_add, u1, u2, u3, u4, u5, u6, hsy, hsn, aslice, abound]
                refine ih n _ _ (by omega) ⟨by omega, by omega, hr, ?_⟩
                simp [-Int.natCast_add, lvAt]
              · rw [hy] at hr hsn
                simp only [if_true] at hr
                subst hr
                simp [-Int.natCast_add, u1, u2, u3, u4, u5, u6, hsy, hsn, aslice, abound, piece]
          · refine ⟨by omega, by omega, hX, ?_⟩
            simp [-Int.natCast_add, lvAt]
    · obtain ⟨h2, h3, h6, h8⟩ := h32 hA
      have h9 : ¬ (3 : Int) < sm := by rw [hA] at h1; simpa using h1
      rw [h2, h3, h6] at hX
      simp only [Bool.false_and, Bool.false_eq_true, if_false] at hX
      by_cases h4 : i + 1 < s.length
      · have h4' : i + 2 ≤ s.length := by omega
        have h5 := hstar h4 h8
        simp only [h4, h5, decide_true, Bool.and_false, Bool.false_eq_true, if_false] at hX
        simp [-Int.natCast_add, hi, hc, hA, h2, h3, h4, h4', h5, h6, h9, hsame, wl, wa, wb, hmin, part_ev, aslice, abound, hs2, aminmax]
        refine loop_by (fun n => n) (fun (n : Nat) t m => n ≤ 3 ∧ n ≤ s.length - i ∧ symTry s i n = V ∧ clean (lvAt 18) t m = headS [(0, .str s), (1, .int .i64 i), (4, .ptr 500004 0), (7, .int .i64 n)] [(500004, [.int .i64 0, .int .i64 0, .int .i64 0])]) ?_ (min 3 (s.length - i)) ?_
        · rintro n t m ⟨hn1, hn2, hr, hS⟩ ih
          refine round_of hS ?_
          cases n with
          | zero =>
            simp only [symTry] at hr
            subst hr
            simp [-Int.natCast_add, piece]
          | succ n =>
            have hsn := sym_has (sub s i (n + 1))
            have u1 : IntKind.i64.wrap ((i : Int) + ((n + 1 : Nat) : Int)) = ((i + (n + 1) : Nat) : Int) := by rw [wrap_i64 (by omega) (by omega)]; omega
            have u2 : IntKind.i64.wrap (((n + 1 : Nat) : Int) - 1) = (n : Int) := by rw [wrap_i64 (by omega) (by omega)]; omega
            have u3 : (s.take (i + (n + 1))).drop i = sub s i (n + 1) := rfl
            have u4 : i + (n + 1) ≤ s.length := by omega
            have u5 : (0 : Int) < ((n + 1 : Nat) : Int) := by omega
            have u6 : i ≤ i + (n + 1) := by omega
            simp only [symTry] at hr
            generalize sub s i (n + 1) = y at hsn u3 hr
            cases hy : isSym y
            · rw [hy] at hr hsn
              simp only [Bool.false_eq_true, if_false] at hr
              simp [-Int.natCast_add, u1, u2, u3, u4, u5, u6, hsy, hsn, aslice, abound]
              refine ih n _ _ (by omega) ⟨by omega, by omega, hr, ?_⟩
              simp [-Int.natCast_add, lvAt]
            · rw [hy] at hr hsn
              simp only [if_true] at hr
              subst hr
              simp [-Int.natCast_add, u1, u2, u3, u4, u5, u6, hsy, hsn, aslice, abound, piece]
        · refine ⟨by omega, by omega, hX, ?_⟩
          simp [-Int.natCast_add, lvAt]
      · simp only [h4, decide_false, Bool.false_and, Bool.and_false, Bool.false_eq_true, if_false] at hX
        simp [-Int.natCast_add, hi, hc, hA, h2, h3, h4, h6, h9, hsame, wl, wa, wb, hmin, part_ev, aslice, abound, aminmax]
        refine loop_by (fun n => n) (fun (n : Nat) t m => n ≤ 3 ∧ n ≤ s.length - i ∧ symTry s i n = V ∧ clean (lvAt 18) t m = headS [(0, .str s), (1, .int .i64 i), (4, .ptr 500004 0), (7, .int .i64 n)] [(500004, [.int .i64 0, .int .i64 0, .int .i64 0])]) ?_ (min 3 (s.length - i)) ?_
        · rintro n t m ⟨hn1, hn2, hr, hS⟩ ih
          refine round_of hS ?_
          cases n with
          | zero =>
            simp only [symTry] at hr
            subst hr
            simp [-Int.natCast_add, piece]
          | succ n =>
            have hsn := sym_has (sub s i (n + 1))
            have u1 : IntKind.i64.wrap ((i : Int) + ((n + 1 : Nat) : Int)) = ((i + (n + 1) : Nat) : Int) := by rw [wrap_i64 (by omega) (by omega)]; omega
            have u2 : IntKind.i64.wrap (((n + 1 : Nat) : Int) - 1) = (n : Int) := by rw [wrap_i64 (by omega) (by omega)]; omega
            have u3 : (s.take (i + (n + 1))).drop i = sub s i (n + 1) := rfl
            have u4 : i + (n + 1) ≤ s.length := by omega
            have u5 : (0 : Int) < ((n + 1 : Nat) : Int) := by omega
            have u6 : i ≤ i + (n + 1) := by omega
            simp only [symTry] at hr
            generalize sub s i (n + 1) = y at hsn u3 hr
            cases hy : isSym y
            · rw [hy] at hr hsn
              simp only [Bool.false_eq_true, if_false] at hr
              simp [-Int.natCast_add, u1, u2, u3, u4, u5, u6, hsy, hsn, aslice, abound]
              refine ih n _ _ (by omega) ⟨by omega, by omega, hr, ?_⟩
              simp [-Int.natCast_add, lvAt]
            · rw [hy] at hr hsn
              simp only [if_true] at hr
              subst hr
              simp [-Int.natCast_add, u1, u2, u3, u4, u5, u6, hsy, hsn, aslice, abound, piece]
        · refine ⟨by omega, by omega, hX, ?_⟩
          simp [-Int.natCast_add, lvAt]
  · rw [h1] at hX
    simp only [if_true] at hX
    subst hX
    have h3 : (3 : Int) < sm := by simp only [Bool.and_eq_true, decide_eq_true_eq] at h1; exact h1.2
    cases h2 : ((c.toNat : Int) == 45)
    · have h4 : ((c.toNat : Int) == 61) = true := by rw [h2] at h1; simp only [Bool.and_eq_true, Bool.false_or] at h1; exact h1.1
      simp [-Int.natCast_add, hi, hc, h2, h3, h4, hsame, piece]
    · simp [-Int.natCast_add, hi, hc, h2, h3, hsame, piece]
end Go.Proofs.YtlmmgblghgmgeaaGreatDoor
