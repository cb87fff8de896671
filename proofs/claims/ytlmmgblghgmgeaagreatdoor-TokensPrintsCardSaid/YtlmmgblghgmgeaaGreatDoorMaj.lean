/- The texts RefD, merged. -/
import Derived.Test.YtlmmgblghgmgeaaGreatDoorMai
import Derived.KernelRfl
set_option linter.unusedVariables false
set_option linter.unusedSimpArgs false
/- The reference's symbols, sorted, evaluated. -/
namespace Go.Proofs.YtlmmgblghgmgeaaGreatDoor
open Go Ev
set_option maxRecDepth 100000
set_option linter.unusedSimpArgs false
attribute [local simp] dFor_none storeFine_none dFor_no storeFine_no lessL lkL evCode_exit evCode_seq evCode_plain evCode_draw evCode_cond evCode_ret evCode_skip evCode_block evCode_loop roundK_normal roundK_exit roundK_ret seqK_normal seqK_exit seqK_ret blockK_normal blockK_exit blockK_ret regK_eq evOps_nil evOps_cons params astep okDst isWanted aop opnd ofValue putT abin headS ofL noPtr acall adopt_bool adopt_int adopt_str adopt_agg adopt_clip upd_false AV.cells partOf setCells fillC AV.isVal List.range List.range.loop ofB mayRead dsts planRo capIds viewed scalarR AV.scalar bare_undef bare_bool bare_int bare_str bare_snil bare_snone bare_sclip bare_srow bare_ptr bare_eptr bare_pnil bare_fn bare_fnil bare_agg bare_tup clean keepBoxes relabB relabL cleanS fixPtr cellsOfB namesOf row_undef row_bool row_int row_str row_snil row_snone row_sclip row_srow row_ptr row_eptr row_pnil row_fn row_fnil row_agg row_tup relab_undef relab_bool relab_int relab_str relab_snil relab_snone relab_sclip relab_srow relab_ptr relab_eptr relab_pnil relab_fn relab_fnil relab_agg relab_tup relab_sgrow passed setBoxes killNames addNames freshAll adopt resParts resBack boxName finK freezeT avAll resOf outBoxes AV.untup

/-- Where a text belongs among sorted ones. -/
def insAt (out : List Str) (x : Str) : Nat := (out.takeWhile fun y => Op.bytesLess y x).length
def ins (out : List Str) (x : Str) : List Str := out.take (insAt out x) ++ [x] ++ out.drop (insAt out x)
def allSyms : List Str := plainL ++ othersL.map (·.1)
def symL : List Str := allSyms.foldl ins []
theorem ins_len (out : List Str) (x : Str) : (ins out x).length = out.length + 1 := by
  unfold ins
  have : insAt out x ≤ out.length := (List.takeWhile_prefix _).length_le
  simp [List.length_take, List.length_drop]; omega
theorem foldl_ins_len : ∀ (l out : List Str), (l.foldl ins out).length = out.length + l.length
  | [], out => rfl
  | x :: l, out => by
    rw [List.foldl_cons, foldl_ins_len l, ins_len, List.length_cons]; omega
theorem foldl_take (l : List Str) (i : Nat) (h : i < l.length) : (l.take (i + 1)).foldl ins [] = ins ((l.take i).foldl ins []) l[i] := by
  rw [List.take_succ_eq_append_getElem h, List.foldl_append]; rfl
theorem tw_lt (out : List Str) (x : Str) (k : Nat) (h : k < out.length) (h1 : k < insAt out x) : Op.bytesLess out[k] x = true := by
  unfold insAt at h1
  have h2 : (out.takeWhile fun y => Op.bytesLess y x)[k] = out[k] := (List.takeWhile_prefix _).getElem h1
  have h3 : ∀ (l : List Str), ∀ y ∈ l.takeWhile (fun y => Op.bytesLess y x), Op.bytesLess y x = true := fun l => by
    induction l with
    | nil => intro y hy; simp at hy
    | cons a l ih =>
      intro y hy
      rw [List.takeWhile_cons] at hy
      split at hy
      · rcases List.mem_cons.1 hy with rfl | hy
        · assumption
        · exact ih y hy
      · simp at hy
  rw [← h2]
  exact h3 out _ (List.getElem_mem h1)
theorem tw_eq : ∀ (out : List Str) (x : Str) (h : insAt out x < out.length), Op.bytesLess out[insAt out x] x = false
  | [], x, h => by simp at h
  | a :: out, x, h => by
    cases h1 : Op.bytesLess a x
    · have : insAt (a :: out) x = 0 := by unfold insAt; rw [List.takeWhile_cons, h1]; rfl
      simp [this, h1]
    · have h2 : insAt (a :: out) x = insAt out x + 1 := by unfold insAt; rw [List.takeWhile_cons, h1]; simp
      have := tw_eq out x (by rw [h2] at h; simpa using h)
      simp [h2, this]
/-- A slice that its owner may go on with. -/
theorem rown_ev (l : List Str) (tk : Tok) (ht : Fx tk) (hl : l.length < 2 ^ 42) : evc plan 16 [.sl 1 (strs l) tk] [] = some (.sl 1 (strs l) (.row 999999 0), []) := own_ev l tk ht hl
theorem strs_append (a b : List Str) : strs a ++ strs b = strs (a ++ b) := by simp [strs]
theorem strs_take (l : List Str) (n : Nat) : (strs l).take n = strs (l.take n) := by simp [strs, List.map_take]
theorem strs_drop (l : List Str) (n : Nat) : (strs l).drop n = strs (l.drop n) := by simp [strs, List.map_drop]
theorem strs_len (l : List Str) : (strs l).length = l.length := by simp [strs]
theorem arr_pair : arrT Tryz.prog 104 = some (2, 1) := by kernel_rfl
theorem el_pair : elemT Tryz.prog 104 = none := by kernel_rfl
theorem pairs2_get (l : List (Str × Str)) (i : Nat) (h : i < l.length) (h' : i < (pairs2 l).length) : (pairs2 l)[i] = [.str l[i].2, .str l[i].1] := by simp [pairs2]
theorem strs_get' (l : List Str) (i : Nat) (h : i < l.length) (h' : i < (strs l).length) : (strs l)[i] = [.str l[i]] := by simp [strs]
theorem strs_snoc (l : List Str) (x : Str) : strs l ++ [[.str x]] = strs (l ++ [x]) := by simp [strs]
set_option maxHeartbeats 4000000 in
theorem symbols_ev : evc plan 31 [] [] = some (.sl 1 (strs symL) (.row 999999 0), []) := by
  refine evc_start plan (P := Tryz.prog) (ro := planRo) rfl rfl rfl rfl rfl rfl (by simp) rfl ?_
  have hs := signs_ev
  have ho := rothers_ev
  have l11 : othersL.length = 11 := rfl
  have l65 : plainL.length = 65 := rfl
  have lA : allSyms.length = 76 := rfl
  have hsy : symL = allSyms.foldl ins [] := rfl
  generalize symL = V at hsy ⊢
  have lp : (pairs2 othersL).length = 11 := by simp [pairs2, l11]
  have pg := pairs2_get othersL
  generalize hPP : pairs2 othersL = PP at ho lp pg
  simp [hs, ho]
  refine round_of (S := headS [(1, .sl 1 (strs plainL) .clip), (2, .sl 2 PP .clip), (3, .int .i64 0)] []) (show clean (lvSymbols 4) _ _ = _ by simp [lvSymbols]) ?_
  have ls0 : (strs plainL).length = 65 := by simp [strs, l65]
  have p0 := pg 0 (by omega) (by omega)
  simp [lp, ls0, aappend, arr_pair, el_pair, p0]
  refine loop_by (fun i => 11 - i) (fun (i : Nat) t m => 1 ≤ i ∧ i ≤ 11 ∧ clean (lvSymbols 4) t m = headS [(1, .sl 1 (strs (plainL ++ (othersL.map (·.1)).take i)) (.row 1000001 0)), (2, .sl 2 PP .clip), (3, .int .i64 i)] []) ?_ 1 ?_
  · intro i t m ⟨hi1, hi, hS⟩ ih
    refine round_of hS ?_
    by_cases h1 : i < 11
    · have pi := pg i (by omega) (by omega)
      have w1 : IntKind.i64.wrap ((i : Int) + 1) = ((i + 1 : Nat) : Int) := by rw [wrap_i64 (by omega) (by omega)]; omega
      have hb : ((strs (plainL ++ (othersL.map (·.1)).take i)).length + 1) * 16 ≤ 70368744177664 := by
        simp only [strs_len, List.length_append, List.length_take, List.length_map, l65, l11]; omega
      have hi11 : (i : Int) < 11 := by omega
      have e1 : strs (plainL ++ (othersL.map (·.1)).take i) ++ [[.str othersL[i].1]] = strs (plainL ++ (othersL.map (·.1)).take (i + 1)) := by
        rw [strs_snoc, List.append_assoc, List.take_succ_eq_append_getElem (by simpa [l11] using h1)]
        simp
        rfl
      generalize strs (plainL ++ (othersL.map (·.1)).take i) = Z at hb e1
      have hZ : Z ++ [[.str othersL[i].1]] = strs (plainL ++ (othersL.map (·.1)).take (i + 1)) := e1
      simp [-Int.natCast_add, lp, h1, hi11, w1, hb, pi, aappend, arr_pair, el_pair]
      refine ih (i + 1) _ _ (by omega) ⟨by omega, by omega, ?_⟩
      rw [← hZ]
      simp [-Int.natCast_add, lvSymbols]
      rfl
    · have hi11 : i = 11 := by omega
      subst hi11
      clear ih hS
      have eA : plainL ++ (othersL.map (·.1)).take 11 = allSyms := by
        unfold allSyms; rw [List.take_of_length_le (by simp [l11])]
      rw [eA]
      simp [lp]
      refine loop_by (fun q => 76 - q.1) (fun (q : Nat × List Str) t m => q.1 ≤ 76 ∧ q.2 = (allSyms.take q.1).foldl ins [] ∧ clean (lvSymbols 9) t m = headS [(1, .sl 1 (strs allSyms) (.row 1000001 0)), (4, .sl 1 (strs q.2) (.row 1000004 0)), (5, .int .i64 q.1)] []) ?_ (0, []) ?_
      · rintro ⟨i, O⟩ t m ⟨hi, hO, hS⟩ ih
        simp only at hi hO hS
        refine round_of hS ?_
        have lsA : (strs allSyms).length = 76 := by simp [strs, lA]
        by_cases h1 : i < 76
        · have hi' : (i : Int) < 76 := by omega
          have hol : O.length = i := by
            rw [hO, foldl_ins_len, List.length_take, lA]; simp; omega
          have hnext := foldl_take allSyms i (by omega)
          rw [← hO] at hnext
          simp [lsA, hi']
          have hat : insAt O allSyms[i] ≤ O.length := (List.takeWhile_prefix _).length_le
          generalize hx : allSyms[i]'(by omega) = x at hnext hat
          refine loop_by (fun k => insAt O x - k) (fun (k : Nat) t m => k ≤ insAt O x ∧ clean (lvSymbols 12) t m = headS [(1, .sl 1 (strs allSyms) (.row 1000001 0)), (4, .sl 1 (strs O) (.row 1000004 0)), (5, .int .i64 i), (6, .int .i64 k)] []) ?_ 0 ?_
          · intro k t m ⟨hk, hS⟩ ih2
            refine round_of hS ?_
            have w2 : IntKind.i64.wrap ((k : Int) + 1) = ((k + 1 : Nat) : Int) := by rw [wrap_i64 (by omega) (by omega)]; omega
            have w3 : IntKind.i64.wrap ((i : Int) + 1) = ((i + 1 : Nat) : Int) := by rw [wrap_i64 (by omega) (by omega)]; omega
            have gi := strs_get' allSyms i (by omega) (by rw [strs_len]; omega)
            rw [hx] at gi
            have hki : (k : Int) ≤ i := by omega
            by_cases h2 : k < insAt O x
            · have h3 : k < O.length := by omega
              have h4 := tw_lt O x k h3 h2
              have gk := strs_get' O k h3 (by rw [strs_len]; exact h3)
              have h3' : k < i := by omega
              simp [-Int.natCast_add, strs_len, lA, hol, h1, hi', h3, h3', h4, gi, gk, w2]
              refine ih2 (k + 1) _ _ (by omega) ⟨by omega, ?_⟩
              simp [-Int.natCast_add, lvSymbols]
            · have hkk : k = insAt O x := by omega
              have hres : ins O x = O.take k ++ [x] ++ O.drop k := by rw [hkk]; rfl
              have hown := own_ev (O.take k) .none fx_none (by rw [List.length_take]; omega)
              have e1 : strs (O.take k) ++ [[.str x]] = strs (O.take k ++ [x]) := strs_snoc _ _
              have e2 : strs (O.take k ++ [x]) ++ strs (O.drop k) = strs (ins O x) := by rw [strs_append, hres]
              have hb1 : ((strs (O.take k)).length + 1) * 16 ≤ 70368744177664 := by rw [strs_len, List.length_take]; omega
              have hb2 : ((strs (O.take k ++ [x])).length + (strs (O.drop k)).length) * 16 ≤ 70368744177664 := by
                rw [strs_len, strs_len, List.length_append, List.length_take, List.length_drop]; simp; omega
              have hkO : k ≤ O.length := by omega
              have hki' : k ≤ i := by omega
              have e3 : O.take i = O := List.take_of_length_le (by omega)
              have hmin : min k i = k := by omega
              have hb3 : (k + 1) * 16 ≤ 70368744177664 := by omega
              have hb4 : (k + 1 + (i - k)) * 16 ≤ 70368744177664 := by omega
              by_cases h5 : k < O.length
              · have h5' : k < i := by omega
                have h4 := tw_eq O x (by omega)
                have gk := strs_get' O k h5 (by rw [strs_len]; exact h5)
                have h4' : Op.bytesLess O[k] x = false := by subst hkk; exact h4
                simp [-Int.natCast_add, strs_len, lA, hol, h1, hi', h5, h5', h4', gi, gk, w2, w3, aslice, abound, hkO, hki', hmin, hb3, hb4, hown, strs_take, strs_drop, aappend, e1, e2]
                refine ih (i + 1, ins O x) _ _ (by simp only; omega) ⟨by simp only; omega, hnext.symm, ?_⟩
                simp [-Int.natCast_add, lvSymbols, e3, e2]
              · have h5' : ¬ k < i := by omega
                simp [-Int.natCast_add, strs_len, lA, hol, h1, hi', h5, h5', gi, w2, w3, aslice, abound, hkO, hki', hmin, hb3, hb4, hown, strs_take, strs_drop, aappend, e1, e2]
                refine ih (i + 1, ins O x) _ _ (by simp only; omega) ⟨by simp only; omega, hnext.symm, ?_⟩
                simp [-Int.natCast_add, lvSymbols, e3, e2]
          · refine ⟨by omega, ?_⟩
            simp [-Int.natCast_add, lvSymbols]
        · have hi76 : i = 76 := by omega
          subst hi76
          simp [lsA]
          rw [hsy, hO, List.take_of_length_le (by omega)]
      · refine ⟨by omega, rfl, ?_⟩
        simp [-Int.natCast_add, lvSymbols, strs]
  · refine ⟨by omega, by omega, ?_⟩
    have e1 : strs plainL ++ [[.str othersL[0].1]] = strs (plainL ++ (othersL.map (·.1)).take 1) := by
      rw [strs_snoc]; rfl
    rw [← e1]
    have w1 : IntKind.i64.wrap 1 = 1 := wrap_i64 (by omega) (by omega)
    simp [lvSymbols, w1]
end Go.Proofs.YtlmmgblghgmgeaaGreatDoor
