/- The texts RefF, merged. -/
import Derived.Test.YtlmmgblghgmgeaaGreatDoorMah
set_option linter.unusedVariables false
set_option linter.unusedSimpArgs false
/- The reference's comments, evaluated. -/
namespace Go.Proofs.YtlmmgblghgmgeaaGreatDoor
open Go Ev
set_option maxRecDepth 100000
set_option linter.unusedSimpArgs false
attribute [local simp] dFor_none storeFine_none dFor_no storeFine_no lessL lkL evCode_exit evCode_seq evCode_plain evCode_draw evCode_cond evCode_ret evCode_skip evCode_block evCode_loop roundK_normal roundK_exit roundK_ret seqK_normal seqK_exit seqK_ret blockK_normal blockK_exit blockK_ret regK_eq evOps_nil evOps_cons params astep okDst isWanted aop opnd ofValue putT abin headS ofL noPtr acall adopt_bool adopt_int adopt_str adopt_agg adopt_clip upd_false AV.cells partOf setCells fillC AV.isVal List.range List.range.loop ofB mayRead dsts planRo capIds viewed scalarR AV.scalar bare_undef bare_bool bare_int bare_str bare_snil bare_snone bare_sclip bare_srow bare_ptr bare_eptr bare_pnil bare_fn bare_fnil bare_agg bare_tup clean keepBoxes relabB relabL cleanS fixPtr cellsOfB namesOf row_undef row_bool row_int row_str row_snil row_snone row_sclip row_srow row_ptr row_eptr row_pnil row_fn row_fnil row_agg row_tup relab_undef relab_bool relab_int relab_str relab_snil relab_snone relab_sclip relab_srow relab_ptr relab_eptr relab_pnil relab_fn relab_fnil relab_agg relab_tup relab_sgrow passed setBoxes killNames addNames freshAll adopt resParts resBack boxName finK freezeT avAll resOf outBoxes AV.untup

/-- What two characters stand at a place, if there are two. -/
def two (s : Str) (j : Nat) : Str := if j + 1 < s.length then (s.take (j + 2)).drop j else []
/-- A comment, from a place in it on: has it ended, and where. -/
def refCom (l : List Str) : Nat → Nat → Nat → Int → Bool × Nat × Nat
  | 0, i, j, _ => (false, i, j)
  | n + 1, i, j, d =>
    if h : i < l.length then
      (if j < l[i].length then
        (if two l[i] j == [40, 42] then (if d + 1 == 0 then (true, i, j + 2) else refCom l n i (j + 2) (d + 1))
        else if two l[i] j == [42, 41] then (if d - 1 == 0 then (true, i, j + 2) else refCom l n i (j + 2) (d - 1))
        else if d == 0 then (true, i, j + 1) else refCom l n i (j + 1) d)
      else refCom l n (i + 1) 0 d)
    else (false, i, j)
theorem two_not (s : Str) (j : Nat) (h : two s j == [40, 42]) : (two s j == [42, 41]) = false := by
  have : two s j = [40, 42] := by simpa using h
  rw [this]; rfl
def place (i j : Int) : AV := .agg [.int .i64 i, .int .i64 j]
set_option maxHeartbeats 4000000 in
theorem rcomment_ev (l : List Str) (tk : Tok) (ht : Fx tk) (i j : Nat) (hl : l.length < 2 ^ 40) (hc : ∀ s ∈ l, s.length < 2 ^ 40) (hj : i < l.length → j ≤ lineLen l i) (n : Nat) (hn : left l i j < n) (hn2 : n < 2 ^ 60) :
    evc plan 73 [.sl 1 (strs l) tk, .agg [.int .i64 i, .int .i64 j]] [] = some (.tup [.agg [.int .i64 (refCom l n i j 0).2.1, .int .i64 (refCom l n i j 0).2.2], .bool (refCom l n i j 0).1], []) := by
  refine evc_start plan (P := Tryz.prog) (ro := planRo) rfl rfl rfl rfl rfl rfl (by simp) rfl ?_
  generalize hR : refCom l n i j 0 = R
  simp []
  refine loop_by (fun (q : Nat × Nat × Nat × Int) => q.1) (fun q t m => left l q.2.1 q.2.2.1 < q.1 ∧ q.2.2.2.natAbs + q.1 ≤ n ∧ (q.2.1 < l.length → q.2.2.1 ≤ lineLen l q.2.1) ∧ refCom l q.1 q.2.1 q.2.2.1 q.2.2.2 = R ∧ clean (lvCom 2) t m = headS [(0, .sl 1 (strs l) tk), (3, .ptr 500003 0), (4, .ptr 500004 0), (6, .int .i64 q.2.2.2)] [(500003, [.int .i64 q.2.1, .int .i64 q.2.2.1]), (500004, [.int .i64 0, .int .i64 0])]) ?_ (n, i, j, 0) ?_
  · rintro ⟨k, i, j, d⟩ t m ⟨hk, hd, hj, hr, hS⟩ ih
    simp only at hk hd hj hr hS ih
    refine round_of hS ?_
    by_cases h1 : i < l.length
    · have hj := hj h1
      have hle := lineLen_eq l i h1
      have hll := hc l[i] (List.getElem_mem h1)
      have ge := fun (h' : i < (strs l).length) => (show (strs l)[i] = [.str l[i]] by simp [strs])
      have hsl : (strs l).length = l.length := by simp [strs]
      simp [-Int.natCast_add, hsl, h1, ge]
      refine loop_by (fun (q : Nat × Nat × Int) => q.1) (fun q t m => q.1 ≤ k ∧ left l i q.2.1 < q.1 ∧ q.2.2.natAbs + q.1 ≤ n ∧ q.2.1 ≤ lineLen l i ∧ refCom l q.1 i q.2.1 q.2.2 = R ∧ clean (lvCom 4) t m = headS [(0, .sl 1 (strs l) tk), (3, .ptr 500003 0), (4, .ptr 500004 0), (6, .int .i64 q.2.2), (7, .str l[i])] [(500003, [.int .i64 i, .int .i64 q.2.1]), (500004, [.int .i64 0, .int .i64 0])]) ?_ (k, j, d) ?_
      · rintro ⟨k', j, d⟩ t m ⟨hkk, hk, hd, hj, hr, hS⟩ ih2
        simp only at hkk hk hd hj hr hS ih2
        refine round_of hS ?_
        obtain ⟨k', rfl⟩ : ∃ k'', k' = k'' + 1 := ⟨k' - 1, by omega⟩
        rw [refCom, dif_pos h1] at hr
        have w1 : IntKind.i64.wrap ((j : Int) + 1) = ((j + 1 : Nat) : Int) := by rw [wrap_i64 (by omega) (by omega)]; omega
        have w2 : IntKind.i64.wrap ((j : Int) + 2) = ((j + 2 : Nat) : Int) := by rw [wrap_i64 (by omega) (by omega)]; omega
        have w3 : IntKind.i64.wrap (d + 1) = d + 1 := wrap_i64 (by omega) (by omega)
        have w4 : IntKind.i64.wrap (d - 1) = d - 1 := wrap_i64 (by omega) (by omega)
        have w5 : IntKind.i64.wrap (((j + 1 : Nat) : Int) + 1) = ((j + 2 : Nat) : Int) := by rw [wrap_i64 (by omega) (by omega)]; omega
        have w6 : IntKind.i64.wrap (((j + 1 : Nat) : Int) + 0) = ((j + 1 : Nat) : Int) := by rw [wrap_i64 (by omega) (by omega)]; omega
        have w6' : IntKind.i64.wrap ((j + 1 : Nat) : Int) = ((j + 1 : Nat) : Int) := wrap_i64 (by omega) (by omega)
        have w7 : IntKind.i64.wrap ((i : Int) + 1) = ((i + 1 : Nat) : Int) := by rw [wrap_i64 (by omega) (by omega)]; omega
        by_cases h2 : j < l[i].length
        · rw [if_pos h2] at hr
          have o1 : evc plan 94 [.bool true] [] = some (.int .i64 1, []) := one_ev true
          have o0 : evc plan 94 [.bool false] [] = some (.int .i64 0, []) := one_ev false
          by_cases h3 : j + 1 < l[i].length
          · have h3' : j + 2 ≤ l[i].length := by omega
            have e2 : two l[i] j = (l[i].take (j + 2)).drop j := by unfold two; rw [if_pos h3]
            have htn := two_not l[i] j
            rw [e2] at hr htn
            have hls2 := left_step l i j 2 h1 (by omega)
            have hls1 := left_step l i j 1 h1 (by omega)
            generalize hx : (l[i].take (j + 2)).drop j = x at hr htn
            cases hA : x == [40, 42]
            · cases hB : x == [42, 41]
              · simp only [hA, hB, Bool.false_eq_true, if_false] at hr
                cases hd0 : (d == 0)
                · simp only [hd0, Bool.false_eq_true, if_false] at hr
                  simp [-Int.natCast_add, h2, h3, h3', hx, hA, hB, hd0, w1, w2, w3, w4, w5, w6, w6', o0, o1, aslice, abound]
                  refine ih2 (k', j + 1, d) _ _ (by simp only; omega) ⟨by simp only; omega, by simp only; omega, by simp only; omega, by simp only; omega, hr, ?_⟩
                  simp [-Int.natCast_add, lvCom, bare_fx ht, row_fx ht, relab_fx ht]
                · simp only [hd0, if_true] at hr
                  subst hr
                  simp [-Int.natCast_add, h2, h3, h3', hx, hA, hB, hd0, w1, w2, w3, w4, w5, w6, w6', o0, o1, aslice, abound]
              · simp only [hA, hB, Bool.false_eq_true, if_false, if_true] at hr
                cases hd0 : (d - 1 == 0)
                · simp only [hd0, Bool.false_eq_true, if_false] at hr
                  simp [-Int.natCast_add, h2, h3, h3', hx, hA, hB, hd0, w1, w2, w3, w4, w5, w6, w6', o0, o1, aslice, abound]
                  refine ih2 (k', j + 2, d - 1) _ _ (by simp only; omega) ⟨by simp only; omega, by simp only; omega, by simp only; omega, by simp only; omega, hr, ?_⟩
                  simp [-Int.natCast_add, lvCom, bare_fx ht, row_fx ht, relab_fx ht]
                · simp only [hd0, if_true] at hr
                  subst hr
                  simp [-Int.natCast_add, h2, h3, h3', hx, hA, hB, hd0, w1, w2, w3, w4, w5, w6, w6', o0, o1, aslice, abound]
            · have hB := htn hA
              simp only [hA, if_true] at hr
              cases hd0 : (d + 1 == 0)
              · simp only [hd0, Bool.false_eq_true, if_false] at hr
                simp [-Int.natCast_add, h2, h3, h3', hx, hA, hB, hd0, w1, w2, w3, w4, w5, w6, w6', o0, o1, aslice, abound]
                refine ih2 (k', j + 2, d + 1) _ _ (by simp only; omega) ⟨by simp only; omega, by simp only; omega, by simp only; omega, by simp only; omega, hr, ?_⟩
                simp [-Int.natCast_add, lvCom, bare_fx ht, row_fx ht, relab_fx ht]
              · simp only [hd0, if_true] at hr
                subst hr
                simp [-Int.natCast_add, h2, h3, h3', hx, hA, hB, hd0, w1, w2, w3, w4, w5, w6, w6', o0, o1, aslice, abound]
          · have e2 : two l[i] j = [] := by unfold two; rw [if_neg h3]
            rw [e2] at hr
            have hA : (([] : Str) == [40, 42]) = false := rfl
            have hB : (([] : Str) == [42, 41]) = false := rfl
            have hls1 := left_step l i j 1 h1 (by omega)
            simp only [hA, hB, Bool.false_eq_true, if_false] at hr
            cases hd0 : (d == 0)
            · simp only [hd0, Bool.false_eq_true, if_false] at hr
              simp [-Int.natCast_add, h2, h3, hd0, w1, w6, w6', o0]
              refine ih2 (k', j + 1, d) _ _ (by simp only; omega) ⟨by simp only; omega, by simp only; omega, by simp only; omega, by simp only; omega, hr, ?_⟩
              simp [-Int.natCast_add, lvCom, bare_fx ht, row_fx ht, relab_fx ht]
            · simp only [hd0, if_true] at hr
              subst hr
              simp [-Int.natCast_add, h2, h3, hd0, w1, w6, w6', o0]
        · rw [if_neg h2] at hr
          have hlt := left_turn l i j h1 hj
          simp [-Int.natCast_add, h2, w7]
          refine ih (k', i + 1, 0, d) _ _ (by simp only; omega) ⟨by simp only; omega, by simp only; omega, fun _ => Nat.zero_le _, hr, ?_⟩
          simp [-Int.natCast_add, lvCom, bare_fx ht, row_fx ht, relab_fx ht]
      · refine ⟨Nat.le_refl _, hk, hd, hj, hr, ?_⟩
        simp [-Int.natCast_add, lvCom, bare_fx ht, row_fx ht, relab_fx ht]
    · obtain ⟨k, rfl⟩ : ∃ k', k = k' + 1 := ⟨k - 1, by omega⟩
      rw [refCom, dif_neg h1] at hr
      subst hr
      have hsl : (strs l).length = l.length := by simp [strs]
      simp [-Int.natCast_add, hsl, h1]
  · refine ⟨hn, by simp, hj, hR, ?_⟩
    simp [-Int.natCast_add, lvCom, bare_fx ht, row_fx ht, relab_fx ht]
end Go.Proofs.YtlmmgblghgmgeaaGreatDoor
