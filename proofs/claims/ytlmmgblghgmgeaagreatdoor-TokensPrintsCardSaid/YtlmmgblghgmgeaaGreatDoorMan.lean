/- The texts RefH, merged. -/
import Derived.Test.YtlmmgblghgmgeaaGreatDoorMam
set_option linter.unusedVariables false
set_option linter.unusedSimpArgs false
/- The reference reads a text, evaluated. -/
namespace Go.Proofs.YtlmmgblghgmgeaaGreatDoor
open Go Ev
set_option maxRecDepth 100000
set_option linter.unusedSimpArgs false
attribute [local simp] dFor_none storeFine_none dFor_no storeFine_no lessL lkL evCode_exit evCode_seq evCode_plain evCode_draw evCode_cond evCode_ret evCode_skip evCode_block evCode_loop roundK_normal roundK_exit roundK_ret seqK_normal seqK_exit seqK_ret blockK_normal blockK_exit blockK_ret regK_eq evOps_nil evOps_cons params astep okDst isWanted aop opnd ofValue putT abin headS ofL noPtr acall adopt_bool adopt_int adopt_str adopt_agg adopt_clip upd_false AV.cells partOf setCells fillC AV.isVal List.range List.range.loop ofB mayRead dsts planRo capIds viewed scalarR AV.scalar bare_undef bare_bool bare_int bare_str bare_snil bare_snone bare_sclip bare_srow bare_ptr bare_eptr bare_pnil bare_fn bare_fnil bare_agg bare_tup clean keepBoxes relabB relabL cleanS fixPtr cellsOfB namesOf row_undef row_bool row_int row_str row_snil row_snone row_sclip row_srow row_ptr row_eptr row_pnil row_fn row_fnil row_agg row_tup relab_undef relab_bool relab_int relab_str relab_snil relab_snone relab_sclip relab_srow relab_ptr relab_eptr relab_pnil relab_fn relab_fnil relab_agg relab_tup relab_sgrow passed setBoxes killNames addNames freshAll adopt resParts resBack boxName finK freezeT avAll resOf outBoxes AV.untup

def textAV (R : Int × St) : AV := .agg [.sl 4 (R.2.ts.map tkC) .none, .sl 4 (R.2.cs.map spC) .none, .int .i64 (if R.1 = 0 then 0 else R.2.i), .int .i64 (if R.1 = 0 then 0 else R.2.j), .int .i64 R.1]
set_option maxHeartbeats 8000000 in
theorem ahead_ev (l : List Str) (tk : Tok) (ht : Fx tk) (hl : l.length < 2 ^ 40) (hc : ∀ s ∈ l, s.length < 2 ^ 40) (hT : total l < 2 ^ 39) : evc plan 45 [.sl 1 (strs l) tk] [] = some (textAV (refAll l), []) := by
  refine evc_start plan (P := Tryz.prog) (ro := planRo) rfl rfl rfl rfl rfl rfl (by simp) rfl ?_
  have hst := RefInv.start l
  generalize refAll l = R at hst ⊢
  simp []
  refine loop_by (fun (q : Nat × St) => q.1) (fun q t m => RefInv l R q ∧ clean (lvAhead 3) t m = headS [(0, .sl 1 (strs l) tk), (2, .ptr 500002 0), (3, .ptr 500003 0), (4, .ptr 500004 0)]
    [(500002, [.sl 0 [] .nil, .sl 0 [] .nil, .int .i64 0, .int .i64 0, .int .i64 0]), (500003, [.sl 4 (q.2.ts.map tkC) (.row 1500003 1), .sl 4 (q.2.cs.map spC) (.row 1500003 2), .int .i64 0, .int .i64 0, .int .i64 0]), (500004, [.int .i64 q.2.i, .int .i64 q.2.j])]) ?_ (total l + 1, st0) ?_
  · rintro ⟨k, s⟩ t m ⟨hI, hS⟩ ih
    refine round_of hS ?_
    have hsl : (strs l).length = l.length := by simp [strs]
    by_cases h1 : s.i < l.length
    · have hok := hI.1
      have hjl := hok.j h1
      have hn := hok.n
      have hle := lineLen_eq l s.i h1
      have hll := hc l[s.i] (List.getElem_mem h1)
      have hg : l.getD s.i [] = l[s.i] := by simp [List.getD_eq_getElem?_getD, h1]
      have ge := fun (h' : s.i < (strs l).length) => (show (strs l)[s.i] = [.str l[s.i]] by simp [strs])
      have hstep : refStep l (total l + 1) s = refStep l (total l + 1) s := rfl
      have hstop := fun h => hI.stop h1 h
      have hgo := fun h => hI.step h1 h
      simp only at hok hjl hn hstop hgo
      generalize hN : refStep l (total l + 1) s = N at hstop hgo
      unfold refStep at hN
      rw [hg, hle] at hN
      obtain ⟨i, j, ts, cs⟩ := s
      simp only at h1 hjl hn hle hll hg ge hN ih hS ⊢
      have w1 : IntKind.i64.wrap ((i : Int) + 1) = ((i + 1 : Nat) : Int) := by rw [wrap_i64 (by omega) (by omega)]; omega
      have w2 : IntKind.i64.wrap ((j : Int) + 1) = ((j + 1 : Nat) : Int) := by rw [wrap_i64 (by omega) (by omega)]; omega
      have w3 : IntKind.i64.wrap ((j : Int) + 2) = ((j + 2 : Nat) : Int) := by rw [wrap_i64 (by omega) (by omega)]; omega
      have b1 : (ts.length + 1) * 40 ≤ 70368744177664 := by omega
      have b2 : (cs.length + 1) * 32 ≤ 70368744177664 := by omega
      by_cases h2 : j < l[i].length
      · rw [if_pos h2] at hN
        have h2' : ¬ l[i].length ≤ j := by omega
        have hg2 : l[i].getD j 0 = l[i][j] := by simp [List.getD_eq_getElem?_getD, h2]
        rw [hg2] at hN
        have hat := at_ev l[i] j h2 (by omega)
        rw [atP_eq] at hat
        have hatin := atT_in l[i] j h2
        have hcm := rcomment_ev l tk ht i j hl hc (fun _ => by omega) (total l + 1) (by omega) (by omega)
        generalize hQ : refCom l (total l + 1) i j 0 = Q at hcm hN
        obtain ⟨Q1, Q2, Q3⟩ := Q
        generalize atT l[i] j = p at hat hatin hN
        obtain ⟨pk, pl, pe⟩ := p
        simp only at hcm hat hatin hN
        have htw : (if j + 1 < l[i].length then (l[i].take (j + 2)).drop j else []) = two l[i] j := rfl
        generalize two l[i] j = x at htw hN
        generalize hcc : l[i][j] = c at hN
        cases h3 : ((c.toNat : Int) == 32)
        · rw [h3] at hN
          simp only [Bool.false_eq_true, if_false] at hN
          by_cases h4 : j + 1 < l[i].length
          · rw [if_pos h4] at htw
            have h4' : j + 2 ≤ l[i].length := by omega
            cases hA : x == [92, 42]
            · cases hB : x == [40, 42]
              · simp only [hA, hB, Bool.false_eq_true, if_false] at hN
                cases h7 : pe != 0
                · have h8 : pe = 0 := by simpa using h7
                  obtain ⟨h9, h10⟩ := hatin h8
                  obtain ⟨n, rfl⟩ : ∃ n : Nat, pl = n := ⟨pl.toNat, by omega⟩
                  simp only [h7, Bool.false_eq_true, if_false, Int.toNat_natCast] at hN
                  subst hN
                  obtain ⟨k', rfl, hI'⟩ := hgo rfl
                  have w4 : IntKind.i64.wrap ((j : Int) + n) = ((j + n : Nat) : Int) := by rw [wrap_i64 (by omega) (by omega)]; omega
                  have h11 : j + n ≤ l[i].length := by omega
                  have h12 : j ≤ j + n := by omega
                  have h13 : (l[i].take (j + n)).drop j = sub l[i] j n := rfl
                  generalize sub l[i] j n = y at hI' h13 ih
                  simp [-Int.natCast_add, dFor, storeFine, looseAt, isBox, exposed, rootsOf, lvAhead, noKeep, List.lookup, hsl, h1, ge, h2, h2', hcc, h3, h4, h4', htw, hA, hB, w1, w2, w3, w4, aslice, abound, bare_fx ht, row_fx ht, relab_fx ht, hat, h7, h11, h12, h13, b1, aappend]
                  refine ih (k', _) _ _ (by simp) ⟨hI', ?_⟩
                  simp [-Int.natCast_add, lvAhead, growOf, tkC, bare_fx ht, row_fx ht, relab_fx ht]
                · simp only [h7, if_true] at hN
                  subst hN
                  have h8 : pe ≠ 0 := by simpa using h7
                  have := hstop h8
                  subst this
                  simp [-Int.natCast_add, dFor, storeFine, looseAt, isBox, exposed, rootsOf, lvAhead, noKeep, List.lookup, hsl, h1, ge, h2, h2', hcc, h3, h4, h4', htw, hA, hB, w1, w2, w3, aslice, abound, bare_fx ht, row_fx ht, relab_fx ht, hat, h7, textAV, h8]
              · cases Q1
                · simp only [hA, hB, Bool.false_eq_true, if_false, if_true] at hN
                  subst hN
                  have := hstop (by simp)
                  subst this
                  simp [-Int.natCast_add, hsl, h1, ge, h2, h2', hcc, h3, h4, h4', htw, hA, hB, w1, w2, w3, aslice, abound, hcm, bare_fx ht, row_fx ht, relab_fx ht, textAV]
                · simp only [hA, hB, Bool.false_eq_true, if_false, if_true] at hN
                  subst hN
                  obtain ⟨k', rfl, hI'⟩ := hgo rfl
                  simp [-Int.natCast_add, hsl, h1, ge, h2, h2', hcc, h3, h4, h4', htw, hA, hB, w1, w2, w3, aslice, abound, hcm, bare_fx ht, row_fx ht, relab_fx ht, b2, aappend]
                  refine ih (k', _) _ _ (by simp) ⟨hI', ?_⟩
                  simp [-Int.natCast_add, lvAhead, growOf, spC, bare_fx ht, row_fx ht, relab_fx ht]
            · simp only [hA, Bool.false_eq_true, if_false, if_true] at hN
              subst hN
              obtain ⟨k', rfl, hI'⟩ := hgo rfl
              simp [-Int.natCast_add, hsl, h1, ge, h2, h2', hcc, h3, h4, h4', htw, hA, w1, w2, w3, aslice, abound, bare_fx ht, row_fx ht, relab_fx ht, b2, aappend]
              refine ih (k', _) _ _ (by simp) ⟨hI', ?_⟩
              simp [-Int.natCast_add, lvAhead, growOf, spC, bare_fx ht, row_fx ht, relab_fx ht]
          · rw [if_neg h4] at htw
            subst htw
            have hA : (([] : Str) == [92, 42]) = false := rfl
            have hB : (([] : Str) == [40, 42]) = false := rfl
            simp only [hA, hB, Bool.false_eq_true, if_false] at hN
            cases h7 : pe != 0
            · have h8 : pe = 0 := by simpa using h7
              obtain ⟨h9, h10⟩ := hatin h8
              obtain ⟨n, rfl⟩ : ∃ n : Nat, pl = n := ⟨pl.toNat, by omega⟩
              simp only [h7, Bool.false_eq_true, if_false, Int.toNat_natCast] at hN
              subst hN
              obtain ⟨k', rfl, hI'⟩ := hgo rfl
              have w4 : IntKind.i64.wrap ((j : Int) + n) = ((j + n : Nat) : Int) := by rw [wrap_i64 (by omega) (by omega)]; omega
              have h11 : j + n ≤ l[i].length := by omega
              have h12 : j ≤ j + n := by omega
              have h13 : (l[i].take (j + n)).drop j = sub l[i] j n := rfl
              generalize sub l[i] j n = y at hI' h13 ih
              simp [-Int.natCast_add, dFor, storeFine, looseAt, isBox, exposed, rootsOf, lvAhead, noKeep, List.lookup, hsl, h1, ge, h2, h2', hcc, h3, h4, w1, w2, w3, w4, aslice, abound, bare_fx ht, row_fx ht, relab_fx ht, hat, h7, h11, h12, h13, b1, aappend]
              refine ih (k', _) _ _ (by simp) ⟨hI', ?_⟩
              simp [-Int.natCast_add, lvAhead, growOf, tkC, bare_fx ht, row_fx ht, relab_fx ht]
            · simp only [h7, if_true] at hN
              subst hN
              have h8 : pe ≠ 0 := by simpa using h7
              have := hstop h8
              subst this
              simp [-Int.natCast_add, dFor, storeFine, looseAt, isBox, exposed, rootsOf, lvAhead, noKeep, List.lookup, hsl, h1, ge, h2, h2', hcc, h3, h4, w1, w2, w3, aslice, abound, bare_fx ht, row_fx ht, relab_fx ht, hat, h7, textAV, h8]
        · rw [h3] at hN
          simp only [if_true] at hN
          subst hN
          obtain ⟨k', rfl, hI'⟩ := hgo rfl
          by_cases h4 : j + 1 < l[i].length
          · have h4' : j + 2 ≤ l[i].length := by omega
            simp [-Int.natCast_add, hsl, h1, ge, h2, h2', hcc, h3, h4, h4', w1, w2, w3, aslice, abound]
            refine ih (k', _) _ _ (by simp) ⟨hI', ?_⟩
            simp [-Int.natCast_add, lvAhead, growOf, bare_fx ht, row_fx ht, relab_fx ht]
          · simp [-Int.natCast_add, hsl, h1, ge, h2, h2', hcc, h3, h4, w1, w2, w3, aslice, abound]
            refine ih (k', _) _ _ (by simp) ⟨hI', ?_⟩
            simp [-Int.natCast_add, lvAhead, growOf, bare_fx ht, row_fx ht, relab_fx ht]
      · rw [if_neg h2] at hN
        subst hN
        have h2' : l[i].length ≤ j := by omega
        obtain ⟨k', rfl, hI'⟩ := hgo rfl
        simp [-Int.natCast_add, hsl, h1, ge, h2, h2', w1]
        refine ih (k', _) _ _ (by simp) ⟨hI', ?_⟩
        simp [-Int.natCast_add, lvAhead, growOf, bare_fx ht, row_fx ht, relab_fx ht]
    · have := hI.over h1
      subst this
      simp [-Int.natCast_add, hsl, h1, textAV]
  · refine ⟨hst, ?_⟩
    simp [-Int.natCast_add, lvAhead, growOf, bare_fx ht, row_fx ht, relab_fx ht, st0]
end Go.Proofs.YtlmmgblghgmgeaaGreatDoor
