/- The texts RefC, merged. -/
import Derived.Test.YtlmmgblghgmgeaaGreatDoorMah
set_option linter.unusedVariables false
set_option linter.unusedSimpArgs false
/- The reference's words, evaluated. -/
namespace Go.Proofs.YtlmmgblghgmgeaaGreatDoor
open Go Ev
set_option maxRecDepth 100000
set_option linter.unusedSimpArgs false
attribute [local simp] dFor_none storeFine_none dFor_no storeFine_no lessL lkL evCode_exit evCode_seq evCode_plain evCode_draw evCode_cond evCode_ret evCode_skip evCode_block evCode_loop roundK_normal roundK_exit roundK_ret seqK_normal seqK_exit seqK_ret blockK_normal blockK_exit blockK_ret regK_eq evOps_nil evOps_cons params astep okDst isWanted aop opnd ofValue putT abin headS ofL noPtr acall adopt_bool adopt_int adopt_str adopt_agg adopt_clip upd_false AV.cells partOf setCells fillC AV.isVal List.range List.range.loop ofB mayRead dsts planRo capIds viewed scalarR AV.scalar bare_undef bare_bool bare_int bare_str bare_snil bare_snone bare_sclip bare_srow bare_ptr bare_eptr bare_pnil bare_fn bare_fnil bare_agg bare_tup clean keepBoxes relabB relabL cleanS fixPtr cellsOfB namesOf row_undef row_bool row_int row_str row_snil row_snone row_sclip row_srow row_ptr row_eptr row_pnil row_fn row_fnil row_agg row_tup relab_undef relab_bool relab_int relab_str relab_snil relab_snone relab_sclip relab_srow relab_ptr relab_eptr relab_pnil relab_fn relab_fnil relab_agg relab_tup relab_sgrow passed setBoxes killNames addNames freshAll adopt resParts resBack boxName finK freezeT avAll resOf outBoxes AV.untup

/-- A name, a word, a number or a sign, by what it consists of: w the part, rd how many digits it begins with, nl how many letters it has. -/
def wordTail (s : Str) (i : Nat) (w : Str) (rd nl : Nat) : AV :=
  if 0 < nl then
    (if decide ((2 : Int) < w.length) && (w.take 3 == [87, 70, 95] || w.take 3 == [83, 70, 95]) then piece 4 3 0
    else if decide ((24 : Int) < w.length) then piece 0 0 7
    else if reservedL.any (fun y => y == w) then piece 1 w.length 0
    else piece 0 w.length 0)
  else if rd = 0 then piece 4 1 0
  else if ((sub s i rd).getD 0 0).toNat == 48 && decide (1 < rd) then piece 0 0 8
  else if !(bReadP (sub s i rd)).2 || decide ((bReadP (sub s i rd)).1 > 10000) then piece 0 0 3
  else piece 2 rd 0
def wordP (s : Str) (i : Nat) : AV :=
  wordTail s i (sub s i (run (fun b => wordB b.toNat) (s.drop i))) (run (fun b => digitB b.toNat) (s.drop i)) (((s.drop i).take (run (fun b => wordB b.toNat) (s.drop i))).countP fun b => letterB b.toNat)
theorem run_mono {p q : UInt8 → Bool} (h : ∀ b, p b = true → q b = true) : ∀ s : Str, run p s ≤ run q s
  | [] => Nat.le_refl _
  | b :: s => by
    have := run_mono h s
    unfold run at this ⊢
    rw [List.takeWhile_cons, List.takeWhile_cons]
    cases h1 : p b
    · simp
    · rw [h b h1]; simp; omega
theorem run_lt {p : UInt8 → Bool} : ∀ (s : Str) (i : Nat) (h : i < s.length), i < run p s → p s[i] = true
  | b :: s, 0, h, h1 => by
    unfold run at h1
    rw [List.takeWhile_cons] at h1
    cases h2 : p b
    · rw [h2] at h1; simp at h1
    · exact h2
  | b :: s, i + 1, h, h1 => by
    unfold run at h1
    rw [List.takeWhile_cons] at h1
    cases h2 : p b
    · rw [h2] at h1; simp at h1
    · rw [h2] at h1; simp at h1
      exact run_lt s i (by simpa using h) h1
theorem run_eq {p : UInt8 → Bool} : ∀ (s : Str) (h : run p s < s.length), p s[run p s] = false
  | [], h => by simp at h
  | b :: s, h => by
    cases h2 : p b
    · have : run p (b :: s) = 0 := by unfold run; rw [List.takeWhile_cons, h2]; rfl
      simp [this, h2]
    · have h3 : run p (b :: s) = run p s + 1 := by unfold run; rw [List.takeWhile_cons, h2]; simp
      have := run_eq s (by rw [h3] at h; simpa using h)
      simp [h3, this]
theorem count_take {p : UInt8 → Bool} (t : Str) (i : Nat) (h : i < t.length) : (t.take (i + 1)).countP p = (t.take i).countP p + if p t[i] then 1 else 0 := by
  rw [List.take_succ_eq_append_getElem h, List.countP_append]; simp [List.countP_cons]
theorem reserved_has (w : Str) : evc plan 63 [.sl 1 (strs reservedL) .clip, .str w] [] = some (.bool (reservedL.any fun y => y == w), []) := rcontains_ev _ _ _ fx_clip (by decide)
set_option maxHeartbeats 4000000 in
theorem word_tail_ev (s : Str) (i : Nat) (hi : i < s.length) (hl : s.length < 2 ^ 61) : evc plan 96 [.str s, .int .i64 i] [] = some (wordP s i, []) := by
  refine evc_start plan (P := Tryz.prog) (ro := planRo) rfl rfl rfl rfl rfl rfl (by simp) rfl ?_
  have hv : wordP s i = wordTail s i (sub s i (run (fun b => wordB b.toNat) (s.drop i))) (run (fun b => digitB b.toNat) (s.drop i)) (((s.drop i).take (run (fun b => wordB b.toNat) (s.drop i))).countP fun b => letterB b.toNat) := rfl
  generalize wordP s i = V at hv ⊢
  have hwl := run_le (fun b => wordB b.toNat) (s.drop i)
  have hdw : run (fun b => digitB b.toNat) (s.drop i) ≤ run (fun b => wordB b.toNat) (s.drop i) := run_mono (fun b h => by simp only [wordB, h, Bool.or_true, Bool.true_or]) _
  have hdl : ∀ b ∈ (s.drop i).take (run (fun b => digitB b.toNat) (s.drop i)), digitB b.toNat = true := fun b hb => by
    rw [take_run] at hb
    exact takeWhile_all _ _ b hb
  generalize hw : run (fun b => wordB b.toNat) (s.drop i) = wl at hv hwl hdw
  generalize hrd : run (fun b => digitB b.toNat) (s.drop i) = rd at hv hdw hdl
  rw [List.length_drop] at hwl
  simp []
  refine loop_by (fun n => wl - n) (fun (n : Nat) t m => n ≤ wl ∧ clean (lvWord 2) t m = headS [(0, .str s), (1, .int .i64 i), (4, .ptr 500004 0), (5, .int .i64 ((i + n : Nat) : Int)), (6, .int .i64 ((min n rd : Nat) : Int)), (7, .int .i64 ((((s.drop i).take n).countP fun b => letterB b.toNat : Nat) : Int))] [(500004, [.int .i64 0, .int .i64 0, .int .i64 0])]) ?_ 0 ?_
  · intro n t m ⟨hn, hS⟩ ih
    refine round_of hS ?_
    have hcnt : ((s.drop i).take n).countP (fun b => letterB b.toNat) ≤ n := Nat.le_trans (List.countP_le_length) (by rw [List.length_take]; omega)
    by_cases h1 : n < wl
    · have h2 : i + n < s.length := by omega
      have h2' : n < (s.drop i).length := by rw [List.length_drop]; omega
      have hge : (s.drop i)[n] = s[i + n] := by simp
      have h3 : wordB s[i + n].toNat = true := by
        have := run_lt (p := fun b => wordB b.toNat) (s.drop i) n h2' (by rw [hw]; exact h1)
        rw [hge] at this; exact this
      have hct := count_take (p := fun b => letterB b.toNat) (s.drop i) n h2'
      rw [hge] at hct
      have w1 : IntKind.i64.wrap (((i + n : Nat) : Int) + 1) = ((i + (n + 1) : Nat) : Int) := by rw [wrap_i64 (by omega) (by omega)]; omega
      have w2 : IntKind.i64.wrap ((i : Int) + ((min n rd : Nat) : Int)) = ((i + min n rd : Nat) : Int) := by rw [wrap_i64 (by omega) (by omega)]; omega
      have hd1 : n < rd → digitB s[i + n].toNat = true := fun h => by
        have := run_lt (p := fun b => digitB b.toNat) (s.drop i) n h2' (by rw [hrd]; exact h)
        rw [hge] at this; exact this
      have hd2 : n = rd → digitB s[i + n].toNat = false := fun h => by
        have := run_eq (p := fun b => digitB b.toNat) (s.drop i) (by rw [hrd]; omega)
        simp only [hrd] at this
        subst h
        rw [hge] at this; exact this
      by_cases h4 : n < rd
      · have h5 := hd1 h4
        have h6 : min n rd = n := by omega
        have h7 : min (n + 1) rd = n + 1 := by omega
        have w3 : IntKind.i64.wrap ((n : Int) + 1) = ((n + 1 : Nat) : Int) := by rw [wrap_i64 (by omega) (by omega)]; omega
        rw [h6] at w2
        cases h8 : letterB s[i + n].toNat
        · rw [h8] at hct
          have w4 : IntKind.i64.wrap ((((s.drop i).take n).countP (fun b => letterB b.toNat) : Nat) : Int) = ((((s.drop i).take n).countP (fun b => letterB b.toNat) : Nat) : Int) := wrap_i64 (by omega) (by omega)
          simp [-Int.natCast_add, h2, h3, h5, h6, h8, w1, w2, w3, w4, part_ev, rdigit_ev, rletter_ev, one_ev]
          refine ih (n + 1) _ _ (by omega) ⟨by omega, ?_⟩
          rw [h7, hct]
          simp [-Int.natCast_add, lvWord, lvL]
        · rw [h8] at hct
          have w4 : IntKind.i64.wrap (((((s.drop i).take n).countP (fun b => letterB b.toNat) : Nat) : Int) + 1) = ((((s.drop i).take n).countP (fun b => letterB b.toNat) + 1 : Nat) : Int) := by rw [wrap_i64 (by omega) (by omega)]; omega
          simp [-Int.natCast_add, h2, h3, h5, h6, h8, w1, w2, w3, w4, part_ev, rdigit_ev, rletter_ev, one_ev]
          refine ih (n + 1) _ _ (by omega) ⟨by omega, ?_⟩
          rw [h7, hct]
          simp [-Int.natCast_add, lvWord, lvL]
      · have h6 : min n rd = rd := by omega
        have h7 : min (n + 1) rd = rd := by omega
        rw [h6] at w2
        cases h8 : letterB s[i + n].toNat
        · rw [h8] at hct
          have w4 : IntKind.i64.wrap ((((s.drop i).take n).countP (fun b => letterB b.toNat) : Nat) : Int) = ((((s.drop i).take n).countP (fun b => letterB b.toNat) : Nat) : Int) := wrap_i64 (by omega) (by omega)
          by_cases h9 : n = rd
          · have h10 := hd2 h9
            subst h9
            simp [-Int.natCast_add, h2, h3, h6, h8, h10, w1, w2, w4, part_ev, rdigit_ev, rletter_ev, one_ev]
            refine ih (n + 1) _ _ (by omega) ⟨by omega, ?_⟩
            rw [h7, hct]
            simp [-Int.natCast_add, lvWord, lvL]
          · have h10 : (((i + n : Nat) : Int) == ((i + rd : Nat) : Int)) = false := by simp; omega
            have h11 : ¬ (n : Int) = rd := by omega
            have h12 : (n : Int) = rd → digitB s[i + n].toNat = false := fun h => absurd h h11
            simp [-Int.natCast_add, h2, h3, h6, h8, h10, h11, h12, w1, w2, w4, part_ev, rdigit_ev, rletter_ev, one_ev]
            refine ih (n + 1) _ _ (by omega) ⟨by omega, ?_⟩
            rw [h7, hct]
            simp [-Int.natCast_add, lvWord, lvL]
        · rw [h8] at hct
          have w4 : IntKind.i64.wrap (((((s.drop i).take n).countP (fun b => letterB b.toNat) : Nat) : Int) + 1) = ((((s.drop i).take n).countP (fun b => letterB b.toNat) + 1 : Nat) : Int) := by rw [wrap_i64 (by omega) (by omega)]; omega
          by_cases h9 : n = rd
          · have h10 := hd2 h9
            subst h9
            simp [-Int.natCast_add, h2, h3, h6, h8, h10, w1, w2, w4, part_ev, rdigit_ev, rletter_ev, one_ev]
            refine ih (n + 1) _ _ (by omega) ⟨by omega, ?_⟩
            rw [h7, hct]
            simp [-Int.natCast_add, lvWord, lvL]
          · have h10 : (((i + n : Nat) : Int) == ((i + rd : Nat) : Int)) = false := by simp; omega
            have h11 : ¬ (n : Int) = rd := by omega
            have h12 : (n : Int) = rd → digitB s[i + n].toNat = false := fun h => absurd h h11
            simp [-Int.natCast_add, h2, h3, h6, h8, h10, h11, h12, w1, w2, w4, part_ev, rdigit_ev, rletter_ev, one_ev]
            refine ih (n + 1) _ _ (by omega) ⟨by omega, ?_⟩
            rw [h7, hct]
            simp [-Int.natCast_add, lvWord, lvL]
    · have hnw : n = wl := by omega
      subst hnw
      clear ih hS
      have h2 : i + n ≤ s.length := by omega
      have h3 : min n rd = rd := by omega
      have hwlen : (sub s i n).length = n := by rw [sub_eq, List.length_take, List.length_drop]; omega
      have hglen : (sub s i rd).length = rd := by rw [sub_eq, List.length_take, List.length_drop]; omega
      have hgd : ∀ b ∈ sub s i rd, digitB b.toNat = true := fun b hb => hdl b (by rw [sub_eq] at hb; exact hb)
      have hbr := bread_ev (sub s i rd) hgd (by omega)
      have hres := reserved_has (sub s i n)
      have hstop : ¬ (((i + n : Nat) : Int) < s.length ∧ ∀ h : i + n < s.length, wordB s[i + n].toNat = true) := fun ⟨q1, q2⟩ => by
        have q3 : i + n < s.length := by omega
        have q4 := run_eq (p := fun b => wordB b.toNat) (s.drop i) (by rw [hw, List.length_drop]; omega)
        simp only [hw] at q4
        have q5 : (s.drop i)[n]'(by rw [List.length_drop]; omega) = s[i + n] := by simp
        rw [q5, q2 q3] at q4
        simp at q4
      have hend : (¬ i + n < s.length) ∨ ∃ h : i + n < s.length, wordB s[i + n].toNat = false := by
        rcases Nat.lt_or_ge (i + n) s.length with q | q
        · refine .inr ⟨q, ?_⟩
          cases q2 : wordB s[i + n].toNat
          · rfl
          · exact absurd ⟨by omega, fun _ => q2⟩ hstop
        · exact .inl (by omega)
      unfold wordTail at hv
      generalize hnl : ((s.drop i).take n).countP (fun b => letterB b.toNat) = nl at hv ⊢
      have hsub : (s.take (i + n)).drop i = sub s i n := rfl
      have hsub2 : (s.take (i + rd)).drop i = sub s i rd := rfl
      generalize sub s i n = w at hv hwlen hres hsub
      generalize sub s i rd = g at hv hglen hgd hbr hsub2
      have w2 : IntKind.i64.wrap ((i : Int) + (rd : Int)) = ((i + rd : Nat) : Int) := by rw [wrap_i64 (by omega) (by omega)]; omega
      have h4 : i + rd ≤ s.length := by omega
      have tail : ∀ X : Option (AV × List (Nat × Box)), X = some (V, []) → X = some (V, []) := fun _ h => h
      by_cases h5 : 0 < nl
      · rw [if_pos h5] at hv
        have h5' : (nl : Int) > 0 := by omega
        by_cases h6 : (2 : Int) < w.length
        · have h6' : 3 ≤ w.length := by omega
          cases h7 : (w.take 3 == [87, 70, 95])
          · cases h8 : (w.take 3 == [83, 70, 95])
            · simp only [h6, h7, h8, decide_true, Bool.or_false, Bool.and_false, Bool.false_eq_true, if_false] at hv
              by_cases h9 : (24 : Int) < w.length
              · simp only [h9, decide_true, if_true] at hv
                subst hv
                rcases hend with q | ⟨q1, q2⟩
                · simp [-Int.natCast_add, q, h2, h5, h5', h6, h6', h7, h8, h9, aslice, abound, hsub, piece]
                · simp [-Int.natCast_add, q1, q2, part_ev, h2, h5, h5', h6, h6', h7, h8, h9, aslice, abound, hsub, piece]
              · simp only [h9, decide_false, Bool.false_eq_true, if_false] at hv
                generalize hA : reservedL.any (fun y => y == w) = A at hv hres
                rcases hend with q | ⟨q1, q2⟩
                · cases A <;> simp at hv <;> subst hv <;> simp [-Int.natCast_add, q, h2, h5, h5', h6, h6', h7, h8, h9, aslice, abound, hsub, piece, rreserved_ev, hres]
                · cases A <;> simp at hv <;> subst hv <;> simp [-Int.natCast_add, q1, q2, part_ev, h2, h5, h5', h6, h6', h7, h8, h9, aslice, abound, hsub, piece, rreserved_ev, hres]
            · simp only [h6, h7, h8, decide_true, Bool.or_true, Bool.and_true, if_true] at hv
              subst hv
              rcases hend with q | ⟨q1, q2⟩
              · simp [-Int.natCast_add, q, h2, h5, h5', h6, h6', h7, h8, aslice, abound, hsub, piece]
              · simp [-Int.natCast_add, q1, q2, part_ev, h2, h5, h5', h6, h6', h7, h8, aslice, abound, hsub, piece]
          · simp only [h6, h7, decide_true, Bool.true_or, Bool.and_true, if_true] at hv
            subst hv
            rcases hend with q | ⟨q1, q2⟩
            · simp [-Int.natCast_add, q, h2, h5, h5', h6, h6', h7, aslice, abound, hsub, piece]
            · simp [-Int.natCast_add, q1, q2, part_ev, h2, h5, h5', h6, h6', h7, aslice, abound, hsub, piece]
        · have h9 : ¬ (24 : Int) < w.length := by omega
          simp only [h6, h9, decide_false, Bool.false_and, Bool.false_eq_true, if_false] at hv
          generalize hA : reservedL.any (fun y => y == w) = A at hv hres
          rcases hend with q | ⟨q1, q2⟩
          · cases A <;> simp at hv <;> subst hv <;> simp [-Int.natCast_add, q, h2, h5, h5', h6, h9, aslice, abound, hsub, piece, rreserved_ev, hres]
          · cases A <;> simp at hv <;> subst hv <;> simp [-Int.natCast_add, q1, q2, part_ev, h2, h5, h5', h6, h9, aslice, abound, hsub, piece, rreserved_ev, hres]
      · rw [if_neg h5] at hv
        have h5' : ¬ (nl : Int) > 0 := by omega
        by_cases h6 : rd = 0
        · rw [if_pos h6] at hv
          subst hv
          rcases hend with q | ⟨q1, q2⟩
          · simp [-Int.natCast_add, q, h2, h3, h5, h5', h6, aslice, abound, hsub, piece]
          · simp [-Int.natCast_add, q1, q2, part_ev, h2, h3, h5, h5', h6, aslice, abound, hsub, piece]
        · rw [if_neg h6] at hv
          have h6' : ((rd : Int) == 0) = false := by simp; omega
          have hg0 : 0 < g.length := by omega
          have hg : g.getD 0 0 = g[0] := by simp [List.getD_eq_getElem?_getD, hg0]
          rw [hg] at hv
          generalize bReadP g = B at hv hbr
          obtain ⟨b1, b2⟩ := B
          simp only at hv hbr
          by_cases h7 : g[0].toNat = 48
          · have h7' : ((g[0].toNat : Int) == 48) = true := by simp; omega
            by_cases h8 : 1 < rd
            · have h8' : (1 : Int) < rd := by omega
              simp only [h7, h8, beq_self_eq_true, decide_true, Bool.and_true, if_true] at hv
              subst hv
              rcases hend with q | ⟨q1, q2⟩
              · simp [-Int.natCast_add, q, h2, h3, h4, w2, h5, h5', h6, h6', hg0, h7', h8, h8', aslice, abound, hsub, hsub2, piece]
              · simp [-Int.natCast_add, q1, q2, part_ev, h2, h3, h4, w2, h5, h5', h6, h6', hg0, h7', h8, h8', aslice, abound, hsub, hsub2, piece]
            · have h8' : ¬ (1 : Int) < rd := by omega
              simp only [h8, decide_false, Bool.and_false, Bool.false_eq_true, if_false] at hv
              rcases hend with q | ⟨q1, q2⟩
              · cases b2
                · simp at hv; subst hv
                  simp [-Int.natCast_add, q, h2, h3, h4, w2, h5, h5', h6, h6', hg0, h7', h8, h8', aslice, abound, hsub, hsub2, piece, hbr]
                · by_cases h9 : b1 > 10000 <;> simp [h9] at hv <;> subst hv <;> simp [-Int.natCast_add, q, h2, h3, h4, w2, h5, h5', h6, h6', hg0, h7', h8, h8', h9, aslice, abound, hsub, hsub2, piece, hbr]
              · cases b2
                · simp at hv; subst hv
                  simp [-Int.natCast_add, q1, q2, part_ev, h2, h3, h4, w2, h5, h5', h6, h6', hg0, h7', h8, h8', aslice, abound, hsub, hsub2, piece, hbr]
                · by_cases h9 : b1 > 10000 <;> simp [h9] at hv <;> subst hv <;> simp [-Int.natCast_add, q1, q2, part_ev, h2, h3, h4, w2, h5, h5', h6, h6', hg0, h7', h8, h8', h9, aslice, abound, hsub, hsub2, piece, hbr]
          · have h7' : ((g[0].toNat : Int) == 48) = false := by simp; omega
            have h7'' : (g[0].toNat == 48) = false := by simp; omega
            simp only [h7'', Bool.false_and, Bool.false_eq_true, if_false] at hv
            rcases hend with q | ⟨q1, q2⟩
            · cases b2
              · simp at hv; subst hv
                simp [-Int.natCast_add, q, h2, h3, h4, w2, h5, h5', h6, h6', hg0, h7', aslice, abound, hsub, hsub2, piece, hbr]
              · by_cases h9 : b1 > 10000 <;> simp [h9] at hv <;> subst hv <;> simp [-Int.natCast_add, q, h2, h3, h4, w2, h5, h5', h6, h6', hg0, h7', h9, aslice, abound, hsub, hsub2, piece, hbr]
            · cases b2
              · simp at hv; subst hv
                simp [-Int.natCast_add, q1, q2, part_ev, h2, h3, h4, w2, h5, h5', h6, h6', hg0, h7', aslice, abound, hsub, hsub2, piece, hbr]
              · by_cases h9 : b1 > 10000 <;> simp [h9] at hv <;> subst hv <;> simp [-Int.natCast_add, q1, q2, part_ev, h2, h3, h4, w2, h5, h5', h6, h6', hg0, h7', h9, aslice, abound, hsub, hsub2, piece, hbr]
  · refine ⟨by omega, ?_⟩
    simp [lvWord, lvL]
end Go.Proofs.YtlmmgblghgmgeaaGreatDoor
