/- The texts LawChecks, PrinA, merged. -/
import Derived.Test.YtlmmgblghgmgeaaGreatDoorMaw
import Derived.Test.YtlmmgblghgmgeaaGreatDoorMaq
import Derived.Test.YtlmmgblghgmgeaaGreatDoorMar
import Derived.Test.YtlmmgblghgmgeaaGreatDoorMah
set_option linter.unusedVariables false
set_option linter.unusedSimpArgs false
/- The law of the tokens checked: what it answers by its code, and that it is true. -/
namespace Go.Proofs.YtlmmgblghgmgeaaGreatDoor
open Go Ev
set_option maxRecDepth 100000
set_option linter.unusedSimpArgs false
attribute [local simp] dFor_none storeFine_none dFor_no storeFine_no lessL lkL evCode_exit evCode_seq evCode_plain evCode_draw evCode_cond evCode_ret evCode_skip evCode_block evCode_loop roundK_normal roundK_exit roundK_ret seqK_normal seqK_exit seqK_ret blockK_normal blockK_exit blockK_ret regK_eq evOps_nil evOps_cons params astep okDst isWanted aop opnd ofValue putT abin headS ofL noPtr acall adopt_bool adopt_int adopt_str adopt_agg adopt_clip upd_false AV.cells partOf setCells fillC AV.isVal List.range List.range.loop ofB mayRead dsts planRo capIds viewed scalarR AV.scalar bare_undef bare_bool bare_int bare_str bare_snil bare_snone bare_sclip bare_srow bare_ptr bare_eptr bare_pnil bare_fn bare_fnil bare_agg bare_tup passed setBoxes killNames addNames freshAll adopt resParts resBack relabB relabL namesOf cellsOfB boxName row_undef row_bool row_int row_str row_snil row_snone row_sclip row_srow row_ptr row_eptr row_pnil row_fn row_fnil row_agg row_tup relab_undef relab_bool relab_int relab_str relab_snil relab_snone relab_sclip relab_srow relab_ptr relab_eptr relab_pnil relab_fn relab_fnil relab_agg relab_tup relab_sgrow finK freezeT avAll resOf outBoxes AV.untup

theorem rapart_ev (a b : Tk) (ha : a.kind = 5 → 4 ≤ a.text.length) (hb : b.kind = 5 → 4 ≤ b.text.length) (hla : a.text.length < 2 ^ 38) (hlb : b.text.length < 2 ^ 38) : evc plan 13 [.agg (tkC a), .agg (tkC b)] [] = some (.bool (rApart a b), []) := by
  cases k5 : (a.kind == 5)
  · cases k6 : (b.kind == 5)
    · exact rapart_ev1 a b ha hb hla hlb k5 k6
    · exact rapart_ev2 a b ha hb hla hlb k5 k6
  · exact rapart_ev3 a b ha hb hla hlb k5
def bareBoth (a b : Tk) : Int := if bareP a == 0 then bareP b else bareP a
def lawChecks (a b : Tk) : Bool :=
  decide ((a.text.length : Int) > 140) || (decide ((b.text.length : Int) > 140) || (checkTokenP a == tokenErrP a &&
    (if bareBoth a b != 0 then (mustP a b).2 == bareBoth a b && !(mustP a b).1 else (mustP a b).2 == 0 && (mustP a b).1 == rApart a b)))
theorem right_len (t : Tk) (h : bareP t = 0) : t.kind = 5 → 4 ≤ t.text.length := fun hk => by
  rw [bare_same] at h
  obtain ⟨_, _, _, h4⟩ := short_tok t h
  rcases h4 with ⟨h5, _⟩ | ⟨_, n, d, h5, _, h6, _⟩
  · exact absurd hk h5
  · rw [h6, List.length_replicate]; exact h5
theorem lawChecks_true (a b : Tk) : lawChecks a b = true := by
  unfold lawChecks bareBoth mustP
  rw [checkToken_same, beq_self_eq_true, Bool.true_and, bare_same, bare_same]
  cases decide ((a.text.length : Int) > 140)
  · cases decide ((b.text.length : Int) > 140)
    · simp only [Bool.false_or]
      by_cases ha : textErrP a = 0
      · rw [ha]
        simp only [beq_self_eq_true, if_true, firstOf]
        by_cases hb : textErrP b = 0
        · rw [hb]
          simp [apart_same a b ha hb, firstOf]
        · have h2 : (textErrP b != 0) = true := by simpa using hb
          simp [h2, hb]
      · have h2 : (textErrP a != 0) = true := by simpa using ha
        have h3 : (textErrP a == 0) = false := by simpa using ha
        simp [h2, h3, firstOf, ha]
    · simp
  · simp
set_option maxHeartbeats 4000000 in
theorem lawChecks_ev (a b : Tk) : evc plan 3 [.agg (tkC a), .agg (tkC b)] [] = some (.bool (lawChecks a b), []) := by
  refine evc_start plan (P := Tryz.prog) (ro := planRo) rfl rfl rfl rfl rfl rfl (by simp) rfl ?_
  have h1 := awake_ev
  unfold lawChecks
  cases h2 : decide ((a.text.length : Int) > 140)
  · cases h3 : decide ((b.text.length : Int) > 140)
    · have la : a.text.length ≤ 140 := by simp at h2; omega
      have lb : b.text.length ≤ 140 := by simp at h3; omega
      have hm := must_ev a b (by omega) (by omega)
      have hc := checkToken_ev a (by omega)
      have ht := tokenErr_ev a (by omega)
      have hba := bare_ev a (by omega)
      have hbb := bare_ev b (by omega)
      have hap : bareP a = 0 → bareP b = 0 → _ := fun ha hb => rapart_ev a b (right_len a ha) (right_len b hb) (by omega) (by omega)
      unfold tkC at hm hc ht hba hbb hap
      unfold bareBoth
      generalize mustP a b = M at hm
      generalize checkTokenP a = ca at hc
      generalize tokenErrP a = te at ht
      generalize bareP a = pa at hba hap
      generalize bareP b = pb at hbb hap
      generalize rApart a b = rr at hap
      obtain ⟨mi, me⟩ := M
      simp only at hm
      have hn : (ca != te) = !(ca == te) := rfl
      cases h4 : (ca == te)
      · rw [h4] at hn
        simp [tkC, h1, h2, h3, hm, hc, ht, h4, hn]
      · rw [h4] at hn
        by_cases h5 : pa = 0
        · subst h5
          by_cases h6 : pb = 0
          · subst h6
            have hap := hap rfl rfl
            cases h7 : (me == 0) <;> simp [tkC, h1, h2, h3, hm, hc, ht, hba, hbb, hap, h4, hn, h7]
          · have h7 : (pb != 0) = true := by simpa using h6
            cases h8 : (me == pb) <;> simp [tkC, h1, h2, h3, hm, hc, ht, hba, hbb, h4, hn, h6, h7, h8]
        · have h7 : (pa != 0) = true := by simpa using h5
          have h9 : (pa == 0) = false := by simpa using h5
          cases h8 : (me == pa) <;> simp [tkC, h1, h2, h3, hm, hc, ht, hba, hbb, h4, hn, h5, h7, h8, h9]
    · simp [tkC, h1, h2, h3]
  · simp [tkC, h1, h2]
end Go.Proofs.YtlmmgblghgmgeaaGreatDoor

/- Few, signs, spaced, behindErr: evaluated. -/
namespace Go.Proofs.YtlmmgblghgmgeaaGreatDoor
open Go Ev
set_option maxRecDepth 100000
set_option linter.unusedSimpArgs false
attribute [local simp] dFor_none storeFine_none dFor_no storeFine_no lessL lkL evCode_exit evCode_seq evCode_plain evCode_draw evCode_cond evCode_ret evCode_skip evCode_block evCode_loop roundK_normal roundK_exit roundK_ret seqK_normal seqK_exit seqK_ret blockK_normal blockK_exit blockK_ret regK_eq evOps_nil evOps_cons params astep okDst isWanted aop opnd ofValue putT abin headS ofL noPtr acall adopt_bool adopt_int adopt_str adopt_agg adopt_clip upd_false AV.cells partOf setCells fillC AV.isVal List.range List.range.loop ofB mayRead dsts planRo capIds viewed scalarR AV.scalar bare_undef bare_bool bare_int bare_str bare_snil bare_snone bare_sclip bare_srow bare_ptr bare_eptr bare_pnil bare_fn bare_fnil bare_agg bare_tup clean keepBoxes relabB relabL cleanS fixPtr cellsOfB namesOf row_undef row_bool row_int row_str row_snil row_snone row_sclip row_srow row_ptr row_eptr row_pnil row_fn row_fnil row_agg row_tup relab_undef relab_bool relab_int relab_str relab_snil relab_snone relab_sclip relab_srow relab_ptr relab_eptr relab_pnil relab_fn relab_fnil relab_agg relab_tup relab_sgrow passed setBoxes killNames addNames freshAll adopt resParts resBack boxName finK freezeT avAll resOf outBoxes AV.untup

/-- Not more tokens than there may be by much, and none is long. -/
def fewT (l : List Tk) : Bool := (l.take 1210).all (fun t => decide ((t.text.length : Int) ≤ 140)) && decide ((l.length : Int) ≤ 1205)
theorem fewT_ev (l : List Tk) (tk : Tok) (ht : Fx tk) (hl : l.length < 2 ^ 62) : evc plan 23 [.sl 4 (l.map tkC) tk] [] = some (.bool (fewT l), []) := by
  refine evc_start plan (P := Tryz.prog) (ro := planRo) rfl rfl rfl rfl rfl rfl (by simp) rfl ?_
  have hV : fewT l = ((l.take 1210).all (fun t => decide ((t.text.length : Int) ≤ 140)) && decide ((l.length : Int) ≤ 1205)) := rfl
  generalize fewT l = V at hV ⊢
  simp []
  refine loop_by (fun i => l.length - i) (fun (i : Nat) t m => i ≤ (l.take 1210).length ∧ V = (((l.take 1210).drop i).all (fun t => decide ((t.text.length : Int) ≤ 140)) && decide ((l.length : Int) ≤ 1205)) ∧ clean (lvFew 2) t m = headS [(0, .sl 4 (l.map tkC) tk), (3, .int .i64 i)] []) ?_ 0 ?_
  · intro i t m ⟨hi, hr, hS⟩ ih
    refine round_of hS ?_
    have hi2 : i ≤ 1210 ∧ i ≤ l.length := by rw [List.length_take] at hi; omega
    by_cases h1 : i < l.length
    · by_cases h2 : (i : Int) < 1210
      · have h3 : i < (l.take 1210).length := by rw [List.length_take]; omega
        have hd := all_drop (fun t : Tk => decide ((t.text.length : Int) ≤ 140)) (l.take 1210) i h3
        have w1 : IntKind.i64.wrap ((i : Int) + 1) = i + 1 := wrap_i64 (by omega) (by omega)
        rw [List.getElem_take] at hd
        by_cases h4 : (l[i].text.length : Int) ≤ 140
        · have h5 : ¬ (140 : Int) < l[i].text.length := by omega
          simp [h1, h2, w1, tkC, h5]
          refine ih (i + 1) _ _ (by omega) ⟨by omega, by rw [hr, hd]; simp [h4], ?_⟩
          simp [lvFew, lvL, bare_fx ht, row_fx ht, relab_fx ht]
          try rfl
        · have h5 : (140 : Int) < l[i].text.length := by omega
          simp [h1, h2, w1, tkC, h5]
          rw [hr, hd]; simp [h4]
      · have h6 : (l.take 1210).drop i = [] := List.drop_eq_nil_of_le (by rw [List.length_take]; omega)
        simp [h1, h2]
        rw [hr, h6]; simp
    · have h6 : (l.take 1210).drop i = [] := List.drop_eq_nil_of_le (by rw [List.length_take]; omega)
      simp [h1]
      rw [hr, h6]; simp
  · refine ⟨by omega, by simpa using hV, ?_⟩
    simp [lvFew, lvL, bare_fx ht, row_fx ht, relab_fx ht]
def signsP (a b : Str) : Bool := (a == [40] && (b == [43] || b == [45])) || (a == [45] && b == [45])
theorem signs2_ev (a b : Str) : evc plan 49 [.str a, .str b] [] = some (.bool (signsP a b), []) := by
  refine evc_start plan (P := Tryz.prog) (ro := planRo) rfl rfl rfl rfl rfl rfl (by simp) rfl ?_
  unfold signsP
  cases h1 : (a == [40]) <;> cases h2 : (b == [43]) <;> cases h3 : (b == [45]) <;> cases h4 : (a == [45]) <;> simp [h1, h2, h3, h4]
def spacedP (a b : Tk) : Bool := rApart a b || signsP a.text b.text
theorem spaced_ev (a b : Tk) (ha : a.kind = 5 → 4 ≤ a.text.length) (hb : b.kind = 5 → 4 ≤ b.text.length) (hla : a.text.length < 2 ^ 38) (hlb : b.text.length < 2 ^ 38) : evc plan 54 [.agg (tkC a), .agg (tkC b)] [] = some (.bool (spacedP a b), []) := by
  refine evc_start plan (P := Tryz.prog) (ro := planRo) rfl rfl rfl rfl rfl rfl (by simp) rfl ?_
  have h := rapart_ev a b ha hb hla hlb
  unfold tkC at h
  unfold spacedP signsP
  cases h0 : rApart a b <;> cases h1 : (a.text == [40]) <;> cases h2 : (b.text == [43]) <;> cases h3 : (b.text == [45]) <;> cases h4 : (a.text == [45]) <;> simp [tkC, h, h0, h1, h2, h3, h4]
/-- Whether a token may stand behind another one: the error. -/
def behindP (a b : Tk) : Int := firstOf [if decide (b.line < a.line) || (b.line == a.line && decide (b.col < a.col + a.text.length)) then 13 else 0, if (b.line == a.line && b.col == a.col + a.text.length) && apartP a b then 14 else 0]
set_option maxHeartbeats 1000000 in
theorem behind_ev (a b : Tk) (h1 : -2 ^ 40 ≤ a.col) (h2 : a.col < 2 ^ 40) (hla : a.text.length < 2 ^ 37) (hlb : b.text.length < 2 ^ 37) : evc plan 47 [.agg (tkC a), .agg (tkC b)] [] = some (.int .i64 (behindP a b), []) := by
  refine evc_start plan (P := Tryz.prog) (ro := planRo) rfl rfl rfl rfl rfl rfl (by simp) rfl ?_
  have h := apart_ev a b hla hlb
  unfold tkC at h
  have w1 : IntKind.i64.wrap (a.col + (a.text.length : Int)) = a.col + a.text.length := wrap_i64 (by omega) (by omega)
  unfold behindP
  cases h3 : decide (b.line < a.line) <;> cases h4 : (b.line == a.line) <;> cases h5 : decide (b.col < a.col + a.text.length) <;> cases h6 : (b.col == a.col + a.text.length) <;> cases h7 : apartP a b <;> simp [tkC, wrong_ev, or2_ev, h, h3, h4, h5, h6, h7, w1]
end Go.Proofs.YtlmmgblghgmgeaaGreatDoor
