/- The texts PrinF, merged. -/
import Derived.Test.YtlmmgblghgmgeaaGreatDoorMbb
set_option linter.unusedVariables false
set_option linter.unusedSimpArgs false
/- Tokens joined: what is computed; the reference's Joined: evaluated. -/
namespace Go.Proofs.YtlmmgblghgmgeaaGreatDoor
open Go Ev
set_option maxRecDepth 100000
set_option linter.unusedSimpArgs false
attribute [local simp] dFor_none storeFine_none dFor_no storeFine_no lessL lkL evCode_exit evCode_seq evCode_plain evCode_draw evCode_cond evCode_ret evCode_skip evCode_block evCode_loop roundK_normal roundK_exit roundK_ret seqK_normal seqK_exit seqK_ret blockK_normal blockK_exit blockK_ret regK_eq evOps_nil evOps_cons params astep okDst isWanted aop opnd ofValue putT abin headS ofL noPtr acall adopt_bool adopt_int adopt_str adopt_agg adopt_clip upd_false AV.cells partOf setCells fillC AV.isVal List.range List.range.loop ofB mayRead dsts planRo capIds viewed scalarR AV.scalar bare_undef bare_bool bare_int bare_str bare_snil bare_snone bare_sclip bare_srow bare_ptr bare_eptr bare_pnil bare_fn bare_fnil bare_agg bare_tup clean keepBoxes relabB relabL cleanS fixPtr cellsOfB namesOf row_undef row_bool row_int row_str row_snil row_snone row_sclip row_srow row_ptr row_eptr row_pnil row_fn row_fnil row_agg row_tup relab_undef relab_bool relab_int relab_str relab_snil relab_snone relab_sclip relab_srow relab_ptr relab_eptr relab_pnil relab_fn relab_fnil relab_agg relab_tup relab_sgrow passed setBoxes killNames addNames freshAll adopt resParts resBack boxName finK freezeT avAll resOf outBoxes AV.untup

def gapP (p : Option Tk) (t : Tk) : Str := match p with | none => [] | some a => if spacedP a t then [32] else []
def joinGo : List Tk → Option Tk → Str → Str × Int
  | [], _, s => (s, 0)
  | t :: r, p, s => if textErrP t = 0 then joinGo r (some t) (s ++ gapP p t ++ t.text) else ([], textErrP t)
def joinP (l : List Tk) : Str × Int :=
  if 1200 < l.length then ([], 2)
  else if (joinGo l none []).2 = 0 then (if 20000 < (joinGo l none []).1.length then ([], 2) else ((joinGo l none []).1, 0))
  else ([], (joinGo l none []).2)
def joAV (q : Str × Int) : AV := .tup [.str q.1, .int .i64 q.2]
def keepJo : Keep := ⟨[(0, none), (4, none), (5, none)], [], by decide, by decide⟩
def lvJo : Nat → Keep := fun id => if id = 5 then keepJo else noKeep
theorem jo_ok : codeOk lvJo (Tryz.f27.body.getD .skip) = true := by kernel_rfl
set_option maxHeartbeats 4000000 in
theorem joined_law (l : List Tk) (tk : Tok) (ht : Fx tk) (hl : l.length ≤ 1300) (hx : ∀ t ∈ l, t.text.length ≤ 140) :
    evFn Tryz.prog ⟨evc plan, planRo, lvJo, 51⟩ Tryz.f27 [.sl 4 (l.map tkC) tk] [] = some (joAV (joinP l), []) := by
  refine evFn_start rfl rfl rfl ?_
  obtain ⟨V, hV⟩ : ∃ V, V = joAV (joinP l) := ⟨_, rfl⟩
  rw [← hV]
  unfold joinP at hV
  generalize hG : joinGo l none [] = G at hV
  by_cases h0 : 1200 < l.length
  · have h0' : (1200 : Int) < l.length := by omega
    rw [if_pos h0] at hV
    subst hV
    simp [-Int.natCast_add, h0, h0', joAV, bare_fx ht, row_fx ht, relab_fx ht]
  · have h0' : ¬ (1200 : Int) < l.length := by omega
    rw [if_neg h0] at hV
    simp [-Int.natCast_add, h0, h0', bare_fx ht, row_fx ht, relab_fx ht]
    refine loop_by (fun q : Nat × Str => l.length - q.1) (fun (q : Nat × Str) t m => q.1 ≤ l.length ∧ (∀ a, prev l q.1 = some a → textErrP a = 0) ∧ q.2.length ≤ 141 * q.1 ∧ joinGo (l.drop q.1) (prev l q.1) q.2 = G ∧ clean (lvJo 5) t m = headS [(0, .sl 4 (l.map tkC) tk), (4, .str q.2), (5, .int .i64 q.1)] []) ?_ (0, []) ?_
    · rintro ⟨i, s⟩ t m ⟨hi, hI, hsl, hgo, hS⟩ ih
      simp only at hi hI hsl hgo hS ih
      refine round_of hS ?_
      by_cases h1 : i < l.length
      · rw [List.drop_eq_getElem_cons h1] at hgo
        have hpn : prev l (i + 1) = some l[i] := List.getElem?_eq_getElem h1
        have hxi := hx l[i] (List.getElem_mem h1)
        rcases hq : l[i] with ⟨kd, tx, ln, cl⟩
        rw [hq] at hgo hpn hxi
        simp only at hxi
        have hck := bare_ev ⟨kd, tx, ln, cl⟩ (by simp only; omega)
        rw [bare_same] at hck
        by_cases h2 : textErrP ⟨kd, tx, ln, cl⟩ = 0
        · rw [joinGo, if_pos h2] at hgo
          rw [h2] at hck
          simp only [tkC] at hck
          have w2 : IntKind.i64.wrap ((i : Int) + 1) = ((i + 1 : Nat) : Int) := wrap_i64 (by omega) (by omega)
          have hI2 : ∀ a, prev l (i + 1) = some a → textErrP a = 0 := fun a ha => by
            rw [hpn] at ha; simp only [Option.some.injEq] at ha; rw [← ha]; exact h2
          by_cases h3 : i = 0
          · have hpz : prev l i = none := by rw [h3]; rfl
            rw [hpz] at hgo
            simp only [gapP, List.append_nil] at hgo
            have hi0 : ¬ 0 < i := by omega
            have hi0' : ¬ (0 : Int) < i := by omega
            have n1 : s.length + tx.length ≤ 9223372036854775807 := by omega
            simp [-Int.natCast_add, lvJo, keepJo, h1, hq, tkC, hck, hi0, hi0', n1, w2]
            refine ih (i + 1, s ++ tx) _ _ (by simp only; omega) ⟨by simp only; omega, hI2, by simp only [List.length_append]; omega, by rw [hpn]; exact hgo, ?_⟩
            simp [-Int.natCast_add, lvJo, keepJo, growOf, tkC, bare_fx ht, row_fx ht, relab_fx ht]
          · have hi1 : i - 1 < l.length := by omega
            have hpi : prev l i = some l[i - 1] := by
              cases i with
              | zero => exact absurd rfl h3
              | succ i => exact List.getElem?_eq_getElem hi1
            rcases hqa : l[i - 1] with ⟨ka, ta, lna, cla⟩
            rw [hqa] at hpi
            have hxa := hx l[i - 1] (List.getElem_mem hi1)
            rw [hqa] at hxa
            simp only at hxa
            have a4 := hI _ hpi
            have hb := spaced_ev ⟨ka, ta, lna, cla⟩ ⟨kd, tx, ln, cl⟩ (right_len _ (by rw [bare_same]; exact a4)) (right_len _ (by rw [bare_same]; exact h2)) (by simp only; omega) (by simp only; omega)
            have w0 : IntKind.i64.wrap ((i : Int) - 1) = ((i - 1 : Nat) : Int) := by rw [wrap_i64 (by omega) (by omega)]; omega
            have hi0 : 0 < i := by omega
            have hi0' : (0 : Int) < i := by omega
            simp only [tkC] at hb
            rw [hpi] at hgo
            simp only [gapP] at hgo
            cases hsp : spacedP ⟨ka, ta, lna, cla⟩ ⟨kd, tx, ln, cl⟩
            · rw [hsp] at hb hgo
              simp only [Bool.false_eq_true, if_false, List.append_nil] at hgo
              have n1 : s.length + tx.length ≤ 9223372036854775807 := by omega
              simp [-Int.natCast_add, lvJo, keepJo, h1, hq, tkC, hck, hi0, hi0', w0, hi1, hqa, hb, n1, w2]
              refine ih (i + 1, s ++ tx) _ _ (by simp only; omega) ⟨by simp only; omega, hI2, by simp only [List.length_append]; omega, by rw [hpn]; exact hgo, ?_⟩
              simp [-Int.natCast_add, lvJo, keepJo, growOf, tkC, bare_fx ht, row_fx ht, relab_fx ht]
            · rw [hsp] at hb hgo
              simp only [if_true] at hgo
              have n0 : s.length + 1 ≤ 9223372036854775807 := by omega
              have n1 : s.length + 1 + tx.length ≤ 9223372036854775807 := by omega
              have n2 : s.length + (1 + tx.length) ≤ 9223372036854775807 := by omega
              have n3 : s.length + (tx.length + 1) ≤ 9223372036854775807 := by omega
              simp [-Int.natCast_add, lvJo, keepJo, h1, hq, tkC, hck, hi0, hi0', w0, hi1, hqa, hb, n0, n1, n2, n3, w2]
              refine ih (i + 1, s ++ [32] ++ tx) _ _ (by simp only; omega) ⟨by simp only; omega, hI2, by simp only [List.length_append, List.length_singleton]; omega, by rw [hpn]; exact hgo, ?_⟩
              simp [-Int.natCast_add, lvJo, keepJo, growOf, tkC, bare_fx ht, row_fx ht, relab_fx ht]
        · rw [joinGo, if_neg h2] at hgo
          subst hgo
          simp only at hV
          rw [if_neg h2] at hV
          generalize textErrP ⟨kd, tx, ln, cl⟩ = e at h2 hck hV
          have h2' : (e == 0) = false := by simpa using h2
          have h2'' : (e != 0) = true := by simpa using h2
          simp only [tkC] at hck
          simp [-Int.natCast_add, lvJo, keepJo, h1, hq, tkC, hck, h2, h2', h2'']
          rw [hV]; simp [joAV]
      · have hie : i = l.length := by omega
        subst hie
        rw [List.drop_length] at hgo
        have hgo : ((s, 0) : Str × Int) = G := hgo
        subst hgo
        simp only [if_true] at hV
        by_cases h4 : 20000 < s.length
        · have h4' : (20000 : Int) < s.length := by omega
          rw [if_pos h4] at hV
          simp [-Int.natCast_add, lvJo, keepJo, h4, h4']
          rw [hV]; simp [joAV]
        · have h4' : ¬ (20000 : Int) < s.length := by omega
          rw [if_neg h4] at hV
          simp [-Int.natCast_add, lvJo, keepJo, h4, h4']
          rw [hV]; simp [joAV]
    · refine ⟨Nat.zero_le _, fun a h => by simp [prev] at h, by simp, hG, ?_⟩
      simp [-Int.natCast_add, lvJo, keepJo, growOf, bare_fx ht, row_fx ht, relab_fx ht]
theorem joined_sim (l : List Tk) (tk : Tok) (ht : Fx tk) (hl : l.length ≤ 1300) (hx : ∀ t ∈ l, t.text.length ≤ 140) : SimCall Tryz.prog 27 [.sl 4 (l.map tkC) tk] [] (joAV (joinP l)) [] := by
  obtain ⟨c, hc⟩ : ∃ c, Tryz.f27.body = some c := ⟨_, rfl⟩
  have hok := jo_ok
  rw [hc] at hok
  exact fn_sound (drawSound planFollows) planFollows (E := ⟨evc plan, planRo, lvJo, 51⟩) (evc_sound plan_ok) Tryz.func27 hc (Nat.le_refl _) hok Tryz.call27 (by simp) (joined_law l tk ht hl hx)
/-- The two printings as calls that are known. -/
theorem printed_sim (l : List Tk) (tk : Tok) (ht : Fx tk) (hl : l.length ≤ 1300) (hx : ∀ t ∈ l, t.text.length ≤ 140) : SimCall Tryz.prog 24 [.sl 4 (l.map tkC) tk] [] (prAV (printP l)) [] := by
  obtain ⟨c, hc⟩ : ∃ c, Tryz.f24.body = some c := ⟨_, rfl⟩
  have hok := pr_ok l tk
  rw [hc] at hok
  have hS : Sound Tryz.prog (oraclePr l tk) := by
    unfold oraclePr
    split
    · rename_i h
      obtain ⟨z1, z2⟩ := printGo_inv l none 0 [] printGo_start h
      exact overO_sound (evc_sound plan_ok) (as_sim _ l .none tk fx_none ht (by have := total_le _ 120 z1; omega) (by omega) (fun x hx => by have := z1 x hx; omega) (by omega))
    · exact evc_sound plan_ok
  exact fnO_sound planFollows (E := envPr l tk) hS noFresh_sound Tryz.func24 hc rfl (Nat.le_refl _) hok Tryz.call24 (printed_ev l tk ht hl hx c hc)
theorem rprinted_sim (l : List Tk) (tk : Tok) (ht : Fx tk) (hl : l.length ≤ 1300) (hx : ∀ t ∈ l, t.text.length ≤ 140) : SimCall Tryz.prog 26 [.sl 4 (l.map tkC) tk] [] (prAV (printP l)) [] := by
  obtain ⟨c, hc⟩ : ∃ c, Tryz.f26.body = some c := ⟨_, rfl⟩
  have hok := re_ok
  rw [hc] at hok
  exact fnO_sound planFollows (E := envRe) (evc_sound plan_ok) noFresh_sound Tryz.func26 hc rfl (Nat.le_refl _) hok Tryz.call26 (rprinted_ev l tk ht hl hx c hc)
end Go.Proofs.YtlmmgblghgmgeaaGreatDoor
