/- The texts Over, RefL, merged. -/
import Derived.Test.YtlmmgblghgmgeaaGreatDoorMae
import Derived.Test.YtlmmgblghgmgeaaGreatDoorMak
import Derived.Test.YtlmmgblghgmgeaaGreatDoorMah
set_option linter.unusedVariables false
set_option linter.unusedSimpArgs false
/- What is known of one more call. -/
namespace Go.Proofs.YtlmmgblghgmgeaaGreatDoor
open Go Ev

/-- What is known of one more call. -/
noncomputable def overO (C : Oracle) (f0 : FuncId) (a0 : List AV) (r0 : AV) : Oracle := fun f args bs => open Classical in if f = f0 then (if args = a0 ∧ bs = [] then some (r0, []) else none) else C f args bs
theorem overO_sound {P : Program} {C : Oracle} {f0 : FuncId} {a0 : List AV} {r0 : AV} (hC : Sound P C) (h : SimCall P f0 a0 [] r0 []) : Sound P (overO C f0 a0 r0) := fun f args bs r bs' hr => by
  unfold overO at hr
  split at hr
  · rename_i hf
    subst hf
    split at hr
    · rename_i hc
      obtain ⟨rfl, rfl⟩ := hc
      simp only [Option.some.injEq, Prod.mk.injEq] at hr
      obtain ⟨rfl, rfl⟩ := hr
      exact h
    · simp at hr
  · exact hC _ _ _ _ _ hr
theorem overO_self (C : Oracle) (f0 : FuncId) (a0 : List AV) (r0 : AV) : overO C f0 a0 r0 f0 a0 [] = some (r0, []) := by
  unfold overO; rw [if_pos rfl, if_pos ⟨rfl, rfl⟩]
theorem overO_ne (C : Oracle) {f f0 : FuncId} (a0 : List AV) (r0 : AV) (args : List AV) (bs : List (Nat × Box)) (h : f ≠ f0) : overO C f0 a0 r0 f args bs = C f args bs := by
  unfold overO; rw [if_neg h]
end Go.Proofs.YtlmmgblghgmgeaaGreatDoor

/- The canonical spelling as the reference has it; lists of texts compared: evaluated. -/
namespace Go.Proofs.YtlmmgblghgmgeaaGreatDoor
open Go Ev
set_option maxRecDepth 100000
set_option linter.unusedSimpArgs false
attribute [local simp] dFor_none storeFine_none dFor_no storeFine_no lessL lkL evCode_exit evCode_seq evCode_plain evCode_draw evCode_cond evCode_ret evCode_skip evCode_block evCode_loop roundK_normal roundK_exit roundK_ret seqK_normal seqK_exit seqK_ret blockK_normal blockK_exit blockK_ret regK_eq evOps_nil evOps_cons params astep okDst isWanted aop opnd ofValue putT abin headS ofL noPtr acall adopt_bool adopt_int adopt_str adopt_agg adopt_clip upd_false AV.cells partOf setCells fillC AV.isVal List.range List.range.loop ofB mayRead dsts planRo capIds viewed scalarR AV.scalar bare_undef bare_bool bare_int bare_str bare_snil bare_snone bare_sclip bare_srow bare_ptr bare_eptr bare_pnil bare_fn bare_fnil bare_agg bare_tup clean keepBoxes relabB relabL cleanS fixPtr cellsOfB namesOf row_undef row_bool row_int row_str row_snil row_snone row_sclip row_srow row_ptr row_eptr row_pnil row_fn row_fnil row_agg row_tup relab_undef relab_bool relab_int relab_str relab_snil relab_snone relab_sclip relab_srow relab_ptr relab_eptr relab_pnil relab_fn relab_fnil relab_agg relab_tup relab_sgrow passed setBoxes killNames addNames freshAll adopt resParts resBack boxName finK freezeT avAll resOf outBoxes AV.untup

def eqT : List Str → List Str → Bool
  | [], [] => true
  | x :: a, y :: b => (x == y) && eqT a b
  | _, _ => false
theorem eqT_refl : ∀ l : List Str, eqT l l = true
  | [] => rfl
  | x :: l => by simp [eqT, eqT_refl l]
theorem eqT_len : ∀ (a b : List Str), a.length ≠ b.length → eqT a b = false
  | [], [], h => by simp at h
  | [], _ :: _, _ => rfl
  | _ :: _, [], _ => rfl
  | x :: a, y :: b, h => by
    have := eqT_len a b (by simpa using h)
    simp [eqT, this]
theorem eqT_drop (a b : List Str) (i : Nat) (h : i < a.length) (h' : i < b.length) : eqT (a.drop i) (b.drop i) = ((a[i] == b[i]) && eqT (a.drop (i + 1)) (b.drop (i + 1))) := by
  rw [List.drop_eq_getElem_cons h, List.drop_eq_getElem_cons h']; rfl
theorem equalT_ev (a b : List Str) (ta tb : Tok) (hta : Fx ta) (htb : Fx tb) (hl : a.length < 2 ^ 62) (hlb : b.length < 2 ^ 62) : evc plan 21 [.sl 1 (strs a) ta, .sl 1 (strs b) tb] [] = some (.bool (eqT a b), []) := by
  refine evc_start plan (P := Tryz.prog) (ro := planRo) rfl rfl rfl rfl rfl rfl (by simp) rfl ?_
  have hn0 : ∀ x y : Str, (x != y) = !(x == y) := fun _ _ => rfl
  cases h0 : ((a.length : Int) != b.length)
  · have h0' : a.length = b.length := by simp at h0; omega
    simp [h0, strs]
    refine loop_by (fun i => a.length - i) (fun (i : Nat) t m => i ≤ a.length ∧ eqT a b = eqT (a.drop i) (b.drop i) ∧ clean (lvSame 4) t m = headS [(0, .sl 1 (strs a) ta), (1, .sl 1 (strs b) tb), (5, .int .i64 i)] []) ?_ 0 ?_
    · intro i t m ⟨hi, hr, hS⟩ ih
      refine round_of hS ?_
      by_cases h1 : i < a.length
      · have h2 : i < b.length := by omega
        have hd := eqT_drop a b i h1 h2
        have w1 : IntKind.i64.wrap ((i : Int) + 1) = ((i + 1 : Nat) : Int) := wrap_i64 (by omega) (by omega)
        have hn := hn0 a[i] b[i]
        cases h3 : (a[i] == b[i])
        · rw [h3] at hn hd
          simp [-Int.natCast_add, h1, h2, strs, hn, h3]
          rw [hr, hd]; rfl
        · rw [h3] at hn hd
          simp [-Int.natCast_add, h1, h2, strs, hn, h3, w1]
          refine ih (i + 1) _ _ (by omega) ⟨by omega, by rw [hr, hd]; rfl, ?_⟩
          simp [-Int.natCast_add, lvSame, lvL, strs, bare_fx hta, row_fx hta, relab_fx hta, bare_fx htb, row_fx htb, relab_fx htb]
      · have hi' : i = a.length := by omega
        subst hi'
        simp [strs]
        rw [hr, List.drop_length, h0', List.drop_length]; rfl
    · refine ⟨by omega, by simp, ?_⟩
      simp [lvSame, lvL, strs, bare_fx hta, row_fx hta, relab_fx hta, bare_fx htb, row_fx htb, relab_fx htb]
  · have h0' : a.length ≠ b.length := by simp at h0; omega
    simp [h0, strs, eqT_len a b h0']
/-- The reference's canonical spelling: the text, and whether there is one. -/
def rcanonP (s : Str) : Str × Bool :=
  if decide (idxP (fun x => x.1 == s) othersL 0 < 0) then
    if decide ((sameP s 0 : Int) > 3) && ((sameP s 0 : Int) == s.length) && (((s.getD 0 0).toNat : Int) == 45 || ((s.getD 0 0).toNat : Int) == 61) then (s.take 4, true)
    else (s, plainL.any fun y => y == s)
  else ((othersL.getD (idxP (fun x => x.1 == s) othersL 0).toNat ([], [])).2, true)
theorem rsigns_has (x : Str) : evc plan 63 [.sl 1 (strs plainL) .clip, .str x] [] = some (.bool (plainL.any fun y => y == x), []) := rcontains_ev _ _ _ fx_clip (by decide)
set_option maxHeartbeats 2000000 in
theorem rcanon_ev (s : Str) (hl : s.length < 2 ^ 60) : evc plan 30 [.str s] [] = some (.tup [.str (rcanonP s).1, .bool (rcanonP s).2], []) := by
  refine evc_start plan (P := Tryz.prog) (ro := planRo) rfl rfl rfl rfl rfl rfl (by simp) rfl ?_
  have hsame : evc plan 39 [.str s, .int .i64 0] [] = some (.int .i64 (sameP s 0), []) := by simpa using rsame_ev s 0 (by omega) (by omega)
  have hsg := signs_ev
  have hhas := rsigns_has s
  have ho := rothers_ev
  have l11 : othersL.length = 11 := rfl
  have lp : (pairs2 othersL).length = 11 := by simp [pairs2, l11]
  have pg := pairs2_get othersL
  obtain ⟨V, hV⟩ : ∃ V, V = rcanonP s := ⟨_, rfl⟩
  rw [← hV]
  unfold rcanonP at hV
  generalize hPP : pairs2 othersL = PP at ho lp pg
  generalize hOL : othersL = OL at l11 pg hV
  generalize hPL : plainL = PL at hsg hhas hV
  simp [ho]
  refine loop_by (fun i => 11 - i) (fun (i : Nat) t m => i ≤ 11 ∧ idxP (fun x => x.1 == s) OL 0 = idxP (fun x => x.1 == s) (OL.drop i) i ∧ clean (lvBRead 3) t m = headS [(0, .str s), (4, .sl 2 PP .clip), (5, .int .i64 i)] []) ?_ 0 ?_
  · intro i t m ⟨hi, hr, hS⟩ ih
    refine round_of hS ?_
    by_cases h1 : i < 11
    · have hd := idxP_drop (fun x : Str × Str => x.1 == s) OL i (by omega)
      have w1 : IntKind.i64.wrap ((i : Int) + 1) = ((i + 1 : Nat) : Int) := wrap_i64 (by omega) (by omega)
      have pi := pg i (by omega) (by omega)
      have hi11 : (i : Int) < 11 := by omega
      cases h2 : (OL[i]'(by omega)).1 == s
      · simp only [h2] at hd
        simp [-Int.natCast_add, lp, h1, hi11, w1, pi, arr_pair, el_pair, h2]
        refine ih (i + 1) _ _ (by omega) ⟨by omega, by rw [hr, hd]; simp, ?_⟩
        simp [-Int.natCast_add, lvBRead, lvL]
      · simp only [h2] at hd
        simp [-Int.natCast_add, lp, h1, hi11, w1, pi, arr_pair, el_pair, h2]
        have hl2 : i < OL.length := by omega
        have hni : ¬ (i : Int) < 0 := by omega
        rw [hV, hr, hd]
        simp [hl2, hni, List.getD_eq_getElem?_getD]
    · have hi11 : i = 11 := by omega
      subst hi11
      have hN : idxP (fun x => x.1 == s) OL 0 = -1 := by
        rw [hr, List.drop_eq_nil_of_le (by omega)]; rfl
      rw [hN] at hV
      cases h3 : decide ((sameP s 0 : Int) > 3)
      · have h3' : ¬ (3 : Int) < sameP s 0 := by simpa using h3
        have h3'' : ¬ 3 < sameP s 0 := by omega
        simp [-Int.natCast_add, lp, hsame, hsg, hhas, h3, h3', h3'']
        rw [hV]; simp [h3', h3'']
      · have h3' : (3 : Int) < sameP s 0 := by simpa using h3
        have h3'' : 3 < sameP s 0 := by omega
        have hpos : 0 < s.length := by
          rcases Nat.eq_zero_or_pos s.length with h | h
          · have : s = [] := List.eq_nil_of_length_eq_zero h
            rw [this] at h3''; simp [sameP, run] at h3''
          · exact h
        have hg : s.getD 0 0 = s[0] := by simp [List.getD_eq_getElem?_getD, hpos]
        rw [hg] at hV
        cases h4 : ((sameP s 0 : Int) == s.length)
        · simp [-Int.natCast_add, lp, hsame, hsg, hhas, h3', h3'', h4]
          rw [hV]; simp [h3'', h4]
        · have h4' : sameP s 0 = s.length := by simp at h4; omega
          have h7 : (3 : Int) < s.length := by omega
          have h7' : 3 < s.length := by omega
          have h7'' : 4 ≤ s.length := by omega
          cases h5 : ((s[0].toNat : Int) == 45) <;> cases h6 : ((s[0].toNat : Int) == 61) <;> simp [-Int.natCast_add, lp, hsame, hsg, hhas, h4, h4', h5, h6, h7, h7', h7'', hpos, aslice, abound]
          all_goals (rw [hV]; simp [h3'', h4, h4', h5, h6, h7, h7'])
  · refine ⟨by omega, by simp, ?_⟩
    simp [lvBRead, lvL]
end Go.Proofs.YtlmmgblghgmgeaaGreatDoor
