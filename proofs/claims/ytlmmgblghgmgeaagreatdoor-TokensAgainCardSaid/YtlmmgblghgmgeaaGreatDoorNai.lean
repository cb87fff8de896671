/- The texts WalkR, merged. -/
import Derived.Test.YtlmmgblghgmgeaaGreatDoorNah
set_option linter.unusedVariables false
set_option linter.unusedSimpArgs false
/- A text without its comments, evaluated. -/
namespace Go.Proofs.YtlmmgblghgmgeaaGreatDoor
open Go Ev Go.RowKit
set_option maxRecDepth 100000
set_option linter.unusedSimpArgs false
attribute [local simp] clean keepBoxes relabB relabL cleanS fixPtr headS ofL ofB cellsOfB namesOf upd_false AV.cells row_undef row_bool row_int row_str row_snil row_snone row_sclip row_srow row_ptr row_eptr row_pnil row_fn row_fnil row_agg row_tup relab_undef relab_bool relab_int relab_str relab_snil relab_snone relab_sclip relab_srow relab_ptr relab_eptr relab_pnil relab_fn relab_fnil relab_agg relab_tup relab_sgrow after_apply viewT scalarR AV.scalar evO_exit evO_seq evO_region evO_cond evO_ret evO_skip evO_block evO_loop roundKO_normal roundKO_exit roundKO_ret seqKO_normal seqKO_exit seqKO_ret blockKO_normal blockKO_exit blockKO_ret regKO_eq finKO evReg storeParts appParts freshParts madeParts inplParts storeK appK madeK inplK base0 getO setO dropO frozen dn finO allScalar_nil allScalar_cons dFor_none storeFine_none dFor_no storeFine_no lessL lkL evCode_exit evCode_seq evCode_plain evCode_draw evCode_cond evCode_ret evCode_skip evCode_block evCode_loop roundK_normal roundK_exit roundK_ret seqK_normal seqK_exit seqK_ret blockK_normal blockK_exit blockK_ret regK_eq evOps_nil evOps_cons params astep okDst isWanted aop opnd ofValue putT abin noPtr acall adopt_bool adopt_int adopt_str adopt_agg adopt_clip partOf setCells fillC AV.isVal List.range List.range.loop mayRead dsts planRo capIds viewed bare_undef bare_bool bare_int bare_str bare_snil bare_snone bare_sclip bare_srow bare_ptr bare_eptr bare_pnil bare_fn bare_fnil bare_agg bare_tup passed setBoxes killNames addNames freshAll adopt resParts resBack boxName finK freezeT avAll resOf outBoxes AV.untup

/-- A line with blanks from a place to another. -/
def blankLine (s : Str) (a b : Nat) : Str := s.take a ++ Lib.repeatL [32] (b - a) ++ s.drop b
def spanFrom (c : Sp) (i : Nat) : Nat := if i = c.l0 then c.c0 else 0
def spanTo (c : Sp) (n i : Nat) : Nat := if i = c.l1 then c.c1 else n
def blankAt (c : Sp) (out : List Str) (i : Nat) : List Str := out.set i (blankLine (out.getD i []) (spanFrom c i) (spanTo c (out.getD i []).length i))
def blankGo (c : Sp) : Nat → Nat → List Str → List Str
  | 0, _, out => out
  | n + 1, i, out => blankGo c n (i + 1) (blankAt c out i)
def blankOne (out : List Str) (c : Sp) : List Str := blankGo c (c.l1 + 1 - c.l0) c.l0 out
def withoutP (l : List Str) (cs : List Sp) : List Str := cs.foldl blankOne l
/-- A span of lines that have some lengths. -/
structure SpOk (ns : List Nat) (c : Sp) : Prop where
  le : c.l0 ≤ c.l1
  lt : c.l1 < ns.length
  c0 : c.c0 ≤ ns.getD c.l0 0
  c1 : c.c1 ≤ ns.getD c.l1 0
  same : c.l0 = c.l1 → c.c0 ≤ c.c1
def lens (l : List Str) : List Nat := l.map (·.length)
theorem repeatL_one (b : UInt8) : ∀ n, Lib.repeatL [b] n = List.replicate n b
  | 0 => rfl
  | n + 1 => by
    have := repeatL_one b n
    simp [Lib.repeatL] at this ⊢
    rw [List.replicate_succ]
    simp [this]
theorem blankLine_len (s : Str) (a b : Nat) (h1 : a ≤ b) (h2 : b ≤ s.length) : (blankLine s a b).length = s.length := by
  unfold blankLine
  rw [repeatL_one]
  simp only [List.length_append, List.length_take, List.length_replicate, List.length_drop]; omega
theorem span_range {ns : List Nat} {c : Sp} (h : SpOk ns c) (i : Nat) (h1 : c.l0 ≤ i) (h2 : i ≤ c.l1) : spanFrom c i ≤ spanTo c (ns.getD i 0) i ∧ spanTo c (ns.getD i 0) i ≤ ns.getD i 0 := by
  obtain ⟨q1, q2, q3, q4, q5⟩ := h
  unfold spanFrom spanTo
  by_cases hi0 : i = c.l0 <;> by_cases hi1 : i = c.l1
  · rw [if_pos hi0, if_pos hi1]; subst hi0; exact ⟨q5 hi1, by rw [hi1]; exact q4⟩
  · rw [if_pos hi0, if_neg hi1]; subst hi0; exact ⟨q3, Nat.le_refl _⟩
  · rw [if_neg hi0, if_pos hi1]; exact ⟨Nat.zero_le _, by rw [hi1]; exact q4⟩
  · rw [if_neg hi0, if_neg hi1]; exact ⟨Nat.zero_le _, Nat.le_refl _⟩
theorem lens_getD (l : List Str) (i : Nat) : (lens l).getD i 0 = (l.getD i []).length := by
  simp only [lens, List.getD_eq_getElem?_getD, List.getElem?_map]
  cases l[i]? <;> rfl
theorem blankAt_lens {ns : List Nat} {c : Sp} (h : SpOk ns c) (out : List Str) (ho : lens out = ns) (i : Nat) (h1 : c.l0 ≤ i) (h2 : i ≤ c.l1) : lens (blankAt c out i) = ns := by
  have hr := span_range h i h1 h2
  rw [← ho, lens_getD] at hr
  unfold blankAt
  rw [← ho]
  unfold lens
  rw [List.map_set, blankLine_len _ _ _ hr.1 hr.2]
  apply List.ext_getElem?
  intro j
  rw [List.getElem?_set]
  by_cases hj : i = j
  · subst hj
    rw [if_pos rfl]
    simp only [List.length_map]
    by_cases hl : i < out.length
    · simp [hl, List.getD_eq_getElem?_getD]
    · simp [hl]
  · rw [if_neg hj]
theorem strs_set (l : List Str) (i : Nat) (x : Str) : (strs l).set i [.str x] = strs (l.set i x) := by
  unfold strs; rw [List.map_set]

theorem repeat_ev (s : Str) (n : Int) (h0 : 0 ≤ n) (hn : n ≤ 9223372036854775807) (h : s.length * n.toNat ≤ 140737488355328) : evc plan 43 [.str s, .int .i64 n] [] = some (.str (Lib.repeatL s n.toNat), []) := evc_ext plan rfl (by
  show (if 0 ≤ n ∧ n ≤ 9223372036854775807 ∧ s.length * n.toNat ≤ 140737488355328 then some (AV.str (Lib.repeatL s n.toNat), []) else none) = _
  rw [if_pos ⟨h0, hn, h⟩])
def keepW6 : Keep := ⟨[(3, none), (6, none), (29, none), (30, none), (31, none)], [], by decide, by decide⟩
def keepW9 : Keep := ⟨[(3, none), (6, none), (10, none), (11, none), (29, none), (30, none), (31, none)], [], by decide, by decide⟩
def lvWithout : Nat → Keep := fun id => if id = 6 then keepW6 else if id = 9 then keepW9 else noKeep
def kindWithout : Nat → RK := fun id => if id = 4 then .fresh 8 else if id = 11 then .view else if id = 16 then .store 8 66 else if id = 18 then .give else .plain
/-- Is it a list of strings, of a length that may be cloned? -/
def isStrs (els : List (List AV)) : Bool := els.all fun e => match e with | [.str _] => true | _ => false
noncomputable def freshClone : Fresher := fun f args => if f = 42 then (match args with
  | [.sl 1 els tk] => if isStrs els = true ∧ els.length * 16 ≤ 70368744177664 ∧ (tk = .clip ∨ tk = .none) then some (1, els) else none
  | _ => none) else none
noncomputable def envWithout : EnvO := ⟨⟨evc plan, planRo, lvWithout, 90⟩, kindWithout, [8], freshClone, noTurn⟩
theorem without_ok : codeOkO envWithout (Tryz.f18.body.getD .skip) = true := by kernel_rfl
theorem isStrs_strs (l : List Str) : isStrs (strs l) = true := by
  simp [isStrs, strs]
theorem strs_len (l : List Str) : (strs l).length = l.length := by simp [strs]
/-- What the call comes to. -/
def withoutR (l : List Str) : AV := .tup [if (readP l).err != 0 then .sl 0 [] .nil else .sl 1 (strs (withoutP l (readP l).cs)) .none, .agg [.int .i64 (readP l).line, .int .i64 (readP l).col], .int .i64 (readP l).err]
set_option maxHeartbeats 4000000 in
theorem without_ev (l : List Str) (tk : Tok) (ht : Fx tk) (hl : l.length ≤ 400) (hok : ∀ c ∈ (readP l).cs, SpOk (lens l) c) (hn : (readP l).cs.length < 2 ^ 40) (hx : ∀ x ∈ l, x.length < 2 ^ 40) (c : Code) (hc : Tryz.f18.body = some c) :
    evO Tryz.prog envWithout c (params [.sl 1 (strs l) tk] 0) { boxes := ofB [], names := namesOf (cellsOfB []) } [] (finKO Tryz.prog (Tryz.f18.results.toList)) = some (withoutR l, []) := by
  obtain rfl := Option.some.inj hc.symm
  have h := read_ev l tk ht (by omega)
  have hfr : freshClone 42 [.sl 1 (strs l) tk] = some (1, strs l) := by
    unfold freshClone
    rw [if_pos rfl]
    simp only
    rw [if_pos ⟨isStrs_strs l, by rw [strs_len]; omega, ht⟩]
  have hsc := strs_scalar l
  have hh : ∀ k, lvWithout (1000000 + k) = noKeep := fun k => by unfold lvWithout; rw [if_neg (by omega), if_neg (by omega)]
  unfold withoutR
  rcases readR_cases l tk with ⟨e, a, b, rp, he, hp, hr, hR⟩ | ⟨s, hp, hR⟩
  · rw [hR] at h
    rw [hp]
    have he' : e ≠ 0 := by simpa using he
    rcases hr with rfl | ⟨c, rfl⟩ <;> simp [envWithout, kindWithout, lvWithout, h, he, he', bare_fx ht, row_fx ht, relab_fx ht]
  · rw [hR] at h
    rw [hp] at hok hn ⊢
    simp only at hok hn
    obtain ⟨si, sj, ts, cs⟩ := s
    simp only at hok hn ⊢
    obtain ⟨p0, hp0⟩ : ∃ p0 : Int, p0 = 0 := ⟨0, rfl⟩
    simp [-Int.natCast_add, envWithout, kindWithout, lvWithout, h, rdOut, hfr, hsc, bare_fx ht, row_fx ht, relab_fx ht]
    refine loopO_by (fun (q : Nat × List Str) => cs.length - q.1) (fun q t m O => q.1 ≤ cs.length ∧ lens q.2 = lens l ∧ (cs.drop q.1).foldl blankOne q.2 = withoutP l cs ∧ O = [⟨8, 1, strs q.2⟩] ∧
      clean (lvWithout 6) t m = headS [(3, .ptr 500003 0), (6, .ptr 500006 0), (29, .sl 4 (cs.map spC) .none), (30, .int .i64 cs.length), (31, .int .i64 q.1)] [(500003, [.int .i64 0, .int .i64 0]), (500006, [.int .i64 0, .int .i64 0])]) ?_ (0, l) ?_
    · rintro ⟨i, out⟩ t m O ⟨hi, hlen, hfold, rfl, hS⟩ ih
      simp only at hi hlen hfold hS
      refine roundO_of hS ?_
      by_cases h1 : i < cs.length
      · have w1 : IntKind.i64.wrap ((i : Int) + 1) = ((i + 1 : Nat) : Int) := wrap_i64 (by omega) (by omega)
        have hc := hok cs[i] (List.getElem_mem h1)
        have hd : (cs.drop i).foldl blankOne out = (cs.drop (i + 1)).foldl blankOne (blankOne out cs[i]) := by
          rw [List.drop_eq_getElem_cons h1]; rfl
        rw [hd] at hfold
        generalize hq : cs[i] = c at hc hfold
        obtain ⟨l0, c0, l1, c1⟩ := c
        have hbo : blankOne out ⟨l0, c0, l1, c1⟩ = blankGo ⟨l0, c0, l1, c1⟩ (l1 + 1 - l0) l0 out := rfl
        generalize hB : blankOne out ⟨l0, c0, l1, c1⟩ = B at hfold hbo
        have hll : (lens l).length = l.length := by simp [lens]
        have hle := hc.le
        have hlt := hc.lt
        simp only at hle hlt
        rw [hll] at hlt
        simp [-Int.natCast_add, kindWithout, lvWithout, keepW6, keepW9, h1, hq, spC]
        refine loopO_by (fun (q : Nat × List Str) => l1 + 1 - q.1) (fun q t m O => (l0 ≤ q.1 ∧ q.1 ≤ l1 + 1) ∧ lens q.2 = lens l ∧ blankGo ⟨l0, c0, l1, c1⟩ (l1 + 1 - q.1) q.1 q.2 = B ∧ O = [⟨8, 1, strs q.2⟩] ∧
          clean (lvWithout 9) t m = headS [(3, .ptr 500003 0), (6, .ptr 500006 0), (10, .ptr 500010 0), (11, .int .i64 q.1), (29, .sl 4 (cs.map spC) .none), (30, .int .i64 cs.length), (31, .int .i64 i)] [(500003, [.int .i64 0, .int .i64 0]), (500006, [.int .i64 0, .int .i64 0]), (500010, [.int .i64 l0, .int .i64 c0, .int .i64 l1, .int .i64 c1])]) ?_ (l0, out) ?_
        · rintro ⟨k, cur⟩ t m O ⟨⟨hk1, hk2⟩, hlen2, hgo, rfl, hS2⟩ ih2
          simp only at hk1 hk2 hlen2 hgo hS2
          refine roundO_of hS2 ?_
          have hcl : cur.length = l.length := by have := congrArg List.length hlen2; simpa [lens] using this
          by_cases h2 : k ≤ l1
          · have w2 : IntKind.i64.wrap ((k : Int) + 1) = ((k + 1 : Nat) : Int) := wrap_i64 (by omega) (by omega)
            have hkc : k < cur.length := by omega
            have hnk : (lens l).getD k 0 = cur[k].length := by
              rw [← hlen2, lens_getD]; simp [List.getD_eq_getElem?_getD, hkc]
            have hsr := span_range hc k hk1 h2
            rw [hnk] at hsr
            have hcx : cur[k].length < 2 ^ 40 := by
              have h3 : (lens cur).getD k 0 < 2 ^ 40 := by
                rw [hlen2, lens_getD]
                have : l.getD k [] = l[k]'(by omega) := by simp [List.getD_eq_getElem?_getD, show k < l.length by omega]
                rw [this]
                exact hx _ (List.getElem_mem _)
              rw [lens_getD] at h3
              simpa [List.getD_eq_getElem?_getD, hkc] using h3
            have hbl : blankAt ⟨l0, c0, l1, c1⟩ cur k = cur.set k (blankLine cur[k] (spanFrom ⟨l0, c0, l1, c1⟩ k) (spanTo ⟨l0, c0, l1, c1⟩ cur[k].length k)) := by
              unfold blankAt
              simp [List.getD_eq_getElem?_getD, hkc]
            have hgo2 : blankGo ⟨l0, c0, l1, c1⟩ (l1 + 1 - (k + 1)) (k + 1) (blankAt ⟨l0, c0, l1, c1⟩ cur k) = B := by
              rw [← hgo, show l1 + 1 - k = (l1 + 1 - (k + 1)) + 1 by omega]; rfl
            have hlen3 := blankAt_lens hc cur hlen2 k hk1 h2
            have hset : ∀ x : Str, (strs cur).set k [.str x] = strs (cur.set k x) := strs_set cur k
            have hbk := blankLine_len cur[k] _ _ hsr.1 hsr.2
            have fin2 : ∀ (F T : Nat), spanFrom ⟨l0, c0, l1, c1⟩ k = F → spanTo ⟨l0, c0, l1, c1⟩ cur[k].length k = T → F ≤ T ∧ T ≤ cur[k].length ∧ F ≤ cur[k].length ∧ IntKind.i64.wrap ((T : Int) - F) = ((T - F : Nat) : Int) ∧
                evc plan 43 [.str [32], .int .i64 ((T - F : Nat) : Int)] [] = some (.str (Lib.repeatL [32] (T - F)), []) ∧ F + (Lib.repeatL [32] (T - F)).length ≤ 9223372036854775807 ∧
                F + (Lib.repeatL [32] (T - F)).length + (cur[k].length - T) ≤ 9223372036854775807 ∧ blankLine cur[k] (spanFrom ⟨l0, c0, l1, c1⟩ k) (spanTo ⟨l0, c0, l1, c1⟩ cur[k].length k) = cur[k].take F ++ (Lib.repeatL [32] (T - F) ++ cur[k].drop T) := fun F T hF hT => by
              rw [hF, hT] at hsr
              have hre := repeat_ev [32] ((T - F : Nat) : Int) (by omega) (by omega) (by simp; omega)
              rw [Int.toNat_natCast] at hre
              refine ⟨hsr.1, hsr.2, Nat.le_trans hsr.1 hsr.2, ?_, hre, ?_, ?_, ?_⟩
              · rw [show (T : Int) - F = ((T - F : Nat) : Int) by omega]; exact wrap_i64 (by omega) (by omega)
              · rw [repeatL_one]; simp; omega
              · rw [repeatL_one]; simp; omega
              · rw [hF, hT]; unfold blankLine; rw [List.append_assoc]
            have hI : (0 : Int) ≤ (k : Int) := by omega
            by_cases hi0 : k = l0 <;> by_cases hi1 : k = l1
            · obtain ⟨q1, q2, q3, q4, q5, q6, q7, q8⟩ := fin2 (c0) (c1) (by simp [spanFrom, hi0]) (by simp [spanTo, hi1])
              have e0 : ((k : Int) == (l0 : Int)) = true := by simp; omega
              have e1 : ((k : Int) == (l1 : Int)) = true := by simp; omega
              simp (maxSteps := 1000000) [-Int.natCast_add, kindWithout, lvWithout, keepW6, keepW9, h2, hkc, strs, e0, e1, aslice, abound, q1, q2, q3, q4, q5, q6, q7, w2]
              refine ih2 (k + 1, blankAt ⟨l0, c0, l1, c1⟩ cur k) _ _ _ (by simp only; omega) ⟨⟨by simp only; omega, by simp only; omega⟩, hlen3, hgo2, ?_, ?_⟩
              · simp [strs, hbl, q8]
              · simp [-Int.natCast_add, lvWithout, keepW9, growOf]
            · obtain ⟨q1, q2, q3, q4, q5, q6, q7, q8⟩ := fin2 (c0) (cur[k].length) (by simp [spanFrom, hi0]) (by simp [spanTo, hi1])
              have e0 : ((k : Int) == (l0 : Int)) = true := by simp; omega
              have e1 : ((k : Int) == (l1 : Int)) = false := by simp; omega
              simp (maxSteps := 1000000) [-Int.natCast_add, kindWithout, lvWithout, keepW6, keepW9, h2, hkc, strs, e0, e1, aslice, abound, q1, q2, q3, q4, q5, q6, q7, w2]
              refine ih2 (k + 1, blankAt ⟨l0, c0, l1, c1⟩ cur k) _ _ _ (by simp only; omega) ⟨⟨by simp only; omega, by simp only; omega⟩, hlen3, hgo2, ?_, ?_⟩
              · simp [strs, hbl, q8]
              · simp [-Int.natCast_add, lvWithout, keepW9, growOf]
            · obtain ⟨q1, q2, q3, q4, q5, q6, q7, q8⟩ := fin2 (0) (c1) (by simp [spanFrom, hi0]) (by simp [spanTo, hi1])
              simp only [Nat.sub_zero, Int.natCast_zero, Int.sub_zero, Nat.zero_add, List.take_zero, List.nil_append] at q4 q5 q6 q7 q8
              have e0 : ((k : Int) == (l0 : Int)) = false := by simp; omega
              have e1 : ((k : Int) == (l1 : Int)) = true := by simp; omega
              simp (maxSteps := 1000000) [-Int.natCast_add, kindWithout, lvWithout, keepW6, keepW9, h2, hkc, strs, e0, e1, aslice, abound, q1, q2, q3, q4, q5, q6, q7, w2]
              refine ih2 (k + 1, blankAt ⟨l0, c0, l1, c1⟩ cur k) _ _ _ (by simp only; omega) ⟨⟨by simp only; omega, by simp only; omega⟩, hlen3, hgo2, ?_, ?_⟩
              · simp [strs, hbl, q8]
              · simp [-Int.natCast_add, lvWithout, keepW9, growOf]
            · obtain ⟨q1, q2, q3, q4, q5, q6, q7, q8⟩ := fin2 (0) (cur[k].length) (by simp [spanFrom, hi0]) (by simp [spanTo, hi1])
              simp only [Nat.sub_zero, Int.natCast_zero, Int.sub_zero, Nat.zero_add, List.take_zero, List.nil_append] at q4 q5 q6 q7 q8
              have e0 : ((k : Int) == (l0 : Int)) = false := by simp; omega
              have e1 : ((k : Int) == (l1 : Int)) = false := by simp; omega
              simp (maxSteps := 1000000) [-Int.natCast_add, kindWithout, lvWithout, keepW6, keepW9, h2, hkc, strs, e0, e1, aslice, abound, q1, q2, q3, q4, q5, q6, q7, w2]
              refine ih2 (k + 1, blankAt ⟨l0, c0, l1, c1⟩ cur k) _ _ _ (by simp only; omega) ⟨⟨by simp only; omega, by simp only; omega⟩, hlen3, hgo2, ?_, ?_⟩
              · simp [strs, hbl, q8]
              · simp [-Int.natCast_add, lvWithout, keepW9, growOf]
          · have hk : k = l1 + 1 := by omega
            subst hk
            rw [Nat.sub_self] at hgo
            have hgo : cur = B := hgo
            subst hgo
            simp (maxSteps := 1000000) [-Int.natCast_add, kindWithout, lvWithout, keepW6, keepW9, h2, w1]
            refine ih (i + 1, cur) _ _ _ (by simp only; omega) ⟨by simp only; omega, hlen2, hfold, rfl, ?_⟩
            simp [-Int.natCast_add, lvWithout, keepW6, growOf]
        · refine ⟨⟨Nat.le_refl _, by simp only; omega⟩, hlen, by rw [hbo], rfl, ?_⟩
          simp [lvWithout, keepW9, growOf]
      · have hi' : i = cs.length := by omega
        subst hi'
        rw [List.drop_length] at hfold
        have hfold : out = withoutP l cs := hfold
        subst hfold
        simp (maxSteps := 1000000) [-Int.natCast_add, kindWithout, lvWithout, keepW6, keepW9]
        done
    · refine ⟨Nat.zero_le _, rfl, rfl, rfl, ?_⟩
      simp [lvWithout, keepW6, growOf]
end Go.Proofs.YtlmmgblghgmgeaaGreatDoor
