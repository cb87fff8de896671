/- The texts WalkQ, merged. -/
import Derived.Test.YtlmmgblghgmgeaaGreatDoorMah
import Derived.Test.YtlmmgblghgmgeaaGreatDoorMab
import Derived.KernelRfl
set_option linter.unusedVariables false
set_option linter.unusedSimpArgs false
/- A text without its comments: slices.Clone. -/
namespace Go.Proofs.YtlmmgblghgmgeaaGreatDoor
open Go Ev Go.RowKit
set_option maxRecDepth 100000
set_option linter.unusedSimpArgs false
attribute [local simp] evO_exit evO_seq evO_region evO_cond evO_ret evO_skip evO_block evO_loop roundKO_normal roundKO_exit roundKO_ret seqKO_normal seqKO_exit seqKO_ret blockKO_normal blockKO_exit blockKO_ret regKO_eq finKO evReg storeParts appParts freshParts madeParts inplParts storeK appK madeK inplK base0 getO setO dropO viewT frozen after_apply dn finO allScalar_nil allScalar_cons scalarR dFor_none storeFine_none dFor_no storeFine_no lessL lkL evCode_exit evCode_seq evCode_plain evCode_draw evCode_cond evCode_ret evCode_skip evCode_block evCode_loop roundK_normal roundK_exit roundK_ret seqK_normal seqK_exit seqK_ret blockK_normal blockK_exit blockK_ret regK_eq evOps_nil evOps_cons params astep okDst isWanted aop opnd ofValue putT abin headS ofL noPtr acall adopt_bool adopt_int adopt_str adopt_agg adopt_clip upd_false AV.cells partOf setCells fillC AV.isVal List.range List.range.loop ofB mayRead dsts planRo capIds viewed AV.scalar bare_undef bare_bool bare_int bare_str bare_snil bare_snone bare_sclip bare_srow bare_ptr bare_eptr bare_pnil bare_fn bare_fnil bare_agg bare_tup

def kindClone : Nat → RK := fun id => if id = 0 then .born 2 1 else if id = 2 then .born 2 1 else if id = 3 then .app0 2 5 else .plain
def noFresh : Fresher := fun _ _ => none
noncomputable def envClone : EnvO := ⟨⟨evc plan, planRo, lv0, 8⟩, kindClone, [2], noFresh, noTurn⟩
theorem noFresh_sound : FreshSound Tryz.prog noFresh ∧ TurnSound Tryz.prog noTurn := ⟨fun _ _ _ _ h => by simp [noFresh] at h, noTurn_sound _⟩
theorem strs_scalar (l : List Str) : allScalar (strs l) = true := by
  simp [allScalar, strs, AV.scalar]
theorem fnClone_body : ∃ c, Tryz.f42.body = some c := ⟨_, rfl⟩
theorem clone_ok : codeOkO envClone (Tryz.f42.body.getD .skip) = true := by kernel_rfl
theorem planFollows : Tryz.prog.follows .mixedOrders = true := mixed

theorem clone_ev (s : Str) (l : List Str) (tk : Tok) (ht : Fx tk) (hl : (l.length + 1) * 16 ≤ 70368744177664) (c : Code) (hc : Tryz.f42.body = some c) :
    evO Tryz.prog envClone c (params [.sl 1 (strs (s :: l)) tk] 0) { boxes := ofB [], names := namesOf (cellsOfB []) } [] (fun e _ _ O => finO 2 e O) = some (1, strs (s :: l)) := by
  obtain rfl := Option.some.inj hc.symm
  have hs := strs_scalar l
  simp only [strs] at hs
  rcases ht with rfl | rfl <;> simp [-Int.natCast_add, envClone, kindClone, strs, acmpOp, acmp, hs, hl]
/-- Of an empty slice, nil or not: both ways. -/
theorem clone_fresh0 (tk : Tok) (ht : Fx tk) : FreshCall Tryz.prog 42 [.sl 1 [] tk] 1 [] := by
  refine ⟨Tryz.call42, fun w vs hG hsz hargs => ?_⟩
  refine calls_of_wp Tryz.func42 rfl ?_
  have hM : MemRel noCfg { boxes := ofB [], names := namesOf (cellsOfB []) } w := ⟨fun id => rfl, fun id bx g h => by simp [ofB] at h, fun id id' g h => by simp [noCfg] at h, fun p q => rfl, fun p q g e h => by simp [noCfg] at h, fun p q p' q' g e e' h => by simp [noCfg] at h, fun p q g e id h => by simp [noCfg] at h, fun g off h => h.elim⟩
  have hR := params_T (N := 8) (fn := Tryz.f42) (c := noCfg) (Nat.le_refl _) hsz (fun i x v hx hv => .of_V (hargs i x v hx hv)) hM hG
  have hR0 : SRO Tryz.prog 8 noOwn w noCfg noCfg w (params [.sl 1 [] tk] 0) { boxes := ofB [], names := namesOf (cellsOfB []) } [] _ := ⟨hR, .refl _ _, fun _ _ _ h => h, fun _ => none, by simp, by simp⟩
  have hS : Sound Tryz.prog envClone.E.C := evc_sound plan_ok
  have hpost : ∀ (e : Ex) (O' : List OS) (t' : Tmps) (m' : Mem) (c' : Cfg) (a' : Act) (w' : World), finO 2 e O' = some (1, ([] : List (List AV))) → SRO Tryz.prog 8 noOwn w noCfg c' w' t' m' O' a' →
      bodyPost Tryz.prog Tryz.f42 (fun e w' => ∃ v, e = .returned v ∧ Below w.heap.size w w' ∧ FreshV w w' 1 [] v) (exOf e) a' w' := fun e O' t' m' c' a' w' hK hR' => by
    have hbel : Below w.heap.size w w' := below_of_evo (fun _ _ h => h) hR'.ev
    obtain ⟨gs, k1, _⟩ := hR'.ow
    have hrun : (results Tryz.f42 a'.tmps).run Tryz.prog w' = .ok (a'.tmps.getD 2 undef) w' := by
      simp [results, Tryz.f42]
    have hval : (∀ i, e ≠ .exit i) ∧ FreshV w w' 1 [] (a'.tmps.getD 2 undef) := by
      unfold finO at hK
      split at hK
      · simp at hK
      · rename_i o h1 h2
        refine ⟨fun i he => h1 i he, ?_⟩
        simp only [Option.some.injEq, Prod.mk.injEq] at hK
        obtain ⟨hm, hsl⟩ := getO_mem h2
        have h3 := k1 o hm
        rw [hsl] at h3
        cases hg : gs 2 with
        | none =>
          rw [hg] at h3
          exact .inl ⟨rfl, h3.2⟩
        | some g =>
          rw [hg] at h3
          obtain ⟨cap, cs, el, q1, q2, q3, q4, q5, q6, q7, q8⟩ := h3
          rw [hK.2] at q1 q2
          rw [hK.1] at q4
          exact .inr ⟨g, cap, cs, el, q1, q2, q5, q3, q4, by simp, by simp⟩
      · simp at hK
    cases e with
    | exit i => exact absurd rfl (hval.1 i)
    | normal => exact ⟨hR'.sr.defers, _, hrun, _, rfl, hbel, hval.2⟩
    | ret => exact ⟨hR'.sr.defers, _, hrun, _, rfl, hbel, hval.2⟩
  refine wp_seq (codeO_sound planFollows envClone hS noFresh_sound (.region 0 _ false) (by kernel_rfl) (R := Ex × Tmps × Mem × List OS) _ _ _ (fun e t m O => some (e, t, m, O)) _ rfl noCfg _ w hR0 (by intro s hs; simp at hs) _ fun e t1 m1 O1 c1 a1 w1 h1 hR1 hI1 => ?_)
  simp only [Option.some.injEq, Prod.mk.injEq] at h1
  obtain ⟨rfl, rfl, rfl, rfl⟩ := h1
  have hv0 := hR1.sr.T 0
  obtain ⟨ad, cap, hva⟩ : ∃ ad cap, a1.tmps.getD 0 undef = .slice ad 0 cap := by
    have hv : V c1.own w1 (.sl 1 [] tk) (a1.tmps.getD 0 undef) := by rcases ht with rfl | rfl <;> exact hv0
    generalize a1.tmps.getD 0 undef = u at hv
    cases hv with
    | sl _ _ _ ad len cap cv hlen hcap hel' hc hv ho hn hk hr =>
      simp at hlen
      subst hlen
      exact ⟨ad, cap, rfl⟩
  have hus : Tryz.prog.underlying 31 = some (.slice 9) := by kernel_rfl
  refine wp_seq (wp_seq (wp_region ?_))
  have hop : ∀ (i : Nat) (v : Value) (a : Act), 8 ≤ a.tmps.size → i < 8 → (a.put (some i) v).tmps.getD i undef = v := fun i v a ha hi => put_same (by omega)
  have hsz1 : 8 ≤ a1.tmps.size := hR1.sr.size
  show wpOps Tryz.prog _ _ [0, 1] a1 w1
  rw [wpOps_cons]
  refine wpOp_value (v := .slice ad 0 cap) (w' := w1) rfl rfl ?_ ?_
  · show (pure (Next.value (a1.tmps.getD 0 undef)) : Sem Next).run _ _ = _
    rw [hva]; rfl
  rw [wpOps_cons]
  have hp3 : (a1.put (some 3) (.slice ad 0 cap)).eval (.tmp 3) = .slice ad 0 cap := hop 3 _ _ hsz1 (by omega)
  refine wpOp_value (v := .bool ad.isNone) (w' := w1) rfl rfl ?_ ?_
  · show (do pure (Next.value (← (do eqGuard .eql 31 (.tmp 3) (.const (.slice none 0 0)) ((a1.put (some 3) (.slice ad 0 cap)).eval (.tmp 3)) (.slice none 0 0); binOp .eql 31 ((a1.put (some 3) (.slice ad 0 cap)).eval (.tmp 3)) (.slice none 0 0) : Sem Value))) : Sem Next).run _ _ = _
    rw [hp3]
    have hg : (eqGuard .eql 31 (.tmp 3) (.const (.slice none 0 0)) (.slice ad 0 cap) (.slice none 0 0)).run Tryz.prog w1 = .ok () w1 := rfl
    have he := run_equalIn_sl_nil (P := Tryz.prog) (w := w1) 9999 31 _ ad 0 cap 0 0 hus
    have hb : binOp .eql 31 (.slice ad 0 cap) (.slice none 0 0) = (do pure (.bool (← Op.equal 31 (.slice ad 0 cap) (.slice none 0 0)))) := rfl
    have he2 : (Op.equal 31 (.slice ad 0 cap) (.slice none 0 0)).run Tryz.prog w1 = .ok ad.isNone w1 := he
    rw [hb]
    simp [hg, he2]
  -- the state behind
  have hR2 : SRO Tryz.prog 8 noOwn w noCfg c1 w1 (upd (upd (upd (upd (params [.sl 1 [] tk] 0) 2 (.sl 0 [] .nil)) 2 .undef) 3 .undef) 4 (.bool ad.isNone)) { boxes := ofB [], names := namesOf (cellsOfB []) } [⟨2, 1, []⟩] ((a1.put (some 3) (.slice ad 0 cap)).put (some 4) (.bool ad.isNone)) := by
    obtain ⟨gs, k1, k2⟩ := hR1.ow
    have hget : ∀ i, i ≠ 3 → i ≠ 4 → ((a1.put (some 3) (.slice ad 0 cap)).put (some 4) (.bool ad.isNone)).tmps.getD i undef = a1.tmps.getD i undef := fun i h3 h4 => by
      rw [put_getD fun he => h4 (Option.some.inj he).symm, put_getD fun he => h3 (Option.some.inj he).symm]
    refine ⟨⟨fun i => ?_, hR1.sr.M, hR1.sr.G, hR1.sr.defers, by show 8 ≤ _; simpa [Act.put] using hsz1⟩, hR1.ev, hR1.low, gs, fun s hs => ?_, k2⟩
    · by_cases h4 : i = 4
      · subst h4
        rw [put_same (by show 4 < ((a1.put (some 3) (.slice ad 0 cap))).tmps.size; simp [Act.put]; omega)]
        exact .of_V (.bool _)
      · by_cases h3 : i = 3
        · subst h3
          exact .of_V (.undef _)
        · rw [hget i h3 h4]
          have := hR1.sr.T i
          simp only [upd_apply, h3, h4, if_false] at this ⊢
          exact this
    · have hs2 : s = ⟨2, 1, []⟩ := by simpa using hs
      subst hs2
      rw [hget 2 (by omega) (by omega)]
      exact k1 _ hs
  show Exit.then _ _ .normal _ _
  cases hn : ad.isNone with
  | true =>
    rw [hn] at hR2
    exact codeO_sound planFollows envClone hS noFresh_sound (.cond (.tmp 4) _ _) (by kernel_rfl) (R := Nat × List (List AV)) _ _ _ (fun e t m O => match e with | .normal => none | e => finO 2 e O) (1, []) rfl c1 _ w1 hR2 (by simp [InSlots, envClone]) _ fun e t' m' O' c' a' w' hK hR' _ => by
      cases e with
      | normal => simp at hK
      | exit i => exact hpost (.exit i) O' t' m' c' a' w' hK hR'
      | ret => exact hpost .ret O' t' m' c' a' w' hK hR'
  | false =>
    rw [hn] at hR2
    refine codeO_sound planFollows envClone hS noFresh_sound (.cond (.tmp 4) _ _) (by kernel_rfl) (R := Ex × Tmps × Mem × List OS) _ _ _ (fun e t m O => some (e, t, m, O)) _ rfl c1 _ w1 hR2 (by simp [InSlots, envClone]) _ fun e t' m' O' c' a' w' hK hR' hI' => ?_
    simp only [Option.some.injEq, Prod.mk.injEq] at hK
    obtain ⟨rfl, rfl, rfl, rfl⟩ := hK
    refine codeO_sound planFollows envClone hS noFresh_sound (.seq (.region 3 _ false) .ret) (by kernel_rfl) (R := Nat × List (List AV)) _ _ _ (fun e t m O => finO 2 e O) (1, []) ?_ c' _ w' hR' hI' _ fun e t' m' O' c' a' w' hK hR' _ => hpost e O' t' m' c' a' w' hK hR'
    rcases ht with rfl | rfl <;> simp [-Int.natCast_add, envClone, kindClone]
theorem clone_fresh (l : List Str) (tk : Tok) (ht : Fx tk) (hl : l.length * 16 ≤ 70368744177664) : FreshCall Tryz.prog 42 [.sl 1 (strs l) tk] 1 (strs l) := by
  cases l with
  | nil => exact clone_fresh0 tk ht
  | cons s l =>
    obtain ⟨c, hc⟩ := fnClone_body
    have hok := clone_ok
    rw [hc] at hok
    exact fnO_fresh planFollows (E := envClone) (evc_sound plan_ok) noFresh_sound Tryz.func42 hc rfl (Nat.le_refl _) hok Tryz.call42 (clone_ev s l tk ht (by simpa using hl) c hc)
end Go.Proofs.YtlmmgblghgmgeaaGreatDoor
