/- Which tokens are accepted, and which must be apart, is as specified, for every two tokens (row and tied card of the law TokensChecks). Conditions: the listed variables of Go's library read as the program's text lays them, tied by the given tie. -/
import Derived.Test.YtlmmgblghgmgeaaGreatDoorLaid
import Derived.Test.YtlmmgblghgmgeaaGreatDoorLawChecks
import Derived.Test.YtlmmgblghgmgeaaGreatDoorCards
namespace Go.Proofs.YtlmmgblghgmgeaaGreatDoor
open Go Ev Go.ChangeShapes Go.WideShapes Go.ChangeAt Go.RowKit
set_option maxRecDepth 100000

def tkV (t : Tk) : Value := .agg #[.int .i64 t.kind, .string ⟨t.text.toArray⟩, .int .i64 t.line, .int .i64 t.col]
theorem V_tk {w : World} (t : Tk) : V noOwn w (.agg (tkC t)) (tkV t) := by
  refine .agg _ _ rfl (fun j x v hx hv => ?_) (fun j v hv => ?_)
  · match j with
    | 0 => simp [tkC] at hx hv; subst hx; subst hv; exact .int _ _
    | 1 => simp [tkC] at hx hv; subst hx; subst hv; exact .str _
    | 2 => simp [tkC] at hx hv; subst hx; subst hv; exact .int _ _
    | 3 => simp [tkC] at hx hv; subst hx; subst hv; exact .int _ _
    | j + 4 => simp [tkC] at hx
  · match j with
    | 0 => simp at hv; subst hv; rfl
    | 1 => simp at hv; subst hv; rfl
    | 2 => simp at hv; subst hv; rfl
    | 3 => simp at hv; subst hv; rfl
    | j + 4 => simp at hv
/-- A token's cells. -/
theorem open_tokenC {H : Type} {enc : TypeId × Value → H} {W : World} {base : Nat} {sp : Nat → Bool} {held : Bool} {fuel : Nat} {cs : List Value} {x : DataW H × List MemPlace} (h : DataW.trod enc Tryz.prog W base sp held fuel 23 cs = some x) : ∃ t : Tk, cs = [.int .i64 t.kind, .string ⟨t.text.toArray⟩, .int .i64 t.line, .int .i64 t.col] := by
  obtain ⟨xs, n, _, _, hl, hlen, hf⟩ := DataW.trod_struct under_token h
  have hl : cs.length = 4 := by rw [hl]; kernel_rfl
  have c1 : Tryz.prog.cellsOf 3 = 1 := by kernel_rfl
  have c2 : Tryz.prog.cellsOf 9 = 1 := by kernel_rfl
  match cs, hl, xs, hlen with
  | [a, b, c, d], _, [y0, y1, y2, y3], _ =>
    have h0 := hf 0 (fld "Kind" 3 0 0) rfl
    have h1 := hf 1 (fld "Text" 9 1 8) rfl
    have h2 := hf 2 (fld "Line" 3 2 24) rfl
    have h3 := hf 3 (fld "Column" 3 3 32) rfl
    simp only [fld, c1, c2, List.drop_zero, List.take_succ_cons, List.take_zero, List.drop_succ_cons, List.getElem?_cons_zero, List.getElem?_cons_succ] at h0 h1 h2 h3
    obtain ⟨n0, e0, _, _⟩ := DataW.trod_int under_int h0
    obtain ⟨s1, e1, _, _⟩ := DataW.trod_string under_string h1
    obtain ⟨n2, e2, _, _⟩ := DataW.trod_int under_int h2
    obtain ⟨n3, e3, _, _⟩ := DataW.trod_int under_int h3
    simp only [List.cons.injEq, and_true] at e0 e1 e2 e3
    refine ⟨⟨n0, s1.data.toList, n2, n3⟩, ?_⟩
    rw [e0, e1, e2, e3]
theorem open_token {H : Type} {enc : TypeId × Value → H} {W : World} {base b0 : Nat} {sp : Nat → Bool} {held : Bool} {v : Value} {d : DataW H} {ps : List MemPlace} (hval : Value.okWide Tryz.prog W .any b0 23 v) (h : DataW.Trod enc Tryz.prog W base sp held 23 v d ps) : ∃ t : Tk, v = tkV t := by
  obtain ⟨cs, rfl, _⟩ := okWide_struct under_token hval
  obtain ⟨fuel, hf⟩ := h
  obtain ⟨t, ht⟩ := open_tokenC hf
  refine ⟨t, ?_⟩
  unfold tkV
  congr 1
  apply Array.ext'
  simpa [Value.cells] using ht

/-- The call, in whatever memory. -/
theorem checks_calls {W : World} (a b : Tk) (hG : Gl Tryz.prog noOwn W) :
    Calls Tryz.prog 3 #[tkV a, tkV b] W fun e W' => e = .returned (.bool true) ∧ Below W.heap.size W W' := by
  have h := lawChecks_ev a b
  rw [lawChecks_true] at h
  refine ((sim h).calls hG rfl fun i y u hy hu => ?_).mono ?_
  · match i with
    | 0 => simp at hy hu; subst hy; subst hu; exact .of_V (V_tk a)
    | 1 => simp at hy hu; subst hy; subst hu; exact .of_V (V_tk b)
    | i + 2 => simp at hy
  · rintro e W' ⟨u, own, rfl, hb, c', _, hT⟩
    exact ⟨by rw [T_bool hT], hb⟩

theorem liftedChecks (os : Os) (started : os.Started) (H : Type) (enc : TypeId × Value → H) :
    ReturnsInHanded {} Tryz.checked os 3 .any (fun w args => (Rows.tokensChecksSpec.pre enc Tryz.prog Tryz.f3 Rows.tokensChecksRow.domain false w args ∧ laidMetH Tryz.prog Rows.tokensChecksRow.laid w) ∧ sizedMet enc Tryz.prog Tryz.f3 (OpenSpec.ofChange Rows.tokensChecksSpec) false w args)
      (Rows.tokensChecksSpec.post enc Tryz.prog Tryz.f3 false true false false) := by
  refine returnsInHanded_of_change_and (C := Tryz.checked) (X := fun w _ => laidMetH Tryz.prog laidL w) (fun _ _ _ hh h => h.of_heap hh) ownKnobs started (by kernel_rfl) Tryz.func3
    (ChangeSpec.witness_shaped (enc := enc) (C := Tryz.checked) (os := os) (X := fun w _ => laidMetH Tryz.prog laidL w) false (World.laidAll Tryz.prog os laidL) #[tkV ⟨0, [], 0, 0⟩, tkV ⟨0, [], 0, 0⟩] 8 (World.laidAll_os _ _ _)
      (World.shaped_of_ZipB (by kernel_rfl) (by kernel_rfl)) (by kernel_rfl) (by kernel_rfl) (by kernel_rfl)
      (by rw [laid_plain]; exact laidMet_laidAll _ (by kernel_rfl) (by kernel_rfl))) ?_
  intro W base args ds gs before hval0 hW _ hsz0 hL _
  have hval : ∀ (j : Nat) t v, Tryz.f3.params[j]? = some t → args[j]? = some v → Value.okWide Tryz.prog W .any base t v := hval0
  have hW' := hW
  obtain ⟨p, q, hA0, hV, rfl, hfz, hnd⟩ := hW
  have hA : DataW.TrodAll enc Tryz.prog W 0 (fun _ => true) true Tryz.f3.params.toList args.toList ds p := hA0
  rw [Tryz.params3] at hA hval
  obtain ⟨v0, vs0, d0, ds0, p0, q0, hargs, rfl, rfl, h0, r0⟩ := trodAll_cons hA
  obtain ⟨v1, vs1, d1, ds1, p1, q1, rfl, rfl, rfl, h1, r1⟩ := trodAll_cons r0
  obtain ⟨rfl, rfl, rfl⟩ := trodAll_nil r1
  obtain rfl : args = #[v0, v1] := by cases args; simp_all
  obtain ⟨rfl, rfl⟩ := trodVars_none hV
  have k0 := h0
  have k1 := h1
  have lt0 : ∀ x ∈ p0, x.block < W.heap.size := by obtain ⟨m, hm⟩ := k0; exact DataW.trod_lt m _ _ _ hm
  have lt1 : ∀ x ∈ p1, x.block < W.heap.size := by obtain ⟨m, hm⟩ := k1; exact DataW.trod_lt m _ _ _ hm
  obtain ⟨a, rfl⟩ := open_token (hval 0 23 v0 rfl rfl) h0
  obtain ⟨b, rfl⟩ := open_token (hval 1 23 v1 rfl rfl) h1
  clear hA0 hval0 hsz0
  refine (checks_calls a b (gl_of_laid hL)).mono fun e W' ⟨he, bel⟩ => ?_
  subst he
  exact ⟨_, rfl, _, _, _, [], _, [], hW', trodAll_mk1 (shut_bool Tryz.underlying4 _), (trodAll_cons_mk (Below.trod laidOuts (by kernel_rfl) (of_decide_eq_true (by kernel_rfl)) k0 bel lt0) (trodAll_cons_mk (Below.trod laidOuts (by kernel_rfl) (of_decide_eq_true (by kernel_rfl)) k1 bel lt1) trodAll_mk0)), rfl, bel.frame _, fun h => by cases h⟩
theorem rowChecks_holds : Rows.TokensChecksSaid :=
  OpenClaim.holds_of_wide 3 Tryz.f3 rfl rfl rfl rfl rfl rfl rfl ⟨rfl, rfl, rfl, rfl, rfl⟩ rfl rfl rfl rfl rfl (by kernel_rfl) Tryz.func3 (by kernel_rfl)
    (of_decide_eq_true (by kernel_rfl)) (by unfold Func.isWrapper; first | (rw [if_pos (by decide +kernel)]; kernel_rfl) | (rw [if_neg (by decide +kernel)]; exact ⟨rfl, rfl⟩))
    (fun os started H enc _ => liftedChecks os started H enc)
theorem tokensChecks_card : Rows.TokensChecksCardSaid :=
  Claim7.holds_tied_plain_at .later [] [.data, .listed, .data, .pinned] true (true, "82b6df560e3e66ff26c5ae73ac5a80ec1f39ec9e1c257a58c49eb3a81994e024") false rowChecks_holds (fun _ h => by cases h) (by kernel_rfl) (fun _ h => by cases h) tokensChecks_row_tie rfl ⟨rfl, rfl⟩ (by kernel_rfl) rfl
    (fun f fn hf hfn => by
      obtain rfl : f = 3 := Option.some.inj ((show Tryz.prog.funcNamed "stutter/stutterlaw01.TokensChecks" = some 3 by kernel_rfl).symm.trans hf) |>.symm
      obtain rfl : fn = Tryz.f3 := (Option.some.inj (Tryz.func3.symm.trans hfn)).symm
      exact ⟨by kernel_rfl, fun j t ht => by
        rw [Tryz.params3] at ht
        have hm : t ∈ [23] := by
          have := Array.mem_of_getElem? ht
          simpa using this
        have hall : ([23].all fun u => !Tryz.prog.wantsStandIn u) = true := by kernel_rfl
        exact (show Tryz.prog.wantsStandIn t = false by simpa using List.all_eq_true.1 hall t hm)⟩)
    (by kernel_rfl)
#print axioms tokensChecks_card
end Go.Proofs.YtlmmgblghgmgeaaGreatDoor
