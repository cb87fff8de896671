/- The plan is right: what is evaluated are the program's functions; what is known of the library are contracts. -/
import Derived.Test.YtlmmgblghgmgeaaDoorPlan
import Derived.KernelRfl
namespace Go.Proofs.YtlmmgblghgmgeaaDoor
open Go Ev Go.RowKit
def FnOk (f : FuncId) (fn : Func) (lv : Nat → Keep) : Prop := Tryd.prog.funcs[f]? = some fn ∧ (∀ code, fn.body = some code → codeOk lv code = true) ∧ ∀ (vs : Array Value) (w : World), (callFunc f vs).run Tryd.prog w = .ok (.enter f vs) w
theorem codeOk_of {fn : Func} {lv : Nat → Keep} (h : codeOk lv (fn.body.getD .skip) = true) (code : Code) (hb : fn.body = some code) : codeOk lv code = true := by
  rw [hb] at h
  exact h

theorem ok_3 : FnOk 3 Tryd.f3 lv0 := ⟨Tryd.func3, codeOk_of (by kernel_rfl), Tryd.call3⟩
theorem ok_5 : FnOk 5 Tryd.f5 lv0 := ⟨Tryd.func5, codeOk_of (by kernel_rfl), Tryd.call5⟩
theorem ok_6 : FnOk 6 Tryd.f6 lvFew := ⟨Tryd.func6, codeOk_of (by kernel_rfl), Tryd.call6⟩
theorem ok_13 : FnOk 13 Tryd.f13 lv0 := ⟨Tryd.func13, codeOk_of (by kernel_rfl), Tryd.call13⟩
theorem ok_8 : FnOk 8 Tryd.f8 lv0 := ⟨Tryd.func8, codeOk_of (by kernel_rfl), Tryd.call8⟩
theorem ok_21 : FnOk 21 Tryd.f21 lvShown := ⟨Tryd.func21, codeOk_of (by kernel_rfl), Tryd.call21⟩
theorem ok_9 : FnOk 9 Tryd.f9 lvRefLines := ⟨Tryd.func9, codeOk_of (by kernel_rfl), Tryd.call9⟩
theorem ok_7 : FnOk 7 Tryd.f7 lvLines := ⟨Tryd.func7, codeOk_of (by kernel_rfl), Tryd.call7⟩
theorem ok_12 : FnOk 12 Tryd.f12 lv0 := ⟨Tryd.func12, codeOk_of (by kernel_rfl), Tryd.call12⟩
theorem ok_10 : FnOk 10 Tryd.f10 lv0 := ⟨Tryd.func10, codeOk_of (by kernel_rfl), Tryd.call10⟩
theorem ok_14 : FnOk 14 Tryd.f14 lv0 := ⟨Tryd.func14, codeOk_of (by kernel_rfl), Tryd.call14⟩
theorem ok_15 : FnOk 15 Tryd.f15 lv0 := ⟨Tryd.func15, codeOk_of (by kernel_rfl), Tryd.call15⟩
theorem ok_32 : FnOk 32 Tryd.f32 lv0 := ⟨Tryd.func32, codeOk_of (by kernel_rfl), Tryd.call32⟩
theorem ok_16 : FnOk 16 Tryd.f16 lv0 := ⟨Tryd.func16, codeOk_of (by kernel_rfl), Tryd.call16⟩
theorem ok_17 : FnOk 17 Tryd.f17 lvOr := ⟨Tryd.func17, codeOk_of (by kernel_rfl), Tryd.call17⟩
theorem ok_18 : FnOk 18 Tryd.f18 lv0 := ⟨Tryd.func18, codeOk_of (by kernel_rfl), Tryd.call18⟩
theorem ok_20 : FnOk 20 Tryd.f20 lv0 := ⟨Tryd.func20, codeOk_of (by kernel_rfl), Tryd.call20⟩
theorem ok_22 : FnOk 22 Tryd.f22 lvRead := ⟨Tryd.func22, codeOk_of (by kernel_rfl), Tryd.call22⟩
theorem ok_25 : FnOk 25 Tryd.f25 lv0 := ⟨Tryd.func25, codeOk_of (by kernel_rfl), Tryd.call25⟩
theorem ok_26 : FnOk 26 Tryd.f26 lv0 := ⟨Tryd.func26, codeOk_of (by kernel_rfl), Tryd.call26⟩
theorem ok_27 : FnOk 27 Tryd.f27 lv0 := ⟨Tryd.func27, codeOk_of (by kernel_rfl), Tryd.call27⟩
theorem ok_28 : FnOk 28 Tryd.f28 lv0 := ⟨Tryd.func28, codeOk_of (by kernel_rfl), Tryd.call28⟩
theorem ok_29 : FnOk 29 Tryd.f29 lv0 := ⟨Tryd.func29, codeOk_of (by kernel_rfl), Tryd.call29⟩
theorem ok_30 : FnOk 30 Tryd.f30 lvIndex := ⟨Tryd.func30, codeOk_of (by kernel_rfl), Tryd.call30⟩
theorem ok_31 : FnOk 31 Tryd.f31 lv0 := ⟨Tryd.func31, codeOk_of (by kernel_rfl), Tryd.call31⟩
theorem ok_33 : FnOk 33 Tryd.f33 lv0 := ⟨Tryd.func33, codeOk_of (by kernel_rfl), Tryd.call33⟩
theorem ok_35 : FnOk 35 Tryd.f35 lv0 := ⟨Tryd.func35, codeOk_of (by kernel_rfl), Tryd.call35⟩
theorem ok_36 : FnOk 36 Tryd.f36 lv0 := ⟨Tryd.func36, codeOk_of (by kernel_rfl), Tryd.call36⟩
theorem ok_47 : FnOk 47 Tryd.f47 lv0 := ⟨Tryd.func47, codeOk_of (by kernel_rfl), Tryd.call47⟩
theorem ok_48 : FnOk 48 Tryd.f48 lv0 := ⟨Tryd.func48, codeOk_of (by kernel_rfl), Tryd.call48⟩
theorem ok_49 : FnOk 49 Tryd.f49 lv0 := ⟨Tryd.func49, codeOk_of (by kernel_rfl), Tryd.call49⟩
theorem ok_50 : FnOk 50 Tryd.f50 lvComment := ⟨Tryd.func50, codeOk_of (by kernel_rfl), Tryd.call50⟩
theorem ok_38 : FnOk 38 Tryd.f38 lv0 := ⟨Tryd.func38, codeOk_of (by kernel_rfl), Tryd.call38⟩
theorem ok_54 : FnOk 54 Tryd.f54 lv0 := ⟨Tryd.func54, codeOk_of (by kernel_rfl), Tryd.call54⟩
theorem ok_43 : FnOk 43 Tryd.f43 lvIsRead := ⟨Tryd.func43, codeOk_of (by kernel_rfl), Tryd.call43⟩
theorem ok_58 : FnOk 58 Tryd.f58 lv0 := ⟨Tryd.func58, codeOk_of (by kernel_rfl), Tryd.call58⟩
theorem ok_45 : FnOk 45 Tryd.f45 lvIndex := ⟨Tryd.func45, codeOk_of (by kernel_rfl), Tryd.call45⟩
theorem ok_51 : FnOk 51 Tryd.f51 lv0 := ⟨Tryd.func51, codeOk_of (by kernel_rfl), Tryd.call51⟩
theorem ok_68 : FnOk 68 Tryd.f68 lv0 := ⟨Tryd.func68, codeOk_of (by kernel_rfl), Tryd.call68⟩
theorem ok_69 : FnOk 69 Tryd.f69 lv0 := ⟨Tryd.func69, codeOk_of (by kernel_rfl), Tryd.call69⟩
theorem ok_57 : FnOk 57 Tryd.f57 lvEqual := ⟨Tryd.func57, codeOk_of (by kernel_rfl), Tryd.call57⟩
theorem ok_66 : FnOk 66 Tryd.f66 lvRun := ⟨Tryd.func66, codeOk_of (by kernel_rfl), Tryd.call66⟩
theorem ok_67 : FnOk 67 Tryd.f67 lv0 := ⟨Tryd.func67, codeOk_of (by kernel_rfl), Tryd.call67⟩
theorem ok_70 : FnOk 70 Tryd.f70 lv0 := ⟨Tryd.func70, codeOk_of (by kernel_rfl), Tryd.call70⟩
theorem ok_71 : FnOk 71 Tryd.f71 lv0 := ⟨Tryd.func71, codeOk_of (by kernel_rfl), Tryd.call71⟩
theorem ok_72 : FnOk 72 Tryd.f72 lv0 := ⟨Tryd.func72, codeOk_of (by kernel_rfl), Tryd.call72⟩
theorem ok_73 : FnOk 73 Tryd.f73 lvNumber := ⟨Tryd.func73, codeOk_of (by kernel_rfl), Tryd.call73⟩
theorem ok_74 : FnOk 74 Tryd.f74 lv0 := ⟨Tryd.func74, codeOk_of (by kernel_rfl), Tryd.call74⟩
theorem ok_75 : FnOk 75 Tryd.f75 lvSymbol := ⟨Tryd.func75, codeOk_of (by kernel_rfl), Tryd.call75⟩
theorem planFn_ok (f : FuncId) (fn : Func) (lv : Nat → Keep) (h : planFn f = some (fn, lv)) : FnOk f fn lv := by
  unfold planFn at h
  split at h
  · obtain ⟨rfl, rfl⟩ := Prod.mk.inj (Option.some.inj h); exact ok_3
  · obtain ⟨rfl, rfl⟩ := Prod.mk.inj (Option.some.inj h); exact ok_5
  · obtain ⟨rfl, rfl⟩ := Prod.mk.inj (Option.some.inj h); exact ok_6
  · obtain ⟨rfl, rfl⟩ := Prod.mk.inj (Option.some.inj h); exact ok_13
  · obtain ⟨rfl, rfl⟩ := Prod.mk.inj (Option.some.inj h); exact ok_8
  · obtain ⟨rfl, rfl⟩ := Prod.mk.inj (Option.some.inj h); exact ok_21
  · obtain ⟨rfl, rfl⟩ := Prod.mk.inj (Option.some.inj h); exact ok_9
  · obtain ⟨rfl, rfl⟩ := Prod.mk.inj (Option.some.inj h); exact ok_7
  · obtain ⟨rfl, rfl⟩ := Prod.mk.inj (Option.some.inj h); exact ok_12
  · obtain ⟨rfl, rfl⟩ := Prod.mk.inj (Option.some.inj h); exact ok_10
  · obtain ⟨rfl, rfl⟩ := Prod.mk.inj (Option.some.inj h); exact ok_14
  · obtain ⟨rfl, rfl⟩ := Prod.mk.inj (Option.some.inj h); exact ok_15
  · obtain ⟨rfl, rfl⟩ := Prod.mk.inj (Option.some.inj h); exact ok_32
  · obtain ⟨rfl, rfl⟩ := Prod.mk.inj (Option.some.inj h); exact ok_16
  · obtain ⟨rfl, rfl⟩ := Prod.mk.inj (Option.some.inj h); exact ok_17
  · obtain ⟨rfl, rfl⟩ := Prod.mk.inj (Option.some.inj h); exact ok_18
  · obtain ⟨rfl, rfl⟩ := Prod.mk.inj (Option.some.inj h); exact ok_20
  · obtain ⟨rfl, rfl⟩ := Prod.mk.inj (Option.some.inj h); exact ok_22
  · obtain ⟨rfl, rfl⟩ := Prod.mk.inj (Option.some.inj h); exact ok_25
  · obtain ⟨rfl, rfl⟩ := Prod.mk.inj (Option.some.inj h); exact ok_26
  · obtain ⟨rfl, rfl⟩ := Prod.mk.inj (Option.some.inj h); exact ok_27
  · obtain ⟨rfl, rfl⟩ := Prod.mk.inj (Option.some.inj h); exact ok_28
  · obtain ⟨rfl, rfl⟩ := Prod.mk.inj (Option.some.inj h); exact ok_29
  · obtain ⟨rfl, rfl⟩ := Prod.mk.inj (Option.some.inj h); exact ok_30
  · obtain ⟨rfl, rfl⟩ := Prod.mk.inj (Option.some.inj h); exact ok_31
  · obtain ⟨rfl, rfl⟩ := Prod.mk.inj (Option.some.inj h); exact ok_33
  · obtain ⟨rfl, rfl⟩ := Prod.mk.inj (Option.some.inj h); exact ok_35
  · obtain ⟨rfl, rfl⟩ := Prod.mk.inj (Option.some.inj h); exact ok_36
  · obtain ⟨rfl, rfl⟩ := Prod.mk.inj (Option.some.inj h); exact ok_47
  · obtain ⟨rfl, rfl⟩ := Prod.mk.inj (Option.some.inj h); exact ok_48
  · obtain ⟨rfl, rfl⟩ := Prod.mk.inj (Option.some.inj h); exact ok_49
  · obtain ⟨rfl, rfl⟩ := Prod.mk.inj (Option.some.inj h); exact ok_50
  · obtain ⟨rfl, rfl⟩ := Prod.mk.inj (Option.some.inj h); exact ok_38
  · obtain ⟨rfl, rfl⟩ := Prod.mk.inj (Option.some.inj h); exact ok_54
  · obtain ⟨rfl, rfl⟩ := Prod.mk.inj (Option.some.inj h); exact ok_43
  · obtain ⟨rfl, rfl⟩ := Prod.mk.inj (Option.some.inj h); exact ok_58
  · obtain ⟨rfl, rfl⟩ := Prod.mk.inj (Option.some.inj h); exact ok_45
  · obtain ⟨rfl, rfl⟩ := Prod.mk.inj (Option.some.inj h); exact ok_51
  · obtain ⟨rfl, rfl⟩ := Prod.mk.inj (Option.some.inj h); exact ok_68
  · obtain ⟨rfl, rfl⟩ := Prod.mk.inj (Option.some.inj h); exact ok_69
  · obtain ⟨rfl, rfl⟩ := Prod.mk.inj (Option.some.inj h); exact ok_57
  · obtain ⟨rfl, rfl⟩ := Prod.mk.inj (Option.some.inj h); exact ok_66
  · obtain ⟨rfl, rfl⟩ := Prod.mk.inj (Option.some.inj h); exact ok_67
  · obtain ⟨rfl, rfl⟩ := Prod.mk.inj (Option.some.inj h); exact ok_70
  · obtain ⟨rfl, rfl⟩ := Prod.mk.inj (Option.some.inj h); exact ok_71
  · obtain ⟨rfl, rfl⟩ := Prod.mk.inj (Option.some.inj h); exact ok_72
  · obtain ⟨rfl, rfl⟩ := Prod.mk.inj (Option.some.inj h); exact ok_73
  · obtain ⟨rfl, rfl⟩ := Prod.mk.inj (Option.some.inj h); exact ok_74
  · obtain ⟨rfl, rfl⟩ := Prod.mk.inj (Option.some.inj h); exact ok_75
  · simp at h
/-- The rest in which a predicate is evaluated: no library is needed for it. -/
noncomputable def plan0 : Plan := ⟨Tryd.prog, planFn, planRo, fun _ _ _ => none⟩
theorem plan0_ok : plan0.Ok := ⟨mixed, planFn_ok, fun f args bs r bs' h => by simp [plan0] at h⟩
set_option maxRecDepth 100000
set_option linter.unusedSimpArgs false
theorem spans0 (a b c : Int) : evc plan0 25 [.int .i64 a, .int .i64 b, .int .i64 c] [] = some (.bool (spansB a b c), []) := by
  refine evc_start plan0 (P := Tryd.prog) (ro := planRo) rfl rfl rfl rfl rfl rfl (by simp) rfl ?_
  by_cases h : b ≤ a <;> simp [dFor_none, storeFine_none, dFor_no, storeFine_no, lessL, lkL, evCode_exit, evCode_seq, evCode_plain, evCode_draw, evCode_cond, evCode_ret, evCode_skip, evCode_block, evCode_loop, roundK_normal, roundK_exit, roundK_ret, seqK_normal, seqK_exit, seqK_ret, blockK_normal, blockK_exit, blockK_ret, regK_eq, evOps_nil, evOps_cons, params, astep, okDst, isWanted, aop, opnd, ofValue, putT, abin, headS, ofL, noPtr, acall, adopt_bool, adopt_int, adopt_str, adopt_agg, adopt_clip, AV.bare, upd_false, AV.cells, partOf, setCells, fillC, AV.isVal, List.range, List.range.loop, ofB, mayRead, dsts, planRo, capIds, viewed, scalarR, AV.scalar, finK, freezeT, avAll, resOf, outBoxes, relabB, relabL, relab1, noPtr, AV.untup, h, spansB]
theorem letter0 (b : Nat) (hb : b < 256) : evc plan0 70 [.int .u8 b] [] = some (.bool (letterB b), []) := by
  refine evc_start plan0 (P := Tryd.prog) (ro := planRo) rfl rfl rfl rfl rfl rfl (by simp) rfl ?_
  have w1 : IntKind.i64.wrap (b : Int) = b := wrap_i64 (by omega) (by omega)
  cases h : spansB b 97 122 <;> simp [dFor_none, storeFine_none, dFor_no, storeFine_no, lessL, lkL, evCode_exit, evCode_seq, evCode_plain, evCode_draw, evCode_cond, evCode_ret, evCode_skip, evCode_block, evCode_loop, roundK_normal, roundK_exit, roundK_ret, seqK_normal, seqK_exit, seqK_ret, blockK_normal, blockK_exit, blockK_ret, regK_eq, evOps_nil, evOps_cons, params, astep, okDst, isWanted, aop, opnd, ofValue, putT, abin, headS, ofL, noPtr, acall, adopt_bool, adopt_int, adopt_str, adopt_agg, adopt_clip, AV.bare, upd_false, AV.cells, partOf, setCells, fillC, AV.isVal, List.range, List.range.loop, ofB, mayRead, dsts, planRo, capIds, viewed, scalarR, AV.scalar, finK, freezeT, avAll, resOf, outBoxes, relabB, relabL, relab1, noPtr, AV.untup, spans0, w1, letterB, h]
theorem odd0 (x : Nat) : evc plan0 20 [.int .i32 x] [] = some (.bool (oddRune x), []) := by
  refine evc_start plan0 (P := Tryd.prog) (ro := planRo) rfl rfl rfl rfl rfl rfl (by simp) rfl ?_
  by_cases h : (x : Int) < 32 <;> simp [dFor_none, storeFine_none, dFor_no, storeFine_no, lessL, lkL, evCode_exit, evCode_seq, evCode_plain, evCode_draw, evCode_cond, evCode_ret, evCode_skip, evCode_block, evCode_loop, roundK_normal, roundK_exit, roundK_ret, seqK_normal, seqK_exit, seqK_ret, blockK_normal, blockK_exit, blockK_ret, regK_eq, evOps_nil, evOps_cons, params, astep, okDst, isWanted, aop, opnd, ofValue, putT, abin, headS, ofL, noPtr, acall, adopt_bool, adopt_int, adopt_str, adopt_agg, adopt_clip, AV.bare, upd_false, AV.cells, partOf, setCells, fillC, AV.isVal, List.range, List.range.loop, ofB, mayRead, dsts, planRo, capIds, viewed, scalarR, AV.scalar, finK, freezeT, avAll, resOf, outBoxes, relabB, relabL, relab1, noPtr, AV.untup, oddRune, h]
theorem fn20 (x : Nat) : SimCall Tryd.prog 20 [.int .i32 x] [] (.bool (oddRune x)) [] := evc_sound plan0_ok _ _ _ _ _ (odd0 x)
theorem conv0 (x : Nat) (hx : x ≤ 1114111) : evc plan0 69 [.int .i32 x] [] = some (.bool (letterB (x % 256)), []) := by
  refine evc_start plan0 (P := Tryd.prog) (ro := planRo) rfl rfl rfl rfl rfl rfl (by simp) rfl ?_
  have w1 : IntKind.u8.wrap (x : Int) = (x : Int) % 256 := by unfold IntKind.wrap; simp [IntKind.bits, IntKind.signed]
  have h0 : evc plan0 70 [.int .u8 ((x : Int) % 256)] [] = some (.bool (letterB (x % 256)), []) := letter0 (x % 256) (Nat.mod_lt _ (by decide))
  simp [dFor_none, storeFine_none, dFor_no, storeFine_no, lessL, lkL, evCode_exit, evCode_seq, evCode_plain, evCode_draw, evCode_cond, evCode_ret, evCode_skip, evCode_block, evCode_loop, roundK_normal, roundK_exit, roundK_ret, seqK_normal, seqK_exit, seqK_ret, blockK_normal, blockK_exit, blockK_ret, regK_eq, evOps_nil, evOps_cons, params, astep, okDst, isWanted, aop, opnd, ofValue, putT, abin, headS, ofL, noPtr, acall, adopt_bool, adopt_int, adopt_str, adopt_agg, adopt_clip, AV.bare, upd_false, AV.cells, partOf, setCells, fillC, AV.isVal, List.range, List.range.loop, ofB, mayRead, dsts, planRo, capIds, viewed, scalarR, AV.scalar, finK, freezeT, avAll, resOf, outBoxes, relabB, relabL, relab1, noPtr, AV.untup, h0, w1]
theorem fn69 (x : Nat) (hx : x ≤ 1114111) : SimCall Tryd.prog 69 [.int .i32 x] [] (.bool (letterB (x % 256))) [] := evc_sound plan0_ok _ _ _ _ _ (conv0 x hx)
theorem gl_below {own : Own} {w w' : World} (h : Gl Tryd.prog own w) (hb : Below w.heap.size w w') : Gl Tryd.prog noOwn w' :=
  (Gl.mono h (Evo.below hb)).weaker fun _ _ h => h.elim
theorem contains_ok {g : FuncId} {p : Nat → Bool} (hg : ∀ x : Nat, x ≤ 1114111 → SimCall Tryd.prog g [.int .i32 x] [] (.bool (p x)) []) (s : Str) :
    SimCall Tryd.prog 19 [.str s, .fn g []] [] (.bool (decide (0 ≤ Lib.idxFunc p true ⟨s.toArray⟩))) [] :=
  .of_below Tryd.call19 rfl (by simp [resParts, rowName]) fun c w vs hG hlt hsz hargs => by
    obtain ⟨u, v, rfl, hu, hv⟩ := two_vals hsz hargs
    rw [T1_str hu, T1_fn hv]
    refine (Tryd.strings_ContainsFunc_grows g #[] (hg 0 (by decide)).1 p ⟨s.toArray⟩ w fun W x hx hb => ?_).mono fun e w' ⟨he, hb⟩ => ⟨_, he, hb, .of_V (.bool _)⟩
    exact runes_of_sim hg (gl_below hG hb) x hx
theorem str_of (v : Str) (c : Cfg) (w : World) : T c w (.str v) (.string ⟨v.toArray⟩) := .of_V (.str v)
theorem below_or {w w' : World} (h : w' = w ∨ w' = w.drew) : Below w.heap.size w w' := by
  rcases h with rfl | rfl
  · exact .refl _ _
  · exact (Below.refl _ _).drew
theorem ext_ok : Sound Tryd.prog planExt := by
  intro f args bs r bs' h
  unfold planExt at h
  split at h
  case h_2 => simp at h
  split at h
  · rename_i s g
    split at h
    · rename_i hg
      obtain ⟨rfl, rfl⟩ := Prod.mk.inj (Option.some.inj h)
      subst hg
      exact contains_ok (fun x _ => fn20 x) s
    · split at h
      · rename_i hg
        obtain ⟨rfl, rfl⟩ := Prod.mk.inj (Option.some.inj h)
        subst hg
        exact contains_ok fn69 s
      · simp at h
  · rename_i s b
    split at h
    case isFalse => simp at h
    rename_i hc
    obtain ⟨rfl, rfl⟩ := Prod.mk.inj (Option.some.inj h)
    exact .str2 Tryd.call44 (by simp [resParts, rowName]) (fun c w => str_of _ c w) fun w =>
      (Tryd.strings_Trim_one ⟨s.toArray⟩ b hc.1 w (by simpa [ByteArray.size] using hc.2)).mono fun e w' ⟨he, hb⟩ => ⟨he, below_or hb⟩
  · rename_i s b
    obtain ⟨rfl, rfl⟩ := Prod.mk.inj (Option.some.inj h)
    exact .strInt Tryd.call83 (by simp [resParts, rowName]) (fun c w => .of_V (.int _ _)) fun w =>
      (Tryd.strings_IndexByte ⟨s.toArray⟩ b w).mono fun e w' ⟨he, hb⟩ => ⟨he, hb ▸ .refl _ _⟩
  · rename_i s b
    obtain ⟨rfl, rfl⟩ := Prod.mk.inj (Option.some.inj h)
    exact .str2 Tryd.call84 (by simp [resParts, rowName]) (fun c w => .of_V (.bool _)) fun w =>
      (Tryd.strings_Contains_one ⟨s.toArray⟩ b w).mono fun e w' ⟨he, hb⟩ => ⟨he, hb ▸ .refl _ _⟩
  · rename_i s
    split at h
    case isFalse => simp at h
    rename_i hc
    obtain ⟨rfl, rfl⟩ := Prod.mk.inj (Option.some.inj h)
    refine .of_below Tryd.call82 rfl (by simp [resParts, rowName]) fun c w vs hG hlt hsz hargs => ?_
    obtain ⟨u, rfl, hu⟩ := one_val hsz hargs
    rw [T1_str hu]
    have ht : Lib.TabIs Tryd.prog w "strings.asciiSpace" .u8 Lib.asciiSpaceTab := by
      obtain ⟨⟨el, fr, h1⟩, _⟩ := hG ("strings.asciiSpace", .u8, Lib.asciiSpaceTab) (by simp [flatTabs]) 1 (by kernel_rfl)
      unfold Lib.TabIs World.var?
      rw [show Tryd.prog.globalNamed "strings.asciiSpace" = some 1 from by kernel_rfl]
      simp only [Option.bind_some, h1]
    refine (Tryd.strings_Fields ⟨s.toArray⟩ w (by simpa [ByteArray.size] using hc.1) (fun j b hb => ?_) ht).mono fun e w' ⟨he, hw⟩ => ⟨_, he, ?_, ?_⟩
    · have := List.all_eq_true.1 hc.2 b (List.mem_of_getElem? hb)
      simpa using this
    · rw [hw]; exact (Below.refl _ _).alloc (Nat.le_refl _) _
    · rw [hw]; exact T_newStrs hlt
  · rename_i s n
    split at h
    case isFalse => simp at h
    rename_i hc
    obtain ⟨rfl, rfl⟩ := Prod.mk.inj (Option.some.inj h)
    refine .strInt Tryd.call24 (by simp [resParts, rowName]) (fun c w => str_of _ c w) fun w => ?_
    have := Tryd.strings_Repeat ⟨s.toArray⟩ n.toNat w (by omega) (by simpa [ByteArray.size] using hc.2.2)
    rw [Int.toNat_of_nonneg hc.1] at this
    exact this
  · simp at h
theorem plan_ok : plan.Ok := ⟨mixed, planFn_ok, ext_ok⟩
/-- What the evaluator says, is so. -/
theorem sim {f : FuncId} {args : List AV} {bs bs' : List (Nat × Box)} {r : AV} (h : evc plan f args bs = some (r, bs')) : SimCall Tryd.prog f args bs r bs' := evc_sound plan_ok _ _ _ _ _ h
end Go.Proofs.YtlmmgblghgmgeaaDoor

