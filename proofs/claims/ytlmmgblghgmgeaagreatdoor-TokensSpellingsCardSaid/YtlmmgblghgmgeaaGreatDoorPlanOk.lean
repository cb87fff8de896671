/- The plan is right: what is evaluated are the program's functions; what is known of the library are contracts. -/
import Derived.Test.YtlmmgblghgmgeaaGreatDoorPlan
import Derived.KernelRfl
namespace Go.Proofs.YtlmmgblghgmgeaaGreatDoor
open Go Ev Go.RowKit
def FnOk (f : FuncId) (fn : Func) (lv : Nat → Keep) : Prop := Tryz.prog.funcs[f]? = some fn ∧ (∀ code, fn.body = some code → codeOk lv code = true) ∧ ∀ (vs : Array Value) (w : World), (callFunc f vs).run Tryz.prog w = .ok (.enter f vs) w
theorem codeOk_of {fn : Func} {lv : Nat → Keep} (h : codeOk lv (fn.body.getD .skip) = true) (code : Code) (hb : fn.body = some code) : codeOk lv code = true := by
  rw [hb] at h
  exact h

theorem ok_8 : FnOk 8 Tryz.f8 lv0 := ⟨Tryz.func8, codeOk_of (by kernel_rfl), Tryz.call8⟩
theorem ok_14 : FnOk 14 Tryz.f14 lvFew := ⟨Tryz.func14, codeOk_of (by kernel_rfl), Tryz.call14⟩
theorem ok_32 : FnOk 32 Tryz.f32 lv0 := ⟨Tryz.func32, codeOk_of (by kernel_rfl), Tryz.call32⟩
theorem ok_16 : FnOk 16 Tryz.f16 lv0 := ⟨Tryz.func16, codeOk_of (by kernel_rfl), Tryz.call16⟩
theorem ok_72 : FnOk 72 Tryz.f72 lvShown := ⟨Tryz.func72, codeOk_of (by kernel_rfl), Tryz.call72⟩
theorem ok_44 : FnOk 44 Tryz.f44 lvRefLines := ⟨Tryz.func44, codeOk_of (by kernel_rfl), Tryz.call44⟩
theorem ok_66 : FnOk 66 Tryz.f66 lvLines := ⟨Tryz.func66, codeOk_of (by kernel_rfl), Tryz.call66⟩
theorem ok_10 : FnOk 10 Tryz.f10 lv0 := ⟨Tryz.func10, codeOk_of (by kernel_rfl), Tryz.call10⟩
theorem ok_15 : FnOk 15 Tryz.f15 lv0 := ⟨Tryz.func15, codeOk_of (by kernel_rfl), Tryz.call15⟩
theorem ok_17 : FnOk 17 Tryz.f17 lv0 := ⟨Tryz.func17, codeOk_of (by kernel_rfl), Tryz.call17⟩
theorem ok_28 : FnOk 28 Tryz.f28 lv0 := ⟨Tryz.func28, codeOk_of (by kernel_rfl), Tryz.call28⟩
theorem ok_60 : FnOk 60 Tryz.f60 lv0 := ⟨Tryz.func60, codeOk_of (by kernel_rfl), Tryz.call60⟩
theorem ok_9 : FnOk 9 Tryz.f9 lv0 := ⟨Tryz.func9, codeOk_of (by kernel_rfl), Tryz.call9⟩
theorem ok_33 : FnOk 33 Tryz.f33 lvOr := ⟨Tryz.func33, codeOk_of (by kernel_rfl), Tryz.call33⟩
theorem ok_37 : FnOk 37 Tryz.f37 lv0 := ⟨Tryz.func37, codeOk_of (by kernel_rfl), Tryz.call37⟩
theorem ok_82 : FnOk 82 Tryz.f82 lv0 := ⟨Tryz.func82, codeOk_of (by kernel_rfl), Tryz.call82⟩
theorem ok_41 : FnOk 41 Tryz.f41 lvRead := ⟨Tryz.func41, codeOk_of (by kernel_rfl), Tryz.call41⟩
theorem ok_36 : FnOk 36 Tryz.f36 lv0 := ⟨Tryz.func36, codeOk_of (by kernel_rfl), Tryz.call36⟩
theorem ok_34 : FnOk 34 Tryz.f34 lv0 := ⟨Tryz.func34, codeOk_of (by kernel_rfl), Tryz.call34⟩
theorem ok_55 : FnOk 55 Tryz.f55 lv0 := ⟨Tryz.func55, codeOk_of (by kernel_rfl), Tryz.call55⟩
theorem ok_56 : FnOk 56 Tryz.f56 lv0 := ⟨Tryz.func56, codeOk_of (by kernel_rfl), Tryz.call56⟩
theorem ok_57 : FnOk 57 Tryz.f57 lv0 := ⟨Tryz.func57, codeOk_of (by kernel_rfl), Tryz.call57⟩
theorem ok_58 : FnOk 58 Tryz.f58 lvIndex := ⟨Tryz.func58, codeOk_of (by kernel_rfl), Tryz.call58⟩
theorem ok_59 : FnOk 59 Tryz.f59 lv0 := ⟨Tryz.func59, codeOk_of (by kernel_rfl), Tryz.call59⟩
theorem ok_35 : FnOk 35 Tryz.f35 lv0 := ⟨Tryz.func35, codeOk_of (by kernel_rfl), Tryz.call35⟩
theorem ok_67 : FnOk 67 Tryz.f67 lv0 := ⟨Tryz.func67, codeOk_of (by kernel_rfl), Tryz.call67⟩
theorem ok_68 : FnOk 68 Tryz.f68 lv0 := ⟨Tryz.func68, codeOk_of (by kernel_rfl), Tryz.call68⟩
theorem ok_85 : FnOk 85 Tryz.f85 lv0 := ⟨Tryz.func85, codeOk_of (by kernel_rfl), Tryz.call85⟩
theorem ok_86 : FnOk 86 Tryz.f86 lv0 := ⟨Tryz.func86, codeOk_of (by kernel_rfl), Tryz.call86⟩
theorem ok_87 : FnOk 87 Tryz.f87 lv0 := ⟨Tryz.func87, codeOk_of (by kernel_rfl), Tryz.call87⟩
theorem ok_88 : FnOk 88 Tryz.f88 lvComment := ⟨Tryz.func88, codeOk_of (by kernel_rfl), Tryz.call88⟩
theorem ok_3 : FnOk 3 Tryz.f3 lv0 := ⟨Tryz.func3, codeOk_of (by kernel_rfl), Tryz.call3⟩
theorem ok_4 : FnOk 4 Tryz.f4 lv0 := ⟨Tryz.func4, codeOk_of (by kernel_rfl), Tryz.call4⟩
theorem ok_7 : FnOk 7 Tryz.f7 lv0 := ⟨Tryz.func7, codeOk_of (by kernel_rfl), Tryz.call7⟩
theorem ok_23 : FnOk 23 Tryz.f23 lvFew := ⟨Tryz.func23, codeOk_of (by kernel_rfl), Tryz.call23⟩
theorem ok_11 : FnOk 11 Tryz.f11 lv0 := ⟨Tryz.func11, codeOk_of (by kernel_rfl), Tryz.call11⟩
theorem ok_12 : FnOk 12 Tryz.f12 lv0 := ⟨Tryz.func12, codeOk_of (by kernel_rfl), Tryz.call12⟩
theorem ok_13 : FnOk 13 Tryz.f13 lvApart := ⟨Tryz.func13, codeOk_of (by kernel_rfl), Tryz.call13⟩
theorem ok_40 : FnOk 40 Tryz.f40 lv0 := ⟨Tryz.func40, codeOk_of (by kernel_rfl), Tryz.call40⟩
theorem ok_39 : FnOk 39 Tryz.f39 lvSame := ⟨Tryz.func39, codeOk_of (by kernel_rfl), Tryz.call39⟩
theorem ok_19 : FnOk 19 Tryz.f19 lv0 := ⟨Tryz.func19, codeOk_of (by kernel_rfl), Tryz.call19⟩
theorem ok_45 : FnOk 45 Tryz.f45 lvAhead := ⟨Tryz.func45, codeOk_of (by kernel_rfl), Tryz.call45⟩
theorem ok_74 : FnOk 74 Tryz.f74 lvAt := ⟨Tryz.func74, codeOk_of (by kernel_rfl), Tryz.call74⟩
theorem ok_96 : FnOk 96 Tryz.f96 lvWord := ⟨Tryz.func96, codeOk_of (by kernel_rfl), Tryz.call96⟩
theorem ok_97 : FnOk 97 Tryz.f97 lvQuoted := ⟨Tryz.func97, codeOk_of (by kernel_rfl), Tryz.call97⟩
theorem ok_73 : FnOk 73 Tryz.f73 lvCom := ⟨Tryz.func73, codeOk_of (by kernel_rfl), Tryz.call73⟩
theorem ok_95 : FnOk 95 Tryz.f95 lv0 := ⟨Tryz.func95, codeOk_of (by kernel_rfl), Tryz.call95⟩
theorem ok_31 : FnOk 31 Tryz.f31 lvSymbols := ⟨Tryz.func31, codeOk_of (by kernel_rfl), Tryz.call31⟩
theorem ok_64 : FnOk 64 Tryz.f64 lv0 := ⟨Tryz.func64, codeOk_of (by kernel_rfl), Tryz.call64⟩
theorem ok_62 : FnOk 62 Tryz.f62 lv0 := ⟨Tryz.func62, codeOk_of (by kernel_rfl), Tryz.call62⟩
theorem ok_30 : FnOk 30 Tryz.f30 lvBRead := ⟨Tryz.func30, codeOk_of (by kernel_rfl), Tryz.call30⟩
theorem ok_20 : FnOk 20 Tryz.f20 lvSame := ⟨Tryz.func20, codeOk_of (by kernel_rfl), Tryz.call20⟩
theorem ok_22 : FnOk 22 Tryz.f22 lvBlanked := ⟨Tryz.func22, codeOk_of (by kernel_rfl), Tryz.call22⟩
theorem ok_46 : FnOk 46 Tryz.f46 lvWithin := ⟨Tryz.func46, codeOk_of (by kernel_rfl), Tryz.call46⟩
theorem ok_75 : FnOk 75 Tryz.f75 lv0 := ⟨Tryz.func75, codeOk_of (by kernel_rfl), Tryz.call75⟩
theorem ok_54 : FnOk 54 Tryz.f54 lv0 := ⟨Tryz.func54, codeOk_of (by kernel_rfl), Tryz.call54⟩
theorem ok_38 : FnOk 38 Tryz.f38 lv0 := ⟨Tryz.func38, codeOk_of (by kernel_rfl), Tryz.call38⟩
theorem ok_94 : FnOk 94 Tryz.f94 lv0 := ⟨Tryz.func94, codeOk_of (by kernel_rfl), Tryz.call94⟩
theorem ok_98 : FnOk 98 Tryz.f98 lv0 := ⟨Tryz.func98, codeOk_of (by kernel_rfl), Tryz.call98⟩
theorem ok_130 : FnOk 130 Tryz.f130 lv0 := ⟨Tryz.func130, codeOk_of (by kernel_rfl), Tryz.call130⟩
theorem ok_131 : FnOk 131 Tryz.f131 lv0 := ⟨Tryz.func131, codeOk_of (by kernel_rfl), Tryz.call131⟩
theorem ok_132 : FnOk 132 Tryz.f132 lvBRead := ⟨Tryz.func132, codeOk_of (by kernel_rfl), Tryz.call132⟩
theorem ok_63 : FnOk 63 Tryz.f63 lvSame := ⟨Tryz.func63, codeOk_of (by kernel_rfl), Tryz.call63⟩
theorem ok_21 : FnOk 21 Tryz.f21 lvSame := ⟨Tryz.func21, codeOk_of (by kernel_rfl), Tryz.call21⟩
theorem ok_49 : FnOk 49 Tryz.f49 lv0 := ⟨Tryz.func49, codeOk_of (by kernel_rfl), Tryz.call49⟩
theorem ok_47 : FnOk 47 Tryz.f47 lv0 := ⟨Tryz.func47, codeOk_of (by kernel_rfl), Tryz.call47⟩
theorem ok_70 : FnOk 70 Tryz.f70 lv0 := ⟨Tryz.func70, codeOk_of (by kernel_rfl), Tryz.call70⟩
theorem ok_92 : FnOk 92 Tryz.f92 lv0 := ⟨Tryz.func92, codeOk_of (by kernel_rfl), Tryz.call92⟩
theorem ok_65 : FnOk 65 Tryz.f65 lvIsRead := ⟨Tryz.func65, codeOk_of (by kernel_rfl), Tryz.call65⟩
theorem ok_84 : FnOk 84 Tryz.f84 lv0 := ⟨Tryz.func84, codeOk_of (by kernel_rfl), Tryz.call84⟩
theorem ok_78 : FnOk 78 Tryz.f78 lvIndex := ⟨Tryz.func78, codeOk_of (by kernel_rfl), Tryz.call78⟩
theorem ok_89 : FnOk 89 Tryz.f89 lv0 := ⟨Tryz.func89, codeOk_of (by kernel_rfl), Tryz.call89⟩
theorem ok_121 : FnOk 121 Tryz.f121 lv0 := ⟨Tryz.func121, codeOk_of (by kernel_rfl), Tryz.call121⟩
theorem ok_122 : FnOk 122 Tryz.f122 lv0 := ⟨Tryz.func122, codeOk_of (by kernel_rfl), Tryz.call122⟩
theorem ok_83 : FnOk 83 Tryz.f83 lvEqual := ⟨Tryz.func83, codeOk_of (by kernel_rfl), Tryz.call83⟩
theorem ok_119 : FnOk 119 Tryz.f119 lvRun := ⟨Tryz.func119, codeOk_of (by kernel_rfl), Tryz.call119⟩
theorem ok_120 : FnOk 120 Tryz.f120 lv0 := ⟨Tryz.func120, codeOk_of (by kernel_rfl), Tryz.call120⟩
theorem ok_123 : FnOk 123 Tryz.f123 lv0 := ⟨Tryz.func123, codeOk_of (by kernel_rfl), Tryz.call123⟩
theorem ok_124 : FnOk 124 Tryz.f124 lv0 := ⟨Tryz.func124, codeOk_of (by kernel_rfl), Tryz.call124⟩
theorem ok_125 : FnOk 125 Tryz.f125 lv0 := ⟨Tryz.func125, codeOk_of (by kernel_rfl), Tryz.call125⟩
theorem ok_126 : FnOk 126 Tryz.f126 lvNumber := ⟨Tryz.func126, codeOk_of (by kernel_rfl), Tryz.call126⟩
theorem ok_127 : FnOk 127 Tryz.f127 lv0 := ⟨Tryz.func127, codeOk_of (by kernel_rfl), Tryz.call127⟩
theorem ok_128 : FnOk 128 Tryz.f128 lvSymbol := ⟨Tryz.func128, codeOk_of (by kernel_rfl), Tryz.call128⟩
theorem planFn_ok (f : FuncId) (fn : Func) (lv : Nat → Keep) (h : planFn f = some (fn, lv)) : FnOk f fn lv := by
  unfold planFn at h
  split at h
  · obtain ⟨rfl, rfl⟩ := Prod.mk.inj (Option.some.inj h); exact ok_8
  · obtain ⟨rfl, rfl⟩ := Prod.mk.inj (Option.some.inj h); exact ok_14
  · obtain ⟨rfl, rfl⟩ := Prod.mk.inj (Option.some.inj h); exact ok_32
  · obtain ⟨rfl, rfl⟩ := Prod.mk.inj (Option.some.inj h); exact ok_16
  · obtain ⟨rfl, rfl⟩ := Prod.mk.inj (Option.some.inj h); exact ok_72
  · obtain ⟨rfl, rfl⟩ := Prod.mk.inj (Option.some.inj h); exact ok_44
  · obtain ⟨rfl, rfl⟩ := Prod.mk.inj (Option.some.inj h); exact ok_66
  · obtain ⟨rfl, rfl⟩ := Prod.mk.inj (Option.some.inj h); exact ok_10
  · obtain ⟨rfl, rfl⟩ := Prod.mk.inj (Option.some.inj h); exact ok_15
  · obtain ⟨rfl, rfl⟩ := Prod.mk.inj (Option.some.inj h); exact ok_17
  · obtain ⟨rfl, rfl⟩ := Prod.mk.inj (Option.some.inj h); exact ok_28
  · obtain ⟨rfl, rfl⟩ := Prod.mk.inj (Option.some.inj h); exact ok_60
  · obtain ⟨rfl, rfl⟩ := Prod.mk.inj (Option.some.inj h); exact ok_9
  · obtain ⟨rfl, rfl⟩ := Prod.mk.inj (Option.some.inj h); exact ok_33
  · obtain ⟨rfl, rfl⟩ := Prod.mk.inj (Option.some.inj h); exact ok_37
  · obtain ⟨rfl, rfl⟩ := Prod.mk.inj (Option.some.inj h); exact ok_82
  · obtain ⟨rfl, rfl⟩ := Prod.mk.inj (Option.some.inj h); exact ok_41
  · obtain ⟨rfl, rfl⟩ := Prod.mk.inj (Option.some.inj h); exact ok_36
  · obtain ⟨rfl, rfl⟩ := Prod.mk.inj (Option.some.inj h); exact ok_34
  · obtain ⟨rfl, rfl⟩ := Prod.mk.inj (Option.some.inj h); exact ok_55
  · obtain ⟨rfl, rfl⟩ := Prod.mk.inj (Option.some.inj h); exact ok_56
  · obtain ⟨rfl, rfl⟩ := Prod.mk.inj (Option.some.inj h); exact ok_57
  · obtain ⟨rfl, rfl⟩ := Prod.mk.inj (Option.some.inj h); exact ok_58
  · obtain ⟨rfl, rfl⟩ := Prod.mk.inj (Option.some.inj h); exact ok_59
  · obtain ⟨rfl, rfl⟩ := Prod.mk.inj (Option.some.inj h); exact ok_35
  · obtain ⟨rfl, rfl⟩ := Prod.mk.inj (Option.some.inj h); exact ok_67
  · obtain ⟨rfl, rfl⟩ := Prod.mk.inj (Option.some.inj h); exact ok_68
  · obtain ⟨rfl, rfl⟩ := Prod.mk.inj (Option.some.inj h); exact ok_85
  · obtain ⟨rfl, rfl⟩ := Prod.mk.inj (Option.some.inj h); exact ok_86
  · obtain ⟨rfl, rfl⟩ := Prod.mk.inj (Option.some.inj h); exact ok_87
  · obtain ⟨rfl, rfl⟩ := Prod.mk.inj (Option.some.inj h); exact ok_88
  · obtain ⟨rfl, rfl⟩ := Prod.mk.inj (Option.some.inj h); exact ok_3
  · obtain ⟨rfl, rfl⟩ := Prod.mk.inj (Option.some.inj h); exact ok_4
  · obtain ⟨rfl, rfl⟩ := Prod.mk.inj (Option.some.inj h); exact ok_7
  · obtain ⟨rfl, rfl⟩ := Prod.mk.inj (Option.some.inj h); exact ok_23
  · obtain ⟨rfl, rfl⟩ := Prod.mk.inj (Option.some.inj h); exact ok_11
  · obtain ⟨rfl, rfl⟩ := Prod.mk.inj (Option.some.inj h); exact ok_12
  · obtain ⟨rfl, rfl⟩ := Prod.mk.inj (Option.some.inj h); exact ok_13
  · obtain ⟨rfl, rfl⟩ := Prod.mk.inj (Option.some.inj h); exact ok_40
  · obtain ⟨rfl, rfl⟩ := Prod.mk.inj (Option.some.inj h); exact ok_39
  · obtain ⟨rfl, rfl⟩ := Prod.mk.inj (Option.some.inj h); exact ok_19
  · obtain ⟨rfl, rfl⟩ := Prod.mk.inj (Option.some.inj h); exact ok_45
  · obtain ⟨rfl, rfl⟩ := Prod.mk.inj (Option.some.inj h); exact ok_74
  · obtain ⟨rfl, rfl⟩ := Prod.mk.inj (Option.some.inj h); exact ok_96
  · obtain ⟨rfl, rfl⟩ := Prod.mk.inj (Option.some.inj h); exact ok_97
  · obtain ⟨rfl, rfl⟩ := Prod.mk.inj (Option.some.inj h); exact ok_73
  · obtain ⟨rfl, rfl⟩ := Prod.mk.inj (Option.some.inj h); exact ok_95
  · obtain ⟨rfl, rfl⟩ := Prod.mk.inj (Option.some.inj h); exact ok_31
  · obtain ⟨rfl, rfl⟩ := Prod.mk.inj (Option.some.inj h); exact ok_64
  · obtain ⟨rfl, rfl⟩ := Prod.mk.inj (Option.some.inj h); exact ok_62
  · obtain ⟨rfl, rfl⟩ := Prod.mk.inj (Option.some.inj h); exact ok_30
  · obtain ⟨rfl, rfl⟩ := Prod.mk.inj (Option.some.inj h); exact ok_20
  · obtain ⟨rfl, rfl⟩ := Prod.mk.inj (Option.some.inj h); exact ok_22
  · obtain ⟨rfl, rfl⟩ := Prod.mk.inj (Option.some.inj h); exact ok_46
  · obtain ⟨rfl, rfl⟩ := Prod.mk.inj (Option.some.inj h); exact ok_75
  · obtain ⟨rfl, rfl⟩ := Prod.mk.inj (Option.some.inj h); exact ok_54
  · obtain ⟨rfl, rfl⟩ := Prod.mk.inj (Option.some.inj h); exact ok_38
  · obtain ⟨rfl, rfl⟩ := Prod.mk.inj (Option.some.inj h); exact ok_94
  · obtain ⟨rfl, rfl⟩ := Prod.mk.inj (Option.some.inj h); exact ok_98
  · obtain ⟨rfl, rfl⟩ := Prod.mk.inj (Option.some.inj h); exact ok_130
  · obtain ⟨rfl, rfl⟩ := Prod.mk.inj (Option.some.inj h); exact ok_131
  · obtain ⟨rfl, rfl⟩ := Prod.mk.inj (Option.some.inj h); exact ok_132
  · obtain ⟨rfl, rfl⟩ := Prod.mk.inj (Option.some.inj h); exact ok_63
  · obtain ⟨rfl, rfl⟩ := Prod.mk.inj (Option.some.inj h); exact ok_21
  · obtain ⟨rfl, rfl⟩ := Prod.mk.inj (Option.some.inj h); exact ok_49
  · obtain ⟨rfl, rfl⟩ := Prod.mk.inj (Option.some.inj h); exact ok_47
  · obtain ⟨rfl, rfl⟩ := Prod.mk.inj (Option.some.inj h); exact ok_70
  · obtain ⟨rfl, rfl⟩ := Prod.mk.inj (Option.some.inj h); exact ok_92
  · obtain ⟨rfl, rfl⟩ := Prod.mk.inj (Option.some.inj h); exact ok_65
  · obtain ⟨rfl, rfl⟩ := Prod.mk.inj (Option.some.inj h); exact ok_84
  · obtain ⟨rfl, rfl⟩ := Prod.mk.inj (Option.some.inj h); exact ok_78
  · obtain ⟨rfl, rfl⟩ := Prod.mk.inj (Option.some.inj h); exact ok_89
  · obtain ⟨rfl, rfl⟩ := Prod.mk.inj (Option.some.inj h); exact ok_121
  · obtain ⟨rfl, rfl⟩ := Prod.mk.inj (Option.some.inj h); exact ok_122
  · obtain ⟨rfl, rfl⟩ := Prod.mk.inj (Option.some.inj h); exact ok_83
  · obtain ⟨rfl, rfl⟩ := Prod.mk.inj (Option.some.inj h); exact ok_119
  · obtain ⟨rfl, rfl⟩ := Prod.mk.inj (Option.some.inj h); exact ok_120
  · obtain ⟨rfl, rfl⟩ := Prod.mk.inj (Option.some.inj h); exact ok_123
  · obtain ⟨rfl, rfl⟩ := Prod.mk.inj (Option.some.inj h); exact ok_124
  · obtain ⟨rfl, rfl⟩ := Prod.mk.inj (Option.some.inj h); exact ok_125
  · obtain ⟨rfl, rfl⟩ := Prod.mk.inj (Option.some.inj h); exact ok_126
  · obtain ⟨rfl, rfl⟩ := Prod.mk.inj (Option.some.inj h); exact ok_127
  · obtain ⟨rfl, rfl⟩ := Prod.mk.inj (Option.some.inj h); exact ok_128
  · simp at h
/-- The rest in which a predicate is evaluated: no library is needed for it. -/
noncomputable def plan0 : Plan := ⟨Tryz.prog, planFn, planRo, fun _ _ _ => none⟩
theorem plan0_ok : plan0.Ok := ⟨mixed, planFn_ok, fun f args bs r bs' h => by simp [plan0] at h⟩
set_option maxRecDepth 100000
set_option linter.unusedSimpArgs false
theorem spans0 (a b c : Int) : evc plan0 36 [.int .i64 a, .int .i64 b, .int .i64 c] [] = some (.bool (spansB a b c), []) := by
  refine evc_start plan0 (P := Tryz.prog) (ro := planRo) rfl rfl rfl rfl rfl rfl (by simp) rfl ?_
  by_cases h : b ≤ a <;> simp [dFor_none, storeFine_none, dFor_no, storeFine_no, lessL, lkL, evCode_exit, evCode_seq, evCode_plain, evCode_draw, evCode_cond, evCode_ret, evCode_skip, evCode_block, evCode_loop, roundK_normal, roundK_exit, roundK_ret, seqK_normal, seqK_exit, seqK_ret, blockK_normal, blockK_exit, blockK_ret, regK_eq, evOps_nil, evOps_cons, params, astep, okDst, isWanted, aop, opnd, ofValue, putT, abin, headS, ofL, noPtr, acall, adopt_bool, adopt_int, adopt_str, adopt_agg, adopt_clip, AV.bare, upd_false, AV.cells, partOf, setCells, fillC, AV.isVal, List.range, List.range.loop, ofB, mayRead, dsts, planRo, capIds, viewed, scalarR, AV.scalar, finK, freezeT, avAll, resOf, outBoxes, relabB, relabL, relab1, noPtr, AV.untup, h, spansB]
theorem letter0 (b : Nat) (hb : b < 256) : evc plan0 123 [.int .u8 b] [] = some (.bool (letterB b), []) := by
  refine evc_start plan0 (P := Tryz.prog) (ro := planRo) rfl rfl rfl rfl rfl rfl (by simp) rfl ?_
  have w1 : IntKind.i64.wrap (b : Int) = b := wrap_i64 (by omega) (by omega)
  cases h : spansB b 97 122 <;> simp [dFor_none, storeFine_none, dFor_no, storeFine_no, lessL, lkL, evCode_exit, evCode_seq, evCode_plain, evCode_draw, evCode_cond, evCode_ret, evCode_skip, evCode_block, evCode_loop, roundK_normal, roundK_exit, roundK_ret, seqK_normal, seqK_exit, seqK_ret, blockK_normal, blockK_exit, blockK_ret, regK_eq, evOps_nil, evOps_cons, params, astep, okDst, isWanted, aop, opnd, ofValue, putT, abin, headS, ofL, noPtr, acall, adopt_bool, adopt_int, adopt_str, adopt_agg, adopt_clip, AV.bare, upd_false, AV.cells, partOf, setCells, fillC, AV.isVal, List.range, List.range.loop, ofB, mayRead, dsts, planRo, capIds, viewed, scalarR, AV.scalar, finK, freezeT, avAll, resOf, outBoxes, relabB, relabL, relab1, noPtr, AV.untup, spans0, w1, letterB, h]
theorem odd0 (x : Nat) : evc plan0 82 [.int .i32 x] [] = some (.bool (oddRune x), []) := by
  refine evc_start plan0 (P := Tryz.prog) (ro := planRo) rfl rfl rfl rfl rfl rfl (by simp) rfl ?_
  by_cases h : (x : Int) < 32 <;> simp [dFor_none, storeFine_none, dFor_no, storeFine_no, lessL, lkL, evCode_exit, evCode_seq, evCode_plain, evCode_draw, evCode_cond, evCode_ret, evCode_skip, evCode_block, evCode_loop, roundK_normal, roundK_exit, roundK_ret, seqK_normal, seqK_exit, seqK_ret, blockK_normal, blockK_exit, blockK_ret, regK_eq, evOps_nil, evOps_cons, params, astep, okDst, isWanted, aop, opnd, ofValue, putT, abin, headS, ofL, noPtr, acall, adopt_bool, adopt_int, adopt_str, adopt_agg, adopt_clip, AV.bare, upd_false, AV.cells, partOf, setCells, fillC, AV.isVal, List.range, List.range.loop, ofB, mayRead, dsts, planRo, capIds, viewed, scalarR, AV.scalar, finK, freezeT, avAll, resOf, outBoxes, relabB, relabL, relab1, noPtr, AV.untup, oddRune, h]
theorem fn20 (x : Nat) : SimCall Tryz.prog 82 [.int .i32 x] [] (.bool (oddRune x)) [] := evc_sound plan0_ok _ _ _ _ _ (odd0 x)
theorem conv0 (x : Nat) (hx : x ≤ 1114111) : evc plan0 122 [.int .i32 x] [] = some (.bool (letterB (x % 256)), []) := by
  refine evc_start plan0 (P := Tryz.prog) (ro := planRo) rfl rfl rfl rfl rfl rfl (by simp) rfl ?_
  have w1 : IntKind.u8.wrap (x : Int) = (x : Int) % 256 := by unfold IntKind.wrap; simp [IntKind.bits, IntKind.signed]
  have h0 : evc plan0 123 [.int .u8 ((x : Int) % 256)] [] = some (.bool (letterB (x % 256)), []) := letter0 (x % 256) (Nat.mod_lt _ (by decide))
  simp [dFor_none, storeFine_none, dFor_no, storeFine_no, lessL, lkL, evCode_exit, evCode_seq, evCode_plain, evCode_draw, evCode_cond, evCode_ret, evCode_skip, evCode_block, evCode_loop, roundK_normal, roundK_exit, roundK_ret, seqK_normal, seqK_exit, seqK_ret, blockK_normal, blockK_exit, blockK_ret, regK_eq, evOps_nil, evOps_cons, params, astep, okDst, isWanted, aop, opnd, ofValue, putT, abin, headS, ofL, noPtr, acall, adopt_bool, adopt_int, adopt_str, adopt_agg, adopt_clip, AV.bare, upd_false, AV.cells, partOf, setCells, fillC, AV.isVal, List.range, List.range.loop, ofB, mayRead, dsts, planRo, capIds, viewed, scalarR, AV.scalar, finK, freezeT, avAll, resOf, outBoxes, relabB, relabL, relab1, noPtr, AV.untup, h0, w1]
theorem fn69 (x : Nat) (hx : x ≤ 1114111) : SimCall Tryz.prog 122 [.int .i32 x] [] (.bool (letterB (x % 256))) [] := evc_sound plan0_ok _ _ _ _ _ (conv0 x hx)
theorem gl_below {own : Own} {w w' : World} (h : Gl Tryz.prog own w) (hb : Below w.heap.size w w') : Gl Tryz.prog noOwn w' :=
  (Gl.mono h (Evo.below hb)).weaker fun _ _ h => h.elim
theorem contains_ok {g : FuncId} {p : Nat → Bool} (hg : ∀ x : Nat, x ≤ 1114111 → SimCall Tryz.prog g [.int .i32 x] [] (.bool (p x)) []) (s : Str) :
    SimCall Tryz.prog 81 [.str s, .fn g []] [] (.bool (decide (0 ≤ Lib.idxFunc p true ⟨s.toArray⟩))) [] :=
  .of_below Tryz.call81 rfl (by simp [resParts, rowName]) fun c w vs hG hlt hsz hargs => by
    obtain ⟨u, v, rfl, hu, hv⟩ := two_vals hsz hargs
    rw [T1_str hu, T1_fn hv]
    refine (Tryz.strings_ContainsFunc_grows g #[] (hg 0 (by decide)).1 p ⟨s.toArray⟩ w fun W x hx hb => ?_).mono fun e w' ⟨he, hb⟩ => ⟨_, he, hb, .of_V (.bool _)⟩
    exact runes_of_sim hg (gl_below hG hb) x hx
theorem str_of (v : Str) (c : Cfg) (w : World) : T c w (.str v) (.string ⟨v.toArray⟩) := .of_V (.str v)
theorem below_or {w w' : World} (h : w' = w ∨ w' = w.drew) : Below w.heap.size w w' := by
  rcases h with rfl | rfl
  · exact .refl _ _
  · exact (Below.refl _ _).drew
theorem ext_ok : Sound Tryz.prog planExt := by
  intro f args bs r bs' h
  unfold planExt at h
  split at h
  case h_2 => simp at h
  split at h
  · rename_i s g
    split at h
    · rename_i hg
      obtain ⟨rfl, rfl⟩ := Prod.mk.inj (Option.some.inj h)
      subst hg
      exact contains_ok (fun x _ => fn20 x) s
    · split at h
      · rename_i hg
        obtain ⟨rfl, rfl⟩ := Prod.mk.inj (Option.some.inj h)
        subst hg
        exact contains_ok fn69 s
      · simp at h
  · rename_i s b
    split at h
    case isFalse => simp at h
    rename_i hc
    obtain ⟨rfl, rfl⟩ := Prod.mk.inj (Option.some.inj h)
    exact .str2 Tryz.call77 (by simp [resParts, rowName]) (fun c w => str_of _ c w) fun w =>
      (Tryz.strings_Trim_one ⟨s.toArray⟩ b hc.1 w (by simpa [ByteArray.size] using hc.2)).mono fun e w' ⟨he, hb⟩ => ⟨he, below_or hb⟩
  · rename_i s b
    obtain ⟨rfl, rfl⟩ := Prod.mk.inj (Option.some.inj h)
    exact .strInt Tryz.call145 (by simp [resParts, rowName]) (fun c w => .of_V (.int _ _)) fun w =>
      (Tryz.strings_IndexByte ⟨s.toArray⟩ b w).mono fun e w' ⟨he, hb⟩ => ⟨he, hb ▸ .refl _ _⟩
  · rename_i s b
    obtain ⟨rfl, rfl⟩ := Prod.mk.inj (Option.some.inj h)
    exact .str2 Tryz.call146 (by simp [resParts, rowName]) (fun c w => .of_V (.bool _)) fun w =>
      (Tryz.strings_Contains_one ⟨s.toArray⟩ b w).mono fun e w' ⟨he, hb⟩ => ⟨he, hb ▸ .refl _ _⟩
  · rename_i s
    split at h
    case isFalse => simp at h
    rename_i hc
    obtain ⟨rfl, rfl⟩ := Prod.mk.inj (Option.some.inj h)
    refine .of_below Tryz.call144 rfl (by simp [resParts, rowName]) fun c w vs hG hlt hsz hargs => ?_
    obtain ⟨u, rfl, hu⟩ := one_val hsz hargs
    rw [T1_str hu]
    have ht : Lib.TabIs Tryz.prog w "strings.asciiSpace" .u8 Lib.asciiSpaceTab := by
      obtain ⟨⟨el, fr, h1⟩, _⟩ := hG ("strings.asciiSpace", .u8, Lib.asciiSpaceTab) (by simp [flatTabs]) 1 (by kernel_rfl)
      unfold Lib.TabIs World.var?
      rw [show Tryz.prog.globalNamed "strings.asciiSpace" = some 1 from by kernel_rfl]
      simp only [Option.bind_some, h1]
    refine (Tryz.strings_Fields ⟨s.toArray⟩ w (by simpa [ByteArray.size] using hc.1) (fun j b hb => ?_) ht).mono fun e w' ⟨he, hw⟩ => ⟨_, he, ?_, ?_⟩
    · have := List.all_eq_true.1 hc.2 b (List.mem_of_getElem? hb)
      simpa using this
    · rw [hw]; exact (Below.refl _ _).alloc (Nat.le_refl _) _
    · rw [hw]; exact T_newStrs hlt
  · rename_i s n
    split at h
    case isFalse => simp at h
    rename_i hc
    obtain ⟨rfl, rfl⟩ := Prod.mk.inj (Option.some.inj h)
    refine .strInt Tryz.call43 (by simp [resParts, rowName]) (fun c w => str_of _ c w) fun w => ?_
    have := Tryz.strings_Repeat ⟨s.toArray⟩ n.toNat w (by omega) (by simpa [ByteArray.size] using hc.2.2)
    rw [Int.toNat_of_nonneg hc.1] at this
    exact this
  · simp at h
theorem plan_ok : plan.Ok := ⟨mixed, planFn_ok, ext_ok⟩
/-- What the evaluator says, is so. -/
theorem sim {f : FuncId} {args : List AV} {bs bs' : List (Nat × Box)} {r : AV} (h : evc plan f args bs = some (r, bs')) : SimCall Tryz.prog f args bs r bs' := evc_sound plan_ok _ _ _ _ _ h
end Go.Proofs.YtlmmgblghgmgeaaGreatDoor

