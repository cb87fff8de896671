/- The texts Plan, PlanOk, WalkA, WalkB, WalkC, WalkD, merged. -/
import Derived.Test.YtlmmgblghgmgeaaGreatDoorTab
import Derived.Test.YtlmmgblghgmgeaaGreatDoorEv4
import Derived.Test.YtlmmgblghgmgeaaGreatDoorShelf
import Derived.KernelRfl
set_option linter.unusedVariables false
set_option linter.unusedSimpArgs false
/- Which functions of this seat are evaluated by their code, and what their loops keep. -/
namespace Go.Proofs.YtlmmgblghgmgeaaGreatDoor
open Go Ev

def lv0 : Nat → Keep := fun _ => noKeep
def lvL (l : List (Nat × Option Nat)) (c : List (Nat × Nat × Nat)) (h1 : (l.map (·.1)).Nodup) (h2 : l.all (fun s => decide (s.1 < 500000)) = true) : Nat → Keep := fun id => if id < 1000000 then ⟨l, c, h1, h2⟩ else noKeep
def lvRun : Nat → Keep := lvL [(0, none), (1, none), (7, none), (8, none)] [] (by decide) (by decide)
def lvOr : Nat → Keep := lvL [(3, none), (6, none), (7, none), (8, none)] [] (by decide) (by decide)
def lvNumber : Nat → Keep := lvL [(0, none), (2, none), (3, none), (6, none), (7, none)] [] (by decide) (by decide)
def lvSymbol : Nat → Keep := fun id => if id < 5 then ⟨[(0, none), (2, none), (3, none), (9, none), (10, none), (11, none)], [], by decide, by decide⟩ else if id < 1000000 then ⟨[(0, none), (2, none), (3, none), (23, none), (24, none), (25, none)], [], by decide, by decide⟩ else noKeep
def lvRead : Nat → Keep := lvL [(3, none), (7, none), (21, none)] [(500021, 3, 4), (500021, 4, 4)] (by decide) (by decide)
def lvIsRead : Nat → Keep := lvL [(1, none), (5, none), (11, none)] [(500011, 3, 4), (500011, 4, 4)] (by decide) (by decide)
def lvComment : Nat → Keep := lvL [(0, none), (3, none)] [] (by decide) (by decide)
def lvEqual : Nat → Keep := lvL [(1, none), (2, none), (15, none), (16, none), (17, none)] [] (by decide) (by decide)
def lvLines : Nat → Keep := lvL [(0, none), (10, none), (11, none), (12, none)] [] (by decide) (by decide)
def lvRefLines : Nat → Keep := lvL [(0, none), (4, none)] [] (by decide) (by decide)
def lvFew : Nat → Keep := lvL [(0, none), (3, none)] [] (by decide) (by decide)
def lvShown : Nat → Keep := lvL [(0, none), (5, none)] [] (by decide) (by decide)
def lvIndex : Nat → Keep := lvL [(0, none), (1, none), (7, none), (8, none)] [] (by decide) (by decide)

def lvSame : Nat → Keep := lvL [(0, none), (1, none), (5, none)] [] (by decide) (by decide)
def lvWord : Nat → Keep := lvL [(0, none), (1, none), (4, none), (5, none), (6, none), (7, none)] [] (by decide) (by decide)
def lvQuoted : Nat → Keep := lvL [(0, none), (1, none), (4, none), (5, none), (6, none)] [] (by decide) (by decide)
def lvAt : Nat → Keep := fun id => if id < 15 then ⟨[(0, none), (1, none), (4, none), (6, none)], [], by decide, by decide⟩ else if id < 1000000 then ⟨[(0, none), (1, none), (4, none), (7, none)], [], by decide, by decide⟩ else noKeep
def lvCom : Nat → Keep := fun id => if id < 3 then ⟨[(0, none), (3, none), (4, none), (6, none)], [], by decide, by decide⟩ else if id < 1000000 then ⟨[(0, none), (3, none), (4, none), (6, none), (7, none)], [], by decide, by decide⟩ else noKeep
def lvAhead : Nat → Keep := fun id => if id < 1000000 then ⟨[(0, none), (2, none), (3, none), (4, none)], [(500003, 0, 4), (500003, 1, 4)], by decide, by decide⟩ else if id = 1000012 then ⟨[(54, some 3)], [(52, 0, 0), (53, 0, 0)], by decide, by decide⟩ else noKeep
def lvSymbols : Nat → Keep := fun id => if id < 6 then ⟨[(1, none), (2, none), (3, none)], [], by decide, by decide⟩ else if id < 11 then ⟨[(1, none), (4, some 1), (5, none)], [], by decide, by decide⟩ else if id < 1000000 then ⟨[(1, none), (4, some 1), (5, none), (6, none)], [], by decide, by decide⟩ else noKeep
def lvBRead : Nat → Keep := lvL [(0, none), (4, none), (5, none)] [] (by decide) (by decide)
def lvBlanked : Nat → Keep := fun id => if id < 5 then ⟨[(0, none), (1, none), (5, some 1), (6, none)], [], by decide, by decide⟩ else if id < 1000000 then ⟨[(0, none), (1, none), (5, some 1), (6, none), (7, none), (8, none)], [], by decide, by decide⟩ else noKeep
def lvWithin : Nat → Keep := lvL [(0, none), (3, none), (5, none)] [] (by decide) (by decide)

@[simp] theorem lv0_h (k : Nat) : lv0 k = noKeep := rfl
@[simp] theorem lvRun_h (k : Nat) (hk : 1000000 ≤ k) : lvRun k = noKeep := by
  unfold lvRun lvL; exact if_neg (by omega)
@[simp] theorem lvOr_h (k : Nat) (hk : 1000000 ≤ k) : lvOr k = noKeep := by
  unfold lvOr lvL; exact if_neg (by omega)
@[simp] theorem lvNumber_h (k : Nat) (hk : 1000000 ≤ k) : lvNumber k = noKeep := by
  unfold lvNumber lvL; exact if_neg (by omega)
@[simp] theorem lvSymbol_h (k : Nat) (hk : 1000000 ≤ k) : lvSymbol k = noKeep := by
  unfold lvSymbol; rw [if_neg (by omega), if_neg (by omega)]
@[simp] theorem lvRead_h (k : Nat) (hk : 1000000 ≤ k) : lvRead k = noKeep := by
  unfold lvRead lvL; exact if_neg (by omega)
@[simp] theorem lvIsRead_h (k : Nat) (hk : 1000000 ≤ k) : lvIsRead k = noKeep := by
  unfold lvIsRead lvL; exact if_neg (by omega)
@[simp] theorem lvComment_h (k : Nat) (hk : 1000000 ≤ k) : lvComment k = noKeep := by
  unfold lvComment lvL; exact if_neg (by omega)
@[simp] theorem lvEqual_h (k : Nat) (hk : 1000000 ≤ k) : lvEqual k = noKeep := by
  unfold lvEqual lvL; exact if_neg (by omega)
@[simp] theorem lvLines_h (k : Nat) (hk : 1000000 ≤ k) : lvLines k = noKeep := by
  unfold lvLines lvL; exact if_neg (by omega)
@[simp] theorem lvRefLines_h (k : Nat) (hk : 1000000 ≤ k) : lvRefLines k = noKeep := by
  unfold lvRefLines lvL; exact if_neg (by omega)
@[simp] theorem lvFew_h (k : Nat) (hk : 1000000 ≤ k) : lvFew k = noKeep := by
  unfold lvFew lvL; exact if_neg (by omega)
@[simp] theorem lvShown_h (k : Nat) (hk : 1000000 ≤ k) : lvShown k = noKeep := by
  unfold lvShown lvL; exact if_neg (by omega)
@[simp] theorem lvIndex_h (k : Nat) (hk : 1000000 ≤ k) : lvIndex k = noKeep := by
  unfold lvIndex lvL; exact if_neg (by omega)
@[simp] theorem lvSame_h (k : Nat) (hk : 1000000 ≤ k) : lvSame k = noKeep := by
  unfold lvSame lvL; exact if_neg (by omega)
@[simp] theorem lvWord_h (k : Nat) (hk : 1000000 ≤ k) : lvWord k = noKeep := by
  unfold lvWord lvL; exact if_neg (by omega)
@[simp] theorem lvQuoted_h (k : Nat) (hk : 1000000 ≤ k) : lvQuoted k = noKeep := by
  unfold lvQuoted lvL; exact if_neg (by omega)
@[simp] theorem lvAt_h (k : Nat) (hk : 1000000 ≤ k) : lvAt k = noKeep := by
  unfold lvAt; rw [if_neg (by omega), if_neg (by omega)]
@[simp] theorem lvCom_h (k : Nat) (hk : 1000000 ≤ k) : lvCom k = noKeep := by
  unfold lvCom; rw [if_neg (by omega), if_neg (by omega)]
@[simp] theorem lvAhead_h (k : Nat) (hk : 1000000 ≤ k) (hn : k ≠ 1000012) : lvAhead k = noKeep := by
  unfold lvAhead; rw [if_neg (by omega), if_neg hn]
@[simp] theorem lvSymbols_h (k : Nat) (hk : 1000000 ≤ k) : lvSymbols k = noKeep := by
  unfold lvSymbols; rw [if_neg (by omega), if_neg (by omega), if_neg (by omega)]
@[simp] theorem lvBRead_h (k : Nat) (hk : 1000000 ≤ k) : lvBRead k = noKeep := by
  unfold lvBRead lvL; exact if_neg (by omega)
@[simp] theorem lvBlanked_h (k : Nat) (hk : 1000000 ≤ k) : lvBlanked k = noKeep := by
  unfold lvBlanked; rw [if_neg (by omega), if_neg (by omega)]
@[simp] theorem lvWithin_h (k : Nat) (hk : 1000000 ≤ k) : lvWithin k = noKeep := by
  unfold lvWithin lvL; exact if_neg (by omega)
def lvApart : Nat → Keep := fun id => if id = 1000002 then ⟨[(18, some 2)], [(16, 0, 0), (17, 0, 0)], by decide, by decide⟩ else noKeep
@[simp] theorem lvApart_h (k : Nat) (hn : k ≠ 1000002) : lvApart k = noKeep := by
  unfold lvApart; rw [if_neg hn]
noncomputable def planFn : FuncId → Option (Func × (Nat → Keep))
  | 8 => some (Tryz.f8, lv0)
  | 14 => some (Tryz.f14, lvFew)
  | 32 => some (Tryz.f32, lv0)
  | 16 => some (Tryz.f16, lv0)
  | 72 => some (Tryz.f72, lvShown)
  | 44 => some (Tryz.f44, lvRefLines)
  | 66 => some (Tryz.f66, lvLines)
  | 10 => some (Tryz.f10, lv0)
  | 15 => some (Tryz.f15, lv0)
  | 17 => some (Tryz.f17, lv0)
  | 28 => some (Tryz.f28, lv0)
  | 60 => some (Tryz.f60, lv0)
  | 9 => some (Tryz.f9, lv0)
  | 33 => some (Tryz.f33, lvOr)
  | 37 => some (Tryz.f37, lv0)
  | 82 => some (Tryz.f82, lv0)
  | 41 => some (Tryz.f41, lvRead)
  | 36 => some (Tryz.f36, lv0)
  | 34 => some (Tryz.f34, lv0)
  | 55 => some (Tryz.f55, lv0)
  | 56 => some (Tryz.f56, lv0)
  | 57 => some (Tryz.f57, lv0)
  | 58 => some (Tryz.f58, lvIndex)
  | 59 => some (Tryz.f59, lv0)
  | 35 => some (Tryz.f35, lv0)
  | 67 => some (Tryz.f67, lv0)
  | 68 => some (Tryz.f68, lv0)
  | 85 => some (Tryz.f85, lv0)
  | 86 => some (Tryz.f86, lv0)
  | 87 => some (Tryz.f87, lv0)
  | 88 => some (Tryz.f88, lvComment)
  | 3 => some (Tryz.f3, lv0)
  | 4 => some (Tryz.f4, lv0)
  | 7 => some (Tryz.f7, lv0)
  | 23 => some (Tryz.f23, lvFew)
  | 11 => some (Tryz.f11, lv0)
  | 12 => some (Tryz.f12, lv0)
  | 13 => some (Tryz.f13, lvApart)
  | 40 => some (Tryz.f40, lv0)
  | 39 => some (Tryz.f39, lvSame)
  | 19 => some (Tryz.f19, lv0)
  | 45 => some (Tryz.f45, lvAhead)
  | 74 => some (Tryz.f74, lvAt)
  | 96 => some (Tryz.f96, lvWord)
  | 97 => some (Tryz.f97, lvQuoted)
  | 73 => some (Tryz.f73, lvCom)
  | 95 => some (Tryz.f95, lv0)
  | 31 => some (Tryz.f31, lvSymbols)
  | 64 => some (Tryz.f64, lv0)
  | 62 => some (Tryz.f62, lv0)
  | 30 => some (Tryz.f30, lvBRead)
  | 20 => some (Tryz.f20, lvSame)
  | 22 => some (Tryz.f22, lvBlanked)
  | 46 => some (Tryz.f46, lvWithin)
  | 75 => some (Tryz.f75, lv0)
  | 54 => some (Tryz.f54, lv0)
  | 38 => some (Tryz.f38, lv0)
  | 94 => some (Tryz.f94, lv0)
  | 98 => some (Tryz.f98, lv0)
  | 130 => some (Tryz.f130, lv0)
  | 131 => some (Tryz.f131, lv0)
  | 132 => some (Tryz.f132, lvBRead)
  | 63 => some (Tryz.f63, lvSame)
  | 21 => some (Tryz.f21, lvSame)
  | 49 => some (Tryz.f49, lv0)
  | 47 => some (Tryz.f47, lv0)
  | 70 => some (Tryz.f70, lv0)
  | 92 => some (Tryz.f92, lv0)
  | 65 => some (Tryz.f65, lvIsRead)
  | 84 => some (Tryz.f84, lv0)
  | 78 => some (Tryz.f78, lvIndex)
  | 89 => some (Tryz.f89, lv0)
  | 121 => some (Tryz.f121, lv0)
  | 122 => some (Tryz.f122, lv0)
  | 83 => some (Tryz.f83, lvEqual)
  | 119 => some (Tryz.f119, lvRun)
  | 120 => some (Tryz.f120, lv0)
  | 123 => some (Tryz.f123, lv0)
  | 124 => some (Tryz.f124, lv0)
  | 125 => some (Tryz.f125, lv0)
  | 126 => some (Tryz.f126, lvNumber)
  | 127 => some (Tryz.f127, lv0)
  | 128 => some (Tryz.f128, lvSymbol)
  | _ => none
def planRo : FuncId → Bool
  | 67 => true
  | 85 => true
  | _ => false
/-- What Go's library does, by its contracts. -/
def spansB (a b c : Int) : Bool := decide (b ≤ a) && decide (a ≤ c)
def oddRune (x : Nat) : Bool := decide ((x : Int) < 32) || decide ((x : Int) > 126)
def letterB (n : Nat) : Bool := spansB n 97 122 || spansB n 65 90
noncomputable def planExt : Oracle := fun f args bs =>
  match bs with
  | [] => (match f, args with
    | 81, [.str s, .fn g []] => if g = 82 then some (.bool (decide (0 ≤ Lib.idxFunc oddRune true ⟨s.toArray⟩)), [])
        else if g = 122 then some (.bool (decide (0 ≤ Lib.idxFunc (fun x => letterB (x % 256)) true ⟨s.toArray⟩)), []) else none
    | 77, [.str s, .str [b]] => if b.toNat < 128 ∧ s.length ≤ 9223372036854775807 then some (.str (Lib.trimB s b), []) else none
    | 145, [.str s, .int .u8 b] => some (.int .i64 (Lib.indexByte s b.toNat.toUInt8), [])
    | 146, [.str s, .str [b]] => some (.bool (decide (0 ≤ Lib.indexByte s b)), [])
    | 144, [.str s] => if s.length < 4294967281 ∧ s.all (fun b => decide (b.toNat < 128)) = true then some (.sl 1 ((Lib.fields s).map fun x => [.str x]) .clip, []) else none
    | 43, [.str s, .int .i64 n] => if 0 ≤ n ∧ n ≤ 9223372036854775807 ∧ s.length * n.toNat ≤ 140737488355328 then some (.str (Lib.repeatL s n.toNat), []) else none
    | _, _ => none)
  | _ => none
noncomputable def plan : Plan := ⟨Tryz.prog, planFn, planRo, planExt⟩
end Go.Proofs.YtlmmgblghgmgeaaGreatDoor

/- The plan is right: what is evaluated are the program's functions; what is known of the library are contracts. -/
namespace Go.Proofs.YtlmmgblghgmgeaaGreatDoor
open Go Ev Go.RowKit
def FnOk (f : FuncId) (fn : Func) (lv : Nat → Keep) : Prop := Tryz.prog.funcs[f]? = some fn ∧ (∀ code, fn.body = some code → codeOk lv code = true) ∧ ∀ (vs : Array Value) (w : World), (callFunc f vs).run Tryz.prog w = .ok (.enter f vs) w
theorem codeOk_of {fn : Func} {lv : Nat → Keep} (h : codeOk lv (fn.body.getD .skip) = true) (code : Code) (hb : fn.body = some code) : codeOk lv code = true := by
  rw [hb] at h
  exact h

theorem ok_8 : FnOk 8 Tryz.f8 lv0 := ⟨Tryz.func8, codeOk_of (by kernel_rfl), Tryz.call8⟩
theorem ok_14 : FnOk 14 Tryz.f14 lvFew := ⟨Tryz.func14, codeOk_of (by kernel_rfl), Tryz.call14⟩
theorem ok_32 : FnOk 32 Tryz.f32 lv0 := ⟨Tryz.func32, codeOk_of (by kernel_rfl), Tryz.call32⟩
theorem ok_16 : FnOk 16 Tryz.f16 lv0 := ⟨Tryz.func16, codeOk_of (by kernel_rfl), Tryz.call16⟩
theorem ok_72 : FnOk 72 Tryz.f72 lvShown := ⟨Tryz.func72, codeOk_of (by kernel_rfl), Tryz.call72⟩
theorem ok_44 : FnOk 44 Tryz.f44 lvRefLines := ⟨Tryz.func44, codeOk_of (by kernel_rfl), Tryz.call44⟩
theorem ok_66 : FnOk 66 Tryz.f66 lvLines := ⟨Tryz.func66, codeOk_of (by kernel_rfl), Tryz.call66⟩
theorem ok_10 : FnOk 10 Tryz.f10 lv0 := ⟨Tryz.func10, codeOk_of (by kernel_rfl), Tryz.call10⟩
theorem ok_15 : FnOk 15 Tryz.f15 lv0 := ⟨Tryz.func15, codeOk_of (by kernel_rfl), Tryz.call15⟩
theorem ok_17 : FnOk 17 Tryz.f17 lv0 := ⟨Tryz.func17, codeOk_of (by kernel_rfl), Tryz.call17⟩
theorem ok_28 : FnOk 28 Tryz.f28 lv0 := ⟨Tryz.func28, codeOk_of (by kernel_rfl), Tryz.call28⟩
theorem ok_60 : FnOk 60 Tryz.f60 lv0 := ⟨Tryz.func60, codeOk_of (by kernel_rfl), Tryz.call60⟩
theorem ok_9 : FnOk 9 Tryz.f9 lv0 := ⟨Tryz.func9, codeOk_of (by kernel_rfl), Tryz.call9⟩
theorem ok_33 : FnOk 33 Tryz.f33 lvOr := ⟨Tryz.func33, codeOk_of (by kernel_rfl), Tryz.call33⟩
theorem ok_37 : FnOk 37 Tryz.f37 lv0 := ⟨Tryz.func37, codeOk_of (by kernel_rfl), Tryz.call37⟩
theorem ok_82 : FnOk 82 Tryz.f82 lv0 := ⟨Tryz.func82, codeOk_of (by kernel_rfl), Tryz.call82⟩
theorem ok_41 : FnOk 41 Tryz.f41 lvRead := ⟨Tryz.func41, codeOk_of (by kernel_rfl), Tryz.call41⟩
theorem ok_36 : FnOk 36 Tryz.f36 lv0 := ⟨Tryz.func36, codeOk_of (by kernel_rfl), Tryz.call36⟩
theorem ok_34 : FnOk 34 Tryz.f34 lv0 := ⟨Tryz.func34, codeOk_of (by kernel_rfl), Tryz.call34⟩
theorem ok_55 : FnOk 55 Tryz.f55 lv0 := ⟨Tryz.func55, codeOk_of (by kernel_rfl), Tryz.call55⟩
theorem ok_56 : FnOk 56 Tryz.f56 lv0 := ⟨Tryz.func56, codeOk_of (by kernel_rfl), Tryz.call56⟩
theorem ok_57 : FnOk 57 Tryz.f57 lv0 := ⟨Tryz.func57, codeOk_of (by kernel_rfl), Tryz.call57⟩
theorem ok_58 : FnOk 58 Tryz.f58 lvIndex := ⟨Tryz.func58, codeOk_of (by kernel_rfl), Tryz.call58⟩
theorem ok_59 : FnOk 59 Tryz.f59 lv0 := ⟨Tryz.func59, codeOk_of (by kernel_rfl), Tryz.call59⟩
theorem ok_35 : FnOk 35 Tryz.f35 lv0 := ⟨Tryz.func35, codeOk_of (by kernel_rfl), Tryz.call35⟩
theorem ok_67 : FnOk 67 Tryz.f67 lv0 := ⟨Tryz.func67, codeOk_of (by kernel_rfl), Tryz.call67⟩
theorem ok_68 : FnOk 68 Tryz.f68 lv0 := ⟨Tryz.func68, codeOk_of (by kernel_rfl), Tryz.call68⟩
theorem ok_85 : FnOk 85 Tryz.f85 lv0 := ⟨Tryz.func85, codeOk_of (by kernel_rfl), Tryz.call85⟩
theorem ok_86 : FnOk 86 Tryz.f86 lv0 := ⟨Tryz.func86, codeOk_of (by kernel_rfl), Tryz.call86⟩
theorem ok_87 : FnOk 87 Tryz.f87 lv0 := ⟨Tryz.func87, codeOk_of (by kernel_rfl), Tryz.call87⟩
theorem ok_88 : FnOk 88 Tryz.f88 lvComment := ⟨Tryz.func88, codeOk_of (by kernel_rfl), Tryz.call88⟩
theorem ok_3 : FnOk 3 Tryz.f3 lv0 := ⟨Tryz.func3, codeOk_of (by kernel_rfl), Tryz.call3⟩
theorem ok_4 : FnOk 4 Tryz.f4 lv0 := ⟨Tryz.func4, codeOk_of (by kernel_rfl), Tryz.call4⟩
theorem ok_7 : FnOk 7 Tryz.f7 lv0 := ⟨Tryz.func7, codeOk_of (by kernel_rfl), Tryz.call7⟩
theorem ok_23 : FnOk 23 Tryz.f23 lvFew := ⟨Tryz.func23, codeOk_of (by kernel_rfl), Tryz.call23⟩
theorem ok_11 : FnOk 11 Tryz.f11 lv0 := ⟨Tryz.func11, codeOk_of (by kernel_rfl), Tryz.call11⟩
theorem ok_12 : FnOk 12 Tryz.f12 lv0 := ⟨Tryz.func12, codeOk_of (by kernel_rfl), Tryz.call12⟩
theorem ok_13 : FnOk 13 Tryz.f13 lvApart := ⟨Tryz.func13, codeOk_of (by kernel_rfl), Tryz.call13⟩
theorem ok_40 : FnOk 40 Tryz.f40 lv0 := ⟨Tryz.func40, codeOk_of (by kernel_rfl), Tryz.call40⟩
theorem ok_39 : FnOk 39 Tryz.f39 lvSame := ⟨Tryz.func39, codeOk_of (by kernel_rfl), Tryz.call39⟩
theorem ok_19 : FnOk 19 Tryz.f19 lv0 := ⟨Tryz.func19, codeOk_of (by kernel_rfl), Tryz.call19⟩
theorem ok_45 : FnOk 45 Tryz.f45 lvAhead := ⟨Tryz.func45, codeOk_of (by kernel_rfl), Tryz.call45⟩
theorem ok_74 : FnOk 74 Tryz.f74 lvAt := ⟨Tryz.func74, codeOk_of (by kernel_rfl), Tryz.call74⟩
theorem ok_96 : FnOk 96 Tryz.f96 lvWord := ⟨Tryz.func96, codeOk_of (by kernel_rfl), Tryz.call96⟩
theorem ok_97 : FnOk 97 Tryz.f97 lvQuoted := ⟨Tryz.func97, codeOk_of (by kernel_rfl), Tryz.call97⟩
theorem ok_73 : FnOk 73 Tryz.f73 lvCom := ⟨Tryz.func73, codeOk_of (by kernel_rfl), Tryz.call73⟩
theorem ok_95 : FnOk 95 Tryz.f95 lv0 := ⟨Tryz.func95, codeOk_of (by kernel_rfl), Tryz.call95⟩
theorem ok_31 : FnOk 31 Tryz.f31 lvSymbols := ⟨Tryz.func31, codeOk_of (by kernel_rfl), Tryz.call31⟩
theorem ok_64 : FnOk 64 Tryz.f64 lv0 := ⟨Tryz.func64, codeOk_of (by kernel_rfl), Tryz.call64⟩
theorem ok_62 : FnOk 62 Tryz.f62 lv0 := ⟨Tryz.func62, codeOk_of (by kernel_rfl), Tryz.call62⟩
theorem ok_30 : FnOk 30 Tryz.f30 lvBRead := ⟨Tryz.func30, codeOk_of (by kernel_rfl), Tryz.call30⟩
theorem ok_20 : FnOk 20 Tryz.f20 lvSame := ⟨Tryz.func20, codeOk_of (by kernel_rfl), Tryz.call20⟩
theorem ok_22 : FnOk 22 Tryz.f22 lvBlanked := ⟨Tryz.func22, codeOk_of (by kernel_rfl), Tryz.call22⟩
theorem ok_46 : FnOk 46 Tryz.f46 lvWithin := ⟨Tryz.func46, codeOk_of (by kernel_rfl), Tryz.call46⟩
theorem ok_75 : FnOk 75 Tryz.f75 lv0 := ⟨Tryz.func75, codeOk_of (by kernel_rfl), Tryz.call75⟩
theorem ok_54 : FnOk 54 Tryz.f54 lv0 := ⟨Tryz.func54, codeOk_of (by kernel_rfl), Tryz.call54⟩
theorem ok_38 : FnOk 38 Tryz.f38 lv0 := ⟨Tryz.func38, codeOk_of (by kernel_rfl), Tryz.call38⟩
theorem ok_94 : FnOk 94 Tryz.f94 lv0 := ⟨Tryz.func94, codeOk_of (by kernel_rfl), Tryz.call94⟩
theorem ok_98 : FnOk 98 Tryz.f98 lv0 := ⟨Tryz.func98, codeOk_of (by kernel_rfl), Tryz.call98⟩
theorem ok_130 : FnOk 130 Tryz.f130 lv0 := ⟨Tryz.func130, codeOk_of (by kernel_rfl), Tryz.call130⟩
theorem ok_131 : FnOk 131 Tryz.f131 lv0 := ⟨Tryz.func131, codeOk_of (by kernel_rfl), Tryz.call131⟩
theorem ok_132 : FnOk 132 Tryz.f132 lvBRead := ⟨Tryz.func132, codeOk_of (by kernel_rfl), Tryz.call132⟩
theorem ok_63 : FnOk 63 Tryz.f63 lvSame := ⟨Tryz.func63, codeOk_of (by kernel_rfl), Tryz.call63⟩
theorem ok_21 : FnOk 21 Tryz.f21 lvSame := ⟨Tryz.func21, codeOk_of (by kernel_rfl), Tryz.call21⟩
theorem ok_49 : FnOk 49 Tryz.f49 lv0 := ⟨Tryz.func49, codeOk_of (by kernel_rfl), Tryz.call49⟩
theorem ok_47 : FnOk 47 Tryz.f47 lv0 := ⟨Tryz.func47, codeOk_of (by kernel_rfl), Tryz.call47⟩
theorem ok_70 : FnOk 70 Tryz.f70 lv0 := ⟨Tryz.func70, codeOk_of (by kernel_rfl), Tryz.call70⟩
theorem ok_92 : FnOk 92 Tryz.f92 lv0 := ⟨Tryz.func92, codeOk_of (by kernel_rfl), Tryz.call92⟩
theorem ok_65 : FnOk 65 Tryz.f65 lvIsRead := ⟨Tryz.func65, codeOk_of (by kernel_rfl), Tryz.call65⟩
theorem ok_84 : FnOk 84 Tryz.f84 lv0 := ⟨Tryz.func84, codeOk_of (by kernel_rfl), Tryz.call84⟩
theorem ok_78 : FnOk 78 Tryz.f78 lvIndex := ⟨Tryz.func78, codeOk_of (by kernel_rfl), Tryz.call78⟩
theorem ok_89 : FnOk 89 Tryz.f89 lv0 := ⟨Tryz.func89, codeOk_of (by kernel_rfl), Tryz.call89⟩
theorem ok_121 : FnOk 121 Tryz.f121 lv0 := ⟨Tryz.func121, codeOk_of (by kernel_rfl), Tryz.call121⟩
theorem ok_122 : FnOk 122 Tryz.f122 lv0 := ⟨Tryz.func122, codeOk_of (by kernel_rfl), Tryz.call122⟩
theorem ok_83 : FnOk 83 Tryz.f83 lvEqual := ⟨Tryz.func83, codeOk_of (by kernel_rfl), Tryz.call83⟩
theorem ok_119 : FnOk 119 Tryz.f119 lvRun := ⟨Tryz.func119, codeOk_of (by kernel_rfl), Tryz.call119⟩
theorem ok_120 : FnOk 120 Tryz.f120 lv0 := ⟨Tryz.func120, codeOk_of (by kernel_rfl), Tryz.call120⟩
theorem ok_123 : FnOk 123 Tryz.f123 lv0 := ⟨Tryz.func123, codeOk_of (by kernel_rfl), Tryz.call123⟩
theorem ok_124 : FnOk 124 Tryz.f124 lv0 := ⟨Tryz.func124, codeOk_of (by kernel_rfl), Tryz.call124⟩
theorem ok_125 : FnOk 125 Tryz.f125 lv0 := ⟨Tryz.func125, codeOk_of (by kernel_rfl), Tryz.call125⟩
theorem ok_126 : FnOk 126 Tryz.f126 lvNumber := ⟨Tryz.func126, codeOk_of (by kernel_rfl), Tryz.call126⟩
theorem ok_127 : FnOk 127 Tryz.f127 lv0 := ⟨Tryz.func127, codeOk_of (by kernel_rfl), Tryz.call127⟩
theorem ok_128 : FnOk 128 Tryz.f128 lvSymbol := ⟨Tryz.func128, codeOk_of (by kernel_rfl), Tryz.call128⟩
theorem planFn_ok (f : FuncId) (fn : Func) (lv : Nat → Keep) (h : planFn f = some (fn, lv)) : FnOk f fn lv := by
  unfold planFn at h
  split at h
  · obtain ⟨rfl, rfl⟩ := Prod.mk.inj (Option.some.inj h); exact ok_8
  · obtain ⟨rfl, rfl⟩ := Prod.mk.inj (Option.some.inj h); exact ok_14
  · obtain ⟨rfl, rfl⟩ := Prod.mk.inj (Option.some.inj h); exact ok_32
  · obtain ⟨rfl, rfl⟩ := Prod.mk.inj (Option.some.inj h); exact ok_16
  · obtain ⟨rfl, rfl⟩ := Prod.mk.inj (Option.some.inj h); exact ok_72
  · obtain ⟨rfl, rfl⟩ := Prod.mk.inj (Option.some.inj h); exact ok_44
  · obtain ⟨rfl, rfl⟩ := Prod.mk.inj (Option.some.inj h); exact ok_66
  · obtain ⟨rfl, rfl⟩ := Prod.mk.inj (Option.some.inj h); exact ok_10
  · obtain ⟨rfl, rfl⟩ := Prod.mk.inj (Option.some.inj h); exact ok_15
  · obtain ⟨rfl, rfl⟩ := Prod.mk.inj (Option.some.inj h); exact ok_17
  · obtain ⟨rfl, rfl⟩ := Prod.mk.inj (Option.some.inj h); exact ok_28
  · obtain ⟨rfl, rfl⟩ := Prod.mk.inj (Option.some.inj h); exact ok_60
  · obtain ⟨rfl, rfl⟩ := Prod.mk.inj (Option.some.inj h); exact ok_9
  · obtain ⟨rfl, rfl⟩ := Prod.mk.inj (Option.some.inj h); exact ok_33
  · obtain ⟨rfl, rfl⟩ := Prod.mk.inj (Option.some.inj h); exact ok_37
  · obtain ⟨rfl, rfl⟩ := Prod.mk.inj (Option.some.inj h); exact ok_82
  · obtain ⟨rfl, rfl⟩ := Prod.mk.inj (Option.some.inj h); exact ok_41
  · obtain ⟨rfl, rfl⟩ := Prod.mk.inj (Option.some.inj h); exact ok_36
  · obtain ⟨rfl, rfl⟩ := Prod.mk.inj (Option.some.inj h); exact ok_34
  · obtain ⟨rfl, rfl⟩ := Prod.mk.inj (Option.some.inj h); exact ok_55
  · obtain ⟨rfl, rfl⟩ := Prod.mk.inj (Option.some.inj h); exact ok_56
  · obtain ⟨rfl, rfl⟩ := Prod.mk.inj (Option.some.inj h); exact ok_57
  · obtain ⟨rfl, rfl⟩ := Prod.mk.inj (Option.some.inj h); exact ok_58
  · obtain ⟨rfl, rfl⟩ := Prod.mk.inj (Option.some.inj h); exact ok_59
  · obtain ⟨rfl, rfl⟩ := Prod.mk.inj (Option.some.inj h); exact ok_35
  · obtain ⟨rfl, rfl⟩ := Prod.mk.inj (Option.some.inj h); exact ok_67
  · obtain ⟨rfl, rfl⟩ := Prod.mk.inj (Option.some.inj h); exact ok_68
  · obtain ⟨rfl, rfl⟩ := Prod.mk.inj (Option.some.inj h); exact ok_85
  · obtain ⟨rfl, rfl⟩ := Prod.mk.inj (Option.some.inj h); exact ok_86
  · obtain ⟨rfl, rfl⟩ := Prod.mk.inj (Option.some.inj h); exact ok_87
  · obtain ⟨rfl, rfl⟩ := Prod.mk.inj (Option.some.inj h); exact ok_88
  · obtain ⟨rfl, rfl⟩ := Prod.mk.inj (Option.some.inj h); exact ok_3
  · obtain ⟨rfl, rfl⟩ := Prod.mk.inj (Option.some.inj h); exact ok_4
  · obtain ⟨rfl, rfl⟩ := Prod.mk.inj (Option.some.inj h); exact ok_7
  · obtain ⟨rfl, rfl⟩ := Prod.mk.inj (Option.some.inj h); exact ok_23
  · obtain ⟨rfl, rfl⟩ := Prod.mk.inj (Option.some.inj h); exact ok_11
  · obtain ⟨rfl, rfl⟩ := Prod.mk.inj (Option.some.inj h); exact ok_12
  · obtain ⟨rfl, rfl⟩ := Prod.mk.inj (Option.some.inj h); exact ok_13
  · obtain ⟨rfl, rfl⟩ := Prod.mk.inj (Option.some.inj h); exact ok_40
  · obtain ⟨rfl, rfl⟩ := Prod.mk.inj (Option.some.inj h); exact ok_39
  · obtain ⟨rfl, rfl⟩ := Prod.mk.inj (Option.some.inj h); exact ok_19
  · obtain ⟨rfl, rfl⟩ := Prod.mk.inj (Option.some.inj h); exact ok_45
  · obtain ⟨rfl, rfl⟩ := Prod.mk.inj (Option.some.inj h); exact ok_74
  · obtain ⟨rfl, rfl⟩ := Prod.mk.inj (Option.some.inj h); exact ok_96
  · obtain ⟨rfl, rfl⟩ := Prod.mk.inj (Option.some.inj h); exact ok_97
  · obtain ⟨rfl, rfl⟩ := Prod.mk.inj (Option.some.inj h); exact ok_73
  · obtain ⟨rfl, rfl⟩ := Prod.mk.inj (Option.some.inj h); exact ok_95
  · obtain ⟨rfl, rfl⟩ := Prod.mk.inj (Option.some.inj h); exact ok_31
  · obtain ⟨rfl, rfl⟩ := Prod.mk.inj (Option.some.inj h); exact ok_64
  · obtain ⟨rfl, rfl⟩ := Prod.mk.inj (Option.some.inj h); exact ok_62
  · obtain ⟨rfl, rfl⟩ := Prod.mk.inj (Option.some.inj h); exact ok_30
  · obtain ⟨rfl, rfl⟩ := Prod.mk.inj (Option.some.inj h); exact ok_20
  · obtain ⟨rfl, rfl⟩ := Prod.mk.inj (Option.some.inj h); exact ok_22
  · obtain ⟨rfl, rfl⟩ := Prod.mk.inj (Option.some.inj h); exact ok_46
  · obtain ⟨rfl, rfl⟩ := Prod.mk.inj (Option.some.inj h); exact ok_75
  · obtain ⟨rfl, rfl⟩ := Prod.mk.inj (Option.some.inj h); exact ok_54
  · obtain ⟨rfl, rfl⟩ := Prod.mk.inj (Option.some.inj h); exact ok_38
  · obtain ⟨rfl, rfl⟩ := Prod.mk.inj (Option.some.inj h); exact ok_94
  · obtain ⟨rfl, rfl⟩ := Prod.mk.inj (Option.some.inj h); exact ok_98
  · obtain ⟨rfl, rfl⟩ := Prod.mk.inj (Option.some.inj h); exact ok_130
  · obtain ⟨rfl, rfl⟩ := Prod.mk.inj (Option.some.inj h); exact ok_131
  · obtain ⟨rfl, rfl⟩ := Prod.mk.inj (Option.some.inj h); exact ok_132
  · obtain ⟨rfl, rfl⟩ := Prod.mk.inj (Option.some.inj h); exact ok_63
  · obtain ⟨rfl, rfl⟩ := Prod.mk.inj (Option.some.inj h); exact ok_21
  · obtain ⟨rfl, rfl⟩ := Prod.mk.inj (Option.some.inj h); exact ok_49
  · obtain ⟨rfl, rfl⟩ := Prod.mk.inj (Option.some.inj h); exact ok_47
  · obtain ⟨rfl, rfl⟩ := Prod.mk.inj (Option.some.inj h); exact ok_70
  · obtain ⟨rfl, rfl⟩ := Prod.mk.inj (Option.some.inj h); exact ok_92
  · obtain ⟨rfl, rfl⟩ := Prod.mk.inj (Option.some.inj h); exact ok_65
  · obtain ⟨rfl, rfl⟩ := Prod.mk.inj (Option.some.inj h); exact ok_84
  · obtain ⟨rfl, rfl⟩ := Prod.mk.inj (Option.some.inj h); exact ok_78
  · obtain ⟨rfl, rfl⟩ := Prod.mk.inj (Option.some.inj h); exact ok_89
  · obtain ⟨rfl, rfl⟩ := Prod.mk.inj (Option.some.inj h); exact ok_121
  · obtain ⟨rfl, rfl⟩ := Prod.mk.inj (Option.some.inj h); exact ok_122
  · obtain ⟨rfl, rfl⟩ := Prod.mk.inj (Option.some.inj h); exact ok_83
  · obtain ⟨rfl, rfl⟩ := Prod.mk.inj (Option.some.inj h); exact ok_119
  · obtain ⟨rfl, rfl⟩ := Prod.mk.inj (Option.some.inj h); exact ok_120
  · obtain ⟨rfl, rfl⟩ := Prod.mk.inj (Option.some.inj h); exact ok_123
  · obtain ⟨rfl, rfl⟩ := Prod.mk.inj (Option.some.inj h); exact ok_124
  · obtain ⟨rfl, rfl⟩ := Prod.mk.inj (Option.some.inj h); exact ok_125
  · obtain ⟨rfl, rfl⟩ := Prod.mk.inj (Option.some.inj h); exact ok_126
  · obtain ⟨rfl, rfl⟩ := Prod.mk.inj (Option.some.inj h); exact ok_127
  · obtain ⟨rfl, rfl⟩ := Prod.mk.inj (Option.some.inj h); exact ok_128
  · simp at h
/-- The rest in which a predicate is evaluated: no library is needed for it. -/
noncomputable def plan0 : Plan := ⟨Tryz.prog, planFn, planRo, fun _ _ _ => none⟩
theorem plan0_ok : plan0.Ok := ⟨mixed, planFn_ok, fun f args bs r bs' h => by simp [plan0] at h⟩
set_option maxRecDepth 100000
set_option linter.unusedSimpArgs false
theorem spans0 (a b c : Int) : evc plan0 36 [.int .i64 a, .int .i64 b, .int .i64 c] [] = some (.bool (spansB a b c), []) := by
  refine evc_start plan0 (P := Tryz.prog) (ro := planRo) rfl rfl rfl rfl rfl rfl (by simp) rfl ?_
  by_cases h : b ≤ a <;> simp [dFor_none, storeFine_none, dFor_no, storeFine_no, lessL, lkL, evCode_exit, evCode_seq, evCode_plain, evCode_draw, evCode_cond, evCode_ret, evCode_skip, evCode_block, evCode_loop, roundK_normal, roundK_exit, roundK_ret, seqK_normal, seqK_exit, seqK_ret, blockK_normal, blockK_exit, blockK_ret, regK_eq, evOps_nil, evOps_cons, params, astep, okDst, isWanted, aop, opnd, ofValue, putT, abin, headS, ofL, noPtr, acall, adopt_bool, adopt_int, adopt_str, adopt_agg, adopt_clip, AV.bare, upd_false, AV.cells, partOf, setCells, fillC, AV.isVal, List.range, List.range.loop, ofB, mayRead, dsts, planRo, capIds, viewed, scalarR, AV.scalar, finK, freezeT, avAll, resOf, outBoxes, relabB, relabL, relab1, noPtr, AV.untup, h, spansB]
theorem letter0 (b : Nat) (hb : b < 256) : evc plan0 123 [.int .u8 b] [] = some (.bool (letterB b), []) := by
  refine evc_start plan0 (P := Tryz.prog) (ro := planRo) rfl rfl rfl rfl rfl rfl (by simp) rfl ?_
  have w1 : IntKind.i64.wrap (b : Int) = b := wrap_i64 (by omega) (by omega)
  cases h : spansB b 97 122 <;> simp [dFor_none, storeFine_none, dFor_no, storeFine_no, lessL, lkL, evCode_exit, evCode_seq, evCode_plain, evCode_draw, evCode_cond, evCode_ret, evCode_skip, evCode_block, evCode_loop, roundK_normal, roundK_exit, roundK_ret, seqK_normal, seqK_exit, seqK_ret, blockK_normal, blockK_exit, blockK_ret, regK_eq, evOps_nil, evOps_cons, params, astep, okDst, isWanted, aop, opnd, ofValue, putT, abin, headS, ofL, noPtr, acall, adopt_bool, adopt_int, adopt_str, adopt_agg, adopt_clip, AV.bare, upd_false, AV.cells, partOf, setCells, fillC, AV.isVal, List.range, List.range.loop, ofB, mayRead, dsts, planRo, capIds, viewed, scalarR, AV.scalar, finK, freezeT, avAll, resOf, outBoxes, relabB, relabL, relab1, noPtr, AV.untup, spans0, w1, letterB, h]
theorem odd0 (x : Nat) : evc plan0 82 [.int .i32 x] [] = some (.bool (oddRune x), []) := by
  refine evc_start plan0 (P := Tryz.prog) (ro := planRo) rfl rfl rfl rfl rfl rfl (by simp) rfl ?_
  by_cases h : (x : Int) < 32 <;> simp [dFor_none, storeFine_none, dFor_no, storeFine_no, lessL, lkL, evCode_exit, evCode_seq, evCode_plain, evCode_draw, evCode_cond, evCode_ret, evCode_skip, evCode_block, evCode_loop, roundK_normal, roundK_exit, roundK_ret, seqK_normal, seqK_exit, seqK_ret, blockK_normal, blockK_exit, blockK_ret, regK_eq, evOps_nil, evOps_cons, params, astep, okDst, isWanted, aop, opnd, ofValue, putT, abin, headS, ofL, noPtr, acall, adopt_bool, adopt_int, adopt_str, adopt_agg, adopt_clip, AV.bare, upd_false, AV.cells, partOf, setCells, fillC, AV.isVal, List.range, List.range.loop, ofB, mayRead, dsts, planRo, capIds, viewed, scalarR, AV.scalar, finK, freezeT, avAll, resOf, outBoxes, relabB, relabL, relab1, noPtr, AV.untup, oddRune, h]
theorem fn20 (x : Nat) : SimCall Tryz.prog 82 [.int .i32 x] [] (.bool (oddRune x)) [] := evc_sound plan0_ok _ _ _ _ _ (odd0 x)
theorem conv0 (x : Nat) (hx : x ≤ 1114111) : evc plan0 122 [.int .i32 x] [] = some (.bool (letterB (x % 256)), []) := by
  refine evc_start plan0 (P := Tryz.prog) (ro := planRo) rfl rfl rfl rfl rfl rfl (by simp) rfl ?_
  have w1 : IntKind.u8.wrap (x : Int) = (x : Int) % 256 := by unfold IntKind.wrap; simp [IntKind.bits, IntKind.signed]
  have h0 : evc plan0 123 [.int .u8 ((x : Int) % 256)] [] = some (.bool (letterB (x % 256)), []) := letter0 (x % 256) (Nat.mod_lt _ (by decide))
  simp [dFor_none, storeFine_none, dFor_no, storeFine_no, lessL, lkL, evCode_exit, evCode_seq, evCode_plain, evCode_draw, evCode_cond, evCode_ret, evCode_skip, evCode_block, evCode_loop, roundK_normal, roundK_exit, roundK_ret, seqK_normal, seqK_exit, seqK_ret, blockK_normal, blockK_exit, blockK_ret, regK_eq, evOps_nil, evOps_cons, params, astep, okDst, isWanted, aop, opnd, ofValue, putT, abin, headS, ofL, noPtr, acall, adopt_bool, adopt_int, adopt_str, adopt_agg, adopt_clip, AV.bare, upd_false, AV.cells, partOf, setCells, fillC, AV.isVal, List.range, List.range.loop, ofB, mayRead, dsts, planRo, capIds, viewed, scalarR, AV.scalar, finK, freezeT, avAll, resOf, outBoxes, relabB, relabL, relab1, noPtr, AV.untup, h0, w1]
theorem fn69 (x : Nat) (hx : x ≤ 1114111) : SimCall Tryz.prog 122 [.int .i32 x] [] (.bool (letterB (x % 256))) [] := evc_sound plan0_ok _ _ _ _ _ (conv0 x hx)
theorem gl_below {own : Own} {w w' : World} (h : Gl Tryz.prog own w) (hb : Below w.heap.size w w') : Gl Tryz.prog noOwn w' :=
  (Gl.mono h (Evo.below hb)).weaker fun _ _ h => h.elim
theorem contains_ok {g : FuncId} {p : Nat → Bool} (hg : ∀ x : Nat, x ≤ 1114111 → SimCall Tryz.prog g [.int .i32 x] [] (.bool (p x)) []) (s : Str) :
    SimCall Tryz.prog 81 [.str s, .fn g []] [] (.bool (decide (0 ≤ Lib.idxFunc p true ⟨s.toArray⟩))) [] :=
  .of_below Tryz.call81 rfl (by simp [resParts, rowName]) fun c w vs hG hlt hsz hargs => by
    obtain ⟨u, v, rfl, hu, hv⟩ := two_vals hsz hargs
    rw [T1_str hu, T1_fn hv]
    refine (Tryz.strings_ContainsFunc_grows g #[] (hg 0 (by decide)).1 p ⟨s.toArray⟩ w fun W x hx hb => ?_).mono fun e w' ⟨he, hb⟩ => ⟨_, he, hb, .of_V (.bool _)⟩
    exact runes_of_sim hg (gl_below hG hb) x hx
theorem str_of (v : Str) (c : Cfg) (w : World) : T c w (.str v) (.string ⟨v.toArray⟩) := .of_V (.str v)
theorem below_or {w w' : World} (h : w' = w ∨ w' = w.drew) : Below w.heap.size w w' := by
  rcases h with rfl | rfl
  · exact .refl _ _
  · exact (Below.refl _ _).drew
theorem ext_ok : Sound Tryz.prog planExt := by
  intro f args bs r bs' h
  unfold planExt at h
  split at h
  case h_2 => simp at h
  split at h
  · rename_i s g
    split at h
    · rename_i hg
      obtain ⟨rfl, rfl⟩ := Prod.mk.inj (Option.some.inj h)
      subst hg
      exact contains_ok (fun x _ => fn20 x) s
    · split at h
      · rename_i hg
        obtain ⟨rfl, rfl⟩ := Prod.mk.inj (Option.some.inj h)
        subst hg
        exact contains_ok fn69 s
      · simp at h
  · rename_i s b
    split at h
    case isFalse => simp at h
    rename_i hc
    obtain ⟨rfl, rfl⟩ := Prod.mk.inj (Option.some.inj h)
    exact .str2 Tryz.call77 (by simp [resParts, rowName]) (fun c w => str_of _ c w) fun w =>
      (Tryz.strings_Trim_one ⟨s.toArray⟩ b hc.1 w (by simpa [ByteArray.size] using hc.2)).mono fun e w' ⟨he, hb⟩ => ⟨he, below_or hb⟩
  · rename_i s b
    obtain ⟨rfl, rfl⟩ := Prod.mk.inj (Option.some.inj h)
    exact .strInt Tryz.call145 (by simp [resParts, rowName]) (fun c w => .of_V (.int _ _)) fun w =>
      (Tryz.strings_IndexByte ⟨s.toArray⟩ b w).mono fun e w' ⟨he, hb⟩ => ⟨he, hb ▸ .refl _ _⟩
  · rename_i s b
    obtain ⟨rfl, rfl⟩ := Prod.mk.inj (Option.some.inj h)
    exact .str2 Tryz.call146 (by simp [resParts, rowName]) (fun c w => .of_V (.bool _)) fun w =>
      (Tryz.strings_Contains_one ⟨s.toArray⟩ b w).mono fun e w' ⟨he, hb⟩ => ⟨he, hb ▸ .refl _ _⟩
  · rename_i s
    split at h
    case isFalse => simp at h
    rename_i hc
    obtain ⟨rfl, rfl⟩ := Prod.mk.inj (Option.some.inj h)
    refine .of_below Tryz.call144 rfl (by simp [resParts, rowName]) fun c w vs hG hlt hsz hargs => ?_
    obtain ⟨u, rfl, hu⟩ := one_val hsz hargs
    rw [T1_str hu]
    have ht : Lib.TabIs Tryz.prog w "strings.asciiSpace" .u8 Lib.asciiSpaceTab := by
      obtain ⟨⟨el, fr, h1⟩, _⟩ := hG ("strings.asciiSpace", .u8, Lib.asciiSpaceTab) (by simp [flatTabs]) 1 (by kernel_rfl)
      unfold Lib.TabIs World.var?
      rw [show Tryz.prog.globalNamed "strings.asciiSpace" = some 1 from by kernel_rfl]
      simp only [Option.bind_some, h1]
    refine (Tryz.strings_Fields ⟨s.toArray⟩ w (by simpa [ByteArray.size] using hc.1) (fun j b hb => ?_) ht).mono fun e w' ⟨he, hw⟩ => ⟨_, he, ?_, ?_⟩
    · have := List.all_eq_true.1 hc.2 b (List.mem_of_getElem? hb)
      simpa using this
    · rw [hw]; exact (Below.refl _ _).alloc (Nat.le_refl _) _
    · rw [hw]; exact T_newStrs hlt
  · rename_i s n
    split at h
    case isFalse => simp at h
    rename_i hc
    obtain ⟨rfl, rfl⟩ := Prod.mk.inj (Option.some.inj h)
    refine .strInt Tryz.call43 (by simp [resParts, rowName]) (fun c w => str_of _ c w) fun w => ?_
    have := Tryz.strings_Repeat ⟨s.toArray⟩ n.toNat w (by omega) (by simpa [ByteArray.size] using hc.2.2)
    rw [Int.toNat_of_nonneg hc.1] at this
    exact this
  · simp at h
theorem plan_ok : plan.Ok := ⟨mixed, planFn_ok, ext_ok⟩
/-- What the evaluator says, is so. -/
theorem sim {f : FuncId} {args : List AV} {bs bs' : List (Nat × Box)} {r : AV} (h : evc plan f args bs = some (r, bs')) : SimCall Tryz.prog f args bs r bs' := evc_sound plan_ok _ _ _ _ _ h
end Go.Proofs.YtlmmgblghgmgeaaGreatDoor


/- The small functions of the program's chapter 1, evaluated. -/
namespace Go.Proofs.YtlmmgblghgmgeaaGreatDoor
open Go Ev
set_option maxRecDepth 100000
set_option linter.unusedSimpArgs false

theorem spans_ev (a b c : Int) : evc plan 36 [.int .i64 a, .int .i64 b, .int .i64 c] [] = some (.bool (spansB a b c), []) := by
  refine evc_start plan (P := Tryz.prog) (ro := planRo) rfl rfl rfl rfl rfl rfl (by simp) rfl ?_
  by_cases h : b ≤ a <;> simp [dFor_none, storeFine_none, dFor_no, storeFine_no, lessL, lkL, evCode_exit, evCode_seq, evCode_plain, evCode_draw, evCode_cond, evCode_ret, evCode_skip, evCode_block, evCode_loop, roundK_normal, roundK_exit, roundK_ret, seqK_normal, seqK_exit, seqK_ret, blockK_normal, blockK_exit, blockK_ret, regK_eq, evOps_nil, evOps_cons, params, astep, okDst, isWanted, aop, opnd, ofValue, putT, abin, headS, ofL, noPtr, acall, adopt_bool, adopt_int, adopt_str, adopt_agg, adopt_clip, AV.bare, upd_false, AV.cells, partOf, setCells, fillC, AV.isVal, List.range, List.range.loop, ofB, mayRead, dsts, planRo, capIds, viewed, scalarR, AV.scalar, finK, freezeT, avAll, resOf, outBoxes, relabB, relabL, relab1, noPtr, AV.untup, h, spansB]
theorem letter_ev (b : UInt8) : evc plan 123 [.int .u8 b.toNat] [] = some (.bool (letterB b.toNat), []) := by
  refine evc_start plan (P := Tryz.prog) (ro := planRo) rfl rfl rfl rfl rfl rfl (by simp) rfl ?_
  have w1 : IntKind.i64.wrap (b.toNat : Int) = b.toNat := wrap_i64 (by omega) (by have := byte_lt b; omega)
  cases h : spansB b.toNat 97 122 <;> simp [dFor_none, storeFine_none, dFor_no, storeFine_no, lessL, lkL, evCode_exit, evCode_seq, evCode_plain, evCode_draw, evCode_cond, evCode_ret, evCode_skip, evCode_block, evCode_loop, roundK_normal, roundK_exit, roundK_ret, seqK_normal, seqK_exit, seqK_ret, blockK_normal, blockK_exit, blockK_ret, regK_eq, evOps_nil, evOps_cons, params, astep, okDst, isWanted, aop, opnd, ofValue, putT, abin, headS, ofL, noPtr, acall, adopt_bool, adopt_int, adopt_str, adopt_agg, adopt_clip, AV.bare, upd_false, AV.cells, partOf, setCells, fillC, AV.isVal, List.range, List.range.loop, ofB, mayRead, dsts, planRo, capIds, viewed, scalarR, AV.scalar, finK, freezeT, avAll, resOf, outBoxes, relabB, relabL, relab1, noPtr, AV.untup, spans_ev, w1, letterB, h]
def digitB (n : Nat) : Bool := spansB n 48 57
theorem digit_ev (b : UInt8) : evc plan 125 [.int .u8 b.toNat] [] = some (.bool (digitB b.toNat), []) := by
  refine evc_start plan (P := Tryz.prog) (ro := planRo) rfl rfl rfl rfl rfl rfl (by simp) rfl ?_
  have w1 : IntKind.i64.wrap (b.toNat : Int) = b.toNat := wrap_i64 (by omega) (by have := byte_lt b; omega)
  simp [dFor_none, storeFine_none, dFor_no, storeFine_no, lessL, lkL, evCode_exit, evCode_seq, evCode_plain, evCode_draw, evCode_cond, evCode_ret, evCode_skip, evCode_block, evCode_loop, roundK_normal, roundK_exit, roundK_ret, seqK_normal, seqK_exit, seqK_ret, blockK_normal, blockK_exit, blockK_ret, regK_eq, evOps_nil, evOps_cons, params, astep, okDst, isWanted, aop, opnd, ofValue, putT, abin, headS, ofL, noPtr, acall, adopt_bool, adopt_int, adopt_str, adopt_agg, adopt_clip, AV.bare, upd_false, AV.cells, partOf, setCells, fillC, AV.isVal, List.range, List.range.loop, ofB, mayRead, dsts, planRo, capIds, viewed, scalarR, AV.scalar, finK, freezeT, avAll, resOf, outBoxes, relabB, relabL, relab1, noPtr, AV.untup, spans_ev, w1, digitB]
def wordB (n : Nat) : Bool := letterB n || digitB n || ((n : Int) == 95)
theorem word_ev (b : UInt8) : evc plan 120 [.int .u8 b.toNat] [] = some (.bool (wordB b.toNat), []) := by
  refine evc_start plan (P := Tryz.prog) (ro := planRo) rfl rfl rfl rfl rfl rfl (by simp) rfl ?_
  cases h : letterB b.toNat <;> cases h' : digitB b.toNat <;> simp [dFor_none, storeFine_none, dFor_no, storeFine_no, lessL, lkL, evCode_exit, evCode_seq, evCode_plain, evCode_draw, evCode_cond, evCode_ret, evCode_skip, evCode_block, evCode_loop, roundK_normal, roundK_exit, roundK_ret, seqK_normal, seqK_exit, seqK_ret, blockK_normal, blockK_exit, blockK_ret, regK_eq, evOps_nil, evOps_cons, params, astep, okDst, isWanted, aop, opnd, ofValue, putT, abin, headS, ofL, noPtr, acall, adopt_bool, adopt_int, adopt_str, adopt_agg, adopt_clip, AV.bare, upd_false, AV.cells, partOf, setCells, fillC, AV.isVal, List.range, List.range.loop, ofB, mayRead, dsts, planRo, capIds, viewed, scalarR, AV.scalar, finK, freezeT, avAll, resOf, outBoxes, relabB, relabL, relab1, noPtr, AV.untup, letter_ev, digit_ev, wordB, h, h']
theorem wrong_ev (b : Bool) (n : Int) : evc plan 37 [.bool b, .int .i64 n] [] = some (.int .i64 (if b then n else 0), []) := by
  refine evc_start plan (P := Tryz.prog) (ro := planRo) rfl rfl rfl rfl rfl rfl (by simp) rfl ?_
  cases b <;> simp [dFor_none, storeFine_none, dFor_no, storeFine_no, lessL, lkL, evCode_exit, evCode_seq, evCode_plain, evCode_draw, evCode_cond, evCode_ret, evCode_skip, evCode_block, evCode_loop, roundK_normal, roundK_exit, roundK_ret, seqK_normal, seqK_exit, seqK_ret, blockK_normal, blockK_exit, blockK_ret, regK_eq, evOps_nil, evOps_cons, params, astep, okDst, isWanted, aop, opnd, ofValue, putT, abin, headS, ofL, noPtr, acall, adopt_bool, adopt_int, adopt_str, adopt_agg, adopt_clip, AV.bare, upd_false, AV.cells, partOf, setCells, fillC, AV.isVal, List.range, List.range.loop, ofB, mayRead, dsts, planRo, capIds, viewed, scalarR, AV.scalar, finK, freezeT, avAll, resOf, outBoxes, relabB, relabL, relab1, noPtr, AV.untup]
/-- How many characters at the beginning are of a kind. -/
def run (p : UInt8 → Bool) (s : Str) : Nat := (s.takeWhile p).length
theorem run_drop (p : UInt8 → Bool) (s : Str) (i : Nat) (h : i < s.length) : run p (s.drop i) = if p s[i] then run p (s.drop (i + 1)) + 1 else 0 := by
  rw [List.drop_eq_getElem_cons h]
  simp only [run, List.takeWhile_cons]
  split <;> simp
theorem run_ev (s : Str) (g : FuncId) (caps : List AV) (p : UInt8 → Bool) (hl : s.length < 2 ^ 62) (hcap : noPtr caps = true) (hbare : caps.map AV.bare = caps)
    (hC : ∀ b : UInt8, evc plan g (.int .u8 b.toNat :: caps) [] = some (.bool (p b), [])) : evc plan 119 [.str s, .fn g caps] [] = some (.int .i64 (run p s), []) := by
  refine evc_start plan (P := Tryz.prog) (ro := planRo) rfl rfl rfl rfl rfl rfl (by simp) rfl ?_
  simp [dFor_none, storeFine_none, dFor_no, storeFine_no, lessL, lkL, evCode_exit, evCode_seq, evCode_plain, evCode_draw, evCode_cond, evCode_ret, evCode_skip, evCode_block, evCode_loop, roundK_normal, roundK_exit, roundK_ret, seqK_normal, seqK_exit, seqK_ret, blockK_normal, blockK_exit, blockK_ret, regK_eq, evOps_nil, evOps_cons, params, astep, okDst, isWanted, aop, opnd, ofValue, putT, abin, headS, ofL, noPtr, acall, adopt_bool, adopt_int, adopt_str, adopt_agg, adopt_clip, AV.bare, upd_false, AV.cells, partOf, setCells, fillC, AV.isVal, List.range, List.range.loop, ofB, mayRead, dsts, planRo, capIds, viewed, scalarR, AV.scalar]
  refine loop_by (fun i => s.length - i) (fun (i : Nat) t m => i ≤ s.length ∧ run p s = i + run p (s.drop i) ∧ clean (lvRun 2) t m = headS [(0, .str s), (1, .fn g caps), (7, .int .i64 s.length), (8, .int .i64 i)] []) ?_ 0 ?_
  · intro i t m ⟨hi, hr, hS⟩ ih
    refine round_of hS ?_
    by_cases h1 : i < s.length
    · have hd := run_drop p s i h1
      have w1 : IntKind.i64.wrap ((i : Int) + 1) = i + 1 := wrap_i64 (by omega) (by omega)
      cases h2 : p s[i]
      · simp [dFor_none, storeFine_none, dFor_no, storeFine_no, lessL, lkL, evCode_exit, evCode_seq, evCode_plain, evCode_draw, evCode_cond, evCode_ret, evCode_skip, evCode_block, evCode_loop, roundK_normal, roundK_exit, roundK_ret, seqK_normal, seqK_exit, seqK_ret, blockK_normal, blockK_exit, blockK_ret, regK_eq, evOps_nil, evOps_cons, params, astep, okDst, isWanted, aop, opnd, ofValue, putT, abin, headS, ofL, noPtr, acall, adopt_bool, adopt_int, adopt_str, adopt_agg, adopt_clip, AV.bare, upd_false, AV.cells, partOf, setCells, fillC, AV.isVal, List.range, List.range.loop, ofB, mayRead, dsts, planRo, capIds, viewed, scalarR, AV.scalar, finK, freezeT, avAll, resOf, outBoxes, relabB, relabL, relab1, noPtr, AV.untup, hC, h2, h1, hcap, hbare]
        rw [h2] at hd; simp at hd; omega
      · simp [dFor_none, storeFine_none, dFor_no, storeFine_no, lessL, lkL, evCode_exit, evCode_seq, evCode_plain, evCode_draw, evCode_cond, evCode_ret, evCode_skip, evCode_block, evCode_loop, roundK_normal, roundK_exit, roundK_ret, seqK_normal, seqK_exit, seqK_ret, blockK_normal, blockK_exit, blockK_ret, regK_eq, evOps_nil, evOps_cons, params, astep, okDst, isWanted, aop, opnd, ofValue, putT, abin, headS, ofL, noPtr, acall, adopt_bool, adopt_int, adopt_str, adopt_agg, adopt_clip, AV.bare, upd_false, AV.cells, partOf, setCells, fillC, AV.isVal, List.range, List.range.loop, ofB, mayRead, dsts, planRo, capIds, viewed, scalarR, AV.scalar, hC, h2, h1, hcap, hbare, w1]
        rw [h2] at hd; simp at hd
        refine ih (i + 1) _ _ (by omega) ⟨by omega, by omega, ?_⟩
        simp [clean, keepBoxes, relabB, relabL, relab1, cleanS, fixPtr, headS, ofL, ofB, cellsOfB, namesOf, rowName, upd_false, AV.cells, lvRun, lvL]
    · simp [dFor_none, storeFine_none, dFor_no, storeFine_no, lessL, lkL, evCode_exit, evCode_seq, evCode_plain, evCode_draw, evCode_cond, evCode_ret, evCode_skip, evCode_block, evCode_loop, roundK_normal, roundK_exit, roundK_ret, seqK_normal, seqK_exit, seqK_ret, blockK_normal, blockK_exit, blockK_ret, regK_eq, evOps_nil, evOps_cons, params, astep, okDst, isWanted, aop, opnd, ofValue, putT, abin, headS, ofL, noPtr, acall, adopt_bool, adopt_int, adopt_str, adopt_agg, adopt_clip, AV.bare, upd_false, AV.cells, partOf, setCells, fillC, AV.isVal, List.range, List.range.loop, ofB, mayRead, dsts, planRo, capIds, viewed, scalarR, AV.scalar, finK, freezeT, avAll, resOf, outBoxes, relabB, relabL, relab1, noPtr, AV.untup, h1]
      have : i = s.length := by omega
      subst this
      simp [run] at hr ⊢; omega
  · refine ⟨by omega, by simp, ?_⟩
    simp [clean, keepBoxes, relabB, relabL, relab1, cleanS, fixPtr, headS, ofL, ofB, cellsOfB, namesOf, rowName, upd_false, AV.cells, lvRun, lvL]
/-- The first of numbers that is not 0. -/
def firstOf : List Int → Int
  | [] => 0
  | a :: r => if a = 0 then firstOf r else a
theorem firstOf_drop (l : List Int) (i : Nat) (h : i < l.length) : firstOf (l.drop i) = if l[i] = 0 then firstOf (l.drop (i + 1)) else l[i] := by
  rw [List.drop_eq_getElem_cons h]; rfl
theorem or_ev (l : List Int) (hl : l.length < 2 ^ 62) (tok : Tok) (ht : tok = .clip ∨ tok = .none) : evc plan 33 [.sl 1 (l.map fun a => [.int .i64 a]) tok] [] = some (.int .i64 (firstOf l), []) := by
  refine evc_start plan (P := Tryz.prog) (ro := planRo) rfl rfl rfl rfl rfl rfl (by simp) rfl ?_
  simp [dFor_none, storeFine_none, dFor_no, storeFine_no, lessL, lkL, evCode_exit, evCode_seq, evCode_plain, evCode_draw, evCode_cond, evCode_ret, evCode_skip, evCode_block, evCode_loop, roundK_normal, roundK_exit, roundK_ret, seqK_normal, seqK_exit, seqK_ret, blockK_normal, blockK_exit, blockK_ret, regK_eq, evOps_nil, evOps_cons, params, astep, okDst, isWanted, aop, opnd, ofValue, putT, abin, headS, ofL, noPtr, acall, adopt_bool, adopt_int, adopt_str, adopt_agg, adopt_clip, AV.bare, upd_false, AV.cells, partOf, setCells, fillC, AV.isVal, List.range, List.range.loop, ofB, mayRead, dsts, planRo, capIds, viewed, scalarR, AV.scalar]
  refine loop_by (fun i => l.length - i) (fun (i : Nat) t m => i ≤ l.length ∧ firstOf l = firstOf (l.drop i) ∧ clean (lvOr 2) t m = headS [(3, .int .i64 0), (6, .sl 1 (l.map fun a => [.int .i64 a]) tok), (7, .int .i64 l.length), (8, .int .i64 i)] []) ?_ 0 ?_
  · intro i t m ⟨hi, hr, hS⟩ ih
    refine round_of hS ?_
    by_cases h1 : i < l.length
    · have hd := firstOf_drop l i h1
      have w1 : IntKind.i64.wrap ((i : Int) + 1) = i + 1 := wrap_i64 (by omega) (by omega)
      by_cases h2 : l[i] = 0
      · simp [dFor_none, storeFine_none, dFor_no, storeFine_no, lessL, lkL, evCode_exit, evCode_seq, evCode_plain, evCode_draw, evCode_cond, evCode_ret, evCode_skip, evCode_block, evCode_loop, roundK_normal, roundK_exit, roundK_ret, seqK_normal, seqK_exit, seqK_ret, blockK_normal, blockK_exit, blockK_ret, regK_eq, evOps_nil, evOps_cons, params, astep, okDst, isWanted, aop, opnd, ofValue, putT, abin, headS, ofL, noPtr, acall, adopt_bool, adopt_int, adopt_str, adopt_agg, adopt_clip, AV.bare, upd_false, AV.cells, partOf, setCells, fillC, AV.isVal, List.range, List.range.loop, ofB, mayRead, dsts, planRo, capIds, viewed, scalarR, AV.scalar, h2, h1, w1, partOf]
        rw [if_pos h2] at hd
        refine ih (i + 1) _ _ (by omega) ⟨by omega, by rw [hr, hd], ?_⟩
        rcases ht with rfl | rfl <;> simp [clean, keepBoxes, relabB, relabL, relab1, cleanS, fixPtr, headS, ofL, ofB, cellsOfB, namesOf, rowName, upd_false, AV.cells, lvOr, lvL]
      · have h3 : (l[i] != 0) = true := by simpa using h2
        simp [dFor_none, storeFine_none, dFor_no, storeFine_no, lessL, lkL, evCode_exit, evCode_seq, evCode_plain, evCode_draw, evCode_cond, evCode_ret, evCode_skip, evCode_block, evCode_loop, roundK_normal, roundK_exit, roundK_ret, seqK_normal, seqK_exit, seqK_ret, blockK_normal, blockK_exit, blockK_ret, regK_eq, evOps_nil, evOps_cons, params, astep, okDst, isWanted, aop, opnd, ofValue, putT, abin, headS, ofL, noPtr, acall, adopt_bool, adopt_int, adopt_str, adopt_agg, adopt_clip, AV.bare, upd_false, AV.cells, partOf, setCells, fillC, AV.isVal, List.range, List.range.loop, ofB, mayRead, dsts, planRo, capIds, viewed, scalarR, AV.scalar, finK, freezeT, avAll, resOf, outBoxes, relabB, relabL, relab1, noPtr, AV.untup, h3, h1, partOf]
        rw [if_neg h2] at hd
        rw [hr, hd]
    · simp [dFor_none, storeFine_none, dFor_no, storeFine_no, lessL, lkL, evCode_exit, evCode_seq, evCode_plain, evCode_draw, evCode_cond, evCode_ret, evCode_skip, evCode_block, evCode_loop, roundK_normal, roundK_exit, roundK_ret, seqK_normal, seqK_exit, seqK_ret, blockK_normal, blockK_exit, blockK_ret, regK_eq, evOps_nil, evOps_cons, params, astep, okDst, isWanted, aop, opnd, ofValue, putT, abin, headS, ofL, noPtr, acall, adopt_bool, adopt_int, adopt_str, adopt_agg, adopt_clip, AV.bare, upd_false, AV.cells, partOf, setCells, fillC, AV.isVal, List.range, List.range.loop, ofB, mayRead, dsts, planRo, capIds, viewed, scalarR, AV.scalar, finK, freezeT, avAll, resOf, outBoxes, relabB, relabL, relab1, noPtr, AV.untup, h1]
      have : i = l.length := by omega
      subst this
      simp [firstOf] at hr ⊢; omega
  · refine ⟨by omega, by simp, ?_⟩
    rcases ht with rfl | rfl <;> simp [clean, keepBoxes, relabB, relabL, relab1, cleanS, fixPtr, headS, ofL, ofB, cellsOfB, namesOf, rowName, upd_false, AV.cells, lvOr, lvL]
theorem or2_ev (a b : Int) : evc plan 33 [.sl 1 [[.int .i64 a], [.int .i64 b]] .clip] [] = some (.int .i64 (firstOf [a, b]), []) := by
  have := or_ev [a, b] (by simp) .clip (.inl rfl)
  simpa using this
end Go.Proofs.YtlmmgblghgmgeaaGreatDoor

/- Numbers and strings of the program's chapter 1, evaluated. -/
namespace Go.Proofs.YtlmmgblghgmgeaaGreatDoor
open Go Ev
set_option maxRecDepth 100000
set_option linter.unusedSimpArgs false

def hasPre (s p : Str) : Bool := decide (p.length ≤ s.length) && (s.take p.length == p)
theorem pre0_ev (s p : Str) : evc plan 92 [.str s, .str p] [] = some (.bool (hasPre s p), []) := by
  refine evc_start plan (P := Tryz.prog) (ro := planRo) rfl rfl rfl rfl rfl rfl (by simp) rfl ?_
  by_cases h : p.length ≤ s.length <;> simp [dFor_none, storeFine_none, dFor_no, storeFine_no, lessL, lkL, evCode_exit, evCode_seq, evCode_plain, evCode_draw, evCode_cond, evCode_ret, evCode_skip, evCode_block, evCode_loop, roundK_normal, roundK_exit, roundK_ret, seqK_normal, seqK_exit, seqK_ret, blockK_normal, blockK_exit, blockK_ret, regK_eq, evOps_nil, evOps_cons, params, astep, okDst, isWanted, aop, opnd, ofValue, putT, abin, headS, ofL, noPtr, acall, adopt_bool, adopt_int, adopt_str, adopt_agg, adopt_clip, AV.bare, upd_false, AV.cells, partOf, setCells, fillC, AV.isVal, List.range, List.range.loop, ofB, mayRead, dsts, planRo, capIds, viewed, scalarR, AV.scalar, finK, freezeT, avAll, resOf, outBoxes, relabB, relabL, relab1, noPtr, AV.untup, hasPre, h, aslice, abound]
theorem pre_ev (s p : Str) : evc plan 70 [.str s, .str p] [] = some (.bool (hasPre s p), []) := by
  refine evc_start plan (P := Tryz.prog) (ro := planRo) rfl rfl rfl rfl rfl rfl (by simp) rfl ?_
  simp [dFor_none, storeFine_none, dFor_no, storeFine_no, lessL, lkL, evCode_exit, evCode_seq, evCode_plain, evCode_draw, evCode_cond, evCode_ret, evCode_skip, evCode_block, evCode_loop, roundK_normal, roundK_exit, roundK_ret, seqK_normal, seqK_exit, seqK_ret, blockK_normal, blockK_exit, blockK_ret, regK_eq, evOps_nil, evOps_cons, params, astep, okDst, isWanted, aop, opnd, ofValue, putT, abin, headS, ofL, noPtr, acall, adopt_bool, adopt_int, adopt_str, adopt_agg, adopt_clip, AV.bare, upd_false, AV.cells, partOf, setCells, fillC, AV.isVal, List.range, List.range.loop, ofB, mayRead, dsts, planRo, capIds, viewed, scalarR, AV.scalar, finK, freezeT, avAll, resOf, outBoxes, relabB, relabL, relab1, noPtr, AV.untup, pre0_ev]

/-- Digits as a number that stops at 10001. -/
def numOf (s : Str) : Int := s.foldl (fun n b => min (10 * n + (b.toNat - 48)) 10001) 0
theorem numOf_take (s : Str) (i : Nat) (h : i < s.length) : numOf (s.take (i + 1)) = min (10 * numOf (s.take i) + (s[i].toNat - 48)) 10001 := by
  unfold numOf
  rw [List.take_succ_eq_append_getElem h, List.foldl_append]
  rfl
theorem numOf_range (s : Str) (h : ∀ b ∈ s, 48 ≤ b.toNat) : 0 ≤ numOf s ∧ numOf s ≤ 10001 := by
  unfold numOf
  have : ∀ (l : Str) (n : Int), (∀ b ∈ l, 48 ≤ b.toNat) → 0 ≤ n ∧ n ≤ 10001 → 0 ≤ l.foldl (fun n b => min (10 * n + ((b.toNat : Int) - 48)) 10001) n ∧ l.foldl (fun n b => min (10 * n + ((b.toNat : Int) - 48)) 10001) n ≤ 10001 := by
    intro l
    induction l with
    | nil => intro n _ h; exact h
    | cons b l ih =>
      intro n hb hn
      have := hb b (by simp)
      refine ih _ (fun x hx => hb x (by simp [hx])) ?_
      show 0 ≤ min _ _ ∧ min _ _ ≤ _
      omega
  exact this s 0 h (by omega)
def piece (k n e : Int) : AV := .agg [.int .i64 k, .int .i64 n, .int .i64 e]
def numErr (s : Str) : Int := firstOf [if decide ((1 : Int) < s.length) && (((s.getD 0 0).toNat : Int) == 48) then 8 else 0, if numOf s > 10000 then 3 else 0]
theorem number_ev (s : Str) (hl : s.length < 2 ^ 62) (hd : ∀ b ∈ s, 48 ≤ b.toNat) : evc plan 126 [.str s] [] = some (piece 2 s.length (numErr s), []) := by
  refine evc_start plan (P := Tryz.prog) (ro := planRo) rfl rfl rfl rfl rfl rfl (by simp) rfl ?_
  simp [dFor_none, storeFine_none, dFor_no, storeFine_no, lessL, lkL, evCode_exit, evCode_seq, evCode_plain, evCode_draw, evCode_cond, evCode_ret, evCode_skip, evCode_block, evCode_loop, roundK_normal, roundK_exit, roundK_ret, seqK_normal, seqK_exit, seqK_ret, blockK_normal, blockK_exit, blockK_ret, regK_eq, evOps_nil, evOps_cons, params, astep, okDst, isWanted, aop, opnd, ofValue, putT, abin, headS, ofL, noPtr, acall, adopt_bool, adopt_int, adopt_str, adopt_agg, adopt_clip, AV.bare, upd_false, AV.cells, partOf, setCells, fillC, AV.isVal, List.range, List.range.loop, ofB, mayRead, dsts, planRo, capIds, viewed, scalarR, AV.scalar]
  refine loop_by (fun i => s.length - i) (fun (i : Nat) t m => i ≤ s.length ∧ clean (lvNumber 2) t m = headS [(0, .str s), (2, .ptr 500002 0), (3, .int .i64 (numOf (s.take i))), (6, .int .i64 s.length), (7, .int .i64 i)] [(500002, [.int .i64 0, .int .i64 0, .int .i64 0])]) ?_ 0 ?_
  · intro i t m ⟨hi, hS⟩ ih
    refine round_of hS ?_
    by_cases h1 : i < s.length
    · have hn := numOf_range (s.take i) (fun b hb => hd b (List.mem_of_mem_take hb))
      have hb := hd s[i] (List.getElem_mem h1)
      have hb2 := byte_lt s[i]
      have w1 : IntKind.i64.wrap ((i : Int) + 1) = i + 1 := wrap_i64 (by omega) (by omega)
      have w2 : IntKind.u8.wrap ((s[i].toNat : Int) - 48) = s[i].toNat - 48 := wrap_u8 (by omega) (by omega)
      have w3 : IntKind.i64.wrap ((s[i].toNat : Int) - 48) = s[i].toNat - 48 := wrap_i64 (by omega) (by omega)
      have w4 : IntKind.i64.wrap (10 * numOf (s.take i)) = 10 * numOf (s.take i) := wrap_i64 (by omega) (by omega)
      have w5 : IntKind.i64.wrap (10 * numOf (s.take i) + ((s[i].toNat : Int) - 48)) = 10 * numOf (s.take i) + (s[i].toNat - 48) := wrap_i64 (by omega) (by omega)
      simp [dFor_none, storeFine_none, dFor_no, storeFine_no, lessL, lkL, evCode_exit, evCode_seq, evCode_plain, evCode_draw, evCode_cond, evCode_ret, evCode_skip, evCode_block, evCode_loop, roundK_normal, roundK_exit, roundK_ret, seqK_normal, seqK_exit, seqK_ret, blockK_normal, blockK_exit, blockK_ret, regK_eq, evOps_nil, evOps_cons, params, astep, okDst, isWanted, aop, opnd, ofValue, putT, abin, headS, ofL, noPtr, acall, adopt_bool, adopt_int, adopt_str, adopt_agg, adopt_clip, AV.bare, upd_false, AV.cells, partOf, setCells, fillC, AV.isVal, List.range, List.range.loop, ofB, mayRead, dsts, planRo, capIds, viewed, scalarR, AV.scalar, h1, w1, w2, w3, w4, w5, aminmax]
      refine ih (i + 1) _ _ (by omega) ⟨by omega, ?_⟩
      have hm : numOf (s.take (i + 1)) = if 10001 < 10 * numOf (s.take i) + ((s[i].toNat : Int) - 48) then 10001 else 10 * numOf (s.take i) + (s[i].toNat - 48) := by
        rw [numOf_take s i h1]; split <;> omega
      simp [clean, keepBoxes, relabB, relabL, relab1, cleanS, fixPtr, headS, ofL, ofB, cellsOfB, namesOf, rowName, upd_false, AV.cells, lvNumber, lvL, hm]
    · have : i = s.length := by omega
      subst this
      clear ih hS
      have hg : ∀ h : 0 < s.length, s.getD 0 0 = s[0] := fun h => by simp [List.getD_eq_getElem?_getD, h]
      by_cases h2 : (1 : Int) < s.length
      · have h0 : 0 < s.length := by omega
        have h5 : 1 < s.length := by omega
        have hg := hg h0
        cases h3 : ((s[0].toNat : Int) == 48) <;> by_cases h4 : 10000 < numOf s <;> simp [dFor_none, storeFine_none, dFor_no, storeFine_no, lessL, lkL, evCode_exit, evCode_seq, evCode_plain, evCode_draw, evCode_cond, evCode_ret, evCode_skip, evCode_block, evCode_loop, roundK_normal, roundK_exit, roundK_ret, seqK_normal, seqK_exit, seqK_ret, blockK_normal, blockK_exit, blockK_ret, regK_eq, evOps_nil, evOps_cons, params, astep, okDst, isWanted, aop, opnd, ofValue, putT, abin, headS, ofL, noPtr, acall, adopt_bool, adopt_int, adopt_str, adopt_agg, adopt_clip, AV.bare, upd_false, AV.cells, partOf, setCells, fillC, AV.isVal, List.range, List.range.loop, ofB, mayRead, dsts, planRo, capIds, viewed, scalarR, AV.scalar, finK, freezeT, avAll, resOf, outBoxes, relabB, relabL, relab1, noPtr, AV.untup, wrong_ev, or2_ev, h2, h5, h0, h3, h4, piece, numErr]
      · have h5 : ¬ 1 < s.length := by omega
        by_cases h4 : 10000 < numOf s <;> simp [dFor_none, storeFine_none, dFor_no, storeFine_no, lessL, lkL, evCode_exit, evCode_seq, evCode_plain, evCode_draw, evCode_cond, evCode_ret, evCode_skip, evCode_block, evCode_loop, roundK_normal, roundK_exit, roundK_ret, seqK_normal, seqK_exit, seqK_ret, blockK_normal, blockK_exit, blockK_ret, regK_eq, evOps_nil, evOps_cons, params, astep, okDst, isWanted, aop, opnd, ofValue, putT, abin, headS, ofL, noPtr, acall, adopt_bool, adopt_int, adopt_str, adopt_agg, adopt_clip, AV.bare, upd_false, AV.cells, partOf, setCells, fillC, AV.isVal, List.range, List.range.loop, ofB, mayRead, dsts, planRo, capIds, viewed, scalarR, AV.scalar, finK, freezeT, avAll, resOf, outBoxes, relabB, relabL, relab1, noPtr, AV.untup, wrong_ev, or2_ev, h2, h5, h4, piece, numErr]
  · refine ⟨by omega, ?_⟩
    simp [clean, keepBoxes, relabB, relabL, relab1, cleanS, fixPtr, headS, ofL, ofB, cellsOfB, namesOf, rowName, upd_false, AV.cells, lvNumber, lvL, numOf]

/-- A string with its quotation marks; behind the first one. -/
def textPiece (s : Str) : AV :=
  if Lib.indexByte s 34 < 0 then piece 0 0 15
  else piece 3 (Lib.indexByte s 34 + 2) (firstOf [if decide (0 ≤ Lib.indexByte (s.take (Lib.indexByte s 34).toNat) 92) then 8 else 0, if decide (40 < Lib.indexByte s 34) then 2 else 0])
theorem indexByte_lt (s : Str) (b : UInt8) : -1 ≤ Lib.indexByte s b ∧ Lib.indexByte s b ≤ s.length := by
  induction s with
  | nil => simp [Lib.indexByte]
  | cons x s ih =>
    simp only [Lib.indexByte, List.length_cons]
    split <;> (try split) <;> omega
theorem text_ev (c : UInt8) (s : Str) (hl : s.length < 2 ^ 61) : evc plan 127 [.str (c :: s)] [] = some (textPiece s, []) := by
  refine evc_start plan (P := Tryz.prog) (ro := planRo) rfl rfl rfl rfl rfl rfl (by simp) rfl ?_
  have hi : ∀ t : Str, evc plan 145 [.str t, .int .u8 34] [] = some (.int .i64 (Lib.indexByte t 34), []) := fun t => evc_ext plan rfl rfl
  have hc : ∀ t : Str, evc plan 146 [.str t, .str [92]] [] = some (.bool (decide (0 ≤ Lib.indexByte t 92)), []) := fun t => evc_ext plan rfl rfl
  have hb := indexByte_lt s 34
  generalize hn : Lib.indexByte s 34 = n at hb
  by_cases h : n < 0
  · simp [dFor_none, storeFine_none, dFor_no, storeFine_no, lessL, lkL, evCode_exit, evCode_seq, evCode_plain, evCode_draw, evCode_cond, evCode_ret, evCode_skip, evCode_block, evCode_loop, roundK_normal, roundK_exit, roundK_ret, seqK_normal, seqK_exit, seqK_ret, blockK_normal, blockK_exit, blockK_ret, regK_eq, evOps_nil, evOps_cons, params, astep, okDst, isWanted, aop, opnd, ofValue, putT, abin, headS, ofL, noPtr, acall, adopt_bool, adopt_int, adopt_str, adopt_agg, adopt_clip, AV.bare, upd_false, AV.cells, partOf, setCells, fillC, AV.isVal, List.range, List.range.loop, ofB, mayRead, dsts, planRo, capIds, viewed, scalarR, AV.scalar, finK, freezeT, avAll, resOf, outBoxes, relabB, relabL, relab1, noPtr, AV.untup, hi, hn, h, aslice, abound, textPiece, piece]
  · have w1 : IntKind.i64.wrap (1 + n) = 1 + n := wrap_i64 (by omega) (by omega)
    have w2 : IntKind.i64.wrap (n + 2) = n + 2 := wrap_i64 (by omega) (by omega)
    have h3 : 0 ≤ 1 + n := by omega
    have h4 : 1 ≤ (1 + n).toNat := by omega
    have h5 : (1 + n).toNat ≤ s.length + 1 := by omega
    have h6 : ((c :: s).take (1 + n).toNat).tail = s.take n.toNat := by rw [show (1 + n).toNat = n.toNat + 1 by omega]; rfl
    cases h7 : decide (0 ≤ Lib.indexByte (s.take n.toNat) 92) <;> by_cases h8 : 40 < n <;> simp [dFor_none, storeFine_none, dFor_no, storeFine_no, lessL, lkL, evCode_exit, evCode_seq, evCode_plain, evCode_draw, evCode_cond, evCode_ret, evCode_skip, evCode_block, evCode_loop, roundK_normal, roundK_exit, roundK_ret, seqK_normal, seqK_exit, seqK_ret, blockK_normal, blockK_exit, blockK_ret, regK_eq, evOps_nil, evOps_cons, params, astep, okDst, isWanted, aop, opnd, ofValue, putT, abin, headS, ofL, noPtr, acall, adopt_bool, adopt_int, adopt_str, adopt_agg, adopt_clip, AV.bare, upd_false, AV.cells, partOf, setCells, fillC, AV.isVal, List.range, List.range.loop, ofB, mayRead, dsts, planRo, capIds, viewed, scalarR, AV.scalar, finK, freezeT, avAll, resOf, outBoxes, relabB, relabL, relab1, noPtr, AV.untup, hi, hc, hn, h, aslice, abound, textPiece, piece, w1, w2, h3, h4, h5, h6, h7, h8, wrong_ev, or2_ev]
end Go.Proofs.YtlmmgblghgmgeaaGreatDoor

/- Symbols, rules and reserved words of the program's chapter 1, evaluated. -/
namespace Go.Proofs.YtlmmgblghgmgeaaGreatDoor
open Go Ev
set_option maxRecDepth 100000
set_option linter.unusedSimpArgs false

/-- The symbols that are no other spelling, by their bytes. -/
def plainL : List Str := [[40], [41], [91], [93], [123], [125], [60, 60], [62, 62], [44], [58], [46], [59], [33], [64], [95], [39], [61, 61], [60, 45], [45, 62], [124, 45, 62], [58, 61], [93, 95], [62, 62, 95], [124, 124], [60, 58], [126], [91, 93], [60, 62], [45, 46], [61, 62], [60, 61, 62], [126, 62], [47, 92], [92, 47], [61], [35], [60], [60, 61], [62], [62, 61], [92, 105, 110], [92, 110, 111, 116, 105, 110], [92, 115, 117, 98, 115, 101, 116, 101, 113], [92, 99, 117, 112], [92, 99, 97, 112], [92], [46, 46], [43], [45], [42], [37], [94], [92, 99, 100, 111, 116], [92, 100, 105, 118], [92, 111], [92, 88], [92, 65], [92, 69], [87, 70, 95], [83, 70, 95], [40, 43, 41], [40, 45, 41], [92, 115, 113, 115, 117, 98, 115, 101, 116, 101, 113], [58, 62], [64, 64]]
/-- The other spellings, each with the canonical one. -/
def othersL : List (Str × Str) := [([92, 108, 97, 110, 100], [47, 92]), ([92, 108, 111, 114], [92, 47]), ([92, 108, 110, 111, 116], [126]), ([92, 110, 101, 103], [126]), ([92, 101, 113, 117, 105, 118], [60, 61, 62]), ([47, 61], [35]), ([61, 60], [60, 61]), ([92, 108, 101, 113], [60, 61]), ([92, 103, 101, 113], [62, 61]), ([92, 117, 110, 105, 111, 110], [92, 99, 117, 112]), ([92, 105, 110, 116, 101, 114, 115, 101, 99, 116], [92, 99, 97, 112])]
def strs (l : List Str) : List (List AV) := l.map fun s => [.str s]
def pairs (l : List (Str × Str)) : List (List AV) := l.map fun s => [.str s.1, .str s.2]
set_option maxHeartbeats 1000000 in
theorem plain_ev : evc plan 57 [] [] = some (.sl 1 (strs plainL) .clip, []) := by
  refine evc_start plan (P := Tryz.prog) (ro := planRo) rfl rfl rfl rfl rfl rfl (by simp) rfl ?_
  simp [dFor_none, storeFine_none, dFor_no, storeFine_no, lessL, lkL, evCode_exit, evCode_seq, evCode_plain, evCode_draw, evCode_cond, evCode_ret, evCode_skip, evCode_block, evCode_loop, roundK_normal, roundK_exit, roundK_ret, seqK_normal, seqK_exit, seqK_ret, blockK_normal, blockK_exit, blockK_ret, regK_eq, evOps_nil, evOps_cons, params, astep, okDst, isWanted, aop, opnd, ofValue, putT, abin, headS, ofL, noPtr, acall, adopt_bool, adopt_int, adopt_str, adopt_agg, adopt_clip, AV.bare, upd_false, AV.cells, partOf, setCells, fillC, AV.isVal, List.range, List.range.loop, ofB, mayRead, dsts, planRo, capIds, viewed, scalarR, AV.scalar, finK, freezeT, avAll, resOf, outBoxes, relabB, relabL, relab1, noPtr, AV.untup, strs, plainL]
set_option maxHeartbeats 1000000 in
theorem others_ev : evc plan 59 [] [] = some (.sl 2 (pairs othersL) .clip, []) := by
  refine evc_start plan (P := Tryz.prog) (ro := planRo) rfl rfl rfl rfl rfl rfl (by simp) rfl ?_
  simp [dFor_none, storeFine_none, dFor_no, storeFine_no, lessL, lkL, evCode_exit, evCode_seq, evCode_plain, evCode_draw, evCode_cond, evCode_ret, evCode_skip, evCode_block, evCode_loop, roundK_normal, roundK_exit, roundK_ret, seqK_normal, seqK_exit, seqK_ret, blockK_normal, blockK_exit, blockK_ret, regK_eq, evOps_nil, evOps_cons, params, astep, okDst, isWanted, aop, opnd, ofValue, putT, abin, headS, ofL, noPtr, acall, adopt_bool, adopt_int, adopt_str, adopt_agg, adopt_clip, AV.bare, upd_false, AV.cells, partOf, setCells, fillC, AV.isVal, List.range, List.range.loop, ofB, mayRead, dsts, planRo, capIds, viewed, scalarR, AV.scalar, finK, freezeT, avAll, resOf, outBoxes, relabB, relabL, relab1, noPtr, AV.untup, pairs, othersL]
def isRuleB (s : Str) : Bool := decide (4 ≤ s.length) && (Lib.trimB s 45 == [] || Lib.trimB s 61 == [])
theorem rule_ev (s : Str) (hl : s.length < 2 ^ 61) : evc plan 55 [.str s] [] = some (.bool (isRuleB s), []) := by
  refine evc_start plan (P := Tryz.prog) (ro := planRo) rfl rfl rfl rfl rfl rfl (by simp) rfl ?_
  have h1 : evc plan 77 [.str s, .str [45]] [] = some (.str (Lib.trimB s 45), []) := evc_ext plan rfl (by
    simp only [plan, planExt]; rw [if_pos (by constructor; decide; omega)])
  have h2 : evc plan 77 [.str s, .str [61]] [] = some (.str (Lib.trimB s 61), []) := evc_ext plan rfl (by
    simp only [plan, planExt]; rw [if_pos (by constructor; decide; omega)])
  by_cases h : (4 : Int) ≤ s.length
  · have h' : 4 ≤ s.length := by omega
    cases h3 : (Lib.trimB s 45 == []) <;> simp [dFor_none, storeFine_none, dFor_no, storeFine_no, lessL, lkL, evCode_exit, evCode_seq, evCode_plain, evCode_draw, evCode_cond, evCode_ret, evCode_skip, evCode_block, evCode_loop, roundK_normal, roundK_exit, roundK_ret, seqK_normal, seqK_exit, seqK_ret, blockK_normal, blockK_exit, blockK_ret, regK_eq, evOps_nil, evOps_cons, params, astep, okDst, isWanted, aop, opnd, ofValue, putT, abin, headS, ofL, noPtr, acall, adopt_bool, adopt_int, adopt_str, adopt_agg, adopt_clip, AV.bare, upd_false, AV.cells, partOf, setCells, fillC, AV.isVal, List.range, List.range.loop, ofB, mayRead, dsts, planRo, capIds, viewed, scalarR, AV.scalar, finK, freezeT, avAll, resOf, outBoxes, relabB, relabL, relab1, noPtr, AV.untup, h, h1, h2, h3, isRuleB, h']
  · have h' : ¬ 4 ≤ s.length := by omega
    simp [dFor_none, storeFine_none, dFor_no, storeFine_no, lessL, lkL, evCode_exit, evCode_seq, evCode_plain, evCode_draw, evCode_cond, evCode_ret, evCode_skip, evCode_block, evCode_loop, roundK_normal, roundK_exit, roundK_ret, seqK_normal, seqK_exit, seqK_ret, blockK_normal, blockK_exit, blockK_ret, regK_eq, evOps_nil, evOps_cons, params, astep, okDst, isWanted, aop, opnd, ofValue, putT, abin, headS, ofL, noPtr, acall, adopt_bool, adopt_int, adopt_str, adopt_agg, adopt_clip, AV.bare, upd_false, AV.cells, partOf, setCells, fillC, AV.isVal, List.range, List.range.loop, ofB, mayRead, dsts, planRo, capIds, viewed, scalarR, AV.scalar, finK, freezeT, avAll, resOf, outBoxes, relabB, relabL, relab1, noPtr, AV.untup, h, isRuleB, h']
def reservedText : Str := [65, 83, 83, 85, 77, 69, 32, 65, 83, 83, 85, 77, 80, 84, 73, 79, 78, 32, 65, 88, 73, 79, 77, 32, 66, 89, 32, 67, 65, 83, 69, 32, 67, 72, 79, 79, 83, 69, 32, 67, 79, 78, 83, 84, 65, 78, 84, 32, 67, 79, 78, 83, 84, 65, 78, 84, 83, 32, 68, 69, 70, 32, 68, 69, 70, 73, 78, 69, 32, 68, 69, 70, 83, 32, 68, 79, 77, 65, 73, 78, 32, 69, 76, 83, 69, 32, 69, 78, 65, 66, 76, 69, 68, 32, 69, 88, 67, 69, 80, 84, 32, 69, 88, 84, 69, 78, 68, 83, 32, 70, 65, 76, 83, 69, 32, 72, 65, 86, 69, 32, 72, 73, 68, 69, 32, 73, 70, 32, 73, 78, 32, 73, 78, 83, 84, 65, 78, 67, 69, 32, 76, 65, 77, 66, 68, 65, 32, 76, 69, 77, 77, 65, 32, 76, 69, 84, 32, 76, 79, 67, 65, 76, 32, 77, 79, 68, 85, 76, 69, 32, 78, 69, 87, 32, 79, 66, 86, 73, 79, 85, 83, 32, 79, 77, 73, 84, 84, 69, 68, 32, 79, 84, 72, 69, 82, 32, 80, 73, 67, 75, 32, 80, 82, 79, 79, 70, 32, 80, 82, 79, 80, 79, 83, 73, 84, 73, 79, 78, 32, 80, 82, 79, 86, 69, 32, 81, 69, 68, 32, 82, 69, 67, 85, 82, 83, 73, 86, 69, 32, 83, 85, 66, 83, 69, 84, 32, 83, 85, 70, 70, 73, 67, 69, 83, 32, 84, 65, 75, 69, 32, 84, 72, 69, 78, 32, 84, 72, 69, 79, 82, 69, 77, 32, 84, 82, 85, 69, 32, 85, 78, 67, 72, 65, 78, 71, 69, 68, 32, 85, 78, 73, 79, 78, 32, 85, 83, 69, 32, 86, 65, 82, 73, 65, 66, 76, 69, 32, 86, 65, 82, 73, 65, 66, 76, 69, 83, 32, 87, 73, 84, 72, 32, 87, 73, 84, 78, 69, 83, 83]
def reservedL : List Str := [[65, 83, 83, 85, 77, 69], [65, 83, 83, 85, 77, 80, 84, 73, 79, 78], [65, 88, 73, 79, 77], [66, 89], [67, 65, 83, 69], [67, 72, 79, 79, 83, 69], [67, 79, 78, 83, 84, 65, 78, 84], [67, 79, 78, 83, 84, 65, 78, 84, 83], [68, 69, 70], [68, 69, 70, 73, 78, 69], [68, 69, 70, 83], [68, 79, 77, 65, 73, 78], [69, 76, 83, 69], [69, 78, 65, 66, 76, 69, 68], [69, 88, 67, 69, 80, 84], [69, 88, 84, 69, 78, 68, 83], [70, 65, 76, 83, 69], [72, 65, 86, 69], [72, 73, 68, 69], [73, 70], [73, 78], [73, 78, 83, 84, 65, 78, 67, 69], [76, 65, 77, 66, 68, 65], [76, 69, 77, 77, 65], [76, 69, 84], [76, 79, 67, 65, 76], [77, 79, 68, 85, 76, 69], [78, 69, 87], [79, 66, 86, 73, 79, 85, 83], [79, 77, 73, 84, 84, 69, 68], [79, 84, 72, 69, 82], [80, 73, 67, 75], [80, 82, 79, 79, 70], [80, 82, 79, 80, 79, 83, 73, 84, 73, 79, 78], [80, 82, 79, 86, 69], [81, 69, 68], [82, 69, 67, 85, 82, 83, 73, 86, 69], [83, 85, 66, 83, 69, 84], [83, 85, 70, 70, 73, 67, 69, 83], [84, 65, 75, 69], [84, 72, 69, 78], [84, 72, 69, 79, 82, 69, 77], [84, 82, 85, 69], [85, 78, 67, 72, 65, 78, 71, 69, 68], [85, 78, 73, 79, 78], [85, 83, 69], [86, 65, 82, 73, 65, 66, 76, 69], [86, 65, 82, 73, 65, 66, 76, 69, 83], [87, 73, 84, 72], [87, 73, 84, 78, 69, 83, 83]]
theorem fields_reserved : Lib.fields reservedText = reservedL := by decide +kernel
set_option maxHeartbeats 1000000 in
theorem reserved_ev : evc plan 124 [] [] = some (.sl 1 (strs reservedL) .clip, []) := by
  refine evc_start plan (P := Tryz.prog) (ro := planRo) rfl rfl rfl rfl rfl rfl (by simp) rfl ?_
  have h1 : evc plan 144 [.str reservedText] [] = some (.sl 1 (strs reservedL) .clip, []) := evc_ext plan rfl (by
    simp only [plan, planExt]; rw [if_pos (by decide +kernel), fields_reserved]; rfl)
  unfold reservedText at h1
  simp [dFor_none, storeFine_none, dFor_no, storeFine_no, lessL, lkL, evCode_exit, evCode_seq, evCode_plain, evCode_draw, evCode_cond, evCode_ret, evCode_skip, evCode_block, evCode_loop, roundK_normal, roundK_exit, roundK_ret, seqK_normal, seqK_exit, seqK_ret, blockK_normal, blockK_exit, blockK_ret, regK_eq, evOps_nil, evOps_cons, params, astep, okDst, isWanted, aop, opnd, ofValue, putT, abin, headS, ofL, noPtr, acall, adopt_bool, adopt_int, adopt_str, adopt_agg, adopt_clip, AV.bare, upd_false, AV.cells, partOf, setCells, fillC, AV.isVal, List.range, List.range.loop, ofB, mayRead, dsts, planRo, capIds, viewed, scalarR, AV.scalar, finK, freezeT, avAll, resOf, outBoxes, relabB, relabL, relab1, noPtr, AV.untup, h1, adopt, resParts, relabL, relab1, noPtr, freshAll, rowName, resBack]
theorem strs_get (l : List Str) (i : Nat) (h : i < l.length) : (strs l)[i]? = some [.str l[i]] := by simp [strs, h]
/-- Where a text is in a list, or -1. -/
def idxIn (x : Str) : List Str → Int → Int
  | [], _ => -1
  | y :: r, n => if x == y then n else idxIn x r (n + 1)
theorem idxIn_drop (x : Str) (l : List Str) (i : Nat) (h : i < l.length) : idxIn x (l.drop i) i = if x == l[i] then (i : Int) else idxIn x (l.drop (i + 1)) (i + 1) := by
  rw [List.drop_eq_getElem_cons h]; rfl
theorem index_ev (l : List Str) (x : Str) (tok : Tok) (ht : tok = .clip ∨ tok = .none) (hl : l.length < 2 ^ 62) : evc plan 78 [.sl 1 (strs l) tok, .str x] [] = some (.int .i64 (idxIn x l 0), []) := by
  refine evc_start plan (P := Tryz.prog) (ro := planRo) rfl rfl rfl rfl rfl rfl (by simp) rfl ?_
  simp [dFor_none, storeFine_none, dFor_no, storeFine_no, lessL, lkL, evCode_exit, evCode_seq, evCode_plain, evCode_draw, evCode_cond, evCode_ret, evCode_skip, evCode_block, evCode_loop, roundK_normal, roundK_exit, roundK_ret, seqK_normal, seqK_exit, seqK_ret, blockK_normal, blockK_exit, blockK_ret, regK_eq, evOps_nil, evOps_cons, params, astep, okDst, isWanted, aop, opnd, ofValue, putT, abin, headS, ofL, noPtr, acall, adopt_bool, adopt_int, adopt_str, adopt_agg, adopt_clip, AV.bare, upd_false, AV.cells, partOf, setCells, fillC, AV.isVal, List.range, List.range.loop, ofB, mayRead, dsts, planRo, capIds, viewed, scalarR, AV.scalar, strs]
  refine loop_by (fun i => l.length - i) (fun (i : Nat) t m => i ≤ l.length ∧ idxIn x l 0 = idxIn x (l.drop i) i ∧ clean (lvIndex 2) t m = headS [(0, .sl 1 (l.map fun s => [.str s]) tok), (1, .str x), (7, .int .i64 l.length), (8, .int .i64 i)] []) ?_ 0 ?_
  · intro i t m ⟨hi, hr, hS⟩ ih
    refine round_of hS ?_
    by_cases h1 : i < l.length
    · have hd := idxIn_drop x l i h1
      have w1 : IntKind.i64.wrap ((i : Int) + 1) = i + 1 := wrap_i64 (by omega) (by omega)
      cases h2 : x == l[i]
      · simp [dFor_none, storeFine_none, dFor_no, storeFine_no, lessL, lkL, evCode_exit, evCode_seq, evCode_plain, evCode_draw, evCode_cond, evCode_ret, evCode_skip, evCode_block, evCode_loop, roundK_normal, roundK_exit, roundK_ret, seqK_normal, seqK_exit, seqK_ret, blockK_normal, blockK_exit, blockK_ret, regK_eq, evOps_nil, evOps_cons, params, astep, okDst, isWanted, aop, opnd, ofValue, putT, abin, headS, ofL, noPtr, acall, adopt_bool, adopt_int, adopt_str, adopt_agg, adopt_clip, AV.bare, upd_false, AV.cells, partOf, setCells, fillC, AV.isVal, List.range, List.range.loop, ofB, mayRead, dsts, planRo, capIds, viewed, scalarR, AV.scalar, h2, h1, w1, strs]
        rw [h2] at hd
        refine ih (i + 1) _ _ (by omega) ⟨by omega, by rw [hr, hd]; simp, ?_⟩
        rcases ht with rfl | rfl <;> simp [clean, keepBoxes, relabB, relabL, relab1, cleanS, fixPtr, headS, ofL, ofB, cellsOfB, namesOf, rowName, upd_false, AV.cells, lvIndex, lvL, strs]
      · simp [dFor_none, storeFine_none, dFor_no, storeFine_no, lessL, lkL, evCode_exit, evCode_seq, evCode_plain, evCode_draw, evCode_cond, evCode_ret, evCode_skip, evCode_block, evCode_loop, roundK_normal, roundK_exit, roundK_ret, seqK_normal, seqK_exit, seqK_ret, blockK_normal, blockK_exit, blockK_ret, regK_eq, evOps_nil, evOps_cons, params, astep, okDst, isWanted, aop, opnd, ofValue, putT, abin, headS, ofL, noPtr, acall, adopt_bool, adopt_int, adopt_str, adopt_agg, adopt_clip, AV.bare, upd_false, AV.cells, partOf, setCells, fillC, AV.isVal, List.range, List.range.loop, ofB, mayRead, dsts, planRo, capIds, viewed, scalarR, AV.scalar, finK, freezeT, avAll, resOf, outBoxes, relabB, relabL, relab1, noPtr, AV.untup, h2, h1, strs]
        rw [h2] at hd
        rw [hr, hd]; rfl
    · simp [dFor_none, storeFine_none, dFor_no, storeFine_no, lessL, lkL, evCode_exit, evCode_seq, evCode_plain, evCode_draw, evCode_cond, evCode_ret, evCode_skip, evCode_block, evCode_loop, roundK_normal, roundK_exit, roundK_ret, seqK_normal, seqK_exit, seqK_ret, blockK_normal, blockK_exit, blockK_ret, regK_eq, evOps_nil, evOps_cons, params, astep, okDst, isWanted, aop, opnd, ofValue, putT, abin, headS, ofL, noPtr, acall, adopt_bool, adopt_int, adopt_str, adopt_agg, adopt_clip, AV.bare, upd_false, AV.cells, partOf, setCells, fillC, AV.isVal, List.range, List.range.loop, ofB, mayRead, dsts, planRo, capIds, viewed, scalarR, AV.scalar, finK, freezeT, avAll, resOf, outBoxes, relabB, relabL, relab1, noPtr, AV.untup, h1, strs]
      have : i = l.length := by omega
      subst this
      simp [idxIn] at hr ⊢; omega
  · refine ⟨by omega, by simp, ?_⟩
    rcases ht with rfl | rfl <;> simp [clean, keepBoxes, relabB, relabL, relab1, cleanS, fixPtr, headS, ofL, ofB, cellsOfB, namesOf, rowName, upd_false, AV.cells, lvIndex, lvL, strs]
theorem contains_ev (l : List Str) (x : Str) (tok : Tok) (ht : tok = .clip ∨ tok = .none) (hl : l.length < 2 ^ 62) : evc plan 56 [.sl 1 (strs l) tok, .str x] [] = some (.bool (decide (0 ≤ idxIn x l 0)), []) := by
  refine evc_start plan (P := Tryz.prog) (ro := planRo) rfl rfl rfl rfl rfl rfl (by simp) rfl ?_
  have h1 := index_ev l x tok ht hl
  rcases ht with rfl | rfl <;> simp [dFor_none, storeFine_none, dFor_no, storeFine_no, lessL, lkL, evCode_exit, evCode_seq, evCode_plain, evCode_draw, evCode_cond, evCode_ret, evCode_skip, evCode_block, evCode_loop, roundK_normal, roundK_exit, roundK_ret, seqK_normal, seqK_exit, seqK_ret, blockK_normal, blockK_exit, blockK_ret, regK_eq, evOps_nil, evOps_cons, params, astep, okDst, isWanted, aop, opnd, ofValue, putT, abin, headS, ofL, noPtr, acall, adopt_bool, adopt_int, adopt_str, adopt_agg, adopt_clip, AV.bare, upd_false, AV.cells, partOf, setCells, fillC, AV.isVal, List.range, List.range.loop, ofB, mayRead, dsts, planRo, capIds, viewed, scalarR, AV.scalar, finK, freezeT, avAll, resOf, outBoxes, relabB, relabL, relab1, noPtr, AV.untup, h1]
end Go.Proofs.YtlmmgblghgmgeaaGreatDoor

/- The longest symbol; what a text begins with. -/
namespace Go.Proofs.YtlmmgblghgmgeaaGreatDoor
open Go Ev
set_option maxRecDepth 100000
set_option linter.unusedSimpArgs false

def maxI (a b : Int) : Int := if b > a then b else a
/-- The longest of some texts with which another one begins. -/
def longest (s : Str) (n : Int) (l : List Str) : Int := l.foldl (fun n x => if hasPre s x then maxI n x.length else n) n
theorem longest_take (s : Str) (n : Int) (l : List Str) (i : Nat) (h : i < l.length) : longest s n (l.take (i + 1)) = if hasPre s l[i] then maxI (longest s n (l.take i)) l[i].length else longest s n (l.take i) := by
  unfold longest
  rw [List.take_succ_eq_append_getElem h, List.foldl_append]
  rfl
def symPiece (c : UInt8) (s : Str) : AV :=
  let n := longest (c :: s) (longest (c :: s) 0 plainL) (othersL.map (·.1))
  let k : Int := run (fun b => letterB b.toNat) s
  if ((c.toNat : Int) == 92) && decide (k > 0) then piece 4 (k + 1) (if (n != k + 1) then 8 else 0) else piece 4 n (if (n == 0) then 8 else 0)
theorem symbol_ev (c : UInt8) (s : Str) (hl : s.length < 2 ^ 61) : evc plan 128 [.str (c :: s)] [] = some (symPiece c s, []) := by
  refine evc_start plan (P := Tryz.prog) (ro := planRo) rfl rfl rfl rfl rfl rfl (by simp) rfl ?_
  have hp := plain_ev
  have ho := others_ev
  have had : ∀ (d : Nat) (m : Mem) (z : Nat) (els : List (List AV)), adopt d [] m (.sl z els .clip) = some (.sl z els .clip, m) := fun d m z els => by
    simp [adopt, resParts, relabL, relab1, noPtr, freshAll, rowName, resBack, addNames_plain (v := .sl z els .clip) rfl]
  simp [dFor_none, storeFine_none, dFor_no, storeFine_no, lessL, lkL, evCode_exit, evCode_seq, evCode_plain, evCode_draw, evCode_cond, evCode_ret, evCode_skip, evCode_block, evCode_loop, roundK_normal, roundK_exit, roundK_ret, seqK_normal, seqK_exit, seqK_ret, blockK_normal, blockK_exit, blockK_ret, regK_eq, evOps_nil, evOps_cons, params, astep, okDst, isWanted, aop, opnd, ofValue, putT, abin, headS, ofL, noPtr, acall, adopt_bool, adopt_int, adopt_str, adopt_agg, adopt_clip, AV.bare, upd_false, AV.cells, partOf, setCells, fillC, AV.isVal, List.range, List.range.loop, ofB, mayRead, dsts, planRo, capIds, viewed, scalarR, AV.scalar, hp, had]
  refine loop_by (fun i => plainL.length - i) (fun (i : Nat) t m => i ≤ plainL.length ∧ clean (lvSymbol 3) t m = headS [(0, .str (c :: s)), (2, .ptr 500002 0), (3, .int .i64 (longest (c :: s) 0 (plainL.take i))), (9, .sl 1 (strs plainL) .clip), (10, .int .i64 plainL.length), (11, .int .i64 i)] [(500002, [.int .i64 0, .int .i64 0, .int .i64 0])]) ?_ 0 ?_
  · intro i t m ⟨hi, hS⟩ ih
    refine round_of hS ?_
    by_cases h1 : i < plainL.length
    · have hn := longest_take (c :: s) 0 plainL i h1
      have w1 : IntKind.i64.wrap ((i : Int) + 1) = i + 1 := wrap_i64 (by omega) (by have : plainL.length = 65 := rfl; omega)
      cases h2 : hasPre (c :: s) plainL[i]
      · simp [dFor_none, storeFine_none, dFor_no, storeFine_no, lessL, lkL, evCode_exit, evCode_seq, evCode_plain, evCode_draw, evCode_cond, evCode_ret, evCode_skip, evCode_block, evCode_loop, roundK_normal, roundK_exit, roundK_ret, seqK_normal, seqK_exit, seqK_ret, blockK_normal, blockK_exit, blockK_ret, regK_eq, evOps_nil, evOps_cons, params, astep, okDst, isWanted, aop, opnd, ofValue, putT, abin, headS, ofL, noPtr, acall, adopt_bool, adopt_int, adopt_str, adopt_agg, adopt_clip, AV.bare, upd_false, AV.cells, partOf, setCells, fillC, AV.isVal, List.range, List.range.loop, ofB, mayRead, dsts, planRo, capIds, viewed, scalarR, AV.scalar, h1, w1, strs, pre_ev, h2]
        refine ih (i + 1) _ _ (by omega) ⟨by omega, ?_⟩
        rw [hn]
        simp [clean, keepBoxes, relabB, relabL, relab1, cleanS, fixPtr, headS, ofL, ofB, cellsOfB, namesOf, rowName, upd_false, AV.cells, lvSymbol, h2, strs]
      · simp [dFor_none, storeFine_none, dFor_no, storeFine_no, lessL, lkL, evCode_exit, evCode_seq, evCode_plain, evCode_draw, evCode_cond, evCode_ret, evCode_skip, evCode_block, evCode_loop, roundK_normal, roundK_exit, roundK_ret, seqK_normal, seqK_exit, seqK_ret, blockK_normal, blockK_exit, blockK_ret, regK_eq, evOps_nil, evOps_cons, params, astep, okDst, isWanted, aop, opnd, ofValue, putT, abin, headS, ofL, noPtr, acall, adopt_bool, adopt_int, adopt_str, adopt_agg, adopt_clip, AV.bare, upd_false, AV.cells, partOf, setCells, fillC, AV.isVal, List.range, List.range.loop, ofB, mayRead, dsts, planRo, capIds, viewed, scalarR, AV.scalar, h1, w1, strs, pre_ev, h2, aminmax]
        refine ih (i + 1) _ _ (by omega) ⟨by omega, ?_⟩
        rw [hn]
        simp [clean, keepBoxes, relabB, relabL, relab1, cleanS, fixPtr, headS, ofL, ofB, cellsOfB, namesOf, rowName, upd_false, AV.cells, lvSymbol, h2, strs, maxI]
    · have : i = plainL.length := by omega
      subst this
      clear ih hS
      simp only [List.take_length]
      generalize hn0 : longest (c :: s) 0 plainL = n0
      simp [dFor_none, storeFine_none, dFor_no, storeFine_no, lessL, lkL, evCode_exit, evCode_seq, evCode_plain, evCode_draw, evCode_cond, evCode_ret, evCode_skip, evCode_block, evCode_loop, roundK_normal, roundK_exit, roundK_ret, seqK_normal, seqK_exit, seqK_ret, blockK_normal, blockK_exit, blockK_ret, regK_eq, evOps_nil, evOps_cons, params, astep, okDst, isWanted, aop, opnd, ofValue, putT, abin, headS, ofL, noPtr, acall, adopt_bool, adopt_int, adopt_str, adopt_agg, adopt_clip, AV.bare, upd_false, AV.cells, partOf, setCells, fillC, AV.isVal, List.range, List.range.loop, ofB, mayRead, dsts, planRo, capIds, viewed, scalarR, AV.scalar, ho, had]
      refine loop_by (fun i => othersL.length - i) (fun (i : Nat) t m => i ≤ othersL.length ∧ clean (lvSymbol 9) t m = headS [(0, .str (c :: s)), (2, .ptr 500002 0), (3, .int .i64 (longest (c :: s) n0 ((othersL.map (·.1)).take i))), (23, .sl 2 (pairs othersL) .clip), (24, .int .i64 othersL.length), (25, .int .i64 i)] [(500002, [.int .i64 0, .int .i64 0, .int .i64 0])]) ?_ 0 ?_
      · intro i t m ⟨hi, hS⟩ ih
        refine round_of hS ?_
        by_cases h1 : i < othersL.length
        · have hn := longest_take (c :: s) n0 (othersL.map (·.1)) i (by simpa using h1)
          have w1 : IntKind.i64.wrap ((i : Int) + 1) = i + 1 := wrap_i64 (by omega) (by have : othersL.length = 11 := rfl; omega)
          simp only [List.getElem_map] at hn
          cases h2 : hasPre (c :: s) othersL[i].1
          · simp [dFor_none, storeFine_none, dFor_no, storeFine_no, lessL, lkL, evCode_exit, evCode_seq, evCode_plain, evCode_draw, evCode_cond, evCode_ret, evCode_skip, evCode_block, evCode_loop, roundK_normal, roundK_exit, roundK_ret, seqK_normal, seqK_exit, seqK_ret, blockK_normal, blockK_exit, blockK_ret, regK_eq, evOps_nil, evOps_cons, params, astep, okDst, isWanted, aop, opnd, ofValue, putT, abin, headS, ofL, noPtr, acall, adopt_bool, adopt_int, adopt_str, adopt_agg, adopt_clip, AV.bare, upd_false, AV.cells, partOf, setCells, fillC, AV.isVal, List.range, List.range.loop, ofB, mayRead, dsts, planRo, capIds, viewed, scalarR, AV.scalar, h1, w1, pairs, pre_ev, h2]
            refine ih (i + 1) _ _ (by omega) ⟨by omega, ?_⟩
            rw [hn]
            simp [clean, keepBoxes, relabB, relabL, relab1, cleanS, fixPtr, headS, ofL, ofB, cellsOfB, namesOf, rowName, upd_false, AV.cells, lvSymbol, h2, pairs]
          · simp [dFor_none, storeFine_none, dFor_no, storeFine_no, lessL, lkL, evCode_exit, evCode_seq, evCode_plain, evCode_draw, evCode_cond, evCode_ret, evCode_skip, evCode_block, evCode_loop, roundK_normal, roundK_exit, roundK_ret, seqK_normal, seqK_exit, seqK_ret, blockK_normal, blockK_exit, blockK_ret, regK_eq, evOps_nil, evOps_cons, params, astep, okDst, isWanted, aop, opnd, ofValue, putT, abin, headS, ofL, noPtr, acall, adopt_bool, adopt_int, adopt_str, adopt_agg, adopt_clip, AV.bare, upd_false, AV.cells, partOf, setCells, fillC, AV.isVal, List.range, List.range.loop, ofB, mayRead, dsts, planRo, capIds, viewed, scalarR, AV.scalar, h1, w1, pairs, pre_ev, h2, aminmax]
            refine ih (i + 1) _ _ (by omega) ⟨by omega, ?_⟩
            rw [hn]
            simp [clean, keepBoxes, relabB, relabL, relab1, cleanS, fixPtr, headS, ofL, ofB, cellsOfB, namesOf, rowName, upd_false, AV.cells, lvSymbol, h2, pairs, maxI]
        · have : i = othersL.length := by omega
          subst this
          clear ih hS
          rw [show (othersL.map (·.1)).take othersL.length = othersL.map (·.1) from by rw [List.take_of_length_le (by simp)]]
          have hrun := run_ev s 123 [] (fun b => letterB b.toNat) (by omega) rfl rfl (fun b => letter_ev b)
          generalize hn : longest (c :: s) n0 (othersL.map (·.1)) = n
          have hk : run (fun b => letterB b.toNat) s ≤ s.length := (List.takeWhile_prefix _).length_le
          generalize hk' : run (fun b => letterB b.toNat) s = k at hrun hk
          have hsym : symPiece c s = if ((c.toNat : Int) == 92) && decide ((k : Int) > 0) then piece 4 (k + 1) (if (n != (k : Int) + 1) then 8 else 0) else piece 4 n (if (n == 0) then 8 else 0) := by
            unfold symPiece; rw [hn0, hn, hk']
          rw [hsym]
          have w2 : IntKind.i64.wrap ((k : Int) + 1) = k + 1 := wrap_i64 (by omega) (by omega)
          cases h2 : ((c.toNat : Int) == 92)
          · cases h4 : (n == 0) <;> simp [dFor_none, storeFine_none, dFor_no, storeFine_no, lessL, lkL, evCode_exit, evCode_seq, evCode_plain, evCode_draw, evCode_cond, evCode_ret, evCode_skip, evCode_block, evCode_loop, roundK_normal, roundK_exit, roundK_ret, seqK_normal, seqK_exit, seqK_ret, blockK_normal, blockK_exit, blockK_ret, regK_eq, evOps_nil, evOps_cons, params, astep, okDst, isWanted, aop, opnd, ofValue, putT, abin, headS, ofL, noPtr, acall, adopt_bool, adopt_int, adopt_str, adopt_agg, adopt_clip, AV.bare, upd_false, AV.cells, partOf, setCells, fillC, AV.isVal, List.range, List.range.loop, ofB, mayRead, dsts, planRo, capIds, viewed, scalarR, AV.scalar, finK, freezeT, avAll, resOf, outBoxes, relabB, relabL, relab1, noPtr, AV.untup, hrun, h2, h4, aslice, abound, wrong_ev, piece]
          · by_cases h3 : (k : Int) > 0
            · have h3' : 0 < k := by omega
              cases h4 : (n != (k : Int) + 1) <;> simp [dFor_none, storeFine_none, dFor_no, storeFine_no, lessL, lkL, evCode_exit, evCode_seq, evCode_plain, evCode_draw, evCode_cond, evCode_ret, evCode_skip, evCode_block, evCode_loop, roundK_normal, roundK_exit, roundK_ret, seqK_normal, seqK_exit, seqK_ret, blockK_normal, blockK_exit, blockK_ret, regK_eq, evOps_nil, evOps_cons, params, astep, okDst, isWanted, aop, opnd, ofValue, putT, abin, headS, ofL, noPtr, acall, adopt_bool, adopt_int, adopt_str, adopt_agg, adopt_clip, AV.bare, upd_false, AV.cells, partOf, setCells, fillC, AV.isVal, List.range, List.range.loop, ofB, mayRead, dsts, planRo, capIds, viewed, scalarR, AV.scalar, finK, freezeT, avAll, resOf, outBoxes, relabB, relabL, relab1, noPtr, AV.untup, hrun, h2, h3, h3', h4, w2, aslice, abound, wrong_ev, piece]
            · have h3' : ¬ 0 < k := by omega
              cases h4 : (n == 0) <;> simp [dFor_none, storeFine_none, dFor_no, storeFine_no, lessL, lkL, evCode_exit, evCode_seq, evCode_plain, evCode_draw, evCode_cond, evCode_ret, evCode_skip, evCode_block, evCode_loop, roundK_normal, roundK_exit, roundK_ret, seqK_normal, seqK_exit, seqK_ret, blockK_normal, blockK_exit, blockK_ret, regK_eq, evOps_nil, evOps_cons, params, astep, okDst, isWanted, aop, opnd, ofValue, putT, abin, headS, ofL, noPtr, acall, adopt_bool, adopt_int, adopt_str, adopt_agg, adopt_clip, AV.bare, upd_false, AV.cells, partOf, setCells, fillC, AV.isVal, List.range, List.range.loop, ofB, mayRead, dsts, planRo, capIds, viewed, scalarR, AV.scalar, finK, freezeT, avAll, resOf, outBoxes, relabB, relabL, relab1, noPtr, AV.untup, hrun, h2, h3, h3', h4, aslice, abound, wrong_ev, piece]
      · refine ⟨by omega, ?_⟩
        simp [clean, keepBoxes, relabB, relabL, relab1, cleanS, fixPtr, headS, ofL, ofB, cellsOfB, namesOf, rowName, upd_false, AV.cells, lvSymbol, longest, pairs]
  · refine ⟨by omega, ?_⟩
    simp [clean, keepBoxes, relabB, relabL, relab1, cleanS, fixPtr, headS, ofL, ofB, cellsOfB, namesOf, rowName, upd_false, AV.cells, lvSymbol, longest, strs]
end Go.Proofs.YtlmmgblghgmgeaaGreatDoor
