/- Which functions of this seat are evaluated by their code, and what their loops keep. -/
import Derived.Test.YtlmmgblghgmgeaaGreatDoorTab
import Derived.Test.YtlmmgblghgmgeaaGreatDoorEv4
import Derived.Test.YtlmmgblghgmgeaaGreatDoorShelf
namespace Go.Proofs.YtlmmgblghgmgeaaGreatDoor
open Go Ev

def lv0 : Nat → Keep := fun _ => noKeep
def lvL (l : List (Nat × Option Nat)) (c : List (Nat × Nat × Nat)) (h1 : (l.map (·.1)).Nodup) (h2 : l.all (fun s => decide (s.1 < 500000)) = true) : Nat → Keep := fun id => if id < 1000000 then ⟨l, c, h1, h2⟩ else noKeep
def lvRun : Nat → Keep := lvL [(0, none), (1, none), (7, none), (8, none)] [] (by decide) (by decide)
def lvOr : Nat → Keep := lvL [(3, none), (6, none), (7, none), (8, none)] [] (by decide) (by decide)
def lvNumber : Nat → Keep := lvL [(0, none), (2, none), (3, none), (6, none), (7, none)] [] (by decide) (by decide)
def lvSymbol : Nat → Keep := fun id => if id < 5 then ⟨[(0, none), (2, none), (3, none), (9, none), (10, none), (11, none)], [], by decide, by decide⟩ else if id < 1000000 then ⟨[(0, none), (2, none), (3, none), (23, none), (24, none), (25, none)], [], by decide, by decide⟩ else noKeep
def lvRead : Nat → Keep := lvL [(3, none), (7, none), (21, none)] [(500021, 3, 4), (500021, 4, 4)] (by decide) (by decide)
def lvIsRead : Nat → Keep := lvL [(1, none), (5, none), (11, none)] [(500011, 3, 4), (500011, 4, 4)] (by decide) (by decide)
def lvComment : Nat → Keep := lvL [(0, none), (3, none)] [] (by decide) (by decide)
def lvEqual : Nat → Keep := lvL [(1, none), (2, none), (15, none), (16, none), (17, none)] [] (by decide) (by decide)
def lvLines : Nat → Keep := lvL [(0, none), (10, none), (11, none), (12, none)] [] (by decide) (by decide)
def lvRefLines : Nat → Keep := lvL [(0, none), (4, none)] [] (by decide) (by decide)
def lvFew : Nat → Keep := lvL [(0, none), (3, none)] [] (by decide) (by decide)
def lvShown : Nat → Keep := lvL [(0, none), (5, none)] [] (by decide) (by decide)
def lvIndex : Nat → Keep := lvL [(0, none), (1, none), (7, none), (8, none)] [] (by decide) (by decide)

def lvSame : Nat → Keep := lvL [(0, none), (1, none), (5, none)] [] (by decide) (by decide)
def lvWord : Nat → Keep := lvL [(0, none), (1, none), (4, none), (5, none), (6, none), (7, none)] [] (by decide) (by decide)
def lvQuoted : Nat → Keep := lvL [(0, none), (1, none), (4, none), (5, none), (6, none)] [] (by decide) (by decide)
def lvAt : Nat → Keep := fun id => if id < 15 then ⟨[(0, none), (1, none), (4, none), (6, none)], [], by decide, by decide⟩ else if id < 1000000 then ⟨[(0, none), (1, none), (4, none), (7, none)], [], by decide, by decide⟩ else noKeep
def lvCom : Nat → Keep := fun id => if id < 3 then ⟨[(0, none), (3, none), (4, none), (6, none)], [], by decide, by decide⟩ else if id < 1000000 then ⟨[(0, none), (3, none), (4, none), (6, none), (7, none)], [], by decide, by decide⟩ else noKeep
def lvAhead : Nat → Keep := fun id => if id < 1000000 then ⟨[(0, none), (2, none), (3, none), (4, none)], [(500003, 0, 4), (500003, 1, 4)], by decide, by decide⟩ else if id = 1000012 then ⟨[(54, some 3)], [(52, 0, 0), (53, 0, 0)], by decide, by decide⟩ else noKeep
def lvSymbols : Nat → Keep := fun id => if id < 6 then ⟨[(1, none), (2, none), (3, none)], [], by decide, by decide⟩ else if id < 11 then ⟨[(1, none), (4, some 1), (5, none)], [], by decide, by decide⟩ else if id < 1000000 then ⟨[(1, none), (4, some 1), (5, none), (6, none)], [], by decide, by decide⟩ else noKeep
def lvBRead : Nat → Keep := lvL [(0, none), (4, none), (5, none)] [] (by decide) (by decide)
def lvBlanked : Nat → Keep := fun id => if id < 5 then ⟨[(0, none), (1, none), (5, some 1), (6, none)], [], by decide, by decide⟩ else if id < 1000000 then ⟨[(0, none), (1, none), (5, some 1), (6, none), (7, none), (8, none)], [], by decide, by decide⟩ else noKeep
def lvWithin : Nat → Keep := lvL [(0, none), (3, none), (5, none)] [] (by decide) (by decide)

@[simp] theorem lv0_h (k : Nat) : lv0 k = noKeep := rfl
@[simp] theorem lvRun_h (k : Nat) (hk : 1000000 ≤ k) : lvRun k = noKeep := by
  unfold lvRun lvL; exact if_neg (by omega)
@[simp] theorem lvOr_h (k : Nat) (hk : 1000000 ≤ k) : lvOr k = noKeep := by
  unfold lvOr lvL; exact if_neg (by omega)
@[simp] theorem lvNumber_h (k : Nat) (hk : 1000000 ≤ k) : lvNumber k = noKeep := by
  unfold lvNumber lvL; exact if_neg (by omega)
@[simp] theorem lvSymbol_h (k : Nat) (hk : 1000000 ≤ k) : lvSymbol k = noKeep := by
  unfold lvSymbol; rw [if_neg (by omega), if_neg (by omega)]
@[simp] theorem lvRead_h (k : Nat) (hk : 1000000 ≤ k) : lvRead k = noKeep := by
  unfold lvRead lvL; exact if_neg (by omega)
@[simp] theorem lvIsRead_h (k : Nat) (hk : 1000000 ≤ k) : lvIsRead k = noKeep := by
  unfold lvIsRead lvL; exact if_neg (by omega)
@[simp] theorem lvComment_h (k : Nat) (hk : 1000000 ≤ k) : lvComment k = noKeep := by
  unfold lvComment lvL; exact if_neg (by omega)
@[simp] theorem lvEqual_h (k : Nat) (hk : 1000000 ≤ k) : lvEqual k = noKeep := by
  unfold lvEqual lvL; exact if_neg (by omega)
@[simp] theorem lvLines_h (k : Nat) (hk : 1000000 ≤ k) : lvLines k = noKeep := by
  unfold lvLines lvL; exact if_neg (by omega)
@[simp] theorem lvRefLines_h (k : Nat) (hk : 1000000 ≤ k) : lvRefLines k = noKeep := by
  unfold lvRefLines lvL; exact if_neg (by omega)
@[simp] theorem lvFew_h (k : Nat) (hk : 1000000 ≤ k) : lvFew k = noKeep := by
  unfold lvFew lvL; exact if_neg (by omega)
@[simp] theorem lvShown_h (k : Nat) (hk : 1000000 ≤ k) : lvShown k = noKeep := by
  unfold lvShown lvL; exact if_neg (by omega)
@[simp] theorem lvIndex_h (k : Nat) (hk : 1000000 ≤ k) : lvIndex k = noKeep := by
  unfold lvIndex lvL; exact if_neg (by omega)
@[simp] theorem lvSame_h (k : Nat) (hk : 1000000 ≤ k) : lvSame k = noKeep := by
  unfold lvSame lvL; exact if_neg (by omega)
@[simp] theorem lvWord_h (k : Nat) (hk : 1000000 ≤ k) : lvWord k = noKeep := by
  unfold lvWord lvL; exact if_neg (by omega)
@[simp] theorem lvQuoted_h (k : Nat) (hk : 1000000 ≤ k) : lvQuoted k = noKeep := by
  unfold lvQuoted lvL; exact if_neg (by omega)
@[simp] theorem lvAt_h (k : Nat) (hk : 1000000 ≤ k) : lvAt k = noKeep := by
  unfold lvAt; rw [if_neg (by omega), if_neg (by omega)]
@[simp] theorem lvCom_h (k : Nat) (hk : 1000000 ≤ k) : lvCom k = noKeep := by
  unfold lvCom; rw [if_neg (by omega), if_neg (by omega)]
@[simp] theorem lvAhead_h (k : Nat) (hk : 1000000 ≤ k) (hn : k ≠ 1000012) : lvAhead k = noKeep := by
  unfold lvAhead; rw [if_neg (by omega), if_neg hn]
@[simp] theorem lvSymbols_h (k : Nat) (hk : 1000000 ≤ k) : lvSymbols k = noKeep := by
  unfold lvSymbols; rw [if_neg (by omega), if_neg (by omega), if_neg (by omega)]
@[simp] theorem lvBRead_h (k : Nat) (hk : 1000000 ≤ k) : lvBRead k = noKeep := by
  unfold lvBRead lvL; exact if_neg (by omega)
@[simp] theorem lvBlanked_h (k : Nat) (hk : 1000000 ≤ k) : lvBlanked k = noKeep := by
  unfold lvBlanked; rw [if_neg (by omega), if_neg (by omega)]
@[simp] theorem lvWithin_h (k : Nat) (hk : 1000000 ≤ k) : lvWithin k = noKeep := by
  unfold lvWithin lvL; exact if_neg (by omega)
def lvApart : Nat → Keep := fun id => if id = 1000002 then ⟨[(18, some 2)], [(16, 0, 0), (17, 0, 0)], by decide, by decide⟩ else noKeep
@[simp] theorem lvApart_h (k : Nat) (hn : k ≠ 1000002) : lvApart k = noKeep := by
  unfold lvApart; rw [if_neg hn]
noncomputable def planFn : FuncId → Option (Func × (Nat → Keep))
  | 8 => some (Tryz.f8, lv0)
  | 14 => some (Tryz.f14, lvFew)
  | 32 => some (Tryz.f32, lv0)
  | 16 => some (Tryz.f16, lv0)
  | 72 => some (Tryz.f72, lvShown)
  | 44 => some (Tryz.f44, lvRefLines)
  | 66 => some (Tryz.f66, lvLines)
  | 10 => some (Tryz.f10, lv0)
  | 15 => some (Tryz.f15, lv0)
  | 17 => some (Tryz.f17, lv0)
  | 28 => some (Tryz.f28, lv0)
  | 60 => some (Tryz.f60, lv0)
  | 9 => some (Tryz.f9, lv0)
  | 33 => some (Tryz.f33, lvOr)
  | 37 => some (Tryz.f37, lv0)
  | 82 => some (Tryz.f82, lv0)
  | 41 => some (Tryz.f41, lvRead)
  | 36 => some (Tryz.f36, lv0)
  | 34 => some (Tryz.f34, lv0)
  | 55 => some (Tryz.f55, lv0)
  | 56 => some (Tryz.f56, lv0)
  | 57 => some (Tryz.f57, lv0)
  | 58 => some (Tryz.f58, lvIndex)
  | 59 => some (Tryz.f59, lv0)
  | 35 => some (Tryz.f35, lv0)
  | 67 => some (Tryz.f67, lv0)
  | 68 => some (Tryz.f68, lv0)
  | 85 => some (Tryz.f85, lv0)
  | 86 => some (Tryz.f86, lv0)
  | 87 => some (Tryz.f87, lv0)
  | 88 => some (Tryz.f88, lvComment)
  | 3 => some (Tryz.f3, lv0)
  | 4 => some (Tryz.f4, lv0)
  | 7 => some (Tryz.f7, lv0)
  | 23 => some (Tryz.f23, lvFew)
  | 11 => some (Tryz.f11, lv0)
  | 12 => some (Tryz.f12, lv0)
  | 13 => some (Tryz.f13, lvApart)
  | 40 => some (Tryz.f40, lv0)
  | 39 => some (Tryz.f39, lvSame)
  | 19 => some (Tryz.f19, lv0)
  | 45 => some (Tryz.f45, lvAhead)
  | 74 => some (Tryz.f74, lvAt)
  | 96 => some (Tryz.f96, lvWord)
  | 97 => some (Tryz.f97, lvQuoted)
  | 73 => some (Tryz.f73, lvCom)
  | 95 => some (Tryz.f95, lv0)
  | 31 => some (Tryz.f31, lvSymbols)
  | 64 => some (Tryz.f64, lv0)
  | 62 => some (Tryz.f62, lv0)
  | 30 => some (Tryz.f30, lvBRead)
  | 20 => some (Tryz.f20, lvSame)
  | 22 => some (Tryz.f22, lvBlanked)
  | 46 => some (Tryz.f46, lvWithin)
  | 75 => some (Tryz.f75, lv0)
  | 54 => some (Tryz.f54, lv0)
  | 38 => some (Tryz.f38, lv0)
  | 94 => some (Tryz.f94, lv0)
  | 98 => some (Tryz.f98, lv0)
  | 130 => some (Tryz.f130, lv0)
  | 131 => some (Tryz.f131, lv0)
  | 132 => some (Tryz.f132, lvBRead)
  | 63 => some (Tryz.f63, lvSame)
  | 21 => some (Tryz.f21, lvSame)
  | 49 => some (Tryz.f49, lv0)
  | 47 => some (Tryz.f47, lv0)
  | 70 => some (Tryz.f70, lv0)
  | 92 => some (Tryz.f92, lv0)
  | 65 => some (Tryz.f65, lvIsRead)
  | 84 => some (Tryz.f84, lv0)
  | 78 => some (Tryz.f78, lvIndex)
  | 89 => some (Tryz.f89, lv0)
  | 121 => some (Tryz.f121, lv0)
  | 122 => some (Tryz.f122, lv0)
  | 83 => some (Tryz.f83, lvEqual)
  | 119 => some (Tryz.f119, lvRun)
  | 120 => some (Tryz.f120, lv0)
  | 123 => some (Tryz.f123, lv0)
  | 124 => some (Tryz.f124, lv0)
  | 125 => some (Tryz.f125, lv0)
  | 126 => some (Tryz.f126, lvNumber)
  | 127 => some (Tryz.f127, lv0)
  | 128 => some (Tryz.f128, lvSymbol)
  | _ => none
def planRo : FuncId → Bool
  | 67 => true
  | 85 => true
  | _ => false
/-- What Go's library does, by its contracts. -/
def spansB (a b c : Int) : Bool := decide (b ≤ a) && decide (a ≤ c)
def oddRune (x : Nat) : Bool := decide ((x : Int) < 32) || decide ((x : Int) > 126)
def letterB (n : Nat) : Bool := spansB n 97 122 || spansB n 65 90
noncomputable def planExt : Oracle := fun f args bs =>
  match bs with
  | [] => (match f, args with
    | 81, [.str s, .fn g []] => if g = 82 then some (.bool (decide (0 ≤ Lib.idxFunc oddRune true ⟨s.toArray⟩)), [])
        else if g = 122 then some (.bool (decide (0 ≤ Lib.idxFunc (fun x => letterB (x % 256)) true ⟨s.toArray⟩)), []) else none
    | 77, [.str s, .str [b]] => if b.toNat < 128 ∧ s.length ≤ 9223372036854775807 then some (.str (Lib.trimB s b), []) else none
    | 145, [.str s, .int .u8 b] => some (.int .i64 (Lib.indexByte s b.toNat.toUInt8), [])
    | 146, [.str s, .str [b]] => some (.bool (decide (0 ≤ Lib.indexByte s b)), [])
    | 144, [.str s] => if s.length < 4294967281 ∧ s.all (fun b => decide (b.toNat < 128)) = true then some (.sl 1 ((Lib.fields s).map fun x => [.str x]) .clip, []) else none
    | 43, [.str s, .int .i64 n] => if 0 ≤ n ∧ n ≤ 9223372036854775807 ∧ s.length * n.toNat ≤ 140737488355328 then some (.str (Lib.repeatL s n.toNat), []) else none
    | _, _ => none)
  | _ => none
noncomputable def plan : Plan := ⟨Tryz.prog, planFn, planRo, planExt⟩
end Go.Proofs.YtlmmgblghgmgeaaGreatDoor
