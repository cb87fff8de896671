/- Which functions of this seat are evaluated by their code, and what their loops keep. -/
import Derived.Test.YtlmmgblghgmgeaaDoorTab
import Derived.Test.YtlmmgblghgmgeaaDoorEv4
import Derived.Test.YtlmmgblghgmgeaaDoorShelf
namespace Go.Proofs.YtlmmgblghgmgeaaDoor
open Go Ev

def lv0 : Nat → Keep := fun _ => noKeep
def lvL (l : List (Nat × Option Nat)) (c : List (Nat × Nat × Nat)) (h1 : (l.map (·.1)).Nodup) (h2 : l.all (fun s => decide (s.1 < 500000)) = true) : Nat → Keep := fun id => if id < 1000000 then ⟨l, c, h1, h2⟩ else noKeep
def lvRun : Nat → Keep := lvL [(0, none), (1, none), (7, none), (8, none)] [] (by decide) (by decide)
def lvOr : Nat → Keep := lvL [(3, none), (6, none), (7, none), (8, none)] [] (by decide) (by decide)
def lvNumber : Nat → Keep := lvL [(0, none), (2, none), (3, none), (6, none), (7, none)] [] (by decide) (by decide)
def lvSymbol : Nat → Keep := fun id => if id < 5 then ⟨[(0, none), (2, none), (3, none), (9, none), (10, none), (11, none)], [], by decide, by decide⟩ else if id < 1000000 then ⟨[(0, none), (2, none), (3, none), (23, none), (24, none), (25, none)], [], by decide, by decide⟩ else noKeep
def lvRead : Nat → Keep := lvL [(3, none), (7, none), (21, none)] [(500021, 3, 4), (500021, 4, 4)] (by decide) (by decide)
def lvIsRead : Nat → Keep := lvL [(1, none), (5, none), (11, none)] [(500011, 3, 4), (500011, 4, 4)] (by decide) (by decide)
def lvComment : Nat → Keep := lvL [(0, none), (3, none)] [] (by decide) (by decide)
def lvEqual : Nat → Keep := lvL [(1, none), (2, none), (15, none), (16, none), (17, none)] [] (by decide) (by decide)
def lvLines : Nat → Keep := lvL [(0, none), (10, none), (11, none), (12, none)] [] (by decide) (by decide)
def lvRefLines : Nat → Keep := lvL [(0, none), (4, none)] [] (by decide) (by decide)
def lvFew : Nat → Keep := lvL [(0, none), (3, none)] [] (by decide) (by decide)
def lvShown : Nat → Keep := lvL [(0, none), (5, none)] [] (by decide) (by decide)
def lvIndex : Nat → Keep := lvL [(0, none), (1, none), (7, none), (8, none)] [] (by decide) (by decide)

def lvSame : Nat → Keep := lvL [(0, none), (1, none), (5, none)] [] (by decide) (by decide)
def lvWord : Nat → Keep := lvL [(0, none), (1, none), (4, none), (5, none), (6, none), (7, none)] [] (by decide) (by decide)
def lvQuoted : Nat → Keep := lvL [(0, none), (1, none), (4, none), (5, none), (6, none)] [] (by decide) (by decide)
def lvAt : Nat → Keep := fun id => if id < 15 then ⟨[(0, none), (1, none), (4, none), (6, none)], [], by decide, by decide⟩ else if id < 1000000 then ⟨[(0, none), (1, none), (4, none), (7, none)], [], by decide, by decide⟩ else noKeep
def lvCom : Nat → Keep := fun id => if id < 3 then ⟨[(0, none), (3, none), (4, none), (6, none)], [], by decide, by decide⟩ else if id < 1000000 then ⟨[(0, none), (3, none), (4, none), (6, none), (7, none)], [], by decide, by decide⟩ else noKeep
def lvAhead : Nat → Keep := fun id => if id < 1000000 then ⟨[(0, none), (2, none), (3, none), (4, none)], [(500003, 0, 4), (500003, 1, 4)], by decide, by decide⟩ else if id = 1000012 then ⟨[(54, some 3)], [(52, 0, 0), (53, 0, 0)], by decide, by decide⟩ else noKeep
def lvSymbols : Nat → Keep := fun id => if id < 6 then ⟨[(1, none), (2, none), (3, none)], [], by decide, by decide⟩ else if id < 11 then ⟨[(1, none), (4, some 1), (5, none)], [], by decide, by decide⟩ else if id < 1000000 then ⟨[(1, none), (4, some 1), (5, none), (6, none)], [], by decide, by decide⟩ else noKeep
def lvBRead : Nat → Keep := lvL [(0, none), (4, none), (5, none)] [] (by decide) (by decide)
def lvBlanked : Nat → Keep := fun id => if id < 5 then ⟨[(0, none), (1, none), (5, some 1), (6, none)], [], by decide, by decide⟩ else if id < 1000000 then ⟨[(0, none), (1, none), (5, some 1), (6, none), (7, none), (8, none)], [], by decide, by decide⟩ else noKeep
def lvWithin : Nat → Keep := lvL [(0, none), (3, none), (5, none)] [] (by decide) (by decide)

@[simp] theorem lv0_h (k : Nat) : lv0 k = noKeep := rfl
@[simp] theorem lvRun_h (k : Nat) (hk : 1000000 ≤ k) : lvRun k = noKeep := by
  unfold lvRun lvL; exact if_neg (by omega)
@[simp] theorem lvOr_h (k : Nat) (hk : 1000000 ≤ k) : lvOr k = noKeep := by
  unfold lvOr lvL; exact if_neg (by omega)
@[simp] theorem lvNumber_h (k : Nat) (hk : 1000000 ≤ k) : lvNumber k = noKeep := by
  unfold lvNumber lvL; exact if_neg (by omega)
@[simp] theorem lvSymbol_h (k : Nat) (hk : 1000000 ≤ k) : lvSymbol k = noKeep := by
  unfold lvSymbol; rw [if_neg (by omega), if_neg (by omega)]
@[simp] theorem lvRead_h (k : Nat) (hk : 1000000 ≤ k) : lvRead k = noKeep := by
  unfold lvRead lvL; exact if_neg (by omega)
@[simp] theorem lvIsRead_h (k : Nat) (hk : 1000000 ≤ k) : lvIsRead k = noKeep := by
  unfold lvIsRead lvL; exact if_neg (by omega)
@[simp] theorem lvComment_h (k : Nat) (hk : 1000000 ≤ k) : lvComment k = noKeep := by
  unfold lvComment lvL; exact if_neg (by omega)
@[simp] theorem lvEqual_h (k : Nat) (hk : 1000000 ≤ k) : lvEqual k = noKeep := by
  unfold lvEqual lvL; exact if_neg (by omega)
@[simp] theorem lvLines_h (k : Nat) (hk : 1000000 ≤ k) : lvLines k = noKeep := by
  unfold lvLines lvL; exact if_neg (by omega)
@[simp] theorem lvRefLines_h (k : Nat) (hk : 1000000 ≤ k) : lvRefLines k = noKeep := by
  unfold lvRefLines lvL; exact if_neg (by omega)
@[simp] theorem lvFew_h (k : Nat) (hk : 1000000 ≤ k) : lvFew k = noKeep := by
  unfold lvFew lvL; exact if_neg (by omega)
@[simp] theorem lvShown_h (k : Nat) (hk : 1000000 ≤ k) : lvShown k = noKeep := by
  unfold lvShown lvL; exact if_neg (by omega)
@[simp] theorem lvIndex_h (k : Nat) (hk : 1000000 ≤ k) : lvIndex k = noKeep := by
  unfold lvIndex lvL; exact if_neg (by omega)
@[simp] theorem lvSame_h (k : Nat) (hk : 1000000 ≤ k) : lvSame k = noKeep := by
  unfold lvSame lvL; exact if_neg (by omega)
@[simp] theorem lvWord_h (k : Nat) (hk : 1000000 ≤ k) : lvWord k = noKeep := by
  unfold lvWord lvL; exact if_neg (by omega)
@[simp] theorem lvQuoted_h (k : Nat) (hk : 1000000 ≤ k) : lvQuoted k = noKeep := by
  unfold lvQuoted lvL; exact if_neg (by omega)
@[simp] theorem lvAt_h (k : Nat) (hk : 1000000 ≤ k) : lvAt k = noKeep := by
  unfold lvAt; rw [if_neg (by omega), if_neg (by omega)]
@[simp] theorem lvCom_h (k : Nat) (hk : 1000000 ≤ k) : lvCom k = noKeep := by
  unfold lvCom; rw [if_neg (by omega), if_neg (by omega)]
@[simp] theorem lvAhead_h (k : Nat) (hk : 1000000 ≤ k) (hn : k ≠ 1000012) : lvAhead k = noKeep := by
  unfold lvAhead; rw [if_neg (by omega), if_neg hn]
@[simp] theorem lvSymbols_h (k : Nat) (hk : 1000000 ≤ k) : lvSymbols k = noKeep := by
  unfold lvSymbols; rw [if_neg (by omega), if_neg (by omega), if_neg (by omega)]
@[simp] theorem lvBRead_h (k : Nat) (hk : 1000000 ≤ k) : lvBRead k = noKeep := by
  unfold lvBRead lvL; exact if_neg (by omega)
@[simp] theorem lvBlanked_h (k : Nat) (hk : 1000000 ≤ k) : lvBlanked k = noKeep := by
  unfold lvBlanked; rw [if_neg (by omega), if_neg (by omega)]
@[simp] theorem lvWithin_h (k : Nat) (hk : 1000000 ≤ k) : lvWithin k = noKeep := by
  unfold lvWithin lvL; exact if_neg (by omega)
def lvApart : Nat → Keep := fun id => if id = 1000002 then ⟨[(18, some 2)], [(16, 0, 0), (17, 0, 0)], by decide, by decide⟩ else noKeep
@[simp] theorem lvApart_h (k : Nat) (hn : k ≠ 1000002) : lvApart k = noKeep := by
  unfold lvApart; rw [if_neg hn]
noncomputable def planFn : FuncId → Option (Func × (Nat → Keep))
  | 3 => some (Tryd.f3, lv0)
  | 5 => some (Tryd.f5, lv0)
  | 6 => some (Tryd.f6, lvFew)
  | 13 => some (Tryd.f13, lv0)
  | 8 => some (Tryd.f8, lv0)
  | 21 => some (Tryd.f21, lvShown)
  | 9 => some (Tryd.f9, lvRefLines)
  | 7 => some (Tryd.f7, lvLines)
  | 12 => some (Tryd.f12, lv0)
  | 10 => some (Tryd.f10, lv0)
  | 14 => some (Tryd.f14, lv0)
  | 15 => some (Tryd.f15, lv0)
  | 32 => some (Tryd.f32, lv0)
  | 16 => some (Tryd.f16, lv0)
  | 17 => some (Tryd.f17, lvOr)
  | 18 => some (Tryd.f18, lv0)
  | 20 => some (Tryd.f20, lv0)
  | 22 => some (Tryd.f22, lvRead)
  | 25 => some (Tryd.f25, lv0)
  | 26 => some (Tryd.f26, lv0)
  | 27 => some (Tryd.f27, lv0)
  | 28 => some (Tryd.f28, lv0)
  | 29 => some (Tryd.f29, lv0)
  | 30 => some (Tryd.f30, lvIndex)
  | 31 => some (Tryd.f31, lv0)
  | 33 => some (Tryd.f33, lv0)
  | 35 => some (Tryd.f35, lv0)
  | 36 => some (Tryd.f36, lv0)
  | 47 => some (Tryd.f47, lv0)
  | 48 => some (Tryd.f48, lv0)
  | 49 => some (Tryd.f49, lv0)
  | 50 => some (Tryd.f50, lvComment)
  | 38 => some (Tryd.f38, lv0)
  | 54 => some (Tryd.f54, lv0)
  | 43 => some (Tryd.f43, lvIsRead)
  | 58 => some (Tryd.f58, lv0)
  | 45 => some (Tryd.f45, lvIndex)
  | 51 => some (Tryd.f51, lv0)
  | 68 => some (Tryd.f68, lv0)
  | 69 => some (Tryd.f69, lv0)
  | 57 => some (Tryd.f57, lvEqual)
  | 66 => some (Tryd.f66, lvRun)
  | 67 => some (Tryd.f67, lv0)
  | 70 => some (Tryd.f70, lv0)
  | 71 => some (Tryd.f71, lv0)
  | 72 => some (Tryd.f72, lv0)
  | 73 => some (Tryd.f73, lvNumber)
  | 74 => some (Tryd.f74, lv0)
  | 75 => some (Tryd.f75, lvSymbol)
  | _ => none
def planRo : FuncId → Bool
  | 35 => true
  | 47 => true
  | _ => false
/-- What Go's library does, by its contracts. -/
def spansB (a b c : Int) : Bool := decide (b ≤ a) && decide (a ≤ c)
def oddRune (x : Nat) : Bool := decide ((x : Int) < 32) || decide ((x : Int) > 126)
def letterB (n : Nat) : Bool := spansB n 97 122 || spansB n 65 90
noncomputable def planExt : Oracle := fun f args bs =>
  match bs with
  | [] => (match f, args with
    | 19, [.str s, .fn g []] => if g = 20 then some (.bool (decide (0 ≤ Lib.idxFunc oddRune true ⟨s.toArray⟩)), [])
        else if g = 69 then some (.bool (decide (0 ≤ Lib.idxFunc (fun x => letterB (x % 256)) true ⟨s.toArray⟩)), []) else none
    | 44, [.str s, .str [b]] => if b.toNat < 128 ∧ s.length ≤ 9223372036854775807 then some (.str (Lib.trimB s b), []) else none
    | 83, [.str s, .int .u8 b] => some (.int .i64 (Lib.indexByte s b.toNat.toUInt8), [])
    | 84, [.str s, .str [b]] => some (.bool (decide (0 ≤ Lib.indexByte s b)), [])
    | 82, [.str s] => if s.length < 4294967281 ∧ s.all (fun b => decide (b.toNat < 128)) = true then some (.sl 1 ((Lib.fields s).map fun x => [.str x]) .clip, []) else none
    | 24, [.str s, .int .i64 n] => if 0 ≤ n ∧ n ≤ 9223372036854775807 ∧ s.length * n.toNat ≤ 140737488355328 then some (.str (Lib.repeatL s n.toNat), []) else none
    | _, _ => none)
  | _ => none
noncomputable def plan : Plan := ⟨Tryd.prog, planFn, planRo, planExt⟩
end Go.Proofs.YtlmmgblghgmgeaaDoor
