/- Which functions of this seat are evaluated by their code, and what their loops keep. -/
import Derived.Test.YtlmmgblghgmgeaaDoorTab
import Derived.Test.YtlmmgblghgmgeaaDoorEvZ
import Derived.Test.YtlmmgblghgmgeaaDoorShelf
namespace Go.Proofs.YtlmmgblghgmgeaaDoor
open Go Ev

def lv0 : Nat → Keep := fun _ => ⟨[], [], by decide, by decide⟩
def lvL (l : List (Nat × Option Nat)) (c : List (Nat × Nat × Nat)) (h1 : (l.map (·.1)).Nodup) (h2 : l.all (fun s => decide (s.1 < 500000)) = true) : Nat → Keep := fun _ => ⟨l, c, h1, h2⟩
def lvRun : Nat → Keep := lvL [(0, none), (1, none), (7, none), (8, none)] [] (by decide) (by decide)
def lvOr : Nat → Keep := lvL [(3, none), (6, none), (7, none), (8, none)] [] (by decide) (by decide)
def lvNumber : Nat → Keep := lvL [(0, none), (2, none), (3, none), (6, none), (7, none)] [] (by decide) (by decide)
def lvSymbol : Nat → Keep := fun id => if id < 5 then ⟨[(0, none), (2, none), (3, none), (9, none), (10, none), (11, none)], [], by decide, by decide⟩ else ⟨[(0, none), (2, none), (3, none), (23, none), (24, none), (25, none)], [], by decide, by decide⟩
def lvRead : Nat → Keep := lvL [(3, none), (7, none), (21, none)] [(500021, 3, 4), (500021, 4, 4)] (by decide) (by decide)
def lvIsRead : Nat → Keep := lvL [(1, none), (5, none), (11, none)] [(500011, 3, 4), (500011, 4, 4)] (by decide) (by decide)
def lvComment : Nat → Keep := lvL [(0, none), (3, none)] [] (by decide) (by decide)
def lvEqual : Nat → Keep := lvL [(1, none), (2, none), (15, none), (16, none), (17, none)] [] (by decide) (by decide)
def lvLines : Nat → Keep := lvL [(0, none), (10, none), (11, none), (12, none)] [] (by decide) (by decide)
def lvRefLines : Nat → Keep := lvL [(0, none), (4, none)] [] (by decide) (by decide)
def lvFew : Nat → Keep := lvL [(0, none), (3, none)] [] (by decide) (by decide)
def lvShown : Nat → Keep := lvL [(0, none), (5, none)] [] (by decide) (by decide)
def lvIndex : Nat → Keep := lvL [(0, none), (1, none), (7, none), (8, none)] [] (by decide) (by decide)

noncomputable def planFn : FuncId → Option (Func × (Nat → Keep))
  | 3 => some (Tryd.f3, lv0)
  | 5 => some (Tryd.f5, lv0)
  | 6 => some (Tryd.f6, lvFew)
  | 13 => some (Tryd.f13, lv0)
  | 8 => some (Tryd.f8, lv0)
  | 21 => some (Tryd.f21, lvShown)
  | 9 => some (Tryd.f9, lvRefLines)
  | 7 => some (Tryd.f7, lvLines)
  | 12 => some (Tryd.f12, lv0)
  | 10 => some (Tryd.f10, lv0)
  | 14 => some (Tryd.f14, lv0)
  | 15 => some (Tryd.f15, lv0)
  | 32 => some (Tryd.f32, lv0)
  | 16 => some (Tryd.f16, lv0)
  | 17 => some (Tryd.f17, lvOr)
  | 18 => some (Tryd.f18, lv0)
  | 20 => some (Tryd.f20, lv0)
  | 22 => some (Tryd.f22, lvRead)
  | 25 => some (Tryd.f25, lv0)
  | 26 => some (Tryd.f26, lv0)
  | 27 => some (Tryd.f27, lv0)
  | 28 => some (Tryd.f28, lv0)
  | 29 => some (Tryd.f29, lv0)
  | 30 => some (Tryd.f30, lvIndex)
  | 31 => some (Tryd.f31, lv0)
  | 33 => some (Tryd.f33, lv0)
  | 35 => some (Tryd.f35, lv0)
  | 36 => some (Tryd.f36, lv0)
  | 47 => some (Tryd.f47, lv0)
  | 48 => some (Tryd.f48, lv0)
  | 49 => some (Tryd.f49, lv0)
  | 50 => some (Tryd.f50, lvComment)
  | 38 => some (Tryd.f38, lv0)
  | 54 => some (Tryd.f54, lv0)
  | 43 => some (Tryd.f43, lvIsRead)
  | 58 => some (Tryd.f58, lv0)
  | 45 => some (Tryd.f45, lvIndex)
  | 51 => some (Tryd.f51, lv0)
  | 68 => some (Tryd.f68, lv0)
  | 69 => some (Tryd.f69, lv0)
  | 57 => some (Tryd.f57, lvEqual)
  | 66 => some (Tryd.f66, lvRun)
  | 67 => some (Tryd.f67, lv0)
  | 70 => some (Tryd.f70, lv0)
  | 71 => some (Tryd.f71, lv0)
  | 72 => some (Tryd.f72, lv0)
  | 73 => some (Tryd.f73, lvNumber)
  | 74 => some (Tryd.f74, lv0)
  | 75 => some (Tryd.f75, lvSymbol)
  | _ => none
def planRo : FuncId → Bool
  | 35 => true
  | 47 => true
  | _ => false
/-- What Go's library does, by its contracts. -/
def spansB (a b c : Int) : Bool := decide (b ≤ a) && decide (a ≤ c)
def oddRune (x : Nat) : Bool := decide ((x : Int) < 32) || decide ((x : Int) > 126)
def letterB (n : Nat) : Bool := spansB n 97 122 || spansB n 65 90
noncomputable def planExt : Oracle := fun f args bs =>
  match bs with
  | [] => (match f, args with
    | 19, [.str s, .fn g []] => if g = 20 then some (.bool (decide (0 ≤ Lib.idxFunc oddRune true ⟨s.toArray⟩)), [])
        else if g = 69 then some (.bool (decide (0 ≤ Lib.idxFunc (fun x => letterB (x % 256)) true ⟨s.toArray⟩)), []) else none
    | 44, [.str s, .str [b]] => if b.toNat < 128 ∧ s.length ≤ 9223372036854775807 then some (.str (Lib.trimB s b), []) else none
    | 83, [.str s, .int .u8 b] => some (.int .i64 (Lib.indexByte s b.toNat.toUInt8), [])
    | 84, [.str s, .str [b]] => some (.bool (decide (0 ≤ Lib.indexByte s b)), [])
    | 82, [.str s] => if s.length < 4294967281 ∧ s.all (fun b => decide (b.toNat < 128)) = true then some (.sl 1 ((Lib.fields s).map fun x => [.str x]) .clip, []) else none
    | 24, [.str s, .int .i64 n] => if 0 ≤ n ∧ n ≤ 9223372036854775807 ∧ s.length * n.toNat ≤ 140737488355328 then some (.str (Lib.repeatL s n.toNat), []) else none
    | _, _ => none)
  | _ => none
noncomputable def plan : Plan := ⟨Tryd.prog, planFn, planRo, planExt⟩
end Go.Proofs.YtlmmgblghgmgeaaDoor
