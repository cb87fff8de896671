/- A verified evaluator of the model's code over abstract values: the texts EvA, EvB, EvC, EvD, EvE. -/
import Derived.Orders
import Derived.Laws.Sem
import Derived.Laws.Rows
import Derived.Laws.World
import Derived.Lib.Space
import Derived.Laws.Build
import Derived.Laws.Strings
import Derived.Laws.StructEq
set_option linter.unusedVariables false
set_option linter.unusedSimpArgs false
/- A verified evaluator, part A: abstract values and what one operation makes of them. -/
namespace Ev
open Go

abbrev Str := List UInt8

/-- What is known of a slice's room: it is nil; nothing; it has no room; it is the named row's tip, that may be appended to in place. -/
inductive Tok where
  | nil | none | clip | row (a b : Nat)
  deriving DecidableEq

inductive AV where
  | undef
  | bool (b : Bool)
  | int (k : IntKind) (n : Int)
  | str (s : Str)
  | sl (s : Nat) (els : List (List AV)) (tok : Tok)
  | ptr (id off : Nat)
  | eptr (cells : List AV)
  | pnil
  | fn (f : FuncId) (cap : List AV)
  | fnil
  | agg (cells : List AV)
  | tup (vs : List AV)

abbrev Box := List AV
abbrev Tmps := Nat → AV
structure Mem where
  boxes : Nat → Option Box
  names : Nat → Nat → Option Bool
  froz : Nat → Bool := fun _ => false

def upd {α : Type} (f : Nat → α) (d : Nat) (v : α) : Nat → α := fun i => if i = d then v else f i
@[simp] theorem upd_apply {α : Type} (f : Nat → α) (d : Nat) (v : α) (i : Nat) : upd f d v i = if i = d then v else f i := rfl
def upd2 (f : Nat → Nat → Option Bool) (d e : Nat) (v : Bool) : Nat → Nat → Option Bool := fun i j => if i = d ∧ j = e then some v else f i j
@[simp] theorem upd2_apply (f : Nat → Nat → Option Bool) (d e : Nat) (v : Bool) (i j : Nat) : upd2 f d e v i j = if i = d ∧ j = e then some v else f i j := rfl
def ofL {α : Type} (z : α) : List (Nat × α) → Nat → α
  | [], _ => z
  | (j, v) :: r, i => if i = j then v else ofL z r i
def ofB : List (Nat × Box) → Nat → Option Box
  | [], _ => Option.none
  | (j, v) :: r, i => if i = j then some v else ofB r i
def rowName : AV → Option (Nat × Nat)
  | .sl _ _ (.row p q) => some (p, q)
  | _ => Option.none
/-- The names of the rows whose tips stand in a list. -/
def namesOf : List AV → Nat → Nat → Option Bool
  | [], _, _ => Option.none
  | y :: r, a, b => if rowName y = some (a, b) then some true else namesOf r a b

mutual
/-- A constant's abstract value. -/
def ofValue : Value → AV
  | .bool b => .bool b
  | .int k n => .int k n
  | .string s => .str s.data.toList
  | .pointer Option.none => .pnil
  | .slice Option.none 0 0 => .sl 0 [] .nil
  | .nilFunc => .fnil
  | .agg ⟨cs⟩ => if cs.all Value.oneCell' then .agg (ofValues cs) else .undef
  | _ => .undef
def ofValues : List Value → List AV
  | [] => []
  | v :: r => ofValue v :: ofValues r
end

/-- A value that is put into another one: it may be appended to no more; a pointer to a box is forgotten. -/
def AV.bare : AV → AV
  | .sl s els (.row _ _) => .sl s els .none
  | .ptr _ _ => .undef
  | .tup _ => .undef
  | v => v
def AV.cells : AV → List AV
  | .agg cs => cs
  | .undef => []
  | .tup _ => []
  | v => [v.bare]
def AV.isVal : AV → Bool
  | .undef => false
  | .tup _ => false
  | _ => true
/-- One cell's value, of a kind that is known. -/
def AV.one : AV → Bool
  | .undef => false
  | .tup _ => false
  | .agg _ => false
  | _ => true

section
variable (P : Program)

def aggT (t : TypeId) : Option Bool :=
  match P.underlying t with
  | some (.struct _) | some (.array _ _) => some true
  | some _ => some false
  | Option.none => Option.none
def tsz (t : TypeId) : Option Nat := (P.info? t).map (·.size)
def tbytes (t : TypeId) : Option Nat := (P.info? t).map (·.bytes)
def placesOf (t : TypeId) : Option (List (Nat × Nat)) :=
  match P.underlying t with
  | some (.struct fs) => fs.toList.mapM (fun f => (P.info? f.type).map fun i => (f.offset, i.size))
  | some (.array n e) => (P.info? e).map fun ie => (List.range n).map fun i => (i * ie.size, ie.size)
  | _ => Option.none
/-- An array's length, its elements' type and size. -/
def arrT (t : TypeId) : Option (Nat × Nat) :=
  match P.underlying t with
  | some (.array n e) => (tsz P e).map fun z => (n, z)
  | _ => Option.none
def zeroOf (t : TypeId) : Option AV := (P.info? t).bind fun i => i.zero.map ofValue
def elemT (t : TypeId) : Option TypeId :=
  match P.underlying t with
  | some (.slice e) => some e
  | _ => Option.none
def fieldT (t : TypeId) (i : Nat) : Option (Nat × TypeId) :=
  match P.underlying t with
  | some (.struct fs) => fs[i]?.bind fun f => match tsz P f.type with
    | some (_ + 1) => some (f.offset, f.type)
    | _ => Option.none
  | _ => Option.none

/-- A part of cells as a value of a type. -/
def partOf (t : TypeId) (cs : List AV) (off : Nat) : Option AV :=
  match aggT P t, tsz P t with
  | some true, some n => if off + n ≤ cs.length then some (.agg (((cs.drop off).take n).map AV.bare)) else Option.none
  | some false, _ => cs[off]?
  | _, _ => Option.none

def setCells (cs : List AV) (off : Nat) : List AV → List AV
  | [] => cs
  | v :: r => setCells (cs.set off v) (off + 1) r

def fillC (place : Nat → Option (Nat × Nat)) (cells : List AV) : List (Nat × AV) → Option (List AV)
  | [] => some cells
  | (i, v) :: rest =>
    match place i with
    | Option.none => Option.none
    | some (off, size) =>
      if v.cells.length = size ∧ off + size ≤ cells.length then fillC place (setCells cells off v.cells) rest else Option.none

def abin (op : BinOp) : AV → AV → Option AV
  | .int k a, .int k' b =>
    match op with
    | .shl => if 0 ≤ b then some (.int k (k.wrap (a * 2 ^ (min b.toNat k.bits)))) else Option.none
    | .shr => if 0 ≤ b then some (.int k (a.fdiv (2 ^ (min b.toNat k.bits)))) else Option.none
    | _ => if k = k' then
        (match op with
        | .add => some (.int k (k.wrap (a + b)))
        | .sub => some (.int k (k.wrap (a - b)))
        | .mul => some (.int k (k.wrap (a * b)))
        | .quo => if b = 0 then Option.none else some (.int k (k.wrap (a.tdiv b)))
        | .rem => if b = 0 then Option.none else some (.int k (a.tmod b))
        | .eql => some (.bool (a == b))
        | .neq => some (.bool (a != b))
        | .lss => some (.bool (decide (a < b)))
        | .leq => some (.bool (decide (a ≤ b)))
        | .gtr => some (.bool (decide (a > b)))
        | .geq => some (.bool (decide (a ≥ b)))
        | _ => Option.none)
      else Option.none
  | .str a, .str b =>
    match op with
    | .add => if a.length + b.length ≤ 9223372036854775807 then some (.str (a ++ b)) else Option.none
    | .eql => some (.bool (a == b))
    | .neq => some (.bool !(a == b))
    | .lss => some (.bool (Op.bytesLess a b))
    | .leq => some (.bool (Op.bytesLess a b || a == b))
    | .gtr => some (.bool !(Op.bytesLess a b || a == b))
    | .geq => some (.bool !(Op.bytesLess a b))
    | _ => Option.none
  | _, _ => Option.none

/-- '==' between Bools, strings, numbers, or structs of those. -/
def aeqF (f : TypeId → AV → AV → Option Bool) (xs ys : List AV) : List Field → Option Bool
  | [] => some true
  | x :: r => if x.name ≠ "_" then (match partOf P x.type xs x.offset, partOf P x.type ys x.offset with
      | some a, some b => (match f x.type a b, aeqF f xs ys r with
        | some p, some q => some (p && q)
        | _, _ => Option.none)
      | _, _ => Option.none) else aeqF f xs ys r
def aeq : Nat → TypeId → AV → AV → Option Bool
  | 0, _, _, _ => Option.none
  | d + 1, t, x, y => match P.underlying t, x, y with
    | some .bool, .bool a, .bool b => some (a == b)
    | some (.int _), .int k a, .int k' b => if k = k' then some (a == b) else Option.none
    | some .string, .str a, .str b => some (a == b)
    | some (.struct fs), .agg xs, .agg ys => if P.stoodInHeld t then Option.none else aeqF P (aeq d) xs ys fs.toList
    | _, _, _ => Option.none
/-- '==' on structs, and with nil. -/
def acmp (t : TypeId) : AV → AV → Option Bool
  | .agg xs, .agg ys => if P.eqGuardType P.depth t then Option.none else aeq P 9 t (.agg xs) (.agg ys)
  | .sl _ _ .nil, .sl _ _ .nil => (elemT P t).map fun _ => true
  | .sl _ ((_ :: _) :: _) _, .sl _ _ .nil => (elemT P t).map fun _ => false
  | .pnil, .pnil => (match P.underlying t with | some (.pointer _) => some true | _ => Option.none)
  | .ptr _ _, .pnil => (match P.underlying t with | some (.pointer _) => some false | _ => Option.none)
  | .eptr _, .pnil => (match P.underlying t with | some (.pointer _) => some false | _ => Option.none)
  | .fnil, .fnil => (match P.underlying t with | some (.func _ _ _) => some true | _ => Option.none)
  | .fn _ _, .fnil => (match P.underlying t with | some (.func _ _ _) => some false | _ => Option.none)
  | _, _ => Option.none
def acmpOp (op : BinOp) (t : TypeId) (x y : AV) : Option AV :=
  match op with
  | .eql => (acmp P t x y).map .bool
  | .neq => (acmp P t x y).map fun b => .bool !b
  | _ => Option.none

def abound (o : Option AV) (d : Nat) : Option Nat :=
  match o with
  | Option.none => some d
  | some (.int _ n) => if 0 ≤ n then some n.toNat else Option.none
  | _ => Option.none
def aslice (x : AV) (lo hi : Option AV) : Option AV :=
  match x with
  | .str s =>
    (abound hi s.length).bind fun h => (abound lo 0).bind fun l =>
      if l ≤ h ∧ h ≤ s.length then some (.str ((s.take h).drop l)) else Option.none
  | .sl z els tok =>
    (abound hi els.length).bind fun h => (abound lo 0).bind fun l =>
      if l ≤ h ∧ h ≤ els.length then some (.sl z ((els.take h).drop l) .none) else Option.none
  | _ => Option.none

/-- The slots that an operation is handed. -/
def lkL : List Operand → List Nat
  | [] => []
  | .tmp i :: r => i :: lkL r
  | _ :: r => lkL r
def lessL (D : List Nat) (l : List Operand) : List Nat := D.filter fun i => !(lkL l).contains i
abbrev Oracle := FuncId → List AV → List (Nat × Box) → Option (AV × List (Nat × Box))

/-- append: where its result goes, the element type, the slice, what is appended. D: in a statement whose order is open, the slots that it writes. -/
def aappend (D : List Nat) (d : Nat) (e : TypeId) (m : Mem) (x : AV) (new : List (List AV)) : Option (AV × Mem) :=
  match x with
  | .sl s els tok =>
    match tsz P e, tbytes P e, zeroOf P e with
    | some z, some by_, some zv =>
      if by_ ≠ 0 ∧ z ≠ 0 ∧ zv.isVal ∧ zv.cells.length = z ∧ (els.length + new.length) * by_ ≤ 70368744177664 ∧ (s = z ∨ els = [] ∧ tok = .nil) ∧ m.names d 0 = Option.none then
        (match tok with
        | .nil | .clip => some (.sl z (els ++ new) (.row d 0), { m with names := upd2 m.names d 0 true })
        | .row a b => if m.names a b = some true ∧ ¬ a ∈ D then some (.sl z (els ++ new) (.row d 0), { m with names := upd2 (upd2 m.names a b false) d 0 true }) else Option.none
        | .none => Option.none)
      else Option.none
    | _, _, _ => Option.none
  | _ => Option.none

def avAll : List (Option AV) → Option (List AV)
  | [] => some []
  | some v :: r => (avAll r).map (v :: ·)
  | Option.none :: _ => Option.none

def opnd (t : Tmps) : Operand → AV
  | .tmp i => t i
  | .const v => ofValue v
  | .global _ => .undef
  | .func f => .fn f []

/-- Rows' tips get new names by where they stand; a tip that is met again, or is none any more, is a plain slice. grow: a nil slice is taken for a row that may grow. -/
def relab1 (names : Nat → Nat → Option Bool) (used : List (Nat × Nat)) (p q : Nat) (grow : Option Nat) : AV → AV × List (Nat × Nat)
  | .sl s els (.row a b) => if names a b = some true ∧ ¬ (a, b) ∈ used then (.sl s els (.row p q), (a, b) :: used) else (.sl s els .none, used)
  | .sl s els .nil => match grow with
    | some z => (.sl z [] (.row p q), used)
    | Option.none => (.sl s els .nil, used)
  | v => (v, used)
def relabL (names : Nat → Nat → Option Bool) (nm : Nat → Nat × Nat) (grow : Nat → Option Nat) : Nat → List (Nat × Nat) → List AV → List AV × List (Nat × Nat)
  | _, used, [] => ([], used)
  | j, used, v :: r =>
    let x := relab1 names used (nm j).1 (nm j).2 (grow j) v
    let y := relabL names nm grow (j + 1) x.2 r
    (x.1 :: y.1, y.2)
def boxName (id j : Nat) : Nat × Nat := (1000000 + id, 1 + j)
def relabB (names : Nat → Nat → Option Bool) (nm : Nat → Nat → Nat × Nat) (grow : Nat → Nat → Option Nat) : List (Nat × Nat) → List (Nat × Box) → List (Nat × Box) × List (Nat × Nat)
  | used, [] => ([], used)
  | used, (id, c) :: r =>
    let x := relabL names (nm id) (grow id) 0 used c
    let y := relabB names nm grow x.2 r
    ((id, x.1) :: y.1, y.2)
def cellsOfB : List (Nat × Box) → List AV
  | [] => []
  | (_, c) :: r => c ++ cellsOfB r

/-- The boxes that a call is handed, each once: the arguments, which box stands at which place, the boxes. -/
def passed (m : Mem) : List AV → Nat → List Nat → Option (List AV × List (Nat × Nat) × List (Nat × Box))
  | [], _, _ => some ([], [], [])
  | .ptr id off :: r, i, seen =>
    if off = 0 ∧ ¬ id ∈ seen ∧ m.froz id = false then
      match m.boxes id, passed m r (i + 1) (id :: seen) with
      | some c, some (vs, ids, bs) => some (.ptr i 0 :: vs, (i, id) :: ids, (i, c) :: bs)
      | _, _ => Option.none
    else Option.none
  | v :: r, i, seen => match passed m r (i + 1) seen with
      | some (vs, ids, bs) => some (v.bare :: vs, ids, bs)
      | Option.none => Option.none

def noPtr : List AV → Bool
  | [] => true
  | .ptr _ _ :: _ => false
  | _ :: r => noPtr r
/-- No slice and no pointer. -/
def AV.scalar : AV → Bool
  | .bool _ | .int _ _ | .str _ => true
  | _ => false
def scalarR : AV → Bool
  | .agg vs | .tup vs => vs.all AV.scalar
  | v => v.scalar
/-- The arguments as they are seen by a function that only reads. -/
def viewed (boxes : Nat → Option Box) : List AV → Option (List AV)
  | [] => some []
  | .ptr id off :: r => match boxes id, viewed boxes r with
    | some c, some vs => some (.eptr ((c.drop off).map AV.bare) :: vs)
    | _, _ => Option.none
  | v :: r => (viewed boxes r).map (v.bare :: ·)

/-- A call's result in the caller's names: slices that may be appended to. -/
def freshAll (names : Nat → Nat → Option Bool) : List AV → Bool
  | [] => true
  | y :: r => (match rowName y with | some (a, b) => (names a b).isNone | Option.none => true) && freshAll names r
def addNames (names : Nat → Nat → Option Bool) : List AV → Nat → Nat → Option Bool
  | [], a, b => names a b
  | y :: r, a, b => if rowName y = some (a, b) then some true else addNames names r a b
def killNames (names : Nat → Nat → Option Bool) : List AV → Nat → Nat → Option Bool
  | [], a, b => names a b
  | y :: r, a, b => if rowName y = some (a, b) then some false else killNames names r a b
def resParts : AV → List AV
  | .tup vs => vs
  | v => [v]
def resBack (r : AV) (vs : List AV) : AV :=
  match r with
  | .tup _ => .tup vs
  | v => vs.headD v
def adopt (d : Nat) (used : List (Nat × Nat)) (m : Mem) (r : AV) : Option (AV × Mem) :=
  let vs := (relabL (fun _ _ => some true) (fun c => (d, c)) (fun _ => Option.none) 0 used (resParts r)).1
  if noPtr vs ∧ freshAll m.names vs then some (resBack r vs, { m with names := addNames m.names vs }) else Option.none

def setBoxes (boxes : Nat → Option Box) (ids : List (Nat × Nat)) : List (Nat × Box) → Nat → Option Box
  | [] => boxes
  | (i, c) :: r => match ids.lookup i with
    | some id => upd (setBoxes boxes ids r) id (some c)
    | Option.none => setBoxes boxes ids r

/-- In a statement whose order is open: no box that the statement itself makes is read. -/
def mayRead (D : Option (List Nat)) (id : Nat) : Bool :=
  match D with
  | some l => !(l.map (· + 500000)).contains id
  | Option.none => true

/-- The boxes that values point to. -/
def capIds : List AV → List Nat
  | [] => []
  | .ptr id _ :: r => id :: capIds r
  | _ :: r => capIds r
def acall (C : Oracle) (ro : FuncId → Bool) (D : Option (List Nat)) (d : Nat) (f : FuncId) (args : List AV) (m : Mem) : Option (AV × Mem) :=
  if noPtr args then
    match C f (args.map AV.bare) [] with
    | some (r, []) => adopt d [] m r
    | _ => Option.none
  else if ro f then
    if (capIds args).all (mayRead D) then
    match viewed m.boxes args with
    | some vs => match C f vs [] with
      | some (r, []) => if scalarR r then some (r, m) else Option.none
      | _ => Option.none
    | Option.none => Option.none
    else Option.none
  else if D.isSome then Option.none
  else match passed m args 0 [] with
    | some (vs, ids, bs) =>
      match C f vs (relabB m.names boxName (fun _ _ => Option.none) [] bs).1 with
      | some (r, bs') =>
        if (bs'.map (·.1)) = bs.map (·.1) then
          (let x := relabB (fun _ _ => some true) (fun i j => (d + 1000 * (i + 1), j)) (fun _ _ => Option.none) [] bs'
           let names := killNames m.names (cellsOfB bs)
           if freshAll m.names (cellsOfB x.1) then adopt d x.2 { m with boxes := setBoxes m.boxes ids x.1, names := addNames names (cellsOfB x.1) } r else Option.none)
        else Option.none
      | Option.none => Option.none
    | Option.none => Option.none

def aminmax (isMax : Bool) : List AV → Option AV
  | [.int k a, .int _ b] => some (.int k (if isMax then (if b > a then b else a) else (if b < a then b else a)))
  | _ => Option.none

/-- What a closure captures: a box that is captured is written no more. -/
def capture (D : Option (List Nat)) (m : Mem) : List AV → Option (List AV × Mem)
  | [] => some ([], m)
  | .ptr id off :: r => if mayRead D id then (match m.boxes id, capture D m r with
    | some c, some (vs, m') => some (.eptr ((c.drop off).map AV.bare) :: vs, { m' with froz := fun i => if i = id then true else m'.froz i })
    | _, _ => Option.none) else Option.none
  | v :: r => match capture D m r with
    | some (vs, m') => some (v.bare :: vs, m')
    | Option.none => Option.none

/-- What one operation gives, and what becomes of the memory. -/
def aop (C : Oracle) (ro : FuncId → Bool) (D : Option (List Nat)) (o : Op) (d : Nat) (ρ : Operand → AV) (m : Mem) : Option (AV × Mem) :=
  match o with
  | .move x | .assign x => some (ρ x, m)
  | .pick c a b => match ρ c with | .bool t => some (bif t then ρ a else ρ b, m) | _ => Option.none
  | .alloc e => match zeroOf P e, m.boxes (d + 500000) with
    | some z, Option.none => if z.isVal = false then Option.none else some (.ptr (d + 500000) 0, { m with boxes := upd m.boxes (d + 500000) (some z.cells), froz := upd m.froz (d + 500000) false })
    | _, _ => Option.none
  | .box e x => match m.boxes (d + 500000) with
    | Option.none => if (ρ x).isVal = false then Option.none else some (.ptr (d + 500000) 0, { m with boxes := upd m.boxes (d + 500000) (some (ρ x).cells), froz := upd m.froz (d + 500000) false })
    | _ => Option.none
  | .build t ps => match zeroOf P t, placesOf P t with
    | some z, some places => if z.isVal ∧ (ps.toList.all fun p => (ρ p.2).isVal) then (fillC (fun i => places[i]?) z.cells (ps.toList.map fun p => (p.1, ρ p.2))).map fun cs => (.agg cs, m) else Option.none
    | _, _ => Option.none
  | .buildSlice t len ps => match elemT P t with
    | some e => match zeroOf P e, tsz P e with
      | some z, some n =>
        if len * n ≤ 16777216 ∧ z.isVal ∧ z.cells.length = n ∧ n ≠ 0 ∧ ps.toList.map (·.1) = List.range len ∧ (ps.toList.all fun p => (ρ p.2).isVal && (ρ p.2).cells.length == n) then
          some (.sl n (ps.toList.map fun p => (ρ p.2).cells) .clip, m)
        else Option.none
      | _, _ => Option.none
    | Option.none => Option.none
  | .load t a => match ρ a with
    | .ptr id off => if mayRead D id then (match m.boxes id with
        | some c => (partOf P t c off).map fun v => (v, m)
        | Option.none => Option.none) else Option.none
    | .eptr c => (partOf P t c 0).map fun v => (v, m)
    | _ => Option.none
  | .store t a x => match ρ a with
    | .ptr id off => match m.boxes id with
      | some c => if some (ρ x).cells.length = tsz P t ∧ off + (ρ x).cells.length ≤ c.length ∧ m.froz id = false ∧ (ρ x).isVal then some (.tup [], { m with boxes := upd m.boxes id (some (match ρ x with
          | .agg cs => setCells c off cs
          | .sl s els tok => c.set off (.sl s els tok)
          | v => c.set off v.bare)) }) else Option.none
      | Option.none => Option.none
    | _ => Option.none
  | .nilCheck x => match ρ x with
    | .ptr id off => some (.ptr id off, m)
    | .eptr c => some (.eptr c, m)
    | _ => Option.none
  | .binOp op t x y _ => match ρ x, ρ y with
    | .bool a, .bool b => match op, P.underlying t with
      | .eql, some .bool => some (.bool (a == b), m)
      | .neq, some .bool => some (.bool !(a == b), m)
      | _, _ => Option.none
    | a, b => match abin op a b with
      | some v => some (v, m)
      | Option.none => (acmpOp P op t a b).map fun v => (v, m)
  | .unOp op _ x => match op, ρ x with
    | .not, .bool b => some (.bool !b, m)
    | .neg, .int k n => some (.int k (k.wrap (0 - n)), m)
    | _, _ => Option.none
  | .convert src dst x => match P.underlying dst, ρ x with
    | some (.int k), .int _ n => if (P.underlying src).isSome then some (.int k (k.wrap n), m) else Option.none
    | some .string, .str s => if (P.underlying src).isSome then some (.str s, m) else Option.none
    | _, _ => Option.none
  | .makeFunc (.func f) fs caps => if fs = #[] then (match capture D m (caps.toList.map ρ) with
      | some (vs, m') => some (.fn f vs, m')
      | Option.none => Option.none) else Option.none
  | .slice t x lo hi Option.none => match P.underlying t, ρ x with
    | some .string, .str s => (aslice (.str s) (lo.map ρ) (hi.map ρ)).map fun v => (v, m)
    | some (.slice e), .sl z els tok => if some z = tsz P e ∨ els = [] ∧ (tsz P e).isSome then (aslice (.sl z els tok) (lo.map ρ) (hi.map ρ)).map fun v => (v, m) else Option.none
    | _, _ => Option.none
  | .fieldAddr t x i => match ρ x, fieldT P t i with
    | .ptr id off, some (o, _) => some (.ptr id (off + o), m)
    | .eptr c, some (o, _) => some (.eptr (c.drop o), m)
    | _, _ => Option.none
  | .field t x i => match ρ x, fieldT P t i with
    | .agg c, some (o, ft) => (partOf P ft c o).map fun v => (v, m)
    | _, _ => Option.none
  | .indexAddr t x i => match ρ x, ρ i, elemT P t with
    | .sl s els _, .int _ n, some e => if 0 ≤ n ∧ n < els.length ∧ some s = tsz P e ∧ s ≠ 0 then some (.eptr (els.getD n.toNat []), m) else Option.none
    | .eptr cs, .int _ n, Option.none => match arrT P t with
      | some (len, z) => if 0 ≤ n ∧ n < len then some (.eptr (cs.drop (n.toNat * z)), m) else Option.none
      | Option.none => Option.none
    | _, _, _ => Option.none
  | .index t x i => match P.underlying t, ρ x, ρ i with
    | some .string, .str s, .int _ n => if 0 ≤ n ∧ n < s.length then some (.int .u8 (s.getD n.toNat 0).toNat, m) else Option.none
    | _, _, _ => Option.none
  | .extract x i => match ρ x with | .tup vs => (vs[i]?).map fun a => (a, m) | _ => Option.none
  | .call c =>
    match c.callee with
    | .builtin .len => (match c.args.toList.map ρ, c.argTypes.toList.head?.bind P.underlying with
      | [.str s], some .string => some (.int .i64 s.length, m)
      | [.sl _ els _], some (.slice _) => some (.int .i64 els.length, m)
      | _, _ => Option.none)
    | .builtin .min => (aminmax false (c.args.toList.map ρ)).map fun v => (v, m)
    | .builtin .max => (aminmax true (c.args.toList.map ρ)).map fun v => (v, m)
    | .builtin .append => (match c.argTypes.toList with
      | [t1, t2] => (match elemT P t1, P.underlying t2, c.args.toList.map ρ with
        | some e, some (.slice _), [x, .sl s els _] => if some s = tsz P e ∨ els = [] then aappend P (lessL (D.getD []) c.args.toList) d e m x els else Option.none
        | _, _, _ => Option.none)
      | _ => Option.none)
    | .value f => (match ρ f with
      | .fn g caps => acall C ro D d g (c.args.toList.map ρ ++ caps) m
      | _ => Option.none)
    | _ => Option.none
  | _ => Option.none

/-- What a loop keeps at its head: slots (with the size of the elements, where a nil slice is taken for one that may grow), and such cells of boxes. -/
structure Keep where
  slots : List (Nat × Option Nat)
  cells : List (Nat × Nat × Nat) := []
  nd : (slots.map (·.1)).Nodup := by decide
  small : slots.all (fun s => decide (s.1 < 500000)) = true := by decide
/-- A statement whose order is open: the slots that it writes; which of its stores stand in no order with others (the slot of the address, with the slot by which its box was made), and the slots of those others. -/
abbrev DD := List Nat × Keep
def rootsOf (h : Keep) : List Nat := h.slots.filterMap (·.2)
def exposed (h : Keep) (o : Oper) : Bool :=
  match o.dst with
  | some d => h.cells.any fun c => c.1 == d
  | Option.none => false
def dFor (D : Option DD) (o : Oper) : Option (List Nat) :=
  match D with
  | some (l, h) => some (if exposed h o then l ++ rootsOf h else l)
  | Option.none => Option.none
def looseAt (h : Keep) (o : Op) : Option (Nat × Nat) :=
  match o with
  | .store _ (.tmp a) _ => (match h.slots.lookup a with
    | some (some r) => some (a, r)
    | _ => Option.none)
  | _ => Option.none
def isBox (id : Nat) : AV → Bool
  | .ptr i _ => i == id
  | _ => false
def storeFine (D : Option DD) (o : Oper) (t : Tmps) : Bool :=
  match D with
  | some (_, h) => (match looseAt h o.op with
    | some (a, r) => isBox (r + 500000) (t a)
    | Option.none => true)
  | Option.none => true

/-- Is a guarded operation carried out? -/
def isWanted (ops : Array Oper) (g : Option (Nat × Bool)) (t : Tmps) : Option Bool :=
  match g with
  | Option.none => some true
  | some (j, want) => match (ops[j]?).bind (·.dst) with
    | some d => match t d with
      | .bool b => some (b == want)
      | .tup [] => some false
      | _ => Option.none
    | Option.none => some false

def putT (dst : Option Tmp) (v : AV) (t : Tmps) : Tmps :=
  match dst with
  | some d => upd t d v
  | Option.none => t
def okDst (N : Nat) : Option Tmp → Bool
  | some d => decide (d < N)
  | Option.none => true
/-- One operation of a statement, carried out or passed over. N: how many slots there are. -/
def astep (C : Oracle) (ro : FuncId → Bool) (D : Option DD) (N : Nat) (all : Array Oper) (o : Oper) (t : Tmps) (m : Mem) : Option (Tmps × Mem) :=
  if (okDst N o.dst && storeFine D o t) = true then
    match isWanted all o.guard t with
    | some true => match aop P C ro (dFor D o) o.op (o.dst.getD 999999) (opnd t) m with
      | some (v, m') => some (putT o.dst v t, m')
      | Option.none => Option.none
    | some false => some (putT o.dst (.tup []) t, m)
    | Option.none => Option.none
  else Option.none
def evOps {R : Type} (C : Oracle) (ro : FuncId → Bool) (D : Option DD) (N : Nat) (all : Array Oper) : List Oper → Tmps → Mem → (Tmps → Mem → Option R) → Option R
  | [], t, m, K => K t m
  | o :: r, t, m, K => match astep P C ro D N all o t m with
    | some (t', m') => evOps C ro D N all r t' m' K
    | Option.none => Option.none

inductive Ex where
  | normal | exit (id : Nat) | ret
  deriving DecidableEq

/-- What a row of approximations comes to. -/
noncomputable def lim {α : Type} (g : Nat → Option α) : Option α :=
  open Classical in if h : ∃ k r, g k = some r then some (Classical.choose (Classical.choose_spec h)) else Option.none

abbrev Step := Tmps → Mem → Option (Ex × Tmps × Mem)
def iter (step : Step) : Nat → Tmps → Mem → Option (Ex × Tmps × Mem)
  | 0, _, _ => Option.none
  | k + 1, t, m => match step t m with
    | some (.normal, t', m') => iter step k t' m'
    | some r => some r
    | Option.none => Option.none
noncomputable def loopL (step : Step) (t : Tmps) (m : Mem) : Option (Ex × Tmps × Mem) := lim fun k => iter step k t m

def keepBoxes (boxes : Nat → Option Box) : List (Nat × Option Nat) → List (Nat × Box)
  | [] => []
  | (s, _) :: r => match boxes s, boxes (s + 500000) with
    | some c, _ => (s, c) :: keepBoxes boxes r
    | Option.none, some c => (s + 500000, c) :: keepBoxes boxes r
    | Option.none, Option.none => keepBoxes boxes r
def fixPtr (bs : List (Nat × Box)) : AV → AV
  | .ptr id off => if (bs.map (·.1)).contains id then .ptr id off else .undef
  | .tup _ => .undef
  | v => v
def growOf (l : List (Nat × Nat × Nat)) (id j : Nat) : Option Nat :=
  match l with
  | [] => Option.none
  | (a, b, z) :: r => if a = id ∧ b = j then some z else growOf r id j
def cleanS (names : Nat → Nat → Option Bool) (bs : List (Nat × Box)) (t : Tmps) : List (Nat × Nat) → List (Nat × Option Nat) → List (Nat × AV) × List (Nat × Nat)
  | used, [] => ([], used)
  | used, (s, g) :: r =>
    let x := relab1 names used (1000000 + s) 0 g (fixPtr bs (t s))
    let y := cleanS names bs t x.2 r
    ((s, x.1) :: y.1, y.2)
/-- A frame at a loop's head: what the loop keeps, in canonical names. -/
def clean (L : Keep) (t : Tmps) (m : Mem) : Tmps × Mem :=
  let bs := keepBoxes m.boxes L.slots
  let x := relabB m.names boxName (growOf L.cells) [] bs
  let y := cleanS m.names bs t x.2 L.slots
  (ofL .undef y.1, { boxes := ofB x.1, names := namesOf (cellsOfB x.1 ++ y.1.map (·.2)), froz := m.froz })

def firstRegion : Code → Nat
  | .seq a _ => firstRegion a
  | .region i _ _ => i
  | .block _ a => firstRegion a
  | _ => 0
def dsts (ops : Array Oper) : List Nat := ops.toList.filterMap (·.dst)

structure Env where
  C : Oracle
  ro : FuncId → Bool
  lv : Nat → Keep
  N : Nat

mutual
noncomputable def evCode {R : Type} (E : Env) : Code → Tmps → Mem → (Ex → Tmps → Mem → Option R) → Option R
  | .skip, t, m, K => K .normal t m
  | .seq a b, t, m, K => evCode E a t m fun e t' m' => match e with | .normal => evCode E b t' m' K | e => K e t' m'
  | .cond c x y, t, m, K => match opnd t c with
    | .bool b => bif b then evCode E x t m K else evCode E y t m K
    | _ => Option.none
  | .block id body, t, m, K => evCode E body t m fun e t' m' => match e with | .exit i => if i = id then K .normal t' m' else K (.exit i) t' m' | e => K e t' m'
  | .loop body, t, m, K =>
    match loopL (fun t m => evCode E body (clean (E.lv (firstRegion body)) t m).1 (clean (E.lv (firstRegion body)) t m).2 (fun e t m => some (e, t, m))) t m with
    | some (e, t', m') => K e t' m'
    | Option.none => Option.none
  | .exit id, t, m, K => K (.exit id) t m
  | .ret, t, m, K => K .ret t m
  | .region id ops draw, t, m, K => evOps P E.C E.ro (if draw then some (dsts ops, E.lv (1000000 + id)) else Option.none) E.N ops ops.toList t m fun t m => K .normal t m
  | _, _, _, _ => Option.none
end

def params : List AV → Nat → Tmps
  | [], _ => fun _ => .undef
  | v :: r, i => upd (params r (i + 1)) i v

def AV.untup : AV → AV
  | .tup _ => .undef
  | v => v
def resOf (t : Tmps) (m : Mem) : ResultVar → Option AV
  | .tmp i => some (t i).untup
  | .cell a ty => match t a with
    | .ptr id off => match m.boxes id with
      | some c => (partOf P ty c off).map AV.untup
      | Option.none => Option.none
    | _ => Option.none
def outBoxes (m : Mem) : List (Nat × Box) → Option (List (Nat × Box))
  | [] => some []
  | (i, _) :: r => match m.boxes i, m.froz i, outBoxes m r with
    | some c, false, some bs => some ((i, c) :: bs)
    | _, _, _ => Option.none
/-- A function's result and the boxes that it was handed, in canonical names. -/
def outOf (fn : Func) (bs : List (Nat × Box)) (t : Tmps) (m : Mem) : Option (AV × List (Nat × Box)) :=
  match avAll (fn.results.toList.map (resOf P t m)), outBoxes m bs with
  | some rs, some bs =>
    let x := relabB m.names boxName (fun _ _ => Option.none) [] bs
    let y := relabL m.names (fun c => (999999, c)) (fun _ => Option.none) 0 x.2 rs
    if noPtr y.1 then some ((match y.1 with | [r] => r | rs => .tup rs), x.1) else Option.none
  | _, _ => Option.none

/-- A box that a result points to is written no more. -/
def freezeT (t : Tmps) (m : Mem) : List ResultVar → Tmps × Mem
  | .tmp i :: r => match t i with
    | .ptr id off => match m.boxes id with
      | some c => freezeT (upd t i (.eptr ((c.drop off).map AV.bare))) { m with froz := fun j => if j = id then true else m.froz j } r
      | Option.none => freezeT t m r
    | _ => freezeT t m r
  | _ :: r => freezeT t m r
  | [] => (t, m)

noncomputable def evFn (E : Env) (fn : Func) (args : List AV) (bs : List (Nat × Box)) : Option (AV × List (Nat × Box)) :=
  match fn.body with
  | some c => if bs.all (fun b => decide (b.1 < 500000)) then evCode P E c (params args 0) { boxes := ofB bs, names := namesOf (cellsOfB bs) } fun e t m =>
      match e with
      | .exit _ => Option.none
      | _ => outOf P fn bs (freezeT t m fn.results.toList).1 (freezeT t m fn.results.toList).2
    else Option.none
  | Option.none => Option.none
end
end Ev

/- A verified evaluator, part B: what an abstract value says of a value, an abstract memory of a world; what stays so. -/
namespace Ev
open Go

/-- W: the cells that the call at hand may still write; N: those that no reading may lead to. -/
structure Own where
  W : Nat → Nat → Prop
  N : Nat → Nat → Prop
  sub : ∀ g off, W g off → N g off

/-- A value's reading. -/
inductive V (own : Own) (w : World) : AV → Value → Prop
  | undef (v : Value) : V own w .undef v
  | bool (b : Bool) : V own w (.bool b) (.bool b)
  | int (k : IntKind) (n : Int) : V own w (.int k n) (.int k n)
  | str (s : Str) : V own w (.str s) (.string ⟨s.toArray⟩)
  | sl (s : Nat) (els : List (List AV)) (tok : Tok) (a : Option Addr) (len cap : Nat) (cv : Nat → Nat → Value)
      (hlen : len = els.length) (hcap : len ≤ cap) (hel : ∀ e ∈ els, e.length = s)
      (hc : ∀ (i j : Nat) (e : List AV) (x : AV), els[i]? = some e → e[j]? = some x → ∃ ad, a = some ad ∧ w.cell? (ad.add (i * s + j)) = some (cv i j) ∧ ¬ own.N ad.block (ad.off + (i * s + j)))
      (hv : ∀ (i j : Nat) (e : List AV) (x : AV), els[i]? = some e → e[j]? = some x → V own w x (cv i j))
      (ho : ∀ (i j : Nat) (e : List AV) (x : AV), els[i]? = some e → e[j]? = some x → (cv i j).oneCell' = true)
      (hn : tok = .nil → a = none ∧ cap = 0) (hk : tok = .clip → cap = len) (hr : ∀ p q, tok ≠ .row p q) : V own w (.sl s els tok) (.slice a len cap)
  | eptr (cells : List AV) (ad : Addr) (cv : Nat → Value)
      (hc : ∀ (j : Nat) (x : AV), cells[j]? = some x → w.cell? (ad.add j) = some (cv j) ∧ ¬ own.N ad.block (ad.off + j))
      (hv : ∀ (j : Nat) (x : AV), cells[j]? = some x → V own w x (cv j)) (ho : ∀ (j : Nat) (x : AV), cells[j]? = some x → (cv j).oneCell' = true) : V own w (.eptr cells) (.pointer (some ad))
  | pnil : V own w .pnil (.pointer none)
  | fn (f : FuncId) (cap : List AV) (vs : Array Value) (hl : vs.size = cap.length)
      (hv : ∀ (j : Nat) (x : AV) (v : Value), cap[j]? = some x → vs[j]? = some v → V own w x v) : V own w (.fn f cap) (.func (.func f) #[] vs)
  | fnil : V own w .fnil .nilFunc
  | agg (cells : List AV) (cs : Array Value) (hl : cs.size = cells.length)
      (hv : ∀ (j : Nat) (x : AV) (v : Value), cells[j]? = some x → cs[j]? = some v → V own w x v) (ho : ∀ (j : Nat) (v : Value), cs[j]? = some v → v.oneCell' = true) : V own w (.agg cells) (.agg cs)

inductive Stat where
  | unknown | dead | alive (tip : Option (Nat × Nat))

structure Cfg where
  own : Own
  ρ : Nat → Option Nat
  ν : Nat → Nat → Stat

/-- What is known of a row's tip. -/
def Tip (w : World) (s n : Nat) : Stat → Value → Prop
  | .unknown, _ => False
  | .dead, _ => True
  | .alive none, v => ∃ a, v = .slice a n n
  | .alive (some (g, e)), v => ∃ o cap cs el, v = .slice (some ⟨g, o, none⟩) n cap ∧ e = o + n * s ∧ w.heap[g]? = some (.cells cs el (0, 0)) ∧ o + cap * s ≤ cs.size

def T1 (c : Cfg) (w : World) : AV → Value → Prop
  | .ptr id off, v => ∃ g, c.ρ id = some g ∧ v = .pointer (some ⟨g, off, none⟩)
  | .sl s els (.row a b), v => V c.own w (.sl s els .none) v ∧ Tip w s els.length (c.ν a b) v
  | .tup _, _ => False
  | x, v => V c.own w x v
def T (c : Cfg) (w : World) : AV → Value → Prop
  | .tup xs, v => ∃ vs : Array Value, v = .tuple vs ∧ vs.size = xs.length ∧ ∀ (i : Nat) (x : AV) (u : Value), xs[i]? = some x → vs[i]? = some u → T1 c w x u
  | x, v => T1 c w x v

def statIs : Stat → Option Bool → Prop
  | .unknown, o => o = none
  | .dead, o => o = some false
  | .alive _, o => o = some true

structure MemRel (c : Cfg) (m : Mem) (w : World) : Prop where
  dom : ∀ id, (m.boxes id).isSome = (c.ρ id).isSome
  box : ∀ id bx g, m.boxes id = some bx → c.ρ id = some g → ∃ cs el, w.heap[g]? = some (.cells cs el (0, 0)) ∧ cs.size = bx.length ∧
    (∀ (j : Nat) (x : AV) (v : Value), bx[j]? = some x → cs[j]? = some v → T1 c w x v ∧ v.oneCell' = true ∧ ∀ i o, x ≠ .ptr i o) ∧
    (m.froz id = false → ∀ off, off < cs.size → c.own.W g off) ∧ (m.froz id = true → ∀ off, off < cs.size → ¬ c.own.N g off)
  inj : ∀ id id' g, c.ρ id = some g → c.ρ id' = some g → id = id'
  names : ∀ a b, statIs (c.ν a b) (m.names a b)
  tip : ∀ a b g e, c.ν a b = .alive (some (g, e)) → ∃ cs el, w.heap[g]? = some (.cells cs el (0, 0)) ∧ e < cs.size ∧ ∀ off, e ≤ off → off < cs.size → c.own.W g off
  tipInj : ∀ a b a' b' g e e', c.ν a b = .alive (some (g, e)) → c.ν a' b' = .alive (some (g, e')) → a = a' ∧ b = b'
  tipBox : ∀ a b g e id, c.ν a b = .alive (some (g, e)) → c.ρ id ≠ some g
  lt : ∀ g off, c.own.N g off → g < w.heap.size

/-- What a stretch of the call may do to the world. -/
structure Evo (own : Own) (w : World) (own' : Own) (w' : World) : Prop where
  size : w.heap.size ≤ w'.heap.size
  cells : ∀ (g : Nat) (cs : Array Value) (el : TypeId) (fr : Nat × Nat), w.heap[g]? = some (.cells cs el fr) →
    ∃ cs' : Array Value, w'.heap[g]? = some (.cells cs' el fr) ∧ cs'.size = cs.size ∧ ∀ off : Nat, ¬ own.W g off → cs'[off]? = cs[off]?
  other : ∀ (g : Nat) (o : Obj), w.heap[g]? = some o → (∀ cs el fr, o ≠ .cells cs el fr) → w'.heap[g]? = some o
  wr : ∀ g off, g < w.heap.size → own'.W g off → own.W g off
  no : ∀ g off, g < w.heap.size → own'.N g off → own.N g off
  hid : ∀ g off, g < w.heap.size → own.N g off → ¬ own.W g off → own'.N g off
  os : w'.os = w.os
  tape : w'.tape = w.tape
  output : w'.output = w.output

theorem Evo.refl (own : Own) (w : World) : Evo own w own w :=
  ⟨Nat.le_refl _, fun g cs el fr h => ⟨cs, h, rfl, fun _ _ => rfl⟩, fun _ _ h _ => h, fun _ _ _ h => h, fun _ _ _ h => h, fun _ _ _ h _ => h, rfl, rfl, rfl⟩
theorem lt_of_heap {w : World} {g : Nat} {o : Obj} (h : w.heap[g]? = some o) : g < w.heap.size := by
  rcases Nat.lt_or_ge g w.heap.size with h' | h'
  · exact h'
  · simp [Array.getElem?_eq_none h'] at h
theorem Evo.trans {o1 o2 o3 : Own} {w1 w2 w3 : World} (h : Evo o1 w1 o2 w2) (k : Evo o2 w2 o3 w3) : Evo o1 w1 o3 w3 where
  size := Nat.le_trans h.size k.size
  cells := fun g cs el fr hg => by
    obtain ⟨cs', h1, h2, h3⟩ := h.cells g cs el fr hg
    obtain ⟨cs'', k1, k2, k3⟩ := k.cells g cs' el fr h1
    refine ⟨cs'', k1, k2.trans h2, fun off hn => ?_⟩
    rw [k3 off (fun ho => hn (h.wr g off (lt_of_heap hg) ho)), h3 off hn]
  other := fun g o hg ho => k.other g o (h.other g o hg ho) ho
  wr := fun g off hg ho => h.wr g off hg (k.wr g off (Nat.lt_of_lt_of_le hg h.size) ho)
  no := fun g off hg ho => h.no g off hg (k.no g off (Nat.lt_of_lt_of_le hg h.size) ho)
  hid := fun g off hg ho hn => k.hid g off (Nat.lt_of_lt_of_le hg h.size) (h.hid g off hg ho hn) (fun hw => hn (h.wr g off hg hw))
  os := k.os.trans h.os
  tape := k.tape.trans h.tape
  output := k.output.trans h.output
theorem Evo.drew {o1 o2 : Own} {w1 w2 : World} (h : Evo o1 w1 o2 w2) : Evo o1 w1 o2 w2.drew :=
  ⟨h.size, h.cells, h.other, h.wr, h.no, h.hid, h.os, h.tape, h.output⟩

theorem add_block (a : Addr) (n : Nat) : (a.add n).block = a.block := by unfold Addr.add; split <;> rfl
theorem add_off (a : Addr) (n : Nat) : (a.add n).off = a.off + n := by unfold Addr.add; split <;> simp_all
theorem add_add (a : Addr) (n k : Nat) : (a.add n).add k = a.add (n + k) := by
  unfold Addr.add
  by_cases h : n = 0 <;> by_cases h' : k = 0 <;> simp_all <;> omega
theorem add_plain (g o n : Nat) : (⟨g, o, none⟩ : Addr).add n = ⟨g, o + n, none⟩ := by unfold Addr.add; split <;> simp_all

theorem cell_heap {w : World} {a : Addr} {v : Value} (h : w.cell? a = some v) : a.spot = none ∧ ∃ cs el fr, w.heap[a.block]? = some (.cells cs el fr) ∧ cs[a.off]? = some v := by
  unfold World.cell? at h
  split at h
  · rename_i c e f hb
    cases hs : a.spot with
    | none => simp [hs] at h; exact ⟨rfl, c, e, f, hb, h⟩
    | some _ => simp [hs] at h
  · simp at h
theorem heap_cell {w : World} {g off : Nat} {cs : Array Value} {el : TypeId} {fr : Nat × Nat} (h : w.heap[g]? = some (.cells cs el fr)) : w.cell? ⟨g, off, none⟩ = cs[off]? := by
  simp [World.cell?, h]
theorem Evo.cell {own own' : Own} {w w' : World} (e : Evo own w own' w') {a : Addr} {v : Value} (h : w.cell? a = some v) (hn : ¬ own.N a.block a.off) : w'.cell? a = some v := by
  obtain ⟨hs, cs, el, fr, hb, hv⟩ := cell_heap h
  obtain ⟨cs', h1, h2, h3⟩ := e.cells _ _ _ _ hb
  obtain ⟨ab, ao, as⟩ := a
  simp only at hs hb hv h1 h2 h3 hn
  subst hs
  rw [heap_cell h1, h3 _ (fun hw => hn (own.sub _ _ hw)), hv]
theorem Evo.lt {own own' : Own} {w w' : World} (e : Evo own w own' w') {a : Addr} {v : Value} (h : w.cell? a = some v) (hn : ¬ own.N a.block a.off) : ¬ own'.N a.block a.off := by
  obtain ⟨hs, cs, el, fr, hb, hv⟩ := cell_heap h
  exact fun ho => hn (e.no _ _ (lt_of_heap hb) ho)

/-- The tables that no part of the program writes, and where they read as they were laid. -/
def flatTabs : List (String × IntKind × List Int) := [("strings.asciiSpace", .u8, Lib.asciiSpaceTab)]
def Gl (P : Program) (own : Own) (w : World) : Prop := ∀ e ∈ flatTabs, ∀ g, P.globalNamed e.1 = some g → (∃ el fr, w.heap[g]? = some (.cells (e.2.2.map (Value.int e.2.1)).toArray el fr)) ∧ ∀ off, ¬ own.N g off
theorem Gl.mono {P : Program} {own own' : Own} {w w' : World} (h : Gl P own w) (e : Evo own w own' w') : Gl P own' w' := fun x hx g hg => by
  obtain ⟨⟨el, fr, h1⟩, h2⟩ := h x hx g hg
  obtain ⟨cs', k1, k2, k3⟩ := e.cells _ _ _ _ h1
  have : cs' = (x.2.2.map (Value.int x.2.1)).toArray := Array.ext (by rw [k2]) (fun i h4 h5 => by
    have := k3 i (fun hw => h2 i (own.sub _ _ hw))
    rw [Array.getElem?_eq_getElem h4, Array.getElem?_eq_getElem h5] at this
    exact Option.some.inj this)
  subst this
  exact ⟨⟨el, fr, k1⟩, fun off hn => h2 off (e.no g off (lt_of_heap h1) hn)⟩
theorem Gl.weaker {P : Program} {own own' : Own} {w : World} (h : Gl P own w) (hN : ∀ g off, own'.N g off → own.N g off) : Gl P own' w := fun x hx g hg => ⟨(h x hx g hg).1, fun off hn => (h x hx g hg).2 off (hN g off hn)⟩

theorem V.mono {own own' : Own} {w w' : World} {x : AV} {v : Value} (h : V own w x v) (e : Evo own w own' w') : V own' w' x v := by
  induction h with
  | undef v => exact .undef v
  | bool b => exact .bool b
  | int k n => exact .int k n
  | str s => exact .str s
  | sl s els tok a len cap cv hlen hcap hel hc hv ho hn hk hr ih =>
    refine .sl s els tok a len cap cv hlen hcap hel (fun i j el x hi hj => ?_) ih ho hn hk hr
    obtain ⟨ad, ha, hcell, hown⟩ := hc i j el x hi hj
    have hown' : ¬ own.N (ad.add (i * s + j)).block (ad.add (i * s + j)).off := by rw [add_block, add_off]; exact hown
    refine ⟨ad, ha, e.cell hcell hown', ?_⟩
    have := e.lt hcell hown'
    rwa [add_block, add_off] at this
  | eptr cells ad cv hc hv ho ih =>
    refine .eptr cells ad cv (fun j x hj => ?_) ih ho
    obtain ⟨hcell, hown⟩ := hc j x hj
    have hown' : ¬ own.N (ad.add j).block (ad.add j).off := by rw [add_block, add_off]; exact hown
    refine ⟨e.cell hcell hown', ?_⟩
    have := e.lt hcell hown'
    rwa [add_block, add_off] at this
  | pnil => exact .pnil
  | fn f cap vs hl hv ih => exact .fn f cap vs hl ih
  | fnil => exact .fnil
  | agg cells cs hl hv ho ih => exact .agg cells cs hl ih ho

/-- What becomes of names and boxes in a stretch without loops' heads. -/
structure Ext (c c' : Cfg) : Prop where
  ρ : ∀ id g, c.ρ id = some g → c'.ρ id = some g
  low : ∀ id g, id < 500000 → c'.ρ id = some g → c.ρ id = some g
  dead : ∀ a b, c.ν a b = .dead → c'.ν a b = .dead
  alive : ∀ a b t, c.ν a b = .alive t → c'.ν a b = .alive t ∨ c'.ν a b = .dead
theorem Ext.refl (c : Cfg) : Ext c c := ⟨fun _ _ h => h, fun _ _ _ h => h, fun _ _ h => h, fun _ _ _ h => .inl h⟩
theorem Ext.trans {a b c : Cfg} (h : Ext a b) (k : Ext b c) : Ext a c :=
  ⟨fun i g hi => k.ρ i g (h.ρ i g hi), fun i g hl hi => h.low i g hl (k.low i g hl hi), fun p q hd => k.dead p q (h.dead p q hd), fun p q t ha => by
    rcases h.alive p q t ha with h1 | h1
    · exact k.alive p q t h1
    · exact .inr (k.dead p q h1)⟩

theorem Tip.mono {own own' : Own} {w w' : World} {s n : Nat} {st : Stat} {v : Value} (h : Tip w s n st v) (e : Evo own w own' w') : Tip w' s n st v := by
  cases st with
  | unknown => exact h
  | dead => trivial
  | alive t =>
    cases t with
    | none => exact h
    | some t =>
      obtain ⟨g, en⟩ := t
      obtain ⟨o, cap, cs, el, h1, h2, h3, h4⟩ := h
      obtain ⟨cs', k1, k2, k3⟩ := e.cells _ _ _ _ h3
      exact ⟨o, cap, cs', el, h1, h2, k1, by omega⟩
theorem Tip.ext {c c' : Cfg} {w : World} {s n a b : Nat} {v : Value} (h : Tip w s n (c.ν a b) v) (x : Ext c c') : Tip w s n (c'.ν a b) v := by
  cases hs : c.ν a b with
  | unknown => rw [hs] at h; exact h.elim
  | dead => rw [x.dead a b hs]; trivial
  | alive t =>
    rcases x.alive a b t hs with h1 | h1
    · rw [h1]; rw [hs] at h; exact h
    · rw [h1]; trivial

theorem T1.mono {c c' : Cfg} {w w' : World} {x : AV} {v : Value} (h : T1 c w x v) (e : Evo c.own w c'.own w') (k : Ext c c') : T1 c' w' x v := by
  cases x with
  | ptr id off => obtain ⟨g, h1, h2⟩ := h; exact ⟨g, k.ρ _ _ h1, h2⟩
  | sl s els tok =>
    cases tok with
    | row a b => exact ⟨h.1.mono e, (h.2.mono e).ext k⟩
    | nil => exact V.mono h e
    | none => exact V.mono h e
    | clip => exact V.mono h e
  | tup => exact h
  | _ => exact V.mono h e
theorem T.to_T1 {c : Cfg} {w : World} {x : AV} {v : Value} (hx : ¬ ∃ xs, x = .tup xs) (h : T c w x v) : T1 c w x v := by
  cases x with
  | tup xs => exact absurd ⟨xs, rfl⟩ hx
  | _ => exact h
theorem T.of_T1 {c : Cfg} {w : World} {x : AV} {v : Value} (h : T1 c w x v) : T c w x v := by
  cases x with
  | tup => exact h.elim
  | _ => exact h
theorem T.mono {c c' : Cfg} {w w' : World} {x : AV} {v : Value} (h : T c w x v) (e : Evo c.own w c'.own w') (k : Ext c c') : T c' w' x v := by
  by_cases hx : ∃ xs, x = .tup xs
  · obtain ⟨xs, rfl⟩ := hx
    obtain ⟨vs, h1, h2, h3⟩ := h
    exact ⟨vs, h1, h2, fun i x u hx hu => (h3 i x u hx hu).mono e k⟩
  · exact .of_T1 ((h.to_T1 hx).mono e k)

theorem V.noPtr {own : Own} {w : World} {x : AV} {v : Value} (h : V own w x v) (i o : Nat) : x ≠ .ptr i o := by
  intro he
  subst he
  cases h

theorem V.tokNone {own : Own} {w : World} {s : Nat} {els : List (List AV)} {tok : Tok} {v : Value} (h : V own w (.sl s els tok) v) : V own w (.sl s els .none) v := by
  cases h with
  | sl _ _ _ a len cap cv hlen hcap hel hc hv ho hn hk hr => exact .sl s els .none a len cap cv hlen hcap hel hc hv ho (by simp) (by simp) (by simp)
theorem T1.bare {c : Cfg} {w : World} {x : AV} {v : Value} (h : T1 c w x v) : V c.own w x.bare v := by
  cases x with
  | ptr id off => exact .undef v
  | sl s els tok =>
    cases tok with
    | row a b => exact h.1
    | nil => exact h
    | none => exact h
    | clip => exact h
  | tup => exact h.elim
  | _ => exact h
theorem T.bare {c : Cfg} {w : World} {x : AV} {v : Value} (h : T c w x v) : V c.own w x.bare v := by
  by_cases hx : ∃ xs, x = .tup xs
  · obtain ⟨xs, rfl⟩ := hx
    exact .undef v
  · exact (h.to_T1 hx).bare
theorem T1.of_V {c : Cfg} {w : World} {x : AV} {v : Value} (h : V c.own w x v) : T1 c w x v := by
  cases h with
  | sl s els tok a len cap cv hlen hcap hel hc hv ho hn hk hr =>
    cases tok with
    | row p q => exact absurd rfl (hr p q)
    | nil => exact .sl s els _ a len cap cv hlen hcap hel hc hv ho hn hk hr
    | none => exact .sl s els _ a len cap cv hlen hcap hel hc hv ho hn hk hr
    | clip => exact .sl s els _ a len cap cv hlen hcap hel hc hv ho hn hk hr
  | undef => exact .undef _
  | bool => exact .bool _
  | int => exact .int _ _
  | str => exact .str _
  | eptr _ _ _ h1 h2 h3 => exact .eptr _ _ _ h1 h2 h3
  | pnil => exact .pnil
  | fn _ _ _ h1 h2 => exact .fn _ _ _ h1 h2
  | fnil => exact .fnil
  | agg _ _ h1 h2 h3 => exact .agg _ _ h1 h2 h3
theorem T.of_V {c : Cfg} {w : World} {x : AV} {v : Value} (h : V c.own w x v) : T c w x v := .of_T1 (.of_V h)

mutual
theorem V_ofValue (own : Own) (w : World) : ∀ v : Value, V own w (ofValue v) v
  | .bool b => .bool b
  | .int k n => .int k n
  | .string s => by
    have : (⟨(s.data.toList).toArray⟩ : ByteArray) = s := by simp
    have h := V.str (own := own) (w := w) s.data.toList
    rw [this] at h
    exact h
  | .pointer none => .pnil
  | .pointer (some _) => .undef _
  | .slice none 0 0 => .sl 0 [] .nil none 0 0 (fun _ _ => .nilFunc) rfl (Nat.le_refl _) (by simp) (by simp) (by simp) (by simp) (by simp) (by simp) (by simp)
  | .slice none (n + 1) c => .undef _
  | .slice none 0 (c + 1) => .undef _
  | .slice (some _) _ _ => .undef _
  | .nilFunc => .fnil
  | .agg ⟨cs⟩ => by
    simp only [ofValue]
    split
    · rename_i h
      exact .agg _ _ (by simp [V_ofValues_len cs]) (fun j x v hx hv => V_ofValues own w cs j x v hx (by simpa using hv)) (fun j v hv => List.all_eq_true.1 h v (List.mem_of_getElem? (by simpa using hv)))
    · exact .undef _
  | .float .. => .undef _
  | .complex .. => .undef _
  | .map .. => .undef _
  | .chan .. => .undef _
  | .func .. => .undef _
  | .iface .. => .undef _
  | .nilIface => .undef _
  | .tuple .. => .undef _
theorem V_ofValues (own : Own) (w : World) : ∀ (cs : List Value) (j : Nat) (x : AV) (v : Value), (ofValues cs)[j]? = some x → cs[j]? = some v → V own w x v
  | [], j, x, v, hx, hv => by simp at hv
  | u :: r, 0, x, v, hx, hv => by
    have h := V_ofValue own w u
    simp only [ofValues, List.getElem?_cons_zero, Option.some.injEq] at hx hv
    subst hx; subst hv; exact h
  | u :: r, j + 1, x, v, hx, hv => V_ofValues own w r j x v (by simpa [ofValues] using hx) (by simpa using hv)
theorem V_ofValues_len : ∀ cs : List Value, (ofValues cs).length = cs.length
  | [] => rfl
  | u :: r => by simp [ofValues, V_ofValues_len r]
end
end Ev

/- A verified evaluator, part C: the operations that call nothing. -/
namespace Ev
open Go

def Post (c : Cfg) (w : World) (m' : Mem) (x : AV) (v : Value) (w' : World) : Prop :=
  ∃ c', Evo c.own w c'.own w' ∧ Ext c c' ∧ MemRel c' m' w' ∧ T c' w' x v
def OpRes (P : Program) (c : Cfg) (w : World) (m' : Mem) (x : AV) : Result Next → Prop
  | .ok (.value v) w' => Post c w m' x v w'
  | .ok .skip w' => Post c w m' x undef w'
  | .ok (.enter f args) w' => Calls P f args w' fun e w'' => ∃ v, e = .returned v ∧ Post c w m' x v w''
  | _ => False
def TRel (c : Cfg) (w : World) (t : Tmps) (a : Act) : Prop := ∀ i, T c w (t i) (a.tmps.getD i undef)

section
variable {P : Program} {c : Cfg} {w : World} {m : Mem} {t : Tmps} {a : Act}

theorem Post.same {x : AV} {v : Value} (hM : MemRel c m w) (h : T c w x v) : Post c w m x v w := ⟨c, .refl _ _, .refl _, hM, h⟩

theorem T_opnd (h : TRel c w t a) (x : Operand) : T c w (opnd t x) (a.eval x) := by
  cases x with
  | tmp i => exact h i
  | const v => exact .of_V (V_ofValue _ _ _)
  | global g => exact .of_V (.undef _)
  | func f => exact .of_V (.fn f [] #[] rfl (by simp))

/-- Cells that read as they are said to. -/
def CR (own : Own) (w : World) (xs : List AV) (vs : Array Value) : Prop :=
  vs.size = xs.length ∧ (∀ (j : Nat) (x : AV) (v : Value), xs[j]? = some x → vs[j]? = some v → V own w x v) ∧ ∀ (j : Nat) (v : Value), vs[j]? = some v → v.oneCell' = true
theorem V.cells {own : Own} {x : AV} {v : Value} (hx : x.isVal = true) (h : V own w x v) : CR own w x.cells v.cells := by
  have one : ∀ (y : AV) (u : Value), V own w y u → u.oneCell' = true → CR own w [y.bare] #[u] := fun y u hu ho => by
    refine ⟨rfl, fun j z v' hj hv' => ?_, fun j v' hv' => by cases j <;> simp at hv'; subst hv'; exact ho⟩
    cases j with
    | succ j => simp at hj
    | zero =>
      simp at hj hv'
      subst hj; subst hv'
      exact T1.bare (c := ⟨own, fun _ => none, fun _ _ => .unknown⟩) (.of_V hu)
  cases h with
  | agg cells cs hl hv ho => exact ⟨hl, hv, ho⟩
  | undef => simp [AV.isVal] at hx
  | bool b => exact one _ _ (.bool b) rfl
  | int k n => exact one _ _ (.int k n) rfl
  | str s => exact one _ _ (.str s) rfl
  | sl s els tok a len cap cv h1 h2 h3 h4 h5 h6 h7 h8 h9 => exact one _ _ (.sl s els tok a len cap cv h1 h2 h3 h4 h5 h6 h7 h8 h9) rfl
  | eptr cells ad cv h1 h2 h3 => exact one _ _ (.eptr cells ad cv h1 h2 h3) rfl
  | pnil => exact one _ _ .pnil rfl
  | fn f cap vs h1 h2 => exact one _ _ (.fn f cap vs h1 h2) rfl
  | fnil => exact one _ _ .fnil rfl
theorem bare_bare (x : AV) : x.bare.bare = x.bare := by
  cases x with
  | sl s els tok => cases tok <;> rfl
  | _ => rfl
theorem T.cells {x : AV} {v : Value} (hx : x.isVal = true) (h : T c w x v) : CR c.own w x.cells v.cells := by
  cases x with
  | tup xs => simp [AV.isVal] at hx
  | undef => simp [AV.isVal] at hx
  | agg cs => exact V.cells rfl (h : V c.own w (.agg cs) v)
  | ptr id off =>
    obtain ⟨g, h1, rfl⟩ := h
    exact ⟨rfl, fun j z u hj hu => by cases j <;> simp [AV.cells, AV.bare] at hj; subst hj; exact .undef _, fun j v' hv' => by cases j <;> simp [Value.cells] at hv'; subst hv'; rfl⟩
  | sl s els tok =>
    have hb := h.bare
    have : (AV.sl s els tok).cells = ((AV.sl s els tok).bare).cells := by simp [AV.cells]; cases tok <;> rfl
    rw [this]
    exact V.cells (by cases tok <;> rfl) hb
  | bool b => exact V.cells rfl (h : V c.own w _ v)
  | int k n => exact V.cells rfl (h : V c.own w _ v)
  | str s => exact V.cells rfl (h : V c.own w _ v)
  | eptr cells => exact V.cells rfl (h : V c.own w _ v)
  | pnil => exact V.cells rfl (h : V c.own w _ v)
  | fn f cap => exact V.cells rfl (h : V c.own w _ v)
  | fnil => exact V.cells rfl (h : V c.own w _ v)

/-! ### tables -/
theorem run_aggT {ty : TypeId} {b : Bool} (h : aggT P ty = some b) (w : World) : (isAgg ty).run P w = .ok b w := by
  unfold aggT at h
  split at h
  · simp at h; subst h; rename_i hu; simp [isAgg, run_underlying hu]
  · simp at h; subst h; rename_i hu; simp [isAgg, run_underlying hu]
  · rename_i d h1 h2 hu
    simp at h; subst h
    unfold isAgg
    rw [Sem.run_bind, run_underlying hu]
    cases d <;> first | rfl | exact absurd rfl (h1 _) | exact absurd rfl (h2 _ _)
  · simp at h
theorem run_tsz {ty : TypeId} {n : Nat} (h : tsz P ty = some n) (w : World) : (Go.sizeOf ty).run P w = .ok n w := by
  unfold tsz at h
  cases hi : P.info? ty with
  | none => simp [hi] at h
  | some i => simp [hi] at h; subst h; simp [Go.sizeOf, typeInfo, hi]
theorem run_zero {ty : TypeId} {z : AV} (h : zeroOf P ty = some z) : ∃ v, z = ofValue v ∧ ∀ w, (zeroValue ty).run P w = .ok v w := by
  unfold zeroOf at h
  cases hi : P.info? ty with
  | none => simp [hi] at h
  | some i =>
    cases hz : i.zero with
    | none => simp [hi, hz] at h
    | some v => simp [hi, hz] at h; exact ⟨v, h.symm, fun w => by simp [zeroValue, typeInfo, hi, hz]⟩
theorem under_of_elemT {ty e : TypeId} (h : elemT P ty = some e) : P.underlying ty = some (.slice e) := by
  unfold elemT at h
  split at h
  · rename_i hu; simp at h; subst h; exact hu
  · simp at h

/-! ### a new block -/
def addOwn (o : Own) (g : Nat) : Own := ⟨fun b off => o.W b off ∨ b = g, fun b off => o.N b off ∨ b = g, fun b off h => h.imp (o.sub b off) id⟩
theorem heap_new (w : World) (o : Obj) : (w.alloc o).heap[w.heap.size]? = some o := by
  show (w.heap.push o)[w.heap.size]? = some o
  simp
theorem heap_old (w : World) (o : Obj) (i : Nat) (h : i < w.heap.size) : (w.alloc o).heap[i]? = w.heap[i]? := by
  show (w.heap.push o)[i]? = w.heap[i]?
  rw [Array.getElem?_push, if_neg (Nat.ne_of_lt h)]
theorem Evo.newBlock (own : Own) (w : World) (o : Obj) : Evo own w (addOwn own w.heap.size) (w.alloc o) where
  size := by simp
  cells := fun g cs el fr h => ⟨cs, by rw [heap_old _ _ _ (lt_of_heap h)]; exact h, rfl, fun _ _ => rfl⟩
  other := fun g o' h _ => by rw [heap_old _ _ _ (lt_of_heap h)]; exact h
  wr := fun g off hg h => h.resolve_right (Nat.ne_of_lt hg)
  no := fun g off hg h => h.resolve_right (Nat.ne_of_lt hg)
  hid := fun g off hg h _ => .inl h
  os := rfl
  tape := rfl
  output := rfl
/-- A block that is made and written no more. -/
theorem Evo.newPlain (own : Own) (w : World) (o : Obj) : Evo own w own (w.alloc o) where
  size := by simp
  cells := fun g cs el fr h => ⟨cs, by rw [heap_old _ _ _ (lt_of_heap h)]; exact h, rfl, fun _ _ => rfl⟩
  other := fun g o' h _ => by rw [heap_old _ _ _ (lt_of_heap h)]; exact h
  wr := fun g off hg h => h
  no := fun g off hg h => h
  hid := fun g off hg h _ => h
  os := rfl
  tape := rfl
  output := rfl

/-- An abstract memory that a stretch leaves alone. -/
theorem MemRel.mono {c c' : Cfg} {w w' : World} (h : MemRel c m w) (e : Evo c.own w c'.own w') (hρ : c'.ρ = c.ρ) (hν : c'.ν = c.ν)
    (hW : ∀ g off, g < w.heap.size → c.own.W g off → c'.own.W g off) (hb : ∀ id g, c.ρ id = some g → ∀ cs el, w.heap[g]? = some (.cells cs el (0, 0)) → w'.heap[g]? = some (.cells cs el (0, 0)))
    (hlt : ∀ g off, c'.own.N g off → g < w'.heap.size) : MemRel c' m w' where
  dom := fun id => by rw [hρ]; exact h.dom id
  box := fun id bx g h1 h2 => by
    rw [hρ] at h2
    obtain ⟨cs, el, k1, k2, k3, k4, k5⟩ := h.box id bx g h1 h2
    refine ⟨cs, el, hb id g h2 cs el k1, k2, fun j x v hx hv => ⟨(k3 j x v hx hv).1.mono e ⟨fun id g hi => by rw [hρ]; exact hi, fun id g _ hi => by rw [hρ] at hi; exact hi, fun a b hd => by rw [hν]; exact hd, fun a b t ha => by rw [hν]; exact .inl ha⟩, (k3 j x v hx hv).2⟩,
      fun hf off ho => hW _ _ (lt_of_heap k1) (k4 hf off ho), fun hf off ho hn => k5 hf off ho (e.no _ _ (lt_of_heap k1) hn)⟩
  inj := fun i j g h1 h2 => by rw [hρ] at h1 h2; exact h.inj i j g h1 h2
  names := fun a b => by rw [hν]; exact h.names a b
  tip := fun a b g en hs => by
    rw [hν] at hs
    obtain ⟨cs, el, k1, kl, k2⟩ := h.tip a b g en hs
    obtain ⟨cs', k3, k4, _⟩ := e.cells _ _ _ _ k1
    exact ⟨cs', el, k3, by omega, fun off h1 h2 => hW _ _ (lt_of_heap k1) (k2 off h1 (by omega))⟩
  tipInj := fun a b a' b' g en en' h1 h2 => by rw [hν] at h1 h2; exact h.tipInj a b a' b' g en en' h1 h2
  tipBox := fun a b g en id h1 h2 => by rw [hν] at h1; rw [hρ] at h2; exact h.tipBox a b g en id h1 h2
  lt := hlt

def addBox (c : Cfg) (d g : Nat) : Cfg := ⟨addOwn c.own g, upd c.ρ d (some g), c.ν⟩
/-- A new box. -/
theorem Post.newBox {d : Nat} (hM : MemRel c m w) (hd5 : 500000 ≤ d) (hd : m.boxes d = none) (xs : List AV) (cs : Array Value) (el : TypeId) (h : CR c.own w xs cs) :
    Post c w { m with boxes := upd m.boxes d (some xs), froz := upd m.froz d false } (.ptr d 0) (.pointer (some ⟨w.heap.size, 0, none⟩)) (w.alloc (.cells cs el)) := by
  have hρd : c.ρ d = none := by have := hM.dom d; rw [hd] at this; cases hq : c.ρ d <;> simp_all
  have hltρ : ∀ id g, c.ρ id = some g → g < w.heap.size := fun id g hi => by
    have hs := hM.dom id
    rw [hi] at hs
    cases hb : m.boxes id with
    | none => simp [hb] at hs
    | some bx =>
      obtain ⟨cs', el', k1, _⟩ := hM.box id bx g hb hi
      exact lt_of_heap k1
  have hltν : ∀ a b g e, c.ν a b = .alive (some (g, e)) → g < w.heap.size := fun a b g e hs => by
    obtain ⟨cs', el', k1, _⟩ := hM.tip a b g e hs
    exact lt_of_heap k1
  have e := Evo.newBlock c.own w (.cells cs el)
  have hext : Ext c (addBox c d w.heap.size) := ⟨fun id g hi => by
      show upd c.ρ d _ id = _
      by_cases hq : id = d
      · subst hq; rw [hρd] at hi; simp at hi
      · simp [hq, hi], fun id g hl hi => by
      have hi' : upd c.ρ d (some w.heap.size) id = some g := hi
      have hq : id ≠ d := by omega
      simpa [hq] using hi', fun _ _ h => h, fun _ _ _ h => .inl h⟩
  refine ⟨addBox c d w.heap.size, e, hext, ?_, ⟨w.heap.size, by simp [addBox], rfl⟩⟩
  refine ⟨fun id => ?_, fun id bx g h1 h2 => ?_, fun i j g h1 h2 => ?_, hM.names, fun a b g en hs => ?_, hM.tipInj, fun a b g en id hs h2 => ?_, fun g off ho => ?_⟩
  · show (upd m.boxes d _ id).isSome = (upd c.ρ d _ id).isSome
    by_cases hq : id = d <;> simp [hq, hM.dom]
  · by_cases hq : id = d
    · subst hq
      simp [addBox] at h1 h2
      subst h1; subst h2
      refine ⟨cs, el, heap_new _ _, h.1, fun j x v hx hv => ⟨.of_V ((h.2.1 j x v hx hv).mono e), h.2.2 j v hv, (h.2.1 j x v hx hv).noPtr⟩, fun _ off _ => .inr rfl, fun hf => by simp at hf⟩
    · simp [addBox, hq] at h1 h2
      obtain ⟨cs', el', k1, k2, k3, k4, k5⟩ := hM.box id bx g h1 h2
      refine ⟨cs', el', by rw [heap_old _ _ _ (lt_of_heap k1)]; exact k1, k2, fun j x v hx hv => ⟨(k3 j x v hx hv).1.mono e hext, (k3 j x v hx hv).2⟩, fun hf off ho => .inl (k4 (by simpa [hq] using hf) off ho), fun hf off hlt ho => ?_⟩
      rcases ho with ho | ho
      · exact k5 (by simpa [hq] using hf) off hlt ho
      · have := lt_of_heap k1; omega
  · simp only [addBox, upd_apply] at h1 h2
    by_cases hi : i = d <;> by_cases hj : j = d
    · rw [hi, hj]
    · simp [hi] at h1; simp [hj] at h2; have := hltρ _ _ h2; omega
    · simp [hj] at h2; simp [hi] at h1; have := hltρ _ _ h1; omega
    · simp [hi] at h1; simp [hj] at h2; exact hM.inj _ _ _ h1 h2
  · obtain ⟨cs', el', k1, kl, k2⟩ := hM.tip a b g en hs
    exact ⟨cs', el', by rw [heap_old _ _ _ (lt_of_heap k1)]; exact k1, kl, fun off h1 h2 => .inl (k2 off h1 h2)⟩
  · simp only [addBox, upd_apply] at h2
    by_cases hi : id = d
    · simp [hi] at h2; have := hltν _ _ _ _ hs; omega
    · simp [hi] at h2; exact hM.tipBox _ _ _ _ _ hs h2
  · rcases ho with ho | ho
    · have := hM.lt _ _ ho; simp; omega
    · simp [ho]
/-- A new block of which nothing is written any more. -/
theorem Post.newRow {x : AV} {v : Value} (hM : MemRel c m w) (o : Obj) (h : T c (w.alloc o) x v) : Post c w m x v (w.alloc o) := by
  have e := Evo.newPlain c.own w o
  refine ⟨c, e, .refl _, hM.mono e rfl rfl (fun _ _ _ h => h) (fun id g hi cs el hg => by rw [heap_old _ _ _ (lt_of_heap hg)]; exact hg) (fun g off ho => ?_), h⟩
  have := hM.lt _ _ ho
  simp; omega
end
end Ev

/- A verified evaluator, part D: each operation that calls nothing does what 'aop' says. -/
namespace Ev
open Go
section
variable {P : Program} {c : Cfg} {w : World} {m m' : Mem} {t : Tmps} {a : Act} {C : Oracle} {ro : FuncId → Bool} {D : Option (List Nat)} {d : Nat} {x : AV}

theorem run_loadCells_of {ad : Addr} {n : Nat} {cv : Nat → Value} (h : ∀ j, j < n → w.cell? (ad.add j) = some (cv j)) : (loadCells ad n).run P w = .ok ((List.range n).map cv).toArray w := by
  have := run_loadCells_list (P := P) w ad ((List.range n).map cv) (fun j v hv => by
    simp at hv
    obtain ⟨k, hk, rfl⟩ := hv
    have : k = j ∧ j < n := by
      rcases Nat.lt_or_ge j n with h' | h'
      · simp [h'] at hk; exact ⟨hk.symm, h'⟩
      · simp [List.getElem?_eq_none, h'] at hk
    rw [this.1]; exact h j this.2)
  simpa using this

/-- Reading a part of what can be read. -/
theorem part_load {ty : TypeId} {cs : List AV} {off : Nat} {v : AV} {ad : Addr} {cv : Nat → Value} (h : partOf P ty cs off = some v)
    (hc : ∀ (j : Nat) (x : AV), cs[j]? = some x → w.cell? (ad.add j) = some (cv j) ∧ T1 c w x (cv j) ∧ (cv j).oneCell' = true) :
    ∃ u, (loadVar ty (ad.add off)).run P w = .ok u w ∧ T c w v u := by
  unfold partOf at h
  split at h
  · rename_i n ha hn
    split at h
    · rename_i hle
      simp at h; subst h
      have hl : (loadCells (ad.add off) n).run P w = .ok ((List.range n).map fun j => cv (off + j)).toArray w := run_loadCells_of fun j hj => by
        rw [add_add]
        have hlt : off + j < cs.length := by omega
        exact (hc (off + j) cs[off + j] (by simp [hlt])).1
      refine ⟨.agg ((List.range n).map fun j => cv (off + j)).toArray, by simp [loadVar, run_aggT ha, run_tsz hn, hl], .of_V (.agg _ _ (by simp; omega) (fun j x v hx hv => ?_) fun j v hv => ?_)⟩
      rotate_left
      · simp at hv
        obtain ⟨k, hk, rfl⟩ := hv
        have hj : j < n := by
          rcases Nat.lt_or_ge j n with h' | h'
          · exact h'
          · simp [List.getElem?_eq_none, h'] at hk
        simp [hj] at hk
        subst hk
        have hlt : off + j < cs.length := by omega
        exact (hc (off + j) cs[off + j] (by simp [hlt])).2.2
      simp only [List.map_take, List.map_drop, List.getElem?_take, List.getElem?_drop, List.getElem?_map] at hx
      simp at hv
      obtain ⟨k, hk, rfl⟩ := hv
      split at hx
      · rename_i hj
        simp [hj] at hk
        subst hk
        cases hcs : cs[off + j]? with
        | none => simp [hcs] at hx
        | some y =>
          simp [hcs] at hx
          subst hx
          exact (hc _ _ hcs).2.1.bare
      · simp at hx
    · simp at h
  · rename_i ha
    obtain ⟨h1, h2, _⟩ := hc off v h
    refine ⟨cv off, ?_, .of_T1 h2⟩
    simp [loadVar, run_aggT ha, h1]
  · simp at h

/-- A part of an aggregate. -/
theorem part_agg {ty : TypeId} {cs : List AV} {off : Nat} {v : AV} {us : Array Value} (h : partOf P ty cs off = some v) (hc : CR c.own w cs us) :
    ∃ u, (part ty us off).run P w = .ok u w ∧ T c w v u := by
  unfold partOf at h
  split at h
  · rename_i n ha hn
    split at h
    · rename_i hle
      simp at h; subst h
      refine ⟨.agg (us.extract off (off + n)), by simp [part, run_aggT ha, run_tsz hn], .of_V (.agg _ _ (by simp [hc.1]; omega) (fun j x v hx hv => ?_) fun j v hv => ?_)⟩
      rotate_left
      · rw [Array.getElem?_extract] at hv
        split at hv
        · exact hc.2.2 _ _ hv
        · simp at hv
      simp only [List.map_take, List.map_drop, List.getElem?_take, List.getElem?_drop, List.getElem?_map] at hx
      split at hx
      · rename_i hj
        cases hcs : cs[off + j]? with
        | none => simp [hcs] at hx
        | some y =>
          simp [hcs] at hx
          subst hx
          rw [Array.getElem?_extract] at hv
          split at hv
          · exact T1.bare (c := c) (.of_V (hc.2.1 _ _ _ hcs hv))
          · simp at hv
      · simp at hx
    · simp at h
  · rename_i ha
    have hlt : off < cs.length := by
      rcases Nat.lt_or_ge off cs.length with h' | h'
      · exact h'
      · simp [List.getElem?_eq_none, h'] at h
    have hu : us[off]? = some (us[off]'(by rw [hc.1]; exact hlt)) := by simp [hc.1, hlt]
    refine ⟨_, by simp [part, run_aggT ha, hu], .of_V (hc.2.1 _ _ _ h hu)⟩
  · simp at h

theorem box_cells (hM : MemRel c m w) {id : Nat} {bx : Box} {g : Nat} (h1 : m.boxes id = some bx) (h2 : c.ρ id = some g) :
    ∃ cv : Nat → Value, ∀ (j : Nat) (x : AV), bx[j]? = some x → w.cell? ((⟨g, 0, none⟩ : Addr).add j) = some (cv j) ∧ T1 c w x (cv j) ∧ (cv j).oneCell' = true := by
  obtain ⟨cs, el, k1, k2, k3, _⟩ := hM.box id bx g h1 h2
  refine ⟨fun j => cs.getD j undef, fun j x hx => ?_⟩
  have hj : j < cs.size := by
    rw [k2]
    rcases Nat.lt_or_ge j bx.length with h' | h'
    · exact h'
    · simp [List.getElem?_eq_none, h'] at hx
  have hcs : cs[j]? = some (cs.getD j undef) := by simp [hj, Array.getD]
  rw [add_plain, heap_cell k1]
  simp only [Nat.zero_add]
  exact ⟨hcs, (k3 j x _ hx hcs).1, (k3 j x _ hx hcs).2.1⟩

/-! ### filling -/
theorem fillC_fill {own : Own} {place : Nat → Option (Nat × Nat)} : ∀ (ps : List (Nat × AV)) (qs : List (Nat × Value)) (xs : List AV) (us : Array Value) (rs : List AV),
    (∀ p ∈ ps, p.2.isVal = true) → ps.length = qs.length → (∀ (i : Nat) (p : Nat × AV) (q : Nat × Value), ps[i]? = some p → qs[i]? = some q → p.1 = q.1 ∧ CR own w p.2.cells q.2.cells) → CR own w xs us →
    fillC place xs ps = some rs → ∃ ws, Instr.fill place us qs = some ws ∧ CR own w rs ws
  | [], [], xs, us, rs, _, _, _, hx, h => by
    simp [fillC] at h; subst h
    exact ⟨us, by simp [Instr.fill], hx⟩
  | [], _ :: _, _, _, _, _, hl, _, _, _ => by simp at hl
  | _ :: _, [], _, _, _, _, hl, _, _, _ => by simp at hl
  | (i, p) :: ps, (i', q) :: qs, xs, us, rs, hv, hl, hp, hx, h => by
    obtain ⟨he0, hpq⟩ := hp 0 _ _ rfl rfl
    simp only at hpq he0
    subst he0
    simp only [fillC] at h
    cases hpl : place i with
    | none => simp [hpl] at h
    | some os =>
      obtain ⟨off, size⟩ := os
      simp only [hpl] at h
      split at h
      · rename_i hc
        have hset : ∀ (ys : List AV) (zs : List Value) (k : Nat) (xs : List AV) (us : Array Value), CR own w xs us → ys.length = zs.length →
            (∀ (j : Nat) (y : AV) (z : Value), ys[j]? = some y → zs[j]? = some z → V own w y z ∧ z.oneCell' = true) → CR own w (setCells xs (off + k) ys) ((zs.zipIdx k).foldl (fun cs cj => cs.setIfInBounds (off + cj.2) cj.1) us) := by
          intro ys
          induction ys with
          | nil => intro zs k xs us hx hlen _; cases zs <;> simp_all [setCells]
          | cons y ys ih =>
            intro zs k xs us hx hlen hyz
            cases zs with
            | nil => simp at hlen
            | cons z zs =>
              simp only [setCells, List.zipIdx_cons, List.foldl_cons]
              have := ih zs (k + 1) (xs.set (off + k) y) (us.setIfInBounds (off + k) z) ⟨by simp [hx.1], fun j x v hj hv => ?_, fun j v hv => ?_⟩ (by simpa using hlen) (fun j y' z' h1 h2 => hyz (j + 1) y' z' (by simpa using h1) (by simpa using h2))
              · simpa [Nat.add_assoc] using this
              · rw [List.getElem?_set] at hj
                rw [Array.getElem?_setIfInBounds] at hv
                by_cases he : off + k = j
                · subst he
                  simp at hj hv
                  obtain ⟨_, rfl⟩ := hj
                  obtain ⟨_, rfl⟩ := hv
                  exact (hyz 0 _ _ rfl rfl).1
                · simp [he] at hj hv
                  exact hx.2.1 j x v hj hv
              · rw [Array.getElem?_setIfInBounds] at hv
                by_cases he : off + k = j
                · subst he
                  simp at hv
                  obtain ⟨_, rfl⟩ := hv
                  exact (hyz 0 y _ rfl rfl).2
                · simp [he] at hv
                  exact hx.2.2 j v hv
        have h0 := hset p.cells q.cells.toList 0 xs us hx (by simp [hpq.1]) (fun j y z h1 h2 => ⟨hpq.2.1 j y z h1 (by simpa using h2), hpq.2.2 j z (by simpa using h2)⟩)
        obtain ⟨ws, k1, k2⟩ := fillC_fill ps qs _ _ rs (fun p' h' => hv p' (List.mem_cons_of_mem _ h')) (by simpa using hl) (fun k p' q' h1 h2 => hp (k + 1) p' q' (by simpa using h1) (by simpa using h2)) h0 h
        refine ⟨ws, ?_, k2⟩
        simp only [Instr.fill, hpl]
        rw [if_neg (by simp [hpq.1, hc.1, hx.1]; omega)]
        rw [← k1]
        congr 1
        rw [← Array.foldl_toList]
        congr 1
        simp
      · simp at h

theorem fill_more {p p' : Nat → Option (Nat × Nat)} (hp : ∀ i x, p i = some x → p' i = some x) : ∀ (parts : List (Nat × Value)) (cells ws : Array Value), Instr.fill p cells parts = some ws → Instr.fill p' cells parts = some ws
  | [], cells, ws, h => by simpa [Instr.fill] using h
  | (i, v) :: parts, cells, ws, h => by
    simp only [Instr.fill] at h ⊢
    cases hi : p i with
    | none => simp [hi] at h
    | some x =>
      rw [hi] at h
      rw [hp i x hi]
      simp only at h ⊢
      split at h
      · simp at h
      · rename_i hc
        rw [if_neg hc]
        exact fill_more hp parts _ _ h
theorem placesOf_built {ty : TypeId} {places : List (Nat × Nat)} {parts : List (Nat × Value)} {ws : Array Value} {zv : Value}
    (h1 : placesOf P ty = some places) (hz : (P.info? ty).bind (·.zero) = some zv) (hf : Instr.fill (fun i => places[i]?) zv.cells parts = some ws) : P.built ty parts = some ws := by
  unfold placesOf at h1
  split at h1
  · rename_i fs hu
    unfold Program.built
    cases hi : P.info? ty with
    | none => simp [hi] at hz
    | some it =>
      simp [hi] at hz
      simp [hu, hz, h1]
      exact hf
  · rename_i n e hu
    unfold Program.built
    cases hi : P.info? ty with
    | none => simp [hi] at hz
    | some it =>
      simp [hi] at hz
      cases hie : P.info? e with
      | none => simp [hie] at h1
      | some ie =>
        simp [hie] at h1
        subst h1
        simp only [hu, hz, hie]
        refine fill_more (fun i x hx => ?_) _ _ _ hf
        simp only [List.getElem?_map, Option.map_eq_some_iff] at hx
        obtain ⟨j, hj, rfl⟩ := hx
        rw [List.getElem?_eq_some_iff] at hj
        obtain ⟨_, hj⟩ := hj
        simp at hj
        subst hj
        rfl
  · simp at h1
end
end Ev

/- A verified evaluator, part E: the operations that call nothing, each by each. -/
namespace Ev
open Go
section
variable {P : Program} {c : Cfg} {w : World} {m m' : Mem} {t : Tmps} {a : Act} {C : Oracle} {ro : FuncId → Bool} {D : Option (List Nat)} {d : Nat} {x : AV}

theorem T_bool {b : Bool} {v : Value} (h : T c w (.bool b) v) : v = .bool b := by cases (h : V c.own w (.bool b) v); rfl
theorem T_int {k : IntKind} {n : Int} {v : Value} (h : T c w (.int k n) v) : v = .int k n := by cases (h : V c.own w (.int k n) v); rfl
theorem T_str {s : Str} {v : Value} (h : T c w (.str s) v) : v = .string ⟨s.toArray⟩ := by cases (h : V c.own w (.str s) v); rfl
theorem T_ptr {id off : Nat} {v : Value} (h : T c w (.ptr id off) v) : ∃ g, c.ρ id = some g ∧ v = .pointer (some ⟨g, off, none⟩) := h
theorem T_eptr {cells : List AV} {v : Value} (h : T c w (.eptr cells) v) : ∃ (ad : Addr) (cv : Nat → Value), v = .pointer (some ad) ∧
    (∀ (j : Nat) (x : AV), cells[j]? = some x → w.cell? (ad.add j) = some (cv j) ∧ ¬ c.own.N ad.block (ad.off + j)) ∧ (∀ (j : Nat) (x : AV), cells[j]? = some x → V c.own w x (cv j) ∧ (cv j).oneCell' = true) := by
  cases (h : V c.own w (.eptr cells) v) with
  | eptr _ ad cv h1 h2 h3 => exact ⟨ad, cv, rfl, h1, fun j x hx => ⟨h2 j x hx, h3 j x hx⟩⟩
theorem T_sl {s : Nat} {els : List (List AV)} {tok : Tok} {v : Value} (h : T c w (.sl s els tok) v) : V c.own w (.sl s els .none) v := by
  cases tok with
  | row p q => exact h.1
  | nil => exact V.tokNone (h : V c.own w _ v)
  | none => exact h
  | clip => exact V.tokNone (h : V c.own w _ v)
theorem V_sl {own : Own} {s : Nat} {els : List (List AV)} {tok : Tok} {v : Value} (h : V own w (.sl s els tok) v) : ∃ (a : Option Addr) (len cap : Nat) (cv : Nat → Nat → Value), v = .slice a len cap ∧ len = els.length ∧ len ≤ cap ∧ (∀ e ∈ els, e.length = s) ∧
    (∀ (i j : Nat) (e : List AV) (x : AV), els[i]? = some e → e[j]? = some x → ∃ ad, a = some ad ∧ w.cell? (ad.add (i * s + j)) = some (cv i j) ∧ ¬ own.N ad.block (ad.off + (i * s + j))) ∧
    (∀ (i j : Nat) (e : List AV) (x : AV), els[i]? = some e → e[j]? = some x → V own w x (cv i j) ∧ (cv i j).oneCell' = true) ∧ (tok = .nil → a = none ∧ cap = 0) ∧ (tok = .clip → cap = len) := by
  cases h with
  | sl _ _ _ a len cap cv h1 h2 h3 h4 h5 ho h6 h7 h8 => exact ⟨a, len, cap, cv, rfl, h1, h2, h3, h4, fun i j e x hi hj => ⟨h5 i j e x hi hj, ho i j e x hi hj⟩, h6, h7⟩
theorem T_agg {xs : List AV} {v : Value} (h : T c w (.agg xs) v) : ∃ us, v = .agg us ∧ CR c.own w xs us := by
  cases (h : V c.own w (.agg xs) v) with
  | agg _ us h1 h2 h3 => exact ⟨us, rfl, h1, h2, h3⟩
theorem T_tup {xs : List AV} {v : Value} (h : T c w (.tup xs) v) : ∃ vs : Array Value, v = .tuple vs ∧ vs.size = xs.length ∧ ∀ (i : Nat) (x : AV) (u : Value), xs[i]? = some x → vs[i]? = some u → T1 c w x u := h

theorem eq_bytes (a b : Str) : (ByteArray.mk a.toArray).toList = a := by simp [ByteArray.toList_eq]
theorem toList_mk (a : Str) : (ByteArray.mk a.toArray).toList = a := by simp [ByteArray.toList_eq]
theorem size_mk (a : Str) : (ByteArray.mk a.toArray).size = a.length := by simp [ByteArray.size]
theorem append_mk (a b : Str) : (ByteArray.mk a.toArray) ++ (ByteArray.mk b.toArray) = ByteArray.mk (a ++ b).toArray := by
  apply ByteArray.ext
  simp
theorem extract_mk (s : Str) (l h : Nat) : (ByteArray.mk s.toArray).extract l h = ByteArray.mk ((s.take h).drop l).toArray := by
  apply ByteArray.ext
  simp [ByteArray.data_extract, List.drop_take]

theorem get_mk (s : Str) (n : Nat) (h : n < s.length) : (ByteArray.mk s.toArray)[n]? = some (s.getD n 0) := by
  have h' : n < (ByteArray.mk s.toArray).size := by rw [size_mk]; exact h
  have e : (ByteArray.mk s.toArray)[n]? = some ((ByteArray.mk s.toArray)[n]'h') := by simp [h']
  rw [e]
  simp [List.getD, h]
  rfl

theorem run_abin {op : BinOp} {x y : AV} {u v : Value} {r : AV} (h : abin op x y = some r) (hx : T c w x u) (hy : T c w y v) (ty : TypeId) (p q : Operand) :
    ∃ z, (do eqGuard op ty p q u v; binOp op ty u v : Sem Value).run P w = .ok z w ∧ T c w r z := by
  unfold abin at h
  split at h
  · rename_i k a k' b
    obtain rfl := T_int hx
    obtain rfl := T_int hy
    have hg : (eqGuard op ty p q (.int k a) (.int k' b)).run P w = .ok () w := by unfold eqGuard; cases op <;> rfl
    simp only [Sem.run_bind, hg, Result.andThen_ok]
    split at h
    · split at h
      · simp at h; subst h; rename_i hb
        refine ⟨_, by simp [binOp, Op.shift, Int.not_lt.2 hb], .of_V (.int _ _)⟩
      · simp at h
    · split at h
      · simp at h; subst h; rename_i hb
        refine ⟨_, by simp [binOp, Op.shift, Int.not_lt.2 hb], .of_V (.int _ _)⟩
      · simp at h
    · split at h
      · rename_i hk
        subst hk
        rename_i hs1 hs2
        cases op <;> simp at h <;> first
          | (subst h; exact ⟨_, by simp [binOp, Op.intArith], .of_V (.int _ _)⟩)
          | (subst h; exact ⟨_, by simp [binOp, Op.intCmp], .of_V (.bool _)⟩)
          | (obtain ⟨h0, h⟩ := h; subst h; exact ⟨_, by simp [binOp, Op.intDiv, h0], .of_V (.int _ _)⟩)
          | (exact absurd rfl (by assumption))
      · simp at h
  · rename_i a b
    obtain rfl := T_str hx
    obtain rfl := T_str hy
    have hg : (eqGuard op ty p q (.string ⟨a.toArray⟩) (.string ⟨b.toArray⟩)).run P w = .ok () w := by unfold eqGuard; cases op <;> rfl
    simp only [Sem.run_bind, hg, Result.andThen_ok]
    have hb : (binOp op ty (.string ⟨a.toArray⟩) (.string ⟨b.toArray⟩)) = Op.stringOp op ⟨a.toArray⟩ ⟨b.toArray⟩ := by cases op <;> rfl
    rw [hb]
    unfold Op.stringOp
    simp only [toList_mk, size_mk]
    cases op <;> first
      | (simp at h; done)
      | (simp only [Option.some.injEq] at h; subst h; exact ⟨_, rfl, .of_V (.bool _)⟩)
      | (simp only [Option.ite_none_right_eq_some, Option.some.injEq] at h
         obtain ⟨hle, rfl⟩ := h
         refine ⟨.string ⟨(a ++ b).toArray⟩, ?_, .of_V (.str _)⟩
         rw [← append_mk]
         have hm : ¬ (((a.length + b.length : Nat) : Int) > IntKind.i64.max) := by
           show ¬ (((a.length + b.length : Nat) : Int) > 9223372036854775807)
           omega
         simp only [hm, if_false]; rfl)
  · simp at h

theorem aeqF_run {k : Nat} {f : TypeId → AV → AV → Option Bool} {xs ys : List AV} {us vs : Array Value} (hx : CR c.own w xs us) (hy : CR c.own w ys vs)
    (hf : ∀ t a b p u v, f t a b = some p → T c w a u → T c w b v → (Op.equalIn k t u v).run P w = .ok p w) : ∀ (fs : List Field) (r : Bool), aeqF P f xs ys fs = some r → (Op.eqFields k us vs fs).run P w = .ok r w
  | [], r, h => by simp [aeqF] at h; subst h; simp [Op.eqFields]
  | x :: fs, r, h => by
    simp only [aeqF] at h
    by_cases hn : x.name ≠ "_"
    · rw [if_pos hn] at h
      split at h
      case h_2 => simp at h
      rename_i a b ha hb
      split at h
      case h_2 => simp at h
      rename_i p q hp hq
      simp only [Option.some.injEq] at h
      subst h
      obtain ⟨u, hu1, hu2⟩ := part_agg ha hx
      obtain ⟨v, hv1, hv2⟩ := part_agg hb hy
      have ih := aeqF_run hx hy hf fs q hq
      simp only [Op.eqFields, hn, ne_eq, not_false_eq_true, if_true, Sem.run_bind, hu1, hv1, Result.andThen_ok, hf _ _ _ _ _ _ hp hu2 hv2]
      cases p with
      | true => simpa using ih
      | false => simp
    · rw [if_neg hn] at h
      simp only [Op.eqFields, hn, if_false]
      exact aeqF_run hx hy hf fs r h
theorem aeq_run {k : Nat} : ∀ (d : Nat) (ty : TypeId) (x y : AV) (r : Bool) (u v : Value), aeq P d ty x y = some r → T c w x u → T c w y v → (Op.equalIn (k + d) ty u v).run P w = .ok r w
  | 0, ty, x, y, r, u, v, h, _, _ => by simp [aeq] at h
  | d + 1, ty, x, y, r, u, v, h, hx, hy => by
    simp only [aeq] at h
    rw [show k + (d + 1) = (k + d) + 1 from rfl]
    split at h
    · rename_i hu
      simp only [Option.some.injEq] at h; subst h
      rw [T_bool hx, T_bool hy]
      exact run_equalIn_bool' w _ ty _ _ hu
    · rename_i hu
      split at h
      case isFalse => simp at h
      rename_i hk
      simp only [Option.some.injEq] at h; subst h
      subst hk
      rw [T_int hx, T_int hy]
      exact run_equalIn_int w _ ty _ _ _ _ hu
    · rename_i hu
      simp only [Option.some.injEq] at h; subst h
      rw [T_str hx, T_str hy, run_equalIn_string w _ ty _ _ hu, toList_mk, toList_mk]
    · rename_i fs xs ys hu
      split at h
      · simp at h
      rename_i hs
      obtain ⟨us, rfl, hx2⟩ := T_agg hx
      obtain ⟨vs, rfl, hy2⟩ := T_agg hy
      have hfs : P.fieldsOf ty = fs := by simp [Program.fieldsOf, hu]
      rw [run_equalIn_struct w (k + d) ty us vs (by rw [hfs]; exact hu) (by simpa using hs), hfs]
      exact aeqF_run hx2 hy2 (fun t a b p u v h1 h2 h3 => aeq_run d t a b p u v h1 h2 h3) fs.toList r h
    · simp at h
theorem run_equalIn_func_nil (d : Nat) (ty : TypeId) {ps rs : Array TypeId} {b : Bool} (h : P.underlying ty = some (.func ps rs b)) : (Op.equalIn (d + 1) ty .nilFunc .nilFunc).run P w = .ok true w := by
  simp [Op.equalIn, run_underlying h]
theorem run_equalIn_func_some (d : Nat) (ty : TypeId) {ps rs : Array TypeId} {b : Bool} (h : P.underlying ty = some (.func ps rs b)) (f : FuncId) (xs ys : Array Value) : (Op.equalIn (d + 1) ty (.func (.func f) xs ys) .nilFunc).run P w = .ok false w := by
  simp [Op.equalIn, run_underlying h]
theorem run_equalIn_sl_nil (d : Nat) (ty e : TypeId) (a : Option Addr) (n cp n2 c2 : Nat) (h : P.underlying ty = some (.slice e)) : (Op.equalIn (d + 1) ty (.slice a n cp) (.slice none n2 c2)).run P w = .ok a.isNone w := by
  cases a <;> simp [Op.equalIn, run_underlying h]
theorem run_equalIn_ptr_nil (d : Nat) (ty e : TypeId) (a : Option Addr) (h : P.underlying ty = some (.pointer e)) : (Op.equalIn (d + 1) ty (.pointer a) (.pointer none)).run P w = .ok a.isNone w := by
  cases a <;> simp [Op.equalIn, run_underlying h]
/-- What '==' between two values is made of. -/
structure EqIs (P : Program) (w : World) (ty : TypeId) (p q : Operand) (u v : Value) (r : Bool) : Prop where
  guard : ∀ op, (eqGuard op ty p q u v).run P w = .ok () w
  run : (Op.equal ty u v).run P w = .ok r w
  eql : binOp .eql ty u v = (do pure (.bool (← Op.equal ty u v)))
  neq : binOp .neq ty u v = (do pure (.bool (!(← Op.equal ty u v))))
theorem acmp_run {x y : AV} {u v : Value} {r : Bool} {ty : TypeId} (h : acmp P ty x y = some r) (hx : T c w x u) (hy : T c w y v) (p q : Operand) : EqIs P w ty p q u v r := by
  unfold acmp at h
  split at h
  · rename_i xs ys
    split at h
    · simp at h
    rename_i hg
    have he := aeq_run (k := 9991) 9 ty _ _ r u v h hx hy
    obtain ⟨us, rfl, _⟩ := T_agg hx
    obtain ⟨vs, rfl, _⟩ := T_agg hy
    exact ⟨fun op => run_eqGuard_agg w op ty p q us vs (by simpa using hg), he, rfl, rfl⟩
  · rename_i s els s2 els2
    simp only [Option.map_eq_some_iff, exists_and_right] at h
    obtain ⟨⟨e, he⟩, rfl⟩ := h
    have h1 : V c.own w (.sl s els .nil) u := hx
    have h2 : V c.own w (.sl s2 els2 .nil) v := hy
    cases h1 with
    | sl _ _ _ a len cap cv hlen hcap hel hc hv ho hn hk hr =>
      cases h2 with
      | sl _ _ _ a2 len2 cap2 cv2 hlen2 hcap2 hel2 hc2 hv2 ho2 hn2 hk2 hr2 =>
        obtain ⟨rfl, rfl⟩ := hn rfl
        obtain ⟨rfl, rfl⟩ := hn2 rfl
        have hu := under_of_elemT he
        exact ⟨fun op => by cases op <;> rfl, run_equalIn_sl_nil 9999 ty e _ _ _ _ _ hu, rfl, rfl⟩
  · rename_i s x0 e0 els tok s2 els2 _
    simp only [Option.map_eq_some_iff, exists_and_right] at h
    obtain ⟨⟨e, he⟩, rfl⟩ := h
    have h1 : V c.own w (.sl s ((x0 :: e0) :: els) .none) u := T_sl hx
    have h2 : V c.own w (.sl s2 els2 .nil) v := hy
    cases h1 with
    | sl _ _ _ a len cap cv hlen hcap hel hc hv ho hn hk hr =>
      cases h2 with
      | sl _ _ _ a2 len2 cap2 cv2 hlen2 hcap2 hel2 hc2 hv2 ho2 hn2 hk2 hr2 =>
        obtain ⟨rfl, rfl⟩ := hn2 rfl
        obtain ⟨ad, rfl, _⟩ := hc 0 0 (x0 :: e0) x0 (by simp) (by simp)
        have hu := under_of_elemT he
        exact ⟨fun op => by cases op <;> rfl, run_equalIn_sl_nil 9999 ty e _ _ _ _ _ hu, rfl, rfl⟩
  · split at h
    case h_2 => simp at h
    rename_i e hu
    simp only [Option.some.injEq] at h; subst h
    have h1 : V c.own w .pnil u := hx
    have h2 : V c.own w .pnil v := hy
    cases h1; cases h2
    exact ⟨fun op => by cases op <;> rfl, run_equalIn_ptr_nil 9999 ty _ _ hu, rfl, rfl⟩
  · split at h
    case h_2 => simp at h
    rename_i e hu
    simp only [Option.some.injEq] at h; subst h
    obtain ⟨g, _, rfl⟩ := T_ptr hx
    have h2 : V c.own w .pnil v := hy
    cases h2
    exact ⟨fun op => by cases op <;> rfl, run_equalIn_ptr_nil 9999 ty _ _ hu, rfl, rfl⟩
  · split at h
    case h_2 => simp at h
    rename_i e hu
    simp only [Option.some.injEq] at h; subst h
    obtain ⟨ad, cv, rfl, _⟩ := T_eptr hx
    have h2 : V c.own w .pnil v := hy
    cases h2
    exact ⟨fun op => by cases op <;> rfl, run_equalIn_ptr_nil 9999 ty _ _ hu, rfl, rfl⟩
  · split at h
    case h_2 => simp at h
    rename_i e hu
    simp only [Option.some.injEq] at h; subst h
    have h1 : V c.own w .fnil u := hx
    have h2 : V c.own w .fnil v := hy
    cases h1; cases h2
    exact ⟨fun op => by cases op <;> rfl, run_equalIn_func_nil 9999 ty hu, rfl, rfl⟩
  · rename_i f caps
    split at h
    case h_2 => simp at h
    rename_i e hu
    simp only [Option.some.injEq] at h; subst h
    have h1 : V c.own w (.fn f caps) u := hx
    have h2 : V c.own w .fnil v := hy
    cases h1; cases h2
    exact ⟨fun op => by cases op <;> rfl, run_equalIn_func_some 9999 ty hu _ _ _, rfl, rfl⟩
  · simp at h
theorem run_acmp {op : BinOp} {x y : AV} {u v : Value} {r : AV} {ty : TypeId} (h : acmpOp P op ty x y = some r) (hx : T c w x u) (hy : T c w y v) (p q : Operand) :
    ∃ z, (do eqGuard op ty p q u v; binOp op ty u v : Sem Value).run P w = .ok z w ∧ T c w r z := by
  cases op <;> simp only [acmpOp, Option.map_eq_some_iff] at h <;> try contradiction
  · obtain ⟨b, hb, rfl⟩ := h
    have e := acmp_run hb hx hy p q
    exact ⟨.bool b, by rw [e.eql]; simp [e.guard, e.run], .of_V (.bool _)⟩
  · obtain ⟨b, hb, rfl⟩ := h
    have e := acmp_run hb hx hy p q
    exact ⟨.bool !b, by rw [e.neq]; simp [e.guard, e.run], .of_V (.bool _)⟩

theorem bound_run {o : Option AV} {vo : Option Value} {n y dflt : Nat} {code : BoundsCode} (h : abound o dflt = some n) (hle : n ≤ y)
    (hv : ∀ z, o = some z → ∃ v, vo = some v ∧ T c w z v) (hn : o = none → vo = none) :
    (∃ v, vo = some v ∧ (Instr.sliceBound v y code).run P w = .ok n w) ∨ (vo = none ∧ dflt = n) := by
  cases o with
  | none =>
    simp [abound] at h; subst h
    exact .inr ⟨hn rfl, rfl⟩
  | some z =>
    obtain ⟨v, rfl, hT⟩ := hv z rfl
    refine .inl ⟨v, rfl, ?_⟩
    unfold abound at h
    split at h
    · simp at *
    · rename_i k i heq
      simp at heq; subst heq
      split at h
      · rename_i hi
        simp at h; subst h
        obtain rfl := T_int hT
        simp [Instr.sliceBound, asIntOf, hi]
        omega
      · simp at h
    · simp at h

theorem run_aslice_str {s : Str} {lo hi : Option AV} {lv hv : Option Value} {r : AV} {ty : TypeId} (h : aslice (.str s) lo hi = some r) (hu : P.underlying ty = some .string)
    (hl : ∀ z, lo = some z → ∃ v, lv = some v ∧ T c w z v) (hln : lo = none → lv = none) (hh : ∀ z, hi = some z → ∃ v, hv = some v ∧ T c w z v) (hhn : hi = none → hv = none) :
    ∃ z, (Instr.sliceAt ty (.string ⟨s.toArray⟩) lv hv none).run P w = .ok z w ∧ T c w r z := by
  simp only [aslice, Option.bind_eq_some_iff] at h
  obtain ⟨n, hn, l, hll, h⟩ := h
  split at h
  · rename_i hc
    simp at h; subst h
    have b1 := bound_run (P := P) (code := .sliceAlen) hn hc.2 hh hhn
    have b2 := bound_run (P := P) (code := .sliceB) hll hc.1 hl hln
    refine ⟨.string ⟨((s.take n).drop l).toArray⟩, ?_, .of_V (.str _)⟩
    simp only [Instr.sliceAt, Sem.run_bind, run_underlying hu, Result.andThen_ok, Instr.slice, Instr.sliceBounds, size_mk, Sem.run_pure, Option.isSome_none, Bool.false_eq_true, if_false, Sem.run_ite]
    rcases b1 with ⟨v1, rfl, b1⟩ | ⟨rfl, rfl⟩ <;> rcases b2 with ⟨v2, rfl, b2⟩ | ⟨rfl, rfl⟩ <;> simp_all [extract_mk]
  · simp at h

theorem V_slice {own : Own} {s n l : Nat} {els : List (List AV)} {v : Value} (h : V own w (.sl s els .none) v) (h1 : l ≤ n) (h2 : n ≤ els.length) : ∃ a len cap, v = .slice a len cap ∧ len = els.length ∧ n ≤ cap ∧
    V own w (.sl s ((els.take n).drop l) .none) (.slice (if cap = l then a else a.map (·.add (l * s))) (n - l) (cap - l)) := by
  obtain ⟨a, len, cap, cv, rfl, hlen, hcap, hel, hc, hv, _, _⟩ := V_sl h
  refine ⟨a, len, cap, rfl, hlen, by omega, .sl s _ .none _ _ _ (fun i j => cv (l + i) j) (by simp; omega) (by omega) (fun e he => hel e (List.mem_of_mem_take (List.mem_of_mem_drop he))) (fun i j e x hi hj => ?_) (fun i j e x hi hj => ?_) (fun i j e x hi hj => ?_) (by simp) (by simp) (by simp)⟩
  · rw [List.getElem?_drop, List.getElem?_take] at hi
    split at hi
    · rename_i hlt
      obtain ⟨ad, rfl, hcell, hown⟩ := hc _ _ _ _ hi hj
      rw [if_neg (by omega)]
      refine ⟨ad.add (l * s), rfl, ?_, ?_⟩
      · rw [add_add]
        have : l * s + (i * s + j) = (l + i) * s + j := by rw [Nat.add_mul]; omega
        rw [this]; exact hcell
      · rw [add_block, add_off]
        have : ad.off + l * s + (i * s + j) = ad.off + ((l + i) * s + j) := by rw [Nat.add_mul]; omega
        rw [this]; exact hown
    · simp at hi
  · rw [List.getElem?_drop, List.getElem?_take] at hi
    split at hi
    · exact (hv _ _ _ _ hi hj).1
    · simp at hi
  · rw [List.getElem?_drop, List.getElem?_take] at hi
    split at hi
    · exact (hv _ _ _ _ hi hj).2
    · simp at hi

theorem V_empty {own : Own} {s : Nat} {a : Option Addr} {cap : Nat} : V own w (.sl s [] .none) (.slice a 0 cap) :=
  .sl s [] .none a 0 cap (fun _ _ => .nilFunc) rfl (Nat.zero_le _) (by simp) (by simp) (by simp) (by simp) (by simp) (by simp) (by simp)

theorem run_aslice_sl {z : Nat} {els : List (List AV)} {tok : Tok} {lo hi : Option AV} {lv hv : Option Value} {r : AV} {ty e : TypeId} {u : Value} (h : aslice (.sl z els tok) lo hi = some r) (hu : P.underlying ty = some (.slice e))
    (hz : some z = tsz P e ∨ els = [] ∧ (tsz P e).isSome) (hx : T c w (.sl z els tok) u)
    (hl : ∀ z, lo = some z → ∃ v, lv = some v ∧ T c w z v) (hln : lo = none → lv = none) (hh : ∀ z, hi = some z → ∃ v, hv = some v ∧ T c w z v) (hhn : hi = none → hv = none) :
    ∃ y, (Instr.sliceAt ty u lv hv none).run P w = .ok y w ∧ T c w r y := by
  simp only [aslice, Option.bind_eq_some_iff] at h
  obtain ⟨n, hn, l, hll, h⟩ := h
  split at h
  · rename_i hc
    simp at h; subst h
    obtain ⟨a, len, cap, rfl, hlen, hncap, hV⟩ := V_slice (T_sl hx) hc.1 hc.2
    have b1 := bound_run (P := P) (code := .sliceAcap) hn hncap hh hhn
    have b2 := bound_run (P := P) (code := .sliceB) hll hc.1 hl hln
    obtain ⟨z', hz', hzz⟩ : ∃ z', tsz P e = some z' ∧ (z' = z ∨ els = []) := by
      rcases hz with hz | ⟨h1, h2⟩
      · exact ⟨z, hz.symm, .inl rfl⟩
      · obtain ⟨z', hz'⟩ := Option.isSome_iff_exists.1 h2
        exact ⟨z', hz', .inr h1⟩
    refine ⟨.slice (if cap = l then a else a.map (·.add (l * z'))) (n - l) (cap - l), ?_, ?_⟩
    · simp only [Instr.sliceAt, Sem.run_bind, run_underlying hu, Result.andThen_ok, Instr.slice, Instr.sliceBounds, Sem.run_pure, Option.isSome_none, Bool.false_eq_true, if_false, Sem.run_ite, if_true]
      rcases b1 with ⟨v1, rfl, b1⟩ | ⟨rfl, rfl⟩ <;> rcases b2 with ⟨v2, rfl, b2⟩ | ⟨rfl, rfl⟩ <;> simp_all [run_tsz hz']
    · rcases hzz with rfl | hz0
      · exact .of_V hV
      · subst hz0
        have hl0 : l = 0 ∧ n = 0 := by have := hc.1; have := hc.2; simp at *; omega
        obtain ⟨rfl, rfl⟩ := hl0
        exact .of_V V_empty
  · simp at h
end
end Ev
