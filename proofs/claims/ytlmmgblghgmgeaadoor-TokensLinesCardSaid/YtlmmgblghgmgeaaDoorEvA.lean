/- A verified evaluator, part A: abstract values and what one operation makes of them. -/
import Derived.Orders
import Derived.Laws.Sem
set_option linter.unusedVariables false
namespace Ev
open Go

abbrev Str := List UInt8

/-- What is known of a slice's room: it is nil; nothing; it has no room; it is the named row's tip, that may be appended to in place. -/
inductive Tok where
  | nil | none | clip | row (a b : Nat)
  deriving DecidableEq

inductive AV where
  | undef
  | bool (b : Bool)
  | int (k : IntKind) (n : Int)
  | str (s : Str)
  | sl (s : Nat) (els : List (List AV)) (tok : Tok)
  | ptr (id off : Nat)
  | eptr (cells : List AV)
  | pnil
  | fn (f : FuncId) (cap : List AV)
  | fnil
  | agg (cells : List AV)
  | tup (vs : List AV)

abbrev Box := List AV
abbrev Tmps := Nat → AV
structure Mem where
  boxes : Nat → Option Box
  names : Nat → Nat → Option Bool
  froz : Nat → Bool := fun _ => false

def upd {α : Type} (f : Nat → α) (d : Nat) (v : α) : Nat → α := fun i => if i = d then v else f i
@[simp] theorem upd_apply {α : Type} (f : Nat → α) (d : Nat) (v : α) (i : Nat) : upd f d v i = if i = d then v else f i := rfl
def upd2 (f : Nat → Nat → Option Bool) (d e : Nat) (v : Bool) : Nat → Nat → Option Bool := fun i j => if i = d ∧ j = e then some v else f i j
@[simp] theorem upd2_apply (f : Nat → Nat → Option Bool) (d e : Nat) (v : Bool) (i j : Nat) : upd2 f d e v i j = if i = d ∧ j = e then some v else f i j := rfl
def ofL {α : Type} (z : α) : List (Nat × α) → Nat → α
  | [], _ => z
  | (j, v) :: r, i => if i = j then v else ofL z r i
def ofB : List (Nat × Box) → Nat → Option Box
  | [], _ => Option.none
  | (j, v) :: r, i => if i = j then some v else ofB r i
def rowName : AV → Option (Nat × Nat)
  | .sl _ _ (.row p q) => some (p, q)
  | _ => Option.none
/-- The names of the rows whose tips stand in a list. -/
def namesOf : List AV → Nat → Nat → Option Bool
  | [], _, _ => Option.none
  | y :: r, a, b => if rowName y = some (a, b) then some true else namesOf r a b

mutual
/-- A constant's abstract value. -/
def ofValue : Value → AV
  | .bool b => .bool b
  | .int k n => .int k n
  | .string s => .str s.data.toList
  | .pointer Option.none => .pnil
  | .slice Option.none 0 0 => .sl 0 [] .nil
  | .nilFunc => .fnil
  | .agg ⟨cs⟩ => if cs.all Value.oneCell' then .agg (ofValues cs) else .undef
  | _ => .undef
def ofValues : List Value → List AV
  | [] => []
  | v :: r => ofValue v :: ofValues r
end

/-- A value that is put into another one: it may be appended to no more; a pointer to a box is forgotten. -/
def AV.bare : AV → AV
  | .sl s els (.row _ _) => .sl s els .none
  | .ptr _ _ => .undef
  | .tup _ => .undef
  | v => v
def AV.cells : AV → List AV
  | .agg cs => cs
  | .undef => []
  | .tup _ => []
  | v => [v.bare]
def AV.isVal : AV → Bool
  | .undef => false
  | .tup _ => false
  | _ => true
/-- One cell's value, of a kind that is known. -/
def AV.one : AV → Bool
  | .undef => false
  | .tup _ => false
  | .agg _ => false
  | _ => true

section
variable (P : Program)

def aggT (t : TypeId) : Option Bool :=
  match P.underlying t with
  | some (.struct _) | some (.array _ _) => some true
  | some _ => some false
  | Option.none => Option.none
def tsz (t : TypeId) : Option Nat := (P.info? t).map (·.size)
def tbytes (t : TypeId) : Option Nat := (P.info? t).map (·.bytes)
def placesOf (t : TypeId) : Option (List (Nat × Nat)) :=
  match P.underlying t with
  | some (.struct fs) => fs.toList.mapM (fun f => (P.info? f.type).map fun i => (f.offset, i.size))
  | _ => Option.none
def zeroOf (t : TypeId) : Option AV := (P.info? t).bind fun i => i.zero.map ofValue
def elemT (t : TypeId) : Option TypeId :=
  match P.underlying t with
  | some (.slice e) => some e
  | _ => Option.none
def fieldT (t : TypeId) (i : Nat) : Option (Nat × TypeId) :=
  match P.underlying t with
  | some (.struct fs) => fs[i]?.bind fun f => match tsz P f.type with
    | some (_ + 1) => some (f.offset, f.type)
    | _ => Option.none
  | _ => Option.none

/-- A part of cells as a value of a type. -/
def partOf (t : TypeId) (cs : List AV) (off : Nat) : Option AV :=
  match aggT P t, tsz P t with
  | some true, some n => if off + n ≤ cs.length then some (.agg (((cs.drop off).take n).map AV.bare)) else Option.none
  | some false, _ => cs[off]?
  | _, _ => Option.none

def setCells (cs : List AV) (off : Nat) : List AV → List AV
  | [] => cs
  | v :: r => setCells (cs.set off v) (off + 1) r

def fillC (place : Nat → Option (Nat × Nat)) (cells : List AV) : List (Nat × AV) → Option (List AV)
  | [] => some cells
  | (i, v) :: rest =>
    match place i with
    | Option.none => Option.none
    | some (off, size) =>
      if v.cells.length = size ∧ off + size ≤ cells.length then fillC place (setCells cells off v.cells) rest else Option.none

def abin (op : BinOp) : AV → AV → Option AV
  | .int k a, .int k' b =>
    match op with
    | .shl => if 0 ≤ b then some (.int k (k.wrap (a * 2 ^ (min b.toNat k.bits)))) else Option.none
    | .shr => if 0 ≤ b then some (.int k (a.fdiv (2 ^ (min b.toNat k.bits)))) else Option.none
    | _ => if k = k' then
        (match op with
        | .add => some (.int k (k.wrap (a + b)))
        | .sub => some (.int k (k.wrap (a - b)))
        | .mul => some (.int k (k.wrap (a * b)))
        | .quo => if b = 0 then Option.none else some (.int k (k.wrap (a.tdiv b)))
        | .rem => if b = 0 then Option.none else some (.int k (a.tmod b))
        | .eql => some (.bool (a == b))
        | .neq => some (.bool (a != b))
        | .lss => some (.bool (decide (a < b)))
        | .leq => some (.bool (decide (a ≤ b)))
        | .gtr => some (.bool (decide (a > b)))
        | .geq => some (.bool (decide (a ≥ b)))
        | _ => Option.none)
      else Option.none
  | .str a, .str b =>
    match op with
    | .add => if a.length + b.length ≤ 9223372036854775807 then some (.str (a ++ b)) else Option.none
    | .eql => some (.bool (a == b))
    | .neq => some (.bool !(a == b))
    | .lss => some (.bool (Op.bytesLess a b))
    | .leq => some (.bool (Op.bytesLess a b || a == b))
    | .gtr => some (.bool !(Op.bytesLess a b || a == b))
    | .geq => some (.bool !(Op.bytesLess a b))
    | _ => Option.none
  | _, _ => Option.none

/-- '==' between Bools, strings, numbers, or structs of those. -/
def aeqF (f : TypeId → AV → AV → Option Bool) (xs ys : List AV) : List Field → Option Bool
  | [] => some true
  | x :: r => if x.name ≠ "_" then (match partOf P x.type xs x.offset, partOf P x.type ys x.offset with
      | some a, some b => (match f x.type a b, aeqF f xs ys r with
        | some p, some q => some (p && q)
        | _, _ => Option.none)
      | _, _ => Option.none) else aeqF f xs ys r
def aeq : Nat → TypeId → AV → AV → Option Bool
  | 0, _, _, _ => Option.none
  | d + 1, t, x, y => match P.underlying t, x, y with
    | some .bool, .bool a, .bool b => some (a == b)
    | some (.int _), .int k a, .int k' b => if k = k' then some (a == b) else Option.none
    | some .string, .str a, .str b => some (a == b)
    | some (.struct fs), .agg xs, .agg ys => if P.stoodInHeld t then Option.none else aeqF P (aeq d) xs ys fs.toList
    | _, _, _ => Option.none
/-- '==' on structs, and with nil. -/
def acmp (t : TypeId) : AV → AV → Option Bool
  | .agg xs, .agg ys => if P.eqGuardType P.depth t then Option.none else aeq P 9 t (.agg xs) (.agg ys)
  | .sl _ _ .nil, .sl _ _ .nil => (elemT P t).map fun _ => true
  | .sl _ ((_ :: _) :: _) _, .sl _ _ .nil => (elemT P t).map fun _ => false
  | .pnil, .pnil => (match P.underlying t with | some (.pointer _) => some true | _ => Option.none)
  | .ptr _ _, .pnil => (match P.underlying t with | some (.pointer _) => some false | _ => Option.none)
  | .eptr _, .pnil => (match P.underlying t with | some (.pointer _) => some false | _ => Option.none)
  | .fnil, .fnil => (match P.underlying t with | some (.func _ _ _) => some true | _ => Option.none)
  | .fn _ _, .fnil => (match P.underlying t with | some (.func _ _ _) => some false | _ => Option.none)
  | _, _ => Option.none
def acmpOp (op : BinOp) (t : TypeId) (x y : AV) : Option AV :=
  match op with
  | .eql => (acmp P t x y).map .bool
  | .neq => (acmp P t x y).map fun b => .bool !b
  | _ => Option.none

def abound (o : Option AV) (d : Nat) : Option Nat :=
  match o with
  | Option.none => some d
  | some (.int _ n) => if 0 ≤ n then some n.toNat else Option.none
  | _ => Option.none
def aslice (x : AV) (lo hi : Option AV) : Option AV :=
  match x with
  | .str s =>
    (abound hi s.length).bind fun h => (abound lo 0).bind fun l =>
      if l ≤ h ∧ h ≤ s.length then some (.str ((s.take h).drop l)) else Option.none
  | .sl z els tok =>
    (abound hi els.length).bind fun h => (abound lo 0).bind fun l =>
      if l ≤ h ∧ h ≤ els.length then some (.sl z ((els.take h).drop l) .none) else Option.none
  | _ => Option.none

abbrev Oracle := FuncId → List AV → List (Nat × Box) → Option (AV × List (Nat × Box))

/-- append: where its result goes, the element type, the slice, what is appended. D: in a statement whose order is open, the slots that it writes. -/
def aappend (D : List Nat) (d : Nat) (e : TypeId) (m : Mem) (x : AV) (new : List (List AV)) : Option (AV × Mem) :=
  match x with
  | .sl s els tok =>
    match tsz P e, tbytes P e, zeroOf P e with
    | some z, some by_, some zv =>
      if by_ ≠ 0 ∧ z ≠ 0 ∧ zv.isVal ∧ zv.cells.length = z ∧ (els.length + new.length) * by_ ≤ 70368744177664 ∧ (s = z ∨ els = [] ∧ tok = .nil) ∧ m.names d 0 = Option.none then
        (match tok with
        | .nil | .clip => some (.sl z (els ++ new) (.row d 0), { m with names := upd2 m.names d 0 true })
        | .row a b => if m.names a b = some true ∧ ¬ a ∈ D then some (.sl z (els ++ new) (.row d 0), { m with names := upd2 (upd2 m.names a b false) d 0 true }) else Option.none
        | .none => Option.none)
      else Option.none
    | _, _, _ => Option.none
  | _ => Option.none

def avAll : List (Option AV) → Option (List AV)
  | [] => some []
  | some v :: r => (avAll r).map (v :: ·)
  | Option.none :: _ => Option.none

def opnd (t : Tmps) : Operand → AV
  | .tmp i => t i
  | .const v => ofValue v
  | .global _ => .undef
  | .func f => .fn f []

/-- Rows' tips get new names by where they stand; a tip that is met again, or is none any more, is a plain slice. grow: a nil slice is taken for a row that may grow. -/
def relab1 (names : Nat → Nat → Option Bool) (used : List (Nat × Nat)) (p q : Nat) (grow : Option Nat) : AV → AV × List (Nat × Nat)
  | .sl s els (.row a b) => if names a b = some true ∧ ¬ (a, b) ∈ used then (.sl s els (.row p q), (a, b) :: used) else (.sl s els .none, used)
  | .sl s els .nil => match grow with
    | some z => (.sl z [] (.row p q), used)
    | Option.none => (.sl s els .nil, used)
  | v => (v, used)
def relabL (names : Nat → Nat → Option Bool) (nm : Nat → Nat × Nat) (grow : Nat → Option Nat) : Nat → List (Nat × Nat) → List AV → List AV × List (Nat × Nat)
  | _, used, [] => ([], used)
  | j, used, v :: r =>
    let x := relab1 names used (nm j).1 (nm j).2 (grow j) v
    let y := relabL names nm grow (j + 1) x.2 r
    (x.1 :: y.1, y.2)
def boxName (id j : Nat) : Nat × Nat := (1000000 + id, 1 + j)
def relabB (names : Nat → Nat → Option Bool) (nm : Nat → Nat → Nat × Nat) (grow : Nat → Nat → Option Nat) : List (Nat × Nat) → List (Nat × Box) → List (Nat × Box) × List (Nat × Nat)
  | used, [] => ([], used)
  | used, (id, c) :: r =>
    let x := relabL names (nm id) (grow id) 0 used c
    let y := relabB names nm grow x.2 r
    ((id, x.1) :: y.1, y.2)
def cellsOfB : List (Nat × Box) → List AV
  | [] => []
  | (_, c) :: r => c ++ cellsOfB r

/-- The boxes that a call is handed, each once: the arguments, which box stands at which place, the boxes. -/
def passed (m : Mem) : List AV → Nat → List Nat → Option (List AV × List (Nat × Nat) × List (Nat × Box))
  | [], _, _ => some ([], [], [])
  | .ptr id off :: r, i, seen =>
    if off = 0 ∧ ¬ id ∈ seen ∧ m.froz id = false then
      match m.boxes id, passed m r (i + 1) (id :: seen) with
      | some c, some (vs, ids, bs) => some (.ptr i 0 :: vs, (i, id) :: ids, (i, c) :: bs)
      | _, _ => Option.none
    else Option.none
  | v :: r, i, seen => match passed m r (i + 1) seen with
      | some (vs, ids, bs) => some (v.bare :: vs, ids, bs)
      | Option.none => Option.none

def noPtr : List AV → Bool
  | [] => true
  | .ptr _ _ :: _ => false
  | _ :: r => noPtr r
/-- No slice and no pointer. -/
def AV.scalar : AV → Bool
  | .bool _ | .int _ _ | .str _ => true
  | _ => false
def scalarR : AV → Bool
  | .agg vs | .tup vs => vs.all AV.scalar
  | v => v.scalar
/-- The arguments as they are seen by a function that only reads. -/
def viewed (boxes : Nat → Option Box) : List AV → Option (List AV)
  | [] => some []
  | .ptr id off :: r => match boxes id, viewed boxes r with
    | some c, some vs => some (.eptr ((c.drop off).map AV.bare) :: vs)
    | _, _ => Option.none
  | v :: r => (viewed boxes r).map (v.bare :: ·)

/-- A call's result in the caller's names: slices that may be appended to. -/
def freshAll (names : Nat → Nat → Option Bool) : List AV → Bool
  | [] => true
  | y :: r => (match rowName y with | some (a, b) => (names a b).isNone | Option.none => true) && freshAll names r
def addNames (names : Nat → Nat → Option Bool) : List AV → Nat → Nat → Option Bool
  | [], a, b => names a b
  | y :: r, a, b => if rowName y = some (a, b) then some true else addNames names r a b
def killNames (names : Nat → Nat → Option Bool) : List AV → Nat → Nat → Option Bool
  | [], a, b => names a b
  | y :: r, a, b => if rowName y = some (a, b) then some false else killNames names r a b
def resParts : AV → List AV
  | .tup vs => vs
  | v => [v]
def resBack (r : AV) (vs : List AV) : AV :=
  match r with
  | .tup _ => .tup vs
  | v => vs.headD v
def adopt (d : Nat) (used : List (Nat × Nat)) (m : Mem) (r : AV) : Option (AV × Mem) :=
  let vs := (relabL (fun _ _ => some true) (fun c => (d, c)) (fun _ => Option.none) 0 used (resParts r)).1
  if noPtr vs ∧ freshAll m.names vs then some (resBack r vs, { m with names := addNames m.names vs }) else Option.none

def setBoxes (boxes : Nat → Option Box) (ids : List (Nat × Nat)) : List (Nat × Box) → Nat → Option Box
  | [] => boxes
  | (i, c) :: r => match ids.lookup i with
    | some id => upd (setBoxes boxes ids r) id (some c)
    | Option.none => setBoxes boxes ids r

/-- In a statement whose order is open: no box that the statement itself makes is read. -/
def mayRead (D : Option (List Nat)) (id : Nat) : Bool :=
  match D with
  | some l => !(l.map (· + 500000)).contains id
  | Option.none => true

/-- The boxes that values point to. -/
def capIds : List AV → List Nat
  | [] => []
  | .ptr id _ :: r => id :: capIds r
  | _ :: r => capIds r
def acall (C : Oracle) (ro : FuncId → Bool) (D : Option (List Nat)) (d : Nat) (f : FuncId) (args : List AV) (m : Mem) : Option (AV × Mem) :=
  if noPtr args then
    match C f (args.map AV.bare) [] with
    | some (r, []) => adopt d [] m r
    | _ => Option.none
  else if ro f then
    if (capIds args).all (mayRead D) then
    match viewed m.boxes args with
    | some vs => match C f vs [] with
      | some (r, []) => if scalarR r then some (r, m) else Option.none
      | _ => Option.none
    | Option.none => Option.none
    else Option.none
  else if D.isSome then Option.none
  else match passed m args 0 [] with
    | some (vs, ids, bs) =>
      match C f vs (relabB m.names boxName (fun _ _ => Option.none) [] bs).1 with
      | some (r, bs') =>
        if (bs'.map (·.1)) = bs.map (·.1) then
          (let x := relabB (fun _ _ => some true) (fun i j => (d + 1000 * (i + 1), j)) (fun _ _ => Option.none) [] bs'
           let names := killNames m.names (cellsOfB bs)
           if freshAll m.names (cellsOfB x.1) then adopt d x.2 { m with boxes := setBoxes m.boxes ids x.1, names := addNames names (cellsOfB x.1) } r else Option.none)
        else Option.none
      | Option.none => Option.none
    | Option.none => Option.none

def aminmax (isMax : Bool) : List AV → Option AV
  | [.int k a, .int _ b] => some (.int k (if isMax then (if b > a then b else a) else (if b < a then b else a)))
  | _ => Option.none

/-- What a closure captures: a box that is captured is written no more. -/
def capture (D : Option (List Nat)) (m : Mem) : List AV → Option (List AV × Mem)
  | [] => some ([], m)
  | .ptr id off :: r => if mayRead D id then (match m.boxes id, capture D m r with
    | some c, some (vs, m') => some (.eptr ((c.drop off).map AV.bare) :: vs, { m' with froz := fun i => if i = id then true else m'.froz i })
    | _, _ => Option.none) else Option.none
  | v :: r => match capture D m r with
    | some (vs, m') => some (v.bare :: vs, m')
    | Option.none => Option.none

/-- What one operation gives, and what becomes of the memory. -/
def aop (C : Oracle) (ro : FuncId → Bool) (D : Option (List Nat)) (o : Op) (d : Nat) (ρ : Operand → AV) (m : Mem) : Option (AV × Mem) :=
  match o with
  | .move x | .assign x => some (ρ x, m)
  | .pick c a b => match ρ c with | .bool t => some (bif t then ρ a else ρ b, m) | _ => Option.none
  | .alloc e => match zeroOf P e, m.boxes (d + 500000) with
    | some z, Option.none => if z.isVal = false then Option.none else some (.ptr (d + 500000) 0, { m with boxes := upd m.boxes (d + 500000) (some z.cells), froz := upd m.froz (d + 500000) false })
    | _, _ => Option.none
  | .box e x => match m.boxes (d + 500000) with
    | Option.none => if (ρ x).isVal = false then Option.none else some (.ptr (d + 500000) 0, { m with boxes := upd m.boxes (d + 500000) (some (ρ x).cells), froz := upd m.froz (d + 500000) false })
    | _ => Option.none
  | .build t ps => match zeroOf P t, placesOf P t with
    | some z, some places => if z.isVal ∧ (ps.toList.all fun p => (ρ p.2).isVal) then (fillC (fun i => places[i]?) z.cells (ps.toList.map fun p => (p.1, ρ p.2))).map fun cs => (.agg cs, m) else Option.none
    | _, _ => Option.none
  | .buildSlice t len ps => match elemT P t with
    | some e => match zeroOf P e, tsz P e with
      | some z, some n =>
        if len * n ≤ 16777216 ∧ z.isVal ∧ z.cells.length = n ∧ n ≠ 0 ∧ ps.toList.map (·.1) = List.range len ∧ (ps.toList.all fun p => (ρ p.2).isVal && (ρ p.2).cells.length == n) then
          some (.sl n (ps.toList.map fun p => (ρ p.2).cells) .clip, m)
        else Option.none
      | _, _ => Option.none
    | Option.none => Option.none
  | .load t a => match ρ a with
    | .ptr id off => if mayRead D id then (match m.boxes id with
        | some c => (partOf P t c off).map fun v => (v, m)
        | Option.none => Option.none) else Option.none
    | .eptr c => (partOf P t c 0).map fun v => (v, m)
    | _ => Option.none
  | .store t a x => match ρ a with
    | .ptr id off => match m.boxes id with
      | some c => if some (ρ x).cells.length = tsz P t ∧ off + (ρ x).cells.length ≤ c.length ∧ m.froz id = false ∧ (ρ x).isVal then some (.tup [], { m with boxes := upd m.boxes id (some (match ρ x with
          | .agg cs => setCells c off cs
          | .sl s els tok => c.set off (.sl s els tok)
          | v => c.set off v.bare)) }) else Option.none
      | Option.none => Option.none
    | _ => Option.none
  | .nilCheck x => match ρ x with
    | .ptr id off => some (.ptr id off, m)
    | .eptr c => some (.eptr c, m)
    | _ => Option.none
  | .binOp op t x y _ => match ρ x, ρ y with
    | .bool a, .bool b => match op, P.underlying t with
      | .eql, some .bool => some (.bool (a == b), m)
      | .neq, some .bool => some (.bool !(a == b), m)
      | _, _ => Option.none
    | a, b => match abin op a b with
      | some v => some (v, m)
      | Option.none => (acmpOp P op t a b).map fun v => (v, m)
  | .unOp op _ x => match op, ρ x with
    | .not, .bool b => some (.bool !b, m)
    | .neg, .int k n => some (.int k (k.wrap (0 - n)), m)
    | _, _ => Option.none
  | .convert src dst x => match P.underlying dst, ρ x with
    | some (.int k), .int _ n => if (P.underlying src).isSome then some (.int k (k.wrap n), m) else Option.none
    | some .string, .str s => if (P.underlying src).isSome then some (.str s, m) else Option.none
    | _, _ => Option.none
  | .makeFunc (.func f) fs caps => if fs = #[] then (match capture D m (caps.toList.map ρ) with
      | some (vs, m') => some (.fn f vs, m')
      | Option.none => Option.none) else Option.none
  | .slice t x lo hi Option.none => match P.underlying t, ρ x with
    | some .string, .str s => (aslice (.str s) (lo.map ρ) (hi.map ρ)).map fun v => (v, m)
    | some (.slice e), .sl z els tok => if some z = tsz P e ∨ els = [] ∧ (tsz P e).isSome then (aslice (.sl z els tok) (lo.map ρ) (hi.map ρ)).map fun v => (v, m) else Option.none
    | _, _ => Option.none
  | .fieldAddr t x i => match ρ x, fieldT P t i with
    | .ptr id off, some (o, _) => some (.ptr id (off + o), m)
    | .eptr c, some (o, _) => some (.eptr (c.drop o), m)
    | _, _ => Option.none
  | .field t x i => match ρ x, fieldT P t i with
    | .agg c, some (o, ft) => (partOf P ft c o).map fun v => (v, m)
    | _, _ => Option.none
  | .indexAddr t x i => match ρ x, ρ i, elemT P t with
    | .sl s els _, .int _ n, some e => if 0 ≤ n ∧ n < els.length ∧ some s = tsz P e ∧ s ≠ 0 then some (.eptr (els.getD n.toNat []), m) else Option.none
    | _, _, _ => Option.none
  | .index t x i => match P.underlying t, ρ x, ρ i with
    | some .string, .str s, .int _ n => if 0 ≤ n ∧ n < s.length then some (.int .u8 (s.getD n.toNat 0).toNat, m) else Option.none
    | _, _, _ => Option.none
  | .extract x i => match ρ x with | .tup vs => (vs[i]?).map fun a => (a, m) | _ => Option.none
  | .call c =>
    match c.callee with
    | .builtin .len => (match c.args.toList.map ρ, c.argTypes.toList.head?.bind P.underlying with
      | [.str s], some .string => some (.int .i64 s.length, m)
      | [.sl _ els _], some (.slice _) => some (.int .i64 els.length, m)
      | _, _ => Option.none)
    | .builtin .min => (aminmax false (c.args.toList.map ρ)).map fun v => (v, m)
    | .builtin .max => (aminmax true (c.args.toList.map ρ)).map fun v => (v, m)
    | .builtin .append => (match c.argTypes.toList with
      | [t1, t2] => (match elemT P t1, P.underlying t2, c.args.toList.map ρ with
        | some e, some (.slice _), [x, .sl s els _] => if some s = tsz P e ∨ els = [] then aappend P (D.getD []) d e m x els else Option.none
        | _, _, _ => Option.none)
      | _ => Option.none)
    | .value f => (match ρ f with
      | .fn g caps => acall C ro D d g (c.args.toList.map ρ ++ caps) m
      | _ => Option.none)
    | _ => Option.none
  | _ => Option.none

/-- Is a guarded operation carried out? -/
def isWanted (ops : Array Oper) (g : Option (Nat × Bool)) (t : Tmps) : Option Bool :=
  match g with
  | Option.none => some true
  | some (j, want) => match (ops[j]?).bind (·.dst) with
    | some d => match t d with
      | .bool b => some (b == want)
      | .tup [] => some false
      | _ => Option.none
    | Option.none => some false

def putT (dst : Option Tmp) (v : AV) (t : Tmps) : Tmps :=
  match dst with
  | some d => upd t d v
  | Option.none => t
def okDst (N : Nat) : Option Tmp → Bool
  | some d => decide (d < N)
  | Option.none => true
/-- One operation of a statement, carried out or passed over. N: how many slots there are. -/
def astep (C : Oracle) (ro : FuncId → Bool) (D : Option (List Nat)) (N : Nat) (all : Array Oper) (o : Oper) (t : Tmps) (m : Mem) : Option (Tmps × Mem) :=
  if okDst N o.dst then
    match isWanted all o.guard t with
    | some true => match aop P C ro D o.op (o.dst.getD 999999) (opnd t) m with
      | some (v, m') => some (putT o.dst v t, m')
      | Option.none => Option.none
    | some false => some (putT o.dst (.tup []) t, m)
    | Option.none => Option.none
  else Option.none
def evOps {R : Type} (C : Oracle) (ro : FuncId → Bool) (D : Option (List Nat)) (N : Nat) (all : Array Oper) : List Oper → Tmps → Mem → (Tmps → Mem → Option R) → Option R
  | [], t, m, K => K t m
  | o :: r, t, m, K => match astep P C ro D N all o t m with
    | some (t', m') => evOps C ro D N all r t' m' K
    | Option.none => Option.none

inductive Ex where
  | normal | exit (id : Nat) | ret
  deriving DecidableEq

/-- What a row of approximations comes to. -/
noncomputable def lim {α : Type} (g : Nat → Option α) : Option α :=
  open Classical in if h : ∃ k r, g k = some r then some (Classical.choose (Classical.choose_spec h)) else Option.none

abbrev Step := Tmps → Mem → Option (Ex × Tmps × Mem)
def iter (step : Step) : Nat → Tmps → Mem → Option (Ex × Tmps × Mem)
  | 0, _, _ => Option.none
  | k + 1, t, m => match step t m with
    | some (.normal, t', m') => iter step k t' m'
    | some r => some r
    | Option.none => Option.none
noncomputable def loopL (step : Step) (t : Tmps) (m : Mem) : Option (Ex × Tmps × Mem) := lim fun k => iter step k t m

/-- What a loop keeps at its head: slots (with the size of the elements, where a nil slice is taken for one that may grow), and such cells of boxes. -/
structure Keep where
  slots : List (Nat × Option Nat)
  cells : List (Nat × Nat × Nat) := []
  nd : (slots.map (·.1)).Nodup := by decide
  small : slots.all (fun s => decide (s.1 < 500000)) = true := by decide
def keepBoxes (boxes : Nat → Option Box) : List (Nat × Option Nat) → List (Nat × Box)
  | [] => []
  | (s, _) :: r => match boxes s, boxes (s + 500000) with
    | some c, _ => (s, c) :: keepBoxes boxes r
    | Option.none, some c => (s + 500000, c) :: keepBoxes boxes r
    | Option.none, Option.none => keepBoxes boxes r
def fixPtr (bs : List (Nat × Box)) : AV → AV
  | .ptr id off => if (bs.map (·.1)).contains id then .ptr id off else .undef
  | .tup _ => .undef
  | v => v
def growOf (l : List (Nat × Nat × Nat)) (id j : Nat) : Option Nat :=
  match l with
  | [] => Option.none
  | (a, b, z) :: r => if a = id ∧ b = j then some z else growOf r id j
def cleanS (names : Nat → Nat → Option Bool) (bs : List (Nat × Box)) (t : Tmps) : List (Nat × Nat) → List (Nat × Option Nat) → List (Nat × AV) × List (Nat × Nat)
  | used, [] => ([], used)
  | used, (s, g) :: r =>
    let x := relab1 names used (1000000 + s) 0 g (fixPtr bs (t s))
    let y := cleanS names bs t x.2 r
    ((s, x.1) :: y.1, y.2)
/-- A frame at a loop's head: what the loop keeps, in canonical names. -/
def clean (L : Keep) (t : Tmps) (m : Mem) : Tmps × Mem :=
  let bs := keepBoxes m.boxes L.slots
  let x := relabB m.names boxName (growOf L.cells) [] bs
  let y := cleanS m.names bs t x.2 L.slots
  (ofL .undef y.1, { boxes := ofB x.1, names := namesOf (cellsOfB x.1 ++ y.1.map (·.2)), froz := m.froz })

def firstRegion : Code → Nat
  | .seq a _ => firstRegion a
  | .region i _ _ => i
  | .block _ a => firstRegion a
  | _ => 0
def dsts (ops : Array Oper) : List Nat := ops.toList.filterMap (·.dst)

structure Env where
  C : Oracle
  ro : FuncId → Bool
  lv : Nat → Keep
  N : Nat

mutual
noncomputable def evCode {R : Type} (E : Env) : Code → Tmps → Mem → (Ex → Tmps → Mem → Option R) → Option R
  | .skip, t, m, K => K .normal t m
  | .seq a b, t, m, K => evCode E a t m fun e t' m' => match e with | .normal => evCode E b t' m' K | e => K e t' m'
  | .cond c x y, t, m, K => match opnd t c with
    | .bool b => bif b then evCode E x t m K else evCode E y t m K
    | _ => Option.none
  | .block id body, t, m, K => evCode E body t m fun e t' m' => match e with | .exit i => if i = id then K .normal t' m' else K (.exit i) t' m' | e => K e t' m'
  | .loop body, t, m, K =>
    match loopL (fun t m => evCode E body (clean (E.lv (firstRegion body)) t m).1 (clean (E.lv (firstRegion body)) t m).2 (fun e t m => some (e, t, m))) t m with
    | some (e, t', m') => K e t' m'
    | Option.none => Option.none
  | .exit id, t, m, K => K (.exit id) t m
  | .ret, t, m, K => K .ret t m
  | .region _ ops draw, t, m, K => evOps P E.C E.ro (if draw then some (dsts ops) else Option.none) E.N ops ops.toList t m fun t m => K .normal t m
  | _, _, _, _ => Option.none
end

def params : List AV → Nat → Tmps
  | [], _ => fun _ => .undef
  | v :: r, i => upd (params r (i + 1)) i v

def AV.untup : AV → AV
  | .tup _ => .undef
  | v => v
def resOf (t : Tmps) (m : Mem) : ResultVar → Option AV
  | .tmp i => some (t i).untup
  | .cell a ty => match t a with
    | .ptr id off => match m.boxes id with
      | some c => (partOf P ty c off).map AV.untup
      | Option.none => Option.none
    | _ => Option.none
def outBoxes (m : Mem) : List (Nat × Box) → Option (List (Nat × Box))
  | [] => some []
  | (i, _) :: r => match m.boxes i, m.froz i, outBoxes m r with
    | some c, false, some bs => some ((i, c) :: bs)
    | _, _, _ => Option.none
/-- A function's result and the boxes that it was handed, in canonical names. -/
def outOf (fn : Func) (bs : List (Nat × Box)) (t : Tmps) (m : Mem) : Option (AV × List (Nat × Box)) :=
  match avAll (fn.results.toList.map (resOf P t m)), outBoxes m bs with
  | some rs, some bs =>
    let x := relabB m.names boxName (fun _ _ => Option.none) [] bs
    let y := relabL m.names (fun c => (999999, c)) (fun _ => Option.none) 0 x.2 rs
    if noPtr y.1 then some ((match y.1 with | [r] => r | rs => .tup rs), x.1) else Option.none
  | _, _ => Option.none

/-- A box that a result points to is written no more. -/
def freezeT (t : Tmps) (m : Mem) : List ResultVar → Tmps × Mem
  | .tmp i :: r => match t i with
    | .ptr id off => match m.boxes id with
      | some c => freezeT (upd t i (.eptr ((c.drop off).map AV.bare))) { m with froz := fun j => if j = id then true else m.froz j } r
      | Option.none => freezeT t m r
    | _ => freezeT t m r
  | _ :: r => freezeT t m r
  | [] => (t, m)

noncomputable def evFn (E : Env) (fn : Func) (args : List AV) (bs : List (Nat × Box)) : Option (AV × List (Nat × Box)) :=
  match fn.body with
  | some c => if bs.all (fun b => decide (b.1 < 500000)) then evCode P E c (params args 0) { boxes := ofB bs, names := namesOf (cellsOfB bs) } fun e t m =>
      match e with
      | .exit _ => Option.none
      | _ => outOf P fn bs (freezeT t m fn.results.toList).1 (freezeT t m fn.results.toList).2
    else Option.none
  | Option.none => Option.none
end
end Ev
