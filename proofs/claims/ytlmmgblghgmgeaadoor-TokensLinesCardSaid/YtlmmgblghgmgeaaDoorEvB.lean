/- A verified evaluator, part B: what an abstract value says of a value, an abstract memory of a world; what stays so. -/
import Derived.Test.YtlmmgblghgmgeaaDoorEvA
import Derived.Laws.Rows
import Derived.Laws.Sem
import Derived.Laws.World
import Derived.Lib.Space
set_option linter.unusedVariables false
namespace Ev
open Go

/-- W: the cells that the call at hand may still write; N: those that no reading may lead to. -/
structure Own where
  W : Nat → Nat → Prop
  N : Nat → Nat → Prop
  sub : ∀ g off, W g off → N g off

/-- A value's reading. -/
inductive V (own : Own) (w : World) : AV → Value → Prop
  | undef (v : Value) : V own w .undef v
  | bool (b : Bool) : V own w (.bool b) (.bool b)
  | int (k : IntKind) (n : Int) : V own w (.int k n) (.int k n)
  | str (s : Str) : V own w (.str s) (.string ⟨s.toArray⟩)
  | sl (s : Nat) (els : List (List AV)) (tok : Tok) (a : Option Addr) (len cap : Nat) (cv : Nat → Nat → Value)
      (hlen : len = els.length) (hcap : len ≤ cap) (hel : ∀ e ∈ els, e.length = s)
      (hc : ∀ (i j : Nat) (e : List AV) (x : AV), els[i]? = some e → e[j]? = some x → ∃ ad, a = some ad ∧ w.cell? (ad.add (i * s + j)) = some (cv i j) ∧ ¬ own.N ad.block (ad.off + (i * s + j)))
      (hv : ∀ (i j : Nat) (e : List AV) (x : AV), els[i]? = some e → e[j]? = some x → V own w x (cv i j))
      (ho : ∀ (i j : Nat) (e : List AV) (x : AV), els[i]? = some e → e[j]? = some x → (cv i j).oneCell' = true)
      (hn : tok = .nil → a = none ∧ cap = 0) (hk : tok = .clip → cap = len) (hr : ∀ p q, tok ≠ .row p q) : V own w (.sl s els tok) (.slice a len cap)
  | eptr (cells : List AV) (ad : Addr) (cv : Nat → Value)
      (hc : ∀ (j : Nat) (x : AV), cells[j]? = some x → w.cell? (ad.add j) = some (cv j) ∧ ¬ own.N ad.block (ad.off + j))
      (hv : ∀ (j : Nat) (x : AV), cells[j]? = some x → V own w x (cv j)) (ho : ∀ (j : Nat) (x : AV), cells[j]? = some x → (cv j).oneCell' = true) : V own w (.eptr cells) (.pointer (some ad))
  | pnil : V own w .pnil (.pointer none)
  | fn (f : FuncId) (cap : List AV) (vs : Array Value) (hl : vs.size = cap.length)
      (hv : ∀ (j : Nat) (x : AV) (v : Value), cap[j]? = some x → vs[j]? = some v → V own w x v) : V own w (.fn f cap) (.func (.func f) #[] vs)
  | fnil : V own w .fnil .nilFunc
  | agg (cells : List AV) (cs : Array Value) (hl : cs.size = cells.length)
      (hv : ∀ (j : Nat) (x : AV) (v : Value), cells[j]? = some x → cs[j]? = some v → V own w x v) (ho : ∀ (j : Nat) (v : Value), cs[j]? = some v → v.oneCell' = true) : V own w (.agg cells) (.agg cs)

inductive Stat where
  | unknown | dead | alive (tip : Option (Nat × Nat))

structure Cfg where
  own : Own
  ρ : Nat → Option Nat
  ν : Nat → Nat → Stat

/-- What is known of a row's tip. -/
def Tip (w : World) (s n : Nat) : Stat → Value → Prop
  | .unknown, _ => False
  | .dead, _ => True
  | .alive none, v => ∃ a, v = .slice a n n
  | .alive (some (g, e)), v => ∃ o cap cs el, v = .slice (some ⟨g, o, none⟩) n cap ∧ e = o + n * s ∧ w.heap[g]? = some (.cells cs el (0, 0)) ∧ o + cap * s ≤ cs.size

def T1 (c : Cfg) (w : World) : AV → Value → Prop
  | .ptr id off, v => ∃ g, c.ρ id = some g ∧ v = .pointer (some ⟨g, off, none⟩)
  | .sl s els (.row a b), v => V c.own w (.sl s els .none) v ∧ Tip w s els.length (c.ν a b) v
  | .tup _, _ => False
  | x, v => V c.own w x v
def T (c : Cfg) (w : World) : AV → Value → Prop
  | .tup xs, v => ∃ vs : Array Value, v = .tuple vs ∧ vs.size = xs.length ∧ ∀ (i : Nat) (x : AV) (u : Value), xs[i]? = some x → vs[i]? = some u → T1 c w x u
  | x, v => T1 c w x v

def statIs : Stat → Option Bool → Prop
  | .unknown, o => o = none
  | .dead, o => o = some false
  | .alive _, o => o = some true

structure MemRel (c : Cfg) (m : Mem) (w : World) : Prop where
  dom : ∀ id, (m.boxes id).isSome = (c.ρ id).isSome
  box : ∀ id bx g, m.boxes id = some bx → c.ρ id = some g → ∃ cs el, w.heap[g]? = some (.cells cs el (0, 0)) ∧ cs.size = bx.length ∧
    (∀ (j : Nat) (x : AV) (v : Value), bx[j]? = some x → cs[j]? = some v → T1 c w x v ∧ v.oneCell' = true ∧ ∀ i o, x ≠ .ptr i o) ∧
    (m.froz id = false → ∀ off, off < cs.size → c.own.W g off) ∧ (m.froz id = true → ∀ off, off < cs.size → ¬ c.own.N g off)
  inj : ∀ id id' g, c.ρ id = some g → c.ρ id' = some g → id = id'
  names : ∀ a b, statIs (c.ν a b) (m.names a b)
  tip : ∀ a b g e, c.ν a b = .alive (some (g, e)) → ∃ cs el, w.heap[g]? = some (.cells cs el (0, 0)) ∧ e < cs.size ∧ ∀ off, e ≤ off → off < cs.size → c.own.W g off
  tipInj : ∀ a b a' b' g e e', c.ν a b = .alive (some (g, e)) → c.ν a' b' = .alive (some (g, e')) → a = a' ∧ b = b'
  tipBox : ∀ a b g e id, c.ν a b = .alive (some (g, e)) → c.ρ id ≠ some g
  lt : ∀ g off, c.own.N g off → g < w.heap.size

/-- What a stretch of the call may do to the world. -/
structure Evo (own : Own) (w : World) (own' : Own) (w' : World) : Prop where
  size : w.heap.size ≤ w'.heap.size
  cells : ∀ (g : Nat) (cs : Array Value) (el : TypeId) (fr : Nat × Nat), w.heap[g]? = some (.cells cs el fr) →
    ∃ cs' : Array Value, w'.heap[g]? = some (.cells cs' el fr) ∧ cs'.size = cs.size ∧ ∀ off : Nat, ¬ own.W g off → cs'[off]? = cs[off]?
  other : ∀ (g : Nat) (o : Obj), w.heap[g]? = some o → (∀ cs el fr, o ≠ .cells cs el fr) → w'.heap[g]? = some o
  wr : ∀ g off, g < w.heap.size → own'.W g off → own.W g off
  no : ∀ g off, g < w.heap.size → own'.N g off → own.N g off
  hid : ∀ g off, g < w.heap.size → own.N g off → ¬ own.W g off → own'.N g off
  os : w'.os = w.os
  tape : w'.tape = w.tape
  output : w'.output = w.output

theorem Evo.refl (own : Own) (w : World) : Evo own w own w :=
  ⟨Nat.le_refl _, fun g cs el fr h => ⟨cs, h, rfl, fun _ _ => rfl⟩, fun _ _ h _ => h, fun _ _ _ h => h, fun _ _ _ h => h, fun _ _ _ h _ => h, rfl, rfl, rfl⟩
theorem lt_of_heap {w : World} {g : Nat} {o : Obj} (h : w.heap[g]? = some o) : g < w.heap.size := by
  rcases Nat.lt_or_ge g w.heap.size with h' | h'
  · exact h'
  · simp [Array.getElem?_eq_none h'] at h
theorem Evo.trans {o1 o2 o3 : Own} {w1 w2 w3 : World} (h : Evo o1 w1 o2 w2) (k : Evo o2 w2 o3 w3) : Evo o1 w1 o3 w3 where
  size := Nat.le_trans h.size k.size
  cells := fun g cs el fr hg => by
    obtain ⟨cs', h1, h2, h3⟩ := h.cells g cs el fr hg
    obtain ⟨cs'', k1, k2, k3⟩ := k.cells g cs' el fr h1
    refine ⟨cs'', k1, k2.trans h2, fun off hn => ?_⟩
    rw [k3 off (fun ho => hn (h.wr g off (lt_of_heap hg) ho)), h3 off hn]
  other := fun g o hg ho => k.other g o (h.other g o hg ho) ho
  wr := fun g off hg ho => h.wr g off hg (k.wr g off (Nat.lt_of_lt_of_le hg h.size) ho)
  no := fun g off hg ho => h.no g off hg (k.no g off (Nat.lt_of_lt_of_le hg h.size) ho)
  hid := fun g off hg ho hn => k.hid g off (Nat.lt_of_lt_of_le hg h.size) (h.hid g off hg ho hn) (fun hw => hn (h.wr g off hg hw))
  os := k.os.trans h.os
  tape := k.tape.trans h.tape
  output := k.output.trans h.output
theorem Evo.drew {o1 o2 : Own} {w1 w2 : World} (h : Evo o1 w1 o2 w2) : Evo o1 w1 o2 w2.drew :=
  ⟨h.size, h.cells, h.other, h.wr, h.no, h.hid, h.os, h.tape, h.output⟩

theorem add_block (a : Addr) (n : Nat) : (a.add n).block = a.block := by unfold Addr.add; split <;> rfl
theorem add_off (a : Addr) (n : Nat) : (a.add n).off = a.off + n := by unfold Addr.add; split <;> simp_all
theorem add_add (a : Addr) (n k : Nat) : (a.add n).add k = a.add (n + k) := by
  unfold Addr.add
  by_cases h : n = 0 <;> by_cases h' : k = 0 <;> simp_all <;> omega
theorem add_plain (g o n : Nat) : (⟨g, o, none⟩ : Addr).add n = ⟨g, o + n, none⟩ := by unfold Addr.add; split <;> simp_all

theorem cell_heap {w : World} {a : Addr} {v : Value} (h : w.cell? a = some v) : a.spot = none ∧ ∃ cs el fr, w.heap[a.block]? = some (.cells cs el fr) ∧ cs[a.off]? = some v := by
  unfold World.cell? at h
  split at h
  · rename_i c e f hb
    cases hs : a.spot with
    | none => simp [hs] at h; exact ⟨rfl, c, e, f, hb, h⟩
    | some _ => simp [hs] at h
  · simp at h
theorem heap_cell {w : World} {g off : Nat} {cs : Array Value} {el : TypeId} {fr : Nat × Nat} (h : w.heap[g]? = some (.cells cs el fr)) : w.cell? ⟨g, off, none⟩ = cs[off]? := by
  simp [World.cell?, h]
theorem Evo.cell {own own' : Own} {w w' : World} (e : Evo own w own' w') {a : Addr} {v : Value} (h : w.cell? a = some v) (hn : ¬ own.N a.block a.off) : w'.cell? a = some v := by
  obtain ⟨hs, cs, el, fr, hb, hv⟩ := cell_heap h
  obtain ⟨cs', h1, h2, h3⟩ := e.cells _ _ _ _ hb
  obtain ⟨ab, ao, as⟩ := a
  simp only at hs hb hv h1 h2 h3 hn
  subst hs
  rw [heap_cell h1, h3 _ (fun hw => hn (own.sub _ _ hw)), hv]
theorem Evo.lt {own own' : Own} {w w' : World} (e : Evo own w own' w') {a : Addr} {v : Value} (h : w.cell? a = some v) (hn : ¬ own.N a.block a.off) : ¬ own'.N a.block a.off := by
  obtain ⟨hs, cs, el, fr, hb, hv⟩ := cell_heap h
  exact fun ho => hn (e.no _ _ (lt_of_heap hb) ho)

/-- The tables that no part of the program writes, and where they read as they were laid. -/
def flatTabs : List (String × IntKind × List Int) := [("strings.asciiSpace", .u8, Lib.asciiSpaceTab)]
def Gl (P : Program) (own : Own) (w : World) : Prop := ∀ e ∈ flatTabs, ∀ g, P.globalNamed e.1 = some g → (∃ el fr, w.heap[g]? = some (.cells (e.2.2.map (Value.int e.2.1)).toArray el fr)) ∧ ∀ off, ¬ own.N g off
theorem Gl.mono {P : Program} {own own' : Own} {w w' : World} (h : Gl P own w) (e : Evo own w own' w') : Gl P own' w' := fun x hx g hg => by
  obtain ⟨⟨el, fr, h1⟩, h2⟩ := h x hx g hg
  obtain ⟨cs', k1, k2, k3⟩ := e.cells _ _ _ _ h1
  have : cs' = (x.2.2.map (Value.int x.2.1)).toArray := Array.ext (by rw [k2]) (fun i h4 h5 => by
    have := k3 i (fun hw => h2 i (own.sub _ _ hw))
    rw [Array.getElem?_eq_getElem h4, Array.getElem?_eq_getElem h5] at this
    exact Option.some.inj this)
  subst this
  exact ⟨⟨el, fr, k1⟩, fun off hn => h2 off (e.no g off (lt_of_heap h1) hn)⟩
theorem Gl.weaker {P : Program} {own own' : Own} {w : World} (h : Gl P own w) (hN : ∀ g off, own'.N g off → own.N g off) : Gl P own' w := fun x hx g hg => ⟨(h x hx g hg).1, fun off hn => (h x hx g hg).2 off (hN g off hn)⟩

theorem V.mono {own own' : Own} {w w' : World} {x : AV} {v : Value} (h : V own w x v) (e : Evo own w own' w') : V own' w' x v := by
  induction h with
  | undef v => exact .undef v
  | bool b => exact .bool b
  | int k n => exact .int k n
  | str s => exact .str s
  | sl s els tok a len cap cv hlen hcap hel hc hv ho hn hk hr ih =>
    refine .sl s els tok a len cap cv hlen hcap hel (fun i j el x hi hj => ?_) ih ho hn hk hr
    obtain ⟨ad, ha, hcell, hown⟩ := hc i j el x hi hj
    have hown' : ¬ own.N (ad.add (i * s + j)).block (ad.add (i * s + j)).off := by rw [add_block, add_off]; exact hown
    refine ⟨ad, ha, e.cell hcell hown', ?_⟩
    have := e.lt hcell hown'
    rwa [add_block, add_off] at this
  | eptr cells ad cv hc hv ho ih =>
    refine .eptr cells ad cv (fun j x hj => ?_) ih ho
    obtain ⟨hcell, hown⟩ := hc j x hj
    have hown' : ¬ own.N (ad.add j).block (ad.add j).off := by rw [add_block, add_off]; exact hown
    refine ⟨e.cell hcell hown', ?_⟩
    have := e.lt hcell hown'
    rwa [add_block, add_off] at this
  | pnil => exact .pnil
  | fn f cap vs hl hv ih => exact .fn f cap vs hl ih
  | fnil => exact .fnil
  | agg cells cs hl hv ho ih => exact .agg cells cs hl ih ho

/-- What becomes of names and boxes in a stretch without loops' heads. -/
structure Ext (c c' : Cfg) : Prop where
  ρ : ∀ id g, c.ρ id = some g → c'.ρ id = some g
  low : ∀ id g, id < 500000 → c'.ρ id = some g → c.ρ id = some g
  dead : ∀ a b, c.ν a b = .dead → c'.ν a b = .dead
  alive : ∀ a b t, c.ν a b = .alive t → c'.ν a b = .alive t ∨ c'.ν a b = .dead
theorem Ext.refl (c : Cfg) : Ext c c := ⟨fun _ _ h => h, fun _ _ _ h => h, fun _ _ h => h, fun _ _ _ h => .inl h⟩
theorem Ext.trans {a b c : Cfg} (h : Ext a b) (k : Ext b c) : Ext a c :=
  ⟨fun i g hi => k.ρ i g (h.ρ i g hi), fun i g hl hi => h.low i g hl (k.low i g hl hi), fun p q hd => k.dead p q (h.dead p q hd), fun p q t ha => by
    rcases h.alive p q t ha with h1 | h1
    · exact k.alive p q t h1
    · exact .inr (k.dead p q h1)⟩

theorem Tip.mono {own own' : Own} {w w' : World} {s n : Nat} {st : Stat} {v : Value} (h : Tip w s n st v) (e : Evo own w own' w') : Tip w' s n st v := by
  cases st with
  | unknown => exact h
  | dead => trivial
  | alive t =>
    cases t with
    | none => exact h
    | some t =>
      obtain ⟨g, en⟩ := t
      obtain ⟨o, cap, cs, el, h1, h2, h3, h4⟩ := h
      obtain ⟨cs', k1, k2, k3⟩ := e.cells _ _ _ _ h3
      exact ⟨o, cap, cs', el, h1, h2, k1, by omega⟩
theorem Tip.ext {c c' : Cfg} {w : World} {s n a b : Nat} {v : Value} (h : Tip w s n (c.ν a b) v) (x : Ext c c') : Tip w s n (c'.ν a b) v := by
  cases hs : c.ν a b with
  | unknown => rw [hs] at h; exact h.elim
  | dead => rw [x.dead a b hs]; trivial
  | alive t =>
    rcases x.alive a b t hs with h1 | h1
    · rw [h1]; rw [hs] at h; exact h
    · rw [h1]; trivial

theorem T1.mono {c c' : Cfg} {w w' : World} {x : AV} {v : Value} (h : T1 c w x v) (e : Evo c.own w c'.own w') (k : Ext c c') : T1 c' w' x v := by
  cases x with
  | ptr id off => obtain ⟨g, h1, h2⟩ := h; exact ⟨g, k.ρ _ _ h1, h2⟩
  | sl s els tok =>
    cases tok with
    | row a b => exact ⟨h.1.mono e, (h.2.mono e).ext k⟩
    | nil => exact V.mono h e
    | none => exact V.mono h e
    | clip => exact V.mono h e
  | tup => exact h
  | _ => exact V.mono h e
theorem T.to_T1 {c : Cfg} {w : World} {x : AV} {v : Value} (hx : ¬ ∃ xs, x = .tup xs) (h : T c w x v) : T1 c w x v := by
  cases x with
  | tup xs => exact absurd ⟨xs, rfl⟩ hx
  | _ => exact h
theorem T.of_T1 {c : Cfg} {w : World} {x : AV} {v : Value} (h : T1 c w x v) : T c w x v := by
  cases x with
  | tup => exact h.elim
  | _ => exact h
theorem T.mono {c c' : Cfg} {w w' : World} {x : AV} {v : Value} (h : T c w x v) (e : Evo c.own w c'.own w') (k : Ext c c') : T c' w' x v := by
  by_cases hx : ∃ xs, x = .tup xs
  · obtain ⟨xs, rfl⟩ := hx
    obtain ⟨vs, h1, h2, h3⟩ := h
    exact ⟨vs, h1, h2, fun i x u hx hu => (h3 i x u hx hu).mono e k⟩
  · exact .of_T1 ((h.to_T1 hx).mono e k)

theorem V.noPtr {own : Own} {w : World} {x : AV} {v : Value} (h : V own w x v) (i o : Nat) : x ≠ .ptr i o := by
  intro he
  subst he
  cases h

theorem V.tokNone {own : Own} {w : World} {s : Nat} {els : List (List AV)} {tok : Tok} {v : Value} (h : V own w (.sl s els tok) v) : V own w (.sl s els .none) v := by
  cases h with
  | sl _ _ _ a len cap cv hlen hcap hel hc hv ho hn hk hr => exact .sl s els .none a len cap cv hlen hcap hel hc hv ho (by simp) (by simp) (by simp)
theorem T1.bare {c : Cfg} {w : World} {x : AV} {v : Value} (h : T1 c w x v) : V c.own w x.bare v := by
  cases x with
  | ptr id off => exact .undef v
  | sl s els tok =>
    cases tok with
    | row a b => exact h.1
    | nil => exact h
    | none => exact h
    | clip => exact h
  | tup => exact h.elim
  | _ => exact h
theorem T.bare {c : Cfg} {w : World} {x : AV} {v : Value} (h : T c w x v) : V c.own w x.bare v := by
  by_cases hx : ∃ xs, x = .tup xs
  · obtain ⟨xs, rfl⟩ := hx
    exact .undef v
  · exact (h.to_T1 hx).bare
theorem T1.of_V {c : Cfg} {w : World} {x : AV} {v : Value} (h : V c.own w x v) : T1 c w x v := by
  cases h with
  | sl s els tok a len cap cv hlen hcap hel hc hv ho hn hk hr =>
    cases tok with
    | row p q => exact absurd rfl (hr p q)
    | nil => exact .sl s els _ a len cap cv hlen hcap hel hc hv ho hn hk hr
    | none => exact .sl s els _ a len cap cv hlen hcap hel hc hv ho hn hk hr
    | clip => exact .sl s els _ a len cap cv hlen hcap hel hc hv ho hn hk hr
  | undef => exact .undef _
  | bool => exact .bool _
  | int => exact .int _ _
  | str => exact .str _
  | eptr _ _ _ h1 h2 h3 => exact .eptr _ _ _ h1 h2 h3
  | pnil => exact .pnil
  | fn _ _ _ h1 h2 => exact .fn _ _ _ h1 h2
  | fnil => exact .fnil
  | agg _ _ h1 h2 h3 => exact .agg _ _ h1 h2 h3
theorem T.of_V {c : Cfg} {w : World} {x : AV} {v : Value} (h : V c.own w x v) : T c w x v := .of_T1 (.of_V h)

mutual
theorem V_ofValue (own : Own) (w : World) : ∀ v : Value, V own w (ofValue v) v
  | .bool b => .bool b
  | .int k n => .int k n
  | .string s => by
    have : (⟨(s.data.toList).toArray⟩ : ByteArray) = s := by simp
    have h := V.str (own := own) (w := w) s.data.toList
    rw [this] at h
    exact h
  | .pointer none => .pnil
  | .pointer (some _) => .undef _
  | .slice none 0 0 => .sl 0 [] .nil none 0 0 (fun _ _ => .nilFunc) rfl (Nat.le_refl _) (by simp) (by simp) (by simp) (by simp) (by simp) (by simp) (by simp)
  | .slice none (n + 1) c => .undef _
  | .slice none 0 (c + 1) => .undef _
  | .slice (some _) _ _ => .undef _
  | .nilFunc => .fnil
  | .agg ⟨cs⟩ => by
    simp only [ofValue]
    split
    · rename_i h
      exact .agg _ _ (by simp [V_ofValues_len cs]) (fun j x v hx hv => V_ofValues own w cs j x v hx (by simpa using hv)) (fun j v hv => List.all_eq_true.1 h v (List.mem_of_getElem? (by simpa using hv)))
    · exact .undef _
  | .float .. => .undef _
  | .complex .. => .undef _
  | .map .. => .undef _
  | .chan .. => .undef _
  | .func .. => .undef _
  | .iface .. => .undef _
  | .nilIface => .undef _
  | .tuple .. => .undef _
theorem V_ofValues (own : Own) (w : World) : ∀ (cs : List Value) (j : Nat) (x : AV) (v : Value), (ofValues cs)[j]? = some x → cs[j]? = some v → V own w x v
  | [], j, x, v, hx, hv => by simp at hv
  | u :: r, 0, x, v, hx, hv => by
    have h := V_ofValue own w u
    simp only [ofValues, List.getElem?_cons_zero, Option.some.injEq] at hx hv
    subst hx; subst hv; exact h
  | u :: r, j + 1, x, v, hx, hv => V_ofValues own w r j x v (by simpa [ofValues] using hx) (by simpa using hv)
theorem V_ofValues_len : ∀ cs : List Value, (ofValues cs).length = cs.length
  | [] => rfl
  | u :: r => by simp [ofValues, V_ofValues_len r]
end
end Ev
