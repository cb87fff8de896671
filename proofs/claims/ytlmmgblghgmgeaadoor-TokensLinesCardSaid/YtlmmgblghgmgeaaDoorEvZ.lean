/- A verified evaluator, part Z: contracts from elsewhere. -/
import Derived.Test.YtlmmgblghgmgeaaDoorEvY
import Derived.Below
set_option linter.unusedVariables false
set_option linter.unusedSimpArgs false
namespace Ev
open Go Go.RowKit
section
variable {P : Program} {c : Cfg} {w w' : World}

theorem Evo.below {own : Own} (h : Below w.heap.size w w') : Evo own w own w' where
  size := h.size
  cells := fun g cs el fr hg => ⟨cs, by rw [h.block g (lt_of_heap hg)]; exact hg, rfl, fun _ _ => rfl⟩
  other := fun g o hg _ => by rw [h.block g (lt_of_heap hg)]; exact hg
  wr := fun _ _ _ h => h
  no := fun _ _ _ h => h
  hid := fun _ _ _ h _ => h
  os := h.os
  tape := h.tape
  output := h.output

theorem namesOf_none : ∀ (l : List AV), (∀ y ∈ l, rowName y = none) → namesOf l = fun _ _ => none
  | [], _ => rfl
  | y :: r, h => by
    funext a b
    simp only [namesOf, h y (by simp)]
    rw [namesOf_none r (fun z hz => h z (List.mem_cons_of_mem _ hz))]
    simp

/-- A contract that touches nothing that was there. -/
theorem SimCall.of_below {f : FuncId} {args : List AV} {r : AV} (hcall : ∀ (vs : Array Value) (w : World), (callFunc f vs).run P w = .ok (.enter f vs) w) (hnp : noPtr args = true) (hr : ∀ y ∈ resParts r, rowName y = none)
    (h : ∀ (c : Cfg) (w : World) (vs : Array Value), Gl P c.own w → (∀ g off, c.own.N g off → g < w.heap.size) → vs.size = args.length → (∀ (i : Nat) (x : AV) (v : Value), args[i]? = some x → vs[i]? = some v → T1 c w x v) →
      Calls P f vs w fun e w' => ∃ v, e = .returned v ∧ Below w.heap.size w w' ∧ T c w' r v) : SimCall P f args [] r [] := by
  refine ⟨hcall, fun c w vs hM hG hsz hargs => ?_⟩
  refine (h c w vs hG hM.lt hsz hargs).mono ?_
  rintro e w' ⟨v, rfl, hb, hT⟩
  have ev : Evo c.own w c.own w' := .below hb
  refine ⟨v, c, rfl, ev, ?_, rfl, hT⟩
  have hn : namesOf (cellsOfB [] ++ resParts r) = namesOf (cellsOfB []) := by
    rw [namesOf_none (cellsOfB [] ++ resParts r) (by simpa [cellsOfB] using hr)]
    rfl
  rw [hn]
  exact hM.mono ev rfl rfl (fun _ _ _ h => h) (fun id g hg cs el hh => by rw [hb.block g (lt_of_heap hh)]; exact hh) (fun g off hn => Nat.lt_of_lt_of_le (hM.lt g off hn) hb.size)

theorem one_val {vs : Array Value} {x : AV} (hsz : vs.size = 1) (h : ∀ (i : Nat) (y : AV) (v : Value), [x][i]? = some y → vs[i]? = some v → T1 c w y v) : ∃ v, vs = #[v] ∧ T1 c w x v := by
  obtain ⟨l⟩ := vs
  match l, hsz with
  | [v], _ => exact ⟨v, rfl, h 0 x v rfl rfl⟩
theorem two_vals {vs : Array Value} {x y : AV} (hsz : vs.size = 2) (h : ∀ (i : Nat) (z : AV) (v : Value), [x, y][i]? = some z → vs[i]? = some v → T1 c w z v) : ∃ u v, vs = #[u, v] ∧ T1 c w x u ∧ T1 c w y v := by
  obtain ⟨l⟩ := vs
  match l, hsz with
  | [u, v], _ => exact ⟨u, v, rfl, h 0 x u rfl rfl, h 1 y v rfl rfl⟩
theorem T1_str {s : Str} {v : Value} (h : T1 c w (.str s) v) : v = .string ⟨s.toArray⟩ := T_str (.of_T1 h)
theorem T1_int {k : IntKind} {n : Int} {v : Value} (h : T1 c w (.int k n) v) : v = .int k n := T_int (.of_T1 h)
theorem T1_bool {b : Bool} {v : Value} (h : T1 c w (.bool b) v) : v = .bool b := T_bool (.of_T1 h)
theorem T1_fn {f : FuncId} {v : Value} (h : T1 c w (.fn f []) v) : v = .func (.func f) #[] #[] := by
  cases (show V c.own w (.fn f []) v from h) with
  | fn _ _ vs h1 h2 =>
    have : vs = #[] := Array.eq_empty_of_size_eq_zero (by simpa using h1)
    rw [this]

/-- A function of a string, by its contract. -/
theorem SimCall.str1 {f : FuncId} {s : Str} {r : AV} {v : Value} (hcall : ∀ (vs : Array Value) (w : World), (callFunc f vs).run P w = .ok (.enter f vs) w) (hr : ∀ y ∈ resParts r, rowName y = none) (hv : ∀ c w, T c w r v)
    (h : ∀ w, Calls P f #[.string ⟨s.toArray⟩] w fun e w' => e = .returned v ∧ Below w.heap.size w w') : SimCall P f [.str s] [] r [] :=
  .of_below hcall rfl hr fun c w vs _ _ hsz hargs => by
    obtain ⟨u, rfl, hu⟩ := one_val hsz hargs
    rw [T1_str hu]
    exact (h w).mono fun e w' ⟨he, hb⟩ => ⟨v, he, hb, hv c w'⟩
theorem SimCall.str2 {f : FuncId} {s t : Str} {r : AV} {v : Value} (hcall : ∀ (vs : Array Value) (w : World), (callFunc f vs).run P w = .ok (.enter f vs) w) (hr : ∀ y ∈ resParts r, rowName y = none) (hv : ∀ c w, T c w r v)
    (h : ∀ w, Calls P f #[.string ⟨s.toArray⟩, .string ⟨t.toArray⟩] w fun e w' => e = .returned v ∧ Below w.heap.size w w') : SimCall P f [.str s, .str t] [] r [] :=
  .of_below hcall rfl hr fun c w vs _ _ hsz hargs => by
    obtain ⟨u, u2, rfl, hu, hu2⟩ := two_vals hsz hargs
    rw [T1_str hu, T1_str hu2]
    exact (h w).mono fun e w' ⟨he, hb⟩ => ⟨v, he, hb, hv c w'⟩
theorem SimCall.strInt {f : FuncId} {s : Str} {k : IntKind} {n : Int} {r : AV} {v : Value} (hcall : ∀ (vs : Array Value) (w : World), (callFunc f vs).run P w = .ok (.enter f vs) w) (hr : ∀ y ∈ resParts r, rowName y = none) (hv : ∀ c w, T c w r v)
    (h : ∀ w, Calls P f #[.string ⟨s.toArray⟩, .int k n] w fun e w' => e = .returned v ∧ Below w.heap.size w w') : SimCall P f [.str s, .int k n] [] r [] :=
  .of_below hcall rfl hr fun c w vs _ _ hsz hargs => by
    obtain ⟨u, u2, rfl, hu, hu2⟩ := two_vals hsz hargs
    rw [T1_str hu, T1_int hu2]
    exact (h w).mono fun e w' ⟨he, hb⟩ => ⟨v, he, hb, hv c w'⟩

/-- Strings in a new block. -/
theorem T_newStrs {l : List Str} {el : TypeId} (hlt : ∀ g off, c.own.N g off → g < w.heap.size) :
    T c (w.alloc (.cells (l.map fun s => Value.string ⟨s.toArray⟩).toArray el)) (.sl 1 (l.map fun s => [.str s]) .clip) (.slice (some ⟨w.heap.size, 0, none⟩) l.length l.length) := by
  refine .of_V (.sl 1 _ .clip _ l.length l.length (fun i _ => .string ⟨(l.getD i []).toArray⟩) (by simp) (Nat.le_refl _) ?_ ?_ ?_ ?_ (by simp) (fun _ => rfl) (by simp))
  · intro e he
    simp only [List.mem_map] at he
    obtain ⟨s, _, rfl⟩ := he
    rfl
  · intro i j e x hi hj
    simp only [List.getElem?_map, Option.map_eq_some_iff] at hi
    obtain ⟨s, hs, rfl⟩ := hi
    have hj0 : j = 0 := by
      cases j with
      | zero => rfl
      | succ j => simp at hj
    subst hj0
    refine ⟨_, rfl, ?_, fun hn => Nat.lt_irrefl _ (hlt _ _ hn)⟩
    rw [add_plain, heap_cell (heap_new w _)]
    simp [hs]
  · intro i j e x hi hj
    simp only [List.getElem?_map, Option.map_eq_some_iff] at hi
    obtain ⟨s, hs, rfl⟩ := hi
    have hj0 : j = 0 := by
      cases j with
      | zero => rfl
      | succ j => simp at hj
    subst hj0
    simp at hj
    subst hj
    simp only [List.getD_eq_getElem?_getD, hs, Option.getD_some]
    exact .str s
  · intro i j e x hi hj
    rfl

/-- Where nothing may be written, nothing is. -/
def noOwn : Own := ⟨fun _ _ => False, fun _ _ => False, fun _ _ h => h⟩
def noCfg : Cfg := ⟨noOwn, fun _ => none, fun _ _ => .unknown⟩
theorem below_of_evo {own own' : Own} (hW : ∀ g off, ¬ own.W g off) (e : Evo own w own' w') : Below w.heap.size w w' where
  os := e.os
  tape := e.tape
  output := e.output
  size := e.size
  block := fun k hk => by
    have hw : w.heap[k]? = some w.heap[k] := Array.getElem?_eq_getElem hk
    by_cases hc : ∃ cs el fr, w.heap[k] = .cells cs el fr
    · obtain ⟨cs, el, fr, h⟩ := hc
      rw [h] at hw
      rw [hw]
      exact e.same hw (hW k)
    · rw [e.other k _ hw (fun cs el fr h => hc ⟨cs, el, fr, h⟩), hw]
/-- A contract as it stands for whoever calls from elsewhere. -/
theorem SimCall.calls {f : FuncId} {args : List AV} {r : AV} (h : SimCall P f args [] r []) {vs : Array Value} (hG : Gl P noOwn w) (hsz : vs.size = args.length) (hargs : ∀ (i : Nat) (x : AV) (v : Value), args[i]? = some x → vs[i]? = some v → T1 noCfg w x v) :
    Calls P f vs w fun e w' => ∃ v own, e = .returned v ∧ Below w.heap.size w w' ∧ ∃ c' : Cfg, c'.own = own ∧ T c' w' r v := by
  refine (h.2 noCfg w vs ?_ hG hsz hargs).mono ?_
  · exact ⟨fun id => rfl, fun id bx g h => by simp [ofB] at h, fun id id' g h => by simp [noCfg] at h, fun p q => rfl, fun p q g e h => by simp [noCfg] at h, fun p q p' q' g e e' h => by simp [noCfg] at h, fun p q g e id h => by simp [noCfg] at h, fun g off h => h.elim⟩
  · rintro e w' ⟨v, c', rfl, ev, _, _, hT⟩
    exact ⟨v, c'.own, rfl, below_of_evo (fun _ _ h => h) ev, c', rfl, hT⟩
/-- A predicate of characters, from its contract. -/
theorem runes_of_sim {g : FuncId} {p : Nat → Bool} (h : ∀ x : Nat, x ≤ 1114111 → SimCall P g [.int .i32 x] [] (.bool (p x)) []) (hG : Gl P noOwn w) (x : Nat) (hx : x ≤ 1114111) :
    Calls P g #[.int .i32 x] w fun e w' => e = .returned (.bool (p x)) ∧ Below w.heap.size w w' := by
  refine ((h x hx).calls hG rfl fun i y v hy hv => ?_).mono ?_
  · cases i with
    | zero => simp at hy hv; subst hy; subst hv; exact .int _ _
    | succ i => simp at hy
  · rintro e w' ⟨v, own, rfl, hb, c', _, hT⟩
    exact ⟨by rw [T_bool hT], hb⟩
end
end Ev
