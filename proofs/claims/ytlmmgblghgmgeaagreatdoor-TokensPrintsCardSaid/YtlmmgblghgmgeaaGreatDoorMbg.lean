/- The texts TokArg, merged. -/
import Derived.Test.YtlmmgblghgmgeaaGreatDoorMbf
set_option linter.unusedVariables false
set_option linter.unusedSimpArgs false
/- A list of tokens as an argument. -/
namespace Go.Proofs.YtlmmgblghgmgeaaGreatDoor
open Go Ev Go.ChangeShapes Go.WideShapes Go.ChangeAt Go.RowKit
set_option maxRecDepth 100000

/-- A token's cells. -/
theorem open_tokenC {H : Type} {enc : TypeId × Value → H} {W : World} {base : Nat} {sp : Nat → Bool} {held : Bool} {fuel : Nat} {cs : List Value} {x : DataW H × List MemPlace} (h : DataW.trod enc Tryz.prog W base sp held fuel 23 cs = some x) : ∃ t : Tk, cs = [.int .i64 t.kind, .string ⟨t.text.toArray⟩, .int .i64 t.line, .int .i64 t.col] := by
  obtain ⟨xs, n, _, _, hl, hlen, hf⟩ := DataW.trod_struct under_token h
  have hl : cs.length = 4 := by rw [hl]; kernel_rfl
  have c1 : Tryz.prog.cellsOf 3 = 1 := by kernel_rfl
  have c2 : Tryz.prog.cellsOf 9 = 1 := by kernel_rfl
  match cs, hl, xs, hlen with
  | [a, b, c, d], _, [y0, y1, y2, y3], _ =>
    have h0 := hf 0 (fld "Kind" 3 0 0) rfl
    have h1 := hf 1 (fld "Text" 9 1 8) rfl
    have h2 := hf 2 (fld "Line" 3 2 24) rfl
    have h3 := hf 3 (fld "Column" 3 3 32) rfl
    simp only [fld, c1, c2, List.drop_zero, List.take_succ_cons, List.take_zero, List.drop_succ_cons, List.getElem?_cons_zero, List.getElem?_cons_succ] at h0 h1 h2 h3
    obtain ⟨n0, e0, _, _⟩ := DataW.trod_int under_int h0
    obtain ⟨s1, e1, _, _⟩ := DataW.trod_string under_string h1
    obtain ⟨n2, e2, _, _⟩ := DataW.trod_int under_int h2
    obtain ⟨n3, e3, _, _⟩ := DataW.trod_int under_int h3
    simp only [List.cons.injEq, and_true] at e0 e1 e2 e3
    refine ⟨⟨n0, s1.data.toList, n2, n3⟩, ?_⟩
    rw [e0, e1, e2, e3]
def tkCells (t : Tk) : List Value := [.int .i64 t.kind, .string ⟨t.text.toArray⟩, .int .i64 t.line, .int .i64 t.col]
theorem V_tokens {w : World} {a : Addr} {len cap : Nat} (f : Nat → Tk) (hl : len ≤ cap) (hc : ∀ i, i < len → ∀ j v, (tkCells (f i))[j]? = some v → w.cell? (a.add (i * 4 + j)) = some v) :
    V noOwn w (.sl 4 (((List.range len).map f).map tkC) .none) (.slice (some a) len cap) := by
  have key : ∀ (i j : Nat) (e : List AV) (x : AV), (((List.range len).map f).map tkC)[i]? = some e → e[j]? = some x → i < len ∧ (tkC (f i))[j]? = some x := by
    intro i j e x hi hj
    simp only [List.map_map, List.getElem?_map, Option.map_eq_some_iff, Function.comp] at hi
    obtain ⟨k, hk, rfl⟩ := hi
    obtain ⟨h1, h2⟩ := List.getElem?_eq_some_iff.1 hk
    simp only [List.length_range] at h1
    simp only [List.getElem_range] at h2
    subst h2
    exact ⟨h1, hj⟩
  have val : ∀ (t : Tk) (j : Nat) (x : AV), (tkC t)[j]? = some x → ∃ v, (tkCells t)[j]? = some v ∧ V noOwn w x v ∧ v.oneCell' = true := by
    intro t j x hx
    match j with
    | 0 => simp [tkC] at hx; subst hx; exact ⟨_, rfl, .int _ _, rfl⟩
    | 1 => simp [tkC] at hx; subst hx; exact ⟨_, rfl, .str _, rfl⟩
    | 2 => simp [tkC] at hx; subst hx; exact ⟨_, rfl, .int _ _, rfl⟩
    | 3 => simp [tkC] at hx; subst hx; exact ⟨_, rfl, .int _ _, rfl⟩
    | j + 4 => simp [tkC] at hx
  refine .sl 4 _ .none (some a) len cap (fun i j => ((tkCells (f i))[j]?).getD .nilFunc) (by simp) hl ?_ ?_ ?_ ?_ (by simp) (by simp) (by simp)
  · intro e he
    simp only [List.mem_map] at he
    obtain ⟨t, _, rfl⟩ := he
    rfl
  · intro i j e x hi hj
    obtain ⟨h1, h2⟩ := key i j e x hi hj
    obtain ⟨v, h3, _⟩ := val _ _ _ h2
    exact ⟨a, rfl, by rw [hc i h1 j v h3, h3]; rfl, fun h => h.elim⟩
  · intro i j e x hi hj
    obtain ⟨h1, h2⟩ := key i j e x hi hj
    obtain ⟨v, h3, h4, _⟩ := val _ _ _ h2
    show V noOwn w x (((tkCells (f i))[j]?).getD .nilFunc)
    rw [h3]; exact h4
  · intro i j e x hi hj
    obtain ⟨h1, h2⟩ := key i j e x hi hj
    obtain ⟨v, h3, _, h5⟩ := val _ _ _ h2
    show Value.oneCell' (((tkCells (f i))[j]?).getD .nilFunc) = true
    rw [h3]; exact h5
theorem V_noTokens {w : World} : V noOwn w (.sl 4 (([] : List Tk).map tkC) .none) (.slice none 0 0) :=
  .sl 4 _ .none none 0 0 (fun _ _ => .nilFunc) rfl (Nat.le_refl _) (by simp) (by simp) (by simp) (by simp) (by simp) (by simp) (by simp)
theorem open_tokens {H : Type} {enc : TypeId × Value → H} {W : World} {base : Nat} {sp : Nat → Bool} {held : Bool} {fuel : Nat} {a : Option Addr} {len cap : Nat} {x : DataW H × List MemPlace} (h : DataW.trod enc Tryz.prog W base sp held fuel 33 [.slice a len cap] = some x) :
    ∃ l : List Tk, V noOwn W (.sl 4 (l.map tkC) .none) (.slice a len cap) ∧ (l = [] ∨ ∃ elems rest, x.1 = .slice elems rest ∧ elems.length = l.length) := by
  have c4 : Tryz.prog.cellsOf 23 = 4 := by kernel_rfl
  rcases DataW.trod_slice Tryz.underlying33 h with ⟨hcs, _⟩ | ⟨ad, len', cap', elems, rest, n, _, hcs, hx, hb, hl, hm, hlen, hel, _⟩
  · simp only [List.cons.injEq, Value.slice.injEq, and_true] at hcs
    obtain ⟨rfl, rfl, rfl⟩ := hcs
    exact ⟨[], V_noTokens, .inl rfl⟩
  · simp only [List.cons.injEq, Value.slice.injEq, and_true] at hcs
    obtain ⟨rfl, rfl, rfl⟩ := hcs
    have each : ∀ i, ∃ t : Tk, i < len → ∀ j v, (tkCells t)[j]? = some v → W.cell? (ad.add (i * 4 + j)) = some v := fun i => by
      by_cases hi : i < len
      · have h1 := hel i hi
        rw [c4, List.getElem?_eq_getElem (by omega), Option.bind_eq_some_iff] at h1
        obtain ⟨cs, hcs, hy⟩ := h1
        obtain ⟨t, ht⟩ := open_tokenC hy
        refine ⟨t, fun _ j v hv => ?_⟩
        unfold World.cells? at hcs
        split at hcs
        case isFalse => simp at hcs
        have h2 := mapM_some_get hcs
        rw [← Ev.add_add]
        have hj : j < 4 := by
          have := (List.getElem?_eq_some_iff.1 hv).1
          simpa [tkCells] using this
        have h3 := h2 j j (by simp [hj])
        rw [h3, ht]
        exact hv
      · exact ⟨⟨0, [], 0, 0⟩, fun h => absurd h hi⟩
    refine ⟨(List.range len).map fun i => (each i).choose, V_tokens _ hl fun i hi j v hv => (each i).choose_spec hi j v hv, .inr ⟨_, _, congrArg Prod.fst hx, by simp [hlen]⟩⟩
end Go.Proofs.YtlmmgblghgmgeaaGreatDoor
