/- A verified evaluator, part I: append. -/
import Derived.Test.YtlmmgblghgmgeaaDoorEvH
set_option linter.unusedVariables false
set_option linter.unusedSimpArgs false
namespace Ev
open Go
section
variable {P : Program} {c : Cfg} {w : World} {m m' : Mem} {t : Tmps} {a : Act} {C : Oracle} {ro : FuncId → Bool} {D : Option (List Nat)} {d : Nat} {x : AV}

theorem firstCells_run {own : Own} {s z len cap : Nat} {els : List (List AV)} {ad : Option Addr} (h : V own w (.sl s els .none) (.slice ad len cap)) (hz : s = z ∨ els = []) :
    ∃ arr : Array Value, (∀ w' : World, w'.heap = w.heap → (Builtin.firstCells z len (.slice ad len cap)).run P w' = .ok arr w') ∧ arr.size = len * z ∧
      (∀ (i j : Nat) (e : List AV) (x : AV), els[i]? = some e → e[j]? = some x → ∃ u, arr[i * z + j]? = some u ∧ V own w x u ∧ u.oneCell' = true) ∧ ∀ (k : Nat) (u : Value), arr[k]? = some u → u.oneCell' = true := by
  obtain ⟨a', len', cap', cv, heq, hlen, hcap, hel, hc, hv, _, _⟩ := V_sl h
  simp at heq
  obtain ⟨rfl, rfl, rfl⟩ := heq
  by_cases he : els = []
  · subst he
    simp at hlen
    subst hlen
    refine ⟨#[], fun w' _ => ?_, by simp, by simp, by simp⟩
    cases ad <;> simp [Builtin.firstCells, loadCells, loadCellsFrom]
  · have hsz : s = z := hz.resolve_right he
    subst hsz
    by_cases hs0 : s = 0
    · subst hs0
      refine ⟨#[], fun w' _ => ?_, by simp, fun i j e x hi hj => ?_, by simp⟩
      · cases ad <;> simp [Builtin.firstCells, loadCells, loadCellsFrom]
      · have := hel e (List.mem_of_getElem? hi)
        simp [List.length_eq_zero_iff.1 this] at hj
    · have hidx : ∀ k, k < len * s → k / s < els.length ∧ k % s < s ∧ k / s * s + k % s = k := fun k hk => by
        refine ⟨by rw [← hlen]; exact Nat.div_lt_of_lt_mul (by rw [Nat.mul_comm]; exact hk), Nat.mod_lt _ (by omega), Nat.div_add_mod' k s⟩
      have hget : ∀ k, k < len * s → ∃ e x, els[k / s]? = some e ∧ e[k % s]? = some x := fun k hk => by
        obtain ⟨h1, h2, _⟩ := hidx k hk
        refine ⟨els[k / s], els[k / s][k % s]'(by rw [hel _ (List.getElem_mem h1)]; exact h2), by simp [h1], by simp⟩
      obtain ⟨ad', rfl⟩ : ∃ ad', ad = some ad' := by
        have : 0 < len * s := by
          have : els.length ≠ 0 := fun h0 => he (List.length_eq_zero_iff.1 h0)
          exact Nat.mul_pos (by omega) (by omega)
        obtain ⟨e, x, h1, h2⟩ := hget 0 this
        obtain ⟨ad', ha, _⟩ := hc _ _ _ _ h1 h2
        exact ⟨ad', ha⟩
      have hrun : ∀ w' : World, w'.heap = w.heap → _ := fun w' hw' => run_loadCells_of (P := P) (w := w') (ad := ad') (n := len * s) (cv := fun k => cv (k / s) (k % s)) fun k hk => by
        obtain ⟨e, x, h1, h2⟩ := hget k hk
        obtain ⟨ad'', ha, h3, _⟩ := hc _ _ _ _ h1 h2
        simp at ha; subst ha
        rw [(hidx k hk).2.2] at h3
        have hcell : w'.cell? (ad'.add k) = w.cell? (ad'.add k) := by unfold World.cell?; rw [hw']
        rw [hcell]; exact h3
      refine ⟨_, hrun, by simp, fun i j e x hi hj => ?_, fun k u hk => by
        simp at hk
        obtain ⟨k', hk', rfl⟩ := hk
        have hlt : k < len * s := by
          rcases Nat.lt_or_ge k (len * s) with h' | h'
          · exact h'
          · simp [List.getElem?_eq_none, h'] at hk'
        simp [hlt] at hk'
        subst hk'
        obtain ⟨e, x, h1, h2⟩ := hget k hlt
        exact (hv _ _ _ _ h1 h2).2⟩
      have hi' : i < els.length := by
        rcases Nat.lt_or_ge i els.length with h' | h'
        · exact h'
        · simp [List.getElem?_eq_none, h'] at hi
      have hj' : j < s := by
        have := hel e (List.mem_of_getElem? hi)
        rcases Nat.lt_or_ge j e.length with h' | h'
        · omega
        · simp [List.getElem?_eq_none, h'] at hj
      have hlt : i * s + j < len * s := by
        have : (i + 1) * s ≤ len * s := Nat.mul_le_mul_right s (by omega)
        rw [Nat.add_mul, Nat.one_mul] at this
        omega
      have hd : (i * s + j) / s = i := by
        rw [Nat.mul_comm, Nat.mul_add_div (by omega), Nat.div_eq_of_lt hj']; omega
      have hmd : (i * s + j) % s = j := by
        rw [Nat.mul_comm, Nat.mul_add_mod, Nat.mod_eq_of_lt hj']
      refine ⟨cv i j, by simp [hlt, hd, hmd], (hv i j e x hi hj).1, (hv i j e x hi hj).2⟩

/-- Cells that are written no more, and may be read. -/
def dropSet (o : Own) (S : Nat → Nat → Prop) : Own := ⟨fun g off => o.W g off ∧ ¬ S g off, fun g off => o.N g off ∧ ¬ (S g off ∧ o.W g off), fun g off h => ⟨o.sub _ _ h.1, fun k => h.2 k.1⟩⟩
theorem Evo.dropSet (o : Own) (S : Nat → Nat → Prop) (w : World) : Evo o w (dropSet o S) w :=
  ⟨Nat.le_refl _, fun g cs el fr h => ⟨cs, h, rfl, fun _ _ => rfl⟩, fun _ _ h _ => h, fun _ _ _ h => h.1, fun _ _ _ h => h.1, fun _ _ _ h h' => ⟨h, fun k => h' k.2⟩, rfl, rfl, rfl⟩

def updS (ν : Nat → Nat → Stat) (p q : Nat) (s : Stat) : Nat → Nat → Stat := fun i j => if i = p ∧ j = q then s else ν i j

theorem MemRel.namesUpd {own' : Own} {w' : World} {ν' : Nat → Nat → Stat} {names' : Nat → Nat → Option Bool} (hM : MemRel c m w) (e : Evo c.own w own' w') (hnames : ∀ p q, statIs (ν' p q) (names' p q))
    (hext : Ext c ⟨own', c.ρ, ν'⟩) (hW : ∀ id g, c.ρ id = some g → ∀ off, c.own.W g off → own'.W g off)
    (hbox : ∀ id g cs el, c.ρ id = some g → w.heap[g]? = some (.cells cs el (0, 0)) → w'.heap[g]? = some (.cells cs el (0, 0)))
    (htip : ∀ p q g en, ν' p q = .alive (some (g, en)) → ∃ cs el, w'.heap[g]? = some (.cells cs el (0, 0)) ∧ en < cs.size ∧ ∀ off, en ≤ off → off < cs.size → own'.W g off)
    (hinj : ∀ p q p' q' g en en', ν' p q = .alive (some (g, en)) → ν' p' q' = .alive (some (g, en')) → p = p' ∧ q = q')
    (htb : ∀ p q g en id, ν' p q = .alive (some (g, en)) → c.ρ id ≠ some g) (hlt : ∀ g off, own'.N g off → g < w'.heap.size) :
    MemRel ⟨own', c.ρ, ν'⟩ { m with names := names' } w' :=
  ⟨hM.dom, fun id bx g h1 h2 => by
    obtain ⟨cs, el, k1, k2, k3, k4, k5⟩ := hM.box id bx g h1 h2
    exact ⟨cs, el, hbox id g cs el h2 k1, k2, fun j x v hx hv => ⟨(k3 j x v hx hv).1.mono e hext, (k3 j x v hx hv).2⟩, fun hf off ho => hW id g h2 off (k4 hf off ho), fun hf off ho hn => k5 hf off ho (e.no _ _ (lt_of_heap k1) hn)⟩,
    hM.inj, hnames, htip, hinj, htb, hlt⟩

theorem growBy_le (n : Nat) : ∀ (r k : Nat), k < 2 * n → 256 ≤ k → Builtin.growBy n r k ≤ 2 * n
  | 0, k, h, _ => by simp [Builtin.growBy]; omega
  | r + 1, k, h, h' => by
    simp only [Builtin.growBy]
    split
    · omega
    · rename_i hk
      by_cases hk2 : k + (k + 768) / 4 < 2 * n
      · exact growBy_le n r _ hk2 (by omega)
      · exfalso; omega
theorem nextcap_le {need cap : Nat} (h : cap < need) : Builtin.nextslicecap need cap ≤ 2 * need := by
  unfold Builtin.nextslicecap
  split
  · omega
  · split
    · omega
    · exact growBy_le _ _ _ (by omega) (by omega)

/-- What is known of the row behind a slice, before it is appended to. -/
theorem tok_before (hM : MemRel c m w) {s : Nat} {els : List (List AV)} {tok : Tok} {u : Value} (hx : T c w (.sl s els tok) u) (ht : tok ≠ .none) (hal : ∀ p q, tok = .row p q → m.names p q = some true) :
    ∃ ad len cap, u = .slice ad len cap ∧ len = els.length ∧ (cap = len ∨ ∃ p q g en o cs el, tok = .row p q ∧ c.ν p q = .alive (some (g, en)) ∧ ad = some ⟨g, o, none⟩ ∧ en = o + len * s ∧ w.heap[g]? = some (.cells cs el (0, 0)) ∧ o + cap * s ≤ cs.size) := by
  obtain ⟨ad, len, cap, cv, hu, hlen, hcap, _, _, _, hn, hk⟩ := V_sl (tok := .none) (T_sl hx)
  refine ⟨ad, len, cap, hu, hlen, ?_⟩
  cases tok with
  | none => exact absurd rfl ht
  | nil =>
    obtain ⟨ad', len', cap', cv', hu', hlen', hcap', _, _, _, hn', hk'⟩ := V_sl (own := c.own) (tok := .nil) (show V c.own w _ u from hx)
    rw [hu] at hu'; simp at hu'
    obtain ⟨rfl, rfl, rfl⟩ := hu'
    have := hn' rfl
    exact .inl (by omega)
  | clip =>
    obtain ⟨ad', len', cap', cv', hu', hlen', hcap', _, _, _, hn', hk'⟩ := V_sl (own := c.own) (tok := .clip) (show V c.own w _ u from hx)
    rw [hu] at hu'; simp at hu'
    obtain ⟨rfl, rfl, rfl⟩ := hu'
    exact .inl (hk' rfl)
  | row p q =>
    have hst := hM.names p q
    rw [hal p q rfl] at hst
    have htip : Tip w s els.length (c.ν p q) u := hx.2
    cases hν : c.ν p q with
    | unknown => rw [hν] at hst; simp [statIs] at hst
    | dead => rw [hν] at hst; simp [statIs] at hst
    | alive o =>
      rw [hν] at htip
      cases o with
      | none =>
        obtain ⟨a', ha'⟩ := htip
        rw [hu] at ha'; simp at ha'
        exact .inl (by omega)
      | some ge =>
        obtain ⟨g, en⟩ := ge
        obtain ⟨o, cap', cs, el, h1, h2, h3, h4⟩ := htip
        rw [hu] at h1; simp at h1
        obtain ⟨rfl, hl, rfl⟩ := h1
        exact .inr ⟨p, q, g, en, o, cs, el, rfl, hν, rfl, by rw [hlen]; exact h2, h3, h4⟩
end
end Ev
