/- A verified evaluator, part J: append does what 'aappend' says. -/
import Derived.Test.YtlmmgblghgmgeaaDoorEvI
set_option linter.unusedVariables false
set_option linter.unusedSimpArgs false
namespace Ev
open Go
section
variable {P : Program} {c : Cfg} {w : World} {m m' : Mem} {t : Tmps} {a : Act} {C : Oracle} {ro : FuncId → Bool} {D : Option (List Nat)} {d : Nat} {x : AV}

/-- The names behind an append: the base's dies, the result's is new. -/
def νApp (ν : Nat → Nat → Stat) (tok : Tok) (d : Nat) (st : Stat) : Nat → Nat → Stat :=
  match tok with
  | .row p q => updS (updS ν p q .dead) d 0 st
  | _ => updS ν d 0 st
def nApp (names : Nat → Nat → Option Bool) (tok : Tok) (d : Nat) : Nat → Nat → Option Bool :=
  match tok with
  | .row p q => upd2 (upd2 names p q false) d 0 true
  | _ => upd2 names d 0 true
theorem νApp_names (hM : MemRel c m w) {tok : Tok} {t : Option (Nat × Nat)} (p q : Nat) : statIs (νApp c.ν tok d (.alive t) p q) (nApp m.names tok d p q) := by
  have h := hM.names p q
  cases tok <;> simp only [νApp, nApp, updS, upd2_apply] <;> (repeat' split) <;> first | exact h | rfl
theorem νApp_ext (hM : MemRel c m w) {tok : Tok} {t : Option (Nat × Nat)} (hd : m.names d 0 = none) (hal : ∀ p q, tok = .row p q → m.names p q = some true) (own' : Own) : Ext c ⟨own', c.ρ, νApp c.ν tok d (.alive t)⟩ := by
  have hun : c.ν d 0 = .unknown := by
    have := hM.names d 0
    rw [hd] at this
    cases hs : c.ν d 0 <;> simp [hs, statIs] at this ⊢
  have hnd : ∀ p q, c.ν p q ≠ .unknown → ¬ (p = d ∧ q = 0) := fun p q h ⟨h1, h2⟩ => h (by rw [h1, h2]; exact hun)
  refine ⟨fun _ _ h => h, fun _ _ _ h => h, fun p q h => ?_, fun p q s h => ?_⟩
  · have h0 := hnd p q (by rw [h]; simp)
    cases tok with
    | row p' q' =>
      simp only [νApp, updS, h0, if_false]
      split
      · rfl
      · exact h
    | _ => simp only [νApp, updS, h0, if_false]; exact h
  · have h0 := hnd p q (by rw [h]; simp)
    cases tok with
    | row p' q' =>
      simp only [νApp, updS, h0, if_false]
      split
      · exact .inr rfl
      · exact .inl h
    | _ => simp only [νApp, updS, h0, if_false]; exact .inl h
theorem νApp_alive {ν : Nat → Nat → Stat} {tok : Tok} {st : Stat} {p q : Nat} {t : Option (Nat × Nat)} (h : νApp ν tok d st p q = .alive t) :
    (p = d ∧ q = 0 ∧ st = .alive t) ∨ (¬ (p = d ∧ q = 0) ∧ tok ≠ .row p q ∧ ν p q = .alive t) := by
  cases tok with
  | row p' q' =>
    simp only [νApp, updS] at h
    split at h
    · rename_i h0; exact .inl ⟨h0.1, h0.2, h⟩
    · rename_i h0
      split at h
      · simp at h
      · rename_i h1
        exact .inr ⟨h0, fun he => h1 (by simp at he; exact ⟨he.1.symm, he.2.symm⟩), h⟩
  | _ =>
    simp only [νApp, updS] at h
    split at h
    · rename_i h0; exact .inl ⟨h0.1, h0.2, h⟩
    · rename_i h0; exact .inr ⟨h0, by simp, h⟩

/-- Names and ownership behind an append whose result's tip is t. -/
theorem MemRel.app {own' : Own} {w' : World} {tok : Tok} {t : Option (Nat × Nat)} (hM : MemRel c m w) (hd : m.names d 0 = none) (hal : ∀ p q, tok = .row p q → m.names p q = some true) (e : Evo c.own w own' w')
    (hbox : ∀ id g, c.ρ id = some g → (∀ off, c.own.W g off → own'.W g off) ∧ ∀ cs el, w.heap[g]? = some (.cells cs el (0, 0)) → w'.heap[g]? = some (.cells cs el (0, 0)))
    (hold : ∀ p q g en, c.ν p q = .alive (some (g, en)) → tok ≠ .row p q → ∀ off, c.own.W g off → own'.W g off)
    (hnew : ∀ g en, t = some (g, en) → (∃ cs el, w'.heap[g]? = some (.cells cs el (0, 0)) ∧ en < cs.size ∧ ∀ off, en ≤ off → off < cs.size → own'.W g off) ∧ (∀ id, c.ρ id ≠ some g) ∧ (∀ p q en', c.ν p q = .alive (some (g, en')) → tok = .row p q))
    (hlt : ∀ g off, own'.N g off → g < w'.heap.size) : MemRel ⟨own', c.ρ, νApp c.ν tok d (.alive t)⟩ { m with names := nApp m.names tok d } w' := by
  refine hM.namesUpd e (fun p q => νApp_names hM p q) (νApp_ext hM hd hal own') (fun id g h => (hbox id g h).1) (fun id g cs el h => (hbox id g h).2 cs el) (fun p q g en h => ?_) (fun p q p' q' g en en' h h' => ?_) (fun p q g en id h => ?_) hlt
  · rcases νApp_alive h with ⟨_, _, h1⟩ | ⟨_, h1, h2⟩
    · simp at h1; exact (hnew g en h1).1
    · obtain ⟨cs, el, k1, kl, k2⟩ := hM.tip p q g en h2
      obtain ⟨cs', k3, k4, _⟩ := e.cells _ _ _ _ k1
      exact ⟨cs', el, k3, by omega, fun off h3 h4 => hold p q g en h2 h1 off (k2 off h3 (by omega))⟩
  · rcases νApp_alive h with ⟨h1, h2, h3⟩ | ⟨h1, h2, h3⟩ <;> rcases νApp_alive h' with ⟨k1, k2, k3⟩ | ⟨k1, k2, k3⟩
    · exact ⟨h1.trans k1.symm, h2.trans k2.symm⟩
    · simp at h3; exact absurd ((hnew g en h3).2.2 _ _ _ k3) k2
    · simp at k3; exact absurd ((hnew g en' k3).2.2 _ _ _ h3) h2
    · exact hM.tipInj _ _ _ _ _ _ _ h3 k3
  · rcases νApp_alive h with ⟨_, _, h1⟩ | ⟨_, h1, h2⟩
    · simp at h1; exact (hnew g en h1).2.1 id
    · exact hM.tipBox _ _ _ _ _ h2

/-- The elements of both slices, in cells. -/
theorem V_append {own : Own} {z n cap : Nat} {els news : List (List AV)} {ad : Addr} {cs : Array Value} {el : TypeId} (hh : w.heap[ad.block]? = some (.cells cs el (0, 0))) (hsp : ad.spot = none)
    (hN : ∀ k, k < n * z → ¬ own.N ad.block (ad.off + k)) (hn : n = els.length + news.length) (hcap : n ≤ cap) (hel : ∀ e ∈ els, e.length = z) (hnl : ∀ e ∈ news, e.length = z)
    (h1 : ∀ (i j : Nat) (e : List AV) (x : AV), els[i]? = some e → e[j]? = some x → ∃ u, cs[ad.off + (i * z + j)]? = some u ∧ V own w x u ∧ u.oneCell' = true)
    (h2 : ∀ (i j : Nat) (e : List AV) (x : AV), news[i]? = some e → e[j]? = some x → ∃ u, cs[ad.off + ((els.length + i) * z + j)]? = some u ∧ V own w x u ∧ u.oneCell' = true) :
    V own w (.sl z (els ++ news) .none) (.slice (some ad) n cap) := by
  obtain ⟨b, o, sp⟩ := ad
  simp only at hsp hh hN h1 h2
  subst hsp
  have hall : ∀ (i j : Nat) (e : List AV) (x : AV), (els ++ news)[i]? = some e → e[j]? = some x → i * z + j < n * z ∧ ∃ u, cs[o + (i * z + j)]? = some u ∧ V own w x u ∧ u.oneCell' = true := fun i j e x hi hj => by
    have hmem : e ∈ els ++ news := List.mem_of_getElem? hi
    have hez : e.length = z := (List.mem_append.1 hmem).elim (hel e) (hnl e)
    have hilt : i < (els ++ news).length := by
      rcases Nat.lt_or_ge i (els ++ news).length with h' | h'
      · exact h'
      · rw [List.getElem?_eq_none h'] at hi; simp at hi
    have hjlt : j < z := by
      rcases Nat.lt_or_ge j e.length with h' | h'
      · omega
      · simp [List.getElem?_eq_none, h'] at hj
    constructor
    · have : (i + 1) * z ≤ n * z := Nat.mul_le_mul_right z (by simp at hilt; omega)
      rw [Nat.add_mul, Nat.one_mul] at this
      omega
    · rcases Nat.lt_or_ge i els.length with hlt | hge
      · rw [List.getElem?_append_left hlt] at hi
        exact h1 i j e x hi hj
      · rw [List.getElem?_append_right hge] at hi
        have := h2 (i - els.length) j e x hi hj
        rwa [show els.length + (i - els.length) = i by omega] at this
  refine .sl z _ .none _ n cap (fun i j => cs.getD (o + (i * z + j)) undef) (by simp [hn]) hcap (fun e he => (List.mem_append.1 he).elim (hel e) (hnl e)) (fun i j e x hi hj => ?_) (fun i j e x hi hj => ?_) (fun i j e x hi hj => ?_) (by simp) (by simp) (by simp)
  · obtain ⟨hk, u, hu, _⟩ := hall i j e x hi hj
    refine ⟨⟨b, o, none⟩, rfl, ?_, hN _ hk⟩
    rw [add_plain, heap_cell hh]
    simp [Array.getD_eq_getD_getElem?, hu]
  · obtain ⟨hk, u, hu, hV, _⟩ := hall i j e x hi hj
    simpa [Array.getD_eq_getD_getElem?, hu] using hV
  · obtain ⟨hk, u, hu, _, hO⟩ := hall i j e x hi hj
    simpa [Array.getD_eq_getD_getElem?, hu] using hO
end
end Ev
