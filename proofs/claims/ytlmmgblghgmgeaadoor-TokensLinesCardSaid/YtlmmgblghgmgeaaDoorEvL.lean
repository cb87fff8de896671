/- A verified evaluator, part L: rows' tips by new names. -/
import Derived.Test.YtlmmgblghgmgeaaDoorEvK
set_option linter.unusedVariables false
set_option linter.unusedSimpArgs false
namespace Ev
open Go
section
variable {P : Program} {c : Cfg} {w : World} {m m' : Mem}

/-- A value that stands somewhere, its row's tip being t. -/
def LocOK (own : Own) (ρ : Nat → Option Nat) (w : World) (y : AV) (v : Value) (t : Option (Nat × Nat)) : Prop :=
  match y with
  | .sl s els (.row _ _) => V own w (.sl s els .none) v ∧ Tip w s els.length (.alive t) v
  | .ptr id off => ∃ g, ρ id = some g ∧ v = .pointer (some ⟨g, off, none⟩)
  | .tup _ => False
  | y => V own w y v

theorem LocOK.T1 {own : Own} {ρ : Nat → Option Nat} {ν : Nat → Nat → Stat} {y : AV} {v : Value} {t : Option (Nat × Nat)} (h : LocOK own ρ w y v t) (hν : ∀ p q, rowName y = some (p, q) → ν p q = .alive t) : Ev.T1 ⟨own, ρ, ν⟩ w y v := by
  cases y with
  | sl s els tok =>
    cases tok with
    | row p q => exact ⟨h.1, by rw [show (⟨own, ρ, ν⟩ : Cfg).ν p q = .alive t from hν p q rfl]; exact h.2⟩
    | _ => exact h
  | _ => exact h
theorem LocOK.mono {own own' : Own} {ρ ρ' : Nat → Option Nat} {w' : World} {y : AV} {v : Value} {t : Option (Nat × Nat)} (h : LocOK own ρ w y v t) (e : Evo own w own' w') (hρ : ∀ id g, ρ id = some g → ρ' id = some g) : LocOK own' ρ' w' y v t := by
  cases y with
  | sl s els tok =>
    cases tok with
    | row p q => exact ⟨h.1.mono e, h.2.mono e⟩
    | _ => exact V.mono h e
  | ptr id off => obtain ⟨g, h1, h2⟩ := h; exact ⟨g, hρ _ _ h1, h2⟩
  | tup => exact h
  | _ => exact V.mono h e

structure Step1 (c : Cfg) (w : World) (used : List (Nat × Nat)) (nm : Nat × Nat) (y : AV) (v : Value) (t : Option (Nat × Nat)) (used' : List (Nat × Nat)) : Prop where
  ok : LocOK c.own c.ρ w y v t
  sub : ∀ n, n ∈ used → n ∈ used'
  name : ∀ n, rowName y = some n → n = nm
  src : ∀ g e, t = some (g, e) → ∃ a b, c.ν a b = .alive (some (g, e)) ∧ (a, b) ∉ used ∧ (a, b) ∈ used'

inductive Chain (c : Cfg) (w : World) : List (Nat × Nat) → List (Nat × Nat) → List AV → List Value → List (Option (Nat × Nat)) → List (Nat × Nat) → Prop
  | nil (used : List (Nat × Nat)) : Chain c w used [] [] [] [] used
  | cons {used u1 u2 nms : List (Nat × Nat)} {nm : Nat × Nat} {y : AV} {v : Value} {t : Option (Nat × Nat)} {ys : List AV} {vs : List Value} {ts : List (Option (Nat × Nat))}
      (h : Step1 c w used nm y v t u1) (k : Chain c w u1 nms ys vs ts u2) : Chain c w used (nm :: nms) (y :: ys) (v :: vs) (t :: ts) u2

theorem Chain.append {used u1 u2 n1 n2 : List (Nat × Nat)} {y1 y2 : List AV} {v1 v2 : List Value} {t1 t2 : List (Option (Nat × Nat))} (h : Chain c w used n1 y1 v1 t1 u1) (k : Chain c w u1 n2 y2 v2 t2 u2) :
    Chain c w used (n1 ++ n2) (y1 ++ y2) (v1 ++ v2) (t1 ++ t2) u2 := by
  induction h with
  | nil => exact k
  | cons h _ ih => exact .cons h (ih k)
theorem Chain.sub {used u2 nms : List (Nat × Nat)} {ys : List AV} {vs : List Value} {ts : List (Option (Nat × Nat))} (h : Chain c w used nms ys vs ts u2) : ∀ n, n ∈ used → n ∈ u2 := by
  induction h with
  | nil => exact fun _ h => h
  | cons h _ ih => exact fun n hn => ih n (h.sub n hn)
theorem Chain.len {used u2 nms : List (Nat × Nat)} {ys : List AV} {vs : List Value} {ts : List (Option (Nat × Nat))} (h : Chain c w used nms ys vs ts u2) : nms.length = ys.length ∧ vs.length = ys.length ∧ ts.length = ys.length := by
  induction h with
  | nil => simp
  | cons h _ ih => simp [ih]

theorem relab1_step {names : Nat → Nat → Option Bool} {used : List (Nat × Nat)} {p q : Nat} {grow : Option Nat} {x : AV} {v : Value} (hT : T1 c w x v) (hal : ∀ a b, rowName x = some (a, b) → names a b = some true → ∃ t, c.ν a b = .alive t) :
    ∃ t, Step1 c w used (p, q) (relab1 names used p q grow x).1 v t (relab1 names used p q grow x).2 := by
  cases x with
  | sl s els tok =>
    cases tok with
    | row a b =>
      simp only [relab1]
      split
      · rename_i hc
        obtain ⟨t, ht⟩ := hal a b rfl hc.1
        obtain ⟨h1, h2⟩ := hT
        rw [ht] at h2
        exact ⟨t, ⟨h1, h2⟩, fun n hn => List.mem_cons_of_mem _ hn, fun n hn => by simp [rowName] at hn; exact hn.symm, fun g e he => ⟨a, b, by rw [ht, he], hc.2, by simp⟩⟩
      · exact ⟨none, hT.1, fun n hn => hn, fun n hn => by simp [rowName] at hn, fun g e he => by simp at he⟩
    | nil =>
      simp only [relab1]
      cases grow with
      | none => exact ⟨none, hT, fun n hn => hn, fun n hn => by simp [rowName] at hn, fun g e he => by simp at he⟩
      | some z =>
        obtain ⟨ad, len, cap, cv, rfl, hlen, hcap, _, _, _, hn, _⟩ := V_sl (own := c.own) (tok := .nil) (show V c.own w _ v from hT)
        obtain ⟨rfl, rfl⟩ := hn rfl
        obtain rfl : len = 0 := by omega
        exact ⟨none, ⟨V_empty, none, rfl⟩, fun n hn => hn, fun n hn => by simp [rowName] at hn; exact hn.symm, fun g e he => by simp at he⟩
    | none => exact ⟨none, hT, fun n hn => hn, fun n hn => by simp [rowName, relab1] at hn, fun g e he => by simp at he⟩
    | clip => exact ⟨none, hT, fun n hn => hn, fun n hn => by simp [rowName, relab1] at hn, fun g e he => by simp at he⟩
  | tup => exact hT.elim
  | undef => exact ⟨none, hT, fun n hn => hn, fun n hn => by simp [rowName, relab1] at hn, fun g e he => by simp at he⟩
  | bool => exact ⟨none, hT, fun n hn => hn, fun n hn => by simp [rowName, relab1] at hn, fun g e he => by simp at he⟩
  | int => exact ⟨none, hT, fun n hn => hn, fun n hn => by simp [rowName, relab1] at hn, fun g e he => by simp at he⟩
  | str => exact ⟨none, hT, fun n hn => hn, fun n hn => by simp [rowName, relab1] at hn, fun g e he => by simp at he⟩
  | ptr => exact ⟨none, hT, fun n hn => hn, fun n hn => by simp [rowName, relab1] at hn, fun g e he => by simp at he⟩
  | eptr => exact ⟨none, hT, fun n hn => hn, fun n hn => by simp [rowName, relab1] at hn, fun g e he => by simp at he⟩
  | pnil => exact ⟨none, hT, fun n hn => hn, fun n hn => by simp [rowName, relab1] at hn, fun g e he => by simp at he⟩
  | fn => exact ⟨none, hT, fun n hn => hn, fun n hn => by simp [rowName, relab1] at hn, fun g e he => by simp at he⟩
  | fnil => exact ⟨none, hT, fun n hn => hn, fun n hn => by simp [rowName, relab1] at hn, fun g e he => by simp at he⟩
  | agg => exact ⟨none, hT, fun n hn => hn, fun n hn => by simp [rowName, relab1] at hn, fun g e he => by simp at he⟩

/-- All values of a list are as they are said to be. -/
def TL (c : Cfg) (w : World) (xs : List AV) (vs : List Value) : Prop := vs.length = xs.length ∧ ∀ (i : Nat) (x : AV) (v : Value), xs[i]? = some x → vs[i]? = some v → T1 c w x v
theorem TL.cons {x : AV} {v : Value} {xs : List AV} {vs : List Value} (h : TL c w (x :: xs) (v :: vs)) : T1 c w x v ∧ TL c w xs vs :=
  ⟨h.2 0 x v rfl rfl, by simpa using h.1, fun i y u hy hu => h.2 (i + 1) y u (by simpa using hy) (by simpa using hu)⟩

theorem relabL_chain {names : Nat → Nat → Option Bool} {nm : Nat → Nat × Nat} {grow : Nat → Option Nat} : ∀ (xs : List AV) (vs : List Value) (j : Nat) (used : List (Nat × Nat)), TL c w xs vs →
    (∀ x ∈ xs, ∀ a b, rowName x = some (a, b) → names a b = some true → ∃ t, c.ν a b = .alive t) →
    ∃ ts, Chain c w used ((List.range' j xs.length).map nm) (relabL names nm grow j used xs).1 vs ts (relabL names nm grow j used xs).2
  | [], vs, j, used, h, hal => by
    obtain rfl : vs = [] := List.length_eq_zero_iff.1 h.1
    exact ⟨[], .nil used⟩
  | x :: xs, [], j, used, h, hal => by have := h.1; simp at this
  | x :: xs, v :: vs, j, used, h, hal => by
    obtain ⟨h1, h2⟩ := h.cons
    obtain ⟨t, ht⟩ := relab1_step (names := names) (used := used) (p := (nm j).1) (q := (nm j).2) (grow := grow j) h1 (hal x (by simp))
    obtain ⟨ts, hts⟩ := relabL_chain (names := names) (nm := nm) (grow := grow) xs vs (j + 1) _ h2 (fun y hy => hal y (List.mem_cons_of_mem _ hy))
    refine ⟨t :: ts, ?_⟩
    simp only [List.length_cons, List.range'_succ, List.map_cons, relabL]
    exact .cons ht hts

theorem relab1_used {names : Nat → Nat → Option Bool} {used : List (Nat × Nat)} {p q : Nat} {grow : Option Nat} {x : AV} : ∀ n, n ∈ (relab1 names used p q grow x).2 → n ∈ used ∨ rowName x = some n := by
  intro n hn
  cases x with
  | sl s els tok =>
    cases tok with
    | row a b =>
      simp only [relab1] at hn
      split at hn
      · rcases List.mem_cons.1 hn with rfl | hn
        · exact .inr rfl
        · exact .inl hn
      · exact .inl hn
    | nil => simp only [relab1] at hn; cases grow <;> exact .inl hn
    | none => exact .inl hn
    | clip => exact .inl hn
  | _ => exact .inl hn
theorem relabL_used {names : Nat → Nat → Option Bool} {nm : Nat → Nat × Nat} {grow : Nat → Option Nat} : ∀ (xs : List AV) (j : Nat) (used : List (Nat × Nat)), ∀ n, n ∈ (relabL names nm grow j used xs).2 → n ∈ used ∨ ∃ x ∈ xs, rowName x = some n
  | [], j, used, n, h => .inl h
  | x :: xs, j, used, n, h => by
    simp only [relabL] at h
    rcases relabL_used xs (j + 1) _ n h with h | ⟨y, hy, hr⟩
    · rcases relab1_used n h with h | h
      · exact .inl h
      · exact .inr ⟨x, by simp, h⟩
    · exact .inr ⟨y, List.mem_cons_of_mem _ hy, hr⟩
theorem relabL_len {names : Nat → Nat → Option Bool} {nm : Nat → Nat × Nat} {grow : Nat → Option Nat} : ∀ (xs : List AV) (j : Nat) (used : List (Nat × Nat)), (relabL names nm grow j used xs).1.length = xs.length
  | [], j, used => rfl
  | x :: xs, j, used => by simp [relabL, relabL_len xs]
theorem relab1_noPtr {names : Nat → Nat → Option Bool} {used : List (Nat × Nat)} {p q : Nat} {grow : Option Nat} {x : AV} (h : ∀ i o, x ≠ .ptr i o) : ∀ i o, (relab1 names used p q grow x).1 ≠ .ptr i o := by
  intro i o
  cases x with
  | sl s els tok =>
    cases tok with
    | row a b => simp only [relab1]; split <;> simp
    | nil => simp only [relab1]; cases grow <;> simp
    | none => simp [relab1]
    | clip => simp [relab1]
  | ptr i' o' => exact absurd rfl (h i' o')
  | _ => simp [relab1]
theorem relabL_noPtr {names : Nat → Nat → Option Bool} {nm : Nat → Nat × Nat} {grow : Nat → Option Nat} : ∀ (xs : List AV) (j : Nat) (used : List (Nat × Nat)), (∀ x ∈ xs, ∀ i o, x ≠ .ptr i o) → ∀ y ∈ (relabL names nm grow j used xs).1, ∀ i o, y ≠ .ptr i o
  | [], j, used, _, y, hy => by simp [relabL] at hy
  | x :: xs, j, used, h, y, hy => by
    simp only [relabL, List.mem_cons] at hy
    rcases hy with rfl | hy
    · exact relab1_noPtr (h x (by simp))
    · exact relabL_noPtr xs (j + 1) _ (fun z hz => h z (List.mem_cons_of_mem _ hz)) y hy

/-- A row of boxes. -/
theorem relabB_chain {names : Nat → Nat → Option Bool} {nm : Nat → Nat → Nat × Nat} {grow : Nat → Nat → Option Nat} {vals : Nat → List Value} : ∀ (bs : List (Nat × Box)) (used : List (Nat × Nat)), (∀ b ∈ bs, TL c w b.2 (vals b.1)) →
    (∀ x ∈ cellsOfB bs, ∀ a b, rowName x = some (a, b) → names a b = some true → ∃ t, c.ν a b = .alive t) →
    ∃ ts, Chain c w used (bs.flatMap fun b => (List.range' 0 b.2.length).map (nm b.1)) (cellsOfB (relabB names nm grow used bs).1) (bs.flatMap fun b => vals b.1) ts (relabB names nm grow used bs).2
  | [], used, _, _ => ⟨[], .nil used⟩
  | (i, b) :: bs, used, h, hal => by
    obtain ⟨t1, h1⟩ := relabL_chain (names := names) (nm := nm i) (grow := grow i) b (vals i) 0 used (h (i, b) (by simp)) (fun x hx => hal x (by simp [cellsOfB, hx]))
    obtain ⟨t2, h2⟩ := relabB_chain (names := names) (nm := nm) (grow := grow) (vals := vals) bs (relabL names (nm i) (grow i) 0 used b).2 (fun b' hb => h b' (List.mem_cons_of_mem _ hb)) (fun x hx => hal x (by simp [cellsOfB, hx]))
    exact ⟨t1 ++ t2, h1.append h2⟩
theorem relabB_used {names : Nat → Nat → Option Bool} {nm : Nat → Nat → Nat × Nat} {grow : Nat → Nat → Option Nat} : ∀ (bs : List (Nat × Box)) (used : List (Nat × Nat)), ∀ n, n ∈ (relabB names nm grow used bs).2 → n ∈ used ∨ ∃ x ∈ cellsOfB bs, rowName x = some n
  | [], used, n, h => .inl h
  | (i, b) :: bs, used, n, h => by
    simp only [relabB] at h
    rcases relabB_used bs _ n h with h | ⟨y, hy, hr⟩
    · rcases relabL_used b 0 used n h with h | ⟨y, hy, hr⟩
      · exact .inl h
      · exact .inr ⟨y, by simp [cellsOfB, hy], hr⟩
    · exact .inr ⟨y, by simp [cellsOfB, hy], hr⟩
theorem relabB_shape {names : Nat → Nat → Option Bool} {nm : Nat → Nat → Nat × Nat} {grow : Nat → Nat → Option Nat} : ∀ (bs : List (Nat × Box)) (used : List (Nat × Nat)), (relabB names nm grow used bs).1.map (fun b => (b.1, b.2.length)) = bs.map (fun b => (b.1, b.2.length))
  | [], used => rfl
  | (i, b) :: bs, used => by simp [relabB, relabL_len, relabB_shape bs]
theorem relabB_noPtr {names : Nat → Nat → Option Bool} {nm : Nat → Nat → Nat × Nat} {grow : Nat → Nat → Option Nat} : ∀ (bs : List (Nat × Box)) (used : List (Nat × Nat)), (∀ x ∈ cellsOfB bs, ∀ i o, x ≠ .ptr i o) → ∀ y ∈ cellsOfB (relabB names nm grow used bs).1, ∀ i o, y ≠ .ptr i o
  | [], used, _, y, hy => by simp [relabB, cellsOfB] at hy
  | (i, b) :: bs, used, h, y, hy => by
    simp only [relabB, cellsOfB, List.mem_append] at hy
    rcases hy with hy | hy
    · exact relabL_noPtr b 0 used (fun x hx => h x (by simp [cellsOfB, hx])) y hy
    · exact relabB_noPtr bs _ (fun x hx => h x (by simp [cellsOfB, hx])) y hy

/-- Statuses by a list of values and their tips. -/
def nuOf (base : Nat → Nat → Stat) : List AV → List (Option (Nat × Nat)) → Nat → Nat → Stat
  | y :: ys, t :: ts, p, q => if rowName y = some (p, q) then .alive t else nuOf base ys ts p q
  | _, _, p, q => base p q
theorem nuOf_names {base : Nat → Nat → Stat} {names : Nat → Nat → Option Bool} (hb : ∀ p q, statIs (base p q) (names p q)) : ∀ (ys : List AV) (ts : List (Option (Nat × Nat))), ts.length = ys.length → ∀ p q, statIs (nuOf base ys ts p q) (addNames names ys p q)
  | [], ts, h, p, q => by
    obtain rfl : ts = [] := List.length_eq_zero_iff.1 h
    exact hb p q
  | y :: ys, [], h, p, q => by simp at h
  | y :: ys, t :: ts, h, p, q => by
    simp only [nuOf, addNames]
    split
    · rfl
    · exact nuOf_names hb ys ts (by simpa using h) p q
theorem addNames_none : ∀ (ys : List AV) (p q : Nat), addNames (fun _ _ => none) ys p q = namesOf ys p q
  | [], p, q => rfl
  | y :: ys, p, q => by simp only [addNames, namesOf]; rw [addNames_none ys]

theorem Chain.rowIn {used u2 nms : List (Nat × Nat)} {ys : List AV} {vs : List Value} {ts : List (Option (Nat × Nat))} (h : Chain c w used nms ys vs ts u2) : ∀ y ∈ ys, ∀ n, rowName y = some n → n ∈ nms := by
  induction h with
  | nil => simp
  | cons h _ ih =>
    intro y hy n hn
    rcases List.mem_cons.1 hy with rfl | hy
    · rw [h.name n hn]; simp
    · exact List.mem_cons_of_mem _ (ih y hy n hn)
/-- Each value's status is its own tip. -/
theorem Chain.nu {base : Nat → Nat → Stat} {used u2 nms : List (Nat × Nat)} {ys : List AV} {vs : List Value} {ts : List (Option (Nat × Nat))} (h : Chain c w used nms ys vs ts u2) (hnd : nms.Nodup) :
    ∀ (i : Nat) (y : AV) (t : Option (Nat × Nat)), ys[i]? = some y → ts[i]? = some t → ∀ p q, rowName y = some (p, q) → nuOf base ys ts p q = .alive t := by
  induction h with
  | nil => simp
  | @cons used u1 u2 nms nm y v t ys vs ts h k ih =>
    intro i y' t' hy ht p q hr
    cases i with
    | zero =>
      simp at hy ht
      subst hy; subst ht
      simp [nuOf, hr]
    | succ i =>
      simp at hy ht
      have hmem := k.rowIn y' (List.mem_of_getElem? hy) (p, q) hr
      have hne : rowName y ≠ some (p, q) := fun he => by
        have := h.name _ he
        rw [this] at hmem
        exact (List.nodup_cons.1 hnd).1 hmem
      simp only [nuOf, hne, if_false]
      exact ih (List.nodup_cons.1 hnd).2 i y' t' hy ht p q hr
theorem Chain.ok {used u2 nms : List (Nat × Nat)} {ys : List AV} {vs : List Value} {ts : List (Option (Nat × Nat))} (h : Chain c w used nms ys vs ts u2) :
    ∀ (i : Nat) (y : AV) (v : Value), ys[i]? = some y → vs[i]? = some v → ∃ t, ts[i]? = some t ∧ LocOK c.own c.ρ w y v t := by
  induction h with
  | nil => simp
  | @cons used u1 u2 nms nm y v t ys vs ts h k ih =>
    intro i y' v' hy hv
    cases i with
    | zero => simp at hy hv; subst hy; subst hv; exact ⟨t, rfl, h.ok⟩
    | succ i => simp at hy hv; exact ih i y' v' hy hv
/-- Where a tip comes from; no two come from one. -/
theorem Chain.src {used u2 nms : List (Nat × Nat)} {ys : List AV} {vs : List Value} {ts : List (Option (Nat × Nat))} (h : Chain c w used nms ys vs ts u2) :
    ∀ (i : Nat) (g e : Nat), ts[i]? = some (some (g, e)) → ∃ a b, c.ν a b = .alive (some (g, e)) ∧ (a, b) ∉ used ∧ (a, b) ∈ u2 := by
  induction h with
  | nil => simp
  | @cons used u1 u2 nms nm y v t ys vs ts h k ih =>
    intro i g e ht
    cases i with
    | zero =>
      simp at ht
      obtain ⟨a, b, h1, h2, h3⟩ := h.src g e ht
      exact ⟨a, b, h1, h2, k.sub _ h3⟩
    | succ i =>
      obtain ⟨a, b, h1, h2, h3⟩ := ih i g e (by simpa using ht)
      exact ⟨a, b, h1, fun hm => h2 (h.sub _ hm), h3⟩
theorem Chain.inj (hinj : ∀ a b a' b' g e e', c.ν a b = .alive (some (g, e)) → c.ν a' b' = .alive (some (g, e')) → a = a' ∧ b = b') {used u2 nms : List (Nat × Nat)} {ys : List AV} {vs : List Value} {ts : List (Option (Nat × Nat))} (h : Chain c w used nms ys vs ts u2) :
    ∀ (i j : Nat) (g e e' : Nat), ts[i]? = some (some (g, e)) → ts[j]? = some (some (g, e')) → i = j := by
  induction h with
  | nil => simp
  | @cons used u1 u2 nms nm y v t ys vs ts h k ih =>
    have key : ∀ (i : Nat) (g e e' : Nat), t = some (g, e) → ts[i]? = some (some (g, e')) → False := fun i g e e' h1 h2 => by
      obtain ⟨a, b, k1, _, k3⟩ := h.src g e h1
      obtain ⟨a', b', q1, q2, _⟩ := k.src i g e' h2
      obtain ⟨rfl, rfl⟩ := hinj _ _ _ _ _ _ _ k1 q1
      exact q2 k3
    intro i j g e e' hi hj
    cases i with
    | zero =>
      cases j with
      | zero => rfl
      | succ j => simp at hi hj; exact (key j g e e' hi hj).elim
    | succ i =>
      cases j with
      | zero => simp at hi hj; exact (key i g e' e hj hi).elim
      | succ j => simp at hi hj; rw [ih i j g e e' hi hj]
theorem nuOf_alive {base : Nat → Nat → Stat} : ∀ (ys : List AV) (ts : List (Option (Nat × Nat))) (p q : Nat) (t : Option (Nat × Nat)), nuOf base ys ts p q = .alive t →
    (∃ (i : Nat) (y : AV), ys[i]? = some y ∧ rowName y = some (p, q) ∧ ts[i]? = some t) ∨ ((∀ (i : Nat) (y : AV) (t' : Option (Nat × Nat)), ys[i]? = some y → ts[i]? = some t' → rowName y ≠ some (p, q)) ∧ base p q = .alive t)
  | [], ts, p, q, t, h => .inr ⟨by simp, by simpa [nuOf] using h⟩
  | y :: ys, [], p, q, t, h => .inr ⟨by simp, by simpa [nuOf] using h⟩
  | y :: ys, t0 :: ts, p, q, t, h => by
    simp only [nuOf] at h
    split at h
    · rename_i hr
      simp at h; subst h
      exact .inl ⟨0, y, rfl, hr, rfl⟩
    · rename_i hr
      rcases nuOf_alive ys ts p q t h with ⟨i, y', h1, h2, h3⟩ | ⟨h1, h2⟩
      · exact .inl ⟨i + 1, y', by simpa using h1, h2, by simpa using h3⟩
      · refine .inr ⟨fun i y' t' hy ht => ?_, h2⟩
        cases i with
        | zero => simp at hy; subst hy; exact hr
        | succ i => exact h1 i y' t' (by simpa using hy) (by simpa using ht)
end
end Ev
