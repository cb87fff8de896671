/- A verified evaluator, part R: statements whose order is open: what an operation's effect on the memory is. -/
import Derived.Test.YtlmmgblghgmgeaaDoorEvS
set_option linter.unusedVariables false
set_option linter.unusedSimpArgs false
namespace Ev
open Go

/-- An operation that comes last (or first) among all. -/
def barrier : Op → Bool
  | .store .. => true
  | _ => false
/-- An operation that neither reads nor writes the memory. -/
def light : Op → Bool
  | .move _ | .assign _ => true
  | _ => false
def edgeTo (o : Oper) (j : Nat) : Bool := o.after.any fun e => Region.binds .any e && e.on == j
def edgesBack (o : Oper) (i : Nat) : Bool := o.after.all fun e => !Region.binds .any e || decide (e.on < i)
/-- Does the i-th wait for the j-th, through others too? -/
def reach (ops : Array Oper) : Nat → Nat → Nat → Bool
  | 0, _, _ => false
  | n + 1, i, j => match ops[i]? with
    | some o => edgeTo o j || o.after.any fun e => Region.binds .any e && reach ops n e.on j
    | none => false
def pairOk (ops : Array Oper) (i j : Nat) : Bool :=
  match ops[j]?, ops[i]? with
  | some oj, some oi => reach ops 5 i j || (oj.apart ops oi && (light oj.op || light oi.op || !barrier oj.op && !barrier oi.op && oj.dst.isSome && oi.dst.isSome))
  | _, _ => true
/-- Operations that are in no order do not meet; all stand behind what they wait for. -/
def drawOk (ops : Array Oper) : Bool :=
  (List.range ops.size).all fun i => (match ops[i]? with | some o => edgesBack o i | none => true) && (List.range i).all fun j => pairOk ops i j

def codeOk : Code → Bool
  | .seq a b => codeOk a && codeOk b
  | .cond _ a b => codeOk a && codeOk b
  | .block _ a => codeOk a
  | .loop a => codeOk a
  | .region _ ops d => !d || drawOk ops
  | _ => true

structure Eff where
  box : Option Box := none
  frz : List Nat := []
  kill : Option (Nat × Nat) := none
  add : List AV := []
def Eff.app (e : Eff) (d : Nat) (m : Mem) : Mem where
  boxes := match e.box with | some b => upd m.boxes (d + 500000) (some b) | none => m.boxes
  names := addNames (fun p q => if e.kill = some (p, q) then some false else m.names p q) e.add
  froz := fun i => if i ∈ e.frz then true else if e.box.isSome = true ∧ i = d + 500000 then false else m.froz i
structure Eff.ok (e : Eff) (Dl : List Nat) (d : Nat) (m : Mem) : Prop where
  box : e.box.isSome = true → m.boxes (d + 500000) = none
  kill : ∀ p q, e.kill = some (p, q) → m.names p q = some true ∧ p ∉ Dl
  fresh : ∀ y ∈ e.add, ∀ p q, rowName y = some (p, q) → m.names p q = none
  own : ∀ y ∈ e.add, ∀ p q, rowName y = some (p, q) → p = d
  frz : ∀ id ∈ e.frz, id ∉ Dl.map (· + 500000)
theorem Eff.app_empty (d : Nat) (m : Mem) : Eff.app {} d m = m := by
  simp only [Eff.app]
  cases m with
  | mk b n f =>
    simp only [Mem.mk.injEq, true_and]
    refine ⟨?_, ?_⟩
    · funext p q; simp [addNames]
    · funext i; simp
theorem Eff.ok_empty (Dl : List Nat) (d : Nat) (m : Mem) : Eff.ok {} Dl d m := ⟨by simp, by simp, by simp, by simp, by simp⟩

section
variable {P : Program} {m m' : Mem} {t : Tmps} {C : Oracle} {ro : FuncId → Bool} {Dl : List Nat} {d : Nat} {x : AV} {ρ ρ' : Operand → AV}

/-- What an operation gives, and its effect; the same in any memory with the same old boxes in which the effect may be had. -/
def HasEff (P : Program) (C : Oracle) (ro : FuncId → Bool) (Dl : List Nat) (o : Op) (d : Nat) (ρ : Operand → AV) (m : Mem) (x : AV) (m' : Mem) : Prop :=
  ∃ e : Eff, e.ok Dl d m ∧ m' = e.app d m ∧ ∀ m2 : Mem, (∀ id, id ∉ Dl.map (· + 500000) → m2.boxes id = m.boxes id) → e.ok Dl d m2 → aop P C ro (some Dl) o d ρ m2 = some (x, e.app d m2)

theorem HasEff.quiet {o : Op} (h : ∀ m2 : Mem, (∀ id, id ∉ Dl.map (· + 500000) → m2.boxes id = m.boxes id) → aop P C ro (some Dl) o d ρ m2 = some (x, m2)) : HasEff P C ro Dl o d ρ m x m :=
  ⟨{}, Eff.ok_empty _ _ _, (Eff.app_empty d m).symm, fun m2 hb _ => by rw [Eff.app_empty]; exact h m2 hb⟩

theorem mayRead_some {id : Nat} (h : mayRead (some Dl) id = true) : id ∉ Dl.map (· + 500000) := by
  simp only [mayRead] at h
  simpa using h

theorem viewed_congr {b b2 : Nat → Option Box} : ∀ (args : List AV), (∀ id ∈ capIds args, b2 id = b id) → viewed b2 args = viewed b args
  | [], _ => rfl
  | x :: r, h => by
    by_cases hx : ∃ id off, x = .ptr id off
    · obtain ⟨id, off, rfl⟩ := hx
      simp only [viewed]
      rw [h id (by simp [capIds]), viewed_congr r (fun i hi => h i (by simp [capIds, hi]))]
    · have hc : ∀ b : Nat → Option Box, viewed b (x :: r) = (viewed b r).map (x.bare :: ·) := fun b => by
        cases x <;> first | rfl | exact absurd ⟨_, _, rfl⟩ hx
      have hi : capIds (x :: r) = capIds r := by
        cases x <;> first | rfl | exact absurd ⟨_, _, rfl⟩ hx
      rw [hc, hc, viewed_congr r (fun i h' => h i (by rw [hi]; exact h'))]

theorem capture_congr : ∀ (xs : List AV) (rs : List AV) (m m' m2 : Mem), capture (some Dl) m xs = some (rs, m') → (∀ id, id ∉ Dl.map (· + 500000) → m2.boxes id = m.boxes id) →
    (∀ id ∈ capIds xs, id ∉ Dl.map (· + 500000)) ∧ capture (some Dl) m2 xs = some (rs, { m2 with froz := fun i => if i ∈ capIds xs then true else m2.froz i })
  | [], rs, m, m', m2, h, hb => by
    simp [capture] at h
    obtain ⟨rfl, rfl⟩ := h
    exact ⟨by simp [capIds], by simp [capture, capIds]⟩
  | x :: r, rs, m, m', m2, h, hb => by
    by_cases hx : ∃ id off, x = .ptr id off
    · obtain ⟨id, off, rfl⟩ := hx
      simp only [capture] at h ⊢
      split at h
      case isFalse => simp at h
      rename_i hm
      have hid := mayRead_some hm
      cases hbx : m.boxes id with
      | none => simp [hbx] at h
      | some b =>
        cases hr : capture (some Dl) m r with
        | none => simp [hbx, hr] at h
        | some q =>
          obtain ⟨vs, m1⟩ := q
          simp only [hbx, hr, Option.some.injEq, Prod.mk.injEq] at h
          obtain ⟨rfl, rfl⟩ := h
          obtain ⟨h1, h2⟩ := capture_congr r vs m m1 m2 hr hb
          refine ⟨fun i hi => ?_, ?_⟩
          · simp only [capIds, List.mem_cons] at hi
            rcases hi with rfl | hi
            · exact hid
            · exact h1 i hi
          · rw [if_pos hm, hb id hid, hbx, h2]
            simp only [Option.some.injEq, Prod.mk.injEq, true_and, Mem.mk.injEq]
            funext i
            by_cases hi : i = id <;> simp [hi, capIds]
    · have hc : ∀ m : Mem, capture (some Dl) m (x :: r) = match capture (some Dl) m r with
          | some (vs, m') => some (x.bare :: vs, m')
          | none => none := fun m => by
        cases x <;> first | rfl | exact absurd ⟨_, _, rfl⟩ hx
      have hi : capIds (x :: r) = capIds r := by
        cases x <;> first | rfl | exact absurd ⟨_, _, rfl⟩ hx
      rw [hc] at h ⊢
      rw [hi]
      cases hr : capture (some Dl) m r with
      | none => simp [hr] at h
      | some q =>
        obtain ⟨vs, m1⟩ := q
        simp only [hr, Option.some.injEq, Prod.mk.injEq] at h
        obtain ⟨rfl, rfl⟩ := h
        obtain ⟨h1, h2⟩ := capture_congr r vs m m1 m2 hr hb
        exact ⟨h1, by rw [h2]⟩

theorem relabL_names {names : Nat → Nat → Option Bool} {nm : Nat → Nat × Nat} : ∀ (xs : List AV) (j : Nat) (used : List (Nat × Nat)), ∀ y ∈ (relabL names nm (fun _ => none) j used xs).1, ∀ n, rowName y = some n → ∃ k, n = nm k
  | [], j, used, y, hy => by simp [relabL] at hy
  | x :: xs, j, used, y, hy => by
    simp only [relabL, List.mem_cons] at hy
    rcases hy with rfl | hy
    · intro n hn
      cases x with
      | sl s els tok =>
        cases tok with
        | row a b =>
          simp only [relab1] at hn
          split at hn
          · simp [rowName] at hn; exact ⟨j, hn.symm⟩
          · simp [rowName] at hn
        | _ => simp [relab1, rowName] at hn
      | _ => simp [relab1, rowName] at hn
    · exact relabL_names xs (j + 1) _ y hy
theorem freshAll_of {names : Nat → Nat → Option Bool} : ∀ (ys : List AV), (∀ y ∈ ys, ∀ p q, rowName y = some (p, q) → names p q = none) → freshAll names ys = true
  | [], _ => rfl
  | y :: r, h => by
    simp only [freshAll, Bool.and_eq_true]
    refine ⟨?_, freshAll_of r (fun z hz => h z (List.mem_cons_of_mem _ hz))⟩
    cases hr : rowName y with
    | none => rfl
    | some n => obtain ⟨p, q⟩ := n; simp [h y (by simp) p q hr]

theorem adopt_eff {r : AV} (h : adopt d [] m r = some (x, m')) : ∃ vs : List AV, (∀ y ∈ vs, ∀ p q, rowName y = some (p, q) → p = d) ∧ (∀ y ∈ vs, ∀ p q, rowName y = some (p, q) → m.names p q = none) ∧ m' = { m with names := addNames m.names vs } ∧
    ∀ m2 : Mem, (∀ y ∈ vs, ∀ p q, rowName y = some (p, q) → m2.names p q = none) → adopt d [] m2 r = some (x, { m2 with names := addNames m2.names vs }) := by
  simp only [adopt] at h
  split at h
  case isFalse => simp at h
  rename_i hf
  simp only [Option.some.injEq, Prod.mk.injEq] at h
  obtain ⟨rfl, rfl⟩ := h
  refine ⟨_, fun y hy p q hr => ?_, freshAll_spec hf.2, rfl, fun m2 h2 => ?_⟩
  · obtain ⟨k, hk⟩ := relabL_names _ _ _ y hy _ hr
    simp at hk; exact hk.1
  · simp only [adopt]
    rw [if_pos ⟨hf.1, freshAll_of _ h2⟩]

theorem aappend_eff {e : TypeId} {y : AV} {news : List (List AV)} (h : aappend P Dl d e m y news = some (x, m')) : ∃ ef : Eff, ef.ok Dl d m ∧ m' = ef.app d m ∧ ∀ m2 : Mem, ef.ok Dl d m2 → aappend P Dl d e m2 y news = some (x, ef.app d m2) := by
  cases y with
  | sl s els tok =>
    simp only [aappend] at h
    split at h
    case h_2 => simp at h
    rename_i z by_ zv hz hb hzv
    split at h
    case isFalse => simp at h
    rename_i hc
    have key : ∀ (kill : Option (Nat × Nat)), (∀ p q, kill = some (p, q) → m.names p q = some true ∧ p ∉ Dl) → x = .sl z (els ++ news) (.row d 0) → m' = { m with names := upd2 (fun p q => if kill = some (p, q) then some false else m.names p q) d 0 true } →
        Eff.ok { kill := kill, add := [x] } Dl d m ∧ m' = Eff.app { kill := kill, add := [x] } d m := fun kill hk hx hm => by
      subst hx
      refine ⟨⟨by simp, hk, fun y hy p q hr => ?_, fun y hy p q hr => ?_, by simp⟩, ?_⟩
      · simp at hy; subst hy; simp [rowName] at hr; obtain ⟨rfl, rfl⟩ := hr; exact hc.2.2.2.2.2.2
      · simp at hy; subst hy; simp [rowName] at hr; exact hr.1.symm
      · rw [hm]
        simp only [Eff.app, Mem.mk.injEq, true_and]
        refine ⟨?_, by funext i; simp⟩
        funext p q
        simp only [addNames, upd2_apply]
        by_cases hpq : p = d ∧ q = 0
        · rw [if_pos hpq, if_pos (show rowName (.sl z (els ++ news) (.row d 0)) = some (p, q) from by simp [rowName, hpq])]
        · rw [if_neg hpq, if_neg (show ¬ rowName (.sl z (els ++ news) (.row d 0)) = some (p, q) from fun he => hpq (by simp [rowName] at he; exact ⟨he.1.symm, he.2.symm⟩))]
    have again : ∀ (kill : Option (Nat × Nat)) (m2 : Mem), Eff.ok { kill := kill, add := [x] } Dl d m2 → x = .sl z (els ++ news) (.row d 0) → m2.names d 0 = none ∧ ({ m2 with names := upd2 (fun p q => if kill = some (p, q) then some false else m2.names p q) d 0 true } : Mem) = Eff.app { kill := kill, add := [x] } d m2 := fun kill m2 hok hx => by
      subst hx
      refine ⟨hok.fresh (.sl z (els ++ news) (.row d 0)) (by simp) d 0 rfl, ?_⟩
      simp only [Eff.app, Mem.mk.injEq, true_and]
      refine ⟨?_, by funext i; simp⟩
      funext p q
      simp only [addNames, upd2_apply]
      by_cases hpq : p = d ∧ q = 0
      · rw [if_pos hpq, if_pos (show rowName (.sl z (els ++ news) (.row d 0)) = some (p, q) from by simp [rowName, hpq])]
      · rw [if_neg hpq, if_neg (show ¬ rowName (.sl z (els ++ news) (.row d 0)) = some (p, q) from fun he => hpq (by simp [rowName] at he; exact ⟨he.1.symm, he.2.symm⟩))]
    have hnone : ∀ m : Mem, (upd2 (fun p q => if (none : Option (Nat × Nat)) = some (p, q) then some false else m.names p q) d 0 true) = upd2 m.names d 0 true := fun m => by
      funext p q; simp
    cases tok with
    | none => simp at h
    | nil =>
      simp only [Option.some.injEq, Prod.mk.injEq] at h
      obtain ⟨hx, hm⟩ := h
      obtain ⟨k1, k2⟩ := key none (by simp) hx.symm (by rw [hnone]; exact hm.symm)
      refine ⟨_, k1, k2, fun m2 h2 => ?_⟩
      obtain ⟨q1, q2⟩ := again none m2 h2 hx.symm
      simp only [aappend, hz, hb, hzv]
      rw [if_pos ⟨hc.1, hc.2.1, hc.2.2.1, hc.2.2.2.1, hc.2.2.2.2.1, (by first | exact hc.2.2.2.2.2.1 | simpa using hc.2.2.2.2.2.1), q1⟩, ← q2, hnone, hx]
    | clip =>
      simp only [Option.some.injEq, Prod.mk.injEq] at h
      obtain ⟨hx, hm⟩ := h
      obtain ⟨k1, k2⟩ := key none (by simp) hx.symm (by rw [hnone]; exact hm.symm)
      refine ⟨_, k1, k2, fun m2 h2 => ?_⟩
      obtain ⟨q1, q2⟩ := again none m2 h2 hx.symm
      simp only [aappend, hz, hb, hzv]
      rw [if_pos ⟨hc.1, hc.2.1, hc.2.2.1, hc.2.2.2.1, hc.2.2.2.2.1, (by first | exact hc.2.2.2.2.2.1 | simpa using hc.2.2.2.2.2.1), q1⟩, ← q2, hnone, hx]
    | row p q =>
      simp only [Option.ite_none_right_eq_some, Option.some.injEq, Prod.mk.injEq] at h
      obtain ⟨hn, hx, hm⟩ := h
      have hu : ∀ m : Mem, (upd2 (fun p' q' => if (some (p, q) : Option (Nat × Nat)) = some (p', q') then some false else m.names p' q') d 0 true) = upd2 (upd2 m.names p q false) d 0 true := fun m => by
        funext p' q'
        simp only [upd2_apply, Option.some.injEq, Prod.mk.injEq]
        by_cases h1 : p' = d ∧ q' = 0
        · simp [h1]
        · rw [if_neg h1, if_neg h1]
          by_cases h2 : p' = p ∧ q' = q
          · simp [h2]
          · rw [if_neg h2, if_neg (fun he => h2 ⟨he.1.symm, he.2.symm⟩)]
      obtain ⟨k1, k2⟩ := key (some (p, q)) (fun p' q' he => by simp at he; obtain ⟨rfl, rfl⟩ := he; exact hn) hx.symm (by rw [hu]; exact hm.symm)
      refine ⟨_, k1, k2, fun m2 h2 => ?_⟩
      obtain ⟨q1, q2⟩ := again (some (p, q)) m2 h2 hx.symm
      have hk := h2.kill p q rfl
      simp only [aappend, hz, hb, hzv]
      rw [if_pos ⟨hc.1, hc.2.1, hc.2.2.1, hc.2.2.2.1, hc.2.2.2.2.1, (by first | exact hc.2.2.2.2.2.1 | simpa using hc.2.2.2.2.2.1), q1⟩, if_pos hk, ← q2, hu, hx]
  | _ => simp [aappend] at h

theorem opnds_congr {xs : Array Operand} (h : ∀ y ∈ xs, ρ y = ρ' y) : xs.toList.map ρ = xs.toList.map ρ' := List.map_congr_left fun y hy => h y (by simpa using hy)

/-- An operation asks of its operands alone. -/
theorem aop_congr {D : Option (List Nat)} {o : Op} (h : ∀ y ∈ o.operands, ρ y = ρ' y) : aop P C ro D o d ρ m = aop P C ro D o d ρ' m := by
  have pairs : ∀ ps : Array (Nat × Operand), (∀ x ∈ (ps.toList.map (·.2)).toArray, ρ x = ρ' x) → ∀ p ∈ ps.toList, ρ p.2 = ρ' p.2 := fun ps hp p hm => hp p.2 (by simp; exact ⟨p.1, by simpa using hm⟩)
  cases o with
  | build ty ps =>
    have h1 := pairs ps (by simpa [Op.operands] using h)
    simp only [aop]
    have e1 : (ps.toList.all fun p => (ρ p.2).isVal) = ps.toList.all fun p => (ρ' p.2).isVal := by
      rw [Bool.eq_iff_iff, List.all_eq_true, List.all_eq_true]
      exact ⟨fun q p hp => by rw [← h1 p hp]; exact q p hp, fun q p hp => by rw [h1 p hp]; exact q p hp⟩
    have e2 : (ps.toList.map fun p => (p.1, ρ p.2)) = ps.toList.map fun p => (p.1, ρ' p.2) := List.map_congr_left fun p hp => by rw [h1 p hp]
    rw [e1, e2]
  | buildSlice ty n ps =>
    have h1 := pairs ps (by simpa [Op.operands] using h)
    simp only [aop]
    have e1 : ∀ n : Nat, (ps.toList.all fun p => (ρ p.2).isVal && (ρ p.2).cells.length == n) = ps.toList.all fun p => (ρ' p.2).isVal && (ρ' p.2).cells.length == n := fun n => by
      rw [Bool.eq_iff_iff, List.all_eq_true, List.all_eq_true]
      exact ⟨fun q p hp => by rw [← h1 p hp]; exact q p hp, fun q p hp => by rw [h1 p hp]; exact q p hp⟩
    have e2 : (ps.toList.map fun p => (ρ p.2).cells) = ps.toList.map fun p => (ρ' p.2).cells := List.map_congr_left fun p hp => by rw [h1 p hp]
    simp only [e1, e2]
  | makeFunc fn fs caps =>
    have e : caps.toList.map ρ = caps.toList.map ρ' := opnds_congr fun y hy => h y (by simp [Op.operands, hy])
    cases fn <;> simp only [aop] <;> rw [e]
  | call cl =>
    obtain ⟨callee, args, tys⟩ := cl
    have e : args.toList.map ρ = args.toList.map ρ' := opnds_congr fun y hy => h y (by simp [Op.operands, Call.operands, hy])
    cases callee with
    | value f =>
      have ef : ρ f = ρ' f := h f (by simp [Op.operands, Call.operands])
      simp only [aop, e, ef]
    | invoke r n => simp only [aop]
    | builtin b => cases b <;> simp only [aop, e]
  | slice ty x lo hi mx =>
    have e1 : ρ x = ρ' x := h x (by simp [Op.operands])
    have e2 : lo.map ρ = lo.map ρ' := by cases lo <;> simp; exact h _ (by simp [Op.operands])
    have e3 : hi.map ρ = hi.map ρ' := by cases hi <;> simp; exact h _ (by simp [Op.operands])
    cases mx <;> simp only [aop, e1, e2, e3]
  | _ => simp only [Op.operands] at h; simp only [aop] <;> simp_all
end
end Ev
