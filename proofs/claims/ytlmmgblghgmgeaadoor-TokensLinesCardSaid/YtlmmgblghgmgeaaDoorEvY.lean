/- A verified evaluator, part Y: how it is computed. -/
import Derived.Test.YtlmmgblghgmgeaaDoorEvX
set_option linter.unusedVariables false
set_option linter.unusedSimpArgs false
namespace Ev
open Go

theorem evOps_bind {R : Type} {P : Program} {C : Oracle} {ro : FuncId → Bool} {D : Option (List Nat)} {N : Nat} {ops : Array Oper} {K : Tmps → Mem → Option R} : ∀ (l : List Oper) (t : Tmps) (m : Mem),
    evOps P C ro D N ops l t m K = (evOps P C ro D N ops l t m fun t m => some (t, m)).bind fun q => K q.1 q.2
  | [], t, m => rfl
  | o :: l, t, m => by
    simp only [evOps]
    cases astep P C ro D N ops o t m with
    | none => rfl
    | some q => exact evOps_bind l q.1 q.2

theorem evCode_bind {P : Program} {E : Env} : ∀ (code : Code) {R : Type} (K : Ex → Tmps → Mem → Option R) (t : Tmps) (m : Mem), evCode P E code t m K = (evCode P E code t m fun e t m => some (e, t, m)).bind fun q => K q.1 q.2.1 q.2.2
  | .skip, R, K, t, m => by simp only [evCode, Option.bind_some]
  | .exit _, R, K, t, m => by simp only [evCode, Option.bind_some]
  | .ret, R, K, t, m => by simp only [evCode, Option.bind_some]
  | .seq a b, R, K, t, m => by
    simp only [evCode]
    refine (evCode_bind a _ t m).trans ?_
    refine .trans ?_ (congrArg (fun z : Option (Ex × Tmps × Mem) => Option.bind z fun q => K q.1 q.2.1 q.2.2) (evCode_bind a _ t m)).symm
    cases evCode P E a t m fun e t m => some (e, t, m) with
    | none => rfl
    | some q =>
      obtain ⟨e, t', m'⟩ := q
      cases e with
      | normal => exact evCode_bind b K t' m'
      | _ => rfl
  | .cond c x y, R, K, t, m => by
    simp only [evCode]
    cases opnd t c with
    | bool b =>
      cases b with
      | true => exact evCode_bind x K t m
      | false => exact evCode_bind y K t m
    | _ => rfl
  | .block id body, R, K, t, m => by
    simp only [evCode]
    refine (evCode_bind body _ t m).trans ?_
    refine .trans ?_ (congrArg (fun z : Option (Ex × Tmps × Mem) => Option.bind z fun q => K q.1 q.2.1 q.2.2) (evCode_bind body _ t m)).symm
    cases evCode P E body t m fun e t m => some (e, t, m) with
    | none => rfl
    | some q =>
      obtain ⟨e, t', m'⟩ := q
      cases e with
      | exit i =>
        simp only [Option.bind_some]
        by_cases h : i = id
        · simp [h]
        · simp [h]
      | _ => rfl
  | .loop body, R, K, t, m => by
    simp only [evCode]
    split <;> rfl
  | .region id ops dr, R, K, t, m => by
    simp only [evCode]
    refine (evOps_bind _ t m).trans ?_
    refine .trans ?_ (congrArg (fun z : Option (Ex × Tmps × Mem) => Option.bind z fun q => K q.1 q.2.1 q.2.2) (evOps_bind _ t m)).symm
    cases evOps P E.C E.ro (if dr then some (dsts ops) else none) E.N ops ops.toList t m fun t m => some (t, m) <;> rfl
  | .scope .., R, K, t, m => by simp [evCode]
  | .rangeFunc .., R, K, t, m => by simp [evCode]
  | .goto .., R, K, t, m => by simp [evCode]
  | .label .., R, K, t, m => by simp [evCode]
  | .refuse .., R, K, t, m => by simp [evCode]

/-- A loop, and what follows. -/
noncomputable def loopK {R : Type} (P : Program) (E : Env) (body : Code) (t : Tmps) (m : Mem) (K : Ex → Tmps → Mem → Option R) : Option R := evCode P E (.loop body) t m K
/-- A loop's round. -/
theorem loopK_round {R : Type} {P : Program} {E : Env} {body : Code} {t : Tmps} {m : Mem} {K : Ex → Tmps → Mem → Option R} {r : R} {S : Tmps × Mem} (hS : clean (E.lv (firstRegion body)) t m = S)
    (h : evCode P E body S.1 S.2 (fun e t m => match e with | .normal => loopK P E body t m K | e => K e t m) = some r) : loopK P E body t m K = some r := by
  subst hS
  rw [evCode_bind] at h
  unfold loopK
  simp only [evCode]
  cases hq : evCode P E body (clean (E.lv (firstRegion body)) t m).1 (clean (E.lv (firstRegion body)) t m).2 (fun e t m => some (e, t, m)) with
  | none => rw [hq] at h; simp at h
  | some q =>
    obtain ⟨e, t', m'⟩ := q
    rw [hq] at h
    simp only [Option.bind_some] at h
    cases e with
    | normal =>
      simp only [loopK, evCode] at h
      split at h
      case h_2 => simp at h
      rename_i e2 t2 m2 h2
      rw [loopL_more (t' := t') (m' := m') hq h2]
      exact h
    | exit i => rw [loopL_out (t' := t') (m' := m') hq (by simp)]; exact h
    | ret => rw [loopL_out (t' := t') (m' := m') hq (by simp)]; exact h

/-- What follows, as constants: so that nobody looks into it ahead of time. -/
noncomputable def seqK {R : Type} (P : Program) (E : Env) (b : Code) (K : Ex → Tmps → Mem → Option R) (e : Ex) (t : Tmps) (m : Mem) : Option R :=
  match e with
  | .normal => evCode P E b t m K
  | e => K e t m
def blockK {R : Type} (id : Nat) (K : Ex → Tmps → Mem → Option R) (e : Ex) (t : Tmps) (m : Mem) : Option R :=
  match e with
  | .exit i => if i = id then K .normal t m else K (.exit i) t m
  | e => K e t m
def regK {R : Type} (K : Ex → Tmps → Mem → Option R) (t : Tmps) (m : Mem) : Option R := K .normal t m
noncomputable def roundK {R : Type} (P : Program) (E : Env) (body : Code) (K : Ex → Tmps → Mem → Option R) (e : Ex) (t : Tmps) (m : Mem) : Option R :=
  match e with
  | .normal => loopK P E body t m K
  | e => K e t m
def finK (P : Program) (rs : List ResultVar) (bs : List (Nat × Box)) (e : Ex) (t : Tmps) (m : Mem) : Option (AV × List (Nat × Box)) :=
  match e with
  | .exit _ => none
  | _ => let q := freezeT t m rs
    match avAll (rs.map (resOf P q.1 q.2)), outBoxes q.2 bs with
    | some rs, some bs =>
      let x := relabB q.2.names boxName (fun _ _ => none) [] bs
      let y := relabL q.2.names (fun c => (999999, c)) (fun _ => none) 0 x.2 rs
      if noPtr y.1 then some ((match y.1 with | [r] => r | rs => .tup rs), x.1) else none
    | _, _ => none

section
variable {R : Type} {P : Program} {E : Env} {K : Ex → Tmps → Mem → Option R} {t : Tmps} {m : Mem}
theorem evFn_start {fn : Func} {c : Code} {rs : List ResultVar} {args : List AV} {bs : List (Nat × Box)} (hb : fn.body = some c) (hr : fn.results.toList = rs) (hbs : bs.all (fun b => decide (b.1 < 500000)) = true) {r : AV × List (Nat × Box)}
    (h : evCode P E c (params args 0) { boxes := ofB bs, names := namesOf (cellsOfB bs) } (finK P rs bs) = some r) : evFn P E fn args bs = some r := by
  unfold evFn
  rw [hb]
  simp only [hbs, if_true]
  rw [← h]
  congr 1
  funext e t m
  subst hr
  cases e <;> rfl
theorem evCode_skip : evCode P E .skip t m K = K .normal t m := by simp only [evCode]
theorem evCode_exit {id : Nat} : evCode P E (.exit id) t m K = K (.exit id) t m := by simp only [evCode]
theorem evCode_ret : evCode P E .ret t m K = K .ret t m := by simp only [evCode]
theorem evCode_seq {a b : Code} : evCode P E (.seq a b) t m K = evCode P E a t m (seqK P E b K) := by rw [evCode]; rfl
theorem evCode_cond {c : Operand} {x y : Code} : evCode P E (.cond c x y) t m K = match opnd t c with | .bool b => bif b then evCode P E x t m K else evCode P E y t m K | _ => none := by rw [evCode]; rfl
theorem evCode_block {id : Nat} {body : Code} : evCode P E (.block id body) t m K = evCode P E body t m (blockK id K) := by rw [evCode]; rfl
theorem evCode_loop {body : Code} : evCode P E (.loop body) t m K = loopK P E body t m K := rfl
theorem evCode_plain {id : Nat} {l : List Oper} : evCode P E (.region id l.toArray false) t m K = evOps P E.C E.ro none E.N l.toArray l t m (regK K) := by simp only [evCode]; simp; rfl
theorem evCode_draw {id : Nat} {l : List Oper} : evCode P E (.region id l.toArray true) t m K = evOps P E.C E.ro (some (dsts l.toArray)) E.N l.toArray l t m (regK K) := by simp only [evCode]; simp; rfl
theorem seqK_normal {b : Code} : seqK P E b K .normal t m = evCode P E b t m K := rfl
theorem seqK_exit {b : Code} {i : Nat} : seqK P E b K (.exit i) t m = K (.exit i) t m := rfl
theorem seqK_ret {b : Code} : seqK P E b K .ret t m = K .ret t m := rfl
theorem blockK_normal {id : Nat} : blockK id K .normal t m = K .normal t m := rfl
theorem blockK_exit {id i : Nat} : blockK id K (.exit i) t m = if i = id then K .normal t m else K (.exit i) t m := rfl
theorem blockK_ret {id : Nat} : blockK id K .ret t m = K .ret t m := rfl
theorem roundK_normal {b : Code} : roundK P E b K .normal t m = loopK P E b t m K := rfl
theorem roundK_exit {b : Code} {i : Nat} : roundK P E b K (.exit i) t m = K (.exit i) t m := rfl
theorem roundK_ret {b : Code} : roundK P E b K .ret t m = K .ret t m := rfl
theorem regK_eq : regK K t m = K .normal t m := rfl
theorem evOps_nil {C : Oracle} {ro : FuncId → Bool} {D : Option (List Nat)} {N : Nat} {all : Array Oper} {K : Tmps → Mem → Option R} : evOps P C ro D N all [] t m K = K t m := rfl
theorem evOps_cons {C : Oracle} {ro : FuncId → Bool} {D : Option (List Nat)} {N : Nat} {all : Array Oper} {o : Oper} {l : List Oper} {K : Tmps → Mem → Option R} : evOps P C ro D N all (o :: l) t m K = match astep P C ro D N all o t m with
    | some (t', m') => evOps P C ro D N all l t' m' K
    | none => none := rfl
/-- A loop's round, to be used where the frame at its head is known. -/
theorem round_of {body : Code} {r : R} {S : Tmps × Mem} (hS : clean (E.lv (firstRegion body)) t m = S)
    (h : evCode P E body S.1 S.2 (roundK P E body K) = some r) : loopK P E body t m K = some r := by
  refine loopK_round hS ?_
  rw [← h]
  congr 1
/-- A loop, by what holds at its head. -/
theorem loop_by {body : Code} {r : R} {α : Type} (size : α → Nat) (Inv : α → Tmps → Mem → Prop)
    (h : ∀ (a : α) (t : Tmps) (m : Mem), Inv a t m → (∀ (a' : α) (t' : Tmps) (m' : Mem), size a' < size a → Inv a' t' m' → loopK P E body t' m' K = some r) → loopK P E body t m K = some r) (a : α) (h0 : Inv a t m) : loopK P E body t m K = some r := by
  suffices ∀ n (a : α) (t : Tmps) (m : Mem), size a < n → Inv a t m → loopK P E body t m K = some r from this (size a + 1) a t m (Nat.lt_succ_self _) h0
  intro n
  induction n with
  | zero => intro a t m hn; omega
  | succ n ih => intro a t m hn hi; exact h a t m hi fun a' t' m' hs hi' => ih a' t' m' (by omega) hi'
end
theorem addNames_plain {names : Nat → Nat → Option Bool} {v : AV} (h : rowName v = none) : addNames names [v] = names := by
  funext a b; simp [addNames, h]
theorem adopt_bool {d : Nat} {m : Mem} {b : Bool} : adopt d [] m (.bool b) = some (.bool b, m) := by
  simp [adopt, resParts, relabL, relab1, noPtr, freshAll, rowName, resBack, addNames_plain (v := .bool b) rfl]
theorem adopt_int {d : Nat} {m : Mem} {k : IntKind} {n : Int} : adopt d [] m (.int k n) = some (.int k n, m) := by
  simp [adopt, resParts, relabL, relab1, noPtr, freshAll, rowName, resBack, addNames_plain (v := .int k n) rfl]
theorem adopt_str {d : Nat} {m : Mem} {s : Str} : adopt d [] m (.str s) = some (.str s, m) := by
  simp [adopt, resParts, relabL, relab1, noPtr, freshAll, rowName, resBack, addNames_plain (v := .str s) rfl]
theorem adopt_agg {d : Nat} {m : Mem} {cs : List AV} : adopt d [] m (.agg cs) = some (.agg cs, m) := by
  simp [adopt, resParts, relabL, relab1, noPtr, freshAll, rowName, resBack, addNames_plain (v := .agg cs) rfl]
theorem adopt_clip {d : Nat} {m : Mem} {z : Nat} {els : List (List AV)} : adopt d [] m (.sl z els .clip) = some (.sl z els .clip, m) := by
  simp [adopt, resParts, relabL, relab1, noPtr, freshAll, rowName, resBack, addNames_plain (v := .sl z els .clip) rfl]
theorem wrap_i64 {n : Int} (h1 : -9223372036854775808 ≤ n) (h2 : n < 9223372036854775808) : IntKind.i64.wrap n = n := by
  unfold IntKind.wrap
  simp [IntKind.bits, IntKind.signed]
  omega
theorem wrap_u8 {n : Int} (h1 : 0 ≤ n) (h2 : n < 256) : IntKind.u8.wrap n = n := by
  unfold IntKind.wrap
  simp [IntKind.bits, IntKind.signed]
  omega
theorem upd_false (i : Nat) : upd (fun _ : Nat => false) i false = fun _ => false := by
  funext j; simp
theorem byte_lt (b : UInt8) : b.toNat < 256 := b.toNat_lt
/-- A call of a function with code, evaluated. -/
theorem evc_start (p : Plan) {P : Program} {ro : FuncId → Bool} {f : FuncId} {fn : Func} {lv : Nat → Keep} {c : Code} {rs : List ResultVar} {N : Nat} {args : List AV} {bs : List (Nat × Box)} (hP : p.P = P) (hro : p.ro = ro) (hf : p.fn f = some (fn, lv))
    (hb : fn.body = some c) (hr : fn.results.toList = rs) (hN : fn.ntmps = N) (hnd : (bs.map (·.1)).Nodup) (hbs : bs.all (fun b => decide (b.1 < 500000)) = true) {r : AV × List (Nat × Box)}
    (h : evCode P ⟨evc p, ro, lv, N⟩ c (params args 0) { boxes := ofB bs, names := namesOf (cellsOfB bs) } (finK P rs bs) = some r) : evc p f args bs = some r := by
  refine evc_fn p hf hnd ?_
  subst hP; subst hro; subst hN
  exact evFn_start hb hr hbs h
/-- A frame at a loop's head: its slots, its boxes. -/
def headS (sl : List (Nat × AV)) (bs : List (Nat × Box)) : Tmps × Mem := (ofL .undef sl, { boxes := ofB bs, names := namesOf (cellsOfB bs ++ sl.map (·.2)) })
end Ev
