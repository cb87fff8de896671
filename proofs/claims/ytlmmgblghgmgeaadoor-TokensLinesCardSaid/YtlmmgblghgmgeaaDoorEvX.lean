/- A verified evaluator, part X: all functions of a plan together. -/
import Derived.Test.YtlmmgblghgmgeaaDoorEvW
set_option linter.unusedVariables false
set_option linter.unusedSimpArgs false
namespace Ev
open Go

/-- Which functions are evaluated by their code, which are read-only, what is known of others. -/
structure Plan where
  P : Program
  fn : FuncId → Option (Func × (Nat → Keep))
  ro : FuncId → Bool
  ext : Oracle

noncomputable def stepO (p : Plan) (C : Oracle) : Oracle := fun f args bs =>
  match p.fn f with
  | some (fn, lv) => if (bs.map (·.1)).Nodup then evFn p.P ⟨C, p.ro, lv, fn.ntmps⟩ fn args bs else none
  | none => p.ext f args bs
noncomputable def evk (p : Plan) : Nat → Oracle
  | 0 => fun _ _ _ => none
  | k + 1 => stepO p (evk p k)
/-- What a call comes to. -/
noncomputable def evc (p : Plan) : Oracle := fun f args bs => lim fun k => evk p k f args bs

structure Plan.Ok (p : Plan) : Prop where
  mixed : p.P.follows .mixedOrders = true
  fn : ∀ f fn lv, p.fn f = some (fn, lv) → p.P.funcs[f]? = some fn ∧ (∀ code, fn.body = some code → codeOk code = true) ∧ ∀ (vs : Array Value) (w : World), (callFunc f vs).run p.P w = .ok (.enter f vs) w
  ext : Sound p.P p.ext

theorem lim_eq {α : Type} {g : Nat → Option α} {r : α} (hm : ∀ k r, g k = some r → g (k + 1) = some r) {k : Nat} (h : g k = some r) : lim g = some r := by
  have mono : ∀ n k r, g k = some r → g (k + n) = some r := fun n => by
    induction n with
    | zero => intro k r h; exact h
    | succ n ih => intro k r h; exact hm _ _ (ih k r h)
  unfold lim
  have hx : ∃ k r, g k = some r := ⟨k, r, h⟩
  rw [dif_pos hx]
  have := Classical.choose_spec (Classical.choose_spec hx)
  have h1 := mono k _ _ this
  have h2 := mono (Classical.choose hx) _ _ h
  rw [Nat.add_comm] at h1
  rw [h1] at h2
  exact h2

theorem evk_sound {p : Plan} (hp : p.Ok) : ∀ k, Sound p.P (evk p k)
  | 0 => fun f args bs r bs' h => by simp [evk] at h
  | k + 1 => fun f args bs r bs' h => by
    simp only [evk, stepO] at h
    split at h
    · rename_i fn lv hf
      split at h
      case isFalse => simp at h
      rename_i hnd
      obtain ⟨h1, h2, h3⟩ := hp.fn f fn lv hf
      cases hb : fn.body with
      | none => unfold evFn at h; rw [hb] at h; simp at h
      | some code => exact fn_sound (drawSound hp.mixed) hp.mixed (E := ⟨evk p k, p.ro, lv, fn.ntmps⟩) (evk_sound hp k) h1 hb (Nat.le_refl _) (h2 code hb) h3 hnd h
    · exact hp.ext _ _ _ _ _ h
theorem evc_sound {p : Plan} (hp : p.Ok) : Sound p.P (evc p) := fun f args bs r bs' h => by
  obtain ⟨k, hk⟩ := lim_some h
  exact evk_sound hp k _ _ _ _ _ hk

section
variable {P : Program} {Cs : Nat → Oracle} {C : Oracle} {ro : FuncId → Bool} {D : Option (List Nat)} {d : Nat} {m m' : Mem} {x : AV} {ρ : Operand → AV}

/-- A row of oracles that comes to one. -/
def Tends (Cs : Nat → Oracle) (C : Oracle) : Prop := ∀ f args bs r, C f args bs = some r → ∃ k0, ∀ k, k0 ≤ k → Cs k f args bs = some r
/-- From some place on. -/
def Late {α : Type} (g : Nat → Option α) (r : α) : Prop := ∃ k0, ∀ k, k0 ≤ k → g k = some r

theorem Late.const {α : Type} {o : Option α} {r : α} (h : o = some r) : Late (fun _ => o) r := ⟨0, fun _ _ => h⟩
theorem Late.bind {α β : Type} {g : Nat → Option α} {a : α} {f : Nat → α → Option β} {b : β} (h : Late g a) (k : Late (fun n => f n a) b) : Late (fun n => (g n).bind (f n)) b := by
  obtain ⟨k1, h1⟩ := h
  obtain ⟨k2, h2⟩ := k
  exact ⟨max k1 k2, fun n hn => by show (g n).bind (f n) = _; rw [h1 n (by omega)]; exact h2 n (by omega)⟩
theorem Late.congr {α : Type} {g g' : Nat → Option α} {r : α} (h : Late g r) (e : ∀ n, g' n = g n) : Late g' r := by
  obtain ⟨k, h⟩ := h
  exact ⟨k, fun n hn => by rw [e]; exact h n hn⟩

theorem acall_late (hC : Tends Cs C) {f : FuncId} {args : List AV} {q : AV × Mem} (h : acall C ro D d f args m = some q) : Late (fun k => acall (Cs k) ro D d f args m) q := by
  unfold acall at h
  split at h
  · rename_i hn
    split at h
    case h_2 => simp at h
    rename_i r hr
    obtain ⟨k0, hk⟩ := hC _ _ _ _ hr
    refine ⟨k0, fun k hk0 => ?_⟩
    show acall (Cs k) ro D d f args m = _
    unfold acall
    rw [if_pos hn, hk k hk0]
    exact h
  · rename_i hn
    split at h
    · rename_i hro
      split at h
      case isFalse => simp at h
      rename_i hall
      split at h
      case h_2 => simp at h
      rename_i vs hv
      split at h
      case h_2 => simp at h
      rename_i r hr
      obtain ⟨k0, hk⟩ := hC _ _ _ _ hr
      refine ⟨k0, fun k hk0 => ?_⟩
      show acall (Cs k) ro D d f args m = _
      unfold acall
      rw [if_neg hn, if_pos hro, if_pos hall, hv]
      simp only
      have e1 := hk k hk0
      try dsimp only at e1
      rw [e1]
      exact h
    · rename_i hro
      split at h
      · simp at h
      rename_i hD
      split at h
      case h_2 => simp at h
      rename_i vs ids bs hp
      split at h
      case h_2 => simp at h
      rename_i r bs' hr
      obtain ⟨k0, hk⟩ := hC _ _ _ _ hr
      refine ⟨k0, fun k hk0 => ?_⟩
      show acall (Cs k) ro D d f args m = _
      unfold acall
      rw [if_neg hn, if_neg hro, if_neg hD, hp]
      simp only
      have e1 := hk k hk0
      try dsimp only at e1
      rw [e1]
      exact h

theorem aop_late (hC : Tends Cs C) {o : Op} {q : AV × Mem} (h : aop P C ro D o d ρ m = some q) : Late (fun k => aop P (Cs k) ro D o d ρ m) q := by
  by_cases hc : ∃ f args tys, o = .call ⟨.value f, args, tys⟩
  · obtain ⟨f, args, tys, rfl⟩ := hc
    simp only [aop] at h ⊢
    split at h
    case h_2 => simp at h
    rename_i g caps hf
    exact acall_late hC h
  · refine ⟨0, fun k _ => ?_⟩
    rw [← h]
    cases o with
    | call cl =>
      obtain ⟨callee, args, tys⟩ := cl
      cases callee with
      | value f => exact absurd ⟨f, args, tys, rfl⟩ hc
      | invoke r n => rfl
      | builtin b => cases b <;> rfl
    | makeFunc fn fs caps => cases fn <;> rfl
    | slice ty y lo hi mx => cases mx <;> rfl
    | _ => rfl

theorem astep_late (hC : Tends Cs C) {N : Nat} {ops : Array Oper} {o : Oper} {t : Tmps} {q : Tmps × Mem} (h : astep P C ro D N ops o t m = some q) : Late (fun k => astep P (Cs k) ro D N ops o t m) q := by
  unfold astep at h
  split at h
  case isFalse => simp at h
  rename_i hd
  split at h
  · rename_i hw
    split at h
    case h_2 => simp at h
    rename_i v m1 hx
    obtain ⟨k0, hk⟩ := aop_late hC hx
    refine ⟨k0, fun k hk0 => ?_⟩
    show astep P (Cs k) ro D N ops o t m = _
    unfold astep
    rw [if_pos hd, hw]
    simp only
    have e1 := hk k hk0
    try dsimp only at e1
    rw [e1]
    exact h
  · rename_i hw
    refine ⟨0, fun k _ => ?_⟩
    show astep P (Cs k) ro D N ops o t m = _
    unfold astep
    rw [if_pos hd, hw]
    exact h
  · simp at h

theorem evOps_late {R : Type} (hC : Tends Cs C) {N : Nat} {ops : Array Oper} {K : Tmps → Mem → Option R} {Ks : Nat → Tmps → Mem → Option R} {r : R} (hK : ∀ t m, K t m = some r → Late (fun k => Ks k t m) r) :
    ∀ (l : List Oper) (t : Tmps) (m : Mem), evOps P C ro D N ops l t m K = some r → Late (fun k => evOps P (Cs k) ro D N ops l t m (Ks k)) r
  | [], t, m, h => hK t m h
  | o :: l, t, m, h => by
    simp only [evOps] at h
    split at h
    case h_2 => simp at h
    rename_i t1 m1 h1
    obtain ⟨k1, hk1⟩ := astep_late hC h1
    obtain ⟨k2, hk2⟩ := evOps_late hC hK l t1 m1 h
    refine ⟨max k1 k2, fun k hk => ?_⟩
    simp only [evOps]
    have e1 := hk1 k (by omega)
    try dsimp only at e1
    rw [e1]
    exact hk2 k (by omega)

theorem iter_late {step : Step} {ss : Nat → Step} {r : Ex × Tmps × Mem} (hs : ∀ t m q, step t m = some q → Late (fun k => ss k t m) q) : ∀ (n : Nat) (t : Tmps) (m : Mem), iter step n t m = some r → Late (fun k => iter (ss k) n t m) r
  | 0, t, m, h => by simp [iter] at h
  | n + 1, t, m, h => by
    simp only [iter] at h
    split at h
    · rename_i t1 m1 h1
      obtain ⟨k1, hk1⟩ := hs t m _ h1
      obtain ⟨k2, hk2⟩ := iter_late hs n t1 m1 h
      refine ⟨max k1 k2, fun k hk => ?_⟩
      simp only [iter]
      have e1 := hk1 k (by omega)
      try dsimp only at e1
      rw [e1]
      exact hk2 k (by omega)
    · rename_i q hq h1
      simp only [Option.some.injEq] at h
      subst h
      obtain ⟨k1, hk1⟩ := hs t m _ h1
      refine ⟨k1, fun k hk => ?_⟩
      simp only [iter]
      have e1 := hk1 k hk
      try dsimp only at e1
      rw [e1]
      obtain ⟨e, t', m'⟩ := q
      cases e with
      | normal => exact absurd rfl (hq t' m')
      | _ => rfl
    · simp at h

theorem iter_mono {step : Step} {r : Ex × Tmps × Mem} : ∀ (n : Nat) (t : Tmps) (m : Mem), iter step n t m = some r → iter step (n + 1) t m = some r
  | 0, t, m, h => by simp [iter] at h
  | n + 1, t, m, h => by
    rw [iter] at h ⊢
    cases h1 : step t m with
    | none => rw [h1] at h; simp at h
    | some q =>
      obtain ⟨e, t', m'⟩ := q
      rw [h1] at h
      cases e with
      | normal => exact iter_mono n t' m' h
      | _ => exact h

theorem loopL_late {step : Step} {ss : Nat → Step} {r : Ex × Tmps × Mem} {t : Tmps} (hs : ∀ t m q, step t m = some q → Late (fun k => ss k t m) q) (h : loopL step t m = some r) : Late (fun k => loopL (ss k) t m) r := by
  obtain ⟨n, hn⟩ := lim_some h
  obtain ⟨k0, hk⟩ := iter_late hs n t m hn
  exact ⟨k0, fun k hk0 => lim_eq (fun j r hj => iter_mono j t m hj) (hk k hk0)⟩

theorem evCode_late (hC : Tends Cs C) (lv : Nat → Keep) (N : Nat) : ∀ (code : Code) {R : Type} {K : Ex → Tmps → Mem → Option R} {Ks : Nat → Ex → Tmps → Mem → Option R} {r : R} (hK : ∀ e t m, K e t m = some r → Late (fun k => Ks k e t m) r) (t : Tmps) (m : Mem),
    evCode P ⟨C, ro, lv, N⟩ code t m K = some r → Late (fun k => evCode P ⟨Cs k, ro, lv, N⟩ code t m (Ks k)) r
  | .skip, R, K, Ks, r, hK, t, m, h => by simp only [evCode] at h ⊢; exact hK _ _ _ h
  | .exit id, R, K, Ks, r, hK, t, m, h => by simp only [evCode] at h ⊢; exact hK _ _ _ h
  | .ret, R, K, Ks, r, hK, t, m, h => by simp only [evCode] at h ⊢; exact hK _ _ _ h
  | .seq a b, R, K, Ks, r, hK, t, m, h => by
    simp only [evCode] at h ⊢
    refine evCode_late hC lv N a (fun e t m he => ?_) t m h
    cases e with
    | normal => exact evCode_late hC lv N b hK t m he
    | _ => exact hK _ _ _ he
  | .cond c x y, R, K, Ks, r, hK, t, m, h => by
    simp only [evCode] at h ⊢
    cases hb : opnd t c with
    | bool b =>
      rw [hb] at h
      cases b with
      | true => exact evCode_late hC lv N x hK t m h
      | false => exact evCode_late hC lv N y hK t m h
    | _ => rw [hb] at h; simp at h
  | .block id body, R, K, Ks, r, hK, t, m, h => by
    simp only [evCode] at h ⊢
    refine evCode_late hC lv N body (fun e t m he => ?_) t m h
    cases e with
    | exit i =>
      simp only at he ⊢
      by_cases hi : i = id
      · rw [if_pos hi] at he; simp only [if_pos hi]; exact hK _ _ _ he
      · rw [if_neg hi] at he; simp only [if_neg hi]; exact hK _ _ _ he
    | _ => exact hK _ _ _ he
  | .loop body, R, K, Ks, r, hK, t, m, h => by
    simp only [evCode] at h ⊢
    split at h
    case h_2 => simp at h
    rename_i e t1 m1 h1
    obtain ⟨k1, hk1⟩ := loopL_late (ss := fun k t m => evCode P ⟨Cs k, ro, lv, N⟩ body (clean (lv (firstRegion body)) t m).1 (clean (lv (firstRegion body)) t m).2 (fun e t m => some (e, t, m))) (fun t m q hq => evCode_late hC lv N body (K := fun e t m => some (e, t, m)) (Ks := fun _ e t m => some (e, t, m)) (fun e t m he => Late.const he) _ _ hq) h1
    obtain ⟨k2, hk2⟩ := hK e t1 m1 h
    refine ⟨max k1 k2, fun k hk => ?_⟩
    simp only
    have e1 := hk1 k (by omega)
    try dsimp only at e1
    rw [e1]
    exact hk2 k (by omega)
  | .region id ops dr, R, K, Ks, r, hK, t, m, h => by
    simp only [evCode] at h ⊢
    exact evOps_late hC (fun t m he => hK _ _ _ he) _ t m h
  | .scope .., R, K, Ks, r, hK, t, m, h => by simp [evCode] at h
  | .rangeFunc .., R, K, Ks, r, hK, t, m, h => by simp [evCode] at h
  | .goto .., R, K, Ks, r, hK, t, m, h => by simp [evCode] at h
  | .label .., R, K, Ks, r, hK, t, m, h => by simp [evCode] at h
  | .refuse .., R, K, Ks, r, hK, t, m, h => by simp [evCode] at h

theorem evFn_late (hC : Tends Cs C) (lv : Nat → Keep) (N : Nat) {fn : Func} {args : List AV} {bs : List (Nat × Box)} {r : AV × List (Nat × Box)} (h : evFn P ⟨C, ro, lv, N⟩ fn args bs = some r) : Late (fun k => evFn P ⟨Cs k, ro, lv, N⟩ fn args bs) r := by
  unfold evFn at h ⊢
  cases hb : fn.body with
  | none => rw [hb] at h; simp at h
  | some code =>
    rw [hb] at h
    simp only at h ⊢
    split at h
    case isFalse => simp at h
    rename_i hl
    simp only [if_pos hl]
    exact evCode_late hC lv N code (K := fun e t m => match e with | .exit _ => none | _ => outOf P fn bs (freezeT t m fn.results.toList).1 (freezeT t m fn.results.toList).2) (Ks := fun _ e t m => match e with | .exit _ => none | _ => outOf P fn bs (freezeT t m fn.results.toList).1 (freezeT t m fn.results.toList).2) (fun e t m he => Late.const he) _ _ h
end

theorem evk_mono (p : Plan) : ∀ (k : Nat) (f : FuncId) (args : List AV) (bs : List (Nat × Box)) (r : AV × List (Nat × Box)), evk p k f args bs = some r → evk p (k + 1) f args bs = some r
  | 0, f, args, bs, r, h => by simp [evk] at h
  | k + 1, f, args, bs, r, h => by
    rw [evk, stepO] at h ⊢
    cases hf : p.fn f with
    | none => rw [hf] at h; exact h
    | some q =>
      obtain ⟨fn, lv⟩ := q
      rw [hf] at h
      simp only at h ⊢
      split at h
      case isFalse => simp at h
      rename_i hnd
      rw [if_pos hnd]
      obtain ⟨k0, hk⟩ := evFn_late (Cs := fun _ => evk p (k + 1)) (fun f args bs r hr => Late.const (evk_mono p k f args bs r hr)) lv fn.ntmps h
      exact hk k0 (Nat.le_refl _)
theorem evk_mono' (p : Plan) {f : FuncId} {args : List AV} {bs : List (Nat × Box)} {r : AV × List (Nat × Box)} {k : Nat} (h : evk p k f args bs = some r) : ∀ n, evk p (k + n) f args bs = some r
  | 0 => h
  | n + 1 => evk_mono p (k + n) f args bs r (evk_mono' p h n)
theorem evc_of (p : Plan) {f : FuncId} {args : List AV} {bs : List (Nat × Box)} {r : AV × List (Nat × Box)} {k : Nat} (h : evk p k f args bs = some r) : evc p f args bs = some r :=
  lim_eq (fun k r hk => evk_mono p k f args bs r hk) h
theorem evk_tends (p : Plan) : Tends (evk p) (evc p) := fun f args bs r h => by
  obtain ⟨k, hk⟩ := lim_some h
  exact ⟨k, fun n hn => by
    obtain ⟨j, rfl⟩ := Nat.exists_eq_add_of_le hn
    exact evk_mono' p hk j⟩

/-- A call of a function with code comes to what its code comes to. -/
theorem evc_fn (p : Plan) {f : FuncId} {fn : Func} {lv : Nat → Keep} (hf : p.fn f = some (fn, lv)) {args : List AV} {bs : List (Nat × Box)} (hnd : (bs.map (·.1)).Nodup) {r : AV × List (Nat × Box)} (h : evFn p.P ⟨evc p, p.ro, lv, fn.ntmps⟩ fn args bs = some r) : evc p f args bs = some r := by
  obtain ⟨k, hk⟩ := evFn_late (evk_tends p) lv fn.ntmps h
  refine evc_of p (k := k + 1) ?_
  rw [evk, stepO, hf]
  simp only [if_pos hnd]
  exact hk k (Nat.le_refl _)
theorem evc_ext (p : Plan) {f : FuncId} (hf : p.fn f = none) {args : List AV} {bs : List (Nat × Box)} {r : AV × List (Nat × Box)} (h : p.ext f args bs = some r) : evc p f args bs = some r := by
  refine evc_of p (k := 1) ?_
  rw [evk, stepO, hf]
  exact h

/-- Loops: a round; the end. -/
theorem loopL_more {step : Step} {t t' : Tmps} {m m' : Mem} (h : step t m = some (.normal, t', m')) {r : Ex × Tmps × Mem} (k : loopL step t' m' = some r) : loopL step t m = some r := by
  obtain ⟨n, hn⟩ := lim_some k
  refine lim_eq (fun j r hj => iter_mono j t m hj) (k := n + 1) ?_
  rw [iter, h]
  exact hn
theorem loopL_out {step : Step} {t t' : Tmps} {m m' : Mem} {e : Ex} (h : step t m = some (e, t', m')) (he : e ≠ .normal) : loopL step t m = some (e, t', m') := by
  refine lim_eq (fun j r hj => iter_mono j t m hj) (k := 1) ?_
  rw [iter, h]
  cases e with
  | normal => exact absurd rfl he
  | _ => rfl
end Ev
