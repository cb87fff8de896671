/- A verified evaluator, part E: the operations that call nothing, each by each. -/
import Derived.Test.YtlmmgblghgmgeaaDoorEvD
set_option linter.unusedVariables false
set_option linter.unusedSimpArgs false
namespace Ev
open Go
section
variable {P : Program} {c : Cfg} {w : World} {m m' : Mem} {t : Tmps} {a : Act} {C : Oracle} {ro : FuncId → Bool} {D : Option (List Nat)} {d : Nat} {x : AV}

theorem T_bool {b : Bool} {v : Value} (h : T c w (.bool b) v) : v = .bool b := by cases (h : V c.own w (.bool b) v); rfl
theorem T_int {k : IntKind} {n : Int} {v : Value} (h : T c w (.int k n) v) : v = .int k n := by cases (h : V c.own w (.int k n) v); rfl
theorem T_str {s : Str} {v : Value} (h : T c w (.str s) v) : v = .string ⟨s.toArray⟩ := by cases (h : V c.own w (.str s) v); rfl
theorem T_ptr {id off : Nat} {v : Value} (h : T c w (.ptr id off) v) : ∃ g, c.ρ id = some g ∧ v = .pointer (some ⟨g, off, none⟩) := h
theorem T_eptr {cells : List AV} {v : Value} (h : T c w (.eptr cells) v) : ∃ (ad : Addr) (cv : Nat → Value), v = .pointer (some ad) ∧
    (∀ (j : Nat) (x : AV), cells[j]? = some x → w.cell? (ad.add j) = some (cv j) ∧ ¬ c.own.N ad.block (ad.off + j)) ∧ (∀ (j : Nat) (x : AV), cells[j]? = some x → V c.own w x (cv j) ∧ (cv j).oneCell' = true) := by
  cases (h : V c.own w (.eptr cells) v) with
  | eptr _ ad cv h1 h2 h3 => exact ⟨ad, cv, rfl, h1, fun j x hx => ⟨h2 j x hx, h3 j x hx⟩⟩
theorem T_sl {s : Nat} {els : List (List AV)} {tok : Tok} {v : Value} (h : T c w (.sl s els tok) v) : V c.own w (.sl s els .none) v := by
  cases tok with
  | row p q => exact h.1
  | nil => exact V.tokNone (h : V c.own w _ v)
  | none => exact h
  | clip => exact V.tokNone (h : V c.own w _ v)
theorem V_sl {own : Own} {s : Nat} {els : List (List AV)} {tok : Tok} {v : Value} (h : V own w (.sl s els tok) v) : ∃ (a : Option Addr) (len cap : Nat) (cv : Nat → Nat → Value), v = .slice a len cap ∧ len = els.length ∧ len ≤ cap ∧ (∀ e ∈ els, e.length = s) ∧
    (∀ (i j : Nat) (e : List AV) (x : AV), els[i]? = some e → e[j]? = some x → ∃ ad, a = some ad ∧ w.cell? (ad.add (i * s + j)) = some (cv i j) ∧ ¬ own.N ad.block (ad.off + (i * s + j))) ∧
    (∀ (i j : Nat) (e : List AV) (x : AV), els[i]? = some e → e[j]? = some x → V own w x (cv i j) ∧ (cv i j).oneCell' = true) ∧ (tok = .nil → a = none ∧ cap = 0) ∧ (tok = .clip → cap = len) := by
  cases h with
  | sl _ _ _ a len cap cv h1 h2 h3 h4 h5 ho h6 h7 h8 => exact ⟨a, len, cap, cv, rfl, h1, h2, h3, h4, fun i j e x hi hj => ⟨h5 i j e x hi hj, ho i j e x hi hj⟩, h6, h7⟩
theorem T_agg {xs : List AV} {v : Value} (h : T c w (.agg xs) v) : ∃ us, v = .agg us ∧ CR c.own w xs us := by
  cases (h : V c.own w (.agg xs) v) with
  | agg _ us h1 h2 h3 => exact ⟨us, rfl, h1, h2, h3⟩
theorem T_tup {xs : List AV} {v : Value} (h : T c w (.tup xs) v) : ∃ vs : Array Value, v = .tuple vs ∧ vs.size = xs.length ∧ ∀ (i : Nat) (x : AV) (u : Value), xs[i]? = some x → vs[i]? = some u → T1 c w x u := h

theorem eq_bytes (a b : Str) : (ByteArray.mk a.toArray).toList = a := by simp [ByteArray.toList_eq]
theorem toList_mk (a : Str) : (ByteArray.mk a.toArray).toList = a := by simp [ByteArray.toList_eq]
theorem size_mk (a : Str) : (ByteArray.mk a.toArray).size = a.length := by simp [ByteArray.size]
theorem append_mk (a b : Str) : (ByteArray.mk a.toArray) ++ (ByteArray.mk b.toArray) = ByteArray.mk (a ++ b).toArray := by
  apply ByteArray.ext
  simp
theorem extract_mk (s : Str) (l h : Nat) : (ByteArray.mk s.toArray).extract l h = ByteArray.mk ((s.take h).drop l).toArray := by
  apply ByteArray.ext
  simp [ByteArray.data_extract, List.drop_take]

theorem get_mk (s : Str) (n : Nat) (h : n < s.length) : (ByteArray.mk s.toArray)[n]? = some (s.getD n 0) := by
  have h' : n < (ByteArray.mk s.toArray).size := by rw [size_mk]; exact h
  have e : (ByteArray.mk s.toArray)[n]? = some ((ByteArray.mk s.toArray)[n]'h') := by simp [h']
  rw [e]
  simp [List.getD, h]
  rfl

theorem run_abin {op : BinOp} {x y : AV} {u v : Value} {r : AV} (h : abin op x y = some r) (hx : T c w x u) (hy : T c w y v) (ty : TypeId) (p q : Operand) :
    ∃ z, (do eqGuard op ty p q u v; binOp op ty u v : Sem Value).run P w = .ok z w ∧ T c w r z := by
  unfold abin at h
  split at h
  · rename_i k a k' b
    obtain rfl := T_int hx
    obtain rfl := T_int hy
    have hg : (eqGuard op ty p q (.int k a) (.int k' b)).run P w = .ok () w := by unfold eqGuard; cases op <;> rfl
    simp only [Sem.run_bind, hg, Result.andThen_ok]
    split at h
    · split at h
      · simp at h; subst h; rename_i hb
        refine ⟨_, by simp [binOp, Op.shift, Int.not_lt.2 hb], .of_V (.int _ _)⟩
      · simp at h
    · split at h
      · simp at h; subst h; rename_i hb
        refine ⟨_, by simp [binOp, Op.shift, Int.not_lt.2 hb], .of_V (.int _ _)⟩
      · simp at h
    · split at h
      · rename_i hk
        subst hk
        rename_i hs1 hs2
        cases op <;> simp at h <;> first
          | (subst h; exact ⟨_, by simp [binOp, Op.intArith], .of_V (.int _ _)⟩)
          | (subst h; exact ⟨_, by simp [binOp, Op.intCmp], .of_V (.bool _)⟩)
          | (obtain ⟨h0, h⟩ := h; subst h; exact ⟨_, by simp [binOp, Op.intDiv, h0], .of_V (.int _ _)⟩)
          | (exact absurd rfl (by assumption))
      · simp at h
  · rename_i a b
    obtain rfl := T_str hx
    obtain rfl := T_str hy
    have hg : (eqGuard op ty p q (.string ⟨a.toArray⟩) (.string ⟨b.toArray⟩)).run P w = .ok () w := by unfold eqGuard; cases op <;> rfl
    simp only [Sem.run_bind, hg, Result.andThen_ok]
    have hb : (binOp op ty (.string ⟨a.toArray⟩) (.string ⟨b.toArray⟩)) = Op.stringOp op ⟨a.toArray⟩ ⟨b.toArray⟩ := by cases op <;> rfl
    rw [hb]
    unfold Op.stringOp
    simp only [toList_mk, size_mk]
    cases op <;> first
      | (simp at h; done)
      | (simp only [Option.some.injEq] at h; subst h; exact ⟨_, rfl, .of_V (.bool _)⟩)
      | (simp only [Option.ite_none_right_eq_some, Option.some.injEq] at h
         obtain ⟨hle, rfl⟩ := h
         refine ⟨.string ⟨(a ++ b).toArray⟩, ?_, .of_V (.str _)⟩
         rw [← append_mk]
         have hm : ¬ (((a.length + b.length : Nat) : Int) > IntKind.i64.max) := by
           show ¬ (((a.length + b.length : Nat) : Int) > 9223372036854775807)
           omega
         simp only [hm, if_false]; rfl)
  · simp at h

theorem aeqF_run {k : Nat} {f : TypeId → AV → AV → Option Bool} {xs ys : List AV} {us vs : Array Value} (hx : CR c.own w xs us) (hy : CR c.own w ys vs)
    (hf : ∀ t a b p u v, f t a b = some p → T c w a u → T c w b v → (Op.equalIn k t u v).run P w = .ok p w) : ∀ (fs : List Field) (r : Bool), aeqF P f xs ys fs = some r → (Op.eqFields k us vs fs).run P w = .ok r w
  | [], r, h => by simp [aeqF] at h; subst h; simp [Op.eqFields]
  | x :: fs, r, h => by
    simp only [aeqF] at h
    by_cases hn : x.name ≠ "_"
    · rw [if_pos hn] at h
      split at h
      case h_2 => simp at h
      rename_i a b ha hb
      split at h
      case h_2 => simp at h
      rename_i p q hp hq
      simp only [Option.some.injEq] at h
      subst h
      obtain ⟨u, hu1, hu2⟩ := part_agg ha hx
      obtain ⟨v, hv1, hv2⟩ := part_agg hb hy
      have ih := aeqF_run hx hy hf fs q hq
      simp only [Op.eqFields, hn, ne_eq, not_false_eq_true, if_true, Sem.run_bind, hu1, hv1, Result.andThen_ok, hf _ _ _ _ _ _ hp hu2 hv2]
      cases p with
      | true => simpa using ih
      | false => simp
    · rw [if_neg hn] at h
      simp only [Op.eqFields, hn, if_false]
      exact aeqF_run hx hy hf fs r h
theorem aeq_run {k : Nat} : ∀ (d : Nat) (ty : TypeId) (x y : AV) (r : Bool) (u v : Value), aeq P d ty x y = some r → T c w x u → T c w y v → (Op.equalIn (k + d) ty u v).run P w = .ok r w
  | 0, ty, x, y, r, u, v, h, _, _ => by simp [aeq] at h
  | d + 1, ty, x, y, r, u, v, h, hx, hy => by
    simp only [aeq] at h
    rw [show k + (d + 1) = (k + d) + 1 from rfl]
    split at h
    · rename_i hu
      simp only [Option.some.injEq] at h; subst h
      rw [T_bool hx, T_bool hy]
      exact run_equalIn_bool' w _ ty _ _ hu
    · rename_i hu
      split at h
      case isFalse => simp at h
      rename_i hk
      simp only [Option.some.injEq] at h; subst h
      subst hk
      rw [T_int hx, T_int hy]
      exact run_equalIn_int w _ ty _ _ _ _ hu
    · rename_i hu
      simp only [Option.some.injEq] at h; subst h
      rw [T_str hx, T_str hy, run_equalIn_string w _ ty _ _ hu, toList_mk, toList_mk]
    · rename_i fs xs ys hu
      split at h
      · simp at h
      rename_i hs
      obtain ⟨us, rfl, hx2⟩ := T_agg hx
      obtain ⟨vs, rfl, hy2⟩ := T_agg hy
      have hfs : P.fieldsOf ty = fs := by simp [Program.fieldsOf, hu]
      rw [run_equalIn_struct w (k + d) ty us vs (by rw [hfs]; exact hu) (by simpa using hs), hfs]
      exact aeqF_run hx2 hy2 (fun t a b p u v h1 h2 h3 => aeq_run d t a b p u v h1 h2 h3) fs.toList r h
    · simp at h
theorem run_equalIn_func_nil (d : Nat) (ty : TypeId) {ps rs : Array TypeId} {b : Bool} (h : P.underlying ty = some (.func ps rs b)) : (Op.equalIn (d + 1) ty .nilFunc .nilFunc).run P w = .ok true w := by
  simp [Op.equalIn, run_underlying h]
theorem run_equalIn_func_some (d : Nat) (ty : TypeId) {ps rs : Array TypeId} {b : Bool} (h : P.underlying ty = some (.func ps rs b)) (f : FuncId) (xs ys : Array Value) : (Op.equalIn (d + 1) ty (.func (.func f) xs ys) .nilFunc).run P w = .ok false w := by
  simp [Op.equalIn, run_underlying h]
theorem run_equalIn_sl_nil (d : Nat) (ty e : TypeId) (a : Option Addr) (n cp n2 c2 : Nat) (h : P.underlying ty = some (.slice e)) : (Op.equalIn (d + 1) ty (.slice a n cp) (.slice none n2 c2)).run P w = .ok a.isNone w := by
  cases a <;> simp [Op.equalIn, run_underlying h]
theorem run_equalIn_ptr_nil (d : Nat) (ty e : TypeId) (a : Option Addr) (h : P.underlying ty = some (.pointer e)) : (Op.equalIn (d + 1) ty (.pointer a) (.pointer none)).run P w = .ok a.isNone w := by
  cases a <;> simp [Op.equalIn, run_underlying h]
/-- What '==' between two values is made of. -/
structure EqIs (P : Program) (w : World) (ty : TypeId) (p q : Operand) (u v : Value) (r : Bool) : Prop where
  guard : ∀ op, (eqGuard op ty p q u v).run P w = .ok () w
  run : (Op.equal ty u v).run P w = .ok r w
  eql : binOp .eql ty u v = (do pure (.bool (← Op.equal ty u v)))
  neq : binOp .neq ty u v = (do pure (.bool (!(← Op.equal ty u v))))
theorem acmp_run {x y : AV} {u v : Value} {r : Bool} {ty : TypeId} (h : acmp P ty x y = some r) (hx : T c w x u) (hy : T c w y v) (p q : Operand) : EqIs P w ty p q u v r := by
  unfold acmp at h
  split at h
  · rename_i xs ys
    split at h
    · simp at h
    rename_i hg
    have he := aeq_run (k := 9991) 9 ty _ _ r u v h hx hy
    obtain ⟨us, rfl, _⟩ := T_agg hx
    obtain ⟨vs, rfl, _⟩ := T_agg hy
    exact ⟨fun op => run_eqGuard_agg w op ty p q us vs (by simpa using hg), he, rfl, rfl⟩
  · rename_i s els s2 els2
    simp only [Option.map_eq_some_iff, exists_and_right] at h
    obtain ⟨⟨e, he⟩, rfl⟩ := h
    have h1 : V c.own w (.sl s els .nil) u := hx
    have h2 : V c.own w (.sl s2 els2 .nil) v := hy
    cases h1 with
    | sl _ _ _ a len cap cv hlen hcap hel hc hv ho hn hk hr =>
      cases h2 with
      | sl _ _ _ a2 len2 cap2 cv2 hlen2 hcap2 hel2 hc2 hv2 ho2 hn2 hk2 hr2 =>
        obtain ⟨rfl, rfl⟩ := hn rfl
        obtain ⟨rfl, rfl⟩ := hn2 rfl
        have hu := under_of_elemT he
        exact ⟨fun op => by cases op <;> rfl, run_equalIn_sl_nil 9999 ty e _ _ _ _ _ hu, rfl, rfl⟩
  · rename_i s x0 e0 els tok s2 els2 _
    simp only [Option.map_eq_some_iff, exists_and_right] at h
    obtain ⟨⟨e, he⟩, rfl⟩ := h
    have h1 : V c.own w (.sl s ((x0 :: e0) :: els) .none) u := T_sl hx
    have h2 : V c.own w (.sl s2 els2 .nil) v := hy
    cases h1 with
    | sl _ _ _ a len cap cv hlen hcap hel hc hv ho hn hk hr =>
      cases h2 with
      | sl _ _ _ a2 len2 cap2 cv2 hlen2 hcap2 hel2 hc2 hv2 ho2 hn2 hk2 hr2 =>
        obtain ⟨rfl, rfl⟩ := hn2 rfl
        obtain ⟨ad, rfl, _⟩ := hc 0 0 (x0 :: e0) x0 (by simp) (by simp)
        have hu := under_of_elemT he
        exact ⟨fun op => by cases op <;> rfl, run_equalIn_sl_nil 9999 ty e _ _ _ _ _ hu, rfl, rfl⟩
  · split at h
    case h_2 => simp at h
    rename_i e hu
    simp only [Option.some.injEq] at h; subst h
    have h1 : V c.own w .pnil u := hx
    have h2 : V c.own w .pnil v := hy
    cases h1; cases h2
    exact ⟨fun op => by cases op <;> rfl, run_equalIn_ptr_nil 9999 ty _ _ hu, rfl, rfl⟩
  · split at h
    case h_2 => simp at h
    rename_i e hu
    simp only [Option.some.injEq] at h; subst h
    obtain ⟨g, _, rfl⟩ := T_ptr hx
    have h2 : V c.own w .pnil v := hy
    cases h2
    exact ⟨fun op => by cases op <;> rfl, run_equalIn_ptr_nil 9999 ty _ _ hu, rfl, rfl⟩
  · split at h
    case h_2 => simp at h
    rename_i e hu
    simp only [Option.some.injEq] at h; subst h
    obtain ⟨ad, cv, rfl, _⟩ := T_eptr hx
    have h2 : V c.own w .pnil v := hy
    cases h2
    exact ⟨fun op => by cases op <;> rfl, run_equalIn_ptr_nil 9999 ty _ _ hu, rfl, rfl⟩
  · split at h
    case h_2 => simp at h
    rename_i e hu
    simp only [Option.some.injEq] at h; subst h
    have h1 : V c.own w .fnil u := hx
    have h2 : V c.own w .fnil v := hy
    cases h1; cases h2
    exact ⟨fun op => by cases op <;> rfl, run_equalIn_func_nil 9999 ty hu, rfl, rfl⟩
  · rename_i f caps
    split at h
    case h_2 => simp at h
    rename_i e hu
    simp only [Option.some.injEq] at h; subst h
    have h1 : V c.own w (.fn f caps) u := hx
    have h2 : V c.own w .fnil v := hy
    cases h1; cases h2
    exact ⟨fun op => by cases op <;> rfl, run_equalIn_func_some 9999 ty hu _ _ _, rfl, rfl⟩
  · simp at h
theorem run_acmp {op : BinOp} {x y : AV} {u v : Value} {r : AV} {ty : TypeId} (h : acmpOp P op ty x y = some r) (hx : T c w x u) (hy : T c w y v) (p q : Operand) :
    ∃ z, (do eqGuard op ty p q u v; binOp op ty u v : Sem Value).run P w = .ok z w ∧ T c w r z := by
  cases op <;> simp only [acmpOp, Option.map_eq_some_iff] at h <;> try contradiction
  · obtain ⟨b, hb, rfl⟩ := h
    have e := acmp_run hb hx hy p q
    exact ⟨.bool b, by rw [e.eql]; simp [e.guard, e.run], .of_V (.bool _)⟩
  · obtain ⟨b, hb, rfl⟩ := h
    have e := acmp_run hb hx hy p q
    exact ⟨.bool !b, by rw [e.neq]; simp [e.guard, e.run], .of_V (.bool _)⟩

theorem bound_run {o : Option AV} {vo : Option Value} {n y dflt : Nat} {code : BoundsCode} (h : abound o dflt = some n) (hle : n ≤ y)
    (hv : ∀ z, o = some z → ∃ v, vo = some v ∧ T c w z v) (hn : o = none → vo = none) :
    (∃ v, vo = some v ∧ (Instr.sliceBound v y code).run P w = .ok n w) ∨ (vo = none ∧ dflt = n) := by
  cases o with
  | none =>
    simp [abound] at h; subst h
    exact .inr ⟨hn rfl, rfl⟩
  | some z =>
    obtain ⟨v, rfl, hT⟩ := hv z rfl
    refine .inl ⟨v, rfl, ?_⟩
    unfold abound at h
    split at h
    · simp at *
    · rename_i k i heq
      simp at heq; subst heq
      split at h
      · rename_i hi
        simp at h; subst h
        obtain rfl := T_int hT
        simp [Instr.sliceBound, asIntOf, hi]
        omega
      · simp at h
    · simp at h

theorem run_aslice_str {s : Str} {lo hi : Option AV} {lv hv : Option Value} {r : AV} {ty : TypeId} (h : aslice (.str s) lo hi = some r) (hu : P.underlying ty = some .string)
    (hl : ∀ z, lo = some z → ∃ v, lv = some v ∧ T c w z v) (hln : lo = none → lv = none) (hh : ∀ z, hi = some z → ∃ v, hv = some v ∧ T c w z v) (hhn : hi = none → hv = none) :
    ∃ z, (Instr.sliceAt ty (.string ⟨s.toArray⟩) lv hv none).run P w = .ok z w ∧ T c w r z := by
  simp only [aslice, Option.bind_eq_some_iff] at h
  obtain ⟨n, hn, l, hll, h⟩ := h
  split at h
  · rename_i hc
    simp at h; subst h
    have b1 := bound_run (P := P) (code := .sliceAlen) hn hc.2 hh hhn
    have b2 := bound_run (P := P) (code := .sliceB) hll hc.1 hl hln
    refine ⟨.string ⟨((s.take n).drop l).toArray⟩, ?_, .of_V (.str _)⟩
    simp only [Instr.sliceAt, Sem.run_bind, run_underlying hu, Result.andThen_ok, Instr.slice, Instr.sliceBounds, size_mk, Sem.run_pure, Option.isSome_none, Bool.false_eq_true, if_false, Sem.run_ite]
    rcases b1 with ⟨v1, rfl, b1⟩ | ⟨rfl, rfl⟩ <;> rcases b2 with ⟨v2, rfl, b2⟩ | ⟨rfl, rfl⟩ <;> simp_all [extract_mk]
  · simp at h

theorem V_slice {own : Own} {s n l : Nat} {els : List (List AV)} {v : Value} (h : V own w (.sl s els .none) v) (h1 : l ≤ n) (h2 : n ≤ els.length) : ∃ a len cap, v = .slice a len cap ∧ len = els.length ∧ n ≤ cap ∧
    V own w (.sl s ((els.take n).drop l) .none) (.slice (if cap = l then a else a.map (·.add (l * s))) (n - l) (cap - l)) := by
  obtain ⟨a, len, cap, cv, rfl, hlen, hcap, hel, hc, hv, _, _⟩ := V_sl h
  refine ⟨a, len, cap, rfl, hlen, by omega, .sl s _ .none _ _ _ (fun i j => cv (l + i) j) (by simp; omega) (by omega) (fun e he => hel e (List.mem_of_mem_take (List.mem_of_mem_drop he))) (fun i j e x hi hj => ?_) (fun i j e x hi hj => ?_) (fun i j e x hi hj => ?_) (by simp) (by simp) (by simp)⟩
  · rw [List.getElem?_drop, List.getElem?_take] at hi
    split at hi
    · rename_i hlt
      obtain ⟨ad, rfl, hcell, hown⟩ := hc _ _ _ _ hi hj
      rw [if_neg (by omega)]
      refine ⟨ad.add (l * s), rfl, ?_, ?_⟩
      · rw [add_add]
        have : l * s + (i * s + j) = (l + i) * s + j := by rw [Nat.add_mul]; omega
        rw [this]; exact hcell
      · rw [add_block, add_off]
        have : ad.off + l * s + (i * s + j) = ad.off + ((l + i) * s + j) := by rw [Nat.add_mul]; omega
        rw [this]; exact hown
    · simp at hi
  · rw [List.getElem?_drop, List.getElem?_take] at hi
    split at hi
    · exact (hv _ _ _ _ hi hj).1
    · simp at hi
  · rw [List.getElem?_drop, List.getElem?_take] at hi
    split at hi
    · exact (hv _ _ _ _ hi hj).2
    · simp at hi

theorem V_empty {own : Own} {s : Nat} {a : Option Addr} {cap : Nat} : V own w (.sl s [] .none) (.slice a 0 cap) :=
  .sl s [] .none a 0 cap (fun _ _ => .nilFunc) rfl (Nat.zero_le _) (by simp) (by simp) (by simp) (by simp) (by simp) (by simp) (by simp)

theorem run_aslice_sl {z : Nat} {els : List (List AV)} {tok : Tok} {lo hi : Option AV} {lv hv : Option Value} {r : AV} {ty e : TypeId} {u : Value} (h : aslice (.sl z els tok) lo hi = some r) (hu : P.underlying ty = some (.slice e))
    (hz : some z = tsz P e ∨ els = [] ∧ (tsz P e).isSome) (hx : T c w (.sl z els tok) u)
    (hl : ∀ z, lo = some z → ∃ v, lv = some v ∧ T c w z v) (hln : lo = none → lv = none) (hh : ∀ z, hi = some z → ∃ v, hv = some v ∧ T c w z v) (hhn : hi = none → hv = none) :
    ∃ y, (Instr.sliceAt ty u lv hv none).run P w = .ok y w ∧ T c w r y := by
  simp only [aslice, Option.bind_eq_some_iff] at h
  obtain ⟨n, hn, l, hll, h⟩ := h
  split at h
  · rename_i hc
    simp at h; subst h
    obtain ⟨a, len, cap, rfl, hlen, hncap, hV⟩ := V_slice (T_sl hx) hc.1 hc.2
    have b1 := bound_run (P := P) (code := .sliceAcap) hn hncap hh hhn
    have b2 := bound_run (P := P) (code := .sliceB) hll hc.1 hl hln
    obtain ⟨z', hz', hzz⟩ : ∃ z', tsz P e = some z' ∧ (z' = z ∨ els = []) := by
      rcases hz with hz | ⟨h1, h2⟩
      · exact ⟨z, hz.symm, .inl rfl⟩
      · obtain ⟨z', hz'⟩ := Option.isSome_iff_exists.1 h2
        exact ⟨z', hz', .inr h1⟩
    refine ⟨.slice (if cap = l then a else a.map (·.add (l * z'))) (n - l) (cap - l), ?_, ?_⟩
    · simp only [Instr.sliceAt, Sem.run_bind, run_underlying hu, Result.andThen_ok, Instr.slice, Instr.sliceBounds, Sem.run_pure, Option.isSome_none, Bool.false_eq_true, if_false, Sem.run_ite, if_true]
      rcases b1 with ⟨v1, rfl, b1⟩ | ⟨rfl, rfl⟩ <;> rcases b2 with ⟨v2, rfl, b2⟩ | ⟨rfl, rfl⟩ <;> simp_all [run_tsz hz']
    · rcases hzz with rfl | hz0
      · exact .of_V hV
      · subst hz0
        have hl0 : l = 0 ∧ n = 0 := by have := hc.1; have := hc.2; simp at *; omega
        obtain ⟨rfl, rfl⟩ := hl0
        exact .of_V V_empty
  · simp at h
end
end Ev
