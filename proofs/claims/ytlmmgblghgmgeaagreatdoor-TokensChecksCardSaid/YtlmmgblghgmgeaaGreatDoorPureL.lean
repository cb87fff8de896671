/- Whether a token stands at the beginning of a text does not depend on how long a rule is. -/
import Derived.Test.YtlmmgblghgmgeaaGreatDoorPureK
namespace Go.Proofs.YtlmmgblghgmgeaaGreatDoor
open Go Ev
set_option linter.unusedSimpArgs false

theorem tw_stop (p : UInt8 → Bool) (d : UInt8) (hd : p d = false) (t : Str) : ∀ x : Str, (x ++ d :: t).takeWhile p = x.takeWhile p
  | [] => by rw [List.nil_append, List.takeWhile_cons, hd]; rfl
  | a :: x => by
    rw [List.cons_append, List.takeWhile_cons, List.takeWhile_cons, tw_stop p d hd t x]
theorem run_stop (p : UInt8 → Bool) (d : UInt8) (hd : p d = false) (t x : Str) : run p (x ++ d :: t) = run p x := by
  unfold run; rw [tw_stop p d hd]
theorem run_mid (p : UInt8 → Bool) : ∀ (x t : Str), x.all p = false → run p (x ++ t) = run p x
  | [], t, h => by simp at h
  | a :: x, t, h => by
    have := run_mid p x t
    unfold run at this ⊢
    rw [List.cons_append, List.takeWhile_cons, List.takeWhile_cons]
    cases ha : p a
    · rfl
    · simp only [if_true, List.length_cons]
      rw [this (by simpa [ha] using h)]
theorem run_whole (p : UInt8 → Bool) : ∀ (x t : Str), x.all p = true → run p (x ++ t) = x.length + run p t
  | [], t, _ => by simp
  | a :: x, t, h => by
    simp only [List.all_cons, Bool.and_eq_true] at h
    have := run_whole p x t h.2
    unfold run at this ⊢
    rw [List.cons_append, List.takeWhile_cons, if_pos h.1, List.length_cons, this, List.length_cons]; omega
theorem firstTok_rule (c : UInt8) (n : Nat) (hn : 4 ≤ n) (hc : c = 45 ∨ c = 61) (y : Str) :
    firstTok (List.replicate n c ++ y) = some (5, ((n + run (fun b => (b.toNat : Int) == c.toNat) y : Nat) : Int)) := by
  obtain ⟨m, rfl⟩ : ∃ m, n = m + 2 := ⟨n - 2, by omega⟩
  have hrep : List.replicate (m + 2) c ++ y = c :: (c :: List.replicate m c ++ y) := rfl
  have hs : signOf c (c :: List.replicate m c ++ y) = m + 2 + run (fun b => (b.toNat : Int) == c.toNat) y := by
    have h1 : (List.replicate (m + 2) c).all (fun b => (b.toNat : Int) == c.toNat) = true := by
      rw [List.all_eq_true]; intro b hb; rw [(List.mem_replicate.1 hb).2]; simp
    have := run_whole (fun b => (b.toNat : Int) == c.toNat) (List.replicate (m + 2) c) y h1
    rw [List.length_replicate, hrep] at this
    exact this
  have hp : ∀ a b : UInt8, hasPre (c :: (c :: List.replicate m c ++ y)) [a, b] = (a == c && b == c) := fun a b => by
    unfold hasPre
    simp only [List.length_cons, List.length_nil, List.take_succ_cons, List.take_zero, List.cons_append]
    have h1 : decide (0 + 1 + 1 ≤ (List.replicate m c ++ y).length + 1 + 1) = true := by simp
    rw [h1, Bool.true_and]
    show (c == a && (c == b && true)) = _
    rw [Bool.and_true, BEq.comm (a := c) (b := a), BEq.comm (a := c) (b := b)]
  have h4 : decide (4 ≤ m + 2 + run (fun b => (b.toNat : Int) == c.toNat) y) = true := by simp; omega
  rw [hrep]
  unfold firstTok
  simp only
  rcases hc with rfl | rfl
  · rw [hp, hp, hp, pieceT_nw _ _ (by decide), hs, h4]
    simp
  · rw [hp, hp, hp, pieceT_nw _ _ (by decide), hs, h4]
    simp
theorem hasPre_two_cons (c : UInt8) (r t : Str) (d a b : UInt8) (ht : t.head? = some d) : hasPre (c :: (r ++ t)) [a, b] = (c == a && (r.headD d == b)) := by
  cases t with
  | nil => simp at ht
  | cons e t =>
    simp only [List.head?_cons, Option.some.injEq] at ht
    subst ht
    unfold hasPre
    cases r with
    | nil =>
      simp only [List.nil_append, List.length_cons, List.length_nil, List.take_succ_cons, List.take_zero, List.headD]
      have h1 : decide (0 + 1 + 1 ≤ t.length + 1 + 1) = true := by simp
      rw [h1, Bool.true_and]
      show (c == a && (e == b && true)) = _
      rw [Bool.and_true]
    | cons f r =>
      simp only [List.cons_append, List.length_cons, List.length_nil, List.take_succ_cons, List.take_zero, List.headD]
      have h1 : decide (0 + 1 + 1 ≤ (r ++ e :: t).length + 1 + 1) = true := by simp
      rw [h1, Bool.true_and]
      show (c == a && (f == b && true)) = _
      rw [Bool.and_true]
theorem longest_congr (s t : Str) : ∀ (l : List Str) (n : Int), (∀ x ∈ l, hasPre s x = hasPre t x) → longest s n l = longest t n l
  | [], n, _ => rfl
  | x :: l, n, h => by
    show longest s (if hasPre s x then maxI n x.length else n) l = longest t (if hasPre t x then maxI n x.length else n) l
    rw [h x (by simp)]
    exact longest_congr s t l _ fun y hy => h y (List.mem_cons_of_mem _ hy)
theorem sym_prefix (x : Str) (hx : x ≠ []) (d : UInt8) (m : Nat) (hd : d = 45 ∨ d = 61) (hm : 4 ≤ m) (y : Str) (hy : y ∈ allSyms) : hasPre (x ++ List.replicate m d) y = hasPre (x ++ List.replicate 4 d) y := by
  have hpre : x ++ List.replicate 4 d <+: x ++ List.replicate m d := by
    refine ⟨List.replicate (m - 4) d, ?_⟩
    rw [List.append_assoc, List.replicate_append_replicate]
    congr 2; omega
  rw [Bool.eq_iff_iff, hasPre_iff, hasPre_iff]
  constructor
  · intro h
    rcases Nat.lt_or_ge (x.length + 4) y.length with h1 | h1
    · exfalso
      have h2 : x ++ List.replicate 4 d <+: y := List.prefix_of_prefix_length_le hpre h (by simp; omega)
      have hdm : d ∈ y := h2.subset (by simp)
      have hl : 0 < x.length := List.length_pos_iff.2 hx
      have hlong := syms_long y hy
      unfold longOk at hlong
      split at hlong
      · rename_i b r
        split at hlong
        · rename_i hb
          have hd92 : d ≠ 92 := by rcases hd with rfl | rfl <;> decide
          have hdl : letterB d.toNat = false := by rcases hd with rfl | rfl <;> decide
          rcases List.mem_cons.1 hdm with h3 | h3
          · exact hd92 h3
          rcases List.mem_cons.1 h3 with h4 | h4
          · rw [← h4, hdl] at hb; simp at hb
          · have := List.all_eq_true.1 hlong d h4
            rw [hdl] at this; simp at this
        · simp only [List.isEmpty_iff] at hlong
          subst hlong
          simp only [List.length_cons, List.length_nil] at h1
          omega
      · simp only [decide_eq_true_eq] at hlong; omega
    · exact List.prefix_of_prefix_length_le h hpre (by simp; omega)
  · intro h
    exact h.trans hpre
theorem longSym_same (x : Str) (hx : x ≠ []) (d : UInt8) (m : Nat) (hd : d = 45 ∨ d = 61) (hm : 4 ≤ m) : longSym (x ++ List.replicate m d) = longSym (x ++ List.replicate 4 d) := by
  rw [longSym_eq, longSym_eq]
  exact longest_congr _ _ _ _ fun y hy => sym_prefix x hx d m hd hm y hy
theorem indexByte_append (b : UInt8) : ∀ (s t : Str), 0 ≤ Lib.indexByte s b → Lib.indexByte (s ++ t) b = Lib.indexByte s b := by
  intro s t h
  rw [indexByte_run] at h ⊢
  rw [indexByte_run b s]
  split at h
  · omega
  · rename_i h1
    have hall : s.all (fun x => (x.toNat : Int) != b.toNat) = false := by
      cases hc : s.all (fun x => (x.toNat : Int) != b.toNat)
      · rfl
      · exfalso
        have := run_whole _ s [] hc
        rw [List.append_nil] at this
        exact h1 (by rw [this]; simp [run])
    rw [run_mid _ s t hall]
    have hle := run_le (fun x => (x.toNat : Int) != b.toNat) s
    rw [if_neg h1, if_neg (by rw [List.length_append]; omega)]
/-- Before a rule, whose length does not matter. -/
theorem first_before_rule (x : Str) (k : Int) (hx : oneTok x = some k) (hk : k ≠ 5) (d : UInt8) (m : Nat) (hd : d = 45 ∨ d = 61) (hm : 4 ≤ m) :
    firstTok (x ++ List.replicate m d) = some (k, (x.length : Int)) ↔ firstTok (x ++ List.replicate 4 d) = some (k, (x.length : Int)) := by
  cases x with
  | nil => simp [oneTok] at hx
  | cons c r =>
    have hdw : wordB d.toNat = false := by rcases hd with rfl | rfl <;> decide
    have hdd : digitB d.toNat = false := by rcases hd with rfl | rfl <;> decide
    have hdl : letterB d.toNat = false := by rcases hd with rfl | rfl <;> decide
    have hrepm : List.replicate m d = d :: List.replicate (m - 1) d := by
      obtain ⟨m, rfl⟩ : ∃ n, m = n + 1 := ⟨m - 1, by omega⟩
      rfl
    have hrep4 : List.replicate 4 d = d :: List.replicate 3 d := rfl
    have hword : ∀ n, 0 < n → wordOf ((c :: r) ++ List.replicate n d) = wordOf (c :: r) := fun n hn => by
      obtain ⟨n, rfl⟩ : ∃ q, n = q + 1 := ⟨n - 1, by omega⟩
      unfold wordOf
      rw [take_run, take_run]
      exact tw_stop _ d hdw _ _
    have hdig : ∀ n, 0 < n → digitsOf ((c :: r) ++ List.replicate n d) = digitsOf (c :: r) := fun n hn => by
      obtain ⟨n, rfl⟩ : ∃ q, n = q + 1 := ⟨n - 1, by omega⟩
      unfold digitsOf
      rw [take_run, take_run]
      exact tw_stop _ d hdd _ _
    have hlet : ∀ n, 0 < n → run (fun b => letterB b.toNat) (r ++ List.replicate n d) = run (fun b => letterB b.toNat) r := fun n hn => by
      obtain ⟨n, rfl⟩ : ∃ q, n = q + 1 := ⟨n - 1, by omega⟩
      exact run_stop (fun b => letterB b.toNat) d hdl _ _
    have hsym : symT c (r ++ List.replicate m d) = symT c (r ++ List.replicate 4 d) := by
      have := longSym_same (c :: r) (by simp) d m hd hm
      unfold longSym at this
      unfold symT
      rw [hlet m (by omega), hlet 4 (by omega)]
      simp only [List.cons_append] at this
      rw [this]
    have hpre : ∀ a b : UInt8, hasPre (c :: (r ++ List.replicate m d)) [a, b] = hasPre (c :: (r ++ List.replicate 4 d)) [a, b] := fun a b => by
      rw [hasPre_two_cons c r _ d a b (by rw [hrepm]; rfl), hasPre_two_cons c r _ d a b (by rw [hrep4]; rfl)]
    have htext : ((c.toNat : Int) == 34) = true → textT (r ++ List.replicate m d) = textT (r ++ List.replicate 4 d) := fun hc => by
      have h1 : 0 ≤ Lib.indexByte r 34 := by
        rcases Int.lt_or_le (Lib.indexByte r 34) 0 with h2 | h2
        · exfalso
          have hc34 : c.toNat = 34 := by simp at hc; omega
          have hce : c = 34 := byte_of c 34 (by decide) hc34
          unfold oneTok at hx
          simp only at hx
          split at hx
          · simp at hx
          · rw [pieceT_nw c r (by rw [hce]; decide), hc] at hx
            simp only [if_true] at hx
            unfold textT at hx
            rw [if_pos h2] at hx
            simp at hx
        · exact h2
      unfold textT
      rw [indexByte_append 34 r _ h1, indexByte_append 34 r _ h1]
      have hle : (Lib.indexByte r 34).toNat ≤ r.length := by
        have := indexByte_found r 34 (by omega)
        omega
      rw [List.take_append_of_le_length hle, List.take_append_of_le_length hle]
    have hwm := hword m (by omega)
    have hw4 := hword 4 (by omega)
    have hdm := hdig m (by omega)
    have hd4 := hdig 4 (by omega)
    simp only [List.cons_append] at hwm hw4 hdm hd4
    -- a rule's signs just behind such signs are a rule
    by_cases hall : (c :: r).all (fun b => (b.toNat : Int) == c.toNat) = true ∧ c = d
    · obtain ⟨hall, rfl⟩ := hall
      have hrule : ∀ n, 4 ≤ n → firstTok ((c :: r) ++ List.replicate n c) ≠ some (k, ((c :: r).length : Int)) := fun n hn h => by
        have hr : c :: r = List.replicate (r.length + 1) c := by
          refine List.eq_replicate_iff.2 ⟨rfl, fun b hb => ?_⟩
          have := List.all_eq_true.1 hall b hb
          have h9 : (b.toNat : Int) = (c.toNat : Int) := beq_iff_eq.1 this
          exact UInt8.toNat_inj.1 (by omega)
        rw [hr, List.replicate_append_replicate] at h
        have h2 := firstTok_rule c (r.length + 1 + n) (by omega) hd []
        rw [List.append_nil] at h2
        rw [h2] at h
        simp only [Option.some.injEq, Prod.mk.injEq] at h
        exact hk h.1.symm
      exact ⟨fun h => absurd h (hrule m hm), fun h => absurd h (hrule 4 (by omega))⟩
    · have hsign : signOf c (r ++ List.replicate m d) = signOf c (r ++ List.replicate 4 d) := by
        unfold signOf
        by_cases h1 : (c :: r).all (fun b => (b.toNat : Int) == c.toNat) = true
        · have hcd : c ≠ d := fun he => hall ⟨h1, he⟩
          have hpd : ((d.toNat : Int) == c.toNat) = false := by
            have : d.toNat ≠ c.toNat := fun he => hcd (UInt8.toNat_inj.1 he.symm)
            simp; omega
          have e1 := run_stop (fun b => (b.toNat : Int) == c.toNat) d hpd (List.replicate (m - 1) d) (c :: r)
          have e2 := run_stop (fun b => (b.toNat : Int) == c.toNat) d hpd (List.replicate 3 d) (c :: r)
          rw [← hrepm] at e1
          rw [← hrep4] at e2
          exact e1.trans e2.symm
        · have h2 : (c :: r).all (fun b => (b.toNat : Int) == c.toNat) = false := by simpa using h1
          exact (run_mid _ (c :: r) (List.replicate m d) h2).trans (run_mid _ (c :: r) (List.replicate 4 d) h2).symm
      have hpiece : pieceT c (r ++ List.replicate m d) = pieceT c (r ++ List.replicate 4 d) := by
        have hr1 : isRuleB ((c :: (r ++ List.replicate m d)).take (signOf c (r ++ List.replicate m d))) = isRuleB ((c :: (r ++ List.replicate 4 d)).take (signOf c (r ++ List.replicate 4 d))) := by
          rw [rule_eq, rule_eq, hsign]
        unfold pieceT
        rw [hwm, hw4, hdm, hd4, hr1, hsym, hsign]
        split
        · rfl
        split
        · rfl
        split
        · rfl
        split
        · rename_i h5
          exact htext h5
        · rfl
      show firstTok (c :: (r ++ List.replicate m d)) = _ ↔ firstTok (c :: (r ++ List.replicate 4 d)) = _
      unfold firstTok
      simp only
      rw [hpre, hpre, hpre, hpiece]
/-- What is read of two tokens in one text, with the program's way of comparing. -/
theorem isRead_two (a b : Tk) (ha : oneTok a.text = some a.kind) (hb : oneTok b.text = some b.kind) (oa : oddS a.text = false) (ob : oddS b.text = false) :
    isReadP (a.text ++ b.text) [a, b] = (firstTok (a.text ++ b.text) == some (a.kind, (a.text.length : Int))) := by
  have hne : a.text ≠ [] := fun h => by rw [h] at ha; simp [oneTok] at ha
  have ho : oddS (a.text ++ b.text) = false := by
    rw [oddS_any, List.any_append, ← oddS_any, ← oddS_any, oa, ob]; rfl
  unfold isReadP
  rw [ho, Bool.not_false, Bool.true_and]
  cases h : (firstTok (a.text ++ b.text) == some (a.kind, (a.text.length : Int)))
  · cases h1 : ((readAll [a.text ++ b.text]).1 == 0 && eqKT (readAll [a.text ++ b.text]).2.ts [a, b])
    · rfl
    · exfalso
      simp only [Bool.and_eq_true, beq_iff_eq] at h1
      obtain ⟨e1, e2⟩ := h1
      match hts : (readAll [a.text ++ b.text]).2.ts, e2 with
      | [u, v], e2 =>
        simp only [eqKT, Bool.and_eq_true, beq_iff_eq, Bool.and_true] at e2
        obtain ⟨⟨k1, t1⟩, k2, t2⟩ := e2
        obtain ⟨len, hf, hx⟩ := first_of_read _ u [v] (by simp [hne]) e1 hts (.inl (by rw [hts]; simp [t1, t2]))
        have hp := first_pos _ _ _ hf
        have hl := congrArg List.length hx
        rw [t1, List.length_take] at hl
        have : len = (a.text.length : Int) := by omega
        rw [hf, k1, this] at h
        simp at h
      | [], e2 => simp [eqKT] at e2
      | [u], e2 => simp [eqKT] at e2
      | u :: v :: w :: t, e2 => simp [eqKT] at e2
  · have h : firstTok (a.text ++ b.text) = some (a.kind, (a.text.length : Int)) := by simpa using h
    rw [two_read a.text b.text a.kind b.kind h hb]
    simp [eqKT]
/-- And with the reference's. -/
theorem twoRead_two (x y : Str) (ka kb : Int) (ha : oneTok x = some ka) (hb : oneTok y = some kb) (oa : oddS x = false) (ob : oddS y = false) (hl : x.length + y.length ≤ 120) :
    twoRead (refReadP [x ++ y]) ka x kb = (firstTok (x ++ y) == some (ka, (x.length : Int))) := by
  have hne : x ≠ [] := fun h => by rw [h] at ha; simp [oneTok] at ha
  have ho : oddS (x ++ y) = false := by
    rw [oddS_any, List.any_append, ← oddS_any, ← oddS_any, oa, ob]; rfl
  have hle : lineErr (x ++ y) = 0 := by
    have := lineErr_zero (x ++ y)
    have h2 : (x ++ y).length ≤ 120 := by rw [List.length_append]; exact hl
    rw [ho, decide_eq_true h2] at this
    exact beq_iff_eq.1 this
  rw [← read_same]
  unfold readP
  have hck : (checkLinesP [x ++ y]).2 = 0 := by
    unfold checkLinesP linesGo linesGo
    simp [hle]
  rw [hck]
  simp only [bne_self_eq_false, Bool.false_eq_true, if_false]
  cases h : (firstTok (x ++ y) == some (ka, (x.length : Int)))
  · cases h2 : (readAll [x ++ y]).1 != 0
    · have e1 : (readAll [x ++ y]).1 = 0 := by simpa using h2
      simp only [Bool.false_eq_true, if_false]
      cases h3 : decide (((readAll [x ++ y]).2.ts.length : Int) > 1200)
      · simp only [Bool.false_eq_true, if_false]
        unfold twoRead
        simp only [bne_self_eq_false, Bool.not_false, Bool.true_and]
        match hcs : (readAll [x ++ y]).2.cs, hts : (readAll [x ++ y]).2.ts with
        | [], [u, v] =>
          simp only
          cases h4 : (u.text == x && (u.kind == ka && v.kind == kb))
          · rfl
          · exfalso
            simp only [Bool.and_eq_true, beq_iff_eq] at h4
            obtain ⟨t1, k1, k2⟩ := h4
            have h32 : (x ++ y).getD 0 0 ≠ 32 := by
              cases x with
              | nil => exact absurd rfl hne
              | cons c r =>
                intro hc
                have hc : c = 32 := hc
                subst hc
                simp [oneTok] at ha
            obtain ⟨len, hf, hx⟩ := first_of_read _ u [v] (by simp [hne]) e1 hts (.inr ⟨hcs, h32⟩)
            have hp := first_pos _ _ _ hf
            have hl := congrArg List.length hx
            rw [t1, List.length_take] at hl
            have : len = (x.length : Int) := by omega
            rw [hf, k1, this] at h
            simp at h
        | [], [] => rfl
        | [], [_] => rfl
        | [], _ :: _ :: _ :: _ => rfl
        | _ :: _, _ => rfl
      · simp [twoRead]
    · have : (readAll [x ++ y]).1 ≠ 0 := by simpa using h2
      simp [twoRead, this]
  · have h : firstTok (x ++ y) = some (ka, (x.length : Int)) := by simpa using h
    rw [two_read x y ka kb h hb]
    simp [twoRead]
/-- A right token's text. -/
theorem right_tok (t : Tk) (h : textErrP t = 0) : oneTok t.text = some t.kind ∧ oddS t.text = false := by
  unfold textErrP at h
  split at h
  · split at h
    · rename_i h1
      rw [isRead_one] at h1
      simpa [and_comm] using h1
    · simp at h
  · simp at h
theorem short_tok (t : Tk) (h : textErrP t = 0) : oneTok (shortT t) = some t.kind ∧ oddS (shortT t) = false ∧ (shortT t).length ≤ 60 ∧ ((t.kind ≠ 5 ∧ shortT t = t.text) ∨ (t.kind = 5 ∧ ∃ n d, 4 ≤ n ∧ (d = 45 ∨ d = 61) ∧ t.text = List.replicate n d ∧ shortT t = List.replicate 4 d)) := by
  obtain ⟨h1, h2⟩ := right_tok t h
  rcases oneTok_small _ _ h1 with ⟨h3, h4⟩ | ⟨h3, h4, d, h5⟩
  · have : shortT t = t.text := by unfold shortT; rw [show (t.kind == 5) = false by simpa using h3]; rfl
    rw [this]
    exact ⟨h1, h2, h4, .inl ⟨h3, rfl⟩⟩
  · generalize hn : t.text.length = n at h4 h5
    rw [h5, h3] at h1
    have hd := (oneTok_rule n d h4).1 h1
    have hs : shortT t = List.replicate 4 d := by
      unfold shortT
      rw [h3, h5]
      simp only [beq_self_eq_true, if_true]
      rw [List.take_replicate]; congr 1; omega
    rw [hs, h3]
    exact ⟨(oneTok_rule 4 d (by omega)).2 hd, odd_rule 4 d hd, by simp, .inr ⟨rfl, n, d, h4, hd, h5, rfl⟩⟩
/-- Which tokens must be apart is the reference's. -/
theorem apart_same (a b : Tk) (ha : textErrP a = 0) (hb : textErrP b = 0) : apartP a b = rApart a b := by
  obtain ⟨a1, a2⟩ := right_tok a ha
  obtain ⟨b1, b2⟩ := right_tok b hb
  obtain ⟨sa1, sa2, sa3, sa4⟩ := short_tok a ha
  obtain ⟨sb1, sb2, sb3, sb4⟩ := short_tok b hb
  unfold apartP rApart
  rw [isRead_two a b a1 b1 a2 b2, twoRead_two _ _ _ _ sa1 sb1 sa2 sb2 (by omega)]
  congr 1
  rw [Bool.eq_iff_iff, beq_iff_eq, beq_iff_eq]
  rcases sa4 with ⟨h1, h2⟩ | ⟨h1, n, d, h2, h3, h4, h5⟩
  · rw [h2]
    rcases sb4 with ⟨h6, h7⟩ | ⟨h6, m, e, h7, h8, h9, h10⟩
    · rw [h7]
    · rw [h9, h10]
      exact first_before_rule a.text a.kind a1 h1 e m h8 h7
  · rw [h4, h5, firstTok_rule d n h2 h3, firstTok_rule d 4 (by omega) h3]
    have hrun : run (fun b => (b.toNat : Int) == d.toNat) b.text = 0 ↔ run (fun b => (b.toNat : Int) == d.toNat) (shortT b) = 0 := by
      rcases sb4 with ⟨h6, h7⟩ | ⟨h6, m, e, h7, h8, h9, h10⟩
      · rw [h7]
      · rw [h9, h10]
        obtain ⟨m, rfl⟩ : ∃ q, m = q + 1 := ⟨m - 1, by omega⟩
        have hz : ∀ n, run (fun b => (b.toNat : Int) == d.toNat) (List.replicate (n + 1) e) = 0 ↔ ((e.toNat : Int) == d.toNat) = false := fun n => by
          unfold run
          rw [List.replicate_succ, List.takeWhile_cons]
          cases ((e.toNat : Int) == d.toNat) <;> simp
        rw [hz m, hz 3]
    simp only [Option.some.injEq, Prod.mk.injEq, List.length_replicate, h1, true_and]
    constructor
    · intro h
      have : run (fun b => (b.toNat : Int) == d.toNat) b.text = 0 := by omega
      have := hrun.1 this
      omega
    · intro h
      have : run (fun b => (b.toNat : Int) == d.toNat) (shortT b) = 0 := by omega
      have := hrun.2 this
      omega
end Go.Proofs.YtlmmgblghgmgeaaGreatDoor
