/- The texts PureH, PureI, RefJ, PureK, PureL, PureJ, RefJ1, RefJ2, merged. -/
import Derived.Test.YtlmmgblghgmgeaaGreatDoorMal
import Derived.Test.YtlmmgblghgmgeaaGreatDoorMam
set_option linter.unusedVariables false
set_option linter.unusedSimpArgs false
/- One token alone, both ways. -/
namespace Go.Proofs.YtlmmgblghgmgeaaGreatDoor
open Go Ev
set_option linter.unusedSimpArgs false

theorem read_one (x : Str) (u : Tk) (h0 : (readAll [x]).1 = 0) (h : (readAll [x]).2.ts = [u]) (hu : u.text = x) : oneTok x = some u.kind := by
  have hT : total [x] = x.length + 1 := total_one x
  have hok := st0_ok [x]
  have hi : st0.i < [x].length := by simp [st0]
  have hstep := nextGo_ok [x] (total [x]) (total [x] + 1) st0 hi hok
  have hloop := loop_tokens x (total [x] + 1) (total [x]) (total [x]) (nextGo [x] (total [x] + 1) st0).2 hstep.1
  have hall : readAll [x] = if (nextGo [x] (total [x] + 1) st0).1 != 0 then nextGo [x] (total [x] + 1) st0 else readLoop [x] (total [x] + 1) (total [x]) (nextGo [x] (total [x] + 1) st0).2 := by
    show readLoop [x] (total [x] + 1) (total [x] + 1) st0 = _
    rw [readLoop, if_pos hi]
  have hz : (nextGo [x] (total [x] + 1) st0).1 = 0 := by
    cases hc : ((nextGo [x] (total [x] + 1) st0).1 != 0)
    · simpa using hc
    · rw [hall, hc] at h0
      simpa using h0
  rw [hall, hz] at h
  simp only [bne_self_eq_false, Bool.false_eq_true, if_false] at h
  have hleft := hstep.2 hz
  obtain ⟨l, hl, hlt⟩ := hloop
  rw [hl] at h
  have hpos : (nextGo [x] (total [x] + 1) st0).2.i = 0 → 0 < (nextGo [x] (total [x] + 1) st0).2.j := fun hi0 => by
    rcases Nat.lt_or_ge 0 (nextGo [x] (total [x] + 1) st0).2.j with h1 | h1
    · exact h1
    · exfalso
      have : (nextGo [x] (total [x] + 1) st0).2.j = 0 := by omega
      rw [hi0, this] at hleft
      exact Nat.lt_irrefl _ hleft
  have hnot : (nextGo [x] (total [x] + 1) st0).2.ts = [] → False := fun hts => by
    rw [hts, List.nil_append] at h
    obtain ⟨q1, q2⟩ := hlt u (by rw [h]; simp)
    rw [hu] at q2
    have := hpos q1
    omega
  cases x with
  | nil => exact (hnot rfl).elim
  | cons c r =>
    unfold oneTok
    simp only
    have hg : ([c :: r] : List Str).getD 0 [] = c :: r := rfl
    have hn := hnot
    have hzz := hz
    unfold nextGo st0 at hn hzz h
    simp only [hg, List.drop_zero] at hn hzz h
    cases h1 : ((c.toNat : Int) == 32)
    · rw [h1] at hn hzz h
      simp only [Bool.false_eq_true, if_false] at hn hzz h
      cases h2 : hasPre (c :: r) [40, 42]
      · rw [h2] at hn hzz h
        simp only [Bool.false_eq_true, if_false] at hn hzz h
        cases h3 : hasPre (c :: r) [92, 42]
        · rw [h3] at hn hzz h
          simp only [Bool.false_eq_true, if_false] at hn hzz h
          cases h4 : hasPre (c :: r) [42, 41]
          · rw [h4] at hn hzz h
            simp only [Bool.false_eq_true, if_false] at hn hzz h
            cases h5 : ((pieceT c r).err != 0)
            · rw [h5] at h
              simp only [Bool.false_eq_true, if_false, List.nil_append, List.cons_append] at h
              have h6 : (pieceT c r).err = 0 := by simpa using h5
              obtain ⟨h7, h8⟩ := pieceT_len c r h6
              obtain ⟨e1, _⟩ := List.cons.inj h
              have e2 : ((c :: r).take (pieceT c r).len.toNat) = c :: r := by
                have := congrArg Tk.text e1
                simp only at this
                rw [this, hu]
              have e3 := congrArg List.length e2
              rw [List.length_take, List.length_cons] at e3
              have e4 : (pieceT c r).len = ((r.length + 1 : Nat) : Int) := by omega
              simp only [Bool.or_false, Bool.false_eq_true, if_false]
              rw [if_pos ⟨h6, e4⟩]
              rw [← e1]
            · rw [h5] at hn
              simp only [if_true] at hn
              exact absurd hn (by simp)
          · rw [h4] at hn
            simp only [if_true] at hn
            exact absurd hn (by simp)
        · rw [h3] at hn
          simp only [if_true] at hn
          exact absurd hn (by simp)
      · rw [h2] at hn
        simp only [if_true] at hn
        exfalso
        split at hn
        · exact hn rfl
        · exact hn rfl
    · rw [h1] at hn
      simp only [if_true] at hn
      exact absurd hn (by simp)
theorem isRead_one (t : Tk) : isReadP t.text [t] = (!oddS t.text && oneTok t.text == some t.kind) := by
  unfold isReadP
  congr 1
  cases h1 : ((readAll [t.text]).1 == 0 && eqKT (readAll [t.text]).2.ts [t])
  · cases h2 : (oneTok t.text == some t.kind)
    · rfl
    · exfalso
      have h2 : oneTok t.text = some t.kind := by simpa using h2
      have := oneTok_read t.text t.kind h2
      rw [this] at h1
      simp [eqKT] at h1
  · simp only [Bool.and_eq_true, beq_iff_eq] at h1
    obtain ⟨e1, e2⟩ := h1
    match hts : (readAll [t.text]).2.ts, e2 with
    | [], e2 => simp [eqKT] at e2
    | [u], e2 =>
      simp [eqKT] at e2
      have := read_one t.text u e1 hts e2.2
      rw [this, e2.1]; simp
    | u :: v :: w, e2 => simp [eqKT] at e2
/-- The reference's one token alone. -/
theorem oneRead_eq (x : Str) (k : Int) : oneRead (refReadP [x]) k x = (lineErr x == 0 && oneTok x == some k) := by
  rw [← read_same]
  unfold readP
  have hck : (checkLinesP [x]).2 = lineErr x := by
    unfold checkLinesP linesGo linesGo
    simp only [List.length_cons, List.length_nil]
    cases h : lineErr x != 0
    · have : lineErr x = 0 := by simpa using h
      simp [this]
    · simp
  rw [hck]
  cases h0 : lineErr x != 0
  · have e0 : lineErr x = 0 := by simpa using h0
    rw [e0]
    simp only [Bool.false_eq_true, if_false, beq_self_eq_true, Bool.true_and]
    cases h1 : oneTok x == some k
    · cases h2 : (readAll [x]).1 != 0
      · have e1 : (readAll [x]).1 = 0 := by simpa using h2
        simp only [Bool.false_eq_true, if_false]
        cases h3 : decide (((readAll [x]).2.ts.length : Int) > 1200)
        · simp only [Bool.false_eq_true, if_false]
          unfold oneRead
          simp only [bne_self_eq_false, Bool.not_false, Bool.true_and]
          match hcs : (readAll [x]).2.cs, hts : (readAll [x]).2.ts with
          | [], [u] =>
            simp only
            cases h4 : (u.text == x && u.kind == k)
            · rfl
            · exfalso
              simp only [Bool.and_eq_true, beq_iff_eq] at h4
              have := read_one x u e1 hts h4.1
              rw [this, h4.2] at h1
              simp at h1
          | [], [] => rfl
          | [], _ :: _ :: _ => rfl
          | _ :: _, _ => rfl
        · simp [oneRead]
      · have : (readAll [x]).1 ≠ 0 := by simpa using h2
        simp [oneRead, this]
    · have h1 : oneTok x = some k := by simpa using h1
      have := oneTok_read x k h1
      rw [this]
      simp [oneRead]
  · have : lineErr x ≠ 0 := by simpa using h0
    simp [oneRead, this]
end Go.Proofs.YtlmmgblghgmgeaaGreatDoor

/- The errors of a token are the reference's. -/
namespace Go.Proofs.YtlmmgblghgmgeaaGreatDoor
open Go Ev
set_option linter.unusedSimpArgs false

theorem syms_small : ∀ x ∈ allSyms, x.length ≤ 20 := by
  have : allSyms.all (fun x => decide (x.length ≤ 20)) = true := by decide +kernel
  intro x hx
  simpa using List.all_eq_true.1 this x hx
theorem longSym_small (t : Str) : longSym t ≤ 20 := by
  rcases (longSym_spec t).2.1 with h | ⟨x, hx, _, hl⟩
  · omega
  · have := syms_small x hx; omega
theorem numErr_small (g : Str) (hd : ∀ b ∈ g, digitB b.toNat = true) (h0 : 0 < g.length) (h : numErr g = 0) : g.length ≤ 9 := by
  rcases Nat.lt_or_ge 9 g.length with h1 | h1
  · exfalso
    obtain ⟨k, l, he, hk⟩ := number_same g hd h0
    simp only [h] at he hk
    split at he
    · simp [piece] at he
    · split at he
      · simp [piece] at he
      · rename_i h2
        simp only [Bool.or_eq_true, not_or, Bool.not_eq_true'] at h2
        have hs : spansB g.length 1 9 = false := by simp [spansB]; omega
        have : (bReadP g).2 = false := by unfold bReadP; rw [hs]; rfl
        rw [this] at h2
        simp at h2
  · exact h1
/-- A piece is short, but for rules. -/
theorem pieceT_small (c : UInt8) (r : Str) (h : (pieceT c r).err = 0) : ((pieceT c r).kind ≠ 5 ∧ (pieceT c r).len ≤ 60) ∨ (pieceT c r = ⟨5, signOf c r, 0⟩ ∧ isRuleB ((c :: r).take (signOf c r)) = true) := by
  have hdd : ∀ b ∈ digitsOf (c :: r), digitB b.toNat = true := fun b hb => by
    unfold digitsOf at hb
    rw [take_run] at hb
    exact takeWhile_all _ _ b hb
  have hls := longSym_small (c :: r)
  unfold pieceT at h ⊢
  split at h
  · rename_i h1
    rw [if_pos h1]
    exact .inl ⟨by simp, by simp⟩
  · rename_i h1
    rw [if_neg h1]
    split at h
    · rename_i h2
      rw [if_pos h2]
      simp only at h ⊢
      split at h
      · simp at h
      · rename_i h3
        simp only [decide_eq_true_eq] at h3
        refine .inl ⟨?_, by omega⟩
        split <;> simp
    · rename_i h2
      rw [if_neg h2]
      split at h
      · rename_i h3
        rw [if_pos h3]
        simp only at h ⊢
        have h0 : 0 < (digitsOf (c :: r)).length := by
          unfold digitsOf; rw [take_len]; unfold run; rw [List.takeWhile_cons, if_pos h3]; simp
        have := numErr_small _ hdd h0 h
        exact .inl ⟨by simp, by omega⟩
      · rename_i h3
        rw [if_neg h3]
        split at h
        · rename_i h4
          rw [if_pos h4]
          unfold textT at h ⊢
          split at h
          · simp at h
          · rename_i h5
            rw [if_neg h5]
            simp only at h ⊢
            refine .inl ⟨by simp, ?_⟩
            rcases Int.lt_or_le 40 (Lib.indexByte r 34) with h6 | h6
            · exfalso
              have : decide ((40 : Int) < Lib.indexByte r 34) = true := by simpa using h6
              rw [this] at h
              split at h <;> simp [firstOf] at h
            · omega
        · rename_i h4
          rw [if_neg h4]
          split at h
          · rename_i h5
            rw [if_pos h5]
            exact .inr ⟨rfl, h5⟩
          · rename_i h5
            rw [if_neg h5]
            refine .inl ?_
            have e : longest (c :: r) (longest (c :: r) 0 plainL) (othersL.map (·.1)) = longSym (c :: r) := rfl
            unfold symT at h ⊢
            simp only [e] at h ⊢
            split at h
            · rename_i h6
              rw [if_pos h6]
              simp only at h ⊢
              split at h
              · simp at h
              · rename_i h7
                have : longSym (c :: r) = (run (fun b => letterB b.toNat) r : Int) + 1 := by simpa using h7
                exact ⟨by simp, by omega⟩
            · rename_i h6
              rw [if_neg h6]
              exact ⟨by simp, by simp only; omega⟩
theorem pieceT_nw (c : UInt8) (r : Str) (hw : wordB c.toNat = false) : pieceT c r = if ((c.toNat : Int) == 34) then textT r else if (decide (4 ≤ signOf c r) && (((c.toNat : Int) == 45) || ((c.toNat : Int) == 61))) then ⟨5, signOf c r, 0⟩ else symT c r := by
  have hnotw : wordOf (c :: r) = [] := by
    unfold wordOf; rw [take_run, List.takeWhile_cons, hw]; rfl
  have hnd : digitB c.toNat = false := by
    cases hd : digitB c.toNat
    · rfl
    · unfold wordB at hw; rw [hd] at hw; simp at hw
  have hL : hasLetter [] = false := by decide
  have hp1 : hasPre [] [87, 70, 95] = false := rfl
  have hp2 : hasPre [] [83, 70, 95] = false := rfl
  unfold pieceT
  rw [hnotw, hL, hp1, hp2, hnd, rule_eq c r]; rfl
theorem sign_all (n : Nat) (c : UInt8) : signOf c (List.replicate n c) = n + 1 := by
  unfold signOf run
  have h : ∀ l : Str, (∀ b ∈ l, b = c) → l.takeWhile (fun b => (b.toNat : Int) == c.toNat) = l := fun l => by
    induction l with
    | nil => intro _; rfl
    | cons a l ih =>
      intro hl
      have : a = c := hl a (by simp)
      rw [List.takeWhile_cons, if_pos (by simp [this]), ih fun b hb => hl b (by simp [hb])]
  rw [h _ fun b hb => by rcases List.mem_cons.1 hb with rfl | hb; rfl; exact (List.mem_replicate.1 hb).2]
  simp
theorem oneTok_rule (n : Nat) (c : UInt8) (hn : 4 ≤ n) : oneTok (List.replicate n c) = some 5 ↔ (c = 45 ∨ c = 61) := by
  obtain ⟨m, rfl⟩ : ∃ m, n = m + 2 := ⟨n - 2, by omega⟩
  have hrep : List.replicate (m + 2) c = c :: c :: List.replicate m c := rfl
  have hrep1 : c :: List.replicate m c = List.replicate (m + 1) c := rfl
  have hs := sign_all (m + 1) c
  rw [← hrep1] at hs
  rw [hrep]
  unfold oneTok
  simp only
  have hp : ∀ a b : UInt8, hasPre (c :: c :: List.replicate m c) [a, b] = (a == c && b == c) := fun a b => by
    unfold hasPre
    simp only [List.length_cons, List.length_nil, List.take_succ_cons, List.take_zero]
    have h1 : decide (0 + 1 + 1 ≤ (List.replicate m c).length + 1 + 1) = true := by simp
    rw [h1, Bool.true_and]
    show (c == a && (c == b && true)) = _
    rw [Bool.and_true, BEq.comm (a := c) (b := a), BEq.comm (a := c) (b := b)]
  constructor
  · intro h
    split at h
    · simp at h
    · split at h
      · rename_i h5
        simp only [Option.some.injEq] at h
        rcases pieceT_small c (c :: List.replicate m c) h5.1 with h6 | ⟨_, h7⟩
        · exact absurd h h6.1
        · rw [rule_eq] at h7
          simp only [Bool.and_eq_true, Bool.or_eq_true] at h7
          rcases h7.2 with h8 | h8
          · exact .inl (byte_of c 45 (by decide) (by simp at h8; omega))
          · exact .inr (byte_of c 61 (by decide) (by simp at h8; omega))
      · simp at h
  · intro h
    have hl : (c :: List.replicate m c).length = m + 1 := by simp
    rcases h with rfl | rfl
    · rw [hp, hp, hp, pieceT_nw _ _ (by decide), hs]
      have h4 : decide (4 ≤ m + 1 + 1) = true := by simp; omega
      simp only [h4]
      simp
    · rw [hp, hp, hp, pieceT_nw _ _ (by decide), hs]
      have h4 : decide (4 ≤ m + 1 + 1) = true := by simp; omega
      simp only [h4]
      simp
theorem rep_of_same (s : Str) (h : sameP s 0 = s.length) : s = List.replicate s.length (s.getD 0 0) := by
  refine List.eq_replicate_iff.2 ⟨rfl, fun b hb => ?_⟩
  have h1 : s.take (run (fun b => (b.toNat : Int) == (s.getD 0 0).toNat) s) = s.takeWhile (fun b => (b.toNat : Int) == (s.getD 0 0).toNat) := take_run _ _
  unfold sameP at h
  rw [List.drop_zero] at h
  rw [h, List.take_length] at h1
  rw [h1] at hb
  have := takeWhile_all _ _ b hb
  have h9 : (b.toNat : Int) = ((s.getD 0 0).toNat : Int) := beq_iff_eq.1 this
  exact UInt8.toNat_inj.1 (by omega)
theorem same_of_rep (n : Nat) (c : UInt8) (h : 0 < n) : sameP (List.replicate n c) 0 = n := by
  obtain ⟨m, rfl⟩ : ∃ m, n = m + 1 := ⟨n - 1, by omega⟩
  have := sign_all m c
  unfold signOf at this
  unfold sameP
  exact this
theorem lineErr_zero (s : Str) : (lineErr s == 0) = (decide (s.length ≤ 120) && !oddS s) := by
  unfold lineErr
  by_cases h : s.length ≤ 120
  · have h1 : ¬ (s.length : Int) > 120 := by omega
    cases oddS s <;> simp [h, h1, firstOf]
  · have h1 : (s.length : Int) > 120 := by omega
    simp [h, h1, firstOf]
theorem oneTok_small (s : Str) (k : Int) (h : oneTok s = some k) : (k ≠ 5 ∧ s.length ≤ 60) ∨ (k = 5 ∧ 4 ≤ s.length ∧ ∃ c, s = List.replicate s.length c) := by
  cases s with
  | nil => simp [oneTok] at h
  | cons c r =>
    unfold oneTok at h
    simp only at h
    split at h
    · simp at h
    · split at h
      · rename_i h5
        simp only [Option.some.injEq] at h
        rcases pieceT_small c r h5.1 with h6 | ⟨h6, h7⟩
        · left
          refine ⟨h ▸ h6.1, ?_⟩
          simp only [List.length_cons]; omega
        · right
          rw [h6] at h h5
          simp only at h h5
          have hs : signOf c r = r.length + 1 := by omega
          rw [rule_eq] at h7
          simp only [Bool.and_eq_true, decide_eq_true_eq] at h7
          refine ⟨h.symm, by simp only [List.length_cons]; omega, c, ?_⟩
          have := sign_rep c r
          rw [hs, List.take_of_length_le (by simp)] at this
          exact this
      · simp at h
theorem odd_rule (n : Nat) (c : UInt8) (h : c = 45 ∨ c = 61) : oddS (List.replicate n c) = false := by
  rw [oddS_any, List.any_eq_false]
  intro b hb
  have := (List.mem_replicate.1 hb).2
  subst this
  rcases h with rfl | rfl <;> decide
theorem bare_same (t : Tk) : bareP t = textErrP t := by
  unfold bareP textErrP
  rw [isRead_one, oneRead_eq, lineErr_zero]
  cases spansB t.kind 0 5
  · rfl
  · simp only [Bool.not_true, Bool.false_eq_true, if_false, if_true]
    congr 1
    unfold ruleText
    cases hc : (t.kind == 5 && decide ((t.text.length : Int) > 4) && ((sameP t.text 0 : Int) == t.text.length))
    · simp only [Bool.false_eq_true, if_false]
      cases h1 : (oneTok t.text == some t.kind)
      · simp
      · have h1' : oneTok t.text = some t.kind := by simpa using h1
        have hlen : t.text.length ≤ 120 := by
          rcases oneTok_small _ _ h1' with h2 | ⟨h2, h3, c, h4⟩
          · omega
          · rcases Nat.lt_or_ge 4 t.text.length with h5 | h5
            · exfalso
              have h6 : sameP t.text 0 = t.text.length := by
                have := same_of_rep t.text.length c (by omega)
                rw [← h4] at this; exact this
              have h7 : (t.text.length : Int) > 4 := by omega
              rw [h6] at hc
              simp [h2, h7] at hc
            · omega
        simp [hlen]
    · simp only [if_true]
      simp only [Bool.and_eq_true, beq_iff_eq, decide_eq_true_eq] at hc
      obtain ⟨⟨hk, hl⟩, hsame⟩ := hc
      have hrep := rep_of_same t.text (by omega)
      generalize t.text.getD 0 0 = c at hrep
      have hl4 : 4 < t.text.length := by omega
      generalize t.text.length = n at hrep hl4
      rw [hrep, hk]
      have ht : (List.replicate n c).take 4 = List.replicate 4 c := by rw [List.take_replicate]; congr 1; omega
      rw [ht]
      have e1 := oneTok_rule n c (by omega)
      have e2 := oneTok_rule 4 c (by omega)
      by_cases hcc : c = 45 ∨ c = 61
      · rw [e1.2 hcc, e2.2 hcc, odd_rule n c hcc, odd_rule 4 c hcc]; rfl
      · have n1 : ¬ oneTok (List.replicate n c) = some 5 := fun h => hcc (e1.1 h)
        have n2 : ¬ oneTok (List.replicate 4 c) = some 5 := fun h => hcc (e2.1 h)
        rw [show (oneTok (List.replicate n c) == some 5) = false from beq_eq_false_iff_ne.2 n1, show (oneTok (List.replicate 4 c) == some 5) = false from beq_eq_false_iff_ne.2 n2, Bool.and_false, Bool.and_false]
end Go.Proofs.YtlmmgblghgmgeaaGreatDoor

/- The reference's errors of tokens, and which must be apart, evaluated. -/
namespace Go.Proofs.YtlmmgblghgmgeaaGreatDoor
open Go Ev
set_option maxRecDepth 100000
set_option linter.unusedSimpArgs false
attribute [local simp] dFor_none storeFine_none dFor_no storeFine_no lessL lkL evCode_exit evCode_seq evCode_plain evCode_draw evCode_cond evCode_ret evCode_skip evCode_block evCode_loop roundK_normal roundK_exit roundK_ret seqK_normal seqK_exit seqK_ret blockK_normal blockK_exit blockK_ret regK_eq evOps_nil evOps_cons params astep okDst isWanted aop opnd ofValue putT abin headS ofL noPtr acall adopt_bool adopt_int adopt_str adopt_agg adopt_clip upd_false AV.cells partOf setCells fillC AV.isVal List.range List.range.loop ofB mayRead dsts planRo capIds viewed scalarR AV.scalar bare_undef bare_bool bare_int bare_str bare_snil bare_snone bare_sclip bare_srow bare_ptr bare_eptr bare_pnil bare_fn bare_fnil bare_agg bare_tup finK freezeT avAll resOf outBoxes relabB relabL AV.untup relab_undef relab_bool relab_int relab_str relab_snil relab_snone relab_sclip relab_srow relab_ptr relab_eptr relab_pnil relab_fn relab_fnil relab_agg relab_tup relab_sgrow

def tokenErrP (t : Tk) : Int := if bareP t != 0 then bareP t else if !spansB t.line 0 299 || !spansB t.col 0 (120 - t.text.length) then 3 else 0
theorem tokenErr_ev (t : Tk) (hl : t.text.length < 2 ^ 38) : evc plan 11 [.agg (tkC t)] [] = some (.int .i64 (tokenErrP t), []) := by
  refine evc_start plan (P := Tryz.prog) (ro := planRo) rfl rfl rfl rfl rfl rfl (by simp) rfl ?_
  have h := bare_ev t hl
  unfold tkC at h
  have w1 : IntKind.i64.wrap (120 - (t.text.length : Int)) = 120 - t.text.length := wrap_i64 (by omega) (by omega)
  unfold tokenErrP
  generalize bareP t = e at h
  cases h0 : e != 0
  · cases h1 : spansB t.line 0 299
    · simp [tkC, between_ev, h, h0, h1]
    · cases h2 : spansB t.col 0 (120 - t.text.length) <;> simp [tkC, between_ev, h, h0, h1, h2, w1]
  · simp [tkC, h, h0]
/-- A token's text, that of a rule with as few signs as it may have. -/
def shortT (t : Tk) : Str := if t.kind == 5 then t.text.take 4 else t.text
theorem short_ev (t : Tk) (h4 : t.kind = 5 → 4 ≤ t.text.length) : evc plan 40 [.agg (tkC t)] [] = some (.str (shortT t), []) := by
  refine evc_start plan (P := Tryz.prog) (ro := planRo) rfl rfl rfl rfl rfl rfl (by simp) rfl ?_
  unfold shortT
  cases h : t.kind == 5
  · simp [tkC, h]
  · have h5 := h4 (by simpa using h)
    simp [tkC, h, h5, aslice, abound]
/-- Are just two tokens read, the first of a kind and a text, the second of a kind? -/
def twoRead (r : Rd) (k : Int) (x : Str) (k2 : Int) : Bool :=
  !(r.err != 0) && (match r.cs, r.ts with | [], [t, u] => t.text == x && (t.kind == k && u.kind == k2) | _, _ => false)
def rApart (a b : Tk) : Bool := !twoRead (refReadP [shortT a ++ shortT b]) a.kind (shortT a) b.kind
end Go.Proofs.YtlmmgblghgmgeaaGreatDoor

/- Two tokens in one text: what is read, by the first of them. -/
namespace Go.Proofs.YtlmmgblghgmgeaaGreatDoor
open Go Ev
set_option linter.unusedSimpArgs false

/-- The kind and the length of the token with which a text begins. -/
def firstTok (x : Str) : Option (Int × Int) :=
  match x with
  | [] => none
  | c :: r =>
    if ((c.toNat : Int) == 32) || hasPre (c :: r) [40, 42] || hasPre (c :: r) [92, 42] || hasPre (c :: r) [42, 41] then none
    else if (pieceT c r).err = 0 then some ((pieceT c r).kind, (pieceT c r).len) else none
theorem oneTok_first (x : Str) (k : Int) : oneTok x = some k ↔ firstTok x = some (k, (x.length : Int)) := by
  cases x with
  | nil => simp [oneTok, firstTok]
  | cons c r =>
    unfold oneTok firstTok
    simp only
    split
    · simp
    · by_cases h1 : (pieceT c r).err = 0
      · rw [if_pos h1]
        by_cases h2 : (pieceT c r).len = ((r.length + 1 : Nat) : Int)
        · rw [if_pos ⟨h1, h2⟩]
          simp only [Option.some.injEq, Prod.mk.injEq, List.length_cons, h2, and_true]
        · rw [if_neg fun h => h2 h.2]
          simp only [Option.some.injEq, Prod.mk.injEq, List.length_cons, reduceCtorEq, false_iff]
          exact fun h => h2 h.2
      · rw [if_neg h1, if_neg fun h => h1 h.1]
        simp
/-- A step from a place where a token stands. -/
theorem step_first (z : Str) (n j : Nat) (ts : List Tk) (cs : List Sp) (k len : Int) (h : firstTok (z.drop j) = some (k, len)) :
    nextGo [z] n ⟨0, j, ts, cs⟩ = (0, ⟨0, j + len.toNat, ts ++ [⟨k, (z.drop j).take len.toNat, 0, j⟩], cs⟩) := by
  have hg : ([z] : List Str).getD 0 [] = z := rfl
  unfold nextGo
  simp only [hg]
  generalize z.drop j = t at h
  cases t with
  | nil => simp [firstTok] at h
  | cons c r =>
    unfold firstTok at h
    simp only at h
    split at h
    · simp at h
    · rename_i h1
      simp only [Bool.or_eq_true, not_or, Bool.not_eq_true] at h1
      obtain ⟨⟨⟨h1, h2⟩, h3⟩, h4⟩ := h1
      split at h
      · rename_i h5
        simp only [Option.some.injEq, Prod.mk.injEq] at h
        obtain ⟨rfl, rfl⟩ := h
        have h7 : ((pieceT c r).err != 0) = false := by simp [h5]
        simp only [h1, h2, h3, h4, h7, Bool.false_eq_true, if_false]
        rfl
      · simp at h
theorem first_pos (x : Str) (k len : Int) (h : firstTok x = some (k, len)) : 0 < len ∧ len ≤ x.length := by
  cases x with
  | nil => simp [firstTok] at h
  | cons c r =>
    unfold firstTok at h
    simp only at h
    split at h
    · simp at h
    · split at h
      · rename_i h5
        simp only [Option.some.injEq, Prod.mk.injEq] at h
        obtain ⟨rfl, rfl⟩ := h
        have := pieceT_len c r h5
        simp only [List.length_cons]; omega
      · simp at h
/-- Two tokens, one behind the other. -/
theorem two_read (x y : Str) (ka kb : Int) (h : firstTok (x ++ y) = some (ka, (x.length : Int))) (hb : oneTok y = some kb) :
    readAll [x ++ y] = (0, ⟨1, 0, [⟨ka, x, 0, 0⟩, ⟨kb, y, 0, x.length⟩], []⟩) := by
  have hb' := (oneTok_first y kb).1 hb
  have py := first_pos _ _ _ hb'
  have px := first_pos _ _ _ h
  generalize hz : x ++ y = z at h px
  have hzl : z.length = x.length + y.length := by rw [← hz]; simp
  have hd : z.drop x.length = y := by rw [← hz]; simp
  have ht : z.take x.length = x := by rw [← hz]; simp
  have hT : total [z] = z.length + 1 := total_one z
  have s1 : ∀ n, nextGo [z] n st0 = (0, ⟨0, x.length, [⟨ka, x, 0, 0⟩], []⟩) := fun n => by
    have := step_first z n 0 [] [] ka x.length (by rw [List.drop_zero]; exact h)
    rw [List.drop_zero] at this
    simp only [Int.toNat_natCast, Nat.zero_add, List.nil_append, ht] at this
    exact this
  have s2 : ∀ n, nextGo [z] n ⟨0, x.length, [⟨ka, x, 0, 0⟩], []⟩ = (0, ⟨0, z.length, [⟨ka, x, 0, 0⟩, ⟨kb, y, 0, x.length⟩], []⟩) := fun n => by
    have := step_first z n x.length [⟨ka, x, 0, 0⟩] [] kb y.length (by rw [hd]; exact hb')
    rw [hd] at this
    simp only [Int.toNat_natCast, List.take_length, List.cons_append, List.nil_append] at this
    rw [← hzl] at this
    exact this
  have s3 : ∀ n ts, nextGo [z] n ⟨0, z.length, ts, []⟩ = (0, ⟨1, 0, ts, []⟩) := fun n ts => by
    unfold nextGo
    have hg : ([z] : List Str).getD 0 [] = z := rfl
    simp only [hg]
    rw [List.drop_eq_nil_of_le (Nat.le_refl _)]
  unfold readAll
  generalize hN : total [z] + 1 = N
  have hN2 : 4 ≤ N := by omega
  obtain ⟨M, rfl⟩ : ∃ M, N = M + 4 := ⟨N - 4, by omega⟩
  rw [readLoop, if_pos (by simp [st0]), s1]
  simp only [bne_self_eq_false, Bool.false_eq_true, if_false]
  rw [readLoop, if_pos (by simp), s2]
  simp only [bne_self_eq_false, Bool.false_eq_true, if_false]
  rw [readLoop, if_pos (by simp), s3]
  simp only [bne_self_eq_false, Bool.false_eq_true, if_false]
  rw [readLoop, if_neg (by simp)]
/-- How much of a text tokens have, and is left. -/
def weight (z : Str) (s : St) : Nat := (s.ts.map fun t => t.text.length).sum + (if s.i = 0 then z.length - s.j else 0)
/-- A step: it is over, or a token, or something is lost. -/
theorem step_weight (z : Str) (n : Nat) (s : St) (hi : s.i = 0) (hj : s.j ≤ z.length) :
    ((∃ l, (nextGo [z] n s).2.ts = s.ts ++ l) ∧ ∃ m, (nextGo [z] n s).2.cs = s.cs ++ m) ∧
    weight z (nextGo [z] n s).2 ≤ weight z s ∧
    ((nextGo [z] n s).1 = 0 → s.j < z.length → weight z (nextGo [z] n s).2 = weight z s → ∃ k len, firstTok (z.drop s.j) = some (k, len)) ∧
    ((nextGo [z] n s).1 = 0 → s.j < z.length → (∃ k len, firstTok (z.drop s.j) = some (k, len)) ∨ (nextGo [z] n s).2.cs ≠ s.cs ∨ z.getD s.j 0 = 32) := by
  obtain ⟨i, j, ts, cs⟩ := s
  simp only at hi hj
  subst hi
  have hg : ([z] : List Str).getD 0 [] = z := rfl
  have hdl : (z.drop j).length = z.length - j := List.length_drop
  have hcom := fun q hq => comGo_range [z] n 0 j 0 q hq (fun _ => by simpa [lineLen] using hj) (by simp)
  have hget : ∀ c r, z.drop j = c :: r → z.getD j 0 = c := fun c r h => by
    have : z[j]? = some c := by
      have := congrArg (fun l => l[0]?) h
      simpa using this
    rw [List.getD_eq_getElem?_getD, this]; rfl
  have left1 : ∀ j, left [z] 0 j = z.length + 1 - j := fun j => by simp [left]
  unfold nextGo
  simp only [hg]
  generalize z.drop j = t at hdl hget
  cases t with
  | nil =>
    simp only [List.length_nil] at hdl
    refine ⟨⟨⟨[], by simp⟩, [], by simp⟩, ?_, fun _ h => by omega, fun _ h => by omega⟩
    simp only [weight]; simp
  | cons c r =>
    simp only [List.length_cons] at hdl
    have hgc := hget c r rfl
    simp only
    split
    · rename_i h1
      refine ⟨⟨⟨[], by simp⟩, [], by simp⟩, ?_, ?_, fun _ _ => .inr (.inr ?_)⟩
      · simp only [weight, if_true]; omega
      · simp only [weight, if_true]; intro _ _ _; omega
      · rw [hgc]
        have : c.toNat = 32 := by simp at h1; omega
        exact byte_of c 32 (by decide) this
    · rename_i h1
      split
      · rename_i h2
        split
        · rename_i h3
          have hq := (hcom _ rfl).2.2 h3
          have hq0 : (comGo [z] n 0 j 0).2.1 = 0 := by have := hq.1; simp only [List.length_cons, List.length_nil] at this; omega
          have hq1 := hq.2
          rw [hq0, left1, left1] at hq1
          refine ⟨⟨⟨[], by simp⟩, _, rfl⟩, ?_, ?_, fun _ _ => .inr (.inl (by simp))⟩
          · simp only [weight, hq0, if_true]; omega
          · simp only [weight, hq0, if_true]; intro _ _ _; omega
        · refine ⟨⟨⟨[], by simp⟩, [], by simp⟩, Nat.le_refl _, fun h => by simp at h, fun h => by simp at h⟩
      · rename_i h2
        split
        · rename_i h3
          refine ⟨⟨⟨[], by simp⟩, _, rfl⟩, ?_, ?_, fun _ _ => .inr (.inl (by simp))⟩
          · simp only [weight, if_true]; omega
          · simp only [weight, if_true]; intro _ _ _; omega
        · rename_i h3
          split
          · refine ⟨⟨⟨[], by simp⟩, [], by simp⟩, Nat.le_refl _, fun h => by simp at h, fun h => by simp at h⟩
          · rename_i h4
            split
            · rename_i h5
              refine ⟨⟨⟨[], by simp⟩, [], by simp⟩, Nat.le_refl _, fun h => ?_, fun h => ?_⟩
              · simp only at h; rw [h] at h5; simp at h5
              · simp only at h; rw [h] at h5; simp at h5
            · rename_i h5
              have h6 : (pieceT c r).err = 0 := by simpa using h5
              obtain ⟨h7, h8⟩ := pieceT_len c r h6
              have hl : ((c :: r).take (pieceT c r).len.toNat).length = (pieceT c r).len.toNat := by
                rw [List.length_take, List.length_cons]; omega
              have hf : firstTok (c :: r) = some ((pieceT c r).kind, (pieceT c r).len) := by
                unfold firstTok
                simp only
                rw [if_neg (by simp only [Bool.or_eq_true, not_or]; exact ⟨⟨⟨h1, h2⟩, h3⟩, h4⟩), if_pos h6]
              refine ⟨⟨⟨_, rfl⟩, [], by simp⟩, ?_, fun _ _ _ => ⟨_, _, hf⟩, fun _ _ => .inl ⟨_, _, hf⟩⟩
              simp only [weight, if_true, List.map_append, List.sum_append, List.map_cons, List.map_nil, List.sum_cons, List.sum_nil, hl]
              omega
/-- Reading on, tokens and comments stay, and no weight is won. -/
theorem loop_weight (z : Str) (n m : Nat) : ∀ (k : Nat) (s : St), s.Ok [z] m → ((∃ l, (readLoop [z] n k s).2.ts = s.ts ++ l) ∧ ∃ m, (readLoop [z] n k s).2.cs = s.cs ++ m) ∧ weight z (readLoop [z] n k s).2 ≤ weight z s
  | 0, s, _ => ⟨⟨⟨[], by simp [readLoop]⟩, [], by simp [readLoop]⟩, Nat.le_refl _⟩
  | k + 1, s, h => by
    rw [readLoop]
    by_cases hi : s.i < [z].length
    · have hi0 : s.i = 0 := by simpa using hi
      have hj : s.j ≤ z.length := by have := h.j hi; rw [hi0] at this; simpa [lineLen] using this
      have hst := step_weight z n s hi0 hj
      have hok := nextGo_ok [z] m n s hi h
      rw [if_pos hi]
      split
      · exact ⟨hst.1, hst.2.1⟩
      · obtain ⟨⟨⟨l1, e1⟩, l2, e2⟩, h3⟩ := loop_weight z n m k (nextGo [z] n s).2 hok.1
        obtain ⟨⟨⟨l3, e3⟩, l4, e4⟩, h4, _, _⟩ := hst
        exact ⟨⟨⟨l3 ++ l1, by rw [e1, e3, List.append_assoc]⟩, l4 ++ l2, by rw [e2, e4, List.append_assoc]⟩, by omega⟩
    · rw [if_neg hi]
      exact ⟨⟨⟨[], by simp⟩, [], by simp⟩, Nat.le_refl _⟩
/-- The first step of a reading, and the rest. -/
theorem read_first (z : Str) : readAll [z] = if (nextGo [z] (total [z] + 1) st0).1 != 0 then nextGo [z] (total [z] + 1) st0 else readLoop [z] (total [z] + 1) (total [z]) (nextGo [z] (total [z] + 1) st0).2 := by
  show readLoop [z] (total [z] + 1) (total [z] + 1) st0 = _
  rw [readLoop, if_pos (by simp [st0])]
/-- A text whose tokens are the whole text, or that has no comments and does not begin with a blank, begins with a token, the first. -/
theorem first_of_read (z : Str) (u : Tk) (ts : List Tk) (hz : z ≠ []) (h0 : (readAll [z]).1 = 0) (hts : (readAll [z]).2.ts = u :: ts)
    (h : ((readAll [z]).2.ts.map fun t => t.text.length).sum = z.length ∨ ((readAll [z]).2.cs = [] ∧ z.getD 0 0 ≠ 32)) :
    ∃ len, firstTok z = some (u.kind, len) ∧ u.text = z.take len.toNat := by
  have hlen : 0 < z.length := List.length_pos_iff.2 hz
  have hok := st0_ok [z]
  have hi : st0.i < [z].length := by simp [st0]
  have hstep := nextGo_ok [z] (total [z]) (total [z] + 1) st0 hi hok
  have hw := step_weight z (total [z] + 1) st0 rfl (Nat.zero_le _)
  have hloop := loop_weight z (total [z] + 1) (total [z]) (total [z]) (nextGo [z] (total [z] + 1) st0).2 hstep.1
  have hall := read_first z
  have hz1 : (nextGo [z] (total [z] + 1) st0).1 = 0 := by
    cases hc : ((nextGo [z] (total [z] + 1) st0).1 != 0)
    · simpa using hc
    · rw [hall, hc] at h0
      simpa using h0
  rw [hz1] at hall
  simp only [bne_self_eq_false, Bool.false_eq_true, if_false] at hall
  rw [hall] at h hts
  have hf : ∃ k len, firstTok (z.drop 0) = some (k, len) := by
    rcases h with h | ⟨h, hc⟩
    · refine hw.2.2.1 hz1 hlen ?_
      have h1 := hw.2.1
      have h2 := hloop.2
      have h3 : weight z st0 = z.length := by simp [weight, st0]
      have h4 : z.length ≤ weight z (readLoop [z] (total [z] + 1) (total [z]) (nextGo [z] (total [z] + 1) st0).2).2 := by
        unfold weight; rw [h]; omega
      omega
    · rcases hw.2.2.2 hz1 hlen with h1 | h1 | h1
      · exact h1
      · exfalso
        obtain ⟨⟨_, l2, e2⟩, _⟩ := hloop
        obtain ⟨⟨_, l4, e4⟩, _⟩ := hw
        rw [e2, e4] at h
        simp only [st0, List.nil_append, List.append_eq_nil_iff] at h
        rw [e4, h.1] at h1
        exact h1 (by simp)
      · exact absurd h1 hc
  obtain ⟨k, len, hf⟩ := hf
  have hs := step_first z (total [z] + 1) 0 [] [] k len hf
  rw [List.drop_zero] at hf hs
  obtain ⟨⟨⟨l1, e1⟩, _⟩, _⟩ := hloop
  have e2 : nextGo [z] (total [z] + 1) st0 = _ := hs
  rw [e1, e2] at hts
  simp only [List.nil_append, List.cons_append, List.cons.injEq] at hts
  obtain ⟨e3, _⟩ := hts
  refine ⟨len, ?_, ?_⟩
  · rw [← e3]; exact hf
  · rw [← e3]
end Go.Proofs.YtlmmgblghgmgeaaGreatDoor

/- Whether a token stands at the beginning of a text does not depend on how long a rule is. -/
namespace Go.Proofs.YtlmmgblghgmgeaaGreatDoor
open Go Ev
set_option linter.unusedSimpArgs false

theorem tw_stop (p : UInt8 → Bool) (d : UInt8) (hd : p d = false) (t : Str) : ∀ x : Str, (x ++ d :: t).takeWhile p = x.takeWhile p
  | [] => by rw [List.nil_append, List.takeWhile_cons, hd]; rfl
  | a :: x => by
    rw [List.cons_append, List.takeWhile_cons, List.takeWhile_cons, tw_stop p d hd t x]
theorem run_stop (p : UInt8 → Bool) (d : UInt8) (hd : p d = false) (t x : Str) : run p (x ++ d :: t) = run p x := by
  unfold run; rw [tw_stop p d hd]
theorem run_mid (p : UInt8 → Bool) : ∀ (x t : Str), x.all p = false → run p (x ++ t) = run p x
  | [], t, h => by simp at h
  | a :: x, t, h => by
    have := run_mid p x t
    unfold run at this ⊢
    rw [List.cons_append, List.takeWhile_cons, List.takeWhile_cons]
    cases ha : p a
    · rfl
    · simp only [if_true, List.length_cons]
      rw [this (by simpa [ha] using h)]
theorem run_whole (p : UInt8 → Bool) : ∀ (x t : Str), x.all p = true → run p (x ++ t) = x.length + run p t
  | [], t, _ => by simp
  | a :: x, t, h => by
    simp only [List.all_cons, Bool.and_eq_true] at h
    have := run_whole p x t h.2
    unfold run at this ⊢
    rw [List.cons_append, List.takeWhile_cons, if_pos h.1, List.length_cons, this, List.length_cons]; omega
theorem firstTok_rule (c : UInt8) (n : Nat) (hn : 4 ≤ n) (hc : c = 45 ∨ c = 61) (y : Str) :
    firstTok (List.replicate n c ++ y) = some (5, ((n + run (fun b => (b.toNat : Int) == c.toNat) y : Nat) : Int)) := by
  obtain ⟨m, rfl⟩ : ∃ m, n = m + 2 := ⟨n - 2, by omega⟩
  have hrep : List.replicate (m + 2) c ++ y = c :: (c :: List.replicate m c ++ y) := rfl
  have hs : signOf c (c :: List.replicate m c ++ y) = m + 2 + run (fun b => (b.toNat : Int) == c.toNat) y := by
    have h1 : (List.replicate (m + 2) c).all (fun b => (b.toNat : Int) == c.toNat) = true := by
      rw [List.all_eq_true]; intro b hb; rw [(List.mem_replicate.1 hb).2]; simp
    have := run_whole (fun b => (b.toNat : Int) == c.toNat) (List.replicate (m + 2) c) y h1
    rw [List.length_replicate, hrep] at this
    exact this
  have hp : ∀ a b : UInt8, hasPre (c :: (c :: List.replicate m c ++ y)) [a, b] = (a == c && b == c) := fun a b => by
    unfold hasPre
    simp only [List.length_cons, List.length_nil, List.take_succ_cons, List.take_zero, List.cons_append]
    have h1 : decide (0 + 1 + 1 ≤ (List.replicate m c ++ y).length + 1 + 1) = true := by simp
    rw [h1, Bool.true_and]
    show (c == a && (c == b && true)) = _
    rw [Bool.and_true, BEq.comm (a := c) (b := a), BEq.comm (a := c) (b := b)]
  have h4 : decide (4 ≤ m + 2 + run (fun b => (b.toNat : Int) == c.toNat) y) = true := by simp; omega
  rw [hrep]
  unfold firstTok
  simp only
  rcases hc with rfl | rfl
  · rw [hp, hp, hp, pieceT_nw _ _ (by decide), hs, h4]
    simp
  · rw [hp, hp, hp, pieceT_nw _ _ (by decide), hs, h4]
    simp
theorem hasPre_two_cons (c : UInt8) (r t : Str) (d a b : UInt8) (ht : t.head? = some d) : hasPre (c :: (r ++ t)) [a, b] = (c == a && (r.headD d == b)) := by
  cases t with
  | nil => simp at ht
  | cons e t =>
    simp only [List.head?_cons, Option.some.injEq] at ht
    subst ht
    unfold hasPre
    cases r with
    | nil =>
      simp only [List.nil_append, List.length_cons, List.length_nil, List.take_succ_cons, List.take_zero, List.headD]
      have h1 : decide (0 + 1 + 1 ≤ t.length + 1 + 1) = true := by simp
      rw [h1, Bool.true_and]
      show (c == a && (e == b && true)) = _
      rw [Bool.and_true]
    | cons f r =>
      simp only [List.cons_append, List.length_cons, List.length_nil, List.take_succ_cons, List.take_zero, List.headD]
      have h1 : decide (0 + 1 + 1 ≤ (r ++ e :: t).length + 1 + 1) = true := by simp
      rw [h1, Bool.true_and]
      show (c == a && (f == b && true)) = _
      rw [Bool.and_true]
theorem longest_congr (s t : Str) : ∀ (l : List Str) (n : Int), (∀ x ∈ l, hasPre s x = hasPre t x) → longest s n l = longest t n l
  | [], n, _ => rfl
  | x :: l, n, h => by
    show longest s (if hasPre s x then maxI n x.length else n) l = longest t (if hasPre t x then maxI n x.length else n) l
    rw [h x (by simp)]
    exact longest_congr s t l _ fun y hy => h y (List.mem_cons_of_mem _ hy)
theorem sym_prefix (x : Str) (hx : x ≠ []) (d : UInt8) (m : Nat) (hd : d = 45 ∨ d = 61) (hm : 4 ≤ m) (y : Str) (hy : y ∈ allSyms) : hasPre (x ++ List.replicate m d) y = hasPre (x ++ List.replicate 4 d) y := by
  have hpre : x ++ List.replicate 4 d <+: x ++ List.replicate m d := by
    refine ⟨List.replicate (m - 4) d, ?_⟩
    rw [List.append_assoc, List.replicate_append_replicate]
    congr 2; omega
  rw [Bool.eq_iff_iff, hasPre_iff, hasPre_iff]
  constructor
  · intro h
    rcases Nat.lt_or_ge (x.length + 4) y.length with h1 | h1
    · exfalso
      have h2 : x ++ List.replicate 4 d <+: y := List.prefix_of_prefix_length_le hpre h (by simp; omega)
      have hdm : d ∈ y := h2.subset (by simp)
      have hl : 0 < x.length := List.length_pos_iff.2 hx
      have hlong := syms_long y hy
      unfold longOk at hlong
      split at hlong
      · rename_i b r
        split at hlong
        · rename_i hb
          have hd92 : d ≠ 92 := by rcases hd with rfl | rfl <;> decide
          have hdl : letterB d.toNat = false := by rcases hd with rfl | rfl <;> decide
          rcases List.mem_cons.1 hdm with h3 | h3
          · exact hd92 h3
          rcases List.mem_cons.1 h3 with h4 | h4
          · rw [← h4, hdl] at hb; simp at hb
          · have := List.all_eq_true.1 hlong d h4
            rw [hdl] at this; simp at this
        · simp only [List.isEmpty_iff] at hlong
          subst hlong
          simp only [List.length_cons, List.length_nil] at h1
          omega
      · simp only [decide_eq_true_eq] at hlong; omega
    · exact List.prefix_of_prefix_length_le h hpre (by simp; omega)
  · intro h
    exact h.trans hpre
theorem longSym_same (x : Str) (hx : x ≠ []) (d : UInt8) (m : Nat) (hd : d = 45 ∨ d = 61) (hm : 4 ≤ m) : longSym (x ++ List.replicate m d) = longSym (x ++ List.replicate 4 d) := by
  rw [longSym_eq, longSym_eq]
  exact longest_congr _ _ _ _ fun y hy => sym_prefix x hx d m hd hm y hy
theorem indexByte_append (b : UInt8) : ∀ (s t : Str), 0 ≤ Lib.indexByte s b → Lib.indexByte (s ++ t) b = Lib.indexByte s b := by
  intro s t h
  rw [indexByte_run] at h ⊢
  rw [indexByte_run b s]
  split at h
  · omega
  · rename_i h1
    have hall : s.all (fun x => (x.toNat : Int) != b.toNat) = false := by
      cases hc : s.all (fun x => (x.toNat : Int) != b.toNat)
      · rfl
      · exfalso
        have := run_whole _ s [] hc
        rw [List.append_nil] at this
        exact h1 (by rw [this]; simp [run])
    rw [run_mid _ s t hall]
    have hle := run_le (fun x => (x.toNat : Int) != b.toNat) s
    rw [if_neg h1, if_neg (by rw [List.length_append]; omega)]
/-- Before a rule, whose length does not matter. -/
theorem first_before_rule (x : Str) (k : Int) (hx : oneTok x = some k) (hk : k ≠ 5) (d : UInt8) (m : Nat) (hd : d = 45 ∨ d = 61) (hm : 4 ≤ m) :
    firstTok (x ++ List.replicate m d) = some (k, (x.length : Int)) ↔ firstTok (x ++ List.replicate 4 d) = some (k, (x.length : Int)) := by
  cases x with
  | nil => simp [oneTok] at hx
  | cons c r =>
    have hdw : wordB d.toNat = false := by rcases hd with rfl | rfl <;> decide
    have hdd : digitB d.toNat = false := by rcases hd with rfl | rfl <;> decide
    have hdl : letterB d.toNat = false := by rcases hd with rfl | rfl <;> decide
    have hrepm : List.replicate m d = d :: List.replicate (m - 1) d := by
      obtain ⟨m, rfl⟩ : ∃ n, m = n + 1 := ⟨m - 1, by omega⟩
      rfl
    have hrep4 : List.replicate 4 d = d :: List.replicate 3 d := rfl
    have hword : ∀ n, 0 < n → wordOf ((c :: r) ++ List.replicate n d) = wordOf (c :: r) := fun n hn => by
      obtain ⟨n, rfl⟩ : ∃ q, n = q + 1 := ⟨n - 1, by omega⟩
      unfold wordOf
      rw [take_run, take_run]
      exact tw_stop _ d hdw _ _
    have hdig : ∀ n, 0 < n → digitsOf ((c :: r) ++ List.replicate n d) = digitsOf (c :: r) := fun n hn => by
      obtain ⟨n, rfl⟩ : ∃ q, n = q + 1 := ⟨n - 1, by omega⟩
      unfold digitsOf
      rw [take_run, take_run]
      exact tw_stop _ d hdd _ _
    have hlet : ∀ n, 0 < n → run (fun b => letterB b.toNat) (r ++ List.replicate n d) = run (fun b => letterB b.toNat) r := fun n hn => by
      obtain ⟨n, rfl⟩ : ∃ q, n = q + 1 := ⟨n - 1, by omega⟩
      exact run_stop (fun b => letterB b.toNat) d hdl _ _
    have hsym : symT c (r ++ List.replicate m d) = symT c (r ++ List.replicate 4 d) := by
      have := longSym_same (c :: r) (by simp) d m hd hm
      unfold longSym at this
      unfold symT
      rw [hlet m (by omega), hlet 4 (by omega)]
      simp only [List.cons_append] at this
      rw [this]
    have hpre : ∀ a b : UInt8, hasPre (c :: (r ++ List.replicate m d)) [a, b] = hasPre (c :: (r ++ List.replicate 4 d)) [a, b] := fun a b => by
      rw [hasPre_two_cons c r _ d a b (by rw [hrepm]; rfl), hasPre_two_cons c r _ d a b (by rw [hrep4]; rfl)]
    have htext : ((c.toNat : Int) == 34) = true → textT (r ++ List.replicate m d) = textT (r ++ List.replicate 4 d) := fun hc => by
      have h1 : 0 ≤ Lib.indexByte r 34 := by
        rcases Int.lt_or_le (Lib.indexByte r 34) 0 with h2 | h2
        · exfalso
          have hc34 : c.toNat = 34 := by simp at hc; omega
          have hce : c = 34 := byte_of c 34 (by decide) hc34
          unfold oneTok at hx
          simp only at hx
          split at hx
          · simp at hx
          · rw [pieceT_nw c r (by rw [hce]; decide), hc] at hx
            simp only [if_true] at hx
            unfold textT at hx
            rw [if_pos h2] at hx
            simp at hx
        · exact h2
      unfold textT
      rw [indexByte_append 34 r _ h1, indexByte_append 34 r _ h1]
      have hle : (Lib.indexByte r 34).toNat ≤ r.length := by
        have := indexByte_found r 34 (by omega)
        omega
      rw [List.take_append_of_le_length hle, List.take_append_of_le_length hle]
    have hwm := hword m (by omega)
    have hw4 := hword 4 (by omega)
    have hdm := hdig m (by omega)
    have hd4 := hdig 4 (by omega)
    simp only [List.cons_append] at hwm hw4 hdm hd4
    -- a rule's signs just behind such signs are a rule
    by_cases hall : (c :: r).all (fun b => (b.toNat : Int) == c.toNat) = true ∧ c = d
    · obtain ⟨hall, rfl⟩ := hall
      have hrule : ∀ n, 4 ≤ n → firstTok ((c :: r) ++ List.replicate n c) ≠ some (k, ((c :: r).length : Int)) := fun n hn h => by
        have hr : c :: r = List.replicate (r.length + 1) c := by
          refine List.eq_replicate_iff.2 ⟨rfl, fun b hb => ?_⟩
          have := List.all_eq_true.1 hall b hb
          have h9 : (b.toNat : Int) = (c.toNat : Int) := beq_iff_eq.1 this
          exact UInt8.toNat_inj.1 (by omega)
        rw [hr, List.replicate_append_replicate] at h
        have h2 := firstTok_rule c (r.length + 1 + n) (by omega) hd []
        rw [List.append_nil] at h2
        rw [h2] at h
        simp only [Option.some.injEq, Prod.mk.injEq] at h
        exact hk h.1.symm
      exact ⟨fun h => absurd h (hrule m hm), fun h => absurd h (hrule 4 (by omega))⟩
    · have hsign : signOf c (r ++ List.replicate m d) = signOf c (r ++ List.replicate 4 d) := by
        unfold signOf
        by_cases h1 : (c :: r).all (fun b => (b.toNat : Int) == c.toNat) = true
        · have hcd : c ≠ d := fun he => hall ⟨h1, he⟩
          have hpd : ((d.toNat : Int) == c.toNat) = false := by
            have : d.toNat ≠ c.toNat := fun he => hcd (UInt8.toNat_inj.1 he.symm)
            simp; omega
          have e1 := run_stop (fun b => (b.toNat : Int) == c.toNat) d hpd (List.replicate (m - 1) d) (c :: r)
          have e2 := run_stop (fun b => (b.toNat : Int) == c.toNat) d hpd (List.replicate 3 d) (c :: r)
          rw [← hrepm] at e1
          rw [← hrep4] at e2
          exact e1.trans e2.symm
        · have h2 : (c :: r).all (fun b => (b.toNat : Int) == c.toNat) = false := by simpa using h1
          exact (run_mid _ (c :: r) (List.replicate m d) h2).trans (run_mid _ (c :: r) (List.replicate 4 d) h2).symm
      have hpiece : pieceT c (r ++ List.replicate m d) = pieceT c (r ++ List.replicate 4 d) := by
        have hr1 : isRuleB ((c :: (r ++ List.replicate m d)).take (signOf c (r ++ List.replicate m d))) = isRuleB ((c :: (r ++ List.replicate 4 d)).take (signOf c (r ++ List.replicate 4 d))) := by
          rw [rule_eq, rule_eq, hsign]
        unfold pieceT
        rw [hwm, hw4, hdm, hd4, hr1, hsym, hsign]
        split
        · rfl
        split
        · rfl
        split
        · rfl
        split
        · rename_i h5
          exact htext h5
        · rfl
      show firstTok (c :: (r ++ List.replicate m d)) = _ ↔ firstTok (c :: (r ++ List.replicate 4 d)) = _
      unfold firstTok
      simp only
      rw [hpre, hpre, hpre, hpiece]
/-- What is read of two tokens in one text, with the program's way of comparing. -/
theorem isRead_two (a b : Tk) (ha : oneTok a.text = some a.kind) (hb : oneTok b.text = some b.kind) (oa : oddS a.text = false) (ob : oddS b.text = false) :
    isReadP (a.text ++ b.text) [a, b] = (firstTok (a.text ++ b.text) == some (a.kind, (a.text.length : Int))) := by
  have hne : a.text ≠ [] := fun h => by rw [h] at ha; simp [oneTok] at ha
  have ho : oddS (a.text ++ b.text) = false := by
    rw [oddS_any, List.any_append, ← oddS_any, ← oddS_any, oa, ob]; rfl
  unfold isReadP
  rw [ho, Bool.not_false, Bool.true_and]
  cases h : (firstTok (a.text ++ b.text) == some (a.kind, (a.text.length : Int)))
  · cases h1 : ((readAll [a.text ++ b.text]).1 == 0 && eqKT (readAll [a.text ++ b.text]).2.ts [a, b])
    · rfl
    · exfalso
      simp only [Bool.and_eq_true, beq_iff_eq] at h1
      obtain ⟨e1, e2⟩ := h1
      match hts : (readAll [a.text ++ b.text]).2.ts, e2 with
      | [u, v], e2 =>
        simp only [eqKT, Bool.and_eq_true, beq_iff_eq, Bool.and_true] at e2
        obtain ⟨⟨k1, t1⟩, k2, t2⟩ := e2
        obtain ⟨len, hf, hx⟩ := first_of_read _ u [v] (by simp [hne]) e1 hts (.inl (by rw [hts]; simp [t1, t2]))
        have hp := first_pos _ _ _ hf
        have hl := congrArg List.length hx
        rw [t1, List.length_take] at hl
        have : len = (a.text.length : Int) := by omega
        rw [hf, k1, this] at h
        simp at h
      | [], e2 => simp [eqKT] at e2
      | [u], e2 => simp [eqKT] at e2
      | u :: v :: w :: t, e2 => simp [eqKT] at e2
  · have h : firstTok (a.text ++ b.text) = some (a.kind, (a.text.length : Int)) := by simpa using h
    rw [two_read a.text b.text a.kind b.kind h hb]
    simp [eqKT]
/-- And with the reference's. -/
theorem twoRead_two (x y : Str) (ka kb : Int) (ha : oneTok x = some ka) (hb : oneTok y = some kb) (oa : oddS x = false) (ob : oddS y = false) (hl : x.length + y.length ≤ 120) :
    twoRead (refReadP [x ++ y]) ka x kb = (firstTok (x ++ y) == some (ka, (x.length : Int))) := by
  have hne : x ≠ [] := fun h => by rw [h] at ha; simp [oneTok] at ha
  have ho : oddS (x ++ y) = false := by
    rw [oddS_any, List.any_append, ← oddS_any, ← oddS_any, oa, ob]; rfl
  have hle : lineErr (x ++ y) = 0 := by
    have := lineErr_zero (x ++ y)
    have h2 : (x ++ y).length ≤ 120 := by rw [List.length_append]; exact hl
    rw [ho, decide_eq_true h2] at this
    exact beq_iff_eq.1 this
  rw [← read_same]
  unfold readP
  have hck : (checkLinesP [x ++ y]).2 = 0 := by
    unfold checkLinesP linesGo linesGo
    simp [hle]
  rw [hck]
  simp only [bne_self_eq_false, Bool.false_eq_true, if_false]
  cases h : (firstTok (x ++ y) == some (ka, (x.length : Int)))
  · cases h2 : (readAll [x ++ y]).1 != 0
    · have e1 : (readAll [x ++ y]).1 = 0 := by simpa using h2
      simp only [Bool.false_eq_true, if_false]
      cases h3 : decide (((readAll [x ++ y]).2.ts.length : Int) > 1200)
      · simp only [Bool.false_eq_true, if_false]
        unfold twoRead
        simp only [bne_self_eq_false, Bool.not_false, Bool.true_and]
        match hcs : (readAll [x ++ y]).2.cs, hts : (readAll [x ++ y]).2.ts with
        | [], [u, v] =>
          simp only
          cases h4 : (u.text == x && (u.kind == ka && v.kind == kb))
          · rfl
          · exfalso
            simp only [Bool.and_eq_true, beq_iff_eq] at h4
            obtain ⟨t1, k1, k2⟩ := h4
            have h32 : (x ++ y).getD 0 0 ≠ 32 := by
              cases x with
              | nil => exact absurd rfl hne
              | cons c r =>
                intro hc
                have hc : c = 32 := hc
                subst hc
                simp [oneTok] at ha
            obtain ⟨len, hf, hx⟩ := first_of_read _ u [v] (by simp [hne]) e1 hts (.inr ⟨hcs, h32⟩)
            have hp := first_pos _ _ _ hf
            have hl := congrArg List.length hx
            rw [t1, List.length_take] at hl
            have : len = (x.length : Int) := by omega
            rw [hf, k1, this] at h
            simp at h
        | [], [] => rfl
        | [], [_] => rfl
        | [], _ :: _ :: _ :: _ => rfl
        | _ :: _, _ => rfl
      · simp [twoRead]
    · have : (readAll [x ++ y]).1 ≠ 0 := by simpa using h2
      simp [twoRead, this]
  · have h : firstTok (x ++ y) = some (ka, (x.length : Int)) := by simpa using h
    rw [two_read x y ka kb h hb]
    simp [twoRead]
/-- A right token's text. -/
theorem right_tok (t : Tk) (h : textErrP t = 0) : oneTok t.text = some t.kind ∧ oddS t.text = false := by
  unfold textErrP at h
  split at h
  · split at h
    · rename_i h1
      rw [isRead_one] at h1
      simpa [and_comm] using h1
    · simp at h
  · simp at h
theorem short_tok (t : Tk) (h : textErrP t = 0) : oneTok (shortT t) = some t.kind ∧ oddS (shortT t) = false ∧ (shortT t).length ≤ 60 ∧ ((t.kind ≠ 5 ∧ shortT t = t.text) ∨ (t.kind = 5 ∧ ∃ n d, 4 ≤ n ∧ (d = 45 ∨ d = 61) ∧ t.text = List.replicate n d ∧ shortT t = List.replicate 4 d)) := by
  obtain ⟨h1, h2⟩ := right_tok t h
  rcases oneTok_small _ _ h1 with ⟨h3, h4⟩ | ⟨h3, h4, d, h5⟩
  · have : shortT t = t.text := by unfold shortT; rw [show (t.kind == 5) = false by simpa using h3]; rfl
    rw [this]
    exact ⟨h1, h2, h4, .inl ⟨h3, rfl⟩⟩
  · generalize hn : t.text.length = n at h4 h5
    rw [h5, h3] at h1
    have hd := (oneTok_rule n d h4).1 h1
    have hs : shortT t = List.replicate 4 d := by
      unfold shortT
      rw [h3, h5]
      simp only [beq_self_eq_true, if_true]
      rw [List.take_replicate]; congr 1; omega
    rw [hs, h3]
    exact ⟨(oneTok_rule 4 d (by omega)).2 hd, odd_rule 4 d hd, by simp, .inr ⟨rfl, n, d, h4, hd, h5, rfl⟩⟩
/-- Which tokens must be apart is the reference's. -/
theorem apart_same (a b : Tk) (ha : textErrP a = 0) (hb : textErrP b = 0) : apartP a b = rApart a b := by
  obtain ⟨a1, a2⟩ := right_tok a ha
  obtain ⟨b1, b2⟩ := right_tok b hb
  obtain ⟨sa1, sa2, sa3, sa4⟩ := short_tok a ha
  obtain ⟨sb1, sb2, sb3, sb4⟩ := short_tok b hb
  unfold apartP rApart
  rw [isRead_two a b a1 b1 a2 b2, twoRead_two _ _ _ _ sa1 sb1 sa2 sb2 (by omega)]
  congr 1
  rw [Bool.eq_iff_iff, beq_iff_eq, beq_iff_eq]
  rcases sa4 with ⟨h1, h2⟩ | ⟨h1, n, d, h2, h3, h4, h5⟩
  · rw [h2]
    rcases sb4 with ⟨h6, h7⟩ | ⟨h6, m, e, h7, h8, h9, h10⟩
    · rw [h7]
    · rw [h9, h10]
      exact first_before_rule a.text a.kind a1 h1 e m h8 h7
  · rw [h4, h5, firstTok_rule d n h2 h3, firstTok_rule d 4 (by omega) h3]
    have hrun : run (fun b => (b.toNat : Int) == d.toNat) b.text = 0 ↔ run (fun b => (b.toNat : Int) == d.toNat) (shortT b) = 0 := by
      rcases sb4 with ⟨h6, h7⟩ | ⟨h6, m, e, h7, h8, h9, h10⟩
      · rw [h7]
      · rw [h9, h10]
        obtain ⟨m, rfl⟩ : ∃ q, m = q + 1 := ⟨m - 1, by omega⟩
        have hz : ∀ n, run (fun b => (b.toNat : Int) == d.toNat) (List.replicate (n + 1) e) = 0 ↔ ((e.toNat : Int) == d.toNat) = false := fun n => by
          unfold run
          rw [List.replicate_succ, List.takeWhile_cons]
          cases ((e.toNat : Int) == d.toNat) <;> simp
        rw [hz m, hz 3]
    simp only [Option.some.injEq, Prod.mk.injEq, List.length_replicate, h1, true_and]
    constructor
    · intro h
      have : run (fun b => (b.toNat : Int) == d.toNat) b.text = 0 := by omega
      have := hrun.1 this
      omega
    · intro h
      have : run (fun b => (b.toNat : Int) == d.toNat) (shortT b) = 0 := by omega
      have := hrun.2 this
      omega
end Go.Proofs.YtlmmgblghgmgeaaGreatDoor

/- A token's error is the reference's. -/
namespace Go.Proofs.YtlmmgblghgmgeaaGreatDoor
open Go Ev
set_option linter.unusedSimpArgs false

theorem checkToken_same (t : Tk) : checkTokenP t = tokenErrP t := by
  unfold checkTokenP tokenErrP
  rw [bare_same]
  generalize textErrP t = e
  by_cases h : e = 0
  · subst h
    cases spansB t.line 0 299 <;> cases spansB t.col 0 (120 - t.text.length) <;> rfl
  · have h1 : (e != 0) = true := by simpa using h
    rw [h1]
    simp only [firstOf, if_neg h, if_true]
end Go.Proofs.YtlmmgblghgmgeaaGreatDoor

/- Which tokens must be apart, by the reference, evaluated: neither is a rule. -/
namespace Go.Proofs.YtlmmgblghgmgeaaGreatDoor
open Go Ev
set_option maxRecDepth 100000
set_option linter.unusedSimpArgs false
attribute [local simp] dFor_none storeFine_none dFor_no storeFine_no lessL lkL evCode_exit evCode_seq evCode_plain evCode_draw evCode_cond evCode_ret evCode_skip evCode_block evCode_loop roundK_normal roundK_exit roundK_ret seqK_normal seqK_exit seqK_ret blockK_normal blockK_exit blockK_ret regK_eq evOps_nil evOps_cons params astep okDst isWanted aop opnd ofValue putT abin headS ofL noPtr acall adopt_bool adopt_int adopt_str adopt_agg adopt_clip upd_false AV.cells partOf setCells fillC AV.isVal List.range List.range.loop ofB mayRead dsts planRo capIds viewed scalarR AV.scalar bare_undef bare_bool bare_int bare_str bare_snil bare_snone bare_sclip bare_srow bare_ptr bare_eptr bare_pnil bare_fn bare_fnil bare_agg bare_tup passed setBoxes killNames addNames freshAll adopt resParts resBack relabB relabL namesOf cellsOfB boxName row_undef row_bool row_int row_str row_snil row_snone row_sclip row_srow row_ptr row_eptr row_pnil row_fn row_fnil row_agg row_tup relab_undef relab_bool relab_int relab_str relab_snil relab_snone relab_sclip relab_srow relab_ptr relab_eptr relab_pnil relab_fn relab_fnil relab_agg relab_tup relab_sgrow finK freezeT avAll resOf outBoxes AV.untup

set_option maxHeartbeats 8000000 in
theorem rapart_ev1 (a b : Tk) (ha : a.kind = 5 → 4 ≤ a.text.length) (hb : b.kind = 5 → 4 ≤ b.text.length) (hla : a.text.length < 2 ^ 38) (hlb : b.text.length < 2 ^ 38) (k5 : (a.kind == 5) = false) (k6 : (b.kind == 5) = false) : evc plan 13 [.agg (tkC a), .agg (tkC b)] [] = some (.bool (rApart a b), []) := by
  refine evc_start plan (P := Tryz.prog) (ro := planRo) rfl rfl rfl rfl rfl rfl (by simp) rfl ?_
  have hsa := short_ev a ha
  have hsb := short_ev b hb
  have hr := rread_ev [shortT a ++ shortT b] .clip fx_clip (by simp)
  have hV : rApart a b = !twoRead (refReadP [shortT a ++ shortT b]) a.kind (shortT a) b.kind := rfl
  have hXa : shortT a = if a.kind == 5 then a.text.take 4 else a.text := rfl
  have hXb : shortT b = if b.kind == 5 then b.text.take 4 else b.text := rfl
  have hlX : (shortT a).length + (shortT b).length ≤ 9223372036854775807 := by
    have h1 : (shortT a).length ≤ a.text.length := by unfold shortT; split <;> simp [List.length_take] <;> omega
    have h2 : (shortT b).length ≤ b.text.length := by unfold shortT; split <;> simp [List.length_take] <;> omega
    omega
  generalize rApart a b = V at hV ⊢
  generalize refReadP [shortT a ++ shortT b] = r at hr hV
  have hst : ∀ x : Str, strs [x] = [[.str x]] := fun _ => rfl
  rw [hst] at hr
  obtain ⟨ka, xa, la, ca⟩ := a
  obtain ⟨kb, xb, lb, cb⟩ := b
  generalize shortT ⟨ka, xa, la, ca⟩ = X at *
  generalize shortT ⟨kb, xb, lb, cb⟩ = Y at *
  unfold tkC at hsa hsb
  simp only at hXa hXb hV hsa hsb hla hlb k5 k6
  obtain ⟨e, rl, rc, ts, cs⟩ := r
  simp only [k5, k6, Bool.false_eq_true, if_false] at hXa hXb
  subst hXa
  subst hXb
  unfold twoRead at hV
  cases h2 : e != 0
  · have he : e = 0 := by simpa using h2
    subst he
    cases cs with
    | cons cc cs' =>
      simp at hV; subst hV
      simp [-Int.natCast_add, dFor, storeFine, looseAt, isBox, exposed, rootsOf, lvApart, noKeep, List.lookup, tkC, hsa, hsb, hr, hlX, k5, k6, h2, rdAV, slTk, slSp, spC]
    | nil =>
      match ts, hV, hr with
      | [], hV, hr =>
        simp at hV; subst hV
        simp [-Int.natCast_add, dFor, storeFine, looseAt, isBox, exposed, rootsOf, lvApart, noKeep, List.lookup, tkC, hsa, hsb, hr, hlX, k5, k6, h2, rdAV, slTk, slSp, spC]
      | [u], hV, hr =>
        simp at hV; subst hV
        simp [-Int.natCast_add, dFor, storeFine, looseAt, isBox, exposed, rootsOf, lvApart, noKeep, List.lookup, tkC, hsa, hsb, hr, hlX, k5, k6, h2, rdAV, slTk, slSp, spC]
      | [u, v], hV, hr =>
        cases h3 : u.text == X
        · simp [h3] at hV; subst hV
          simp [-Int.natCast_add, dFor, storeFine, looseAt, isBox, exposed, rootsOf, lvApart, noKeep, List.lookup, tkC, hsa, hsb, hr, hlX, k5, k6, h2, h3, rdAV, slTk, slSp, spC]
        · have h4' : (u.kind != ka) = !(u.kind == ka) := rfl
          have h5' : (v.kind != kb) = !(v.kind == kb) := rfl
          cases h4 : u.kind == ka
          · rw [h4] at h4'
            simp [h3, h4] at hV; subst hV
            simp [-Int.natCast_add, dFor, storeFine, looseAt, isBox, exposed, rootsOf, lvApart, noKeep, List.lookup, tkC, hsa, hsb, hr, hlX, k5, k6, h2, h3, h4, h4', rdAV, slTk, slSp, spC]
          · rw [h4] at h4'
            cases h5 : v.kind == kb
            · rw [h5] at h5'
              simp [h3, h4, h5] at hV; subst hV
              simp [-Int.natCast_add, dFor, storeFine, looseAt, isBox, exposed, rootsOf, lvApart, noKeep, List.lookup, tkC, hsa, hsb, hr, hlX, k5, k6, h2, h3, h4, h4', h5, h5', rdAV, slTk, slSp, spC]
            · rw [h5] at h5'
              simp [h3, h4, h5] at hV; subst hV
              simp [-Int.natCast_add, dFor, storeFine, looseAt, isBox, exposed, rootsOf, lvApart, noKeep, List.lookup, tkC, hsa, hsb, hr, hlX, k5, k6, h2, h3, h4, h4', h5, h5', rdAV, slTk, slSp, spC]
      | u :: v :: w :: ts', hV, hr =>
        simp at hV; subst hV
        have h6 : (((ts'.length + 1 + 1 + 1 : Nat) : Int) != 2) = true := by simp; omega
        simp [-Int.natCast_add, dFor, storeFine, looseAt, isBox, exposed, rootsOf, lvApart, noKeep, List.lookup, tkC, hsa, hsb, hr, hlX, k5, k6, h2, h6, rdAV, slTk, slSp, spC]
  · simp [h2] at hV; subst hV
    have he : e ≠ 0 := by simpa using h2
    simp [-Int.natCast_add, dFor, storeFine, looseAt, isBox, exposed, rootsOf, lvApart, noKeep, List.lookup, tkC, hsa, hsb, hr, hlX, k5, k6, h2, he, rdAV, slTk, slSp, spC]
end Go.Proofs.YtlmmgblghgmgeaaGreatDoor

/- Which tokens must be apart, by the reference, evaluated: the second is a rule. -/
namespace Go.Proofs.YtlmmgblghgmgeaaGreatDoor
open Go Ev
set_option maxRecDepth 100000
set_option linter.unusedSimpArgs false
attribute [local simp] dFor_none storeFine_none dFor_no storeFine_no lessL lkL evCode_exit evCode_seq evCode_plain evCode_draw evCode_cond evCode_ret evCode_skip evCode_block evCode_loop roundK_normal roundK_exit roundK_ret seqK_normal seqK_exit seqK_ret blockK_normal blockK_exit blockK_ret regK_eq evOps_nil evOps_cons params astep okDst isWanted aop opnd ofValue putT abin headS ofL noPtr acall adopt_bool adopt_int adopt_str adopt_agg adopt_clip upd_false AV.cells partOf setCells fillC AV.isVal List.range List.range.loop ofB mayRead dsts planRo capIds viewed scalarR AV.scalar bare_undef bare_bool bare_int bare_str bare_snil bare_snone bare_sclip bare_srow bare_ptr bare_eptr bare_pnil bare_fn bare_fnil bare_agg bare_tup passed setBoxes killNames addNames freshAll adopt resParts resBack relabB relabL namesOf cellsOfB boxName row_undef row_bool row_int row_str row_snil row_snone row_sclip row_srow row_ptr row_eptr row_pnil row_fn row_fnil row_agg row_tup relab_undef relab_bool relab_int relab_str relab_snil relab_snone relab_sclip relab_srow relab_ptr relab_eptr relab_pnil relab_fn relab_fnil relab_agg relab_tup relab_sgrow finK freezeT avAll resOf outBoxes AV.untup

set_option maxHeartbeats 8000000 in
theorem rapart_ev2 (a b : Tk) (ha : a.kind = 5 → 4 ≤ a.text.length) (hb : b.kind = 5 → 4 ≤ b.text.length) (hla : a.text.length < 2 ^ 38) (hlb : b.text.length < 2 ^ 38) (k5 : (a.kind == 5) = false) (k6 : (b.kind == 5) = true) : evc plan 13 [.agg (tkC a), .agg (tkC b)] [] = some (.bool (rApart a b), []) := by
  refine evc_start plan (P := Tryz.prog) (ro := planRo) rfl rfl rfl rfl rfl rfl (by simp) rfl ?_
  have hsa := short_ev a ha
  have hsb := short_ev b hb
  have hr := rread_ev [shortT a ++ shortT b] .clip fx_clip (by simp)
  have hV : rApart a b = !twoRead (refReadP [shortT a ++ shortT b]) a.kind (shortT a) b.kind := rfl
  have hXa : shortT a = if a.kind == 5 then a.text.take 4 else a.text := rfl
  have hXb : shortT b = if b.kind == 5 then b.text.take 4 else b.text := rfl
  have hlX : (shortT a).length + (shortT b).length ≤ 9223372036854775807 := by
    have h1 : (shortT a).length ≤ a.text.length := by unfold shortT; split <;> simp [List.length_take] <;> omega
    have h2 : (shortT b).length ≤ b.text.length := by unfold shortT; split <;> simp [List.length_take] <;> omega
    omega
  generalize rApart a b = V at hV ⊢
  generalize refReadP [shortT a ++ shortT b] = r at hr hV
  have hst : ∀ x : Str, strs [x] = [[.str x]] := fun _ => rfl
  rw [hst] at hr
  obtain ⟨ka, xa, la, ca⟩ := a
  obtain ⟨kb, xb, lb, cb⟩ := b
  generalize shortT ⟨ka, xa, la, ca⟩ = X at *
  generalize shortT ⟨kb, xb, lb, cb⟩ = Y at *
  unfold tkC at hsa hsb
  simp only at hXa hXb hV hsa hsb hla hlb k5 k6
  obtain ⟨e, rl, rc, ts, cs⟩ := r
  clear hXa hXb
  unfold twoRead at hV
  cases h2 : e != 0
  · have he : e = 0 := by simpa using h2
    subst he
    cases cs with
    | cons cc cs' =>
      simp at hV; subst hV
      simp [-Int.natCast_add, dFor, storeFine, looseAt, isBox, exposed, rootsOf, lvApart, noKeep, List.lookup, tkC, hsa, hsb, hr, hlX, k5, k6, h2, rdAV, slTk, slSp, spC]
    | nil =>
      match ts, hV, hr with
      | [], hV, hr =>
        simp at hV; subst hV
        simp [-Int.natCast_add, dFor, storeFine, looseAt, isBox, exposed, rootsOf, lvApart, noKeep, List.lookup, tkC, hsa, hsb, hr, hlX, k5, k6, h2, rdAV, slTk, slSp, spC]
      | [u], hV, hr =>
        simp at hV; subst hV
        simp [-Int.natCast_add, dFor, storeFine, looseAt, isBox, exposed, rootsOf, lvApart, noKeep, List.lookup, tkC, hsa, hsb, hr, hlX, k5, k6, h2, rdAV, slTk, slSp, spC]
      | [u, v], hV, hr =>
        cases h3 : u.text == X
        · simp [h3] at hV; subst hV
          simp [-Int.natCast_add, dFor, storeFine, looseAt, isBox, exposed, rootsOf, lvApart, noKeep, List.lookup, tkC, hsa, hsb, hr, hlX, k5, k6, h2, h3, rdAV, slTk, slSp, spC]
        · have h4' : (u.kind != ka) = !(u.kind == ka) := rfl
          have h5' : (v.kind != kb) = !(v.kind == kb) := rfl
          cases h4 : u.kind == ka
          · rw [h4] at h4'
            simp [h3, h4] at hV; subst hV
            simp [-Int.natCast_add, dFor, storeFine, looseAt, isBox, exposed, rootsOf, lvApart, noKeep, List.lookup, tkC, hsa, hsb, hr, hlX, k5, k6, h2, h3, h4, h4', rdAV, slTk, slSp, spC]
          · rw [h4] at h4'
            cases h5 : v.kind == kb
            · rw [h5] at h5'
              simp [h3, h4, h5] at hV; subst hV
              simp [-Int.natCast_add, dFor, storeFine, looseAt, isBox, exposed, rootsOf, lvApart, noKeep, List.lookup, tkC, hsa, hsb, hr, hlX, k5, k6, h2, h3, h4, h4', h5, h5', rdAV, slTk, slSp, spC]
            · rw [h5] at h5'
              simp [h3, h4, h5] at hV; subst hV
              simp [-Int.natCast_add, dFor, storeFine, looseAt, isBox, exposed, rootsOf, lvApart, noKeep, List.lookup, tkC, hsa, hsb, hr, hlX, k5, k6, h2, h3, h4, h4', h5, h5', rdAV, slTk, slSp, spC]
      | u :: v :: w :: ts', hV, hr =>
        simp at hV; subst hV
        have h6 : (((ts'.length + 1 + 1 + 1 : Nat) : Int) != 2) = true := by simp; omega
        simp [-Int.natCast_add, dFor, storeFine, looseAt, isBox, exposed, rootsOf, lvApart, noKeep, List.lookup, tkC, hsa, hsb, hr, hlX, k5, k6, h2, h6, rdAV, slTk, slSp, spC]
  · simp [h2] at hV; subst hV
    have he : e ≠ 0 := by simpa using h2
    simp [-Int.natCast_add, dFor, storeFine, looseAt, isBox, exposed, rootsOf, lvApart, noKeep, List.lookup, tkC, hsa, hsb, hr, hlX, k5, k6, h2, he, rdAV, slTk, slSp, spC]
end Go.Proofs.YtlmmgblghgmgeaaGreatDoor
