/- One token alone, both ways. -/
import Derived.Test.YtlmmgblghgmgeaaGreatDoorPureG
namespace Go.Proofs.YtlmmgblghgmgeaaGreatDoor
open Go Ev
set_option linter.unusedSimpArgs false

theorem read_one (x : Str) (u : Tk) (h0 : (readAll [x]).1 = 0) (h : (readAll [x]).2.ts = [u]) (hu : u.text = x) : oneTok x = some u.kind := by
  have hT : total [x] = x.length + 1 := total_one x
  have hok := st0_ok [x]
  have hi : st0.i < [x].length := by simp [st0]
  have hstep := nextGo_ok [x] (total [x]) (total [x] + 1) st0 hi hok
  have hloop := loop_tokens x (total [x] + 1) (total [x]) (total [x]) (nextGo [x] (total [x] + 1) st0).2 hstep.1
  have hall : readAll [x] = if (nextGo [x] (total [x] + 1) st0).1 != 0 then nextGo [x] (total [x] + 1) st0 else readLoop [x] (total [x] + 1) (total [x]) (nextGo [x] (total [x] + 1) st0).2 := by
    show readLoop [x] (total [x] + 1) (total [x] + 1) st0 = _
    rw [readLoop, if_pos hi]
  have hz : (nextGo [x] (total [x] + 1) st0).1 = 0 := by
    cases hc : ((nextGo [x] (total [x] + 1) st0).1 != 0)
    · simpa using hc
    · rw [hall, hc] at h0
      simpa using h0
  rw [hall, hz] at h
  simp only [bne_self_eq_false, Bool.false_eq_true, if_false] at h
  have hleft := hstep.2 hz
  obtain ⟨l, hl, hlt⟩ := hloop
  rw [hl] at h
  have hpos : (nextGo [x] (total [x] + 1) st0).2.i = 0 → 0 < (nextGo [x] (total [x] + 1) st0).2.j := fun hi0 => by
    rcases Nat.lt_or_ge 0 (nextGo [x] (total [x] + 1) st0).2.j with h1 | h1
    · exact h1
    · exfalso
      have : (nextGo [x] (total [x] + 1) st0).2.j = 0 := by omega
      rw [hi0, this] at hleft
      exact Nat.lt_irrefl _ hleft
  have hnot : (nextGo [x] (total [x] + 1) st0).2.ts = [] → False := fun hts => by
    rw [hts, List.nil_append] at h
    obtain ⟨q1, q2⟩ := hlt u (by rw [h]; simp)
    rw [hu] at q2
    have := hpos q1
    omega
  cases x with
  | nil => exact (hnot rfl).elim
  | cons c r =>
    unfold oneTok
    simp only
    have hg : ([c :: r] : List Str).getD 0 [] = c :: r := rfl
    have hn := hnot
    have hzz := hz
    unfold nextGo st0 at hn hzz h
    simp only [hg, List.drop_zero] at hn hzz h
    cases h1 : ((c.toNat : Int) == 32)
    · rw [h1] at hn hzz h
      simp only [Bool.false_eq_true, if_false] at hn hzz h
      cases h2 : hasPre (c :: r) [40, 42]
      · rw [h2] at hn hzz h
        simp only [Bool.false_eq_true, if_false] at hn hzz h
        cases h3 : hasPre (c :: r) [92, 42]
        · rw [h3] at hn hzz h
          simp only [Bool.false_eq_true, if_false] at hn hzz h
          cases h4 : hasPre (c :: r) [42, 41]
          · rw [h4] at hn hzz h
            simp only [Bool.false_eq_true, if_false] at hn hzz h
            cases h5 : ((pieceT c r).err != 0)
            · rw [h5] at h
              simp only [Bool.false_eq_true, if_false, List.nil_append, List.cons_append] at h
              have h6 : (pieceT c r).err = 0 := by simpa using h5
              obtain ⟨h7, h8⟩ := pieceT_len c r h6
              obtain ⟨e1, _⟩ := List.cons.inj h
              have e2 : ((c :: r).take (pieceT c r).len.toNat) = c :: r := by
                have := congrArg Tk.text e1
                simp only at this
                rw [this, hu]
              have e3 := congrArg List.length e2
              rw [List.length_take, List.length_cons] at e3
              have e4 : (pieceT c r).len = ((r.length + 1 : Nat) : Int) := by omega
              simp only [Bool.or_false, Bool.false_eq_true, if_false]
              rw [if_pos ⟨h6, e4⟩]
              rw [← e1]
            · rw [h5] at hn
              simp only [if_true] at hn
              exact absurd hn (by simp)
          · rw [h4] at hn
            simp only [if_true] at hn
            exact absurd hn (by simp)
        · rw [h3] at hn
          simp only [if_true] at hn
          exact absurd hn (by simp)
      · rw [h2] at hn
        simp only [if_true] at hn
        exfalso
        split at hn
        · exact hn rfl
        · exact hn rfl
    · rw [h1] at hn
      simp only [if_true] at hn
      exact absurd hn (by simp)
theorem isRead_one (t : Tk) : isReadP t.text [t] = (!oddS t.text && oneTok t.text == some t.kind) := by
  unfold isReadP
  congr 1
  cases h1 : ((readAll [t.text]).1 == 0 && eqKT (readAll [t.text]).2.ts [t])
  · cases h2 : (oneTok t.text == some t.kind)
    · rfl
    · exfalso
      have h2 : oneTok t.text = some t.kind := by simpa using h2
      have := oneTok_read t.text t.kind h2
      rw [this] at h1
      simp [eqKT] at h1
  · simp only [Bool.and_eq_true, beq_iff_eq] at h1
    obtain ⟨e1, e2⟩ := h1
    match hts : (readAll [t.text]).2.ts, e2 with
    | [], e2 => simp [eqKT] at e2
    | [u], e2 =>
      simp [eqKT] at e2
      have := read_one t.text u e1 hts e2.2
      rw [this, e2.1]; simp
    | u :: v :: w, e2 => simp [eqKT] at e2
/-- The reference's one token alone. -/
theorem oneRead_eq (x : Str) (k : Int) : oneRead (refReadP [x]) k x = (lineErr x == 0 && oneTok x == some k) := by
  rw [← read_same]
  unfold readP
  have hck : (checkLinesP [x]).2 = lineErr x := by
    unfold checkLinesP linesGo linesGo
    simp only [List.length_cons, List.length_nil]
    cases h : lineErr x != 0
    · have : lineErr x = 0 := by simpa using h
      simp [this]
    · simp
  rw [hck]
  cases h0 : lineErr x != 0
  · have e0 : lineErr x = 0 := by simpa using h0
    rw [e0]
    simp only [Bool.false_eq_true, if_false, beq_self_eq_true, Bool.true_and]
    cases h1 : oneTok x == some k
    · cases h2 : (readAll [x]).1 != 0
      · have e1 : (readAll [x]).1 = 0 := by simpa using h2
        simp only [Bool.false_eq_true, if_false]
        cases h3 : decide (((readAll [x]).2.ts.length : Int) > 1200)
        · simp only [Bool.false_eq_true, if_false]
          unfold oneRead
          simp only [bne_self_eq_false, Bool.not_false, Bool.true_and]
          match hcs : (readAll [x]).2.cs, hts : (readAll [x]).2.ts with
          | [], [u] =>
            simp only
            cases h4 : (u.text == x && u.kind == k)
            · rfl
            · exfalso
              simp only [Bool.and_eq_true, beq_iff_eq] at h4
              have := read_one x u e1 hts h4.1
              rw [this, h4.2] at h1
              simp at h1
          | [], [] => rfl
          | [], _ :: _ :: _ => rfl
          | _ :: _, _ => rfl
        · simp [oneRead]
      · have : (readAll [x]).1 ≠ 0 := by simpa using h2
        simp [oneRead, this]
    · have h1 : oneTok x = some k := by simpa using h1
      have := oneTok_read x k h1
      rw [this]
      simp [oneRead]
  · have : lineErr x ≠ 0 := by simpa using h0
    simp [oneRead, this]
end Go.Proofs.YtlmmgblghgmgeaaGreatDoor
