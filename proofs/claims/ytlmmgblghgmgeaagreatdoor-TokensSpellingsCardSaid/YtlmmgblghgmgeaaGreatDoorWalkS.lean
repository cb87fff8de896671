/- All symbols of the program, sorted: evaluated. -/
import Derived.Test.YtlmmgblghgmgeaaGreatDoorWalkR
import Derived.Test.YtlmmgblghgmgeaaGreatDoorSort
import Derived.Test.YtlmmgblghgmgeaaGreatDoorRefD
namespace Go.Proofs.YtlmmgblghgmgeaaGreatDoor
open Go Ev Go.RowKit Go.Sort
set_option maxRecDepth 100000
set_option linter.unusedSimpArgs false

def leS (x y : Str) : Bool := decide (x ≤ y)
theorem sort_inpl (l : List Str) (hl : l.length < 2 ^ 60) : InplCall Tryz.prog 61 1 (strs l) (strs (l.mergeSort leS)) := by
  refine ⟨Tryz.call61, by simp [strs], by simp [strs], fun w g cap cs el hh hcap hsz hel => ?_⟩
  have hcell : ∀ j (hj : j < l.length), cs[j]? = some (encStr l[j]) := fun j hj => by
    obtain ⟨u, o, w', h1, h2⟩ := hel j 0 [.str l[j]] (.str l[j]) (by simp [strs, hj]) rfl
    rw [Nat.mul_one, Nat.add_zero] at h1
    rw [h1]
    cases h2; rfl
  have hH : Holds encStr w g 0 l.toArray := fun j hj => by
    have hj' : j < l.length := by simpa using hj
    refine ⟨?_, ?_⟩
    · rw [Nat.zero_add, heap_cell hh, hcell j hj', getElem!_pos _ j hj]
      simp
    · simp [World.frozen?, hh]
  have hlen : (strs l).length = l.length := by simp [strs]
  rw [hlen]
  refine (Tryz.slices_Sort_string g 0 cap l w hH (lt_of_heap hh) (by omega)).mono ?_
  rintro e w' ⟨rfl, n, os, rfl⟩
  have hfn : (l.mergeSort fun x y => decide (x ≤ y)) = l.mergeSort leS := rfl
  rw [hfn]
  have hml : (l.mergeSort leS).length = l.length := by simp
  generalize l.mergeSort leS = d at hml
  have hold : ∀ k, k < w.heap.size → (grow (putRow encStr (Sort.ahead w n) g 0 d.toArray) os).heap[k]? = if g = k then (w.heap[k]?).map (onCells (putCells encStr 0 d.toArray)) else w.heap[k]? := fun k hk => by
    show ((w.heap.modify g (onCells (putCells encStr 0 d.toArray))) ++ os)[k]? = _
    rw [Array.getElem?_append_left (by simpa using hk), Array.getElem?_modify]
  refine ⟨_, putCells encStr 0 d.toArray cs, rfl, ?_, rfl, rfl, rfl, fun k hk hne => ?_, ?_, by simp [putCells], fun i j e x hi hj => ?_⟩
  · show w.heap.size ≤ ((w.heap.modify g (onCells (putCells encStr 0 d.toArray))) ++ os).size
    simp
  · rw [hold k hk, if_neg fun he => hne he.symm]
  · rw [hold g (lt_of_heap hh), if_pos rfl, hh]; rfl
  · simp only [strs, List.getElem?_map, Option.map_eq_some_iff] at hi
    obtain ⟨s, hs, rfl⟩ := hi
    have hj0 : j = 0 := by
      cases j with
      | zero => rfl
      | succ j => simp at hj
    subst hj0
    simp only [List.getElem?_cons_zero, Option.some.injEq] at hj
    subst hj
    obtain ⟨hid, rfl⟩ := List.getElem?_eq_some_iff.1 hs
    refine ⟨encStr d[i], noOwn, w, ?_, .str _, rfl⟩
    have hic : i < cs.size := by
      have := hcell i (by omega)
      exact (Array.getElem?_eq_some_iff.1 this).1
    rw [Nat.mul_one, Nat.add_zero]
    unfold putCells
    rw [Array.getElem?_mapIdx, Array.getElem?_eq_getElem hic]
    simp only [Option.map_some]
    rw [if_pos ⟨Nat.zero_le _, by simpa using hid⟩, Nat.sub_zero, getElem!_pos _ i (by simpa using hid)]
    simp
def kindPlain : Nat → RK := fun id => if id = 0 then .born 0 1 else if id = 1 then .made 0 else .plain
noncomputable def envPlain : EnvO := ⟨⟨evc plan, planRo, lv0, 2⟩, kindPlain, [0], noFresh, noTurn⟩
theorem plain_ok : codeOkO envPlain (Tryz.f57.body.getD .skip) = true := by kernel_rfl
set_option maxHeartbeats 4000000 in
theorem plain_made (c : Code) (hc : Tryz.f57.body = some c) :
    evO Tryz.prog envPlain c (params [] 0) { boxes := ofB [], names := namesOf (cellsOfB []) } [] (fun e _ _ O => finO 0 e O) = some (1, strs plainL) := by
  obtain rfl := Option.some.inj hc.symm
  simp [-Int.natCast_add, evO_exit, evO_seq, evO_region, evO_cond, evO_ret, evO_skip, evO_block, evO_loop, roundKO_normal, roundKO_exit, roundKO_ret, seqKO_normal, seqKO_exit, seqKO_ret, blockKO_normal, blockKO_exit, blockKO_ret, regKO_eq, finKO, evReg, storeParts, appParts, freshParts, madeParts, inplParts, storeK, appK, madeK, inplK, base0, getO, setO, dropO, viewT, frozen, after_apply, dn, finO, allScalar_nil, allScalar_cons,  scalarR, dFor_none, storeFine_none, dFor_no, storeFine_no, lessL, lkL, evCode_exit, evCode_seq, evCode_plain, evCode_draw, evCode_cond, evCode_ret, evCode_skip, evCode_block, evCode_loop, roundK_normal, roundK_exit, roundK_ret, seqK_normal, seqK_exit, seqK_ret, blockK_normal, blockK_exit, blockK_ret, regK_eq, evOps_nil, evOps_cons, params, astep, okDst, isWanted, aop, opnd, ofValue, putT, abin, headS, ofL, noPtr, acall, adopt_bool, adopt_int, adopt_str, adopt_agg, adopt_clip, upd_false, AV.cells, partOf, setCells, fillC, AV.isVal, List.range, List.range.loop, ofB, mayRead, dsts, planRo, capIds, viewed, scalarR, AV.scalar, bare_undef, bare_bool, bare_int, bare_str, bare_snil, bare_snone, bare_sclip, bare_srow, bare_ptr, bare_eptr, bare_pnil, bare_fn, bare_fnil, bare_agg, bare_tup, Ev.frozen, envPlain, kindPlain, plainL, strs]
theorem plain_fresh : FreshCall Tryz.prog 57 [] 1 (strs plainL) := by
  obtain ⟨c, hc⟩ : ∃ c, Tryz.f57.body = some c := ⟨_, rfl⟩
  have hok := plain_ok
  rw [hc] at hok
  exact fnO_fresh planFollows (E := envPlain) (evc_sound plan_ok) noFresh_sound Tryz.func57 hc rfl (Nat.le_refl _) hok Tryz.call57 (plain_made c hc)

def unstrs (els : List (List AV)) : List Str := els.map fun e => match e with | [.str s] => s | _ => []
theorem unstrs_strs : ∀ l : List Str, unstrs (strs l) = l
  | [] => rfl
  | s :: l => by
    have := unstrs_strs l
    simp only [unstrs, strs, List.map_cons, List.map_map] at this ⊢
    rw [this]
theorem isStrs_un : ∀ els : List (List AV), isStrs els = true → els = strs (unstrs els)
  | [], _ => rfl
  | e :: r, h => by
    simp only [isStrs, List.all_cons, Bool.and_eq_true] at h
    have ih := isStrs_un r h.2
    have h1 := h.1
    split at h1
    · show _ :: r = _ :: strs (unstrs r)
      rw [← ih]
    · simp at h1
def freshPlain : Fresher := fun f args => if f = 57 then (match args with | [] => some (1, strs plainL) | _ => none) else none
def turnSort : Turner := fun f z els => if f = 61 ∧ z = 1 ∧ isStrs els = true ∧ els.length < 2 ^ 60 then some (strs ((unstrs els).mergeSort leS)) else none
theorem turnSort_sound : FreshSound Tryz.prog freshPlain ∧ TurnSound Tryz.prog turnSort := by
  refine ⟨fun f args z els h => ?_, fun f z els els' h => ?_⟩
  · unfold freshPlain at h
    split at h
    case isFalse => simp at h
    rename_i hf
    subst hf
    split at h
    · simp only [Option.some.injEq, Prod.mk.injEq] at h
      obtain ⟨rfl, rfl⟩ := h
      exact plain_fresh
    · simp at h
  · unfold turnSort at h
    split at h
    case isFalse => simp at h
    rename_i hc
    obtain ⟨rfl, rfl, h3, h4⟩ := hc
    simp only [Option.some.injEq] at h
    subst h
    have h5 := isStrs_un els h3
    have h6 : (strs (unstrs els)).length < 2 ^ 60 := by rw [← h5]; exact h4
    have := sort_inpl (unstrs els) (by simpa [strs] using h6)
    rw [← h5] at this
    exact this
def symsSorted : List Str := (plainL ++ othersL.map (·.1)).mergeSort leS
theorem syms_sorted : symsSorted = symL := by
  have hp : (plainL ++ othersL.map (·.1)).isPerm symL = true := by decide +kernel
  have hs : symL.Pairwise (fun a b => leS a b = true) := by
    have : decide (symL.Pairwise (fun a b => leS a b = true)) = true := by decide +kernel
    exact of_decide_eq_true this
  refine List.Perm.eq_of_pairwise (le := fun a b => leS a b = true) (fun a b _ _ h1 h2 => ?_) (List.pairwise_mergeSort (fun a b c h1 h2 => ?_) (fun a b => ?_) _) hs ((List.mergeSort_perm _ _).trans (List.isPerm_iff.1 hp))
  · exact List.le_antisymm (of_decide_eq_true h1) (of_decide_eq_true h2)
  · exact decide_eq_true (List.le_trans (of_decide_eq_true h1) (of_decide_eq_true h2))
  · rcases List.le_total a b with h | h
    · simp [leS, h]
    · simp [leS, h]
def keepS3 : Keep := ⟨[(5, none), (6, none), (7, none)], [], by decide, by decide⟩
def lvSyms : Nat → Keep := fun id => if id = 3 then keepS3 else noKeep
def kindSyms : Nat → RK := fun id => if id = 1 then .fresh 1 else if id = 5 then .app 1 11 else if id = 7 then .inpl 1 17 else if id = 8 then .give else .plain
noncomputable def envSyms : EnvO := ⟨⟨evc plan, planRo, lvSyms, 20⟩, kindSyms, [1], freshPlain, turnSort⟩
theorem syms_ok : codeOkO envSyms (Tryz.f29.body.getD .skip) = true := by kernel_rfl
theorem pairs_get (l : List (Str × Str)) (i : Nat) (h : i < l.length) (h' : i < (pairs l).length) : (pairs l)[i] = [.str l[i].1, .str l[i].2] := by simp [pairs]
set_option maxHeartbeats 4000000 in
theorem symsOf_ev (c : Code) (hc : Tryz.f29.body = some c) :
    evO Tryz.prog envSyms c (params [] 0) { boxes := ofB [], names := namesOf (cellsOfB []) } [] (finKO Tryz.prog (Tryz.f29.results.toList)) = some (.sl 1 (strs symL) .none, []) := by
  obtain rfl := Option.some.inj hc.symm
  have ho := others_ev
  have l11 : othersL.length = 11 := rfl
  have l65 : plainL.length = 65 := rfl
  have hfr : freshPlain 57 [] = some (1, strs plainL) := rfl
  have hsc := strs_scalar plainL
  have hts : turnSort 61 1 (strs (plainL ++ othersL.map (·.1))) = some (strs symL) := by
    unfold turnSort
    rw [if_pos ⟨rfl, rfl, isStrs_strs _, by rw [strs_len]; simp [l65, l11]⟩, unstrs_strs]
    have := syms_sorted
    unfold symsSorted at this
    rw [this]
  have hsc2 := strs_scalar symL
  have hne : (strs (plainL ++ othersL.map (·.1))).isEmpty = false := by
    rw [List.isEmpty_eq_false_iff]
    intro h
    have := congrArg List.length h
    rw [strs_len] at this
    simp [l65, l11] at this
  generalize symL = V at hts hsc2 ⊢
  have lo : (pairs othersL).length = 11 := by simp [pairs, l11]
  have pg := pairs_get othersL
  generalize hPP : pairs othersL = PP at ho lo pg
  simp [-Int.natCast_add, evO_exit, evO_seq, evO_region, evO_cond, evO_ret, evO_skip, evO_block, evO_loop, roundKO_normal, roundKO_exit, roundKO_ret, seqKO_normal, seqKO_exit, seqKO_ret, blockKO_normal, blockKO_exit, blockKO_ret, regKO_eq, finKO, evReg, storeParts, appParts, freshParts, madeParts, inplParts, storeK, appK, madeK, inplK, base0, getO, setO, dropO, viewT, frozen, after_apply, dn, finO, allScalar_nil, allScalar_cons,  scalarR, dFor_none, storeFine_none, dFor_no, storeFine_no, lessL, lkL, evCode_exit, evCode_seq, evCode_plain, evCode_draw, evCode_cond, evCode_ret, evCode_skip, evCode_block, evCode_loop, roundK_normal, roundK_exit, roundK_ret, seqK_normal, seqK_exit, seqK_ret, blockK_normal, blockK_exit, blockK_ret, regK_eq, evOps_nil, evOps_cons, params, astep, okDst, isWanted, aop, opnd, ofValue, putT, abin, headS, ofL, noPtr, acall, adopt_bool, adopt_int, adopt_str, adopt_agg, adopt_clip, upd_false, AV.cells, partOf, setCells, fillC, AV.isVal, List.range, List.range.loop, ofB, mayRead, dsts, planRo, capIds, viewed, scalarR, AV.scalar, bare_undef, bare_bool, bare_int, bare_str, bare_snil, bare_snone, bare_sclip, bare_srow, bare_ptr, bare_eptr, bare_pnil, bare_fn, bare_fnil, bare_agg, bare_tup, Ev.frozen, passed, setBoxes, killNames, addNames, freshAll, adopt, resParts, resBack, relabB, relabL, namesOf, cellsOfB, boxName, row_undef, row_bool, row_int, row_str, row_snil, row_snone, row_sclip, row_srow, row_ptr, row_eptr, row_pnil, row_fn, row_fnil, row_agg, row_tup, relab_undef, relab_bool, relab_int, relab_str, relab_snil, relab_snone, relab_sclip, relab_srow, relab_ptr, relab_eptr, relab_pnil, relab_fn, relab_fnil, relab_agg, relab_tup, relab_sgrow, finK, freezeT, avAll, resOf, outBoxes, relabB, relabL, noPtr, AV.untup, relab_undef, relab_bool, relab_int, relab_str, relab_snil, relab_snone, relab_sclip, relab_srow, relab_ptr, relab_eptr, relab_pnil, relab_fn, relab_fnil, relab_agg, relab_tup, relab_sgrow, envSyms, kindSyms, lvSyms, ho, hfr, hsc]
  refine loopO_by (fun i => 11 - i) (fun (i : Nat) t m O => i ≤ 11 ∧ O = [⟨1, 1, strs (plainL ++ (othersL.map (·.1)).take i)⟩] ∧ clean (lvSyms 3) t m = headS [(5, .sl 2 PP .clip), (6, .int .i64 11), (7, .int .i64 i)] []) ?_ 0 ?_
  · rintro i t m O ⟨hi, rfl, hS⟩ ih
    refine roundO_of hS ?_
    by_cases h1 : i < 11
    · have w1 : IntKind.i64.wrap ((i : Int) + 1) = ((i + 1 : Nat) : Int) := wrap_i64 (by omega) (by omega)
      have hi11 : (i : Int) < 11 := by omega
      have pi := pg i (by omega) (by omega)
      have hb : ((strs (plainL ++ (othersL.map (·.1)).take i)).length + 1) * 16 ≤ 70368744177664 := by
        simp only [strs_len, List.length_append, List.length_take, List.length_map, l65, l11]; omega
      have e1 : strs (plainL ++ (othersL.map (·.1)).take i) ++ [[.str (othersL[i]'(by omega)).1]] = strs (plainL ++ (othersL.map (·.1)).take (i + 1)) := by
        rw [strs_snoc, List.append_assoc, List.take_succ_eq_append_getElem (by simpa [l11] using h1)]
        simp
      generalize strs (plainL ++ (othersL.map (·.1)).take i) = Z at hb e1
      simp [-Int.natCast_add, evO_exit, evO_seq, evO_region, evO_cond, evO_ret, evO_skip, evO_block, evO_loop, roundKO_normal, roundKO_exit, roundKO_ret, seqKO_normal, seqKO_exit, seqKO_ret, blockKO_normal, blockKO_exit, blockKO_ret, regKO_eq, finKO, evReg, storeParts, appParts, freshParts, madeParts, inplParts, storeK, appK, madeK, inplK, base0, getO, setO, dropO, viewT, frozen, after_apply, dn, finO, allScalar_nil, allScalar_cons,  scalarR, dFor_none, storeFine_none, dFor_no, storeFine_no, lessL, lkL, evCode_exit, evCode_seq, evCode_plain, evCode_draw, evCode_cond, evCode_ret, evCode_skip, evCode_block, evCode_loop, roundK_normal, roundK_exit, roundK_ret, seqK_normal, seqK_exit, seqK_ret, blockK_normal, blockK_exit, blockK_ret, regK_eq, evOps_nil, evOps_cons, params, astep, okDst, isWanted, aop, opnd, ofValue, putT, abin, headS, ofL, noPtr, acall, adopt_bool, adopt_int, adopt_str, adopt_agg, adopt_clip, upd_false, AV.cells, partOf, setCells, fillC, AV.isVal, List.range, List.range.loop, ofB, mayRead, dsts, planRo, capIds, viewed, scalarR, AV.scalar, bare_undef, bare_bool, bare_int, bare_str, bare_snil, bare_snone, bare_sclip, bare_srow, bare_ptr, bare_eptr, bare_pnil, bare_fn, bare_fnil, bare_agg, bare_tup, Ev.frozen, passed, setBoxes, killNames, addNames, freshAll, adopt, resParts, resBack, relabB, relabL, namesOf, cellsOfB, boxName, row_undef, row_bool, row_int, row_str, row_snil, row_snone, row_sclip, row_srow, row_ptr, row_eptr, row_pnil, row_fn, row_fnil, row_agg, row_tup, relab_undef, relab_bool, relab_int, relab_str, relab_snil, relab_snone, relab_sclip, relab_srow, relab_ptr, relab_eptr, relab_pnil, relab_fn, relab_fnil, relab_agg, relab_tup, relab_sgrow, kindSyms, lvSyms, keepS3, lo, h1, hi11, w1, hb, pi]
      refine ih (i + 1) _ _ _ (by omega) ⟨by omega, ?_, ?_⟩
      · rw [e1]
      simp [-Int.natCast_add, clean, keepBoxes, relabB, relabL, cleanS, fixPtr, headS, ofL, ofB, cellsOfB, namesOf, upd_false, AV.cells, row_undef, row_bool, row_int, row_str, row_snil, row_snone, row_sclip, row_srow, row_ptr, row_eptr, row_pnil, row_fn, row_fnil, row_agg, row_tup, relab_undef, relab_bool, relab_int, relab_str, relab_snil, relab_snone, relab_sclip, relab_srow, relab_ptr, relab_eptr, relab_pnil, relab_fn, relab_fnil, relab_agg, relab_tup, relab_sgrow, after_apply, viewT, scalarR, AV.scalar, passed, setBoxes, killNames, addNames, freshAll, adopt, resParts, resBack, relabB, relabL, namesOf, cellsOfB, boxName, row_undef, row_bool, row_int, row_str, row_snil, row_snone, row_sclip, row_srow, row_ptr, row_eptr, row_pnil, row_fn, row_fnil, row_agg, row_tup, relab_undef, relab_bool, relab_int, relab_str, relab_snil, relab_snone, relab_sclip, relab_srow, relab_ptr, relab_eptr, relab_pnil, relab_fn, relab_fnil, relab_agg, relab_tup, relab_sgrow, lvSyms, keepS3, w1]
    · have hi11 : i = 11 := by omega
      subst hi11
      have e11 : plainL ++ (othersL.map (·.1)).take 11 = plainL ++ othersL.map (·.1) := by rw [List.take_of_length_le (by simp [l11])]
      rw [e11]
      simp [-Int.natCast_add, evO_exit, evO_seq, evO_region, evO_cond, evO_ret, evO_skip, evO_block, evO_loop, roundKO_normal, roundKO_exit, roundKO_ret, seqKO_normal, seqKO_exit, seqKO_ret, blockKO_normal, blockKO_exit, blockKO_ret, regKO_eq, finKO, evReg, storeParts, appParts, freshParts, madeParts, inplParts, storeK, appK, madeK, inplK, base0, getO, setO, dropO, viewT, frozen, after_apply, dn, finO, allScalar_nil, allScalar_cons,  scalarR, dFor_none, storeFine_none, dFor_no, storeFine_no, lessL, lkL, evCode_exit, evCode_seq, evCode_plain, evCode_draw, evCode_cond, evCode_ret, evCode_skip, evCode_block, evCode_loop, roundK_normal, roundK_exit, roundK_ret, seqK_normal, seqK_exit, seqK_ret, blockK_normal, blockK_exit, blockK_ret, regK_eq, evOps_nil, evOps_cons, params, astep, okDst, isWanted, aop, opnd, ofValue, putT, abin, headS, ofL, noPtr, acall, adopt_bool, adopt_int, adopt_str, adopt_agg, adopt_clip, upd_false, AV.cells, partOf, setCells, fillC, AV.isVal, List.range, List.range.loop, ofB, mayRead, dsts, planRo, capIds, viewed, scalarR, AV.scalar, bare_undef, bare_bool, bare_int, bare_str, bare_snil, bare_snone, bare_sclip, bare_srow, bare_ptr, bare_eptr, bare_pnil, bare_fn, bare_fnil, bare_agg, bare_tup, Ev.frozen, passed, setBoxes, killNames, addNames, freshAll, adopt, resParts, resBack, relabB, relabL, namesOf, cellsOfB, boxName, row_undef, row_bool, row_int, row_str, row_snil, row_snone, row_sclip, row_srow, row_ptr, row_eptr, row_pnil, row_fn, row_fnil, row_agg, row_tup, relab_undef, relab_bool, relab_int, relab_str, relab_snil, relab_snone, relab_sclip, relab_srow, relab_ptr, relab_eptr, relab_pnil, relab_fn, relab_fnil, relab_agg, relab_tup, relab_sgrow, finK, freezeT, avAll, resOf, outBoxes, relabB, relabL, noPtr, AV.untup, relab_undef, relab_bool, relab_int, relab_str, relab_snil, relab_snone, relab_sclip, relab_srow, relab_ptr, relab_eptr, relab_pnil, relab_fn, relab_fnil, relab_agg, relab_tup, relab_sgrow, kindSyms, lvSyms, keepS3, lo, hts, hsc2, hne]
  · refine ⟨by omega, by simp, ?_⟩
    simp [clean, keepBoxes, relabB, relabL, cleanS, fixPtr, headS, ofL, ofB, cellsOfB, namesOf, upd_false, AV.cells, row_undef, row_bool, row_int, row_str, row_snil, row_snone, row_sclip, row_srow, row_ptr, row_eptr, row_pnil, row_fn, row_fnil, row_agg, row_tup, relab_undef, relab_bool, relab_int, relab_str, relab_snil, relab_snone, relab_sclip, relab_srow, relab_ptr, relab_eptr, relab_pnil, relab_fn, relab_fnil, relab_agg, relab_tup, relab_sgrow, after_apply, viewT, scalarR, AV.scalar, passed, setBoxes, killNames, addNames, freshAll, adopt, resParts, resBack, relabB, relabL, namesOf, cellsOfB, boxName, row_undef, row_bool, row_int, row_str, row_snil, row_snone, row_sclip, row_srow, row_ptr, row_eptr, row_pnil, row_fn, row_fnil, row_agg, row_tup, relab_undef, relab_bool, relab_int, relab_str, relab_snil, relab_snone, relab_sclip, relab_srow, relab_ptr, relab_eptr, relab_pnil, relab_fn, relab_fnil, relab_agg, relab_tup, relab_sgrow, lvSyms, keepS3, lo]
theorem symsOf_sim : SimCall Tryz.prog 29 [] [] (.sl 1 (strs symL) .none) [] := by
  obtain ⟨c, hc⟩ : ∃ c, Tryz.f29.body = some c := ⟨_, rfl⟩
  have hok := syms_ok
  rw [hc] at hok
  exact fnO_sound planFollows (E := envSyms) (evc_sound plan_ok) turnSort_sound Tryz.func29 hc rfl (Nat.le_refl _) hok Tryz.call29 (symsOf_ev c hc)
end Go.Proofs.YtlmmgblghgmgeaaGreatDoor
