/- The texts PrinA, merged. -/
import Derived.Test.YtlmmgblghgmgeaaGreatDoorNah
set_option linter.unusedVariables false
set_option linter.unusedSimpArgs false
/- Signs between tokens; a token behind another one: evaluated (without the reference). -/
namespace Go.Proofs.YtlmmgblghgmgeaaGreatDoor
open Go Ev
set_option maxRecDepth 100000
set_option linter.unusedSimpArgs false
attribute [local simp] dFor_none storeFine_none dFor_no storeFine_no lessL lkL evCode_exit evCode_seq evCode_plain evCode_draw evCode_cond evCode_ret evCode_skip evCode_block evCode_loop roundK_normal roundK_exit roundK_ret seqK_normal seqK_exit seqK_ret blockK_normal blockK_exit blockK_ret regK_eq evOps_nil evOps_cons params astep okDst isWanted aop opnd ofValue putT abin headS ofL noPtr acall adopt_bool adopt_int adopt_str adopt_agg adopt_clip upd_false AV.cells partOf setCells fillC AV.isVal List.range List.range.loop ofB mayRead dsts planRo capIds viewed scalarR AV.scalar bare_undef bare_bool bare_int bare_str bare_snil bare_snone bare_sclip bare_srow bare_ptr bare_eptr bare_pnil bare_fn bare_fnil bare_agg bare_tup passed setBoxes killNames addNames freshAll adopt resParts resBack relabB relabL namesOf cellsOfB boxName row_undef row_bool row_int row_str row_snil row_snone row_sclip row_srow row_ptr row_eptr row_pnil row_fn row_fnil row_agg row_tup relab_undef relab_bool relab_int relab_str relab_snil relab_snone relab_sclip relab_srow relab_ptr relab_eptr relab_pnil relab_fn relab_fnil relab_agg relab_tup relab_sgrow finK freezeT avAll resOf outBoxes AV.untup

theorem strs_snoc (l : List Str) (x : Str) : strs l ++ [[.str x]] = strs (l ++ [x]) := by simp [strs]
def rApart (a b : Tk) : Bool := apartP a b
theorem apart_same (a b : Tk) (ha : textErrP a = 0) (hb : textErrP b = 0) : apartP a b = rApart a b := rfl
def signsP (a b : Str) : Bool := (a == [40] && (b == [43] || b == [45])) || (a == [45] && b == [45])
theorem signs2_ev (a b : Str) : evc plan 49 [.str a, .str b] [] = some (.bool (signsP a b), []) := by
  refine evc_start plan (P := Tryz.prog) (ro := planRo) rfl rfl rfl rfl rfl rfl (by simp) rfl ?_
  unfold signsP
  cases h1 : (a == [40]) <;> cases h2 : (b == [43]) <;> cases h3 : (b == [45]) <;> cases h4 : (a == [45]) <;> simp [h1, h2, h3, h4]
def spacedP (a b : Tk) : Bool := rApart a b || signsP a.text b.text
/-- Whether a token may stand behind another one: the error. -/
def behindP (a b : Tk) : Int := firstOf [if decide (b.line < a.line) || (b.line == a.line && decide (b.col < a.col + a.text.length)) then 13 else 0, if (b.line == a.line && b.col == a.col + a.text.length) && apartP a b then 14 else 0]
set_option maxHeartbeats 1000000 in
theorem behind_ev (a b : Tk) (h1 : -2 ^ 40 ≤ a.col) (h2 : a.col < 2 ^ 40) (hla : a.text.length < 2 ^ 37) (hlb : b.text.length < 2 ^ 37) : evc plan 47 [.agg (tkC a), .agg (tkC b)] [] = some (.int .i64 (behindP a b), []) := by
  refine evc_start plan (P := Tryz.prog) (ro := planRo) rfl rfl rfl rfl rfl rfl (by simp) rfl ?_
  have h := apart_ev a b hla hlb
  unfold tkC at h
  have w1 : IntKind.i64.wrap (a.col + (a.text.length : Int)) = a.col + a.text.length := wrap_i64 (by omega) (by omega)
  unfold behindP
  cases h3 : decide (b.line < a.line) <;> cases h4 : (b.line == a.line) <;> cases h5 : decide (b.col < a.col + a.text.length) <;> cases h6 : (b.col == a.col + a.text.length) <;> cases h7 : apartP a b <;> simp [tkC, wrong_ev, or2_ev, h, h3, h4, h5, h6, h7, w1]
end Go.Proofs.YtlmmgblghgmgeaaGreatDoor
