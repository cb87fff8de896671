/- The evaluator's small functions at each kind of value, for simp. -/
import Derived.Test.YtlmmgblghgmgeaaDoorWalkJ
namespace Ev
open Go

theorem bare_undef  : AV.bare .undef = .undef := rfl
theorem bare_bool (b : Bool) : AV.bare (.bool b) = .bool b := rfl
theorem bare_int (k : IntKind) (n : Int) : AV.bare (.int k n) = .int k n := rfl
theorem bare_str (s : Str) : AV.bare (.str s) = .str s := rfl
theorem bare_snil (z : Nat) (els : List (List AV)) : AV.bare (.sl z els .nil) = .sl z els .nil := rfl
theorem bare_snone (z : Nat) (els : List (List AV)) : AV.bare (.sl z els .none) = .sl z els .none := rfl
theorem bare_sclip (z : Nat) (els : List (List AV)) : AV.bare (.sl z els .clip) = .sl z els .clip := rfl
theorem bare_srow (z : Nat) (els : List (List AV)) (p q : Nat) : AV.bare (.sl z els (.row p q)) = .sl z els .none := rfl
theorem bare_ptr (i o : Nat) : AV.bare (.ptr i o) = .undef := rfl
theorem bare_eptr (c : List AV) : AV.bare (.eptr c) = .eptr c := rfl
theorem bare_pnil  : AV.bare .pnil = .pnil := rfl
theorem bare_fn (f : FuncId) (c : List AV) : AV.bare (.fn f c) = .fn f c := rfl
theorem bare_fnil  : AV.bare .fnil = .fnil := rfl
theorem bare_agg (c : List AV) : AV.bare (.agg c) = .agg c := rfl
theorem bare_tup (c : List AV) : AV.bare (.tup c) = .undef := rfl
theorem row_undef  : rowName .undef = none := rfl
theorem row_bool (b : Bool) : rowName (.bool b) = none := rfl
theorem row_int (k : IntKind) (n : Int) : rowName (.int k n) = none := rfl
theorem row_str (s : Str) : rowName (.str s) = none := rfl
theorem row_snil (z : Nat) (els : List (List AV)) : rowName (.sl z els .nil) = none := rfl
theorem row_snone (z : Nat) (els : List (List AV)) : rowName (.sl z els .none) = none := rfl
theorem row_sclip (z : Nat) (els : List (List AV)) : rowName (.sl z els .clip) = none := rfl
theorem row_srow (z : Nat) (els : List (List AV)) (p q : Nat) : rowName (.sl z els (.row p q)) = some (p, q) := rfl
theorem row_ptr (i o : Nat) : rowName (.ptr i o) = none := rfl
theorem row_eptr (c : List AV) : rowName (.eptr c) = none := rfl
theorem row_pnil  : rowName .pnil = none := rfl
theorem row_fn (f : FuncId) (c : List AV) : rowName (.fn f c) = none := rfl
theorem row_fnil  : rowName .fnil = none := rfl
theorem row_agg (c : List AV) : rowName (.agg c) = none := rfl
theorem row_tup (c : List AV) : rowName (.tup c) = none := rfl
theorem relab_undef (names : Nat → Nat → Option Bool) (used : List (Nat × Nat)) (a b : Nat) (g : Option Nat)  : relab1 names used a b g .undef = (.undef, used) := rfl
theorem relab_bool (names : Nat → Nat → Option Bool) (used : List (Nat × Nat)) (a b : Nat) (g : Option Nat) (x : Bool) : relab1 names used a b g (.bool x) = ((.bool x), used) := rfl
theorem relab_int (names : Nat → Nat → Option Bool) (used : List (Nat × Nat)) (a b : Nat) (g : Option Nat) (k : IntKind) (n : Int) : relab1 names used a b g (.int k n) = ((.int k n), used) := rfl
theorem relab_str (names : Nat → Nat → Option Bool) (used : List (Nat × Nat)) (a b : Nat) (g : Option Nat) (s : Str) : relab1 names used a b g (.str s) = ((.str s), used) := rfl
theorem relab_snil (names : Nat → Nat → Option Bool) (used : List (Nat × Nat)) (a b : Nat) (z : Nat) (els : List (List AV)) : relab1 names used a b none (.sl z els .nil) = ((.sl z els .nil), used) := rfl
theorem relab_sgrow (names : Nat → Nat → Option Bool) (used : List (Nat × Nat)) (a b y : Nat) (z : Nat) (els : List (List AV)) : relab1 names used a b (some y) (.sl z els .nil) = (.sl y [] (.row a b), used) := rfl
theorem relab_snone (names : Nat → Nat → Option Bool) (used : List (Nat × Nat)) (a b : Nat) (g : Option Nat) (z : Nat) (els : List (List AV)) : relab1 names used a b g (.sl z els .none) = ((.sl z els .none), used) := rfl
theorem relab_sclip (names : Nat → Nat → Option Bool) (used : List (Nat × Nat)) (a b : Nat) (g : Option Nat) (z : Nat) (els : List (List AV)) : relab1 names used a b g (.sl z els .clip) = ((.sl z els .clip), used) := rfl
theorem relab_srow (names : Nat → Nat → Option Bool) (used : List (Nat × Nat)) (a b : Nat) (g : Option Nat) (z : Nat) (els : List (List AV)) (p q : Nat) : relab1 names used a b g (.sl z els (.row p q)) = if names p q = some true ∧ ¬ (p, q) ∈ used then (.sl z els (.row a b), (p, q) :: used) else (.sl z els .none, used) := rfl
theorem relab_ptr (names : Nat → Nat → Option Bool) (used : List (Nat × Nat)) (a b : Nat) (g : Option Nat) (i o : Nat) : relab1 names used a b g (.ptr i o) = ((.ptr i o), used) := rfl
theorem relab_eptr (names : Nat → Nat → Option Bool) (used : List (Nat × Nat)) (a b : Nat) (g : Option Nat) (c : List AV) : relab1 names used a b g (.eptr c) = ((.eptr c), used) := rfl
theorem relab_pnil (names : Nat → Nat → Option Bool) (used : List (Nat × Nat)) (a b : Nat) (g : Option Nat)  : relab1 names used a b g .pnil = (.pnil, used) := rfl
theorem relab_fn (names : Nat → Nat → Option Bool) (used : List (Nat × Nat)) (a b : Nat) (g : Option Nat) (f : FuncId) (c : List AV) : relab1 names used a b g (.fn f c) = ((.fn f c), used) := rfl
theorem relab_fnil (names : Nat → Nat → Option Bool) (used : List (Nat × Nat)) (a b : Nat) (g : Option Nat)  : relab1 names used a b g .fnil = (.fnil, used) := rfl
theorem relab_agg (names : Nat → Nat → Option Bool) (used : List (Nat × Nat)) (a b : Nat) (g : Option Nat) (c : List AV) : relab1 names used a b g (.agg c) = ((.agg c), used) := rfl
theorem relab_tup (names : Nat → Nat → Option Bool) (used : List (Nat × Nat)) (a b : Nat) (g : Option Nat) (c : List AV) : relab1 names used a b g (.tup c) = ((.tup c), used) := rfl
end Ev
