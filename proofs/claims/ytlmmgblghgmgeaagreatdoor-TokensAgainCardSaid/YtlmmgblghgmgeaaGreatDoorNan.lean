/- The texts PrinF, merged. -/
import Derived.Test.YtlmmgblghgmgeaaGreatDoorNam
set_option linter.unusedVariables false
set_option linter.unusedSimpArgs false
/- Tokens joined: what is computed; PrintedAt as a call that is known (without the reference). -/
namespace Go.Proofs.YtlmmgblghgmgeaaGreatDoor
open Go Ev
set_option maxRecDepth 100000
set_option linter.unusedSimpArgs false

def gapP (p : Option Tk) (t : Tk) : Str := match p with | none => [] | some a => if spacedP a t then [32] else []
def joinGo : List Tk → Option Tk → Str → Str × Int
  | [], _, s => (s, 0)
  | t :: r, p, s => if textErrP t = 0 then joinGo r (some t) (s ++ gapP p t ++ t.text) else ([], textErrP t)
def joinP (l : List Tk) : Str × Int :=
  if 1200 < l.length then ([], 2)
  else if (joinGo l none []).2 = 0 then (if 20000 < (joinGo l none []).1.length then ([], 2) else ((joinGo l none []).1, 0))
  else ([], (joinGo l none []).2)
def joAV (q : Str × Int) : AV := .tup [.str q.1, .int .i64 q.2]
/-- The two printings as calls that are known. -/
theorem printed_sim (l : List Tk) (tk : Tok) (ht : Fx tk) (hl : l.length ≤ 1300) (hx : ∀ t ∈ l, t.text.length ≤ 140) : SimCall Tryz.prog 24 [.sl 4 (l.map tkC) tk] [] (prAV (printP l)) [] := by
  obtain ⟨c, hc⟩ : ∃ c, Tryz.f24.body = some c := ⟨_, rfl⟩
  have hok := pr_ok l tk
  rw [hc] at hok
  have hS : Sound Tryz.prog (oraclePr l tk) := by
    unfold oraclePr
    split
    · rename_i h
      obtain ⟨z1, z2⟩ := printGo_inv l none 0 [] printGo_start h
      exact overO_sound (evc_sound plan_ok) (as_sim _ l .none tk fx_none ht (by have := total_le _ 120 z1; omega) (by omega) (fun x hx => by have := z1 x hx; omega) (by omega))
    · exact evc_sound plan_ok
  exact fnO_sound planFollows (E := envPr l tk) hS noFresh_sound Tryz.func24 hc rfl (Nat.le_refl _) hok Tryz.call24 (printed_ev l tk ht hl hx c hc)
end Go.Proofs.YtlmmgblghgmgeaaGreatDoor
