import Derived.Test.YtekhadlpcdjlpaaCodeF
import Derived.Test.YtekhadlpcdjlpaaAbs23
namespace Go.Proofs.Ytekhadlpcdjlpaa
namespace Fx
open Go Abs
set_option linter.unusedVariables false
set_option maxRecDepth 100000

theorem hmix : Try.prog.follows .mixedOrders = true := by kernel_rfl

def tab (f : FuncId) : Option AFunc := match f with
  | 71 => some Code.af71
  | 72 => some Code.af72
  | 74 => some Code.af74
  | 76 => some Code.af76
  | 107 => some Code.af107
  | 108 => some Code.af108
  | 109 => some Code.af109
  | 110 => some Code.af110
  | 117 => some Code.af117
  | _ => none

theorem tab_ok : ∀ f af, tab f = some af → cFunc Try.prog f = some af := by
  intro f af h
  unfold tab at h
  split at h <;> first
    | (injection h with h; subst h; first | exact Code.cf71 | exact Code.cf72 | exact Code.cf74 | exact Code.cf76 | exact Code.cf107 | exact Code.cf108 | exact Code.cf109 | exact Code.cf110 | exact Code.cf117)
    | cases h

def yes : Value → AH → Bool
  | .bool true, _ => true
  | _, _ => false

theorem run71 : callF Try.prog false tab 40 71 [] [] yes = true := by kernel_rfl

theorem awake_ : AC Try.prog 71 [] [] (fun v h' => v = .bool true) := by
  refine ((run_sound (holds := fun b => b = true) hmix (by simp) tab_ok 40).1 71 [] [] yes run71).mono fun v h' hv => ?_
  unfold yes at hv
  split at hv
  · rfl
  · cases hv
end Fx
end Go.Proofs.Ytekhadlpcdjlpaa
