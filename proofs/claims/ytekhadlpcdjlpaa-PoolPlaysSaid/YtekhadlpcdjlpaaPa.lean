/- pool: the example. -/
import Derived.Test.YtekhadlpcdjlpaaCodeP
import Derived.Test.YtekhadlpcdjlpaaRg
import Derived.Test.YtekhadlpcdjlpaaAbsC
namespace Go.Proofs.Ytekhadlpcdjlpaa
namespace Px
open Go Abs
set_option linter.unusedVariables false
set_option maxRecDepth 100000

def tab (f : FuncId) : Option AFunc := match f with
  | 40 => some Code.af40
  | 41 => some Code.af41
  | 42 => some Code.af42
  | 43 => some Code.af43
  | 45 => some Code.af45
  | 46 => some Code.af46
  | 47 => some Code.af47
  | 85 => some Code.af85
  | 93 => some Code.af93
  | 94 => some Code.af94
  | 95 => some Code.af95
  | 96 => some Code.af96
  | 97 => some Code.af97
  | 98 => some Code.af98
  | 99 => some Code.af99
  | 113 => some Code.af113
  | 114 => some Code.af114
  | 116 => some Code.af116
  | _ => none

theorem tab_ok : ∀ f af, tab f = some af → cFunc Try.prog f = some af := by
  intro f af h
  unfold tab at h
  split at h <;> first
    | (injection h with h; subst h; first | exact Code.cf40 | exact Code.cf41 | exact Code.cf42 | exact Code.cf43 | exact Code.cf45 | exact Code.cf46 | exact Code.cf47 | exact Code.cf85 | exact Code.cf93 | exact Code.cf94 | exact Code.cf95 | exact Code.cf96 | exact Code.cf97 | exact Code.cf98 | exact Code.cf99 | exact Code.cf113 | exact Code.cf114 | exact Code.cf116)
    | cases h

def yes : Value → AH → Bool
  | .bool true, _ => true
  | _, _ => false

theorem run46 : callF Try.prog false tab 60 46 [] [] yes = true := by kernel_rfl

theorem awake_ : AC Try.prog 46 [] [] (fun v h' => v = .bool true) := by
  refine ((run_sound (holds := fun b => b = true) hmix (by simp) tab_ok 60).1 46 [] [] yes run46).mono fun v h' hv => ?_
  unfold yes at hv
  split at hv
  · rfl
  · cases hv
end Px
end Go.Proofs.Ytekhadlpcdjlpaa
