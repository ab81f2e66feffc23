/- pool: PoolWhole, in memory. -/
import Derived.Test.YtekhadlpcdjlpaaPi
import Derived.Test.YtekhadlpcdjlpaaBr0
namespace Go.Proofs.Ytekhadlpcdjlpaa
open Go Abs Px

theorem law_PoolWhole (w : World) (v0 v1 : Value) (x0 x1 : Int) (h0 : Sh.Arg w (.int .u8) x0 v0) (h1 : Sh.Arg w (.int .u8) x1 v1) :
    Calls Try.prog 11 #[v0, v1] w fun e w' => e = .returned (.bool true) ∧ Mod [] w w' := by
  obtain ⟨rfl, a0, a1⟩ := u8_range h0
  obtain ⟨rfl, b0, b1⟩ := u8_range h1
  exact bridge0 (whole_ x0 x1 a0 a1 b0 b1) (by simp [plain, scp])

end Go.Proofs.Ytekhadlpcdjlpaa
