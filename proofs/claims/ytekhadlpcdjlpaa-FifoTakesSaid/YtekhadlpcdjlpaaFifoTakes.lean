/- fifo: FifoTakes, in memory. -/
import Derived.Test.YtekhadlpcdjlpaaFx18
import Derived.Test.YtekhadlpcdjlpaaBridge
namespace Go.Proofs.Ytekhadlpcdjlpaa
open Go Abs Fx

theorem law_FifoTakes (w : World) (v0 v1 : Value) (x0 : Int) (x1 : List enSh.Val) (h0 : Sh.Arg w (.int .i64) x0 v0) (h1 : Sh.Arg w (.row enSh) x1 v1) :
    Calls Try.prog 19 #[v0, v1] w fun e w' => e = .returned (.bool true) ∧ Mod [] w w' :=
  bridge_entries h0 h1 fun A cap h1 h2 h3 => takes_ _ _ A cap h1 h2 h3

end Go.Proofs.Ytekhadlpcdjlpaa
