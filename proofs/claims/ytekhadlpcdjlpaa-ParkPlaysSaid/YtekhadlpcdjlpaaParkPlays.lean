/- The statement ParkPlays. -/
import Derived.Test.YtekhadlpcdjlpaaParkFew
namespace Go.Proofs.Ytekhadlpcdjlpaa
open Go.RowKit Park Ref11
set_option linter.unusedVariables false

theorem law_ParkPlays (w : World) (v0 v1 v2 : Value) (x0 x1 : Int) (x2 : List ParkPlays.opSh.Val) (h0 : Sh.Arg w (.int .i64) x0 v0) (h1 : Sh.Arg w (.int .i64) x1 v1) (h2 : Sh.Arg w (.row ParkPlays.opSh) x2 v2) :
    Calls Try.prog 14 #[v0, v1, v2] w fun e w' => e = .returned (.bool true) ∧ Mod [] w w' := by
  obtain ⟨rfl, _⟩ := h0
  obtain ⟨rfl, _⟩ := h1
  obtain ⟨a, cap, rfl, hr, hl, hm, hwf⟩ := Sh.arg_flat (by rfl) h2
  by_cases h100 : 100 < x2.length
  · exact ParkPlays.plays_many a x0 x1 x2.length cap w h100 (by omega)
  · by_cases hn : x0 < 1 ∨ 64 < x0
    · exact ParkPlays.plays_none a x0 x1 x2.length cap w (by omega) hn
    · obtain ⟨n, rfl⟩ : ∃ n : Nat, x0 = n := ⟨x0.toNat, by omega⟩
      by_cases hs : x1 < 1 ∨ 1000 < x1
      · exact ParkPlays.plays_none2 a n x1 x2.length cap w (by omega) (by omega) (by omega) hs
      · obtain ⟨spin, rfl⟩ : ∃ spin : Nat, x1 = spin := ⟨x1.toNat, by omega⟩
        exact ParkPlays.plays_few a n spin x2 cap w hr hwf (by omega) (by omega) (by omega) (by omega) (by omega)

end Go.Proofs.Ytekhadlpcdjlpaa
