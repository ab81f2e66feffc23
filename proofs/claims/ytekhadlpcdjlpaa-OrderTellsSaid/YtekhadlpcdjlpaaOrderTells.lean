/- order: OrderTells, in memory. -/
import Derived.Test.YtekhadlpcdjlpaaOt13
import Derived.Test.YtekhadlpcdjlpaaOrderMore
namespace Go.Proofs.Ytekhadlpcdjlpaa
open Go Abs Ox
set_option linter.unusedVariables false
set_option linter.unusedSimpArgs false

set_option maxHeartbeats 2000000 in
set_option maxRecDepth 100000 in
theorem law_OrderTells (w : World) (v0 : Value) (x0 : List enSh.Val) (h0 : Sh.Arg w (.row enSh) x0 v0) :
    Calls Try.prog 8 #[v0] w fun e w' => e = .returned (.bool true) ∧ Mod [] w w' := by
  obtain ⟨ρ, A, cap, rfl, r, hl, hcap, hA⟩ := row_arg h0
  have hb := tells_ (x0.map enOf) A cap (by simpa using hl) hcap hA
  rw [List.length_map] at hb
  have hargs : ∀ (i : Nat) (v : Value), ([.slice A x0.length cap] : List Value)[i]? = some v → ∃ u, (#[conc ρ (.slice A x0.length cap)] : Array Value)[i]? = some u ∧ VR ρ (live [ABlk.row (rowOf (x0.map enOf))]) v u := by
    intro i v hv
    match i with
    | 0 =>
      injection hv with hv
      subst hv
      refine ⟨_, rfl, ?_, rfl⟩
      rcases hA with ⟨_, _, rfl⟩ | ⟨d, _, rfl⟩ | rfl <;> simp [scp, live]
    | n + 1 => simp at hv
  have hc := hb.2 ρ w #[conc ρ (.slice A x0.length cap)] r rfl hargs
  clear hb hargs
  refine Calls.mono hc ?_
  rintro e w' ⟨v, u, h', ρ', rfl, vr, rfl, r', nx, _⟩
  refine ⟨?_, ⟨nx.os, nx.tape, nx.output, nx.size, fun k hk _ => nx.keep k hk fun b kk hb => ?_⟩⟩
  · rw [vr.2]; rfl
  · match b with
    | 0 => injection hb with hb; subst hb; simp [ABlk.foot]
    | n + 1 => simp at hb

end Go.Proofs.Ytekhadlpcdjlpaa
