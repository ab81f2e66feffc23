/- From a call on the blocks to a call in memory, where all that came in is rows that are read. -/
import Derived.Test.YtekhadlpcdjlpaaFifoBegins
namespace Go.Proofs.Ytekhadlpcdjlpaa
open Go Abs Fx
set_option linter.unusedVariables false
set_option linter.unusedSimpArgs false

theorem bridge {P : Program} {F : FuncId} {args : List Value} {us : Array Value} {h : AH} {ρ : Ren} {w : World} (hb : AC P F args h (fun v _ => v = .bool true)) (r : Rel ρ h w) (hrows : ∀ k ∈ h, ∃ vs, k = ABlk.row vs) (hs : us.size = args.length)
    (hargs : ∀ (i : Nat) (v : Value), args[i]? = some v → ∃ u, us[i]? = some u ∧ VR ρ (live h) v u) : Calls P F us w fun e w' => e = .returned (.bool true) ∧ Mod [] w w' := by
  have hc := hb.2 ρ w us r hs hargs
  refine Calls.mono hc ?_
  rintro e w' ⟨v, u, h', ρ', rfl, vr, rfl, r', nx, _⟩
  refine ⟨?_, ⟨nx.os, nx.tape, nx.output, nx.size, fun k hk _ => nx.keep k hk fun b kk hb => ?_⟩⟩
  · rw [vr.2]; rfl
  · obtain ⟨vs, rfl⟩ := hrows kk (List.mem_of_getElem? hb)
    simp [ABlk.foot]

/-- A law of threads and entries. -/
theorem bridge_entries {P : Program} {F : FuncId} {w : World} {v0 v1 : Value} {x0 : Int} {x1 : List enSh.Val} (h0 : Sh.Arg w (.int .i64) x0 v0) (h1 : Sh.Arg w (.row enSh) x1 v1)
    (hb : ∀ (A : Option Addr) (cap : Nat), (x1.map enOf).length ≤ cap → cap < OPEN → ((x1.map enOf = [] ∧ cap = 0 ∧ A = none) ∨ (∃ d, x1.map enOf = [] ∧ A = some ⟨0, 0, some d⟩) ∨ A = some ⟨0, 0, none⟩) → AC P F [.int .i64 x0, .slice A (x1.map enOf).length cap] [.row (rowOf (x1.map enOf))] (fun v _ => v = .bool true)) :
    Calls P F #[v0, v1] w fun e w' => e = .returned (.bool true) ∧ Mod [] w w' := by
  obtain ⟨rfl, _⟩ := h0
  obtain ⟨ρ, A, cap, rfl, r, hl, hcap, hA⟩ := row_arg h1
  have hb := hb A cap (by simpa using hl) hcap hA
  rw [List.length_map] at hb
  refine bridge hb r (by simp) rfl ?_
  intro i v hv
  match i with
  | 0 => injection hv with hv; subst hv; exact ⟨_, rfl, VR.plain rfl⟩
  | 1 =>
    injection hv with hv
    subst hv
    refine ⟨_, rfl, ?_, rfl⟩
    rcases hA with ⟨_, _, rfl⟩ | ⟨d, _, rfl⟩ | rfl <;> simp [scp, live]
  | n + 2 => simp at hv

end Go.Proofs.Ytekhadlpcdjlpaa
