/- From a call on the blocks to a call in memory, where all that came in is plain. -/
import Derived.Test.YtongllppbifiaaaHeap
import Derived.Test.YtongllppbifiaaaRead
import Derived.Test.YtongllppbifiaaaAbsA
namespace Go.Proofs.Ytongllppbifiaaa
open Go Abs
set_option linter.unusedVariables false
set_option linter.unusedSimpArgs false

theorem rel_nil (ρ : Ren) (w : World) : Rel ρ [] w := ⟨fun b k hb => by simp at hb, fun b k hb => by simp at hb, fun b c k k' hb => by simp at hb⟩

theorem bridge0 {P : Program} {F : FuncId} {args : List Value} {w : World} (hb : AC P F args [] (fun v _ => v = .bool true)) (hp : ∀ v ∈ args, plain v = true) : Calls P F args.toArray w fun e w' => e = .returned (.bool true) ∧ Mod [] w w' := by
  have hc := hb.2 (fun _ => ⟨0, 0, 0, []⟩) w args.toArray (rel_nil _ _) (by simp) fun i v hv => ⟨v, by simpa using hv, VR.plain (hp v (List.mem_of_getElem? hv))⟩
  refine Calls.mono hc ?_
  rintro e w' ⟨v, u, h', ρ', rfl, vr, rfl, r', nx, _⟩
  refine ⟨by rw [vr.2]; rfl, ⟨nx.os, nx.tape, nx.output, nx.size, fun k hk _ => nx.keep k hk fun b kk hb => by simp at hb⟩⟩

theorem u8_range {w : World} {x : Int} {v : Value} (h : Sh.Arg w (.int .u8) x v) : v = .int .u8 x ∧ 0 ≤ x ∧ x ≤ 255 := by
  obtain ⟨rfl, hw⟩ := h
  refine ⟨rfl, ?_⟩
  simp [Lit.wf] at hw
  first | exact hw | (simp [IntKind.min, IntKind.max, IntKind.bits, IntKind.signed] at hw; omega) | (revert hw; unfold IntKind.min IntKind.max; simp; omega)

end Go.Proofs.Ytongllppbifiaaa
