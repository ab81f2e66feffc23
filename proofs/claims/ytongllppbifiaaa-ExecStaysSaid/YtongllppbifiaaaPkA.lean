/- pool: its calls, in whatever heap. -/
import Derived.Test.YtongllppbifiaaaPn
namespace Go.Proofs.Ytongllppbifiaaa
namespace Px
open Go Abs Code
set_option linter.unusedVariables false
set_option linter.unusedSimpArgs false
set_option maxRecDepth 100000

theorem takeG {s : PS} (t : Int) {H : AH} {b : Nat} (hb : H[b]? = some (poolB s)) {K : Value → AH → Prop} (hK : K (.tuple #[.int .u32 (takeH s t : Nat), .int .i64 (takeE s t)]) (H.set b (poolB (takeS s t)))) : AC Try.prog 29 [.pointer (some ⟨b, 0, none⟩), .int .i64 t] H K := by
  refine AC.at1 (args0 := [.pointer (some ⟨0, 0, none⟩), .int .i64 t]) (E := []) (ptake_ s t) trivial trivial (by simp) hb (by simp [scpL, scp, live]) (by simp [ren, renA]) ?_
  rw [List.append_nil]
  simpa [ren, renAr, renL] using hK

theorem freeG {s : PS} (x : Nat) (hx : x < 4294967296) {H : AH} {b : Nat} (hb : H[b]? = some (poolB s)) {K : Value → AH → Prop} (hK : K (.int .i64 (freeE s x)) (H.set b (poolB (freeS s x)))) : AC Try.prog 30 [.pointer (some ⟨b, 0, none⟩), .int .u32 x] H K := by
  refine AC.at1 (args0 := [.pointer (some ⟨0, 0, none⟩), .int .u32 x]) (E := []) (pfree_ s x hx) trivial trivial (by simp) hb (by simp [scpL, scp, live]) (by simp [ren, renA]) ?_
  rw [List.append_nil]
  simpa [ren] using hK

def outV (s : PS) (t : Int) : Nat := if t < 0 then 0 else match s.free[t.toNat]? with | some r => s.each - r.length | none => 0

theorem outG {s : PS} (t : Int) {H : AH} {b : Nat} (hb : H[b]? = some (poolB s)) {K : Value → AH → Prop} (hK : K (.int .i64 (outV s t : Nat)) H) : AC Try.prog 70 [.pointer (some ⟨b, 0, none⟩), .int .i64 t] H K := by
  refine AC.at1 (args0 := [.pointer (some ⟨0, 0, none⟩), .int .i64 t]) (r := .int .i64 (outV s t : Nat)) (E := []) ((pout_ s t).mono fun v h' hh => ⟨?_, hh.2⟩) trivial trivial (by simp) hb (by simp [scpL, scp, live]) (by simp [ren, renA]) ?_
  · rw [hh.1]
    unfold outV
    by_cases c : t < 0
    · rw [if_pos c, if_pos c]; rfl
    · rw [if_neg c, if_neg c]
      cases s.free[t.toNat]? <;> rfl
  · rw [set_same hb, List.append_nil]
    simpa [ren] using hK

end Px
end Go.Proofs.Ytongllppbifiaaa
