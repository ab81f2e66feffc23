/- What is told to rounds, call by call, as data. -/
import Derived.Test.YtlhbfkncdcgocaaRead
namespace Go.Proofs.Ytlhbfkncdcgocaa
open Go.RowKit

abbrev toldSh : Sh := .pair (.row .bool) (.pair (.int .i64) .unit)

/-- A row of calls: who is busy, who was picked. -/
def RowTold (w : World) (a : Option Addr) (l : List (List Bool × Int × Unit)) : Prop :=
  l = [] ∨ ∃ b o, a = some ⟨b, o, none⟩ ∧ ∀ (i : Nat) x, l[i]? = some x →
    ∃ ab cb, w.cell? ⟨b, o + i * 2, none⟩ = some (.slice ab x.1.length cb) ∧ RowB w ab x.1 ∧ x.1.length ≤ cb ∧ cb ≤ maxLen ∧
      w.cell? ⟨b, o + i * 2 + 1, none⟩ = some (.int .i64 x.2.1) ∧ (Lit.int .i64 x.2.1).wf = true

theorem arg_told {w : World} {l : List (List Bool × Int × Unit)} {v : Value} (h : Sh.Arg w (.row toldSh) l v) :
    ∃ a cap, v = .slice a l.length cap ∧ RowTold w a l ∧ l.length ≤ cap ∧ cap ≤ maxLen := by
  obtain ⟨a, cap, hv, hl, hm, _, hr⟩ := h
  simp only [List.cons.injEq, and_true] at hv
  refine ⟨a, cap, hv, ?_, hl, hm⟩
  rcases hr with hr | ⟨b, o, rfl, hr⟩
  · exact .inl hr
  · refine .inr ⟨b, o, rfl, fun i x hx => ?_⟩
    obtain ⟨r, h1, _, hc⟩ := hr i x hx
    obtain ⟨c1, c2, rfl, hb, c3, c4, rfl, ⟨rfl, h2⟩, h5⟩ := h1
    have h6 : c4 = [] := h5
    subst h6
    have hb0 := hb
    obtain ⟨ab, cb, hcs, _⟩ := hb0
    subst hcs
    obtain ⟨ab, cb, hv2, hrow, hle, hcm⟩ := rowB_of hb
    injection hv2 with e1 e2 e3
    subst e1 e3
    refine ⟨_, _, ?_, hrow, hle, hcm, ?_, h2⟩
    · have := hc 0 _ rfl
      simp [Sh.size] at this
      exact this
    · have := hc 1 _ rfl
      simpa [Sh.size] using this

end Go.Proofs.Ytlhbfkncdcgocaa
