/- The accesses that a statement is handed, as data. -/
import Derived.Test.YtlhbfkncdcgocaaRead
namespace Go.Proofs.Ytlhbfkncdcgocaa
open Go.RowKit

abbrev opSh : Sh := .pair (.int .i64) (.pair (.int .i64) (.pair (.int .u32) (.pair (.int .u32) .unit)))

/-- A row of accesses: kind, place, old, value. -/
def RowOps (w : World) (a : Option Addr) (l : List (Int × Int × Int × Int × Unit)) : Prop :=
  l = [] ∨ ∃ b o, a = some ⟨b, o, none⟩ ∧ ∀ (i : Nat) x, l[i]? = some x →
    w.cell? ⟨b, o + i * 4, none⟩ = some (.int .i64 x.1) ∧ w.cell? ⟨b, o + i * 4 + 1, none⟩ = some (.int .i64 x.2.1) ∧ w.cell? ⟨b, o + i * 4 + 2, none⟩ = some (.int .u32 x.2.2.1) ∧ w.cell? ⟨b, o + i * 4 + 3, none⟩ = some (.int .u32 x.2.2.2.1) ∧
    (Lit.int .i64 x.1).wf = true ∧ (Lit.int .i64 x.2.1).wf = true ∧ (Lit.int .u32 x.2.2.1).wf = true ∧ (Lit.int .u32 x.2.2.2.1).wf = true

theorem arg_ops {w : World} {l : List (Int × Int × Int × Int × Unit)} {v : Value} (h : Sh.Arg w (.row opSh) l v) :
    ∃ a cap, v = .slice a l.length cap ∧ RowOps w a l ∧ l.length ≤ cap ∧ cap ≤ maxLen := by
  obtain ⟨a, cap, hv, hl, hm, _, hr⟩ := h
  simp only [List.cons.injEq, and_true] at hv
  refine ⟨a, cap, hv, ?_, hl, hm⟩
  rcases hr with hr | ⟨b, o, rfl, hr⟩
  · exact .inl hr
  · refine .inr ⟨b, o, rfl, fun i x hx => ?_⟩
    obtain ⟨r, h1, _, hc⟩ := hr i x hx
    obtain ⟨c1, c2, rfl, ⟨rfl, h1⟩, c3, c4, rfl, ⟨rfl, h2⟩, c5, c6, rfl, ⟨rfl, h3⟩, c7, c8, rfl, ⟨rfl, h4⟩, h5⟩ := h1
    have h6 : c8 = [] := h5
    subst h6
    refine ⟨?_, ?_, ?_, ?_, h1, h2, h3, h4⟩
    · have := hc 0 _ rfl
      simpa [Sh.size] using this
    · have := hc 1 _ rfl
      simpa [Sh.size] using this
    · have := hc 2 _ rfl
      simpa [Sh.size] using this
    · have := hc 3 _ rfl
      simpa [Sh.size] using this

end Go.Proofs.Ytlhbfkncdcgocaa
