/- Rows of elements of two numbers, as cells. -/
import Derived.Test.YtekhadlpcdjlpaaHeap
namespace Go.Proofs.Ytekhadlpcdjlpaa
open Go.RowKit
set_option linter.unusedVariables false

/-- The cells of a row of pairs. -/
def flat2 (l : List (Int × Int)) : List Value := l.flatMap fun x => [.int .i64 x.1, .int .i64 x.2]

theorem flat2_len (l : List (Int × Int)) : (flat2 l).length = l.length * 2 := by
  induction l with
  | nil => rfl
  | cons x l ih => simp only [flat2, List.flatMap_cons, List.length_append, List.length_cons, List.length_nil] at ih ⊢; omega

theorem flat2_get : ∀ (l : List (Int × Int)) (k : Nat) (x : Int × Int), l[k]? = some x → (flat2 l)[k * 2]? = some (.int .i64 x.1) ∧ (flat2 l)[k * 2 + 1]? = some (.int .i64 x.2) := by
  intro l
  induction l with
  | nil => intro k x h; simp at h
  | cons y l ih =>
    intro k x h
    cases k with
    | zero => simp at h; subst h; simp [flat2]
    | succ k =>
      have := ih k x (by simpa using h)
      have e : (k + 1) * 2 = k * 2 + 1 + 1 := by omega
      rw [e]
      simpa [flat2] using this

theorem flat2_set : ∀ (l : List (Int × Int)) (k : Nat) (x : Int × Int), flat2 (l.set k x) = if k < l.length then ((flat2 l).set (k * 2) (.int .i64 x.1)).set (k * 2 + 1) (.int .i64 x.2) else flat2 l := by
  intro l
  induction l with
  | nil => intro k x; simp [flat2]
  | cons y l ih =>
    intro k x
    cases k with
    | zero => simp [flat2]
    | succ k =>
      have := ih k x
      have e : (k + 1) * 2 = k * 2 + 1 + 1 := by omega
      rw [e]
      simp only [flat2, List.set_cons_succ, List.flatMap_cons, List.cons_append, List.nil_append, List.length_cons, Nat.add_lt_add_iff_right] at this ⊢
      rw [this]
      split <;> rfl

theorem flat2_zero (n : Nat) : flat2 (List.replicate n (0, 0)) = List.replicate (n * 2) (.int .i64 0) := by
  induction n with
  | zero => rfl
  | succ n ih =>
    rw [List.replicate_succ, show (n + 1) * 2 = n * 2 + 1 + 1 by omega, List.replicate_succ, List.replicate_succ]
    simp only [flat2, List.flatMap_cons, List.cons_append, List.nil_append] at ih ⊢
    rw [ih]

theorem made_pairs (n : Nat) : madeCells #[.int .i64 0, .int .i64 0] (n * 2) = (flat2 (List.replicate n (0, 0))).toArray := by
  rw [flat2_zero]
  apply Array.ext
  · simp [madeCells]
  · intro i h1 h2
    have hi : i % 2 = 0 ∨ i % 2 = 1 := by omega
    rcases hi with hi | hi <;> simp [madeCells, hi]

end Go.Proofs.Ytekhadlpcdjlpaa
