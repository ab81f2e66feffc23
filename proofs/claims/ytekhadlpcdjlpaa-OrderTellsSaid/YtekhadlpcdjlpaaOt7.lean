/- order, in plain Lean: threads by their first entries, entry by entry. -/
import Derived.Test.YtekhadlpcdjlpaaOt4
namespace Go.Proofs.Ytekhadlpcdjlpaa
namespace Ox
open Go Abs
set_option linter.unusedVariables false
set_option linter.unusedSimpArgs false

/-- Is there an entry of a thread? -/
def hasT (l : List En) (u : Int) : Bool := l.any fun x => x.t == u
theorem hasT_cons (y : En) (l : List En) (u : Int) : hasT (y :: l) u = (y.t == u || hasT l u) := rfl
theorem firsts_snoc (x : En) : ∀ l : List En, firsts (l ++ [x]) = firsts l ++ if hasT l x.t then [] else [x.t]
  | [] => rfl
  | y :: l => by
    simp only [List.cons_append, firsts, firsts_snoc x l, List.filter_append]
    by_cases h : hasT l x.t = true
    · have hc : hasT (y :: l) x.t = true := by rw [hasT_cons, h, Bool.or_true]
      rw [if_pos h, if_pos hc]; simp
    · have hf : hasT l x.t = false := by simpa using h
      by_cases e : y.t = x.t
      · have hc : hasT (y :: l) x.t = true := by rw [hasT_cons, hf]; simp [e]
        rw [if_neg h, if_pos hc]; simp [e]
      · have hc : ¬ hasT (y :: l) x.t = true := by rw [hasT_cons, hf]; simp [e]
        have hne : ¬ x.t = y.t := fun h => e h.symm
        rw [if_neg h, if_neg hc]; simp [hne]

theorem firsts_take {l : List En} {k : Nat} {x : En} (h : l[k]? = some x) : firsts (l.take (k + 1)) = firsts (l.take k) ++ if hasT (l.take k) x.t then [] else [x.t] := by
  rw [List.take_add_one, h]
  exact firsts_snoc x _

/-- 'first', as the loop keeps it. -/
theorem hasT_take {l : List En} {j : Nat} {y : En} (h : l[j]? = some y) (u : Int) : hasT (l.take (j + 1)) u = (hasT (l.take j) u || y.t == u) := by
  unfold hasT
  rw [List.take_add_one, h, List.any_append]
  simp

end Ox
end Go.Proofs.Ytekhadlpcdjlpaa
