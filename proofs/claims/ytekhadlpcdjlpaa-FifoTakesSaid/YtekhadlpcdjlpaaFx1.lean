/- fifo, in plain Lean: the lock's state, what fits, what is taken; checking a trace. -/
import Derived.Test.YtekhadlpcdjlpaaAbs23
namespace Go.Proofs.Ytekhadlpcdjlpaa
namespace Fx
open Go Abs
set_option linter.unusedVariables false
set_option linter.unusedSimpArgs false

def wayOf (k : Int) : Int × Int × Bool :=
  if k = 1 then (0, 1, true) else if k = 2 then (1, 2, true) else if k = 3 then (2, 3, true) else if k = 4 then (2, 5, true) else if k = 5 then (3, 4, true)
  else if k = 6 then (5, 0, true) else if k = 7 then (1, 0, true) else if k = 8 then (4, 6, true) else if k = 9 then (6, 7, true) else if k = 10 then (7, 0, true) else (0, 0, false)

structure En where
  k : Int
  t : Int
  now : Int

structure LS where
  st : List Int
  q : List Int
  own : Int
  now : Int

def fitsL (s : LS) (x : En) : Bool :=
  (wayOf x.k).2.2 && decide (0 ≤ x.t) && decide (x.t < s.st.length) && decide (s.now ≤ x.now) && decide (s.st[x.t.toNat]? = some (wayOf x.k).1) && (decide (x.k ≠ 3) || (decide (s.own = -1) && decide (s.q.head? = some x.t)))

def takeL (s : LS) (x : En) : LS := if fitsL s x then
    ⟨s.st.set x.t.toNat (wayOf x.k).2.1, (if x.k = 2 then s.q ++ [x.t] else if x.k = 3 ∨ x.k = 4 then s.q.filter (· != x.t) else s.q), (if x.k = 3 then x.t else if x.k = 9 then -1 else s.own), x.now⟩
  else s

def newL (n : Int) : LS := ⟨List.replicate n.toNat 0, [], -1, 0⟩

structure OkL (s : LS) : Prop where
  ge : 1 ≤ s.st.length
  le : s.st.length ≤ 64
  que : ∀ i : Nat, s.st[i]? = some (2 : Int) → (i : Int) ∈ s.q

theorem newL_ok {n : Int} (h : 1 ≤ n) (h' : n ≤ 64) : OkL (newL n) := by
  refine ⟨by simp [newL]; omega, by simp [newL]; omega, fun i hi => ?_⟩
  simp only [newL, List.getElem?_replicate] at hi
  split at hi <;> simp at hi

theorem fitsL_parts {s : LS} {x : En} (h : fitsL s x = true) : (wayOf x.k).2.2 = true ∧ 0 ≤ x.t ∧ x.t < s.st.length ∧ s.now ≤ x.now ∧ s.st[x.t.toNat]? = some (wayOf x.k).1 ∧ (x.k ≠ 3 ∨ (s.own = -1 ∧ s.q.head? = some x.t)) := by
  simpa [fitsL, and_assoc] using h

theorem wayOf_two (k : Int) (h : (wayOf k).2.1 = 2) : k = 2 := by
  unfold wayOf at h
  repeat' split at h
  all_goals first | assumption | (simp at h)

theorem takeL_ok {s : LS} {x : En} (h : OkL s) : OkL (takeL s x) := by
  unfold takeL
  split
  case isFalse => exact h
  rename_i hf
  obtain ⟨h1, h2, h3, h4, h5, h6⟩ := fitsL_parts hf
  refine ⟨by simpa using h.ge, by simpa using h.le, fun i hi => ?_⟩
  simp only [List.getElem?_set] at hi
  split at hi
  · rename_i e
    split at hi
    · injection hi with hi
      have hk := wayOf_two _ hi
      simp only [if_pos hk, List.mem_append, List.mem_singleton]
      right
      omega
    · cases hi
  · rename_i e
    have hm := h.que i hi
    split
    · exact List.mem_append_left _ hm
    · split
      · refine List.mem_filter.2 ⟨hm, ?_⟩
        simp only [bne_iff_ne, ne_eq]
        omega
      · exact hm

/-- How many fit. -/
def countL (s : LS) : List En → Nat
  | [] => 0
  | x :: l => if fitsL s x then countL (takeL s x) l + 1 else 0

theorem countL_le (s : LS) (l : List En) : countL s l ≤ l.length := by
  induction l generalizing s with
  | nil => simp [countL]
  | cons x l ih =>
    simp only [countL]
    split
    · have := ih (takeL s x); simp; omega
    · simp

theorem countL_take (s : LS) (l : List En) (k : Nat) : countL s (l.take k) = min k (countL s l) := by
  induction l generalizing s k with
  | nil => simp [countL]
  | cons x l ih =>
    cases k with
    | zero => simp [countL]
    | succ k =>
      simp only [List.take_succ_cons, countL]
      split
      · rw [ih]; omega
      · simp

end Fx
end Go.Proofs.Ytekhadlpcdjlpaa
