/- Layer 9 (mem), the plain part: all cells of areas, in a row; where each area begins. -/
import Derived.Test.YtekhadlpcdjlpaaFlat2
namespace Go.Proofs.Ytekhadlpcdjlpaa
namespace Mem

/-- The cells of one area. -/
def area (a n : Nat) : List (Int × Int) := (List.range n).map fun (i : Nat) => ((a : Int), (i : Int))
/-- All cells of areas, the first of which is area a. -/
def cellsFrom : Nat → List Nat → List (Int × Int)
  | _, [] => []
  | a, n :: ns => area a n ++ cellsFrom (a + 1) ns
def cells (ns : List Nat) : List (Int × Int) := cellsFrom 0 ns

theorem area_length (a n : Nat) : (area a n).length = n := by simp [area]
theorem cellsFrom_append (a : Nat) (ns ms : List Nat) : cellsFrom a (ns ++ ms) = cellsFrom a ns ++ cellsFrom (a + ns.length) ms := by
  induction ns generalizing a with
  | nil => simp [cellsFrom]
  | cons n ns ih => simp [cellsFrom, ih, Nat.add_assoc, Nat.add_comm 1]
theorem cellsFrom_length (a : Nat) (ns : List Nat) : (cellsFrom a ns).length = ns.sum := by
  induction ns generalizing a with
  | nil => rfl
  | cons n ns ih => simp [cellsFrom, ih, area_length]
theorem cells_length (ns : List Nat) : (cells ns).length = ns.sum := cellsFrom_length 0 ns
theorem cells_snoc (ns : List Nat) (n : Nat) : cells (ns ++ [n]) = cells ns ++ area ns.length n := by
  simp [cells, cellsFrom_append, cellsFrom]
theorem area_succ (a n : Nat) : area a (n + 1) = area a n ++ [((a : Int), (n : Int))] := by simp [area, List.range_succ]

theorem sum_take_succ (ns : List Nat) (k n : Nat) (h : ns[k]? = some n) : (ns.take (k + 1)).sum = (ns.take k).sum + n := by
  rw [List.take_add_one, h]
  simp
theorem sum_take_le (ns : List Nat) (k : Nat) : (ns.take k).sum ≤ ns.sum := by
  have := List.take_append_drop k ns
  calc (ns.take k).sum ≤ (ns.take k).sum + (ns.drop k).sum := Nat.le_add_right _ _
    _ = ns.sum := by rw [← List.sum_append, this]

/-- A row that is filled from its head on. -/
theorem fill_next {α : Type} (z : α) (l : List α) (n j : Nat) (x : α) (hl : l.length = n) (hx : l[j]? = some x) :
    (l.take j ++ List.replicate (n - j) z)[j]? = some z ∧ (l.take j ++ List.replicate (n - j) z).set j x = l.take (j + 1) ++ List.replicate (n - (j + 1)) z := by
  have hj : j < l.length := (List.getElem?_eq_some_iff.1 hx).1
  have hlen : (l.take j).length = j := by simp; omega
  have e : l.take (j + 1) = l.take j ++ [x] := by rw [List.take_add_one, hx]; rfl
  have r : List.replicate (n - j) z = z :: List.replicate (n - (j + 1)) z := by rw [show n - j = (n - (j + 1)) + 1 by omega, List.replicate_succ]
  rw [r]
  refine ⟨by rw [List.getElem?_append_right (by omega), hlen]; simp, ?_⟩
  rw [List.set_append_right _ _ (by omega), hlen, Nat.sub_self, List.set_cons_zero, e]
  simp

/-- Where each area begins. -/
def begins (ns : List Nat) : List Nat := (List.range ns.length).map fun k => (ns.take k).sum
theorem begins_length (ns : List Nat) : (begins ns).length = ns.length := by simp [begins]
theorem begins_get (ns : List Nat) (k : Nat) (h : k < ns.length) : (begins ns)[k]? = some (ns.take k).sum := by simp [begins, h]
theorem begins_snoc (ns : List Nat) (n : Nat) : begins (ns ++ [n]) = begins ns ++ [ns.sum] := by
  unfold begins
  rw [List.length_append, List.length_singleton, List.range_succ, List.map_append]
  congr 1
  · apply List.map_congr_left
    intro k hk
    have := List.mem_range.1 hk
    rw [List.take_append_of_le_length (by omega)]
  · simp

/-- The cell that lies at an address. -/
theorem cells_at (ns : List Nat) (k n i : Nat) (h : ns[k]? = some n) (hi : i < n) : (cells ns)[(ns.take k).sum + i]? = some ((k : Int), (i : Int)) := by
  have hk : k < ns.length := (List.getElem?_eq_some_iff.1 h).1
  have e : ns = ns.take k ++ n :: ns.drop (k + 1) := by
    have h1 := List.take_append_drop k ns
    rw [List.drop_eq_getElem_cons hk] at h1
    rw [show ns[k] = n by rw [List.getElem?_eq_getElem hk] at h; injection h] at h1
    exact h1.symm
  obtain ⟨l1, l2, e1, hl⟩ : ∃ l1 l2, ns = l1 ++ n :: l2 ∧ l1.length = k := ⟨_, _, e, by simp; omega⟩
  clear e
  subst e1
  subst hl
  have ht : (l1 ++ n :: l2).take l1.length = l1 := by simp
  rw [ht]
  unfold cells
  rw [cellsFrom_append, cellsFrom, Nat.zero_add]
  rw [List.getElem?_append_right (by rw [cellsFrom_length]; omega), cellsFrom_length, List.getElem?_append_left (by rw [area_length]; omega)]
  rw [show l1.sum + i - l1.sum = i by omega]
  simp [area, hi]

/-- Each address lies in some area. -/
theorem at_area (ns : List Nat) (a : Nat) (h : a < ns.sum) : ∃ k n i, ns[k]? = some n ∧ i < n ∧ a = (ns.take k).sum + i := by
  induction ns generalizing a with
  | nil => simp at h
  | cons n ns ih =>
    by_cases hn : a < n
    · exact ⟨0, n, a, by simp, hn, by simp⟩
    · obtain ⟨k, m, i, h1, h2, h3⟩ := ih (a - n) (by simp at h; omega)
      exact ⟨k + 1, m, i, by simpa using h1, h2, by simp; omega⟩

theorem cells_get (ns : List Nat) (a : Nat) (x : Int × Int) (h : (cells ns)[a]? = some x) : ∃ k n i : Nat, ns[k]? = some n ∧ i < n ∧ x = ((k : Int), (i : Int)) ∧ a = (ns.take k).sum + i := by
  have ha : a < ns.sum := by rw [← cells_length]; exact (List.getElem?_eq_some_iff.1 h).1
  obtain ⟨k, n, i, h1, h2, h3⟩ := at_area ns a ha
  have := cells_at ns k n i h1 h2
  rw [← h3, h] at this
  exact ⟨k, n, i, h1, h2, by injection this, h3⟩

theorem cells_inj (ns : List Nat) (a b : Nat) (x : Int × Int) (ha : (cells ns)[a]? = some x) (hb : (cells ns)[b]? = some x) : a = b := by
  obtain ⟨k, n, i, _, _, h3, h4⟩ := cells_get ns a x ha
  obtain ⟨k', n', i', _, _, h3', h4'⟩ := cells_get ns b x hb
  rw [h3] at h3'
  have e1 := congrArg Prod.fst h3'
  have e2 := congrArg Prod.snd h3'
  simp only at e1 e2
  have : k = k' := by omega
  subst this
  omega

end Mem
end Go.Proofs.Ytekhadlpcdjlpaa
