/- order, in plain Lean: turns, waits, who is overtaken; what more entries do. -/
import Derived.Test.YtekhadlpcdjlpaaAbsD
namespace Go.Proofs.Ytekhadlpcdjlpaa
namespace Ox
open Go Abs
set_option linter.unusedVariables false
set_option linter.unusedSimpArgs false

structure En where
  k : Int
  t : Int
  now : Int

/-- A turn: its thread, where its Enq stands and its Grant. -/
structure Tn where
  t : Int
  e : Nat
  g : Nat

/-- Where a thread is granted, from a place on. -/
def seek (t : Int) : List En → Nat → Option Nat
  | [], _ => none
  | y :: l, k => if y.t = t ∧ (y.k = 2 ∨ y.k = 4 ∨ y.k = 3) then (if y.k = 3 then some k else none) else seek t l (k + 1)

def turnAt (l : List En) (i : Nat) : Option Tn := match l[i]? with
  | some x => if x.k = 2 then (seek x.t (l.drop (i + 1)) (i + 1)).map fun g => ⟨x.t, i, g⟩ else none
  | none => none
def turnsL (l : List En) : List Tn := (List.range l.length).filterMap (turnAt l)

/-- How many pairs are overtaken. -/
def pass (a b : Tn) : Bool := decide (a.t ≠ b.t ∧ b.g < a.g)
def overL : List Tn → Nat
  | [] => 0
  | a :: r => r.countP (pass a) + overL r

/-- What a thread did last, of what counts. -/
def bearing (k : Int) : Bool := decide (k = 2 ∨ k = 3 ∨ k = 4 ∨ k = 9)
def lasts (l : List En) : List (Int × Int) := l.foldl (fun m x => if bearing x.k then (if m.any (fun y => y.1 == x.t) then m.map (fun y => if y.1 = x.t then (x.t, x.k) else y) else m ++ [(x.t, x.k)]) else m) []
def aheadL (l : List En) (t : Int) : Nat := (lasts l).countP fun y => decide (y.1 ≠ t ∧ (y.2 = 2 ∨ y.2 = 3))

structure Wt where
  t : Int
  a : Int
  g : Int
def countK (l : List En) (k : Int) : Nat := l.countP fun x => x.k == k
def waitOf (l : List En) (x : Tn) : Wt := ⟨x.t, aheadL (l.take x.e) x.t, countK ((l.take x.g).drop x.e) 3⟩
def waitsL (l : List En) : List Wt := (turnsL l).map (waitOf l)

theorem seek_take (t : Int) : ∀ (l : List En) (p m : Nat), seek t (l.take m) p = (seek t l p).filter fun g => decide (g < p + m)
  | [], p, m => by simp [seek]
  | y :: l, p, 0 => by
    simp only [List.take_zero, seek, Nat.add_zero]
    have key : ∀ (l : List En) (q : Nat), p ≤ q → (seek t l q).filter (fun g => decide (g < p)) = none := by
      intro l
      induction l with
      | nil => intro q _; rfl
      | cons y l ih =>
        intro q hq
        simp only [seek]
        split
        · split
          · simp; omega
          · rfl
        · exact ih (q + 1) (by omega)
    exact (key (y :: l) p (Nat.le_refl _)).symm
  | y :: l, p, m + 1 => by
    simp only [List.take_succ_cons, seek]
    split
    · split
      · simp [Option.filter]
      · rfl
    · rw [seek_take t l (p + 1) m]
      congr 1
      funext g
      congr 1
      simp
      omega

theorem seek_ge (t : Int) : ∀ (l : List En) (p g : Nat), seek t l p = some g → p ≤ g ∧ g < p + l.length
  | [], p, g, h => by simp [seek] at h
  | y :: l, p, g, h => by
    simp only [seek] at h
    split at h
    · split at h
      · injection h with h; subst h; simp
      · cases h
    · have := seek_ge t l (p + 1) g h
      simp
      omega

theorem turnAt_parts {l : List En} {i : Nat} {x : Tn} (h : turnAt l i = some x) : x.e = i ∧ i < x.g ∧ x.g < l.length ∧ ∃ y, l[i]? = some y ∧ y.k = 2 ∧ x.t = y.t := by
  unfold turnAt at h
  split at h
  · rename_i y hy
    split at h
    · rename_i hk
      cases hs : seek y.t (l.drop (i + 1)) (i + 1) with
      | none => rw [hs] at h; cases h
      | some g =>
        rw [hs] at h
        injection h with h
        subst h
        have := seek_ge _ _ _ _ hs
        rw [List.length_drop] at this
        have hil := (List.getElem?_eq_some_iff.1 hy).1
        exact ⟨rfl, by simp only; omega, by simp only; omega, y, hy, hk, rfl⟩
    · cases h
  · cases h

theorem turnAt_take (l : List En) (m i : Nat) : turnAt (l.take m) i = (turnAt l i).filter fun x => decide (x.g < m) := by
  by_cases him : i < m
  · unfold turnAt
    rw [List.getElem?_take_of_lt him]
    cases hy : l[i]? with
    | none => rfl
    | some y =>
      simp only
      split
      · rw [List.drop_take, seek_take]
        cases hs : seek y.t (l.drop (i + 1)) (i + 1) with
        | none => rfl
        | some g =>
          simp only [Option.filter, Option.map]
          by_cases hg : g < m
          · simp [hg, show g < i + 1 + (m - (i + 1)) by omega]
          · simp [hg, show ¬ g < i + 1 + (m - (i + 1)) by omega]
      · rfl
  · have e1 : turnAt (l.take m) i = none := by
      unfold turnAt
      rw [List.getElem?_eq_none (by simp; omega)]
    rw [e1]
    cases h : turnAt l i with
    | none => rfl
    | some x =>
      obtain ⟨_, h2, _⟩ := turnAt_parts h
      simp [Option.filter]
      omega

theorem turns_take (l : List En) (m : Nat) (hm : m ≤ l.length) : turnsL (l.take m) = (turnsL l).filter fun x => decide (x.g < m) := by
  unfold turnsL
  rw [List.filter_filterMap]
  have e : (List.range l.length).filterMap (fun i => Option.filter (fun x => decide (x.g < m)) (turnAt l i)) = (List.range l.length).filterMap (turnAt (l.take m)) := by
    congr 1
    funext i
    exact (turnAt_take l m i).symm
  rw [e]
  have hr : List.range l.length = List.range m ++ (List.range (l.length - m)).map (m + ·) := by
    rw [← List.range_add]
    congr 1
    omega
  rw [hr, List.filterMap_append, List.length_take, Nat.min_eq_left hm]
  have : ((List.range (l.length - m)).map (m + ·)).filterMap (turnAt (l.take m)) = [] := by
    rw [List.filterMap_eq_nil_iff]
    intro i hi
    obtain ⟨j, _, rfl⟩ := List.mem_map.1 hi
    unfold turnAt
    rw [List.getElem?_eq_none (by simp; omega)]
  rw [this, List.append_nil]

theorem waits_take (l : List En) (m : Nat) (hm : m ≤ l.length) : (waitsL (l.take m)).Sublist (waitsL l) := by
  unfold waitsL
  rw [turns_take l m hm]
  have : ((turnsL l).filter fun x => decide (x.g < m)).map (waitOf (l.take m)) = ((turnsL l).filter fun x => decide (x.g < m)).map (waitOf l) := by
    refine List.map_congr_left fun x hx => ?_
    obtain ⟨h1, h2⟩ := List.mem_filter.1 hx
    have hg : x.g < m := by simpa using h2
    obtain ⟨i, _, hi⟩ := List.mem_filterMap.1 h1
    obtain ⟨he, hlt, _⟩ := turnAt_parts hi
    unfold waitOf
    rw [List.take_take, List.take_take, Nat.min_eq_left (by omega), Nat.min_eq_left (by omega)]
  rw [this]
  exact List.Sublist.map _ List.filter_sublist

theorem over_sub : ∀ {a b : List Tn}, a.Sublist b → overL a ≤ overL b
  | _, _, .slnil => Nat.le_refl _
  | _, _, .cons x h => by
    have := over_sub h
    simp only [overL]
    omega
  | _, _, .cons_cons x h => by
    have := over_sub h
    have := h.countP_le (p := pass x)
    simp only [overL]
    omega

theorem over_take (l : List En) (m : Nat) (hm : m ≤ l.length) : overL (turnsL (l.take m)) ≤ overL (turnsL l) := by
  rw [turns_take l m hm]
  exact over_sub List.filter_sublist

end Ox
end Go.Proofs.Ytekhadlpcdjlpaa
