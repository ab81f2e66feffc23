/- Rounds as bits: the plain law. -/
import Derived.Test.YtlhbfkncdcgocaaHeap
namespace Go.Proofs.Ytlhbfkncdcgocaa
namespace Round

/-- Who is busy, of the first k, as bits. -/
def busyBits (l : List Bool) (n : Nat) : Nat → Nat
  | 0 => 0
  | k + 1 => if l[k]? = some true ∧ k < n then busyBits l n k ||| 2 ^ k else busyBits l n k

theorem busyBits_lt (l : List Bool) (n k : Nat) (hn : n ≤ 64) : busyBits l n k < 18446744073709551616 := by
  induction k with
  | zero => simp [busyBits]
  | succ k ih =>
    unfold busyBits
    split
    · rename_i h
      have : 2 ^ k < 2 ^ 64 := Nat.pow_lt_pow_right (by omega) (by omega)
      exact Nat.or_lt_two_pow (n := 64) ih this
    · exact ih

/-- Bit k struck. -/
def clr (m k : Nat) : Nat := m &&& (18446744073709551615 - 2 ^ k)

/-- Who is owed a pick behind what happened. -/
def next (l : List Bool) (n : Nat) (under : Bool) (owed : Nat) (picked : Int) : Nat :=
  let now := busyBits l n l.length
  let o := (if under then owed else now) &&& now
  if 0 ≤ picked ∧ picked < n then clr o picked.toNat else o

theorem and_lt (a b : Nat) (hb : b < 18446744073709551616) : a &&& b < 18446744073709551616 := Nat.lt_of_le_of_lt Nat.and_le_right hb

theorem clr_lt (a k : Nat) (ha : a < 18446744073709551616) : clr a k < 18446744073709551616 := Nat.lt_of_le_of_lt Nat.and_le_left ha


theorem busyBits_testBit (l : List Bool) (n k t : Nat) : (busyBits l n k).testBit t = decide (t < k ∧ t < n ∧ l[t]? = some true) := by
  induction k with
  | zero => simp [busyBits]
  | succ k ih =>
    unfold busyBits
    split
    · rename_i h
      rw [Nat.testBit_or, ih, Nat.testBit_two_pow]
      by_cases e : k = t
      · subst e
        simp [h.1, h.2]
      · have : (t < k + 1) = (t < k) := by simp; omega
        simp [e, this]
    · rename_i h
      rw [ih]
      by_cases e : t = k
      · subst e
        simp
        intro h1 h2
        exact h ⟨h2, h1⟩
      · have : (t < k + 1) = (t < k) := by simp; omega
        simp [this]

theorem clr_testBit (m k t : Nat) (hm : m < 18446744073709551616) (hk : k < 64) : (clr m k).testBit t = (m.testBit t && decide (t ≠ k)) := by
  unfold clr
  rw [Nat.testBit_and]
  by_cases ht : t < 64
  · have e : (18446744073709551615 - 2 ^ k).testBit t = (decide (t < 64) && !(2 ^ k).testBit t) := by
      have := Nat.testBit_two_pow_sub_succ (n := 64) (x := 2 ^ k) (Nat.pow_lt_pow_right (by omega) hk) t
      rw [← this]
      congr 1
      omega
    rw [e, Nat.testBit_two_pow]
    by_cases h : k = t
    · subst h; simp
    · have : ¬ t = k := fun e => h e.symm
      simp [ht, h, this]
  · have : m.testBit t = false := Nat.testBit_lt_two_pow (Nat.lt_of_lt_of_le hm (by
      have : 2 ^ 64 ≤ 2 ^ t := Nat.pow_le_pow_right (by omega) (by omega)
      simpa using this))
    simp [this]

theorem next_testBit (l : List Bool) (n : Nat) (under : Bool) (owed : Nat) (picked : Int) (hn : n ≤ 64) (t : Nat) :
    (next l n under owed picked).testBit t = ((if under then owed.testBit t else true) && decide (t < n ∧ l[t]? = some true) && decide (picked ≠ t)) := by
  have hb := busyBits_testBit l n l.length t
  have hlt := busyBits_lt l n l.length hn
  have hl : (t < l.length ∧ t < n ∧ l[t]? = some true) = (t < n ∧ l[t]? = some true) := by
    apply propext
    constructor
    · exact fun h => h.2
    · intro h
      exact ⟨(List.getElem?_eq_some_iff.1 h.2).1, h⟩
  simp only [hl] at hb
  unfold next
  dsimp only
  have key : ((if under then owed else busyBits l n l.length) &&& busyBits l n l.length).testBit t = ((if under then owed.testBit t else true) && decide (t < n ∧ l[t]? = some true)) := by
    rw [Nat.testBit_and, hb]
    cases under <;> simp [hb]
  split
  · rename_i h
    obtain ⟨q, rfl⟩ : ∃ q : Nat, picked = q := ⟨picked.toNat, by omega⟩
    rw [clr_testBit _ _ _ (and_lt _ _ hlt) (by omega), key]
    congr 1
    simp
    omega
  · rename_i h
    rw [key]
    by_cases e : picked = t
    · have : ¬ t < n := by omega
      simp [this]
    · simp [e]

theorem next_lt (l : List Bool) (n : Nat) (under : Bool) (owed : Nat) (picked : Int) (hn : n ≤ 64) : next l n under owed picked < 18446744073709551616 := by
  have hlt := busyBits_lt l n l.length hn
  unfold next
  dsimp only
  split
  · exact clr_lt _ _ (and_lt _ _ hlt)
  · exact and_lt _ _ hlt

theorem zero_of_bits {m : Nat} (h : ∀ t, m.testBit t = false) : m = 0 := Nat.eq_of_testBit_eq (by simpa using h)

end Round
end Go.Proofs.Ytlhbfkncdcgocaa
