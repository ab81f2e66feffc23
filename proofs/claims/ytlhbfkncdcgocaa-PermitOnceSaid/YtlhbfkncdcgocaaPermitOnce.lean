/- The walk of the statement PermitOnce. -/
import Derived.Test.YtlhbfkncdcgocaaPermitSet
namespace Go.Proofs.Ytlhbfkncdcgocaa
open Go.RowKit
set_option linter.unusedVariables false
namespace Permit

theorem many_one (k t : Nat) (h : t < k) : many ((List.replicate k false).set t true) = 1 := by
  unfold many
  rw [List.set_eq_take_append_cons_drop, if_pos (by simpa using h)]
  simp [List.filter_append]

/-- Who has one behind j gifts to one. -/
def behind (k t j : Nat) : List Bool := (List.replicate k false).set t (decide (0 < j))

theorem behind_at (k t j : Nat) (h : t < k) : (behind k t j)[t]? = some (decide (0 < j)) := by simp [behind, h]
theorem behind_zero (k t : Nat) (h : t < k) : behind k t 0 = List.replicate k false := by
  unfold behind
  exact set_same (by simp [h])
theorem behind_set (k t j : Nat) : (behind k t j).set t true = behind k t (j + 1) := by simp [behind]

set_option maxRecDepth 100000 in
theorem once_ (n t m : Int) (w : World) (hn : 0 ≤ n ∧ n ≤ 255) (ht : 0 ≤ t ∧ t ≤ 255) (hm : 0 ≤ m ∧ m ≤ 255) :
    Calls Try.prog 13 #[.int .u8 n, .int .u8 t, .int .u8 m] w fun e w' => e = .returned (.bool true) ∧ Mod [] w w' := by
  obtain ⟨k, hk, hk1, hk2⟩ : ∃ k : Nat, 1 + n % 64 = (k : Int) ∧ 1 ≤ k ∧ k ≤ 64 := ⟨(1 + n % 64).toNat, by omega, by omega, by omega⟩
  obtain ⟨who, hw, hwk⟩ : ∃ q : Nat, t % (k : Int) = (q : Int) ∧ q < k := ⟨(t % (k : Int)).toNat, by have := Int.emod_nonneg t (show (k : Int) ≠ 0 by omega); omega, by have := Int.emod_nonneg t (show (k : Int) ≠ 0 by omega); have := Int.emod_lt_of_pos t (show (0 : Int) < k by omega); omega⟩
  obtain ⟨T, hT, hT1, hT2⟩ : ∃ T : Nat, 1 + m % 60 = (T : Int) ∧ 1 ≤ T ∧ T ≤ 60 := ⟨(1 + m % 60).toNat, by omega, by omega, by omega⟩
  have hk0 : (0 : Int) < k := by omega
  go_enter Try.func13, Try.ntmps13
  go_wp2_with fail
  refine (new_ k _ hk1 hk2).mono ?_
  rintro e w1 ⟨p, d, cap, cs, rfl, hC, hl, hb, m1⟩
  rw [← behind_zero k who hwk] at hC
  have hx : ∀ x, x ∈ cs → x < w.heap.size → x ∈ ([] : List Nat) := fun x hx hlt => by have := hb x (.inr (.inr hx)); omega
  go_wp2_with fail
  rw [hw]
  clear hw hk hT
  go_loopw [43] (fun i wr => ∃ j : Nat, j ≤ T ∧ i = .int .i64 j ∧ C wr p d cap cs (behind k who j) ∧ Mod [] w wr) (fun i _ => T - (intOf i).toNat)
  case atStart => exact ⟨0, by omega, rfl, hC, m1⟩
  case round =>
    clear hC m1
    obtain ⟨j, hj, rfl, hC, hmod⟩ := hrel
    by_cases hlt : j < T
    · have hgive := give_in p d cap cs _ _ hC who (by omega) _ (behind_at k who j hwk)
      rw [behind_set] at hgive
      cases j with
      | zero =>
        go_wp2_with fail
        refine hgive.mono ?_
        rintro e w2 ⟨rfl, hC2, m2⟩
        go_wp2
        go_roundw
        case rel => exact ⟨1, by omega, by go_num, hC2, hmod.step m2 hx⟩
        case measure => simp [intOf]; omega
      | succ j =>
        go_wp2_with fail
        refine hgive.mono ?_
        rintro e w2 ⟨rfl, hC2, m2⟩
        have h0 : (((j : Int) + 1) == 0) = false := by simp; omega
        go_wp2
        go_roundw
        case rel => exact ⟨j + 1 + 1, by omega, by go_num, hC2, hmod.step m2 hx⟩
        case measure => simp [intOf]; omega
    · have hb1 := behind_at k who j hwk
      have hj0 : 0 < j := by omega
      simp only [hj0, decide_true] at hb1
      go_wp2_with fail
      refine (take_in p d cap cs _ _ hC who (by omega) true hb1).mono ?_
      rintro e w2 ⟨rfl, hC2, m2⟩
      go_wp2_with fail
      refine (take_in p d cap cs _ _ hC2 who (by omega) false (by simp [behind, hwk])).mono ?_
      rintro e w3 ⟨rfl, hC3, m3⟩
      go_wp2_with fail
      refine (give_in p d cap cs _ _ hC3 who (by omega) false (by simp [behind, hwk])).mono ?_
      rintro e w4 ⟨rfl, hC4, m4⟩
      have hlen := len_ p d cap cs _ _ hC4
      rw [show many ((((behind k who j).set who false).set who false).set who true) = 1 by simp only [behind, List.set_set]; exact many_one k who hwk] at hlen
      go_wp2_with fail
      refine hlen.mono ?_
      rintro e w5 ⟨rfl, rfl⟩
      go_wp2_with fail
      refine (awake04 _).mono ?_
      rintro e w6 ⟨rfl, m6⟩
      go_wp2
      go_ret
      exact ⟨rfl, (((hmod.step m2 hx).step m3 hx).step m4 hx).trans m6⟩

end Permit

theorem law_PermitOnce (w : World) (v0 v1 v2 : Value) (x0 x1 x2 : Int) (h0 : Sh.Arg w (.int .u8) x0 v0) (h1 : Sh.Arg w (.int .u8) x1 v1) (h2 : Sh.Arg w (.int .u8) x2 v2) :
    Calls Try.prog 13 #[v0, v1, v2] w fun e w' => e = .returned (.bool true) ∧ Mod [] w w' := by
  obtain ⟨rfl, hw0⟩ := h0
  obtain ⟨rfl, hw1⟩ := h1
  obtain ⟨rfl, hw2⟩ := h2
  exact Permit.once_ x0 x1 x2 w (bounds_u8 hw0) (bounds_u8 hw1) (bounds_u8 hw2)
end Go.Proofs.Ytlhbfkncdcgocaa
