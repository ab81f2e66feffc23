/- The walk of the statement ParkBudget. -/
import Derived.Test.YtekhadlpcdjlpaaPark3
import Derived.Test.YtekhadlpcdjlpaaRead
namespace Go.Proofs.Ytekhadlpcdjlpaa
namespace Park
open Go.RowKit
set_option linter.unusedVariables false

/-- The two sleepers behind i looks of the second one. -/
def two (nn i : Nat) (ad : Int) : List (Int × Int) := if i < nn then [(0, -1), ((i : Int), -1)] else [(0, -1), (0, ad)]

theorem two_wrote (ad z by_ : Int) (bs1 : Bool) (hz : z ≠ -1) : woken [((0 : Int), (-1 : Int)), (0, ad)] [false, bs1] z by_ 2 = (if z = ad ∧ by_ ≠ 1 ∧ bs1 = false then [1] else []) ∧
    after [((0 : Int), (-1 : Int)), (0, ad)] [false, bs1] z by_ 2 = [false, bs1 || decide (z = ad ∧ by_ ≠ 1 ∧ bs1 = false)] := by
  have h0 : wokenB [((0 : Int), (-1 : Int)), (0, ad)] [false, bs1] z by_ 0 = false := by
    unfold wokenB
    simp
    intro h1 h2
    exact absurd h2.symm hz
  have h1 : wokenB [((0 : Int), (-1 : Int)), (0, ad)] [false, bs1] z by_ 1 = decide (z = ad ∧ by_ ≠ 1 ∧ bs1 = false) := by
    unfold wokenB
    cases bs1 <;> simp [hz]
    by_cases q1 : ad = z <;> by_cases q2 : by_ = 1 <;> simp [q1, q2, eq_comm]
  constructor
  · rw [show (2 : Nat) = 0 + 1 + 1 from rfl, woken_succ, woken_succ, h0, h1]
    by_cases q : z = ad ∧ by_ ≠ 1 ∧ bs1 = false
    · rw [if_pos (by simpa using q), if_pos q]
      rfl
    · rw [if_neg (by simpa using q), if_neg q]
      rfl
  · unfold after
    simp [List.range_succ, h0, h1]

set_option maxRecDepth 100000 in
set_option maxHeartbeats 1000000 in
theorem budget_ (s m ad : Int) (w : World) (hs : 0 ≤ s ∧ s ≤ 65535) (hm : 0 ≤ m ∧ m ≤ 65535) (ha : 0 ≤ ad ∧ ad ≤ 255) :
    Calls Try.prog 15 #[.int .u16 s, .int .u16 m, .int .u8 ad] w fun e w' => e = .returned (.bool true) ∧ Mod [] w w' := by
  obtain ⟨nn, hn, hn1, hn2⟩ : ∃ q : Nat, 1 + s % 1000 = (q : Int) ∧ 1 ≤ q ∧ q ≤ 1000 := ⟨(1 + s % 1000).toNat, by omega, by omega, by omega⟩
  obtain ⟨mm, hmm, hmm2⟩ : ∃ q : Nat, m % (nn : Int) = (q : Int) ∧ q < nn := ⟨(m % (nn : Int)).toNat, by have := Int.emod_nonneg m (show (nn : Int) ≠ 0 by omega); omega, by have := Int.emod_nonneg m (show (nn : Int) ≠ 0 by omega); have := Int.emod_lt_of_pos m (show (0 : Int) < nn by omega); omega⟩
  have hn0 : (0 : Int) < nn := by omega
  go_enter Try.func15, Try.ntmps15
  go_wp2_with fail
  refine (new_ 2 nn _ (by decide) (by decide) hn1 hn2).mono ?_
  rintro e w1 ⟨p, g, gc, pp, pd, pcap, cs, rfl, hA, m1⟩
  go_wp2_with fail
  try rw [hmm]
  clear hmm hn
  go_loopw [32] (fun i wr => ∃ j : Nat, j ≤ mm ∧ i = .int .i64 j ∧ W wr p g gc pp pd pcap cs nn [(0, -1), ((j : Int), -1)] [false, false] ∧ Mod [] w wr) (fun i _ => mm - (intOf i).toNat)
  case atStart => exact ⟨0, by omega, rfl, hA.st, m1⟩
  case round =>
    clear m1
    obtain ⟨j, hj, rfl, hW, hmd⟩ := hrel
    by_cases hlt : j < mm
    · go_wp2_with fail
      refine (look_no hW 1 ((j : Int), -1) rfl ad (by simp; omega)).mono ?_
      rintro e w2 ⟨rfl, hW2, m2⟩
      go_wp2
      go_roundw
      case rel => exact ⟨j + 1, by omega, by go_num, hW2, (hA.of hW).step (S := [g]) (by simp) hmd m2⟩
      case measure => simp [intOf]; omega
    · go_wp2_with fail
      refine (moved_ hW 1 ((j : Int), -1) rfl).mono ?_
      rintro e w2 ⟨rfl, hW2, m2⟩
      have n2 := (hA.of hW).step (S := [g]) (by simp) hmd m2
      have hW2' : W w2 p g gc pp pd pcap cs nn (two nn 0 ad) [false, false] := by unfold two; rw [if_pos (by omega)]; exact hW2
      clear hW hmd hW2 hlt hj
      go_wp2_with fail
      go_loopw [42] (fun i wx => ∃ j : Nat, j ≤ nn ∧ i = .int .i64 j ∧ W wx p g gc pp pd pcap cs nn (two nn j ad) [false, false] ∧ Mod [] w wx) (fun i _ => nn - (intOf i).toNat)
      case atStart => exact ⟨0, by omega, rfl, hW2', n2⟩
      case round =>
        clear hW2' n2 m2
        obtain ⟨i, hi, rfl, hW, hmd⟩ := hrel
        by_cases hlt : i + 1 < nn
        · have e1 : two nn i ad = [(0, -1), ((i : Int), -1)] := by unfold two; rw [if_pos (by omega)]
          have e2 : two nn (i + 1) ad = [(0, -1), ((i : Int) + 1, -1)] := by unfold two; rw [if_pos (by omega)]; rfl
          rw [e1] at hW
          have E2 := hid e2
          have d1 : ((i : Int) == (nn : Int) - 1) = false := by simp; omega
          clear e1 e2
          go_wp2_with fail
          refine (look_no hW 1 ((i : Int), -1) rfl ad (by simp; omega)).mono ?_
          rintro e w3 ⟨rfl, hW3, m3⟩
          go_wp2
          go_roundw
          case rel => exact ⟨i + 1, by omega, by go_num, by rw [E2.out]; exact hW3, (hA.of hW).step (S := [g]) (by simp) hmd m3⟩
          case measure => simp [intOf]; omega
        · by_cases hlt2 : i < nn
          · have e1 : two nn i ad = [(0, -1), ((i : Int), -1)] := by unfold two; rw [if_pos hlt2]
            have e2 : two nn (i + 1) ad = [(0, -1), (0, ad)] := by unfold two; rw [if_neg hlt]
            rw [e1] at hW
            have E2 := hid e2
            have d1 : ((i : Int) == (nn : Int) - 1) = true := by simp; omega
            clear e1 e2
            go_wp2_with fail
            refine (look_yes hW 1 ((i : Int), -1) rfl ad (by simp; omega)).mono ?_
            rintro e w3 ⟨rfl, hW3, m3⟩
            go_wp2
            go_roundw
            case rel => exact ⟨i + 1, by omega, by go_num, by rw [E2.out]; exact hW3, (hA.of hW).step (S := [g]) (by simp) hmd m3⟩
            case measure => simp [intOf]; omega
          · have e1 : two nn i ad = [(0, -1), (0, ad)] := by unfold two; rw [if_neg hlt2]
            rw [e1] at hW
            have had : ad ≠ -1 := by omega
            have had2 : ad + 1 ≠ -1 := by omega
            have hA1 := hid had
            have hA2 := hid had2
            clear e1 had had2
            go_wp2_with fail
            refine (parked_asleep hW 1 0 ad rfl hA1.out false rfl).mono ?_
            rintro e w3 ⟨rfl, rfl⟩
            go_wp2_with fail
            refine (resume_no hW 1 0 ad rfl hA1.out rfl).mono ?_
            rintro e w4 ⟨rfl, hW4, m4⟩
            have n4 := (hA.of hW).step (S := cs) (fun x hx => List.mem_cons_of_mem _ hx) hmd m4
            go_wp2_with fail
            refine (looks_ hW4 1 (0, ad) rfl).mono ?_
            rintro e w5 ⟨rfl, rfl⟩
            go_wp2_with fail
            refine (wrote_ hW4 ad 1).mono ?_
            rintro e w6 ⟨v, rfl, hown, hW6, m6⟩
            have n6 := (hA.of hW4).step (S := cs) (fun x hx => List.mem_cons_of_mem _ hx) n4 m6
            obtain ⟨a, c, hv, _⟩ := nats_row hown
            rw [show ([((0 : Int), (-1 : Int)), (0, ad)] : List (Int × Int)).length = 2 from rfl, (two_wrote ad ad 1 false hA1.out).1, if_neg (by simp)] at hv
            rw [show ([((0 : Int), (-1 : Int)), (0, ad)] : List (Int × Int)).length = 2 from rfl, (two_wrote ad ad 1 false hA1.out).2] at hW6
            simp only [ne_eq, not_true_eq_false, false_and, and_false, decide_false, Bool.or_false] at hW6
            subst hv
            clear hown m6 m4
            go_wp2_with fail
            refine (wrote_ hW6 (ad + 1) 0).mono ?_
            rintro e w7 ⟨v, rfl, hown, hW7, m7⟩
            have n7 := (hA.of hW6).step (S := cs) (fun x hx => List.mem_cons_of_mem _ hx) n6 m7
            obtain ⟨a, c, hv, _⟩ := nats_row hown
            rw [show ([((0 : Int), (-1 : Int)), (0, ad)] : List (Int × Int)).length = 2 from rfl, (two_wrote ad (ad + 1) 0 false hA2.out).1, if_neg (by omega)] at hv
            rw [show ([((0 : Int), (-1 : Int)), (0, ad)] : List (Int × Int)).length = 2 from rfl, (two_wrote ad (ad + 1) 0 false hA2.out).2] at hW7
            have hne : ¬ (ad + 1 = ad) := by omega
            simp only [hne, false_and, decide_false, Bool.or_false] at hW7
            subst hv
            clear hown m7 hne
            go_wp2_with fail
            refine (wrote_ hW7 ad 0).mono ?_
            rintro e w8 ⟨v, rfl, hown, hW8, m8⟩
            have n8 := (hA.of hW7).step (S := cs) (fun x hx => List.mem_cons_of_mem _ hx) n7 m8
            obtain ⟨a, c, hv, _⟩ := nats_row hown
            rw [show ([((0 : Int), (-1 : Int)), (0, ad)] : List (Int × Int)).length = 2 from rfl, (two_wrote ad ad 0 false hA1.out).1, if_pos (by simp)] at hv
            rw [show ([((0 : Int), (-1 : Int)), (0, ad)] : List (Int × Int)).length = 2 from rfl, (two_wrote ad ad 0 false hA1.out).2] at hW8
            rw [show (false || decide (ad = ad ∧ (0 : Int) ≠ 1 ∧ false = false)) = true by simp] at hW8
            subst hv
            clear hown m8
            go_wp2_with fail
            refine (resume_yes hW8 1 0 ad rfl hA1.out rfl).mono ?_
            rintro e w9 ⟨rfl, hW9, m9⟩
            have n9 := (hA.of hW8).step (S := g :: cs) (fun x hx => hx) n8 m9
            go_wp2_with fail
            refine (wake_awake hW9 1 0 rfl).mono ?_
            rintro e w10 ⟨rfl, rfl⟩
            go_wp2_with fail
            refine (awake11 _).mono ?_
            rintro e w11 ⟨rfl, m11⟩
            go_wp2
            go_ret
            exact ⟨rfl, n9.trans m11⟩
end Park

theorem law_ParkBudget (w : World) (v0 v1 v2 : Value) (x0 x1 x2 : Int) (h0 : Sh.Arg w (.int .u16) x0 v0) (h1 : Sh.Arg w (.int .u16) x1 v1) (h2 : Sh.Arg w (.int .u8) x2 v2) :
    Calls Try.prog 15 #[v0, v1, v2] w fun e w' => e = .returned (.bool true) ∧ Mod [] w w' := by
  obtain ⟨rfl, hw0⟩ := h0
  obtain ⟨rfl, hw1⟩ := h1
  obtain ⟨rfl, hw2⟩ := h2
  exact Park.budget_ x0 x1 x2 w (bounds_u16 hw0) (bounds_u16 hw1) (bounds_u8 hw2)

end Go.Proofs.Ytekhadlpcdjlpaa
