/- The walk of the statement RingOrder: what comes out of a ring comes in the order in which it was put in. -/
import Derived.Test.YtlhbfkncdcgocaaRingI
import Derived.Test.YtlhbfkncdcgocaaRead
namespace Go.Proofs.Ytlhbfkncdcgocaa
open Go.RowKit
set_option linter.unusedVariables false

theorem awake03 (w : World) : Calls Try.prog 23 #[] w fun e w' => e = .returned (.bool true) ∧ Mod [] w w' := by
  go_enter Try.func23, Try.ntmps23
  go_wp2_with fail
  refine (RingI.new_ 2 _).mono ?_
  rintro e w1 ⟨p, d, rfl, h1, hp, hd, m1⟩
  have e2 : RingI.holds 2 = 2 := rfl
  rw [e2] at h1
  clear e2
  go_wp2_with fail
  refine (RingI.put_yes p d 2 _ 1 _ h1 (by simp)).mono ?_
  rintro e w2 ⟨rfl, h2, m2⟩
  go_wp2_with fail
  refine (RingI.put_yes p d 2 _ 2 _ h2 (by simp)).mono ?_
  rintro e w3 ⟨rfl, h3, m3⟩
  go_wp2_with fail
  refine (RingI.put_no p d 2 _ 3 _ h3 (by simp)).mono ?_
  rintro e w4 ⟨rfl, h4, m4⟩
  go_wp2_with fail
  refine (RingI.take_cons p d 2 1 _ _ h4).mono ?_
  rintro e w5 ⟨rfl, h5, m5⟩
  go_wp2_with fail
  refine (RingI.put_yes p d 2 _ 3 _ h5 (by simp)).mono ?_
  rintro e w6 ⟨rfl, h6, m6⟩
  go_wp2_with fail
  refine (RingI.len_ p d 2 _ _ h6 2 (by simp)).mono ?_
  rintro e w7 ⟨rfl, rfl⟩
  go_wp2
  go_ret
  exact ⟨rfl, ((((m1.step m2 (by simp <;> omega)).step m3 (by simp <;> omega)).step m4 (by simp)).step m5 (by simp <;> omega)).step m6 (by simp <;> omega)⟩

/-- The numbers from b on, ahead of a. -/
def upto (b a : Nat) : List Int := (List.range (a - b)).map fun j => ((b + j : Nat) : Int)
theorem upto_length (b a : Nat) : (upto b a).length = a - b := by simp [upto]
theorem upto_snoc (b a : Nat) (h : b ≤ a) : upto b a ++ [(a : Int)] = upto b (a + 1) := by
  unfold upto
  rw [show a + 1 - b = (a - b) + 1 by omega, List.range_succ, List.map_append]
  simp
  omega
theorem upto_cons (b a : Nat) (h : b < a) : upto b a = (b : Int) :: upto (b + 1) a := by
  unfold upto
  rw [show a - b = (a - (b + 1)) + 1 by omega, List.range_succ_eq_map, List.map_cons, List.map_map]
  congr 1
  apply List.map_congr_left
  intro j _
  simp only [Function.comp]
  congr 1
  omega
theorem upto_self (a : Nat) : upto a a = [] := by simp [upto]

theorem order_many (a : Option Addr) (l : List Bool) (cap : Nat) (r : Int) (w : World) (h0 : 0 ≤ r) (h255 : r ≤ 255) (h100 : 100 < l.length) (hm : l.length ≤ maxLen) :
    Calls Try.prog 5 #[.int .u8 r, .slice a l.length cap] w fun e w' => e = .returned (.bool true) ∧ Mod [] w w' := by
  unfold maxLen at hm
  go_enter Try.func5, Try.ntmps5
  go_wp2_with fail
  refine (RingI.new_ r _).mono ?_
  rintro e w1 ⟨p, d, rfl, h1, hp, hd, m1⟩
  go_wp2_with fail
  refine (awake03 _).mono ?_
  rintro e w2 ⟨rfl, m2⟩
  go_wp2
  go_ret
  exact ⟨rfl, m1.trans m2⟩

theorem order_few (a : Option Addr) (l : List Bool) (cap : Nat) (r : Int) (w : World) (hz : RowB w a l) (h0 : 0 ≤ r) (h255 : r ≤ 255) (h100 : l.length ≤ 100) :
    Calls Try.prog 5 #[.int .u8 r, .slice a l.length cap] w fun e w' => e = .returned (.bool true) ∧ Mod [] w w' := by
  go_enter Try.func5, Try.ntmps5
  go_wp2_with fail
  refine (RingI.new_ r _).mono ?_
  rintro e w1 ⟨p, d, rfl, h1, hp, hd, m1⟩
  obtain ⟨room, hroom⟩ : ∃ n, RingI.holds r = n := ⟨_, rfl⟩
  have hroom2 : (room : Int) = r := by rw [← hroom]; unfold RingI.holds; omega
  rw [hroom] at h1
  clear hroom
  have hroom3 : r ≤ room ∧ room ≤ r := by omega
  clear hroom2
  go_wp2_with fail
  go_loopw [29, 6, 7] (fun i s t wr => ∃ (k x y : Nat), k ≤ l.length ∧ y ≤ x ∧ x ≤ k ∧ i = .int .i64 k ∧ s = .int .i64 x ∧ t = .int .i64 y ∧ RingI.At wr p d room (upto y x) ∧ Mod [] w wr) (fun i _ _ _ => l.length - (intOf i).toNat)
  case atStart => exact ⟨0, 0, 0, by omega, by omega, by omega, rfl, rfl, rfl, h1, m1⟩
  case round =>
    obtain ⟨k, x, y, hk, hyx, hxk, rfl, rfl, rfl, hR, hm⟩ := hrel
    have hle := hR.le
    rw [upto_length] at hle
    by_cases hlt : k < l.length
    · obtain ⟨z, hzk⟩ : ∃ z, l[k]? = some z := ⟨l[k], by simp [hlt]⟩
      rcases hz with rfl | ⟨b, off, rfl, hcell⟩
      · simp at hlt
      have hck := hm.cell (hcell k z hzk) (by simp)
      clear hcell hzk
      cases z with
      | false =>
        by_cases hfull : x - y = room
        · go_wp2_with fail
          refine (RingI.put_no p d room _ x _ hR (by rw [upto_length]; exact hfull)).mono ?_
          rintro e w2 ⟨rfl, h2, m2⟩
          go_wp2
          go_roundw
          case rel => exact ⟨k + 1, x, y, by omega, by omega, by omega, by go_num, rfl, rfl, h2, hm.step m2 (by simp)⟩
          case measure => simp [intOf]; omega
        · go_wp2_with fail
          refine (RingI.put_yes p d room _ x _ hR (by rw [upto_length]; omega)).mono ?_
          rintro e w2 ⟨rfl, h2, m2⟩
          go_wp2
          go_roundw
          case rel => exact ⟨k + 1, x + 1, y, by omega, by omega, by omega, by go_num, by go_num, rfl, by rw [← upto_snoc y x hyx]; exact h2, hm.step m2 (by simp <;> omega)⟩
          case measure => simp [intOf]; omega
      | true =>
        by_cases hemp : y = x
        · subst hemp
          rw [upto_self] at hR
          go_wp2_with fail
          refine (RingI.take_empty p d room _ hR).mono ?_
          rintro e w2 ⟨rfl, h2, m2⟩
          go_wp2
          go_roundw
          case rel => exact ⟨k + 1, y, y, by omega, by omega, by omega, by go_num, rfl, rfl, by rw [upto_self]; exact h2, hm.step m2 (by simp)⟩
          case measure => simp [intOf]; omega
        · have hyx2 : y < x := by omega
          rw [upto_cons y x hyx2] at hR
          clear hemp
          go_wp2_with fail
          refine (RingI.take_cons p d room y _ _ hR).mono ?_
          rintro e w2 ⟨rfl, h2, m2⟩
          go_wp2
          go_roundw
          case rel => exact ⟨k + 1, x, y + 1, by omega, by omega, by omega, by go_num, rfl, by go_num, h2, hm.step m2 (by simp <;> omega)⟩
          case measure => simp [intOf]; omega
    · have hk' : k = l.length := by omega
      subst hk'
      obtain ⟨n, hn⟩ : ∃ n, x - y = n := ⟨_, rfl⟩
      have hlen := RingI.len_ p d room _ wr hR n (by rw [upto_length]; exact hn)
      obtain ⟨q, hq⟩ : ∃ q, room - n = q := ⟨_, rfl⟩
      have hrm := RingI.room_ p d room _ wr hR q (by rw [upto_length, hn]; exact hq)
      have hn1 : n + y ≤ x ∧ x ≤ n + y := by omega
      have hq1 : n + q ≤ room ∧ room ≤ n + q := by omega
      clear hn hq
      go_wp2_with fail
      refine hlen.mono ?_
      rintro e w2 ⟨rfl, rfl⟩
      go_wp2_with fail
      refine hlen.mono ?_
      rintro e w2 ⟨rfl, rfl⟩
      go_wp2_with fail
      refine hrm.mono ?_
      rintro e w2 ⟨rfl, nq, rfl⟩
      go_wp2_with fail
      refine (awake03 _).mono ?_
      rintro e w3 ⟨rfl, m3⟩
      go_wp2
      go_ret
      exact ⟨rfl, (hm.drewN nq).trans m3⟩

theorem law_RingOrder (w : World) (v0 v1 : Value) (x0 : Int) (x1 : List Bool) (h0 : Sh.Arg w (.int .u8) x0 v0) (h1 : Sh.Arg w (.row .bool) x1 v1) :
    Calls Try.prog 5 #[v0, v1] w fun e w' => e = .returned (.bool true) ∧ Mod [] w w' := by
  obtain ⟨rfl, hw⟩ := h0
  have hb := bounds_u8 hw
  obtain ⟨a, cap, rfl, hr, hl, hm⟩ := arg_bools h1
  by_cases h : 100 < x1.length
  · exact order_many a x1 cap x0 w hb.1 hb.2 h (by omega)
  · exact order_few a x1 cap x0 w hr hb.1 hb.2 (by omega)

end Go.Proofs.Ytlhbfkncdcgocaa
