/- The walk of the statement RingTypes: pairs come out of a ring as they were put in, in order, round and round. -/
import Derived.Test.YtlhbfkncdcgocaaRingT
import Derived.Test.YtlhbfkncdcgocaaRingOrder
import Derived.Test.YtlhbfkncdcgocaaRead
namespace Go.Proofs.Ytlhbfkncdcgocaa
open Go.RowKit
set_option linter.unusedVariables false

/-- The pairs (place, number) from place a on, ahead of place i. -/
def seg (l : List Int) (a i : Nat) : List (Int × Int) := (List.range (i - a)).map fun j => (((a + j : Nat) : Int), l.getD (a + j) 0)
theorem seg_length (l : List Int) (a i : Nat) : (seg l a i).length = i - a := by simp [seg]
theorem seg_snoc (l : List Int) (a i : Nat) (h : a ≤ i) : seg l a i ++ [((i : Int), l.getD i 0)] = seg l a (i + 1) := by
  unfold seg
  rw [show i + 1 - a = (i - a) + 1 by omega, List.range_succ, List.map_append]
  simp [show a + (i - a) = i by omega]
  omega
theorem seg_cons (l : List Int) (a i : Nat) (h : a < i) : seg l a i = ((a : Int), l.getD a 0) :: seg l (a + 1) i := by
  unfold seg
  rw [show i - a = (i - (a + 1)) + 1 by omega, List.range_succ_eq_map, List.map_cons, List.map_map]
  congr 1
  apply List.map_congr_left
  intro j _
  simp only [Function.comp]
  rw [show a + (j + 1) = a + 1 + j by omega]

theorem eq_pair (a b : Int) (w : World) : (Op.equalIn 10000 36 (.agg #[.int .i64 a, .int .i64 b]) (.agg #[.int .i64 a, .int .i64 b])).run Try.prog w = .ok true w := by
  rw [show (10000 : Nat) = 9998 + 2 from rfl, Op.equalIn]
  simp only [Sem.run_bind, run_underlying Try.underlying36, Result.andThen_ok]
  simp [Std.Legacy.Range.forIn_eq_forIn_range', List.range', part, run_equalIn_int w 9998 3 .i64 .i64 a a Try.underlying3, run_equalIn_int w 9998 3 .i64 .i64 b b Try.underlying3]
theorem guard_pair : Try.prog.eqGuardType Try.prog.depth 36 = false := by kernel_rfl

theorem types_many (a : Option Addr) (l : List Int) (cap : Nat) (r : Int) (w : World) (h0 : 0 ≤ r) (h255 : r ≤ 255) (h200 : 200 < l.length) (hm : l.length ≤ maxLen) :
    Calls Try.prog 4 #[.slice a l.length cap, .int .u8 r] w fun e w' => e = .returned (.bool true) ∧ Mod [] w w' := by
  unfold maxLen at hm
  go_enter Try.func4, Try.ntmps4
  go_wp2_with fail
  refine (RingT.new_ _ _).mono ?_
  rintro e w1 ⟨p, d, rfl, h1, hp, hd, m1⟩
  go_wp2_with fail
  refine (awake03 _).mono ?_
  rintro e w2 ⟨rfl, m2⟩
  go_wp2
  go_ret
  exact ⟨rfl, m1.trans m2⟩

set_option maxRecDepth 100000 in
theorem types_few (a : Option Addr) (l : List Int) (cap : Nat) (r : Int) (w : World) (hz : RowAt .i64 w a l) (h0 : 0 ≤ r) (h255 : r ≤ 255) (h200 : l.length ≤ 200) :
    Calls Try.prog 4 #[.slice a l.length cap, .int .u8 r] w fun e w' => e = .returned (.bool true) ∧ Mod [] w w' := by
  obtain ⟨kk, hk1, hk2, hk3⟩ : ∃ kk : Nat, 1 + r % 9 = (kk : Int) ∧ 1 ≤ kk ∧ kk ≤ 9 := ⟨(1 + r % 9).toNat, by omega, by omega, by omega⟩
  go_enter Try.func4, Try.ntmps4
  have hh : RingT.holds (kk : Int) = kk := by unfold RingT.holds; omega
  have HH := hid hh
  have HK := hid hk1
  clear hh
  go_wp2_with fail
  refine (RingT.new_ _ _).mono ?_
  rintro e w1 ⟨p, d, rfl, h1, hp, hd, m1⟩
  rw [HH.out] at h1
  go_wp2_with fail
  clear hk1
  go_loopw [31] (fun i wr => ∃ k : Nat, k ≤ l.length ∧ i = .int .i64 k ∧ RingT.At wr p d kk (seg l (k - (kk - 1)) k) ∧ Mod [] w wr) (fun i _ => l.length - (intOf i).toNat)
  case atStart => exact ⟨0, by omega, rfl, by simpa [seg] using h1, m1⟩
  case round =>
    clear h1 m1
    obtain ⟨k, hk, rfl, hR, hm⟩ := hrel
    by_cases hlt : k < l.length
    · obtain ⟨z, hzk⟩ : ∃ z, l[k]? = some z := ⟨l[k], by simp [hlt]⟩
      rcases hz.1 with rfl | ⟨b, off, rfl, hcell⟩
      · simp at hlt
      have hbw : b < w.heap.size := cell_lt (hcell k z hzk)
      have hck := hm.cell (hcell k z hzk) (by simp)
      have hzd : l.getD k 0 = z := by simp [hzk]
      have hput : seg l (k - (kk - 1)) k ++ [((k : Int), z)] = seg l (k - (kk - 1)) (k + 1) := by rw [← hzd]; exact seg_snoc l _ k (by omega)
      by_cases hA : k + 1 < kk
      · have ea : k - (kk - 1) = 0 := by omega
        rw [ea] at hput hR
        have HP := hid hput
        clear hput ea hcell hzk hzd
        go_wp2_with fail
        refine (RingT.put_yes p d kk _ ((k : Int), z) _ hR (by rw [seg_length]; omega)).mono ?_
        rintro e w2 ⟨rfl, h2, m2⟩
        rw [HP.out] at h2
        obtain ⟨q, hq⟩ : ∃ q, kk - (k + 1) = q + 1 := ⟨kk - (k + 1) - 1, by omega⟩
        have hroom := RingT.room_ p d kk _ _ h2 (q + 1) (by rw [seg_length]; exact hq)
        clear hq
        go_wp2_with fail
        refine hroom.mono ?_
        rintro e w3 ⟨rfl, nq, rfl⟩
        go_wp2_with fail
        go_roundw
        case rel => exact ⟨k + 1, by omega, by go_num, by rw [show k + 1 - (kk - 1) = 0 by omega]; exact h2.mod (S := []) ((Mod.refl _ _).drewN _) (by simp) (by simp), (hm.step m2 (by simp; omega)).drewN _⟩
        case measure => simp [intOf]; omega
      · obtain ⟨a0, ha0⟩ : ∃ a0, k - (kk - 1) = a0 := ⟨_, rfl⟩
        have ha1 : a0 + kk = k + 1 := by omega
        rw [ha0] at hput hR
        have HP := hid hput
        have hcons := seg_cons l a0 (k + 1) (by omega)
        obtain ⟨za, hza⟩ : ∃ z, l[a0]? = some z := ⟨l[a0]'(by omega), by simp⟩
        have hzad : l.getD a0 0 = za := by simp [hza]
        rw [hzad] at hcons
        have HC := hid hcons
        have hca := hm.cell (hcell a0 za hza) (by simp)
        clear hput ha0 hcell hzk hzd hcons hza hzad
        go_wp2_with fail
        refine (RingT.put_yes p d kk _ ((k : Int), z) _ hR (by rw [seg_length]; omega)).mono ?_
        rintro e w2 ⟨rfl, h2, m2⟩
        rw [HP.out] at h2
        have hroom := RingT.room_ p d kk _ _ h2 0 (by rw [seg_length]; omega)
        go_wp2_with fail
        refine hroom.mono ?_
        rintro e w3 ⟨rfl, nq, rfl⟩
        have h3 := h2.mod (S := []) ((Mod.refl _ _).drewN nq) (by simp) (by simp)
        rw [HC.out] at h3
        go_wp2_with fail
        refine (RingT.take_cons p d kk ((a0 : Int), za) _ _ h3).mono ?_
        rintro e w4 ⟨rfl, h4, m4⟩
        go_wp2_with fail
        have hbl := cell_lt hca
        have mAll := ((hm.step m2 (by simp; omega)).drewN nq).step m4 (by simp; omega)
        have hb1 : b < w.heap.size := hbw
        have hca4 := m4.cell (show (w2.drewN nq).cell? _ = _ from m2.cell hca (by simp; omega)) (by simp; omega)
        have e1 : IntKind.i64.wrap ((k : Int) - (kk : Int)) = (k : Int) - (kk : Int) := IntWalk.i64_in _ (by omega)
        have e2 : IntKind.i64.wrap ((k : Int) - (kk : Int) + 1) = (a0 : Int) := by rw [IntWalk.i64_in _ (by omega)]; omega
        have e3 : a0 < l.length := by omega
        have e4 : (a0 : Int) < (l.length : Int) := by omega
        have e5 : 0 ≤ (a0 : Int) := by omega
        have hca5 := ((Mod.refl [] w4).alloc (.cells #[.int .i64 a0, .int .i64 za] 36 (0, 0))).cell hca4 (by simp)
        have heq := eq_pair a0 za
        have hgd := guard_pair
        clear hca hck hbl hca4
        go_quiet (fail)
        go_wp2_with fail
        go_roundw
        case rel => exact ⟨k + 1, by omega, by go_num, by rw [show k + 1 - (kk - 1) = a0 + 1 by omega]; exact h4.mod (S := []) (((Mod.refl _ _).alloc _).drewN _) (by simp) (by simp), (mAll.alloc _).drewN _⟩
        case measure => simp [intOf]; omega
    · have hk' : k = l.length := by omega
      subst hk'
      obtain ⟨n, hn⟩ : ∃ n, l.length - (l.length - (kk - 1)) = n := ⟨_, rfl⟩
      have hlen := RingT.len_ p d kk _ wr hR n (by rw [seg_length]; exact hn)
      by_cases hB : l.length ≤ kk - 1
      · have hn1 : (n : Int) = l.length := by omega
        rw [hn1] at hlen
        have hB2 : (l.length : Int) ≤ (kk : Int) - 1 := by omega
        clear hn hn1 hB
        go_wp2_with fail
        refine hlen.mono ?_
        rintro e w2 ⟨rfl, rfl⟩
        go_wp2_with fail
        refine (awake03 _).mono ?_
        rintro e w3 ⟨rfl, m3⟩
        go_wp2
        go_ret
        exact ⟨rfl, hm.trans m3⟩
      · have hn1 : (n : Int) = (kk : Int) - 1 := by omega
        rw [hn1] at hlen
        have hB2 : (kk : Int) - 1 < (l.length : Int) := by omega
        clear hn hn1 hB
        go_wp2_with fail
        refine hlen.mono ?_
        rintro e w2 ⟨rfl, rfl⟩
        go_wp2_with fail
        refine (awake03 _).mono ?_
        rintro e w3 ⟨rfl, m3⟩
        go_wp2
        go_ret
        exact ⟨rfl, hm.trans m3⟩

theorem law_RingTypes (w : World) (v0 v1 : Value) (x0 : List Int) (x1 : Int) (h0 : Sh.Arg w (.row (.int .i64)) x0 v0) (h1 : Sh.Arg w (.int .u8) x1 v1) :
    Calls Try.prog 4 #[v0, v1] w fun e w' => e = .returned (.bool true) ∧ Mod [] w w' := by
  obtain ⟨rfl, hw⟩ := h1
  have hb := bounds_u8 hw
  obtain ⟨a, cap, rfl, hr, hl, hm⟩ := arg_ints h0
  by_cases h : 200 < x0.length
  · exact types_many a x0 cap x1 w hb.1 hb.2 h (by omega)
  · exact types_few a x0 cap x1 w hr hb.1 hb.2 (by omega)

end Go.Proofs.Ytlhbfkncdcgocaa
