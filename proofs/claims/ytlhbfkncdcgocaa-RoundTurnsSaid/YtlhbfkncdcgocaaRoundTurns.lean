/- The walk of the statement RoundTurns: all busy, picked by turns: a round is over each time that all have been. -/
import Derived.Test.YtlhbfkncdcgocaaRound
import Derived.Test.YtlhbfkncdcgocaaLex
import Derived.Deep.RegionWith
namespace Go.Proofs.Ytlhbfkncdcgocaa
open Go.RowKit
set_option linter.unusedVariables false

theorem info_bool : (Try.prog.info? 4).map (fun i => (i.zero, i.size, i.bytes)) = some (some (.bool false), 1, 1) := by kernel_rfl

namespace Round
/-- All busy, k of them; the pick of i % k is next. -/
def turn (k i : Nat) (under : Bool) (owed : Nat) : Prop :=
  (i % k = 0 → under = false ∧ owed = 0) ∧ (i % k ≠ 0 → under = true ∧ ∀ t, owed.testBit t = decide (i % k ≤ t ∧ t < k))

theorem turn_step (k i : Nat) (under : Bool) (owed : Nat) (hk : 1 ≤ k) (hk2 : k ≤ 64) (h : turn k i under owed) :
    (next (List.replicate k true) k under owed ((i % k : Nat) : Int) = 0 ↔ i % k = k - 1) ∧
    turn k (i + 1) (decide (next (List.replicate k true) k under owed ((i % k : Nat) : Int) ≠ 0)) (next (List.replicate k true) k under owed ((i % k : Nat) : Int)) := by
  have hb := next_testBit (List.replicate k true) k under owed ((i % k : Nat) : Int) hk2
  generalize next (List.replicate k true) k under owed ((i % k : Nat) : Int) = o at *
  have hm : i % k < k := Nat.mod_lt _ (by omega)
  have hb2 : ∀ t, o.testBit t = decide (i % k < t ∧ t < k) := by
    intro t
    rw [hb t]
    have h1 : decide (t < k ∧ (List.replicate k true)[t]? = some true) = decide (t < k) := by
      by_cases e : t < k <;> simp [e]
    rw [h1]
    have h2 : decide (((i % k : Nat) : Int) ≠ (t : Int)) = decide (i % k ≠ t) := by
      by_cases e : i % k = t <;> simp <;> omega
    rw [h2]
    by_cases h0 : i % k = 0
    · obtain ⟨rfl, rfl⟩ := h.1 h0
      rw [h0, Bool.eq_iff_iff]
      simp
      omega
    · obtain ⟨rfl, h3⟩ := h.2 h0
      simp only [if_true, h3 t]
      rw [Bool.eq_iff_iff]
      simp
      omega
  have hz : o = 0 ↔ i % k = k - 1 := by
    constructor
    · intro e
      have := hb2 (k - 1)
      rw [e] at this
      simp at this
      omega
    · intro e
      apply zero_of_bits
      intro t
      rw [hb2 t]
      simp
      omega
  refine ⟨hz, ?_, ?_⟩
  · intro h1
    have e : i % k = k - 1 := by
      rcases Nat.lt_or_ge (i % k + 1) k with h2 | h2
      · rw [Nat.add_mod, Nat.mod_eq_of_lt (a := 1) (by omega), Nat.mod_eq_of_lt h2] at h1
        omega
      · omega
    have := hz.2 e
    exact ⟨by simp [this], this⟩
  · intro h1
    have e : i % k ≠ k - 1 := by
      intro e
      apply h1
      rw [Nat.add_mod, e]
      rcases Nat.lt_or_ge 1 k with h2 | h2
      · rw [Nat.mod_eq_of_lt h2, show k - 1 + 1 = k by omega, Nat.mod_self]
      · have : k = 1 := by omega
        subst this
        rfl
    have e2 : (i + 1) % k = i % k + 1 := by
      rw [Nat.add_mod, Nat.mod_eq_of_lt (a := 1) (by omega), Nat.mod_eq_of_lt (by omega)]
    refine ⟨by simp; exact fun h => e (hz.1 h), fun t => ?_⟩
    rw [hb2 t, e2]
    rfl

theorem count_step (i k : Nat) (hk : 1 ≤ k) : (i + 1) / k = if i % k = k - 1 then i / k + 1 else i / k := by
  have h1 := Nat.div_add_mod i k
  have h2 : i % k < k := Nat.mod_lt _ (by omega)
  split
  · rename_i h
    have e : i + 1 = k * (i / k + 1) := by rw [Nat.mul_add]; omega
    rw [e, Nat.mul_div_cancel_left _ (by omega)]
  · rename_i h
    conv => lhs; rw [← h1]
    rw [Nat.add_assoc, Nat.mul_add_div (by omega), Nat.div_eq_of_lt (a := i % k + 1) (by omega)]
    omega
end Round

set_option maxRecDepth 100000 in
set_option maxHeartbeats 1000000 in
theorem law_RoundTurns (w : World) (v0 v1 : Value) (x0 x1 : Int) (h0 : Sh.Arg w (.int .u8) x0 v0) (h1 : Sh.Arg w (.int .u8) x1 v1) :
    Calls Try.prog 6 #[v0, v1] w fun e w' => e = .returned (.bool true) ∧ Mod [] w w' := by
  obtain ⟨rfl, hw0⟩ := h0
  obtain ⟨rfl, hw1⟩ := h1
  have hx0 := bounds_u8 hw0
  have hx1 := bounds_u8 hw1
  clear hw0 hw1
  obtain ⟨k, hk⟩ : ∃ k : Nat, 1 + x0 % 64 = (k : Int) := ⟨(1 + x0 % 64).toNat, by omega⟩
  have hk1 : 1 ≤ k := by omega
  have hk2 : k ≤ 64 := by omega
  obtain ⟨u, hu⟩ : ∃ u : Nat, x1 % 20 = (u : Int) := ⟨(x1 % 20).toNat, by omega⟩
  have hu2 : u ≤ 19 := by omega
  obtain ⟨N, hN⟩ : ∃ N : Nat, k * u = N := ⟨_, rfl⟩
  have hN1 : N ≤ 1216 := by rw [← hN]; exact Nat.mul_le_mul hk2 hu2
  have hN2 : (k : Int) * (u : Int) = (N : Int) := by rw [← hN]; simp
  clear hN
  obtain ⟨i0, hi, hz0, hz1, hz2⟩ := info_parts info_bool
  have hmk := fun w => make_zeros (P := Try.prog) 42 4 i0 _ (.bool false) 1 Try.underlying42 hi hz0 hz1 hz2 rfl k (by omega) (by omega) w
  clear hi hz0 hz1 hz2
  go_enter Try.func6, Try.ntmps6
  go_wp2_with fail
  refine (Round.new_ k _ k (by omega)).mono ?_
  rintro e w1 ⟨p, rfl, h1, hp, m1⟩
  go_wp2_with fail
  have hd : Blk (w1.alloc (.cells (zeros k (.bool false)) 4 (0, 0))) w1.heap.size 4 ((List.replicate k false).map Value.bool) := by
    have := Blk.new w1 4 (List.replicate k (.bool false))
    simpa [zeros] using this
  have h1' : Round.At (w1.alloc (.cells (zeros k (.bool false)) 4 (0, 0))) p k 0 false 0 := Blk.alloc h1 _
  have m1' := m1.alloc (.cells (zeros k (.bool false)) 4 (0, 0))
  have hlt : p < w1.heap.size := Blk.lt h1
  have hdw : w.heap.size ≤ w1.heap.size := m1.size
  obtain ⟨d, hdd⟩ : ∃ d, w1.heap.size = d := ⟨_, rfl⟩
  rw [hdd] at hd hlt hdw ⊢
  clear hmk
  revert h1' m1' hd
  generalize w1.alloc (.cells (zeros k (.bool false)) 4 (0, 0)) = w2
  intro h1' m1' hd
  clear hdd h1 m1
  go_loopw [22] (fun i wr => ∃ j : Nat, j ≤ k ∧ i = .int .i64 j ∧ Blk wr d 4 ((List.replicate j true ++ List.replicate (k - j) false).map Value.bool) ∧ Round.At wr p k 0 false 0 ∧ Mod [] w wr) (fun i _ => k - (intOf i).toNat)
  case atStart => exact ⟨0, by omega, rfl, by simpa using hd, h1', m1'⟩
  case round =>
    clear hd h1' m1'
    obtain ⟨j, hj, rfl, hb, hR, hm⟩ := hrel
    by_cases hjk : j < k
    · have hc : wr.cell? ⟨d, j, none⟩ = some (.bool false) := hb.cell (by
        rw [List.getElem?_map, List.getElem?_append_right (by simp), show k - j = (k - (j + 1)) + 1 by omega, List.replicate_succ]
        simp)
      have hf := hb.free j
      have hb' := hb.set j (.bool true)
      have hR' := Blk.set_ne hR (a := ⟨d, j, none⟩) (by simp; omega) (.bool true)
      have hm' := hm.setCell (a := ⟨d, j, none⟩) (by simp; omega) (.bool true)
      clear hb hR hm
      go_wp2
      go_roundw
      case rel =>
        refine ⟨j + 1, by omega, by go_num, ?_, hR', hm'⟩
        have e : (List.map Value.bool (List.replicate j true ++ List.replicate (k - j) false)).set j (.bool true) = List.map Value.bool (List.replicate (j + 1) true ++ List.replicate (k - (j + 1)) false) := by
          rw [show k - j = (k - (j + 1)) + 1 by omega, List.replicate_succ]
          simp [List.replicate_succ']
        rw [← e]
        exact hb'
      case measure => simp [intOf]; omega
    · have hjk2 : j = k := by omega
      subst hjk2
      rw [Nat.sub_self, List.replicate_zero, List.append_nil] at hb
      go_wp2_with fail
      clear hu hN2 hk
      go_loopw [34] (fun i wr => ∃ (i' : Nat) (under : Bool) (owed : Nat), i' ≤ N ∧ i = .int .i64 i' ∧ Round.turn j i' under owed ∧ owed < 18446744073709551616 ∧ Blk wr d 4 ((List.replicate j true).map Value.bool) ∧ Round.At wr p j (i' / j) under owed ∧ Mod [] w wr) (fun i _ => N - (intOf i).toNat)
      case atStart => exact ⟨0, false, 0, by omega, rfl, ⟨fun _ => ⟨rfl, rfl⟩, fun h => absurd (Nat.zero_mod j) h⟩, by omega, hb, by simpa using hR, hm⟩
      case round =>
        clear hb hR hm
        obtain ⟨i, under, owed, hi, rfl, hturn, howed, hb, hR, hm⟩ := hrel
        by_cases hiN : i < N
        · have hstep := Round.turn_step j i under owed hk1 hk2 hturn
          have hlt2 := Round.next_lt (List.replicate j true) j under owed ((i % j : Nat) : Int) hk2
          have hcnt := Round.count_step i j hk1
          obtain ⟨q, hq⟩ : ∃ q, i % j = q := ⟨_, rfl⟩
          have hqj : q < j := by rw [← hq]; exact Nat.mod_lt _ (by omega)
          have hq2 : (i : Int) % (j : Int) = (q : Int) := by rw [← hq]; simp
          rw [hq] at hstep hlt2 hcnt
          obtain ⟨c, hc⟩ : ∃ c, i / j = c := ⟨_, rfl⟩
          obtain ⟨c2, hc2⟩ : ∃ c2, (i + 1) / j = c2 := ⟨_, rfl⟩
          have hc3 : ((i : Int) + 1) / (j : Int) = (c2 : Int) := by rw [← hc2]; simp
          have hcle : c ≤ 1300 := by rw [← hc]; exact Nat.le_trans (Nat.div_le_self _ _) (by omega)
          rw [hc] at hR hcnt
          rw [hc2] at hcnt
          obtain ⟨o2, ho2⟩ : ∃ o2, Round.next (List.replicate j true) j under owed (q : Int) = o2 := ⟨_, rfl⟩
          rw [ho2] at hstep hlt2
          have hB : RowB wr (some ⟨d, 0, none⟩) (List.replicate j true) := rowB_blk hb
          have HO := hid ho2
          have H2L := hid hlt2
          clear hlt2
          have HT := hid hturn
          have HS := hid hstep
          have HC := hid hcnt
          have H2 := hid hc2
          clear hturn hstep hcnt hc2 hq hc ho2
          have HQ : q + 1 < j ∨ j ≤ q + 1 := by omega
          rcases HQ with hend | hend
          · have hd1 : ((i : Int) % (j : Int) == (j : Int) - 1) = false := by rw [hq2]; simp; omega
            have hd2 : ((q : Int) == (j : Int) - 1) = false := by simp; omega
            have hnz : ¬ o2 = 0 := fun e => by have := HS.out.1.1 e; omega
            have HCC : c2 = c := by rw [HC.out, if_neg (by omega)]
            have HC3 : ((i : Int) + 1) / (j : Int) = (c : Int) := by rw [hc3, HCC]
            clear hc3
            have HT3 := HS.out.2
            clear HC HS
            have HNZ := hid hnz
            clear hnz
            go_upto_region 14 with (fail)
            refine Lex.region (fun _ => True) [.pure, .pure, .pure, .pure, .pure, .loud, .pure, .pure, .pure, .pure, .pure, .pure, .pure, .pure, .pure, .loud, .pure, .pure, .pure, .pure, .pure, .pure] (by kernel_rfl) (by kernel_rfl) (fun _ => trivial) ?_
            repeat (refine Lex.step_pure rfl rfl ?_; go_big_quiet_step (fail); refine wpQuiet_nil ?_)
            refine Lex.step_loud rfl (fun wl hwl => ?_)
            obtain ⟨nq, rfl⟩ := hwl
            go_wp2_with fail
            refine (Round.take_ (some ⟨d, 0, none⟩) (List.replicate j true) j j p j c under owed q _ (by exact hR) (by exact hB) (by simp) (by unfold maxLen; omega) ⟨hk1, hk2⟩ howed (by omega) (by omega) o2 HO.out).mono ?_
            rintro e w4 ⟨rfl, h4, m4⟩
            simp only [HNZ.out, if_false, decide_false, decide_true, not_false_eq_true, ne_eq] at h4 ⊢
            go_wp2_with fail
            refine ⟨rfl, rfl, trivial, ?_⟩
            repeat (refine Lex.step_pure rfl rfl ?_; go_big_quiet_step (fail); refine wpQuiet_nil ?_)
            refine Lex.step_loud rfl (fun wl hwl => ?_)
            replace hwl := hwl.symm
            subst hwl
            go_wp2_with fail
            refine (Round.count_ p j c _ _ _ h4).mono ?_
            rintro e w5 ⟨rfl, rfl⟩
            go_wp2_with fail
            refine ⟨rfl, rfl, trivial, ?_⟩
            repeat (refine Lex.step_pure rfl rfl ?_; go_big_quiet_step (fail); refine wpQuiet_nil ?_)
            refine Lex.step_nil (fun wl hwl => ?_)
            replace hwl := hwl.symm
            subst hwl
            go_wp2
            go_roundw
            case rel =>
              have mm : Mod [p] wr w4 := ((Mod.refl _ wr).drewN _).trans m4
              exact ⟨i + 1, true, o2, by omega, by go_num, by simpa [show ¬ o2 = 0 from HNZ.out] using HT3, H2L.out, mm.blk hb (by simp; omega), by rw [H2.out, HCC]; exact h4, hm.step mm (by simp; omega)⟩
            case measure => simp [intOf]; omega
          · have hd1 : ((i : Int) % (j : Int) == (j : Int) - 1) = true := by rw [hq2]; simp; omega
            have hd2 : ((q : Int) == (j : Int) - 1) = true := by simp; omega
            have hz : o2 = 0 := HS.out.1.2 (by omega)
            subst hz
            have HCC : c2 = c + 1 := by rw [HC.out, if_pos (by omega)]
            have HC3 : ((i : Int) + 1) / (j : Int) = (c : Int) + 1 := by rw [hc3, HCC]; simp
            clear hc3
            have HT3 := HS.out.2
            clear HC HS
            go_upto_region 14 with (fail)
            refine Lex.region (fun _ => True) [.pure, .pure, .pure, .pure, .pure, .loud, .pure, .pure, .pure, .pure, .pure, .pure, .pure, .pure, .pure, .loud, .pure, .pure, .pure, .pure, .pure, .pure] (by kernel_rfl) (by kernel_rfl) (fun _ => trivial) ?_
            repeat (refine Lex.step_pure rfl rfl ?_; go_big_quiet_step (fail); refine wpQuiet_nil ?_)
            refine Lex.step_loud rfl (fun wl hwl => ?_)
            obtain ⟨nq, rfl⟩ := hwl
            go_wp2_with fail
            refine (Round.take_ (some ⟨d, 0, none⟩) (List.replicate j true) j j p j c under owed q _ (by exact hR) (by exact hB) (by simp) (by unfold maxLen; omega) ⟨hk1, hk2⟩ howed (by omega) (by omega) 0 HO.out).mono ?_
            rintro e w4 ⟨rfl, h4, m4⟩
            simp only [if_true, decide_true, ne_eq, not_true_eq_false, decide_false] at h4 ⊢
            go_wp2_with fail
            refine ⟨rfl, rfl, trivial, ?_⟩
            repeat (refine Lex.step_pure rfl rfl ?_; go_big_quiet_step (fail); refine wpQuiet_nil ?_)
            refine Lex.step_loud rfl (fun wl hwl => ?_)
            replace hwl := hwl.symm
            subst hwl
            go_wp2_with fail
            refine (Round.count_ p j (c + 1) _ _ _ h4).mono ?_
            rintro e w5 ⟨rfl, rfl⟩
            go_wp2_with fail
            refine ⟨rfl, rfl, trivial, ?_⟩
            repeat (refine Lex.step_pure rfl rfl ?_; go_big_quiet_step (fail); refine wpQuiet_nil ?_)
            refine Lex.step_nil (fun wl hwl => ?_)
            replace hwl := hwl.symm
            subst hwl
            go_wp2
            go_roundw
            case rel =>
              have mm : Mod [p] wr w4 := ((Mod.refl _ wr).drewN _).trans m4
              exact ⟨i + 1, false, 0, by omega, by go_num, by simpa using HT3, H2L.out, mm.blk hb (by simp; omega), by rw [H2.out, HCC]; exact h4, hm.step mm (by simp; omega)⟩
            case measure => simp [intOf]; omega
        · have hiN2 : i = N := by omega
          subst hiN2
          go_wp2_with fail
          refine (Round.awake26 _).mono ?_
          rintro e w4 ⟨rfl, m4⟩
          go_wp2
          go_ret
          exact ⟨rfl, hm.trans m4⟩

end Go.Proofs.Ytlhbfkncdcgocaa
