/- Contracts of layer 26 (round). -/
import Derived.Test.YtlhbfkncdcgocaaChecked
import Derived.Test.YtlhbfkncdcgocaaHeap
import Derived.Test.YtlhbfkncdcgocaaRoundP
import Derived.Test.YtlhbfkncdcgocaaRegion
import Derived.Test.YtlhbfkncdcgocaaRead
import Derived.Deep.RegionWith
import Derived.Deep.DeepCutAuto
namespace Go.Proofs.Ytlhbfkncdcgocaa
namespace Round
open Go.RowKit
set_option linter.unusedVariables false

/-- Rounds: of n threads; how many are over; is one under way; who is owed a pick, as bits. -/
def At (w : World) (p n : Nat) (count : Nat) (under : Bool) (owed : Nat) : Prop :=
  Blk w p 120 [.int .i64 n, .int .i64 count, .bool under, .int .u64 owed]

theorem u64_or_pow (m k : Nat) (hm : m < 18446744073709551616) (hk : k < 64) : bits .or .u64 (m : Int) (IntKind.u64.wrap (2 ^ k)) = ((m ||| 2 ^ k : Nat) : Int) := by
  have h2 : 2 ^ k < 2 ^ 64 := Nat.pow_lt_pow_right (by omega) hk
  have e : IntKind.u64.wrap (2 ^ k) = ((2 ^ k : Nat) : Int) := by
    rw [IntKind.wrap_u64]
    have : (2 : Int) ^ k = ((2 ^ k : Nat) : Int) := by simp
    rw [this]
    generalize 2 ^ k = x at *
    omega
  rw [e, u64_or_nat _ _ hm (by omega)]

theorem u64_clr (m k : Nat) (hm : m < 18446744073709551616) (hk : k < 64) : bits .andNot .u64 (m : Int) (IntKind.u64.wrap (2 ^ k)) = ((clr m k : Nat) : Int) := by
  have h2 : 2 ^ k < 2 ^ 64 := Nat.pow_lt_pow_right (by omega) hk
  have e : IntKind.u64.wrap (2 ^ k) = ((2 ^ k : Nat) : Int) := by
    rw [IntKind.wrap_u64]
    have : (2 : Int) ^ k = ((2 ^ k : Nat) : Int) := by simp
    rw [this]
    generalize 2 ^ k = x at *
    omega
  rw [e, u64_andNot_nat _ _ hm (by omega)]
  rfl

set_option maxHeartbeats 4000000 in
theorem take_bits (a : Option Addr) (l : List Bool) (cap : Nat) (p n count : Nat) (under : Bool) (owed : Nat) (picked : Int) (w : World) (h : At w p n count under owed) (hz : RowB w a l) (hm : l.length ≤ maxLen)
    (hn : 1 ≤ n ∧ n ≤ 64) (ho : owed < 18446744073709551616) (hc : count ≤ 1000000) (hp : -9223372036854775808 ≤ picked ∧ picked ≤ 9223372036854775807) (o2 : Nat) (ho2 : next l n under owed picked = o2) :
    Calls Try.prog 34 #[.pointer (some ⟨p, 0, none⟩), .slice a l.length cap, .int .i64 picked] w fun e w' => e = .returned (.bool (decide (o2 = 0))) ∧ At w' p n (if o2 = 0 then count + 1 else count) (decide (o2 ≠ 0)) o2 ∧ Mod [p] w w' := by
  unfold maxLen at hm
  have HO := hid ho2
  clear ho2
  have hb0 : w.cell? ⟨p, 0, none⟩ = _ := Blk.cell h rfl
  have hb1 : w.cell? ⟨p, 1, none⟩ = _ := Blk.cell h rfl
  have hb2 : w.cell? ⟨p, 2, none⟩ = _ := Blk.cell h rfl
  have hb3 : w.cell? ⟨p, 3, none⟩ = _ := Blk.cell h rfl
  have hf1 := Blk.free h 1
  have hf2 := Blk.free h 2
  have hf3 := Blk.free h 3
  go_enter Try.func34, Try.ntmps34
  go_wp2
  go_loop [12, 7] (fun i t => ∃ k m : Nat, k ≤ l.length ∧ i = .int .i64 k ∧ t = .int .u64 m ∧ busyBits l n k = m ∧ m < 18446744073709551616) (fun i _ => l.length - (intOf i).toNat)
  case atStart => exact ⟨0, 0, by omega, rfl, rfl, rfl, by omega⟩
  case round =>
    obtain ⟨k, m, hk, rfl, rfl, hbits, hm64⟩ := hrel
    have HB := hid hbits
    clear hbits
    by_cases hlt : k < l.length
    · obtain ⟨z, hzk⟩ : ∃ z, l[k]? = some z := ⟨l[k], by simp [hlt]⟩
      rcases hz with rfl | ⟨b, off, rfl, hcell⟩
      · simp at hlt
      have hck := hcell k z hzk
      have HZ := hid hzk
      clear hcell hzk
      cases z with
      | false =>
        go_wp2
        go_round
        case rel => exact ⟨k + 1, m, by omega, by go_num, rfl, by rw [← HB.out, busyBits, HZ.out]; simp, hm64⟩
        case measure => simp [intOf]; omega
      | true =>
        by_cases hkn : k < n
        · go_wp2
          go_round
          case rel => exact ⟨k + 1, m ||| 2 ^ k, by omega, by go_num, by rw [u64_or_pow m k hm64 (by omega)], by rw [← HB.out, busyBits, HZ.out]; simp [hkn], Nat.or_lt_two_pow (n := 64) hm64 (Nat.pow_lt_pow_right (by omega) (by omega))⟩
          case measure => simp [intOf]; omega
        · go_wp2
          go_round
          case rel => exact ⟨k + 1, m, by omega, by go_num, rfl, by rw [← HB.out, busyBits, HZ.out]; simp [hkn], hm64⟩
          case measure => simp [intOf]; omega
    · have hkl : k = l.length := by omega
      subst hkl
      have hm' := HB.out
      have HN2 : Hid (o2 = if 0 ≤ picked ∧ picked < n then clr ((if under then owed else m) &&& m) picked.toNat else (if under then owed else m) &&& m) := by
        rw [← HO.out, next, hm']; rfl
      clear hm' HO
      obtain ⟨o0, ho0⟩ : ∃ o0, (if under then owed else m) = o0 := ⟨_, rfl⟩
      have ho0l : o0 < 18446744073709551616 := by rw [← ho0]; split <;> assumption
      rw [ho0] at HN2
      have HO0 := hid ho0
      clear ho0
      have H := hid h
      go_upto_if 35 with (fail)
      go_cut [] (fun w2 => At w2 p n count true o0 ∧ Mod [p] w w2)
      case first =>
        clear h
        cases under
        · go_wp2
          go_meet
          case rel =>
            rw [← HO0.out]
            refine ⟨?_, ?_⟩
            · have := H.out
              unfold At Blk at *
              simp [World.setCell, Array.getElem?_modify, this]
            ·
              repeat' (first | (with_reducible exact Mod.refl _ _) | (with_reducible assumption) | (with_reducible refine Mod.drewN ?_ _) | (with_reducible refine Mod.drew ?_) | (with_reducible refine Mod.setCell ?_ ?_ _) | (with_reducible refine Mod.alloc ?_ _) | (simp; done) | (simp; omega))
        · go_wp2
          go_meet
          case rel =>
            rw [← HO0.out]
            exact ⟨H.out, Mod.refl _ _⟩
      case rest =>
        obtain ⟨h2, m2⟩ := hcut
        clear hb0 hb1 hb2 hb3 hf1 hf2 hf3 h H HB hlt hk hz
        have hand : bits .and .u64 (o0 : Int) (m : Int) = ((o0 &&& m : Nat) : Int) := u64_and_nat _ _ ho0l hm64
        obtain ⟨o1, ho1⟩ : ∃ o1, o0 &&& m = o1 := ⟨_, rfl⟩
        have ho1l : o1 < 18446744073709551616 := by rw [← ho1]; exact and_lt _ _ hm64
        rw [ho1] at hand HN2
        clear ho1
        have hb3 : wc.cell? ⟨p, 3, none⟩ = _ := Blk.cell h2 rfl
        have hf3 := Blk.free h2 3
        have H2 := hid h2
        clear h2
        go_upto_region 11 with (fail)
        refine wp_world (fun w2 => At w2 p n count true o1 ∧ Mod [p] w w2) ⟨?_, ?_⟩ ?_
        · have := H2.out
          unfold At Blk at *
          simp [World.setCell, Array.getElem?_modify, this]
        ·
          repeat' (first | (with_reducible exact Mod.refl _ _) | (with_reducible assumption) | (with_reducible refine Mod.drewN ?_ _) | (with_reducible refine Mod.drew ?_) | (with_reducible refine Mod.setCell ?_ ?_ _) | (with_reducible refine Mod.alloc ?_ _) | (simp; done) | (simp; omega))
        rintro w3 ⟨h3, m3⟩
        clear hb3 hf3 H2 m2 hand
        have hb0 : w3.cell? ⟨p, 0, none⟩ = _ := Blk.cell h3 rfl
        have hb3 : w3.cell? ⟨p, 3, none⟩ = _ := Blk.cell h3 rfl
        have hf3 := Blk.free h3 3
        have H3 := hid h3
        clear h3
        have hp3 : picked < 0 ∨ (0 ≤ picked ∧ picked < n) ∨ (n : Int) ≤ picked := by omega
        rcases hp3 with hp1 | hp2 | hp4
        · have e2 : o2 = o1 := by rw [HN2.out, if_neg (by omega)]
          subst e2
          clear HN2
          go_upto_if 60 with (fail)
          go_cut [] (fun w4 => At w4 p n count true o2 ∧ Mod [p] w w4)
          case first =>
            go_wp2
            go_meet
            case rel => exact ⟨H3.out, m3⟩
          case rest =>
            obtain ⟨h4, m4⟩ := hcut
            clear hb0 hb3 hf3 H3 m3
            have hb1 : wc.cell? ⟨p, 1, none⟩ = _ := Blk.cell h4 rfl
            have hb2 : wc.cell? ⟨p, 2, none⟩ = _ := Blk.cell h4 rfl
            have hb3 : wc.cell? ⟨p, 3, none⟩ = _ := Blk.cell h4 rfl
            have hf1 := Blk.free h4 1
            have hf2 := Blk.free h4 2
            have H4 := hid h4
            clear h4
            by_cases hz0 : o2 = 0
            · subst hz0
              go_wp2
              go_ret
              refine ⟨by simp, ?_, ?_⟩
              · have := H4.out
                unfold At Blk at *
                simp [World.setCell, Array.getElem?_modify, this]
              ·
                repeat' (first | (with_reducible exact Mod.refl _ _) | (with_reducible assumption) | (with_reducible refine Mod.drewN ?_ _) | (with_reducible refine Mod.drew ?_) | (with_reducible refine Mod.setCell ?_ ?_ _) | (with_reducible refine Mod.alloc ?_ _) | (simp; done) | (simp; omega))
            · have hz1 : 0 < o2 := by omega
              go_wp2
              go_ret
              exact ⟨by simp, by simpa [hz0] using H4.out, m4⟩
        · have e2 : o2 = clr o1 picked.toNat := by rw [HN2.out, if_pos (by omega)]
          obtain ⟨q, rfl⟩ : ∃ q : Nat, picked = q := ⟨picked.toNat, by omega⟩
          simp only [Int.toNat_natCast] at e2
          have hclr := u64_clr o1 q ho1l (by omega)
          rw [← e2] at hclr
          have hqn : q < n := by omega
          clear HN2 e2
          go_upto_if 60 with (fail)
          go_cut [] (fun w4 => At w4 p n count true o2 ∧ Mod [p] w w4)
          case first =>
            go_wp2
            refine wp_region_quiet_tail 6 (by kernel_rfl) (by kernel_rfl) ?_
            simp only [List.take_succ_cons, List.take_zero, List.drop_succ_cons, List.drop_zero]
            repeat (go_big_quiet_step ((fail)))
            refine wpQuiet_nil ?_
            intro _ hw'
            obtain ⟨nq, hw''⟩ := hw'
            subst hw''
            go_wp2
            go_meet
            case rel =>
              refine ⟨?_, ?_⟩
              · have := H3.out
                unfold At Blk at *
                simp [World.setCell, World.drewN, Array.getElem?_modify, this]
              ·
                repeat' (first | (with_reducible exact Mod.refl _ _) | (with_reducible assumption) | (with_reducible refine Mod.drewN ?_ _) | (with_reducible refine Mod.drew ?_) | (with_reducible refine Mod.setCell ?_ ?_ _) | (with_reducible refine Mod.alloc ?_ _) | (simp; done) | (simp; omega))
          case rest =>
            obtain ⟨h4, m4⟩ := hcut
            clear hb0 hb3 hf3 H3 m3
            have hb1 : wc.cell? ⟨p, 1, none⟩ = _ := Blk.cell h4 rfl
            have hb2 : wc.cell? ⟨p, 2, none⟩ = _ := Blk.cell h4 rfl
            have hb3 : wc.cell? ⟨p, 3, none⟩ = _ := Blk.cell h4 rfl
            have hf1 := Blk.free h4 1
            have hf2 := Blk.free h4 2
            have H4 := hid h4
            clear h4
            by_cases hz0 : o2 = 0
            · subst hz0
              go_wp2
              go_ret
              refine ⟨by simp, ?_, ?_⟩
              · have := H4.out
                unfold At Blk at *
                simp [World.setCell, Array.getElem?_modify, this]
              ·
                repeat' (first | (with_reducible exact Mod.refl _ _) | (with_reducible assumption) | (with_reducible refine Mod.drewN ?_ _) | (with_reducible refine Mod.drew ?_) | (with_reducible refine Mod.setCell ?_ ?_ _) | (with_reducible refine Mod.alloc ?_ _) | (simp; done) | (simp; omega))
            · have hz1 : 0 < o2 := by omega
              go_wp2
              go_ret
              exact ⟨by simp, by simpa [hz0] using H4.out, m4⟩
        · have e2 : o2 = o1 := by rw [HN2.out, if_neg (by omega)]
          subst e2
          clear HN2
          go_upto_if 60 with (fail)
          go_cut [] (fun w4 => At w4 p n count true o2 ∧ Mod [p] w w4)
          case first =>
            go_wp2
            go_meet
            case rel => exact ⟨H3.out, m3⟩
          case rest =>
            obtain ⟨h4, m4⟩ := hcut
            clear hb0 hb3 hf3 H3 m3
            have hb1 : wc.cell? ⟨p, 1, none⟩ = _ := Blk.cell h4 rfl
            have hb2 : wc.cell? ⟨p, 2, none⟩ = _ := Blk.cell h4 rfl
            have hb3 : wc.cell? ⟨p, 3, none⟩ = _ := Blk.cell h4 rfl
            have hf1 := Blk.free h4 1
            have hf2 := Blk.free h4 2
            have H4 := hid h4
            clear h4
            by_cases hz0 : o2 = 0
            · subst hz0
              go_wp2
              go_ret
              refine ⟨by simp, ?_, ?_⟩
              · have := H4.out
                unfold At Blk at *
                simp [World.setCell, Array.getElem?_modify, this]
              ·
                repeat' (first | (with_reducible exact Mod.refl _ _) | (with_reducible assumption) | (with_reducible refine Mod.drewN ?_ _) | (with_reducible refine Mod.drew ?_) | (with_reducible refine Mod.setCell ?_ ?_ _) | (with_reducible refine Mod.alloc ?_ _) | (simp; done) | (simp; omega))
            · have hz1 : 0 < o2 := by omega
              go_wp2
              go_ret
              exact ⟨by simp, by simpa [hz0] using H4.out, m4⟩


theorem take_ (a : Option Addr) (l : List Bool) (len cap : Nat) (p n count : Nat) (under : Bool) (owed : Nat) (picked : Int) (w : World) (h : At w p n count under owed) (hz : RowB w a l) (hlen : l.length = len) (hm : len ≤ maxLen)
    (hn : 1 ≤ n ∧ n ≤ 64) (ho : owed < 18446744073709551616) (hc : count ≤ 1000000) (hp : -9223372036854775808 ≤ picked ∧ picked ≤ 9223372036854775807) (o2 : Nat) (ho2 : next l n under owed picked = o2) :
    Calls Try.prog 34 #[.pointer (some ⟨p, 0, none⟩), .slice a len cap, .int .i64 picked] w fun e w' => e = .returned (.bool (decide (o2 = 0))) ∧ At w' p n (if o2 = 0 then count + 1 else count) (decide (o2 ≠ 0)) o2 ∧ Mod [p] w w' := by
  subst hlen
  exact take_bits a l cap p n count under owed picked w h hz hm hn ho hc hp o2 ho2

theorem At.drewN {w : World} {p n count : Nat} {under : Bool} {owed : Nat} (h : At w p n count under owed) (k : Nat) : At (w.drewN k) p n count under owed := h
theorem At.drew {w : World} {p n count : Nat} {under : Bool} {owed : Nat} (h : At w p n count under owed) : At w.drew p n count under owed := h

theorem at_new (w : World) (n : Nat) : At (w.alloc (.cells #[.int .i64 n, .int .i64 0, .bool false, .int .u64 0] 120 (0, 0))) w.heap.size n 0 false 0 :=
  Blk.new w _ [.int .i64 n, .int .i64 0, .bool false, .int .u64 0]

def Made (w : World) (n : Nat) (e : Ending) (w' : World) : Prop :=
  ∃ p, e = .returned (.pointer (some ⟨p, 0, none⟩)) ∧ At w' p n 0 false 0 ∧ w.heap.size ≤ p ∧ Mod [] w w'

theorem new_ (k : Int) (w : World) (n : Nat) (hn : (n : Int) = min (max k 1) 64) :
    Calls Try.prog 33 #[.int .i64 k] w (Made w n) := by
  have hnew := at_new w n
  by_cases h0 : k < 1
  · have : n = 1 := by omega
    subst this
    clear hn
    go_enter Try.func33, Try.ntmps33
    go_wp2
    go_ret
    exact ⟨_, rfl, hnew, by omega, (Mod.refl _ _).alloc _⟩
  · by_cases h1 : k ≤ 64
    · have : (n : Int) = k := by omega
      subst this
      clear hn
      go_enter Try.func33, Try.ntmps33
      go_wp2
      go_ret
      exact ⟨_, rfl, hnew, by omega, (Mod.refl _ _).alloc _⟩
    · have : n = 64 := by omega
      subst this
      clear hn
      go_enter Try.func33, Try.ntmps33
      go_wp2
      go_ret
      exact ⟨_, rfl, hnew, by omega, (Mod.refl _ _).alloc _⟩

theorem count_ (p n count : Nat) (under : Bool) (owed : Nat) (w : World) (h : At w p n count under owed) :
    Calls Try.prog 35 #[.pointer (some ⟨p, 0, none⟩)] w fun e w' => e = .returned (.int .i64 count) ∧ w = w' := by
  have hb1 : w.cell? ⟨p, 1, none⟩ = _ := Blk.cell h rfl
  clear h
  go_enter Try.func35, Try.ntmps35
  go_wp2
  go_ret
  exact ⟨rfl, rfl⟩

theorem At.mod {w w' : World} {p n count : Nat} {under : Bool} {owed : Nat} {S : List Nat} (h : At w p n count under owed) (m : Mod S w w') (hp : p ∉ S) : At w' p n count under owed := m.blk h hp

set_option maxRecDepth 100000 in
theorem awake26 (w : World) : Calls Try.prog 36 #[] w fun e w' => e = .returned (.bool true) ∧ Mod [] w w' := by
  go_enter Try.func36, Try.ntmps36
  go_wp2_with fail
  refine (new_ 2 _ 2 (by omega)).mono ?_
  rintro e w1 ⟨p, rfl, h1, hp, m1⟩
  go_wp2_with fail
  have hB : RowB (w1.alloc (.cells #[.bool true, .bool true] 4 (0, 0))) (some ⟨w1.heap.size, 0, none⟩) [true, true] := rowB_blk (Blk.new w1 4 [.bool true, .bool true])
  have h1' : At (w1.alloc (.cells #[.bool true, .bool true] 4 (0, 0))) p 2 0 false 0 := Blk.alloc h1 _
  have m1' := m1.alloc (.cells #[.bool true, .bool true] 4 (0, 0))
  have hlt : p < w1.heap.size := Blk.lt h1
  refine (take_bits _ [true, true] 2 p 2 0 false 0 0 _ h1' hB (by decide) (by omega) (by omega) (by omega) (by omega) 2 (by decide)).mono ?_
  rintro e w2 ⟨rfl, h2, m2⟩
  have hB2 := hB.mod m2 (by intro b hb o; simp at hb; subst hb; simp <;> omega)
  have m2' := m1'.step m2 (by simp; omega)
  clear hB h1' m1' m2 m1 h1
  simp at h2
  go_wp2_with fail
  refine (take_bits _ [true, true] 2 p 2 0 true 2 1 _ h2 hB2 (by decide) (by omega) (by omega) (by omega) (by omega) 0 (by decide)).mono ?_
  rintro e w3 ⟨rfl, h3, m3⟩
  simp at h3
  go_wp2_with fail
  refine (count_ p 2 1 _ _ _ h3).mono ?_
  rintro e w4 ⟨rfl, rfl⟩
  go_wp2
  go_ret
  exact ⟨rfl, m2'.step m3 (by simp; omega)⟩

end Round
end Go.Proofs.Ytlhbfkncdcgocaa
