/- The walk of the statement PermitPlays. -/
import Derived.Test.YtlhbfkncdcgocaaPermitSet
import Derived.Test.YtlhbfkncdcgocaaFlat
import Derived.Deep.DeepCutAuto
namespace Go.Proofs.Ytlhbfkncdcgocaa
open Go.RowKit
set_option linter.unusedVariables false
namespace Permit

abbrev opSh : Sh := .pair .bool (.pair (.int .i64) .unit)

def num (b : Bool) : Int := if b then 1 else 0
/-- Who has one, as the document's answer has it. -/
def nums (bs : List Bool) : List Int := bs.map num

theorem plays_many (a : Option Addr) (n : Int) (len cap : Nat) (w : World) (h100 : 100 < len) (hm : len ≤ maxLen) :
    Calls Try.prog 14 #[.int .i64 n, .slice a len cap] w fun e w' => e = .returned (.bool true) ∧ Mod [] w w' := by
  unfold maxLen at hm
  go_enter Try.func14, Try.ntmps14
  go_wp2_with fail
  refine (awake04 _).mono ?_
  rintro e w2 ⟨rfl, m2⟩
  go_wp2
  go_ret
  exact ⟨rfl, m2⟩

set_option maxRecDepth 100000 in
theorem plays_none (a : Option Addr) (n : Int) (len cap : Nat) (w : World) (h100 : len ≤ 100) (hn : n < 1 ∨ 64 < n) :
    Calls Try.prog 14 #[.int .i64 n, .slice a len cap] w fun e w' => e = .returned (.bool true) ∧ Mod [] w w' := by
  have hnew := new_out n w hn
  by_cases h0 : n < 1
  · clear hn
    go_enter Try.func14, Try.ntmps14
    go_wp2_with fail
    refine hnew.mono ?_
    rintro e w2 ⟨rfl, rfl⟩
    go_wp2_with fail
    refine (awake04 _).mono ?_
    rintro e w2 ⟨rfl, m2⟩
    go_wp2
    go_ret
    exact ⟨rfl, m2⟩
  · have h1 : 64 < n := by omega
    have h2 : 1 ≤ n := by omega
    clear hn h0
    go_enter Try.func14, Try.ntmps14
    go_wp2_with fail
    refine hnew.mono ?_
    rintro e w2 ⟨rfl, rfl⟩
    go_wp2_with fail
    refine (awake04 _).mono ?_
    rintro e w2 ⟨rfl, m2⟩
    go_wp2
    go_ret
    exact ⟨rfl, m2⟩

theorem _root_.Go.Proofs.Ytlhbfkncdcgocaa.Owns.not_chan_of {wr : World} {base p d cap : Nat} {cs : List Nat} {bs : List Bool} {e : TypeId} {v : Value} {xs : List Value} (h : Owns wr base e v xs) (hC : C wr p d cap cs bs) {c : Nat} (hc : c ∈ cs) (he : v.ownBlock = some c) : False := by
  obtain ⟨i, hi⟩ := List.getElem?_of_mem hc
  exact not_chan h (hC.chan i c hi) he

theorem at_set (bs : List Bool) (t : Nat) (b : Bool) (h : t < bs.length) : (bs.set t b)[t]? = some b := by simp [h]

/-- Between two calls. -/
structure Mid (w wr : World) (p d cap : Nat) (cs : List Nat) (bs : List Bool) (v : Value) : Prop where
  c : C wr p d cap cs bs
  own : Owns wr w.heap.size 3 v (ints (nums bs))
  mod : Mod [] w wr

set_option maxRecDepth 100000 in
set_option maxHeartbeats 1000000 in
theorem plays_few (a : Option Addr) (n : Nat) (l : List opSh.Val) (cap0 : Nat) (w : World) (hz : Sh.RowF w a opSh l) (hwf : ∀ x ∈ l, opSh.wf x) (h100 : l.length ≤ 100) (h1 : 1 ≤ n) (h64 : n ≤ 64) :
    Calls Try.prog 14 #[.int .i64 n, .slice a l.length cap0] w fun e w' => e = .returned (.bool true) ∧ Mod [] w w' := by
  obtain ⟨i0, hi, hz0, hz1, hz2⟩ := info_parts info_int
  have hmk := fun w' => make_zeros (P := Try.prog) 33 3 i0 (.int .i64 0) (.int .i64 0) 8 Try.underlying33 hi hz0 hz1 hz2 rfl n (by omega) (by omega) w'
  clear hi hz0 hz1 hz2
  go_enter Try.func14, Try.ntmps14
  go_wp2_with fail
  refine (new_ n _ h1 h64).mono ?_
  rintro e w1 ⟨p, d, cap, cs, rfl, hC, hl, hb, m1⟩
  have hx : ∀ x, x ∈ cs → x < w.heap.size → x ∈ ([] : List Nat) := fun x hx hlt => by have := hb x (.inr (.inr hx)); omega
  have hHX := hid hx
  have HB := hid hb
  clear hx hb
  go_wp2_with fail
  clear hmk
  go_loopw [53, 7] (fun i v wr => ∃ (k : Nat) (bs : List Bool), k ≤ l.length ∧ i = .int .i64 k ∧ bs.length = n ∧ Mid w wr p d cap cs bs v) (fun i _ _ => l.length - (intOf i).toNat)
  case atStart =>
    refine ⟨0, List.replicate n false, by omega, rfl, by simp, ⟨hC.mod ((Mod.refl [] w1).alloc _) (by simp) (by simp) (by simp), ?_, m1.alloc _⟩⟩
    have hB := Blk.new w1 3 (List.replicate n (.int .i64 0))
    have := Owns.of_blk hB (by simp [maxLen]; omega) m1.size
    simpa [ints, nums, num, zeros] using this
  case round =>
    clear hC m1
    obtain ⟨k, bs, hk, rfl, hbl, hM⟩ := hrel
    have hil : (ints (nums bs)).length = bs.length := by simp [ints, nums]
    by_cases hlt : k < l.length
    · obtain ⟨out, t, hzk⟩ : ∃ (out : Bool) (t : Int), l[k]? = some (out, t, ()) := ⟨(l[k]).1, (l[k]).2.1, by rw [List.getElem?_eq_getElem hlt]; rfl⟩
      rcases hz with rfl | ⟨b0, off, rfl, hcell⟩
      · simp at hlt
      have q0 := hM.mod.cell (hcell k _ hzk 0 _ rfl) (by simp)
      have q1 := hM.mod.cell (hcell k _ hzk 1 _ rfl) (by simp)
      simp only [Sh.size, Nat.add_zero, Nat.reduceAdd] at q0 q1
      have bt := bounds_i64 (hwf _ (List.mem_of_getElem? hzk)).2.1
      clear hcell hzk
      have hszr := hM.mod.size
      have mA := (Mod.refl [] wr).alloc (.cells #[.bool out, .int .i64 t] 98 (0, 0))
      have hBx : Blk (wr.alloc (.cells #[.bool out, .int .i64 t] 98 (0, 0))) wr.heap.size 98 [.bool out, .int .i64 t] := Blk.new wr _ [.bool out, .int .i64 t]
      have hCA := hM.c.mod mA (by simp) (by simp) (by simp)
      have hoA := hM.own.mod0 mA
      have hmA := hM.mod.trans mA
      have hcw : wr.heap.size ∉ cs := fun hm => by
        obtain ⟨i, hi⟩ := List.getElem?_of_mem hm
        have := (hM.c.chan i _ hi).lt
        omega
      obtain ⟨ax, cx, hv, hrow, _⟩ := hM.own.row
      rw [hil, hbl] at hv
      subst hv
      by_cases hin : 0 ≤ t ∧ t < n
      · obtain ⟨tn, rfl⟩ : ∃ q : Nat, t = q := ⟨t.toNat, by omega⟩
        have htn : tn < cs.length := by omega
        obtain ⟨b, hb⟩ : ∃ b, bs[tn]? = some b := ⟨_, List.getElem?_eq_getElem (by omega)⟩
        have hset := fun z1 => set_in w.heap.size (.slice ax n cx) (nums bs) tn z1 _ (by simp [nums]; omega) (num b) (by simp [nums, hb]) hoA
        have HS := hid hset
        clear hin bt
        cases out
        · go_upto_region 12 with (fail)
          generalize wr.alloc (.cells #[.bool false, .int .i64 (tn : Int)] 98 (0, 0)) = WA at *
          have hx0 := hBx.cell (i := 0) rfl
          have hx1 := hBx.cell (i := 1) rfl
          clear q0 q1 hrow hset
          go_wp2_with fail
          refine (HS.out 1).mono ?_
          rintro e w2 ⟨v2, rfl, ho2, m2⟩
          have hB2 := m2.blk hBx (by simp)
          have hC2 := hCA.mod m2 (by simp) (by simp) (by simp)
          have hx2 := hB2.cell (i := 0) rfl
          have hx3 := hB2.cell (i := 1) rfl
          clear hx0 hx1
          go_wp2_with fail
          refine (give_in p d cap cs _ _ hC2 tn htn _ hb).mono ?_
          rintro e w3 ⟨rfl, hC3, m3⟩
          have hB3 := m3.blk hB2 hcw
          have hx4 := hB3.cell (i := 0) rfl
          have hx5 := hB3.cell (i := 1) rfl
          have mF := (hmA.trans m2).step m3 hHX.out
          have hoF : Owns w3 w.heap.size 3 v2 (ints ((nums bs).set tn 1)) := (ho2.mod m3 (fun x hx e => (ho2.not_chan_of hC2 hx e).elim)).base hmA.size
          rw [show (nums bs).set tn 1 = nums (bs.set tn true) by simp [nums, List.map_set, num]] at hoF
          clear hx2 hx3
          cases b with
          | true =>
            go_wp2_with fail
            refine (has_in p d cap cs _ _ hC3 tn htn true (at_set bs tn true (by omega))).mono ?_
            rintro e w4 ⟨rfl, rfl⟩
            go_wp2
            go_roundw
            case rel => exact ⟨k + 1, bs.set tn true, by omega, by go_num, by simpa using hbl, ⟨hC3, hoF, mF⟩⟩
            case measure => simp [intOf]; omega
          | false =>
            go_wp2_with fail
            refine (has_in p d cap cs _ _ hC3 tn htn true (at_set bs tn true (by omega))).mono ?_
            rintro e w4 ⟨rfl, rfl⟩
            go_wp2
            go_roundw
            case rel => exact ⟨k + 1, bs.set tn true, by omega, by go_num, by simpa using hbl, ⟨hC3, hoF, mF⟩⟩
            case measure => simp [intOf]; omega
        · go_upto_region 12 with (fail)
          generalize wr.alloc (.cells #[.bool true, .int .i64 (tn : Int)] 98 (0, 0)) = WA at *
          have hx0 := hBx.cell (i := 0) rfl
          have hx1 := hBx.cell (i := 1) rfl
          clear q0 q1 hrow hset
          go_wp2_with fail
          refine (HS.out 0).mono ?_
          rintro e w2 ⟨v2, rfl, ho2, m2⟩
          have hB2 := m2.blk hBx (by simp)
          have hC2 := hCA.mod m2 (by simp) (by simp) (by simp)
          have hx2 := hB2.cell (i := 0) rfl
          have hx3 := hB2.cell (i := 1) rfl
          clear hx0 hx1
          go_wp2_with fail
          refine (take_in p d cap cs _ _ hC2 tn htn _ hb).mono ?_
          rintro e w3 ⟨rfl, hC3, m3⟩
          have hB3 := m3.blk hB2 hcw
          have hx4 := hB3.cell (i := 0) rfl
          have hx5 := hB3.cell (i := 1) rfl
          have mF := (hmA.trans m2).step m3 hHX.out
          have hoF : Owns w3 w.heap.size 3 v2 (ints ((nums bs).set tn 0)) := (ho2.mod m3 (fun x hx e => (ho2.not_chan_of hC2 hx e).elim)).base hmA.size
          rw [show (nums bs).set tn 0 = nums (bs.set tn false) by simp [nums, List.map_set, num]] at hoF
          clear hx2 hx3
          cases b with
          | true =>
            go_wp2_with fail
            refine (has_in p d cap cs _ _ hC3 tn htn false (at_set bs tn false (by omega))).mono ?_
            rintro e w4 ⟨rfl, rfl⟩
            go_wp2
            go_roundw
            case rel => exact ⟨k + 1, bs.set tn false, by omega, by go_num, by simpa using hbl, ⟨hC3, hoF, mF⟩⟩
            case measure => simp [intOf]; omega
          | false =>
            go_wp2_with fail
            refine (has_in p d cap cs _ _ hC3 tn htn false (at_set bs tn false (by omega))).mono ?_
            rintro e w4 ⟨rfl, rfl⟩
            go_wp2
            go_roundw
            case rel => exact ⟨k + 1, bs.set tn false, by omega, by go_num, by simpa using hbl, ⟨hC3, hoF, mF⟩⟩
            case measure => simp [intOf]; omega
      · cases out
        · go_upto_region 12 with (fail)
          generalize wr.alloc (.cells #[.bool false, .int .i64 t] 98 (0, 0)) = WA at *
          have hx0 := hBx.cell (i := 0) rfl
          have hx1 := hBx.cell (i := 1) rfl
          clear q0 q1 hrow
          have hs := fun z1 => set_out ax n cx t z1 WA (by omega) (by omega)
          have HIN := hid hin
          clear hin
          go_wp2_with fail
          refine (hs 1).mono ?_
          rintro e w2 ⟨rfl, rfl⟩
          clear hs
          go_wp2_with fail
          refine (give_out p d cap cs _ _ hCA t (by have := HIN.out; omega)).mono ?_
          rintro e w3 ⟨rfl, rfl⟩
          go_wp2_with fail
          refine (has_out p d cap cs _ _ hCA t (by have := HIN.out; omega)).mono ?_
          rintro e w4 ⟨rfl, rfl⟩
          go_wp2
          go_roundw
          case rel => exact ⟨k + 1, bs, by omega, by go_num, hbl, ⟨hCA, hoA, hmA⟩⟩
          case measure => simp [intOf]; omega
        · go_upto_region 12 with (fail)
          generalize wr.alloc (.cells #[.bool true, .int .i64 t] 98 (0, 0)) = WA at *
          have hx0 := hBx.cell (i := 0) rfl
          have hx1 := hBx.cell (i := 1) rfl
          clear q0 q1 hrow
          have hs := fun z1 => set_out ax n cx t z1 WA (by omega) (by omega)
          have HIN := hid hin
          clear hin
          go_wp2_with fail
          refine (hs 0).mono ?_
          rintro e w2 ⟨rfl, rfl⟩
          clear hs
          go_wp2_with fail
          refine (take_out p d cap cs _ _ hCA t (by have := HIN.out; omega)).mono ?_
          rintro e w3 ⟨rfl, rfl⟩
          go_wp2_with fail
          refine (has_out p d cap cs _ _ hCA t (by have := HIN.out; omega)).mono ?_
          rintro e w4 ⟨rfl, rfl⟩
          go_wp2
          go_roundw
          case rel => exact ⟨k + 1, bs, by omega, by go_num, hbl, ⟨hCA, hoA, hmA⟩⟩
          case measure => simp [intOf]; omega
    · have hk' : k = l.length := by omega
      subst hk'
      obtain ⟨ax, cx, hv, hrow, _⟩ := hM.own.row
      rw [hil, hbl] at hv
      subst hv
      have hC := hM.c
      go_wp2_with fail
      go_loop [119, 16] (fun i m => ∃ j : Nat, j ≤ n ∧ i = .int .i64 j ∧ m = .int .i64 (many (bs.take j))) (fun i _ => n - (intOf i).toNat)
      case atStart => exact ⟨0, by omega, rfl, rfl⟩
      case round =>
        obtain ⟨j, hj, rfl, rfl⟩ := hrel
        by_cases hjn : j < n
        · obtain ⟨b, hb⟩ : ∃ b, bs[j]? = some b := ⟨_, List.getElem?_eq_getElem (by omega)⟩
          rcases hrow with h0 | ⟨g, o, rfl, hcell⟩
          · have := congrArg List.length h0
            rw [hil, List.length_nil] at this
            omega
          have hcj := hcell j (.int .i64 (num b)) (by simp [ints, nums, hb])
          have hn := many_take bs j b hb
          have hml := many_le bs j
          have HN := hid hn
          have hhas := has_in p d cap cs _ _ hC j (by omega) b hb
          clear hcell hn hb
          cases b with
          | true =>
            have hcj2 : wr.cell? ⟨g, o + j, none⟩ = some (.int .i64 1) := hcj
            clear hcj
            go_wp2_with fail
            refine hhas.mono ?_
            rintro e w4 ⟨rfl, rfl⟩
            go_wp2
            go_round
            case rel => exact ⟨j + 1, by omega, by go_num, by rw [HN.out]; go_num⟩
            case measure => simp [intOf]; omega
          | false =>
            have hcj2 : wr.cell? ⟨g, o + j, none⟩ = some (.int .i64 0) := hcj
            clear hcj
            go_wp2_with fail
            refine hhas.mono ?_
            rintro e w4 ⟨rfl, rfl⟩
            go_wp2
            go_round
            case rel => exact ⟨j + 1, by omega, by go_num, by rw [HN.out]; simp⟩
            case measure => simp [intOf]; omega
        · have hjn' : j = n := by omega
          subst hjn'
          have e : bs.take j = bs := List.take_of_length_le (by omega)
          have hlen := len_ p d cap cs bs wr hC
          rw [← e] at hlen
          clear e
          go_wp2_with fail
          refine hlen.mono ?_
          rintro e w5 ⟨rfl, rfl⟩
          go_wp2_with fail
          refine (awake04 _).mono ?_
          rintro e w6 ⟨rfl, m6⟩
          go_wp2
          go_ret
          exact ⟨rfl, hM.mod.trans m6⟩
end Permit

theorem law_PermitPlays (w : World) (v0 v1 : Value) (x0 : Int) (x1 : List Permit.opSh.Val) (h0 : Sh.Arg w (.int .i64) x0 v0) (h1 : Sh.Arg w (.row Permit.opSh) x1 v1) :
    Calls Try.prog 14 #[v0, v1] w fun e w' => e = .returned (.bool true) ∧ Mod [] w w' := by
  obtain ⟨rfl, hw0⟩ := h0
  obtain ⟨a, cap, rfl, hr, hl, hm, hwf⟩ := Sh.arg_flat (by rfl) h1
  by_cases h : 100 < x1.length
  · exact Permit.plays_many a x0 x1.length cap w h (by omega)
  · by_cases hn : x0 < 1 ∨ 64 < x0
    · exact Permit.plays_none a x0 x1.length cap w (by omega) hn
    · obtain ⟨n, rfl⟩ : ∃ n : Nat, x0 = n := ⟨x0.toNat, by omega⟩
      exact Permit.plays_few a n x1 cap w hr hwf (by omega) (by omega) (by omega)

end Go.Proofs.Ytlhbfkncdcgocaa
