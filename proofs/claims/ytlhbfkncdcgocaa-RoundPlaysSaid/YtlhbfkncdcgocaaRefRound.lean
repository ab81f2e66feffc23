/- Contracts of the document's answer for layer 26: ropelineref26. -/
import Derived.Test.YtlhbfkncdcgocaaRoundOwedC
import Derived.Laws.ResultCell
namespace Go.Proofs.Ytlhbfkncdcgocaa
namespace RefRound
open Go.RowKit
set_option linter.unusedVariables false
set_option linter.unusedSimpArgs false

theorem is_ (a : Option Addr) (l : List Bool) (cap t : Nat) (bb : Bool) (w : World) (hz : RowB w a l) (hc : l.length ≤ cap) (hcm : cap ≤ maxLen) (ht : t ≤ 1000) (hb : decide (l[t]? = some true) = bb) :
    Calls Try.prog 68 #[.slice a l.length cap, .int .i64 t] w fun e w' => e = .returned (.bool bb) ∧ w = w' := by
  unfold maxLen at hcm
  by_cases hlt : t < l.length
  · obtain ⟨z, hzk⟩ : ∃ z, l[t]? = some z := ⟨l[t], by simp [hlt]⟩
    rcases hz with rfl | ⟨b, off, rfl, hcell⟩
    · simp at hlt
    have hck := hcell t z hzk
    have : bb = z := by rw [← hb, hzk]; cases z <;> rfl
    subst this
    clear hcell hb hzk
    go_enter Try.func68, Try.ntmps68
    go_wp2
    go_ret
    exact ⟨rfl, rfl⟩
  · have : bb = false := by
      rw [← hb, List.getElem?_eq_none (by omega)]; rfl
    subst this
    clear hb
    go_enter Try.func68, Try.ntmps68
    go_wp2
    go_ret
    exact ⟨rfl, rfl⟩

def busyL (l : List Bool) (n : Nat) : List Nat := (List.range n).filter (fun t => decide (l[t]? = some true))

theorem busyL_succ (l : List Bool) (n : Nat) : busyL l (n + 1) = if l[n]? = some true then busyL l n ++ [n] else busyL l n := by
  unfold busyL
  rw [List.range_succ, List.filter_append]
  by_cases h : l[n]? = some true <;> simp [h]

theorem busyL_len (l : List Bool) (n : Nat) : (busyL l n).length ≤ n := by
  have := List.length_filter_le (fun t => decide (l[t]? = some true)) (List.range n)
  simpa [busyL] using this

/-- Who is left of those that were owed. -/
def leftL (l : List Bool) (picked : Int) (L : List Nat) : List Nat := L.filter (fun t => decide ((t : Int) ≠ picked) && decide (l[t]? = some true))

theorem leftL_take (l : List Bool) (picked : Int) (L : List Nat) (j t : Nat) (h : L[j]? = some t) :
    leftL l picked (L.take (j + 1)) = if (t : Int) ≠ picked ∧ l[t]? = some true then leftL l picked (L.take j) ++ [t] else leftL l picked (L.take j) := by
  unfold leftL
  rw [List.take_add_one, List.filter_append, h]
  by_cases h1 : (t : Int) ≠ picked <;> by_cases h2 : l[t]? = some true <;> simp [h1, h2]

def left (l : List Bool) (n : Nat) (under : Bool) (L : List Nat) (picked : Int) : List Nat := leftL l picked (if under then L else busyL l n)

def TakeIs (w : World) (l : List Bool) (n : Nat) (under : Bool) (L : List Nat) (count : Nat) (picked : Int) (e : Ending) (w' : World) : Prop :=
  ∃ v, (if left l n under L picked = [] then e = .returned (.tuple #[.agg #[v, .int .i64 0, .int .i64 ((count + 1 : Nat) : Int)], .int .i64 1]) else e = .returned (.tuple #[.agg #[v, .int .i64 1, .int .i64 count], .int .i64 0])) ∧
    Owns w' w.heap.size 3 v (Round.ints (left l n under L picked)) ∧ Mod [] w w'

theorem row_at {w : World} {va : Option Addr} {L : List Nat} (h : RowV w va (Round.ints L)) {j t : Nat} (ht : L[j]? = some t) : ∃ b o, va = some ⟨b, o, none⟩ ∧ w.cell? ⟨b, o + j, none⟩ = some (.int .i64 t) := by
  rcases h with h | ⟨b, o, rfl, h⟩
  · have : L = [] := by simpa [Round.ints] using h
    subst this
    simp at ht
  · exact ⟨b, o, rfl, h j _ (by simp [Round.ints, ht])⟩

set_option maxRecDepth 100000 in
set_option maxHeartbeats 2000000 in
theorem take_ (a : Option Addr) (l : List Bool) (cap n : Nat) (picked : Int) (va : Option Addr) (vc : Nat) (L : List Nat) (under : Bool) (ui : Int) (count : Nat) (w : World) (hz : RowB w a l) (hc : l.length ≤ cap) (hcm : cap ≤ maxLen)
    (hn : n ≤ 64) (hp : -9223372036854775808 ≤ picked ∧ picked ≤ 9223372036854775807) (hcnt : count ≤ 1000000) (hL : L.length ≤ 64) (hLt : ∀ t ∈ L, t ≤ 1000) (hrow : RowV w va (Round.ints L)) (hvc : L.length ≤ vc) (hvm : vc ≤ maxLen) (hui : ui = if under then 1 else 0) :
    Calls Try.prog 51 #[.agg #[.slice va L.length vc, .int .i64 ui, .int .i64 count], .int .i64 n, .slice a l.length cap, .int .i64 picked] w (TakeIs w l n under L count picked) := by
  unfold maxLen at hvm
  have HU := hid hui
  clear hui
  obtain ⟨L2, hL2⟩ : ∃ L2, (if under then L else busyL l n) = L2 := ⟨_, rfl⟩
  have hL2l : L2.length ≤ 64 := by
    rw [← hL2]
    split
    · exact hL
    · have := busyL_len l n; omega
  have hL2t : ∀ t ∈ L2, t ≤ 1000 := by
    intro t ht
    rw [← hL2] at ht
    split at ht
    · exact hLt t ht
    · simp [busyL] at ht; omega
  have hB1 : Blk ((w.alloc (.cells #[.slice va L.length vc, .int .i64 ui, .int .i64 count] 84 (0, 0))).alloc (.cells #[.slice none 0 0, .int .i64 0, .int .i64 0] 84 (0, 0))) w.heap.size 84 [.slice va L.length vc, .int .i64 ui, .int .i64 count] :=
    Blk.alloc (Blk.new w _ [.slice va L.length vc, .int .i64 ui, .int .i64 count]) _
  have hB2 : Blk ((w.alloc (.cells #[.slice va L.length vc, .int .i64 ui, .int .i64 count] 84 (0, 0))).alloc (.cells #[.slice none 0 0, .int .i64 0, .int .i64 0] 84 (0, 0))) (w.heap.size + 1) 84 [.slice none 0 0, .int .i64 0, .int .i64 0] := by
    have := Blk.new (w.alloc (.cells #[.slice va L.length vc, .int .i64 ui, .int .i64 count] 84 (0, 0))) 84 [.slice none 0 0, .int .i64 0, .int .i64 0]
    simpa using this
  have m2 := ((Mod.refl [] w).alloc (.cells #[.slice va L.length vc, .int .i64 ui, .int .i64 count] 84 (0, 0))).alloc (.cells #[.slice none 0 0, .int .i64 0, .int .i64 0] 84 (0, 0))
  have hsz2 : ((w.alloc (.cells #[.slice va L.length vc, .int .i64 ui, .int .i64 count] 84 (0, 0))).alloc (.cells #[.slice none 0 0, .int .i64 0, .int .i64 0] 84 (0, 0))).heap.size = w.heap.size + 2 := by simp
  go_enter Try.func51, Try.ntmps51
  go_upto_if 19 with (fail)
  generalize ((w.alloc (.cells #[.slice va L.length vc, .int .i64 ui, .int .i64 count] 84 (0, 0))).alloc (.cells #[.slice none 0 0, .int .i64 0, .int .i64 0] 84 (0, 0))) = W at *
  have hsz3 : w.heap.size + 2 ≤ W.heap.size := by omega
  clear hsz2
  go_cut [10] (fun v w2 => ∃ a2 c2, v = .slice a2 L2.length c2 ∧ RowV w2 a2 (Round.ints L2) ∧ L2.length ≤ c2 ∧ c2 ≤ 9223372036854775807 ∧ Blk w2 w.heap.size 84 [.slice va L.length vc, .int .i64 ui, .int .i64 count] ∧
    Blk w2 (w.heap.size + 1) 84 [.slice none 0 0, .int .i64 0, .int .i64 0] ∧ w.heap.size + 2 ≤ w2.heap.size ∧ Mod [] w w2)
  case first =>
    cases under with
    | true =>
      have hu : ui = 1 := by have := HU.out; simpa using this
      subst hu
      simp only [if_true] at hL2
      subst hL2
      go_wp2
      go_meet
      case rel => exact ⟨va, vc, rfl, hrow.mod0 m2, hvc, by omega, hB1, hB2, by omega, m2⟩
    | false =>
      have hu : ui = 0 := by have := HU.out; simpa using this
      subst hu
      simp only [Bool.false_eq_true, if_false] at hL2
      have HL2 := hid hL2
      clear hL2
      have hq : ((0 : Int) == 0) = true := rfl
      rw [hq]
      clear hq
      go_wp2_with fail
      go_loopw [11, 10] (fun i v wr => ∃ k : Nat, k ≤ n ∧ i = .int .i64 k ∧ Owns wr (w.heap.size + 2) 3 v (Round.ints (busyL l k)) ∧ Blk wr w.heap.size 84 [.slice va L.length vc, .int .i64 0, .int .i64 count] ∧
        Blk wr (w.heap.size + 1) 84 [.slice none 0 0, .int .i64 0, .int .i64 0] ∧ w.heap.size + 2 ≤ wr.heap.size ∧ Mod [] w wr) (fun i _ _ => n - (intOf i).toNat)
      case atStart => exact ⟨0, by omega, rfl, by simpa [busyL, Round.ints] using Owns.nil W (w.heap.size + 2) 3, hB1, hB2, by omega, m2⟩
      case round =>
        clear hB1 hB2 m2
        obtain ⟨k, hk, rfl, hown, hB1, hB2, hsz, hm⟩ := hrel
        by_cases hlt : k < n
        · have hbl := busyL_len l k
          obtain ⟨bb, hbb⟩ : ∃ bb, decide (l[k]? = some true) = bb := ⟨_, rfl⟩
          have hlen : (Round.ints (busyL l k)).length = (busyL l k).length := by simp [Round.ints]
          go_wp2_with fail
          refine (is_ a l cap k bb _ (hz.mod0 hm) hc hcm (by omega) hbb).mono ?_
          rintro e wz ⟨rfl, rfl⟩
          cases bb with
          | true =>
            have hbt : l[k]? = some true := by simpa using hbb
            obtain ⟨i0, hi, hz0, hz1, hz2⟩ := info_parts Round.info_int_r
            obtain ⟨v', wA, hrun, hown', hmA, hbA⟩ := append_one (P := Try.prog) wr (w.heap.size + 2) 33 33 3 i0 (.int .i64 0) 8 Try.underlying33 hi hz0 hz1 hz2 rfl hown (.int .i64 k) rfl (by rw [hlen]; simp [maxLen]; omega) (by rw [hlen]; omega) hsz
            have hm' := hmA _ _ hm (by omega)
            have hB1' := hbA _ _ _ hB1 (by omega)
            have hB2' := hbA _ _ _ hB2 (by omega)
            have hsz' : w.heap.size + 2 ≤ wA.heap.size := Blk.lt hB2'
            clear hbb hmA hbA
            go_wp2_with (at_builtin; refine wpList_append_run rfl _ _ _ _ rfl _ _ rfl rfl _ _ hrun ?_)
            go_round
            case rel => exact ⟨k + 1, by omega, by go_num, by rw [busyL_succ, if_pos hbt]; simpa [Round.ints] using hown', hB1', hB2', hsz', hm'⟩
            case measure => simp [intOf]; omega
          | false =>
            have hbt : ¬ l[k]? = some true := by simpa using hbb
            clear hbb
            go_wp2
            go_round
            case rel => exact ⟨k + 1, by omega, by go_num, by rw [busyL_succ, if_neg hbt]; exact hown, hB1, hB2, hsz, hm⟩
            case measure => simp [intOf]; omega
        · have : k = n := by omega
          subst this
          go_wp2
          go_meet
          case rel =>
            obtain ⟨a2, c2, hv, q1, q2, q3, _⟩ := hown.row
            have e := HL2.out
            subst e
            have hlen : (Round.ints (busyL l k)).length = (busyL l k).length := by simp [Round.ints]
            rw [hlen] at hv q2
            exact ⟨a2, c2, hv, q1, q2, q3, hB1, hB2, hsz, hm⟩
  case rest =>
    clear hB1 hB2 m2 hsz3 hrow hvc hL hLt
    obtain ⟨a2, c2, rfl, hr2, hle2, hm2c, hB1, hB2, hsz, hm⟩ := hcut
    have HL2 := hid hL2
    clear hL2
    go_wp2_with fail
    go_loopw [34, 12] (fun i v wr => ∃ j : Nat, j ≤ L2.length ∧ i = .int .i64 j ∧ Owns wr wc.heap.size 3 v (Round.ints (leftL l picked (L2.take j))) ∧ (leftL l picked (L2.take j)).length ≤ j ∧ Mod [] wc wr) (fun i _ _ => L2.length - (intOf i).toNat)
    case atStart => exact ⟨0, by omega, rfl, by simpa [leftL, Round.ints] using Owns.nil wc wc.heap.size 3, by simp [leftL], Mod.refl _ _⟩
    case round =>
      obtain ⟨j, hj, rfl, hown, hlj, hmj⟩ := hrel
      by_cases hlt : j < L2.length
      · obtain ⟨t, ht⟩ : ∃ t, L2[j]? = some t := ⟨L2[j], by simp [hlt]⟩
        obtain ⟨b5, o5, rfl, ct⟩ := row_at hr2 ht
        have ct1 := hmj.cell ct (by simp)
        have htl := hL2t t (List.mem_of_getElem? ht)
        have hstep := leftL_take l picked L2 j t ht
        have HS := hid hstep
        clear hstep ct ht
        by_cases hpt : (t : Int) = picked
        · have hp1 : ((t : Int) != picked) = false := by simp [hpt]
          have hst : leftL l picked (L2.take (j + 1)) = leftL l picked (L2.take j) := by rw [HS.out, if_neg (by simp [hpt])]
          have HST := hid hst
          clear hpt hst
          go_wp2_with fail
          go_round
          case rel => exact ⟨j + 1, by omega, by go_num, by rw [HST.out]; exact hown, by rw [HST.out]; omega, hmj⟩
          case measure => simp [intOf]; omega
        · have hp1 : ((t : Int) != picked) = true := by simp [hpt]
          obtain ⟨bb, hbb⟩ : ∃ bb, decide (l[t]? = some true) = bb := ⟨_, rfl⟩
          have hlen : (Round.ints (leftL l picked (L2.take j))).length = (leftL l picked (L2.take j)).length := by simp [Round.ints]
          go_wp2_with fail
          refine (is_ a l cap t bb _ (hz.mod0 (hm.trans hmj)) hc hcm htl hbb).mono ?_
          rintro e wz ⟨rfl, rfl⟩
          cases bb with
          | true =>
            have hbt : l[t]? = some true := by simpa using hbb
            have hst : leftL l picked (L2.take (j + 1)) = leftL l picked (L2.take j) ++ [t] := by rw [HS.out, if_pos ⟨hpt, hbt⟩]
            have HST := hid hst
            clear hst hpt hbt hbb
            obtain ⟨i0, hi, hz0, hz1, hz2⟩ := info_parts Round.info_int_r
            obtain ⟨v', wA, hrun, hown', hmA, hbA⟩ := append_one (P := Try.prog) wr wc.heap.size 33 33 3 i0 (.int .i64 0) 8 Try.underlying33 hi hz0 hz1 hz2 rfl hown (.int .i64 t) rfl (by rw [hlen]; simp [maxLen]; omega) (by rw [hlen]; omega) hmj.size
            have hm' := hmA _ _ hmj (Nat.le_refl _)
            clear hmA hbA hi hz0 hz1 hz2 hlen
            go_wp2_with (at_builtin; refine wpList_append_run rfl _ _ _ _ rfl _ _ rfl rfl _ _ hrun ?_)
            go_round
            case rel => exact ⟨j + 1, by omega, by go_num, by rw [HST.out]; simpa [Round.ints] using hown', by rw [HST.out]; simp; omega, hm'⟩
            case measure => simp [intOf]; omega
          | false =>
            have hbt : ¬ l[t]? = some true := by simpa using hbb
            have hst : leftL l picked (L2.take (j + 1)) = leftL l picked (L2.take j) := by rw [HS.out, if_neg (fun h => hbt h.2)]
            have HST := hid hst
            clear hst hpt hbt hbb hlen
            go_wp2_with fail
            go_round
            case rel => exact ⟨j + 1, by omega, by go_num, by rw [HST.out]; exact hown, by rw [HST.out]; omega, hmj⟩
            case measure => simp [intOf]; omega
      · have : j = L2.length := by omega
        subst this
        rw [List.take_length] at hown hlj
        have e := HL2.out
        have HE := hid e
        clear e
        have hB1' := hmj.blk hB1 (by simp)
        have hB2' := hmj.blk hB2 (by simp)
        have hcc := Blk.cell hB1' (i := 2) rfl
        have hfB0 := Blk.free hB2' 0
        have hfB1 := Blk.free hB2' 1
        have hfB2 := Blk.free hB2' 2
        have hd0 := Blk.cell hB2' (i := 0) rfl
        have hd1 := Blk.cell hB2' (i := 1) rfl
        have hd2 := Blk.cell hB2' (i := 2) rfl
        obtain ⟨a5, c5, rfl, hr5, hle5, hm5, hb5⟩ := hown.row
        by_cases h0 : leftL l picked L2 = []
        · have hnl : (Round.ints (leftL l picked L2)).length = 0 := by rw [h0]; rfl
          rw [hnl]
          go_wp2_with fail
          have hBE : Blk (((wr.setCell ⟨w.heap.size + 1, 0, none⟩ (.slice none 0 0)).setCell ⟨w.heap.size + 1, 1, none⟩ (.int .i64 0)).setCell ⟨w.heap.size + 1, 2, none⟩ (.int .i64 ((count : Int) + 1))) (w.heap.size + 1) 84 [.slice none 0 0, .int .i64 0, .int .i64 ((count : Int) + 1)] := by
            have := hB2'
            unfold Blk at *
            simp [World.setCell, Array.getElem?_modify, this]
          have mE : Mod [w.heap.size + 1] wr (((wr.setCell ⟨w.heap.size + 1, 0, none⟩ (.slice none 0 0)).setCell ⟨w.heap.size + 1, 1, none⟩ (.int .i64 0)).setCell ⟨w.heap.size + 1, 2, none⟩ (.int .i64 ((count : Int) + 1))) := by
            repeat' (first | (with_reducible exact Mod.refl _ _) | (with_reducible assumption) | (with_reducible refine Mod.drewN ?_ _) | (with_reducible refine Mod.drew ?_) | (with_reducible refine Mod.setCell ?_ ?_ _) | (with_reducible refine Mod.alloc ?_ _) | (simp; done) | (simp; omega))
          have mW := (hm.trans hmj).step mE (by simp)
          clear hd0 hd1 hd2 hcc hB1' hB2' hfB0 hfB1 hfB2
          generalize (((wr.setCell ⟨w.heap.size + 1, 0, none⟩ (.slice none 0 0)).setCell ⟨w.heap.size + 1, 1, none⟩ (.int .i64 0)).setCell ⟨w.heap.size + 1, 2, none⟩ (.int .i64 ((count : Int) + 1))) = WE at *
          have hd0 := Blk.cell hBE (i := 0) rfl
          have hd1 := Blk.cell hBE (i := 1) rfl
          have hd2 := Blk.cell hBE (i := 2) rfl
          have hownE := (hown.mod mE (fun b hb e => by have := (hown.lt e).1; simp at hb; omega)).base hm.size
          refine bodyPost_ret (v := .tuple #[.agg #[.slice none 0 0, .int .i64 0, .int .i64 ((count : Int) + 1)], .int .i64 1]) (by rw [results_cell_tmp rfl]; simp [asAddr, Result.andThen, hd0, hd1, hd2, go_sem]) rfl ?_
          have hl : left l n under L picked = [] := by unfold left; rw [HE.out]; exact h0
          refine ⟨.slice none 0 0, by rw [if_pos hl]; simp, ?_, mW⟩
          rw [hl]
          exact Owns.nil _ _ _
        · have hnl : ((Round.ints (leftL l picked L2)).length : Int) ≠ 0 := by simpa [Round.ints] using h0
          have hnl2 : (((Round.ints (leftL l picked L2)).length : Int) == 0) = false := by simpa using hnl
          go_wp2_with fail
          have hBE : Blk (((wr.setCell ⟨w.heap.size + 1, 0, none⟩ (.slice a5 (Round.ints (leftL l picked L2)).length c5)).setCell ⟨w.heap.size + 1, 1, none⟩ (.int .i64 1)).setCell ⟨w.heap.size + 1, 2, none⟩ (.int .i64 (count))) (w.heap.size + 1) 84 [.slice a5 (Round.ints (leftL l picked L2)).length c5, .int .i64 1, .int .i64 (count)] := by
            have := hB2'
            unfold Blk at *
            simp [World.setCell, Array.getElem?_modify, this]
          have mE : Mod [w.heap.size + 1] wr (((wr.setCell ⟨w.heap.size + 1, 0, none⟩ (.slice a5 (Round.ints (leftL l picked L2)).length c5)).setCell ⟨w.heap.size + 1, 1, none⟩ (.int .i64 1)).setCell ⟨w.heap.size + 1, 2, none⟩ (.int .i64 (count))) := by
            repeat' (first | (with_reducible exact Mod.refl _ _) | (with_reducible assumption) | (with_reducible refine Mod.drewN ?_ _) | (with_reducible refine Mod.drew ?_) | (with_reducible refine Mod.setCell ?_ ?_ _) | (with_reducible refine Mod.alloc ?_ _) | (simp; done) | (simp; omega))
          have mW := (hm.trans hmj).step mE (by simp)
          clear hd0 hd1 hd2 hcc hB1' hB2' hfB0 hfB1 hfB2
          generalize (((wr.setCell ⟨w.heap.size + 1, 0, none⟩ (.slice a5 (Round.ints (leftL l picked L2)).length c5)).setCell ⟨w.heap.size + 1, 1, none⟩ (.int .i64 1)).setCell ⟨w.heap.size + 1, 2, none⟩ (.int .i64 (count))) = WE at *
          have hd0 := Blk.cell hBE (i := 0) rfl
          have hd1 := Blk.cell hBE (i := 1) rfl
          have hd2 := Blk.cell hBE (i := 2) rfl
          have hownE := (hown.mod mE (fun b hb e => by have := (hown.lt e).1; simp at hb; omega)).base hm.size
          refine bodyPost_ret (v := .tuple #[.agg #[.slice a5 (Round.ints (leftL l picked L2)).length c5, .int .i64 1, .int .i64 count], .int .i64 0]) (by rw [results_cell_tmp rfl]; simp [asAddr, Result.andThen, hd0, hd1, hd2, go_sem]) rfl ?_
          have hl : left l n under L picked = leftL l picked L2 := by unfold left; rw [HE.out]
          refine ⟨_, by rw [if_neg (by rw [hl]; exact h0)], ?_, mW⟩
          rw [hl]
          exact hownE

end RefRound
end Go.Proofs.Ytlhbfkncdcgocaa
