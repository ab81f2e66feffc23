/- The walk of the statement RoundNever: while one who is busy is never picked, no round is over. -/
import Derived.Test.YtlhbfkncdcgocaaRound
import Derived.Test.YtlhbfkncdcgocaaToldRead
import Derived.Test.YtlhbfkncdcgocaaLex
import Derived.Test.YtlhbfkncdcgocaaApp
namespace Go.Proofs.Ytlhbfkncdcgocaa
open Go.RowKit
set_option linter.unusedVariables false
set_option linter.unusedSimpArgs false

/-- The two cells of a box. -/
def Box2 (b : Nat) (u v : Value) (w : World) : Prop := w.cell? ⟨b, 0, none⟩ = some u ∧ w.cell? ⟨b, 1, none⟩ = some v

theorem rowV_of_rowB {w : World} {a : Option Addr} {l : List Bool} (h : RowB w a l) : RowV w a (l.map Value.bool) := by
  rcases h with rfl | ⟨b, o, rfl, h⟩
  · exact .inl rfl
  · exact .inr ⟨b, o, rfl, fun i x hx => by
      rw [List.getElem?_map] at hx
      cases hz : l[i]? with
      | none => rw [hz] at hx; cases hx
      | some z => rw [hz] at hx; cases hx; exact h i z hz⟩

theorem rowB_of_rowV {w : World} {a : Option Addr} {l : List Bool} (h : RowV w a (l.map Value.bool)) : RowB w a l := by
  rcases h with h | ⟨b, o, rfl, h⟩
  · exact .inl (by simpa using h)
  · exact .inr ⟨b, o, rfl, fun i z hz => h i _ (by simp [hz])⟩

theorem RowB.take {w : World} {a : Option Addr} {l : List Bool} (h : RowB w a l) (n : Nat) : RowB w a (l.take n) :=
  rowB_of_rowV (by rw [List.map_take]; exact (rowV_of_rowB h).take n)

theorem info_bool_n : (Try.prog.info? 4).map (fun i => (i.zero, i.size, i.bytes)) = some (some (.bool false), 1, 1) := by kernel_rfl

namespace Round
/-- The first one is owed a pick, once a round is under way. -/
theorem never_step (l : List Bool) (n : Nat) (under : Bool) (owed : Nat) (picked : Int) (hn : 1 ≤ n ∧ n ≤ 64) (hu : under = true → owed.testBit 0 = true) (hp : 1 ≤ picked) (hl : l[0]? = some true) :
    next l n under owed picked ≠ 0 ∧ (next l n under owed picked).testBit 0 = true := by
  have h := next_testBit l n under owed picked hn.2 0
  have h2 : (next l n under owed picked).testBit 0 = true := by
    rw [h]
    have : (0 : Nat) < n := by omega
    have hp' : ¬ picked = ((0 : Nat) : Int) := by omega
    cases under
    · simp [hl, this]; omega
    · simp [hl, this, hu rfl]; omega
  refine ⟨fun e => ?_, h2⟩
  rw [e] at h2
  simp at h2
end Round

theorem never_many (a : Option Addr) (len cap : Nat) (x : Int) (w : World) (h0 : 0 ≤ x) (h255 : x ≤ 255) (h100 : 100 < len) (hm : len ≤ maxLen) :
    Calls Try.prog 7 #[.int .u8 x, .slice a len cap] w fun e w' => e = .returned (.bool true) ∧ Mod [] w w' := by
  unfold maxLen at hm
  obtain ⟨n, hn⟩ : ∃ n : Nat, 2 + x % 63 = (n : Int) := ⟨(2 + x % 63).toNat, by omega⟩
  have hn1 : n ≤ 64 := by omega
  have hn2 : 1 ≤ n := by omega
  go_enter Try.func7, Try.ntmps7
  go_wp2_with fail
  refine (Round.new_ n _ n (by omega)).mono ?_
  rintro e w1 ⟨p, rfl, h1, hp, m1⟩
  go_wp2_with fail
  refine (Round.awake26 _).mono ?_
  rintro e w2 ⟨rfl, m2⟩
  go_wp2
  go_ret
  exact ⟨rfl, m1.trans m2⟩

set_option maxRecDepth 100000 in
set_option maxHeartbeats 2000000 in
theorem never_few (a : Option Addr) (l : List (List Bool × Int × Unit)) (cap : Nat) (x : Int) (w : World) (hz : RowTold w a l) (h0 : 0 ≤ x) (h255 : x ≤ 255) (h100 : l.length ≤ 100) :
    Calls Try.prog 7 #[.int .u8 x, .slice a l.length cap] w fun e w' => e = .returned (.bool true) ∧ Mod [] w w' := by
  obtain ⟨n, hn⟩ : ∃ n : Nat, 2 + x % 63 = (n : Int) := ⟨(2 + x % 63).toNat, by omega⟩
  have hn1 : n ≤ 64 := by omega
  have hn2 : 1 ≤ n := by omega
  go_enter Try.func7, Try.ntmps7
  go_wp2_with fail
  refine (Round.new_ n _ n (by omega)).mono ?_
  rintro e w1 ⟨p, rfl, h1, hp, m1⟩
  go_wp2_with fail
  clear hn
  go_loopw [29] (fun i wr => ∃ (k : Nat) (under : Bool) (owed : Nat), k ≤ l.length ∧ i = .int .i64 k ∧ (under = true → owed.testBit 0 = true) ∧ owed < 18446744073709551616 ∧ Round.At wr p n 0 under owed ∧ Mod [] w wr) (fun i _ => l.length - (intOf i).toNat)
  case atStart => exact ⟨0, false, 0, by omega, rfl, (fun h => by cases h), by omega, h1, m1⟩
  case round =>
    clear h1 m1
    obtain ⟨k, under, owed, hk, rfl, hu, howed, hR, hm⟩ := hrel
    by_cases hlt : k < l.length
    · obtain ⟨⟨lb, pick, u⟩, hzk⟩ : ∃ z, l[k]? = some z := ⟨l[k], by simp [hlt]⟩
      rcases hz with rfl | ⟨b, off, rfl, hcell⟩
      · simp at hlt
      obtain ⟨ab, cb, q0, hrow, hle, hcm, q1, r1⟩ := hcell k _ hzk
      dsimp only at q0 hrow hle q1 r1
      have bp := bounds_i64 r1
      have c0 := hm.cell q0 (by simp)
      have c1 := hm.cell q1 (by simp)
      have hrow1 := hrow.mod0 hm
      clear q0 q1 r1 hcell hzk hrow
      unfold maxLen at hcm
      have hRA := hR.mod ((Mod.refl [] wr).alloc (.cells #[.slice ab lb.length cb, .int .i64 pick] 55 (0, 0))) (by simp)
      have hmA := hm.alloc (.cells #[.slice ab lb.length cb, .int .i64 pick] 55 (0, 0))
      have hBx : Blk (wr.alloc (.cells #[.slice ab lb.length cb, .int .i64 pick] 55 (0, 0))) wr.heap.size 55 [.slice ab lb.length cb, .int .i64 pick] := Blk.new wr _ [.slice ab lb.length cb, .int .i64 pick]
      have hrowA := hrow1.mod0 ((Mod.refl [] wr).alloc (.cells #[.slice ab lb.length cb, .int .i64 pick] 55 (0, 0)))
      go_upto_region 8 with (fail)
      refine Lex.region (Box2 wr.heap.size (.slice ab lb.length cb) (.int .i64 pick)) [.pure, .loud, .pure, .pure, .pure, .pure, .pure, .pure, .pure, .loud, .pure, .pure, .pure, .loud] (by kernel_rfl) (by kernel_rfl) ?_ ?_
      · intro m; exact ⟨Blk.cell hBx rfl, Blk.cell hBx rfl⟩
      (refine Lex.step_pure rfl rfl ?_; go_big_quiet_step ((intro hwS; first | rfl | (simp [hwS.1, hwS.2]; rfl))); refine wpQuiet_nil ?_)
      refine Lex.step_loud rfl (fun wl hwl => ?_)
      obtain ⟨nq, rfl⟩ := hwl
      have hRB := hRA.mod (((Mod.refl [] _).drewN nq).alloc (.cells #[.bool true] 4 (0, 0))) (by simp)
      have hmB := (hmA.drewN nq).alloc (.cells #[.bool true] 4 (0, 0))
      have hBxB := (((Mod.refl [] _).drewN nq).alloc (.cells #[.bool true] 4 (0, 0))).blk hBx (by simp)
      have hrowB := hrowA.mod0 (((Mod.refl [] _).drewN nq).alloc (.cells #[.bool true] 4 (0, 0)))
      have hbn : Blk (((wr.alloc (.cells #[.slice ab lb.length cb, .int .i64 pick] 55 (0, 0))).drewN nq).alloc (.cells #[.bool true] 4 (0, 0))) (wr.heap.size + 1) 4 [.bool true] := by
        have e : wr.heap.size + 1 = ((wr.alloc (.cells #[.slice ab lb.length cb, .int .i64 pick] 55 (0, 0))).drewN nq).heap.size := by simp
        rw [e]
        exact Blk.new _ 4 [.bool true]
      have hown : Owns _ (wr.heap.size + 1) 4 (.slice (some ⟨wr.heap.size + 1, 0, none⟩) 1 1) [.bool true] := Owns.of_blk hbn (by decide) (Nat.le_refl _)
      go_wp2_with fail
      refine ⟨rfl, rfl, ⟨Blk.cell hBxB rfl, Blk.cell hBxB rfl⟩, ?_⟩
      iterate 6 (refine Lex.step_pure rfl rfl ?_; go_big_quiet_step ((intro hwS; first | rfl | (simp [hwS.1, hwS.2]; rfl))); refine wpQuiet_nil ?_)
      obtain ⟨q, hq, hq1, hq2⟩ : ∃ q : Nat, (if (70 : Int) < (lb.length : Int) then (70 : Int) else (lb.length : Int)) = q ∧ q ≤ lb.length ∧ (lb.take q = lb.take 70) := by
        by_cases h : lb.length ≤ 70
        · exact ⟨lb.length, by rw [if_neg (by omega)], by omega, by rw [List.take_of_length_le (by omega), List.take_of_length_le (by omega)]⟩
        · exact ⟨70, by rw [if_pos (by omega)]; rfl, by omega, rfl⟩
      have hsl : sliced ab 0 q cb 1 = .slice ab q cb := by
        cases ab <;> simp [sliced, Addr.add]
      have hqc : (q : Int) ≤ cb := by omega
      rw [hq]
      (refine Lex.step_pure rfl rfl ?_; go_big_quiet_step ((intro hwS; first | rfl | (simp [hwS.1, hwS.2]; rfl))); refine wpQuiet_nil ?_)
      refine Lex.step_loud rfl (fun wl hwl => ?_)
      replace hwl := hwl.symm
      subst hwl
      have hszB : (((wr.alloc (.cells #[.slice ab lb.length cb, .int .i64 pick] 55 (0, 0))).drewN nq).alloc (.cells #[.bool true] 4 (0, 0))).heap.size = wr.heap.size + 2 := by simp
      generalize ((wr.alloc (.cells #[.slice ab lb.length cb, .int .i64 pick] 55 (0, 0))).drewN nq).alloc (.cells #[.bool true] 4 (0, 0)) = WB at *
      obtain ⟨i0, hi, hz0, hz1, hz2⟩ := info_parts info_bool_n
      have hlenq : ((lb.take q).map Value.bool).length = q := by simp; omega
      obtain ⟨v', wA, hrun, hown', hgr⟩ := run_append_row (P := Try.prog) _ _ 42 42 4 i0 (.bool false) 1 Try.underlying42 hi hz0 hz1 hz2 rfl _ _ hown ab _ q cb hlenq (rowV_of_rowB (hrowB.take q)) (fun u hu => by obtain ⟨z, _, rfl⟩ := List.mem_map.1 hu; rfl) (by simp [maxLen]; omega) (by simp; omega) (by omega)
      have hsz := hm.size
      have hmC := hmB.grown hgr (fun z hz hlt => by simp [Value.ownBlock] at hz; omega)
      have hgm : Mod [wr.heap.size + 1] _ wA := (Mod.refl _ _).grown hgr (fun z hz hlt => by simp [Value.ownBlock] at hz; simp; omega)
      have hRC := hRB.mod hgm (by have := hRA.lt; simp at this ⊢; have := Blk.lt hR; omega)
      have hBxC := hgm.blk hBxB (by simp)
      obtain ⟨a2, c2, hv2, hrow2, hle2, hcm2, hbase2⟩ := hown'.row
      subst hv2
      go_wp2_with (at_builtin; refine wpList_append_run rfl _ _ _ _ rfl _ _ rfl rfl _ _ hrun ?_)
      refine ⟨rfl, rfl, ⟨Blk.cell hBxC rfl, Blk.cell hBxC rfl⟩, ?_⟩
      have hrowN : RowB wA a2 (true :: lb.take q) := rowB_of_rowV (by simpa using hrow2)
      have hlN : (true :: lb.take q).length = ([Value.bool true] ++ List.map Value.bool (List.take q lb)).length := by simp
      have hNm : ([Value.bool true] ++ List.map Value.bool (List.take q lb)).length ≤ maxLen := Nat.le_trans hle2 hcm2
      generalize ([Value.bool true] ++ List.map Value.bool (List.take q lb)).length = N at *
      clear hrun hown' hgr hrow2 hown hbn hrowB hRB hBxB
      obtain ⟨mx, hmx, hmx1, hmx2⟩ : ∃ mx : Int, (if pick < 1 then 1 else pick) = mx ∧ 1 ≤ mx ∧ mx ≤ 9223372036854775807 := by
        refine ⟨_, rfl, ?_, ?_⟩ <;> split <;> omega
      have hstep := Round.never_step (true :: lb.take q) n under owed mx ⟨hn2, hn1⟩ hu hmx1 rfl
      obtain ⟨o2, ho2⟩ : ∃ o2, Round.next (true :: lb.take q) n under owed mx = o2 := ⟨_, rfl⟩
      rw [ho2] at hstep
      have hlt2 : o2 < 18446744073709551616 := by
        rw [← ho2]; exact Round.next_lt _ _ _ _ _ hn1
      iterate 3 (refine Lex.step_pure rfl rfl ?_; go_big_quiet_step ((intro hwS; first | rfl | (simp [hwS.1, hwS.2]; rfl))); refine wpQuiet_nil ?_)
      try rw [hmx]
      refine Lex.step_loud rfl (fun wl hwl => ?_)
      replace hwl := hwl.symm
      subst hwl
      have hl2 : (true :: lb.take q).length = min 70 lb.length + 1 := by rw [hq2]; simp
      go_wp2_with fail
      refine (Round.take_ a2 (true :: lb.take q) (min 70 lb.length + 1) c2 p n 0 under owed mx _ hRC hrowN hl2 (by simp [maxLen]; omega) ⟨hn2, hn1⟩ howed (by omega) (by omega) o2 ho2).mono ?_
      rintro e wT ⟨rfl, hRT, mT⟩
      rw [if_neg hstep.1] at hRT
      have hRT' : Round.At wT p n 0 true o2 := by simpa [hstep.1] using hRT
      have hmT := hmC.step mT (by simp <;> omega)
      have hBT := mT.blk hBxC (by have := Blk.lt hR; simp; omega)
      have hne : decide (o2 = 0) = false := by simp [hstep.1]
      rw [hne]
      go_wp2_with fail
      refine ⟨rfl, rfl, ⟨Blk.cell hBT rfl, Blk.cell hBT rfl⟩, ?_⟩
      refine Lex.step_nil (fun wl hwl => ?_)
      replace hwl := hwl.symm
      subst hwl
      go_wp2
      go_round
      case rel => exact ⟨k + 1, true, o2, by omega, by go_num, fun _ => hstep.2, hlt2, hRT', hmT⟩
      case measure => simp [intOf]; omega
    · go_wp2_with fail
      refine (Round.count_ p n 0 under owed _ hR).mono ?_
      rintro e w2 ⟨rfl, rfl⟩
      go_wp2_with fail
      refine (Round.awake26 _).mono ?_
      rintro e w3 ⟨rfl, m3⟩
      go_wp2
      go_ret
      exact ⟨rfl, hm.trans m3⟩

theorem law_RoundNever (w : World) (v0 v1 : Value) (x0 : Int) (x1 : List (List Bool × Int × Unit)) (h0 : Sh.Arg w (.int .u8) x0 v0) (h1 : Sh.Arg w (.row toldSh) x1 v1) :
    Calls Try.prog 7 #[v0, v1] w fun e w' => e = .returned (.bool true) ∧ Mod [] w w' := by
  obtain ⟨rfl, hw0⟩ := h0
  have hx0 := bounds_u8 hw0
  obtain ⟨a, cap, rfl, hz, hle, hcm⟩ := arg_told h1
  by_cases h100 : x1.length ≤ 100
  · exact never_few a x1 cap x0 w hz (by omega) (by omega) h100
  · exact never_many a x1.length cap x0 w (by omega) (by omega) (by omega) (by omega)

end Go.Proofs.Ytlhbfkncdcgocaa
