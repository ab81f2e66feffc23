/- The walk of the statement RoundPlays. -/
import Derived.Test.YtlhbfkncdcgocaaRefRound
import Derived.Test.YtlhbfkncdcgocaaToldRead
import Derived.Test.YtlhbfkncdcgocaaLex
namespace Go.Proofs.Ytlhbfkncdcgocaa
open Go.RowKit
set_option linter.unusedVariables false
set_option linter.unusedSimpArgs false

namespace RefRound
theorem left_eq (lb : List Bool) (n : Nat) (under : Bool) (owed : Nat) (L : List Nat) (picked : Int) (hL : under = true → L = Round.owedL owed n) (hn : n ≤ 64) :
    left lb n under L picked = Round.owedL (Round.next lb n under owed picked) n := by
  unfold left leftL Round.owedL
  cases under with
  | false =>
    simp only [Bool.false_eq_true, if_false, busyL, List.filter_filter]
    apply List.filter_congr
    intro t ht
    rw [Round.next_testBit lb n false owed picked hn t]
    have : t < n := by simpa using ht
    by_cases h1 : lb[t]? = some true <;> by_cases h2 : picked = (t : Int) <;> simp [h1, h2, this, eq_comm]
  | true =>
    rw [hL rfl]
    simp only [if_true, Round.owedL, List.filter_filter]
    apply List.filter_congr
    intro t ht
    rw [Round.next_testBit lb n true owed picked hn t]
    have : t < n := by simpa using ht
    by_cases h1 : lb[t]? = some true <;> by_cases h2 : picked = (t : Int) <;> cases owed.testBit t <;> simp [h1, h2, this, eq_comm]

theorem owedL_nil (lb : List Bool) (n : Nat) (under : Bool) (owed : Nat) (picked : Int) (hn : n ≤ 64) (o2 : Nat) (ho : Round.next lb n under owed picked = o2) : Round.owedL o2 n = [] ↔ o2 = 0 := by
  constructor
  · intro h
    apply Nat.eq_of_testBit_eq
    intro t
    cases hb : o2.testBit t with
    | false => simp
    | true =>
      exfalso
      have hb2 := hb
      rw [← ho, Round.next_testBit lb n under owed picked hn t] at hb2
      simp only [Bool.and_eq_true, decide_eq_true_eq] at hb2
      have : t ∈ Round.owedL o2 n := by simp [Round.owedL, hb]; exact hb2.1.2.1
      rw [h] at this
      cases this
  · rintro rfl
    simp [Round.owedL]

theorem owedL_le (owed n t : Nat) (h : t ∈ Round.owedL owed n) : t < n := by
  simp [Round.owedL] at h
  exact h.1
end RefRound

/-- Cells of two boxes. -/
def Box3 (b : Nat) (u v : Value) (b2 : Nat) (x : Value) (w : World) : Prop := w.cell? ⟨b, 0, none⟩ = some u ∧ w.cell? ⟨b, 1, none⟩ = some v ∧ w.cell? ⟨b2, 2, none⟩ = some x

theorem owns_ints {w : World} {base : Nat} {e : TypeId} {v : Value} {L : List Nat} (h : Owns w base e v (Round.ints L)) : ∃ a cap, v = .slice a L.length cap ∧ RowV w a (Round.ints L) ∧ L.length ≤ cap ∧ cap ≤ maxLen := by
  obtain ⟨a, cap, hv, h1, h2, h3, _⟩ := h.row
  have e : (Round.ints L).length = L.length := by simp [Round.ints]
  rw [e] at hv h2
  exact ⟨a, cap, hv, h1, h2, h3⟩

theorem plays_many (a : Option Addr) (len cap : Nat) (x : Int) (w : World) (h100 : 100 < len) (hm : len ≤ maxLen) :
    Calls Try.prog 11 #[.int .i64 x, .slice a len cap] w fun e w' => e = .returned (.bool true) ∧ Mod [] w w' := by
  unfold maxLen at hm
  obtain ⟨n, hn⟩ : ∃ n : Nat, (n : Int) = min (max x 1) 64 := ⟨(min (max x 1) 64).toNat, by omega⟩
  go_enter Try.func11, Try.ntmps11
  go_wp2_with fail
  refine (Round.new_ x _ n hn).mono ?_
  rintro e w1 ⟨p, rfl, h1, hp, m1⟩
  clear hn
  go_wp2_with fail
  refine (Round.awake26 _).mono ?_
  rintro e w2 ⟨rfl, m2⟩
  go_wp2
  go_ret
  exact ⟨rfl, m1.trans m2⟩

set_option maxRecDepth 100000 in
set_option maxHeartbeats 4000000 in
theorem plays_few (a : Option Addr) (l : List (List Bool × Int × Unit)) (cap : Nat) (x : Int) (w : World) (hz : RowTold w a l) (h100 : l.length ≤ 100) :
    Calls Try.prog 11 #[.int .i64 x, .slice a l.length cap] w fun e w' => e = .returned (.bool true) ∧ Mod [] w w' := by
  obtain ⟨n, hn⟩ : ∃ n : Nat, (n : Int) = min (max x 1) 64 := ⟨(min (max x 1) 64).toNat, by omega⟩
  have HX : Hid (∃ mx : Int, (if x < 1 then 1 else x) = mx ∧ (if 64 < mx then 64 else mx) = (n : Int)) := hid ⟨_, rfl, by split <;> (try split) <;> omega⟩
  have hn1 : 1 ≤ n := by omega
  have hn64 : n ≤ 64 := by omega
  go_enter Try.func11, Try.ntmps11
  go_wp2_with fail
  refine (Round.new_ x _ n hn).mono ?_
  rintro e w1 ⟨p, rfl, h1, hp, m1⟩
  clear hn
  have hpl := Blk.lt h1
  have hs1 := m1.size
  have mX := m1.alloc (.cells #[.slice none 0 0, .int .i64 0, .int .i64 0] 84 (0, 0))
  have hRX := h1.mod ((Mod.refl [] w1).alloc (.cells #[.slice none 0 0, .int .i64 0, .int .i64 0] 84 (0, 0))) (by simp)
  have hBX : Blk (w1.alloc (.cells #[.slice none 0 0, .int .i64 0, .int .i64 0] 84 (0, 0))) w1.heap.size 84 [.slice none 0 0, .int .i64 0, .int .i64 0] := Blk.new w1 _ [.slice none 0 0, .int .i64 0, .int .i64 0]
  have hsX : w1.heap.size + 1 ≤ (w1.alloc (.cells #[.slice none 0 0, .int .i64 0, .int .i64 0] 84 (0, 0))).heap.size := by simp
  go_wp2_with fail
  go_loopw [29] (fun i wr => ∃ (k : Nat) (under : Bool) (owed count : Nat) (ui : Int) (L : List Nat) (vx : Value), k ≤ l.length ∧ i = .int .i64 k ∧ owed < 18446744073709551616 ∧ count ≤ k ∧ Round.At wr p n count under owed ∧ ui = (if under then 1 else 0) ∧
    (under = true → L = Round.owedL owed n) ∧ L.length ≤ 64 ∧ (∀ t ∈ L, t ≤ 1000) ∧ Owns wr (w1.heap.size + 1) 3 vx (Round.ints L) ∧ Blk wr w1.heap.size 84 [vx, .int .i64 ui, .int .i64 count] ∧ w1.heap.size + 1 ≤ wr.heap.size ∧ Mod [] w wr) (fun i _ => l.length - (intOf i).toNat)
  case atStart => exact ⟨0, false, 0, 0, 0, [], .slice none 0 0, by omega, rfl, by omega, by omega, hRX, rfl, (fun h => by cases h), by simp, by simp, Owns.nil _ _ _, hBX, hsX, mX⟩
  case round =>
    clear h1 m1 mX hRX hBX hsX
    obtain ⟨k, under, owed, count, ui, L, vx, hk, rfl, howed, hcnt, hR, hui, hLo, hLl, hLt, hown, hBx, hsz, hm⟩ := hrel
    have HU := hid hui
    have HLo := hid hLo
    clear hui hLo
    by_cases hlt : k < l.length
    · obtain ⟨⟨lb, pick, u⟩, hzk⟩ : ∃ z, l[k]? = some z := ⟨l[k], by simp [hlt]⟩
      rcases hz with rfl | ⟨b, off, rfl, hcell⟩
      · simp at hlt
      obtain ⟨ab, cb, q0, hrow, hle, hcm, q1, r1⟩ := hcell k _ hzk
      dsimp only at q0 hrow hle q1 r1
      have bp := bounds_i64 r1
      have c0 := hm.cell q0 (by simp)
      have c1 := hm.cell q1 (by simp)
      clear q0 q1 r1 hcell hzk
      have mA := (Mod.refl [] wr).alloc (.cells #[.slice ab lb.length cb, .int .i64 pick] 55 (0, 0))
      have hBA := Blk.new wr 55 [.slice ab lb.length cb, .int .i64 pick]
      have hmA := hm.trans mA
      have hRA := hR.mod mA (by simp)
      have hownA := hown.mod0 mA
      have hBxA := mA.blk hBx (by simp)
      have hszA : w1.heap.size + 2 ≤ (wr.alloc (.cells #[.slice ab lb.length cb, .int .i64 pick] 55 (0, 0))).heap.size := by simp; omega
      clear mA hR hown hBx
      go_upto_region 8 with (fail)
      clear c0 c1 hm
      generalize wr.alloc (.cells #[.slice ab lb.length cb, .int .i64 pick] 55 (0, 0)) = WA at *
      generalize wr.heap.size = nb at *
      have hcB0 := Blk.cell hBA (i := 0) rfl
      have hcB1 := Blk.cell hBA (i := 1) rfl
      by_cases h70 : 70 < lb.length
      · go_wp2_with fail
        refine (Round.awake26 _).mono ?_
        rintro e w3 ⟨rfl, m3⟩
        go_wp2
        go_ret
        exact ⟨rfl, hmA.trans m3⟩
      · obtain ⟨va, vc, rfl, hrowL, hvc, hvm⟩ := owns_ints hownA
        have hx0 := Blk.cell hBxA (i := 0) rfl
        have hx1 := Blk.cell hBxA (i := 1) rfl
        have hx2 := Blk.cell hBxA (i := 2) rfl
        obtain ⟨mx, hmx1, hmx2⟩ := HX.out
        obtain ⟨o2, ho2⟩ : ∃ o2, Round.next lb n under owed pick = o2 := ⟨_, rfl⟩
        have hlt2 : o2 < 18446744073709551616 := by rw [← ho2]; exact Round.next_lt _ _ _ _ _ hn64
        have hle2 : RefRound.left lb n under L pick = Round.owedL o2 n := by rw [← ho2]; exact RefRound.left_eq lb n under owed L pick HLo.out hn64
        have hnil := RefRound.owedL_nil lb n under owed pick hn64 o2 ho2
        have HO2 := hid ho2
        have HLE := hid hle2
        have HNIL := hid hnil
        clear ho2 hle2 hnil
        have hrowA := hrow.mod0 hmA
        go_wp2_with fail
        refine (RefRound.take_ ab lb cb n pick va vc L under ui count _ hrowA hle hcm hn64 bp (by omega) hLl hLt hrowL hvc hvm HU.out).mono ?_
        rintro e wX ⟨vl, hret, hownL, mXX⟩
        rw [HLE.out] at hret hownL
        clear hmx1 hmx2 hcB0 hcB1 hx0 hx1 hx2 hrowA hrowL hownA
        have hRX := hRA.mod mXX (by simp)
        have hBAX := mXX.blk hBA (by simp)
        have hBxX := mXX.blk hBxA (by simp)
        have hmX := hmA.trans mXX
        have hszX := mXX.size
        obtain ⟨al, cl, rfl, hrowN, hlN, hmN⟩ := owns_ints hownL
        obtain ⟨u2, c2, ov, hret2, hcase⟩ : ∃ u2 c2 ov : Int, e = .returned (.tuple #[.agg #[.slice al (Round.owedL o2 n).length cl, .int .i64 u2, .int .i64 c2], .int .i64 ov]) ∧
            ((o2 = 0 ∧ u2 = 0 ∧ c2 = ((count + 1 : Nat) : Int) ∧ ov = 1) ∨ (o2 ≠ 0 ∧ u2 = 1 ∧ c2 = (count : Int) ∧ ov = 0)) := by
          by_cases h0 : o2 = 0
          · rw [if_pos (HNIL.out.2 h0)] at hret
            exact ⟨0, _, 1, hret, .inl ⟨h0, rfl, rfl, rfl⟩⟩
          · rw [if_neg (fun h => h0 (HNIL.out.1 h))] at hret
            exact ⟨1, _, 0, hret, .inr ⟨h0, rfl, rfl, rfl⟩⟩
        subst hret2
        clear hret
        have HC := hid hcase
        clear hcase
        have mY := (Mod.refl [] wX).alloc (.cells #[.slice al (Round.owedL o2 n).length cl, .int .i64 u2, .int .i64 c2] 84 (0, 0))
        have hBxY := mY.blk hBxX (by simp)
        have hBN : Blk (wX.alloc (.cells #[.slice al (Round.owedL o2 n).length cl, .int .i64 u2, .int .i64 c2] 84 (0, 0))) wX.heap.size 84 [.slice al (Round.owedL o2 n).length cl, .int .i64 u2, .int .i64 c2] := Blk.new wX _ [.slice al (Round.owedL o2 n).length cl, .int .i64 u2, .int .i64 c2]
        have hy0 := Blk.cell hBxY (i := 0) rfl
        have hy1 := Blk.cell hBxY (i := 1) rfl
        have hy2 := Blk.cell hBxY (i := 2) rfl
        have hfy0 := Blk.free hBxY 0
        have hfy1 := Blk.free hBxY 1
        have hfy2 := Blk.free hBxY 2
        have hn1' := hn1
        have hn0 := Blk.cell hBN (i := 0) rfl
        have hn1 := Blk.cell hBN (i := 1) rfl
        have hn2 := Blk.cell hBN (i := 2) rfl
        go_upto_region 12 with (fail)
        refine wp_world (fun w2 => Round.At w2 p n count under owed ∧ Blk w2 nb 55 [.slice ab lb.length cb, .int .i64 pick] ∧ Blk w2 w1.heap.size 84 [.slice al (Round.owedL o2 n).length cl, .int .i64 u2, .int .i64 c2] ∧
          Owns w2 (w1.heap.size + 1) 3 (.slice al (Round.owedL o2 n).length cl) (Round.ints (Round.owedL o2 n)) ∧ w1.heap.size + 1 ≤ w2.heap.size ∧ Mod [] w w2) ?_ ?_
        · have mZ : Mod [w1.heap.size] wX ((((wX.alloc (.cells #[.slice al (Round.owedL o2 n).length cl, .int .i64 u2, .int .i64 c2] 84 (0, 0))).setCell ⟨w1.heap.size, 0, none⟩ (.slice al (Round.owedL o2 n).length cl)).setCell ⟨w1.heap.size, 1, none⟩ (.int .i64 u2)).setCell ⟨w1.heap.size, 2, none⟩ (.int .i64 c2)) := by
            repeat' (first | (with_reducible exact Mod.refl _ _) | (with_reducible assumption) | (with_reducible refine Mod.drewN ?_ _) | (with_reducible refine Mod.drew ?_) | (with_reducible refine Mod.setCell ?_ ?_ _) | (with_reducible refine Mod.alloc ?_ _) | (simp; done) | (simp; omega))
          refine ⟨hRX.mod mZ (by simp; omega), mZ.blk hBAX (by simp; omega), ?_, (hownL.mod mZ (fun b hb e => by have := (hownL.lt e).1; simp at hb; omega)).base (by omega), Nat.le_trans (by omega) mZ.size, hmX.step mZ (by simp <;> omega)⟩
          have := hBxY
          unfold Blk at *
          simp [World.setCell, Array.getElem?_modify, this]
        rintro w2 ⟨hR2, hB2, hx2, hown2, hsz2, hm2⟩
        clear mY hBxY hBN hy0 hy1 hy2 hfy0 hfy1 hfy2 hn0 hn1 hn2 hownL hRX hBAX hBxX hmX hszX mXX hmA hRA hBxA hszA hrowN HLo HU
        rcases HC.out with hA | hA
        all_goals clear HC
        · obtain ⟨h0, rfl, rfl, rfl⟩ := hA
          have hd : decide (o2 = 0) = true := by simp [h0]
          have hd2 : decide (o2 ≠ 0) = false := by simp [h0]
          have HDZ := hid h0
          refine Lex.region (Box3 nb (.slice ab lb.length cb) (.int .i64 pick) w1.heap.size (.int .i64 (((count + 1) : Nat) : Int))) [.pure, .pure, .pure, .pure, .pure, .loud, .pure, .pure, .pure, .pure, .pure, .loud, .pure, .pure, .pure, .pure] (by kernel_rfl) (by kernel_rfl) ?_ ?_
          · intro m; exact ⟨Blk.cell hB2 (i := 0) rfl, Blk.cell hB2 (i := 1) rfl, Blk.cell hx2 (i := 2) rfl⟩
          iterate 5 (refine Lex.step_pure rfl rfl ?_; go_big_quiet_step ((intro hwS; first | rfl | (simp [hwS.1]; rfl) | (simp [hwS.2.1]; rfl) | (simp [hwS.2.2]; rfl))); refine wpQuiet_nil ?_)
          refine Lex.step_loud rfl (fun wl hwl => ?_)
          obtain ⟨nq, rfl⟩ := hwl
          have hR2' := Round.At.drewN hR2 nq
          have hrow2 := hrow.mod0 (hm2.drewN nq)
          have hm2' := hm2.drewN nq
          have hB2' : Blk (w2.drewN nq) nb _ _ := hB2
          have hx2' : Blk (w2.drewN nq) w1.heap.size _ _ := hx2
          have hown2' : Owns (w2.drewN nq) _ _ _ _ := hown2
          have hsz2' : w1.heap.size + 1 ≤ (w2.drewN nq).heap.size := hsz2
          clear hR2 hm2 hB2 hx2 hown2 hsz2
          go_wp2_with fail
          refine (Round.take_bits ab lb cb p n count under owed pick _ hR2' hrow2 (Nat.le_trans hle hcm) ⟨hn1', hn64⟩ howed (by omega) bp o2 HO2.out).mono ?_
          rintro e wT ⟨rfl, hRT, mT⟩
          rw [hd2, if_pos h0] at hRT
          rw [hd]
          have hBT := mT.blk hB2' (by simp; omega)
          have hxT := mT.blk hx2' (by simp; omega)
          have hownT := hown2'.mod mT (fun b hb e => by have := (hown2'.lt e).1; simp at hb; omega)
          have hmT := hm2'.step mT (by simp <;> omega)
          have hszT := Nat.le_trans hsz2' mT.size
          clear hR2' hrow2 hm2' hB2' hx2' hown2' hsz2' mT hd hd2 h0
          go_wp2_with fail
          refine ⟨rfl, rfl, ⟨Blk.cell hBT (i := 0) rfl, Blk.cell hBT (i := 1) rfl, Blk.cell hxT (i := 2) rfl⟩, ?_⟩
          iterate 5 (refine Lex.step_pure rfl rfl ?_; go_big_quiet_step ((intro hwS; first | rfl | (simp [hwS.1]; rfl) | (simp [hwS.2.1]; rfl) | (simp [hwS.2.2]; rfl))); refine wpQuiet_nil ?_)
          refine Lex.step_loud rfl (fun wl hwl => ?_)
          replace hwl := hwl.symm
          subst hwl
          go_wp2_with fail
          refine (Round.count_ p n ((count + 1)) _ _ _ hRT).mono ?_
          rintro e w4 ⟨rfl, rfl⟩
          go_wp2_with fail
          refine ⟨rfl, rfl, ⟨Blk.cell hBT (i := 0) rfl, Blk.cell hBT (i := 1) rfl, Blk.cell hxT (i := 2) rfl⟩, ?_⟩
          iterate 4 (refine Lex.step_pure rfl rfl ?_; go_big_quiet_step ((intro hwS; first | rfl | (simp [hwS.1]; rfl) | (simp [hwS.2.1]; rfl) | (simp [hwS.2.2]; rfl))); refine wpQuiet_nil ?_)
          refine Lex.step_nil (fun wl hwl => ?_)
          replace hwl := hwl.symm
          subst hwl
          clear hBT
          go_wp2_with fail
          refine (Round.owed_ p n _ _ o2 _ hRT hn64 hlt2).mono ?_
          rintro e wD ⟨vo, rfl, hownO, mD⟩
          obtain ⟨ao, co, rfl, hrowO, hlO, hmO⟩ := owns_ints hownO
          have hRD := hRT.mod mD (by simp)
          have hxD := mD.blk hxT (by simp)
          have hownD := hownT.mod0 mD
          have hmD := hmT.trans mD
          have hszD := Nat.le_trans hszT mD.size
          obtain ⟨aD, cD, hvD, hrowD, hlD, hmDD⟩ := owns_ints hownD
          injection hvD with e1 e2 e3
          subst e1 e3
          have hT := Round.owedL_len o2 n
          have hTt := fun t ht => RefRound.owedL_le o2 n t ht
          clear hRT hxT hownT hmT hszT mD hownO
          have hxc := Blk.cell hxD (i := 0) rfl
          go_wp2_with fail
          go_loopw [77] (fun i wr => ∃ j : Nat, j ≤ (Round.owedL o2 n).length ∧ i = .int .i64 j ∧ Mod [] wD wr) (fun i _ => (Round.owedL o2 n).length - (intOf i).toNat)
          case atStart => exact ⟨0, by omega, rfl, Mod.refl _ _⟩
          case round =>
            obtain ⟨j, hj, rfl, m2⟩ := hrel
            by_cases hjlt : j < (Round.owedL o2 n).length
            · obtain ⟨t, ht⟩ : ∃ t, (Round.owedL o2 n)[j]? = some t := ⟨(Round.owedL o2 n)[j], by simp [hjlt]⟩
              obtain ⟨b6, o6, rfl, ct⟩ := RefRound.row_at hrowO ht
              obtain ⟨b7, o7, rfl, cs⟩ := RefRound.row_at hrowD ht
              have ct' := m2.cell ct (by simp)
              have cs' := m2.cell cs (by simp)
              have hxc' := m2.cell hxc (by simp)
              clear ct cs hxc ht
              go_upto_region 20 with (fail)
              refine wp_region_quiet_lit (by kernel_rfl) (by kernel_rfl) ?_
              repeat (go_big_quiet_step ((fail)))
              refine wpQuiet_nil ?_
              intro _ hw'
              obtain ⟨nq, hw''⟩ := hw'
              subst hw''
              go_wp2
              go_round
              case rel => exact ⟨j + 1, by omega, by go_num, m2.drewN nq⟩
              case measure => simp [intOf]; omega
            · go_wp2
              go_round
              case rel => exact ⟨k + 1, false, o2, count + 1, 0, Round.owedL o2 n, _, by omega, by go_num, hlt2, by omega, hRD.mod m2 (by simp), rfl, (fun _ => rfl), by omega, (fun t ht => by have := hTt t ht; omega), hownD.mod0 m2, m2.blk hxD (by simp), Nat.le_trans hszD m2.size, hmD.trans m2⟩
              case measure => simp [intOf]; omega
        · obtain ⟨h0, rfl, rfl, rfl⟩ := hA
          have hd : decide (o2 = 0) = false := by simp [h0]
          have hd2 : decide (o2 ≠ 0) = true := by simp [h0]
          have HDZ := hid h0
          refine Lex.region (Box3 nb (.slice ab lb.length cb) (.int .i64 pick) w1.heap.size (.int .i64 ((count : Nat) : Int))) [.pure, .pure, .pure, .pure, .pure, .loud, .pure, .pure, .pure, .pure, .pure, .loud, .pure, .pure, .pure, .pure] (by kernel_rfl) (by kernel_rfl) ?_ ?_
          · intro m; exact ⟨Blk.cell hB2 (i := 0) rfl, Blk.cell hB2 (i := 1) rfl, Blk.cell hx2 (i := 2) rfl⟩
          iterate 5 (refine Lex.step_pure rfl rfl ?_; go_big_quiet_step ((intro hwS; first | rfl | (simp [hwS.1]; rfl) | (simp [hwS.2.1]; rfl) | (simp [hwS.2.2]; rfl))); refine wpQuiet_nil ?_)
          refine Lex.step_loud rfl (fun wl hwl => ?_)
          obtain ⟨nq, rfl⟩ := hwl
          have hR2' := Round.At.drewN hR2 nq
          have hrow2 := hrow.mod0 (hm2.drewN nq)
          have hm2' := hm2.drewN nq
          have hB2' : Blk (w2.drewN nq) nb _ _ := hB2
          have hx2' : Blk (w2.drewN nq) w1.heap.size _ _ := hx2
          have hown2' : Owns (w2.drewN nq) _ _ _ _ := hown2
          have hsz2' : w1.heap.size + 1 ≤ (w2.drewN nq).heap.size := hsz2
          clear hR2 hm2 hB2 hx2 hown2 hsz2
          go_wp2_with fail
          refine (Round.take_bits ab lb cb p n count under owed pick _ hR2' hrow2 (Nat.le_trans hle hcm) ⟨hn1', hn64⟩ howed (by omega) bp o2 HO2.out).mono ?_
          rintro e wT ⟨rfl, hRT, mT⟩
          rw [hd2, if_neg h0] at hRT
          rw [hd]
          have hBT := mT.blk hB2' (by simp; omega)
          have hxT := mT.blk hx2' (by simp; omega)
          have hownT := hown2'.mod mT (fun b hb e => by have := (hown2'.lt e).1; simp at hb; omega)
          have hmT := hm2'.step mT (by simp <;> omega)
          have hszT := Nat.le_trans hsz2' mT.size
          clear hR2' hrow2 hm2' hB2' hx2' hown2' hsz2' mT hd hd2 h0
          go_wp2_with fail
          refine ⟨rfl, rfl, ⟨Blk.cell hBT (i := 0) rfl, Blk.cell hBT (i := 1) rfl, Blk.cell hxT (i := 2) rfl⟩, ?_⟩
          iterate 5 (refine Lex.step_pure rfl rfl ?_; go_big_quiet_step ((intro hwS; first | rfl | (simp [hwS.1]; rfl) | (simp [hwS.2.1]; rfl) | (simp [hwS.2.2]; rfl))); refine wpQuiet_nil ?_)
          refine Lex.step_loud rfl (fun wl hwl => ?_)
          replace hwl := hwl.symm
          subst hwl
          go_wp2_with fail
          refine (Round.count_ p n (count) _ _ _ hRT).mono ?_
          rintro e w4 ⟨rfl, rfl⟩
          go_wp2_with fail
          refine ⟨rfl, rfl, ⟨Blk.cell hBT (i := 0) rfl, Blk.cell hBT (i := 1) rfl, Blk.cell hxT (i := 2) rfl⟩, ?_⟩
          iterate 4 (refine Lex.step_pure rfl rfl ?_; go_big_quiet_step ((intro hwS; first | rfl | (simp [hwS.1]; rfl) | (simp [hwS.2.1]; rfl) | (simp [hwS.2.2]; rfl))); refine wpQuiet_nil ?_)
          refine Lex.step_nil (fun wl hwl => ?_)
          replace hwl := hwl.symm
          subst hwl
          clear hBT
          go_wp2_with fail
          refine (Round.owed_ p n _ _ o2 _ hRT hn64 hlt2).mono ?_
          rintro e wD ⟨vo, rfl, hownO, mD⟩
          obtain ⟨ao, co, rfl, hrowO, hlO, hmO⟩ := owns_ints hownO
          have hRD := hRT.mod mD (by simp)
          have hxD := mD.blk hxT (by simp)
          have hownD := hownT.mod0 mD
          have hmD := hmT.trans mD
          have hszD := Nat.le_trans hszT mD.size
          obtain ⟨aD, cD, hvD, hrowD, hlD, hmDD⟩ := owns_ints hownD
          injection hvD with e1 e2 e3
          subst e1 e3
          have hT := Round.owedL_len o2 n
          have hTt := fun t ht => RefRound.owedL_le o2 n t ht
          clear hRT hxT hownT hmT hszT mD hownO
          have hxc := Blk.cell hxD (i := 0) rfl
          go_wp2_with fail
          go_loopw [77] (fun i wr => ∃ j : Nat, j ≤ (Round.owedL o2 n).length ∧ i = .int .i64 j ∧ Mod [] wD wr) (fun i _ => (Round.owedL o2 n).length - (intOf i).toNat)
          case atStart => exact ⟨0, by omega, rfl, Mod.refl _ _⟩
          case round =>
            obtain ⟨j, hj, rfl, m2⟩ := hrel
            by_cases hjlt : j < (Round.owedL o2 n).length
            · obtain ⟨t, ht⟩ : ∃ t, (Round.owedL o2 n)[j]? = some t := ⟨(Round.owedL o2 n)[j], by simp [hjlt]⟩
              obtain ⟨b6, o6, rfl, ct⟩ := RefRound.row_at hrowO ht
              obtain ⟨b7, o7, rfl, cs⟩ := RefRound.row_at hrowD ht
              have ct' := m2.cell ct (by simp)
              have cs' := m2.cell cs (by simp)
              have hxc' := m2.cell hxc (by simp)
              clear ct cs hxc ht
              go_upto_region 20 with (fail)
              refine wp_region_quiet_lit (by kernel_rfl) (by kernel_rfl) ?_
              repeat (go_big_quiet_step ((fail)))
              refine wpQuiet_nil ?_
              intro _ hw'
              obtain ⟨nq, hw''⟩ := hw'
              subst hw''
              go_wp2
              go_round
              case rel => exact ⟨j + 1, by omega, by go_num, m2.drewN nq⟩
              case measure => simp [intOf]; omega
            · go_wp2
              go_round
              case rel => exact ⟨k + 1, true, o2, count, 1, Round.owedL o2 n, _, by omega, by go_num, hlt2, by omega, hRD.mod m2 (by simp), rfl, (fun _ => rfl), by omega, (fun t ht => by have := hTt t ht; omega), hownD.mod0 m2, m2.blk hxD (by simp), Nat.le_trans hszD m2.size, hmD.trans m2⟩
              case measure => simp [intOf]; omega
    · go_wp2_with fail
      refine (Round.awake26 _).mono ?_
      rintro e w3 ⟨rfl, m3⟩
      go_wp2
      go_ret
      exact ⟨rfl, hm.trans m3⟩

theorem law_RoundPlays (w : World) (v0 v1 : Value) (x0 : Int) (x1 : List (List Bool × Int × Unit)) (h0 : Sh.Arg w (.int .i64) x0 v0) (h1 : Sh.Arg w (.row toldSh) x1 v1) :
    Calls Try.prog 11 #[v0, v1] w fun e w' => e = .returned (.bool true) ∧ Mod [] w w' := by
  obtain ⟨rfl, hw0⟩ := h0
  obtain ⟨a, cap, rfl, hz, hle, hcm⟩ := arg_told h1
  by_cases h100 : x1.length ≤ 100
  · exact plays_few a x1 cap x0 w hz h100
  · exact plays_many a x1.length cap x0 w (by omega) (by omega)

end Go.Proofs.Ytlhbfkncdcgocaa
