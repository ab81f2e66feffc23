/- pool: PoolWhole, on the blocks: all come back. -/
import Derived.Test.YtekhadlpcdjlpaaPh
namespace Go.Proofs.Ytekhadlpcdjlpaa
namespace Px
open Go Abs Code
set_option linter.unusedVariables false
set_option linter.unusedSimpArgs false
set_option maxRecDepth 100000

/-- Of the first c those that did not come back yet. -/
def notYet (c : Nat) (seen : List Nat) : List Nat := (List.range c).filter fun j => !seen.contains j
def outOf (k c : Nat) (seen : List Nat) : List (Nat × Nat) := (notYet c seen).map fun j => (j + 1, j / k + 1)
def enOf1 (j : Nat) : MapEntry := ⟨.int .u32 ((j + 1 : Nat) : Int), .int .i64 1, j⟩

theorem left_had (c : Nat) (seen : List Nat) : MIS.left ⟨hadE c, c, seen⟩ = (notYet c seen).map enOf1 := by
  unfold MIS.left hadE notYet
  rw [List.filter_map]
  rfl

theorem notYet_s (c : Nat) (seen : List Nat) (j : Nat) : notYet c (seen ++ [j]) = (notYet c seen).filter fun x => x != j := by
  unfold notYet
  rw [List.filter_filter]
  refine List.filter_congr fun x _ => ?_
  by_cases h : x = j
  · subst h; simp
  · by_cases h2 : x ∈ seen <;> simp [h, h2]

theorem notYet_lt {c : Nat} {seen : List Nat} {j : Nat} (h : j ∈ notYet c seen) : (notYet c (seen ++ [j])).length < (notYet c seen).length := by
  rw [notYet_s]
  refine List.length_filter_lt_length_iff_exists.2 ⟨j, h, by simp⟩

theorem look_out {k c : Nat} {seen : List Nat} {j : Nat} (h : j ∈ notYet c seen) : lookP (outOf k c seen) (j + 1) ≠ 0 := by
  unfold lookP
  cases hf : (outOf k c seen).find? (fun x => x.1 == j + 1) with
  | none =>
    have := List.find?_eq_none.1 hf (j + 1, j / k + 1) (List.mem_map.2 ⟨j, h, rfl⟩)
    simp at this
  | some x =>
    obtain ⟨i, _, rfl⟩ := List.mem_map.1 (List.mem_of_find?_eq_some hf)
    simp

theorem out_s (k c : Nat) (seen : List Nat) (j : Nat) : (outOf k c seen).filter (fun x => x.1 != j + 1) = outOf k c (seen ++ [j]) := by
  unfold outOf
  rw [notYet_s, List.filter_map]
  congr 1
  refine List.filter_congr fun x _ => ?_
  by_cases h : x = j
  · subst h; simp
  · simp [h]

def wT2 : List (Nat × Value) := [(7, .pointer (some ⟨0, 0, none⟩)), (108, .pointer (some ⟨2, 0, none⟩))]
def wH2 (c : Nat) (s : PS × List Nat) : AH := [poolB s.1, .dead, miB ⟨hadE c, c, s.2⟩]
theorem wH2_ok (c : Nat) (s : PS × List Nat) : AOK (wH2 c s) := AOK.of ⟨trivial, trivial, trivial, trivial⟩

set_option maxHeartbeats 4000000 in
theorem loop11c (k c : Nat) (hc : c ≤ 512) (s0 : PS × List Nat) (hs0 : s0.1.out = outOf k c s0.2) (T0 : T) (h : AH) (Q : AExit → T → AH → Prop)
    (h0 : atHeadV 0 123 wT2 (wH2 c s0) T0 h)
    (hQ : ∀ s : PS × List Nat, s.1.out = [] → Q (.exit 4) (mkT 123 ((110, .bool false) :: (109, .tuple #[.bool false]) :: wT2)) (wH2 c s)) : ALoop Try.prog 0 lp11_2 T0 h Q := by
  refine loop3 hmix 123 (fun s => s.1.out = outOf k c s.2) (fun s => (notYet c s.2).length) (fun _ => wT2) (wH2 c) s0 hs0 h0 ?_
  rintro ⟨s, seen⟩ hs
  simp only at hs
  simp (maxSteps := 2000000) (implicitDefEqProofs := false) [DN, NB, begT, atHead, kd, wantedA, evP, evR, evF, evL, evC, evI, evBin, evUn, evEq, evSt, evRes, plain, scp, scpA, scpL, rdRow, rdCells, veq, veqA, veqL, isHole, Value.cells, evalL, optI, evBounds, evFill, evFillR, evApp, newsOf, wrCells, one1, fitsApp, evClr, undef, onB_bool, List.getElem?_concat_length, List.getElem?_cons_zero, List.getElem?_cons_succ, List.getElem?_toArray, List.getElem?_nil, List.set_cons_zero, List.set_cons_succ, List.cons_append, List.nil_append, -getElem?_pos, -getElem?_neg, wT2, wH2, lp11_2]
  refine nextK (b := 2) (s := ⟨hadE c, c, seen⟩) rfl ?_ ?_
  · intro e he
    rw [left_had] at he
    obtain ⟨j, hj, rfl⟩ := List.mem_map.1 he
    have hjc : j < c := List.mem_range.1 (List.mem_filter.1 hj).1
    have hl := look_out (k := k) hj
    rw [← hs] at hl
    have hfe : freeE s (j + 1) = 0 := by unfold freeE; rw [if_neg (by omega), if_neg hl]
    have hfo : (freeS s (j + 1)).out = outOf k c (seen ++ [j]) := by
      unfold freeS
      rw [if_neg (by simp [hl]), ← out_s, ← hs]
    have hmem : enOf1 j ∈ hadE c := List.mem_map.2 ⟨j, List.mem_range.2 hjc, rfl⟩
    have hlt := notYet_lt hj
    obtain ⟨x, hx⟩ : ∃ x, j + 1 = x := ⟨_, rfl⟩
    have hek : (enOf1 j).key = .int .u32 (x : Nat) := by unfold enOf1; rw [hx]
    have hev : (enOf1 j).val = .int .i64 1 := rfl
    have heb : (enOf1 j).born = j := rfl
    rw [hx] at hfe hfo
    rw [hek, hev, heb]
    simp (maxSteps := 2000000) (implicitDefEqProofs := false) [DN, NB, begT, atHead, kd, wantedA, evP, evR, evF, evL, evC, evI, evBin, evUn, evEq, evSt, evRes, plain, scp, scpA, scpL, rdRow, rdCells, veq, veqA, veqL, isHole, Value.cells, evalL, optI, evBounds, evFill, evFillR, evApp, newsOf, wrCells, one1, fitsApp, evClr, undef, onB_bool, List.getElem?_concat_length, List.getElem?_cons_zero, List.getElem?_cons_succ, List.getElem?_toArray, List.getElem?_nil, List.set_cons_zero, List.set_cons_succ, List.cons_append, List.nil_append, -getElem?_pos, -getElem?_neg]
    refine entryK (b := 2) (s := ⟨hadE c, c, seen⟩) (sn := seen) (e := enOf1 j) rfl hmem ?_
    rw [hek, hev]
    simp (maxSteps := 2000000) (implicitDefEqProofs := false) [DN, NB, begT, atHead, kd, wantedA, evP, evR, evF, evL, evC, evI, evBin, evUn, evEq, evSt, evRes, plain, scp, scpA, scpL, rdRow, rdCells, veq, veqA, veqL, isHole, Value.cells, evalL, optI, evBounds, evFill, evFillR, evApp, newsOf, wrCells, one1, fitsApp, evClr, undef, onB_bool, List.getElem?_concat_length, List.getElem?_cons_zero, List.getElem?_cons_succ, List.getElem?_toArray, List.getElem?_nil, List.set_cons_zero, List.set_cons_succ, List.cons_append, List.nil_append, -getElem?_pos, -getElem?_neg]
    refine freeG (s := s) x (by omega) rfl ?_
    rw [hfe]
    simp (maxSteps := 2000000) (implicitDefEqProofs := false) [DN, NB, begT, atHead, kd, wantedA, evP, evR, evF, evL, evC, evI, evBin, evUn, evEq, evSt, evRes, plain, scp, scpA, scpL, rdRow, rdCells, veq, veqA, veqL, isHole, Value.cells, evalL, optI, evBounds, evFill, evFillR, evApp, newsOf, wrCells, one1, fitsApp, evClr, undef, onB_bool, List.getElem?_concat_length, List.getElem?_cons_zero, List.getElem?_cons_succ, List.getElem?_toArray, List.getElem?_nil, List.set_cons_zero, List.set_cons_succ, List.cons_append, List.nil_append, -getElem?_pos, -getElem?_neg]
    refine nextS.intro (freeS s x, seen ++ [j]) hlt hfo ?_
    refine headId (fun _ _ hk => hk) (wH2_ok c _) (fun b hb => by omega) (by simp) rfl fun y' hy => ?_
    simp only [wT2, List.mem_cons, List.not_mem_nil, or_false] at hy
    rcases hy with rfl | rfl <;> exact ⟨(by simp [GB]), by simp [scp, live, wH2]⟩
  · intro hnil
    rw [left_had] at hnil
    have hs2 : s.out = [] := by
      rw [hs]
      unfold outOf
      rw [List.map_eq_nil_iff.1 hnil]
      rfl
    have hq := hQ (s, seen) hs2
    simp (maxSteps := 2000000) (implicitDefEqProofs := false) [DN, NB, begT, atHead, kd, wantedA, evP, evR, evF, evL, evC, evI, evBin, evUn, evEq, evSt, evRes, plain, scp, scpA, scpL, rdRow, rdCells, veq, veqA, veqL, isHole, Value.cells, evalL, optI, evBounds, evFill, evFillR, evApp, newsOf, wrCells, one1, fitsApp, evClr, undef, onB_bool, List.getElem?_concat_length, List.getElem?_cons_zero, List.getElem?_cons_succ, List.getElem?_toArray, List.getElem?_nil, List.set_cons_zero, List.set_cons_succ, List.cons_append, List.nil_append, -getElem?_pos, -getElem?_neg, wT2, wH2] at hq
    simp (maxSteps := 2000000) (implicitDefEqProofs := false) [DN, NB, begT, atHead, kd, wantedA, evP, evR, evF, evL, evC, evI, evBin, evUn, evEq, evSt, evRes, plain, scp, scpA, scpL, rdRow, rdCells, veq, veqA, veqL, isHole, Value.cells, evalL, optI, evBounds, evFill, evFillR, evApp, newsOf, wrCells, one1, fitsApp, evClr, undef, onB_bool, List.getElem?_concat_length, List.getElem?_cons_zero, List.getElem?_cons_succ, List.getElem?_toArray, List.getElem?_nil, List.set_cons_zero, List.set_cons_succ, List.cons_append, List.nil_append, -getElem?_pos, -getElem?_neg]
    exact hq

set_option maxHeartbeats 4000000 in
theorem whole_ (x0 x1 : Int) (a0 : 0 ≤ x0) (a1 : x0 ≤ 255) (b0 : 0 ≤ x1) (b1 : x1 ≤ 255) : AC Try.prog 11 [.int .u8 x0, .int .u8 x1] [] (fun v _ => v = .bool true) := by
  refine entry hmix cf11 ?_
  obtain ⟨n, hn, en⟩ := rem_nat x0 64 (by omega) a0 a1
  obtain ⟨k, hk, ek⟩ := rem_nat x1 9 (by omega) b0 b1
  have en : x0.tmod 64 = (n : Int) := en
  have ek : x1.tmod 9 = (k : Int) := ek
  have w0 : IntKind.i64.wrap x0 = x0 := IntWalk.i64_in _ (by omega)
  have w1 : IntKind.i64.wrap x1 = x1 := IntWalk.i64_in _ (by omega)
  have w2 : IntKind.i64.wrap (k : Int) = k := IntWalk.i64_in _ (by omega)
  have w3 : IntKind.i64.wrap (n : Int) = n := IntWalk.i64_in _ (by omega)
  have w4 : IntKind.i64.wrap (1 + (n : Int)) = ((n + 1 : Nat) : Int) := by rw [IntWalk.i64_in _ (by omega)]; omega
  obtain ⟨N, hN⟩ : ∃ N, n + 1 = N := ⟨_, rfl⟩
  rw [hN] at w4
  have hml : N * k ≤ 512 := Nat.le_trans (Nat.mul_le_mul (show N ≤ 64 by omega) (show k ≤ 8 by omega)) (by omega)
  obtain ⟨c, hc⟩ : ∃ c, N * k = c := ⟨_, rfl⟩
  have hmul : (N : Int) * k = c := by rw [← hc]; push_cast; rfl
  have w5 : IntKind.i64.wrap (c : Int) = c := IntWalk.i64_in _ (by omega)
  simp (maxSteps := 2000000) (implicitDefEqProofs := false) [DN, NB, begT, atHead, kd, wantedA, evP, evR, evF, evL, evC, evI, evBin, evUn, evEq, evSt, evRes, plain, scp, scpA, scpL, rdRow, rdCells, veq, veqA, veqL, isHole, Value.cells, evalL, optI, evBounds, evFill, evFillR, evApp, newsOf, wrCells, one1, fitsApp, evClr, undef, onB_bool, List.getElem?_concat_length, List.getElem?_cons_zero, List.getElem?_cons_succ, List.getElem?_toArray, List.getElem?_nil, List.set_cons_zero, List.set_cons_succ, List.cons_append, List.nil_append, -getElem?_pos, -getElem?_neg, ek, en, w0, w1, w2, w3, w4]
  refine pnewG (n := N) (each := k) (by omega) (by omega) (by omega) ?_
  rw [w_new]
  simp (maxSteps := 2000000) (implicitDefEqProofs := false) [DN, NB, begT, atHead, kd, wantedA, evP, evR, evF, evL, evC, evI, evBin, evUn, evEq, evSt, evRes, plain, scp, scpA, scpL, rdRow, rdCells, veq, veqA, veqL, isHole, Value.cells, evalL, optI, evBounds, evFill, evFillR, evApp, newsOf, wrCells, one1, fitsApp, evClr, undef, onB_bool, List.getElem?_concat_length, List.getElem?_cons_zero, List.getElem?_cons_succ, List.getElem?_toArray, List.getElem?_nil, List.set_cons_zero, List.set_cons_succ, List.cons_append, List.nil_append, -getElem?_pos, -getElem?_neg]
  refine loop11a N k (by omega) (by omega) _ _ _ ?_ ?_
  · rw [Nat.zero_mul]
    refine headId (fun _ _ hk => hk) (wH_ok N k 0) (fun b hb => by omega) (by simp) rfl fun y' hy => ?_
    simp only [wT, List.mem_cons, List.not_mem_nil, or_false] at hy
    rcases hy with rfl | rfl | rfl | rfl | rfl | rfl <;> exact ⟨(by simp [GB]), by simp [scp, live, wH, hadB]⟩
  rw [hc]
  have hlen : (wS N k c).out.length = c := by simp [wS]
  simp (maxSteps := 2000000) (implicitDefEqProofs := false) [DN, NB, begT, atHead, kd, wantedA, evP, evR, evF, evL, evC, evI, evBin, evUn, evEq, evSt, evRes, plain, scp, scpA, scpL, rdRow, rdCells, veq, veqA, veqL, isHole, Value.cells, evalL, optI, evBounds, evFill, evFillR, evApp, newsOf, wrCells, one1, fitsApp, evClr, undef, onB_bool, List.getElem?_concat_length, List.getElem?_cons_zero, List.getElem?_cons_succ, List.getElem?_toArray, List.getElem?_nil, List.set_cons_zero, List.set_cons_succ, List.cons_append, List.nil_append, -getElem?_pos, -getElem?_neg, wT, wH]
  refine totalG (s := wS N k c) rfl ?_
  rw [hlen]
  simp (maxSteps := 2000000) (implicitDefEqProofs := false) [DN, NB, begT, atHead, kd, wantedA, evP, evR, evF, evL, evC, evI, evBin, evUn, evEq, evSt, evRes, plain, scp, scpA, scpL, rdRow, rdCells, veq, veqA, veqL, isHole, Value.cells, evalL, optI, evBounds, evFill, evFillR, evApp, newsOf, wrCells, one1, fitsApp, evClr, undef, onB_bool, List.getElem?_concat_length, List.getElem?_cons_zero, List.getElem?_cons_succ, List.getElem?_toArray, List.getElem?_nil, List.set_cons_zero, List.set_cons_succ, List.cons_append, List.nil_append, -getElem?_pos, -getElem?_neg, hmul, w5]
  refine rangeK (b := 1) (es := hadE c) (clock := c) rfl (had_good c) ?_
  simp (maxSteps := 2000000) (implicitDefEqProofs := false) [DN, NB, begT, atHead, kd, wantedA, evP, evR, evF, evL, evC, evI, evBin, evUn, evEq, evSt, evRes, plain, scp, scpA, scpL, rdRow, rdCells, veq, veqA, veqL, isHole, Value.cells, evalL, optI, evBounds, evFill, evFillR, evApp, newsOf, wrCells, one1, fitsApp, evClr, undef, onB_bool, List.getElem?_concat_length, List.getElem?_cons_zero, List.getElem?_cons_succ, List.getElem?_toArray, List.getElem?_nil, List.set_cons_zero, List.set_cons_succ, List.cons_append, List.nil_append, -getElem?_pos, -getElem?_neg]
  refine loop11c k c (by omega) (wS N k c, []) ?_ _ _ _ ?_ ?_
  · show (List.range c).map _ = outOf k c []
    unfold outOf notYet
    rw [List.filter_eq_self.2 (by simp)]
  · refine headId (fun _ _ hk => hk) (wH2_ok c _) (fun b hb => by omega) (by simp [wH2]) rfl fun y' hy => ?_
    simp only [wT2, List.mem_cons, List.not_mem_nil, or_false] at hy
    rcases hy with rfl | rfl <;> exact ⟨(by simp [GB]), by simp [scp, live, wH2]⟩
  rintro ⟨s, seen⟩ hs
  simp only at hs
  have hl0 : s.out.length = 0 := by rw [hs]; rfl
  simp (maxSteps := 2000000) (implicitDefEqProofs := false) [DN, NB, begT, atHead, kd, wantedA, evP, evR, evF, evL, evC, evI, evBin, evUn, evEq, evSt, evRes, plain, scp, scpA, scpL, rdRow, rdCells, veq, veqA, veqL, isHole, Value.cells, evalL, optI, evBounds, evFill, evFillR, evApp, newsOf, wrCells, one1, fitsApp, evClr, undef, onB_bool, List.getElem?_concat_length, List.getElem?_cons_zero, List.getElem?_cons_succ, List.getElem?_toArray, List.getElem?_nil, List.set_cons_zero, List.set_cons_succ, List.cons_append, List.nil_append, -getElem?_pos, -getElem?_neg, wT2, wH2]
  refine totalG (s := s) rfl ?_
  rw [hl0]
  simp (maxSteps := 2000000) (implicitDefEqProofs := false) [DN, NB, begT, atHead, kd, wantedA, evP, evR, evF, evL, evC, evI, evBin, evUn, evEq, evSt, evRes, plain, scp, scpA, scpL, rdRow, rdCells, veq, veqA, veqL, isHole, Value.cells, evalL, optI, evBounds, evFill, evFillR, evApp, newsOf, wrCells, one1, fitsApp, evClr, undef, onB_bool, List.getElem?_concat_length, List.getElem?_cons_zero, List.getElem?_cons_succ, List.getElem?_toArray, List.getElem?_nil, List.set_cons_zero, List.set_cons_succ, List.cons_append, List.nil_append, -getElem?_pos, -getElem?_neg]
  refine awakeK _ _ fun h' => ?_
  simp (maxSteps := 2000000) (implicitDefEqProofs := false) [DN, NB, begT, atHead, kd, wantedA, evP, evR, evF, evL, evC, evI, evBin, evUn, evEq, evSt, evRes, plain, scp, scpA, scpL, rdRow, rdCells, veq, veqA, veqL, isHole, Value.cells, evalL, optI, evBounds, evFill, evFillR, evApp, newsOf, wrCells, one1, fitsApp, evClr, undef, onB_bool, List.getElem?_concat_length, List.getElem?_cons_zero, List.getElem?_cons_succ, List.getElem?_toArray, List.getElem?_nil, List.set_cons_zero, List.set_cons_succ, List.cons_append, List.nil_append, -getElem?_pos, -getElem?_neg]

end Px
end Go.Proofs.Ytekhadlpcdjlpaa
