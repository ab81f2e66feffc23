/- pool: PoolStale, on the blocks. -/
import Derived.Test.YtekhadlpcdjlpaaPk
namespace Go.Proofs.Ytekhadlpcdjlpaa
namespace Px
open Go Abs Code
set_option linter.unusedVariables false
set_option linter.unusedSimpArgs false
set_option maxRecDepth 100000

theorem ordTakeE {k i : Nat} {E : AH} (hk : 1 ≤ k) {K : Value → AH → Prop} (hK : K (.tuple #[.int .u32 (ordX k i : Nat), .int .i64 0]) (poolB (ordM k i) :: E)) : AC Try.prog 41 [.pointer (some ⟨0, 0, none⟩), .int .i64 0] (poolB (ordS k i) :: E) K := by
  refine takeG (s := ordS k i) 0 rfl ?_
  have e1 : takeH (ordS k i) 0 = ordX k i := by unfold takeH ordS; rw [ordR_cons hk]; rfl
  have e2 : takeS (ordS k i) 0 = ordM k i := by unfold takeS ordS ordM; rw [ordR_cons hk]; rfl
  rw [e1, e2]
  exact hK

theorem ordFreeE {k i : Nat} {E : AH} (hk : 1 ≤ k) (h8 : k ≤ 8) (hi : i < 1000) {K : Value → AH → Prop} (hK : K (.int .i64 0) (poolB (ordS k (i + 1)) :: E)) : AC Try.prog 45 [.pointer (some ⟨0, 0, none⟩), .int .u32 (ordX k i : Nat)] (poolB (ordM k i) :: E) K := by
  refine freeG (s := ordM k i) (ordX k i) (ordX_lt hk h8 hi) rfl ?_
  have e0 : ordX k i ≠ 0 := by unfold ordX hOf; omega
  have el : lookP (ordM k i).out (ordX k i) = 1 := look_one _
  have e1 : freeE (ordM k i) (ordX k i) = 0 := by unfold freeE; rw [if_neg e0, el]; rfl
  have e2 : freeS (ordM k i) (ordX k i) = ordS k (i + 1) := by
    unfold freeS
    rw [el, if_neg (by simp [e0])]
    simp [ordM, ordS, ordX_next hk h8 hi, ordR_next hk]
  rw [e1, e2]
  exact hK

/-- The handles that came back. -/
def olds (k i : Nat) : List Nat := (List.range i).map (ordX k)
def oldV (i : Nat) : Value := if i = 0 then .slice none 0 0 else .slice (some ⟨1, 0, none⟩) i (OPEN + i)
def oldB (k i : Nat) : AH := if i = 0 then [] else [.cells (words (nats (olds k i))) 35 (some 1)]
def stT (k n i : Nat) : List (Nat × Value) := [(6, .pointer (some ⟨0, 0, none⟩)), (8, oldV i), (30, .int .i64 n), (31, .int .i64 i)]
def stH (k i : Nat) : AH := poolB (ordS k i) :: oldB k i

theorem olds_s (k i : Nat) : nats (olds k (i + 1)) = nats (olds k i) ++ [(ordX k i : Int)] := by simp [nats, olds, List.range_succ]
theorem olds_length (k i : Nat) : (nats (olds k i)).length = i := by simp [nats, olds]
theorem words_app (l : List Int) (x : Int) : words (l ++ [x]) = words l ++ [.int .u32 x] := by simp [words]
theorem stH_ok (k i : Nat) : AOK (stH k i) := by
  unfold stH oldB
  split
  · exact AOK.of ⟨trivial, trivial⟩
  · exact AOK.of ⟨trivial, scp_noNames (words_noNames _ _ _) _, trivial⟩

set_option maxHeartbeats 4000000 in
theorem loop10a (k n : Nat) (hk : 1 ≤ k) (h8 : k ≤ 8) (hn : n ≤ 200) (T0 : T) (h : AH) (Q : AExit → T → AH → Prop)
    (h0 : atHeadV 0 82 (stT k n 0) (stH k 0) T0 h)
    (hQ : Q (.exit 0) (mkT 82 ((32, .bool false) :: stT k n n)) (stH k n)) : ALoop Try.prog 0 lp10_0 T0 h Q := by
  refine loop3 hmix 82 (fun i => i ≤ n) (fun i => n - i) (stT k n) (stH k) 0 (Nat.zero_le _) h0 ?_
  intro i hi
  by_cases hlt : i < n
  case neg =>
    obtain rfl : i = n := by omega
    simp (maxSteps := 2000000) (implicitDefEqProofs := false) [DN, NB, begT, atHead, kd, wantedA, evP, evR, evF, evL, evC, evBin, evUn, evEq, evSt, evRes, plain, scp, scpA, scpL, rdRow, rdCells, veq, veqA, veqL, isHole, Value.cells, evalL, optI, evBounds, evFill, evFillR, evApp, newsOf, wrCells, one1, fitsApp, evClr, undef, onB_bool, List.getElem?_concat_length, List.getElem?_cons_zero, List.getElem?_cons_succ, List.getElem?_toArray, List.getElem?_nil, List.set_cons_zero, List.set_cons_succ, List.cons_append, List.nil_append, -getElem?_pos, -getElem?_neg, stT] at hQ
    simp (maxSteps := 2000000) (implicitDefEqProofs := false) [DN, NB, begT, atHead, kd, wantedA, evP, evR, evF, evL, evC, evBin, evUn, evEq, evSt, evRes, plain, scp, scpA, scpL, rdRow, rdCells, veq, veqA, veqL, isHole, Value.cells, evalL, optI, evBounds, evFill, evFillR, evApp, newsOf, wrCells, one1, fitsApp, evClr, undef, onB_bool, List.getElem?_concat_length, List.getElem?_cons_zero, List.getElem?_cons_succ, List.getElem?_toArray, List.getElem?_nil, List.set_cons_zero, List.set_cons_succ, List.cons_append, List.nil_append, -getElem?_pos, -getElem?_neg, stT, lp10_0]
    exact hQ
  have hlt' : (i : Int) < n := by omega
  have hx0 : ordX k i ≠ 0 := by unfold ordX hOf; omega
  have hx0' : ¬ (ordX k i : Int) = 0 := by omega
  cases i with
  | zero =>
    have hwr1 : IntKind.i64.wrap 1 = 1 := rfl
    simp (maxSteps := 2000000) (implicitDefEqProofs := false) [DN, NB, begT, atHead, kd, wantedA, evP, evR, evF, evL, evC, evBin, evUn, evEq, evSt, evRes, plain, scp, scpA, scpL, rdRow, rdCells, veq, veqA, veqL, isHole, Value.cells, evalL, optI, evBounds, evFill, evFillR, evApp, newsOf, wrCells, one1, fitsApp, evClr, undef, onB_bool, List.getElem?_concat_length, List.getElem?_cons_zero, List.getElem?_cons_succ, List.getElem?_toArray, List.getElem?_nil, List.set_cons_zero, List.set_cons_succ, List.cons_append, List.nil_append, -getElem?_pos, -getElem?_neg, stT, stH, lp10_0, hlt, oldB, oldV]
    refine ordTakeE hk ?_
    simp (maxSteps := 2000000) (implicitDefEqProofs := false) [DN, NB, begT, atHead, kd, wantedA, evP, evR, evF, evL, evC, evBin, evUn, evEq, evSt, evRes, plain, scp, scpA, scpL, rdRow, rdCells, veq, veqA, veqL, isHole, Value.cells, evalL, optI, evBounds, evFill, evFillR, evApp, newsOf, wrCells, one1, fitsApp, evClr, undef, onB_bool, List.getElem?_concat_length, List.getElem?_cons_zero, List.getElem?_cons_succ, List.getElem?_toArray, List.getElem?_nil, List.set_cons_zero, List.set_cons_succ, List.cons_append, List.nil_append, -getElem?_pos, -getElem?_neg, hx0]
    refine ordFreeE hk h8 (by omega) ?_
    simp (maxSteps := 2000000) (implicitDefEqProofs := false) [DN, NB, begT, atHead, kd, wantedA, evP, evR, evF, evL, evC, evBin, evUn, evEq, evSt, evRes, plain, scp, scpA, scpL, rdRow, rdCells, veq, veqA, veqL, isHole, Value.cells, evalL, optI, evBounds, evFill, evFillR, evApp, newsOf, wrCells, one1, fitsApp, evClr, undef, onB_bool, List.getElem?_concat_length, List.getElem?_cons_zero, List.getElem?_cons_succ, List.getElem?_toArray, List.getElem?_nil, List.set_cons_zero, List.set_cons_succ, List.cons_append, List.nil_append, -getElem?_pos, -getElem?_neg, hwr1]
    refine nextS.intro 1 (by omega) (by omega) ?_
    refine headK [0, 2] ?_ (by simp) (stH_ok k 1) (fun b hb => by omega) (by simp) rfl fun y' hy => ?_
    · refine ⟨?_, ?_, trivial⟩
      · simp [renB, nthD, nth]
      · simp [renB, nthD, nth, words, nats, olds, List.range_succ, ren]
    simp only [stT, List.mem_cons, List.not_mem_nil, or_false] at hy
    rcases hy with rfl | rfl | rfl | rfl <;> refine ⟨by simp [GB, ren, renA, nthD, nth, oldV], ?_⟩
    all_goals simp [scp, oldV, live, stH, oldB]
  | succ i =>
    have hwl : (words (nats (olds k (i + 1)))).length = i + 1 := by rw [words_length, olds_length]
    have hpt : List.take (i + 1) (words (nats (olds k (i + 1)))) = words (nats (olds k (i + 1))) := List.take_of_length_le (by omega)
    have hf1 : i ≤ 4294967294 := by omega
    have hf2 : (i + 1 + 1) * 4 ≤ 140737488355328 := by omega
    have hno : ¬ OPEN + (i + 1) < OPEN := by omega
    have hcl : i + 1 < i + 1 + 1 := by omega
    have hlt2 : (i : Int) + 1 < n := by omega
    have hwr2 : IntKind.i64.wrap ((i : Int) + 1 + 1) = (i : Int) + 1 + 1 := IntWalk.i64_in _ (by omega)
    simp (maxSteps := 2000000) (implicitDefEqProofs := false) [DN, NB, begT, atHead, kd, wantedA, evP, evR, evF, evL, evC, evBin, evUn, evEq, evSt, evRes, plain, scp, scpA, scpL, rdRow, rdCells, veq, veqA, veqL, isHole, Value.cells, evalL, optI, evBounds, evFill, evFillR, evApp, newsOf, wrCells, one1, fitsApp, evClr, undef, onB_bool, List.getElem?_concat_length, List.getElem?_cons_zero, List.getElem?_cons_succ, List.getElem?_toArray, List.getElem?_nil, List.set_cons_zero, List.set_cons_succ, List.cons_append, List.nil_append, -getElem?_pos, -getElem?_neg, stT, stH, lp10_0, hlt2, oldB, oldV]
    refine ordTakeE hk ?_
    simp (maxSteps := 2000000) (implicitDefEqProofs := false) [DN, NB, begT, atHead, kd, wantedA, evP, evR, evF, evL, evC, evBin, evUn, evEq, evSt, evRes, plain, scp, scpA, scpL, rdRow, rdCells, veq, veqA, veqL, isHole, Value.cells, evalL, optI, evBounds, evFill, evFillR, evApp, newsOf, wrCells, one1, fitsApp, evClr, undef, onB_bool, List.getElem?_concat_length, List.getElem?_cons_zero, List.getElem?_cons_succ, List.getElem?_toArray, List.getElem?_nil, List.set_cons_zero, List.set_cons_succ, List.cons_append, List.nil_append, -getElem?_pos, -getElem?_neg, hx0]
    refine ordFreeE hk h8 (by omega) ?_
    simp (maxSteps := 2000000) (implicitDefEqProofs := false) [DN, NB, begT, atHead, kd, wantedA, evP, evR, evF, evL, evC, evBin, evUn, evEq, evSt, evRes, plain, scp, scpA, scpL, rdRow, rdCells, veq, veqA, veqL, isHole, Value.cells, evalL, optI, evBounds, evFill, evFillR, evApp, newsOf, wrCells, one1, fitsApp, evClr, undef, onB_bool, List.getElem?_concat_length, List.getElem?_cons_zero, List.getElem?_cons_succ, List.getElem?_toArray, List.getElem?_nil, List.set_cons_zero, List.set_cons_succ, List.cons_append, List.nil_append, -getElem?_pos, -getElem?_neg, hwl, capLow_open, hpt, hf1, hf2, hno, hcl, hwr2]
    refine nextS.intro (i + 2) (by omega) (by omega) ?_
    refine headK [0, 3] ?_ (by simp) (stH_ok k (i + 2)) (fun b hb => by omega) (by simp [stH, oldB]) rfl fun y' hy => ?_
    · refine ⟨?_, ?_, trivial⟩
      · simp [renB, nthD, nth]
      · simp only [nth_0, nth_s, List.getElem?_cons_succ, List.getElem?_cons_zero, renB, words_ren]
        rw [olds_s k (i + 1), words_app]
    simp only [stT, List.mem_cons, List.not_mem_nil, or_false] at hy
    rcases hy with rfl | rfl | rfl | rfl <;> refine ⟨by simp [GB, ren, renA, nthD, nth, oldV] <;> omega, ?_⟩
    all_goals simp [scp, oldV, live, stH, oldB]

def st2T (n j : Nat) : List (Nat × Value) := [(6, .pointer (some ⟨0, 0, none⟩)), (55, oldV n), (56, .int .i64 n), (57, .int .i64 j)]

set_option maxHeartbeats 4000000 in
theorem loop10b (k n : Nat) (hk : 1 ≤ k) (h8 : k ≤ 8) (hn : n ≤ 200) (T0 : T) (h : AH) (Q : AExit → T → AH → Prop)
    (h0 : atHeadV 0 82 (st2T n 0) (stH k n) T0 h)
    (hQ : Q (.exit 2) (mkT 82 ((58, .bool false) :: st2T n n)) (stH k n)) : ALoop Try.prog 0 lp10_1 T0 h Q := by
  refine loop3 hmix 82 (fun j => j ≤ n) (fun j => n - j) (st2T n) (fun _ => stH k n) 0 (Nat.zero_le _) h0 ?_
  intro j hj
  by_cases hlt : j < n
  case neg =>
    obtain rfl : j = n := by omega
    simp (maxSteps := 2000000) (implicitDefEqProofs := false) [DN, NB, begT, atHead, kd, wantedA, evP, evR, evF, evL, evC, evBin, evUn, evEq, evSt, evRes, plain, scp, scpA, scpL, rdRow, rdCells, veq, veqA, veqL, isHole, Value.cells, evalL, optI, evBounds, evFill, evFillR, evApp, newsOf, wrCells, one1, fitsApp, evClr, undef, onB_bool, List.getElem?_concat_length, List.getElem?_cons_zero, List.getElem?_cons_succ, List.getElem?_toArray, List.getElem?_nil, List.set_cons_zero, List.set_cons_succ, List.cons_append, List.nil_append, -getElem?_pos, -getElem?_neg, st2T] at hQ
    simp (maxSteps := 2000000) (implicitDefEqProofs := false) [DN, NB, begT, atHead, kd, wantedA, evP, evR, evF, evL, evC, evBin, evUn, evEq, evSt, evRes, plain, scp, scpA, scpL, rdRow, rdCells, veq, veqA, veqL, isHole, Value.cells, evalL, optI, evBounds, evFill, evFillR, evApp, newsOf, wrCells, one1, fitsApp, evClr, undef, onB_bool, List.getElem?_concat_length, List.getElem?_cons_zero, List.getElem?_cons_succ, List.getElem?_toArray, List.getElem?_nil, List.set_cons_zero, List.set_cons_succ, List.cons_append, List.nil_append, -getElem?_pos, -getElem?_neg, st2T, lp10_1]
    exact hQ
  have hlt' : (j : Int) < n := by omega
  have hj0 : (0 : Int) ≤ j := by omega
  obtain ⟨x, hx⟩ : ∃ x, ordX k j = x := ⟨_, rfl⟩
  have hxl : x < 4294967296 := by rw [← hx]; exact ordX_lt hk h8 (by omega)
  have hx0 : x ≠ 0 := by rw [← hx]; unfold ordX hOf; omega
  have hget : (words (nats (olds k n)))[j]? = some (.int .u32 (x : Nat)) := by
    rw [words_get]
    simp only [nats, olds, List.getElem?_map, List.getElem?_range hlt, Option.map_some, hx]
  have hwr : IntKind.i64.wrap ((j : Int) + 1) = (j : Int) + 1 := IntWalk.i64_in _ (by omega)
  have hn0 : ¬ n = 0 := by omega
  have hnil : lookP (ordS k n).out x = 0 := rfl
  have hfe : freeE (ordS k n) x = 10 := by unfold freeE; rw [if_neg hx0, if_pos hnil]
  have hfs : freeS (ordS k n) x = ordS k n := by unfold freeS; rw [if_pos (.inr hnil)]
  simp (maxSteps := 2000000) (implicitDefEqProofs := false) [DN, NB, begT, atHead, kd, wantedA, evP, evR, evF, evL, evC, evBin, evUn, evEq, evSt, evRes, plain, scp, scpA, scpL, rdRow, rdCells, veq, veqA, veqL, isHole, Value.cells, evalL, optI, evBounds, evFill, evFillR, evApp, newsOf, wrCells, one1, fitsApp, evClr, undef, onB_bool, List.getElem?_concat_length, List.getElem?_cons_zero, List.getElem?_cons_succ, List.getElem?_toArray, List.getElem?_nil, List.set_cons_zero, List.set_cons_succ, List.cons_append, List.nil_append, -getElem?_pos, -getElem?_neg, st2T, stH, lp10_1, hlt, oldB, oldV, hn0, hget]
  refine isG (s := ordS k n) x rfl ?_
  simp (maxSteps := 2000000) (implicitDefEqProofs := false) [DN, NB, begT, atHead, kd, wantedA, evP, evR, evF, evL, evC, evBin, evUn, evEq, evSt, evRes, plain, scp, scpA, scpL, rdRow, rdCells, veq, veqA, veqL, isHole, Value.cells, evalL, optI, evBounds, evFill, evFillR, evApp, newsOf, wrCells, one1, fitsApp, evClr, undef, onB_bool, List.getElem?_concat_length, List.getElem?_cons_zero, List.getElem?_cons_succ, List.getElem?_toArray, List.getElem?_nil, List.set_cons_zero, List.set_cons_succ, List.cons_append, List.nil_append, -getElem?_pos, -getElem?_neg, hnil]
  refine freeG (s := ordS k n) x hxl rfl ?_
  simp (maxSteps := 2000000) (implicitDefEqProofs := false) [DN, NB, begT, atHead, kd, wantedA, evP, evR, evF, evL, evC, evBin, evUn, evEq, evSt, evRes, plain, scp, scpA, scpL, rdRow, rdCells, veq, veqA, veqL, isHole, Value.cells, evalL, optI, evBounds, evFill, evFillR, evApp, newsOf, wrCells, one1, fitsApp, evClr, undef, onB_bool, List.getElem?_concat_length, List.getElem?_cons_zero, List.getElem?_cons_succ, List.getElem?_toArray, List.getElem?_nil, List.set_cons_zero, List.set_cons_succ, List.cons_append, List.nil_append, -getElem?_pos, -getElem?_neg, hfe, hfs, hwr]
  refine nextS.intro (j + 1) (by omega) (by omega) ?_
  have hok : AOK [poolB (ordS k n), .cells (words (nats (olds k n))) 35 (some 1)] := by have := stH_ok k n; simpa [stH, oldB, hn0] using this
  refine headId (fun b kk hk => hk) hok (fun b hb => by omega) (by simp) rfl fun y' hy => ?_
  simp only [st2T, List.mem_cons, List.not_mem_nil, or_false] at hy
  rcases hy with rfl | rfl | rfl | rfl <;> refine ⟨by simp [GB, oldV, hn0], ?_⟩
  all_goals simp [scp, oldV, live, stH, oldB, hn0]

set_option maxHeartbeats 2000000 in
theorem stale_ (x0 x1 : Int) (a0 : 0 ≤ x0) (a1 : x0 ≤ 255) (b0 : 0 ≤ x1) (b1 : x1 ≤ 255) : AC Try.prog 10 [.int .u8 x0, .int .u8 x1] [] (fun v _ => v = .bool true) := by
  refine entry hmix cf10 ?_
  obtain ⟨k, hk, ek⟩ := rem_nat x0 8 (by omega) a0 a1
  obtain ⟨n, hn, en⟩ := rem_nat x1 200 (by omega) b0 b1
  have ek : x0.tmod 8 = (k : Int) := ek
  have en : x1.tmod 200 = (n : Int) := en
  have w0 : IntKind.i64.wrap x0 = x0 := IntWalk.i64_in _ (by omega)
  have w1 : IntKind.i64.wrap x1 = x1 := IntWalk.i64_in _ (by omega)
  have w2 : IntKind.i64.wrap (k : Int) = k := IntWalk.i64_in _ (by omega)
  have w3 : IntKind.i64.wrap (n : Int) = n := IntWalk.i64_in _ (by omega)
  have w4 : IntKind.i64.wrap (1 + (k : Int)) = ((k + 1 : Nat) : Int) := by rw [IntWalk.i64_in _ (by omega)]; omega
  simp (maxSteps := 2000000) (implicitDefEqProofs := false) [DN, NB, begT, atHead, kd, wantedA, evP, evR, evF, evL, evC, evBin, evUn, evEq, evSt, evRes, plain, scp, scpA, scpL, rdRow, rdCells, veq, veqA, veqL, isHole, Value.cells, evalL, optI, evBounds, evFill, evFillR, evApp, newsOf, wrCells, one1, fitsApp, evClr, undef, onB_bool, List.getElem?_concat_length, List.getElem?_cons_zero, List.getElem?_cons_succ, List.getElem?_toArray, List.getElem?_nil, List.set_cons_zero, List.set_cons_succ, List.cons_append, List.nil_append, -getElem?_pos, -getElem?_neg, ek, en, w0, w1, w2, w3, w4]
  refine pnewG (n := 1) (each := k + 1) (by omega) (by omega) (by omega) ?_
  rw [ord_new (by omega)]
  simp (maxSteps := 2000000) (implicitDefEqProofs := false) [DN, NB, begT, atHead, kd, wantedA, evP, evR, evF, evL, evC, evBin, evUn, evEq, evSt, evRes, plain, scp, scpA, scpL, rdRow, rdCells, veq, veqA, veqL, isHole, Value.cells, evalL, optI, evBounds, evFill, evFillR, evApp, newsOf, wrCells, one1, fitsApp, evClr, undef, onB_bool, List.getElem?_concat_length, List.getElem?_cons_zero, List.getElem?_cons_succ, List.getElem?_toArray, List.getElem?_nil, List.set_cons_zero, List.set_cons_succ, List.cons_append, List.nil_append, -getElem?_pos, -getElem?_neg, ek, en, w0, w1, w2, w3, w4]
  refine loop10a (k + 1) n (by omega) (by omega) (by omega) _ _ _ ?_ ?_
  · refine headId (fun b kk hk => ?_) (stH_ok _ 0) (fun b hb => by omega) (by simp [stH, oldB]) rfl fun y' hy => ?_
    · simpa [stH, oldB] using hk
    simp only [stT, List.mem_cons, List.not_mem_nil, or_false] at hy
    rcases hy with rfl | rfl | rfl | rfl <;> exact ⟨by simp [GB, oldV], by simp [scp, live, stH, oldV]⟩
  have hd : ∀ t', t'.length = 82 → (∀ y' ∈ st2T n 0, getT t' y'.1 = some y'.2) → atHeadV 0 82 (st2T n 0) (stH (k + 1) n) t' (stH (k + 1) n) := by
    intro t' e1 e2
    refine headId (fun b kk hk => hk) (stH_ok _ n) (fun b hb => by omega) (by simp) e1 fun y' hy => ⟨e2 y' hy, ?_⟩
    simp only [st2T, List.mem_cons, List.not_mem_nil, or_false] at hy
    rcases hy with rfl | rfl | rfl | rfl
    case inr.inl =>
      unfold oldV stH oldB
      split <;> simp [scp, live]
    all_goals simp [scp, live, stH]
  have htot : (ordS (k + 1) n).out.length = 0 := rfl
  have hov : outV (ordS (k + 1) n) 0 = 0 := by simp [outV, ordS, ordR_length]
  by_cases hn0 : n = 0
  · subst hn0
    simp (maxSteps := 2000000) (implicitDefEqProofs := false) [DN, NB, begT, atHead, kd, wantedA, evP, evR, evF, evL, evC, evBin, evUn, evEq, evSt, evRes, plain, scp, scpA, scpL, rdRow, rdCells, veq, veqA, veqL, isHole, Value.cells, evalL, optI, evBounds, evFill, evFillR, evApp, newsOf, wrCells, one1, fitsApp, evClr, undef, onB_bool, List.getElem?_concat_length, List.getElem?_cons_zero, List.getElem?_cons_succ, List.getElem?_toArray, List.getElem?_nil, List.set_cons_zero, List.set_cons_succ, List.cons_append, List.nil_append, -getElem?_pos, -getElem?_neg, stT, oldV]
    refine loop10b (k + 1) 0 (by omega) (by omega) (by omega) _ _ _ (hd _ rfl ?_) ?_
    · simp only [st2T, List.mem_cons, List.not_mem_nil, or_false]
      rintro y' (rfl | rfl | rfl | rfl) <;> simp [GB, oldV]
    simp (maxSteps := 2000000) (implicitDefEqProofs := false) [DN, NB, begT, atHead, kd, wantedA, evP, evR, evF, evL, evC, evBin, evUn, evEq, evSt, evRes, plain, scp, scpA, scpL, rdRow, rdCells, veq, veqA, veqL, isHole, Value.cells, evalL, optI, evBounds, evFill, evFillR, evApp, newsOf, wrCells, one1, fitsApp, evClr, undef, onB_bool, List.getElem?_concat_length, List.getElem?_cons_zero, List.getElem?_cons_succ, List.getElem?_toArray, List.getElem?_nil, List.set_cons_zero, List.set_cons_succ, List.cons_append, List.nil_append, -getElem?_pos, -getElem?_neg, st2T, oldV]
    refine totalG (s := ordS (k + 1) 0) rfl ?_
    simp (maxSteps := 2000000) (implicitDefEqProofs := false) [DN, NB, begT, atHead, kd, wantedA, evP, evR, evF, evL, evC, evBin, evUn, evEq, evSt, evRes, plain, scp, scpA, scpL, rdRow, rdCells, veq, veqA, veqL, isHole, Value.cells, evalL, optI, evBounds, evFill, evFillR, evApp, newsOf, wrCells, one1, fitsApp, evClr, undef, onB_bool, List.getElem?_concat_length, List.getElem?_cons_zero, List.getElem?_cons_succ, List.getElem?_toArray, List.getElem?_nil, List.set_cons_zero, List.set_cons_succ, List.cons_append, List.nil_append, -getElem?_pos, -getElem?_neg, htot]
    refine outG (s := ordS (k + 1) 0) 0 rfl ?_
    simp (maxSteps := 2000000) (implicitDefEqProofs := false) [DN, NB, begT, atHead, kd, wantedA, evP, evR, evF, evL, evC, evBin, evUn, evEq, evSt, evRes, plain, scp, scpA, scpL, rdRow, rdCells, veq, veqA, veqL, isHole, Value.cells, evalL, optI, evBounds, evFill, evFillR, evApp, newsOf, wrCells, one1, fitsApp, evClr, undef, onB_bool, List.getElem?_concat_length, List.getElem?_cons_zero, List.getElem?_cons_succ, List.getElem?_toArray, List.getElem?_nil, List.set_cons_zero, List.set_cons_succ, List.cons_append, List.nil_append, -getElem?_pos, -getElem?_neg, hov]
    refine awakeK _ _ fun h' => ?_
    simp (maxSteps := 2000000) (implicitDefEqProofs := false) [DN, NB, begT, atHead, kd, wantedA, evP, evR, evF, evL, evC, evBin, evUn, evEq, evSt, evRes, plain, scp, scpA, scpL, rdRow, rdCells, veq, veqA, veqL, isHole, Value.cells, evalL, optI, evBounds, evFill, evFillR, evApp, newsOf, wrCells, one1, fitsApp, evClr, undef, onB_bool, List.getElem?_concat_length, List.getElem?_cons_zero, List.getElem?_cons_succ, List.getElem?_toArray, List.getElem?_nil, List.set_cons_zero, List.set_cons_succ, List.cons_append, List.nil_append, -getElem?_pos, -getElem?_neg]
  simp (maxSteps := 2000000) (implicitDefEqProofs := false) [DN, NB, begT, atHead, kd, wantedA, evP, evR, evF, evL, evC, evBin, evUn, evEq, evSt, evRes, plain, scp, scpA, scpL, rdRow, rdCells, veq, veqA, veqL, isHole, Value.cells, evalL, optI, evBounds, evFill, evFillR, evApp, newsOf, wrCells, one1, fitsApp, evClr, undef, onB_bool, List.getElem?_concat_length, List.getElem?_cons_zero, List.getElem?_cons_succ, List.getElem?_toArray, List.getElem?_nil, List.set_cons_zero, List.set_cons_succ, List.cons_append, List.nil_append, -getElem?_pos, -getElem?_neg, stT, oldV, hn0]
  refine loop10b (k + 1) n (by omega) (by omega) (by omega) _ _ _ (hd _ rfl ?_) ?_
  · simp only [st2T, List.mem_cons, List.not_mem_nil, or_false]
    rintro y' (rfl | rfl | rfl | rfl) <;> simp [GB, oldV, hn0]
  simp (maxSteps := 2000000) (implicitDefEqProofs := false) [DN, NB, begT, atHead, kd, wantedA, evP, evR, evF, evL, evC, evBin, evUn, evEq, evSt, evRes, plain, scp, scpA, scpL, rdRow, rdCells, veq, veqA, veqL, isHole, Value.cells, evalL, optI, evBounds, evFill, evFillR, evApp, newsOf, wrCells, one1, fitsApp, evClr, undef, onB_bool, List.getElem?_concat_length, List.getElem?_cons_zero, List.getElem?_cons_succ, List.getElem?_toArray, List.getElem?_nil, List.set_cons_zero, List.set_cons_succ, List.cons_append, List.nil_append, -getElem?_pos, -getElem?_neg, st2T, oldV, hn0]
  refine totalG (s := ordS (k + 1) n) rfl ?_
  simp (maxSteps := 2000000) (implicitDefEqProofs := false) [DN, NB, begT, atHead, kd, wantedA, evP, evR, evF, evL, evC, evBin, evUn, evEq, evSt, evRes, plain, scp, scpA, scpL, rdRow, rdCells, veq, veqA, veqL, isHole, Value.cells, evalL, optI, evBounds, evFill, evFillR, evApp, newsOf, wrCells, one1, fitsApp, evClr, undef, onB_bool, List.getElem?_concat_length, List.getElem?_cons_zero, List.getElem?_cons_succ, List.getElem?_toArray, List.getElem?_nil, List.set_cons_zero, List.set_cons_succ, List.cons_append, List.nil_append, -getElem?_pos, -getElem?_neg, htot]
  refine outG (s := ordS (k + 1) n) 0 rfl ?_
  simp (maxSteps := 2000000) (implicitDefEqProofs := false) [DN, NB, begT, atHead, kd, wantedA, evP, evR, evF, evL, evC, evBin, evUn, evEq, evSt, evRes, plain, scp, scpA, scpL, rdRow, rdCells, veq, veqA, veqL, isHole, Value.cells, evalL, optI, evBounds, evFill, evFillR, evApp, newsOf, wrCells, one1, fitsApp, evClr, undef, onB_bool, List.getElem?_concat_length, List.getElem?_cons_zero, List.getElem?_cons_succ, List.getElem?_toArray, List.getElem?_nil, List.set_cons_zero, List.set_cons_succ, List.cons_append, List.nil_append, -getElem?_pos, -getElem?_neg, hov]
  refine awakeK _ _ fun h' => ?_
  simp (maxSteps := 2000000) (implicitDefEqProofs := false) [DN, NB, begT, atHead, kd, wantedA, evP, evR, evF, evL, evC, evBin, evUn, evEq, evSt, evRes, plain, scp, scpA, scpL, rdRow, rdCells, veq, veqA, veqL, isHole, Value.cells, evalL, optI, evBounds, evFill, evFillR, evApp, newsOf, wrCells, one1, fitsApp, evClr, undef, onB_bool, List.getElem?_concat_length, List.getElem?_cons_zero, List.getElem?_cons_succ, List.getElem?_toArray, List.getElem?_nil, List.set_cons_zero, List.set_cons_succ, List.cons_append, List.nil_append, -getElem?_pos, -getElem?_neg]

end Px
end Go.Proofs.Ytekhadlpcdjlpaa
