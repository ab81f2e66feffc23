/- pool: whose a handle is. -/
import Derived.Test.YtekhadlpcdjlpaaPk
namespace Go.Proofs.Ytekhadlpcdjlpaa
namespace Px
open Go Abs Code
set_option linter.unusedVariables false
set_option linter.unusedSimpArgs false
set_option maxRecDepth 100000

def ownB (s : PS) (h : Nat) : Bool := decide (s.each ≠ 0 ∧ 1 ≤ h % 4096 ∧ h % 4096 - 1 < s.each * s.free.length)
def ownT (s : PS) (h : Nat) : Nat := if ownB s h = true then (h % 4096 - 1) / s.each else 0

set_option maxHeartbeats 2000000 in
theorem powner_ (s : PS) (h : Nat) (hh : h < 4294967296) : AC Try.prog 49 [.pointer (some ⟨0, 0, none⟩), .int .u32 h] [poolB s] (fun v h' => v = .tuple #[.int .i64 (ownT s h : Nat), .bool (ownB s h)] ∧ h' = [poolB s]) := by
  refine AC.method2 (by kernel_rfl) fun g hg hown hlive => ?_
  obtain ⟨ok, es, c, he, rfl⟩ := hg
  refine entry hmix cf49 ?_
  obtain ⟨n, hn⟩ : ∃ n, h % 4096 = n := ⟨_, rfl⟩
  have hnl : n < 4096 := by omega
  have hw1 : IntKind.i64.wrap ((n : Int) - 1) = (n : Int) - 1 := IntWalk.i64_in _ (by omega)
  have hml : s.each * s.free.length ≤ 512 := Nat.le_trans (Nat.mul_le_mul ok.each ok.many) (by omega)
  obtain ⟨p, hp⟩ : ∃ p, s.each * s.free.length = p := ⟨_, rfl⟩
  have hmul : (s.each : Int) * s.free.length = p := by rw [← hp]; push_cast; rfl
  have hw2 : IntKind.i64.wrap (p : Int) = p := IntWalk.i64_in _ (by omega)
  simp (maxSteps := 2000000) (implicitDefEqProofs := false) [DN, NB, begT, atHead, kd, wantedA, evP, evR, evF, evL, evC, evI, evBin, evUn, evEq, evSt, evRes, plain, scp, scpA, scpL, rdRow, rdCells, veq, veqA, veqL, isHole, Value.cells, evalL, optI, evBounds, evFill, evFillR, evApp, newsOf, wrCells, one1, fitsApp, evClr, undef, onB_bool, List.getElem?_concat_length, List.getElem?_cons_zero, List.getElem?_cons_succ, List.getElem?_toArray, List.getElem?_nil, List.set_cons_zero, List.set_cons_succ, List.cons_append, List.nil_append, -getElem?_pos, -getElem?_neg, plH]
  refine hindex_ h n hh hn _ ?_
  by_cases c1 : s.each = 0
  · have hno : ownB s h = false := by simp [ownB, c1]
    simp (maxSteps := 2000000) (implicitDefEqProofs := false) [DN, NB, begT, atHead, kd, wantedA, evP, evR, evF, evL, evC, evI, evBin, evUn, evEq, evSt, evRes, plain, scp, scpA, scpL, rdRow, rdCells, veq, veqA, veqL, isHole, Value.cells, evalL, optI, evBounds, evFill, evFillR, evApp, newsOf, wrCells, one1, fitsApp, evClr, undef, onB_bool, List.getElem?_concat_length, List.getElem?_cons_zero, List.getElem?_cons_succ, List.getElem?_toArray, List.getElem?_nil, List.set_cons_zero, List.set_cons_succ, List.cons_append, List.nil_append, -getElem?_pos, -getElem?_neg, hw1, c1]
    refine (congrArg (fun H => Sees 1 H _ _) ?_).mpr (plClose0 (c := c) ok he rfl ⟨by simp [ownT, hno], rfl⟩)
    simp [plH, c1]
  by_cases c2 : n = 0
  · subst c2
    have hno : ownB s h = false := by simp [ownB, hn]
    have hw0 : IntKind.i64.wrap (-1) = -1 := by decide
    simp (maxSteps := 2000000) (implicitDefEqProofs := false) [DN, NB, begT, atHead, kd, wantedA, evP, evR, evF, evL, evC, evI, evBin, evUn, evEq, evSt, evRes, plain, scp, scpA, scpL, rdRow, rdCells, veq, veqA, veqL, isHole, Value.cells, evalL, optI, evBounds, evFill, evFillR, evApp, newsOf, wrCells, one1, fitsApp, evClr, undef, onB_bool, List.getElem?_concat_length, List.getElem?_cons_zero, List.getElem?_cons_succ, List.getElem?_toArray, List.getElem?_nil, List.set_cons_zero, List.set_cons_succ, List.cons_append, List.nil_append, -getElem?_pos, -getElem?_neg, hw1, hw0, c1]
    exact plClose0 (c := c) ok he rfl ⟨by simp [ownT, hno], rfl⟩
  have d1 : ¬ (n : Int) - 1 < 0 := by omega
  have d2 : (0 : Int) ≤ (n : Int) - 1 := by omega
  have d3 : ¬ (n : Int) < 1 := by omega
  have d4 : (1 : Int) ≤ n := by omega
  by_cases c3 : p ≤ n - 1
  · have hno : ownB s h = false := by simp [ownB, hn, hp]; omega
    have d5 : (p : Int) ≤ (n : Int) - 1 := by omega
    simp (maxSteps := 2000000) (implicitDefEqProofs := false) [DN, NB, begT, atHead, kd, wantedA, evP, evR, evF, evL, evC, evI, evBin, evUn, evEq, evSt, evRes, plain, scp, scpA, scpL, rdRow, rdCells, veq, veqA, veqL, isHole, Value.cells, evalL, optI, evBounds, evFill, evFillR, evApp, newsOf, wrCells, one1, fitsApp, evClr, undef, onB_bool, List.getElem?_concat_length, List.getElem?_cons_zero, List.getElem?_cons_succ, List.getElem?_toArray, List.getElem?_nil, List.set_cons_zero, List.set_cons_succ, List.cons_append, List.nil_append, -getElem?_pos, -getElem?_neg, hw1, c1, d1, d2, d3, d4, hmul, hw2, d5]
    exact plClose0 (c := c) ok he rfl ⟨by simp [ownT, hno], rfl⟩
  have hyes : ownB s h = true := by simp [ownB, hn, hp, c1]; omega
  have d5 : ¬ (p : Int) ≤ (n : Int) - 1 := by omega
  have hdiv : ((n : Int) - 1).tdiv (s.each : Int) = (((n - 1) / s.each : Nat) : Int) := by
    rw [Int.tdiv_eq_ediv_of_nonneg (by omega)]
    have : ((n : Int) - 1) = ((n - 1 : Nat) : Int) := by omega
    rw [this]
    push_cast
    rfl
  obtain ⟨q, hq⟩ : ∃ q, (n - 1) / s.each = q := ⟨_, rfl⟩
  rw [hq] at hdiv
  have hql : q ≤ 4096 := by rw [← hq]; exact Nat.le_trans (Nat.div_le_self _ _) (by omega)
  have hwq : IntKind.i64.wrap (q : Int) = q := IntWalk.i64_in _ (by omega)
  simp (maxSteps := 2000000) (implicitDefEqProofs := false) [DN, NB, begT, atHead, kd, wantedA, evP, evR, evF, evL, evC, evI, evBin, evUn, evEq, evSt, evRes, plain, scp, scpA, scpL, rdRow, rdCells, veq, veqA, veqL, isHole, Value.cells, evalL, optI, evBounds, evFill, evFillR, evApp, newsOf, wrCells, one1, fitsApp, evClr, undef, onB_bool, List.getElem?_concat_length, List.getElem?_cons_zero, List.getElem?_cons_succ, List.getElem?_toArray, List.getElem?_nil, List.set_cons_zero, List.set_cons_succ, List.cons_append, List.nil_append, -getElem?_pos, -getElem?_neg, hw1, c1, d1, d2, d3, d4, hmul, hw2, d5, hdiv, hwq]
  exact plClose0 (c := c) ok he rfl ⟨by simp [ownT, hyes, hn, hq], rfl⟩

theorem ownerG {s : PS} (x : Nat) (hx : x < 4294967296) {H : AH} {b : Nat} (hb : H[b]? = some (poolB s)) {K : Value → AH → Prop} (hK : K (.tuple #[.int .i64 (ownT s x : Nat), .bool (ownB s x)]) H) : AC Try.prog 49 [.pointer (some ⟨b, 0, none⟩), .int .u32 x] H K := by
  refine AC.at1 (args0 := [.pointer (some ⟨0, 0, none⟩), .int .u32 x]) (E := []) (powner_ s x hx) trivial trivial (by simp) hb (by simp [scpL, scp, live]) (by simp [ren, renA]) ?_
  rw [set_same hb, List.append_nil]
  simpa [ren, renAr, renL] using hK

end Px
end Go.Proofs.Ytekhadlpcdjlpaa
