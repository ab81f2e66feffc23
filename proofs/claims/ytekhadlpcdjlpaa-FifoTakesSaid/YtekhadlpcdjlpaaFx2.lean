/- fifo: the ways; what fits. -/
import Derived.Test.YtekhadlpcdjlpaaFx1
import Derived.Test.YtekhadlpcdjlpaaAbsB
import Derived.Test.YtekhadlpcdjlpaaCodeF
namespace Go.Proofs.Ytekhadlpcdjlpaa
namespace Fx
open Go Abs Code
set_option linter.unusedVariables false
set_option linter.unusedSimpArgs false
set_option maxRecDepth 100000

theorem hmix : Try.prog.follows .mixedOrders = true := by kernel_rfl

theorem way_ (k : Int) (h : AH) : AC Try.prog 108 [.int .i64 k] h (fun v h' => v = .tuple #[.int .i64 (wayOf k).1, .int .i64 (wayOf k).2.1, .bool (wayOf k).2.2] ∧ h' = h) := by
  refine entry hmix cf108 ?_
  simp (maxSteps := 2000000) (implicitDefEqProofs := false) [DN, NB, begT, atHead, kd, wantedA, evP, evR, evF, evL, evC, evBin, evUn, evEq, evSt, evRes, plain, scp, scpA, scpL, rdRow, rdCells, veq, veqA, veqL, isHole, Value.cells, evalL, optI, evBounds, evFill, evFillR, evApp, newsOf, wrCells, one1, fitsApp, evClr, undef, onB_bool, List.getElem?_concat_length, List.getElem?_cons_zero, List.getElem?_cons_succ, List.getElem?_toArray, List.getElem?_nil, List.set_cons_zero, List.set_cons_succ, List.cons_append, List.nil_append, -getElem?_pos, -getElem?_neg]
  unfold wayOf
  repeat' split
  all_goals simp_all

def ints (l : List Int) : List Value := l.map fun x => .int .i64 x
theorem ints_length (l : List Int) : (ints l).length = l.length := by simp [ints]
theorem ints_get (l : List Int) (i : Nat) : (ints l)[i]? = (l[i]?).map (Value.int .i64) := by simp [ints]

def En.v (x : En) : Value := .agg #[.int .i64 x.k, .int .i64 x.t, .int .i64 x.now]

/-- The lock's box. -/
def boxL (s : LS) (qv : Value) : ABlk := .cells [.slice (some ⟨1, 0, none⟩) s.st.length s.st.length, qv, .int .i64 s.own, .int .i64 s.now] 171 none

theorem fits_ (s : LS) (ok : OkL s) (stale : List Int) (x : En) (tl : AH) (K : Value → AH → Prop) (hK : ∀ k, K (.bool (fitsL s x)) (boxL s (Value.slice (some ⟨2, 0, none⟩) s.q.length (OPEN + (s.q.length + stale.length))) :: .cells (ints s.st) 3 none :: .cells (ints (s.q ++ stale)) 3 (some 1) :: (tl ++ [k]))) : AC Try.prog 107 [.pointer (some ⟨0, 0, none⟩), x.v]
    (boxL s (Value.slice (some ⟨2, 0, none⟩) s.q.length (OPEN + (s.q.length + stale.length))) :: .cells (ints s.st) 3 none :: .cells (ints (s.q ++ stale)) 3 (some 1) :: tl) K := by
  refine entry hmix cf107 ?_
  have hxv : x.v = .agg #[.int .i64 x.k, .int .i64 x.t, .int .i64 x.now] := rfl
  by_cases h1 : (wayOf x.k).2.2 = true
  case neg =>
    have hf : fitsL s x = false := by simp [fitsL, h1]
    rw [hf] at hK
    simp (maxSteps := 2000000) (implicitDefEqProofs := false) [DN, NB, begT, atHead, kd, wantedA, evP, evR, evF, evL, evC, evBin, evUn, evEq, evSt, evRes, plain, scp, scpA, scpL, rdRow, rdCells, veq, veqA, veqL, isHole, Value.cells, evalL, optI, evBounds, evFill, evFillR, evApp, newsOf, wrCells, one1, fitsApp, evClr, undef, onB_bool, List.getElem?_concat_length, List.getElem?_cons_zero, List.getElem?_cons_succ, List.getElem?_toArray, List.getElem?_nil, List.set_cons_zero, List.set_cons_succ, List.cons_append, List.nil_append, -getElem?_pos, -getElem?_neg, hxv, boxL]
    refine (way_ _ _).mono ?_
    rintro _ _ ⟨rfl, rfl⟩
    simp (maxSteps := 2000000) (implicitDefEqProofs := false) [DN, NB, begT, atHead, kd, wantedA, evP, evR, evF, evL, evC, evBin, evUn, evEq, evSt, evRes, plain, scp, scpA, scpL, rdRow, rdCells, veq, veqA, veqL, isHole, Value.cells, evalL, optI, evBounds, evFill, evFillR, evApp, newsOf, wrCells, one1, fitsApp, evClr, undef, onB_bool, List.getElem?_concat_length, List.getElem?_cons_zero, List.getElem?_cons_succ, List.getElem?_toArray, List.getElem?_nil, List.set_cons_zero, List.set_cons_succ, List.cons_append, List.nil_append, -getElem?_pos, -getElem?_neg, ints_length, h1]
    exact hK _
  by_cases h2 : x.t < 0
  · have hf : fitsL s x = false := by simp [fitsL, show ¬ 0 ≤ x.t by omega]
    rw [hf] at hK
    simp (maxSteps := 2000000) (implicitDefEqProofs := false) [DN, NB, begT, atHead, kd, wantedA, evP, evR, evF, evL, evC, evBin, evUn, evEq, evSt, evRes, plain, scp, scpA, scpL, rdRow, rdCells, veq, veqA, veqL, isHole, Value.cells, evalL, optI, evBounds, evFill, evFillR, evApp, newsOf, wrCells, one1, fitsApp, evClr, undef, onB_bool, List.getElem?_concat_length, List.getElem?_cons_zero, List.getElem?_cons_succ, List.getElem?_toArray, List.getElem?_nil, List.set_cons_zero, List.set_cons_succ, List.cons_append, List.nil_append, -getElem?_pos, -getElem?_neg, hxv, boxL]
    refine (way_ _ _).mono ?_
    rintro _ _ ⟨rfl, rfl⟩
    simp (maxSteps := 2000000) (implicitDefEqProofs := false) [DN, NB, begT, atHead, kd, wantedA, evP, evR, evF, evL, evC, evBin, evUn, evEq, evSt, evRes, plain, scp, scpA, scpL, rdRow, rdCells, veq, veqA, veqL, isHole, Value.cells, evalL, optI, evBounds, evFill, evFillR, evApp, newsOf, wrCells, one1, fitsApp, evClr, undef, onB_bool, List.getElem?_concat_length, List.getElem?_cons_zero, List.getElem?_cons_succ, List.getElem?_toArray, List.getElem?_nil, List.set_cons_zero, List.set_cons_succ, List.cons_append, List.nil_append, -getElem?_pos, -getElem?_neg, ints_length, h1, h2]
    exact hK _
  have h2' : 0 ≤ x.t := by omega
  by_cases h3 : x.t < s.st.length
  case neg =>
    have h3' : (s.st.length : Int) ≤ x.t := by omega
    have hf : fitsL s x = false := by simp [fitsL, h3]
    rw [hf] at hK
    simp (maxSteps := 2000000) (implicitDefEqProofs := false) [DN, NB, begT, atHead, kd, wantedA, evP, evR, evF, evL, evC, evBin, evUn, evEq, evSt, evRes, plain, scp, scpA, scpL, rdRow, rdCells, veq, veqA, veqL, isHole, Value.cells, evalL, optI, evBounds, evFill, evFillR, evApp, newsOf, wrCells, one1, fitsApp, evClr, undef, onB_bool, List.getElem?_concat_length, List.getElem?_cons_zero, List.getElem?_cons_succ, List.getElem?_toArray, List.getElem?_nil, List.set_cons_zero, List.set_cons_succ, List.cons_append, List.nil_append, -getElem?_pos, -getElem?_neg, hxv, boxL]
    refine (way_ _ _).mono ?_
    rintro _ _ ⟨rfl, rfl⟩
    simp (maxSteps := 2000000) (implicitDefEqProofs := false) [DN, NB, begT, atHead, kd, wantedA, evP, evR, evF, evL, evC, evBin, evUn, evEq, evSt, evRes, plain, scp, scpA, scpL, rdRow, rdCells, veq, veqA, veqL, isHole, Value.cells, evalL, optI, evBounds, evFill, evFillR, evApp, newsOf, wrCells, one1, fitsApp, evClr, undef, onB_bool, List.getElem?_concat_length, List.getElem?_cons_zero, List.getElem?_cons_succ, List.getElem?_toArray, List.getElem?_nil, List.set_cons_zero, List.set_cons_succ, List.cons_append, List.nil_append, -getElem?_pos, -getElem?_neg, ints_length, h1, h2, h2', h3, h3']
    exact hK _
  have h3' : ¬ (s.st.length : Int) ≤ x.t := by omega
  by_cases h4 : x.now < s.now
  · have hf : fitsL s x = false := by simp [fitsL, show ¬ s.now ≤ x.now by omega]
    rw [hf] at hK
    simp (maxSteps := 2000000) (implicitDefEqProofs := false) [DN, NB, begT, atHead, kd, wantedA, evP, evR, evF, evL, evC, evBin, evUn, evEq, evSt, evRes, plain, scp, scpA, scpL, rdRow, rdCells, veq, veqA, veqL, isHole, Value.cells, evalL, optI, evBounds, evFill, evFillR, evApp, newsOf, wrCells, one1, fitsApp, evClr, undef, onB_bool, List.getElem?_concat_length, List.getElem?_cons_zero, List.getElem?_cons_succ, List.getElem?_toArray, List.getElem?_nil, List.set_cons_zero, List.set_cons_succ, List.cons_append, List.nil_append, -getElem?_pos, -getElem?_neg, hxv, boxL]
    refine (way_ _ _).mono ?_
    rintro _ _ ⟨rfl, rfl⟩
    simp (maxSteps := 2000000) (implicitDefEqProofs := false) [DN, NB, begT, atHead, kd, wantedA, evP, evR, evF, evL, evC, evBin, evUn, evEq, evSt, evRes, plain, scp, scpA, scpL, rdRow, rdCells, veq, veqA, veqL, isHole, Value.cells, evalL, optI, evBounds, evFill, evFillR, evApp, newsOf, wrCells, one1, fitsApp, evClr, undef, onB_bool, List.getElem?_concat_length, List.getElem?_cons_zero, List.getElem?_cons_succ, List.getElem?_toArray, List.getElem?_nil, List.set_cons_zero, List.set_cons_succ, List.cons_append, List.nil_append, -getElem?_pos, -getElem?_neg, ints_length, h1, h2, h2', h3, h3', h4]
    exact hK _
  have h4' : s.now ≤ x.now := by omega
  obtain ⟨y, hy⟩ : ∃ y, s.st[x.t.toNat]? = some y := ⟨_, List.getElem?_eq_getElem (by omega)⟩
  have hy' : (ints s.st)[x.t.toNat]? = some (.int .i64 y) := by rw [ints_get, hy]; rfl
  by_cases h5 : y = (wayOf x.k).1
  case neg =>
    have hf : fitsL s x = false := by simp [fitsL, hy, h5, -getElem?_pos]
    rw [hf] at hK
    simp (maxSteps := 2000000) (implicitDefEqProofs := false) [DN, NB, begT, atHead, kd, wantedA, evP, evR, evF, evL, evC, evBin, evUn, evEq, evSt, evRes, plain, scp, scpA, scpL, rdRow, rdCells, veq, veqA, veqL, isHole, Value.cells, evalL, optI, evBounds, evFill, evFillR, evApp, newsOf, wrCells, one1, fitsApp, evClr, undef, onB_bool, List.getElem?_concat_length, List.getElem?_cons_zero, List.getElem?_cons_succ, List.getElem?_toArray, List.getElem?_nil, List.set_cons_zero, List.set_cons_succ, List.cons_append, List.nil_append, -getElem?_pos, -getElem?_neg, hxv, boxL]
    refine (way_ _ _).mono ?_
    rintro _ _ ⟨rfl, rfl⟩
    simp (maxSteps := 2000000) (implicitDefEqProofs := false) [DN, NB, begT, atHead, kd, wantedA, evP, evR, evF, evL, evC, evBin, evUn, evEq, evSt, evRes, plain, scp, scpA, scpL, rdRow, rdCells, veq, veqA, veqL, isHole, Value.cells, evalL, optI, evBounds, evFill, evFillR, evApp, newsOf, wrCells, one1, fitsApp, evClr, undef, onB_bool, List.getElem?_concat_length, List.getElem?_cons_zero, List.getElem?_cons_succ, List.getElem?_toArray, List.getElem?_nil, List.set_cons_zero, List.set_cons_succ, List.cons_append, List.nil_append, -getElem?_pos, -getElem?_neg, ints_length, h1, h2, h2', h3, h3', h4, h4', hy', h5]
    exact hK _
  by_cases h6 : x.k = 3
  case neg =>
    have hf : fitsL s x = true := by unfold fitsL; rw [h1, hy, h5]; simp [h2', h3, h4', h6]
    rw [hf] at hK
    simp (maxSteps := 2000000) (implicitDefEqProofs := false) [DN, NB, begT, atHead, kd, wantedA, evP, evR, evF, evL, evC, evBin, evUn, evEq, evSt, evRes, plain, scp, scpA, scpL, rdRow, rdCells, veq, veqA, veqL, isHole, Value.cells, evalL, optI, evBounds, evFill, evFillR, evApp, newsOf, wrCells, one1, fitsApp, evClr, undef, onB_bool, List.getElem?_concat_length, List.getElem?_cons_zero, List.getElem?_cons_succ, List.getElem?_toArray, List.getElem?_nil, List.set_cons_zero, List.set_cons_succ, List.cons_append, List.nil_append, -getElem?_pos, -getElem?_neg, hxv, boxL]
    refine (way_ _ _).mono ?_
    rintro _ _ ⟨rfl, rfl⟩
    simp (maxSteps := 2000000) (implicitDefEqProofs := false) [DN, NB, begT, atHead, kd, wantedA, evP, evR, evF, evL, evC, evBin, evUn, evEq, evSt, evRes, plain, scp, scpA, scpL, rdRow, rdCells, veq, veqA, veqL, isHole, Value.cells, evalL, optI, evBounds, evFill, evFillR, evApp, newsOf, wrCells, one1, fitsApp, evClr, undef, onB_bool, List.getElem?_concat_length, List.getElem?_cons_zero, List.getElem?_cons_succ, List.getElem?_toArray, List.getElem?_nil, List.set_cons_zero, List.set_cons_succ, List.cons_append, List.nil_append, -getElem?_pos, -getElem?_neg, ints_length, h1, h2, h2', h3, h3', h4, h4', hy', h5, h6]
    exact hK _
  have hw : (wayOf x.k).1 = 2 := by rw [h6]; rfl
  have hm := ok.que x.t.toNat (by rw [hy, h5, hw])
  obtain ⟨z, r, hq⟩ : ∃ z r, s.q = z :: r := by
    cases hq : s.q with
    | nil => rw [hq] at hm; cases hm
    | cons z r => exact ⟨z, r, rfl⟩
  have hql : 0 < s.q.length := by rw [hq]; simp
  have hq0 : (ints (s.q ++ stale))[0]? = some (.int .i64 z) := by rw [ints_get, hq]; rfl
  have hql' : (0 : Int) < s.q.length := by omega
  by_cases h7 : s.own = -1
  case neg =>
    have hf : fitsL s x = false := by simp [fitsL, h6, h7]
    rw [hf] at hK
    simp (maxSteps := 2000000) (implicitDefEqProofs := false) [DN, NB, begT, atHead, kd, wantedA, evP, evR, evF, evL, evC, evBin, evUn, evEq, evSt, evRes, plain, scp, scpA, scpL, rdRow, rdCells, veq, veqA, veqL, isHole, Value.cells, evalL, optI, evBounds, evFill, evFillR, evApp, newsOf, wrCells, one1, fitsApp, evClr, undef, onB_bool, List.getElem?_concat_length, List.getElem?_cons_zero, List.getElem?_cons_succ, List.getElem?_toArray, List.getElem?_nil, List.set_cons_zero, List.set_cons_succ, List.cons_append, List.nil_append, -getElem?_pos, -getElem?_neg, hxv, boxL]
    refine (way_ _ _).mono ?_
    rintro _ _ ⟨rfl, rfl⟩
    simp (maxSteps := 2000000) (implicitDefEqProofs := false) [DN, NB, begT, atHead, kd, wantedA, evP, evR, evF, evL, evC, evBin, evUn, evEq, evSt, evRes, plain, scp, scpA, scpL, rdRow, rdCells, veq, veqA, veqL, isHole, Value.cells, evalL, optI, evBounds, evFill, evFillR, evApp, newsOf, wrCells, one1, fitsApp, evClr, undef, onB_bool, List.getElem?_concat_length, List.getElem?_cons_zero, List.getElem?_cons_succ, List.getElem?_toArray, List.getElem?_nil, List.set_cons_zero, List.set_cons_succ, List.cons_append, List.nil_append, -getElem?_pos, -getElem?_neg, ints_length, h1, h2, h2', h3, h3', h4, h4', hy', h5, h6, h7]
    exact hK _
  have hf : fitsL s x = (z == x.t) := by
    unfold fitsL
    rw [h1, hy, h5, hq, h7]
    simp [h2', h3, h4', h6]
    rw [Bool.eq_iff_iff]
    simp
  have hb6 : (x.k != 3) = false := by simp [h6]
  have hb7 : (s.own == -1) = true := by simp [h7]
  rw [hf] at hK
  simp (maxSteps := 2000000) (implicitDefEqProofs := false) [DN, NB, begT, atHead, kd, wantedA, evP, evR, evF, evL, evC, evBin, evUn, evEq, evSt, evRes, plain, scp, scpA, scpL, rdRow, rdCells, veq, veqA, veqL, isHole, Value.cells, evalL, optI, evBounds, evFill, evFillR, evApp, newsOf, wrCells, one1, fitsApp, evClr, undef, onB_bool, List.getElem?_concat_length, List.getElem?_cons_zero, List.getElem?_cons_succ, List.getElem?_toArray, List.getElem?_nil, List.set_cons_zero, List.set_cons_succ, List.cons_append, List.nil_append, -getElem?_pos, -getElem?_neg, hxv, boxL]
  refine (way_ _ _).mono ?_
  rintro _ _ ⟨rfl, rfl⟩
  simp (maxSteps := 2000000) (implicitDefEqProofs := false) [DN, NB, begT, atHead, kd, wantedA, evP, evR, evF, evL, evC, evBin, evUn, evEq, evSt, evRes, plain, scp, scpA, scpL, rdRow, rdCells, veq, veqA, veqL, isHole, Value.cells, evalL, optI, evBounds, evFill, evFillR, evApp, newsOf, wrCells, one1, fitsApp, evClr, undef, onB_bool, List.getElem?_concat_length, List.getElem?_cons_zero, List.getElem?_cons_succ, List.getElem?_toArray, List.getElem?_nil, List.set_cons_zero, List.set_cons_succ, List.cons_append, List.nil_append, -getElem?_pos, -getElem?_neg, ints_length, h1, h2, h2', h3, h3', h4, h4', hy', h5, hb6, hb7, hql, hql', hq0]
  exact hK _

theorem fits0_ (s : LS) (ok : OkL s) (hq : s.q = []) (x : En) (tl : AH) (K : Value → AH → Prop) (hK : ∀ k, K (.bool (fitsL s x)) (boxL s (Value.slice none 0 0) :: .cells (ints s.st) 3 none :: (tl ++ [k]))) : AC Try.prog 107 [.pointer (some ⟨0, 0, none⟩), x.v]
    (boxL s (Value.slice none 0 0) :: .cells (ints s.st) 3 none :: tl) K := by
  refine entry hmix cf107 ?_
  have hxv : x.v = .agg #[.int .i64 x.k, .int .i64 x.t, .int .i64 x.now] := rfl
  by_cases h1 : (wayOf x.k).2.2 = true
  case neg =>
    have hf : fitsL s x = false := by simp [fitsL, h1]
    rw [hf] at hK
    simp (maxSteps := 2000000) (implicitDefEqProofs := false) [DN, NB, begT, atHead, kd, wantedA, evP, evR, evF, evL, evC, evBin, evUn, evEq, evSt, evRes, plain, scp, scpA, scpL, rdRow, rdCells, veq, veqA, veqL, isHole, Value.cells, evalL, optI, evBounds, evFill, evFillR, evApp, newsOf, wrCells, one1, fitsApp, evClr, undef, onB_bool, List.getElem?_concat_length, List.getElem?_cons_zero, List.getElem?_cons_succ, List.getElem?_toArray, List.getElem?_nil, List.set_cons_zero, List.set_cons_succ, List.cons_append, List.nil_append, -getElem?_pos, -getElem?_neg, hxv, boxL]
    refine (way_ _ _).mono ?_
    rintro _ _ ⟨rfl, rfl⟩
    simp (maxSteps := 2000000) (implicitDefEqProofs := false) [DN, NB, begT, atHead, kd, wantedA, evP, evR, evF, evL, evC, evBin, evUn, evEq, evSt, evRes, plain, scp, scpA, scpL, rdRow, rdCells, veq, veqA, veqL, isHole, Value.cells, evalL, optI, evBounds, evFill, evFillR, evApp, newsOf, wrCells, one1, fitsApp, evClr, undef, onB_bool, List.getElem?_concat_length, List.getElem?_cons_zero, List.getElem?_cons_succ, List.getElem?_toArray, List.getElem?_nil, List.set_cons_zero, List.set_cons_succ, List.cons_append, List.nil_append, -getElem?_pos, -getElem?_neg, ints_length, h1]
    exact hK _
  by_cases h2 : x.t < 0
  · have hf : fitsL s x = false := by simp [fitsL, show ¬ 0 ≤ x.t by omega]
    rw [hf] at hK
    simp (maxSteps := 2000000) (implicitDefEqProofs := false) [DN, NB, begT, atHead, kd, wantedA, evP, evR, evF, evL, evC, evBin, evUn, evEq, evSt, evRes, plain, scp, scpA, scpL, rdRow, rdCells, veq, veqA, veqL, isHole, Value.cells, evalL, optI, evBounds, evFill, evFillR, evApp, newsOf, wrCells, one1, fitsApp, evClr, undef, onB_bool, List.getElem?_concat_length, List.getElem?_cons_zero, List.getElem?_cons_succ, List.getElem?_toArray, List.getElem?_nil, List.set_cons_zero, List.set_cons_succ, List.cons_append, List.nil_append, -getElem?_pos, -getElem?_neg, hxv, boxL]
    refine (way_ _ _).mono ?_
    rintro _ _ ⟨rfl, rfl⟩
    simp (maxSteps := 2000000) (implicitDefEqProofs := false) [DN, NB, begT, atHead, kd, wantedA, evP, evR, evF, evL, evC, evBin, evUn, evEq, evSt, evRes, plain, scp, scpA, scpL, rdRow, rdCells, veq, veqA, veqL, isHole, Value.cells, evalL, optI, evBounds, evFill, evFillR, evApp, newsOf, wrCells, one1, fitsApp, evClr, undef, onB_bool, List.getElem?_concat_length, List.getElem?_cons_zero, List.getElem?_cons_succ, List.getElem?_toArray, List.getElem?_nil, List.set_cons_zero, List.set_cons_succ, List.cons_append, List.nil_append, -getElem?_pos, -getElem?_neg, ints_length, h1, h2]
    exact hK _
  have h2' : 0 ≤ x.t := by omega
  by_cases h3 : x.t < s.st.length
  case neg =>
    have h3' : (s.st.length : Int) ≤ x.t := by omega
    have hf : fitsL s x = false := by simp [fitsL, h3]
    rw [hf] at hK
    simp (maxSteps := 2000000) (implicitDefEqProofs := false) [DN, NB, begT, atHead, kd, wantedA, evP, evR, evF, evL, evC, evBin, evUn, evEq, evSt, evRes, plain, scp, scpA, scpL, rdRow, rdCells, veq, veqA, veqL, isHole, Value.cells, evalL, optI, evBounds, evFill, evFillR, evApp, newsOf, wrCells, one1, fitsApp, evClr, undef, onB_bool, List.getElem?_concat_length, List.getElem?_cons_zero, List.getElem?_cons_succ, List.getElem?_toArray, List.getElem?_nil, List.set_cons_zero, List.set_cons_succ, List.cons_append, List.nil_append, -getElem?_pos, -getElem?_neg, hxv, boxL]
    refine (way_ _ _).mono ?_
    rintro _ _ ⟨rfl, rfl⟩
    simp (maxSteps := 2000000) (implicitDefEqProofs := false) [DN, NB, begT, atHead, kd, wantedA, evP, evR, evF, evL, evC, evBin, evUn, evEq, evSt, evRes, plain, scp, scpA, scpL, rdRow, rdCells, veq, veqA, veqL, isHole, Value.cells, evalL, optI, evBounds, evFill, evFillR, evApp, newsOf, wrCells, one1, fitsApp, evClr, undef, onB_bool, List.getElem?_concat_length, List.getElem?_cons_zero, List.getElem?_cons_succ, List.getElem?_toArray, List.getElem?_nil, List.set_cons_zero, List.set_cons_succ, List.cons_append, List.nil_append, -getElem?_pos, -getElem?_neg, ints_length, h1, h2, h2', h3, h3']
    exact hK _
  have h3' : ¬ (s.st.length : Int) ≤ x.t := by omega
  by_cases h4 : x.now < s.now
  · have hf : fitsL s x = false := by simp [fitsL, show ¬ s.now ≤ x.now by omega]
    rw [hf] at hK
    simp (maxSteps := 2000000) (implicitDefEqProofs := false) [DN, NB, begT, atHead, kd, wantedA, evP, evR, evF, evL, evC, evBin, evUn, evEq, evSt, evRes, plain, scp, scpA, scpL, rdRow, rdCells, veq, veqA, veqL, isHole, Value.cells, evalL, optI, evBounds, evFill, evFillR, evApp, newsOf, wrCells, one1, fitsApp, evClr, undef, onB_bool, List.getElem?_concat_length, List.getElem?_cons_zero, List.getElem?_cons_succ, List.getElem?_toArray, List.getElem?_nil, List.set_cons_zero, List.set_cons_succ, List.cons_append, List.nil_append, -getElem?_pos, -getElem?_neg, hxv, boxL]
    refine (way_ _ _).mono ?_
    rintro _ _ ⟨rfl, rfl⟩
    simp (maxSteps := 2000000) (implicitDefEqProofs := false) [DN, NB, begT, atHead, kd, wantedA, evP, evR, evF, evL, evC, evBin, evUn, evEq, evSt, evRes, plain, scp, scpA, scpL, rdRow, rdCells, veq, veqA, veqL, isHole, Value.cells, evalL, optI, evBounds, evFill, evFillR, evApp, newsOf, wrCells, one1, fitsApp, evClr, undef, onB_bool, List.getElem?_concat_length, List.getElem?_cons_zero, List.getElem?_cons_succ, List.getElem?_toArray, List.getElem?_nil, List.set_cons_zero, List.set_cons_succ, List.cons_append, List.nil_append, -getElem?_pos, -getElem?_neg, ints_length, h1, h2, h2', h3, h3', h4]
    exact hK _
  have h4' : s.now ≤ x.now := by omega
  obtain ⟨y, hy⟩ : ∃ y, s.st[x.t.toNat]? = some y := ⟨_, List.getElem?_eq_getElem (by omega)⟩
  have hy' : (ints s.st)[x.t.toNat]? = some (.int .i64 y) := by rw [ints_get, hy]; rfl
  by_cases h5 : y = (wayOf x.k).1
  case neg =>
    have hf : fitsL s x = false := by simp [fitsL, hy, h5, -getElem?_pos]
    rw [hf] at hK
    simp (maxSteps := 2000000) (implicitDefEqProofs := false) [DN, NB, begT, atHead, kd, wantedA, evP, evR, evF, evL, evC, evBin, evUn, evEq, evSt, evRes, plain, scp, scpA, scpL, rdRow, rdCells, veq, veqA, veqL, isHole, Value.cells, evalL, optI, evBounds, evFill, evFillR, evApp, newsOf, wrCells, one1, fitsApp, evClr, undef, onB_bool, List.getElem?_concat_length, List.getElem?_cons_zero, List.getElem?_cons_succ, List.getElem?_toArray, List.getElem?_nil, List.set_cons_zero, List.set_cons_succ, List.cons_append, List.nil_append, -getElem?_pos, -getElem?_neg, hxv, boxL]
    refine (way_ _ _).mono ?_
    rintro _ _ ⟨rfl, rfl⟩
    simp (maxSteps := 2000000) (implicitDefEqProofs := false) [DN, NB, begT, atHead, kd, wantedA, evP, evR, evF, evL, evC, evBin, evUn, evEq, evSt, evRes, plain, scp, scpA, scpL, rdRow, rdCells, veq, veqA, veqL, isHole, Value.cells, evalL, optI, evBounds, evFill, evFillR, evApp, newsOf, wrCells, one1, fitsApp, evClr, undef, onB_bool, List.getElem?_concat_length, List.getElem?_cons_zero, List.getElem?_cons_succ, List.getElem?_toArray, List.getElem?_nil, List.set_cons_zero, List.set_cons_succ, List.cons_append, List.nil_append, -getElem?_pos, -getElem?_neg, ints_length, h1, h2, h2', h3, h3', h4, h4', hy', h5]
    exact hK _
  by_cases h6 : x.k = 3
  case neg =>
    have hf : fitsL s x = true := by unfold fitsL; rw [h1, hy, h5]; simp [h2', h3, h4', h6]
    rw [hf] at hK
    simp (maxSteps := 2000000) (implicitDefEqProofs := false) [DN, NB, begT, atHead, kd, wantedA, evP, evR, evF, evL, evC, evBin, evUn, evEq, evSt, evRes, plain, scp, scpA, scpL, rdRow, rdCells, veq, veqA, veqL, isHole, Value.cells, evalL, optI, evBounds, evFill, evFillR, evApp, newsOf, wrCells, one1, fitsApp, evClr, undef, onB_bool, List.getElem?_concat_length, List.getElem?_cons_zero, List.getElem?_cons_succ, List.getElem?_toArray, List.getElem?_nil, List.set_cons_zero, List.set_cons_succ, List.cons_append, List.nil_append, -getElem?_pos, -getElem?_neg, hxv, boxL]
    refine (way_ _ _).mono ?_
    rintro _ _ ⟨rfl, rfl⟩
    simp (maxSteps := 2000000) (implicitDefEqProofs := false) [DN, NB, begT, atHead, kd, wantedA, evP, evR, evF, evL, evC, evBin, evUn, evEq, evSt, evRes, plain, scp, scpA, scpL, rdRow, rdCells, veq, veqA, veqL, isHole, Value.cells, evalL, optI, evBounds, evFill, evFillR, evApp, newsOf, wrCells, one1, fitsApp, evClr, undef, onB_bool, List.getElem?_concat_length, List.getElem?_cons_zero, List.getElem?_cons_succ, List.getElem?_toArray, List.getElem?_nil, List.set_cons_zero, List.set_cons_succ, List.cons_append, List.nil_append, -getElem?_pos, -getElem?_neg, ints_length, h1, h2, h2', h3, h3', h4, h4', hy', h5, h6]
    exact hK _
  have hw : (wayOf x.k).1 = 2 := by rw [h6]; rfl
  have hm := ok.que x.t.toNat (by rw [hy, h5, hw])
  rw [hq] at hm
  cases hm
end Fx
end Go.Proofs.Ytekhadlpcdjlpaa
