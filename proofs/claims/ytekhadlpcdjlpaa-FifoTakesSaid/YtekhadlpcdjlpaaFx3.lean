/- fifo: slices.IndexFunc and slices.DeleteFunc, with the closure of Take. -/
import Derived.Test.YtekhadlpcdjlpaaFx2
import Derived.IntWalk
import Derived.RowKit
namespace Go.Proofs.Ytekhadlpcdjlpaa
namespace Fx
open Go Abs Code
set_option linter.unusedVariables false
set_option linter.unusedSimpArgs false
set_option maxRecDepth 100000

theorem clo_ (v x k now : Int) (b0 b1 b2 : ABlk) (tl : AH) (K : Value → AH → Prop) (hK : K (.bool (v == x)) (b0 :: b1 :: b2 :: .cells [.int .i64 k, .int .i64 x, .int .i64 now] 122 none :: tl)) :
    AC Try.prog 110 [.int .i64 v, .pointer (some ⟨3, 0, none⟩)] (b0 :: b1 :: b2 :: .cells [.int .i64 k, .int .i64 x, .int .i64 now] 122 none :: tl) K := by
  refine entry hmix cf110 ?_
  simp (maxSteps := 2000000) (implicitDefEqProofs := false) [DN, NB, begT, atHead, kd, wantedA, evP, evR, evF, evL, evC, evBin, evUn, evEq, evSt, evRes, plain, scp, scpA, scpL, rdRow, rdCells, veq, veqA, veqL, isHole, Value.cells, evalL, optI, evBounds, evFill, evFillR, evApp, newsOf, wrCells, one1, fitsApp, evClr, undef, onB_bool, List.getElem?_concat_length, List.getElem?_cons_zero, List.getElem?_cons_succ, List.getElem?_toArray, List.getElem?_nil, List.set_cons_zero, List.set_cons_succ, List.cons_append, List.nil_append, -getElem?_pos, -getElem?_neg]
  exact hK

theorem index_ (b0 b1 : ABlk) (q stale : List Int) (c : Nat) (k x now : Int) (tl : AH) (K : Value → AH → Prop) (hq : q.length ≤ 1000) (hm : x ∈ q)
    (hK : ∀ i : Nat, q[i]? = some x → (∀ j, j < i → q[j]? ≠ some x) → K (.int .i64 i) (b0 :: b1 :: .cells (ints (q ++ stale)) 3 (some 1) :: .cells [.int .i64 k, .int .i64 x, .int .i64 now] 122 none :: tl)) :
    AC Try.prog 117 [.slice (some ⟨2, 0, none⟩) q.length (OPEN + c), .func (.func 110) #[] #[.pointer (some ⟨3, 0, none⟩)]] (b0 :: b1 :: .cells (ints (q ++ stale)) 3 (some 1) :: .cells [.int .i64 k, .int .i64 x, .int .i64 now] 122 none :: tl) K := by
  refine entry hmix cf117 ?_
  simp (maxSteps := 2000000) (implicitDefEqProofs := false) [DN, NB, begT, atHead, kd, wantedA, evP, evR, evF, evL, evC, evBin, evUn, evEq, evSt, evRes, plain, scp, scpA, scpL, rdRow, rdCells, veq, veqA, veqL, isHole, Value.cells, evalL, optI, evBounds, evFill, evFillR, evApp, newsOf, wrCells, one1, fitsApp, evClr, undef, onB_bool, List.getElem?_concat_length, List.getElem?_cons_zero, List.getElem?_cons_succ, List.getElem?_toArray, List.getElem?_nil, List.set_cons_zero, List.set_cons_succ, List.cons_append, List.nil_append, -getElem?_pos, -getElem?_neg]
  refine loop_inv hmix (fun n t h => h = (b0 :: b1 :: .cells (ints (q ++ stale)) 3 (some 1) :: .cells [.int .i64 k, .int .i64 x, .int .i64 now] 122 none :: tl) ∧ ∃ (i : Nat) (j2 j3 j5 j9 j10 j11 j12 j13 j14 j15 j16 j17 j18 : Option Value), i ≤ q.length ∧ n = q.length - i ∧ (∀ j, j < i → q[j]? ≠ some x) ∧ t = [some (.slice (some ⟨2, 0, none⟩) q.length (OPEN + c)), some (.func (.func 110) #[] #[.pointer (some ⟨3, 0, none⟩)]), j2, j3, some (.int .i64 0), j5, some (.slice (some ⟨2, 0, none⟩) q.length (OPEN + c)), some (.int .i64 q.length), some (.int .i64 (i : Nat)), j9, j10, j11, j12, j13, j14, j15, j16, j17, j18]) (fun n => n) q.length ⟨rfl, 0, _, _, _, _, _, _, _, _, _, _, _, _, _, by omega, by omega, by omega, rfl⟩ ?_
  rintro n t h ⟨rfl, i, j2, j3, j5, j9, j10, j11, j12, j13, j14, j15, j16, j17, j18, hi, rfl, hno, rfl⟩
  by_cases hlt : i < q.length
  case neg =>
    exfalso
    obtain ⟨j, hj⟩ := List.getElem?_of_mem hm
    exact hno j (by have := (List.getElem?_eq_some_iff.1 hj).1; omega) hj
  have hlt' : (i : Int) < q.length := by omega
  have h0 : (0 : Int) ≤ i := by omega
  obtain ⟨v, hv⟩ : ∃ v, q[i]? = some v := ⟨_, List.getElem?_eq_getElem hlt⟩
  have hv' : (ints (q ++ stale))[i]? = some (.int .i64 v) := by rw [ints_get, List.getElem?_append_left hlt, hv]; rfl
  simp (maxSteps := 2000000) (implicitDefEqProofs := false) [DN, NB, begT, atHead, kd, wantedA, evP, evR, evF, evL, evC, evBin, evUn, evEq, evSt, evRes, plain, scp, scpA, scpL, rdRow, rdCells, veq, veqA, veqL, isHole, Value.cells, evalL, optI, evBounds, evFill, evFillR, evApp, newsOf, wrCells, one1, fitsApp, evClr, undef, onB_bool, List.getElem?_concat_length, List.getElem?_cons_zero, List.getElem?_cons_succ, List.getElem?_toArray, List.getElem?_nil, List.set_cons_zero, List.set_cons_succ, List.cons_append, List.nil_append, -getElem?_pos, -getElem?_neg, hlt', h0, hv']
  refine clo_ _ _ _ _ _ _ _ _ _ ?_
  by_cases hvx : v = x
  · have hb : (v == x) = true := by simp [hvx]
    simp (maxSteps := 2000000) (implicitDefEqProofs := false) [DN, NB, begT, atHead, kd, wantedA, evP, evR, evF, evL, evC, evBin, evUn, evEq, evSt, evRes, plain, scp, scpA, scpL, rdRow, rdCells, veq, veqA, veqL, isHole, Value.cells, evalL, optI, evBounds, evFill, evFillR, evApp, newsOf, wrCells, one1, fitsApp, evClr, undef, onB_bool, List.getElem?_concat_length, List.getElem?_cons_zero, List.getElem?_cons_succ, List.getElem?_toArray, List.getElem?_nil, List.set_cons_zero, List.set_cons_succ, List.cons_append, List.nil_append, -getElem?_pos, -getElem?_neg, hb]
    exact hK i (by rw [hv, hvx]) hno
  · have hb : (v == x) = false := by simp [hvx]
    simp (maxSteps := 2000000) (implicitDefEqProofs := false) [DN, NB, begT, atHead, kd, wantedA, evP, evR, evF, evL, evC, evBin, evUn, evEq, evSt, evRes, plain, scp, scpA, scpL, rdRow, rdCells, veq, veqA, veqL, isHole, Value.cells, evalL, optI, evBounds, evFill, evFillR, evApp, newsOf, wrCells, one1, fitsApp, evClr, undef, onB_bool, List.getElem?_concat_length, List.getElem?_cons_zero, List.getElem?_cons_succ, List.getElem?_toArray, List.getElem?_nil, List.set_cons_zero, List.set_cons_succ, List.cons_append, List.nil_append, -getElem?_pos, -getElem?_neg, hb]
    refine ⟨q.length - (i + 1), by omega, i + 1, by omega, rfl, fun j hj e => ?_, IntWalk.i64_in _ (by omega)⟩
    by_cases hji : j = i
    · subst hji
      rw [hv] at e
      injection e with e
      exact hvx e
    · exact hno j (by omega) e

theorem ints_set (l : List Int) (i : Nat) (v : Int) : (ints l).set i (.int .i64 v) = ints (l.set i v) := by simp [ints, List.map_set]

theorem filter_start {q : List Int} {t : Int} {i : Nat} (h : q[i]? = some t) (hno : ∀ j, j < i → q[j]? ≠ some t) : q.take i = (q.take (i + 1)).filter (· != t) := by
  rw [List.take_add_one, h]
  simp only [Option.toList_some, List.filter_append]
  have e1 : (q.take i).filter (· != t) = q.take i := by
    rw [List.filter_eq_self]
    intro x hx
    obtain ⟨j, hj⟩ := List.getElem?_of_mem hx
    rw [List.getElem?_take] at hj
    split at hj
    · rename_i hlt
      have := hno j hlt
      rw [hj] at this
      simp
      intro e
      exact this (by rw [e])
    · cases hj
  rw [e1]
  simp

def InvD (b0 b1 : ABlk) (q stale : List Int) (k x now : Int) (tl : AH) (n : Nat) (t : T) (h : AH) : Prop := ∃ (vs : List Int) (i j : Nat) (j2 j3 j4 j7 j8 j9 j10 j11 j12 j13 j14 j15 j16 j17 j18 j19 j20 j21 j22 j23 j24 j25 j26 j27 j28 j29 j30 j31 j32 j33 j34 j35 j36 j37 j38 j39 j40 j41 : Option Value), h = (b0 :: b1 :: .cells (ints vs) 3 (some 1) :: .cells [.int .i64 k, .int .i64 x, .int .i64 now] 122 none :: tl) ∧ vs.length = q.length + stale.length ∧ i < j ∧ j ≤ q.length ∧ n = q.length - j ∧ vs.take i = (q.take j).filter (· != x) ∧ i = ((q.take j).filter (· != x)).length ∧ (∀ m, j ≤ m → vs[m]? = (q ++ stale)[m]?) ∧ t = [some (.slice (some ⟨2, 0, none⟩) q.length (OPEN + (q.length + stale.length))), some (.func (.func 110) #[] #[.pointer (some ⟨3, 0, none⟩)]), j2, j3, j4, some (.int .i64 (i : Nat)), some (.int .i64 (j : Nat)), j7, j8, j9, j10, j11, j12, j13, j14, j15, j16, j17, j18, j19, j20, j21, j22, j23, j24, j25, j26, j27, j28, j29, j30, j31, j32, j33, j34, j35, j36, j37, j38, j39, j40, j41]

theorem delete_ (b0 b1 : ABlk) (q stale : List Int) (k x now : Int) (tl : AH) (K : Value → AH → Prop) (hq : q.length ≤ 1000) (hm : x ∈ q)
    (hK : ∀ stale2 : List Int, (q.filter (· != x)).length + stale2.length = q.length + stale.length → K (.slice (some ⟨2, 0, none⟩) (q.filter (· != x)).length (OPEN + (q.length + stale.length))) (b0 :: b1 :: .cells (ints (q.filter (· != x) ++ stale2)) 3 (some 1) :: .cells [.int .i64 k, .int .i64 x, .int .i64 now] 122 none :: tl)) :
    AC Try.prog 109 [.slice (some ⟨2, 0, none⟩) q.length (OPEN + (q.length + stale.length)), .func (.func 110) #[] #[.pointer (some ⟨3, 0, none⟩)]] (b0 :: b1 :: .cells (ints (q ++ stale)) 3 (some 1) :: .cells [.int .i64 k, .int .i64 x, .int .i64 now] 122 none :: tl) K := by
  refine entry hmix cf109 ?_
  simp (maxSteps := 2000000) (implicitDefEqProofs := false) [DN, NB, begT, atHead, kd, wantedA, evP, evR, evF, evL, evC, evBin, evUn, evEq, evSt, evRes, plain, scp, scpA, scpL, rdRow, rdCells, veq, veqA, veqL, isHole, Value.cells, evalL, optI, evBounds, evFill, evFillR, evApp, newsOf, wrCells, one1, fitsApp, evClr, undef, onB_bool, List.getElem?_concat_length, List.getElem?_cons_zero, List.getElem?_cons_succ, List.getElem?_toArray, List.getElem?_nil, List.set_cons_zero, List.set_cons_succ, List.cons_append, List.nil_append, -getElem?_pos, -getElem?_neg]
  refine index_ _ _ _ _ _ _ _ _ _ _ hq hm fun i0 hi0 hno0 => ?_
  have hi0l : i0 < q.length := (List.getElem?_eq_some_iff.1 hi0).1
  have hneg : ((i0 : Int) == -1) = false := by simp
  have hw0 : IntKind.i64.wrap ((i0 : Int) + 1) = ((i0 + 1 : Nat) : Int) := by rw [IntWalk.i64_in _ (by omega)]; omega
  simp (maxSteps := 2000000) (implicitDefEqProofs := false) [DN, NB, begT, atHead, kd, wantedA, evP, evR, evF, evL, evC, evBin, evUn, evEq, evSt, evRes, plain, scp, scpA, scpL, rdRow, rdCells, veq, veqA, veqL, isHole, Value.cells, evalL, optI, evBounds, evFill, evFillR, evApp, newsOf, wrCells, one1, fitsApp, evClr, undef, onB_bool, List.getElem?_concat_length, List.getElem?_cons_zero, List.getElem?_cons_succ, List.getElem?_toArray, List.getElem?_nil, List.set_cons_zero, List.set_cons_succ, List.cons_append, List.nil_append, -getElem?_pos, -getElem?_neg, hneg, hw0]
  refine loop_inv hmix (InvD b0 b1 q stale k x now tl) (fun n => n) (q.length - (i0 + 1))
    ⟨q ++ stale, i0, i0 + 1, _, _, _, _, _, _, _, _, _, _, _, _, _, _, _, _, _, _, _, _, _, _, _, _, _, _, _, _, _, _, _, _, _, _, _, _, _, _, rfl, by simp, by omega, by omega, rfl, ?_, ?_, fun _ _ => rfl, rfl⟩ ?_
  · rw [List.take_append_of_le_length (by omega)]
    exact filter_start hi0 hno0
  · rw [← filter_start hi0 hno0]
    simp
    try omega
  rintro n t h ⟨vs, i, j, j2, j3, j4, j7, j8, j9, j10, j11, j12, j13, j14, j15, j16, j17, j18, j19, j20, j21, j22, j23, j24, j25, j26, j27, j28, j29, j30, j31, j32, j33, j34, j35, j36, j37, j38, j39, j40, j41, rfl, hvl, hij, hjq, rfl, htk, hil, hrest, rfl⟩
  have hop : ¬ (OPEN + (q.length + stale.length) < OPEN) := by omega
  have hi0' : (0 : Int) ≤ i := by omega
  have hiq' : (i : Int) ≤ q.length := by omega
  have hil0 : i < q.length + stale.length := by omega
  have hrep : ¬ (q.length - i = 0) := by omega
  by_cases hlt : j < q.length
  case neg =>
    have hjn : j = q.length := by omega
    have hlt' : ¬ (j : Int) < q.length := by omega
    have hfit : i + (q.length - i) ≤ (ints vs).length := by rw [ints_length]; omega
    have hpos : 0 < q.length + stale.length := by omega
    simp (maxSteps := 2000000) (implicitDefEqProofs := false) [DN, NB, begT, atHead, kd, wantedA, evP, evR, evF, evL, evC, evBin, evUn, evEq, evSt, evRes, plain, scp, scpA, scpL, rdRow, rdCells, veq, veqA, veqL, isHole, Value.cells, evalL, optI, evBounds, evFill, evFillR, evApp, newsOf, wrCells, one1, fitsApp, evClr, undef, onB_bool, List.getElem?_concat_length, List.getElem?_cons_zero, List.getElem?_cons_succ, List.getElem?_toArray, List.getElem?_nil, List.set_cons_zero, List.set_cons_succ, List.cons_append, List.nil_append, -getElem?_pos, -getElem?_neg, hlt', bnd, hop, hi0', hiq', hil0, hrep, hfit, hpos]
    rw [splice_eq _ _ _ (by simpa using hfit)]
    rw [hjn, List.take_of_length_le (Nat.le_refl _)] at htk hil
    have e : (ints vs).take i ++ List.replicate (q.length - i) (Value.int IntKind.i64 0) ++ (ints vs).drop (i + (List.replicate (q.length - i) (Value.int IntKind.i64 0)).length) = ints (q.filter (· != x) ++ (List.replicate (q.length - i) 0 ++ vs.drop (i + (q.length - i)))) := by
      rw [← htk]
      simp [ints, List.map_take, List.map_drop]
    rw [e]
    have := hK (List.replicate (q.length - i) 0 ++ vs.drop (i + (q.length - i))) (by rw [← hil]; simp; omega)
    rw [← hil] at this
    exact this
  have hlt' : (j : Int) < q.length := by omega
  have h0 : (0 : Int) ≤ j := by omega
  obtain ⟨v, hv⟩ : ∃ v, q[j]? = some v := ⟨_, List.getElem?_eq_getElem hlt⟩
  have hvj : vs[j]? = some v := by rw [hrest j (Nat.le_refl _), List.getElem?_append_left hlt, hv]
  have hv' : (ints vs)[j]? = some (.int .i64 v) := by rw [ints_get, hvj]; rfl
  have hwj : IntKind.i64.wrap ((j : Int) + 1) = ((j + 1 : Nat) : Int) := by rw [IntWalk.i64_in _ (by omega)]; omega
  have hwi : IntKind.i64.wrap ((i : Int) + 1) = ((i + 1 : Nat) : Int) := by rw [IntWalk.i64_in _ (by omega)]; omega
  have hi0' : (0 : Int) ≤ i := by omega
  have hiq : (i : Int) < q.length := by omega
  have hiv : i + 1 ≤ vs.length := by omega
  have htj : q.take (j + 1) = q.take j ++ [v] := by rw [List.take_add_one, hv]; rfl
  simp (maxSteps := 2000000) (implicitDefEqProofs := false) [DN, NB, begT, atHead, kd, wantedA, evP, evR, evF, evL, evC, evBin, evUn, evEq, evSt, evRes, plain, scp, scpA, scpL, rdRow, rdCells, veq, veqA, veqL, isHole, Value.cells, evalL, optI, evBounds, evFill, evFillR, evApp, newsOf, wrCells, one1, fitsApp, evClr, undef, onB_bool, List.getElem?_concat_length, List.getElem?_cons_zero, List.getElem?_cons_succ, List.getElem?_toArray, List.getElem?_nil, List.set_cons_zero, List.set_cons_succ, List.cons_append, List.nil_append, -getElem?_pos, -getElem?_neg, hlt', h0, hv']
  refine clo_ _ _ _ _ _ _ _ _ _ ?_
  by_cases hvx : v = x
  · have hb : (v == x) = true := by simp [hvx]
    simp (maxSteps := 2000000) (implicitDefEqProofs := false) [DN, NB, begT, atHead, kd, wantedA, evP, evR, evF, evL, evC, evBin, evUn, evEq, evSt, evRes, plain, scp, scpA, scpL, rdRow, rdCells, veq, veqA, veqL, isHole, Value.cells, evalL, optI, evBounds, evFill, evFillR, evApp, newsOf, wrCells, one1, fitsApp, evClr, undef, onB_bool, List.getElem?_concat_length, List.getElem?_cons_zero, List.getElem?_cons_succ, List.getElem?_toArray, List.getElem?_nil, List.set_cons_zero, List.set_cons_succ, List.cons_append, List.nil_append, -getElem?_pos, -getElem?_neg, hb, hwj]
    refine ⟨q.length - (j + 1), by omega, vs, i, j + 1, _, _, _, _, _, _, _, _, _, _, _, _, _, _, _, _, _, _, _, _, _, _, _, _, _, _, _, _, _, _, _, _, _, _, _, _, _, _, rfl, hvl, by omega, by omega, rfl, ?_, ?_, fun m hm => hrest m (by omega), rfl⟩
    · rw [htk, htj]; simp [hvx]
    · rw [hil, htj]; simp [hvx]
  · have hb : (v == x) = false := by simp [hvx]
    simp (maxSteps := 2000000) (implicitDefEqProofs := false) [DN, NB, begT, atHead, kd, wantedA, evP, evR, evF, evL, evC, evBin, evUn, evEq, evSt, evRes, plain, scp, scpA, scpL, rdRow, rdCells, veq, veqA, veqL, isHole, Value.cells, evalL, optI, evBounds, evFill, evFillR, evApp, newsOf, wrCells, one1, fitsApp, evClr, undef, onB_bool, List.getElem?_concat_length, List.getElem?_cons_zero, List.getElem?_cons_succ, List.getElem?_toArray, List.getElem?_nil, List.set_cons_zero, List.set_cons_succ, List.cons_append, List.nil_append, -getElem?_pos, -getElem?_neg, hb, hwj, hwi, hi0', hiq, ints_length, hiv, ints_set]
    refine ⟨q.length - (j + 1), by omega, vs.set i v, i + 1, j + 1, _, _, _, _, _, _, _, _, _, _, _, _, _, _, _, _, _, _, _, _, _, _, _, _, _, _, _, _, _, _, _, _, _, _, _, _, _, _, rfl, by simpa using hvl, by omega, by omega, rfl, ?_, ?_, fun m hm => ?_, rfl⟩
    · rw [List.take_add_one, List.getElem?_set_self (by omega), List.take_set_of_le (Nat.le_refl _), htk, htj]
      simp [hvx]
    · rw [htj, List.filter_append, List.length_append, ← hil]; simp [hvx]
    · rw [List.getElem?_set_ne (by omega)]
      exact hrest m (by omega)

end Fx
end Go.Proofs.Ytekhadlpcdjlpaa
