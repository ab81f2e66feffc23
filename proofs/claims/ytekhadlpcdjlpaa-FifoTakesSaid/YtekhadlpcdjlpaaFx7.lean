/- fifo: FifoBegins, on the blocks. -/
import Derived.Test.YtekhadlpcdjlpaaFx6
import Derived.Test.YtekhadlpcdjlpaaFx0
namespace Go.Proofs.Ytekhadlpcdjlpaa
namespace Fx
open Go Abs Code
set_option linter.unusedVariables false
set_option linter.unusedSimpArgs false
set_option maxRecDepth 100000

theorem awakeK (h : AH) (K : Value → AH → Prop) (hK : ∀ h', K (.bool true) h') : AC Try.prog 71 [] h K := by
  have sb : Sub (fun b => b) [] h := ⟨fun j k hj => by simp at hj, fun i j hi => by simp at hi⟩
  have := AC.frame sb (fun b k hb => by simp at hb) rfl awake_
  refine this.mono ?_
  rintro v H' ⟨v0, h', rfl, _, rfl, rfl⟩
  simpa [ren] using hK _

set_option maxHeartbeats 4000000 in
theorem begins_ (n : Int) (l : List En) (A : Option Addr) (cap : Nat) (at_ : Int) (hcl : l.length ≤ cap) (hcap : cap < OPEN) (h0 : 0 ≤ at_) (h255 : at_ ≤ 255) (hA : (l = [] ∧ cap = 0 ∧ A = none) ∨ (∃ d, l = [] ∧ A = some ⟨0, 0, some d⟩) ∨ A = some ⟨0, 0, none⟩) :
    AC Try.prog 17 [.int .i64 n, .slice A l.length cap, .int .u8 at_] [.row (rowOf l)] (fun v _ => v = .bool true) := by
  by_cases c1 : 100 < (l.length : Int)
  · refine entry hmix cf17 ?_
    simp (maxSteps := 2000000) (implicitDefEqProofs := false) [DN, NB, begT, atHead, kd, wantedA, evP, evR, evF, evL, evC, evBin, evUn, evEq, evSt, evRes, plain, scp, scpA, scpL, rdRow, rdCells, veq, veqA, veqL, isHole, Value.cells, evalL, optI, evBounds, evFill, evFillR, evApp, newsOf, wrCells, one1, fitsApp, evClr, undef, onB_bool, List.getElem?_concat_length, List.getElem?_cons_zero, List.getElem?_cons_succ, List.getElem?_toArray, List.getElem?_nil, List.set_cons_zero, List.set_cons_succ, List.cons_append, List.nil_append, -getElem?_pos, -getElem?_neg, c1]
    refine awakeK _ _ fun h' => ?_
    simp (maxSteps := 2000000) (implicitDefEqProofs := false) [DN, NB, begT, atHead, kd, wantedA, evP, evR, evF, evL, evC, evBin, evUn, evEq, evSt, evRes, plain, scp, scpA, scpL, rdRow, rdCells, veq, veqA, veqL, isHole, Value.cells, evalL, optI, evBounds, evFill, evFillR, evApp, newsOf, wrCells, one1, fitsApp, evClr, undef, onB_bool, List.getElem?_concat_length, List.getElem?_cons_zero, List.getElem?_cons_succ, List.getElem?_toArray, List.getElem?_nil, List.set_cons_zero, List.set_cons_succ, List.cons_append, List.nil_append, -getElem?_pos, -getElem?_neg]
  by_cases c2 : n < 1
  · refine entry hmix cf17 ?_
    simp (maxSteps := 2000000) (implicitDefEqProofs := false) [DN, NB, begT, atHead, kd, wantedA, evP, evR, evF, evL, evC, evBin, evUn, evEq, evSt, evRes, plain, scp, scpA, scpL, rdRow, rdCells, veq, veqA, veqL, isHole, Value.cells, evalL, optI, evBounds, evFill, evFillR, evApp, newsOf, wrCells, one1, fitsApp, evClr, undef, onB_bool, List.getElem?_concat_length, List.getElem?_cons_zero, List.getElem?_cons_succ, List.getElem?_toArray, List.getElem?_nil, List.set_cons_zero, List.set_cons_succ, List.cons_append, List.nil_append, -getElem?_pos, -getElem?_neg, c1, c2]
    refine awakeK _ _ fun h' => ?_
    simp (maxSteps := 2000000) (implicitDefEqProofs := false) [DN, NB, begT, atHead, kd, wantedA, evP, evR, evF, evL, evC, evBin, evUn, evEq, evSt, evRes, plain, scp, scpA, scpL, rdRow, rdCells, veq, veqA, veqL, isHole, Value.cells, evalL, optI, evBounds, evFill, evFillR, evApp, newsOf, wrCells, one1, fitsApp, evClr, undef, onB_bool, List.getElem?_concat_length, List.getElem?_cons_zero, List.getElem?_cons_succ, List.getElem?_toArray, List.getElem?_nil, List.set_cons_zero, List.set_cons_succ, List.cons_append, List.nil_append, -getElem?_pos, -getElem?_neg]
  by_cases c3 : 64 < n
  · refine entry hmix cf17 ?_
    simp (maxSteps := 2000000) (implicitDefEqProofs := false) [DN, NB, begT, atHead, kd, wantedA, evP, evR, evF, evL, evC, evBin, evUn, evEq, evSt, evRes, plain, scp, scpA, scpL, rdRow, rdCells, veq, veqA, veqL, isHole, Value.cells, evalL, optI, evBounds, evFill, evFillR, evApp, newsOf, wrCells, one1, fitsApp, evClr, undef, onB_bool, List.getElem?_concat_length, List.getElem?_cons_zero, List.getElem?_cons_succ, List.getElem?_toArray, List.getElem?_nil, List.set_cons_zero, List.set_cons_succ, List.cons_append, List.nil_append, -getElem?_pos, -getElem?_neg, c1, c2, c3]
    refine awakeK _ _ fun h' => ?_
    simp (maxSteps := 2000000) (implicitDefEqProofs := false) [DN, NB, begT, atHead, kd, wantedA, evP, evR, evF, evL, evC, evBin, evUn, evEq, evSt, evRes, plain, scp, scpA, scpL, rdRow, rdCells, veq, veqA, veqL, isHole, Value.cells, evalL, optI, evBounds, evFill, evFillR, evApp, newsOf, wrCells, one1, fitsApp, evClr, undef, onB_bool, List.getElem?_concat_length, List.getElem?_cons_zero, List.getElem?_cons_succ, List.getElem?_toArray, List.getElem?_nil, List.set_cons_zero, List.set_cons_succ, List.cons_append, List.nil_append, -getElem?_pos, -getElem?_neg]
  have hn1 : 1 ≤ n := by omega
  have hn2 : n ≤ 64 := by omega
  have hA1 : l.length = 0 ∨ A = some ⟨0, 0, none⟩ := by
    rcases hA with ⟨rfl, _⟩ | ⟨d, rfl, _⟩ | h
    · exact .inl rfl
    · exact .inl rfl
    · exact .inr h
  have hA2 : A = none ∨ ∃ sp, A = some ⟨0, 0, sp⟩ := by
    rcases hA with ⟨_, _, h⟩ | ⟨d, _, h⟩ | h
    · exact .inl h
    · exact .inr ⟨_, h⟩
    · exact .inr ⟨_, h⟩
  have htl : l.take l.length = l := List.take_length
  have e1 : countN n l = countL (newL n) l := by simp [countN, hn1, hn2]
  have e2 : allN n l = decide (countL (newL n) l = l.length) := by simp [allN, hn1, hn2]
  have hle := countL_le (newL n) l
  have d1 : ¬ ((countL (newL n) l : Nat) : Int) < 0 := by omega
  have d2 : ¬ (l.length : Int) < (countL (newL n) l : Nat) := by omega
  have w1 : IntKind.i64.wrap ((l.length : Int) + 1) = ((l.length : Nat) : Int) + 1 := IntWalk.i64_in _ (by omega)
  have w2 : IntKind.i64.wrap at_ = at_ := IntWalk.i64_in _ (by omega)
  obtain ⟨kk, hk⟩ : ∃ kk : Nat, at_ % ((l.length : Int) + 1) = kk := ⟨(at_ % ((l.length : Int) + 1)).toNat, by have := Int.emod_nonneg at_ (show ((l.length : Int) + 1) ≠ 0 by omega); omega⟩
  have hkk : kk ≤ l.length := by have := Int.emod_lt_of_pos at_ (show 0 < ((l.length : Int) + 1) by omega); omega
  have t1 : at_.tmod ((l.length : Int) + 1) = kk := by rw [Int.tmod_eq_emod_of_nonneg h0, hk]
  have hdec : ((countL (newL n) l : Int) == (l.length : Int)) = decide (countL (newL n) l = l.length) := by rw [Bool.eq_iff_iff]; simp; omega
  have k0 : (0 : Int) ≤ kk := by omega
  have k1 : (kk : Int) ≤ l.length := by omega
  have nz : ¬ ((l.length : Int) + 1 = 0) := by omega
  have e3 : countN n (l.take kk) = min kk (countL (newL n) l) := by simp [countN, hn1, hn2, countL_take]
  have e4 : allN n (l.take kk) = decide (kk ≤ countL (newL n) l) := by
    unfold allN
    rw [countL_take, List.length_take, Nat.min_eq_left hkk]
    simp only [hn1, hn2, true_and, decide_eq_decide]
    omega
  have hmm : evMm false [.int .i64 (kk : Int), .int .i64 ((countL (newL n) l : Nat) : Int)] = some (.int .i64 ((min kk (countL (newL n) l) : Nat) : Int)) := by
    simp [evMm, evMmL]
    split <;> omega
  rcases hA with ⟨hl0, hc0, rfl⟩ | ⟨d, hl0, rfl⟩ | rfl
  · subst hl0 hc0
    have zc : countN n [] = 0 := by simp [countN, countL]
    have za : allN n [] = true := by simp [allN, hn1, hn2, countL]
    have wz : IntKind.i64.wrap 1 = 1 := by decide
    refine entry hmix cf17 ?_
    simp (maxSteps := 2000000) (implicitDefEqProofs := false) [DN, NB, begT, atHead, kd, wantedA, evP, evR, evF, evL, evC, evBin, evUn, evEq, evSt, evRes, plain, scp, scpA, scpL, rdRow, rdCells, veq, veqA, veqL, isHole, Value.cells, evalL, optI, evBounds, evFill, evFillR, evApp, newsOf, wrCells, one1, fitsApp, evClr, undef, onB_bool, List.getElem?_concat_length, List.getElem?_cons_zero, List.getElem?_cons_succ, List.getElem?_toArray, List.getElem?_nil, List.set_cons_zero, List.set_cons_succ, List.cons_append, List.nil_append, -getElem?_pos, -getElem?_neg, c2, c3]
    refine checkAt_ n [] (none) 0 0 (Nat.le_refl _) (by omega) (.inl rfl) (by simp) _ _ fun tl => ?_
    simp (maxSteps := 2000000) (implicitDefEqProofs := false) [DN, NB, begT, atHead, kd, wantedA, evP, evR, evF, evL, evC, evBin, evUn, evEq, evSt, evRes, plain, scp, scpA, scpL, rdRow, rdCells, veq, veqA, veqL, isHole, Value.cells, evalL, optI, evBounds, evFill, evFillR, evApp, newsOf, wrCells, one1, fitsApp, evClr, undef, onB_bool, List.getElem?_concat_length, List.getElem?_cons_zero, List.getElem?_cons_succ, List.getElem?_toArray, List.getElem?_nil, List.set_cons_zero, List.set_cons_succ, List.cons_append, List.nil_append, -getElem?_pos, -getElem?_neg, zc, za, wz, w2, Int.tmod_one, bnd, show 0 < OPEN from by unfold OPEN; omega]
    refine checkAt_ n [] (none) 0 0 (Nat.le_refl _) (by omega) (.inl rfl) (by simp) _ _ fun tl2 => ?_
    simp (maxSteps := 2000000) (implicitDefEqProofs := false) [DN, NB, begT, atHead, kd, wantedA, evP, evR, evF, evL, evC, evBin, evUn, evEq, evSt, evRes, plain, scp, scpA, scpL, rdRow, rdCells, veq, veqA, veqL, isHole, Value.cells, evalL, optI, evBounds, evFill, evFillR, evApp, newsOf, wrCells, one1, fitsApp, evClr, undef, onB_bool, List.getElem?_concat_length, List.getElem?_cons_zero, List.getElem?_cons_succ, List.getElem?_toArray, List.getElem?_nil, List.set_cons_zero, List.set_cons_succ, List.cons_append, List.nil_append, -getElem?_pos, -getElem?_neg, zc, za, evMm, evMmL]
    refine awakeK _ _ fun h' => ?_
    simp (maxSteps := 2000000) (implicitDefEqProofs := false) [DN, NB, begT, atHead, kd, wantedA, evP, evR, evF, evL, evC, evBin, evUn, evEq, evSt, evRes, plain, scp, scpA, scpL, rdRow, rdCells, veq, veqA, veqL, isHole, Value.cells, evalL, optI, evBounds, evFill, evFillR, evApp, newsOf, wrCells, one1, fitsApp, evClr, undef, onB_bool, List.getElem?_concat_length, List.getElem?_cons_zero, List.getElem?_cons_succ, List.getElem?_toArray, List.getElem?_nil, List.set_cons_zero, List.set_cons_succ, List.cons_append, List.nil_append, -getElem?_pos, -getElem?_neg]
  · subst hl0
    have zc : countN n [] = 0 := by simp [countN, countL]
    have za : allN n [] = true := by simp [allN, hn1, hn2, countL]
    have wz : IntKind.i64.wrap 1 = 1 := by decide
    refine entry hmix cf17 ?_
    simp (maxSteps := 2000000) (implicitDefEqProofs := false) [DN, NB, begT, atHead, kd, wantedA, evP, evR, evF, evL, evC, evBin, evUn, evEq, evSt, evRes, plain, scp, scpA, scpL, rdRow, rdCells, veq, veqA, veqL, isHole, Value.cells, evalL, optI, evBounds, evFill, evFillR, evApp, newsOf, wrCells, one1, fitsApp, evClr, undef, onB_bool, List.getElem?_concat_length, List.getElem?_cons_zero, List.getElem?_cons_succ, List.getElem?_toArray, List.getElem?_nil, List.set_cons_zero, List.set_cons_succ, List.cons_append, List.nil_append, -getElem?_pos, -getElem?_neg, c2, c3]
    refine checkAt_ n [] (some ⟨0, 0, some d⟩) 0 cap (Nat.le_refl _) (by omega) (.inl rfl) (by simp) _ _ fun tl => ?_
    simp (maxSteps := 2000000) (implicitDefEqProofs := false) [DN, NB, begT, atHead, kd, wantedA, evP, evR, evF, evL, evC, evBin, evUn, evEq, evSt, evRes, plain, scp, scpA, scpL, rdRow, rdCells, veq, veqA, veqL, isHole, Value.cells, evalL, optI, evBounds, evFill, evFillR, evApp, newsOf, wrCells, one1, fitsApp, evClr, undef, onB_bool, List.getElem?_concat_length, List.getElem?_cons_zero, List.getElem?_cons_succ, List.getElem?_toArray, List.getElem?_nil, List.set_cons_zero, List.set_cons_succ, List.cons_append, List.nil_append, -getElem?_pos, -getElem?_neg, zc, za, wz, w2, Int.tmod_one, bnd, hcap]
    refine checkAt_ n [] (some ⟨0, 0, some d⟩) 0 cap (Nat.le_refl _) (by omega) (.inl rfl) (by simp) _ _ fun tl2 => ?_
    simp (maxSteps := 2000000) (implicitDefEqProofs := false) [DN, NB, begT, atHead, kd, wantedA, evP, evR, evF, evL, evC, evBin, evUn, evEq, evSt, evRes, plain, scp, scpA, scpL, rdRow, rdCells, veq, veqA, veqL, isHole, Value.cells, evalL, optI, evBounds, evFill, evFillR, evApp, newsOf, wrCells, one1, fitsApp, evClr, undef, onB_bool, List.getElem?_concat_length, List.getElem?_cons_zero, List.getElem?_cons_succ, List.getElem?_toArray, List.getElem?_nil, List.set_cons_zero, List.set_cons_succ, List.cons_append, List.nil_append, -getElem?_pos, -getElem?_neg, zc, za, evMm, evMmL]
    refine awakeK _ _ fun h' => ?_
    simp (maxSteps := 2000000) (implicitDefEqProofs := false) [DN, NB, begT, atHead, kd, wantedA, evP, evR, evF, evL, evC, evBin, evUn, evEq, evSt, evRes, plain, scp, scpA, scpL, rdRow, rdCells, veq, veqA, veqL, isHole, Value.cells, evalL, optI, evBounds, evFill, evFillR, evApp, newsOf, wrCells, one1, fitsApp, evClr, undef, onB_bool, List.getElem?_concat_length, List.getElem?_cons_zero, List.getElem?_cons_succ, List.getElem?_toArray, List.getElem?_nil, List.set_cons_zero, List.set_cons_succ, List.cons_append, List.nil_append, -getElem?_pos, -getElem?_neg]
  ·
    refine entry hmix cf17 ?_
    simp (maxSteps := 2000000) (implicitDefEqProofs := false) [DN, NB, begT, atHead, kd, wantedA, evP, evR, evF, evL, evC, evBin, evUn, evEq, evSt, evRes, plain, scp, scpA, scpL, rdRow, rdCells, veq, veqA, veqL, isHole, Value.cells, evalL, optI, evBounds, evFill, evFillR, evApp, newsOf, wrCells, one1, fitsApp, evClr, undef, onB_bool, List.getElem?_concat_length, List.getElem?_cons_zero, List.getElem?_cons_succ, List.getElem?_toArray, List.getElem?_nil, List.set_cons_zero, List.set_cons_succ, List.cons_append, List.nil_append, -getElem?_pos, -getElem?_neg, c1, c2, c3]
    refine checkAt_ n l (some ⟨0, 0, none⟩) l.length (cap) (Nat.le_refl _) (by omega) hA1 hA2 _ _ fun tl => ?_
    simp (maxSteps := 2000000) (implicitDefEqProofs := false) [DN, NB, begT, atHead, kd, wantedA, evP, evR, evF, evL, evC, evBin, evUn, evEq, evSt, evRes, plain, scp, scpA, scpL, rdRow, rdCells, veq, veqA, veqL, isHole, Value.cells, evalL, optI, evBounds, evFill, evFillR, evApp, newsOf, wrCells, one1, fitsApp, evClr, undef, onB_bool, List.getElem?_concat_length, List.getElem?_cons_zero, List.getElem?_cons_succ, List.getElem?_toArray, List.getElem?_nil, List.set_cons_zero, List.set_cons_succ, List.cons_append, List.nil_append, -getElem?_pos, -getElem?_neg, htl, e1, e2, d1, d2, w1, w2, t1, hdec, bnd, k0, k1, nz, hcap, show (kk : Int) ≤ cap from by omega]
    refine checkAt_ n l (some ⟨0, 0, none⟩) kk (cap) hkk (by omega) (by simp) (by simp) _ _ fun tl2 => ?_
    simp (maxSteps := 2000000) (implicitDefEqProofs := false) [DN, NB, begT, atHead, kd, wantedA, evP, evR, evF, evL, evC, evBin, evUn, evEq, evSt, evRes, plain, scp, scpA, scpL, rdRow, rdCells, veq, veqA, veqL, isHole, Value.cells, evalL, optI, evBounds, evFill, evFillR, evApp, newsOf, wrCells, one1, fitsApp, evClr, undef, onB_bool, List.getElem?_concat_length, List.getElem?_cons_zero, List.getElem?_cons_succ, List.getElem?_toArray, List.getElem?_nil, List.set_cons_zero, List.set_cons_succ, List.cons_append, List.nil_append, -getElem?_pos, -getElem?_neg, e3, e4, hmm]
    refine awakeK _ _ fun h' => ?_
    simp (maxSteps := 2000000) (implicitDefEqProofs := false) [DN, NB, begT, atHead, kd, wantedA, evP, evR, evF, evL, evC, evBin, evUn, evEq, evSt, evRes, plain, scp, scpA, scpL, rdRow, rdCells, veq, veqA, veqL, isHole, Value.cells, evalL, optI, evBounds, evFill, evFillR, evApp, newsOf, wrCells, one1, fitsApp, evClr, undef, onB_bool, List.getElem?_concat_length, List.getElem?_cons_zero, List.getElem?_cons_succ, List.getElem?_toArray, List.getElem?_nil, List.set_cons_zero, List.set_cons_succ, List.cons_append, List.nil_append, -getElem?_pos, -getElem?_neg]

end Fx
end Go.Proofs.Ytekhadlpcdjlpaa
