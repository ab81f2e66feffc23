/- order: OrderMore, on the blocks, whole. -/
import Derived.Test.YtekhadlpcdjlpaaOr9
namespace Go.Proofs.Ytekhadlpcdjlpaa
namespace Ox
open Go Abs Code
set_option linter.unusedVariables false
set_option linter.unusedSimpArgs false
set_option maxRecDepth 100000

theorem waitsN {l : List En} {n : Nat} {A : Option Addr} {cap : Nat} {H : AH} (hn : l.length = n) (hl : l.length ≤ 1000) (hcl : n ≤ cap) (hcap : cap < OPEN) (hA : RowAt H A n (rowOf l)) {K : Value → AH → Prop} (hK : ∀ v E, WOut (turnsL l) (waitsL l) H.length v E → K v (H ++ E)) : AC Try.prog 33 [.slice A n cap] H K := by
  subst hn
  exact waitsG hl hcl hcap hA hK
theorem overN {l : List En} {n : Nat} {A : Option Addr} {cap : Nat} {H : AH} (hn : l.length = n) (hl : l.length ≤ 1000) (hA : RowAt H A n (rowOf l)) {K : Value → AH → Prop} (hK : K (.int .i64 (overL (turnsL l) : Nat)) H) : AC Try.prog 34 [.slice A n cap] H K := by
  subst hn
  exact overG hl hA hK

set_option maxHeartbeats 8000000 in
theorem more_nil (A : Option Addr) (cap : Nat) (at_ : Int) (h0 : 0 ≤ at_) (h255 : at_ ≤ 255) (hcap : cap < OPEN) (hat0 : RowAt [.row (rowOf [])] A 0 (rowOf [])) (hA : (A = none ∧ cap = 0) ∨ (∃ d, A = some ⟨0, 0, some d⟩) ∨ A = some ⟨0, 0, none⟩) :
    AC Try.prog 6 [.slice A ([] : List En).length cap, .int .u8 at_] [.row (rowOf [])] (fun v _ => v = .bool true) := by
  have w0 : IntKind.i64.wrap at_ = at_ := IntWalk.i64_in _ (by omega)
  have wz : IntKind.i64.wrap 1 = 1 := rfl
  have w00 : IntKind.i64.wrap 0 = 0 := rfl
  have ho : overL (turnsL []) = 0 := rfl
  rcases hA with ⟨rfl, rfl⟩ | ⟨d, rfl⟩ | rfl
  · refine entry hmix cf6 ?_
    simp (maxSteps := 2000000) (implicitDefEqProofs := false) [DN, NB, begT, atHead, kd, wantedA, evP, evR, evF, evL, evC, evI, evBin, evUn, evEq, evSt, evRes, plain, scp, scpA, scpL, rdRow, rdCells, veq, veqA, veqL, isHole, Value.cells, evalL, optI, evBounds, evFill, evFillR, evApp, newsOf, wrCells, one1, fitsApp, evClr, undef, onB_bool, List.getElem?_concat_length, List.getElem?_cons_zero, List.getElem?_cons_succ, List.getElem?_toArray, List.getElem?_nil, List.set_cons_zero, List.set_cons_succ, List.cons_append, List.nil_append, -getElem?_pos, -getElem?_neg, w0, wz, w00, Int.tmod_one, bnd, hcap]
    refine waitsN (l := []) rfl (by simp) (Nat.zero_le _) hcap hat0 fun v1 E1 hw1 => ?_
    cases hw1 with
    | some_ h => exact absurd rfl h
    | nil _ =>
      simp (maxSteps := 2000000) (implicitDefEqProofs := false) [DN, NB, begT, atHead, kd, wantedA, evP, evR, evF, evL, evC, evI, evBin, evUn, evEq, evSt, evRes, plain, scp, scpA, scpL, rdRow, rdCells, veq, veqA, veqL, isHole, Value.cells, evalL, optI, evBounds, evFill, evFillR, evApp, newsOf, wrCells, one1, fitsApp, evClr, undef, onB_bool, List.getElem?_concat_length, List.getElem?_cons_zero, List.getElem?_cons_succ, List.getElem?_toArray, List.getElem?_nil, List.set_cons_zero, List.set_cons_succ, List.cons_append, List.nil_append, -getElem?_pos, -getElem?_neg]
      refine waitsN (l := []) rfl (by simp) (Nat.zero_le _) hcap hat0 fun v2 E2 hw2 => ?_
      cases hw2 with
      | some_ h => exact absurd rfl h
      | nil _ =>
        simp (maxSteps := 2000000) (implicitDefEqProofs := false) [DN, NB, begT, atHead, kd, wantedA, evP, evR, evF, evL, evC, evI, evBin, evUn, evEq, evSt, evRes, plain, scp, scpA, scpL, rdRow, rdCells, veq, veqA, veqL, isHole, Value.cells, evalL, optI, evBounds, evFill, evFillR, evApp, newsOf, wrCells, one1, fitsApp, evClr, undef, onB_bool, List.getElem?_concat_length, List.getElem?_cons_zero, List.getElem?_cons_succ, List.getElem?_toArray, List.getElem?_nil, List.set_cons_zero, List.set_cons_succ, List.cons_append, List.nil_append, -getElem?_pos, -getElem?_neg, bnd, hcap]
        refine overN (l := []) rfl (by simp) hat0 ?_
        rw [ho]
        simp (maxSteps := 2000000) (implicitDefEqProofs := false) [DN, NB, begT, atHead, kd, wantedA, evP, evR, evF, evL, evC, evI, evBin, evUn, evEq, evSt, evRes, plain, scp, scpA, scpL, rdRow, rdCells, veq, veqA, veqL, isHole, Value.cells, evalL, optI, evBounds, evFill, evFillR, evApp, newsOf, wrCells, one1, fitsApp, evClr, undef, onB_bool, List.getElem?_concat_length, List.getElem?_cons_zero, List.getElem?_cons_succ, List.getElem?_toArray, List.getElem?_nil, List.set_cons_zero, List.set_cons_succ, List.cons_append, List.nil_append, -getElem?_pos, -getElem?_neg]
        refine overN (l := []) rfl (by simp) hat0 ?_
        rw [ho]
        simp (maxSteps := 2000000) (implicitDefEqProofs := false) [DN, NB, begT, atHead, kd, wantedA, evP, evR, evF, evL, evC, evI, evBin, evUn, evEq, evSt, evRes, plain, scp, scpA, scpL, rdRow, rdCells, veq, veqA, veqL, isHole, Value.cells, evalL, optI, evBounds, evFill, evFillR, evApp, newsOf, wrCells, one1, fitsApp, evClr, undef, onB_bool, List.getElem?_concat_length, List.getElem?_cons_zero, List.getElem?_cons_succ, List.getElem?_toArray, List.getElem?_nil, List.set_cons_zero, List.set_cons_succ, List.cons_append, List.nil_append, -getElem?_pos, -getElem?_neg]
        refine loop3 hmix 69 (fun _ : Unit => True) (fun _ => 0) (fun _ => [(6, .slice none 0 0), (8, .int .i64 0), (42, .int .i64 0), (43, .int .i64 0)]) (fun _ => [.row (rowOf [])]) () trivial (rowHead rfl rfl ?_) ?_
        · simp only [List.mem_cons, List.not_mem_nil, or_false]
          rintro y (rfl | rfl | rfl | rfl) <;> simp [GB, scp]
        intro _ _
        simp (maxSteps := 2000000) (implicitDefEqProofs := false) [DN, NB, begT, atHead, kd, wantedA, evP, evR, evF, evL, evC, evI, evBin, evUn, evEq, evSt, evRes, plain, scp, scpA, scpL, rdRow, rdCells, veq, veqA, veqL, isHole, Value.cells, evalL, optI, evBounds, evFill, evFillR, evApp, newsOf, wrCells, one1, fitsApp, evClr, undef, onB_bool, List.getElem?_concat_length, List.getElem?_cons_zero, List.getElem?_cons_succ, List.getElem?_toArray, List.getElem?_nil, List.set_cons_zero, List.set_cons_succ, List.cons_append, List.nil_append, -getElem?_pos, -getElem?_neg]
        refine awakeK _ _ fun h' => ?_
        simp (maxSteps := 2000000) (implicitDefEqProofs := false) [DN, NB, begT, atHead, kd, wantedA, evP, evR, evF, evL, evC, evI, evBin, evUn, evEq, evSt, evRes, plain, scp, scpA, scpL, rdRow, rdCells, veq, veqA, veqL, isHole, Value.cells, evalL, optI, evBounds, evFill, evFillR, evApp, newsOf, wrCells, one1, fitsApp, evClr, undef, onB_bool, List.getElem?_concat_length, List.getElem?_cons_zero, List.getElem?_cons_succ, List.getElem?_toArray, List.getElem?_nil, List.set_cons_zero, List.set_cons_succ, List.cons_append, List.nil_append, -getElem?_pos, -getElem?_neg]
  · refine entry hmix cf6 ?_
    simp (maxSteps := 2000000) (implicitDefEqProofs := false) [DN, NB, begT, atHead, kd, wantedA, evP, evR, evF, evL, evC, evI, evBin, evUn, evEq, evSt, evRes, plain, scp, scpA, scpL, rdRow, rdCells, veq, veqA, veqL, isHole, Value.cells, evalL, optI, evBounds, evFill, evFillR, evApp, newsOf, wrCells, one1, fitsApp, evClr, undef, onB_bool, List.getElem?_concat_length, List.getElem?_cons_zero, List.getElem?_cons_succ, List.getElem?_toArray, List.getElem?_nil, List.set_cons_zero, List.set_cons_succ, List.cons_append, List.nil_append, -getElem?_pos, -getElem?_neg, w0, wz, w00, Int.tmod_one, bnd, hcap]
    refine waitsN (l := []) rfl (by simp) (Nat.zero_le _) hcap hat0 fun v1 E1 hw1 => ?_
    cases hw1 with
    | some_ h => exact absurd rfl h
    | nil _ =>
      simp (maxSteps := 2000000) (implicitDefEqProofs := false) [DN, NB, begT, atHead, kd, wantedA, evP, evR, evF, evL, evC, evI, evBin, evUn, evEq, evSt, evRes, plain, scp, scpA, scpL, rdRow, rdCells, veq, veqA, veqL, isHole, Value.cells, evalL, optI, evBounds, evFill, evFillR, evApp, newsOf, wrCells, one1, fitsApp, evClr, undef, onB_bool, List.getElem?_concat_length, List.getElem?_cons_zero, List.getElem?_cons_succ, List.getElem?_toArray, List.getElem?_nil, List.set_cons_zero, List.set_cons_succ, List.cons_append, List.nil_append, -getElem?_pos, -getElem?_neg]
      refine waitsN (l := []) rfl (by simp) (Nat.zero_le _) hcap hat0 fun v2 E2 hw2 => ?_
      cases hw2 with
      | some_ h => exact absurd rfl h
      | nil _ =>
        simp (maxSteps := 2000000) (implicitDefEqProofs := false) [DN, NB, begT, atHead, kd, wantedA, evP, evR, evF, evL, evC, evI, evBin, evUn, evEq, evSt, evRes, plain, scp, scpA, scpL, rdRow, rdCells, veq, veqA, veqL, isHole, Value.cells, evalL, optI, evBounds, evFill, evFillR, evApp, newsOf, wrCells, one1, fitsApp, evClr, undef, onB_bool, List.getElem?_concat_length, List.getElem?_cons_zero, List.getElem?_cons_succ, List.getElem?_toArray, List.getElem?_nil, List.set_cons_zero, List.set_cons_succ, List.cons_append, List.nil_append, -getElem?_pos, -getElem?_neg, bnd, hcap]
        refine overN (l := []) rfl (by simp) hat0 ?_
        rw [ho]
        simp (maxSteps := 2000000) (implicitDefEqProofs := false) [DN, NB, begT, atHead, kd, wantedA, evP, evR, evF, evL, evC, evI, evBin, evUn, evEq, evSt, evRes, plain, scp, scpA, scpL, rdRow, rdCells, veq, veqA, veqL, isHole, Value.cells, evalL, optI, evBounds, evFill, evFillR, evApp, newsOf, wrCells, one1, fitsApp, evClr, undef, onB_bool, List.getElem?_concat_length, List.getElem?_cons_zero, List.getElem?_cons_succ, List.getElem?_toArray, List.getElem?_nil, List.set_cons_zero, List.set_cons_succ, List.cons_append, List.nil_append, -getElem?_pos, -getElem?_neg]
        refine overN (l := []) rfl (by simp) hat0 ?_
        rw [ho]
        simp (maxSteps := 2000000) (implicitDefEqProofs := false) [DN, NB, begT, atHead, kd, wantedA, evP, evR, evF, evL, evC, evI, evBin, evUn, evEq, evSt, evRes, plain, scp, scpA, scpL, rdRow, rdCells, veq, veqA, veqL, isHole, Value.cells, evalL, optI, evBounds, evFill, evFillR, evApp, newsOf, wrCells, one1, fitsApp, evClr, undef, onB_bool, List.getElem?_concat_length, List.getElem?_cons_zero, List.getElem?_cons_succ, List.getElem?_toArray, List.getElem?_nil, List.set_cons_zero, List.set_cons_succ, List.cons_append, List.nil_append, -getElem?_pos, -getElem?_neg]
        refine loop3 hmix 69 (fun _ : Unit => True) (fun _ => 0) (fun _ => [(6, .slice none 0 0), (8, .int .i64 0), (42, .int .i64 0), (43, .int .i64 0)]) (fun _ => [.row (rowOf [])]) () trivial (rowHead rfl rfl ?_) ?_
        · simp only [List.mem_cons, List.not_mem_nil, or_false]
          rintro y (rfl | rfl | rfl | rfl) <;> simp [GB, scp]
        intro _ _
        simp (maxSteps := 2000000) (implicitDefEqProofs := false) [DN, NB, begT, atHead, kd, wantedA, evP, evR, evF, evL, evC, evI, evBin, evUn, evEq, evSt, evRes, plain, scp, scpA, scpL, rdRow, rdCells, veq, veqA, veqL, isHole, Value.cells, evalL, optI, evBounds, evFill, evFillR, evApp, newsOf, wrCells, one1, fitsApp, evClr, undef, onB_bool, List.getElem?_concat_length, List.getElem?_cons_zero, List.getElem?_cons_succ, List.getElem?_toArray, List.getElem?_nil, List.set_cons_zero, List.set_cons_succ, List.cons_append, List.nil_append, -getElem?_pos, -getElem?_neg]
        refine awakeK _ _ fun h' => ?_
        simp (maxSteps := 2000000) (implicitDefEqProofs := false) [DN, NB, begT, atHead, kd, wantedA, evP, evR, evF, evL, evC, evI, evBin, evUn, evEq, evSt, evRes, plain, scp, scpA, scpL, rdRow, rdCells, veq, veqA, veqL, isHole, Value.cells, evalL, optI, evBounds, evFill, evFillR, evApp, newsOf, wrCells, one1, fitsApp, evClr, undef, onB_bool, List.getElem?_concat_length, List.getElem?_cons_zero, List.getElem?_cons_succ, List.getElem?_toArray, List.getElem?_nil, List.set_cons_zero, List.set_cons_succ, List.cons_append, List.nil_append, -getElem?_pos, -getElem?_neg]
  · refine entry hmix cf6 ?_
    simp (maxSteps := 2000000) (implicitDefEqProofs := false) [DN, NB, begT, atHead, kd, wantedA, evP, evR, evF, evL, evC, evI, evBin, evUn, evEq, evSt, evRes, plain, scp, scpA, scpL, rdRow, rdCells, veq, veqA, veqL, isHole, Value.cells, evalL, optI, evBounds, evFill, evFillR, evApp, newsOf, wrCells, one1, fitsApp, evClr, undef, onB_bool, List.getElem?_concat_length, List.getElem?_cons_zero, List.getElem?_cons_succ, List.getElem?_toArray, List.getElem?_nil, List.set_cons_zero, List.set_cons_succ, List.cons_append, List.nil_append, -getElem?_pos, -getElem?_neg, w0, wz, w00, Int.tmod_one, bnd, hcap]
    refine waitsN (l := []) rfl (by simp) (Nat.zero_le _) hcap hat0 fun v1 E1 hw1 => ?_
    cases hw1 with
    | some_ h => exact absurd rfl h
    | nil _ =>
      simp (maxSteps := 2000000) (implicitDefEqProofs := false) [DN, NB, begT, atHead, kd, wantedA, evP, evR, evF, evL, evC, evI, evBin, evUn, evEq, evSt, evRes, plain, scp, scpA, scpL, rdRow, rdCells, veq, veqA, veqL, isHole, Value.cells, evalL, optI, evBounds, evFill, evFillR, evApp, newsOf, wrCells, one1, fitsApp, evClr, undef, onB_bool, List.getElem?_concat_length, List.getElem?_cons_zero, List.getElem?_cons_succ, List.getElem?_toArray, List.getElem?_nil, List.set_cons_zero, List.set_cons_succ, List.cons_append, List.nil_append, -getElem?_pos, -getElem?_neg]
      refine waitsN (l := []) rfl (by simp) (Nat.zero_le _) hcap hat0 fun v2 E2 hw2 => ?_
      cases hw2 with
      | some_ h => exact absurd rfl h
      | nil _ =>
        simp (maxSteps := 2000000) (implicitDefEqProofs := false) [DN, NB, begT, atHead, kd, wantedA, evP, evR, evF, evL, evC, evI, evBin, evUn, evEq, evSt, evRes, plain, scp, scpA, scpL, rdRow, rdCells, veq, veqA, veqL, isHole, Value.cells, evalL, optI, evBounds, evFill, evFillR, evApp, newsOf, wrCells, one1, fitsApp, evClr, undef, onB_bool, List.getElem?_concat_length, List.getElem?_cons_zero, List.getElem?_cons_succ, List.getElem?_toArray, List.getElem?_nil, List.set_cons_zero, List.set_cons_succ, List.cons_append, List.nil_append, -getElem?_pos, -getElem?_neg, bnd, hcap]
        refine overN (l := []) rfl (by simp) hat0 ?_
        rw [ho]
        simp (maxSteps := 2000000) (implicitDefEqProofs := false) [DN, NB, begT, atHead, kd, wantedA, evP, evR, evF, evL, evC, evI, evBin, evUn, evEq, evSt, evRes, plain, scp, scpA, scpL, rdRow, rdCells, veq, veqA, veqL, isHole, Value.cells, evalL, optI, evBounds, evFill, evFillR, evApp, newsOf, wrCells, one1, fitsApp, evClr, undef, onB_bool, List.getElem?_concat_length, List.getElem?_cons_zero, List.getElem?_cons_succ, List.getElem?_toArray, List.getElem?_nil, List.set_cons_zero, List.set_cons_succ, List.cons_append, List.nil_append, -getElem?_pos, -getElem?_neg]
        refine overN (l := []) rfl (by simp) hat0 ?_
        rw [ho]
        simp (maxSteps := 2000000) (implicitDefEqProofs := false) [DN, NB, begT, atHead, kd, wantedA, evP, evR, evF, evL, evC, evI, evBin, evUn, evEq, evSt, evRes, plain, scp, scpA, scpL, rdRow, rdCells, veq, veqA, veqL, isHole, Value.cells, evalL, optI, evBounds, evFill, evFillR, evApp, newsOf, wrCells, one1, fitsApp, evClr, undef, onB_bool, List.getElem?_concat_length, List.getElem?_cons_zero, List.getElem?_cons_succ, List.getElem?_toArray, List.getElem?_nil, List.set_cons_zero, List.set_cons_succ, List.cons_append, List.nil_append, -getElem?_pos, -getElem?_neg]
        refine loop3 hmix 69 (fun _ : Unit => True) (fun _ => 0) (fun _ => [(6, .slice none 0 0), (8, .int .i64 0), (42, .int .i64 0), (43, .int .i64 0)]) (fun _ => [.row (rowOf [])]) () trivial (rowHead rfl rfl ?_) ?_
        · simp only [List.mem_cons, List.not_mem_nil, or_false]
          rintro y (rfl | rfl | rfl | rfl) <;> simp [GB, scp]
        intro _ _
        simp (maxSteps := 2000000) (implicitDefEqProofs := false) [DN, NB, begT, atHead, kd, wantedA, evP, evR, evF, evL, evC, evI, evBin, evUn, evEq, evSt, evRes, plain, scp, scpA, scpL, rdRow, rdCells, veq, veqA, veqL, isHole, Value.cells, evalL, optI, evBounds, evFill, evFillR, evApp, newsOf, wrCells, one1, fitsApp, evClr, undef, onB_bool, List.getElem?_concat_length, List.getElem?_cons_zero, List.getElem?_cons_succ, List.getElem?_toArray, List.getElem?_nil, List.set_cons_zero, List.set_cons_succ, List.cons_append, List.nil_append, -getElem?_pos, -getElem?_neg]
        refine awakeK _ _ fun h' => ?_
        simp (maxSteps := 2000000) (implicitDefEqProofs := false) [DN, NB, begT, atHead, kd, wantedA, evP, evR, evF, evL, evC, evI, evBin, evUn, evEq, evSt, evRes, plain, scp, scpA, scpL, rdRow, rdCells, veq, veqA, veqL, isHole, Value.cells, evalL, optI, evBounds, evFill, evFillR, evApp, newsOf, wrCells, one1, fitsApp, evClr, undef, onB_bool, List.getElem?_concat_length, List.getElem?_cons_zero, List.getElem?_cons_succ, List.getElem?_toArray, List.getElem?_nil, List.set_cons_zero, List.set_cons_succ, List.cons_append, List.nil_append, -getElem?_pos, -getElem?_neg]

set_option maxHeartbeats 8000000 in
theorem more_ (l : List En) (A : Option Addr) (cap : Nat) (at_ : Int) (hcl : l.length ≤ cap) (hcap : cap < OPEN) (h0 : 0 ≤ at_) (h255 : at_ ≤ 255) (hA : (l = [] ∧ cap = 0 ∧ A = none) ∨ (∃ d, l = [] ∧ A = some ⟨0, 0, some d⟩) ∨ A = some ⟨0, 0, none⟩) :
    AC Try.prog 6 [.slice A l.length cap, .int .u8 at_] [.row (rowOf l)] (fun v _ => v = .bool true) := by
  by_cases hne : l = []
  · subst hne
    rcases hA with ⟨_, rfl, rfl⟩ | ⟨d, _, rfl⟩ | rfl
    · exact more_nil none 0 at_ h0 h255 hcap (.inl ⟨rfl, rfl, rfl⟩) (.inl ⟨rfl, rfl⟩)
    · exact more_nil _ cap at_ h0 h255 hcap (.inr ⟨0, 0, _, rfl, .inl ⟨rfl, rfl⟩⟩) (.inr (.inl ⟨_, rfl⟩))
    · exact more_nil _ cap at_ h0 h255 hcap (.inr ⟨0, 0, _, rfl, .inl ⟨rfl, rfl⟩⟩) (.inr (.inr rfl))
  refine entry hmix cf6 ?_
  by_cases c1 : 60 < (l.length : Int)
  · simp (maxSteps := 2000000) (implicitDefEqProofs := false) [DN, NB, begT, atHead, kd, wantedA, evP, evR, evF, evL, evC, evI, evBin, evUn, evEq, evSt, evRes, plain, scp, scpA, scpL, rdRow, rdCells, veq, veqA, veqL, isHole, Value.cells, evalL, optI, evBounds, evFill, evFillR, evApp, newsOf, wrCells, one1, fitsApp, evClr, undef, onB_bool, List.getElem?_concat_length, List.getElem?_cons_zero, List.getElem?_cons_succ, List.getElem?_toArray, List.getElem?_nil, List.set_cons_zero, List.set_cons_succ, List.cons_append, List.nil_append, -getElem?_pos, -getElem?_neg, c1]
    refine awakeK _ _ fun h' => ?_
    simp (maxSteps := 2000000) (implicitDefEqProofs := false) [DN, NB, begT, atHead, kd, wantedA, evP, evR, evF, evL, evC, evI, evBin, evUn, evEq, evSt, evRes, plain, scp, scpA, scpL, rdRow, rdCells, veq, veqA, veqL, isHole, Value.cells, evalL, optI, evBounds, evFill, evFillR, evApp, newsOf, wrCells, one1, fitsApp, evClr, undef, onB_bool, List.getElem?_concat_length, List.getElem?_cons_zero, List.getElem?_cons_succ, List.getElem?_toArray, List.getElem?_nil, List.set_cons_zero, List.set_cons_succ, List.cons_append, List.nil_append, -getElem?_pos, -getElem?_neg]
  have w0 : IntKind.i64.wrap at_ = at_ := IntWalk.i64_in _ (by omega)
  have w1 : IntKind.i64.wrap ((l.length : Int) + 1) = (l.length : Int) + 1 := IntWalk.i64_in _ (by omega)
  have hnz : ¬ (l.length : Int) + 1 = 0 := by omega
  obtain ⟨k, hk, ek⟩ : ∃ k : Nat, k ≤ l.length ∧ at_.tmod ((l.length : Int) + 1) = k := by
    refine ⟨(at_.tmod ((l.length : Int) + 1)).toNat, ?_, ?_⟩
    · rw [Int.tmod_eq_emod_of_nonneg h0]
      have h1 := Int.emod_lt_of_pos at_ (show (0 : Int) < (l.length : Int) + 1 by omega)
      have h2 := Int.emod_nonneg at_ hnz
      omega
    · rw [Int.tmod_eq_emod_of_nonneg h0]
      have h2 := Int.emod_nonneg at_ hnz
      omega
  have w2 : IntKind.i64.wrap (k : Int) = k := IntWalk.i64_in _ (by omega)
  have hkc : k ≤ cap := by omega
  have hkc2 : (k : Int) ≤ cap := by omega
  have hk0 : (0 : Int) ≤ k := by omega
  have hlen : (l.take k).length = k := by rw [List.length_take]; omega
  have hone : RowOne l.length A := by
    rcases hA with ⟨hl, _, rfl⟩ | ⟨d, hl, rfl⟩ | rfl
    · exact .inl ⟨by rw [hl]; rfl, .inl rfl⟩
    · exact .inl ⟨by rw [hl]; rfl, .inr ⟨_, rfl⟩⟩
    · exact .inr rfl
  have hat : ∀ tl, RowAt (.row (rowOf l) :: tl) A l.length (rowOf l) := fun tl => rowAt_one hone
  have hov := over_take l k hk
  have hov' : ¬ (overL (turnsL l) : Int) < overL (turnsL (l.take k)) := by omega
  have hsub := waits_take l k hk
  have hsl := hsub.length_le
  have hwl : (waitsL l).length ≤ 1000 := by have := waits_len l; have := turns_length l; omega
  have c2 : ¬ 60 < l.length := by omega
  have c3 : l.length ≤ 60 := by omega
  obtain ⟨a, ha⟩ : ∃ a, waitsL (l.take k) = a := ⟨_, rfl⟩
  obtain ⟨r, hr⟩ : ∃ r, waitsL l = r := ⟨_, rfl⟩
  obtain ⟨o1, ho1⟩ : ∃ o, overL (turnsL (l.take k)) = o := ⟨_, rfl⟩
  obtain ⟨o2, ho2⟩ : ∃ o, overL (turnsL l) = o := ⟨_, rfl⟩
  rw [ha, hr] at hsub hsl
  rw [hr] at hwl
  rw [ho1, ho2] at hov
  have o3 : ¬ o2 < o1 := by omega
  have s3 : ¬ r.length < a.length := by omega
  rcases hA with ⟨hl, hc, rfl⟩ | ⟨d, hl, rfl⟩ | rfl
  · exact absurd hl hne
  · exact absurd hl hne
  simp (maxSteps := 2000000) (implicitDefEqProofs := false) [DN, NB, begT, atHead, kd, wantedA, evP, evR, evF, evL, evC, evI, evBin, evUn, evEq, evSt, evRes, plain, scp, scpA, scpL, rdRow, rdCells, veq, veqA, veqL, isHole, Value.cells, evalL, optI, evBounds, evFill, evFillR, evApp, newsOf, wrCells, one1, fitsApp, evClr, undef, onB_bool, List.getElem?_concat_length, List.getElem?_cons_zero, List.getElem?_cons_succ, List.getElem?_toArray, List.getElem?_nil, List.set_cons_zero, List.set_cons_succ, List.cons_append, List.nil_append, -getElem?_pos, -getElem?_neg, w0, w1, w2, hnz, ek, c1, c2, c3, bnd, hkc, hkc2, hcap]
  refine waitsN (l := l.take k) hlen (by omega) hkc hcap rowAt_take fun v1 E1 hw1 => ?_
  rw [ha] at hw1
  cases hw1 with
  | nil h1 =>
    simp (maxSteps := 2000000) (implicitDefEqProofs := false) [DN, NB, begT, atHead, kd, wantedA, evP, evR, evF, evL, evC, evI, evBin, evUn, evEq, evSt, evRes, plain, scp, scpA, scpL, rdRow, rdCells, veq, veqA, veqL, isHole, Value.cells, evalL, optI, evBounds, evFill, evFillR, evApp, newsOf, wrCells, one1, fitsApp, evClr, undef, onB_bool, List.getElem?_concat_length, List.getElem?_cons_zero, List.getElem?_cons_succ, List.getElem?_toArray, List.getElem?_nil, List.set_cons_zero, List.set_cons_succ, List.cons_append, List.nil_append, -getElem?_pos, -getElem?_neg]
    refine waitsN (l := l) rfl (by omega) hcl hcap (hat []) fun v2 E2 hw2 => ?_
    rw [hr] at hw2
    cases hw2 with
    | nil h2 =>
      simp (maxSteps := 2000000) (implicitDefEqProofs := false) [DN, NB, begT, atHead, kd, wantedA, evP, evR, evF, evL, evC, evI, evBin, evUn, evEq, evSt, evRes, plain, scp, scpA, scpL, rdRow, rdCells, veq, veqA, veqL, isHole, Value.cells, evalL, optI, evBounds, evFill, evFillR, evApp, newsOf, wrCells, one1, fitsApp, evClr, undef, onB_bool, List.getElem?_concat_length, List.getElem?_cons_zero, List.getElem?_cons_succ, List.getElem?_toArray, List.getElem?_nil, List.set_cons_zero, List.set_cons_succ, List.cons_append, List.nil_append, -getElem?_pos, -getElem?_neg, bnd, hkc, hkc2, hcap]
      refine overN (l := l.take k) hlen (by omega) rowAt_take ?_
      rw [ho1]
      simp (maxSteps := 2000000) (implicitDefEqProofs := false) [DN, NB, begT, atHead, kd, wantedA, evP, evR, evF, evL, evC, evI, evBin, evUn, evEq, evSt, evRes, plain, scp, scpA, scpL, rdRow, rdCells, veq, veqA, veqL, isHole, Value.cells, evalL, optI, evBounds, evFill, evFillR, evApp, newsOf, wrCells, one1, fitsApp, evClr, undef, onB_bool, List.getElem?_concat_length, List.getElem?_cons_zero, List.getElem?_cons_succ, List.getElem?_toArray, List.getElem?_nil, List.set_cons_zero, List.set_cons_succ, List.cons_append, List.nil_append, -getElem?_pos, -getElem?_neg]
      refine overN (l := l) rfl (by omega) (hat _) ?_
      rw [ho2]
      simp (maxSteps := 2000000) (implicitDefEqProofs := false) [DN, NB, begT, atHead, kd, wantedA, evP, evR, evF, evL, evC, evI, evBin, evUn, evEq, evSt, evRes, plain, scp, scpA, scpL, rdRow, rdCells, veq, veqA, veqL, isHole, Value.cells, evalL, optI, evBounds, evFill, evFillR, evApp, newsOf, wrCells, one1, fitsApp, evClr, undef, onB_bool, List.getElem?_concat_length, List.getElem?_cons_zero, List.getElem?_cons_succ, List.getElem?_toArray, List.getElem?_nil, List.set_cons_zero, List.set_cons_succ, List.cons_append, List.nil_append, -getElem?_pos, -getElem?_neg, o3]
      refine loop3 hmix 69 (fun _ : Unit => True) (fun _ => 0) (fun _ => [(6, .slice none 0 0), (8, .int .i64 0), (42, .int .i64 0), (43, .int .i64 0)]) (fun _ => [.row (rowOf l)]) () trivial (rowHead rfl rfl ?_) ?_
      · simp only [List.mem_cons, List.not_mem_nil, or_false]
        rintro y (rfl | rfl | rfl | rfl) <;> simp [GB, scp]
      intro _ _
      simp (maxSteps := 2000000) (implicitDefEqProofs := false) [DN, NB, begT, atHead, kd, wantedA, evP, evR, evF, evL, evC, evI, evBin, evUn, evEq, evSt, evRes, plain, scp, scpA, scpL, rdRow, rdCells, veq, veqA, veqL, isHole, Value.cells, evalL, optI, evBounds, evFill, evFillR, evApp, newsOf, wrCells, one1, fitsApp, evClr, undef, onB_bool, List.getElem?_concat_length, List.getElem?_cons_zero, List.getElem?_cons_succ, List.getElem?_toArray, List.getElem?_nil, List.set_cons_zero, List.set_cons_succ, List.cons_append, List.nil_append, -getElem?_pos, -getElem?_neg]
      refine awakeK _ _ fun h' => ?_
      simp (maxSteps := 2000000) (implicitDefEqProofs := false) [DN, NB, begT, atHead, kd, wantedA, evP, evR, evF, evL, evC, evI, evBin, evUn, evEq, evSt, evRes, plain, scp, scpA, scpL, rdRow, rdCells, veq, veqA, veqL, isHole, Value.cells, evalL, optI, evBounds, evFill, evFillR, evApp, newsOf, wrCells, one1, fitsApp, evClr, undef, onB_bool, List.getElem?_concat_length, List.getElem?_cons_zero, List.getElem?_cons_succ, List.getElem?_toArray, List.getElem?_nil, List.set_cons_zero, List.set_cons_succ, List.cons_append, List.nil_append, -getElem?_pos, -getElem?_neg]
    | some_ h2 =>
      simp (maxSteps := 2000000) (implicitDefEqProofs := false) [DN, NB, begT, atHead, kd, wantedA, evP, evR, evF, evL, evC, evI, evBin, evUn, evEq, evSt, evRes, plain, scp, scpA, scpL, rdRow, rdCells, veq, veqA, veqL, isHole, Value.cells, evalL, optI, evBounds, evFill, evFillR, evApp, newsOf, wrCells, one1, fitsApp, evClr, undef, onB_bool, List.getElem?_concat_length, List.getElem?_cons_zero, List.getElem?_cons_succ, List.getElem?_toArray, List.getElem?_nil, List.set_cons_zero, List.set_cons_succ, List.cons_append, List.nil_append, -getElem?_pos, -getElem?_neg, bnd, hkc, hkc2, hcap]
      refine overN (l := l.take k) hlen (by omega) rowAt_take ?_
      rw [ho1]
      simp (maxSteps := 2000000) (implicitDefEqProofs := false) [DN, NB, begT, atHead, kd, wantedA, evP, evR, evF, evL, evC, evI, evBin, evUn, evEq, evSt, evRes, plain, scp, scpA, scpL, rdRow, rdCells, veq, veqA, veqL, isHole, Value.cells, evalL, optI, evBounds, evFill, evFillR, evApp, newsOf, wrCells, one1, fitsApp, evClr, undef, onB_bool, List.getElem?_concat_length, List.getElem?_cons_zero, List.getElem?_cons_succ, List.getElem?_toArray, List.getElem?_nil, List.set_cons_zero, List.set_cons_succ, List.cons_append, List.nil_append, -getElem?_pos, -getElem?_neg]
      refine overN (l := l) rfl (by omega) (hat _) ?_
      rw [ho2]
      simp (maxSteps := 2000000) (implicitDefEqProofs := false) [DN, NB, begT, atHead, kd, wantedA, evP, evR, evF, evL, evC, evI, evBin, evUn, evEq, evSt, evRes, plain, scp, scpA, scpL, rdRow, rdCells, veq, veqA, veqL, isHole, Value.cells, evalL, optI, evBounds, evFill, evFillR, evApp, newsOf, wrCells, one1, fitsApp, evClr, undef, onB_bool, List.getElem?_concat_length, List.getElem?_cons_zero, List.getElem?_cons_succ, List.getElem?_toArray, List.getElem?_nil, List.set_cons_zero, List.set_cons_succ, List.cons_append, List.nil_append, -getElem?_pos, -getElem?_neg, o3]
      have hok : AOK [.row (rowOf l), tB (turnsL l), wB r] := AOK.of ⟨scp_noNames (rowOf_noNames l) _, scp_noNames (tB_noNames _) _, scp_noNames (wB_noNames _) _, trivial⟩
      refine loop6 a r hwl hsub [.row (rowOf l), tB (turnsL l), wB r] 9 2 hok rfl rfl (fun h => absurd h1 h) _ _ _ (headId (fun _ _ hb => hb) hok (fun b hb => ?_) (by simp) rfl fun y hy => ?_) ?_
      · obtain rfl : b = 0 := by omega
        rfl
      · simp only [mrT, List.mem_cons, List.not_mem_nil, or_false] at hy
        rcases hy with rfl | rfl | rfl | rfl | rfl <;> exact ⟨by simp [GB, v1Of, h1], by simp [scp, live, v1Of, h1, wB]⟩
      have hv1 : v1Of 9 a = .slice none 0 0 := by unfold v1Of; rw [if_pos h1]
      have ha0 : a.length = 0 := by rw [h1]; rfl
      simp (maxSteps := 2000000) (implicitDefEqProofs := false) [DN, NB, begT, atHead, kd, wantedA, evP, evR, evF, evL, evC, evI, evBin, evUn, evEq, evSt, evRes, plain, scp, scpA, scpL, rdRow, rdCells, veq, veqA, veqL, isHole, Value.cells, evalL, optI, evBounds, evFill, evFillR, evApp, newsOf, wrCells, one1, fitsApp, evClr, undef, onB_bool, List.getElem?_concat_length, List.getElem?_cons_zero, List.getElem?_cons_succ, List.getElem?_toArray, List.getElem?_nil, List.set_cons_zero, List.set_cons_succ, List.cons_append, List.nil_append, -getElem?_pos, -getElem?_neg, mrT, hv1, ha0]
      refine awakeK _ _ fun h' => ?_
      simp (maxSteps := 2000000) (implicitDefEqProofs := false) [DN, NB, begT, atHead, kd, wantedA, evP, evR, evF, evL, evC, evI, evBin, evUn, evEq, evSt, evRes, plain, scp, scpA, scpL, rdRow, rdCells, veq, veqA, veqL, isHole, Value.cells, evalL, optI, evBounds, evFill, evFillR, evApp, newsOf, wrCells, one1, fitsApp, evClr, undef, onB_bool, List.getElem?_concat_length, List.getElem?_cons_zero, List.getElem?_cons_succ, List.getElem?_toArray, List.getElem?_nil, List.set_cons_zero, List.set_cons_succ, List.cons_append, List.nil_append, -getElem?_pos, -getElem?_neg]
  | some_ h1 =>
    simp (maxSteps := 2000000) (implicitDefEqProofs := false) [DN, NB, begT, atHead, kd, wantedA, evP, evR, evF, evL, evC, evI, evBin, evUn, evEq, evSt, evRes, plain, scp, scpA, scpL, rdRow, rdCells, veq, veqA, veqL, isHole, Value.cells, evalL, optI, evBounds, evFill, evFillR, evApp, newsOf, wrCells, one1, fitsApp, evClr, undef, onB_bool, List.getElem?_concat_length, List.getElem?_cons_zero, List.getElem?_cons_succ, List.getElem?_toArray, List.getElem?_nil, List.set_cons_zero, List.set_cons_succ, List.cons_append, List.nil_append, -getElem?_pos, -getElem?_neg]
    refine waitsN (l := l) rfl (by omega) hcl hcap (hat _) fun v2 E2 hw2 => ?_
    rw [hr] at hw2
    cases hw2 with
    | nil h2 =>
      exact absurd (by rw [h2] at hsub; exact List.eq_nil_of_sublist_nil hsub) h1
    | some_ h2 =>
      simp (maxSteps := 2000000) (implicitDefEqProofs := false) [DN, NB, begT, atHead, kd, wantedA, evP, evR, evF, evL, evC, evI, evBin, evUn, evEq, evSt, evRes, plain, scp, scpA, scpL, rdRow, rdCells, veq, veqA, veqL, isHole, Value.cells, evalL, optI, evBounds, evFill, evFillR, evApp, newsOf, wrCells, one1, fitsApp, evClr, undef, onB_bool, List.getElem?_concat_length, List.getElem?_cons_zero, List.getElem?_cons_succ, List.getElem?_toArray, List.getElem?_nil, List.set_cons_zero, List.set_cons_succ, List.cons_append, List.nil_append, -getElem?_pos, -getElem?_neg, bnd, hkc, hkc2, hcap]
      refine overN (l := l.take k) hlen (by omega) rowAt_take ?_
      rw [ho1]
      simp (maxSteps := 2000000) (implicitDefEqProofs := false) [DN, NB, begT, atHead, kd, wantedA, evP, evR, evF, evL, evC, evI, evBin, evUn, evEq, evSt, evRes, plain, scp, scpA, scpL, rdRow, rdCells, veq, veqA, veqL, isHole, Value.cells, evalL, optI, evBounds, evFill, evFillR, evApp, newsOf, wrCells, one1, fitsApp, evClr, undef, onB_bool, List.getElem?_concat_length, List.getElem?_cons_zero, List.getElem?_cons_succ, List.getElem?_toArray, List.getElem?_nil, List.set_cons_zero, List.set_cons_succ, List.cons_append, List.nil_append, -getElem?_pos, -getElem?_neg]
      refine overN (l := l) rfl (by omega) (hat _) ?_
      rw [ho2]
      simp (maxSteps := 2000000) (implicitDefEqProofs := false) [DN, NB, begT, atHead, kd, wantedA, evP, evR, evF, evL, evC, evI, evBin, evUn, evEq, evSt, evRes, plain, scp, scpA, scpL, rdRow, rdCells, veq, veqA, veqL, isHole, Value.cells, evalL, optI, evBounds, evFill, evFillR, evApp, newsOf, wrCells, one1, fitsApp, evClr, undef, onB_bool, List.getElem?_concat_length, List.getElem?_cons_zero, List.getElem?_cons_succ, List.getElem?_toArray, List.getElem?_nil, List.set_cons_zero, List.set_cons_succ, List.cons_append, List.nil_append, -getElem?_pos, -getElem?_neg, o3, s3]
      have hok : AOK [.row (rowOf l), tB (turnsL (l.take k)), wB a, tB (turnsL l), wB r] := AOK.of ⟨scp_noNames (rowOf_noNames l) _, scp_noNames (tB_noNames _) _, scp_noNames (wB_noNames _) _, scp_noNames (tB_noNames _) _, scp_noNames (wB_noNames _) _, trivial⟩
      refine loop6 a r hwl hsub [.row (rowOf l), tB (turnsL (l.take k)), wB a, tB (turnsL l), wB r] 2 4 hok rfl rfl (fun _ => rfl) _ _ _ (headId (fun _ _ hb => hb) hok (fun b hb => ?_) (by simp) rfl fun y hy => ?_) ?_
      · obtain rfl : b = 0 := by omega
        rfl
      · simp only [mrT, List.mem_cons, List.not_mem_nil, or_false] at hy
        rcases hy with rfl | rfl | rfl | rfl | rfl <;> exact ⟨by simp [GB, v1Of, h1], by simp [scp, live, v1Of, h1, wB]⟩
      have hv1 : v1Of 2 a = .slice (some ⟨2, 0, none⟩) a.length (OPEN + a.length) := by unfold v1Of; rw [if_neg h1]
      simp (maxSteps := 2000000) (implicitDefEqProofs := false) [DN, NB, begT, atHead, kd, wantedA, evP, evR, evF, evL, evC, evI, evBin, evUn, evEq, evSt, evRes, plain, scp, scpA, scpL, rdRow, rdCells, veq, veqA, veqL, isHole, Value.cells, evalL, optI, evBounds, evFill, evFillR, evApp, newsOf, wrCells, one1, fitsApp, evClr, undef, onB_bool, List.getElem?_concat_length, List.getElem?_cons_zero, List.getElem?_cons_succ, List.getElem?_toArray, List.getElem?_nil, List.set_cons_zero, List.set_cons_succ, List.cons_append, List.nil_append, -getElem?_pos, -getElem?_neg, mrT, hv1]
      refine awakeK _ _ fun h' => ?_
      simp (maxSteps := 2000000) (implicitDefEqProofs := false) [DN, NB, begT, atHead, kd, wantedA, evP, evR, evF, evL, evC, evI, evBin, evUn, evEq, evSt, evRes, plain, scp, scpA, scpL, rdRow, rdCells, veq, veqA, veqL, isHole, Value.cells, evalL, optI, evBounds, evFill, evFillR, evApp, newsOf, wrCells, one1, fitsApp, evClr, undef, onB_bool, List.getElem?_concat_length, List.getElem?_cons_zero, List.getElem?_cons_succ, List.getElem?_toArray, List.getElem?_nil, List.set_cons_zero, List.set_cons_succ, List.cons_append, List.nil_append, -getElem?_pos, -getElem?_neg]

end Ox
end Go.Proofs.Ytekhadlpcdjlpaa
