/- order: the document's answer, walked: state. -/
import Derived.Test.YtekhadlpcdjlpaaOt1
namespace Go.Proofs.Ytekhadlpcdjlpaa
namespace Ox
open Go Abs Code
set_option linter.unusedVariables false
set_option linter.unusedSimpArgs false
set_option maxRecDepth 100000

def stStep (t s : Int) (x : En) : Int := if x.t = t then (if x.k = 2 ∨ x.k = 3 then x.k else if x.k = 4 ∨ x.k = 9 then 0 else s) else s
def stateT (l : List En) (t : Int) : Int := l.foldl (stStep t) 0
theorem stateT_take {l : List En} {i : Nat} {x : En} (hx : l[i]? = some x) (t : Int) : stateT (l.take (i + 1)) t = stStep t (stateT (l.take i) t) x := by
  unfold stateT
  rw [List.take_add_one, hx, List.foldl_append]
  rfl

def saT (sv : Value) (l : List En) (t : Int) (i : Nat) : List (Nat × Value) := [(1, .int .i64 t), (5, .int .i64 (stateT (l.take i) t)), (8, sv), (9, .int .i64 l.length), (10, .int .i64 i)]

set_option maxHeartbeats 4000000 in
theorem state_ (l : List En) (A : Option Addr) (cap : Nat) (hl : l.length ≤ 1000) (hA : RowOne l.length A) (t : Int) : AC Try.prog 92 [.slice A l.length cap, .int .i64 t] [.row (rowOf l)] (fun v h' => v = .int .i64 (stateT l t) ∧ h' = [.row (rowOf l)]) := by
  refine entry hmix cf92 ?_
  simp (maxSteps := 2000000) (implicitDefEqProofs := false) [DN, NB, begT, atHead, kd, wantedA, evP, evR, evF, evL, evC, evI, evBin, evUn, evEq, evSt, evRes, plain, scp, scpA, scpL, rdRow, rdCells, veq, veqA, veqL, isHole, Value.cells, evalL, optI, evBounds, evFill, evFillR, evApp, newsOf, wrCells, one1, fitsApp, evClr, undef, onB_bool, List.getElem?_concat_length, List.getElem?_cons_zero, List.getElem?_cons_succ, List.getElem?_toArray, List.getElem?_nil, List.set_cons_zero, List.set_cons_succ, List.cons_append, List.nil_append, -getElem?_pos, -getElem?_neg]
  refine loop3 hmix 38 (fun i => i ≤ l.length) (fun i => l.length - i) (saT (.slice A l.length cap) l t) (fun _ => [.row (rowOf l)]) 0 (Nat.zero_le _) (rowHead rfl rfl ?_) ?_
  · simp only [saT, List.mem_cons, List.not_mem_nil, or_false]
    rintro y (rfl | rfl | rfl | rfl | rfl)
    case inr.inr.inl => exact ⟨(by simp [GB]), rowOne_scp hA []⟩
    all_goals simp [GB, stateT, scp]
  intro i hi
  by_cases hlt : i < l.length
  case neg =>
    obtain rfl : i = l.length := by omega
    have htk : l.take l.length = l := List.take_length
    simp (maxSteps := 2000000) (implicitDefEqProofs := false) [DN, NB, begT, atHead, kd, wantedA, evP, evR, evF, evL, evC, evI, evBin, evUn, evEq, evSt, evRes, plain, scp, scpA, scpL, rdRow, rdCells, veq, veqA, veqL, isHole, Value.cells, evalL, optI, evBounds, evFill, evFillR, evApp, newsOf, wrCells, one1, fitsApp, evClr, undef, onB_bool, List.getElem?_concat_length, List.getElem?_cons_zero, List.getElem?_cons_succ, List.getElem?_toArray, List.getElem?_nil, List.set_cons_zero, List.set_cons_succ, List.cons_append, List.nil_append, -getElem?_pos, -getElem?_neg, saT, htk]
  have hlt' : (i : Int) < l.length := by omega
  have hi0 : (0 : Int) ≤ i := by omega
  obtain ⟨x, hx⟩ : ∃ x, l[i]? = some x := ⟨_, List.getElem?_eq_getElem hlt⟩
  have hrd := rowOf_at hx
  have hfitr : i * 3 + 3 ≤ (rowOf l).length := by rw [rowOf_length]; omega
  have hwr : IntKind.i64.wrap ((i : Int) + 1) = (i : Int) + 1 := IntWalk.i64_in _ (by omega)
  have hA' : A = some ⟨0, 0, none⟩ := by
    rcases hA with ⟨h, _⟩ | h
    · omega
    · exact h
  subst hA'
  have hnx := stateT_take hx t
  have fin : ∀ (s : Int) t' tl, s = stateT (l.take (i + 1)) t → t'.length = 38 → getT t' 1 = some (.int .i64 t) → getT t' 5 = some (.int .i64 s) → getT t' 8 = some (.slice (some ⟨0, 0, none⟩) l.length cap) → getT t' 9 = some (.int .i64 l.length) → getT t' 10 = some (.int .i64 ((i : Int) + 1)) → nextS 1 38 (fun i => i ≤ l.length) (fun i => l.length - i) (saT (.slice (some ⟨0, 0, none⟩) l.length cap) l t) (fun _ => [.row (rowOf l)]) i t' (.row (rowOf l) :: tl) := by
    rintro s t' tl rfl e1 e2 e3 e4 e5 e6
    refine nextS.intro (i + 1) (by omega) (by omega) (rowHead rfl e1 fun y hy => ?_)
    simp only [saT, List.mem_cons, List.not_mem_nil, or_false] at hy
    rcases hy with rfl | rfl | rfl | rfl | rfl
    · exact ⟨e2, rfl⟩
    · exact ⟨e3, rfl⟩
    · exact ⟨e4, rfl⟩
    · exact ⟨e5, rfl⟩
    · exact ⟨e6, rfl⟩
  by_cases ct : x.t = t
  case neg =>
    have bt : (x.t == t) = false := by simp [ct]
    have hs : stateT (l.take i) t = stateT (l.take (i + 1)) t := by rw [hnx]; unfold stStep; rw [if_neg ct]
    simp (maxSteps := 2000000) (implicitDefEqProofs := false) [DN, NB, begT, atHead, kd, wantedA, evP, evR, evF, evL, evC, evI, evBin, evUn, evEq, evSt, evRes, plain, scp, scpA, scpL, rdRow, rdCells, veq, veqA, veqL, isHole, Value.cells, evalL, optI, evBounds, evFill, evFillR, evApp, newsOf, wrCells, one1, fitsApp, evClr, undef, onB_bool, List.getElem?_concat_length, List.getElem?_cons_zero, List.getElem?_cons_succ, List.getElem?_toArray, List.getElem?_nil, List.set_cons_zero, List.set_cons_succ, List.cons_append, List.nil_append, -getElem?_pos, -getElem?_neg, saT, hlt', hi0, hrd, hfitr, set_concat, splice_many, ct, bt, hwr]
    exact fin _ _ [_] hs rfl (by simp [GB]) (by simp [GB]) (by simp [GB]) (by simp [GB]) (by simp [GB])
  have bt : (x.t == t) = true := by simp [ct]
  have ct2 : (x.t = t) = True := eq_true ct
  by_cases c2 : x.k = 2
  · have hs : (2 : Int) = stateT (l.take (i + 1)) t := by rw [hnx]; unfold stStep; rw [if_pos ct, if_pos (.inl c2), c2]
    rw [c2] at hrd
    simp (maxSteps := 2000000) (implicitDefEqProofs := false) [DN, NB, begT, atHead, kd, wantedA, evP, evR, evF, evL, evC, evI, evBin, evUn, evEq, evSt, evRes, plain, scp, scpA, scpL, rdRow, rdCells, veq, veqA, veqL, isHole, Value.cells, evalL, optI, evBounds, evFill, evFillR, evApp, newsOf, wrCells, one1, fitsApp, evClr, undef, onB_bool, List.getElem?_concat_length, List.getElem?_cons_zero, List.getElem?_cons_succ, List.getElem?_toArray, List.getElem?_nil, List.set_cons_zero, List.set_cons_succ, List.cons_append, List.nil_append, -getElem?_pos, -getElem?_neg, saT, hlt', hi0, hrd, hfitr, set_concat, splice_many, ct2, bt, hwr]
    exact fin _ _ [_] hs rfl (by simp [GB]) (by simp [GB]) (by simp [GB]) (by simp [GB]) (by simp [GB])
  by_cases c3 : x.k = 3
  · have hs : (3 : Int) = stateT (l.take (i + 1)) t := by rw [hnx]; unfold stStep; rw [if_pos ct, if_pos (.inr c3), c3]
    rw [c3] at hrd
    simp (maxSteps := 2000000) (implicitDefEqProofs := false) [DN, NB, begT, atHead, kd, wantedA, evP, evR, evF, evL, evC, evI, evBin, evUn, evEq, evSt, evRes, plain, scp, scpA, scpL, rdRow, rdCells, veq, veqA, veqL, isHole, Value.cells, evalL, optI, evBounds, evFill, evFillR, evApp, newsOf, wrCells, one1, fitsApp, evClr, undef, onB_bool, List.getElem?_concat_length, List.getElem?_cons_zero, List.getElem?_cons_succ, List.getElem?_toArray, List.getElem?_nil, List.set_cons_zero, List.set_cons_succ, List.cons_append, List.nil_append, -getElem?_pos, -getElem?_neg, saT, hlt', hi0, hrd, hfitr, set_concat, splice_many, ct2, bt, hwr]
    exact fin _ _ [_] hs rfl (by simp [GB]) (by simp [GB]) (by simp [GB]) (by simp [GB]) (by simp [GB])
  have n23 : ¬ (x.k = 2 ∨ x.k = 3) := fun h => h.elim c2 c3
  by_cases c4 : x.k = 4
  · have hs : (0 : Int) = stateT (l.take (i + 1)) t := by rw [hnx]; unfold stStep; rw [if_pos ct, if_neg n23, if_pos (.inl c4)]
    rw [c4] at hrd
    simp (maxSteps := 2000000) (implicitDefEqProofs := false) [DN, NB, begT, atHead, kd, wantedA, evP, evR, evF, evL, evC, evI, evBin, evUn, evEq, evSt, evRes, plain, scp, scpA, scpL, rdRow, rdCells, veq, veqA, veqL, isHole, Value.cells, evalL, optI, evBounds, evFill, evFillR, evApp, newsOf, wrCells, one1, fitsApp, evClr, undef, onB_bool, List.getElem?_concat_length, List.getElem?_cons_zero, List.getElem?_cons_succ, List.getElem?_toArray, List.getElem?_nil, List.set_cons_zero, List.set_cons_succ, List.cons_append, List.nil_append, -getElem?_pos, -getElem?_neg, saT, hlt', hi0, hrd, hfitr, set_concat, splice_many, ct2, bt, hwr]
    exact fin _ _ [_] hs rfl (by simp [GB]) (by simp [GB]) (by simp [GB]) (by simp [GB]) (by simp [GB])
  by_cases c9 : x.k = 9
  · have hs : (0 : Int) = stateT (l.take (i + 1)) t := by rw [hnx]; unfold stStep; rw [if_pos ct, if_neg n23, if_pos (.inr c9)]
    rw [c9] at hrd
    simp (maxSteps := 2000000) (implicitDefEqProofs := false) [DN, NB, begT, atHead, kd, wantedA, evP, evR, evF, evL, evC, evI, evBin, evUn, evEq, evSt, evRes, plain, scp, scpA, scpL, rdRow, rdCells, veq, veqA, veqL, isHole, Value.cells, evalL, optI, evBounds, evFill, evFillR, evApp, newsOf, wrCells, one1, fitsApp, evClr, undef, onB_bool, List.getElem?_concat_length, List.getElem?_cons_zero, List.getElem?_cons_succ, List.getElem?_toArray, List.getElem?_nil, List.set_cons_zero, List.set_cons_succ, List.cons_append, List.nil_append, -getElem?_pos, -getElem?_neg, saT, hlt', hi0, hrd, hfitr, set_concat, splice_many, ct2, bt, hwr]
    exact fin _ _ [_] hs rfl (by simp [GB]) (by simp [GB]) (by simp [GB]) (by simp [GB]) (by simp [GB])
  have n49 : ¬ (x.k = 4 ∨ x.k = 9) := fun h => h.elim c4 c9
  have hs : stateT (l.take i) t = stateT (l.take (i + 1)) t := by rw [hnx]; unfold stStep; rw [if_pos ct, if_neg n23, if_neg n49]
  have b2 : (x.k == 2) = false := by simp [c2]
  have b3 : (x.k == 3) = false := by simp [c3]
  have b4 : (x.k == 4) = false := by simp [c4]
  have b9 : (x.k == 9) = false := by simp [c9]
  simp (maxSteps := 2000000) (implicitDefEqProofs := false) [DN, NB, begT, atHead, kd, wantedA, evP, evR, evF, evL, evC, evI, evBin, evUn, evEq, evSt, evRes, plain, scp, scpA, scpL, rdRow, rdCells, veq, veqA, veqL, isHole, Value.cells, evalL, optI, evBounds, evFill, evFillR, evApp, newsOf, wrCells, one1, fitsApp, evClr, undef, onB_bool, List.getElem?_concat_length, List.getElem?_cons_zero, List.getElem?_cons_succ, List.getElem?_toArray, List.getElem?_nil, List.set_cons_zero, List.set_cons_succ, List.cons_append, List.nil_append, -getElem?_pos, -getElem?_neg, saT, hlt', hi0, hrd, hfitr, set_concat, splice_many, ct2, bt, c2, c3, c4, c9, b2, b3, b4, b9, hwr]
  exact fin _ _ [_] hs rfl (by simp [GB]) (by simp [GB]) (by simp [GB]) (by simp [GB]) (by simp [GB])

theorem stateG {l : List En} {A : Option Addr} {cap : Nat} {H : AH} (hl : l.length ≤ 1000) (hA : RowAt H A l.length (rowOf l)) (t : Int) {K : Value → AH → Prop} (hK : K (.int .i64 (stateT l t)) H) : AC Try.prog 92 [.slice A l.length cap, .int .i64 t] H K :=
  AC.rowG (pre := []) (rest := [.int .i64 t]) (rowOf_plain l) (by simp) (by simp [plain, scp]) rfl (fun A' hA' => state_ l A' cap hl hA' t) hA hK

end Ox
end Go.Proofs.Ytekhadlpcdjlpaa
