/- order: Count, ahead. -/
import Derived.Test.YtekhadlpcdjlpaaOr1
import Derived.Test.YtekhadlpcdjlpaaCodeO
namespace Go.Proofs.Ytekhadlpcdjlpaa
namespace Ox
open Go Abs Code
set_option linter.unusedVariables false
set_option linter.unusedSimpArgs false
set_option maxRecDepth 100000

theorem hmix : Try.prog.follows .mixedOrders = true := by kernel_rfl

theorem set_concat {α : Type _} (l : List α) (a b : α) : (l ++ [a]).set l.length b = l ++ [b] := by
  induction l with
  | nil => rfl
  | cons x l ih => simp [ih]

def cnT (sv : Value) (l : List En) (k : Int) (i : Nat) : List (Nat × Value) := [(1, .int .i64 k), (5, .int .i64 (countK (l.take i) k : Nat)), (8, sv), (9, .int .i64 l.length), (10, .int .i64 i)]

theorem countK_take {l : List En} {i : Nat} {x : En} (hx : l[i]? = some x) (k : Int) : countK (l.take (i + 1)) k = countK (l.take i) k + if x.k = k then 1 else 0 := by
  unfold countK
  rw [List.take_add_one, hx, List.countP_append]
  simp [List.countP_cons]

theorem countK_le (l : List En) (k : Int) : countK l k ≤ l.length := List.countP_le_length

set_option maxHeartbeats 2000000 in
theorem count_ (l : List En) (A : Option Addr) (cap : Nat) (hl : l.length ≤ 1000) (hA : RowOne l.length A) (k : Int) : AC Try.prog 89 [.slice A l.length cap, .int .i64 k] [.row (rowOf l)] (fun v h' => v = .int .i64 (countK l k : Nat) ∧ h' = [.row (rowOf l)]) := by
  refine entry hmix cf89 ?_
  simp (maxSteps := 2000000) (implicitDefEqProofs := false) [DN, NB, begT, atHead, kd, wantedA, evP, evR, evF, evL, evC, evI, evBin, evUn, evEq, evSt, evRes, plain, scp, scpA, scpL, rdRow, rdCells, veq, veqA, veqL, isHole, Value.cells, evalL, optI, evBounds, evFill, evFillR, evApp, newsOf, wrCells, one1, fitsApp, evClr, undef, onB_bool, List.getElem?_concat_length, List.getElem?_cons_zero, List.getElem?_cons_succ, List.getElem?_toArray, List.getElem?_nil, List.set_cons_zero, List.set_cons_succ, List.cons_append, List.nil_append, -getElem?_pos, -getElem?_neg]
  refine loop3 hmix 22 (fun i => i ≤ l.length) (fun i => l.length - i) (cnT (.slice A l.length cap) l k) (fun _ => [.row (rowOf l)]) 0 (Nat.zero_le _) (rowHead rfl rfl ?_) ?_
  · simp only [cnT, List.mem_cons, List.not_mem_nil, or_false]
    rintro y (rfl | rfl | rfl | rfl | rfl)
    case inr.inr.inl => exact ⟨(by simp [GB]), rowOne_scp hA []⟩
    all_goals simp [GB, countK, scp]
  intro i hi
  by_cases hlt : i < l.length
  case neg =>
    obtain rfl : i = l.length := by omega
    have htk : l.take l.length = l := List.take_length
    simp (maxSteps := 2000000) (implicitDefEqProofs := false) [DN, NB, begT, atHead, kd, wantedA, evP, evR, evF, evL, evC, evI, evBin, evUn, evEq, evSt, evRes, plain, scp, scpA, scpL, rdRow, rdCells, veq, veqA, veqL, isHole, Value.cells, evalL, optI, evBounds, evFill, evFillR, evApp, newsOf, wrCells, one1, fitsApp, evClr, undef, onB_bool, List.getElem?_concat_length, List.getElem?_cons_zero, List.getElem?_cons_succ, List.getElem?_toArray, List.getElem?_nil, List.set_cons_zero, List.set_cons_succ, List.cons_append, List.nil_append, -getElem?_pos, -getElem?_neg, cnT, htk]
  have hlt' : (i : Int) < l.length := by omega
  have hi0 : (0 : Int) ≤ i := by omega
  obtain ⟨x, hx⟩ : ∃ x, l[i]? = some x := ⟨_, List.getElem?_eq_getElem hlt⟩
  have hrd := rowOf_at hx
  have hfitr : i * 3 + 3 ≤ (rowOf l).length := by rw [rowOf_length]; omega
  have hwr : IntKind.i64.wrap ((i : Int) + 1) = ((i + 1 : Nat) : Int) := by rw [IntWalk.i64_in _ (by omega)]; omega
  have hA' : A = some ⟨0, 0, none⟩ := by
    rcases hA with ⟨h, _⟩ | h
    · omega
    · exact h
  subst hA'
  have hnx := countK_take hx k
  have hcl : countK (l.take i) k ≤ 1000 := by have := countK_le (l.take i) k; rw [List.length_take] at this; omega
  have hwc : IntKind.i64.wrap (((countK (l.take i) k : Nat) : Int) + 1) = ((countK (l.take i) k + 1 : Nat) : Int) := by rw [IntWalk.i64_in _ (by omega)]; omega
  have fin : ∀ t' tl, t'.length = 22 → (∀ y ∈ cnT (.slice (some ⟨0, 0, none⟩) l.length cap) l k (i + 1), getT t' y.1 = some y.2) → nextS 1 22 (fun i => i ≤ l.length) (fun i => l.length - i) (cnT (.slice (some ⟨0, 0, none⟩) l.length cap) l k) (fun _ => [.row (rowOf l)]) i t' (.row (rowOf l) :: tl) := by
    intro t' tl e1 e2
    refine nextS.intro (i + 1) (by omega) (by omega) (rowHead rfl e1 fun y hy => ⟨e2 y hy, ?_⟩)
    simp only [cnT, List.mem_cons, List.not_mem_nil, or_false] at hy
    rcases hy with rfl | rfl | rfl | rfl | rfl <;> rfl
  by_cases hxt : x.k = k
  · have hb : (x.k == k) = true := by simp [hxt]
    rw [if_pos hxt] at hnx
    simp (maxSteps := 2000000) (implicitDefEqProofs := false) [DN, NB, begT, atHead, kd, wantedA, evP, evR, evF, evL, evC, evI, evBin, evUn, evEq, evSt, evRes, plain, scp, scpA, scpL, rdRow, rdCells, veq, veqA, veqL, isHole, Value.cells, evalL, optI, evBounds, evFill, evFillR, evApp, newsOf, wrCells, one1, fitsApp, evClr, undef, onB_bool, List.getElem?_concat_length, List.getElem?_cons_zero, List.getElem?_cons_succ, List.getElem?_toArray, List.getElem?_nil, List.set_cons_zero, List.set_cons_succ, List.cons_append, List.nil_append, -getElem?_pos, -getElem?_neg, cnT, hlt', hi0, hrd, hfitr, set_concat, splice_many, hb, hwr, hwc]
    refine fin _ _ rfl ?_
    simp only [cnT, hnx, List.mem_cons, List.not_mem_nil, or_false]
    rintro y (rfl | rfl | rfl | rfl | rfl) <;> simp [GB]
  · have hb : (x.k == k) = false := by simp [hxt]
    rw [if_neg hxt] at hnx
    simp (maxSteps := 2000000) (implicitDefEqProofs := false) [DN, NB, begT, atHead, kd, wantedA, evP, evR, evF, evL, evC, evI, evBin, evUn, evEq, evSt, evRes, plain, scp, scpA, scpL, rdRow, rdCells, veq, veqA, veqL, isHole, Value.cells, evalL, optI, evBounds, evFill, evFillR, evApp, newsOf, wrCells, one1, fitsApp, evClr, undef, onB_bool, List.getElem?_concat_length, List.getElem?_cons_zero, List.getElem?_cons_succ, List.getElem?_toArray, List.getElem?_nil, List.set_cons_zero, List.set_cons_succ, List.cons_append, List.nil_append, -getElem?_pos, -getElem?_neg, cnT, hlt', hi0, hrd, hfitr, set_concat, splice_many, hb, hwr]
    refine fin _ _ rfl ?_
    simp only [cnT, hnx, List.mem_cons, List.not_mem_nil, or_false]
    rintro y (rfl | rfl | rfl | rfl | rfl) <;> simp [GB]

theorem countG {l : List En} {A : Option Addr} {cap : Nat} {H : AH} (hl : l.length ≤ 1000) (hA : RowAt H A l.length (rowOf l)) (k : Int) {K : Value → AH → Prop} (hK : K (.int .i64 (countK l k : Nat)) H) : AC Try.prog 89 [.slice A l.length cap, .int .i64 k] H K :=
  AC.rowG (pre := []) (rest := [.int .i64 k]) (rowOf_plain l) (by simp) (by simp [plain, scp]) rfl (fun A' hA' => count_ l A' cap hl hA' k) hA hK

end Ox
end Go.Proofs.Ytekhadlpcdjlpaa
