/- order: the document's answer, walked: Grant, state. -/
import Derived.Test.YtekhadlpcdjlpaaOr7
namespace Go.Proofs.Ytekhadlpcdjlpaa
namespace Ox
open Go Abs Code
set_option linter.unusedVariables false
set_option linter.unusedSimpArgs false
set_option maxRecDepth 100000

/-- Where the turn of an Enq is granted; -1: it is not. -/
def seekZ (t : Int) (l : List En) (p : Nat) : Int := match seek t l p with | some g => (g : Int) | none => -1
def grantZ (l : List En) (i : Nat) : Int := match l[i]? with | some x => seekZ x.t (l.drop (i + 1)) (i + 1) | none => -1

def gT (sv : Value) (i j : Nat) : List (Nat × Value) := [(0, sv), (1, .int .i64 i), (5, .int .i64 j)]

set_option maxHeartbeats 4000000 in
theorem grant_ (l : List En) (A : Option Addr) (cap i : Nat) (hl : l.length ≤ 1000) (hi : i < l.length) (hA : RowOne l.length A) : AC Try.prog 91 [.slice A l.length cap, .int .i64 i] [.row (rowOf l)] (fun v h' => v = .int .i64 (grantZ l i) ∧ h' = [.row (rowOf l)]) := by
  have hA' : A = some ⟨0, 0, none⟩ := by
    rcases hA with ⟨h, _⟩ | h
    · omega
    · exact h
  obtain ⟨x, hx⟩ : ∃ x, l[i]? = some x := ⟨_, List.getElem?_eq_getElem hi⟩
  have hg : grantZ l i = seekZ x.t (l.drop (i + 1)) (i + 1) := by unfold grantZ; rw [hx]
  have hrx := rowOf_at hx
  have hxt : (rowOf l)[i * 3 + 1]? = some (.int .i64 x.t) := by
    have := congrArg (fun v => v[1]?) hrx
    simpa [List.getElem?_take, List.getElem?_drop] using this
  have hw0 : IntKind.i64.wrap ((i : Int) + 1) = (i : Int) + 1 := IntWalk.i64_in _ (by omega)
  have hi0 : (0 : Int) ≤ i := by omega
  have hil : (i : Int) < l.length := by omega
  have hfi : i * 3 + 1 + 1 ≤ (rowOf l).length := by rw [rowOf_length]; omega
  refine entry hmix cf91 ?_
  simp (maxSteps := 2000000) (implicitDefEqProofs := false) [DN, NB, begT, atHead, kd, wantedA, evP, evR, evF, evL, evC, evI, evBin, evUn, evEq, evSt, evRes, plain, scp, scpA, scpL, rdRow, rdCells, veq, veqA, veqL, isHole, Value.cells, evalL, optI, evBounds, evFill, evFillR, evApp, newsOf, wrCells, one1, fitsApp, evClr, undef, onB_bool, List.getElem?_concat_length, List.getElem?_cons_zero, List.getElem?_cons_succ, List.getElem?_toArray, List.getElem?_nil, List.set_cons_zero, List.set_cons_succ, List.cons_append, List.nil_append, -getElem?_pos, -getElem?_neg, hw0]
  refine loop3 hmix 46 (fun j => i < j ∧ j ≤ l.length ∧ grantZ l i = seekZ x.t (l.drop j) j) (fun j => l.length - j) (gT (.slice A l.length cap) i) (fun _ => [.row (rowOf l)]) (i + 1) ⟨by omega, by omega, hg⟩ (rowHead rfl rfl ?_) ?_
  · simp only [gT, List.mem_cons, List.not_mem_nil, or_false]
    rintro y (rfl | rfl | rfl)
    · exact ⟨(by simp [GB]), rowOne_scp hA []⟩
    · exact ⟨(by simp [GB]), rfl⟩
    · exact ⟨by simp [GB], rfl⟩
  subst hA'
  rintro j ⟨hij, hj, hgj⟩
  by_cases hjl : j < l.length
  case neg =>
    obtain rfl : j = l.length := by omega
    rw [List.drop_length] at hgj
    have hgj : grantZ l i = -1 := hgj
    simp (maxSteps := 2000000) (implicitDefEqProofs := false) [DN, NB, begT, atHead, kd, wantedA, evP, evR, evF, evL, evC, evI, evBin, evUn, evEq, evSt, evRes, plain, scp, scpA, scpL, rdRow, rdCells, veq, veqA, veqL, isHole, Value.cells, evalL, optI, evBounds, evFill, evFillR, evApp, newsOf, wrCells, one1, fitsApp, evClr, undef, onB_bool, List.getElem?_concat_length, List.getElem?_cons_zero, List.getElem?_cons_succ, List.getElem?_toArray, List.getElem?_nil, List.set_cons_zero, List.set_cons_succ, List.cons_append, List.nil_append, -getElem?_pos, -getElem?_neg, gT, hgj]
  have hjl' : (j : Int) < l.length := by omega
  have hj0 : (0 : Int) ≤ j := by omega
  obtain ⟨y, hy⟩ : ∃ y, l[j]? = some y := ⟨_, List.getElem?_eq_getElem hjl⟩
  have hry := rowOf_at hy
  have hyt : (rowOf l)[j * 3 + 1]? = some (.int .i64 y.t) := by
    have := congrArg (fun v => v[1]?) hry
    simpa [List.getElem?_take, List.getElem?_drop] using this
  have hyk : (rowOf l)[j * 3]? = some (.int .i64 y.k) := by
    have := congrArg (fun v => v[0]?) hry
    simpa [List.getElem?_take, List.getElem?_drop] using this
  have hfj : j * 3 + 1 + 1 ≤ (rowOf l).length := by rw [rowOf_length]; omega
  have hfk : j * 3 + 1 ≤ (rowOf l).length := by rw [rowOf_length]; omega
  have hwj : IntKind.i64.wrap ((j : Int) + 1) = (j : Int) + 1 := IntWalk.i64_in _ (by omega)
  have hd : l.drop j = y :: l.drop (j + 1) := by
    rw [List.drop_eq_getElem_cons hjl]
    congr 1
    exact (List.getElem?_eq_some_iff.1 hy).2
  rw [hd] at hgj
  simp only [seekZ, seek] at hgj
  have fin : ∀ t' , grantZ l i = seekZ x.t (l.drop (j + 1)) (j + 1) → t'.length = 46 → (∀ y ∈ gT (.slice (some ⟨0, 0, none⟩) l.length cap) i (j + 1), getT t' y.1 = some y.2) → nextS 1 46 (fun j => i < j ∧ j ≤ l.length ∧ grantZ l i = seekZ x.t (l.drop j) j) (fun j => l.length - j) (gT (.slice (some ⟨0, 0, none⟩) l.length cap) i) (fun _ => [.row (rowOf l)]) j t' [.row (rowOf l)] := by
    intro t' e0 e1 e2
    refine nextS.intro (j + 1) (by omega) ⟨by omega, by omega, e0⟩ (rowHead rfl e1 fun y hy => ⟨e2 y hy, ?_⟩)
    simp only [gT, List.mem_cons, List.not_mem_nil, or_false] at hy
    rcases hy with rfl | rfl | rfl <;> rfl
  have F : True := trivial
  by_cases ct : y.t = x.t
  case neg =>
    rw [if_neg (fun h => ct h.1)] at hgj
    have bt : (y.t == x.t) = false := by simp [ct]
    simp (maxSteps := 2000000) (implicitDefEqProofs := false) [DN, NB, begT, atHead, kd, wantedA, evP, evR, evF, evL, evC, evI, evBin, evUn, evEq, evSt, evRes, plain, scp, scpA, scpL, rdRow, rdCells, veq, veqA, veqL, isHole, Value.cells, evalL, optI, evBounds, evFill, evFillR, evApp, newsOf, wrCells, one1, fitsApp, evClr, undef, onB_bool, List.getElem?_concat_length, List.getElem?_cons_zero, List.getElem?_cons_succ, List.getElem?_toArray, List.getElem?_nil, List.set_cons_zero, List.set_cons_succ, List.cons_append, List.nil_append, -getElem?_pos, -getElem?_neg, gT, hjl', hj0, hi0, hil, hxt, hyt, hfi, hfj, ct, bt, hwj]
    refine fin _ hgj rfl ?_
    simp only [gT, List.mem_cons, List.not_mem_nil, or_false]
    rintro y (rfl | rfl | rfl) <;> simp [GB]
  have bt : (y.t == x.t) = true := by simp [ct]
  have ct2 : (y.t = x.t) = True := eq_true ct
  by_cases c3 : y.k = 3
  · rw [if_pos ⟨ct, .inr (.inr c3)⟩, if_pos c3] at hgj
    have hgj : grantZ l i = (j : Int) := hgj
    rw [c3] at hyk
    simp (maxSteps := 2000000) (implicitDefEqProofs := false) [DN, NB, begT, atHead, kd, wantedA, evP, evR, evF, evL, evC, evI, evBin, evUn, evEq, evSt, evRes, plain, scp, scpA, scpL, rdRow, rdCells, veq, veqA, veqL, isHole, Value.cells, evalL, optI, evBounds, evFill, evFillR, evApp, newsOf, wrCells, one1, fitsApp, evClr, undef, onB_bool, List.getElem?_concat_length, List.getElem?_cons_zero, List.getElem?_cons_succ, List.getElem?_toArray, List.getElem?_nil, List.set_cons_zero, List.set_cons_succ, List.cons_append, List.nil_append, -getElem?_pos, -getElem?_neg, gT, hjl', hj0, hi0, hil, hxt, hyt, hyk, hfi, hfj, hfk, ct2, bt, hgj]
  have b3 : (y.k == 3) = false := by simp [c3]
  by_cases c2 : y.k = 2
  · rw [if_pos ⟨ct, .inl c2⟩, if_neg c3] at hgj
    have hgj : grantZ l i = -1 := hgj
    rw [c2] at hyk
    simp (maxSteps := 2000000) (implicitDefEqProofs := false) [DN, NB, begT, atHead, kd, wantedA, evP, evR, evF, evL, evC, evI, evBin, evUn, evEq, evSt, evRes, plain, scp, scpA, scpL, rdRow, rdCells, veq, veqA, veqL, isHole, Value.cells, evalL, optI, evBounds, evFill, evFillR, evApp, newsOf, wrCells, one1, fitsApp, evClr, undef, onB_bool, List.getElem?_concat_length, List.getElem?_cons_zero, List.getElem?_cons_succ, List.getElem?_toArray, List.getElem?_nil, List.set_cons_zero, List.set_cons_succ, List.cons_append, List.nil_append, -getElem?_pos, -getElem?_neg, gT, hjl', hj0, hi0, hil, hxt, hyt, hyk, hfi, hfj, hfk, ct2, bt, hgj]
  have b2 : (y.k == 2) = false := by simp [c2]
  by_cases c4 : y.k = 4
  · rw [if_pos ⟨ct, .inr (.inl c4)⟩, if_neg c3] at hgj
    have hgj : grantZ l i = -1 := hgj
    rw [c4] at hyk
    simp (maxSteps := 2000000) (implicitDefEqProofs := false) [DN, NB, begT, atHead, kd, wantedA, evP, evR, evF, evL, evC, evI, evBin, evUn, evEq, evSt, evRes, plain, scp, scpA, scpL, rdRow, rdCells, veq, veqA, veqL, isHole, Value.cells, evalL, optI, evBounds, evFill, evFillR, evApp, newsOf, wrCells, one1, fitsApp, evClr, undef, onB_bool, List.getElem?_concat_length, List.getElem?_cons_zero, List.getElem?_cons_succ, List.getElem?_toArray, List.getElem?_nil, List.set_cons_zero, List.set_cons_succ, List.cons_append, List.nil_append, -getElem?_pos, -getElem?_neg, gT, hjl', hj0, hi0, hil, hxt, hyt, hyk, hfi, hfj, hfk, ct2, bt, hgj]
  have b4 : (y.k == 4) = false := by simp [c4]
  rw [if_neg (fun h => h.2.elim c2 fun h => h.elim c4 c3)] at hgj
  simp (maxSteps := 2000000) (implicitDefEqProofs := false) [DN, NB, begT, atHead, kd, wantedA, evP, evR, evF, evL, evC, evI, evBin, evUn, evEq, evSt, evRes, plain, scp, scpA, scpL, rdRow, rdCells, veq, veqA, veqL, isHole, Value.cells, evalL, optI, evBounds, evFill, evFillR, evApp, newsOf, wrCells, one1, fitsApp, evClr, undef, onB_bool, List.getElem?_concat_length, List.getElem?_cons_zero, List.getElem?_cons_succ, List.getElem?_toArray, List.getElem?_nil, List.set_cons_zero, List.set_cons_succ, List.cons_append, List.nil_append, -getElem?_pos, -getElem?_neg, gT, hjl', hj0, hi0, hil, hxt, hyt, hyk, hfi, hfj, hfk, ct2, bt, c2, c3, c4, b2, b3, b4, hwj]
  refine fin _ hgj rfl ?_
  simp only [gT, List.mem_cons, List.not_mem_nil, or_false]
  rintro y (rfl | rfl | rfl) <;> simp [GB]

theorem grantG {l : List En} {A : Option Addr} {cap i : Nat} {H : AH} (hl : l.length ≤ 1000) (hi : i < l.length) (hA : RowAt H A l.length (rowOf l)) {K : Value → AH → Prop} (hK : K (.int .i64 (grantZ l i)) H) : AC Try.prog 91 [.slice A l.length cap, .int .i64 i] H K :=
  AC.rowG (pre := []) (rest := [.int .i64 i]) (rowOf_plain l) (by simp) (by simp [plain, scp]) rfl (fun A' hA' => grant_ l A' cap i hl hi hA') hA hK

end Ox
end Go.Proofs.Ytekhadlpcdjlpaa
