/- order: the document's answer, walked: Waits, is an entry the first one of its thread? -/
import Derived.Test.YtekhadlpcdjlpaaOt7
import Derived.Test.YtekhadlpcdjlpaaOt3
namespace Go.Proofs.Ytekhadlpcdjlpaa
namespace Ox
open Go Abs Code
set_option linter.unusedVariables false
set_option linter.unusedSimpArgs false
set_option maxRecDepth 100000

theorem row_t {l : List En} {j : Nat} {y : En} (hy : l[j]? = some y) : (rowOf l)[j * 3 + 1]? = some (.int .i64 y.t) := by
  have := congrArg (fun v => v[1]?) (rowOf_at hy)
  simpa [List.getElem?_take, List.getElem?_drop] using this
theorem row_k {l : List En} {j : Nat} {y : En} (hy : l[j]? = some y) : (rowOf l)[j * 3]? = some (.int .i64 y.k) := by
  have := congrArg (fun v => v[0]?) (rowOf_at hy)
  simpa [List.getElem?_take, List.getElem?_drop] using this

def fT (sv : Value) (l : List En) (v3 v5 v6 v7 : Value) (i k : Nat) (xt : Int) (j : Nat) : List (Nat × Value) := [(0, sv), (3, v3), (4, .int .i64 i), (5, v5), (6, v6), (7, v7), (8, .int .i64 k), (9, .bool (!hasT (l.take j) xt)), (10, .int .i64 j), (12, sv), (13, .int .i64 l.length), (14, .int .i64 i)]

set_option maxHeartbeats 4000000 in
theorem loop38c (l : List En) (cap : Nat) (hl : l.length ≤ 1000) (G : AH) (hG : AOK G) (h0g : G[0]? = some (.row (rowOf l))) (v3 v5 v6 v7 : Value) (s3 : scp (live G) v3 = true) (s5 : scp (live G) v5 = true) (s6 : scp (live G) v6 = true) (s7 : scp (live G) v7 = true) (i k : Nat) (x : En) (hx : l[k]? = some x) (T0 : T) (h : AH) (Q : AExit → T → AH → Prop)
    (h0 : atHeadV 1 103 (fT (.slice (some ⟨0, 0, none⟩) l.length cap) l v3 v5 v6 v7 i k x.t 0) G T0 h)
    (hQ : Q (.exit 4) (mkT 103 ((35, .int .i64 k) :: (36, .int .i64 k) :: (37, .bool false) :: fT (.slice (some ⟨0, 0, none⟩) l.length cap) l v3 v5 v6 v7 i k x.t k)) G) : ALoop Try.prog 1 lp38_2 T0 h Q := by
  have hk : k < l.length := (List.getElem?_eq_some_iff.1 hx).1
  have hlG : 1 ≤ G.length := by have := (List.getElem?_eq_some_iff.1 h0g).1; omega
  have hlive : live G 0 = true := live_of h0g (by simp)
  obtain ⟨tv, htv⟩ : ∃ tv, tv = fT (.slice (some ⟨0, 0, none⟩) l.length cap) l v3 v5 v6 v7 i k x.t := ⟨_, rfl⟩
  obtain ⟨hv, hhv⟩ : ∃ hv : Nat → AH, hv = fun _ => G := ⟨_, rfl⟩
  refine loop3 hmix 103 (fun j => j ≤ k) (fun j => k - j) tv hv 0 (Nat.zero_le _) (by rw [htv, hhv]; exact h0) ?_
  intro j hj
  rw [show tv j = fT (.slice (some ⟨0, 0, none⟩) l.length cap) l v3 v5 v6 v7 i k x.t j by rw [htv], show hv j = G by rw [hhv]]
  by_cases hlt : j < k
  case neg =>
    obtain rfl : j = k := by omega
    simp (maxSteps := 2000000) (implicitDefEqProofs := false) [DN, NB, begT, atHead, kd, wantedA, evP, evR, evF, evL, evC, evI, evBin, evUn, evEq, evSt, evRes, plain, scp, scpA, scpL, rdRow, rdCells, veq, veqA, veqL, isHole, Value.cells, evalL, optI, evBounds, evFill, evFillR, evApp, newsOf, wrCells, one1, fitsApp, evClr, undef, onB_bool, List.getElem?_concat_length, List.getElem?_cons_zero, List.getElem?_cons_succ, List.getElem?_toArray, List.getElem?_nil, List.set_cons_zero, List.set_cons_succ, List.cons_append, List.nil_append, -getElem?_pos, -getElem?_neg, fT] at hQ
    simp (maxSteps := 2000000) (implicitDefEqProofs := false) [DN, NB, begT, atHead, kd, wantedA, evP, evR, evF, evL, evC, evI, evBin, evUn, evEq, evSt, evRes, plain, scp, scpA, scpL, rdRow, rdCells, veq, veqA, veqL, isHole, Value.cells, evalL, optI, evBounds, evFill, evFillR, evApp, newsOf, wrCells, one1, fitsApp, evClr, undef, onB_bool, List.getElem?_concat_length, List.getElem?_cons_zero, List.getElem?_cons_succ, List.getElem?_toArray, List.getElem?_nil, List.set_cons_zero, List.set_cons_succ, List.cons_append, List.nil_append, -getElem?_pos, -getElem?_neg, fT, lp38_2]
    exact hQ
  have hlt' : (j : Int) < k := by omega
  have hj0 : (0 : Int) ≤ j := by omega
  have hjl : (j : Int) < l.length := by omega
  have hk0 : (0 : Int) ≤ k := by omega
  have hkl : (k : Int) < l.length := by omega
  obtain ⟨y, hy⟩ : ∃ y, l[j]? = some y := ⟨_, List.getElem?_eq_getElem (by omega)⟩
  have hyt := row_t hy
  have hxt := row_t hx
  have hfj : j * 3 + 1 + 1 ≤ (rowOf l).length := by rw [rowOf_length]; omega
  have hfk : k * 3 + 1 + 1 ≤ (rowOf l).length := by rw [rowOf_length]; omega
  have hwj : IntKind.i64.wrap ((j : Int) + 1) = (j : Int) + 1 := IntWalk.i64_in _ (by omega)
  have hht := hasT_take hy x.t
  have fin : ∀ (b : Bool) t', b = (!hasT (l.take (j + 1)) x.t) → t'.length = 103 → getT t' 0 = some (.slice (some ⟨0, 0, none⟩) l.length cap) → getT t' 3 = some v3 → getT t' 4 = some (.int .i64 i) → getT t' 5 = some v5 → getT t' 6 = some v6 → getT t' 7 = some v7 → getT t' 8 = some (.int .i64 k) → getT t' 9 = some (.bool b) → getT t' 10 = some (.int .i64 ((j : Int) + 1)) → getT t' 12 = some (.slice (some ⟨0, 0, none⟩) l.length cap) → getT t' 13 = some (.int .i64 l.length) → getT t' 14 = some (.int .i64 i) →
      nextS 1 103 (fun j => j ≤ k) (fun j => k - j) tv hv j t' G := by
    rintro b t' rfl e1 a1 a2 a3 a4 a5 a6 a7 a8 a9 a10 a11 a12
    refine nextS.intro (j + 1) (by omega) (by omega) ?_
    rw [htv, hhv]
    refine headId (fun _ _ hb => hb) hG (fun b hb => ?_) hlG e1 fun y hy => ?_
    · obtain rfl : b = 0 := by omega
      exact hlive
    · simp only [fT, List.mem_cons, List.not_mem_nil, or_false] at hy
      rcases hy with rfl | rfl | rfl | rfl | rfl | rfl | rfl | rfl | rfl | rfl | rfl | rfl
      · exact ⟨a1, by simpa [scp] using hlive⟩
      · exact ⟨a2, s3⟩
      · exact ⟨a3, rfl⟩
      · exact ⟨a4, s5⟩
      · exact ⟨a5, s6⟩
      · exact ⟨a6, s7⟩
      · exact ⟨a7, rfl⟩
      · exact ⟨a8, rfl⟩
      · exact ⟨a9, rfl⟩
      · exact ⟨a10, by simpa [scp] using hlive⟩
      · exact ⟨a11, rfl⟩
      · exact ⟨a12, rfl⟩
  by_cases hh : hasT (l.take j) x.t = true
  · rw [hh, Bool.true_or] at hht
    simp (maxSteps := 2000000) (implicitDefEqProofs := false) [DN, NB, begT, atHead, kd, wantedA, evP, evR, evF, evL, evC, evI, evBin, evUn, evEq, evSt, evRes, plain, scp, scpA, scpL, rdRow, rdCells, veq, veqA, veqL, isHole, Value.cells, evalL, optI, evBounds, evFill, evFillR, evApp, newsOf, wrCells, one1, fitsApp, evClr, undef, onB_bool, List.getElem?_concat_length, List.getElem?_cons_zero, List.getElem?_cons_succ, List.getElem?_toArray, List.getElem?_nil, List.set_cons_zero, List.set_cons_succ, List.cons_append, List.nil_append, -getElem?_pos, -getElem?_neg, fT, hh, hlt, lp38_2, hwj]
    exact fin false _ (by rw [hht]; rfl) rfl (by simp [GB]) (by simp [GB]) (by simp [GB]) (by simp [GB]) (by simp [GB]) (by simp [GB]) (by simp [GB]) (by simp [GB]) (by simp [GB]) (by simp [GB]) (by simp [GB]) (by simp [GB])
  have hf : hasT (l.take j) x.t = false := by simpa using hh
  rw [hf, Bool.false_or] at hht
  by_cases ct : y.t = x.t
  · have bt : (y.t == x.t) = true := by simp [ct]
    have ct2 : (y.t = x.t) = True := eq_true ct
    rw [bt] at hht
    simp (maxSteps := 2000000) (implicitDefEqProofs := false) [DN, NB, begT, atHead, kd, wantedA, evP, evR, evF, evL, evC, evI, evBin, evUn, evEq, evSt, evRes, plain, scp, scpA, scpL, rdRow, rdCells, veq, veqA, veqL, isHole, Value.cells, evalL, optI, evBounds, evFill, evFillR, evApp, newsOf, wrCells, one1, fitsApp, evClr, undef, onB_bool, List.getElem?_concat_length, List.getElem?_cons_zero, List.getElem?_cons_succ, List.getElem?_toArray, List.getElem?_nil, List.set_cons_zero, List.set_cons_succ, List.cons_append, List.nil_append, -getElem?_pos, -getElem?_neg, fT, hf, hlt, lp38_2, h0g, hj0, hjl, hk0, hkl, hyt, hxt, hfj, hfk, bt, ct2, hwj]
    exact fin false _ (by rw [hht]; rfl) rfl (by simp [GB]) (by simp [GB]) (by simp [GB]) (by simp [GB]) (by simp [GB]) (by simp [GB]) (by simp [GB]) (by simp [GB, ct]) (by simp [GB]) (by simp [GB]) (by simp [GB]) (by simp [GB])
  · have bt : (y.t == x.t) = false := by simp [ct]
    rw [bt] at hht
    simp (maxSteps := 2000000) (implicitDefEqProofs := false) [DN, NB, begT, atHead, kd, wantedA, evP, evR, evF, evL, evC, evI, evBin, evUn, evEq, evSt, evRes, plain, scp, scpA, scpL, rdRow, rdCells, veq, veqA, veqL, isHole, Value.cells, evalL, optI, evBounds, evFill, evFillR, evApp, newsOf, wrCells, one1, fitsApp, evClr, undef, onB_bool, List.getElem?_concat_length, List.getElem?_cons_zero, List.getElem?_cons_succ, List.getElem?_toArray, List.getElem?_nil, List.set_cons_zero, List.set_cons_succ, List.cons_append, List.nil_append, -getElem?_pos, -getElem?_neg, fT, hf, hlt, lp38_2, h0g, hj0, hjl, hk0, hkl, hyt, hxt, hfj, hfk, bt, ct, hwj]
    exact fin true _ (by rw [hht]; rfl) rfl (by simp [GB]) (by simp [GB]) (by simp [GB]) (by simp [GB]) (by simp [GB]) (by simp [GB]) (by simp [GB]) (by simp [GB, ct]) (by simp [GB]) (by simp [GB]) (by simp [GB]) (by simp [GB])

end Ox
end Go.Proofs.Ytekhadlpcdjlpaa
