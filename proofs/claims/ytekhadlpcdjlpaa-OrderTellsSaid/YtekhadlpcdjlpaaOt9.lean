/- order: the document's answer, walked: Waits, the grants of a turn. -/
import Derived.Test.YtekhadlpcdjlpaaOt8
namespace Go.Proofs.Ytekhadlpcdjlpaa
namespace Ox
open Go Abs Code
set_option linter.unusedVariables false
set_option linter.unusedSimpArgs false
set_option maxRecDepth 100000

def w9 (t a g : Int) : ABlk := .cells [.int .i64 t, .int .i64 a, .int .i64 g] 69 none
theorem w9_noNames (t a g : Int) : noNames (w9 t a g) := by intro v hv; simp at hv; rcases hv with rfl | rfl | rfl <;> rfl

def dT (sv : Value) (l : List En) (v3 v5 : Value) (i g p j : Nat) : List (Nat × Value) := [(0, sv), (3, v3), (4, .int .i64 i), (5, v5), (6, .int .i64 g), (7, .pointer (some ⟨p, 0, none⟩)), (11, .int .i64 j), (12, sv), (13, .int .i64 l.length), (14, .int .i64 i)]

theorem countK_mid {l : List En} {i j : Nat} {y : En} (hij : i ≤ j) (hy : l[j]? = some y) : countK ((l.take (j + 1)).drop i) 3 = countK ((l.take j).drop i) 3 + if y.k = 3 then 1 else 0 := by
  have hjl := (List.getElem?_eq_some_iff.1 hy).1
  unfold countK
  rw [List.take_add_one, hy, List.drop_append_of_le_length (by rw [List.length_take]; omega), List.countP_append]
  simp [List.countP_cons]

set_option maxHeartbeats 4000000 in
theorem loop38d (l : List En) (cap : Nat) (hl : l.length ≤ 1000) (G : AH) (t a : Int) (hG : ∀ c, AOK (G ++ [w9 t a c])) (h0g : G[0]? = some (.row (rowOf l))) (v3 v5 : Value) (s3 : scp (live G) v3 = true) (s5 : scp (live G) v5 = true) (i g : Nat) (hig : i ≤ g) (hg : g ≤ l.length) (T0 : T) (h : AH) (Q : AExit → T → AH → Prop)
    (h0 : atHeadV 1 103 (dT (.slice (some ⟨0, 0, none⟩) l.length cap) l v3 v5 i g G.length i) (G ++ [w9 t a 0]) T0 h)
    (hQ : Q (.exit 6) (mkT 103 ((82, .int .i64 g) :: (83, .int .i64 g) :: (84, .bool false) :: dT (.slice (some ⟨0, 0, none⟩) l.length cap) l v3 v5 i g G.length g)) (G ++ [w9 t a (countK ((l.take g).drop i) 3 : Nat)])) : ALoop Try.prog 1 lp38_3 T0 h Q := by
  have hlive : live G 0 = true := live_of h0g (by simp)
  have hGl := (List.getElem?_eq_some_iff.1 h0g).1
  obtain ⟨tv, htv⟩ : ∃ tv, tv = dT (.slice (some ⟨0, 0, none⟩) l.length cap) l v3 v5 i g G.length := ⟨_, rfl⟩
  obtain ⟨hv, hhv⟩ : ∃ hv : Nat → AH, hv = fun j => G ++ [w9 t a (countK ((l.take j).drop i) 3 : Nat)] := ⟨_, rfl⟩
  have hi00 : countK ((l.take i).drop i) 3 = 0 := by
    have : (l.take i).drop i = [] := by rw [List.drop_eq_nil_iff]; simp; omega
    rw [this]; rfl
  refine loop3 hmix 103 (fun j => i ≤ j ∧ j ≤ g) (fun j => g - j) tv hv i ⟨Nat.le_refl _, hig⟩ (by rw [htv, hhv]; simp only [hi00]; exact h0) ?_
  rintro j ⟨hij, hj⟩
  rw [show tv j = dT (.slice (some ⟨0, 0, none⟩) l.length cap) l v3 v5 i g G.length j by rw [htv], show hv j = G ++ [w9 t a (countK ((l.take j).drop i) 3 : Nat)] by rw [hhv]]
  by_cases hlt : j < g
  case neg =>
    obtain rfl : j = g := by omega
    simp (maxSteps := 2000000) (implicitDefEqProofs := false) [DN, NB, begT, atHead, kd, wantedA, evP, evR, evF, evL, evC, evI, evBin, evUn, evEq, evSt, evRes, plain, scp, scpA, scpL, rdRow, rdCells, veq, veqA, veqL, isHole, Value.cells, evalL, optI, evBounds, evFill, evFillR, evApp, newsOf, wrCells, one1, fitsApp, evClr, undef, onB_bool, List.getElem?_concat_length, List.getElem?_cons_zero, List.getElem?_cons_succ, List.getElem?_toArray, List.getElem?_nil, List.set_cons_zero, List.set_cons_succ, List.cons_append, List.nil_append, -getElem?_pos, -getElem?_neg, dT] at hQ
    simp (maxSteps := 2000000) (implicitDefEqProofs := false) [DN, NB, begT, atHead, kd, wantedA, evP, evR, evF, evL, evC, evI, evBin, evUn, evEq, evSt, evRes, plain, scp, scpA, scpL, rdRow, rdCells, veq, veqA, veqL, isHole, Value.cells, evalL, optI, evBounds, evFill, evFillR, evApp, newsOf, wrCells, one1, fitsApp, evClr, undef, onB_bool, List.getElem?_concat_length, List.getElem?_cons_zero, List.getElem?_cons_succ, List.getElem?_toArray, List.getElem?_nil, List.set_cons_zero, List.set_cons_succ, List.cons_append, List.nil_append, -getElem?_pos, -getElem?_neg, dT, lp38_3]
    exact hQ
  have hj0 : (0 : Int) ≤ j := by omega
  have hjl : (j : Int) < l.length := by omega
  obtain ⟨y, hy⟩ : ∃ y, l[j]? = some y := ⟨_, List.getElem?_eq_getElem (by omega)⟩
  have hyk := row_k hy
  have hfk : j * 3 + 1 ≤ (rowOf l).length := by rw [rowOf_length]; omega
  have hwj : IntKind.i64.wrap ((j : Int) + 1) = (j : Int) + 1 := IntWalk.i64_in _ (by omega)
  have hcm := countK_mid hij hy
  have hrow : ∀ b : ABlk, (G ++ [b])[0]? = some (.row (rowOf l)) := fun b => by rw [List.getElem?_append_left hGl]; exact h0g
  have hcb : countK ((l.take j).drop i) 3 ≤ 1000 := by
    have := countK_le ((l.take j).drop i) 3
    rw [List.length_drop, List.length_take] at this
    omega
  obtain ⟨c, hc⟩ : ∃ c, countK ((l.take j).drop i) 3 = c := ⟨_, rfl⟩
  rw [hc] at hcm hcb
  rw [hc]
  have hwc : IntKind.i64.wrap ((c : Int) + 1) = (c : Int) + 1 := IntWalk.i64_in _ (by omega)
  have fin : ∀ (c' : Nat) (ci : Int) t', ci = c' → c' = countK ((l.take (j + 1)).drop i) 3 → t'.length = 103 → (∀ y ∈ dT (.slice (some ⟨0, 0, none⟩) l.length cap) l v3 v5 i g G.length (j + 1), getT t' y.1 = some y.2) → nextS 1 103 (fun j => i ≤ j ∧ j ≤ g) (fun j => g - j) tv hv j t' (G ++ [w9 t a ci]) := by
    rintro c' ci t' rfl rfl e1 e2
    refine nextS.intro (j + 1) (by omega) ⟨by omega, by omega⟩ ?_
    rw [htv, hhv]
    refine headId (fun _ _ hb => hb) (hG _) (fun b hb => ?_) (by show 1 ≤ _; simp) e1 fun y hy => ⟨e2 y hy, ?_⟩
    · obtain rfl : b = 0 := by omega
      exact live_push _ hlive
    · simp only [dT, List.mem_cons, List.not_mem_nil, or_false] at hy
      rcases hy with rfl | rfl | rfl | rfl | rfl | rfl | rfl | rfl | rfl | rfl
      · simpa [scp] using live_push _ hlive
      · exact scp_mono (fun b hb => live_push b hb) _ s3
      · rfl
      · exact scp_mono (fun b hb => live_push b hb) _ s5
      · rfl
      · simp only [scp]; exact live_of (k := w9 t a (countK ((l.take (j + 1)).drop i) 3 : Nat)) (by simp) (by simp [w9])
      · rfl
      · simpa [scp] using live_push _ hlive
      · rfl
      · rfl
  by_cases ck : y.k = 3
  · rw [if_pos ck] at hcm
    rw [ck] at hyk
    simp (maxSteps := 2000000) (implicitDefEqProofs := false) [DN, NB, begT, atHead, kd, wantedA, evP, evR, evF, evL, evC, evI, evBin, evUn, evEq, evSt, evRes, plain, scp, scpA, scpL, rdRow, rdCells, veq, veqA, veqL, isHole, Value.cells, evalL, optI, evBounds, evFill, evFillR, evApp, newsOf, wrCells, one1, fitsApp, evClr, undef, onB_bool, List.getElem?_concat_length, List.getElem?_cons_zero, List.getElem?_cons_succ, List.getElem?_toArray, List.getElem?_nil, List.set_cons_zero, List.set_cons_succ, List.cons_append, List.nil_append, -getElem?_pos, -getElem?_neg, dT, w9, hlt, lp38_3, hrow, hj0, hjl, hyk, hfk, set_concat, hwj, hwc]
    refine fin (c + 1) _ _ (by simp) hcm.symm rfl ?_
    simp only [dT, List.mem_cons, List.not_mem_nil, or_false]
    rintro y (rfl | rfl | rfl | rfl | rfl | rfl | rfl | rfl | rfl | rfl) <;> simp [GB]
  · rw [if_neg ck] at hcm
    have bk : (y.k == 3) = false := by simp [ck]
    simp (maxSteps := 2000000) (implicitDefEqProofs := false) [DN, NB, begT, atHead, kd, wantedA, evP, evR, evF, evL, evC, evI, evBin, evUn, evEq, evSt, evRes, plain, scp, scpA, scpL, rdRow, rdCells, veq, veqA, veqL, isHole, Value.cells, evalL, optI, evBounds, evFill, evFillR, evApp, newsOf, wrCells, one1, fitsApp, evClr, undef, onB_bool, List.getElem?_concat_length, List.getElem?_cons_zero, List.getElem?_cons_succ, List.getElem?_toArray, List.getElem?_nil, List.set_cons_zero, List.set_cons_succ, List.cons_append, List.nil_append, -getElem?_pos, -getElem?_neg, dT, w9, hlt, lp38_3, hrow, hj0, hjl, hyk, hfk, set_concat, hwj, ck, bk]
    refine fin c _ _ rfl hcm.symm rfl ?_
    simp only [dT, List.mem_cons, List.not_mem_nil, or_false]
    rintro y (rfl | rfl | rfl | rfl | rfl | rfl | rfl | rfl | rfl | rfl) <;> simp [GB]

end Ox
end Go.Proofs.Ytekhadlpcdjlpaa
