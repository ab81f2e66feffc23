import Derived.Test.YtongllppbifiaaaW36
import Derived.Test.YtongllppbifiaaaW37
namespace Go.Proofs.Ytongllppbifiaaa
namespace Ex
open Go Abs Code
attribute [local simp] DN5 HA DN NB begT atHead kd wantedA evP evR evF evL evC evI evBin evUn evEq evSt evRes plain scp scpA scpL rdRow_eq RV rdCells veq veqA veqL isHole Value.cells evalL optI evBounds evFill evFillR evApp newsOf wrCells one1 fitsApp evClr undef onB_bool List.getElem?_concat_length List.getElem?_cons_zero List.getElem?_cons_succ List.getElem?_toArray List.getElem?_nil List.set_cons_zero List.set_cons_succ List.cons_append List.nil_append
set_option linter.unusedVariables false
set_option linter.unusedSimpArgs false
set_option maxRecDepth 100000
theorem kb {H : AH} {K : Value → AH → Prop} {b b' : Bool} (h : K (.bool b) H) (e : b = true ↔ b' = true) : K (.bool b') H := by
 rw [← Bool.eq_iff_iff.2 e]
 exact h
set_option maxHeartbeats 8000000 in
theorem rname_ {H : AH} (op : Int) {K : Value → AH → Prop} (hK : K (strV (formI op).1) H) : AC Try.prog 71 [.int .i64 op] H K := by
 refine AC.clean ?_
 refine entry hmix cf71 ?_
 by_cases c : 1 ≤ op ∧ op ≤ 23
 case neg =>
  have e : formI op = ([],[]) := by unfold formI; simp only [show op ≠ 1 by omega,show op ≠ 2 by omega,show op ≠ 3 by omega,show op ≠ 4 by omega,show op ≠ 5 by omega,show op ≠ 6 by omega,show op ≠ 7 by omega,show op ≠ 8 by omega,show op ≠ 9 by omega,show op ≠ 10 by omega,show op ≠ 11 by omega,show op ≠ 12 by omega,show op ≠ 13 by omega,show op ≠ 16 by omega,show op ≠ 17 by omega,show op ≠ 18 by omega,show op ≠ 19 by omega,show op ≠ 20 by omega,show op ≠ 21 by omega,show op ≠ 22 by omega,show op ≠ 23 by omega,if_false]
  rw [e] at hK
  by_cases c1 : op < 1
  ·simp (maxSteps := 2000000) (implicitDefEqProofs := false) [-getElem?_pos,-getElem?_neg,c1,splice_more]
   exact hK
  ·have c2 : 23 < op := by omega
   simp (maxSteps := 2000000) (implicitDefEqProofs := false) [-getElem?_pos,-getElem?_neg,c1,c2,splice_more]
   exact hK
 have : op = 1 ∨ op = 2 ∨ op = 3 ∨ op = 4 ∨ op = 5 ∨ op = 6 ∨ op = 7 ∨ op = 8 ∨ op = 9 ∨ op = 10 ∨ op = 11 ∨ op = 12 ∨ op = 13 ∨ op = 14 ∨ op = 15 ∨ op = 16 ∨ op = 17 ∨ op = 18 ∨ op = 19 ∨ op = 20 ∨ op = 21 ∨ op = 22 ∨ op = 23 := by omega
 rcases this with rfl | rfl | rfl | rfl | rfl | rfl | rfl | rfl | rfl | rfl | rfl | rfl | rfl | rfl | rfl | rfl | rfl | rfl | rfl | rfl | rfl | rfl | rfl <;> (simp (maxSteps := 2000000) (implicitDefEqProofs := false) [-getElem?_pos,-getElem?_neg,splice_more]; exact hK)
set_option maxHeartbeats 2000000 in
theorem rreg_ {H : AH} (n : Int) {K : Value → AH → Prop} (hK : K (.bool (decide (0 ≤ n ∧ n ≤ 7))) H) : AC Try.prog 72 [.int .i64 n] H K := by
 refine entry hmix cf72 ?_
 by_cases c : 0 ≤ n
 ·simp (maxSteps := 2000000) (implicitDefEqProofs := false) [-getElem?_pos,-getElem?_neg,c]
  exact kb hK (by simp [c])
 ·simp (maxSteps := 2000000) (implicitDefEqProofs := false) [-getElem?_pos,-getElem?_neg,c]
  exact kb hK (by simp [c])
theorem geqR {op : BinOp} (hop : op = .eql ∨ op = .neq) (x y : Operand) (a0 a1 a2 a3 a4 a5 a6 a7 b0 b1 b2 b3 b4 b5 b6 b7 : Int) : (pureVal Try.prog do
  eqGuard op 102 x y (.agg #[.int .i64 a0,.int .i64 a1,.int .i64 a2,.int .i64 a3,.int .i64 a4,.int .i64 a5,.int .u32 a6,.int .i64 a7]) (.agg #[.int .i64 b0,.int .i64 b1,.int .i64 b2,.int .i64 b3,.int .i64 b4,.int .i64 b5,.int .u32 b6,.int .i64 b7])
  binOp op 102 (.agg #[.int .i64 a0,.int .i64 a1,.int .i64 a2,.int .i64 a3,.int .i64 a4,.int .i64 a5,.int .u32 a6,.int .i64 a7]) (.agg #[.int .i64 b0,.int .i64 b1,.int .i64 b2,.int .i64 b3,.int .i64 b4,.int .i64 b5,.int .u32 b6,.int .i64 b7])) = some (.bool (if op = .eql then eqL [.int .i64 a0,.int .i64 a1,.int .i64 a2,.int .i64 a3,.int .i64 a4,.int .i64 a5,.int .u32 a6,.int .i64 a7] [.int .i64 b0,.int .i64 b1,.int .i64 b2,.int .i64 b3,.int .i64 b4,.int .i64 b5,.int .u32 b6,.int .i64 b7] else !(eqL [.int .i64 a0,.int .i64 a1,.int .i64 a2,.int .i64 a3,.int .i64 a4,.int .i64 a5,.int .u32 a6,.int .i64 a7] [.int .i64 b0,.int .i64 b1,.int .i64 b2,.int .i64 b3,.int .i64 b4,.int .i64 b5,.int .u32 b6,.int .i64 b7]))) :=
 geqF (P := Try.prog) (t := 102) (n := 8) (m := 8) (by kernel_rfl) (by kernel_rfl) (by kernel_rfl) hop x y _ _ rfl rfl ⟨rfl,rfl,rfl,rfl,rfl,rfl,rfl,rfl,trivial⟩
theorem geqR1 (x y : Operand) (a0 a1 a2 a3 a4 a5 a6 a7 b0 b1 b2 b3 b4 b5 b6 b7 : Int) : (pureVal Try.prog do
  eqGuard .eql 102 x y (.agg #[.int .i64 a0,.int .i64 a1,.int .i64 a2,.int .i64 a3,.int .i64 a4,.int .i64 a5,.int .u32 a6,.int .i64 a7]) (.agg #[.int .i64 b0,.int .i64 b1,.int .i64 b2,.int .i64 b3,.int .i64 b4,.int .i64 b5,.int .u32 b6,.int .i64 b7])
  binOp .eql 102 (.agg #[.int .i64 a0,.int .i64 a1,.int .i64 a2,.int .i64 a3,.int .i64 a4,.int .i64 a5,.int .u32 a6,.int .i64 a7]) (.agg #[.int .i64 b0,.int .i64 b1,.int .i64 b2,.int .i64 b3,.int .i64 b4,.int .i64 b5,.int .u32 b6,.int .i64 b7])) = some (.bool (eqL [.int .i64 a0,.int .i64 a1,.int .i64 a2,.int .i64 a3,.int .i64 a4,.int .i64 a5,.int .u32 a6,.int .i64 a7] [.int .i64 b0,.int .i64 b1,.int .i64 b2,.int .i64 b3,.int .i64 b4,.int .i64 b5,.int .u32 b6,.int .i64 b7])) := geqR (.inl rfl) x y _ _ _ _ _ _ _ _ _ _ _ _ _ _ _ _
def regs (i : In) : Prop := (0 ≤ i.d ∧ i.d ≤ 7) ∧ (0 ≤ i.s ∧ i.s ≤ 7) ∧ (0 ≤ i.t ∧ i.t ≤ 7) ∧ (0 ≤ i.u ∧ i.u ≤ 7) ∧ (0 ≤ i.a ∧ i.a ≤ 7)
theorem rightI_regs {i : In} {n : Nat} (h : rightI i n = true) : regs i := by
 unfold rightI at h
 cases e : hasI i.op with
 | none => rw [e] at h; cases h
 | some x =>
  rw [e] at h
  simp only [Bool.and_eq_true] at h
  obtain ⟨⟨⟨⟨⟨⟨h1,h2⟩,h3⟩,h4⟩,h5⟩,h6⟩,h7⟩ := h
  have := fieldOk_r h1
  have := fieldOk_r h2
  have := fieldOk_r h3
  have := fieldOk_r h4
  have := fieldOk_r h5
  exact ⟨by omega,by omega,by omega,by omega,by omega⟩
set_option maxHeartbeats 20000000 in
theorem rr_ {H : AH} (op d s t u a : Int) (k : Nat) (to : Int) (n : Nat) (hk : k < 4294967296) (hop : 1 ≤ op ∧ op ≤ 23 ∧ op ≠ 14 ∧ op ≠ 15) (hr : regs ⟨op,d,s,t,u,a,k,to⟩) {K : Value → AH → Prop} (hK : K (.bool (rightI ⟨op,d,s,t,u,a,k,to⟩ n)) H) : AC Try.prog 42 [(In.v ⟨op,d,s,t,u,a,k,to⟩),.int .i64 n] H K := by
 refine AC.clean ?_
 refine entry hmix cf42 ?_
 obtain ⟨h1,h2,h3,h4,h5⟩ := hr
 simp only at h1 h2 h3 h4 h5
 unfold In.v In.vs
 simp (maxSteps := 2000000) (implicitDefEqProofs := false) [-getElem?_pos,-getElem?_neg]
 refine rname_ op ?_
 have hnm : ((formI op).1 == []) = false := by
  have : op = 1 ∨ op = 2 ∨ op = 3 ∨ op = 4 ∨ op = 5 ∨ op = 6 ∨ op = 7 ∨ op = 8 ∨ op = 9 ∨ op = 10 ∨ op = 11 ∨ op = 12 ∨ op = 13 ∨ op = 16 ∨ op = 17 ∨ op = 18 ∨ op = 19 ∨ op = 20 ∨ op = 21 ∨ op = 22 ∨ op = 23 := by omega
  rcases this with rfl | rfl | rfl | rfl | rfl | rfl | rfl | rfl | rfl | rfl | rfl | rfl | rfl | rfl | rfl | rfl | rfl | rfl | rfl | rfl | rfl <;> rfl
 obtain ⟨nm,hn⟩ : ∃ nm,(formI op).1 = nm := ⟨_,rfl⟩
 rw [hn] at hnm ⊢
 have hnm' : ¬ nm = [] := by simpa using hnm
 unfold strV
 simp (maxSteps := 2000000) (implicitDefEqProofs := false) [-getElem?_pos,-getElem?_neg,hnm,hnm']
 refine rreg_ d ?_
 simp (maxSteps := 2000000) (implicitDefEqProofs := false) [-getElem?_pos,-getElem?_neg,h1]
 refine rreg_ s ?_
 simp (maxSteps := 2000000) (implicitDefEqProofs := false) [-getElem?_pos,-getElem?_neg,h2]
 refine rreg_ t ?_
 simp (maxSteps := 2000000) (implicitDefEqProofs := false) [-getElem?_pos,-getElem?_neg,h3]
 refine rreg_ u ?_
 simp (maxSteps := 2000000) (implicitDefEqProofs := false) [-getElem?_pos,-getElem?_neg,h4]
 have : op = 1 ∨ op = 2 ∨ op = 3 ∨ op = 4 ∨ op = 5 ∨ op = 6 ∨ op = 7 ∨ op = 8 ∨ op = 9 ∨ op = 10 ∨ op = 11 ∨ op = 12 ∨ op = 13 ∨ op = 16 ∨ op = 17 ∨ op = 18 ∨ op = 19 ∨ op = 20 ∨ op = 21 ∨ op = 22 ∨ op = 23 := by omega
 clear hn hnm hnm'
 rcases this with rfl | rfl | rfl | rfl | rfl | rfl | rfl | rfl | rfl | rfl | rfl | rfl | rfl | rfl | rfl | rfl | rfl | rfl | rfl | rfl | rfl
 ·as_aux_lemma =>
  cases hB : eqL [.int .i64 1,.int .i64 d,.int .i64 0,.int .i64 0,.int .i64 0,.int .i64 0,.int .u32 (k : Int),.int .i64 0] [.int .i64 1,.int .i64 d,.int .i64 s,.int .i64 t,.int .i64 u,.int .i64 a,.int .u32 (k : Int),.int .i64 to] with
  | false =>
   refine rreg_ a ?_
   simp (maxSteps := 2000000) (implicitDefEqProofs := false) [-getElem?_pos,-getElem?_neg,h5,hB,splice_one,splice_more,geqR1]
   exact kb hK (by simp [eqL] at hB; simp [rightI,hasI,fieldOk]; omega)
  | true =>
   refine rreg_ a ?_
   simp (maxSteps := 2000000) (implicitDefEqProofs := false) [-getElem?_pos,-getElem?_neg,h5,hB,splice_one,splice_more,geqR1]
   exact kb hK (by simp [eqL] at hB; simp [rightI,hasI,fieldOk]; omega)
 ·as_aux_lemma =>
  cases hB : eqL [.int .i64 2,.int .i64 d,.int .i64 s,.int .i64 0,.int .i64 0,.int .i64 0,.int .u32 0,.int .i64 0] [.int .i64 2,.int .i64 d,.int .i64 s,.int .i64 t,.int .i64 u,.int .i64 a,.int .u32 (k : Int),.int .i64 to] with
  | false =>
   refine rreg_ a ?_
   simp (maxSteps := 2000000) (implicitDefEqProofs := false) [-getElem?_pos,-getElem?_neg,h5,hB,splice_one,splice_more,geqR1]
   exact kb hK (by simp [eqL] at hB; simp [rightI,hasI,fieldOk]; omega)
  | true =>
   refine rreg_ a ?_
   simp (maxSteps := 2000000) (implicitDefEqProofs := false) [-getElem?_pos,-getElem?_neg,h5,hB,splice_one,splice_more,geqR1]
   exact kb hK (by simp [eqL] at hB; simp [rightI,hasI,fieldOk]; omega)
 ·as_aux_lemma =>
  cases hB : eqL [.int .i64 3,.int .i64 d,.int .i64 s,.int .i64 0,.int .i64 0,.int .i64 0,.int .u32 (k : Int),.int .i64 0] [.int .i64 3,.int .i64 d,.int .i64 s,.int .i64 t,.int .i64 u,.int .i64 a,.int .u32 (k : Int),.int .i64 to] with
  | false =>
   refine rreg_ a ?_
   simp (maxSteps := 2000000) (implicitDefEqProofs := false) [-getElem?_pos,-getElem?_neg,h5,hB,splice_one,splice_more,geqR1]
   exact kb hK (by simp [eqL] at hB; simp [rightI,hasI,fieldOk]; omega)
  | true =>
   refine rreg_ a ?_
   simp (maxSteps := 2000000) (implicitDefEqProofs := false) [-getElem?_pos,-getElem?_neg,h5,hB,splice_one,splice_more,geqR1]
   exact kb hK (by simp [eqL] at hB; simp [rightI,hasI,fieldOk]; omega)
 ·as_aux_lemma =>
  cases hB : eqL [.int .i64 4,.int .i64 d,.int .i64 s,.int .i64 0,.int .i64 0,.int .i64 0,.int .u32 (k : Int),.int .i64 0] [.int .i64 4,.int .i64 d,.int .i64 s,.int .i64 t,.int .i64 u,.int .i64 a,.int .u32 (k : Int),.int .i64 to] with
  | false =>
   refine rreg_ a ?_
   simp (maxSteps := 2000000) (implicitDefEqProofs := false) [-getElem?_pos,-getElem?_neg,h5,hB,splice_one,splice_more,geqR1]
   exact kb hK (by simp [eqL] at hB; simp [rightI,hasI,fieldOk]; omega)
  | true =>
   refine rreg_ a ?_
   simp (maxSteps := 2000000) (implicitDefEqProofs := false) [-getElem?_pos,-getElem?_neg,h5,hB,splice_one,splice_more,geqR1]
   exact kb hK (by simp [eqL] at hB; simp [rightI,hasI,fieldOk]; omega)
 ·as_aux_lemma =>
  by_cases e0 : 31 < k
  ·have e0' : 31 < (k : Int) := by omega
   refine rreg_ a ?_
   simp (maxSteps := 2000000) (implicitDefEqProofs := false) [-getElem?_pos, -getElem?_neg, h5, e0, e0', splice_one, splice_more, geqR1]
   exact kb hK (by simp [rightI,hasI,fieldOk]; omega)
  have e0' : ¬ (31 < (k : Int)) := by omega
  cases hB : eqL [.int .i64 5,.int .i64 d,.int .i64 s,.int .i64 0,.int .i64 0,.int .i64 0,.int .u32 (k : Int),.int .i64 0] [.int .i64 5,.int .i64 d,.int .i64 s,.int .i64 t,.int .i64 u,.int .i64 a,.int .u32 (k : Int),.int .i64 to] with
  | false =>
   refine rreg_ a ?_
   simp (maxSteps := 2000000) (implicitDefEqProofs := false) [-getElem?_pos, -getElem?_neg, h5, e0, e0', hB, splice_one, splice_more, geqR1]
   exact kb hK (by simp [eqL] at hB; simp [rightI,hasI,fieldOk]; omega)
  | true =>
   refine rreg_ a ?_
   simp (maxSteps := 2000000) (implicitDefEqProofs := false) [-getElem?_pos, -getElem?_neg, h5, e0, e0', hB, splice_one, splice_more, geqR1]
   exact kb hK (by simp [eqL] at hB; simp [rightI,hasI,fieldOk]; omega)
 ·as_aux_lemma =>
  by_cases e0 : 31 < k
  ·have e0' : 31 < (k : Int) := by omega
   refine rreg_ a ?_
   simp (maxSteps := 2000000) (implicitDefEqProofs := false) [-getElem?_pos, -getElem?_neg, h5, e0, e0', splice_one, splice_more, geqR1]
   exact kb hK (by simp [rightI,hasI,fieldOk]; omega)
  have e0' : ¬ (31 < (k : Int)) := by omega
  cases hB : eqL [.int .i64 6,.int .i64 d,.int .i64 s,.int .i64 0,.int .i64 0,.int .i64 0,.int .u32 (k : Int),.int .i64 0] [.int .i64 6,.int .i64 d,.int .i64 s,.int .i64 t,.int .i64 u,.int .i64 a,.int .u32 (k : Int),.int .i64 to] with
  | false =>
   refine rreg_ a ?_
   simp (maxSteps := 2000000) (implicitDefEqProofs := false) [-getElem?_pos, -getElem?_neg, h5, e0, e0', hB, splice_one, splice_more, geqR1]
   exact kb hK (by simp [eqL] at hB; simp [rightI,hasI,fieldOk]; omega)
  | true =>
   refine rreg_ a ?_
   simp (maxSteps := 2000000) (implicitDefEqProofs := false) [-getElem?_pos, -getElem?_neg, h5, e0, e0', hB, splice_one, splice_more, geqR1]
   exact kb hK (by simp [eqL] at hB; simp [rightI,hasI,fieldOk]; omega)
 ·as_aux_lemma =>
  cases hB : eqL [.int .i64 7,.int .i64 d,.int .i64 s,.int .i64 t,.int .i64 0,.int .i64 0,.int .u32 0,.int .i64 0] [.int .i64 7,.int .i64 d,.int .i64 s,.int .i64 t,.int .i64 u,.int .i64 a,.int .u32 (k : Int),.int .i64 to] with
  | false =>
   refine rreg_ a ?_
   simp (maxSteps := 2000000) (implicitDefEqProofs := false) [-getElem?_pos,-getElem?_neg,h5,hB,splice_one,splice_more,geqR1]
   exact kb hK (by simp [eqL] at hB; simp [rightI,hasI,fieldOk]; omega)
  | true =>
   refine rreg_ a ?_
   simp (maxSteps := 2000000) (implicitDefEqProofs := false) [-getElem?_pos,-getElem?_neg,h5,hB,splice_one,splice_more,geqR1]
   exact kb hK (by simp [eqL] at hB; simp [rightI,hasI,fieldOk]; omega)
 ·as_aux_lemma =>
  by_cases g1 : to < 0
  ·refine rreg_ a ?_
   simp (maxSteps := 2000000) (implicitDefEqProofs := false) [-getElem?_pos,-getElem?_neg,h5,g1,splice_one,splice_more,geqR1]
   exact kb hK (by simp [rightI,hasI,fieldOk]; omega)
  cases hB : eqL [.int .i64 8,.int .i64 0,.int .i64 s,.int .i64 t,.int .i64 0,.int .i64 0,.int .u32 0,.int .i64 to] [.int .i64 8,.int .i64 d,.int .i64 s,.int .i64 t,.int .i64 u,.int .i64 a,.int .u32 (k : Int),.int .i64 to] with
  | false =>
   refine rreg_ a ?_
   simp (maxSteps := 2000000) (implicitDefEqProofs := false) [-getElem?_pos,-getElem?_neg,h5,g1,hB,splice_one,splice_more,geqR1]
   exact kb hK (by simp [eqL] at hB; simp [rightI,hasI,fieldOk]; omega)
  | true =>
   by_cases g3 : to < n
   ·refine rreg_ a ?_
    simp (maxSteps := 2000000) (implicitDefEqProofs := false) [-getElem?_pos,-getElem?_neg,h5,g1,hB,g3,splice_one,splice_more,geqR1]
    exact kb hK (by simp [eqL] at hB; simp [rightI,hasI,fieldOk]; omega)
   ·refine rreg_ a ?_
    simp (maxSteps := 2000000) (implicitDefEqProofs := false) [-getElem?_pos,-getElem?_neg,h5,g1,hB,g3,splice_one,splice_more,geqR1]
    exact kb hK (by simp [eqL] at hB; simp [rightI,hasI,fieldOk]; omega)
 ·as_aux_lemma =>
  by_cases g1 : to < 0
  ·refine rreg_ a ?_
   simp (maxSteps := 2000000) (implicitDefEqProofs := false) [-getElem?_pos,-getElem?_neg,h5,g1,splice_one,splice_more,geqR1]
   exact kb hK (by simp [rightI,hasI,fieldOk]; omega)
  cases hB : eqL [.int .i64 9,.int .i64 0,.int .i64 s,.int .i64 t,.int .i64 0,.int .i64 0,.int .u32 0,.int .i64 to] [.int .i64 9,.int .i64 d,.int .i64 s,.int .i64 t,.int .i64 u,.int .i64 a,.int .u32 (k : Int),.int .i64 to] with
  | false =>
   refine rreg_ a ?_
   simp (maxSteps := 2000000) (implicitDefEqProofs := false) [-getElem?_pos,-getElem?_neg,h5,g1,hB,splice_one,splice_more,geqR1]
   exact kb hK (by simp [eqL] at hB; simp [rightI,hasI,fieldOk]; omega)
  | true =>
   by_cases g3 : to < n
   ·refine rreg_ a ?_
    simp (maxSteps := 2000000) (implicitDefEqProofs := false) [-getElem?_pos,-getElem?_neg,h5,g1,hB,g3,splice_one,splice_more,geqR1]
    exact kb hK (by simp [eqL] at hB; simp [rightI,hasI,fieldOk]; omega)
   ·refine rreg_ a ?_
    simp (maxSteps := 2000000) (implicitDefEqProofs := false) [-getElem?_pos,-getElem?_neg,h5,g1,hB,g3,splice_one,splice_more,geqR1]
    exact kb hK (by simp [eqL] at hB; simp [rightI,hasI,fieldOk]; omega)
 ·as_aux_lemma =>
  by_cases g1 : to < 0
  ·refine rreg_ a ?_
   simp (maxSteps := 2000000) (implicitDefEqProofs := false) [-getElem?_pos,-getElem?_neg,h5,g1,splice_one,splice_more,geqR1]
   exact kb hK (by simp [rightI,hasI,fieldOk]; omega)
  cases hB : eqL [.int .i64 10,.int .i64 0,.int .i64 0,.int .i64 0,.int .i64 0,.int .i64 0,.int .u32 0,.int .i64 to] [.int .i64 10,.int .i64 d,.int .i64 s,.int .i64 t,.int .i64 u,.int .i64 a,.int .u32 (k : Int),.int .i64 to] with
  | false =>
   refine rreg_ a ?_
   simp (maxSteps := 2000000) (implicitDefEqProofs := false) [-getElem?_pos,-getElem?_neg,h5,g1,hB,splice_one,splice_more,geqR1]
   exact kb hK (by simp [eqL] at hB; simp [rightI,hasI,fieldOk]; omega)
  | true =>
   by_cases g3 : to < n
   ·refine rreg_ a ?_
    simp (maxSteps := 2000000) (implicitDefEqProofs := false) [-getElem?_pos,-getElem?_neg,h5,g1,hB,g3,splice_one,splice_more,geqR1]
    exact kb hK (by simp [eqL] at hB; simp [rightI,hasI,fieldOk]; omega)
   ·refine rreg_ a ?_
    simp (maxSteps := 2000000) (implicitDefEqProofs := false) [-getElem?_pos,-getElem?_neg,h5,g1,hB,g3,splice_one,splice_more,geqR1]
    exact kb hK (by simp [eqL] at hB; simp [rightI,hasI,fieldOk]; omega)
 ·as_aux_lemma =>
  cases hB : eqL [.int .i64 11,.int .i64 d,.int .i64 0,.int .i64 0,.int .i64 0,.int .i64 0,.int .u32 0,.int .i64 0] [.int .i64 11,.int .i64 d,.int .i64 s,.int .i64 t,.int .i64 u,.int .i64 a,.int .u32 (k : Int),.int .i64 to] with
  | false =>
   refine rreg_ a ?_
   simp (maxSteps := 2000000) (implicitDefEqProofs := false) [-getElem?_pos,-getElem?_neg,h5,hB,splice_one,splice_more,geqR1]
   exact kb hK (by simp [eqL] at hB; simp [rightI,hasI,fieldOk]; omega)
  | true =>
   refine rreg_ a ?_
   simp (maxSteps := 2000000) (implicitDefEqProofs := false) [-getElem?_pos,-getElem?_neg,h5,hB,splice_one,splice_more,geqR1]
   exact kb hK (by simp [eqL] at hB; simp [rightI,hasI,fieldOk]; omega)
 ·as_aux_lemma =>
  by_cases e0 : k < 1
  ·have e0' : (k : Int) < 1 := by omega
   refine rreg_ a ?_
   simp (maxSteps := 2000000) (implicitDefEqProofs := false) [-getElem?_pos, -getElem?_neg, h5, e0, e0', splice_one, splice_more, geqR1]
   exact kb hK (by simp [rightI,hasI,fieldOk]; omega)
  have e0' : ¬ ((k : Int) < 1) := by omega
  by_cases e1 : 4 < k
  ·have e1' : 4 < (k : Int) := by omega
   refine rreg_ a ?_
   simp (maxSteps := 2000000) (implicitDefEqProofs := false) [-getElem?_pos, -getElem?_neg, h5, e0, e0', e1, e1', splice_one, splice_more, geqR1]
   exact kb hK (by simp [rightI,hasI,fieldOk]; omega)
  have e1' : ¬ (4 < (k : Int)) := by omega
  cases hB : eqL [.int .i64 12,.int .i64 0,.int .i64 0,.int .i64 0,.int .i64 0,.int .i64 0,.int .u32 (k : Int),.int .i64 0] [.int .i64 12,.int .i64 d,.int .i64 s,.int .i64 t,.int .i64 u,.int .i64 a,.int .u32 (k : Int),.int .i64 to] with
  | false =>
   refine rreg_ a ?_
   simp (maxSteps := 2000000) (implicitDefEqProofs := false) [-getElem?_pos, -getElem?_neg, h5, e0, e0', e1, e1', hB, splice_one, splice_more, geqR1]
   exact kb hK (by simp [eqL] at hB; simp [rightI,hasI,fieldOk]; omega)
  | true =>
   refine rreg_ a ?_
   simp (maxSteps := 2000000) (implicitDefEqProofs := false) [-getElem?_pos, -getElem?_neg, h5, e0, e0', e1, e1', hB, splice_one, splice_more, geqR1]
   exact kb hK (by simp [eqL] at hB; simp [rightI,hasI,fieldOk]; omega)
 ·as_aux_lemma =>
  by_cases e0 : 3 < k
  ·have e0' : 3 < (k : Int) := by omega
   refine rreg_ a ?_
   simp (maxSteps := 2000000) (implicitDefEqProofs := false) [-getElem?_pos, -getElem?_neg, h5, e0, e0', splice_one, splice_more, geqR1]
   exact kb hK (by simp [rightI,hasI,fieldOk]; omega)
  have e0' : ¬ (3 < (k : Int)) := by omega
  cases hB : eqL [.int .i64 13,.int .i64 0,.int .i64 0,.int .i64 0,.int .i64 0,.int .i64 0,.int .u32 (k : Int),.int .i64 0] [.int .i64 13,.int .i64 d,.int .i64 s,.int .i64 t,.int .i64 u,.int .i64 a,.int .u32 (k : Int),.int .i64 to] with
  | false =>
   refine rreg_ a ?_
   simp (maxSteps := 2000000) (implicitDefEqProofs := false) [-getElem?_pos, -getElem?_neg, h5, e0, e0', hB, splice_one, splice_more, geqR1]
   exact kb hK (by simp [eqL] at hB; simp [rightI,hasI,fieldOk]; omega)
  | true =>
   refine rreg_ a ?_
   simp (maxSteps := 2000000) (implicitDefEqProofs := false) [-getElem?_pos, -getElem?_neg, h5, e0, e0', hB, splice_one, splice_more, geqR1]
   exact kb hK (by simp [eqL] at hB; simp [rightI,hasI,fieldOk]; omega)
 ·as_aux_lemma =>
  cases hB : eqL [.int .i64 16,.int .i64 d,.int .i64 s,.int .i64 0,.int .i64 0,.int .i64 a,.int .u32 0,.int .i64 0] [.int .i64 16,.int .i64 d,.int .i64 s,.int .i64 t,.int .i64 u,.int .i64 a,.int .u32 (k : Int),.int .i64 to] with
  | false =>
   refine rreg_ a ?_
   simp (maxSteps := 2000000) (implicitDefEqProofs := false) [-getElem?_pos,-getElem?_neg,h5,hB,splice_one,splice_more,geqR1]
   exact kb hK (by simp [eqL] at hB; simp [rightI,hasI,fieldOk]; omega)
  | true =>
   refine rreg_ a ?_
   simp (maxSteps := 2000000) (implicitDefEqProofs := false) [-getElem?_pos,-getElem?_neg,h5,hB,splice_one,splice_more,geqR1]
   exact kb hK (by simp [eqL] at hB; simp [rightI,hasI,fieldOk]; omega)
 ·as_aux_lemma =>
  cases hB : eqL [.int .i64 17,.int .i64 0,.int .i64 s,.int .i64 t,.int .i64 0,.int .i64 a,.int .u32 0,.int .i64 0] [.int .i64 17,.int .i64 d,.int .i64 s,.int .i64 t,.int .i64 u,.int .i64 a,.int .u32 (k : Int),.int .i64 to] with
  | false =>
   refine rreg_ a ?_
   simp (maxSteps := 2000000) (implicitDefEqProofs := false) [-getElem?_pos,-getElem?_neg,h5,hB,splice_one,splice_more,geqR1]
   exact kb hK (by simp [eqL] at hB; simp [rightI,hasI,fieldOk]; omega)
  | true =>
   refine rreg_ a ?_
   simp (maxSteps := 2000000) (implicitDefEqProofs := false) [-getElem?_pos,-getElem?_neg,h5,hB,splice_one,splice_more,geqR1]
   exact kb hK (by simp [eqL] at hB; simp [rightI,hasI,fieldOk]; omega)
 ·as_aux_lemma =>
  cases hB : eqL [.int .i64 18,.int .i64 d,.int .i64 s,.int .i64 t,.int .i64 0,.int .i64 a,.int .u32 0,.int .i64 0] [.int .i64 18,.int .i64 d,.int .i64 s,.int .i64 t,.int .i64 u,.int .i64 a,.int .u32 (k : Int),.int .i64 to] with
  | false =>
   refine rreg_ a ?_
   simp (maxSteps := 2000000) (implicitDefEqProofs := false) [-getElem?_pos,-getElem?_neg,h5,hB,splice_one,splice_more,geqR1]
   exact kb hK (by simp [eqL] at hB; simp [rightI,hasI,fieldOk]; omega)
  | true =>
   refine rreg_ a ?_
   simp (maxSteps := 2000000) (implicitDefEqProofs := false) [-getElem?_pos,-getElem?_neg,h5,hB,splice_one,splice_more,geqR1]
   exact kb hK (by simp [eqL] at hB; simp [rightI,hasI,fieldOk]; omega)
 ·as_aux_lemma =>
  cases hB : eqL [.int .i64 19,.int .i64 d,.int .i64 s,.int .i64 t,.int .i64 u,.int .i64 a,.int .u32 0,.int .i64 0] [.int .i64 19,.int .i64 d,.int .i64 s,.int .i64 t,.int .i64 u,.int .i64 a,.int .u32 (k : Int),.int .i64 to] with
  | false =>
   refine rreg_ a ?_
   simp (maxSteps := 2000000) (implicitDefEqProofs := false) [-getElem?_pos,-getElem?_neg,h5,hB,splice_one,splice_more,geqR1]
   exact kb hK (by simp [eqL] at hB; simp [rightI,hasI,fieldOk]; omega)
  | true =>
   refine rreg_ a ?_
   simp (maxSteps := 2000000) (implicitDefEqProofs := false) [-getElem?_pos,-getElem?_neg,h5,hB,splice_one,splice_more,geqR1]
   exact kb hK (by simp [eqL] at hB; simp [rightI,hasI,fieldOk]; omega)
 ·as_aux_lemma =>
  cases hB : eqL [.int .i64 20,.int .i64 d,.int .i64 s,.int .i64 0,.int .i64 0,.int .i64 a,.int .u32 (k : Int),.int .i64 0] [.int .i64 20,.int .i64 d,.int .i64 s,.int .i64 t,.int .i64 u,.int .i64 a,.int .u32 (k : Int),.int .i64 to] with
  | false =>
   refine rreg_ a ?_
   simp (maxSteps := 2000000) (implicitDefEqProofs := false) [-getElem?_pos,-getElem?_neg,h5,hB,splice_one,splice_more,geqR1]
   exact kb hK (by simp [eqL] at hB; simp [rightI,hasI,fieldOk]; omega)
  | true =>
   refine rreg_ a ?_
   simp (maxSteps := 2000000) (implicitDefEqProofs := false) [-getElem?_pos,-getElem?_neg,h5,hB,splice_one,splice_more,geqR1]
   exact kb hK (by simp [eqL] at hB; simp [rightI,hasI,fieldOk]; omega)
 ·as_aux_lemma =>
  by_cases e0 : 1 < k
  ·have e0' : 1 < (k : Int) := by omega
   refine rreg_ a ?_
   simp (maxSteps := 2000000) (implicitDefEqProofs := false) [-getElem?_pos, -getElem?_neg, h5, e0, e0', splice_one, splice_more, geqR1]
   exact kb hK (by simp [rightI,hasI,fieldOk]; omega)
  have e0' : ¬ (1 < (k : Int)) := by omega
  by_cases e1 : to < -1
  ·refine rreg_ a ?_
   simp (maxSteps := 2000000) (implicitDefEqProofs := false) [-getElem?_pos, -getElem?_neg, h5, e0, e0', e1, splice_one, splice_more, geqR1]
   exact kb hK (by simp [rightI,hasI,fieldOk]; omega)
  by_cases g2 : to = -1
  ·subst g2
   cases hB : eqL [.int .i64 21,.int .i64 d,.int .i64 s,.int .i64 t,.int .i64 0,.int .i64 a,.int .u32 (k : Int),.int .i64 (-1)] [.int .i64 21,.int .i64 d,.int .i64 s,.int .i64 t,.int .i64 u,.int .i64 a,.int .u32 (k : Int),.int .i64 (-1)] with
   | false =>
    refine rreg_ a ?_
    simp (maxSteps := 2000000) (implicitDefEqProofs := false) [-getElem?_pos, -getElem?_neg, h5, e0, e0', hB, splice_one, splice_more, geqR1]
    exact kb hK (by simp [eqL] at hB; simp [rightI,hasI,fieldOk]; omega)
   | true =>
    refine rreg_ a ?_
    simp (maxSteps := 2000000) (implicitDefEqProofs := false) [-getElem?_pos, -getElem?_neg, h5, e0, e0', hB, splice_one, splice_more, geqR1]
    exact kb hK (by simp [eqL] at hB; simp [rightI,hasI,fieldOk]; omega)
  cases hB : eqL [.int .i64 21,.int .i64 d,.int .i64 s,.int .i64 t,.int .i64 0,.int .i64 a,.int .u32 (k : Int),.int .i64 to] [.int .i64 21,.int .i64 d,.int .i64 s,.int .i64 t,.int .i64 u,.int .i64 a,.int .u32 (k : Int),.int .i64 to] with
  | false =>
   refine rreg_ a ?_
   simp (maxSteps := 2000000) (implicitDefEqProofs := false) [-getElem?_pos, -getElem?_neg, h5, e0, e0', e1, g2, hB, splice_one, splice_more, geqR1]
   exact kb hK (by simp [eqL] at hB; simp [rightI,hasI,fieldOk]; omega)
  | true =>
   by_cases g3 : to < n
   ·refine rreg_ a ?_
    simp (maxSteps := 2000000) (implicitDefEqProofs := false) [-getElem?_pos, -getElem?_neg, h5, e0, e0', e1, hB, g2, g3, splice_one, splice_more, geqR1]
    exact kb hK (by simp [eqL] at hB; simp [rightI,hasI,fieldOk]; omega)
   ·refine rreg_ a ?_
    simp (maxSteps := 2000000) (implicitDefEqProofs := false) [-getElem?_pos, -getElem?_neg, h5, e0, e0', e1, hB, g2, g3, splice_one, splice_more, geqR1]
    exact kb hK (by simp [eqL] at hB; simp [rightI,hasI,fieldOk]; omega)
 ·as_aux_lemma =>
  cases hB : eqL [.int .i64 22,.int .i64 d,.int .i64 0,.int .i64 0,.int .i64 0,.int .i64 0,.int .u32 0,.int .i64 0] [.int .i64 22,.int .i64 d,.int .i64 s,.int .i64 t,.int .i64 u,.int .i64 a,.int .u32 (k : Int),.int .i64 to] with
  | false =>
   refine rreg_ a ?_
   simp (maxSteps := 2000000) (implicitDefEqProofs := false) [-getElem?_pos,-getElem?_neg,h5,hB,splice_one,splice_more,geqR1]
   exact kb hK (by simp [eqL] at hB; simp [rightI,hasI,fieldOk]; omega)
  | true =>
   refine rreg_ a ?_
   simp (maxSteps := 2000000) (implicitDefEqProofs := false) [-getElem?_pos,-getElem?_neg,h5,hB,splice_one,splice_more,geqR1]
   exact kb hK (by simp [eqL] at hB; simp [rightI,hasI,fieldOk]; omega)
 ·as_aux_lemma =>
  cases hB : eqL [.int .i64 23,.int .i64 0,.int .i64 s,.int .i64 0,.int .i64 0,.int .i64 0,.int .u32 0,.int .i64 0] [.int .i64 23,.int .i64 d,.int .i64 s,.int .i64 t,.int .i64 u,.int .i64 a,.int .u32 (k : Int),.int .i64 to] with
  | false =>
   refine rreg_ a ?_
   simp (maxSteps := 2000000) (implicitDefEqProofs := false) [-getElem?_pos,-getElem?_neg,h5,hB,splice_one,splice_more,geqR1]
   exact kb hK (by simp [eqL] at hB; simp [rightI,hasI,fieldOk]; omega)
  | true =>
   refine rreg_ a ?_
   simp (maxSteps := 2000000) (implicitDefEqProofs := false) [-getElem?_pos,-getElem?_neg,h5,hB,splice_one,splice_more,geqR1]
   exact kb hK (by simp [eqL] at hB; simp [rightI,hasI,fieldOk]; omega)
set_option maxHeartbeats 4000000 in
theorem rright_ (i : In) (hk : i.k < 4294967296) (n : Nat) {H : AH} {K : Value → AH → Prop} (hK : K (.bool (rightI i n)) H) : AC Try.prog 42 [i.v,.int .i64 n] H K := by
 obtain ⟨op,d,s,t,u,a,k,to⟩ := i
 by_cases hop : 1 ≤ op ∧ op ≤ 23 ∧ op ≠ 14 ∧ op ≠ 15
 case neg =>
  have e2 : hasI op = none := by unfold hasI; simp only [show op ≠ 1 by omega,show op ≠ 2 by omega,show op ≠ 3 by omega,show op ≠ 4 by omega,show op ≠ 5 by omega,show op ≠ 6 by omega,show op ≠ 7 by omega,show op ≠ 8 by omega,show op ≠ 9 by omega,show op ≠ 10 by omega,show op ≠ 11 by omega,show op ≠ 12 by omega,show op ≠ 13 by omega,show op ≠ 16 by omega,show op ≠ 17 by omega,show op ≠ 18 by omega,show op ≠ 19 by omega,show op ≠ 20 by omega,show op ≠ 21 by omega,show op ≠ 22 by omega,show op ≠ 23 by omega,if_false]
  have e1 : formI op = ([],[]) := by unfold formI; simp only [show op ≠ 1 by omega,show op ≠ 2 by omega,show op ≠ 3 by omega,show op ≠ 4 by omega,show op ≠ 5 by omega,show op ≠ 6 by omega,show op ≠ 7 by omega,show op ≠ 8 by omega,show op ≠ 9 by omega,show op ≠ 10 by omega,show op ≠ 11 by omega,show op ≠ 12 by omega,show op ≠ 13 by omega,show op ≠ 16 by omega,show op ≠ 17 by omega,show op ≠ 18 by omega,show op ≠ 19 by omega,show op ≠ 20 by omega,show op ≠ 21 by omega,show op ≠ 22 by omega,show op ≠ 23 by omega,if_false]
  refine AC.clean ?_
  refine entry hmix cf42 ?_
  unfold In.v In.vs
  simp (maxSteps := 2000000) (implicitDefEqProofs := false) [-getElem?_pos,-getElem?_neg]
  refine rname_ op ?_
  rw [e1]
  unfold strV
  simp (maxSteps := 2000000) (implicitDefEqProofs := false) [-getElem?_pos,-getElem?_neg]
  exact kb hK (by simp [rightI,e2])
 by_cases hr : regs ⟨op,d,s,t,u,a,k,to⟩
 ·exact rr_ op d s t u a k to n hk hop hr hK
 have hf : rightI ⟨op,d,s,t,u,a,k,to⟩ n = false := by
  cases e : rightI ⟨op,d,s,t,u,a,k,to⟩ n with
  | false => rfl
  | true => exact absurd (rightI_regs e) hr
 rw [hf] at hK
 refine AC.clean ?_
 refine entry hmix cf42 ?_
 unfold In.v In.vs
 simp (maxSteps := 2000000) (implicitDefEqProofs := false) [-getElem?_pos,-getElem?_neg]
 refine rname_ op ?_
 have hnm : ((formI op).1 == []) = false := by
  have : op = 1 ∨ op = 2 ∨ op = 3 ∨ op = 4 ∨ op = 5 ∨ op = 6 ∨ op = 7 ∨ op = 8 ∨ op = 9 ∨ op = 10 ∨ op = 11 ∨ op = 12 ∨ op = 13 ∨ op = 16 ∨ op = 17 ∨ op = 18 ∨ op = 19 ∨ op = 20 ∨ op = 21 ∨ op = 22 ∨ op = 23 := by omega
  rcases this with rfl | rfl | rfl | rfl | rfl | rfl | rfl | rfl | rfl | rfl | rfl | rfl | rfl | rfl | rfl | rfl | rfl | rfl | rfl | rfl | rfl <;> rfl
 obtain ⟨nm,hn⟩ : ∃ nm,(formI op).1 = nm := ⟨_,rfl⟩
 rw [hn] at hnm ⊢
 have hnm' : ¬ nm = [] := by simpa using hnm
 unfold strV
 simp (maxSteps := 2000000) (implicitDefEqProofs := false) [-getElem?_pos,-getElem?_neg,hnm,hnm']
 unfold regs at hr
 simp only at hr
 by_cases b0 : 0 ≤ d ∧ d ≤ 7
 case neg =>
  refine rreg_ d ?_
  simp (maxSteps := 2000000) (implicitDefEqProofs := false) [-getElem?_pos,-getElem?_neg,b0]
  exact hK
 refine rreg_ d ?_
 simp (maxSteps := 2000000) (implicitDefEqProofs := false) [-getElem?_pos,-getElem?_neg,b0]
 by_cases b1 : 0 ≤ s ∧ s ≤ 7
 case neg =>
  refine rreg_ s ?_
  simp (maxSteps := 2000000) (implicitDefEqProofs := false) [-getElem?_pos,-getElem?_neg,b1]
  exact hK
 refine rreg_ s ?_
 simp (maxSteps := 2000000) (implicitDefEqProofs := false) [-getElem?_pos,-getElem?_neg,b1]
 by_cases b2 : 0 ≤ t ∧ t ≤ 7
 case neg =>
  refine rreg_ t ?_
  simp (maxSteps := 2000000) (implicitDefEqProofs := false) [-getElem?_pos,-getElem?_neg,b2]
  exact hK
 refine rreg_ t ?_
 simp (maxSteps := 2000000) (implicitDefEqProofs := false) [-getElem?_pos,-getElem?_neg,b2]
 by_cases b3 : 0 ≤ u ∧ u ≤ 7
 case neg =>
  refine rreg_ u ?_
  simp (maxSteps := 2000000) (implicitDefEqProofs := false) [-getElem?_pos,-getElem?_neg,b3]
  exact hK
 refine rreg_ u ?_
 simp (maxSteps := 2000000) (implicitDefEqProofs := false) [-getElem?_pos,-getElem?_neg,b3]
 by_cases b4 : 0 ≤ a ∧ a ≤ 7
 ·exact absurd ⟨b0,b1,b2,b3,b4⟩ hr
 refine rreg_ a ?_
 simp (maxSteps := 2000000) (implicitDefEqProofs := false) [-getElem?_pos,-getElem?_neg,b4]
 exact hK
end Ex
end Go.Proofs.Ytongllppbifiaaa
