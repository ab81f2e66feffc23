import Derived.Test.YtongllppbifiaaaW31
import Derived.Test.YtongllppbifiaaaW32
namespace Go.Proofs.Ytongllppbifiaaa
namespace Ex
open Go Abs Code
attribute [local simp] DN5 HA DN NB begT atHead kd wantedA evP evR evF evL evC evI evBin evUn evEq evSt evRes plain scp scpA scpL rdRow_eq RV rdCells veq veqA veqL isHole Value.cells evalL optI evBounds evFill evFillR evApp newsOf wrCells one1 fitsApp evClr undef onB_bool List.getElem?_concat_length List.getElem?_cons_zero List.getElem?_cons_succ List.getElem?_toArray List.getElem?_nil List.set_cons_zero List.set_cons_succ List.cons_append List.nil_append
set_option linter.unusedVariables false
set_option linter.unusedSimpArgs false
set_option maxRecDepth 100000
abbrev strV (l : List UInt8) : Value := .string ⟨l.toArray⟩
def fieldV (b : Nat) (p : Nat) : Value :=
 if b = 68 then .tuple #[.pointer (some ⟨p,1,none⟩),.int .i64 7]
 else if b = 83 then .tuple #[.pointer (some ⟨p,2,none⟩),.int .i64 7]
 else if b = 84 then .tuple #[.pointer (some ⟨p,3,none⟩),.int .i64 7]
 else if b = 85 then .tuple #[.pointer (some ⟨p,4,none⟩),.int .i64 7]
 else if b = 65 then .tuple #[.pointer (some ⟨p,5,none⟩),.int .i64 7]
 else .tuple #[.pointer none,.int .i64 0]
set_option maxHeartbeats 2000000 in
theorem ifield_ {H : AH} (p b : Nat) {K : Value → AH → Prop} (hK : K (fieldV b p) H) : AC Try.prog 78 [.pointer (some ⟨p,0,none⟩),.int .u8 b] H K := by
 refine entry hmix cf78 ?_
 unfold fieldV at hK
 by_cases c1 : b = 68
 ·subst c1; simp (maxSteps := 2000000) (implicitDefEqProofs := false) [-getElem?_pos,-getElem?_neg]; exact hK
 by_cases c2 : b = 83
 ·subst c2; simp (maxSteps := 2000000) (implicitDefEqProofs := false) [-getElem?_pos,-getElem?_neg]; exact hK
 by_cases c3 : b = 84
 ·subst c3; simp (maxSteps := 2000000) (implicitDefEqProofs := false) [-getElem?_pos,-getElem?_neg]; exact hK
 by_cases c4 : b = 85
 ·subst c4; simp (maxSteps := 2000000) (implicitDefEqProofs := false) [-getElem?_pos,-getElem?_neg]; exact hK
 by_cases c5 : b = 65
 ·subst c5; simp (maxSteps := 2000000) (implicitDefEqProofs := false) [-getElem?_pos,-getElem?_neg]; exact hK
 have d1 : ((b : Int) == 68) = false := by simp; omega
 have d2 : ((b : Int) == 83) = false := by simp; omega
 have d3 : ((b : Int) == 84) = false := by simp; omega
 have d4 : ((b : Int) == 85) = false := by simp; omega
 have d5 : ((b : Int) == 65) = false := by simp; omega
 simp only [c1,c2,c3,c4,c5,if_false] at hK
 simp (maxSteps := 2000000) (implicitDefEqProofs := false) [-getElem?_pos,-getElem?_neg,d1,d2,d3,d4,d5]
 exact hK
def withinV (b : Nat) : Value :=
 if b = 75 then .tuple #[.int .u32 0,.int .u32 4294967295,.bool true]
 else if b = 66 then .tuple #[.int .u32 0,.int .u32 31,.bool true]
 else if b = 77 then .tuple #[.int .u32 1,.int .u32 4,.bool true]
 else if b = 79 then .tuple #[.int .u32 0,.int .u32 3,.bool true]
 else if b = 87 then .tuple #[.int .u32 0,.int .u32 1,.bool true]
 else .tuple #[.int .u32 0,.int .u32 0,.bool false]
set_option maxHeartbeats 2000000 in
theorem iwithin_ {H : AH} (b : Nat) {K : Value → AH → Prop} (hK : K (withinV b) H) : AC Try.prog 79 [.int .u8 b] H K := by
 refine entry hmix cf79 ?_
 unfold withinV at hK
 by_cases c1 : b = 75
 ·subst c1; simp (maxSteps := 2000000) (implicitDefEqProofs := false) [-getElem?_pos,-getElem?_neg]; exact hK
 by_cases c2 : b = 66
 ·subst c2; simp (maxSteps := 2000000) (implicitDefEqProofs := false) [-getElem?_pos,-getElem?_neg]; exact hK
 by_cases c3 : b = 77
 ·subst c3; simp (maxSteps := 2000000) (implicitDefEqProofs := false) [-getElem?_pos,-getElem?_neg]; exact hK
 by_cases c4 : b = 79
 ·subst c4; simp (maxSteps := 2000000) (implicitDefEqProofs := false) [-getElem?_pos,-getElem?_neg]; exact hK
 by_cases c5 : b = 87
 ·subst c5; simp (maxSteps := 2000000) (implicitDefEqProofs := false) [-getElem?_pos,-getElem?_neg]; exact hK
 have d1 : ((b : Int) == 75) = false := by simp; omega
 have d2 : ((b : Int) == 66) = false := by simp; omega
 have d3 : ((b : Int) == 77) = false := by simp; omega
 have d4 : ((b : Int) == 79) = false := by simp; omega
 have d5 : ((b : Int) == 87) = false := by simp; omega
 simp only [c1,c2,c3,c4,c5,if_false] at hK
 simp (maxSteps := 2000000) (implicitDefEqProofs := false) [-getElem?_pos,-getElem?_neg,d1,d2,d3,d4,d5]
 exact hK
def formI (op : Int) : List UInt8 × List UInt8 :=
 if op = 1 then ([99,111,110,115,116],[68,75])
 else if op = 2 then ([109,111,118,101],[68,83])
 else if op = 3 then ([97,100,100,107],[68,83,75])
 else if op = 4 then ([97,110,100,107],[68,83,75])
 else if op = 5 then ([115,104,108],[68,83,66])
 else if op = 6 then ([115,104,114],[68,83,66])
 else if op = 7 then ([111,114],[68,83,84])
 else if op = 8 then ([98,101,113],[83,84,80])
 else if op = 9 then ([98,110,101],[83,84,80])
 else if op = 10 then ([106,117,109,112],[80])
 else if op = 11 then ([115,101,108,102],[68])
 else if op = 12 then ([109,97,114,107],[77])
 else if op = 13 then ([100,111,110,101],[79])
 else if op = 16 then ([108,111,97,100],[68,65,83])
 else if op = 17 then ([115,116,111,114,101],[65,83,84])
 else if op = 18 then ([115,119,97,112],[68,65,83,84])
 else if op = 19 then ([99,97,115],[68,65,83,84,85])
 else if op = 20 then ([102,97,100,100],[68,65,83,75])
 else if op = 21 then ([97,119,97,105,116],[68,65,83,87])
 else if op = 22 then ([116,97,107,101],[68])
 else if op = 23 then ([102,114,101,101],[83])
 else ([],[])
set_option maxHeartbeats 8000000 in
theorem imemory_ {H : AH} (op : Int) (hop : ¬ (1 ≤ op ∧ op ≤ 13)) {K : Value → AH → Prop} (hK : K (.agg #[strV (formI op).1,strV (formI op).2]) H) : AC Try.prog 89 [.int .i64 op] H K := by
 refine AC.clean ?_
 refine entry hmix cf89 ?_
 by_cases c : 16 ≤ op ∧ op ≤ 23
 ·have : op = 16 ∨ op = 17 ∨ op = 18 ∨ op = 19 ∨ op = 20 ∨ op = 21 ∨ op = 22 ∨ op = 23 := by omega
  rcases this with rfl | rfl | rfl | rfl | rfl | rfl | rfl | rfl <;> (simp (maxSteps := 2000000) (implicitDefEqProofs := false) [-getElem?_pos,-getElem?_neg,splice_more]; exact hK)
 ·have e : formI op = ([],[]) := by unfold formI; simp only [show op ≠ 1 by omega,show op ≠ 2 by omega,show op ≠ 3 by omega,show op ≠ 4 by omega,show op ≠ 5 by omega,show op ≠ 6 by omega,show op ≠ 7 by omega,show op ≠ 8 by omega,show op ≠ 9 by omega,show op ≠ 10 by omega,show op ≠ 11 by omega,show op ≠ 12 by omega,show op ≠ 13 by omega,show op ≠ 16 by omega,show op ≠ 17 by omega,show op ≠ 18 by omega,show op ≠ 19 by omega,show op ≠ 20 by omega,show op ≠ 21 by omega,show op ≠ 22 by omega,show op ≠ 23 by omega,if_false]
  rw [e] at hK
  have d1 : (op == 16) = false := by simp; omega
  have d2 : (op == 17) = false := by simp; omega
  have d3 : (op == 18) = false := by simp; omega
  have d4 : (op == 19) = false := by simp; omega
  have d5 : (op == 20) = false := by simp; omega
  have d6 : (op == 21) = false := by simp; omega
  have d7 : (op == 22) = false := by simp; omega
  have d8 : (op == 23) = false := by simp; omega
  simp (maxSteps := 2000000) (implicitDefEqProofs := false) [-getElem?_pos,-getElem?_neg,d1,d2,d3,d4,d5,d6,d7,d8,splice_more]
  exact hK
set_option maxHeartbeats 8000000 in
theorem iof_ {H : AH} (op : Int) {K : Value → AH → Prop} (hK : K (.agg #[strV (formI op).1,strV (formI op).2]) H) : AC Try.prog 77 [.int .i64 op] H K := by
 refine AC.clean ?_
 refine entry hmix cf77 ?_
 by_cases c : 1 ≤ op ∧ op ≤ 13
 ·have : op = 1 ∨ op = 2 ∨ op = 3 ∨ op = 4 ∨ op = 5 ∨ op = 6 ∨ op = 7 ∨ op = 8 ∨ op = 9 ∨ op = 10 ∨ op = 11 ∨ op = 12 ∨ op = 13 := by omega
  rcases this with rfl | rfl | rfl | rfl | rfl | rfl | rfl | rfl | rfl | rfl | rfl | rfl | rfl <;> (simp (maxSteps := 2000000) (implicitDefEqProofs := false) [-getElem?_pos,-getElem?_neg,splice_more]; exact hK)
 ·have d1 : (op == 1) = false := by simp; omega
  have d2 : (op == 2) = false := by simp; omega
  have d3 : (op == 3) = false := by simp; omega
  have d4 : (op == 4) = false := by simp; omega
  have d5 : (op == 5) = false := by simp; omega
  have d6 : (op == 6) = false := by simp; omega
  have d7 : (op == 7) = false := by simp; omega
  have d8 : (op == 8) = false := by simp; omega
  have d9 : (op == 9) = false := by simp; omega
  have d10 : (op == 10) = false := by simp; omega
  have d11 : (op == 11) = false := by simp; omega
  have d12 : (op == 12) = false := by simp; omega
  have d13 : (op == 13) = false := by simp; omega
  simp (maxSteps := 2000000) (implicitDefEqProofs := false) [-getElem?_pos,-getElem?_neg,d1,d2,d3,d4,d5,d6,d7,d8,d9,d10,d11,d12,d13]
  refine imemory_ op c ?_
  simp (maxSteps := 2000000) (implicitDefEqProofs := false) [-getElem?_pos,-getElem?_neg,splice_more]
  exact hK
end Ex
end Go.Proofs.Ytongllppbifiaaa
