import Derived.Test.YtongllppbifiaaaW33
namespace Go.Proofs.Ytongllppbifiaaa
namespace Ex
open Go Abs Code
attribute [local simp] DN5 HA DN NB begT atHead kd wantedA evP evR evF evL evC evI evBin evUn evEq evSt evRes plain scp scpA scpL rdRow_eq RV rdCells veq veqA veqL isHole Value.cells evalL optI evBounds evFill evFillR evApp newsOf wrCells one1 fitsApp evClr undef onB_bool List.getElem?_concat_length List.getElem?_cons_zero List.getElem?_cons_succ List.getElem?_toArray List.getElem?_nil List.set_cons_zero List.set_cons_succ List.cons_append List.nil_append
set_option linter.unusedVariables false
set_option linter.unusedSimpArgs false
set_option maxRecDepth 100000
def stepS (b : Nat) (r : In) (n : Nat) : Option In :=
 if b = 68 then (if 0 ≤ r.d ∧ r.d ≤ 7 then some { r with d := 0 } else none)
 else if b = 83 then (if 0 ≤ r.s ∧ r.s ≤ 7 then some { r with s := 0 } else none)
 else if b = 84 then (if 0 ≤ r.t ∧ r.t ≤ 7 then some { r with t := 0 } else none)
 else if b = 85 then (if 0 ≤ r.u ∧ r.u ≤ 7 then some { r with u := 0 } else none)
 else if b = 65 then (if 0 ≤ r.a ∧ r.a ≤ 7 then some { r with a := 0 } else none)
 else if b = 75 then (if r.k ≤ 4294967295 then some { r with k := 0 } else none)
 else if b = 66 then (if r.k ≤ 31 then some { r with k := 0 } else none)
 else if b = 77 then (if 1 ≤ r.k ∧ r.k ≤ 4 then some { r with k := 0 } else none)
 else if b = 79 then (if r.k ≤ 3 then some { r with k := 0 } else none)
 else if b = 87 then (if r.k ≤ 1 ∧ 0 ≤ r.t ∧ r.t ≤ 7 ∧ -1 ≤ r.to ∧ (r.to = -1 ∨ r.to < n) then some { r with k := 0,t := 0,to := 0 } else none)
 else (if 0 ≤ r.to ∧ r.to < n then some { r with to := 0 } else none)
def isSign (b : Nat) : Prop := b = 68 ∨ b = 83 ∨ b = 84 ∨ b = 85 ∨ b = 65 ∨ b = 75 ∨ b = 66 ∨ b = 77 ∨ b = 79 ∨ b = 87 ∨ b = 80
def goS (n : Nat) : List Nat → In → Option In
 | [],r => some r
 | b :: l,r => match stepS b r n with
  | some r' => goS n l r'
  | none => none
abbrev inB (r : In) : ABlk := .cells r.vs 55 none
def byV (l : List Nat) : List Value := l.map fun (b : Nat) => Value.int .u8 (b : Int)
theorem byV_length (l : List Nat) : (byV l).length = l.length := by simp [byV]
set_option maxHeartbeats 8000000 in
theorem round_ {H : AH} {n bR bH L c : Nat} {l : List Nat} (hl : l.length = L) (hL : L ≤ 100) {r : In} (hk : r.k < 4294967296) (hbR : H[bR]? = some (inB r)) (hbH : H[bH]? = some (.row (byV l))) (hne : bR ≠ bH) (k b : Nat) (hb : l[k]? = some b) (hs : isSign b) {Q : AExit → T → AH → Prop} (m : Nat)
  (tv : List (Nat × Value)) (htv : tv = [(1,.int .i64 n),(6,.pointer (some ⟨bR,0,none⟩)),(26,.slice (some ⟨bH,0,none⟩) L c),(27,.int .i64 L),(28,.int .i64 k)])
  (hno : stepS b r n = none → ∀ t H', (H' = H ∨ ∃ X, H' = H.set bR X) → getT t 4 = some (.bool false) → Q .ret t H')
  (hyes : ∀ r', stepS b r n = some r' → ∀ t, getT t 1 = some (.int .i64 n) → getT t 6 = some (.pointer (some ⟨bR, 0, none⟩)) → getT t 26 = some (.slice (some ⟨bH, 0, none⟩) L c) → getT t 27 = some (.int .i64 L) → getT t 28 = some (.int .i64 ((k : Int) + 1)) → t.length = 122 → Q .normal t (H.set bR (inB r'))) :
  begin_ Try.prog m (mkT 122 tv) lp52_0 H Q := by
 subst htv
 have hlt : k < l.length := (List.getElem?_eq_some_iff.1 hb).1
 have hk1 : k < L := by omega
 have hk2 : (k : Int) < L := by omega
 have hrd : (byV l)[k]? = some (.int .u8 (b : Int)) := by simp [byV,hb]
 have hfit : k + 1 ≤ (byV l).length := by rw [byV_length]; omega
 have w2 : IntKind.i64.wrap ((k : Int) + 1) = (k : Int) + 1 := IntWalk.i64_in _ (by omega)
 have g1 := hbR
 have h1 : bR < H.length := lt_get hbR
 unfold inB In.vs at g1
 have gs : ∀ X,(H.set bR X)[bR]? = some X := fun X => List.getElem?_set_self h1
 rcases hs with rfl | rfl | rfl | rfl | rfl | rfl | rfl | rfl | rfl | rfl | rfl
 ·by_cases c1 : r.d < 0
  ·simp (maxSteps := 2000000) (implicitDefEqProofs := false) [-getElem?_pos,-getElem?_neg,lp52_0,hk1,hk2,hbH,hrd,hfit]
   refine ifield_ bR 68 ?_
   simp only [fieldV,reduceIte,Nat.reduceEqDiff]
   simp (maxSteps := 2000000) (implicitDefEqProofs := false) [-getElem?_pos,-getElem?_neg,g1,c1]
   refine hno (by simp [stepS]; omega) _ _ (by first | exact .inl rfl | exact .inr ⟨_,rfl⟩) ?_; simp [GB]
  by_cases c2 : 7 < r.d
  ·simp (maxSteps := 2000000) (implicitDefEqProofs := false) [-getElem?_pos,-getElem?_neg,lp52_0,hk1,hk2,hbH,hrd,hfit]
   refine ifield_ bR 68 ?_
   simp only [fieldV,reduceIte,Nat.reduceEqDiff]
   simp (maxSteps := 2000000) (implicitDefEqProofs := false) [-getElem?_pos,-getElem?_neg,g1,c1,c2]
   refine hno (by simp [stepS]; omega) _ _ (by first | exact .inl rfl | exact .inr ⟨_,rfl⟩) ?_; simp [GB]
  simp (maxSteps := 2000000) (implicitDefEqProofs := false) [-getElem?_pos,-getElem?_neg,lp52_0,hk1,hk2,hbH,hrd,hfit]
  refine ifield_ bR 68 ?_
  simp only [fieldV,reduceIte,Nat.reduceEqDiff]
  simp (maxSteps := 2000000) (implicitDefEqProofs := false) [-getElem?_pos,-getElem?_neg,g1,c1,c2]
  refine iwithin_ 68 ?_
  simp only [withinV,reduceIte,Nat.reduceEqDiff]
  simp (maxSteps := 2000000) (implicitDefEqProofs := false) [-getElem?_pos,-getElem?_neg,g1,c1,c2,w2]
  refine hyes _ (by simp only [stepS,reduceIte,Nat.reduceEqDiff]; rw [if_pos (by omega)]) _ ?_ ?_ ?_ ?_ ?_ ?_ <;> first | rfl | (simp [GB]; done)
 ·by_cases c1 : r.s < 0
  ·simp (maxSteps := 2000000) (implicitDefEqProofs := false) [-getElem?_pos,-getElem?_neg,lp52_0,hk1,hk2,hbH,hrd,hfit]
   refine ifield_ bR 83 ?_
   simp only [fieldV,reduceIte,Nat.reduceEqDiff]
   simp (maxSteps := 2000000) (implicitDefEqProofs := false) [-getElem?_pos,-getElem?_neg,g1,c1]
   refine hno (by simp [stepS]; omega) _ _ (by first | exact .inl rfl | exact .inr ⟨_,rfl⟩) ?_; simp [GB]
  by_cases c2 : 7 < r.s
  ·simp (maxSteps := 2000000) (implicitDefEqProofs := false) [-getElem?_pos,-getElem?_neg,lp52_0,hk1,hk2,hbH,hrd,hfit]
   refine ifield_ bR 83 ?_
   simp only [fieldV,reduceIte,Nat.reduceEqDiff]
   simp (maxSteps := 2000000) (implicitDefEqProofs := false) [-getElem?_pos,-getElem?_neg,g1,c1,c2]
   refine hno (by simp [stepS]; omega) _ _ (by first | exact .inl rfl | exact .inr ⟨_,rfl⟩) ?_; simp [GB]
  simp (maxSteps := 2000000) (implicitDefEqProofs := false) [-getElem?_pos,-getElem?_neg,lp52_0,hk1,hk2,hbH,hrd,hfit]
  refine ifield_ bR 83 ?_
  simp only [fieldV,reduceIte,Nat.reduceEqDiff]
  simp (maxSteps := 2000000) (implicitDefEqProofs := false) [-getElem?_pos,-getElem?_neg,g1,c1,c2]
  refine iwithin_ 83 ?_
  simp only [withinV,reduceIte,Nat.reduceEqDiff]
  simp (maxSteps := 2000000) (implicitDefEqProofs := false) [-getElem?_pos,-getElem?_neg,g1,c1,c2,w2]
  refine hyes _ (by simp only [stepS,reduceIte,Nat.reduceEqDiff]; rw [if_pos (by omega)]) _ ?_ ?_ ?_ ?_ ?_ ?_ <;> first | rfl | (simp [GB]; done)
 ·by_cases c1 : r.t < 0
  ·simp (maxSteps := 2000000) (implicitDefEqProofs := false) [-getElem?_pos,-getElem?_neg,lp52_0,hk1,hk2,hbH,hrd,hfit]
   refine ifield_ bR 84 ?_
   simp only [fieldV,reduceIte,Nat.reduceEqDiff]
   simp (maxSteps := 2000000) (implicitDefEqProofs := false) [-getElem?_pos,-getElem?_neg,g1,c1]
   refine hno (by simp [stepS]; omega) _ _ (by first | exact .inl rfl | exact .inr ⟨_,rfl⟩) ?_; simp [GB]
  by_cases c2 : 7 < r.t
  ·simp (maxSteps := 2000000) (implicitDefEqProofs := false) [-getElem?_pos,-getElem?_neg,lp52_0,hk1,hk2,hbH,hrd,hfit]
   refine ifield_ bR 84 ?_
   simp only [fieldV,reduceIte,Nat.reduceEqDiff]
   simp (maxSteps := 2000000) (implicitDefEqProofs := false) [-getElem?_pos,-getElem?_neg,g1,c1,c2]
   refine hno (by simp [stepS]; omega) _ _ (by first | exact .inl rfl | exact .inr ⟨_,rfl⟩) ?_; simp [GB]
  simp (maxSteps := 2000000) (implicitDefEqProofs := false) [-getElem?_pos,-getElem?_neg,lp52_0,hk1,hk2,hbH,hrd,hfit]
  refine ifield_ bR 84 ?_
  simp only [fieldV,reduceIte,Nat.reduceEqDiff]
  simp (maxSteps := 2000000) (implicitDefEqProofs := false) [-getElem?_pos,-getElem?_neg,g1,c1,c2]
  refine iwithin_ 84 ?_
  simp only [withinV,reduceIte,Nat.reduceEqDiff]
  simp (maxSteps := 2000000) (implicitDefEqProofs := false) [-getElem?_pos,-getElem?_neg,g1,c1,c2,w2]
  refine hyes _ (by simp only [stepS,reduceIte,Nat.reduceEqDiff]; rw [if_pos (by omega)]) _ ?_ ?_ ?_ ?_ ?_ ?_ <;> first | rfl | (simp [GB]; done)
 ·by_cases c1 : r.u < 0
  ·simp (maxSteps := 2000000) (implicitDefEqProofs := false) [-getElem?_pos,-getElem?_neg,lp52_0,hk1,hk2,hbH,hrd,hfit]
   refine ifield_ bR 85 ?_
   simp only [fieldV,reduceIte,Nat.reduceEqDiff]
   simp (maxSteps := 2000000) (implicitDefEqProofs := false) [-getElem?_pos,-getElem?_neg,g1,c1]
   refine hno (by simp [stepS]; omega) _ _ (by first | exact .inl rfl | exact .inr ⟨_,rfl⟩) ?_; simp [GB]
  by_cases c2 : 7 < r.u
  ·simp (maxSteps := 2000000) (implicitDefEqProofs := false) [-getElem?_pos,-getElem?_neg,lp52_0,hk1,hk2,hbH,hrd,hfit]
   refine ifield_ bR 85 ?_
   simp only [fieldV,reduceIte,Nat.reduceEqDiff]
   simp (maxSteps := 2000000) (implicitDefEqProofs := false) [-getElem?_pos,-getElem?_neg,g1,c1,c2]
   refine hno (by simp [stepS]; omega) _ _ (by first | exact .inl rfl | exact .inr ⟨_,rfl⟩) ?_; simp [GB]
  simp (maxSteps := 2000000) (implicitDefEqProofs := false) [-getElem?_pos,-getElem?_neg,lp52_0,hk1,hk2,hbH,hrd,hfit]
  refine ifield_ bR 85 ?_
  simp only [fieldV,reduceIte,Nat.reduceEqDiff]
  simp (maxSteps := 2000000) (implicitDefEqProofs := false) [-getElem?_pos,-getElem?_neg,g1,c1,c2]
  refine iwithin_ 85 ?_
  simp only [withinV,reduceIte,Nat.reduceEqDiff]
  simp (maxSteps := 2000000) (implicitDefEqProofs := false) [-getElem?_pos,-getElem?_neg,g1,c1,c2,w2]
  refine hyes _ (by simp only [stepS,reduceIte,Nat.reduceEqDiff]; rw [if_pos (by omega)]) _ ?_ ?_ ?_ ?_ ?_ ?_ <;> first | rfl | (simp [GB]; done)
 ·by_cases c1 : r.a < 0
  ·simp (maxSteps := 2000000) (implicitDefEqProofs := false) [-getElem?_pos,-getElem?_neg,lp52_0,hk1,hk2,hbH,hrd,hfit]
   refine ifield_ bR 65 ?_
   simp only [fieldV,reduceIte,Nat.reduceEqDiff]
   simp (maxSteps := 2000000) (implicitDefEqProofs := false) [-getElem?_pos,-getElem?_neg,g1,c1]
   refine hno (by simp [stepS]; omega) _ _ (by first | exact .inl rfl | exact .inr ⟨_,rfl⟩) ?_; simp [GB]
  by_cases c2 : 7 < r.a
  ·simp (maxSteps := 2000000) (implicitDefEqProofs := false) [-getElem?_pos,-getElem?_neg,lp52_0,hk1,hk2,hbH,hrd,hfit]
   refine ifield_ bR 65 ?_
   simp only [fieldV,reduceIte,Nat.reduceEqDiff]
   simp (maxSteps := 2000000) (implicitDefEqProofs := false) [-getElem?_pos,-getElem?_neg,g1,c1,c2]
   refine hno (by simp [stepS]; omega) _ _ (by first | exact .inl rfl | exact .inr ⟨_,rfl⟩) ?_; simp [GB]
  simp (maxSteps := 2000000) (implicitDefEqProofs := false) [-getElem?_pos,-getElem?_neg,lp52_0,hk1,hk2,hbH,hrd,hfit]
  refine ifield_ bR 65 ?_
  simp only [fieldV,reduceIte,Nat.reduceEqDiff]
  simp (maxSteps := 2000000) (implicitDefEqProofs := false) [-getElem?_pos,-getElem?_neg,g1,c1,c2]
  refine iwithin_ 65 ?_
  simp only [withinV,reduceIte,Nat.reduceEqDiff]
  simp (maxSteps := 2000000) (implicitDefEqProofs := false) [-getElem?_pos,-getElem?_neg,g1,c1,c2,w2]
  refine hyes _ (by simp only [stepS,reduceIte,Nat.reduceEqDiff]; rw [if_pos (by omega)]) _ ?_ ?_ ?_ ?_ ?_ ?_ <;> first | rfl | (simp [GB]; done)
 ·have c0 : ¬ ((r.k : Int) < 0) := by omega
  have c2 : ¬ (4294967295 < r.k) := by omega
  have c2' : ¬ ((4294967295 : Int) < r.k) := by omega
  simp (maxSteps := 2000000) (implicitDefEqProofs := false) [-getElem?_pos,-getElem?_neg,lp52_0,hk1,hk2,hbH,hrd,hfit]
  refine ifield_ bR 75 ?_
  simp only [fieldV,reduceIte,Nat.reduceEqDiff]
  simp (maxSteps := 2000000) (implicitDefEqProofs := false) [-getElem?_pos,-getElem?_neg,g1]
  refine iwithin_ 75 ?_
  simp only [withinV,reduceIte,Nat.reduceEqDiff]
  simp (maxSteps := 2000000) (implicitDefEqProofs := false) [-getElem?_pos, -getElem?_neg, g1, gs, c0, c2, c2', w2]
  refine hyes _ (by simp only [stepS,reduceIte,Nat.reduceEqDiff]; rw [if_pos (by omega)]) _ ?_ ?_ ?_ ?_ ?_ ?_ <;> first | rfl | (simp [GB]; done)
 ·have c0 : ¬ ((r.k : Int) < 0) := by omega
  by_cases c2 : 31 < r.k
  ·have c2' : (31 : Int) < r.k := by omega
   simp (maxSteps := 2000000) (implicitDefEqProofs := false) [-getElem?_pos,-getElem?_neg,lp52_0,hk1,hk2,hbH,hrd,hfit]
   refine ifield_ bR 66 ?_
   simp only [fieldV,reduceIte,Nat.reduceEqDiff]
   simp (maxSteps := 2000000) (implicitDefEqProofs := false) [-getElem?_pos,-getElem?_neg,g1]
   refine iwithin_ 66 ?_
   simp only [withinV,reduceIte,Nat.reduceEqDiff]
   simp (maxSteps := 2000000) (implicitDefEqProofs := false) [-getElem?_pos,-getElem?_neg,g1,gs,c0,c2,c2']
   refine hno (by simp [stepS]; omega) _ _ (by first | exact .inl rfl | exact .inr ⟨_,rfl⟩) ?_; simp [GB]
  have c2' : ¬ ((31 : Int) < r.k) := by omega
  simp (maxSteps := 2000000) (implicitDefEqProofs := false) [-getElem?_pos,-getElem?_neg,lp52_0,hk1,hk2,hbH,hrd,hfit]
  refine ifield_ bR 66 ?_
  simp only [fieldV,reduceIte,Nat.reduceEqDiff]
  simp (maxSteps := 2000000) (implicitDefEqProofs := false) [-getElem?_pos,-getElem?_neg,g1]
  refine iwithin_ 66 ?_
  simp only [withinV,reduceIte,Nat.reduceEqDiff]
  simp (maxSteps := 2000000) (implicitDefEqProofs := false) [-getElem?_pos, -getElem?_neg, g1, gs, c0, c2, c2', w2]
  refine hyes _ (by simp only [stepS,reduceIte,Nat.reduceEqDiff]; rw [if_pos (by omega)]) _ ?_ ?_ ?_ ?_ ?_ ?_ <;> first | rfl | (simp [GB]; done)
 ·have c0 : ¬ ((r.k : Int) < 0) := by omega
  by_cases c1 : r.k < 1
  ·have c1' : (r.k : Int) < 1 := by omega
   simp (maxSteps := 2000000) (implicitDefEqProofs := false) [-getElem?_pos,-getElem?_neg,lp52_0,hk1,hk2,hbH,hrd,hfit]
   refine ifield_ bR 77 ?_
   simp only [fieldV,reduceIte,Nat.reduceEqDiff]
   simp (maxSteps := 2000000) (implicitDefEqProofs := false) [-getElem?_pos,-getElem?_neg,g1]
   refine iwithin_ 77 ?_
   simp only [withinV,reduceIte,Nat.reduceEqDiff]
   simp (maxSteps := 2000000) (implicitDefEqProofs := false) [-getElem?_pos,-getElem?_neg,g1,gs,c0,c1,c1']
   refine hno (by simp [stepS]; omega) _ _ (by first | exact .inl rfl | exact .inr ⟨_,rfl⟩) ?_; simp [GB]
  have c1' : ¬ ((r.k : Int) < 1) := by omega
  by_cases c2 : 4 < r.k
  ·have c2' : (4 : Int) < r.k := by omega
   simp (maxSteps := 2000000) (implicitDefEqProofs := false) [-getElem?_pos,-getElem?_neg,lp52_0,hk1,hk2,hbH,hrd,hfit]
   refine ifield_ bR 77 ?_
   simp only [fieldV,reduceIte,Nat.reduceEqDiff]
   simp (maxSteps := 2000000) (implicitDefEqProofs := false) [-getElem?_pos,-getElem?_neg,g1]
   refine iwithin_ 77 ?_
   simp only [withinV,reduceIte,Nat.reduceEqDiff]
   simp (maxSteps := 2000000) (implicitDefEqProofs := false) [-getElem?_pos, -getElem?_neg, g1, gs, c0, c1, c1', c2, c2']
   refine hno (by simp [stepS]; omega) _ _ (by first | exact .inl rfl | exact .inr ⟨_,rfl⟩) ?_; simp [GB]
  have c2' : ¬ ((4 : Int) < r.k) := by omega
  simp (maxSteps := 2000000) (implicitDefEqProofs := false) [-getElem?_pos,-getElem?_neg,lp52_0,hk1,hk2,hbH,hrd,hfit]
  refine ifield_ bR 77 ?_
  simp only [fieldV,reduceIte,Nat.reduceEqDiff]
  simp (maxSteps := 2000000) (implicitDefEqProofs := false) [-getElem?_pos,-getElem?_neg,g1]
  refine iwithin_ 77 ?_
  simp only [withinV,reduceIte,Nat.reduceEqDiff]
  simp (maxSteps := 2000000) (implicitDefEqProofs := false) [-getElem?_pos, -getElem?_neg, g1, gs, c0, c1, c1', c2, c2', w2]
  refine hyes _ (by simp only [stepS,reduceIte,Nat.reduceEqDiff]; rw [if_pos (by omega)]) _ ?_ ?_ ?_ ?_ ?_ ?_ <;> first | rfl | (simp [GB]; done)
 ·have c0 : ¬ ((r.k : Int) < 0) := by omega
  by_cases c2 : 3 < r.k
  ·have c2' : (3 : Int) < r.k := by omega
   simp (maxSteps := 2000000) (implicitDefEqProofs := false) [-getElem?_pos,-getElem?_neg,lp52_0,hk1,hk2,hbH,hrd,hfit]
   refine ifield_ bR 79 ?_
   simp only [fieldV,reduceIte,Nat.reduceEqDiff]
   simp (maxSteps := 2000000) (implicitDefEqProofs := false) [-getElem?_pos,-getElem?_neg,g1]
   refine iwithin_ 79 ?_
   simp only [withinV,reduceIte,Nat.reduceEqDiff]
   simp (maxSteps := 2000000) (implicitDefEqProofs := false) [-getElem?_pos,-getElem?_neg,g1,gs,c0,c2,c2']
   refine hno (by simp [stepS]; omega) _ _ (by first | exact .inl rfl | exact .inr ⟨_,rfl⟩) ?_; simp [GB]
  have c2' : ¬ ((3 : Int) < r.k) := by omega
  simp (maxSteps := 2000000) (implicitDefEqProofs := false) [-getElem?_pos,-getElem?_neg,lp52_0,hk1,hk2,hbH,hrd,hfit]
  refine ifield_ bR 79 ?_
  simp only [fieldV,reduceIte,Nat.reduceEqDiff]
  simp (maxSteps := 2000000) (implicitDefEqProofs := false) [-getElem?_pos,-getElem?_neg,g1]
  refine iwithin_ 79 ?_
  simp only [withinV,reduceIte,Nat.reduceEqDiff]
  simp (maxSteps := 2000000) (implicitDefEqProofs := false) [-getElem?_pos, -getElem?_neg, g1, gs, c0, c2, c2', w2]
  refine hyes _ (by simp only [stepS,reduceIte,Nat.reduceEqDiff]; rw [if_pos (by omega)]) _ ?_ ?_ ?_ ?_ ?_ ?_ <;> first | rfl | (simp [GB]; done)
 ·have c0 : ¬ ((r.k : Int) < 0) := by omega
  by_cases c2 : 1 < r.k
  ·have c2' : (1 : Int) < r.k := by omega
   simp (maxSteps := 2000000) (implicitDefEqProofs := false) [-getElem?_pos,-getElem?_neg,lp52_0,hk1,hk2,hbH,hrd,hfit]
   refine ifield_ bR 87 ?_
   simp only [fieldV,reduceIte,Nat.reduceEqDiff]
   simp (maxSteps := 2000000) (implicitDefEqProofs := false) [-getElem?_pos,-getElem?_neg,g1]
   refine iwithin_ 87 ?_
   simp only [withinV,reduceIte,Nat.reduceEqDiff]
   simp (maxSteps := 2000000) (implicitDefEqProofs := false) [-getElem?_pos,-getElem?_neg,g1,gs,c0,c2,c2']
   refine hno (by simp [stepS]; omega) _ _ (by first | exact .inl rfl | exact .inr ⟨_,rfl⟩) ?_; simp [GB]
  have c2' : ¬ ((1 : Int) < r.k) := by omega
  by_cases c3 : r.t < 0
  ·simp (maxSteps := 2000000) (implicitDefEqProofs := false) [-getElem?_pos,-getElem?_neg,lp52_0,hk1,hk2,hbH,hrd,hfit]
   refine ifield_ bR 87 ?_
   simp only [fieldV,reduceIte,Nat.reduceEqDiff]
   simp (maxSteps := 2000000) (implicitDefEqProofs := false) [-getElem?_pos,-getElem?_neg,g1]
   refine iwithin_ 87 ?_
   simp only [withinV,reduceIte,Nat.reduceEqDiff]
   simp (maxSteps := 2000000) (implicitDefEqProofs := false) [-getElem?_pos,-getElem?_neg,g1,gs,c0,c2,c2']
   refine ifield_ bR 84 ?_
   simp only [fieldV,reduceIte,Nat.reduceEqDiff]
   simp (maxSteps := 2000000) (implicitDefEqProofs := false) [-getElem?_pos, -getElem?_neg, g1, gs, c0, c2, c2', c3]
   refine hno (by simp [stepS]; omega) _ _ (by first | exact .inl rfl | exact .inr ⟨_,rfl⟩) ?_; simp [GB]
  by_cases c4 : 7 < r.t
  ·simp (maxSteps := 2000000) (implicitDefEqProofs := false) [-getElem?_pos,-getElem?_neg,lp52_0,hk1,hk2,hbH,hrd,hfit]
   refine ifield_ bR 87 ?_
   simp only [fieldV,reduceIte,Nat.reduceEqDiff]
   simp (maxSteps := 2000000) (implicitDefEqProofs := false) [-getElem?_pos,-getElem?_neg,g1]
   refine iwithin_ 87 ?_
   simp only [withinV,reduceIte,Nat.reduceEqDiff]
   simp (maxSteps := 2000000) (implicitDefEqProofs := false) [-getElem?_pos,-getElem?_neg,g1,gs,c0,c2,c2']
   refine ifield_ bR 84 ?_
   simp only [fieldV,reduceIte,Nat.reduceEqDiff]
   simp (maxSteps := 2000000) (implicitDefEqProofs := false) [-getElem?_pos, -getElem?_neg, g1, gs, c0, c2, c2', c3, c4]
   refine hno (by simp [stepS]; omega) _ _ (by first | exact .inl rfl | exact .inr ⟨_,rfl⟩) ?_; simp [GB]
  by_cases c5 : r.to < -1
  ·simp (maxSteps := 2000000) (implicitDefEqProofs := false) [-getElem?_pos,-getElem?_neg,lp52_0,hk1,hk2,hbH,hrd,hfit]
   refine ifield_ bR 87 ?_
   simp only [fieldV,reduceIte,Nat.reduceEqDiff]
   simp (maxSteps := 2000000) (implicitDefEqProofs := false) [-getElem?_pos,-getElem?_neg,g1]
   refine iwithin_ 87 ?_
   simp only [withinV,reduceIte,Nat.reduceEqDiff]
   simp (maxSteps := 2000000) (implicitDefEqProofs := false) [-getElem?_pos,-getElem?_neg,g1,gs,c0,c2,c2']
   refine ifield_ bR 84 ?_
   simp only [fieldV,reduceIte,Nat.reduceEqDiff]
   simp (maxSteps := 2000000) (implicitDefEqProofs := false) [-getElem?_pos, -getElem?_neg, g1, gs, c0, c2, c2', c3, c4, c5]
   refine hno (by simp [stepS]; omega) _ _ (by first | exact .inl rfl | exact .inr ⟨_,rfl⟩) ?_; simp [GB]
  by_cases c6 : r.to = -1
  ·simp (maxSteps := 2000000) (implicitDefEqProofs := false) [-getElem?_pos,-getElem?_neg,lp52_0,hk1,hk2,hbH,hrd,hfit]
   refine ifield_ bR 87 ?_
   simp only [fieldV,reduceIte,Nat.reduceEqDiff]
   simp (maxSteps := 2000000) (implicitDefEqProofs := false) [-getElem?_pos,-getElem?_neg,g1]
   refine iwithin_ 87 ?_
   simp only [withinV,reduceIte,Nat.reduceEqDiff]
   simp (maxSteps := 2000000) (implicitDefEqProofs := false) [-getElem?_pos,-getElem?_neg,g1,gs,c0,c2,c2']
   refine ifield_ bR 84 ?_
   simp only [fieldV,reduceIte,Nat.reduceEqDiff]
   simp (maxSteps := 2000000) (implicitDefEqProofs := false) [-getElem?_pos, -getElem?_neg, g1, gs, c0, c2, c2', c3, c4, c5, c6, w2]
   refine hyes _ (by simp only [stepS,reduceIte,Nat.reduceEqDiff]; rw [if_pos (by omega)]) _ ?_ ?_ ?_ ?_ ?_ ?_ <;> first | rfl | (simp [GB]; done)
  by_cases c7 : (n : Int) ≤ r.to
  ·simp (maxSteps := 2000000) (implicitDefEqProofs := false) [-getElem?_pos,-getElem?_neg,lp52_0,hk1,hk2,hbH,hrd,hfit]
   refine ifield_ bR 87 ?_
   simp only [fieldV,reduceIte,Nat.reduceEqDiff]
   simp (maxSteps := 2000000) (implicitDefEqProofs := false) [-getElem?_pos,-getElem?_neg,g1]
   refine iwithin_ 87 ?_
   simp only [withinV,reduceIte,Nat.reduceEqDiff]
   simp (maxSteps := 2000000) (implicitDefEqProofs := false) [-getElem?_pos,-getElem?_neg,g1,gs,c0,c2,c2']
   refine ifield_ bR 84 ?_
   simp only [fieldV,reduceIte,Nat.reduceEqDiff]
   simp (maxSteps := 2000000) (implicitDefEqProofs := false) [-getElem?_pos, -getElem?_neg, g1, gs, c0, c2, c2', c3, c4, c5, c6, c7]
   refine hno (by simp [stepS]; omega) _ _ (by first | exact .inl rfl | exact .inr ⟨_,rfl⟩) ?_; simp [GB]
  simp (maxSteps := 2000000) (implicitDefEqProofs := false) [-getElem?_pos,-getElem?_neg,lp52_0,hk1,hk2,hbH,hrd,hfit]
  refine ifield_ bR 87 ?_
  simp only [fieldV,reduceIte,Nat.reduceEqDiff]
  simp (maxSteps := 2000000) (implicitDefEqProofs := false) [-getElem?_pos,-getElem?_neg,g1]
  refine iwithin_ 87 ?_
  simp only [withinV,reduceIte,Nat.reduceEqDiff]
  simp (maxSteps := 2000000) (implicitDefEqProofs := false) [-getElem?_pos,-getElem?_neg,g1,gs,c0,c2,c2']
  refine ifield_ bR 84 ?_
  simp only [fieldV,reduceIte,Nat.reduceEqDiff]
  simp (maxSteps := 2000000) (implicitDefEqProofs := false) [-getElem?_pos, -getElem?_neg, g1, gs, c0, c2, c2', c3, c4, c5, c6, c7, w2]
  refine hyes _ (by simp only [stepS,reduceIte,Nat.reduceEqDiff]; rw [if_pos (by omega)]) _ ?_ ?_ ?_ ?_ ?_ ?_ <;> first | rfl | (simp [GB]; done)
 ·by_cases c3 : r.to < 0
  ·simp (maxSteps := 2000000) (implicitDefEqProofs := false) [-getElem?_pos,-getElem?_neg,lp52_0,hk1,hk2,hbH,hrd,hfit]
   refine ifield_ bR 80 ?_
   simp only [fieldV,reduceIte,Nat.reduceEqDiff]
   simp (maxSteps := 2000000) (implicitDefEqProofs := false) [-getElem?_pos,-getElem?_neg,g1]
   refine iwithin_ 80 ?_
   simp only [withinV,reduceIte,Nat.reduceEqDiff]
   simp (maxSteps := 2000000) (implicitDefEqProofs := false) [-getElem?_pos,-getElem?_neg,g1,gs,c3]
   refine hno (by simp [stepS]; omega) _ _ (by first | exact .inl rfl | exact .inr ⟨_,rfl⟩) ?_; simp [GB]
  by_cases c4 : (n : Int) ≤ r.to
  ·simp (maxSteps := 2000000) (implicitDefEqProofs := false) [-getElem?_pos,-getElem?_neg,lp52_0,hk1,hk2,hbH,hrd,hfit]
   refine ifield_ bR 80 ?_
   simp only [fieldV,reduceIte,Nat.reduceEqDiff]
   simp (maxSteps := 2000000) (implicitDefEqProofs := false) [-getElem?_pos,-getElem?_neg,g1]
   refine iwithin_ 80 ?_
   simp only [withinV,reduceIte,Nat.reduceEqDiff]
   simp (maxSteps := 2000000) (implicitDefEqProofs := false) [-getElem?_pos,-getElem?_neg,g1,gs,c3,c4]
   refine hno (by simp [stepS]; omega) _ _ (by first | exact .inl rfl | exact .inr ⟨_,rfl⟩) ?_; simp [GB]
  simp (maxSteps := 2000000) (implicitDefEqProofs := false) [-getElem?_pos,-getElem?_neg,lp52_0,hk1,hk2,hbH,hrd,hfit]
  refine ifield_ bR 80 ?_
  simp only [fieldV,reduceIte,Nat.reduceEqDiff]
  simp (maxSteps := 2000000) (implicitDefEqProofs := false) [-getElem?_pos,-getElem?_neg,g1]
  refine iwithin_ 80 ?_
  simp only [withinV,reduceIte,Nat.reduceEqDiff]
  simp (maxSteps := 2000000) (implicitDefEqProofs := false) [-getElem?_pos,-getElem?_neg,g1,gs,c3,c4,w2]
  refine hyes _ (by simp only [stepS,reduceIte,Nat.reduceEqDiff]; rw [if_pos (by omega)]) _ ?_ ?_ ?_ ?_ ?_ ?_ <;> first | rfl | (simp [GB]; done)
end Ex
end Go.Proofs.Ytongllppbifiaaa
