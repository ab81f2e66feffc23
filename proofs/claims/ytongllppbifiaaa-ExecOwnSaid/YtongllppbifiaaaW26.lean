import Derived.Test.YtongllppbifiaaaW25
namespace Go.Proofs.Ytongllppbifiaaa
namespace Ex
open Go Abs Code
open Px (natV natV_length natV_get VecV nm u32w i64w PS poolB)
attribute [local simp] DN5 HA DN NB begT atHead kd wantedA evP evR evF evL evC evI evBin evUn evEq evSt evRes plain scp scpA scpL rdRow_eq RV rdCells veq veqA veqL isHole Value.cells evalL optI evBounds evFill evFillR evApp newsOf wrCells one1 fitsApp evClr undef onB_bool List.getElem?_concat_length List.getElem?_cons_zero List.getElem?_cons_succ List.getElem?_toArray List.getElem?_nil List.set_cons_zero List.set_cons_succ List.cons_append List.nil_append
set_option linter.unusedVariables false
set_option linter.unusedSimpArgs false
set_option maxRecDepth 100000
theorem setNe {g : AH} {x y : Nat} {X : ABlk} (h : (x = y) = False) : (g.set x X)[y]? = g[y]? := List.getElem?_set_ne (by simpa using h)
theorem setEq {g : AH} {x : Nat} {X : ABlk} (h : x < g.length) : (g.set x X)[x]? = some X := List.getElem?_set_self h
structure AccIs (H g : AH) (b b2 pc : Nat) (c : Co) (ws : List Nat) (o : List Value) : Prop where
 core : g[b]? = some (.cells c.cs 52 none)
 out : g[b2]? = some (.cells o 46 none)
 cells : g[pc]? = some (cellsB ws)
 keep : ∀ y,y < H.length → y ≠ b → y ≠ b2 → y ≠ pc → g[y]? = H[y]?
 len : H.length ≤ g.length
set_option maxHeartbeats 4000000 in
theorem access_ {H : AH} {N : Nm} {s : ES PS} (r : XAt H N s) {b b2 : Nat} (hb : b ∉ N.all) (hb2 : b2 ∉ N.all) (hne : b ≠ b2) (c : Co) (cok : c.Ok) (hpc : 0 ≤ c.pc ∧ c.pc < 64) (i : In) (iok : i.Ok) (hi : 16 ≤ i.op ∧ i.op ≤ 21) (a : Nat) (ha : a < s.ws.length) (late : Bool)
  (hB : H[b]? = some (.cells c.next.cs 52 none)) (hB2 : H[b2]? = some (.cells [.slice none 0 0,.int .i64 0,.int .i64 a,.bool false,.bool false,.int .i64 0] 46 none)) {K : Value → AH → Prop}
  (hK : ∀ g,AccIs H g b b2 N.pc (accC c i s.ws a late).c (accC c i s.ws a late).ws [.slice none 0 0,.int .i64 (if (accC c i s.ws a late).stay then -1 else 0),.int .i64 a,.bool (accC c i s.ws a late).wrote,.bool (accC c i s.ws a late).stay,.int .i64 0] → K (.bool (accC c i s.ws a late).stay) g) :
  AC Try.prog 32 [.pointer (some ⟨N.x,0,none⟩),.pointer (some ⟨b,0,none⟩),i.v,.pointer (some ⟨b2,0,none⟩),.bool late] H K := by
 refine entry hmix cf32 ?_
 have nx : N.x ∈ N.all := by simp [Nm.all]
 have nm' : N.m ∈ N.all := by simp [Nm.all]
 have npc : N.pc ∈ N.all := by simp [Nm.all]
 have q1 : (b = b2) = False := by simpa using hne
 have q2 : (b2 = b) = False := by simpa using fun h : b2 = b => hne h.symm
 have q3 : (b = N.pc) = False := by simpa using fun h : b = N.pc => hb (h ▸ npc)
 have q4 : (b2 = N.pc) = False := by simpa using fun h : b2 = N.pc => hb2 (h ▸ npc)
 have q5 : (b = N.x) = False := by simpa using fun h : b = N.x => hb (h ▸ nx)
 have q6 : (b2 = N.x) = False := by simpa using fun h : b2 = N.x => hb2 (h ▸ nx)
 have q7 : (b = N.m) = False := by simpa using fun h : b = N.m => hb (h ▸ nm')
 have q8 : (b2 = N.m) = False := by simpa using fun h : b2 = N.m => hb2 (h ▸ nm')
 have nd := r.nd
 simp only [List.nodup_cons,List.mem_cons,List.not_mem_nil,or_false,not_or] at nd
 have q9 : (N.pc = N.x) = False := by simpa using fun h : N.pc = N.x => nd.1.2.2.1 h.symm
 have q10 : (N.pc = N.m) = False := by simpa using fun h : N.pc = N.m => nd.2.2.1.1 h.symm
 have q11 : (N.pc = b) = False := by simpa using fun h : N.pc = b => hb (h ▸ npc)
 have q12 : (N.pc = b2) = False := by simpa using fun h : N.pc = b2 => hb2 (h ▸ npc)
 have l1 := lt_get hB
 have l2 := lt_get hB2
 have l3 := lt_get r.cells
 have q13 : (b = H.length) = False := by simp; omega
 have q14 : (b2 = H.length) = False := by simp; omega
 have q15 : (N.pc = H.length) = False := by simp; omega
 have m1 : b < H.length + 1 := by omega
 have m2 : b2 < H.length + 1 := by omega
 have m3 : N.pc < H.length + 1 := by omega
 have f0 : ∀ tl,(H ++ tl)[N.x]? = _ := fun tl => getA r.box tl
 have f1 : ∀ tl,(H ++ tl)[N.m]? = _ := fun tl => getA r.mem.box tl
 have f2 : ∀ tl,(H ++ tl)[N.pc]? = _ := fun tl => getA r.cells tl
 have f3 : ∀ tl,(H ++ tl)[b]? = _ := fun tl => getA hB tl
 have f4 : ∀ tl,(H ++ tl)[b2]? = _ := fun tl => getA hB2 tl
 obtain ⟨w,hw⟩ : ∃ w,s.ws[a]? = some w := ⟨_,List.getElem?_eq_getElem ha⟩
 have hw32 := r.ok.words w (List.mem_of_getElem? hw)
 have hgd : (s.ws[a]?).getD 0 = w := by rw [hw]; rfl
 have nl : c.next.r.length = 8 := cok.len
 obtain ⟨d1,d2⟩ := iok.d
 obtain ⟨t1,t2⟩ := iok.t
 obtain ⟨u1,u2⟩ := iok.u
 have gt := cs_get nl iok.t
 have gu := cs_get nl iok.u
 have hcl := cs_length nl
 have hput := fun v : Nat => cs_put nl iok.d v
 have hk32 := iok.k
 have atn : ∀ j,c.next.at j = c.at j := fun _ => rfl
 rw [atn] at gt gu
 have d3 : i.d ≤ 8 := by omega
 have t3 : i.t ≤ 8 := by omega
 have u3 : i.u ≤ 8 := by omega
 obtain ⟨z,hz⟩ : ∃ z,c.at i.t = z := ⟨_,rfl⟩
 obtain ⟨y,hy⟩ : ∃ y,c.at i.u = y := ⟨_,rfl⟩
 rw [hz] at gt
 rw [hy] at gu
 have fin : ∀ g cc ww wr st,accC c i s.ws a late = ⟨cc,ww,wr,st⟩ → AccIs H g b b2 N.pc cc ww [.slice none 0 0,.int .i64 (if st then -1 else 0),.int .i64 a,.bool wr,.bool st,.int .i64 0] → K (.bool st) g := by
  intro g cc ww wr st e h
  rw [e] at hK
  exact hK g h
 clear hK
 obtain ⟨op,d,s9,t,u,ar,k,to⟩ := i
 simp only at *
 unfold In.v In.vs
 have hop : op = 16 ∨ op = 17 ∨ op = 18 ∨ op = 19 ∨ op = 20 ∨ op = 21 := by omega
 have tac : ∀ y,y < H.length → ∀ tl : AH,(H ++ tl)[y]? = H[y]? := fun y h tl => List.getElem?_append_left h
 have p1 : c.next.cs.set d.toNat (.int .u32 1) = (c.next.put d 1).cs := hput 1
 have p0 : c.next.cs.set d.toNat (.int .u32 0) = (c.next.put d 0).cs := hput 0
 rcases hop with rfl | rfl | rfl | rfl | rfl | rfl
 ·simp (maxSteps := 2000000) (implicitDefEqProofs := false) [-getElem?_pos,-getElem?_neg,f0,f1,f2,f3,f4,setNe,setEq,q1,q2,q3,q4,q5,q6,q7,q8,q9,q10,q11,q12,q13,q14,q15,m1,m2,m3,List.length_set,List.length_append,List.length_cons,List.length_nil,hcl,gt,gu,hput,d1,d2,d3,t1,t2,t3,u1,u2,u3]
  refine load_ (ws := s.ws) (by simp [f2,setNe,q4]) hw ?_
  simp (maxSteps := 2000000) (implicitDefEqProofs := false) [-getElem?_pos,-getElem?_neg,f0,f1,f2,f3,f4,setNe,setEq,q1,q2,q3,q4,q5,q6,q7,q8,q9,q10,q11,q12,q13,q14,q15,m1,m2,m3,List.length_set,List.length_append,List.length_cons,List.length_nil,hcl,gt,gu,hput,d1,d2,d3,t1,t2,t3,u1,u2,u3]
  refine fin _ (c.next.put d w) s.ws false false (by simp [accC,hgd]) ?_
  refine ⟨by simp only [setNe,setEq,f2,f3,f4,q1,q2,q3,q4,q11,q12,m1,m2,m3,List.length_set,List.length_append,List.length_cons,List.length_nil,Nat.zero_add,if_true,if_false,Bool.false_eq_true],by simp only [setNe,setEq,f2,f3,f4,q1,q2,q3,q4,q11,q12,m1,m2,m3,List.length_set,List.length_append,List.length_cons,List.length_nil,Nat.zero_add,if_true,if_false,Bool.false_eq_true],by simp only [setNe,setEq,f2,f3,f4,q1,q2,q3,q4,q11,q12,m1,m2,m3,List.length_set,List.length_append,List.length_cons,List.length_nil,Nat.zero_add,if_true,if_false,Bool.false_eq_true],fun y h1 h2 h3 h4 => ?_,by simp⟩
  have k1 : (b = y) = False := by simpa using fun h : b = y => h2 h.symm
  have k2 : (b2 = y) = False := by simpa using fun h : b2 = y => h3 h.symm
  have k3 : (N.pc = y) = False := by simpa using fun h : N.pc = y => h4 h.symm
  simp [setNe,k1,k2,k3,tac y h1]
 ·simp (maxSteps := 2000000) (implicitDefEqProofs := false) [-getElem?_pos,-getElem?_neg,f0,f1,f2,f3,f4,setNe,setEq,q1,q2,q3,q4,q5,q6,q7,q8,q9,q10,q11,q12,q13,q14,q15,m1,m2,m3,List.length_set,List.length_append,List.length_cons,List.length_nil,hcl,gt,gu,hput,d1,d2,d3,t1,t2,t3,u1,u2,u3]
  refine store_ (ws := s.ws) (by simp [f2,setNe,q4]) hw _ ?_
  simp (maxSteps := 2000000) (implicitDefEqProofs := false) [-getElem?_pos,-getElem?_neg,f0,f1,f2,f3,f4,setNe,setEq,q1,q2,q3,q4,q5,q6,q7,q8,q9,q10,q11,q12,q13,q14,q15,m1,m2,m3,List.length_set,List.length_append,List.length_cons,List.length_nil,hcl,gt,gu,hput,d1,d2,d3,t1,t2,t3,u1,u2,u3]
  refine fin _ c.next (s.ws.set a z) true false (by simp [accC,hz]) ?_
  refine ⟨by simp only [setNe,setEq,f2,f3,f4,q1,q2,q3,q4,q11,q12,m1,m2,m3,List.length_set,List.length_append,List.length_cons,List.length_nil,Nat.zero_add,if_true,if_false,Bool.false_eq_true],by simp only [setNe,setEq,f2,f3,f4,q1,q2,q3,q4,q11,q12,m1,m2,m3,List.length_set,List.length_append,List.length_cons,List.length_nil,Nat.zero_add,if_true,if_false,Bool.false_eq_true],by simp only [setNe,setEq,f2,f3,f4,q1,q2,q3,q4,q11,q12,m1,m2,m3,List.length_set,List.length_append,List.length_cons,List.length_nil,Nat.zero_add,if_true,if_false,Bool.false_eq_true],fun y h1 h2 h3 h4 => ?_,by simp⟩
  have k1 : (b = y) = False := by simpa using fun h : b = y => h2 h.symm
  have k2 : (b2 = y) = False := by simpa using fun h : b2 = y => h3 h.symm
  have k3 : (N.pc = y) = False := by simpa using fun h : N.pc = y => h4 h.symm
  simp [setNe,k1,k2,k3,tac y h1]
 ·simp (maxSteps := 2000000) (implicitDefEqProofs := false) [-getElem?_pos,-getElem?_neg,f0,f1,f2,f3,f4,setNe,setEq,q1,q2,q3,q4,q5,q6,q7,q8,q9,q10,q11,q12,q13,q14,q15,m1,m2,m3,List.length_set,List.length_append,List.length_cons,List.length_nil,hcl,gt,gu,hput,d1,d2,d3,t1,t2,t3,u1,u2,u3]
  refine swap_ (ws := s.ws) (by simp [f2,setNe,q4]) hw _ ?_
  simp (maxSteps := 2000000) (implicitDefEqProofs := false) [-getElem?_pos,-getElem?_neg,f0,f1,f2,f3,f4,setNe,setEq,q1,q2,q3,q4,q5,q6,q7,q8,q9,q10,q11,q12,q13,q14,q15,m1,m2,m3,List.length_set,List.length_append,List.length_cons,List.length_nil,hcl,gt,gu,hput,d1,d2,d3,t1,t2,t3,u1,u2,u3]
  refine fin _ (c.next.put d w) (s.ws.set a z) true false (by simp [accC,hz,hgd]) ?_
  refine ⟨by simp only [setNe,setEq,f2,f3,f4,q1,q2,q3,q4,q11,q12,m1,m2,m3,List.length_set,List.length_append,List.length_cons,List.length_nil,Nat.zero_add,if_true,if_false,Bool.false_eq_true],by simp only [setNe,setEq,f2,f3,f4,q1,q2,q3,q4,q11,q12,m1,m2,m3,List.length_set,List.length_append,List.length_cons,List.length_nil,Nat.zero_add,if_true,if_false,Bool.false_eq_true],by simp only [setNe,setEq,f2,f3,f4,q1,q2,q3,q4,q11,q12,m1,m2,m3,List.length_set,List.length_append,List.length_cons,List.length_nil,Nat.zero_add,if_true,if_false,Bool.false_eq_true],fun y h1 h2 h3 h4 => ?_,by simp⟩
  have k1 : (b = y) = False := by simpa using fun h : b = y => h2 h.symm
  have k2 : (b2 = y) = False := by simpa using fun h : b2 = y => h3 h.symm
  have k3 : (N.pc = y) = False := by simpa using fun h : N.pc = y => h4 h.symm
  simp [setNe,k1,k2,k3,tac y h1]
 ·simp (maxSteps := 2000000) (implicitDefEqProofs := false) [-getElem?_pos,-getElem?_neg,f0,f1,f2,f3,f4,setNe,setEq,q1,q2,q3,q4,q5,q6,q7,q8,q9,q10,q11,q12,q13,q14,q15,m1,m2,m3,List.length_set,List.length_append,List.length_cons,List.length_nil,hcl,gt,gu,hput,d1,d2,d3,t1,t2,t3,u1,u2,u3]
  refine cas_ (ws := s.ws) (by simp [f2,setNe,q4]) hw _ _ ?_
  by_cases e : w = z
  ·have e1 : decide (w = z) = true := decide_eq_true e
   rw [e1,if_pos e]
   simp (maxSteps := 2000000) (implicitDefEqProofs := false) [-getElem?_pos,-getElem?_neg,f0,f1,f2,f3,f4,setNe,setEq,q1,q2,q3,q4,q5,q6,q7,q8,q9,q10,q11,q12,q13,q14,q15,m1,m2,m3,List.length_set,List.length_append,List.length_cons,List.length_nil,hcl,gt,gu,hput,d1,d2,d3,t1,t2,t3,u1,u2,u3,p1]
   refine fin _ (c.next.put d 1) (s.ws.set a y) true false (by simp [accC,hz,hgd,hy,e]) ?_
   refine ⟨by simp only [setNe,setEq,f2,f3,f4,q1,q2,q3,q4,q11,q12,m1,m2,m3,List.length_set,List.length_append,List.length_cons,List.length_nil,Nat.zero_add,if_true,if_false,Bool.false_eq_true],by simp only [setNe,setEq,f2,f3,f4,q1,q2,q3,q4,q11,q12,m1,m2,m3,List.length_set,List.length_append,List.length_cons,List.length_nil,Nat.zero_add,if_true,if_false,Bool.false_eq_true],by simp only [setNe,setEq,f2,f3,f4,q1,q2,q3,q4,q11,q12,m1,m2,m3,List.length_set,List.length_append,List.length_cons,List.length_nil,Nat.zero_add,if_true,if_false,Bool.false_eq_true],fun y h1 h2 h3 h4 => ?_,by simp⟩
   have k1 : (b = y) = False := by simpa using fun h : b = y => h2 h.symm
   have k2 : (b2 = y) = False := by simpa using fun h : b2 = y => h3 h.symm
   have k3 : (N.pc = y) = False := by simpa using fun h : N.pc = y => h4 h.symm
   simp [setNe,k1,k2,k3,tac y h1]
  ·have e1 : decide (w = z) = false := decide_eq_false e
   rw [e1,if_neg e]
   simp (maxSteps := 2000000) (implicitDefEqProofs := false) [-getElem?_pos,-getElem?_neg,f0,f1,f2,f3,f4,setNe,setEq,q1,q2,q3,q4,q5,q6,q7,q8,q9,q10,q11,q12,q13,q14,q15,m1,m2,m3,List.length_set,List.length_append,List.length_cons,List.length_nil,hcl,gt,gu,hput,d1,d2,d3,t1,t2,t3,u1,u2,u3,p0]
   refine fin _ (c.next.put d 0) s.ws false false (by simp [accC,hz,hgd,hy,e]) ?_
   refine ⟨by simp only [setNe,setEq,f2,f3,f4,q1,q2,q3,q4,q11,q12,m1,m2,m3,List.length_set,List.length_append,List.length_cons,List.length_nil,Nat.zero_add,if_true,if_false,Bool.false_eq_true],by simp only [setNe,setEq,f2,f3,f4,q1,q2,q3,q4,q11,q12,m1,m2,m3,List.length_set,List.length_append,List.length_cons,List.length_nil,Nat.zero_add,if_true,if_false,Bool.false_eq_true],by simp only [setNe,setEq,f2,f3,f4,q1,q2,q3,q4,q11,q12,m1,m2,m3,List.length_set,List.length_append,List.length_cons,List.length_nil,Nat.zero_add,if_true,if_false,Bool.false_eq_true],fun y h1 h2 h3 h4 => ?_,by simp⟩
   have k1 : (b = y) = False := by simpa using fun h : b = y => h2 h.symm
   have k2 : (b2 = y) = False := by simpa using fun h : b2 = y => h3 h.symm
   have k3 : (N.pc = y) = False := by simpa using fun h : N.pc = y => h4 h.symm
   simp [setNe,k1,k2,k3,tac y h1]
 ·simp (maxSteps := 2000000) (implicitDefEqProofs := false) [-getElem?_pos,-getElem?_neg,f0,f1,f2,f3,f4,setNe,setEq,q1,q2,q3,q4,q5,q6,q7,q8,q9,q10,q11,q12,q13,q14,q15,m1,m2,m3,List.length_set,List.length_append,List.length_cons,List.length_nil,hcl,gt,gu,hput,d1,d2,d3,t1,t2,t3,u1,u2,u3]
  refine add_ (ws := s.ws) (by simp [f2,setNe,q4]) hw hw32 _ ?_
  simp (maxSteps := 2000000) (implicitDefEqProofs := false) [-getElem?_pos,-getElem?_neg,f0,f1,f2,f3,f4,setNe,setEq,q1,q2,q3,q4,q5,q6,q7,q8,q9,q10,q11,q12,q13,q14,q15,m1,m2,m3,List.length_set,List.length_append,List.length_cons,List.length_nil,hcl,gt,gu,hput,d1,d2,d3,t1,t2,t3,u1,u2,u3]
  refine fin _ (c.next.put d w) (s.ws.set a ((w + k) % 4294967296)) true false (by simp [accC,hz,hgd]) ?_
  refine ⟨by simp only [setNe,setEq,f2,f3,f4,q1,q2,q3,q4,q11,q12,m1,m2,m3,List.length_set,List.length_append,List.length_cons,List.length_nil,Nat.zero_add,if_true,if_false,Bool.false_eq_true],by simp only [setNe,setEq,f2,f3,f4,q1,q2,q3,q4,q11,q12,m1,m2,m3,List.length_set,List.length_append,List.length_cons,List.length_nil,Nat.zero_add,if_true,if_false,Bool.false_eq_true],by simp only [setNe,setEq,f2,f3,f4,q1,q2,q3,q4,q11,q12,m1,m2,m3,List.length_set,List.length_append,List.length_cons,List.length_nil,Nat.zero_add,if_true,if_false,Bool.false_eq_true],fun y h1 h2 h3 h4 => ?_,by simp⟩
  have k1 : (b = y) = False := by simpa using fun h : b = y => h2 h.symm
  have k2 : (b2 = y) = False := by simpa using fun h : b2 = y => h3 h.symm
  have k3 : (N.pc = y) = False := by simpa using fun h : N.pc = y => h4 h.symm
  simp [setNe,k1,k2,k3,tac y h1]
 ·simp (maxSteps := 2000000) (implicitDefEqProofs := false) [-getElem?_pos,-getElem?_neg,f0,f1,f2,f3,f4,setNe,setEq,q1,q2,q3,q4,q5,q6,q7,q8,q9,q10,q11,q12,q13,q14,q15,m1,m2,m3,List.length_set,List.length_append,List.length_cons,List.length_nil,hcl,gt,gu,hput,d1,d2,d3,t1,t2,t3,u1,u2,u3]
  refine load_ (ws := s.ws) (by simp [f2,setNe,q4]) hw ?_
  have pl : (c.next.put d w).r.length = 8 := put_len nl _ _
  have pcl := cs_length pl
  have gd := cs_get pl (i := d) ⟨d1,d2⟩
  have gdw : (c.next.put d w).at d = w := by
   unfold Co.at Co.put
   simp only
   rw [List.getElem?_set_self (by omega)]
   rfl
  rw [gdw] at gd
  have gpc := cs_pc pl
  have s8 := fun p => cs_set8 pl p
  have npc2 : (c.next.put d w).pc = c.pc + 1 := rfl
  rw [npc2] at gpc
  have wpc : IntKind.i64.wrap c.pc = c.pc := IntWalk.i64_in _ (by omega)
  have gst : (c.next.put d w).go c.pc = c.put d w := rfl
  have gto : (c.next.put d w).go to = (c.put d w).go to := rfl
  have eqb : (w == z) = decide (w = z) := rfl
  by_cases e : z = w
  ·subst e
   by_cases e0 : k = 0
   ·simp (maxSteps := 2000000) (implicitDefEqProofs := false) [-getElem?_pos,-getElem?_neg,f0,f1,f2,f3,f4,setNe,setEq,q1,q2,q3,q4,q5,q6,q7,q8,q9,q10,q11,q12,q13,q14,q15,m1,m2,m3,List.length_set,List.length_append,List.length_cons,List.length_nil,hcl,gt,gu,hput,d1,d2,d3,t1,t2,t3,u1,u2,u3,pcl,gd,gpc,s8,wpc,gst,gto,e0]
    refine fin _ (c.next.put d z) s.ws false false (by simp [accC,hgd,hz,e0]) ?_
    refine ⟨by simp only [setNe,setEq,f2,f3,f4,q1,q2,q3,q4,q11,q12,m1,m2,m3,List.length_set,List.length_append,List.length_cons,List.length_nil,Nat.zero_add,if_true,if_false,Bool.false_eq_true],by simp only [setNe,setEq,f2,f3,f4,q1,q2,q3,q4,q11,q12,m1,m2,m3,List.length_set,List.length_append,List.length_cons,List.length_nil,Nat.zero_add,if_true,if_false,Bool.false_eq_true],by simp only [setNe,setEq,f2,f3,f4,q1,q2,q3,q4,q11,q12,m1,m2,m3,List.length_set,List.length_append,List.length_cons,List.length_nil,Nat.zero_add,if_true,if_false,Bool.false_eq_true],fun y h1 h2 h3 h4 => ?_,by simp⟩
    have k1 : (b = y) = False := by simpa using fun h : b = y => h2 h.symm
    have k2 : (b2 = y) = False := by simpa using fun h : b2 = y => h3 h.symm
    have k3 : (N.pc = y) = False := by simpa using fun h : N.pc = y => h4 h.symm
    simp [setNe,k1,k2,k3,tac y h1]
   ·cases late with
    | false =>
     simp (maxSteps := 2000000) (implicitDefEqProofs := false) [-getElem?_pos,-getElem?_neg,f0,f1,f2,f3,f4,setNe,setEq,q1,q2,q3,q4,q5,q6,q7,q8,q9,q10,q11,q12,q13,q14,q15,m1,m2,m3,List.length_set,List.length_append,List.length_cons,List.length_nil,hcl,gt,gu,hput,d1,d2,d3,t1,t2,t3,u1,u2,u3,pcl,gd,gpc,s8,wpc,gst,gto,e0]
     refine fin _ (c.put d z) s.ws false true (by simp [accC,hgd,hz,e0]) ?_
     refine ⟨by simp only [setNe,setEq,f2,f3,f4,q1,q2,q3,q4,q11,q12,m1,m2,m3,List.length_set,List.length_append,List.length_cons,List.length_nil,Nat.zero_add,if_true,if_false,Bool.false_eq_true],by simp only [setNe,setEq,f2,f3,f4,q1,q2,q3,q4,q11,q12,m1,m2,m3,List.length_set,List.length_append,List.length_cons,List.length_nil,Nat.zero_add,if_true,if_false,Bool.false_eq_true],by simp only [setNe,setEq,f2,f3,f4,q1,q2,q3,q4,q11,q12,m1,m2,m3,List.length_set,List.length_append,List.length_cons,List.length_nil,Nat.zero_add,if_true,if_false,Bool.false_eq_true],fun y h1 h2 h3 h4 => ?_,by simp⟩
     have k1 : (b = y) = False := by simpa using fun h : b = y => h2 h.symm
     have k2 : (b2 = y) = False := by simpa using fun h : b2 = y => h3 h.symm
     have k3 : (N.pc = y) = False := by simpa using fun h : N.pc = y => h4 h.symm
     simp [setNe,k1,k2,k3,tac y h1]
    | true =>
     by_cases e3 : to < 0
     ·simp (maxSteps := 2000000) (implicitDefEqProofs := false) [-getElem?_pos,-getElem?_neg,f0,f1,f2,f3,f4,setNe,setEq,q1,q2,q3,q4,q5,q6,q7,q8,q9,q10,q11,q12,q13,q14,q15,m1,m2,m3,List.length_set,List.length_append,List.length_cons,List.length_nil,hcl,gt,gu,hput,d1,d2,d3,t1,t2,t3,u1,u2,u3,pcl,gd,gpc,s8,wpc,gst,gto,e0,e3]
      refine fin _ (c.put d z) s.ws false true (by simp [accC,hgd,hz,e0,e3]) ?_
      refine ⟨by simp only [setNe,setEq,f2,f3,f4,q1,q2,q3,q4,q11,q12,m1,m2,m3,List.length_set,List.length_append,List.length_cons,List.length_nil,Nat.zero_add,if_true,if_false,Bool.false_eq_true],by simp only [setNe,setEq,f2,f3,f4,q1,q2,q3,q4,q11,q12,m1,m2,m3,List.length_set,List.length_append,List.length_cons,List.length_nil,Nat.zero_add,if_true,if_false,Bool.false_eq_true],by simp only [setNe,setEq,f2,f3,f4,q1,q2,q3,q4,q11,q12,m1,m2,m3,List.length_set,List.length_append,List.length_cons,List.length_nil,Nat.zero_add,if_true,if_false,Bool.false_eq_true],fun y h1 h2 h3 h4 => ?_,by simp⟩
      have k1 : (b = y) = False := by simpa using fun h : b = y => h2 h.symm
      have k2 : (b2 = y) = False := by simpa using fun h : b2 = y => h3 h.symm
      have k3 : (N.pc = y) = False := by simpa using fun h : N.pc = y => h4 h.symm
      simp [setNe,k1,k2,k3,tac y h1]
     ·simp (maxSteps := 2000000) (implicitDefEqProofs := false) [-getElem?_pos,-getElem?_neg,f0,f1,f2,f3,f4,setNe,setEq,q1,q2,q3,q4,q5,q6,q7,q8,q9,q10,q11,q12,q13,q14,q15,m1,m2,m3,List.length_set,List.length_append,List.length_cons,List.length_nil,hcl,gt,gu,hput,d1,d2,d3,t1,t2,t3,u1,u2,u3,pcl,gd,gpc,s8,wpc,gst,gto,e0,e3]
      refine fin _ ((c.put d z).go to) s.ws false false (by simp [accC,hgd,hz,e0,e3]) ?_
      refine ⟨by simp only [setNe,setEq,f2,f3,f4,q1,q2,q3,q4,q11,q12,m1,m2,m3,List.length_set,List.length_append,List.length_cons,List.length_nil,Nat.zero_add,if_true,if_false,Bool.false_eq_true],by simp only [setNe,setEq,f2,f3,f4,q1,q2,q3,q4,q11,q12,m1,m2,m3,List.length_set,List.length_append,List.length_cons,List.length_nil,Nat.zero_add,if_true,if_false,Bool.false_eq_true],by simp only [setNe,setEq,f2,f3,f4,q1,q2,q3,q4,q11,q12,m1,m2,m3,List.length_set,List.length_append,List.length_cons,List.length_nil,Nat.zero_add,if_true,if_false,Bool.false_eq_true],fun y h1 h2 h3 h4 => ?_,by simp⟩
      have k1 : (b = y) = False := by simpa using fun h : b = y => h2 h.symm
      have k2 : (b2 = y) = False := by simpa using fun h : b2 = y => h3 h.symm
      have k3 : (N.pc = y) = False := by simpa using fun h : N.pc = y => h4 h.symm
      simp [setNe,k1,k2,k3,tac y h1]
  ·have e' : ¬ w = z := fun h => e h.symm
   have e'' : ¬ (w : Int) = z := by omega
   by_cases e0 : k = 0
   ·cases late with
    | false =>
     simp (maxSteps := 2000000) (implicitDefEqProofs := false) [-getElem?_pos, -getElem?_neg, f0, f1, f2, f3, f4, setNe, setEq, q1, q2, q3, q4, q5, q6, q7, q8, q9, q10, q11, q12, q13, q14, q15, m1, m2, m3, List.length_set, List.length_append, List.length_cons, List.length_nil, hcl, gt, gu, hput, d1, d2, d3, t1, t2, t3, u1, u2, u3, pcl, gd, gpc, s8, wpc, gst, gto, e0, e', e'']
     refine fin _ (c.put d w) s.ws false true (by simp [accC, hgd, hz, e0, e', e'']) ?_
     refine ⟨by simp only [setNe,setEq,f2,f3,f4,q1,q2,q3,q4,q11,q12,m1,m2,m3,List.length_set,List.length_append,List.length_cons,List.length_nil,Nat.zero_add,if_true,if_false,Bool.false_eq_true],by simp only [setNe,setEq,f2,f3,f4,q1,q2,q3,q4,q11,q12,m1,m2,m3,List.length_set,List.length_append,List.length_cons,List.length_nil,Nat.zero_add,if_true,if_false,Bool.false_eq_true],by simp only [setNe,setEq,f2,f3,f4,q1,q2,q3,q4,q11,q12,m1,m2,m3,List.length_set,List.length_append,List.length_cons,List.length_nil,Nat.zero_add,if_true,if_false,Bool.false_eq_true],fun y h1 h2 h3 h4 => ?_,by simp⟩
     have k1 : (b = y) = False := by simpa using fun h : b = y => h2 h.symm
     have k2 : (b2 = y) = False := by simpa using fun h : b2 = y => h3 h.symm
     have k3 : (N.pc = y) = False := by simpa using fun h : N.pc = y => h4 h.symm
     simp [setNe,k1,k2,k3,tac y h1]
    | true =>
     by_cases e3 : to < 0
     ·simp (maxSteps := 2000000) (implicitDefEqProofs := false) [-getElem?_pos, -getElem?_neg, f0, f1, f2, f3, f4, setNe, setEq, q1, q2, q3, q4, q5, q6, q7, q8, q9, q10, q11, q12, q13, q14, q15, m1, m2, m3, List.length_set, List.length_append, List.length_cons, List.length_nil, hcl, gt, gu, hput, d1, d2, d3, t1, t2, t3, u1, u2, u3, pcl, gd, gpc, s8, wpc, gst, gto, e0, e', e'', e3]
      refine fin _ (c.put d w) s.ws false true (by simp [accC, hgd, hz, e0, e', e'', e3]) ?_
      refine ⟨by simp only [setNe,setEq,f2,f3,f4,q1,q2,q3,q4,q11,q12,m1,m2,m3,List.length_set,List.length_append,List.length_cons,List.length_nil,Nat.zero_add,if_true,if_false,Bool.false_eq_true],by simp only [setNe,setEq,f2,f3,f4,q1,q2,q3,q4,q11,q12,m1,m2,m3,List.length_set,List.length_append,List.length_cons,List.length_nil,Nat.zero_add,if_true,if_false,Bool.false_eq_true],by simp only [setNe,setEq,f2,f3,f4,q1,q2,q3,q4,q11,q12,m1,m2,m3,List.length_set,List.length_append,List.length_cons,List.length_nil,Nat.zero_add,if_true,if_false,Bool.false_eq_true],fun y h1 h2 h3 h4 => ?_,by simp⟩
      have k1 : (b = y) = False := by simpa using fun h : b = y => h2 h.symm
      have k2 : (b2 = y) = False := by simpa using fun h : b2 = y => h3 h.symm
      have k3 : (N.pc = y) = False := by simpa using fun h : N.pc = y => h4 h.symm
      simp [setNe,k1,k2,k3,tac y h1]
     ·simp (maxSteps := 2000000) (implicitDefEqProofs := false) [-getElem?_pos, -getElem?_neg, f0, f1, f2, f3, f4, setNe, setEq, q1, q2, q3, q4, q5, q6, q7, q8, q9, q10, q11, q12, q13, q14, q15, m1, m2, m3, List.length_set, List.length_append, List.length_cons, List.length_nil, hcl, gt, gu, hput, d1, d2, d3, t1, t2, t3, u1, u2, u3, pcl, gd, gpc, s8, wpc, gst, gto, e0, e', e'', e3]
      refine fin _ ((c.put d w).go to) s.ws false false (by simp [accC, hgd, hz, e0, e', e'', e3]) ?_
      refine ⟨by simp only [setNe,setEq,f2,f3,f4,q1,q2,q3,q4,q11,q12,m1,m2,m3,List.length_set,List.length_append,List.length_cons,List.length_nil,Nat.zero_add,if_true,if_false,Bool.false_eq_true],by simp only [setNe,setEq,f2,f3,f4,q1,q2,q3,q4,q11,q12,m1,m2,m3,List.length_set,List.length_append,List.length_cons,List.length_nil,Nat.zero_add,if_true,if_false,Bool.false_eq_true],by simp only [setNe,setEq,f2,f3,f4,q1,q2,q3,q4,q11,q12,m1,m2,m3,List.length_set,List.length_append,List.length_cons,List.length_nil,Nat.zero_add,if_true,if_false,Bool.false_eq_true],fun y h1 h2 h3 h4 => ?_,by simp⟩
      have k1 : (b = y) = False := by simpa using fun h : b = y => h2 h.symm
      have k2 : (b2 = y) = False := by simpa using fun h : b2 = y => h3 h.symm
      have k3 : (N.pc = y) = False := by simpa using fun h : N.pc = y => h4 h.symm
      simp [setNe,k1,k2,k3,tac y h1]
   ·have b1 : ((w : Int) == (z : Int)) = false := by simpa using e''
    have b0 : ((k : Int) == 0) = false := by simpa using e0
    simp (maxSteps := 2000000) (implicitDefEqProofs := false) [-getElem?_pos, -getElem?_neg, f0, f1, f2, f3, f4, setNe, setEq, q1, q2, q3, q4, q5, q6, q7, q8, q9, q10, q11, q12, q13, q14, q15, m1, m2, m3, List.length_set, List.length_append, List.length_cons, List.length_nil, hcl, gt, gu, hput, d1, d2, d3, t1, t2, t3, u1, u2, u3, pcl, gd, gpc, s8, wpc, gst, gto, e0, e', e'', b1, b0]
    refine fin _ (c.next.put d w) s.ws false false (by simp [accC,hgd,hz,e0,e']) ?_
    refine ⟨by simp only [setNe,setEq,f2,f3,f4,q1,q2,q3,q4,q11,q12,m1,m2,m3,List.length_set,List.length_append,List.length_cons,List.length_nil,Nat.zero_add,if_true,if_false,Bool.false_eq_true],by simp only [setNe,setEq,f2,f3,f4,q1,q2,q3,q4,q11,q12,m1,m2,m3,List.length_set,List.length_append,List.length_cons,List.length_nil,Nat.zero_add,if_true,if_false,Bool.false_eq_true],by simp only [setNe,setEq,f2,f3,f4,q1,q2,q3,q4,q11,q12,m1,m2,m3,List.length_set,List.length_append,List.length_cons,List.length_nil,Nat.zero_add,if_true,if_false,Bool.false_eq_true],fun y h1 h2 h3 h4 => ?_,by simp⟩
    have k1 : (b = y) = False := by simpa using fun h : b = y => h2 h.symm
    have k2 : (b2 = y) = False := by simpa using fun h : b2 = y => h3 h.symm
    have k3 : (N.pc = y) = False := by simpa using fun h : N.pc = y => h4 h.symm
    simp [setNe,k1,k2,k3,tac y h1]
end Ex
end Go.Proofs.Ytongllppbifiaaa
