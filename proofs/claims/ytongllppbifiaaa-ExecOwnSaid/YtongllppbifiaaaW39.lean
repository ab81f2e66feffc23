import Derived.Test.YtongllppbifiaaaW3
import Derived.Test.YtongllppbifiaaaProg
import Derived.Test.YtongllppbifiaaaW38
namespace Go.Proofs.Ytongllppbifiaaa
namespace Code
open Go Abs
set_option maxRecDepth 100000
def af5 : AFunc := ⟨26,[.tmp 2],.seq (.ops [⟨some 1,.box 28 (.tmp 0),none⟩,⟨some 2,.mv (.const (.bool false)),none⟩]) (.seq (.ops [⟨some 3,.off 0 (.tmp 1),none⟩,⟨some 4,.off 0 (.tmp 3),none⟩,⟨some 5,.ld none (.tmp 4),none⟩,⟨some 6,.len (.tmp 5),none⟩,⟨some 7,.bin .leq (.tmp 6) (.const (.int .i64 80)),none⟩,⟨some 8,.mv (.tmp 7),none⟩,⟨some 9,.off 3 (.tmp 1),some (8,true)⟩,⟨some 10,.ld none (.tmp 9),some (8,true)⟩,⟨some 11,.len (.tmp 10),some (8,true)⟩,⟨some 12,.bin .leq (.tmp 11) (.const (.int .i64 12)),some (8,true)⟩,⟨some 13,.pick (.tmp 8) (.tmp 12) (.const (.bool false)),none⟩,⟨some 14,.mv (.tmp 13),none⟩,⟨some 15,.off 4 (.tmp 1),some (14,true)⟩,⟨some 16,.ld none (.tmp 15),some (14,true)⟩,⟨some 17,.len (.tmp 16),some (14,true)⟩,⟨some 18,.bin .leq (.tmp 17) (.const (.int .i64 300)),some (14,true)⟩,⟨some 19,.pick (.tmp 14) (.tmp 18) (.const (.bool false)),none⟩,⟨some 20,.mv (.tmp 19),none⟩,⟨some 21,.off 6 (.tmp 1),some (20,true)⟩,⟨some 22,.ld none (.tmp 21),some (20,true)⟩,⟨some 23,.len (.tmp 22),some (20,true)⟩,⟨some 24,.bin .leq (.tmp 23) (.const (.int .i64 80)),some (20,true)⟩,⟨some 25,.pick (.tmp 20) (.tmp 24) (.const (.bool false)),none⟩,⟨some 2,.mv (.tmp 25),none⟩]) .ret)⟩
theorem cf5 : cFunc Try.prog 5 = some af5 := by kernel_rfl
def af7 : AFunc := ⟨15,[.cell 2 (some 7)],.seq (.ops [⟨some 1,.box 28 (.tmp 0),none⟩,⟨some 2,.alloc 36 [.slice none 0 0,.int .i64 0,.int .i64 0,.slice none 0 0,.slice none 0 0,.int .i64 0,.slice none 0 0],none⟩]) (.seq (.drawn 0 [⟨0,0,[],⟨some 3,.off 0 (.tmp 1),none⟩⟩,⟨1,0,[],⟨some 4,.ld (some 3) (.tmp 3),none⟩⟩,⟨3,0,[1],⟨some 6,.off 3 (.tmp 1),none⟩⟩,⟨4,0,[1],⟨some 7,.ld none (.tmp 6),none⟩⟩,⟨5,0,[1,4],⟨some 8,.off 4 (.tmp 1),none⟩⟩,⟨6,0,[1,4],⟨some 9,.ld none (.tmp 8),none⟩⟩,⟨7,0,[1,4,6],⟨some 10,.off 5 (.tmp 1),none⟩⟩,⟨8,0,[1,4,6],⟨some 11,.ld none (.tmp 10),none⟩⟩,⟨9,0,[1,4,6,8],⟨some 12,.off 6 (.tmp 1),none⟩⟩,⟨10,0,[1,4,6,8],⟨some 13,.ld none (.tmp 12),none⟩⟩,⟨2,0,[4,6,8,10],⟨some 5,.call (.func 21) [.tmp 4],none⟩⟩,⟨11,0,[],⟨some 14,.agg [.slice none 0 0,.int .i64 0,.int .i64 0,.slice none 0 0,.slice none 0 0,.int .i64 0,.slice none 0 0] [(0,(3,(.tmp 5))),(3,(1,(.tmp 7))),(4,(1,(.tmp 9))),(5,(1,(.tmp 11))),(6,(1,(.tmp 13)))],none⟩⟩,⟨12,0,[],⟨none,.st 7 (.tmp 2) (.tmp 14),none⟩⟩]) .ret)⟩
theorem cf7 : cFunc Try.prog 7 = some af7 := by kernel_rfl
def af8 : AFunc := ⟨58,[.tmp 0],.seq (.ops [⟨some 0,.mv (.const (.bool false)),none⟩]) (.seq (.ops [⟨some 6,.agg [.int .i64 0,.int .i64 0,.int .i64 0,.int .i64 0,.int .i64 0,.int .i64 0,.int .u32 0,.int .i64 0] [(0,(1,(.const (.int .i64 20)))),(1,(1,(.const (.int .i64 1)))),(6,(1,(.const (.int .u32 1))))],none⟩,⟨some 7,.agg [.int .i64 0,.int .i64 0,.int .i64 0,.int .i64 0,.int .i64 0,.int .i64 0,.int .u32 0,.int .i64 0] [(0,(1,(.const (.int .i64 13)))),(6,(1,(.const (.int .u32 1))))],none⟩,⟨some 8,.row 55 2 8 [.int .i64 0,.int .i64 0,.int .i64 0,.int .i64 0,.int .i64 0,.int .i64 0,.int .u32 0,.int .i64 0] [(0,(.tmp 6)),(1,(.tmp 7))],none⟩,⟨some 9,.agg [.slice none 0 0,.int .i64 0,.int .i64 0] [(0,(1,(.tmp 8)))],none⟩,⟨some 10,.row 3 1 1 [.int .i64 0] [(0,(.const (.int .i64 1)))],none⟩,⟨some 11,.row 49 1 1 [.int .u32 0] [(0,(.const (.int .u32 7)))],none⟩,⟨some 12,.row 49 1 1 [.int .u32 0] [(0,(.const (.int .u32 0)))],none⟩,⟨some 13,.agg [.slice none 0 0,.int .i64 0,.int .i64 0,.slice none 0 0,.slice none 0 0,.int .i64 0,.slice none 0 0] [(0,(3,(.tmp 9))),(3,(1,(.tmp 10))),(4,(1,(.tmp 11))),(6,(1,(.tmp 12)))],none⟩,⟨some 1,.alloc 28 [.slice none 0 0,.int .i64 0,.int .i64 0,.slice none 0 0,.slice none 0 0,.int .i64 0,.slice none 0 0],none⟩,⟨none,.st 7 (.tmp 1) (.tmp 13),none⟩]) (.seq (.ops [⟨some 15,.ld (some 7) (.tmp 1),none⟩,⟨some 16,.call (.func 9) [.tmp 15,.const (.int .i64 1)],none⟩,⟨some 14,.mv (.tmp 16),none⟩,⟨some 17,.ext 0 (.tmp 14),none⟩,⟨some 18,.ext 1 (.tmp 14),none⟩,⟨some 2,.mv (.tmp 17),none⟩,⟨some 3,.mv (.tmp 18),none⟩]) (.seq (.seq (.ops [⟨some 19,.mv (.tmp 3),none⟩,⟨some 20,.bin .neq (.tmp 19) (.const (.int .i64 0)),none⟩,⟨some 21,.mv (.tmp 20),none⟩,⟨some 22,.mv (.tmp 2),some (21,false)⟩,⟨some 23,.eq .ptr false (.tmp 22) (.const (.pointer none)),some (21,false)⟩,⟨some 24,.pick (.tmp 21) (.const (.bool true)) (.tmp 23),none⟩]) (.cond (.tmp 24) (.seq (.ops [⟨some 0,.mv (.const (.bool false)),none⟩]) .ret) .skip)) (.seq (.ops [⟨some 25,.mv (.tmp 2),none⟩,⟨some 26,.call (.func 10) [.tmp 25,.const (.int .i64 0),.const (.bool false)],none⟩,⟨some 27,.mv (.tmp 2),none⟩,⟨some 28,.call (.func 12) [.tmp 27,.const (.int .i64 0),.const (.bool false)],none⟩,⟨some 4,.alloc 46 [.slice none 0 0,.int .i64 0,.int .i64 0,.bool false,.bool false,.int .i64 0],none⟩,⟨some 5,.alloc 46 [.slice none 0 0,.int .i64 0,.int .i64 0,.bool false,.bool false,.int .i64 0],none⟩,⟨none,.st 6 (.tmp 4) (.tmp 26),none⟩,⟨none,.st 6 (.tmp 5) (.tmp 28),none⟩]) (.seq (.ops [⟨some 29,.off 1 (.tmp 4),none⟩,⟨some 30,.ld none (.tmp 29),none⟩,⟨some 31,.bin .eql (.tmp 30) (.const (.int .i64 (-1))),none⟩,⟨some 32,.mv (.tmp 31),none⟩,⟨some 33,.off 2 (.tmp 4),some (32,true)⟩,⟨some 34,.ld none (.tmp 33),some (32,true)⟩,⟨some 35,.bin .eql (.tmp 34) (.const (.int .i64 (-1))),some (32,true)⟩,⟨some 36,.pick (.tmp 32) (.tmp 35) (.const (.bool false)),none⟩,⟨some 37,.mv (.tmp 36),none⟩,⟨some 38,.off 1 (.tmp 5),some (37,true)⟩,⟨some 39,.ld none (.tmp 38),some (37,true)⟩,⟨some 40,.bin .eql (.tmp 39) (.const (.int .i64 1)),some (37,true)⟩,⟨some 41,.pick (.tmp 37) (.tmp 40) (.const (.bool false)),none⟩,⟨some 42,.mv (.tmp 41),none⟩,⟨some 43,.off 2 (.tmp 5),some (42,true)⟩,⟨some 44,.ld none (.tmp 43),some (42,true)⟩,⟨some 45,.bin .eql (.tmp 44) (.const (.int .i64 0)),some (42,true)⟩,⟨some 46,.pick (.tmp 42) (.tmp 45) (.const (.bool false)),none⟩,⟨some 47,.mv (.tmp 46),none⟩,⟨some 48,.off 3 (.tmp 5),some (47,true)⟩,⟨some 49,.ld none (.tmp 48),some (47,true)⟩,⟨some 50,.pick (.tmp 47) (.tmp 49) (.const (.bool false)),none⟩,⟨some 51,.mv (.tmp 50),none⟩,⟨some 52,.mv (.tmp 2),some (51,true)⟩,⟨some 53,.call (.func 13) [.tmp 52,.const (.int .i64 0)],some (51,true)⟩,⟨some 54,.part 0 (some 8) (.tmp 53),some (51,true)⟩,⟨some 55,.partI 8 1 false (.tmp 54) (.const (.int .i64 1)),some (51,true)⟩,⟨some 56,.bin .eql (.tmp 55) (.const (.int .u32 7)),some (51,true)⟩,⟨some 57,.pick (.tmp 51) (.tmp 56) (.const (.bool false)),none⟩,⟨some 0,.mv (.tmp 57),none⟩]) .ret)))))⟩
theorem cf8 : cFunc Try.prog 8 = some af8 := by kernel_rfl
end Code
end Go.Proofs.Ytongllppbifiaaa
namespace Go.Proofs.Ytongllppbifiaaa
namespace Ex
open Go Abs Code
open Px (natV natV_length natV_get VecV nm u32w i64w PS poolB outG Own New newP pnewG OkP)
attribute [local simp] DN5 HA DN NB begT atHead kd wantedA evP evR evF evL evC evI evBin evUn evEq evSt evRes plain scp scpA scpL rdRow_eq RV rdCells veq veqA veqL isHole Value.cells evalL optI evBounds evFill evFillR evApp newsOf wrCells one1 fitsApp evClr undef onB_bool List.getElem?_concat_length List.getElem?_cons_zero List.getElem?_cons_succ List.getElem?_toArray List.getElem?_nil List.set_cons_zero List.set_cons_succ List.cons_append List.nil_append
set_option linter.unusedVariables false
set_option linter.unusedSimpArgs false
set_option maxRecDepth 100000
theorem kb2 {H : AH} {K : Value → AH → Prop} {b b' : Bool} (h : K (.bool b) H) (e : b = true ↔ b' = true) : K (.bool b') H := by
 rw [← Bool.eq_iff_iff.2 e]
 exact h
structure SpR (H : AH) (v : Value) (s : Sp) : Prop where
 v : ∃ vL vz vi v7,v = .agg #[vL,.int .i64 s.lk,.int .i64 s.uk,vz,vi,.int .i64 s.each,v7] ∧ ArgRow H vL (rowI s.L) s.L.length ∧ ArgRow H vz (intV s.zs) s.zs.length ∧ ArgRow H vi (w32 s.init) s.init.length ∧ ArgRow H v7 (w32 s.r7) s.r7.length
 ks : ∀ i ∈ s.L,i.k < 4294967296
 ws : ∀ w ∈ s.init,w < 4294967296
 rs : ∀ w ∈ s.r7,w < 4294967296
theorem SpR.ext {H g : AH} {v : Value} {s : Sp} (r : SpR H v s) (h : Ext H g) : SpR g v s := by
 obtain ⟨⟨vL,vz,vi,v7,e,rL,rz,ri,r7⟩,k,w,q⟩ := r
 exact ⟨⟨vL,vz,vi,v7,e,rL.ext h,rz.ext h,ri.ext h,r7.ext h⟩,k,w,q⟩
theorem SpR.full {H : AH} {v : Value} {s : Sp} (r : SpR H v s) (h1 : s.L.length ≤ 1000) (h2 : s.zs.length ≤ 1000) : SpV H v s := ⟨r.v,r.ks,r.ws,r.rs,h1,h2⟩
def smallS (s : Sp) : Bool := decide (s.L.length ≤ 80 ∧ s.zs.length ≤ 12 ∧ s.init.length ≤ 300 ∧ s.r7.length ≤ 80)
set_option maxHeartbeats 4000000 in
theorem small_ {H : AH} {v : Value} {s : Sp} (r : SpR H v s) {K : Value → AH → Prop} (hK : K (.bool (smallS s)) H) : AC Try.prog 5 [v] H K := by
 refine AC.clean ?_
 refine entry hmix cf5 ?_
 obtain ⟨vL,vz,vi,v7,rfl,rL,rz,ri,r7⟩ := r.v
 obtain ⟨A1,C1,rfl⟩ := rL.form
 obtain ⟨A2,C2,rfl⟩ := rz.form
 obtain ⟨A3,C3,rfl⟩ := ri.form
 obtain ⟨A4,C4,rfl⟩ := r7.form
 unfold smallS at hK
 by_cases c1 : s.L.length ≤ 80
 case neg =>
  have c1' : ¬ (s.L.length : Int) ≤ 80 := by omega
  simp (maxSteps := 2000000) (implicitDefEqProofs := false) [-getElem?_pos,-getElem?_neg,c1,c1']
  exact kb2 hK (by simp; omega)
 have c1' : (s.L.length : Int) ≤ 80 := by omega
 by_cases c2 : s.zs.length ≤ 12
 case neg =>
  have c2' : ¬ (s.zs.length : Int) ≤ 12 := by omega
  simp (maxSteps := 2000000) (implicitDefEqProofs := false) [-getElem?_pos, -getElem?_neg, c1, c1', c2, c2']
  exact kb2 hK (by simp; omega)
 have c2' : (s.zs.length : Int) ≤ 12 := by omega
 by_cases c3 : s.init.length ≤ 300
 case neg =>
  have c3' : ¬ (s.init.length : Int) ≤ 300 := by omega
  simp (maxSteps := 2000000) (implicitDefEqProofs := false) [-getElem?_pos, -getElem?_neg, c1, c1', c2, c2', c3, c3']
  exact kb2 hK (by simp; omega)
 have c3' : (s.init.length : Int) ≤ 300 := by omega
 by_cases c4 : s.r7.length ≤ 80
 case neg =>
  have c4' : ¬ (s.r7.length : Int) ≤ 80 := by omega
  simp (maxSteps := 2000000) (implicitDefEqProofs := false) [-getElem?_pos, -getElem?_neg, c1, c1', c2, c2', c3, c3', c4, c4']
  exact kb2 hK (by simp; omega)
 have c4' : (s.r7.length : Int) ≤ 80 := by omega
 simp (maxSteps := 2000000) (implicitDefEqProofs := false) [-getElem?_pos, -getElem?_neg, c1, c1', c2, c2', c3, c3', c4, c4']
 exact kb2 hK (by simp; omega)
set_option maxHeartbeats 4000000 in
theorem lrefV_ {H : AH} {v : Value} {s : Sp} (r : SpR H v s) (hL : s.L.length ≤ 1000) {K : Value → AH → Prop} (hK : ∀ g vL vz vi v7,Ext H g → VecN 8 g vL s.L.length (rowI s.L) 102 → (∀ c ∈ nm vL,H.length ≤ c) → ArgRow g vz (intV s.zs) s.zs.length → ArgRow g vi (w32 s.init) s.init.length → ArgRow g v7 (w32 s.r7) s.r7.length → K (.agg #[vL,.int .i64 s.lk,.int .i64 s.uk,vz,vi,.int .i64 s.each,v7]) g) : AC Try.prog 7 [v] H K := by
 refine entry hmix cf7 ?_
 obtain ⟨vL,vz,vi,v7,rfl,rL,rz,ri,r7⟩ := r.v
 have q1 : ∀ {x : Value} {l n},ArgRow H x l n → veq x x = true := fun h => by
  obtain ⟨A,C,rfl⟩ := h.form
  simp [veq]
 have q2 := q1 rz
 have q3 := q1 ri
 have q4 := q1 r7
 simp (maxSteps := 2000000) (implicitDefEqProofs := false) [-getElem?_pos,-getElem?_neg]
 refine l7ref_ (rL.ext (Ext.app _ _)) hL _ _ fun g v' xg hv hn => ?_
 have g1 : g[H.length]? = some (.cells [vL,.int .i64 s.lk,.int .i64 s.uk,vz,vi,.int .i64 s.each,v7] 28 none) := by rw [xg.keep _ (by simp),HA.2.1]; rfl
 have g2 : g[H.length + 1]? = some (.cells [.slice none 0 0,.int .i64 0,.int .i64 0,.slice none 0 0,.slice none 0 0,.int .i64 0,.slice none 0 0] 36 none) := by rw [xg.keep _ (by simp),HA.1]; rfl
 have f1 : ∀ X,(g.set (H.length + 1) X)[H.length + 1]? = some X := fun X => List.getElem?_set_self (lt_get g2)
 have o1 := hv.one1
 obtain ⟨A2,C2,e2⟩ := rz.form
 obtain ⟨A3,C3,e3⟩ := ri.form
 obtain ⟨A4,C4,e4⟩ := r7.form
 obtain ⟨A5,C5,e5⟩ := hv.form
 subst e2 e3 e4 e5
 simp (maxSteps := 2000000) (implicitDefEqProofs := false) [-getElem?_pos,-getElem?_neg,g1,g2,f1,splice_more,q2,q3,q4]
 have x2 : Ext H (g.set (H.length + 1) (.cells [.slice A5 s.L.length C5,.int .i64 s.lk,.int .i64 s.uk,.slice A2 s.zs.length C2,.slice A3 s.init.length C3,.int .i64 s.each,.slice A4 s.r7.length C4] 36 none)) := ((Ext.app _ _).trans xg).set (by omega) _
 refine hK _ _ _ _ _ x2 (hv.keep fun c hc _ => ?_) (fun c hc => by have := hn c hc; simp at this; omega) (rz.ext x2) (ri.ext x2) (r7.ext x2)
 have := hn c hc
 simp at this
 rw [List.getElem?_set_ne (by omega)]
theorem lref_ {H : AH} {v : Value} {s : Sp} (r : SpR H v s) (hL : s.L.length ≤ 1000) {K : Value → AH → Prop} (hK : ∀ g v', Ext H g → SpR g v' s → K v' g) : AC Try.prog 7 [v] H K :=
 lrefV_ r hL fun g vL vz vi v7 x hv _ hz hi h7 => hK g _ x ⟨⟨vL,vz,vi,v7,rfl,hv.arg,hz,hi,h7⟩,r.ks,r.ws,r.rs⟩
set_option maxHeartbeats 4000000 in
theorem r10right_ (irr : IRR) {H : AH} {v : Value} {s : Sp} (r : SpV H v s) (n : Int) {K : Value → AH → Prop} (hK : ∀ b : Bool,(b = true ↔ OkX s n) → K (.bool b) H) : AC Try.prog 6 [v,.int .i64 n] H K := by
 refine AC.clean ?_
 refine entry hmix cf6 ?_
 obtain ⟨vL,vz,vi,v7,rfl,rL,rz,ri,r7⟩ := r.v
 obtain ⟨A3,C3,e3⟩ := ri.form
 obtain ⟨A4,C4,e4⟩ := r7.form
 obtain ⟨A1,C1,e1⟩ := rL.form
 subst e1 e3 e4
 simp (maxSteps := 2000000) (implicitDefEqProofs := false) [-getElem?_pos,-getElem?_neg]
 refine r9cells_ (rz.ext (Ext.app _ _)) r.lz (fun bad g xg => ?_) (fun ok g v' xg hv hn => ?_)
 ·obtain ⟨E,hE⟩ := ((Ext.app _ _).trans xg : Ext H g).out
  simp (maxSteps := 2000000) (implicitDefEqProofs := false) [-getElem?_pos,-getElem?_neg]
  exact ⟨⟨E,hE⟩,hK false (by simp; exact fun o => bad ⟨o.mem.few,o.mem.rng⟩)⟩
 have xH : Ext H g := (Ext.app _ _).trans xg
 obtain ⟨E,hE⟩ := xH.out
 have hK : ∀ b : Bool,(b = true ↔ OkX s n) → (∃ E,g = H ++ E) ∧ K (.bool b) H := fun b h => ⟨⟨E,hE⟩,hK b h⟩
 have no : ¬ OkX s n → (∃ E,g = H ++ E) ∧ K (.bool false) H := fun h => hK false (by simpa using h)
 have g1 : g[H.length]? = some (.cells [.slice A1 s.L.length C1,.int .i64 s.lk,.int .i64 s.uk,vz,.slice A3 s.init.length C3,.int .i64 s.each,.slice A4 s.r7.length C4] 36 none) := by rw [xg.keep _ (by simp),HA.2.1]; rfl
 obtain ⟨A5,C5,e5⟩ := hv.form
 subst e5
 by_cases c1 : (s.zs.map Int.toNat).sum ≤ 8192
 case neg =>
  rw [decide_eq_false c1]
  simp (maxSteps := 2000000) (implicitDefEqProofs := false) [-getElem?_pos,-getElem?_neg]
  exact no fun o => c1 o.mem.most
 rw [decide_eq_true c1]
 by_cases c2 : (s.zs.map Int.toNat).sum = s.init.length
 case neg =>
  have c2' : ¬ (((s.zs.map Int.toNat).sum : Nat) : Int) = s.init.length := by omega
  simp (maxSteps := 2000000) (implicitDefEqProofs := false) [-getElem?_pos,-getElem?_neg,g1,c2,c2']
  exact no fun o => c2 o.mem.all
 by_cases c3 : 1 ≤ n
 case neg =>
  simp (maxSteps := 2000000) (implicitDefEqProofs := false) [-getElem?_pos,-getElem?_neg,g1,c2,c3]
  exact no fun o => c3 o.n1.1
 by_cases c4 : n ≤ 64
 case neg =>
  simp (maxSteps := 2000000) (implicitDefEqProofs := false) [-getElem?_pos,-getElem?_neg,g1,c2,c3,c4]
  exact no fun o => c4 o.n1.2
 by_cases c5 : 0 ≤ s.each
 case neg =>
  simp (maxSteps := 2000000) (implicitDefEqProofs := false) [-getElem?_pos,-getElem?_neg,g1,c2,c3,c4,c5]
  exact no fun o => c5 o.each.1
 by_cases c6 : s.each ≤ 8
 case neg =>
  simp (maxSteps := 2000000) (implicitDefEqProofs := false) [-getElem?_pos,-getElem?_neg,g1,c2,c3,c4,c5,c6]
  exact no fun o => c6 o.each.2
 by_cases c7 : (s.r7.length : Int) = n
 case neg =>
  simp (maxSteps := 2000000) (implicitDefEqProofs := false) [-getElem?_pos,-getElem?_neg,g1,c2,c3,c4,c5,c6,c7]
  exact no fun o => c7 o.r7
 simp (maxSteps := 2000000) (implicitDefEqProofs := false) [-getElem?_pos,-getElem?_neg,g1,c2,c3,c4,c5,c6,c7]
 refine rcode_ irr r.ks (rL.ext xH) r.lL _ _ ?_
 cases cr : codeR rightI s.L s.lk s.uk with
 | false =>
  simp (maxSteps := 2000000) (implicitDefEqProofs := false) [-getElem?_pos,-getElem?_neg]
  exact no fun o => by have := o.code; rw [cr] at this; cases this
 | true =>
  simp (maxSteps := 2000000) (implicitDefEqProofs := false) [-getElem?_pos,-getElem?_neg]
  exact hK true (by simp; exact ⟨⟨c3,c4⟩,⟨c5,c6⟩,⟨ok.1,ok.2,c1,c2⟩,cr,c7⟩)
def spA : Sp := ⟨[⟨20,1,0,0,0,0,1,0⟩,⟨13,0,0,0,0,0,1,0⟩],0,0,[1],[7],0,[0]⟩
theorem spA_ok : OkX spA 1 := ⟨⟨by decide,by decide⟩,⟨by decide,by decide⟩,⟨by decide,by decide,by decide,by decide⟩,by decide,rfl⟩
set_option maxHeartbeats 4000000 in
theorem awake10_ {H : AH} {K : Value → AH → Prop} (hK : ∀ g,Ext H g → K (.bool true) g) : AC Try.prog 8 [] H K := by
 refine entry hmix cf8 ?_
 simp (maxSteps := 2000000) (implicitDefEqProofs := false) [-getElem?_pos,-getElem?_neg,reps,splice_more]
 refine xnew_ (s := spA) ⟨⟨.slice (some ⟨H.length,0,none⟩) 2 2,.slice (some ⟨H.length + 1,0,none⟩) 1 1,.slice (some ⟨H.length + 2,0,none⟩) 1 1,.slice (some ⟨H.length + 3,0,none⟩) 1 1,rfl, ?_, ?_, ?_, ?_⟩,by decide,by decide,by decide,by decide,by decide⟩ 1 (fun h => absurd spA_ok h) (fun _ => ?_)
 ·exact .row _ _ _ rfl (by rw [HA.2.1]; rfl) rfl
 ·exact .row _ _ _ rfl (by rw [HA.1]; rfl) rfl
 ·exact .row _ _ _ rfl (by rw [HA.1]; rfl) rfl
 ·exact .row _ _ _ rfl (by rw [HA.1]; rfl) rfl
 intro g N xg r hN
 have xH : Ext H g := (Ext.app _ _).trans xg
 have e1 : ((1 : Int).toNat) = 1 := rfl
 rw [e1] at r
 simp (maxSteps := 2000000) (implicitDefEqProofs := false) [-getElem?_pos,-getElem?_neg]
 have ok0 : OkP (newE spA 1).pl := Px.newP_ok 1 0 (by omega) (by omega) (by omega)
 refine xbegin_ r 0 (by decide) false ?_
 have b1 : beginX (newE spA 1) 0 false = ((beginX (newE spA 1) 0 false).1,⟨[],-1,-1,false,false,0⟩) := by rfl
 have b2 : (beginX (newE spA 1) 0 false).1.pl = (newE spA 1).pl := rfl
 have b3 : (beginX (newE spA 1) 0 false).1.cs.length = 1 := rfl
 intro g2 vm r2 u2 hv2 hn2
 rw [b1]
 rw [b1] at r2
 rw [← b2] at ok0
 generalize hs1 : (beginX (newE spA 1) 0 false).1 = s1 at *
 obtain ⟨A1,L1,C1,e2⟩ := hv2.slice
 subst e2
 unfold outV
 simp (maxSteps := 2000000) (implicitDefEqProofs := false) [-getElem?_pos,-getElem?_neg]
 refine xstep_ r2 ok0 0 (by omega) false ?_
 intro g3 vm3 r3 u3 hv3 hn3
 obtain ⟨A2,L2,C2,e3⟩ := hv3.slice
 subst e3
 have st : (stepX opsP s1 0 false).2 = ⟨[],1,0,true,false,0⟩ := by rw [← hs1]; rfl
 have sc : (stepX opsP s1 0 false).1.cs[0]? = some ⟨[0,7,0,0,0,0,0,0],1⟩ := by
  rw [← hs1]
  rfl
 rw [st]
 unfold outV
 simp (maxSteps := 2000000) (implicitDefEqProofs := false) [-getElem?_pos,-getElem?_neg,splice_more]
 refine xcore_ (r3.ext (Ext.app _ _)) 0 sc fun X => ?_
 simp only [Co.cs,w32,List.map_cons,List.map_nil,List.cons_append,List.nil_append]
 simp (maxSteps := 2000000) (implicitDefEqProofs := false) [-getElem?_pos,-getElem?_neg]
 have nH : ∀ c,c < H.length → c ∉ N.all := fun c hc hm => by
  have := hN c hm
  simp at this
  omega
 have x2 : Ext H g2 := ⟨Nat.le_trans xH.len u2.len,fun c hc => by rw [u2.keep c (Nat.lt_of_lt_of_le hc xH.len) (nH c hc),xH.keep c hc]⟩
 have x3 : Ext H g3 := ⟨Nat.le_trans x2.len u3.len,fun c hc => by rw [u3.keep c (Nat.lt_of_lt_of_le hc x2.len) (nH c hc),x2.keep c hc]⟩
 exact hK _ (x3.trans (Ext.app _ _))
end Ex
end Go.Proofs.Ytongllppbifiaaa
namespace Go.Proofs.Ytongllppbifiaaa
namespace Ex
open Go Abs Code
open Px (natV natV_length natV_get VecV nm u32w i64w PS poolB outG Own New newP pnewG OkP)
set_option linter.unusedVariables false
set_option linter.unusedSimpArgs false
set_option maxRecDepth 100000
end Ex
end Go.Proofs.Ytongllppbifiaaa
