import Derived.Test.YtongllppbifiaaaW11
import Derived.Test.YtongllppbifiaaaW20
namespace Go.Proofs.Ytongllppbifiaaa
namespace Ex
open Go Abs Code
open Px (u32w i64w natV VecV Own nm natV_length)
attribute [local simp] DN5 HA DN NB begT atHead kd wantedA evP evR evF evL evC evI evBin evUn evEq evSt evRes plain scp scpA scpL rdRow_eq RV rdCells veq veqA veqL isHole Value.cells evalL optI evBounds evFill evFillR evApp newsOf wrCells one1 fitsApp evClr undef onB_bool List.getElem?_concat_length List.getElem?_cons_zero List.getElem?_cons_succ List.getElem?_toArray List.getElem?_nil List.set_cons_zero List.set_cons_succ List.cons_append List.nil_append
set_option linter.unusedVariables false
set_option linter.unusedSimpArgs false
set_option maxRecDepth 100000
structure RunR where
 c : Co
 ms : List Nat
 done : Int
 e : Int
def fetch (L : List In) (p : Int) : Option In := if p < 0 then none else L[p.toNat]?
def runF (L : List In) (self : Nat) : Nat → Co → List Nat → RunR
 | f,c,ms => match fetch L c.pc with
  | none => ⟨c,ms,-1,11⟩
  | some i => if 16 ≤ i.op then ⟨c,ms,-1,0⟩ else match f with
   | 0 => ⟨c,ms,-1,11⟩
   | f + 1 => if i.op = 13 then ⟨c,ms,i.k,0⟩ else runF L self f (stepC c i self) (if i.op = 12 then ms ++ [i.k] else ms)
def runC (L : List In) (self : Nat) (c : Co) : RunR := runF L self 256 c []
theorem runF_out {L : List In} {self f : Nat} {c : Co} {ms : List Nat} (h : fetch L c.pc = none) : runF L self f c ms = ⟨c,ms,-1,11⟩ := by
 unfold runF; rw [h]
theorem runF_mem {L : List In} {self f : Nat} {c : Co} {ms : List Nat} {i : In} (h : fetch L c.pc = some i) (h16 : 16 ≤ i.op) : runF L self f c ms = ⟨c,ms,-1,0⟩ := by
 unfold runF; rw [h]; simp only; rw [if_pos h16]
theorem runF_far {L : List In} {self : Nat} {c : Co} {ms : List Nat} {i : In} (h : fetch L c.pc = some i) (h16 : ¬ 16 ≤ i.op) : runF L self 0 c ms = ⟨c,ms,-1,11⟩ := by
 unfold runF; rw [h]; simp only; rw [if_neg h16]
theorem runF_done {L : List In} {self f : Nat} {c : Co} {ms : List Nat} {i : In} (h : fetch L c.pc = some i) (h16 : ¬ 16 ≤ i.op) (h13 : i.op = 13) : runF L self (f + 1) c ms = ⟨c,ms,i.k,0⟩ := by
 unfold runF; rw [h]; simp only; rw [if_neg h16,if_pos h13]
theorem runF_step {L : List In} {self f : Nat} {c : Co} {ms : List Nat} {i : In} (h : fetch L c.pc = some i) (h16 : ¬ 16 ≤ i.op) (h13 : ¬ i.op = 13) : runF L self (f + 1) c ms = runF L self f (stepC c i self) (if i.op = 12 then ms ++ [i.k] else ms) := by
 rw [runF]; rw [h]; simp only; rw [if_neg h16,if_neg h13]
def rowI (L : List In) : List Value := L.flatMap In.vs
theorem rowI_length (L : List In) : (rowI L).length = L.length * 8 := by
 induction L with
 | nil => rfl
 | cons i L ih => simp [rowI,In.vs] at ih ⊢; omega
theorem rowI_at {L : List In} {j : Nat} {i : In} (h : L[j]? = some i) : ((rowI L).drop (j * 8)).take 8 = i.vs := by
 induction L generalizing j with
 | nil => simp at h
 | cons y L ih =>
  cases j with
  | zero => simp at h; subst h; simp [rowI,In.vs]
  | succ j =>
   simp at h
   rw [show (j + 1) * 8 = j * 8 + 1 + 1 + 1 + 1 + 1 + 1 + 1 + 1 by omega]
   simp only [rowI,In.vs,List.flatMap_cons,List.cons_append,List.nil_append,List.drop_succ_cons]
   exact ih h
structure Ext (H g : AH) : Prop where
 len : H.length ≤ g.length
 keep : ∀ c,c < H.length → g[c]? = H[c]?
theorem Ext.refl (H : AH) : Ext H H := ⟨Nat.le_refl _,fun _ _ => rfl⟩
theorem Ext.trans {H g k : AH} (h1 : Ext H g) (h2 : Ext g k) : Ext H k := ⟨Nat.le_trans h1.len h2.len,fun c hc => by rw [h2.keep c (Nat.lt_of_lt_of_le hc h1.len),h1.keep c hc]⟩
theorem Ext.app (H tl : AH) : Ext H (H ++ tl) := ⟨by simp,fun c hc => List.getElem?_append_left hc⟩
theorem Ext.set {H g : AH} (h : Ext H g) {b : Nat} (hb : H.length ≤ b) (k : ABlk) : Ext H (g.set b k) := ⟨by rw [List.length_set]; exact h.len,fun c hc => by rw [List.getElem?_set_ne (by omega)]; exact h.keep c hc⟩
theorem Ext.get {H g : AH} (h : Ext H g) {c : Nat} {k : ABlk} (hc : H[c]? = some k) : g[c]? = some k := by rw [h.keep c (lt_get hc)]; exact hc
abbrev tI : TypeId := 3
abbrev zero9 : List Value := [.int .u32 0,.int .u32 0,.int .u32 0,.int .u32 0,.int .u32 0,.int .u32 0,.int .u32 0,.int .u32 0,.int .i64 0]
structure Rn where
 n : Nat
 c : Co
 ms : List Nat
 g : AH
 vm : Value
def rnI (L : List In) (self : Nat) (c0 : Co) (code : List Value) (H : AH) (s : Rn) : Prop :=
 s.n ≤ 256 ∧ s.c.Ok ∧ runF L self (256 - s.n) s.c s.ms = runC L self c0 ∧ s.ms.length ≤ s.n ∧ Ext H s.g ∧ s.g[H.length]? = some (.cells s.c.cs 52 none) ∧ s.g[H.length + 1]? = some (.cells code 24 none) ∧ s.g[H.length + 2]? = some (.cells zero9 52 none) ∧ VecV s.g s.vm (natV s.ms) tI ∧ ∀ c ∈ nm s.vm,H.length + 3 ≤ c
def rnT (self b : Nat) (s : Rn) : List (Nat × Value) := [(2,.int .i64 self),(3,.pointer (some ⟨b,0,none⟩)),(4,.pointer (some ⟨b + 1,0,none⟩)),(6,.pointer (some ⟨b + 2,0,none⟩)),(7,s.vm),(10,.int .i64 s.n)]
def RunIs (H : AH) (r : RunR) (K : Value → AH → Prop) : Prop := ∀ g vm,Ext H g → VecV g vm (natV r.ms) tI → (∀ c ∈ nm vm,H.length ≤ c) → K (.tuple #[r.c.v,vm,.int .i64 r.done,.int .i64 r.e]) g
set_option maxHeartbeats 8000000 in
theorem run_ (L : List In) (hL : L.length ≤ 64) (hI : ∀ i ∈ L,i.Ok) (c : Co) (ok : c.Ok) (self : Nat) (hs : self < 4294967296) (H : AH) (bL cap : Nat) (e : TypeId) (o : Option Nat) (hb : H[bL]? = some (.cells (rowI L) e o)) (lk uk : Value) {K : Value → AH → Prop} (hK : RunIs H (runC L self c) K) :
  AC Try.prog 54 [c.v,.agg #[.slice (some ⟨bL,0,none⟩) L.length cap,lk,uk],.int .i64 self] H K := by
 refine entry hmix cf54 ?_
 obtain ⟨code,hcode⟩ : ∃ code,code = [Value.slice (some ⟨bL,0,none⟩) L.length cap,lk,uk] := ⟨_,rfl⟩
 have q1 : ∀ c : Co,c.v = .agg c.cs.toArray := fun _ => rfl
 rw [q1 c]
 simp (maxSteps := 2000000) (implicitDefEqProofs := false) [-getElem?_pos,-getElem?_neg]
 have hI0 : rnI L self c code H ⟨0,c,[],H ++ [.cells c.cs 52 none,.cells code 24 none,.cells zero9 52 none],.slice none 0 0⟩ := by
  refine ⟨Nat.zero_le _,ok,rfl,Nat.le_refl _,Ext.app _ _, ?_, ?_, ?_,.nil rfl rfl,fun c hc => by cases hc⟩
  ·simp only; rw [HA.2.1]; rfl
  ·simp only; rw [HA.1]; rfl
  ·simp only; rw [HA.1]; rfl
 have key := fun T0 Q e1 e2 hr => loop5 (P := Try.prog) (m := H.length) hmix (ac := lp54_0) 66 (rnI L self c code H) (fun s => 257 - s.n) (rnT self H.length) (·.g) _ hI0 rfl (t := T0) (Q := Q) e1 e2 hr
 rw [← hcode]
 refine key _ _ rfl (by simp [List.forall_mem_cons,GB,rnT]) ?_
 clear key hI0
 obtain ⟨c0,hc0⟩ : ∃ c0,c0 = c := ⟨_,rfl⟩
 rw [← hc0] at hK ⊢
 clear hc0 ok c
 rintro ⟨n,c,ms,g,vm⟩ ⟨hn,ok,hr,hml,hx,h0,h1,h2,hv,hnm⟩ _ _ _
 simp only at hn ok hr hml hx h0 h1 h2 hv hnm ⊢
 have hl := ok.len
 have hcl := cs_length hl
 have hct := cs_take hl
 have hone := cs_one c
 have hsp : splice zero9 0 c.cs = c.cs := cs_splice hl rfl
 have hpc := cs_pc hl
 have hbg := hx.get hb
 have hgl : H.length + 2 < g.length := lt_get h2
 have ret0 : ∀ (g' : AH), Ext g g' → ∀ d e', runC L self c0 = ⟨c, ms, d, e'⟩ → K (.tuple #[.agg c.cs.toArray, vm, .int .i64 d, .int .i64 e']) (g'.set (H.length + 2) (.cells c.cs 52 none)) := by
  intro g' hg' d e' hr'
  rw [hr'] at hK
  refine hK _ vm ((hx.trans hg').set (by omega) _) (hv.keep fun y hy hyl => ?_) (fun y hy => by have := hnm y hy; omega)
  have := hnm y hy
  rw [List.getElem?_set_ne (by omega),hg'.keep y hyl]
 have hss0 : ∀ k,(g.set (H.length + 2) k)[H.length + 2]? = some k := fun k => List.getElem?_set_self hgl
 have hss : ∀ tl k,((g ++ tl).set (H.length + 2) k)[H.length + 2]? = some k := fun tl k => List.getElem?_set_self (by rw [List.length_append]; omega)
 by_cases p0 : c.pc < 0
 ·have hf : fetch L c.pc = none := by unfold fetch; rw [if_pos p0]
  rw [runF_out hf] at hr
  have := ret0 g (Ext.refl g) _ _ hr.symm
  have p0' : ¬ 0 ≤ c.pc := by omega
  simp (maxSteps := 2000000) (implicitDefEqProofs := false) [-getElem?_pos, -getElem?_neg, rnT, lp54_0, h0, h1, h2, hpc, p0', hcl, hct, hone, hsp, hss0, hss]
  exact this
 have p0' : 0 ≤ c.pc := by omega
 by_cases p1 : (L.length : Int) ≤ c.pc
 ·have hf : fetch L c.pc = none := by unfold fetch; rw [if_neg p0]; exact List.getElem?_eq_none (by omega)
  rw [runF_out hf] at hr
  have := ret0 g (Ext.refl g) _ _ hr.symm
  have p1' : ¬ c.pc < L.length := by omega
  simp (maxSteps := 2000000) (implicitDefEqProofs := false) [-getElem?_pos, -getElem?_neg, rnT, lp54_0, h0, h1, h2, hpc, p0', p1', hcode, hcl, hct, hone, hsp, hss0, hss]
  exact this
 obtain ⟨k,hk⟩ : ∃ k : Nat,c.pc = k := ⟨c.pc.toNat,by omega⟩
 have hkl : k < L.length := by omega
 obtain ⟨i,hi⟩ : ∃ i,L[k]? = some i := ⟨_,List.getElem?_eq_getElem hkl⟩
 have hf : fetch L c.pc = some i := by unfold fetch; rw [if_neg p0,hk]; exact hi
 have iok := hI i (List.mem_of_getElem? hi)
 have hrd := rowI_at hi
 have hfit : k * 8 + 8 ≤ (rowI L).length := by rw [rowI_length]; omega
 have hkl' : (k : Int) < L.length := by omega
 have hk0 : (0 : Int) ≤ k := by omega
 obtain ⟨g1,hg1⟩ : ∃ g1,g ++ [.cells i.vs 55 none] = g1 := ⟨_,rfl⟩
 have hx1 : Ext g g1 := by rw [← hg1]; exact Ext.app _ _
 have a0 := hx1.get h0
 have a1 := hx1.get h1
 have a2 := hx1.get h2
 have ai : g1[g.length]? = some (.cells i.vs 55 none) := by rw [← hg1]; exact HA.2.1 _ _
 have hg1l : g1.length = g.length + 1 := by rw [← hg1]; simp
 have hss1 : ∀ k,(g1.set (H.length + 2) k)[H.length + 2]? = some k := fun k => List.getElem?_set_self (by omega)
 have ai2 : ∀ k,(g1.set (H.length + 2) k)[g.length]? = some (.cells i.vs 55 none) := fun k => by rw [List.getElem?_set_ne (by omega)]; exact ai
 have hmem : ∀ x,x = decide (16 ≤ i.op ∧ i.op ≤ 23) → x = decide (16 ≤ i.op) := fun x h => by rw [h]; have := iok.op; simp; omega
 unfold In.vs at hrd hg1 ai ai2
 rw [hk] at hpc
 simp (maxSteps := 2000000) (implicitDefEqProofs := false) [-getElem?_pos, -getElem?_neg, rnT, lp54_0, splice_more, h0, h1, h2, hpc, hcode, hk0, hkl', hkl, hbg, hrd, hfit, hg1, ai]
 refine memory_ i _ ?_
 rw [hmem _ rfl]
 by_cases c16 : 16 ≤ i.op
 ·rw [runF_mem hf c16] at hr
  have := ret0 g1 hx1 _ _ hr.symm
  simp (maxSteps := 2000000) (implicitDefEqProofs := false) [-getElem?_pos,-getElem?_neg,c16,a0,a1,a2,ai,ai2,hcl,hct,hone,hsp,hss1]
  exact this
 by_cases c256 : n = 256
 ·subst c256
  rw [runF_far hf c16] at hr
  have := ret0 g1 hx1 _ _ hr.symm
  simp (maxSteps := 2000000) (implicitDefEqProofs := false) [-getElem?_pos,-getElem?_neg,c16,a0,a1,a2,ai,ai2,hcl,hct,hone,hsp,hss1]
  exact this
 have c256' : ¬ (n : Int) = 256 := by omega
 have c256b : ((n : Int) == 256) = false := by simpa using c256'
 obtain ⟨f,hff⟩ : ∃ f,256 - n = f + 1 := ⟨255 - n,by omega⟩
 rw [hff] at hr
 have wk : IntKind.i64.wrap (i.k : Int) = (i.k : Int) := IntWalk.i64_in _ (by have := iok.k; omega)
 have wn : IntKind.i64.wrap ((n : Int) + 1) = (n : Int) + 1 := IntWalk.i64_in _ (by omega)
 by_cases c13 : i.op = 13
 ·rw [runF_done hf c16 c13] at hr
  have := ret0 g1 hx1 _ _ hr.symm
  rw [c13] at ai ai2
  simp (maxSteps := 2000000) (implicitDefEqProofs := false) [-getElem?_pos, -getElem?_neg, c16, c13, c256, c256', c256b, a0, a1, a2, ai, ai2, hcl, hct, hone, hsp, hss1, wk]
  exact this
 have c13b : (i.op == 13) = false := by simpa using c13
 rw [runF_step hf c16 c13] at hr
 have ok2 := stepC_ok ok iok hs
 have hl2 := cs_length ok2.len
 have ht2 := cs_take ok2.len
 have ho2 := cs_one (stepC c i self)
 have hsp2 : splice c.cs 0 (stepC c i self).cs = (stepC c i self).cs := cs_splice ok2.len hcl
 have hpk : -1099511627776 ≤ c.pc ∧ c.pc ≤ 1099511627776 := by omega
 have hv1 : VecV g1 vm (natV ms) tI := hv.keep fun y _ hyl => hx1.keep y hyl
 by_cases c12 : i.op = 12
 ·rw [if_pos c12] at hr
  have ow : Own g1 H.length ([] ++ (vm,natV ms,tI) :: []) := ⟨fun y hy => by simp at hy; subst hy; exact hv1,by
   simp only [List.nil_append,List.flatMap_cons,List.flatMap_nil,List.append_nil,List.nodup_cons]
   refine ⟨fun hm => by have := hnm _ hm; omega, ?_⟩
   obtain ⟨A9,L9,C9,e9⟩ := hv1.slice
   rw [e9]
   cases A9 <;> simp [nm],lt_get a0⟩
  obtain ⟨g2,a3,o3,l3,b3,k3⟩ := Own.app (pre := []) (post := []) ow (.int .i64 (i.k : Int)) rfl (by rw [natV_length]; omega) (bytes := 8) (by omega)
  have hm : ∀ y,y < H.length + 3 → y ∉ nm vm := fun y hy hm => by have := hnm y hm; omega
  have d0 : g2[H.length]? = _ := (k3 _ (lt_get a0) (hm _ (by omega))).trans a0
  have d1 : g2[H.length + 1]? = _ := (k3 _ (lt_get a1) (hm _ (by omega))).trans a1
  have d2 : g2[H.length + 2]? = _ := (k3 _ (lt_get a2) (hm _ (by omega))).trans a2
  have hgn : g.length ∉ nm vm := fun hm => by have := hv.lt _ hm; omega
  have di : g2[g.length]? = _ := (k3 _ (lt_get ai) hgn).trans ai
  have hv3 := o3.vec _ (List.mem_singleton_self _)
  simp only at hv3
  rw [c12] at di ai
  simp (maxSteps := 2000000) (implicitDefEqProofs := false) [-getElem?_pos, -getElem?_neg, c16, c13, c13b, c12, c256, c256', c256b, a0, a1, a2, ai, hcl, hct, hone, wk, -evApp, -newsOf, a3, d0, d1, d2, di]
  rw [← c12]
  refine one_ c ok i iok self hs hpk _ ?_
  rw [q1]
  simp (maxSteps := 2000000) (implicitDefEqProofs := false) [-getElem?_pos,-getElem?_neg,d0,hcl,hl2,ho2,hsp2,wn]
  have e2 : natV ms ++ [.int .i64 (i.k : Int)] = natV (ms ++ [i.k]) := by simp [natV]
  rw [e2] at hv3
  have hbl := lt_get d0
  refine next5.intro ⟨n + 1,stepC c i self,ms ++ [i.k],_,.slice (some ⟨g1.length + 1,0,none⟩) ((natV ms).length + 1) (OPEN + ((natV ms).length + 1))⟩ (by simp only; omega) ⟨by simp only; omega,ok2, ?_,by simp only [List.length_append,List.length_singleton]; omega, ?_, ?_, ?_, ?_, ?_,fun y hy => ?_⟩ rfl rfl (by simp [List.forall_mem_cons,GB,rnT])
  ·simp only
   rw [show 256 - (n + 1) = f by omega]
   exact hr
  ·have hxx := hx.trans hx1
   refine Ext.set ⟨by have := hxx.len; omega,fun y hy => (k3 y (by have := hxx.len; omega) (hm _ (by omega))).trans (hxx.keep y hy)⟩ (Nat.le_refl _) _
  ·exact List.getElem?_set_self hbl
  ·simp only; rw [List.getElem?_set_ne (by omega),← hcode]; exact d1
  ·simp only; rw [List.getElem?_set_ne (by omega)]; exact d2
  ·refine hv3.keep fun y hy _ => ?_
   simp [nm] at hy
   rw [List.getElem?_set_ne (by omega)]
  ·simp [nm] at hy
   omega
 ·rw [if_neg c12] at hr
  have c12b : (i.op == 12) = false := by simpa using c12
  simp (maxSteps := 2000000) (implicitDefEqProofs := false) [-getElem?_pos, -getElem?_neg, c16, c13, c13b, c12, c12b, c256, c256', c256b, a0, a1, a2, ai, hcl, hct, hone]
  refine one_ c ok i iok self hs hpk _ ?_
  rw [q1]
  simp (maxSteps := 2000000) (implicitDefEqProofs := false) [-getElem?_pos,-getElem?_neg,a0,hcl,hl2,ho2,hsp2,wn]
  have hbl := lt_get a0
  refine next5.intro ⟨n + 1,stepC c i self,ms,_,_⟩ (by simp only; omega) ⟨by simp only; omega,ok2, ?_,by simp only; omega, ?_, ?_, ?_, ?_, ?_,hnm⟩ rfl rfl (by simp [List.forall_mem_cons,GB,rnT])
  ·simp only
   rw [show 256 - (n + 1) = f by omega]
   exact hr
  ·exact Ext.set (hx.trans hx1) (Nat.le_refl _) _
  ·exact List.getElem?_set_self hbl
  ·simp only; rw [List.getElem?_set_ne (by omega),← hcode]; exact a1
  ·simp only; rw [List.getElem?_set_ne (by omega)]; exact a2
  ·refine hv1.keep fun y hy _ => ?_
   have := hnm y hy
   rw [List.getElem?_set_ne (by omega)]
end Ex
end Go.Proofs.Ytongllppbifiaaa
