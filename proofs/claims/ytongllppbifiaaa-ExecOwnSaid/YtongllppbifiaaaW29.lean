import Derived.Test.YtongllppbifiaaaW20
namespace Go.Proofs.Ytongllppbifiaaa
namespace Px
open Go Abs Code
attribute [local simp] DN5 HA DN NB begT atHead kd wantedA evP evR evF evL evC evI evBin evUn evEq evSt evRes plain scp scpA scpL rdRow_eq RV rdCells veq veqA veqL isHole Value.cells evalL optI evBounds evFill evFillR evApp newsOf wrCells one1 fitsApp evClr undef onB_bool List.getElem?_concat_length List.getElem?_cons_zero List.getElem?_cons_succ List.getElem?_toArray List.getElem?_nil List.set_cons_zero List.set_cons_succ List.cons_append List.nil_append
set_option linter.unusedVariables false
set_option linter.unusedSimpArgs false
set_option maxRecDepth 100000
def zeros (m : Nat) : List Value := natV (List.replicate m 0)
theorem zeros_s (m : Nat) : zeros m ++ [.int .i64 0] = zeros (m + 1) := by simp [zeros,natV,List.replicate_succ']
theorem zeros_length (m : Nat) : (zeros m).length = m := by simp [zeros,natV]
theorem freeN_s (each t k : Nat) : natV (freeN each t k) ++ [.int .i64 ((t * each + k + 1 : Nat) : Int)] = natV (freeN each t (k + 1)) := by simp [natV,freeN,List.range_succ]
theorem freeN_length (each t k : Nat) : (freeN each t k).length = k := by simp [freeN]
abbrev cF : TypeId := 25
abbrev cI : TypeId := 3
def plB (each : Nat) (vF vG vO : Value) : ABlk := .cells [.int .i64 each,vF,vG,vO] 149 none
structure RowsR (each t : Nat) (fv : List Value) (rs : List Vec) : Prop where
 fv : fv = rs.map (·.1)
 len : rs.length = t
 row : ∀ (u : Nat) x,rs[u]? = some x → x.2 = (natV (freeN each u each),cI)
structure New (H g : AH) (vs : List Vec) : Prop where
 keep : ∀ c,c < H.length → g[c]? = H[c]?
 names : ∀ x ∈ vs,∀ c ∈ nm x.1,H.length ≤ c
 len : H.length ≤ g.length
theorem New.app {H g g' : AH} {pre post : List Vec} {v : Value} {l l2 : List Value} {e : TypeId} {n m : Nat} (h : New H g (pre ++ (v,l,e) :: post)) (hl : g'.length = g.length + 2) (hk : ∀ c,c < g.length → c ∉ nm v → g'[c]? = g[c]?) : New H g' (pre ++ (.slice (some ⟨g.length + 1,0,none⟩) n m,l2,e) :: post) := by
 have h3 := h.len
 refine ⟨fun c hc => ?_,fun x hx c hc => ?_,by omega⟩
 ·rw [hk c (by omega) (fun hm => ?_)]
  ·exact h.keep c hc
  ·have := h.names (v,l,e) (by simp) c hm
   omega
 ·rw [List.mem_append,List.mem_cons] at hx
  rcases hx with hx | rfl | hx
  ·exact h.names x (by simp [hx]) c hc
  ·simp [nm] at hc; omega
  ·exact h.names x (by simp [hx]) c hc
theorem New.set {H g : AH} {vs : List Vec} (h : New H g vs) {b : Nat} (hb : H.length ≤ b) (k : ABlk) : New H (g.set b k) vs :=
 ⟨fun c hc => by rw [List.getElem?_set_ne (by omega)]; exact h.keep c hc,h.names,by rw [List.length_set]; exact h.len⟩
theorem New.perm {H g : AH} {vs ws : List Vec} (h : New H g vs) (p : vs.Perm ws) : New H g ws := ⟨h.keep,fun x hx => h.names x (p.mem_iff.2 hx),h.len⟩
structure Si where
 k : Nat
 g : AH
 vG : Value
 vO : Value
 vl : Value
def siI (H : AH) (each t p : Nat) (vF : Value) (fv : List Value) (rs : List Vec) (s : Si) : Prop :=
 s.k ≤ each ∧ s.g[p]? = some (plB each vF s.vG s.vO) ∧ Own s.g p ((vF,fv,cF) :: (s.vG,zeros (t * each + s.k),cI) :: (s.vO,zeros (t * each + s.k),cI) :: (s.vl,natV (freeN each t s.k),cI) :: rs) ∧ New H s.g ((vF,fv,cF) :: (s.vG,zeros (t * each + s.k),cI) :: (s.vO,zeros (t * each + s.k),cI) :: (s.vl,natV (freeN each t s.k),cI) :: rs)
def siT (n each t p : Nat) (s : Si) : List (Nat × Value) := [(0,.int .i64 n),(1,.int .i64 each),(5,.pointer (some ⟨p,0,none⟩)),(6,.int .i64 t),(7,s.vl),(8,.int .i64 ((s.k : Int) + 1))]
set_option maxHeartbeats 4000000 in
theorem loop56b (H : AH) (n each t p m : Nat) (hn : n ≤ 64) (he : each ≤ 8) (ht : t < n) (hp : H.length ≤ p) (vF : Value) (fv : List Value) (rs : List Vec) (s0 : Si) (hk0 : s0.k = 0) (h0 : siI H each t p vF fv rs s0) (T0 : T) (Q : AExit → T → AH → Prop) (e1 : T0.length = 73) (e2 : ∀ x ∈ siT n each t p s0,getT T0 x.1 = some x.2)
  (hQ : ∀ s,s.k = each → siI H each t p vF fv rs s → Q (.exit 2) (mkT 73 ((31,.int .i64 ((each : Int) + 1)) :: (32,.int .i64 each) :: (33,.bool false) :: siT n each t p s)) s.g) : ALoop Try.prog m lp33_1 T0 s0.g Q := by
 refine loop5 hmix 73 (siI H each t p vF fv rs) (fun s => each - s.k) (siT n each t p) (·.g) s0 h0 rfl e1 e2 ?_
 rintro ⟨k,g,vG,vO,vl⟩ ⟨hk,hg,ho,hnw⟩ _ _ _
 simp only at hk hg ho hnw ⊢
 have hte : t * each ≤ 512 := Nat.le_trans (Nat.mul_le_mul (by omega) he) (by omega : 64 * 8 ≤ 512)
 by_cases hlt : k < each
 case neg =>
  obtain rfl : k = each := by omega
  have hq := hQ ⟨k,g,vG,vO,vl⟩ rfl ⟨hk,hg,ho,hnw⟩
  have c1 : ¬ (k : Int) + 1 ≤ k := by omega
  simp only [siT] at hq
  simp (maxSteps := 2000000) (implicitDefEqProofs := false) [-getElem?_pos,-getElem?_neg,siT,lp33_1,c1]
  simp (maxSteps := 2000000) (implicitDefEqProofs := false) [DN,NB,begT,atHead,kd,wantedA,evP,evR,evF,evL,evC,evI,evBin,evUn,evEq,evSt,evRes,plain,scp,scpA,scpL,rdRow_eq,RV,rdCells,veq,veqA,veqL,isHole,Value.cells,evalL,optI,evBounds,evFill,evFillR,evApp,newsOf,wrCells,one1,fitsApp,evClr,undef,onB_bool,List.getElem?_concat_length,List.getElem?_cons_zero,List.getElem?_cons_succ,List.getElem?_toArray,List.getElem?_nil,List.set_cons_zero,List.set_cons_succ,List.cons_append,List.nil_append,-getElem?_pos,-getElem?_neg] at hq
  exact hq
 have c1 : (k : Int) + 1 ≤ each := by omega
 have c2 : k + 1 ≤ each := by omega
 have w1 : IntKind.i64.wrap ((t : Int) * each) = (t : Int) * each := by
  have : ((t * each : Nat) : Int) = (t : Int) * each := by push_cast; rfl
  exact IntWalk.i64_in _ (by omega)
 have w2 : IntKind.i64.wrap ((t : Int) * each + ((k : Int) + 1)) = ((t * each + k + 1 : Nat) : Int) := by
  have : ((t * each : Nat) : Int) = (t : Int) * each := by push_cast; rfl
  rw [IntWalk.i64_in _ (by omega)]
  push_cast
  omega
 have w3 : IntKind.i64.wrap ((k : Int) + 1 + 1) = (k : Int) + 1 + 1 := IntWalk.i64_in _ (by omega)
 obtain ⟨x,hx⟩ : ∃ x : Nat,t * each + k + 1 = x := ⟨_,rfl⟩
 have hzl := zeros_length (t * each + k)
 obtain ⟨g1,a1,o1,l1,b1,k1⟩ := Own.app (pre := [(vF,fv,cF),(vG,zeros (t * each + k),cI),(vO,zeros (t * each + k),cI)]) (post := rs) ho (.int .i64 (x : Int)) rfl (by rw [natV_length,freeN_length]; omega) (bytes := 8) (by omega)
 have n1 := New.app (pre := [(vF,fv,cF),(vG,zeros (t * each + k),cI),(vO,zeros (t * each + k),cI)]) (post := rs) (l2 := natV (freeN each t k) ++ [.int .i64 (x : Int)]) (n := (natV (freeN each t k)).length + 1) (m := OPEN + ((natV (freeN each t k)).length + 1)) hnw l1 k1
 rw [hg] at b1
 obtain ⟨vl', hvl⟩ : ∃ v, v = Value.slice (some ⟨g.length + 1, 0, none⟩) ((natV (freeN each t k)).length + 1) (OPEN + ((natV (freeN each t k)).length + 1)) := ⟨_, rfl⟩
 rw [← hvl] at a1 o1 n1
 obtain ⟨g2, a2, o2, l2, b2, k2⟩ := Own.app (pre := [(vF, fv, cF)]) (post := (vO, zeros (t * each + k), cI) :: (vl', natV (freeN each t k) ++ [.int .i64 (x : Int)], cI) :: rs) (v := vG) (l := zeros (t * each + k)) (e := cI) o1 (.int .i64 0) rfl (by omega) (bytes := 8) (by omega)
 have n2 := New.app (pre := [(vF, fv, cF)]) (post := (vO, zeros (t * each + k), cI) :: (vl', natV (freeN each t k) ++ [.int .i64 (x : Int)], cI) :: rs) (v := vG) (l := zeros (t * each + k)) (e := cI) (l2 := zeros (t * each + k) ++ [.int .i64 0]) (n := (zeros (t * each + k)).length + 1) (m := OPEN + ((zeros (t * each + k)).length + 1)) n1 l2 k2
 rw [b1] at b2
 obtain ⟨vG', hvG⟩ : ∃ v, v = Value.slice (some ⟨g1.length + 1, 0, none⟩) ((zeros (t * each + k)).length + 1) (OPEN + ((zeros (t * each + k)).length + 1)) := ⟨_, rfl⟩
 rw [← hvG] at a2 o2 n2
 have o3 := o2.set (plB each vF vG' vO)
 have n3 := n2.set hp (plB each vF vG' vO)
 have b3 : (g2.set p (plB each vF vG' vO))[p]? = some (plB each vF vG' vO) := List.getElem?_set_self (lt_get b2)
 obtain ⟨g3,hg3⟩ : ∃ g3,g2.set p (plB each vF vG' vO) = g3 := ⟨_,rfl⟩
 rw [hg3] at o3 n3 b3
 obtain ⟨g4, a4, o4, l4, b4, k4⟩ := Own.app (pre := [(vF, fv, cF), (vG', zeros (t * each + k) ++ [.int .i64 0], cI)]) (post := (vl', natV (freeN each t k) ++ [.int .i64 (x : Int)], cI) :: rs) (v := vO) (l := zeros (t * each + k)) (e := cI) o3 (.int .i64 0) rfl (by omega) (bytes := 8) (by omega)
 have n4 := New.app (pre := [(vF, fv, cF), (vG', zeros (t * each + k) ++ [.int .i64 0], cI)]) (post := (vl', natV (freeN each t k) ++ [.int .i64 (x : Int)], cI) :: rs) (v := vO) (l := zeros (t * each + k)) (e := cI) (l2 := zeros (t * each + k) ++ [.int .i64 0]) (n := (zeros (t * each + k)).length + 1) (m := OPEN + ((zeros (t * each + k)).length + 1)) n3 l4 k4
 rw [b3] at b4
 obtain ⟨vO', hvO⟩ : ∃ v, v = Value.slice (some ⟨g3.length + 1, 0, none⟩) ((zeros (t * each + k)).length + 1) (OPEN + ((zeros (t * each + k)).length + 1)) := ⟨_, rfl⟩
 rw [← hvO] at a4 o4 n4
 have o5 := o4.set (plB each vF vG' vO')
 have n5 := n4.set hp (plB each vF vG' vO')
 have b5 : (g4.set p (plB each vF vG' vO'))[p]? = some (plB each vF vG' vO') := List.getElem?_set_self (lt_get b4)
 rw [hx] at w2
 have hxs : natV (freeN each t k) ++ [.int .i64 (x : Int)] = natV (freeN each t (k + 1)) := by rw [← freeN_s,hx]
 rw [zeros_s] at o5 n5
 rw [hxs] at o5 n5
 subst hvG hvO hvl
 unfold plB at b1 b2 b3 b4 hg3
 simp (maxSteps := 2000000) (implicitDefEqProofs := false) [-getElem?_pos,-getElem?_neg,siT,lp33_1,c1,c2,w1,w2,w3,-evApp,-newsOf,a1,b1,a2,b2,hg3,b3,a4,b4,splice_one]
 exact next5.intro ⟨k + 1,_,_,_,_⟩ (by simp only; omega) ⟨by simp only; omega,b5,o5,n5⟩ rfl rfl (by simp [List.forall_mem_cons,GB,siT])
theorem Own.addNil {g : AH} {b : Nat} {pre post : List Vec} (h : Own g b (pre ++ post)) (e : TypeId) : Own g b (pre ++ (.slice none 0 0,[],e) :: post) := by
 refine ⟨fun x hx => ?_, ?_,h.lt⟩
 ·rw [List.mem_append,List.mem_cons] at hx
  rcases hx with hx | rfl | hx
  ·exact h.vec x (by simp [hx])
  ·exact .nil rfl rfl
  ·exact h.vec x (by simp [hx])
 ·have := h.nd
  rw [List.flatMap_append] at this ⊢
  rw [List.flatMap_cons]
  exact this
theorem New.addNil {H g : AH} {pre post : List Vec} (h : New H g (pre ++ post)) (e : TypeId) : New H g (pre ++ (.slice none 0 0,[],e) :: post) := by
 refine ⟨h.keep,fun x hx c hc => ?_,h.len⟩
 rw [List.mem_append,List.mem_cons] at hx
 rcases hx with hx | rfl | hx
 ·exact h.names x (by simp [hx]) c hc
 ·cases hc
 ·exact h.names x (by simp [hx]) c hc
structure So where
 t : Nat
 g : AH
 vF : Value
 vG : Value
 vO : Value
 fv : List Value
 rs : List Vec
def soI (H : AH) (n each p : Nat) (s : So) : Prop :=
 s.t ≤ n ∧ s.g[p]? = some (plB each s.vF s.vG s.vO) ∧ Own s.g p ((s.vF,s.fv,cF) :: (s.vG,zeros (s.t * each),cI) :: (s.vO,zeros (s.t * each),cI) :: s.rs) ∧ New H s.g ((s.vF,s.fv,cF) :: (s.vG,zeros (s.t * each),cI) :: (s.vO,zeros (s.t * each),cI) :: s.rs) ∧ RowsR each s.t s.fv s.rs
def soT (n each p : Nat) (s : So) : List (Nat × Value) := [(0,.int .i64 n),(1,.int .i64 each),(5,.pointer (some ⟨p,0,none⟩)),(6,.int .i64 s.t)]
set_option maxHeartbeats 4000000 in
theorem loop56a (H : AH) (n each p m : Nat) (hn : n ≤ 64) (he : each ≤ 8) (hp : H.length ≤ p) (s0 : So) (ht0 : s0.t = 0) (h0 : soI H n each p s0) (T0 : T) (Q : AExit → T → AH → Prop) (e1 : T0.length = 73) (e2 : ∀ x ∈ soT n each p s0,getT T0 x.1 = some x.2)
  (hQ : ∀ s,s.t = n → soI H n each p s → Q (.exit 0) (mkT 73 ((26,.int .i64 n) :: (27,.int .i64 n) :: (28,.bool false) :: soT n each p s)) s.g) : ALoop Try.prog m lp33_0 T0 s0.g Q := by
 refine loop5 hmix 73 (soI H n each p) (fun s => n - s.t) (soT n each p) (·.g) s0 h0 rfl e1 e2 ?_
 rintro ⟨t,g,vF,vG,vO,fv,rs⟩ ⟨ht,hg,ho,hnw,hrs⟩ _ _ _
 simp only at ht hg ho hnw hrs ⊢
 by_cases hlt : t < n
 case neg =>
  obtain rfl : t = n := by omega
  have hq := hQ ⟨t,g,vF,vG,vO,fv,rs⟩ rfl ⟨ht,hg,ho,hnw,hrs⟩
  simp only [soT] at hq
  simp (maxSteps := 2000000) (implicitDefEqProofs := false) [-getElem?_pos,-getElem?_neg,soT,lp33_0]
  simp (maxSteps := 2000000) (implicitDefEqProofs := false) [DN,NB,begT,atHead,kd,wantedA,evP,evR,evF,evL,evC,evI,evBin,evUn,evEq,evSt,evRes,plain,scp,scpA,scpL,rdRow_eq,RV,rdCells,veq,veqA,veqL,isHole,Value.cells,evalL,optI,evBounds,evFill,evFillR,evApp,newsOf,wrCells,one1,fitsApp,evClr,undef,onB_bool,List.getElem?_concat_length,List.getElem?_cons_zero,List.getElem?_cons_succ,List.getElem?_toArray,List.getElem?_nil,List.set_cons_zero,List.set_cons_succ,List.cons_append,List.nil_append,-getElem?_pos,-getElem?_neg] at hq
  exact hq
 have c1 : (t : Int) < n := by omega
 have w1 : IntKind.i64.wrap ((t : Int) + 1) = (t : Int) + 1 := IntWalk.i64_in _ (by omega)
 simp (maxSteps := 2000000) (implicitDefEqProofs := false) [-getElem?_pos,-getElem?_neg,soT,lp33_0,c1,hlt]
 refine loop56b H n each t p _ hn he hlt hp vF fv rs ⟨0,g,vG,vO,.slice none 0 0⟩ rfl ⟨Nat.zero_le _,hg,Own.addNil (pre := [(vF,fv,cF),(vG,zeros (t * each),cI),(vO,zeros (t * each),cI)]) ho cI,New.addNil (pre := [(vF,fv,cF),(vG,zeros (t * each),cI),(vO,zeros (t * each),cI)]) hnw cI⟩ _ _ rfl (by simp [List.forall_mem_cons,GB,siT]) ?_
 clear hg ho hnw
 rintro ⟨k,g,vG,vO,vl⟩ hk ⟨_,hg,ho,hnw⟩
 simp only at hk hg ho hnw ⊢
 subst hk
 obtain ⟨A,L,C,hvl⟩ := (ho.vec (vl,natV (freeN k t k),cI) (by simp)).slice
 subst hvl
 have hfl : fv.length = t := by rw [hrs.fv,List.length_map,hrs.len]
 obtain ⟨g1,a1,o1,l1,b1,k1⟩ := Own.app (pre := []) (post := (vG,zeros (t * k + k),cI) :: (vO,zeros (t * k + k),cI) :: (.slice A L C,natV (freeN k t k),cI) :: rs) ho (.slice A L C) rfl (by omega) (bytes := 24) (by omega)
 have n1 := New.app (pre := []) (post := (vG,zeros (t * k + k),cI) :: (vO,zeros (t * k + k),cI) :: (.slice A L C,natV (freeN k t k),cI) :: rs) (v := vF) (l := fv) (e := cF) (l2 := fv ++ [.slice A L C]) (n := fv.length + 1) (m := OPEN + (fv.length + 1)) hnw l1 k1
 rw [hg] at b1
 obtain ⟨vF', hvF⟩ : ∃ v, v = Value.slice (some ⟨g.length + 1, 0, none⟩) (fv.length + 1) (OPEN + (fv.length + 1)) := ⟨_, rfl⟩
 rw [← hvF] at a1 o1 n1
 have o2 := o1.set (plB k vF' vG vO)
 have n2 := n1.set hp (plB k vF' vG vO)
 have b2 : (g1.set p (plB k vF' vG vO))[p]? = some (plB k vF' vG vO) := List.getElem?_set_self (lt_get b1)
 have pm : ((vF', fv ++ [.slice A L C], cF) :: (vG, zeros (t * k + k), cI) :: (vO, zeros (t * k + k), cI) :: (.slice A L C, natV (freeN k t k), cI) :: rs).Perm ((vF', fv ++ [.slice A L C], cF) :: (vG, zeros ((t + 1) * k), cI) :: (vO, zeros ((t + 1) * k), cI) :: (rs ++ [(.slice A L C, natV (freeN k t k), cI)])) := by
  rw [Nat.succ_mul]
  refine List.Perm.cons _ (List.Perm.cons _ (List.Perm.cons _ ?_))
  exact (List.perm_append_singleton _ _).symm
 have o3 := o2.perm pm
 have n3 := n2.perm pm
 have r3 : RowsR k (t + 1) (fv ++ [.slice A L C]) (rs ++ [(.slice A L C,natV (freeN k t k),cI)]) := by
  refine ⟨by rw [hrs.fv]; simp,by simp [hrs.len],fun u x hx => ?_⟩
  rw [List.getElem?_append] at hx
  split at hx
  ·exact hrs.row u x hx
  ·rename_i hu
   rw [hrs.len] at hx hu
   obtain rfl : u = t := by
    have := (List.getElem?_eq_some_iff.1 hx).1
    simp at this
    omega
   simp at hx
   subst hx
   rfl
 unfold plB at b1 hg
 subst hvF
 simp (maxSteps := 2000000) (implicitDefEqProofs := false) [-getElem?_pos,-getElem?_neg,siT,w1,-evApp,-newsOf,a1,hg,b1,splice_one]
 exact next5.intro ⟨t + 1,_,_,_,_,_,_⟩ (by simp only; omega) ⟨by simp only; omega,b2,o3,n3,r3⟩ rfl rfl (by simp [List.forall_mem_cons,GB,soT])
end Px
end Go.Proofs.Ytongllppbifiaaa
