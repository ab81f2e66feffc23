import Derived.Test.YtongllppbifiaaaW35
namespace Go.Proofs.Ytongllppbifiaaa
namespace Ex
open Go Abs Code
open Px (natV natV_length natV_get VecV nm u32w i64w PS poolB outG Own New newP pnewG OkP)
attribute [local simp] DN5 HA DN NB begT atHead kd wantedA evP evR evF evL evC evI evBin evUn evEq evSt evRes plain scp scpA scpL rdRow_eq RV rdCells veq veqA veqL isHole Value.cells evalL optI evBounds evFill evFillR evApp newsOf wrCells one1 fitsApp evClr undef onB_bool List.getElem?_concat_length List.getElem?_cons_zero List.getElem?_cons_succ List.getElem?_toArray List.getElem?_nil List.set_cons_zero List.set_cons_succ List.cons_append List.nil_append
set_option linter.unusedVariables false
set_option linter.unusedSimpArgs false
set_option maxRecDepth 100000
theorem ArgRow.ext {H g : AH} {v : Value} {l : List Value} {n : Nat} (r : ArgRow H v l n) (h : Ext H g) : ArgRow g v l n := by
 cases r with
 | none h1 h2 h3 => exact .none h1 h2 h3
 | row b cap X h1 h2 h3 => exact .row b cap X h1 (h.get h2) h3
structure Sp where
 L : List In
 lk : Int
 uk : Int
 zs : List Int
 init : List Nat
 each : Int
 r7 : List Nat
structure OkX (s : Sp) (n : Int) : Prop where
 n1 : 1 ≤ n ∧ n ≤ 64
 each : 0 ≤ s.each ∧ s.each ≤ 8
 mem : OkM s.zs s.init
 code : codeR rightI s.L s.lk s.uk = true
 r7 : (s.r7.length : Int) = n
structure SpV (H : AH) (v : Value) (s : Sp) : Prop where
 v : ∃ vL vz vi v7,v = .agg #[vL,.int .i64 s.lk,.int .i64 s.uk,vz,vi,.int .i64 s.each,v7] ∧ ArgRow H vL (rowI s.L) s.L.length ∧ ArgRow H vz (intV s.zs) s.zs.length ∧ ArgRow H vi (w32 s.init) s.init.length ∧ ArgRow H v7 (w32 s.r7) s.r7.length
 ks : ∀ i ∈ s.L,i.k < 4294967296
 ws : ∀ w ∈ s.init,w < 4294967296
 rs : ∀ w ∈ s.r7,w < 4294967296
 lL : s.L.length ≤ 1000
 lz : s.zs.length ≤ 1000
def core0 (v : Nat) : Co := ⟨[0,0,0,0,0,0,0,v],0⟩
def newE (s : Sp) (n : Nat) : ES PS := ⟨s.L,s.lk,s.uk,s.zs.map Int.toNat,s.init,newP n s.each.toNat,s.r7.map core0⟩
def NewBad (H : AH) (K : Value → AH → Prop) : Prop := ∀ g,Ext H g → K (.tuple #[.pointer none,.int .i64 1]) g
def NewOk (H : AH) (s : Sp) (n : Nat) (K : Value → AH → Prop) : Prop := ∀ g N,Ext H g → XAt g N (newE s n) → (∀ c ∈ N.all,H.length ≤ c) → K (.tuple #[.pointer (some ⟨N.x,0,none⟩),.int .i64 0]) g
theorem rowI_one (L : List In) : (rowI L).all one1 = true := by
 rw [List.all_eq_true]
 intro v hv
 obtain ⟨i,_,hv⟩ := List.mem_flatMap.1 hv
 simp [In.vs] at hv
 rcases hv with rfl | rfl | rfl | rfl | rfl | rfl | rfl | rfl <;> rfl
theorem core0_ok {v : Nat} (h : v < 4294967296) : (core0 v).Ok := ⟨rfl,fun x hx => by simp [core0] at hx; omega⟩
theorem core0_cs (v : Nat) : (core0 v).cs = [.int .u32 0,.int .u32 0,.int .u32 0,.int .u32 0,.int .u32 0,.int .u32 0,.int .u32 0,.int .u32 (v : Int),.int .i64 0] := rfl
theorem reps_core : ∀ n,reps [.int .u32 0,.int .u32 0,.int .u32 0,.int .u32 0,.int .u32 0,.int .u32 0,.int .u32 0,.int .u32 0,.int .i64 0] n = rowC ((List.replicate n 0).map core0)
 | 0 => rfl
 | n + 1 => by
  rw [reps,reps_core n,List.replicate_succ,List.map_cons,rowC_cons,core0_cs]
  rfl
theorem rowC_set7 {cs : List Co} {t v x : Nat} (ht : cs[t]? = some (core0 x)) (h : ∀ c ∈ cs,∃ y,c = core0 y) : (rowC cs).set (t * 9 + 7) (.int .u32 (v : Int)) = rowC (cs.set t (core0 v)) := by
 induction cs generalizing t with
 | nil => simp at ht
 | cons d cs ih =>
  obtain ⟨y,hy⟩ := h d List.mem_cons_self
  cases t with
  | zero =>
   subst hy
   rw [List.set_cons_zero,rowC_cons,rowC_cons,core0_cs,core0_cs]
   rfl
  | succ t =>
   have := ih (t := t) (by simpa using ht) (fun c hc => h c (List.mem_cons_of_mem _ hc))
   rw [List.set_cons_succ,rowC_cons,rowC_cons,← this]
   subst hy
   have e1 : (t + 1) * 9 + 7 = 9 + (t * 9 + 7) := by omega
   rw [e1,List.set_append_right _ _ (by rw [core0_cs]; simp)]
   rw [core0_cs]
   simp
def xnT (G : Nat) (v7 : Value) (nn : Nat) (k : Nat) : List (Nat × Value) := [(10,.pointer (some ⟨G + 1,0,none⟩)),(57,v7),(58,.int .i64 nn),(59,.int .i64 k)]
set_option maxHeartbeats 4000000 in
theorem xnew_ {H : AH} {v : Value} {s : Sp} (r : SpV H v s) (n : Int) {K : Value → AH → Prop} (hB : ¬ OkX s n → NewBad H K) (hO : OkX s n → NewOk H s n.toNat K) : AC Try.prog 9 [v,.int .i64 n] H K := by
 obtain ⟨vL,vz,vi,v7,rfl,rL,rz,ri,r7⟩ := r.v
 refine entry hmix cf9 ?_
 simp (maxSteps := 2000000) (implicitDefEqProofs := false) [-getElem?_pos,-getElem?_neg]
 obtain ⟨bx,hbx⟩ : ∃ bx : ABlk,bx = .cells [vL,.int .i64 s.lk,.int .i64 s.uk,vz,vi,.int .i64 s.each,v7] 28 none := ⟨_,rfl⟩
 rw [← hbx]
 by_cases c1 : 1 ≤ n ∧ n ≤ 64 ∧ 0 ≤ s.each ∧ s.each ≤ 8
 case neg =>
  refine pnewBad_ c1 ?_
  rw [hbx]
  simp (maxSteps := 2000000) (implicitDefEqProofs := false) [-getElem?_pos,-getElem?_neg]
  rw [← hbx]
  have bad := hB fun o => c1 ⟨o.n1.1,o.n1.2,o.each⟩
  refine mnew_ (rz.ext (Ext.app _ _)) (ri.ext (Ext.app _ _)) r.lz (fun _ g e => ?_) (fun _ g m pc vs vb mi => ?_)
  ·simp (maxSteps := 2000000) (implicitDefEqProofs := false) [-getElem?_pos,-getElem?_neg]
   exact bad g ((Ext.app _ _).trans e)
  ·simp (maxSteps := 2000000) (implicitDefEqProofs := false) [-getElem?_pos,-getElem?_neg]
   exact bad g ((Ext.app _ _).trans mi.ext)
 obtain ⟨c1,c2,c3,c4⟩ := c1
 obtain ⟨nn,rfl⟩ : ∃ nn : Nat,n = nn := ⟨n.toNat,by omega⟩
 obtain ⟨en,hen⟩ : ∃ en : Nat,s.each = en := ⟨s.each.toNat,by omega⟩
 rw [hen]
 refine pnewG (n := nn) (each := en) (by omega) (by omega) (by omega) ?_
 rw [hbx,hen]
 simp (maxSteps := 2000000) (implicitDefEqProofs := false) [-getElem?_pos,-getElem?_neg]
 rw [← hen,← hbx]
 refine mnew_ (rz.ext (Ext.app _ _)) (ri.ext (Ext.app _ _)) r.lz (fun bad g e => ?_) (fun om g m pc vs vb mi => ?_)
 ·simp (maxSteps := 2000000) (implicitDefEqProofs := false) [-getElem?_pos,-getElem?_neg]
  exact hB (fun o => bad o.mem) g ((Ext.app _ _).trans e)
 obtain ⟨A7,C7,e7⟩ := r7.form
 subst e7
 have gx : g[H.length]? = some bx := by rw [mi.ext.keep _ (by simp),HA.2.1]; rfl
 have hgl : H.length + 2 ≤ g.length := by have := mi.ext.len; simpa using this
 have gp : g[H.length + 1]? = some (poolB (newP nn en)) := by rw [mi.ext.keep _ (by simp),HA.1]; rfl
 rw [hbx] at gx
 simp (maxSteps := 2000000) (implicitDefEqProofs := false) [-getElem?_pos,-getElem?_neg,gx]
 refine aright_ ir r.ks (rL.ext ((Ext.app _ _).trans mi.ext)) r.lL _ _ ?_
 by_cases cr : codeR rightI s.L s.lk s.uk = true
 case neg =>
  have cr' : codeR rightI s.L s.lk s.uk = false := by simpa using cr
  rw [cr']
  simp (maxSteps := 2000000) (implicitDefEqProofs := false) [-getElem?_pos,-getElem?_neg]
  exact hB (fun o => cr o.code) g ((Ext.app _ _).trans mi.ext)
 rw [cr]
 by_cases cl : s.r7.length = nn
 case neg =>
  have cl' : ¬ ((s.r7.length : Int) = nn) := by omega
  simp (maxSteps := 2000000) (implicitDefEqProofs := false) [-getElem?_pos,-getElem?_neg,gx,cl,cl']
  exact hB (fun o => cl' o.r7) g ((Ext.app _ _).trans mi.ext)
 have ok : OkX s nn := ⟨⟨c1,c2⟩,⟨c3,c4⟩,om,cr,by omega⟩
 have gxs : ∀ tl,(g ++ tl)[H.length]? = _ := fun tl => getA gx tl
 simp (maxSteps := 2000000) (implicitDefEqProofs := false) [-getElem?_pos,-getElem?_neg,gx,gxs,cl]
 have hLp : 1 ≤ s.L.length ∧ s.L.length ≤ 64 := by
  unfold codeR at cr
  simp only [Bool.and_eq_true,decide_eq_true_eq] at cr
  exact ⟨cr.1.1,cr.1.2.1⟩
 cases rL with
 | none h1 h2 h3 => omega
 | row bl capl XL h1 h2 h3 =>
  subst h1
  have gl : ∀ tl,rdRow (g ++ tl) bl = some (rowI s.L) := fun tl => by
   rw [rdRow_eq,getA (by rw [mi.ext.keep _ (by have := lt_get h2; simp; omega),List.getElem?_append_left (lt_get h2)]; exact h2) tl]
   exact h3
  refine copy_ (rowI_length s.L) (by omega) (by omega) (rowI_one s.L) (gl _) _ _ fun tl htl => ?_
  simp (maxSteps := 2000000) (implicitDefEqProofs := false) [-getElem?_pos,-getElem?_neg,gxs]
  refine ⟨by omega, ?_⟩
  rw [reps_core]
  have key := fun T0 Q e1 e2 hr => loop5 (P := Try.prog) (m := H.length) hmix (ac := lp9_0) 75 (fun k : Nat => k ≤ nn) (fun k => nn - k) (xnT g.length (.slice A7 nn C7) nn) (fun k => g ++ .cells (rowC ((mix s.r7 k).map core0)) 52 none :: .cells [.slice (some ⟨g.length + 2 + 3,0,none⟩) s.L.length (OPEN + s.L.length),.int .i64 s.lk,.int .i64 s.uk,.pointer (some ⟨m,0,none⟩),.pointer (some ⟨H.length + 1,0,none⟩),.slice (some ⟨g.length,0,none⟩) nn nn] 79 none :: tl) 0 (Nat.zero_le _) (by rw [mix_zero,cl]) (t := T0) (Q := Q) e1 e2 hr
  refine key _ _ rfl (by simp [List.forall_mem_cons,GB,xnT,cl]) ?_
  clear key
  intro k hkn _ _ _
  by_cases hlt : k < nn
  case neg =>
   obtain rfl : k = nn := by omega
   simp (maxSteps := 2000000) (implicitDefEqProofs := false) [-getElem?_pos,-getElem?_neg,xnT,lp9_0]
   have e7 : mix s.r7 k = s.r7 := by rw [← cl,mix_all]
   rw [e7]
   have htl3 : tl[3]? = some (.cells (rowI s.L) 55 (some 8)) := by
    rw [HA.1] at htl
    exact htl
   have gk : ∀ X c,c < g.length → (g ++ X)[c]? = g[c]? := fun X c hc => List.getElem?_append_left hc
   have hm1 := lt_get mi.mem.box
   have hpc := lt_get mi.cells
   have n1 := mi.new
   simp only [List.length_append,List.length_cons,List.length_nil,Nat.zero_add,Nat.reduceAdd] at n1
   have nlt : ∀ c ∈ nm vs ++ nm vb,c < g.length ∧ H.length + 2 ≤ c ∧ c ≠ m ∧ c ≠ pc := fun c hc => by
    have h1 := mi.names c hc
    simp only [List.length_append,List.length_cons,List.length_nil,Nat.zero_add,Nat.reduceAdd] at h1
    refine ⟨?_,h1⟩
    rcases List.mem_append.1 hc with hc | hc
    ·exact mi.mem.sz.lt c hc
    ·exact mi.mem.bg.lt c hc
   have en2 : s.each.toNat = en := by omega
   refine hO ok _ ⟨g.length + 1,g.length + 2 + 3,m,pc,H.length + 1,g.length,vs,vb,some 8,OPEN + s.L.length,k⟩ (((Ext.app _ _).trans mi.ext).trans (Ext.app _ _)) ⟨?_, ?_, ?_, ?_, ?_, ?_, ?_, ?_, ?_⟩ ?_
   ·rw [HA.1]
    simp only [newE,List.getElem?_cons_succ,List.getElem?_cons_zero,List.length_map,cl,Int.toNat_natCast]
   ·rw [Nat.add_assoc,HA.1]
    exact htl3
   ·refine mi.mem.keep (gk _ _ hm1) (fun c hc => gk _ _ (nlt c (List.mem_append_left _ hc)).1) (fun c hc => gk _ _ (nlt c (List.mem_append_right _ hc)).1)
   ·rw [gk _ _ hpc]
    exact mi.cells
   ·show (g ++ _)[H.length + 1]? = _
    rw [gk _ (H.length + 1) (by omega),gp]
    simp only [newE,Int.toNat_natCast,en2]
   ·rw [HA.2.1]
    simp only [newE,List.getElem?_cons_zero]
   ·simp only [List.nodup_cons,List.mem_cons,List.not_mem_nil,or_false,not_or,not_false_eq_true,List.nodup_nil,and_true]
    omega
   ·intro c hc
    have := nlt c hc
    exact ⟨this.2.2.2,by simp only; omega,by simp only; omega⟩
   ·have hcr := cr
    unfold codeR at hcr
    simp only [Bool.and_eq_true,decide_eq_true_eq] at hcr
    refine ⟨by simp only [newE]; omega,fun i hi => rightI_ok (List.all_eq_true.1 hcr.2 i hi) (r.ks i hi),fun c hc => ?_,by simp only [newE,List.length_map]; omega,r.ws,by simp only [newE]; exact om.all.symm⟩
    obtain ⟨x,hx,rfl⟩ := List.mem_map.1 hc
    exact core0_ok (r.rs x hx)
   ·intro c hc
    simp only [Nm.all,List.mem_cons] at hc
    rcases hc with rfl | rfl | rfl | rfl | rfl | rfl | hc
    all_goals first | omega | skip
    have := nlt c hc
    omega
  have hlt' : (k : Int) < nn := by omega
  cases r7 with
  | none h1 h2 h3 => omega
  | row b7 cap7 X7 h71 h72 h73 =>
   obtain ⟨rfl,rfl⟩ : A7 = some ⟨b7,0,none⟩ ∧ C7 = cap7 := by simpa using h71
   have f7 : ∀ tl,(g ++ tl)[b7]? = some X7 := fun tl => getA (by rw [mi.ext.keep _ (by have := lt_get h72; simp; omega),List.getElem?_append_left (lt_get h72)]; exact h72) tl
   obtain ⟨v,hv⟩ : ∃ v,s.r7[k]? = some v := ⟨_,List.getElem?_eq_getElem (by omega)⟩
   have hvv : (w32 s.r7)[k]? = some (.int .u32 (v : Int)) := by rw [w32_get,hv]; rfl
   have hfit : k + 1 ≤ (w32 s.r7).length := by rw [w32_length]; omega
   have hml : ((mix s.r7 k).map core0).length = nn := by simp [mix]; omega
   have hrl : (rowC ((mix s.r7 k).map core0)).length = nn * 9 := by
    rw [rowC_length,hml]
    intro c hc
    obtain ⟨x,hx,rfl⟩ := List.mem_map.1 hc
    refine core0_ok ?_
    unfold mix at hx
    rcases List.mem_append.1 hx with hx | hx
    ·exact r.rs x (List.mem_of_mem_take hx)
    ·rw [List.eq_of_mem_replicate hx]; omega
   have hfit2 : k * 9 + 7 + 1 ≤ nn * 9 := by omega
   have hset : (rowC ((mix s.r7 k).map core0)).set (k * 9 + 7) (.int .u32 (v : Int)) = rowC ((mix s.r7 (k + 1)).map core0) := by
    have h0 := mix_at (init := s.r7) (k := k) (by omega)
    rw [rowC_set7 (x := 0) (by rw [List.getElem?_map,h0]; rfl) (fun c hc => by obtain ⟨x,_,rfl⟩ := List.mem_map.1 hc; exact ⟨x,rfl⟩),← List.map_set,mix_set hv]
   have w2 : IntKind.i64.wrap ((k : Int) + 1) = (k : Int) + 1 := IntWalk.i64_in _ (by omega)
   simp (maxSteps := 2000000) (implicitDefEqProofs := false) [-getElem?_pos, -getElem?_neg, xnT, lp9_0, hlt, hlt', f7, h73, hvv, hfit, hrl, hfit2, splice_one, hset, w2]
   exact next5.intro (k + 1) (by omega) (by omega) rfl rfl (by simp [List.forall_mem_cons,GB,xnT])
end Ex
end Go.Proofs.Ytongllppbifiaaa
