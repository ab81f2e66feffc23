import Derived.Test.YtongllppbifiaaaW26
namespace Go.Proofs.Ytongllppbifiaaa
namespace Ex
open Go Abs Code
open Px (natV natV_length natV_get VecV nm u32w i64w PS poolB OkP takeH takeS takeE freeE freeS lookP takeG freeG)
set_option linter.unusedVariables false
set_option linter.unusedSimpArgs false
set_option maxRecDepth 100000
theorem takeH_lt {s : PS} (ok : OkP s) (t : Int) : takeH s t < 4294967296 := by
 unfold takeH
 split
 ·omega
 ·split
  ·rename_i h r e
   refine ok.rng h ?_
   unfold PS.all
   exact List.mem_append_left _ (List.mem_flatten.2 ⟨_,List.mem_of_getElem? e,List.mem_cons_self⟩)
  ·omega
theorem freeS_ne {s : PS} {h : Nat} (e : freeE s h ≠ 0) : freeS s h = s := by
 unfold freeE at e
 unfold freeS
 split at e
 ·exact absurd rfl e
 ·split at e
  ·rename_i h1 h2
   rw [if_pos (.inr h2)]
  ·exact absurd rfl e
structure AccOk (ws : List Nat) (r : AccR) : Prop where
 core : r.c.Ok
 len : r.ws.length = ws.length
 words : ∀ w ∈ r.ws,w < 4294967296
theorem AccOk.of {ws : List Nat} (hw : ∀ w ∈ ws, w < 4294967296) {c : Co} (hc : c.Ok) {ws' : List Nat} (h : ws' = ws ∨ ∃ a v, v < 4294967296 ∧ ws' = ws.set a v) (b1 b2 : Bool) : AccOk ws ⟨c, ws', b1, b2⟩ := by
 rcases h with rfl | ⟨a,v,hv,rfl⟩
 ·exact ⟨hc,rfl,hw⟩
 ·refine ⟨hc,by simp,fun w h => ?_⟩
  rcases List.mem_or_eq_of_mem_set h with h | rfl
  ·exact hw w h
  ·exact hv
theorem accC_ok {c : Co} (ok : c.Ok) {i : In} (iok : i.Ok) {ws : List Nat} (hw : ∀ w ∈ ws,w < 4294967296) (a : Nat) (late : Bool) : AccOk ws (accC c i ws a late) := by
 have n : c.next.Ok := Co.go_ok ok (c.pc + 1)
 have hz : (ws[a]?).getD 0 < 4294967296 := by
  cases h : ws[a]? with
  | none => simp
  | some x => exact hw x (List.mem_of_getElem? h)
 have ht := Co.at_lt ok i.t
 have hu := Co.at_lt ok i.u
 have m : ∀ x,x % 4294967296 < 4294967296 := fun x => Nat.mod_lt _ (by omega)
 unfold accC
 simp only
 refine ite_ok (P := AccOk ws) (.of hw (n.put_ok hz) (.inl rfl) _ _) (ite_ok (P := AccOk ws) (.of hw n (.inr ⟨_,_,ht,rfl⟩) _ _) (ite_ok (P := AccOk ws) (.of hw (n.put_ok hz) (.inr ⟨_,_,ht,rfl⟩) _ _) (ite_ok (P := AccOk ws) (ite_ok (P := AccOk ws) (.of hw (n.put_ok (by omega)) (.inr ⟨_,_,hu,rfl⟩) _ _) (.of hw (n.put_ok (by omega)) (.inl rfl) _ _)) (ite_ok (P := AccOk ws) (.of hw (n.put_ok hz) (.inr ⟨_,_,m _,rfl⟩) _ _) (ite_ok (P := AccOk ws) (.of hw (n.put_ok hz) (.inl rfl) _ _) (ite_ok (P := AccOk ws) (.of hw (ok.put_ok hz) (.inl rfl) _ _) (.of hw (Co.go_ok (ok.put_ok hz) _) (.inl rfl) _ _)))))))
theorem XAt.ne {g : AH} {N : Nm} {s : ES PS} (r : XAt g N s) : N.p ≠ N.x ∧ N.p ≠ N.bL ∧ N.p ≠ N.m ∧ N.p ≠ N.pc ∧ N.p ≠ N.bc ∧ N.pc ≠ N.x ∧ N.pc ≠ N.bL ∧ N.pc ≠ N.m ∧ N.pc ≠ N.bc := by
 have nd := r.nd
 simp only [List.nodup_cons,List.mem_cons,List.not_mem_nil,or_false,not_or] at nd
 obtain ⟨⟨_,_,a1,a2,_⟩,⟨_,b1,b2,_⟩,⟨c1,c2,_⟩,⟨d1,d2⟩,e1,_⟩ := nd
 exact ⟨fun h => a2 h.symm,fun h => b2 h.symm,fun h => c2 h.symm,fun h => d1 h.symm,e1,fun h => a1 h.symm,fun h => b1 h.symm,fun h => c1 h.symm,d2⟩
theorem XAt.setP {g g' : AH} {N : Nm} {s : ES PS} (r : XAt g N s) (pl : PS) (hk : ∀ c ∈ N.all,c ≠ N.p → g'[c]? = g[c]?) (hp : g'[N.p]? = some (poolB pl)) : XAt g' N { s with pl := pl } := by
 obtain ⟨n1,n2,n3,n4,n5,_⟩ := r.ne
 have hm : ∀ c,c ∈ N.all ↔ c = N.x ∨ c = N.bL ∨ c = N.m ∨ c = N.pc ∨ c = N.p ∨ c = N.bc ∨ c ∈ nm N.vs ∨ c ∈ nm N.vb := fun c => by simp [Nm.all]
 exact ⟨by rw [hk _ ((hm _).2 (by simp)) n1.symm]; exact r.box,by rw [hk _ ((hm _).2 (by simp)) n2.symm]; exact r.code,r.mem.keep (hk _ ((hm _).2 (by simp)) n3.symm) (fun c hc => hk c ((hm c).2 (by simp [hc])) (r.vn c (List.mem_append_left _ hc)).2.1) (fun c hc => hk c ((hm c).2 (by simp [hc])) (r.vn c (List.mem_append_right _ hc)).2.1),by rw [hk _ ((hm _).2 (by simp)) n4.symm]; exact r.cells,hp,by rw [hk _ ((hm _).2 (by simp)) n5.symm]; exact r.cores,r.nd,r.vn,⟨r.ok.len,r.ok.ins,r.ok.cores,r.ok.few,r.ok.words,r.ok.sum⟩⟩
theorem XAt.setW {g g' : AH} {N : Nm} {s : ES PS} (r : XAt g N s) {ws : List Nat} (hl : ws.length = s.ws.length) (hw : ∀ w ∈ ws,w < 4294967296) (hk : ∀ c ∈ N.all,c ≠ N.pc → g'[c]? = g[c]?) (hp : g'[N.pc]? = some (cellsB ws)) : XAt g' N { s with ws := ws } := by
 obtain ⟨_,_,_,n4,_,n1,n2,n3,n5⟩ := r.ne
 have hm : ∀ c,c ∈ N.all ↔ c = N.x ∨ c = N.bL ∨ c = N.m ∨ c = N.pc ∨ c = N.p ∨ c = N.bc ∨ c ∈ nm N.vs ∨ c ∈ nm N.vb := fun c => by simp [Nm.all]
 exact ⟨by rw [hk _ ((hm _).2 (by simp)) n1.symm]; exact r.box,by rw [hk _ ((hm _).2 (by simp)) n2.symm]; exact r.code,r.mem.keep (hk _ ((hm _).2 (by simp)) n3.symm) (fun c hc => hk c ((hm c).2 (by simp [hc])) (r.vn c (List.mem_append_left _ hc)).1) (fun c hc => hk c ((hm c).2 (by simp [hc])) (r.vn c (List.mem_append_right _ hc)).1),hp,by rw [hk _ ((hm _).2 (by simp)) n4]; exact r.pool,by rw [hk _ ((hm _).2 (by simp)) n5.symm]; exact r.cores,r.nd,r.vn,⟨r.ok.len,r.ok.ins,r.ok.cores,r.ok.few,hw,by rw [hl]; exact r.ok.sum⟩⟩
theorem outIs_lift2 {H G : AH} {N : Nm} {s' : ES PS} {o : OutR} {K : Value → AH → Prop} (hall : ∀ y ∈ N.all,y < H.length) (hK : OutIs H N s' o K) (uG : Upd N.all H N.all G) {g : AH} {vm : Value} (rg : XAt g N s') (u : Upd N.all G N.all g) (hv : VecV g vm (natV o.ms) tI) (hnm : ∀ c ∈ nm vm,G.length ≤ c) {b : Nat} (hb : H.length ≤ b) (hb2 : b < G.length) (X : ABlk) : K (outV vm o) (g.set b X) := by
 have hl := u.len
 have hl2 := uG.len
 refine hK _ _ (rg.keep fun y hy => ?_) ⟨by rw [List.length_set]; omega,fun y hy hn => ?_,fun y hy => .inl hy⟩ (hv.keep fun y hy _ => ?_) fun y hy => ?_
 ·have := hall y hy
  rw [List.getElem?_set_ne (by omega)]
 ·rw [List.getElem?_set_ne (by omega),u.keep y (by omega) hn,uG.keep y hy hn]
 ·have := hnm y hy
  rw [List.getElem?_set_ne (by omega)]
 ·have := hnm y hy
  omega
theorem sum_take_lt {ns : List Nat} {k n : Nat} (h : ns[k]? = some n) : (ns.take k).sum + n ≤ ns.sum := by
 induction ns generalizing k with
 | nil => simp at h
 | cons m ns ih =>
  cases k with
  | zero => simp at h; subst h; simp
  | succ k =>
   have := ih (k := k) (by simpa using h)
   simp only [List.take_succ_cons,List.sum_cons]
   omega
theorem addrM_lt {ns : List Nat} {a : Int} {v x : Nat} (h : addrM ns a v = some x) : x < ns.sum := by
 unfold addrM at h
 split at h
 ·cases h
 ·split at h
  ·rename_i n hn
   split at h
   ·cases h
    have := sum_take_lt hn
    omega
   ·cases h
  ·cases h
theorem accC_stay {c : Co} {i : In} {ws : List Nat} {a : Nat} {late : Bool} (h : (accC c i ws a late).stay = true) : (accC c i ws a late).ws = ws := by
 unfold accC at h ⊢
 simp only at h ⊢
 by_cases h1 : i.op = 16
 ·rw [if_pos h1] at h; cases h
 rw [if_neg h1] at h ⊢
 by_cases h1 : i.op = 17
 ·rw [if_pos h1] at h; cases h
 rw [if_neg h1] at h ⊢
 by_cases h1 : i.op = 18
 ·rw [if_pos h1] at h; cases h
 rw [if_neg h1] at h ⊢
 by_cases h1 : i.op = 19
 ·rw [if_pos h1] at h
  split at h <;> cases h
 rw [if_neg h1] at h ⊢
 by_cases h1 : i.op = 20
 ·rw [if_pos h1] at h; cases h
 rw [if_neg h1] at h ⊢
 split
 ·rfl
 ·split <;> rfl
end Ex
end Go.Proofs.Ytongllppbifiaaa
namespace Go.Proofs.Ytongllppbifiaaa
namespace Ex
open Go Abs Code
open Px (natV natV_length natV_get VecV nm u32w i64w PS poolB OkP takeH takeS takeE freeE freeS lookP takeG freeG)
attribute [local simp] DN5 HA DN NB begT atHead kd wantedA evP evR evF evL evC evI evBin evUn evEq evSt evRes plain scp scpA scpL rdRow_eq RV rdCells veq veqA veqL isHole Value.cells evalL optI evBounds evFill evFillR evApp newsOf wrCells one1 fitsApp evClr undef onB_bool List.getElem?_concat_length List.getElem?_cons_zero List.getElem?_cons_succ List.getElem?_toArray List.getElem?_nil List.set_cons_zero List.set_cons_succ List.cons_append List.nil_append
set_option linter.unusedVariables false
set_option linter.unusedSimpArgs false
set_option maxRecDepth 100000
abbrev zeroO : List Value := [.slice none 0 0,.int .i64 0,.int .i64 0,.bool false,.bool false,.int .i64 0]
abbrev trapL : List Value := [.slice none 0 0,.int .i64 (-1),.int .i64 (-1),.bool false,.bool false,.int .i64 11]
abbrev oB (l : List Value) : ABlk := .cells l 46 none
set_option maxHeartbeats 8000000 in
theorem xstep_ {H : AH} {N : Nm} {s : ES PS} (r : XAt H N s) (okp : OkP s.pl) (t : Nat) (ht : t < s.cs.length) (late : Bool) {K : Value → AH → Prop} (hK : OutIs H N (stepX opsP s t late).1 (stepX opsP s t late).2 K) :
  AC Try.prog 12 [.pointer (some ⟨N.x,0,none⟩),.int .i64 t,.bool late] H K := by
 refine entry hmix cf12 ?_
 have hall := r.lt
 have f0 : ∀ tl,(H ++ tl)[N.x]? = _ := fun tl => getA r.box tl
 have f1 : ∀ tl,(H ++ tl)[N.bc]? = _ := fun tl => getA r.cores tl
 have f2 : ∀ tl,(H ++ tl)[N.bL]? = _ := fun tl => getA r.code tl
 obtain ⟨c,hc⟩ : ∃ c,s.cs[t]? = some c := ⟨_,List.getElem?_eq_getElem ht⟩
 have cok := r.ok.cores c (List.mem_of_getElem? hc)
 have hcl := cs_length cok.len
 have hct := cs_take cok.len
 have hone := cs_one c
 have hrow := rowC_at r.ok.cores hc
 have hfit : t * 9 + 9 ≤ (rowC s.cs).length := by rw [rowC_length r.ok.cores]; omega
 have htl : (t : Int) < s.cs.length := by omega
 have hsp : splice zero9 0 c.cs = c.cs := cs_splice cok.len rfl
 have hpc := cs_pc cok.len
 have trapE : stepX opsP s t late = (s,trapO) → ∀ tl : AH,K (.agg trapL.toArray) (H ++ tl) := by
  intro e tl
  rw [e] at hK
  exact hK _ (.slice none 0 0) (r.ext (Ext.app _ _)) ⟨by simp,fun y hy _ => List.getElem?_append_left hy,fun y hy => .inl hy⟩ (.nil rfl rfl) (fun y hy => by cases hy)
 have trap : fetch s.L c.pc = none ∨ (∃ i,fetch s.L c.pc = some i ∧ i.op < 16) → ∀ X Y Z : ABlk,K (.agg trapL.toArray) (H ++ [X,Y,Z]) := by
  intro h X Y Z
  refine trapE ?_ _
  unfold stepX
  rw [hc]
  rcases h with h | ⟨i,h,h2⟩
  ·simp only [h]
  ·simp only [h,if_pos h2]
 by_cases p0 : c.pc < 0
 ·have := trap (.inl (by unfold fetch; rw [if_pos p0]))
  simp (maxSteps := 2000000) (implicitDefEqProofs := false) [-getElem?_pos,-getElem?_neg,f0,f1,hrow,hfit,ht,htl,hcl,hct,hone,hsp,hpc,p0,splice_more]
  exact this _ _ _
 have p0' : 0 ≤ c.pc := by omega
 by_cases p1 : (s.L.length : Int) ≤ c.pc
 ·have := trap (.inl (by unfold fetch; rw [if_neg p0]; exact List.getElem?_eq_none (by omega)))
  simp (maxSteps := 2000000) (implicitDefEqProofs := false) [-getElem?_pos,-getElem?_neg,f0,f1,hrow,hfit,ht,htl,hcl,hct,hone,hsp,hpc,p0,p1,splice_more]
  exact this _ _ _
 have p1' : ¬ (s.L.length : Int) ≤ c.pc := p1
 obtain ⟨k,hk⟩ : ∃ k : Nat,c.pc = k := ⟨c.pc.toNat,by omega⟩
 have hkl : k < s.L.length := by omega
 obtain ⟨i,hi⟩ : ∃ i,s.L[k]? = some i := ⟨_,List.getElem?_eq_getElem hkl⟩
 have hf : fetch s.L c.pc = some i := by unfold fetch; rw [if_neg p0,hk]; exact hi
 have iok := r.ok.ins i (List.mem_of_getElem? hi)
 have hrd := rowI_at hi
 have hfit2 : k * 8 + 8 ≤ (rowI s.L).length := by rw [rowI_length]; omega
 have hkl' : (k : Int) < s.L.length := by omega
 have hk0 : ¬ (k : Int) < 0 := by omega
 have hk1 : ¬ (s.L.length : Int) ≤ k := by omega
 have hk2 : ¬ s.L.length ≤ k := by omega
 have hk64 : k < 64 := by have := r.ok.len; omega
 rw [hk] at hpc
 simp (maxSteps := 2000000) (implicitDefEqProofs := false) [-getElem?_pos, -getElem?_neg, f0, f1, f2, hrow, hfit, ht, htl, hcl, hct, hone, hsp, hpc, hrd, hfit2, hkl, hkl', hk0, hk1, hk2, splice_more]
 refine memory_ i _ ?_
 by_cases c16 : 16 ≤ i.op
 case neg =>
  have := trap (.inr ⟨i,hf,by omega⟩)
  have e : decide (16 ≤ i.op ∧ i.op ≤ 23) = false := by simp; omega
  rw [e]
  simp (maxSteps := 2000000) (implicitDefEqProofs := false) [-getElem?_pos,-getElem?_neg,splice_more]
  exact this _ _ _
 have e : decide (16 ≤ i.op ∧ i.op ≤ 23) = true := by have := iok.op; simp; omega
 rw [e]
 clear e
 have nl : c.next.r.length = 8 := cok.len
 have wpc : IntKind.i64.wrap ((k : Int) + 1) = (k : Int) + 1 := IntWalk.i64_in _ (by omega)
 have s8 : c.cs.set 8 (.int .i64 ((k : Int) + 1)) = c.next.cs := by rw [← hk]; exact cs_set8 cok.len _
 obtain ⟨d1,d2⟩ := iok.d
 obtain ⟨s1,s2⟩ := iok.s
 obtain ⟨a1,a2⟩ := iok.a
 have gs := cs_get nl iok.s
 have atn : c.next.at i.s = c.at i.s := rfl
 rw [atn] at gs
 have hput := fun v : Nat => cs_put nl iok.d v
 have nlc := cs_length nl
 have plc := fun v : Nat => cs_length (put_len nl i.d v)
 have plt := fun v : Nat => cs_take (put_len nl i.d v)
 have d3 : i.d ≤ 8 := by omega
 have s3 : i.s ≤ 8 := by omega
 simp (maxSteps := 2000000) (implicitDefEqProofs := false) [-getElem?_pos, -getElem?_neg, gs, s1, s2, s3, d1, d2, d3, nlc, f0, f1, f2, hrow, hfit, ht, htl, hcl, hct, hone, hsp, hpc, hrd, hfit2, hkl, hkl', hk0, hk1, hk2, splice_more, wpc, s8, In.vs]
 have q1 : ∀ c : Co,c.v = .agg c.cs.toArray := fun _ => rfl
 have fin : ∀ {K2 : Value → AH → Prop} (G : AH) (s2 : ES PS) (c2 : Co) (ad : Int) (wr : Bool),XAt G N s2 → t < s2.cs.length → c2.Ok → Upd N.all H N.all G → G[H.length]? = some (oB zeroO) → stepX opsP s t late = goOn s2 t c2 ad wr → (∀ g vm,VecV g vm (natV (goOn s2 t c2 ad wr).2.ms) tI → g[H.length]? = some (oB zeroO) → (∀ X,K (outV vm (goOn s2 t c2 ad wr).2) (g.set H.length X)) → K2 (outV vm (goOn s2 t c2 ad wr).2) g) → AC Try.prog 26 [.pointer (some ⟨N.x,0,none⟩),.int .i64 t,.agg c2.cs.toArray,.agg #[.slice none 0 0,.int .i64 0,.int .i64 ad,.bool wr,.bool false,.int .i64 0]] G K2 := by
  intro K2 G s2 c2 ad wr r2 ht2 ok2 uG hG e hk2
  rw [e] at hK
  refine xrun_ r2 t ht2 c2 ok2 ad wr ?_
  intro g vm rg u hv hnm
  have hn : H.length ∉ N.all := fun h => Nat.lt_irrefl _ (hall _ h)
  exact hk2 g vm hv (u.get hG hn) fun X => outIs_lift2 hall hK uG rg u hv hnm (Nat.le_refl _) (lt_get hG) X
 have last : ∀ g vm ms,VecV g vm (natV ms) tI → ∃ A L C,vm = .slice A L C := fun g vm ms hv => hv.slice
 have lx := hall N.x (by simp [Nm.all])
 have lp := hall N.p (by simp [Nm.all])
 have lc := hall N.pc (by simp [Nm.all])
 have lb := hall N.bc (by simp [Nm.all])
 obtain ⟨n1,n2,n3,n4,n5,n6,n7,n8,n9⟩ := r.ne
 have f3 : ∀ tl,(H ++ tl)[N.p]? = _ := fun tl => getA r.pool tl
 have f4 : ∀ tl,(H ++ tl)[N.m]? = _ := fun tl => getA r.mem.box tl
 have f5 : ∀ tl,(H ++ tl)[N.pc]? = _ := fun tl => getA r.cells tl
 have v0 : (N.p = H.length) = False := by simp; omega
 have v1 : (N.p = H.length + 1) = False := by simp; omega
 have v2 : (N.p = H.length + 2) = False := by simp; omega
 have v3 : (N.p = H.length + 3) = False := by simp; omega
 have v4 : (N.p = H.length + 4) = False := by simp; omega
 have w0 : (H.length + 1 = N.x) = False := by simp; omega
 have w1 : (H.length + 1 = N.p) = False := by simp; omega
 have w3 : (H.length + 1 = N.bc) = False := by simp; omega
 have w4 : (H.length + 4 = N.x) = False := by simp; omega
 have z0 : (H.length + 1 = H.length) = False := by simp
 have z1 : (H.length + 1 = H.length + 4) = False := by simp
 have z3 : (H.length + 1 = H.length + 3) = False := by simp
 have z4 : (H.length + 4 = H.length + 1) = False := by simp
 have z5 : (H.length + 4 = H.length) = False := by simp
 have z6 : (H.length + 4 = H.length + 3) = False := by simp
 have y0 : (N.p = N.x) = False := by simp; omega
 have y1 : (N.p = N.bc) = False := by simp; omega
 have y2 : (N.p = N.m) = False := by simp; omega
 have y3 : (H.length + 1 = H.length + 2) = False := by simp
 have m0 : H.length < H.length + 5 := by omega
 have m1 : H.length + 1 < H.length + 5 := by omega
 have m4 : H.length + 4 < H.length + 5 := by omega
 have nct := cs_take nl
 have nok : c.next.Ok := Co.go_ok cok _
 have uT : ∀ T : AH,Upd N.all H N.all (H ++ T) := fun T => ⟨by simp,fun y hy _ => List.getElem?_append_left hy,fun y hy => .inl hy⟩
 have n16 : ¬ i.op < 16 := by omega
 by_cases c22 : i.op = 22
 ·rw [if_pos c22]
  obtain ⟨v,hv⟩ : ∃ v,takeH s.pl t = v := ⟨_,rfl⟩
  have hv32 : v < 4294967296 := by rw [← hv]; exact takeH_lt okp t
  have est : stepX opsP s t late = goOn { s with pl := takeS s.pl t } t (c.next.put i.d v) (-1) false := by
   unfold stepX
   rw [hc]
   simp only [hf]
   rw [if_neg n16,if_pos c22]
   simp only [opsP,hv]
  refine takeG t (f3 _) ?_
  rw [hv]
  simp (maxSteps := 2000000) (implicitDefEqProofs := false) [-getElem?_pos,-getElem?_neg,f0,f1,f2,f3,f4,f5,hrow,hfit,ht,htl,hcl,hct,hone,hsp,hpc,splice_more,setNe,setEq,v0,v1,v2,v3,v4,w0,w1,w3,w4,z0,z1,z3,z4,z5,z6,y0,y1,y2,y3,m0,m1,m4,List.length_set,List.length_append,List.length_cons,List.length_nil,nlc,gs,hput,plc,plt,d1,d2,d3,s1,s2,s3,a1,a2]
  refine fin _ { s with pl := takeS s.pl t } (c.next.put i.d v) (-1) false ?_ ht (nok.put_ok hv32) ?_ ?_ est ?_
  ·refine XAt.setP r (takeS s.pl t) (fun y hy hn => ?_) ?_
   ·have hy2 := hall y hy
    rw [List.getElem?_set_ne (by omega),List.getElem?_set_ne (fun h => hn h.symm),List.getElem?_append_left hy2]
   ·simp only [setNe,setEq,w1,List.length_append,List.length_cons,List.length_nil,List.length_set]
    rw [setEq (by simp; omega)]
  ·refine ⟨by simp,fun y hy hn => ?_,fun y hy => .inl hy⟩
   rw [List.getElem?_set_ne (by omega),List.getElem?_set_ne (fun h => hn (by rw [← h]; simp [Nm.all])),List.getElem?_append_left hy]
  ·simp only [setNe,z0,v0,HA]
   rfl
  ·intro g vm hvv h0 hk
   obtain ⟨A9,L9,C9,rfl⟩ := last g vm _ hvv
   have hgl := lt_get h0
   have hs0 : ∀ X,(g.set H.length X)[H.length]? = some X := fun X => List.getElem?_set_self hgl
   unfold outV at hk ⊢
   simp (maxSteps := 2000000) (implicitDefEqProofs := false) [-getElem?_pos,-getElem?_neg,h0,hs0,splice_more]
   exact hk _
 rw [if_neg c22]
 by_cases c23 : i.op = 23
 ·rw [if_pos c23]
  refine freeG (c.at i.s) (Co.at_lt cok i.s) (f3 _) ?_
  by_cases ef : freeE s.pl (c.at i.s) = 0
  case neg =>
   have est : stepX opsP s t late = (s,trapO) := by
    unfold stepX
    rw [hc]
    simp only [hf]
    rw [if_neg n16,if_neg c22,if_pos c23]
    exact if_neg ef
   have tr := trapE est
   rw [freeS_ne ef,set_same (f3 _)]
   have ef' : (freeE s.pl (c.at i.s) == 0) = false := by simpa using ef
   simp (maxSteps := 2000000) (implicitDefEqProofs := false) [-getElem?_pos, -getElem?_neg, ef, ef', splice_more]
   exact tr _
  have est : stepX opsP s t late = goOn { s with pl := freeS s.pl (c.at i.s) } t c.next (-1) false := by
   unfold stepX
   rw [hc]
   simp only [hf]
   rw [if_neg n16,if_neg c22,if_pos c23]
   exact if_pos ef
  simp (maxSteps := 2000000) (implicitDefEqProofs := false) [-getElem?_pos,-getElem?_neg,f0,f1,f2,f3,f4,f5,hrow,hfit,ht,htl,hcl,hct,hone,hsp,hpc,splice_more,setNe,setEq,v0,v1,v2,v3,v4,w0,w1,w3,w4,z0,z1,z3,z4,z5,z6,y0,y1,y2,y3,m0,m1,m4,List.length_set,List.length_append,List.length_cons,List.length_nil,nlc,gs,hput,plc,plt,d1,d2,d3,s1,s2,s3,a1,a2,ef,nct]
  refine fin _ { s with pl := freeS s.pl (c.at i.s) } c.next (-1) false ?_ ht nok ?_ ?_ est ?_
  ·refine XAt.setP r (freeS s.pl (c.at i.s)) (fun y hy hn => ?_) ?_
   ·have hy2 := hall y hy
    rw [List.getElem?_set_ne (fun h => hn h.symm),List.getElem?_append_left hy2]
   ·rw [setEq (by simp; omega)]
  ·refine ⟨by simp,fun y hy hn => ?_,fun y hy => .inl hy⟩
   rw [List.getElem?_set_ne (fun h => hn (by rw [← h]; simp [Nm.all])),List.getElem?_append_left hy]
  ·simp only [setNe,z0,v0,HA]
   rfl
  ·skip
   intro g vm hvv h0 hk
   obtain ⟨A9,L9,C9,rfl⟩ := last g vm _ hvv
   have hgl := lt_get h0
   have hs0 : ∀ X,(g.set H.length X)[H.length]? = some X := fun X => List.getElem?_set_self hgl
   unfold outV at hk ⊢
   simp (maxSteps := 2000000) (implicitDefEqProofs := false) [-getElem?_pos,-getElem?_neg,h0,hs0,splice_more]
   exact hk _
 rw [if_neg c23]
 refine address_ (r.ext (Ext.app H _)).mem i.a (c.at i.s) (Co.at_lt cok i.s) ?_
 cases ha : addrM s.ns i.a (c.at i.s) with
 | none =>
  have est : stepX opsP s t late = (s,trapO) := by
   unfold stepX
   rw [hc]
   simp only [hf]
   rw [if_neg n16,if_neg c22,if_neg c23,ha]
  have tr := trapE est
  unfold addrV
  simp (maxSteps := 2000000) (implicitDefEqProofs := false) [-getElem?_pos,-getElem?_neg,splice_more]
  exact tr _
 | some a =>
  have hal : a < s.ws.length := by rw [r.ok.sum]; exact addrM_lt ha
  unfold addrV
  simp only
  simp (maxSteps := 2000000) (implicitDefEqProofs := false) [-getElem?_pos,-getElem?_neg,f0,f1,f2,f3,f4,f5,hrow,hfit,ht,htl,hcl,hct,hone,hsp,hpc,splice_more,setNe,setEq,v0,v1,v2,v3,v4,w0,w1,w3,w4,z0,z1,z3,z4,z5,z6,y0,y1,y2,y3,m0,m1,m4,List.length_set,List.length_append,List.length_cons,List.length_nil,nlc,gs,hput,plc,plt,d1,d2,d3,s1,s2,s3,a1,a2,nct]
  obtain ⟨T,hT⟩ : ∃ T : AH,T = [oB zeroO,.cells c.next.cs 52 none,oB trapL,.cells [.int .i64 i.op,.int .i64 i.d,.int .i64 i.s,.int .i64 i.t,.int .i64 i.u,.int .i64 i.a,.int .u32 i.k,.int .i64 i.to] 55 none,oB [.slice none 0 0,.int .i64 0,.int .i64 a,.bool false,.bool false,.int .i64 0]] := ⟨_,rfl⟩
  have hTl : T.length = 5 := by rw [hT]; rfl
  have acc := accC_ok cok iok r.ok.words a late
  have stq := fun h => accC_stay (c := c) (i := i) (ws := s.ws) (a := a) (late := late) h
  have hop := iok.op
  refine access_ (b := H.length + 1) (b2 := H.length + 4) (r.ext (Ext.app H _)) (fun h => by have := hall _ h; omega) (fun h => by have := hall _ h; omega) (by omega) c cok (by omega) i iok (by omega) a hal late (by rw [HA.1]; rfl) (by rw [HA.1]; rfl) ?_
  rw [← hT]
  obtain ⟨⟨Rc,Rws,Rwr,Rst⟩,hR⟩ : ∃ R,accC c i s.ws a late = R := ⟨_,rfl⟩
  rw [hR] at acc stq ⊢
  obtain ⟨ok1,ln1,wd1⟩ := acc
  simp only at ok1 ln1 wd1 stq ⊢
  rintro g ⟨g1,g2,g3,gk,gl⟩
  have hHT : (H ++ T).length = H.length + 5 := by rw [List.length_append,hTl]
  rw [hHT] at gl gk
  have gH : ∀ y,y < H.length → y ≠ N.pc → g[y]? = H[y]? := fun y hy hn => by rw [gk y (by omega) (by omega) (by omega) hn,List.getElem?_append_left hy]
  have rg : XAt g N { s with ws := Rws } := r.setW ln1 wd1 (fun y hy hn => gH y (hall y hy) hn) g3
  have ug : Upd N.all H N.all g := ⟨by omega,fun y hy hn => gH y hy (fun e => hn (by rw [e]; simp [Nm.all])),fun y hy => .inl hy⟩
  have g0 : g[H.length]? = some (oB zeroO) := by
   rw [gk _ (by omega) (by omega) (by omega) (by omega),HA.2.1,hT]
   rfl
  have ocl := cs_length ok1.len
  have oct := cs_take ok1.len
  have oone := cs_one Rc
  cases Rst with
  | false =>
   have est : stepX opsP s t late = goOn { s with ws := Rws } t Rc a Rwr := by
    unfold stepX
    rw [hc]
    simp only [hf]
    rw [if_neg n16,if_neg c22,if_neg c23,ha]
    simp only [hR]
    rfl
   simp (maxSteps := 2000000) (implicitDefEqProofs := false) [-getElem?_pos,-getElem?_neg,g0,g1,g2,ocl,oct,oone,splice_more]
   refine fin _ { s with ws := Rws } Rc a Rwr rg ht ok1 ug g0 est ?_
   skip
   intro g vm hvv h0 hk
   obtain ⟨A9,L9,C9,rfl⟩ := last g vm _ hvv
   have hgl := lt_get h0
   have hs0 : ∀ X,(g.set H.length X)[H.length]? = some X := fun X => List.getElem?_set_self hgl
   unfold outV at hk ⊢
   simp (maxSteps := 2000000) (implicitDefEqProofs := false) [-getElem?_pos,-getElem?_neg,h0,hs0,splice_more]
   exact hk _
  | true =>
   have ew : Rws = s.ws := stq rfl
   subst ew
   have est : stepX opsP s t late = ({ s with cs := s.cs.set t Rc },⟨[],-1,a,Rwr,true,0⟩) := by
    unfold stepX
    rw [hc]
    simp only [hf]
    rw [if_neg n16,if_neg c22,if_neg c23,ha]
    simp only [hR]
    rfl
   rw [est] at hK
   have bx := rg.box
   have cx := rg.cores
   simp only at bx cx
   have rs := rg.setC (t := t) Rc ok1
   have hrs := rowC_set r.ok.cores ht ok1
   have x0 : (N.bc = H.length) = False := by simp; omega
   have x1 : (N.bc = H.length + 1) = False := by simp; omega
   have x4 : (N.bc = H.length + 4) = False := by simp; omega
   have hgl0 : H.length < g.length := by omega
   have fin2 : ∀ X,K (.agg #[.slice none 0 0,.int .i64 (-1),.int .i64 a,.bool Rwr,.bool true,.int .i64 0]) ((g.set N.bc (.cells (rowC (s.cs.set t Rc)) 52 none)).set H.length X) := fun X => by
    refine hK _ (.slice none 0 0) (rs.keep fun y hy => ?_) ⟨by simp; omega,fun y hy hn => ?_,fun y hy => .inl hy⟩ (.nil rfl rfl) (fun y hy => by cases hy)
    ·have := hall y hy
     rw [List.getElem?_set_ne (by omega)]
    ·rw [List.getElem?_set_ne (by omega),List.getElem?_set_ne (fun e => hn (by rw [← e]; simp [Nm.all])),ug.keep y hy hn]
   simp (maxSteps := 2000000) (implicitDefEqProofs := false) [-getElem?_pos,-getElem?_neg,g0,g1,g2,ocl,oct,oone,splice_more,bx,cx,htl,hfit,ht,hrs,setNe,setEq,x0,x1,x4,hgl0,List.length_set]
   exact fin2 _
end Ex
end Go.Proofs.Ytongllppbifiaaa
