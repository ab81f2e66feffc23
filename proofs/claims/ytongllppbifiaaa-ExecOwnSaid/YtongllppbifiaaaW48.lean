import Derived.Test.YtongllppbifiaaaW47
namespace Go.Proofs.Ytongllppbifiaaa
namespace Ex
open Go Abs Code
open Px (natV natV_length natV_get VecV nm u32w i64w XS RepP takeR takeRS takeRE backE backRS reftake_ rback_)
attribute [local simp] DN5 HA DN NB begT atHead kd wantedA evP evR evF evL evC evI evBin evUn evEq evSt evRes plain scp scpA scpL rdRow_eq RV rdCells veq veqA veqL isHole Value.cells evalL optI evBounds evFill evFillR evApp newsOf wrCells one1 fitsApp evClr undef onB_bool List.getElem?_concat_length List.getElem?_cons_zero List.getElem?_cons_succ List.getElem?_toArray List.getElem?_nil List.set_cons_zero List.set_cons_succ List.cons_append List.nil_append
set_option linter.unusedVariables false
set_option linter.unusedSimpArgs false
set_option maxRecDepth 100000
theorem RepP.nodup {g : AH} {b : Nat} {ns : List Nat} {s : XS} (r : RepP g b ns s) : ns.Nodup := by
 cases r with
 | zero bF e r =>
  subst e
  have : b ≠ bF := fun h => by
   subst h
   have := r.h0.symm.trans r.hF
   simp at this
  simp [this]
 | more bF bG bO bs fv e r => subst e; exact r.nd
theorem takeR_u32 {x : XS} (ok : Px.OkX x) (t : Int) : takeR x t < 4294967296 := by
 unfold takeR
 split
 ·omega
 ·split
  ·rename_i n _ hq
   have hn := (ok.nodes _ _ hq).2 n List.mem_cons_self
   have := ok.small
   have := ok.lens
   unfold XS.han Px.hOf
   cases hg : x.gen[n - 1]? with
   | none => simp; omega
   | some g =>
    have := ok.gens g (List.mem_of_getElem? hg)
    simp
    omega
  ·omega
theorem RAt.setP {g g' : AH} {N : NmR} {s : ES XS} (r : RAt g N s) {pl : XS} {ps : List Nat} (hp : RepP g' N.p ps pl) (u : Upd N.ps g ps g') : RAt g' { N with ps := ps } { s with pl := pl } ∧ Upd N.all g (NmR.all { N with ps := ps }) g' := by
 have a := r.apart
 have hl := r.lt
 have m := fun c => NmR.mem (N := N) (c := c)
 have kp : ∀ c,c ∈ N.all → c ∉ N.ps → g'[c]? = g[c]? := fun c hc hn => u.keep c (hl c hc) hn
 have nb : N.y ∉ N.ps := fun h => (a.ps _ h).1 rfl
 have nL : N.bL ∉ N.ps := fun h => (a.ps _ h).2.1 rfl
 have nc : N.bc ∉ N.ps := fun h => (a.ps _ h).2.2.1 rfl
 have nC : ∀ c ∈ nm N.vC,c ∉ N.ps := fun c hc h => (a.ps c h).2.2.2.1 hc
 have nW : ∀ c ∈ nm N.vW,c ∉ N.ps := fun c hc h => (a.ps c h).2.2.2.2 hc
 have fr : ∀ c ∈ ps,c ∈ N.ps ∨ g.length ≤ c := fun c hc => (u.new c hc).imp id And.left
 have old : ∀ c,c ∈ N.all → c ∉ N.ps → c ∉ ps := fun c hc hn h => by
  rcases fr c h with h | h
  ·exact hn h
  ·have := hl c hc; omega
 refine ⟨⟨by rw [kp _ ((m _).2 (by simp)) nb]; exact r.box,by rw [kp _ ((m _).2 (by simp)) nL]; exact r.code,r.cells.keep fun c hc _ => kp c ((m c).2 (by simp [hc])) (nC c hc),r.words.keep fun c hc _ => kp c ((m c).2 (by simp [hc])) (nW c hc),hp,by rw [kp _ ((m _).2 (by simp)) nc]; exact r.cores, ?_,r.few,⟨r.ok.len,r.ok.ins,r.ok.cores,r.ok.few,r.ok.words,r.ok.sum⟩⟩,u.len,fun c hc hn => u.keep c hc fun h => hn ((m c).2 (by simp [h])),fun c hc => ?_⟩
 ·have nd := r.nd
  unfold NmR.all at nd ⊢
  simp only [List.nodup_cons,List.mem_cons,List.mem_append,not_or,List.nodup_append] at nd ⊢
  obtain ⟨⟨n1,n2,n3,n4,n5⟩,⟨n6,n7,n8,n9⟩,⟨n10,n11,n12⟩,n13,⟨n14,n15,n16⟩,n17⟩ := nd
  refine ⟨⟨n1,n2,n3,n4,old _ ((m _).2 (by simp)) nb⟩,⟨n6,n7,n8,old _ ((m _).2 (by simp)) nL⟩,⟨n10,n11,old _ ((m _).2 (by simp)) nc⟩,n13,⟨n14,RepP.nodup hp,fun x hx y hy e => ?_⟩,fun x hx y hy e => ?_⟩
  ·subst e; exact old x ((m x).2 (by simp [hx])) (nW x hx) hy
  ·subst e
   rcases hy with hy | hy
   ·exact n17 x hx x (.inl hy) rfl
   ·exact old x ((m x).2 (by simp [hx])) (nC x hx) hy
 ·rcases NmR.mem.1 hc with h | h | h | h | h | h
  ·exact .inl ((m c).2 (by simp at h; simp [h]))
  ·exact .inl ((m c).2 (by simp at h; simp [h]))
  ·exact .inl ((m c).2 (by simp at h; simp [h]))
  ·exact .inl ((m c).2 (by simp at h; simp [h]))
  ·exact .inl ((m c).2 (by simp at h; simp [h]))
  ·rcases u.new c h with h | h
   ·exact .inl ((m c).2 (by simp [h]))
   ·exact .inr h
theorem RAt.setN {g : AH} {N : NmR} {s : ES XS} (r : RAt g N s) (n : Int) : RAt (g.set N.y (.cells [.slice (some ⟨N.bL,0,none⟩) s.L.length N.capL,.int .i64 s.lk,.int .i64 s.uk,N.vC,N.vW,.pointer (some ⟨N.p,0,none⟩),.slice (some ⟨N.bc,0,none⟩) s.cs.length N.capC,.int .i64 n] 97 none)) { N with acc := n } s := by
 have a := r.apart
 have ne : ∀ y X,y ≠ N.y → (g.set N.y X)[y]? = g[y]? := fun y X hy => List.getElem?_set_ne (fun e => hy e.symm)
 exact ⟨List.getElem?_set_self (lt_get r.box),by rw [ne _ _ a.bL]; exact r.code,r.cells.keep fun c hc _ => ne c _ (a.vC c hc).1,r.words.keep fun c hc _ => ne c _ (a.vW c hc).1,Px.RepP.keep r.pool fun c hc => ne c _ (a.ps c hc).1,by rw [ne _ _ a.bc]; exact r.cores,r.nd,r.few,r.ok⟩
theorem RAt.setW {g g' : AH} {N : NmR} {s : ES XS} (r : RAt g N s) {ws : List Nat} (hl : ws.length = s.ws.length) (h0 : 0 < s.ws.length) (hw : ∀ w ∈ ws,w < 4294967296) {b : Nat} (hb : N.vW = .slice (some ⟨b,0,none⟩) s.ws.length (OPEN + s.ws.length)) (hk : ∀ c ∈ N.all,c ≠ b → g'[c]? = g[c]?) (hp : g'[b]? = some (.cells (w32 ws) 49 (some 1))) : RAt g' N { s with ws := ws } := by
 have p := r.apart
 have hm : b ∈ nm N.vW := by rw [hb]; simp [nm]
 obtain ⟨n1,n2,n3,n4⟩ := p.vW b hm
 have m := fun c => NmR.mem (N := N) (c := c)
 refine ⟨by rw [hk _ ((m _).2 (by simp)) n1.symm,r.box],by rw [hk _ ((m _).2 (by simp)) n2.symm]; exact r.code,r.cells.keep fun c hc _ => hk c ((m c).2 (by simp [hc])) (fun e => n4 (e ▸ hc)), ?_,Px.RepP.keep r.pool fun c hc => hk c ((m c).2 (by simp [hc])) (fun e => (p.ps c hc).2.2.2.2 (e ▸ hm)),by rw [hk _ ((m _).2 (by simp)) n3.symm]; exact r.cores,r.nd,r.few,⟨r.ok.len,r.ok.ins,r.ok.cores,r.ok.few,hw,by rw [hl]; exact r.ok.sum⟩⟩
 rw [hb]
 exact .row b (by show 0 < ws.length; omega) (by simp [w32_length]) (by rw [hl]) hp
theorem u32n {x : Nat} (h : x < 4294967296) : IntKind.u32.wrap (x : Int) = (x : Int) := by rw [mod_u32]; omega
theorem i64n {x : Nat} (h : x < 4294967296) : IntKind.i64.wrap (x : Int) = (x : Int) := IntWalk.i64_in _ (by omega)
set_option maxHeartbeats 16000000 in
theorem rstep_ {H : AH} {N : NmR} {s : ES XS} (r : RAt H N s) (okx : Px.OkX s.pl) (hth : ∀ x,s.pl.isR x = true → (x % 4096 - 1) / s.pl.each < s.pl.free.length) (hk21 : ∀ i ∈ s.L,i.op = 21 → i.k ≤ 1) (t : Nat) (ht : t < s.cs.length) (late : Bool) {K : Value → AH → Prop} (hK : OutIsR H N (stepX opsR s t late).1 (stepX opsR s t late).2 K) :
  AC Try.prog 16 [.pointer (some ⟨N.y,0,none⟩),.int .i64 t,.int .i64 (b2i late)] H K := by
 refine entry hmix cf16 ?_
 have hall := r.lt
 have f0 : ∀ tl,(H ++ tl)[N.y]? = _ := fun tl => getA r.box tl
 have f1 : ∀ tl,(H ++ tl)[N.bc]? = _ := fun tl => getA r.cores tl
 have f2 : ∀ tl,(H ++ tl)[N.bL]? = _ := fun tl => getA r.code tl
 obtain ⟨c,hc⟩ : ∃ c,s.cs[t]? = some c := ⟨_,List.getElem?_eq_getElem ht⟩
 have cok := r.ok.cores c (List.mem_of_getElem? hc)
 have hcl := cr_length cok.len
 have hct := cr_take cok.len
 have hone := cr_one c
 have hrow := rowK_at r.ok.cores hc
 have hfit : t * 9 + 9 ≤ (rowK s.cs).length := by rw [rowK_length r.ok.cores]; omega
 have htl : (t : Int) < s.cs.length := by omega
 have hsp : splice zero9r 0 c.cr = c.cr := cr_splice cok.len rfl
 have hpc := cr_pc cok.len
 have trapE : stepX opsR s t late = (s, trapO) → ∀ (G : AH) N', RAt G N' s → N'.y = N.y → Upd N.all H N'.all G → K (.agg trapK.toArray) G := by
  intro e G N' rG hy uG
  rw [e] at hK
  exact hK _ N' (.slice none 0 0) rG hy uG (.nil rfl rfl) (fun y hy => by cases hy)
 have uT : ∀ T : AH,Upd N.all H N.all (H ++ T) := fun T => ⟨by simp,fun y hy _ => List.getElem?_append_left hy,fun y hy => .inl hy⟩
 have trap : fetch s.L c.pc = none ∨ (∃ i,fetch s.L c.pc = some i ∧ i.op < 16) → ∀ T : AH,K (.agg trapK.toArray) (H ++ T) := by
  intro h T
  refine trapE ?_ _ N (r.ext (Ext.app _ _)) rfl (uT T)
  unfold stepX
  rw [hc]
  rcases h with h | ⟨i,h,h2⟩
  ·simp only [h]
  ·simp only [h,if_pos h2]
 by_cases p0 : c.pc < 0
 ·have := trap (.inl (by unfold fetch; rw [if_pos p0]))
  simp (maxSteps := 2000000) (implicitDefEqProofs := false) [-getElem?_pos,-getElem?_neg,f0,f1,hrow,hfit,ht,htl,hcl,hct,hone,hsp,hpc,p0,splice_more]
  exact this _
 by_cases p1 : (s.L.length : Int) ≤ c.pc
 ·have := trap (.inl (by unfold fetch; rw [if_neg p0]; exact List.getElem?_eq_none (by omega)))
  simp (maxSteps := 2000000) (implicitDefEqProofs := false) [-getElem?_pos,-getElem?_neg,f0,f1,hrow,hfit,ht,htl,hcl,hct,hone,hsp,hpc,p0,p1,splice_more]
  exact this _
 obtain ⟨k,hk⟩ : ∃ k : Nat,c.pc = k := ⟨c.pc.toNat,by omega⟩
 have hkl : k < s.L.length := by omega
 obtain ⟨i,hi⟩ : ∃ i,s.L[k]? = some i := ⟨_,List.getElem?_eq_getElem hkl⟩
 have hf : fetch s.L c.pc = some i := by unfold fetch; rw [if_neg p0,hk]; exact hi
 have iok := r.ok.ins i (List.mem_of_getElem? hi)
 have hrd := rowI_at hi
 have hfit2 : k * 8 + 8 ≤ (rowI s.L).length := by rw [rowI_length]; omega
 have hfit3 : k * 8 + 1 ≤ (rowI s.L).length := by rw [rowI_length]; omega
 have hkl' : (k : Int) < s.L.length := by omega
 have hk0 : ¬ (k : Int) < 0 := by omega
 have hk1 : ¬ (s.L.length : Int) ≤ k := by omega
 have hk2 : ¬ s.L.length ≤ k := by omega
 have hk64 : k < 64 := by have := r.ok.len; omega
 have hop : (rowI s.L)[k * 8]? = some (.int .i64 i.op) := by
  have := congrArg (·[0]?) hrd
  simpa [List.getElem?_take,List.getElem?_drop,In.vs] using this
 rw [hk] at hpc
 by_cases n16 : i.op < 16
 ·have := trap (.inr ⟨i,hf,n16⟩)
  simp (maxSteps := 2000000) (implicitDefEqProofs := false) [-getElem?_pos, -getElem?_neg, f0, f1, f2, hrow, hfit, ht, htl, hcl, hct, hone, hsp, hpc, hop, hfit2, hfit3, hkl, hkl', hk0, hk1, hk2, n16, splice_more]
  exact this _
 have F := And.intro hrow <| And.intro hfit <| And.intro ht <| And.intro htl <| And.intro hcl <| And.intro hct <| And.intro hone <| And.intro hsp <| And.intro hpc <| And.intro hop <| And.intro hfit2 <| And.intro hfit3 <| And.intro hkl <| And.intro hkl' <| And.intro hk0 <| And.intro hk1 <| And.intro hk2 <| And.intro n16 <| And.intro hrd f0
 obtain ⟨d1,d2⟩ := iok.d
 obtain ⟨s1,s2⟩ := iok.s
 obtain ⟨t1,t2⟩ := iok.t
 obtain ⟨u1,u2⟩ := iok.u
 have gs := cr_get cok.len iok.s
 have gt := cr_get cok.len iok.t
 have gu := cr_get cok.len iok.u
 have d3 : i.d ≤ 8 := by omega
 have s3 : i.s ≤ 8 := by omega
 have t3 : i.t ≤ 8 := by omega
 have u3 : i.u ≤ 8 := by omega
 have ws := u32n (Co.at_lt cok i.s)
 have wt := u32n (Co.at_lt cok i.t)
 have wu := u32n (Co.at_lt cok i.u)
 have D := And.intro d1 <| And.intro d2 <| And.intro d3 <| And.intro s1 <| And.intro s2 <| And.intro s3 <| And.intro t1 <| And.intro t2 <| And.intro t3 <| And.intro u1 <| And.intro u2 <| And.intro u3 <| And.intro gs <| And.intro gt <| And.intro gu <| And.intro ws <| And.intro wt wu
 simp (maxSteps := 2000000) (implicitDefEqProofs := false) [-getElem?_pos,-getElem?_neg,F,D,f1,f2,splice_more,In.vs]
 obtain ⟨T,hT⟩ : ∃ T : AH,T = [oK zeroK,.cells c.cr 100 none,oK trapK,.cells [.int .i64 i.op,.int .i64 i.d,.int .i64 i.s,.int .i64 i.t,.int .i64 i.u,.int .i64 i.a,.int .u32 i.k,.int .i64 i.to] 102 none] := ⟨_,rfl⟩
 have hTl : (H ++ T).length = H.length + 4 := by rw [hT]; simp
 have rT := r.ext (Ext.app H T)
 have q1 : ∀ c : Co,c.vr = .agg c.cr.toArray := fun _ => rfl
 have e0 : (H ++ T)[H.length]? = some (oK zeroK) := by rw [HA.2.1,hT]; rfl
 have e1 : (H ++ T)[H.length + 1]? = some (.cells c.cr 100 none) := by rw [HA.1,hT]; rfl
 have e2 : (H ++ T)[H.length + 2]? = some (oK trapK) := by rw [HA.1,hT]; rfl
 have e3 : (H ++ T)[H.length + 3]? = some (.cells [.int .i64 i.op,.int .i64 i.d,.int .i64 i.s,.int .i64 i.t,.int .i64 i.u,.int .i64 i.a,.int .u32 i.k,.int .i64 i.to] 102 none) := by rw [HA.1,hT]; rfl
 have nb : ∀ {N2 G} (b : Nat),Upd N.all (H ++ T) N2 G → H.length ≤ b → b < H.length + 4 → b ∉ N2 := fun b u h1 h2 h => by
  rcases u.new b h with h | h
  ·have := hall b h; omega
  ·omega
 have uH : ∀ {N2 G},Upd N.all (H ++ T) N2 G → Upd N.all H N2 G := fun u => ⟨by have := u.len; omega,fun y hy hn => by rw [u.keep y (by omega) hn,List.getElem?_append_left hy],fun y hy => (u.new y hy).imp id fun h => ⟨by omega,h.2⟩⟩
 have rS : ∀ {N2 : NmR} {s2 : ES XS} {G : AH} {b : Nat} (X : ABlk),RAt G N2 s2 → b ∉ N2.all → RAt (G.set b X) N2 s2 := fun X rg hn => rg.keep fun y hy => List.getElem?_set_ne (fun e => hn (by rw [e]; exact hy))
 have uS : ∀ {N2 : List Nat} {G : AH} {b : Nat} (X : ABlk),Upd N.all H N2 G → H.length ≤ b → Upd N.all H N2 (G.set b X) := fun X u hb => ⟨by rw [List.length_set]; exact u.len,fun y hy hn => by rw [List.getElem?_set_ne (by omega),u.keep y hy hn],fun y hy => by rw [List.length_set]; exact u.new y hy⟩
 have fin : ∀ {K2 : Value → AH → Prop} (G : AH) (N2 : NmR) (s2 : ES XS) (c2 : Co) (ad wv : Int) (wr : Bool),RAt G N2 s2 → N2.y = N.y → t < s2.cs.length → c2.Ok → Upd N.all H N2.all G → H.length ∉ N2.all → G[H.length]? = some (oK zeroK) → wv = b2i wr → stepX opsR s t late = goOn s2 t c2 ad wr → (∀ g vm,VecV g vm (natV (goOn s2 t c2 ad wr).2.ms) tI → g[H.length]? = some (oK zeroK) → (∀ X,K (outK vm (goOn s2 t c2 ad wr).2) (g.set H.length X)) → K2 (outK vm (goOn s2 t c2 ad wr).2) g) → AC Try.prog 34 [.pointer (some ⟨N.y,0,none⟩),.int .i64 t,.agg c2.cr.toArray,.agg #[.slice none 0 0,.int .i64 0,.int .i64 ad,.int .i64 wv,.int .i64 0,.int .i64 0]] G K2 := by
  intro K2 G N2 s2 c2 ad wv wr r2 hy ht2 ok2 uG hn hG hw e hk2
  rw [e] at hK
  rw [hw,← hy]
  refine rrun_ r2 t ht2 c2 ok2 ad wr ?_
  intro g vm rg u hv hnm
  exact hk2 g vm hv (u.get hG hn) fun X => outR_lift hall hK uG rg hy u hv hnm (Nat.le_refl _) (lt_get hG) hn X
 have last : ∀ g vm ms,VecV g vm (natV ms) tI → ∃ A L C,vm = .slice A L C := fun g vm ms hv => hv.slice
 have wpc : IntKind.i64.wrap ((k : Int) + 1) = (k : Int) + 1 := IntWalk.i64_in _ (by omega)
 have hput := fun v : Nat => cr_put cok.len iok.d v
 have pl := fun v : Nat => put_len cok.len i.d v
 have P := And.intro hput <| And.intro wpc <| And.intro (fun v => cr_length (pl v)) <| And.intro (fun v => cr_take (pl v)) <| And.intro (fun v => cr_pc (pl v)) (fun v p => cr_set8 (pl v) p)
 have ppc : ∀ v,(c.put i.d v).pc = k := fun _ => hk
 have cpc : ∀ v,(c.put i.d v).go ((k : Int) + 1) = c.next.put i.d v := fun v => by rw [← hk]; rfl
 have nok : ∀ v,v < 4294967296 → (c.next.put i.d v).Ok := fun v hv => (Co.go_ok cok _).put_ok hv
 have nl : ∀ v,(c.next.put i.d v).r.length = 8 := fun v => put_len (c := c.next) cok.len i.d v
 have ncl := fun v => cr_length (nl v)
 have nct := fun v => cr_take (nl v)
 have nlen : H.length + 1 ≠ H.length := by omega
 by_cases c22 : i.op = 22
 ·rw [if_pos c22,← hT]
  obtain ⟨v,hv⟩ : ∃ v,takeR s.pl t = v := ⟨_,rfl⟩
  have hv32 : v < 4294967296 := by rw [← hv]; exact takeR_u32 okx t
  have est : stepX opsR s t late = goOn { s with pl := takeRS s.pl t } t (c.next.put i.d v) (-1) false := by
   unfold stepX
   rw [hc]
   simp only [hf]
   rw [if_neg n16,if_pos c22]
   simp only [opsR,hv]
  refine reftake_ rT.pool okx t fun G rG uG => ?_
  obtain ⟨r2,u2⟩ := rT.setP rG uG
  have g0 := u2.get e0 (nb _ u2 (by omega) (by omega))
  have g1 := u2.get e1 (nb _ u2 (by omega) (by omega))
  have g3 := u2.get e3 (nb _ u2 (by omega) (by omega))
  have hGl := lt_get g1
  have x1 : ∀ X,(G.set (H.length + 1) X)[H.length + 1]? = some X := fun X => List.getElem?_set_self hGl
  have x3 : ∀ X,(G.set (H.length + 1) X)[H.length + 3]? = _ := fun X => getS g3 (H.length + 1) (by omega) X
  have wv := i64n hv32
  rw [hv]
  have n1 := nb (H.length + 1) u2 (by omega) (by omega)
  have n0 := nb H.length u2 (by omega) (by omega)
  simp (maxSteps := 2000000) (implicitDefEqProofs := false) [-getElem?_pos,-getElem?_neg,F,D,P,g0,g1,g3,x1,x3,wv,List.set_set,ppc,cpc,ncl,nct,splice_more]
  refine fin _ _ _ (c.next.put i.d v) (-1) 0 false (rS _ r2 n1) rfl ht (nok v hv32) (uS _ (uH u2) (by omega)) n0 (getS g0 _ nlen _) rfl est fun g vm hvv h0 hk => ?_
  obtain ⟨A9,L9,C9,rfl⟩ := last g vm _ hvv
  have hs0 : ∀ X,(g.set H.length X)[H.length]? = some X := fun X => List.getElem?_set_self (lt_get h0)
  unfold outK at hk ⊢
  simp (maxSteps := 2000000) (implicitDefEqProofs := false) [-getElem?_pos,-getElem?_neg,h0,hs0,splice_more]
  exact hk _
 rw [if_neg c22]
 have x0 : ∀ {G : AH} X,H.length < G.length → (G.set H.length X)[H.length]? = some X := fun X h => List.getElem?_set_self h
 have C0 := And.intro (cr_set8 cok.len) <| And.intro (cr_length (c := c.next) cok.len) <| And.intro (cr_take (c := c.next) cok.len) <| And.intro (fun p => cr_length (c := c.go p) cok.len) (fun p => cr_take (c := c.go p) cok.len)
 have no : ∀ b,H.length ≤ b → b ∉ N.all := fun b h1 h2 => by have := hall b h2; omega
 by_cases c23 : i.op = 23
 ·rw [if_pos c23,← hT]
  refine rback_ rT.pool okx (c.at i.s) (Co.at_lt cok i.s) (hth _) fun G ps rG uG => ?_
  obtain ⟨r2,u2⟩ := rT.setP rG uG
  have g0 := u2.get e0 (no _ (by omega))
  have g1 := u2.get e1 (no _ (by omega))
  have g2 := u2.get e2 (no _ (by omega))
  have hGl := lt_get g1
  have n1 := nb (H.length + 1) u2 (by omega) (by omega)
  have n0 := nb H.length u2 (by omega) (by omega)
  by_cases ef : backE s.pl (c.at i.s) = 0
  case neg =>
   have est : stepX opsR s t late = (s,trapO) := by
    unfold stepX
    rw [hc]
    simp only [hf]
    rw [if_neg n16,if_neg c22,if_pos c23]
    exact if_neg ef
   have es : backRS s.pl (c.at i.s) = s.pl := by
    unfold backE at ef
    unfold backRS
    split at ef
    ·exact absurd rfl ef
    ·split at ef
     ·exact absurd rfl ef
     ·rename_i h1 h2
      rw [if_pos (.inr (by simpa using h2))]
   rw [es] at r2
   have tr := fun X => trapE est (G.set H.length X) _ (rS X r2 n0) rfl (uS X (uH u2) (Nat.le_refl _))
   have z0 := fun X => x0 (G := G) X (by omega)
   have ef' : (backE s.pl (c.at i.s) == 0) = false := by simpa using ef
   simp (maxSteps := 2000000) (implicitDefEqProofs := false) [-getElem?_pos, -getElem?_neg, ef, ef', g0, g2, z0, splice_more]
   exact tr _
  have est : stepX opsR s t late = goOn { s with pl := backRS s.pl (c.at i.s) } t c.next (-1) false := by
   unfold stepX
   rw [hc]
   simp only [hf]
   rw [if_neg n16,if_neg c22,if_pos c23]
   refine (if_pos ef).trans ?_
   simp only [opsR,ef,if_true]
  have x1 : ∀ X,(G.set (H.length + 1) X)[H.length + 1]? = some X := fun X => List.getElem?_set_self hGl
  have cn : c.go ((k : Int) + 1) = c.next := by rw [← hk]; rfl
  simp (maxSteps := 2000000) (implicitDefEqProofs := false) [-getElem?_pos,-getElem?_neg,F,C0,g0,g1,x1,List.set_set,cn,wpc,ef,splice_more]
  refine fin _ _ _ c.next (-1) 0 false (rS _ r2 n1) rfl ht (Co.go_ok cok _) (uS _ (uH u2) (by omega)) n0 (getS g0 _ nlen _) rfl est fun g vm hvv h0 hk => ?_
  obtain ⟨A9,L9,C9,rfl⟩ := last g vm _ hvv
  have hs0 := fun X => x0 (G := g) X (lt_get h0)
  unfold outK at hk ⊢
  simp (maxSteps := 2000000) (implicitDefEqProofs := false) [-getElem?_pos,-getElem?_neg,h0,hs0,splice_more]
  exact hk _
 rw [if_neg c23,← hT]
 cases ha : addrM s.ns i.a (c.at i.s) with
 | none =>
  have est : stepX opsR s t late = (s,trapO) := by
   unfold stepX
   rw [hc]
   simp only [hf]
   rw [if_neg n16,if_neg c22,if_neg c23,ha]
  refine r9find_ (ps := cellsF 0 s.ns) (by rw [cellsF_length]; exact rT.cells.arg) (by rw [cellsF_length]; exact r.few) i.a (c.at i.s) (Co.at_lt cok i.s) ?_
  rw [findZ_addr,ha]
  subst hT
  simp (maxSteps := 2000000) (implicitDefEqProofs := false) [-getElem?_pos,-getElem?_neg,splice_more]
  exact trapE est _ N (r.ext (Ext.app _ _)) rfl (uT _)
 | some a =>
  have hal : a < s.ws.length := by rw [r.ok.sum]; exact addrM_lt ha
  obtain ⟨b,hvW,hbk⟩ : ∃ b,N.vW = .slice (some ⟨b,0,none⟩) s.ws.length (OPEN + s.ws.length) ∧ H[b]? = some (.cells (w32 s.ws) 49 (some 1)) := by
   cases r.words with
   | nil h1 h2 h3 => omega
   | row b h1 h2 h3 h4 => exact ⟨b,h3,h4⟩
  have hbl := lt_get hbk
  obtain ⟨w,hw⟩ : ∃ w,s.ws[a]? = some w := ⟨_,List.getElem?_eq_getElem hal⟩
  have hw32 := r.ok.words w (List.mem_of_getElem? hw)
  have hwv : (w32 s.ws)[a]? = some (.int .u32 w) := by rw [w32_get,hw]; rfl
  have hfw : a + 1 ≤ (w32 s.ws).length := by rw [w32_length]; omega
  have hal' : (a : Int) < s.ws.length := by omega
  have ha0 : ¬ (a : Int) < 0 := by omega
  obtain ⟨n', hn'⟩ : ∃ n', IntKind.i64.wrap (N.acc + 1) = n' := ⟨_, rfl⟩
  have lx := hall N.y (by simp [NmR.all])
  have hT4 : T.length = 4 := by rw [hT]; rfl
  have hby : b ≠ N.y := (r.apart.vW b (by rw [hvW]; simp [nm])).1
  have hbc : b ≠ N.bc := (r.apart.vW b (by rw [hvW]; simp [nm])).2.2.1
  have lc := hall N.bc (by simp [NmR.all])
  have no' : ∀ {x y : Nat},x ≠ y → (x = y) = False := fun h => by simpa using h
  have NE := And.intro (no' (show N.y ≠ H.length by omega)) <| And.intro (no' (show N.y ≠ H.length + 1 by omega)) <| And.intro (no' (show N.y ≠ H.length + 3 by omega)) <| And.intro (no' hby.symm) <| And.intro (no' r.apart.bc.symm) <| And.intro (no' (show H.length + 1 ≠ H.length by omega)) <| And.intro (no' (show H.length + 1 ≠ H.length + 3 by omega)) <| And.intro (no' (show H.length + 1 ≠ N.y by omega)) <| And.intro (no' (show H.length + 1 ≠ b by omega)) <| And.intro (no' (show H.length + 1 ≠ N.bc by omega)) <| And.intro (no' (show b ≠ H.length by omega)) <| And.intro (no' (show b ≠ H.length + 1 by omega)) <| And.intro (no' (show b ≠ H.length + 3 by omega)) <| And.intro (no' hby) (no' hbc)
  have M := And.intro (show H.length < H.length + 4 by omega) <| And.intro (show H.length + 1 < H.length + 4 by omega) <| And.intro (show H.length + 3 < H.length + 4 by omega) <| And.intro (show N.y < H.length + 4 by omega) <| And.intro (show b < H.length + 4 by omega) (show N.bc < H.length + 4 by omega)
  have y4 : ∀ (X tl : AH),X.length = H.length + 4 → (X ++ tl)[H.length + 4]? = tl[0]? := fun X tl h => by rw [List.getElem?_append_right (by omega),h,Nat.sub_self]
  have E := And.intro e0 <| And.intro e1 <| And.intro e3 <| And.intro (getA hbk T) hTl
  have wi := i64n hw32
  have cset := fun (v a : Nat) => (by simp [w32,List.map_set] : (w32 s.ws).set a (.int .u32 (v : Int)) = w32 (s.ws.set a v))
  have hit := r.ok.ins i (List.mem_of_getElem? hi)
  have eff : stepX opsR s t late = if (accC c i s.ws a late).stay then ({ s with cs := s.cs.set t (accC c i s.ws a late).c },⟨[],-1,a,(accC c i s.ws a late).wrote,true,0⟩) else goOn { s with ws := (accC c i s.ws a late).ws } t (accC c i s.ws a late).c a (accC c i s.ws a late).wrote := by
   unfold stepX
   rw [hc]
   simp only [hf]
   rw [if_neg n16,if_neg c22,if_neg c23,ha]
  have hgd : (s.ws[a]?).getD 0 = w := by rw [hw]; rfl
  have accok := accC_ok cok iok r.ok.words a late
  have endR : ∀ {K2 : Value → AH → Prop} (G : AH) (c2 : Co) (ws2 : List Nat) (wv : Int) (wr : Bool),accC c i s.ws a late = ⟨c2,ws2,wr,false⟩ → wv = b2i wr → G.length = H.length + 5 → G[N.y]? = some (.cells [.slice (some ⟨N.bL,0,none⟩) s.L.length N.capL,.int .i64 s.lk,.int .i64 s.uk,N.vC,.slice (some ⟨b,0,none⟩) s.ws.length (OPEN + s.ws.length),.pointer (some ⟨N.p,0,none⟩),.slice (some ⟨N.bc,0,none⟩) s.cs.length N.capC,.int .i64 n'] 97 none) → G[b]? = some (.cells (w32 ws2) 49 (some 1)) → (∀ y,y < H.length → y ≠ N.y → y ≠ b → G[y]? = H[y]?) → G[H.length]? = some (oK zeroK) → (∀ g vm,VecV g vm (natV (goOn { s with ws := ws2 } t c2 a wr).2.ms) tI → g[H.length]? = some (oK zeroK) → (∀ X,K (outK vm (goOn { s with ws := ws2 } t c2 a wr).2) (g.set H.length X)) → K2 (outK vm (goOn { s with ws := ws2 } t c2 a wr).2) g) → AC Try.prog 34 [.pointer (some ⟨N.y,0,none⟩),.int .i64 t,.agg c2.cr.toArray,.agg #[.slice none 0 0,.int .i64 0,.int .i64 a,.int .i64 wv,.int .i64 0,.int .i64 0]] G K2 := by
   intro K2 G c2 ws2 wv wr e hwr hl gy gb gk g0 hk2
   rw [e] at eff accok
   have rN := r.setN n'
   have rG : RAt G { N with acc := n' } { s with ws := ws2 } := RAt.setW rN accok.len (by show 0 < s.ws.length; omega) accok.words hvW (fun y hy hn => ?_) gb
   ·refine fin G { N with acc := n' } { s with ws := ws2 } c2 a wv wr rG rfl ht accok.core ⟨by omega,fun y hy hn => ?_,fun y hy => .inl hy⟩ (no _ (Nat.le_refl _)) g0 hwr (by rw [eff]; rfl) hk2
    exact gk y hy (fun h => hn (by rw [h]; simp [NmR.all])) (fun h => hn (by rw [h,NmR.mem,hvW]; simp [nm]))
   ·have hy' : y < H.length := hall y hy
    by_cases hyy : y = N.y
    ·subst hyy
     rw [gy,List.getElem?_set_self lx,hvW]
    ·rw [gk y hy' hyy hn,List.getElem?_set_ne (fun h => hyy h.symm)]
  have cpcw : ∀ v,(c.put i.d v).go ((k : Int) + 1) = c.next.put i.d v := cpc
  have cn : c.go ((k : Int) + 1) = c.next := by rw [← hk]; rfl
  have L5 := And.intro (fun v => cr_length (nl v)) <| And.intro (fun v => cr_take (nl v)) cn
  have p1' : c.cr.set i.d.toNat (.int .i64 1) = (c.put i.d 1).cr := hput 1
  have p10 : (c.put i.d 0).cr.set i.d.toNat (.int .i64 1) = (c.put i.d 1).cr := by
   exact (cr_put (pl 0) iok.d 1).trans (by simp [Co.put])
  have p0' : c.cr.set i.d.toNat (.int .i64 0) = (c.put i.d 0).cr := hput 0
  have c20 : ∀ x y : Nat,(w32 s.ws).set a (.int .u32 (((x : Int) + (y : Int)) % 4294967296)) = w32 (s.ws.set a ((x + y) % 4294967296)) := fun x y => by
   have := cset ((x + y) % 4294967296) a
   simpa using this
  by_cases c21 : i.op = 21
  case neg =>
   refine r9find_ (ps := cellsF 0 s.ns) (by rw [cellsF_length]; exact rT.cells.arg) (by rw [cellsF_length]; exact r.few) i.a (c.at i.s) (Co.at_lt cok i.s) ?_
   rw [findZ_addr,ha]
   simp (maxSteps := 2000000) (implicitDefEqProofs := false) [-getElem?_pos, -getElem?_neg, F, D, P, C0, E, NE, M, setNe, setEq, List.getElem?_append_left, List.length_set, hTl, y4, hvW, hn', hwv, hfw, hal, hal', ha0, wpc, wi, cset, f1, add_u32, splice_more, List.set_set, cpcw, L5, p1', p0', p10, c20, c21]
   by_cases c16 : i.op = 16
   ·rw [if_pos c16]
    refine endR _ (c.next.put i.d w) (s.ws) 0 false (by simp [accC,hgd,c16]) rfl (by simp [hT4]) (by simp only [NE,M,E,setNe,setEq,List.getElem?_append_left,List.length_set,hTl]) (by simp only [NE,M,E,setNe,setEq,List.getElem?_append_left,List.length_set,hTl]) (fun y h1 h2 h3 => by simp only [no' (Ne.symm h2),no' (show H.length + 1 ≠ y by omega),no' (Ne.symm h3),setNe,List.getElem?_append_left,List.length_set,hTl,show y < H.length + 4 by omega,h1]) (by simp only [NE,M,E,setNe,setEq,List.getElem?_append_left,List.length_set,hTl]) fun g vm hvv h0 hk => ?_
    obtain ⟨A9,L9,C9,rfl⟩ := last g vm _ hvv
    have hs0 := fun X => x0 (G := g) X (lt_get h0)
    unfold outK at hk ⊢
    simp (maxSteps := 2000000) (implicitDefEqProofs := false) [-getElem?_pos,-getElem?_neg,h0,hs0,splice_more]
    exact hk _
   rw [if_neg c16]
   by_cases c17 : i.op = 17
   ·rw [if_pos c17]
    refine endR _ (c.next) (s.ws.set a (c.at i.t)) 1 true (by simp [accC,hgd,c17]) rfl (by simp [hT4]) (by simp only [NE,M,E,setNe,setEq,List.getElem?_append_left,List.length_set,hTl]) (by simp only [NE,M,E,setNe,setEq,List.getElem?_append_left,List.length_set,hTl]) (fun y h1 h2 h3 => by simp only [no' (Ne.symm h2),no' (show H.length + 1 ≠ y by omega),no' (Ne.symm h3),setNe,List.getElem?_append_left,List.length_set,hTl,show y < H.length + 4 by omega,h1]) (by simp only [NE,M,E,setNe,setEq,List.getElem?_append_left,List.length_set,hTl]) fun g vm hvv h0 hk => ?_
    obtain ⟨A9,L9,C9,rfl⟩ := last g vm _ hvv
    have hs0 := fun X => x0 (G := g) X (lt_get h0)
    unfold outK at hk ⊢
    simp (maxSteps := 2000000) (implicitDefEqProofs := false) [-getElem?_pos,-getElem?_neg,h0,hs0,splice_more]
    exact hk _
   rw [if_neg c17]
   by_cases c18 : i.op = 18
   ·rw [if_pos c18]
    refine endR _ (c.next.put i.d w) (s.ws.set a (c.at i.t)) 1 true (by simp [accC,hgd,c18]) rfl (by simp [hT4]) (by simp only [NE,M,E,setNe,setEq,List.getElem?_append_left,List.length_set,hTl]) (by simp only [NE,M,E,setNe,setEq,List.getElem?_append_left,List.length_set,hTl]) (fun y h1 h2 h3 => by simp only [no' (Ne.symm h2),no' (show H.length + 1 ≠ y by omega),no' (Ne.symm h3),setNe,List.getElem?_append_left,List.length_set,hTl,show y < H.length + 4 by omega,h1]) (by simp only [NE,M,E,setNe,setEq,List.getElem?_append_left,List.length_set,hTl]) fun g vm hvv h0 hk => ?_
    obtain ⟨A9,L9,C9,rfl⟩ := last g vm _ hvv
    have hs0 := fun X => x0 (G := g) X (lt_get h0)
    unfold outK at hk ⊢
    simp (maxSteps := 2000000) (implicitDefEqProofs := false) [-getElem?_pos,-getElem?_neg,h0,hs0,splice_more]
    exact hk _
   rw [if_neg c18]
   by_cases c19 : i.op = 19
   ·rw [if_pos c19]
    by_cases ew : w = c.at i.t
    ·rw [if_pos (by rw [ew])]
     refine endR _ (c.next.put i.d 1) (s.ws.set a (c.at i.u)) 1 true (by simp [accC,hgd,c19,ew]) rfl (by simp [hT4]) (by simp only [NE,M,E,setNe,setEq,List.getElem?_append_left,List.length_set,hTl]) (by simp only [NE,M,E,setNe,setEq,List.getElem?_append_left,List.length_set,hTl]) (fun y h1 h2 h3 => by simp only [no' (Ne.symm h2),no' (show H.length + 1 ≠ y by omega),no' (Ne.symm h3),setNe,List.getElem?_append_left,List.length_set,hTl,show y < H.length + 4 by omega,h1]) (by simp only [NE,M,E,setNe,setEq,List.getElem?_append_left,List.length_set,hTl]) fun g vm hvv h0 hk => ?_
     obtain ⟨A9,L9,C9,rfl⟩ := last g vm _ hvv
     have hs0 := fun X => x0 (G := g) X (lt_get h0)
     unfold outK at hk ⊢
     simp (maxSteps := 2000000) (implicitDefEqProofs := false) [-getElem?_pos,-getElem?_neg,h0,hs0,splice_more]
     exact hk _
    ·rw [if_neg (by omega)]
     refine endR _ (c.next.put i.d 0) (s.ws) 0 false (by simp [accC,hgd,c19,ew]) rfl (by simp [hT4]) (by simp only [NE,M,E,setNe,setEq,List.getElem?_append_left,List.length_set,hTl]) (by simp only [NE,M,E,setNe,setEq,List.getElem?_append_left,List.length_set,hTl]) (fun y h1 h2 h3 => by simp only [no' (Ne.symm h2),no' (show H.length + 1 ≠ y by omega),no' (Ne.symm h3),setNe,List.getElem?_append_left,List.length_set,hTl,show y < H.length + 4 by omega,h1]) (by simp only [NE,M,E,setNe,setEq,List.getElem?_append_left,List.length_set,hTl]) fun g vm hvv h0 hk => ?_
     obtain ⟨A9,L9,C9,rfl⟩ := last g vm _ hvv
     have hs0 := fun X => x0 (G := g) X (lt_get h0)
     unfold outK at hk ⊢
     simp (maxSteps := 2000000) (implicitDefEqProofs := false) [-getElem?_pos,-getElem?_neg,h0,hs0,splice_more]
     exact hk _
   rw [if_neg c19]
   have c20' : i.op = 20 := by have := iok.op; omega
   rw [if_pos c20']
   refine endR _ (c.next.put i.d w) (s.ws.set a ((w + i.k) % 4294967296)) 1 true (by simp [accC,hgd,c20']) rfl (by simp [hT4]) (by simp only [NE,M,E,setNe,setEq,List.getElem?_append_left,List.length_set,hTl]) (by simp only [NE,M,E,setNe,setEq,List.getElem?_append_left,List.length_set,hTl]) (fun y h1 h2 h3 => by simp only [no' (Ne.symm h2),no' (show H.length + 1 ≠ y by omega),no' (Ne.symm h3),setNe,List.getElem?_append_left,List.length_set,hTl,show y < H.length + 4 by omega,h1]) (by simp only [NE,M,E,setNe,setEq,List.getElem?_append_left,List.length_set,hTl]) fun g vm hvv h0 hk => ?_
   obtain ⟨A9,L9,C9,rfl⟩ := last g vm _ hvv
   have hs0 := fun X => x0 (G := g) X (lt_get h0)
   unfold outK at hk ⊢
   simp (maxSteps := 2000000) (implicitDefEqProofs := false) [-getElem?_pos,-getElem?_neg,h0,hs0,splice_more]
   exact hk _
  have hk1' := hk21 i (List.mem_of_getElem? hi) c21
  have V := And.intro (cr_one (c.put i.d w)) <| And.intro (fun v p => cr_length (c := (c.put i.d v).go p) (pl v)) <| And.intro (fun v p => cr_take (c := (c.put i.d v).go p) (pl v)) (rowK_set r.ok.cores ht (cok.put_ok (i := i.d) hw32))
  have hb0 : b2i false = 0 := rfl
  have hb1 : b2i true = 1 := rfl
  have ok2 : (c.put i.d w).Ok := cok.put_ok hw32
  by_cases hh : (decide (w = c.at i.t)) = decide (i.k = 0)
  ·have hacc : accC c i s.ws a late = ⟨c.next.put i.d w,s.ws,false,false⟩ := by
    unfold accC
    simp only [c21,hgd]
    rw [if_pos hh]
    simp
   rcases (show i.k = 0 ∨ i.k = 1 by omega) with ek | ek
   ·have ew : ((w : Int) = (c.at i.t : Int)) = True := by simp [ek] at hh; simp [hh]
    refine r9find_ (ps := cellsF 0 s.ns) (by rw [cellsF_length]; exact rT.cells.arg) (by rw [cellsF_length]; exact r.few) i.a (c.at i.s) (Co.at_lt cok i.s) ?_
    rw [findZ_addr,ha]
    simp (maxSteps := 2000000) (implicitDefEqProofs := false) [-getElem?_pos, -getElem?_neg, F, D, P, C0, E, NE, M, setNe, setEq, List.getElem?_append_left, List.length_set, hTl, y4, hvW, hn', hwv, hfw, hal, hal', ha0, wpc, wi, cset, f1, add_u32, splice_more, List.set_set, cpcw, L5, p1', p0', p10, c20, c21, V, ek, ew]
    refine endR _ (c.next.put i.d w) (s.ws) 0 false hacc rfl (by simp [hT4]) (by simp only [NE,M,E,setNe,setEq,List.getElem?_append_left,List.length_set,hTl]) (by simp only [NE,M,E,setNe,setEq,List.getElem?_append_left,List.length_set,hTl]) (fun y h1 h2 h3 => by simp only [no' (Ne.symm h2),no' (show H.length + 1 ≠ y by omega),no' (Ne.symm h3),setNe,List.getElem?_append_left,List.length_set,hTl,show y < H.length + 4 by omega,h1]) (by simp only [NE,M,E,setNe,setEq,List.getElem?_append_left,List.length_set,hTl]) fun g vm hvv h0 hk => ?_
    obtain ⟨A9,L9,C9,rfl⟩ := last g vm _ hvv
    have hs0 := fun X => x0 (G := g) X (lt_get h0)
    unfold outK at hk ⊢
    simp (maxSteps := 2000000) (implicitDefEqProofs := false) [-getElem?_pos,-getElem?_neg,h0,hs0,splice_more]
    exact hk _
   ·have ew : ((w : Int) = (c.at i.t : Int)) = False := by simp [ek] at hh; simp; omega
    refine r9find_ (ps := cellsF 0 s.ns) (by rw [cellsF_length]; exact rT.cells.arg) (by rw [cellsF_length]; exact r.few) i.a (c.at i.s) (Co.at_lt cok i.s) ?_
    rw [findZ_addr,ha]
    simp (maxSteps := 2000000) (implicitDefEqProofs := false) [-getElem?_pos, -getElem?_neg, F, D, P, C0, E, NE, M, setNe, setEq, List.getElem?_append_left, List.length_set, hTl, y4, hvW, hn', hwv, hfw, hal, hal', ha0, wpc, wi, cset, f1, add_u32, splice_more, List.set_set, cpcw, L5, p1', p0', p10, c20, c21, V, ek, ew]
    refine endR _ (c.next.put i.d w) (s.ws) 0 false hacc rfl (by simp [hT4]) (by simp only [NE,M,E,setNe,setEq,List.getElem?_append_left,List.length_set,hTl]) (by simp only [NE,M,E,setNe,setEq,List.getElem?_append_left,List.length_set,hTl]) (fun y h1 h2 h3 => by simp only [no' (Ne.symm h2),no' (show H.length + 1 ≠ y by omega),no' (Ne.symm h3),setNe,List.getElem?_append_left,List.length_set,hTl,show y < H.length + 4 by omega,h1]) (by simp only [NE,M,E,setNe,setEq,List.getElem?_append_left,List.length_set,hTl]) fun g vm hvv h0 hk => ?_
    obtain ⟨A9,L9,C9,rfl⟩ := last g vm _ hvv
    have hs0 := fun X => x0 (G := g) X (lt_get h0)
    unfold outK at hk ⊢
    simp (maxSteps := 2000000) (implicitDefEqProofs := false) [-getElem?_pos,-getElem?_neg,h0,hs0,splice_more]
    exact hk _
  by_cases hl : late = false ∨ i.to < 0
  ·have hacc : accC c i s.ws a late = ⟨c.put i.d w,s.ws,false,true⟩ := by
    unfold accC
    simp only [c21,hgd]
    rw [if_neg hh,if_pos hl]
    simp
   have stayR : ∀ G : AH,G[N.y]? = some (.cells [.slice (some ⟨N.bL,0,none⟩) s.L.length N.capL,.int .i64 s.lk,.int .i64 s.uk,N.vC,.slice (some ⟨b,0,none⟩) s.ws.length (OPEN + s.ws.length),.pointer (some ⟨N.p,0,none⟩),.slice (some ⟨N.bc,0,none⟩) s.cs.length N.capC,.int .i64 n'] 97 none) → G[N.bc]? = some (.cells (rowK (s.cs.set t (c.put i.d w))) 100 (some 9)) → (∀ y,y < H.length → y ≠ N.y → y ≠ N.bc → G[y]? = H[y]?) → H.length ≤ G.length → K (.agg #[.slice none 0 0,.int .i64 (-1),.int .i64 a,.int .i64 0,.int .i64 1,.int .i64 0]) G := by
    intro G gy gc gk gl
    rw [hacc] at eff
    rw [eff] at hK
    refine hK G { N with acc := n' } (.slice none 0 0) (((r.setN n').setC (t := t) (c.put i.d w) ok2).keep fun y hy => ?_) rfl ⟨gl,fun y hy hn => gk y hy (fun h => hn (by rw [h]; simp [NmR.all])) (fun h => hn (by rw [h]; simp [NmR.all])),fun y hy => .inl hy⟩ (.nil rfl rfl) (fun y hy => by cases hy)
    have hy' : y < H.length := hall y hy
    by_cases h1 : y = N.bc
    ·subst h1
     rw [gc,List.getElem?_set_self (by rw [List.length_set]; omega)]
    ·rw [List.getElem?_set_ne (fun h => h1 h.symm)]
     by_cases h2 : y = N.y
     ·subst h2
      rw [gy,List.getElem?_set_self lx,hvW]
     ·rw [gk y hy' h2 h1,List.getElem?_set_ne (fun h => h2 h.symm)]
   have NB := And.intro (no' (show N.bc ≠ H.length by omega)) <| And.intro (no' (show N.bc ≠ H.length + 1 by omega)) <| And.intro (no' r.apart.bc) (no' (show H.length ≠ N.bc by omega))
   have NC := And.intro (no' (show H.length ≠ N.y by omega)) (no' (show H.length ≠ H.length + 1 by omega))
   have x0' := fun (G : AH) (X : ABlk) => x0 (G := G) X
   rcases (show late = false ∨ (late = true ∧ i.to < 0) by
    rcases hl with h | h
    ·exact .inl h
    ·cases late
     ·exact .inl rfl
     ·exact .inr ⟨rfl,h⟩) with hlf | ⟨hlf,hto⟩
   ·subst hlf
    rcases (show i.k = 0 ∨ i.k = 1 by omega) with ek | ek
    ·have ew : ((w : Int) = (c.at i.t : Int)) = False := by simp [ek] at hh; simp; omega
     refine r9find_ (ps := cellsF 0 s.ns) (by rw [cellsF_length]; exact rT.cells.arg) (by rw [cellsF_length]; exact r.few) i.a (c.at i.s) (Co.at_lt cok i.s) ?_
     rw [findZ_addr,ha]
     simp (maxSteps := 2000000) (implicitDefEqProofs := false) [-getElem?_pos, -getElem?_neg, F, D, P, C0, E, NE, M, setNe, setEq, List.getElem?_append_left, List.length_set, hTl, y4, hvW, hn', hwv, hfw, hal, hal', ha0, wpc, wi, cset, f1, add_u32, splice_more, List.set_set, cpcw, L5, p1', p0', p10, c20, c21, V, ek, ew, hb0, hb1, NB, NC, x0']
     exact stayR _ (by simp only [NB,NC,NE,M,E,setNe,setEq,List.getElem?_append_left,List.length_set,hTl]) (by simp only [NB,NC,NE,M,E,setNe,setEq,List.getElem?_append_left,List.length_set,hTl]) (fun y h1 h2 h3 => by simp only [no' (Ne.symm h2),no' (show H.length + 1 ≠ y by omega),no' (show H.length ≠ y by omega),no' (Ne.symm h3),setNe,List.getElem?_append_left,List.length_set,hTl,show y < H.length + 4 by omega,h1]) (by simp [hT4]; omega)
    ·have ew : ((w : Int) = (c.at i.t : Int)) = True := by simp [ek] at hh; simp [hh]
     refine r9find_ (ps := cellsF 0 s.ns) (by rw [cellsF_length]; exact rT.cells.arg) (by rw [cellsF_length]; exact r.few) i.a (c.at i.s) (Co.at_lt cok i.s) ?_
     rw [findZ_addr,ha]
     simp (maxSteps := 2000000) (implicitDefEqProofs := false) [-getElem?_pos, -getElem?_neg, F, D, P, C0, E, NE, M, setNe, setEq, List.getElem?_append_left, List.length_set, hTl, y4, hvW, hn', hwv, hfw, hal, hal', ha0, wpc, wi, cset, f1, add_u32, splice_more, List.set_set, cpcw, L5, p1', p0', p10, c20, c21, V, ek, ew, hb0, hb1, NB, NC, x0']
     exact stayR _ (by simp only [NB,NC,NE,M,E,setNe,setEq,List.getElem?_append_left,List.length_set,hTl]) (by simp only [NB,NC,NE,M,E,setNe,setEq,List.getElem?_append_left,List.length_set,hTl]) (fun y h1 h2 h3 => by simp only [no' (Ne.symm h2),no' (show H.length + 1 ≠ y by omega),no' (show H.length ≠ y by omega),no' (Ne.symm h3),setNe,List.getElem?_append_left,List.length_set,hTl,show y < H.length + 4 by omega,h1]) (by simp [hT4]; omega)
   ·subst hlf
    rcases (show i.k = 0 ∨ i.k = 1 by omega) with ek | ek
    ·have ew : ((w : Int) = (c.at i.t : Int)) = False := by simp [ek] at hh; simp; omega
     refine r9find_ (ps := cellsF 0 s.ns) (by rw [cellsF_length]; exact rT.cells.arg) (by rw [cellsF_length]; exact r.few) i.a (c.at i.s) (Co.at_lt cok i.s) ?_
     rw [findZ_addr,ha]
     simp (maxSteps := 2000000) (implicitDefEqProofs := false) [-getElem?_pos, -getElem?_neg, F, D, P, C0, E, NE, M, setNe, setEq, List.getElem?_append_left, List.length_set, hTl, y4, hvW, hn', hwv, hfw, hal, hal', ha0, wpc, wi, cset, f1, add_u32, splice_more, List.set_set, cpcw, L5, p1', p0', p10, c20, c21, V, ek, ew, hb0, hb1, NB, NC, x0', hto]
     exact stayR _ (by simp only [NB,NC,NE,M,E,setNe,setEq,List.getElem?_append_left,List.length_set,hTl]) (by simp only [NB,NC,NE,M,E,setNe,setEq,List.getElem?_append_left,List.length_set,hTl]) (fun y h1 h2 h3 => by simp only [no' (Ne.symm h2),no' (show H.length + 1 ≠ y by omega),no' (show H.length ≠ y by omega),no' (Ne.symm h3),setNe,List.getElem?_append_left,List.length_set,hTl,show y < H.length + 4 by omega,h1]) (by simp [hT4]; omega)
    ·have ew : ((w : Int) = (c.at i.t : Int)) = True := by simp [ek] at hh; simp [hh]
     refine r9find_ (ps := cellsF 0 s.ns) (by rw [cellsF_length]; exact rT.cells.arg) (by rw [cellsF_length]; exact r.few) i.a (c.at i.s) (Co.at_lt cok i.s) ?_
     rw [findZ_addr,ha]
     simp (maxSteps := 2000000) (implicitDefEqProofs := false) [-getElem?_pos, -getElem?_neg, F, D, P, C0, E, NE, M, setNe, setEq, List.getElem?_append_left, List.length_set, hTl, y4, hvW, hn', hwv, hfw, hal, hal', ha0, wpc, wi, cset, f1, add_u32, splice_more, List.set_set, cpcw, L5, p1', p0', p10, c20, c21, V, ek, ew, hb0, hb1, NB, NC, x0', hto]
     exact stayR _ (by simp only [NB,NC,NE,M,E,setNe,setEq,List.getElem?_append_left,List.length_set,hTl]) (by simp only [NB,NC,NE,M,E,setNe,setEq,List.getElem?_append_left,List.length_set,hTl]) (fun y h1 h2 h3 => by simp only [no' (Ne.symm h2),no' (show H.length + 1 ≠ y by omega),no' (show H.length ≠ y by omega),no' (Ne.symm h3),setNe,List.getElem?_append_left,List.length_set,hTl,show y < H.length + 4 by omega,h1]) (by simp [hT4]; omega)
  have hacc : accC c i s.ws a late = ⟨(c.put i.d w).go i.to,s.ws,false,false⟩ := by
   unfold accC
   simp only [c21,hgd]
   rw [if_neg hh,if_neg hl]
   simp
  have hlt : late = true ∧ ¬ i.to < 0 := by
   cases late with
   | false => exact absurd (.inl rfl) hl
   | true => exact ⟨rfl,fun h => hl (.inr h)⟩
  obtain ⟨rfl,hto⟩ := hlt
  rcases (show i.k = 0 ∨ i.k = 1 by omega) with ek | ek
  ·have ew : ((w : Int) = (c.at i.t : Int)) = False := by simp [ek] at hh; simp; omega
   refine r9find_ (ps := cellsF 0 s.ns) (by rw [cellsF_length]; exact rT.cells.arg) (by rw [cellsF_length]; exact r.few) i.a (c.at i.s) (Co.at_lt cok i.s) ?_
   rw [findZ_addr,ha]
   simp (maxSteps := 2000000) (implicitDefEqProofs := false) [-getElem?_pos, -getElem?_neg, F, D, P, C0, E, NE, M, setNe, setEq, List.getElem?_append_left, List.length_set, hTl, y4, hvW, hn', hwv, hfw, hal, hal', ha0, wpc, wi, cset, f1, add_u32, splice_more, List.set_set, cpcw, L5, p1', p0', p10, c20, c21, V, ek, ew, hto, hb1]
   refine endR _ ((c.put i.d w).go i.to) (s.ws) 0 false hacc rfl (by simp [hT4]) (by simp only [NE,M,E,setNe,setEq,List.getElem?_append_left,List.length_set,hTl]) (by simp only [NE,M,E,setNe,setEq,List.getElem?_append_left,List.length_set,hTl]) (fun y h1 h2 h3 => by simp only [no' (Ne.symm h2),no' (show H.length + 1 ≠ y by omega),no' (Ne.symm h3),setNe,List.getElem?_append_left,List.length_set,hTl,show y < H.length + 4 by omega,h1]) (by simp only [NE,M,E,setNe,setEq,List.getElem?_append_left,List.length_set,hTl]) fun g vm hvv h0 hk => ?_
   obtain ⟨A9,L9,C9,rfl⟩ := last g vm _ hvv
   have hs0 := fun X => x0 (G := g) X (lt_get h0)
   unfold outK at hk ⊢
   simp (maxSteps := 2000000) (implicitDefEqProofs := false) [-getElem?_pos,-getElem?_neg,h0,hs0,splice_more]
   exact hk _
  ·have ew : ((w : Int) = (c.at i.t : Int)) = True := by simp [ek] at hh; simp [hh]
   refine r9find_ (ps := cellsF 0 s.ns) (by rw [cellsF_length]; exact rT.cells.arg) (by rw [cellsF_length]; exact r.few) i.a (c.at i.s) (Co.at_lt cok i.s) ?_
   rw [findZ_addr,ha]
   simp (maxSteps := 2000000) (implicitDefEqProofs := false) [-getElem?_pos, -getElem?_neg, F, D, P, C0, E, NE, M, setNe, setEq, List.getElem?_append_left, List.length_set, hTl, y4, hvW, hn', hwv, hfw, hal, hal', ha0, wpc, wi, cset, f1, add_u32, splice_more, List.set_set, cpcw, L5, p1', p0', p10, c20, c21, V, ek, ew, hto, hb1]
   refine endR _ ((c.put i.d w).go i.to) (s.ws) 0 false hacc rfl (by simp [hT4]) (by simp only [NE,M,E,setNe,setEq,List.getElem?_append_left,List.length_set,hTl]) (by simp only [NE,M,E,setNe,setEq,List.getElem?_append_left,List.length_set,hTl]) (fun y h1 h2 h3 => by simp only [no' (Ne.symm h2),no' (show H.length + 1 ≠ y by omega),no' (Ne.symm h3),setNe,List.getElem?_append_left,List.length_set,hTl,show y < H.length + 4 by omega,h1]) (by simp only [NE,M,E,setNe,setEq,List.getElem?_append_left,List.length_set,hTl]) fun g vm hvv h0 hk => ?_
   obtain ⟨A9,L9,C9,rfl⟩ := last g vm _ hvv
   have hs0 := fun X => x0 (G := g) X (lt_get h0)
   unfold outK at hk ⊢
   simp (maxSteps := 2000000) (implicitDefEqProofs := false) [-getElem?_pos,-getElem?_neg,h0,hs0,splice_more]
   exact hk _
end Ex
end Go.Proofs.Ytongllppbifiaaa
