import Derived.Test.YtongllppbifiaaaW39
import Derived.Test.YtongllppbifiaaaW46
import Derived.Test.YtongllppbifiaaaW43
namespace Go.Proofs.Ytongllppbifiaaa
namespace Ex
open Go Abs Code
open Px (natV natV_length natV_get VecV nm u32w i64w XS RepP)
attribute [local simp] DN5 HA DN NB begT atHead kd wantedA evP evR evF evL evC evI evBin evUn evEq evSt evRes plain scp scpA scpL rdRow_eq RV rdCells veq veqA veqL isHole Value.cells evalL optI evBounds evFill evFillR evApp newsOf wrCells one1 fitsApp evClr undef onB_bool List.getElem?_concat_length List.getElem?_cons_zero List.getElem?_cons_succ List.getElem?_toArray List.getElem?_nil List.set_cons_zero List.set_cons_succ List.cons_append List.nil_append
set_option linter.unusedVariables false
set_option linter.unusedSimpArgs false
set_option maxRecDepth 100000
def rowK (cs : List Co) : List Value := cs.flatMap Co.cr
theorem rowK_cons (c : Co) (cs : List Co) : rowK (c :: cs) = c.cr ++ rowK cs := rfl
theorem rowK_length {cs : List Co} (h : ∀ c ∈ cs,c.Ok) : (rowK cs).length = cs.length * 9 := by
 induction cs with
 | nil => rfl
 | cons c cs ih =>
  rw [rowK_cons,List.length_append,cr_length (h c List.mem_cons_self).len,ih fun d hd => h d (List.mem_cons_of_mem _ hd),List.length_cons]
  omega
theorem rowK_at {cs : List Co} (h : ∀ c ∈ cs,c.Ok) {t : Nat} {c : Co} (ht : cs[t]? = some c) : ((rowK cs).drop (t * 9)).take 9 = c.cr := by
 induction cs generalizing t with
 | nil => simp at ht
 | cons d cs ih =>
  have hd := cr_length (h d List.mem_cons_self).len
  cases t with
  | zero =>
   simp at ht
   subst ht
   rw [rowK_cons,Nat.zero_mul,List.drop_zero,List.take_left' hd]
  | succ t =>
   rw [rowK_cons,show (t + 1) * 9 = 9 + t * 9 by omega,← List.drop_drop,List.drop_left' hd]
   exact ih (fun e he => h e (List.mem_cons_of_mem _ he)) (by simpa using ht)
theorem rowK_set {cs : List Co} (h : ∀ c ∈ cs,c.Ok) {t : Nat} (ht : t < cs.length) {c : Co} (hc : c.Ok) : splice (rowK cs) (t * 9) c.cr = rowK (cs.set t c) := by
 have hl := cr_length hc.len
 have e : splice (rowK cs) (t * 9) c.cr = (rowK cs).take (t * 9) ++ c.cr ++ (rowK cs).drop (t * 9 + 9) := by
  unfold splice
  split
  ·rename_i v e
   rw [e] at hl
   simp at hl
  ·rw [hl]
 rw [e]
 clear e
 induction cs generalizing t with
 | nil => simp at ht
 | cons d cs ih =>
  have hd := cr_length (h d List.mem_cons_self).len
  cases t with
  | zero => simp [rowK_cons,List.drop_left' hd]
  | succ t =>
   have := ih (fun e he => h e (List.mem_cons_of_mem _ he)) (t := t) (by simpa using ht)
   rw [List.set_cons_succ,rowK_cons,rowK_cons,← this]
   have e1 : (t + 1) * 9 = 9 + t * 9 := by omega
   rw [e1,List.take_append,List.take_of_length_le (by omega),hd,Nat.add_sub_cancel_left]
   rw [show 9 + t * 9 + 9 = 9 + (t * 9 + 9) by omega,← List.drop_drop,List.drop_left' hd]
   simp [List.append_assoc]
structure NmR where
 y : Nat
 bL : Nat
 bc : Nat
 p : Nat
 ps : List Nat
 vC : Value
 vW : Value
 capL : Nat
 capC : Nat
 acc : Int
def NmR.all (N : NmR) : List Nat := N.y :: N.bL :: N.bc :: (nm N.vC ++ (nm N.vW ++ N.ps))
theorem NmR.mem {N : NmR} {c : Nat} : c ∈ N.all ↔ c = N.y ∨ c = N.bL ∨ c = N.bc ∨ c ∈ nm N.vC ∨ c ∈ nm N.vW ∨ c ∈ N.ps := by simp [NmR.all]
structure RAt (g : AH) (N : NmR) (s : ES XS) : Prop where
 box : g[N.y]? = some (.cells [.slice (some ⟨N.bL,0,none⟩) s.L.length N.capL,.int .i64 s.lk,.int .i64 s.uk,N.vC,N.vW,.pointer (some ⟨N.p,0,none⟩),.slice (some ⟨N.bc,0,none⟩) s.cs.length N.capC,.int .i64 N.acc] 97 none)
 code : g[N.bL]? = some (.cells (rowI s.L) 102 (some 8))
 cells : VecN 2 g N.vC s.ns.sum (rowP (cellsF 0 s.ns)) 111
 words : VecN 1 g N.vW s.ws.length (w32 s.ws) 49
 pool : RepP g N.p N.ps s.pl
 cores : g[N.bc]? = some (.cells (rowK s.cs) 100 (some 9))
 nd : N.all.Nodup
 few : s.ns.sum ≤ 100000
 ok : OkE s
theorem RepP.lt {g : AH} {b : Nat} {ns : List Nat} {s : XS} (r : RepP g b ns s) : ∀ c ∈ ns,c < g.length := by
 intro c hc
 cases r with
 | zero bF e r =>
  subst e
  simp only [List.mem_cons,List.not_mem_nil,or_false] at hc
  rcases hc with rfl | rfl
  ·exact lt_get r.h0
  ·exact lt_get r.hF
 | more bF bG bO bs fv e r =>
  subst e
  simp only [List.mem_cons] at hc
  rcases hc with rfl | rfl | rfl | rfl | hc
  ·exact lt_get r.h0
  ·exact lt_get r.hF
  ·exact lt_get r.hG
  ·exact lt_get r.hO
  ·obtain ⟨t,ht⟩ := List.getElem?_of_mem hc
   have h1 := (List.getElem?_eq_some_iff.1 ht).1
   rw [r.lb] at h1
   obtain ⟨v, c', _, h3, h4⟩ := r.rows t _ (List.getElem?_eq_getElem h1)
   rw [ht] at h3
   obtain rfl := Option.some.inj h3
   obtain ⟨k,hk⟩ := h4.get
   exact lt_get hk
theorem RAt.lt {g : AH} {N : NmR} {s : ES XS} (r : RAt g N s) : ∀ c ∈ N.all,c < g.length := by
 intro c hc
 rcases NmR.mem.1 hc with rfl | rfl | rfl | h | h | h
 ·exact lt_get r.box
 ·exact lt_get r.code
 ·exact lt_get r.cores
 ·exact r.cells.lt c h
 ·exact r.words.lt c h
 ·exact RepP.lt r.pool c h
theorem RAt.keep {g g' : AH} {N : NmR} {s : ES XS} (r : RAt g N s) (h : ∀ c ∈ N.all,g'[c]? = g[c]?) : RAt g' N s := by
 have m := fun c => NmR.mem (N := N) (c := c)
 exact ⟨by rw [h _ ((m _).2 (by simp))]; exact r.box,by rw [h _ ((m _).2 (by simp))]; exact r.code,r.cells.keep fun c hc _ => h c ((m c).2 (by simp [hc])),r.words.keep fun c hc _ => h c ((m c).2 (by simp [hc])),Px.RepP.keep r.pool fun c hc => h c ((m c).2 (by simp [hc])),by rw [h _ ((m _).2 (by simp))]; exact r.cores,r.nd,r.few,r.ok⟩
theorem RAt.ext {g g' : AH} {N : NmR} {s : ES XS} (r : RAt g N s) (h : Ext g g') : RAt g' N s := r.keep fun c hc => h.keep c (r.lt c hc)
structure Apart (N : NmR) : Prop where
 bL : N.bL ≠ N.y
 bc : N.bc ≠ N.y
 bcL : N.bc ≠ N.bL
 vC : ∀ c ∈ nm N.vC,c ≠ N.y ∧ c ≠ N.bL ∧ c ≠ N.bc
 vW : ∀ c ∈ nm N.vW,c ≠ N.y ∧ c ≠ N.bL ∧ c ≠ N.bc ∧ c ∉ nm N.vC
 ps : ∀ c ∈ N.ps,c ≠ N.y ∧ c ≠ N.bL ∧ c ≠ N.bc ∧ c ∉ nm N.vC ∧ c ∉ nm N.vW
theorem RAt.apart {g : AH} {N : NmR} {s : ES XS} (r : RAt g N s) : Apart N := by
 have nd := r.nd
 unfold NmR.all at nd
 simp only [List.nodup_cons,List.mem_cons,List.mem_append,not_or,List.nodup_append] at nd
 obtain ⟨⟨n1,n2,n3,n4,n5⟩,⟨n6,n7,n8,n9⟩,⟨n10,n11,n12⟩,n13,⟨n14,n15,n16⟩,n17⟩ := nd
 refine ⟨fun e => n1 e.symm,fun e => n2 e.symm,fun e => n6 e.symm,fun c hc => ⟨fun e => n3 (e ▸ hc),fun e => n7 (e ▸ hc),fun e => n10 (e ▸ hc)⟩,fun c hc => ⟨fun e => n4 (e ▸ hc),fun e => n8 (e ▸ hc),fun e => n11 (e ▸ hc),fun h => n17 c h c (.inl hc) rfl⟩,fun c hc => ⟨fun e => n5 (e ▸ hc),fun e => n9 (e ▸ hc),fun e => n12 (e ▸ hc),fun h => n17 c h c (.inr hc) rfl,fun h => n16 c h c hc rfl⟩⟩
theorem RAt.setC {g : AH} {N : NmR} {s : ES XS} (r : RAt g N s) {t : Nat} (c : Co) (hc : c.Ok) : RAt (g.set N.bc (.cells (rowK (s.cs.set t c)) 100 (some 9))) N { s with cs := s.cs.set t c } := by
 have a := r.apart
 have ne : ∀ y,y ≠ N.bc → (g.set N.bc (.cells (rowK (s.cs.set t c)) 100 (some 9)))[y]? = g[y]? := fun y hy => List.getElem?_set_ne (fun e => hy e.symm)
 refine ⟨by rw [ne _ a.bc.symm]; simpa using r.box,by rw [ne _ a.bcL.symm]; exact r.code,r.cells.keep fun c hc _ => ne c (a.vC c hc).2.2,r.words.keep fun c hc _ => ne c (a.vW c hc).2.2.1,Px.RepP.keep r.pool fun c hc => ne c (a.ps c hc).2.2.1,List.getElem?_set_self (lt_get r.cores),r.nd,r.few,⟨r.ok.len,r.ok.ins,fun d hd => ?_,by simpa using r.ok.few,r.ok.words,r.ok.sum⟩⟩
 rcases List.mem_or_eq_of_mem_set hd with h | rfl
 ·exact r.ok.cores d h
 ·exact hc
def b2i (b : Bool) : Int := if b then 1 else 0
def outK (vm : Value) (o : OutR) : Value := .agg #[vm,.int .i64 o.done,.int .i64 o.addr,.int .i64 (b2i o.wrote),.int .i64 (b2i o.stay),.int .i64 o.e]
def OutIsR (H : AH) (N : NmR) (s : ES XS) (o : OutR) (K : Value → AH → Prop) : Prop := ∀ g N' vm,RAt g N' s → N'.y = N.y → Upd N.all H N'.all g → VecV g vm (natV o.ms) tI → (∀ c ∈ nm vm,H.length ≤ c) → K (outK vm o) g
set_option maxHeartbeats 4000000 in
theorem rrun_ {H : AH} {N : NmR} {s : ES XS} (r : RAt H N s) (t : Nat) (ht : t < s.cs.length) (c : Co) (hc : c.Ok) (addr : Int) (wrote : Bool) {K : Value → AH → Prop} (hK : ∀ g vm,RAt g N (goOn s t c addr wrote).1 → Upd N.all H N.all g → VecV g vm (natV (goOn s t c addr wrote).2.ms) tI → (∀ c ∈ nm vm,H.length ≤ c) → K (outK vm (goOn s t c addr wrote).2) g) :
  AC Try.prog 34 [.pointer (some ⟨N.y,0,none⟩),.int .i64 t,c.vr,.agg #[.slice none 0 0,.int .i64 0,.int .i64 addr,.int .i64 (b2i wrote),.int .i64 0,.int .i64 0]] H K := by
 refine entry hmix cf34 ?_
 have hcl := cr_length hc.len
 have hct := cr_take hc.len
 have hone := cr_one c
 have q1 : ∀ c : Co,c.vr = .agg c.cr.toArray := fun _ => rfl
 rw [q1 c]
 have hs : t < 4294967296 := by have := r.ok.few; omega
 obtain ⟨wr,hwr⟩ : ∃ wr,b2i wrote = wr := ⟨_,rfl⟩
 obtain ⟨T3,hT3⟩ : ∃ T3 : AH,T3 = [.cells c.cr 100 none,.cells [.slice none 0 0,.int .i64 0,.int .i64 addr,.int .i64 wr,.int .i64 0,.int .i64 0] 60 none,.cells [.slice none 0 0,.int .i64 0,.int .i64 0,.int .i64 0,.int .i64 0,.int .i64 0] 60 none,.hole] := ⟨_,rfl⟩
 have x1 : Ext H (H ++ T3) := Ext.app _ _
 have r1 := r.ext x1
 have b1 := r1.box
 have hlen : (H ++ T3).length = H.length + 4 := by rw [hT3]; simp
 have b0 : ∀ tl,(H ++ tl)[N.y]? = _ := fun tl => getA r.box tl
 rw [hwr]
 simp (maxSteps := 2000000) (implicitDefEqProofs := false) [-getElem?_pos,-getElem?_neg,hcl,hct,hone,b0]
 refine refrun_ s.L r.ok.len r.ok.ins c hc t hs _ N.bL N.capL _ _ (by have := r1.code; rw [hT3] at this; exact this) _ _ ?_
 rw [← hT3]
 intro g vm xg hv hnm
 obtain ⟨R,hR⟩ : ∃ R,runC s.L t c = R := ⟨_,rfl⟩
 have hRok : R.c.Ok := by rw [← hR]; exact runF_ok r.ok.ins hs _ _ _ hc
 have hgo1 : (goOn s t c addr wrote).1 = { s with cs := s.cs.set t R.c } := by unfold goOn; rw [hR]
 have hgo2 : (goOn s t c addr wrote).2 = ⟨R.ms,R.done,addr,wrote,false,R.e⟩ := by unfold goOn; rw [hR]
 rw [hgo1,hgo2] at hK
 rw [hR] at hv ⊢
 obtain ⟨A9,L9,C9,hvm⟩ := hv.slice
 subst hvm
 have r2 := r1.ext xg
 have r3 := r2.setC (t := t) R.c hRok
 have o2 : g[H.length + 1]? = some (.cells [.slice none 0 0,.int .i64 0,.int .i64 addr,.int .i64 wr,.int .i64 0,.int .i64 0] 60 none) := xg.get (by rw [HA.1,hT3]; rfl)
 have z2 : g[H.length + 2]? = some (.cells [.slice none 0 0,.int .i64 0,.int .i64 0,.int .i64 0,.int .i64 0,.int .i64 0] 60 none) := xg.get (by rw [HA.1,hT3]; rfl)
 have hbc : N.bc < H.length := lt_get r.cores
 have hall : ∀ y ∈ N.all,y < H.length := r.lt
 have hgl := xg.len
 rw [hlen] at hgl
 have hrl := cr_length hRok.len
 have hrt := cr_take hRok.len
 have hro := cr_one R.c
 have hrow := rowK_set r.ok.cores ht hRok
 have hfit : t * 9 + 9 ≤ (rowK s.cs).length := by rw [rowK_length r.ok.cores]; omega
 have htl : (t : Int) < s.cs.length := by omega
 have hsp : splice zero9r 0 R.c.cr = R.c.cr := cr_splice hRok.len rfl
 have e2 : g[H.length + 3]? = some .hole := xg.get (by rw [HA.1,hT3]; rfl)
 obtain ⟨D,hD⟩ : ∃ D : ABlk,D = .cells (rowK (s.cs.set t R.c)) 100 (some 9) := ⟨_,rfl⟩
 obtain ⟨g1,hg1⟩ : ∃ g1,g.set (H.length + 3) (ABlk.cells R.c.cr 100 none) = g1 := ⟨_,rfl⟩
 have g1l : g1.length = g.length := by rw [← hg1]; simp
 have g0s : ∀ X,(g.set (H.length + 3) X)[H.length + 3]? = some X := fun X => List.getElem?_set_self (by omega)
 have k0 := getS r2.box (H.length + 3) (by have := hall N.y (by simp [NmR.all]); omega) (ABlk.cells R.c.cr 100 none)
 rw [hg1] at k0
 have k1 := getS r2.cores (H.length + 3) (by omega) (ABlk.cells R.c.cr 100 none)
 rw [hg1] at k1
 have k2 := getS o2 (H.length + 3) (by omega) (ABlk.cells R.c.cr 100 none)
 rw [hg1] at k2
 have k3 := getS z2 (H.length + 3) (by omega) (ABlk.cells R.c.cr 100 none)
 rw [hg1] at k3
 have k4 : g1[H.length + 3]? = some (ABlk.cells R.c.cr 100 none) := by rw [← hg1]; exact g0s _
 have s1 : (g1.set N.bc D)[H.length + 1]? = _ := getS k2 N.bc (by omega) D
 have s2 : (g1.set N.bc D)[H.length + 2]? = _ := getS k3 N.bc (by omega) D
 have s3 : ∀ X,((g1.set N.bc D).set (H.length + 1) X)[H.length + 1]? = some X := fun X => List.getElem?_set_self (by rw [List.length_set]; omega)
 have s4 : ∀ X,((g1.set N.bc D).set (H.length + 1) X)[H.length + 2]? = _ := fun X => getS s2 (H.length + 1) (by omega) X
 have s5 : ∀ X Y,(((g1.set N.bc D).set (H.length + 1) X).set (H.length + 2) Y)[H.length + 2]? = some Y := fun X Y => List.getElem?_set_self (by rw [List.length_set,List.length_set]; omega)
 have fin : ∀ X Y,K (outK (.slice A9 L9 C9) ⟨R.ms,R.done,addr,wrote,false,R.e⟩) (((g1.set N.bc D).set (H.length + 1) X).set (H.length + 2) Y) := by
  intro X Y
  have kp : ∀ y,y < H.length → (((g1.set N.bc D).set (H.length + 1) X).set (H.length + 2) Y)[y]? = (g.set N.bc D)[y]? := fun y hy => by
   rw [List.getElem?_set_ne (by omega),List.getElem?_set_ne (by omega),← hg1]
   by_cases e : N.bc = y
   ·subst e
    rw [List.getElem?_set_self (by simp; omega),List.getElem?_set_self (by omega)]
   ·rw [List.getElem?_set_ne e,List.getElem?_set_ne e,List.getElem?_set_ne (by omega)]
  refine hK _ _ ((by rw [hD]; exact r3 : RAt (g.set N.bc D) N _).keep fun y hy => kp y (hall y hy)) ⟨by simp only [List.length_set]; omega,fun y hy hn => ?_,fun y hy => .inl hy⟩ (hv.keep fun y hy hyl => ?_) fun y hy => by have := hnm y hy; omega
  ·rw [kp y hy,List.getElem?_set_ne (fun e => hn (by rw [← e]; simp [NmR.all])),xg.keep y (by omega),x1.keep y hy]
  ·have := hnm y hy
   rw [List.getElem?_set_ne (by omega),List.getElem?_set_ne (by omega),List.getElem?_set_ne (by omega),← hg1,List.getElem?_set_ne (by omega)]
 have fin2 : ∀ X Y,K (.agg #[.slice A9 L9 C9,.int .i64 R.done,.int .i64 addr,.int .i64 wr,.int .i64 0,.int .i64 R.e]) (((g1.set N.bc D).set (H.length + 1) X).set (H.length + 2) Y) := by
  intro X Y
  have := fin X Y
  unfold outK at this
  rw [hwr] at this
  exact this
 rw [q1]
 simp (maxSteps := 2000000) (implicitDefEqProofs := false) [-getElem?_pos,-getElem?_neg,hrl,hrt,hro,hsp,e2,g0s,hg1,k0,k1,k2,k3,k4,hrow,hfit,ht,htl,← hD,s1,s2,s3,s4,s5,splice_more]
 exact fin2 _ _
theorem outR_lift {H G : AH} {N N1 N2 : NmR} {s' : ES XS} {o : OutR} {K : Value → AH → Prop} (hall : ∀ y ∈ N.all,y < H.length) (hK : OutIsR H N s' o K) (uG : Upd N.all H N1.all G) {g : AH} {vm : Value} (rg : RAt g N2 s') (hy : N2.y = N.y) (u : Upd N1.all G N2.all g) (hv : VecV g vm (natV o.ms) tI) (hnm : ∀ c ∈ nm vm,G.length ≤ c) {b : Nat} (hb : H.length ≤ b) (hb2 : b < G.length) (hn1 : b ∉ N1.all) (X : ABlk) : K (outK vm o) (g.set b X) := by
 have hl := u.len
 have hl2 := uG.len
 have hbn : b ∉ N2.all := fun h => by
  rcases u.new b h with h | h
  ·exact hn1 h
  ·omega
 refine hK _ N2 _ (rg.keep fun y hy => ?_) hy ⟨by rw [List.length_set]; omega,fun y hy hn => ?_,fun y hy => ?_⟩ (hv.keep fun y hy _ => ?_) fun y hy => ?_
 ·rw [List.getElem?_set_ne (fun e => hbn (by rw [e]; exact hy))]
 ·have h1 : y ∉ N1.all := fun h => by
   rcases uG.new y h with h | h
   ·exact hn h
   ·omega
  rw [List.getElem?_set_ne (by omega),u.keep y (by omega) h1,uG.keep y hy hn]
 ·rcases u.new y hy with h | h
  ·rcases uG.new y h with h | h
   ·exact .inl h
   ·exact .inr ⟨h.1,by rw [List.length_set]; omega⟩
  ·exact .inr ⟨by omega,by rw [List.length_set]; exact h.2⟩
 ·have := hnm y hy
  rw [List.getElem?_set_ne (by omega)]
 ·have := hnm y hy
  omega
abbrev zeroK : List Value := [.slice none 0 0,.int .i64 0,.int .i64 0,.int .i64 0,.int .i64 0,.int .i64 0]
abbrev trapK : List Value := [.slice none 0 0,.int .i64 (-1),.int .i64 (-1),.int .i64 0,.int .i64 0,.int .i64 11]
abbrev oK (l : List Value) : ABlk := .cells l 60 none
set_option maxHeartbeats 4000000 in
theorem rbegin_ {H : AH} {N : NmR} {s : ES XS} (r : RAt H N s) (t : Nat) (ht : t < s.cs.length) (unlock : Bool) {K : Value → AH → Prop} (hK : OutIsR H N (beginX s t unlock).1 (beginX s t unlock).2 K) :
  AC Try.prog 15 [.pointer (some ⟨N.y,0,none⟩),.int .i64 t,.int .i64 (b2i unlock)] H K := by
 refine entry hmix cf15 ?_
 have hall := r.lt
 obtain ⟨c,hc⟩ : ∃ c,s.cs[t]? = some c := ⟨_,List.getElem?_eq_getElem ht⟩
 have cok := r.ok.cores c (List.mem_of_getElem? hc)
 have hcl := cr_length cok.len
 have hct := cr_take cok.len
 have hone := cr_one c
 have q1 : ∀ c : Co,c.vr = .agg c.cr.toArray := fun _ => rfl
 have hb : beginX s t unlock = goOn s t (c.go (if unlock then s.uk else s.lk)) (-1) false := by unfold beginX; rw [hc]
 rw [hb] at hK
 have hrow := rowK_at r.ok.cores hc
 have hfit : t * 9 + 9 ≤ (rowK s.cs).length := by rw [rowK_length r.ok.cores]; omega
 have htl : (t : Int) < s.cs.length := by omega
 have hsp : splice zero9r 0 c.cr = c.cr := cr_splice cok.len rfl
 have g8 := fun p => cr_set8 cok.len p
 have gl : ∀ p,(c.go p).r.length = 8 := fun _ => cok.len
 have gl2 := fun p => cr_length (gl p)
 have gt2 := fun p => cr_take (gl p)
 have go2 := fun p => cr_one (c.go p)
 have gg : ∀ p q,(c.go p).cr.set 8 (.int .i64 q) = (c.go q).cr := fun p q => cr_set8 (gl p) q
 have f0 : ∀ tl,(H ++ tl)[N.y]? = _ := fun tl => getA r.box tl
 have f1 : ∀ tl,(H ++ tl)[N.bc]? = _ := fun tl => getA r.cores tl
 obtain ⟨p', hp'⟩ : ∃ p', (if unlock then s.uk else s.lk) = p' := ⟨_, rfl⟩
 rw [hp'] at hK
 have fin : ∀ {K2 : Value → AH → Prop},(∀ g vm,VecV g vm (natV (goOn s t (c.go p') (-1) false).2.ms) tI → g[H.length]? = some (oK zeroK) → (∀ X,K (outK vm (goOn s t (c.go p') (-1) false).2) (g.set H.length X)) → K2 (outK vm (goOn s t (c.go p') (-1) false).2) g) → AC Try.prog 34 [.pointer (some ⟨N.y,0,none⟩),.int .i64 t,.agg (c.go p').cr.toArray,.agg #[.slice none 0 0,.int .i64 0,.int .i64 (-1),.int .i64 0,.int .i64 0,.int .i64 0]] (H ++ [oK zeroK,.cells (c.go p').cr 100 none]) K2 := by
  intro K2 hk
  refine rrun_ (r.ext (Ext.app H _)) t ht (c.go p') ⟨cok.len,cok.lt⟩ (-1) false ?_
  intro g vm rg u hv hnm
  have hn : H.length ∉ N.all := fun h => Nat.lt_irrefl _ (hall _ h)
  refine hk g vm hv (u.get (by rw [HA.2.1]; rfl) hn) fun X => outR_lift hall hK ⟨by simp,fun y hy _ => List.getElem?_append_left hy,fun y hy => .inl hy⟩ rg rfl u hv hnm (Nat.le_refl _) (by simp) hn X
 have last : ∀ g vm ms,VecV g vm (natV ms) tI → ∃ A L C,vm = .slice A L C := fun g vm ms hv => hv.slice
 cases unlock with
 | true =>
  have hp2 : s.uk = p' := hp'
  have hbi : b2i true = 1 := rfl
  simp (maxSteps := 2000000) (implicitDefEqProofs := false) [-getElem?_pos,-getElem?_neg,hbi,f0,f1,hrow,hfit,ht,htl,hcl,hct,hone,hsp,g8,gl2,gt2,go2,gg,hp2]
  refine fin fun g vm hv h0 hk => ?_
  obtain ⟨A9,L9,C9,rfl⟩ := last g vm _ hv
  have hgl := lt_get h0
  have hs0 : ∀ X,(g.set H.length X)[H.length]? = some X := fun X => List.getElem?_set_self hgl
  unfold outK at hk ⊢
  simp (maxSteps := 2000000) (implicitDefEqProofs := false) [-getElem?_pos,-getElem?_neg,h0,hs0,splice_more]
  exact hk _
 | false =>
  have hp2 : s.lk = p' := hp'
  have hbi : b2i false = 0 := rfl
  simp (maxSteps := 2000000) (implicitDefEqProofs := false) [-getElem?_pos,-getElem?_neg,hbi,f0,f1,hrow,hfit,ht,htl,hcl,hct,hone,hsp,g8,gl2,gt2,go2,gg,hp2]
  refine fin fun g vm hv h0 hk => ?_
  obtain ⟨A9,L9,C9,rfl⟩ := last g vm _ hv
  have hgl := lt_get h0
  have hs0 : ∀ X,(g.set H.length X)[H.length]? = some X := fun X => List.getElem?_set_self hgl
  unfold outK at hk ⊢
  simp (maxSteps := 2000000) (implicitDefEqProofs := false) [-getElem?_pos,-getElem?_neg,h0,hs0,splice_more]
  exact hk _
end Ex
end Go.Proofs.Ytongllppbifiaaa
