import Derived.Test.YtongllppbifiaaaW24
namespace Go.Proofs.Ytongllppbifiaaa
namespace Ex
open Go Abs Code
open Px (natV natV_length natV_get VecV nm u32w i64w PS poolB)
attribute [local simp] DN5 HA DN NB begT atHead kd wantedA evP evR evF evL evC evI evBin evUn evEq evSt evRes plain scp scpA scpL rdRow_eq RV rdCells veq veqA veqL isHole Value.cells evalL optI evBounds evFill evFillR evApp newsOf wrCells one1 fitsApp evClr undef onB_bool List.getElem?_concat_length List.getElem?_cons_zero List.getElem?_cons_succ List.getElem?_toArray List.getElem?_nil List.set_cons_zero List.set_cons_succ List.cons_append List.nil_append
set_option linter.unusedVariables false
set_option linter.unusedSimpArgs false
set_option maxRecDepth 100000
theorem runF_ok {L : List In} (hI : ∀ i ∈ L,i.Ok) {self : Nat} (hs : self < 4294967296) : ∀ (f : Nat) (c : Co) (ms : List Nat),c.Ok → (runF L self f c ms).c.Ok := by
  intro f
  induction f with
  | zero =>
    intro c ms ok
    cases hf : fetch L c.pc with
    | none => rw [runF_out hf]; exact ok
    | some i =>
      by_cases h : 16 ≤ i.op
      · rw [runF_mem hf h]; exact ok
      · rw [runF_far hf h]; exact ok
  | succ f ih =>
    intro c ms ok
    cases hf : fetch L c.pc with
    | none => rw [runF_out hf]; exact ok
    | some i =>
      have iok : i.Ok := hI i (by unfold fetch at hf; split at hf; · cases hf
                                  · exact List.mem_of_getElem? hf)
      by_cases h : 16 ≤ i.op
      · rw [runF_mem hf h]; exact ok
      · by_cases h13 : i.op = 13
        · rw [runF_done hf h h13]; exact ok
        · rw [runF_step hf h h13]; exact ih _ _ (stepC_ok ok iok hs)
set_option maxHeartbeats 4000000 in
theorem xrun_ {H : AH} {N : Nm} {s : ES PS} (r : XAt H N s) (t : Nat) (ht : t < s.cs.length) (c : Co) (hc : c.Ok) (addr : Int) (wrote : Bool) {K : Value → AH → Prop} (hK : OutIs H N (goOn s t c addr wrote).1 (goOn s t c addr wrote).2 K) :
  AC Try.prog 26 [.pointer (some ⟨N.x,0,none⟩),.int .i64 t,c.v,.agg #[.slice none 0 0,.int .i64 0,.int .i64 addr,.bool wrote,.bool false,.int .i64 0]] H K := by
 refine entry hmix cf26 ?_
 have hcl := cs_length hc.len
 have hct := cs_take hc.len
 have q1 : ∀ c : Co,c.v = .agg c.cs.toArray := fun _ => rfl
 rw [q1 c]
 have hs : t < 4294967296 := by have := r.ok.few; omega
 obtain ⟨T3,hT3⟩ : ∃ T3 : AH,T3 = [.cells c.cs 52 none,.cells [.slice none 0 0,.int .i64 0,.int .i64 addr,.bool wrote,.bool false,.int .i64 0] 46 none,.cells [.slice none 0 0,.int .i64 0,.int .i64 0,.bool false,.bool false,.int .i64 0] 46 none] := ⟨_,rfl⟩
 have x1 : Ext H (H ++ T3) := Ext.app _ _
 have r1 := r.ext x1
 have b1 := r1.box
 have hlen : (H ++ T3).length = H.length + 3 := by rw [hT3]; simp
 rw [hT3] at b1
 simp (maxSteps := 2000000) (implicitDefEqProofs := false) [-getElem?_pos,-getElem?_neg,hcl,hct,b1]
 refine run_ s.L r.ok.len r.ok.ins c hc t hs _ N.bL N.capL _ _ (by have := r1.code; rw [hT3] at this; exact this) _ _ ?_
 rw [← hT3]
 intro g vm xg hv hnm
 obtain ⟨R,hR⟩ : ∃ R,runC s.L t c = R := ⟨_,rfl⟩
 have hRok : R.c.Ok := by rw [← hR]; exact runF_ok r.ok.ins hs _ _ _ hc
 have hgo1 : (goOn s t c addr wrote).1 = { s with cs := s.cs.set t R.c } := by unfold goOn; rw [hR]
 have hgo2 : (goOn s t c addr wrote).2 = ⟨R.ms,R.done,addr,wrote,false,R.e⟩ := by unfold goOn; rw [hR]
 rw [hgo1,hgo2] at hK
 rw [hR] at hv ⊢
 obtain ⟨A9,L9,C9,hvm⟩ := hv.slice
 subst hvm
 have r2 := r1.ext xg
 have r3 := r2.setC (t := t) R.c hRok
 have b2 := r2.box
 have c2 := r2.cores
 have o2 : g[H.length + 1]? = some (.cells [.slice none 0 0,.int .i64 0,.int .i64 addr,.bool wrote,.bool false,.int .i64 0] 46 none) := xg.get (by rw [HA.1,hT3]; rfl)
 have z2 : g[H.length + 2]? = some (.cells [.slice none 0 0,.int .i64 0,.int .i64 0,.bool false,.bool false,.int .i64 0] 46 none) := xg.get (by rw [HA.1,hT3]; rfl)
 have hbc : N.bc < H.length := lt_get r.cores
 have hall : ∀ y ∈ N.all,y < H.length := r.lt
 have hgl := xg.len
 rw [hlen] at hgl
 have hrl := cs_length hRok.len
 have hro := cs_one R.c
 have hrow := rowC_set r.ok.cores ht hRok
 have hfit : t * 9 + 9 ≤ (rowC s.cs).length := by rw [rowC_length r.ok.cores]; omega
 have htl : (t : Int) < s.cs.length := by omega
 obtain ⟨D,hD⟩ : ∃ D : ABlk,D = .cells (rowC (s.cs.set t R.c)) 52 none := ⟨_,rfl⟩
 have s1 : (g.set N.bc D)[H.length + 1]? = _ := getS o2 N.bc (by omega) D
 have s2 : (g.set N.bc D)[H.length + 2]? = _ := getS z2 N.bc (by omega) D
 have s3 : ∀ X,((g.set N.bc D).set (H.length + 1) X)[H.length + 1]? = some X := fun X => List.getElem?_set_self (by rw [List.length_set]; omega)
 have s4 : ∀ X,((g.set N.bc D).set (H.length + 1) X)[H.length + 2]? = _ := fun X => getS s2 (H.length + 1) (by omega) X
 have s5 : ∀ X Y,(((g.set N.bc D).set (H.length + 1) X).set (H.length + 2) Y)[H.length + 2]? = some Y := fun X Y => List.getElem?_set_self (by rw [List.length_set,List.length_set]; omega)
 have fin : ∀ X Y,K (outV (.slice A9 L9 C9) ⟨R.ms,R.done,addr,wrote,false,R.e⟩) (((g.set N.bc D).set (H.length + 1) X).set (H.length + 2) Y) := by
  intro X Y
  have kp : ∀ y,y < H.length → (((g.set N.bc D).set (H.length + 1) X).set (H.length + 2) Y)[y]? = (g.set N.bc D)[y]? := fun y hy => by rw [List.getElem?_set_ne (by omega),List.getElem?_set_ne (by omega)]
  refine hK _ _ ((by rw [hD]; exact r3 : XAt (g.set N.bc D) N _).keep fun y hy => kp y (hall y hy)) ⟨by simp only [List.length_set]; omega,fun y hy hn => ?_,fun y hy => .inl hy⟩ (hv.keep fun y hy hyl => ?_) fun y hy => by have := hnm y hy; omega
  ·rw [kp y hy,List.getElem?_set_ne (fun e => hn (by rw [← e]; simp [Nm.all])),xg.keep y (by omega),x1.keep y hy]
  ·have := hnm y hy
   rw [List.getElem?_set_ne (by omega),List.getElem?_set_ne (by omega),List.getElem?_set_ne (by omega)]
 rw [q1]
 simp (maxSteps := 2000000) (implicitDefEqProofs := false) [-getElem?_pos,-getElem?_neg,b2,c2,hrl,hro,hrow,hfit,ht,htl,← hD,s1,s2,s3,s4,s5,splice_more]
 exact fin _ _
theorem outIs_lift {H : AH} {T : AH} {N : Nm} {s' : ES PS} {o : OutR} {K : Value → AH → Prop} (hall : ∀ y ∈ N.all,y < H.length) (hK : OutIs H N s' o K) {g : AH} {vm : Value} (rg : XAt g N s') (u : Upd N.all (H ++ T) N.all g) (hv : VecV g vm (natV o.ms) tI) (hnm : ∀ c ∈ nm vm,(H ++ T).length ≤ c) {b : Nat} (hb : H.length ≤ b) (hb2 : b < (H ++ T).length) (X : ABlk) : K (outV vm o) (g.set b X) := by
 have hl := u.len
 rw [List.length_append] at hl hb2
 refine hK _ _ (rg.keep fun y hy => ?_) ⟨by rw [List.length_set]; omega,fun y hy hn => ?_,fun y hy => .inl hy⟩ (hv.keep fun y hy _ => ?_) fun y hy => ?_
 ·have := hall y hy
  rw [List.getElem?_set_ne (by omega)]
 ·rw [List.getElem?_set_ne (by omega),u.keep y (by rw [List.length_append]; omega) hn,List.getElem?_append_left hy]
 ·have := hnm y hy
  rw [List.length_append] at this
  rw [List.getElem?_set_ne (by omega)]
 ·have := hnm y hy
  rw [List.length_append] at this
  omega
set_option maxHeartbeats 4000000 in
theorem xbegin_ {H : AH} {N : Nm} {s : ES PS} (r : XAt H N s) (t : Nat) (ht : t < s.cs.length) (unlock : Bool) {K : Value → AH → Prop} (hK : OutIs H N (beginX s t unlock).1 (beginX s t unlock).2 K) :
  AC Try.prog 10 [.pointer (some ⟨N.x,0,none⟩),.int .i64 t,.bool unlock] H K := by
 refine entry hmix cf10 ?_
 obtain ⟨c,hc⟩ : ∃ c,s.cs[t]? = some c := ⟨_,List.getElem?_eq_getElem ht⟩
 have cok := r.ok.cores c (List.mem_of_getElem? hc)
 have hcl := cs_length cok.len
 have hct := cs_take cok.len
 have hone := cs_one c
 have q1 : ∀ c : Co,c.v = .agg c.cs.toArray := fun _ => rfl
 have hb : beginX s t unlock = goOn s t (c.go (if unlock then s.uk else s.lk)) (-1) false := by unfold beginX; rw [hc]
 rw [hb] at hK
 have hrow := rowC_at r.ok.cores hc
 have hfit : t * 9 + 9 ≤ (rowC s.cs).length := by rw [rowC_length r.ok.cores]; omega
 have htl : (t : Int) < s.cs.length := by omega
 have hsp : splice zero9 0 c.cs = c.cs := cs_splice cok.len rfl
 have g8 := fun p => cs_set8 cok.len p
 have gl : ∀ p,(c.go p).r.length = 8 := fun _ => cok.len
 have gl2 := fun p => cs_length (gl p)
 have gt2 := fun p => cs_take (gl p)
 have go2 := fun p => cs_one (c.go p)
 have gg : ∀ p q,(c.go p).cs.set 8 (.int .i64 q) = (c.go q).cs := fun p q => cs_set8 (gl p) q
 have f0 : ∀ tl,(H ++ tl)[N.x]? = _ := fun tl => getA r.box tl
 have f1 : ∀ tl,(H ++ tl)[N.bc]? = _ := fun tl => getA r.cores tl
 obtain ⟨p', hp'⟩ : ∃ p', (if unlock then s.uk else s.lk) = p' := ⟨_, rfl⟩
 rw [hp'] at hK
 obtain ⟨T,hT⟩ : ∃ T : AH,T = [.cells [.slice none 0 0,.int .i64 0,.int .i64 0,.bool false,.bool false,.int .i64 0] 46 none,.cells (c.go p').cs 52 none] := ⟨_,rfl⟩
 have fin : ∀ {K2 : Value → AH → Prop},(∀ g vm,XAt g N (goOn s t (c.go p') (-1) false).1 → VecV g vm (natV (goOn s t (c.go p') (-1) false).2.ms) tI → (g[H.length]? = some (.cells [.slice none 0 0,.int .i64 0,.int .i64 0,.bool false,.bool false,.int .i64 0] 46 none)) → (∀ X,K (outV vm (goOn s t (c.go p') (-1) false).2) (g.set H.length X)) → K2 (outV vm (goOn s t (c.go p') (-1) false).2) g) → AC Try.prog 26 [.pointer (some ⟨N.x,0,none⟩),.int .i64 t,(c.go p').v,.agg #[.slice none 0 0,.int .i64 0,.int .i64 (-1),.bool false,.bool false,.int .i64 0]] (H ++ T) K2 := by
  intro K2 hk
  refine xrun_ (r.ext (Ext.app H T)) t ht (c.go p') ⟨cok.len,cok.lt⟩ (-1) false ?_
  intro g vm rg u hv hnm
  have hl2 : H.length < (H ++ T).length := by rw [hT]; simp
  refine hk g vm rg hv ?_ fun X => outIs_lift r.lt hK rg u hv hnm (Nat.le_refl _) hl2 X
  rw [u.keep H.length hl2 (fun hm => by have := r.lt _ hm; omega),HA.2.1,hT]
  rfl
 rw [hT] at fin
 have last : ∀ g vm,VecV g vm (natV (goOn s t (c.go p') (-1) false).2.ms) tI → ∃ A L C,vm = .slice A L C := fun g vm hv => hv.slice
 cases unlock with
 | true =>
  have hp2 : s.uk = p' := hp'
  simp (maxSteps := 2000000) (implicitDefEqProofs := false) [-getElem?_pos,-getElem?_neg,f0,f1,hrow,hfit,ht,htl,hcl,hct,hone,hsp,g8,gl2,gt2,go2,gg,hp2]
  refine fin fun g vm rg hv h0 hk => ?_
  obtain ⟨A9,L9,C9,rfl⟩ := last g vm hv
  have hgl := lt_get h0
  have hs0 : ∀ X,(g.set H.length X)[H.length]? = some X := fun X => List.getElem?_set_self hgl
  unfold outV at hk ⊢
  simp (maxSteps := 2000000) (implicitDefEqProofs := false) [-getElem?_pos,-getElem?_neg,h0,hs0,splice_more]
  exact hk _
 | false =>
  have hp2 : s.lk = p' := hp'
  simp (maxSteps := 2000000) (implicitDefEqProofs := false) [-getElem?_pos,-getElem?_neg,f0,f1,hrow,hfit,ht,htl,hcl,hct,hone,hsp,g8,gl2,gt2,go2,gg,hp2]
  refine fin fun g vm rg hv h0 hk => ?_
  obtain ⟨A9,L9,C9,rfl⟩ := last g vm hv
  have hgl := lt_get h0
  have hs0 : ∀ X,(g.set H.length X)[H.length]? = some X := fun X => List.getElem?_set_self hgl
  unfold outV at hk ⊢
  simp (maxSteps := 2000000) (implicitDefEqProofs := false) [-getElem?_pos,-getElem?_neg,h0,hs0,splice_more]
  exact hk _
end Ex
end Go.Proofs.Ytongllppbifiaaa
