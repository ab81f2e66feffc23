import Derived.Test.YtongllppbifiaaaW50
import Derived.Test.YtongllppbifiaaaW51
namespace Go.Proofs.Ytongllppbifiaaa
namespace Ex
open Go Abs Code
open Px (natV natV_length natV_get VecV nm u32w i64w XS PS RepP manyR rmany_)
attribute [local simp] DN5 HA DN NB begT atHead kd wantedA evP evR evF evL evC evI evBin evUn evEq evSt evRes plain scp scpA scpL rdRow_eq RV rdCells veq veqA veqL isHole Value.cells evalL optI evBounds evFill evFillR evApp newsOf wrCells one1 fitsApp evClr undef onB_bool List.getElem?_concat_length List.getElem?_cons_zero List.getElem?_cons_succ List.getElem?_toArray List.getElem?_nil List.set_cons_zero List.set_cons_succ List.cons_append List.nil_append
set_option linter.unusedVariables false
set_option linter.unusedSimpArgs false
set_option maxRecDepth 100000
theorem one10_ (b : Bool) {H : AH} {K : Value → AH → Prop} (hK : K (.int .i64 (b2i b)) H) : AC Try.prog 17 [.bool b] H K := by
 refine entry hmix cf17 ?_
 cases b
 ·simp (maxSteps := 2000000) (implicitDefEqProofs := false) [-getElem?_pos,-getElem?_neg]
  exact hK
 ·simp (maxSteps := 2000000) (implicitDefEqProofs := false) [-getElem?_pos,-getElem?_neg]
  exact hK
def l8s (c : Co) (k : Nat) : Co := ⟨c.r.take k ++ List.replicate (8 - k) 0,c.pc⟩
theorem l8s_len {c : Co} (h : c.r.length = 8) {k : Nat} (hk : k ≤ 8) : (l8s c k).r.length = 8 := by simp [l8s,h]; omega
theorem l8s_put {c : Co} (h : c.r.length = 8) {k v : Nat} (hv : c.r[k]? = some v) : (l8s c k).put k v = l8s c (k + 1) := by
 have hk := (List.getElem?_eq_some_iff.1 hv).1
 simp only [l8s,Co.put,Int.toNat_natCast,Co.mk.injEq,and_true]
 rw [List.set_append_right _ _ (by simp; omega),List.length_take,Nat.min_eq_left (by omega),Nat.sub_self,List.take_add_one,hv,show 8 - k = (8 - (k + 1)) + 1 by omega,List.replicate_succ]
 simp
def l8T (b : Nat) (v : Value) (k : Nat) : List (Nat × Value) := [(2,.pointer (some ⟨b + 1,0,none⟩)),(3,.pointer (some ⟨b + 2,0,none⟩)),(10,v),(11,.int .i64 k)]
theorem l8ref_ (c : Co) (ok : c.Ok) {H : AH} {K : Value → AH → Prop} (hK : ∀ g,Ext H g → K c.vr g) : AC Try.prog 39 [c.v] H K := by
 refine entry hmix cf39 ?_
 have q1 : c.v = .agg c.cs.toArray := rfl
 have hpc := cs_pc ok.len
 have hcl := cs_length ok.len
 rw [q1]
 have e0 : (l8s c 0).cr = [.int .i64 0,.int .i64 0,.int .i64 0,.int .i64 0,.int .i64 0,.int .i64 0,.int .i64 0,.int .i64 0,.int .i64 c.pc] := rfl
 simp (maxSteps := 2000000) (implicitDefEqProofs := false) [-getElem?_pos,-getElem?_neg,hpc,hcl,splice_more]
 rw [← e0]
 have ht8 : c.cs.take 8 = w32 c.r := by
  unfold Co.cs
  rw [List.take_append_of_le_length (by rw [w32_length,ok.len]; omega),List.take_of_length_le (by rw [w32_length,ok.len]; omega)]
 rw [ht8]
 obtain ⟨T,hT⟩ : ∃ T : Nat → AH,T = fun k => [.cells c.cs 52 none,.cells zero9r 100 none,.cells (l8s c k).cr 100 none] := ⟨_,rfl⟩
 have key := fun T0 Q e1 e2 hr => loop5 (P := Try.prog) (m := H.length) hmix (ac := lp39_0) 22 (fun k : Nat => k ≤ 8) (fun k => 8 - k) (l8T H.length (.agg (w32 c.r).toArray)) (fun k => H ++ T k) 0 (Nat.zero_le _) rfl (t := T0) (Q := Q) e1 e2 hr
 simp only [hT] at key
 refine key _ _ rfl (by simp [List.forall_mem_cons,GB,l8T]) ?_
 clear key
 intro k hk _ _ _
 have sl := l8s_len ok.len hk
 have scl := cr_length sl
 have sct := cr_take sl
 have sco := cr_one (l8s c k)
 have hsp : splice zero9r 0 (l8s c k).cr = (l8s c k).cr := cr_splice sl rfl
 by_cases hlt : k < 8
 case neg =>
  obtain rfl : k = 8 := by omega
  have e8 : l8s c 8 = c := by
   unfold l8s
   rw [List.take_of_length_le (by rw [ok.len]; omega)]
   simp
  simp (maxSteps := 2000000) (implicitDefEqProofs := false) [-getElem?_pos,-getElem?_neg,l8T,lp39_0,scl,sct,sco,hsp,splice_more]
  rw [e8] at *
  exact hK _ (Ext.app _ _)
 obtain ⟨v,hv⟩ : ∃ v,c.r[k]? = some v := ⟨_,List.getElem?_eq_getElem (by rw [ok.len]; exact hlt)⟩
 have hv32 := ok.lt v (List.mem_of_getElem? hv)
 have wv := i64n hv32
 have hvv : (w32 c.r)[k]? = some (.int .u32 v) := by rw [w32_get,hv]; rfl
 have hvg : ∀ h : k < (w32 c.r).length,(w32 c.r)[k]'h = .int .u32 v := fun h => by
  have := (List.getElem?_eq_getElem h).symm.trans hvv
  exact Option.some.inj this
 have hlt' : (k : Int) < 8 := by omega
 have hlw : (w32 c.r).length = 8 := by rw [w32_length,ok.len]
 have w2 : IntKind.i64.wrap ((k : Int) + 1) = (k : Int) + 1 := IntWalk.i64_in _ (by omega)
 have hp := cr_put sl (i := (k : Int)) ⟨by omega,by omega⟩ v
 rw [l8s_put ok.len hv,Int.toNat_natCast] at hp
 have hk8 : k ≤ 8 := hk
 simp (maxSteps := 2000000) (implicitDefEqProofs := false) [-getElem?_pos, -getElem?_neg, l8T, lp39_0, hlt, hlt', hvv, hvg, hlw, wv, w2, hp, scl, hk8, splice_more]
 exact next5.intro (k + 1) (by omega) (by omega) rfl rfl (by simp [List.forall_mem_cons,GB,l8T])
theorem intsK_refl : ∀ (l : List Value),(∀ v ∈ l,∃ k n,v = Value.int k n) → intsL l l ∧ eqL l l = true
 | [],_ => ⟨trivial,rfl⟩
 | v :: l,h => by
  obtain ⟨k,n,rfl⟩ := h v List.mem_cons_self
  obtain ⟨h1,h2⟩ := intsK_refl l fun x hx => h x (List.mem_cons_of_mem _ hx)
  exact ⟨⟨rfl,h1⟩,by simp [eqL,h2]⟩
theorem veqK_ints : ∀ (l : List Value),(∀ v ∈ l,∃ k n,v = Value.int k n) → veqL l l = true
 | [],_ => rfl
 | v :: l,h => by
  obtain ⟨k,n,rfl⟩ := h v List.mem_cons_self
  simp [veqL,veq,veqK_ints l fun x hx => h x (List.mem_cons_of_mem _ hx)]
theorem cr_ints (c : Co) : ∀ v ∈ c.cr,∃ k n,v = Value.int k n := by
 intro v hv
 unfold Co.cr i64 at hv
 rcases List.mem_append.1 hv with hv | hv
 ·obtain ⟨n,_,rfl⟩ := List.mem_map.1 hv
  exact ⟨_,_,rfl⟩
 ·simp at hv
  exact ⟨_,_,hv⟩
theorem cr_scp (c : Co) : scpL nil c.cr = true := by
 rw [scpL_all,List.all_eq_true]
 intro v hv
 obtain ⟨k,n,rfl⟩ := cr_ints c v hv
 rfl
theorem okX_by {p : PS} {x : XS} (s : Px.Sim p x) (ok : Px.OkP p) : Px.OkX x := by
 have hN : p.each * p.free.length ≤ 512 := Nat.le_trans (Nat.mul_le_mul ok.each ok.many) (by omega)
 refine ⟨by rw [s.each]; exact ok.each,by rw [s.gl,s.ol],by rw [s.gl]; omega,s.gs,fun t r hr => ?_⟩
 rw [s.freeAt] at hr
 cases hq : p.free[t]? with
 | none => rw [hq] at hr; cases hr
 | some q =>
  rw [hq] at hr
  injection hr with hr
  subst hr
  have hc := ok.cnt t q hq
  refine ⟨by rw [List.length_map,s.each]; omega,fun n hn => ?_⟩
  obtain ⟨h,hh,rfl⟩ := List.mem_map.1 hn
  have g := s.fr t q hq h hh
  exact ⟨g.lo,g.hi⟩
theorem isR_by {p : PS} {x : XS} (s : Px.Sim p x) (ok : Px.OkP p) {h : Nat} (hr : x.isR h = true) : (h % 4096 - 1) / x.each < x.free.length := by
 rw [s.is ok] at hr
 have hm := Px.lookP_mem (of_decide_eq_true hr)
 have g := s.ou _ hm
 have w := ok.who _ hm
 rw [g.th,s.len]
 simp only at w ⊢
 omega
theorem geqCr (c : Co) (h : c.r.length = 8) : ∀ x y : Operand,(pureVal Try.prog do
  eqGuard .neq 100 x y (.agg c.cr.toArray) (.agg c.cr.toArray)
  binOp .neq 100 (.agg c.cr.toArray) (.agg c.cr.toArray)) = some (.bool false) := fun x y => by
 obtain ⟨h1,h2⟩ := intsK_refl c.cr (cr_ints c)
 have := geqF (P := Try.prog) (t := 100) (n := 9) (m := 9) (by kernel_rfl) (by kernel_rfl) (by kernel_rfl) (.inr rfl) x y c.cr c.cr (cr_length h) (cr_length h) h1
 rw [h2] at this
 exact this
def alT1 (x : Nat) (y : Nat) (w : Value) (n k : Nat) : List (Nat × Value) := [(0,.pointer (some ⟨x,0,none⟩)),(1,.pointer (some ⟨y,0,none⟩)),(5,w),(29,.int .i64 n),(30,.int .i64 k)]
structure AlS where
 k : Nat
 g : AH
def alT2 (x : Nat) (y : Nat) (n : Nat) (s : AlS) : List (Nat × Value) := [(0,.pointer (some ⟨x,0,none⟩)),(1,.pointer (some ⟨y,0,none⟩)),(50,.int .i64 n),(51,.int .i64 s.k)]
set_option maxHeartbeats 4000000 in
theorem alike_ {H : AH} {N : Nm} {M : NmR} {p : ES PS} {x : ES XS} (r : XAt H N p) (q : RAt H M x) (be : Beside p x) {K : Value → AH → Prop} (hK : ∀ g,Ext H g → K (.bool true) g) : AC Try.prog 18 [.pointer (some ⟨N.x,0,none⟩),.pointer (some ⟨M.y,0,none⟩)] H K := by
 refine entry hmix cf18 ?_
 simp (maxSteps := 2000000) (implicitDefEqProofs := false) [-getElem?_pos,-getElem?_neg]
 refine xwords_ r ?_
 obtain ⟨H1,hH1⟩ : ∃ H1 : AH,H1 = H ++ [.cells (w32 p.ws) 49 none] := ⟨_,rfl⟩
 have x1 : Ext H H1 := by rw [hH1]; exact Ext.app _ _
 have hwv : H1[H.length]? = some (.cells (w32 p.ws) 49 none) := by rw [hH1,HA.2.1]; rfl
 rw [← hH1]
 have r1 := r.ext x1
 have q1 := q.ext x1
 have b1 := q1.box
 have w1 := q1.words
 obtain ⟨AW,CW,hW⟩ := w1.form
 rw [hW] at b1
 have ews : p.ws.length = x.ws.length := by rw [be.ws]
 have ecs : p.cs.length = x.cs.length := by rw [be.cs]
 simp (maxSteps := 2000000) (implicitDefEqProofs := false) [-getElem?_pos,-getElem?_neg,b1,ews]
 refine xthreads_ r1 ?_
 rw [ecs]
 simp (maxSteps := 2000000) (implicitDefEqProofs := false) [-getElem?_pos,-getElem?_neg,b1,ews,]
 rw [hW] at w1
 have key := fun T0 Q e1 e2 hr => loop5 (P := Try.prog) (m := H.length) hmix (ac := lp18_0) 79 (fun k : Nat => k ≤ x.ws.length) (fun k => x.ws.length - k) (alT1 N.x M.y (.slice (some ⟨H.length,0,none⟩) x.ws.length x.ws.length) x.ws.length) (fun k => H1) 0 (Nat.zero_le _) rfl (t := T0) (Q := Q) e1 e2 hr
 refine key _ _ rfl (by simp [List.forall_mem_cons,GB,alT1]) ?_
 clear key
 intro k hk _ _ _
 by_cases hlt : k < x.ws.length
 case pos =>
  have hlt' : (k : Int) < x.ws.length := by omega
  obtain ⟨w,hw⟩ : ∃ w,x.ws[k]? = some w := ⟨_,List.getElem?_eq_getElem hlt⟩
  have hv1 : (w32 p.ws)[k]? = some (.int .u32 w) := by rw [w32_get,be.ws.symm,hw]; rfl
  have hv2 : (w32 x.ws)[k]? = some (.int .u32 w) := by rw [w32_get,hw]; rfl
  have hf1 : k + 1 ≤ (w32 p.ws).length := by rw [w32_length]; omega
  have hf2 : k + 1 ≤ (w32 x.ws).length := by rw [w32_length]; omega
  have w2 : IntKind.i64.wrap ((k : Int) + 1) = (k : Int) + 1 := IntWalk.i64_in _ (by have := q.ok.sum; have := q.few; omega)
  cases w1 with
  | nil h1 h2 h3 => omega
  | row b h1 h2 h3 h4 =>
   obtain ⟨rfl,rfl⟩ : AW = some ⟨b,0,none⟩ ∧ CW = OPEN + x.ws.length := by simpa using h3
   simp (maxSteps := 2000000) (implicitDefEqProofs := false) [-getElem?_pos, -getElem?_neg, alT1, lp18_0, hlt, hlt', hwv, b1, h4, hv1, hv2, hf1, hf2, w2]
   exact next5.intro (k + 1) (by omega) (by omega) rfl rfl (by simp [List.forall_mem_cons,GB,alT1])
 obtain rfl : k = x.ws.length := by omega
 simp (maxSteps := 2000000) (implicitDefEqProofs := false) [-getElem?_pos,-getElem?_neg,alT1,lp18_0,b1]
 have key := fun T0 Q e1 e2 hr => loop5 (P := Try.prog) (m := H.length) hmix (ac := lp18_1) 79 (fun s : AlS => s.k ≤ x.cs.length ∧ Ext H1 s.g) (fun s => x.cs.length - s.k) (alT2 N.x M.y x.cs.length) (fun s => s.g) ⟨0,H1⟩ ⟨Nat.zero_le _,Ext.refl H1⟩ rfl (t := T0) (Q := Q) e1 e2 hr
 refine key _ _ rfl (by simp [List.forall_mem_cons,GB,alT2]) ?_
 clear key
 rintro ⟨k,g⟩ ⟨hk,xg⟩ _ _ _
 simp only at hk xg
 by_cases hlt : k < x.cs.length
 case neg =>
  obtain rfl : k = x.cs.length := by omega
  simp (maxSteps := 2000000) (implicitDefEqProofs := false) [-getElem?_pos,-getElem?_neg,alT2,lp18_1]
  exact hK _ (x1.trans xg)
 have hlt' : (k : Int) < x.cs.length := by omega
 have hfew := q.ok.few
 have w2 : IntKind.i64.wrap ((k : Int) + 1) = (k : Int) + 1 := IntWalk.i64_in _ (by omega)
 obtain ⟨c,hc⟩ : ∃ c,x.cs[k]? = some c := ⟨_,List.getElem?_eq_getElem hlt⟩
 have cok := q.ok.cores c (List.mem_of_getElem? hc)
 have r2 := r1.ext xg
 have q2 := q1.ext xg
 have b2 := q2.box
 have c2 := q2.cores
 have b2A : ∀ tl,(g ++ tl)[M.y]? = _ := fun tl => getA b2 tl
 have hrow := rowK_at q.ok.cores hc
 have hfit : k * 9 + 9 ≤ (rowK x.cs).length := by rw [rowK_length q.ok.cores]; omega
 simp (maxSteps := 2000000) (implicitDefEqProofs := false) [-getElem?_pos, -getElem?_neg, alT2, lp18_1, hlt, hlt', b2, c2, hrow, hfit]
 refine xcore_ r2 k (by rw [← be.cs]; exact hc) fun X => ?_
 have cvq := veqK_ints _ (cr_ints c)
 have clg := geqCr c cok.len
 have hcl := cr_length cok.len
 have hct := cr_take cok.len
 have b2X := b2A [X]
 have c2X := getA c2 [X]
 simp (maxSteps := 2000000) (implicitDefEqProofs := false) [-getElem?_pos, -getElem?_neg, b2X, c2X, hrow, hfit, hlt, hlt', cvq]
 refine l8ref_ c cok fun g1 xg1 => ?_
 have xg2 : Ext g g1 := (Ext.app g [X]).trans xg1
 have b3 := xg2.get b2
 have c3 := xg2.get c2
 have r3 := r2.ext xg2
 have q3 := q2.ext xg2
 have q0 : c.vr = .agg c.cr.toArray := rfl
 rw [q0]
 simp (maxSteps := 2000000) (implicitDefEqProofs := false) [-getElem?_pos, -getElem?_neg, b3, c3, hrow, hfit, hlt, hlt', cvq, clg, cr_scp]
 refine xout_ r3 k ?_
 simp (maxSteps := 2000000) (implicitDefEqProofs := false) [-getElem?_pos, -getElem?_neg, b3, c3, hrow, hfit, hlt, hlt', cvq, clg, cr_scp]
 have okx := okX_by be.sim be.ok
 refine rmany_ q3.pool k (fun t r hr => (okx.nodes t r hr).1) okx.each ?_
 rw [be.sim.many]
 simp (maxSteps := 2000000) (implicitDefEqProofs := false) [-getElem?_pos,-getElem?_neg,w2]
 exact next5.intro ⟨k + 1,g1⟩ (by simp only; omega) ⟨by simp only; omega,xg.trans xg2⟩ rfl rfl (by simp [List.forall_mem_cons,GB,alT2])
end Ex
end Go.Proofs.Ytongllppbifiaaa
