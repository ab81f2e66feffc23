import Derived.Test.YtongllppbifiaaaW48
import Derived.Test.YtongllppbifiaaaW49
namespace Go.Proofs.Ytongllppbifiaaa
namespace Ex
open Go Abs Code
open Px (natV natV_length natV_get VecV nm u32w i64w XS RepP newR rnewP_)
attribute [local simp] DN5 HA DN NB begT atHead kd wantedA evP evR evF evL evC evI evBin evUn evEq evSt evRes plain scp scpA scpL rdRow_eq RV rdCells veq veqA veqL isHole Value.cells evalL optI evBounds evFill evFillR evApp newsOf wrCells one1 fitsApp evClr undef onB_bool List.getElem?_concat_length List.getElem?_cons_zero List.getElem?_cons_succ List.getElem?_toArray List.getElem?_nil List.set_cons_zero List.set_cons_succ List.cons_append List.nil_append
set_option linter.unusedVariables false
set_option linter.unusedSimpArgs false
set_option maxRecDepth 100000
def newEx (s : Sp) (n : Nat) : ES XS := ⟨s.L,s.lk,s.uk,s.zs.map Int.toNat,s.init,newR n s.each.toNat,s.r7.map core0⟩
theorem w32_one (l : List Nat) : (w32 l).all one1 = true := by simp [w32,one1]
theorem nil_app {G : AH} {es bytes n : Nat} {v : Value} {l : List Value} (e : TypeId) (r : ArgRow G v l n) (hl : l.length = n * es) (he : 0 < es) (hone : l.all one1 = true) (hn : n ≤ 100000) (hb : bytes ≤ 1000) :
  ∃ G' w,(∀ (t : T) (s x : Operand),evalO t s = some (.slice none 0 0) → evalO t x = some v → evApp t G e es bytes s x = some (w,G')) ∧ VecN es G' w n l e ∧ Ext G G' ∧ (∀ c ∈ nm w,G.length ≤ c) := by
 have hf : n * bytes ≤ 140737488355328 := by
  have := Nat.mul_le_mul hn hb
  omega
 have hnews : ∀ (t : T) (x : Operand),evalO t x = some v → newsOf t G es x = some (n,l) := by
  intro t x hx
  unfold newsOf
  rw [hx]
  cases r with
  | none h1 h2 h3 =>
   subst h1 h2
   rcases h3 with rfl | ⟨b,cap,d,rfl⟩ <;> rfl
  | row b cap X h1 h2 h3 =>
   subst h1
   have h4 : rdRow G b = some l := by rw [rdRow_eq,h2]; exact h3
   simp only [rdCells,h4,Nat.zero_add,← hl,Nat.le_refl,if_true,List.drop_zero,List.take_length]
   rw [if_pos hone]
 by_cases h0 : n = 0
 ·subst h0
  have e0 : l = [] := List.eq_nil_of_length_eq_zero (by omega)
  subst e0
  refine ⟨G,.slice none 0 0,fun t s x hs hx => ?_,.nil rfl rfl rfl,Ext.refl G,fun c hc => by cases hc⟩
  unfold evApp
  rw [hs,hnews t x hx]
  rfl
 ·refine ⟨G ++ [.cells l e (some es)],.slice (some ⟨G.length,0,none⟩) n (OPEN + n),fun t s x hs hx => ?_,.row G.length (by omega) hl rfl (by rw [HA.2.1]; rfl),Ext.app _ _,fun c hc => by simp [nm] at hc; omega⟩
  unfold evApp
  rw [hs,hnews t x hx]
  simp only [if_neg h0]
  rw [if_pos]
  unfold fitsApp
  simp
  omega
structure RnS where
 k : Nat
 g : AH
 v : Value
structure RnI (G : AH) (y : Nat) (bx : Value → List Value) (r7 : List Nat) (s : RnS) : Prop where
 k : s.k ≤ r7.length
 len : G.length ≤ s.g.length
 keep : ∀ c,c < G.length → c ≠ y → s.g[c]? = G[c]?
 box : s.g[y]? = some (.cells (bx s.v) 97 none)
 vec : VecN 9 s.g s.v s.k (rowK ((r7.take s.k).map core0)) 100
 nm : ∀ c ∈ nm s.v,G.length ≤ c
def nwT (y : Nat) (v7 : Value) (n : Nat) (s : RnS) : List (Nat × Value) := [(7,.pointer (some ⟨y,0,none⟩)),(37,v7),(38,.int .i64 n),(39,.int .i64 s.k)]
set_option maxHeartbeats 4000000 in
theorem rnew_ {H : AH} {s : Sp} {vz vi v7 : Value} {bL capL : Nat} (hL : H[bL]? = some (.cells (rowI s.L) 102 (some 8))) (rz : ArgRow H vz (intV s.zs) s.zs.length) (ri : ArgRow H vi (w32 s.init) s.init.length) (r7 : ArgRow H v7 (w32 s.r7) s.r7.length) (n : Nat) (ok : OkX s n)
  (ins : s.L.length ≤ 64 ∧ ∀ i ∈ s.L,i.Ok) (hws : ∀ w ∈ s.init,w < 4294967296) (hrs : ∀ w ∈ s.r7,w < 4294967296) {K : Value → AH → Prop}
  (hK : ∀ g N,Ext H g → RAt g N (newEx s n) → (∀ c ∈ N.all,c = bL ∨ H.length ≤ c) → K (.pointer (some ⟨N.y,0,none⟩)) g) :
  AC Try.prog 14 [.agg #[.slice (some ⟨bL,0,none⟩) s.L.length capL,.int .i64 s.lk,.int .i64 s.uk,vz,vi,.int .i64 s.each,v7],.int .i64 n] H K := by
 refine entry hmix cf14 ?_
 obtain ⟨Az,Cz,ez⟩ := rz.form
 obtain ⟨Ai,Ci,ei⟩ := ri.form
 obtain ⟨A7,C7,e7⟩ := r7.form
 have hbL := lt_get hL
 have spb : ∀ tl,(H ++ tl)[H.length]? = tl[0]? := fun tl => HA.2.1 H tl
 subst ez ei e7
 have nok : n = s.r7.length := by have := ok.r7; omega
 have hn1 := ok.n1
 have heach := ok.each
 simp (maxSteps := 2000000) (implicitDefEqProofs := false) [-getElem?_pos,-getElem?_neg]
 refine r9cells_ (rz.ext (Ext.app H _)) (by have := ok.mem.few; omega) (fun h => absurd ⟨ok.mem.few,ok.mem.rng⟩ h) fun hz g0 vC x0 vc hvc => ?_
 have hb0 : g0[H.length]? = some (.cells [.slice (some ⟨bL,0,none⟩) s.L.length capL,.int .i64 s.lk,.int .i64 s.uk,.slice Az s.zs.length Cz,.slice Ai s.init.length Ci,.int .i64 s.each,.slice A7 s.r7.length C7] 36 none) := x0.get (by rw [HA.2.1]; rfl)
 have hb0A : ∀ tl,(g0 ++ tl)[H.length]? = _ := fun tl => getA hb0 tl
 have l0 := x0.len
 simp only [List.length_append,List.length_cons,List.length_nil] at l0
 obtain ⟨AC', CC', hvCf⟩ := vc.form
 have hvC1 := vc.one1
 obtain ⟨ec,hec⟩ : ∃ ec : Nat,s.each = ec := ⟨s.each.toNat,by omega⟩
 rw [hvCf]
 simp (maxSteps := 2000000) (implicitDefEqProofs := false) [-getElem?_pos,-getElem?_neg,hb0,hb0A,hec]
 refine rnewP_ (n := n) (each := ec) (by omega) (by omega) (by omega) fun H1 ps rP uP => ?_
 have u0 : ∀ c,c < g0.length + 1 → H1[c]? = (g0 ++ [ABlk.hole])[c]? := fun c hc => uP.keep c (by simp; omega) (by simp)
 have hH1 : g0.length + 1 ≤ H1.length := by have := uP.len; simpa using this
 have e1 : H1[g0.length]? = some .hole := by rw [u0 _ (by omega),HA.2.1]; rfl
 have hb1 : H1[H.length]? = _ := (u0 _ (by omega)).trans (hb0A [.hole])
 have hl1 : (g0 ++ [ABlk.hole]).length = g0.length + 1 := by simp
 rw [hl1] at rP
 obtain ⟨bx, hbx⟩ : ∃ bx : Value → Value → List Value, bx = fun vW vK => [.slice (some ⟨bL, 0, none⟩) s.L.length capL, .int .i64 s.lk, .int .i64 s.uk, .slice AC' (s.zs.map Int.toNat).sum CC', vW, .pointer (some ⟨g0.length + 1, 0, none⟩), vK, .int .i64 0] := ⟨_, rfl⟩
 obtain ⟨G0,hG0⟩ : ∃ G0,H1.set g0.length (.cells (bx (.slice none 0 0) (.slice none 0 0)) 97 none) = G0 := ⟨_,rfl⟩
 have k0 : G0[g0.length]? = some (.cells (bx (.slice none 0 0) (.slice none 0 0)) 97 none) := by rw [← hG0]; exact List.getElem?_set_self (by omega)
 have k1 := getS hb1 g0.length (by omega) (.cells (bx (.slice none 0 0) (.slice none 0 0)) 97 none)
 rw [hG0] at k1
 have k2 : ∀ c,c < H.length → G0[c]? = H[c]? := fun c hc => by
  rw [← hG0,List.getElem?_set_ne (by omega),u0 _ (by omega),List.getElem?_append_left (by omega),x0.keep c (by simp; omega),List.getElem?_append_left hc]
 have hGl : G0.length = H1.length := by rw [← hG0]; simp
 have xG : Ext H G0 := ⟨by omega,k2⟩
 obtain ⟨G1,vW,hrun,vw,x1,hvw⟩ := nil_app (G := G0) (es := 1) (bytes := 4) (n := s.init.length) 49 (ri.ext xG) (by rw [w32_length]; omega) (by omega) (w32_one s.init) (by have := ok.mem.most; have := ok.mem.all; omega) (by omega)
 obtain ⟨AW,CW,rfl⟩ := vw.form
 have m0 := x1.get k0
 have m1 := x1.get k1
 have hvW1 := vw.one1
 have hg01 : g0.length < G1.length := lt_get m0
 obtain ⟨G2,hG2⟩ : ∃ G2,G1.set g0.length (.cells (bx (.slice AW s.init.length CW) (.slice none 0 0)) 97 none) = G2 := ⟨_,rfl⟩
 have k3 : G2[g0.length]? = some (.cells (bx (.slice AW s.init.length CW) (.slice none 0 0)) 97 none) := by rw [← hG2]; exact List.getElem?_set_self hg01
 have k4 := getS m1 g0.length (by omega) (.cells (bx (.slice AW s.init.length CW) (.slice none 0 0)) 97 none)
 rw [hG2] at k4
 have hG0' := hG0
 have hG2' := hG2
 have m0' := m0
 have k0' := k0
 have k3' := k3
 simp only [hbx] at hG0' hG2' m0' k0' k3'
 simp (maxSteps := 2000000) (implicitDefEqProofs := false) [-getElem?_pos, -getElem?_neg, hb1, e1, hl1, hG0', k0', k1, -evApp, -newsOf, hrun, m0', hvW1, hG2', k3', k4]
 have x2 : Ext H G1 := xG.trans x1
 have hL1 := x2.get hL
 have l1 := x1.len
 have key := fun T0 Q e1 e2 hr => loop5 (P := Try.prog) (m := H.length) hmix (ac := lp14_0) 59 (RnI G2 g0.length (bx (.slice AW s.init.length CW)) s.r7) (fun s' => s.r7.length - s'.k) (nwT g0.length (.slice A7 s.r7.length C7) s.r7.length) (fun s => s.g) ⟨0,G2,.slice none 0 0⟩ ⟨Nat.zero_le _,Nat.le_refl _,fun c _ _ => rfl,k3,.nil rfl rfl rfl,fun c hc => by cases hc⟩ rfl (t := T0) (Q := Q) e1 e2 hr
 refine key _ _ rfl (by simp [List.forall_mem_cons,GB,nwT]) ?_
 clear key
 have hG2l : G2.length = G1.length := by rw [← hG2]; simp
 rintro ⟨k,g,vK⟩ ⟨hk,hgl,hkp,hbox,hvec,hnm⟩ _ _ _
 simp only at hk hgl hkp hbox hvec hnm
 have hbox' := hbox
 simp only [hbx] at hbox'
 by_cases hlt : k < s.r7.length
 case neg =>
  obtain rfl : k = s.r7.length := by omega
  rw [List.take_length] at hvec
  have gk : ∀ c,c < H1.length → c ≠ g0.length → g[c]? = H1[c]? := fun c h1 h2 => by
   rw [hkp c (by omega) h2,← hG2,List.getElem?_set_ne (fun e => h2 e.symm),x1.keep c (by omega),← hG0,List.getElem?_set_ne (fun e => h2 e.symm)]
  have gw : ∀ c,G0.length ≤ c → c < G1.length → g[c]? = G1[c]? := fun c h1 h2 => by
   rw [hkp c (by omega) (by omega),← hG2,List.getElem?_set_ne (by omega)]
  have gH : ∀ c,c < H.length → g[c]? = H[c]? := fun c hc => by
   rw [gk c (by omega) (by omega),u0 c (by omega),List.getElem?_append_left (by omega),x0.keep c (by simp; omega),List.getElem?_append_left hc]
  have hcl : ∀ c ∈ nm (Value.slice AC' (s.zs.map Int.toNat).sum CC'),H.length + 1 ≤ c ∧ c < g0.length := fun c hc => by
   rw [← hvCf] at hc
   have h1 := hvc c hc
   have h2 := vc.lt c hc
   simp at h1
   omega
  have hwl : ∀ c ∈ nm (Value.slice AW s.init.length CW),G0.length ≤ c ∧ c < G1.length := fun c hc => ⟨hvw c hc,vw.lt c hc⟩
  have hpl : ∀ c ∈ ps,g0.length + 1 ≤ c ∧ c < H1.length := fun c hc => by
   rcases uP.new c hc with h | h
   ·cases h
   ·simpa using h
  have hgle : H.length ≤ g.length := by omega
  have nnd : ∀ (A : Option Addr) n C,(nm (Value.slice A n C)).Nodup := fun A n C => by
   cases A <;> simp [nm]
  cases hvec with
  | nil h1 h2 h3 => omega
  | row bc h1 h2 h3 h4 =>
   subst h3
   have hbc := hnm bc (by simp [nm])
   simp (maxSteps := 2000000) (implicitDefEqProofs := false) [-getElem?_pos,-getElem?_neg,nwT,lp14_0]
   refine hK g ⟨g0.length, bL, bc, g0.length + 1, ps, .slice AC' (s.zs.map Int.toNat).sum CC', .slice AW s.init.length CW, capL, OPEN + s.r7.length, 0⟩ ⟨hgle, gH⟩ ⟨?_, ?_, ?_, ?_, ?_, ?_, ?_, ?_, ?_⟩ fun c hc => ?_
   ·simp only [newEx,List.length_map]
    exact hbox'
   ·rw [gH bL hbL]; exact hL
   ·rw [← hvCf]
    exact vc.keep fun c hc hl => by
     have := hcl c (by rw [← hvCf]; exact hc)
     rw [gk c (by omega) (by omega),u0 c (by omega),List.getElem?_append_left (by omega)]
   ·exact vw.keep fun c hc hl => gw c (hwl c hc).1 (hwl c hc).2
   ·have e : (newEx s n).pl = newR n ec := by simp [newEx,hec]
    rw [e]
    exact Px.RepP.keep rP fun c hc => gk c (hpl c hc).2 (by have := (hpl c hc).1; omega)
   ·exact h4
   ·unfold NmR.all
    simp only [List.nodup_cons,List.mem_cons,List.mem_append,not_or,List.nodup_append]
    refine ⟨⟨by omega,by omega,fun h => by have := hcl _ h; omega,fun h => by have := hwl _ h; omega,fun h => by have := hpl _ h; omega⟩,⟨by omega,fun h => by have := hcl _ h; omega,fun h => by have := hwl _ h; omega,fun h => by have := hpl _ h; omega⟩,⟨fun h => by have := hcl _ h; omega,fun h => by have := hwl _ h; omega,fun h => by have := hpl _ h; omega⟩,nnd _ _ _,⟨nnd _ _ _,RepP.nodup rP,fun x hx y hy e => by have := hwl _ hx; have := hpl _ hy; omega⟩,fun x hx y hy e => ?_⟩
    have := hcl _ hx
    rcases hy with hy | hy
    ·have := hwl _ hy; omega
    ·have := hpl _ hy; omega
   ·have := ok.mem.most
    show (s.zs.map Int.toNat).sum ≤ 100000
    omega
   ·refine ⟨ins.1,ins.2,fun c hc => ?_,by simp [newEx]; omega,hws,ok.mem.all.symm⟩
    obtain ⟨v,hv,rfl⟩ := List.mem_map.1 hc
    exact core0_ok (hrs v hv)
   ·rcases NmR.mem.1 hc with h | h | h | h | h | h
    ·simp only at h; omega
    ·exact .inl h
    ·simp only at h; omega
    ·have := hcl c h; omega
    ·have := hwl c h; omega
    ·have := hpl c h; omega
 obtain ⟨v,hv⟩ : ∃ v,s.r7[k]? = some v := ⟨_,List.getElem?_eq_getElem hlt⟩
 have hv32 := hrs v (List.mem_of_getElem? hv)
 have wv := i64n hv32
 have hlt' : (k : Int) < s.r7.length := by omega
 have w2 : IntKind.i64.wrap ((k : Int) + 1) = (k : Int) + 1 := IntWalk.i64_in _ (by omega)
 have htk : rowK ((s.r7.take (k + 1)).map core0) = rowK ((s.r7.take k).map core0) ++ (core0 v).cr := by
  rw [List.take_add_one,hv]
  simp [rowK]
 cases r7 with
 | none h1 h2 h3 => omega
 | row b cap X hb1' hb2 hb3 =>
  obtain ⟨rfl,rfl⟩ : A7 = some ⟨b,0,none⟩ ∧ C7 = cap := by simpa using hb1'
  have hbl := lt_get hb2
  have hgb : g[b]? = some X := by
   rw [hkp b (by omega) (by omega),← hG2,List.getElem?_set_ne (by omega)]
   exact x2.get hb2
  have hvv : (w32 s.r7)[k]? = some (.int .u32 v) := by rw [w32_get,hv]; rfl
  have hfit : k + 1 ≤ (w32 s.r7).length := by rw [w32_length]; omega
  have hg3 : ∀ tl,(g ++ tl)[g0.length]? = _ := fun tl => getA hbox' tl
  have hcv : (core0 v).cr = [.int .i64 0,.int .i64 0,.int .i64 0,.int .i64 0,.int .i64 0,.int .i64 0,.int .i64 0,.int .i64 (v : Int),.int .i64 0] := rfl
  have hv2 : VecN 9 (g ++ [.cells (core0 v).cr 100 none,.cells (core0 v).cr 100 none]) vK k (rowK ((s.r7.take k).map core0)) 100 := hvec.keep fun c hc hl => List.getElem?_append_left hl
  obtain ⟨G', ap⟩ := hv2.app (xb := g.length + 1) (m := 1) (c := 1) (u := (core0 v).cr) (by omega) (by omega) (by simp [rdCells, rdRow_eq, HA.1, rowVs, hcv]) rfl rfl (bytes := 72) (by omega) (by omega)
  have hrun := ap.run
  have hl2 : (g ++ [ABlk.cells (core0 v).cr 100 none,.cells (core0 v).cr 100 none]).length = g.length + 2 := by simp
  rw [hl2] at hrun
  have hvs : Abs.one1 vK = true := hvec.one1
  obtain ⟨A2,C2,rfl⟩ := hvec.form
  rw [hcv] at hrun
  have hyl : g0.length < g.length := lt_get hbox
  have hG3 := (ap.keep _ (by simp; omega) (fun hm => by have := hnm _ hm; omega)).trans (hg3 _)
  have hS : ∀ X,(G'.set g0.length X)[g0.length]? = some X := fun X => List.getElem?_set_self (lt_get hG3)
  simp (maxSteps := 2000000) (implicitDefEqProofs := false) [-getElem?_pos, -getElem?_neg, nwT, lp14_0, hlt, hlt', hgb, hb3, hvv, hfit, splice_more, hg3, wv, -evApp, -newsOf, hrun, hG3, w2, hS]
  have apl : G'.length = g.length + 3 := by have := ap.len; simpa using this
  have apv := ap.vec
  rw [hl2,← htk] at apv
  refine next5.intro ⟨k + 1,_,.slice (some ⟨g.length + 2,0,none⟩) (k + 1) (OPEN + (k + 1))⟩ (by simp only; omega) ⟨by simp only; omega,by simp only; rw [List.length_set]; omega,fun c hc hne => ?_, ?_, ?_,fun c hc => ?_⟩ rfl rfl (by simp [List.forall_mem_cons,GB,nwT])
  ·simp only
   rw [List.getElem?_set_ne (fun e => hne e.symm),ap.keep c (by simp; omega) (fun hm => by have := hnm _ hm; omega),List.getElem?_append_left (by omega)]
   exact hkp c hc hne
  ·simp only [hbx]
   exact hS _
  ·refine apv.keep fun c hc _ => ?_
   simp [nm] at hc
   rw [List.getElem?_set_ne (by omega)]
  ·simp [nm] at hc
   omega
end Ex
end Go.Proofs.Ytongllppbifiaaa
