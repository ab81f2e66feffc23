import Derived.Test.YtongllppbifiaaaW28
import Derived.Test.YtongllppbifiaaaW29
namespace Go.Proofs.Ytongllppbifiaaa
namespace Ex
open Go Abs Code
open Px (natV natV_length natV_get VecV nm u32w i64w PS poolB outG Own New)
attribute [local simp] DN5 HA DN NB begT atHead kd wantedA evP evR evF evL evC evI evBin evUn evEq evSt evRes plain scp scpA scpL rdRow_eq RV rdCells veq veqA veqL isHole Value.cells evalL optI evBounds evFill evFillR evApp newsOf wrCells one1 fitsApp evClr undef onB_bool List.getElem?_concat_length List.getElem?_cons_zero List.getElem?_cons_succ List.getElem?_toArray List.getElem?_nil List.set_cons_zero List.set_cons_succ List.cons_append List.nil_append
set_option linter.unusedVariables false
set_option linter.unusedSimpArgs false
set_option maxRecDepth 100000
def begsK (ns : List Nat) (k : Nat) : List Nat := (List.range k).map fun j => (ns.take j).sum
theorem begsK_s (ns : List Nat) (k : Nat) : natV (begsK ns k) ++ [.int .i64 ((ns.take k).sum : Nat)] = natV (begsK ns (k + 1)) := by
 simp [natV,begsK,List.range_succ]
theorem begsK_length (ns : List Nat) (k : Nat) : (natV (begsK ns k)).length = k := by simp [natV,begsK]
def intV (zs : List Int) : List Value := zs.map fun (z : Int) => Value.int .i64 z
def mB (vs vb : Value) : ABlk := .cells [.pointer none,vs,vb] 83 none
def scT (m pc : Nat) (vi : Value) (n : Nat) (k : Nat) : List (Nat × Value) := [(6,.pointer (some ⟨m,0,none⟩)),(10,.pointer (some ⟨pc,0,none⟩)),(60,vi),(61,.int .i64 n),(62,.int .i64 k)]
structure Sm where
 k : Nat
 g : AH
 vb : Value
def smI (G : AH) (zs : List Int) (vs : Value) (s : Sm) : Prop :=
 s.k ≤ zs.length ∧ (∀ z ∈ zs.take s.k,0 ≤ z ∧ z ≤ 4096) ∧ s.g[G.length]? = some (mB vs s.vb) ∧ Own s.g G.length [(s.vb,natV (begsK (zs.map Int.toNat) s.k),tI)] ∧ New G s.g [(s.vb,natV (begsK (zs.map Int.toNat) s.k),tI)]
def smT (m : Nat) (v vi : Value) (zs : List Int) (s : Sm) : List (Nat × Value) := [(1,vi),(6,.pointer (some ⟨m,0,none⟩)),(7,.int .i64 (((zs.map Int.toNat).take s.k).sum : Nat)),(21,v),(22,.int .i64 zs.length),(23,.int .i64 s.k)]
theorem AC.mem0 {P : Program} {f : Nat} (hent : enterB P f = true) {H : AH} {vs : List Value} (hvs : ∀ v ∈ vs,plain v = true) {r : Value} (hr : plain r = true) {K : Value → AH → Prop}
  (hc : ∀ w : World,Calls P f vs.toArray w fun e w' => e = .returned r ∧ w = w') (hK : K r H) : AC P f vs H K := by
 refine ⟨hent,fun ρ w us rel hsz hargs => ?_⟩
 obtain ⟨us⟩ := us
 have e1 := plainArgs (ρ := ρ) hvs (us := us) (by simpa using hsz) (n := live H) fun i v hv => by
  obtain ⟨u,hu,vr⟩ := hargs i v hv
  exact ⟨u,by simpa using hu,vr⟩
 subst e1
 refine (hc w).mono ?_
 rintro e w' ⟨rfl,rfl⟩
 obtain ⟨r1,nx1⟩ := rel.mod0 (Mod.refl [] w)
 exact ⟨r,r,_,_,rfl,VR.plain hr,hK,r1,nx1,by simp⟩
theorem cnewBad_ {n : Int} (hn : 8192 < n) {H : AH} {K : Value → AH → Prop} (hK : K (.tuple #[.pointer none,.int .i64 1]) H) : AC Try.prog 48 [.int .i64 n] H K :=
 AC.mem0 (by kernel_rfl) (by simp [plain,scp]) rfl (fun w => cells_new_bad n hn w) hK
structure OkM (zs : List Int) (init : List Nat) : Prop where
 few : zs.length ≤ 8
 rng : ∀ z ∈ zs,0 ≤ z ∧ z ≤ 4096
 most : (zs.map Int.toNat).sum ≤ 8192
 all : (zs.map Int.toNat).sum = init.length
structure MemIs (H g : AH) (m pc : Nat) (vs vb : Value) (zs : List Int) (init : List Nat) : Prop where
 ext : Ext H g
 mem : MemR g m pc vs vb (zs.map Int.toNat)
 cells : g[pc]? = some (cellsB init)
 new : H.length ≤ m ∧ H.length ≤ pc ∧ m ≠ pc
 names : ∀ c ∈ nm vs ++ nm vb,H.length ≤ c ∧ c ≠ m ∧ c ≠ pc
def mix (init : List Nat) (k : Nat) : List Nat := init.take k ++ List.replicate (init.length - k) 0
theorem mix_zero (init : List Nat) : mix init 0 = List.replicate init.length 0 := by simp [mix]
theorem mix_all (init : List Nat) : mix init init.length = init := by simp [mix]
theorem mix_at {init : List Nat} {k : Nat} (h : k < init.length) : (mix init k)[k]? = some 0 := by
 unfold mix
 rw [List.getElem?_append_right (by simp; omega),List.length_take,Nat.min_eq_left (Nat.le_of_lt h),Nat.sub_self,List.getElem?_replicate,if_pos (by omega)]
theorem mix_set {init : List Nat} {k v : Nat} (h : init[k]? = some v) : (mix init k).set k v = mix init (k + 1) := by
 have hl := (List.getElem?_eq_some_iff.1 h).1
 unfold mix
 rw [List.set_append_right _ _ (by simp; omega),List.take_add_one,h]
 obtain ⟨d,hd⟩ : ∃ d,init.length - k = d + 1 := ⟨init.length - k - 1,by omega⟩
 have e : init.length - (k + 1) = d := by omega
 simp [Nat.min_eq_left (Nat.le_of_lt hl),hd,e,List.replicate_succ]
set_option maxHeartbeats 8000000 in
theorem mnew_ {H : AH} {v vi : Value} {zs : List Int} {init : List Nat} (rv : ArgRow H v (intV zs) zs.length) (ri : ArgRow H vi (w32 init) init.length) (hz : zs.length ≤ 1000) {K : Value → AH → Prop} (hBad : ¬ OkM zs init → ∀ g,Ext H g → K (.tuple #[.pointer none,.int .i64 1]) g) (hOk : OkM zs init → ∀ g m pc vs vb,MemIs H g m pc vs vb zs init → K (.tuple #[.pointer (some ⟨m,0,none⟩),.int .i64 0]) g) :
  AC Try.prog 23 [v,vi] H K := by
 refine entry hmix cf23 ?_
 have hil : (intV zs).length = zs.length := by simp [intV]
 have hone : (intV zs).all one1 = true := by simp [intV,one1]
 obtain ⟨A,C,hv⟩ : ∃ A C,v = .slice A zs.length C := rv.form
 by_cases c8 : (8 : Int) < zs.length
 ·subst hv
  have c8' : 8 < zs.length := by omega
  simp (maxSteps := 2000000) (implicitDefEqProofs := false) [-getElem?_pos,-getElem?_neg,c8,c8']
  exact hBad (fun o => absurd o.few (by omega)) _ (Ext.refl H)
 have c8' : ¬ 8 < zs.length := by omega
 subst hv
 simp (maxSteps := 2000000) (implicitDefEqProofs := false) [-getElem?_pos,-getElem?_neg,c8,c8']
 refine iclone (l := intV zs) (by rw [hil]; exact rv) hone (by omega) ?_
 intro G vs xG hvs hnm
 obtain ⟨A2,C2,hvs2,_⟩ := SlV.form hvs
 subst hvs2
 simp (maxSteps := 2000000) (implicitDefEqProofs := false) [-getElem?_pos,-getElem?_neg]
 have hI0 : smI G zs (.slice A2 (intV zs).length C2) ⟨0,G ++ [mB (.slice A2 (intV zs).length C2) (.slice none 0 0)],.slice none 0 0⟩ := by
  refine ⟨Nat.zero_le _,by simp,by rw [HA.2.1]; rfl,⟨?_, ?_, ?_⟩,⟨?_, ?_, ?_⟩⟩
  ·intro x hx
   simp only [List.mem_singleton] at hx
   subst hx
   exact .nil rfl rfl
  ·simp [nm]
  ·simp
  ·exact fun c hc => List.getElem?_append_left hc
  ·intro x hx c hc
   simp only [List.mem_singleton] at hx
   subst hx
   cases hc
  ·simp
 have key := fun T0 Q e1 e2 hr => loop5 (P := Try.prog) (m := H.length) hmix (ac := lp23_0) 77 (smI G zs (.slice A2 (intV zs).length C2)) (fun s => zs.length - s.k) (smT G.length (.slice A zs.length C) vi zs) (·.g) _ hI0 rfl (t := T0) (Q := Q) e1 e2 hr
 refine key _ _ rfl (by simp [List.forall_mem_cons,GB,smT]) ?_
 clear key hI0
 rintro ⟨k,g,vb⟩ ⟨hk,hok,hm,ho,hn⟩ _ _ _
 simp only at hk hok hm ho hn ⊢
 have xg : Ext H g := xG.trans ⟨hn.len,hn.keep⟩
 by_cases hlt : k < zs.length
 case neg =>
  obtain rfl : k = zs.length := by omega
  simp (maxSteps := 2000000) (implicitDefEqProofs := false) [-getElem?_pos,-getElem?_neg,smT,lp23_0]
  have htk : (zs.map Int.toNat).take zs.length = zs.map Int.toNat := List.take_of_length_le (by simp)
  obtain ⟨q,hq⟩ : ∃ q,((zs.map Int.toNat).take zs.length).sum = q := ⟨_,rfl⟩
  rw [hq]
  obtain ⟨A3,C3,hvi⟩ : ∃ A C,vi = .slice A init.length C := ri.form
  by_cases cq : 8192 < q
  ·refine cnewBad_ (by omega) ?_
   simp (maxSteps := 2000000) (implicitDefEqProofs := false) [-getElem?_pos,-getElem?_neg]
   exact hBad (fun o => by have := o.most; rw [htk] at hq; omega) _ xg
  refine cnew_ (n := q) (by omega) ?_
  by_cases ce : q = init.length
  case neg =>
   have ce' : ((q : Int) == init.length) = false := by simpa using fun h : (q : Int) = init.length => ce (by omega)
   have ce2 : ¬ (q : Int) = init.length := by omega
   subst hvi
   simp (maxSteps := 2000000) (implicitDefEqProofs := false) [-getElem?_pos, -getElem?_neg, ce, ce', ce2]
   exact hBad (fun o => by have := o.all; rw [htk] at hq; omega) _ (xg.trans (Ext.app _ _))
  subst ce
  subst hvi
  simp (maxSteps := 2000000) (implicitDefEqProofs := false) [-getElem?_pos,-getElem?_neg]
  rw [← mix_zero init]
  have hnm2 : (w32 init).length = init.length := w32_length _
  have hil2 : init.length ≤ 8192 := by omega
  have key2 := fun T0 Q e1 e2 hr => loop5 (P := Try.prog) (m := H.length) hmix (ac := lp23_1) 77 (fun k => k ≤ init.length) (fun k => init.length - k) (scT G.length g.length (.slice A3 init.length C3) init.length) (fun k => g ++ [cellsB (mix init k)]) 0 (Nat.zero_le _) rfl (t := T0) (Q := Q) e1 e2 hr
  refine key2 _ _ rfl (by simp [List.forall_mem_cons,GB,scT]) ?_
  clear key2
  intro j hj _ _ _
  by_cases hjl : j < init.length
  case neg =>
   obtain rfl : j = init.length := by omega
   rw [mix_all]
   have f0 : ∀ tl,(g ++ tl)[G.length]? = _ := fun tl => getA hm tl
   unfold mB at f0
   simp (maxSteps := 2000000) (implicitDefEqProofs := false) [-getElem?_pos,-getElem?_neg,scT,lp23_1,f0]
   rw [htk] at hq
   have om : OkM zs init := ⟨by omega,fun z hz' => hok z (by rw [List.take_of_length_le (Nat.le_refl _)]; exact hz'),by omega,hq⟩
   have hGg : G.length < g.length := lt_get hm
   have hvb : VecV g vb (natV (begsK (zs.map Int.toNat) zs.length)) tI := ho.vec (vb,natV (begsK (zs.map Int.toNat) zs.length),tI) (by simp)
   have nvb : ∀ c ∈ nm vb,G.length ≤ c := fun c hc => hn.names (vb,natV (begsK (zs.map Int.toNat) zs.length),tI) (by simp) c hc
   have nvb2 : G.length ∉ nm vb := by
    have := (List.nodup_cons.1 ho.nd).1
    simpa using this
   have nvb3 := hvb.lt
   have nvs := hvs.lt
   have lH := xG.len
   have kp : ∀ X c,c < g.length → c ≠ G.length → ((g ++ [cellsB init]).set G.length X)[c]? = g[c]? := fun X c h1 h2 => by rw [List.getElem?_set_ne (fun h => h2 h.symm),List.getElem?_append_left h1]
   refine hOk om _ G.length g.length (.slice A2 (intV zs).length C2) vb ⟨?_,⟨?_, ?_, ?_,⟨?_, ?_⟩⟩, ?_,⟨by omega,by omega,by omega⟩, ?_⟩
   ·refine ⟨by simp; omega,fun c hc => ?_⟩
    rw [kp _ c (by omega) (by omega),xg.keep c hc]
   ·rw [List.getElem?_set_self (by simp; omega)]
   ·have e : natV (zs.map Int.toNat) = intV zs := by
     unfold natV intV
     rw [List.map_map]
     refine List.map_congr_left fun z hz' => ?_
     have := om.rng z hz'
     simp
     omega
    rw [e]
    refine hvs.keep fun c hc hl => ?_
    rw [kp _ c (by omega) (by omega),hn.keep c hl]
   ·have e : begs (zs.map Int.toNat) = begsK (zs.map Int.toNat) zs.length := by simp [begs,begsK]
    rw [e]
    refine hvb.keep fun c hc hl => ?_
    rw [kp _ c hl (fun h => nvb2 (h ▸ hc))]
   ·simp; omega
   ·intro n hn'
    obtain ⟨y,hy,rfl⟩ := List.mem_map.1 hn'
    have := om.rng y hy
    omega
   ·rw [List.getElem?_set_ne (by omega),HA.2.1]
    rfl
   ·intro c hc
    rcases List.mem_append.1 hc with hc | hc
    ·have h1 := nvs c hc
     have h2 := hnm c hc
     exact ⟨h2,by omega,by omega⟩
    ·have h1 := nvb3 c hc
     have h2 := nvb c hc
     exact ⟨by omega,fun h => nvb2 (h ▸ hc),by omega⟩
  have hjl' : (j : Int) < init.length := by omega
  cases ri with
  | none h1 h2 h3 => omega
  | row bi capi X h1 h2 hX =>
   obtain ⟨rfl,rfl⟩ : A3 = some ⟨bi,0,none⟩ ∧ C3 = capi := by simpa using h1
   have hbg : ∀ tl,(g ++ tl)[bi]? = some X := fun tl => getA (by rw [hn.keep bi (Nat.lt_of_lt_of_le (lt_get h2) xG.len),xG.keep bi (lt_get h2)]; exact h2) tl
   obtain ⟨v,hv⟩ : ∃ v,init[j]? = some v := ⟨_,List.getElem?_eq_getElem hjl⟩
   have hvv : (w32 init)[j]? = some (.int .u32 (v : Int)) := by rw [w32_get,hv]; rfl
   have hfit : j + 1 ≤ (w32 init).length := by omega
   have w2 : IntKind.i64.wrap ((j : Int) + 1) = (j : Int) + 1 := IntWalk.i64_in _ (by omega)
   simp (maxSteps := 2000000) (implicitDefEqProofs := false) [-getElem?_pos, -getElem?_neg, scT, lp23_1, hjl, hjl', hbg, hX, hvv, hfit]
   refine store_ (ws := mix init j) (HA.2.1 _ _) (mix_at hjl) v ?_
   rw [mix_set hv]
   simp (maxSteps := 2000000) (implicitDefEqProofs := false) [-getElem?_pos,-getElem?_neg,w2]
   exact next5.intro (j + 1) (by omega) (by omega) rfl rfl (by simp [List.forall_mem_cons,GB,scT])
 have hlt' : (k : Int) < zs.length := by omega
 cases rv with
 | none h1 h2 h3 => omega
 | row b cap X h1 h2 hX =>
  obtain ⟨rfl,rfl⟩ : A = some ⟨b,0,none⟩ ∧ C = cap := by simpa using h1
  have hbG : g[b]? = some X := by rw [hn.keep b (Nat.lt_of_lt_of_le (lt_get h2) xG.len),xG.keep b (lt_get h2)]; exact h2
  obtain ⟨z,hz1⟩ : ∃ z,zs[k]? = some z := ⟨_,List.getElem?_eq_getElem hlt⟩
  have hzv : (intV zs)[k]? = some (.int .i64 z) := by simp [intV,hz1]
  have hfit : k + 1 ≤ (intV zs).length := by omega
  by_cases c1 : z < 0
  ·simp (maxSteps := 2000000) (implicitDefEqProofs := false) [-getElem?_pos, -getElem?_neg, smT, lp23_0, hlt, hlt', hbG, hX, hzv, hfit, c1]
   exact hBad (fun o => by have := o.rng z (List.mem_of_getElem? hz1); omega) _ xg
  by_cases c2 : 4096 < z
  ·simp (maxSteps := 2000000) (implicitDefEqProofs := false) [-getElem?_pos, -getElem?_neg, smT, lp23_0, hlt, hlt', hbG, hX, hzv, hfit, c1, c2]
   exact hBad (fun o => by have := o.rng z (List.mem_of_getElem? hz1); omega) _ xg
  have hns : (zs.map Int.toNat)[k]? = some z.toNat := by simp [hz1]
  have hsum : ((zs.map Int.toNat).take (k + 1)).sum = ((zs.map Int.toNat).take k).sum + z.toNat := by
   rw [List.take_add_one,hns]
   simp
  have hq : ((zs.map Int.toNat).take k).sum ≤ k * 4096 := by
   have := sum_take_le ((zs.map Int.toNat).take k) (fun n hn => by
    rw [← List.map_take] at hn
    obtain ⟨y,hy,rfl⟩ := List.mem_map.1 hn
    have := hok y hy
    omega) k
   rwa [List.take_take,Nat.min_self] at this
  have w1 : IntKind.i64.wrap ((((zs.map Int.toNat).take k).sum : Nat) + z) = (((zs.map Int.toNat).take (k + 1)).sum : Nat) := by
   rw [IntWalk.i64_in _ (by omega),hsum]
   omega
  have w2 : IntKind.i64.wrap ((k : Int) + 1) = (k : Int) + 1 := IntWalk.i64_in _ (by omega)
  obtain ⟨A9,L9,C9,hvb⟩ := (ho.vec (vb,natV (begsK (zs.map Int.toNat) k),tI) (by simp)).slice
  simp only at hvb
  subst hvb
  obtain ⟨g1,a1,o1,l1,b1,k1⟩ := Own.app (pre := []) (post := []) ho (.int .i64 (((zs.map Int.toNat).take k).sum : Nat)) rfl (by rw [begsK_length]; omega) (bytes := 8) (by omega)
  have n1 := New.app (pre := []) (post := []) (v := .slice A9 L9 C9) (l := natV (begsK (zs.map Int.toNat) k)) (e := tI) (l2 := natV (begsK (zs.map Int.toNat) k) ++ [.int .i64 (((zs.map Int.toNat).take k).sum : Nat)]) (n := (natV (begsK (zs.map Int.toNat) k)).length + 1) (m := OPEN + ((natV (begsK (zs.map Int.toNat) k)).length + 1)) hn l1 k1
  rw [hm] at b1
  rw [begsK_s] at o1 n1
  rw [begsK_length] at o1 n1 a1
  have o2 := o1.set (mB (.slice A2 (intV zs).length C2) (.slice (some ⟨g.length + 1,0,none⟩) (k + 1) (OPEN + (k + 1))))
  have n2 := n1.set (Nat.le_refl _) (mB (.slice A2 (intV zs).length C2) (.slice (some ⟨g.length + 1,0,none⟩) (k + 1) (OPEN + (k + 1))))
  have b2 : (g1.set G.length (mB (.slice A2 (intV zs).length C2) (.slice (some ⟨g.length + 1,0,none⟩) (k + 1) (OPEN + (k + 1)))))[G.length]? = some _ := List.getElem?_set_self (lt_get b1)
  have ok2 : ∀ y ∈ zs.take (k + 1),0 ≤ y ∧ y ≤ 4096 := by
   intro y hy
   rw [List.take_add_one,hz1] at hy
   simp only [Option.toList,List.mem_append,List.mem_singleton] at hy
   rcases hy with hy | rfl
   ·exact hok y hy
   ·omega
  unfold mB at b1 hm
  simp (maxSteps := 2000000) (implicitDefEqProofs := false) [-getElem?_pos, -getElem?_neg, smT, lp23_0, hlt, hlt', hbG, hX, hzv, hfit, c1, c2, w1, w2, -evApp, -newsOf, a1, hm, b1, splice_one]
  exact next5.intro ⟨k + 1,_,_⟩ (by simp only; omega) ⟨by simp only; omega,ok2,b2,o2,n2⟩ rfl rfl (by simp [List.forall_mem_cons,GB,smT])
end Ex
end Go.Proofs.Ytongllppbifiaaa
