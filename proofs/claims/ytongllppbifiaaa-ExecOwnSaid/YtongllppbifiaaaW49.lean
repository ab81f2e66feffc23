import Derived.Test.YtongllppbifiaaaW29
namespace Go.Proofs.Ytongllppbifiaaa
namespace Px
open Go Abs Code
set_option linter.unusedVariables false
set_option linter.unusedSimpArgs false
set_option maxRecDepth 100000
theorem flat_names : ∀ {rs : List Vec},(∀ x ∈ rs,∃ c,nm x.1 = [c]) → (rs.flatMap fun x => nm x.1).length = rs.length ∧ ∀ (t : Nat) x,rs[t]? = some x → ∃ c,nm x.1 = [c] ∧ (rs.flatMap fun x => nm x.1)[t]? = some c
 | [],_ => ⟨rfl,fun t x h => by simp at h⟩
 | y :: rs,h => by
  obtain ⟨c,hc⟩ := h y List.mem_cons_self
  obtain ⟨ih1,ih2⟩ := flat_names (rs := rs) fun x hx => h x (List.mem_cons_of_mem _ hx)
  rw [List.flatMap_cons,hc]
  refine ⟨by simp [ih1],fun t x ht => ?_⟩
  cases t with
  | zero => simp at ht; subst ht; exact ⟨c,hc,rfl⟩
  | succ t => exact ih2 t x (by simpa using ht)
theorem VecV.rowOf {g : AH} {v : Value} {l : List Value} {e : TypeId} (h : VecV g v l e) (hl : l ≠ []) : ∃ b,nm v = [b] ∧ v = .slice (some ⟨b,0,none⟩) l.length (OPEN + l.length) ∧ g[b]? = some (.cells l e (some 1)) := by
 cases h with
 | nil h1 h2 => exact absurd h1 hl
 | row b h1 h2 h3 => subst h2; exact ⟨b,rfl,rfl,h3⟩
theorem VecV.nilOf {g : AH} {v : Value} {l : List Value} {e : TypeId} (h : VecV g v l e) (hl : l = []) : v = .slice none 0 0 := by
 cases h with
 | nil h1 h2 => exact h2
 | row b h1 h2 h3 => exact absurd hl h1
theorem rep_new {H : AH} {n each p : Nat} (h1 : 1 ≤ n) {s : So} (ht : s.t = n) (h : soI H n each p s) (hp : p = H.length) (hlt : p < s.g.length) : ∃ ns,RepP s.g p ns (newR n each) ∧ Upd [] H ns s.g := by
 obtain ⟨t,g,vF,vG,vO,fv,rs⟩ := s
 simp only at ht hlt
 subst ht hp
 obtain ⟨_,hg,ho,hnw,hrs⟩ := h
 simp only at hg ho hnw hrs hlt ⊢
 have hfl : fv.length = t := by rw [hrs.fv,List.length_map,hrs.len]
 have hf0 : fv ≠ [] := fun h => by rw [h] at hfl; simp at hfl; omega
 obtain ⟨bF,f1,f2,f3⟩ := (ho.vec (vF,fv,cF) (by simp)).rowOf hf0
 simp only at f1 f2 f3
 have hup : ∀ ns : List Nat,(∀ c ∈ ns,c = H.length ∨ ∃ x ∈ ((vF,fv,cF) :: (vG,zeros (t * each),cI) :: (vO,zeros (t * each),cI) :: rs : List Vec),c ∈ nm x.1) → Upd [] H ns g := by
  refine fun ns hns => ⟨by omega,fun c hc _ => hnw.keep c hc,fun c hc => .inr ?_⟩
  rcases hns c hc with rfl | ⟨x,hx,hm⟩
  ·exact ⟨Nat.le_refl _,hlt⟩
  ·exact ⟨hnw.names x hx c hm,(ho.vec x hx).lt c hm⟩
 have hfr : (newR t each).free.length = t := by simp [newR]
 by_cases he : each = 0
 ·subst he
  have g0 : vG = .slice none 0 0 := (ho.vec (vG,zeros (t * 0),cI) (by simp)).nilOf rfl
  have o0 : vO = .slice none 0 0 := (ho.vec (vO,zeros (t * 0),cI) (by simp)).nilOf rfl
  have hrow : ∀ x ∈ rs,x.1 = .slice none 0 0 := by
   intro x hx
   obtain ⟨u,hu,e⟩ := List.mem_iff_getElem.1 hx
   have hr := hrs.row u x (by rw [List.getElem?_eq_getElem hu,e])
   have hv := ho.vec x (by simp [hx])
   rw [hr] at hv
   exact hv.nilOf rfl
  have hfv : fv = List.replicate t (.slice none 0 0) := by
   rw [List.eq_replicate_iff]
   refine ⟨hfl,fun v hv => ?_⟩
   rw [hrs.fv] at hv
   obtain ⟨x,hx,rfl⟩ := List.mem_map.1 hv
   exact hrow x hx
  refine ⟨[H.length,bF],.zero bF rfl ⟨rfl, ?_, ?_,fun u r hr => ?_,by simp [newR],by simp [newR],by omega⟩,hup _ fun c hc => ?_⟩
  ·rw [hfr,hg,plB,f2,g0,o0,hfl]; rfl
  ·rw [hfr,f3,hfv]
  ·simp only [newR,List.getElem?_map] at hr
   cases hq : (List.range t)[u]? with
   | none => rw [hq] at hr; cases hr
   | some y => rw [hq] at hr; injection hr with hr; subst hr; rfl
  ·simp only [List.mem_cons,List.not_mem_nil,or_false] at hc
   rcases hc with rfl | rfl
   ·exact .inl rfl
   ·exact .inr ⟨(vF,fv,cF),by simp,by simp [f1]⟩
 ·have hm : 0 < t * each := Nat.mul_pos (by omega) (by omega)
  have hz : zeros (t * each) ≠ [] := fun h => by have := zeros_length (t * each); rw [h] at this; simp at this; omega
  obtain ⟨bG,g1,g2,g3⟩ := (ho.vec (vG,zeros (t * each),cI) (by simp)).rowOf hz
  obtain ⟨bO,o1,o2,o3⟩ := (ho.vec (vO,zeros (t * each),cI) (by simp)).rowOf hz
  simp only at g1 g2 g3 o1 o2 o3
  rw [zeros_length] at g2 o2
  have hrow : ∀ (u : Nat) x,rs[u]? = some x → ∃ c,nm x.1 = [c] ∧ x.1 = .slice (some ⟨c,0,none⟩) each (OPEN + each) ∧ g[c]? = some (.cells (natV (freeN each u each)) cI (some 1)) := by
   intro u x hu
   have hr := hrs.row u x hu
   have hv := ho.vec x (by simp [List.mem_of_getElem? hu])
   rw [hr] at hv
   have hne : natV (freeN each u each) ≠ [] := fun h => by
    have := natV_length (freeN each u each)
    rw [h,freeN_length] at this
    simp at this
    omega
   obtain ⟨c,c1,c2,c3⟩ := hv.rowOf hne
   simp only [natV_length,freeN_length] at c2
   exact ⟨c,c1,c2,c3⟩
  obtain ⟨q1,q2⟩ := flat_names (rs := rs) fun x hx => by
   obtain ⟨u,hu,e⟩ := List.mem_iff_getElem.1 hx
   obtain ⟨c,hc,_⟩ := hrow u x (by rw [List.getElem?_eq_getElem hu,e])
   exact ⟨c,hc⟩
  have hnd := ho.nd
  simp only [List.flatMap_cons,f1,g1,o1,List.singleton_append] at hnd
  refine ⟨H.length :: bF :: bG :: bO :: rs.flatMap (fun x => nm x.1),.more bF bG bO _ fv rfl ⟨by simp only [newR]; omega, ?_,f3, ?_, ?_,by rw [hfr]; exact hfl,by rw [hfr,q1,hrs.len],fun u r hr => ?_,hnd⟩,hup _ fun c hc => ?_⟩
  ·rw [hg,plB,f2,g2,o2,hfl]; simp [newR]
  ·rw [g3]; rfl
  ·rw [o3]; rfl
  ·simp only [newR,List.getElem?_map] at hr
   have hul : u < t := by
    cases hq : (List.range t)[u]? with
    | none => rw [hq] at hr; cases hr
    | some y => simpa using (List.getElem?_eq_some_iff.1 hq).1
   rw [List.getElem?_range hul] at hr
   injection hr with hr
   subst hr
   obtain ⟨x,hx⟩ : ∃ x,rs[u]? = some x := ⟨_,List.getElem?_eq_getElem (by rw [hrs.len]; exact hul)⟩
   obtain ⟨c,c1,c2,c3⟩ := hrow u x hx
   obtain ⟨c', c4, c5⟩ := q2 u x hx
   rw [c1] at c4
   injection c4 with c4
   subst c4
   refine ⟨x.1,c,by rw [hrs.fv,List.getElem?_map,hx]; rfl,c5,.row 0 _ ?_ (by rw [c2]; simp [freeN_length]) c3 (by simp) (by simp [natV_length])⟩
   intro h
   simp only at h
   have := freeN_length each u each
   rw [h] at this
   simp at this
   omega
  ·simp only [List.mem_cons,List.mem_flatMap] at hc
   rcases hc with rfl | rfl | rfl | rfl | ⟨x,hx,hc⟩
   ·exact .inl rfl
   ·exact .inr ⟨(vF,fv,cF),by simp,by simp [f1]⟩
   ·exact .inr ⟨(vG,zeros (t * each),cI),by simp,by simp [g1]⟩
   ·exact .inr ⟨(vO,zeros (t * each),cI),by simp,by simp [o1]⟩
   ·exact .inr ⟨x,by simp [hx],hc⟩
set_option maxHeartbeats 2000000 in
theorem rnewP_ {n each : Nat} (h1 : 1 ≤ n) (hn : n ≤ 64) (he : each ≤ 8) {H : AH} {K : Value → AH → Prop} (hK : ∀ H' ns,RepP H' H.length ns (newR n each) → Upd [] H ns H' → K (.pointer (some ⟨H.length,0,none⟩)) H') : AC Try.prog 33 [.int .i64 n,.int .i64 each] H K := by
 have c1 : ¬ (n : Int) < 1 := by omega
 have c2 : ¬ (64 : Int) < n := by omega
 have c3 : ¬ (each : Int) < 0 := by omega
 have c4 : ¬ (8 : Int) < each := by omega
 have c5 : ¬ n = 0 := by omega
 have c6 : ¬ 64 < n := by omega
 have c7 : ¬ 8 < each := by omega
 refine entry hmix cf33 ?_
 simp (maxSteps := 2000000) (implicitDefEqProofs := false) [DN,NB,begT,atHead,kd,wantedA,evP,evR,evF,evL,evC,evI,evBin,evUn,evEq,evSt,evRes,plain,scp,scpA,scpL,rdRow_eq,RV,rdCells,veq,veqA,veqL,isHole,Value.cells,evalL,optI,evBounds,evFill,evFillR,evApp,newsOf,wrCells,one1,fitsApp,evClr,undef,onB_bool,List.getElem?_concat_length,List.getElem?_cons_zero,List.getElem?_cons_succ,List.getElem?_toArray,List.getElem?_nil,List.set_cons_zero,List.set_cons_succ,List.cons_append,List.nil_append,-getElem?_pos,-getElem?_neg,c1,c2,c3,c4,c5,c6,c7]
 have hI : soI H n each H.length ⟨0,H ++ [.cells [.int .i64 each,.slice none 0 0,.slice none 0 0,.slice none 0 0] 149 none],.slice none 0 0,.slice none 0 0,.slice none 0 0,[],[]⟩ := ?_
 have key := fun T0 Q e1 e2 hQ => loop56a H n each H.length H.length hn he (Nat.le_refl _) _ rfl hI T0 Q e1 e2 hQ
 refine key _ _ rfl (by simp [List.forall_mem_cons,GB,soT]) ?_
 rotate_left
 ·have e0 : zeros (0 * each) = [] := by simp [zeros,natV]
  refine ⟨Nat.zero_le _,by simp [plB],⟨fun x hx => ?_,by simp [nm],by simp⟩,⟨fun c hc => by simp only; rw [List.getElem?_append_left hc],fun x hx c hc => ?_,by simp⟩,⟨rfl,rfl,fun u x hx => by simp at hx⟩⟩
  ·rw [e0] at hx
   simp only [List.mem_cons,List.not_mem_nil,or_false] at hx
   rcases hx with rfl | rfl | rfl <;> exact .nil rfl rfl
  ·simp only [List.mem_cons,List.not_mem_nil,or_false] at hx
   rcases hx with rfl | rfl | rfl <;> cases hc
 ·intro s hs hI
  have hlt := lt_get hI.2.1
  obtain ⟨ns,r,u⟩ := rep_new h1 hs hI rfl hlt
  simp (maxSteps := 2000000) (implicitDefEqProofs := false) [DN,NB,begT,atHead,kd,wantedA,evP,evR,evF,evL,evC,evI,evBin,evUn,evEq,evSt,evRes,plain,scp,scpA,scpL,rdRow_eq,RV,rdCells,veq,veqA,veqL,isHole,Value.cells,evalL,optI,evBounds,evFill,evFillR,evApp,newsOf,wrCells,one1,fitsApp,evClr,undef,onB_bool,List.getElem?_concat_length,List.getElem?_cons_zero,List.getElem?_cons_succ,List.getElem?_toArray,List.getElem?_nil,List.set_cons_zero,List.set_cons_succ,List.cons_append,List.nil_append,-getElem?_pos,-getElem?_neg,soT]
  exact hK s.g ns r u
end Px
end Go.Proofs.Ytongllppbifiaaa
