import Derived.Test.YtongllppbifiaaaW17
namespace Go.Proofs.Ytongllppbifiaaa
namespace Px
open Go Abs Code
set_option linter.unusedVariables false
set_option linter.unusedSimpArgs false
set_option maxRecDepth 100000
structure OkX (s : XS) : Prop where
 each : s.each ≤ 8
 lens : s.gen.length = s.out.length
 small : s.gen.length < 4096
 gens : ∀ g ∈ s.gen,g < 262144
 nodes : ∀ (t : Nat) r,s.free[t]? = some r → r.length ≤ s.each ∧ ∀ n ∈ r,1 ≤ n ∧ n ≤ s.out.length
def cutV (c o n : Nat) : Value := .slice (some (if 1 < n then ⟨c,o + 1,none⟩ else ⟨c,o,some 2⟩)) (n - 1) (OPEN + n - 1)
theorem Rep1.take {H : AH} {b bF bG bO : Nat} {bs : List Nat} {fv : List Value} {s : XS} (r : Rep1 H b bF bG bO bs fv s) {k n : Nat} {q : List Nat} (hq : s.free[k]? = some (n :: q)) {c o : Nat} (hv : fv[k]? = some (.slice (some ⟨c,o,none⟩) (n :: q).length (OPEN + (n :: q).length))) (hc : bs[k]? = some c) {vs : List Value} (hcc : H[c]? = some (.cells vs 3 (some 1))) (hd : vs.drop o = natV (n :: q)) (hl : o + (n :: q).length = vs.length) :
  Rep1 ((H.set bF (.cells (fv.set k (cutV c o (n :: q).length)) 25 (some 1))).set bO (.cells (natV (s.out.set (n - 1) 1)) 3 (some 1))) b bF bG bO bs (fv.set k (cutV c o (n :: q).length)) { s with free := s.free.set k q,out := s.out.set (n - 1) 1 } := by
 have nd := r.nd
 simp only [List.nodup_cons,List.mem_cons,not_or] at nd
 obtain ⟨⟨n1,n2,n3,n4⟩,⟨n5,n6,n7⟩,⟨n8,n9⟩,n10,n11⟩ := nd
 have hbs : ∀ (t : Nat) x,bs[t]? = some x → bF ≠ x ∧ bO ≠ x := fun t x hx => ⟨fun e => n7 (e ▸ List.mem_of_getElem? hx),fun e => n10 (e ▸ List.mem_of_getElem? hx)⟩
 refine ⟨r.each, ?_, ?_, ?_, ?_,by simp [r.lf],by simp [r.lb],fun t q' hq' => ?_,r.nd⟩
 ·simp only [List.length_set]
  exact getS (getS r.h0 _ (fun e => n1 e.symm) _) _ (fun e => n3 e.symm) _
 ·rw [List.getElem?_set_ne (fun e => n6 e.symm),List.getElem?_set_self (lt_get r.hF)]
 ·exact getS (getS r.hG _ n5 _) _ (fun e => n8 e.symm) _
 ·rw [List.getElem?_set_self (by rw [List.length_set]; exact lt_get r.hO)]
 ·simp only at hq'
  have hkl := (List.getElem?_eq_some_iff.1 hv).1
  by_cases e : t = k
  ·subst e
   have hkl2 := (List.getElem?_eq_some_iff.1 hq).1
   rw [List.getElem?_set_self hkl2] at hq'
   injection hq' with hq'
   subst hq'
   refine ⟨_,c,List.getElem?_set_self hkl,hc, ?_⟩
   have hcH : ((H.set bF (.cells (fv.set t (cutV c o (n :: q).length)) 25 (some 1))).set bO (.cells (natV (s.out.set (n - 1) 1)) 3 (some 1)))[c]? = some (.cells vs 3 (some 1)) := getS (getS hcc _ (hbs t c hc).1 _) _ (hbs t c hc).2 _
   simp only [List.length_cons] at hl
   by_cases hq0 : q = []
   ·subst hq0
    exact .empty o 1 vs rfl (by simp [cutV]) hcH (by simpa using hl)
   ·have hql : 0 < q.length := List.length_pos_iff.2 hq0
    refine .row (o + 1) vs hq0 ?_ hcH ?_ (by omega)
    ·simp only [cutV,List.length_cons]
     rw [if_pos (by omega)]
     simp [Nat.add_sub_assoc]
    ·have := congrArg List.tail hd
     rw [List.tail_drop] at this
     exact this
  ·rw [List.getElem?_set_ne (fun h => e h.symm)] at hq'
   obtain ⟨v,x,h1,h2,h3⟩ := r.rows t q' hq'
   refine ⟨v,x,by rw [List.getElem?_set_ne (fun h => e h.symm)]; exact h1,h2,h3.keep ?_⟩
   rw [List.getElem?_set_ne (hbs t x h2).2,List.getElem?_set_ne (hbs t x h2).1]
set_option maxHeartbeats 1000000 in
theorem reftake_ {H : AH} {b : Nat} {ns : List Nat} {s : XS} (r : RepP H b ns s) (ok : OkX s) (t : Int) {K : Value → AH → Prop} (hK : ∀ H', RepP H' b ns (takeRS s t) → Upd ns H ns H' → K (.tuple #[.int .u32 (takeR s t : Nat), .int .i64 (takeRE s t)]) H') :
  AC Try.prog 35 [.pointer (some ⟨b,0,none⟩),.int .i64 t] H K := by
 refine entry hmix cf35 ?_
 by_cases c1 : t < 0
 ·have hk := hK H (by simpa [takeRS,c1] using r) (Upd.refl _ _)
  simp only [takeR,takeRE,c1,if_true,true_or] at hk
  simp (maxSteps := 2000000) (implicitDefEqProofs := false) [DN,NB,begT,atHead,kd,wantedA,evP,evR,evF,evL,evC,evI,evBin,evUn,evEq,evSt,evRes,plain,scp,scpA,scpL,rdRow_eq,RV,rdCells,veq,veqA,veqL,isHole,Value.cells,evalL,optI,evBounds,evFill,evFillR,evApp,newsOf,wrCells,one1,fitsApp,evClr,undef,onB_bool,List.getElem?_concat_length,List.getElem?_cons_zero,List.getElem?_cons_succ,List.getElem?_toArray,List.getElem?_nil,List.set_cons_zero,List.set_cons_succ,List.cons_append,List.nil_append,-getElem?_pos,-getElem?_neg,c1]
  exact hk
 obtain ⟨k,rfl⟩ : ∃ k : Nat,t = k := ⟨t.toNat,by omega⟩
 by_cases c2 : k < s.free.length
 case neg =>
  have hn : s.free[k]? = none := List.getElem?_eq_none (by omega)
  have c3 : (s.free.length : Int) ≤ k := by omega
  have c4 : s.free.length ≤ k := by omega
  have hk := hK H (by simpa [takeRS,c1,hn] using r) (Upd.refl _ _)
  simp [takeR,takeRE,c1,hn,c4] at hk
  cases r with
  | zero bF _ r =>
   simp (maxSteps := 2000000) (implicitDefEqProofs := false) [DN,NB,begT,atHead,kd,wantedA,evP,evR,evF,evL,evC,evI,evBin,evUn,evEq,evSt,evRes,plain,scp,scpA,scpL,rdRow_eq,RV,rdCells,veq,veqA,veqL,isHole,Value.cells,evalL,optI,evBounds,evFill,evFillR,evApp,newsOf,wrCells,one1,fitsApp,evClr,undef,onB_bool,List.getElem?_concat_length,List.getElem?_cons_zero,List.getElem?_cons_succ,List.getElem?_toArray,List.getElem?_nil,List.set_cons_zero,List.set_cons_succ,List.cons_append,List.nil_append,-getElem?_pos,-getElem?_neg,c1,c3,c4,r.h0]
   exact hk
  | more bF bG bO bs fv _ r =>
   simp (maxSteps := 2000000) (implicitDefEqProofs := false) [DN,NB,begT,atHead,kd,wantedA,evP,evR,evF,evL,evC,evI,evBin,evUn,evEq,evSt,evRes,plain,scp,scpA,scpL,rdRow_eq,RV,rdCells,veq,veqA,veqL,isHole,Value.cells,evalL,optI,evBounds,evFill,evFillR,evApp,newsOf,wrCells,one1,fitsApp,evClr,undef,onB_bool,List.getElem?_concat_length,List.getElem?_cons_zero,List.getElem?_cons_succ,List.getElem?_toArray,List.getElem?_nil,List.set_cons_zero,List.set_cons_succ,List.cons_append,List.nil_append,-getElem?_pos,-getElem?_neg,c1,c3,c4,r.h0]
   exact hk
 have c3 : ¬ (s.free.length : Int) ≤ k := by omega
 have c4 : ¬ s.free.length ≤ k := by omega
 have c5 : (k : Int) < s.free.length := by omega
 obtain ⟨q,hq⟩ : ∃ q,s.free[k]? = some q := ⟨_,List.getElem?_eq_getElem c2⟩
 cases r with
 | zero bF e0 r0 =>
  have hr := r0.fr k q hq
  subst hr
  have hk := hK H (by simpa [takeRS,c1,hq] using RepP.zero bF e0 r0) (Upd.refl _ _)
  simp [takeR,takeRE,c1,hq,c4] at hk
  have hg : (List.replicate s.free.length (Value.slice none 0 0))[k]? = some (.slice none 0 0) := by rw [List.getElem?_replicate,if_pos c2]
  have hfit : k + 1 ≤ (List.replicate s.free.length (Value.slice none 0 0)).length := by simp; omega
  simp (maxSteps := 2000000) (implicitDefEqProofs := false) [DN,NB,begT,atHead,kd,wantedA,evP,evR,evF,evL,evC,evI,evBin,evUn,evEq,evSt,evRes,plain,scp,scpA,scpL,rdRow_eq,RV,rdCells,veq,veqA,veqL,isHole,Value.cells,evalL,optI,evBounds,evFill,evFillR,evApp,newsOf,wrCells,one1,fitsApp,evClr,undef,onB_bool,List.getElem?_concat_length,List.getElem?_cons_zero,List.getElem?_cons_succ,List.getElem?_toArray,List.getElem?_nil,List.set_cons_zero,List.set_cons_succ,List.cons_append,List.nil_append,-getElem?_pos,-getElem?_neg,c1,c2,c3,c4,c5,r0.h0,r0.hF,hg,hfit]
  exact hk
 | more bF bG bO bs fv e0 r0 =>
  obtain ⟨v,c,h1,h2,h3⟩ := r0.rows k q hq
  have hfit : k + 1 ≤ fv.length := by rw [r0.lf]; omega
  cases h3 with
  | empty o d vs hne hv h4 h5 =>
   subst hv hne
   have hk := hK H (by simpa [takeRS,c1,hq] using RepP.more bF bG bO bs fv e0 r0) (Upd.refl _ _)
   simp [takeR,takeRE,c1,hq,c4] at hk
   simp (maxSteps := 2000000) (implicitDefEqProofs := false) [DN,NB,begT,atHead,kd,wantedA,evP,evR,evF,evL,evC,evI,evBin,evUn,evEq,evSt,evRes,plain,scp,scpA,scpL,rdRow_eq,RV,rdCells,veq,veqA,veqL,isHole,Value.cells,evalL,optI,evBounds,evFill,evFillR,evApp,newsOf,wrCells,one1,fitsApp,evClr,undef,onB_bool,List.getElem?_concat_length,List.getElem?_cons_zero,List.getElem?_cons_succ,List.getElem?_toArray,List.getElem?_nil,List.set_cons_zero,List.set_cons_succ,List.cons_append,List.nil_append,-getElem?_pos,-getElem?_neg,c1,c2,c3,c4,c5,r0.h0,r0.hF,h1,hfit]
   exact hk
  | row o vs hne hv h4 h5 h6 =>
   subst hv
   cases q with
   | nil => exact absurd rfl hne
   | cons n q =>
    have nd := r0.nd
    simp only [List.nodup_cons,List.mem_cons,not_or] at nd
    obtain ⟨⟨n1,n2,n3,n4⟩,⟨n5,n6,n7⟩,⟨n8,n9⟩,n10,n11⟩ := nd
    have r2 := r0.take hq h1 h2 h4 h5 h6
    obtain ⟨hn1,hn2⟩ := (ok.nodes k _ hq).2 n List.mem_cons_self
    have hss : takeRS s k = { s with free := s.free.set k q,out := s.out.set (n - 1) 1 } := by simp [takeRS,c1,hq]
    have hH : takeR s k = s.han n := by simp [takeR,c1,hq]
    have hE : takeRE s k = 0 := by simp [takeRE,c1,c4]
    have hk := hK _ (by rw [hss]; exact RepP.more bF bG bO bs _ e0 r2) (by subst e0; exact (Upd.set (by simp) _).trans (Upd.set (by simp) _))
    rw [hH,hE] at hk
    have hx0 : vs[o]? = some (.int .i64 (n : Int)) := by
     have := congrArg (fun l => l[0]?) h5
     simpa [natV] using this
    have hvl : o + 1 ≤ vs.length := by simp only [List.length_cons] at h6; omega
    obtain ⟨m,rfl⟩ : ∃ m,n = m + 1 := ⟨n - 1,by omega⟩
    have hw : IntKind.i64.wrap (m : Int) = (m : Int) := by have := ok.lens; have := ok.small; exact IntWalk.i64_in _ (by omega)
    have hon : m < s.out.length := by omega
    have hfo : m + 1 ≤ (natV s.out).length := by rw [natV_length]; omega
    have f1 : ∀ A,(H.set bF A)[b]? = _ := fun A => getS r0.h0 bF (fun e => n1 e.symm) A
    have f2 : ∀ A,(H.set bF A)[bO]? = _ := fun A => getS r0.hO bF n6 A
    have hns : (natV s.out).set m (.int .i64 1) = natV (s.out.set m 1) := natV_set s.out m 1
    have hLc : ((m + 1) :: q).length = q.length + 1 := rfl
    obtain ⟨L,hL⟩ : ∃ L,((m + 1) :: q).length = L := ⟨_,rfl⟩
    rw [hL] at h1 h6 r2 hk hLc
    simp only [Nat.add_sub_cancel] at r2 hk
    have l1 : ¬ (L : Int) = 0 := by omega
    have l2 : ¬ OPEN + L < OPEN := by omega
    have l3 : OPEN + L - OPEN = L := by omega
    have l4 : (1 : Int) ≤ L := by omega
    have l5 : 1 ≤ L := by omega
    have l6 : ¬ L = 0 := by omega
    have l7 : 0 < L := by omega
    simp (maxSteps := 2000000) (implicitDefEqProofs := false) [DN,NB,begT,atHead,kd,wantedA,evP,evR,evF,evL,evC,evI,evBin,evUn,evEq,evSt,evRes,plain,scp,scpA,scpL,rdRow_eq,RV,rdCells,veq,veqA,veqL,isHole,Value.cells,evalL,optI,evBounds,evFill,evFillR,evApp,newsOf,wrCells,one1,fitsApp,evClr,undef,onB_bool,List.getElem?_concat_length,List.getElem?_cons_zero,List.getElem?_cons_succ,List.getElem?_toArray,List.getElem?_nil,List.set_cons_zero,List.set_cons_succ,List.cons_append,List.nil_append,-getElem?_pos,-getElem?_neg,c1,c2,c3,c4,c5,r0.h0,r0.hF,h1,hfit,h4,hx0,hvl,bnd,hw,f1,f2,hon,hfo,hns,l1,l2,l3,l4,l5,l6,l7]
    refine (congrArg (fun H => AC Try.prog _ _ H _) ?_).mpr (rhandle_ r2 (m + 1) hn1 (by simp only; have := ok.lens; omega) ok.small ok.gens ?_)
    ·rfl
    ·simp (maxSteps := 2000000) (implicitDefEqProofs := false) [DN,NB,begT,atHead,kd,wantedA,evP,evR,evF,evL,evC,evI,evBin,evUn,evEq,evSt,evRes,plain,scp,scpA,scpL,rdRow_eq,RV,rdCells,veq,veqA,veqL,isHole,Value.cells,evalL,optI,evBounds,evFill,evFillR,evApp,newsOf,wrCells,one1,fitsApp,evClr,undef,onB_bool,List.getElem?_concat_length,List.getElem?_cons_zero,List.getElem?_cons_succ,List.getElem?_toArray,List.getElem?_nil,List.set_cons_zero,List.set_cons_succ,List.cons_append,List.nil_append,-getElem?_pos,-getElem?_neg]
     exact hk
end Px
end Go.Proofs.Ytongllppbifiaaa
