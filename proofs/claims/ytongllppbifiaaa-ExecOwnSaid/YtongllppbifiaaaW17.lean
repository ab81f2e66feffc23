import Derived.Test.YtongllppbifiaaaW16
namespace Go.Proofs.Ytongllppbifiaaa
namespace Px
open Go Abs Code
set_option linter.unusedVariables false
set_option linter.unusedSimpArgs false
set_option maxRecDepth 100000
theorem rmany_ {H : AH} {b : Nat} {ns : List Nat} {s : XS} (r : RepP H b ns s) (t : Int) (hl : ∀ (t : Nat) r,s.free[t]? = some r → r.length ≤ s.each) (he : s.each ≤ 8) {K : Value → AH → Prop} (hK : K (.int .i64 (manyR s t : Nat)) H) :
  AC Try.prog 41 [.pointer (some ⟨b,0,none⟩),.int .i64 t] H K := by
 refine entry hmix cf41 ?_
 by_cases c1 : t < 0
 ·have e : manyR s t = 0 := by simp [manyR,c1]
  rw [e] at hK
  simp (maxSteps := 2000000) (implicitDefEqProofs := false) [DN,NB,begT,atHead,kd,wantedA,evP,evR,evF,evL,evC,evI,evBin,evUn,evEq,evSt,evRes,plain,scp,scpA,scpL,rdRow_eq,RV,rdCells,veq,veqA,veqL,isHole,Value.cells,evalL,optI,evBounds,evFill,evFillR,evApp,newsOf,wrCells,one1,fitsApp,evClr,undef,onB_bool,List.getElem?_concat_length,List.getElem?_cons_zero,List.getElem?_cons_succ,List.getElem?_toArray,List.getElem?_nil,List.set_cons_zero,List.set_cons_succ,List.cons_append,List.nil_append,-getElem?_pos,-getElem?_neg,c1]
  exact hK
 obtain ⟨k,rfl⟩ : ∃ k : Nat,t = k := ⟨t.toNat,by omega⟩
 by_cases c2 : k < s.free.length
 case neg =>
  have e : manyR s k = 0 := by simp [manyR,List.getElem?_eq_none (show s.free.length ≤ k by omega)]
  rw [e] at hK
  have c3 : (s.free.length : Int) ≤ k := by omega
  have c4 : s.free.length ≤ k := by omega
  cases r with
  | zero bF _ r =>
   simp (maxSteps := 2000000) (implicitDefEqProofs := false) [DN,NB,begT,atHead,kd,wantedA,evP,evR,evF,evL,evC,evI,evBin,evUn,evEq,evSt,evRes,plain,scp,scpA,scpL,rdRow_eq,RV,rdCells,veq,veqA,veqL,isHole,Value.cells,evalL,optI,evBounds,evFill,evFillR,evApp,newsOf,wrCells,one1,fitsApp,evClr,undef,onB_bool,List.getElem?_concat_length,List.getElem?_cons_zero,List.getElem?_cons_succ,List.getElem?_toArray,List.getElem?_nil,List.set_cons_zero,List.set_cons_succ,List.cons_append,List.nil_append,-getElem?_pos,-getElem?_neg,c1,c3,c4,r.h0]
   exact hK
  | more bF bG bO bs fv _ r =>
   simp (maxSteps := 2000000) (implicitDefEqProofs := false) [DN,NB,begT,atHead,kd,wantedA,evP,evR,evF,evL,evC,evI,evBin,evUn,evEq,evSt,evRes,plain,scp,scpA,scpL,rdRow_eq,RV,rdCells,veq,veqA,veqL,isHole,Value.cells,evalL,optI,evBounds,evFill,evFillR,evApp,newsOf,wrCells,one1,fitsApp,evClr,undef,onB_bool,List.getElem?_concat_length,List.getElem?_cons_zero,List.getElem?_cons_succ,List.getElem?_toArray,List.getElem?_nil,List.set_cons_zero,List.set_cons_succ,List.cons_append,List.nil_append,-getElem?_pos,-getElem?_neg,c1,c3,c4,r.h0]
   exact hK
 have c3 : ¬ (s.free.length : Int) ≤ k := by omega
 have c4 : ¬ s.free.length ≤ k := by omega
 have c5 : (k : Int) < s.free.length := by omega
 obtain ⟨q,hq⟩ : ∃ q,s.free[k]? = some q := ⟨_,List.getElem?_eq_getElem c2⟩
 have e : manyR s k = s.each - q.length := by simp [manyR,hq]; omega
 have hql := hl k q hq
 have hw : IntKind.i64.wrap ((s.each : Int) - q.length) = ((s.each - q.length : Nat) : Int) := by rw [IntWalk.i64_in _ (by omega)]; omega
 rw [e] at hK
 cases r with
 | zero bF _ r =>
  have hr := r.fr k q hq
  have h0 := r.each
  subst hr
  have hg : (List.replicate s.free.length (Value.slice none 0 0))[k]? = some (.slice none 0 0) := by rw [List.getElem?_replicate,if_pos c2]
  have hfit : k + 1 ≤ (List.replicate s.free.length (Value.slice none 0 0)).length := by simp; omega
  rw [h0] at hK
  have w0 : IntKind.i64.wrap 0 = 0 := rfl
  simp (maxSteps := 2000000) (implicitDefEqProofs := false) [DN,NB,begT,atHead,kd,wantedA,evP,evR,evF,evL,evC,evI,evBin,evUn,evEq,evSt,evRes,plain,scp,scpA,scpL,rdRow_eq,RV,rdCells,veq,veqA,veqL,isHole,Value.cells,evalL,optI,evBounds,evFill,evFillR,evApp,newsOf,wrCells,one1,fitsApp,evClr,undef,onB_bool,List.getElem?_concat_length,List.getElem?_cons_zero,List.getElem?_cons_succ,List.getElem?_toArray,List.getElem?_nil,List.set_cons_zero,List.set_cons_succ,List.cons_append,List.nil_append,-getElem?_pos,-getElem?_neg,c1,c2,c3,c4,c5,r.h0,r.hF,hg,hfit,w0]
  exact hK
 | more bF bG bO bs fv _ r =>
  obtain ⟨v,c,h1,h2,h3⟩ := r.rows k q hq
  have hfit : k + 1 ≤ fv.length := by rw [r.lf]; omega
  cases h3 with
  | row o vs hne hv _ _ _ =>
   subst hv
   simp (maxSteps := 2000000) (implicitDefEqProofs := false) [DN,NB,begT,atHead,kd,wantedA,evP,evR,evF,evL,evC,evI,evBin,evUn,evEq,evSt,evRes,plain,scp,scpA,scpL,rdRow_eq,RV,rdCells,veq,veqA,veqL,isHole,Value.cells,evalL,optI,evBounds,evFill,evFillR,evApp,newsOf,wrCells,one1,fitsApp,evClr,undef,onB_bool,List.getElem?_concat_length,List.getElem?_cons_zero,List.getElem?_cons_succ,List.getElem?_toArray,List.getElem?_nil,List.set_cons_zero,List.set_cons_succ,List.cons_append,List.nil_append,-getElem?_pos,-getElem?_neg,c1,c2,c3,c4,c5,r.h0,r.hF,h1,hfit,hw]
   exact hK
  | empty o d vs hne hv _ _ =>
   subst hv hne
   have w0 : IntKind.i64.wrap (s.each : Int) = s.each := IntWalk.i64_in _ (by omega)
   simp (maxSteps := 2000000) (implicitDefEqProofs := false) [DN,NB,begT,atHead,kd,wantedA,evP,evR,evF,evL,evC,evI,evBin,evUn,evEq,evSt,evRes,plain,scp,scpA,scpL,rdRow_eq,RV,rdCells,veq,veqA,veqL,isHole,Value.cells,evalL,optI,evBounds,evFill,evFillR,evApp,newsOf,wrCells,one1,fitsApp,evClr,undef,onB_bool,List.getElem?_concat_length,List.getElem?_cons_zero,List.getElem?_cons_succ,List.getElem?_toArray,List.getElem?_nil,List.set_cons_zero,List.set_cons_succ,List.cons_append,List.nil_append,-getElem?_pos,-getElem?_neg,c1,c2,c3,c4,c5,r.h0,r.hF,h1,hfit,hw,w0]
   exact hK
theorem ris_ {H : AH} {b : Nat} {ns : List Nat} {s : XS} (r : RepP H b ns s) (x : Nat) (hx : x < 4294967296) (hgo : s.gen.length = s.out.length) (hN : s.gen.length < 4096) (hg : ∀ g ∈ s.gen,g < 262144) {K : Value → AH → Prop} (hK : K (.bool (s.isR x)) H) :
  AC Try.prog 66 [.pointer (some ⟨b,0,none⟩),.int .u32 x] H K := by
 obtain ⟨n,hn⟩ : ∃ n,x % 4096 = n := ⟨_,rfl⟩
 have hnl : n < 4096 := by omega
 refine entry hmix cf66 ?_
 simp (maxSteps := 2000000) (implicitDefEqProofs := false) [DN,NB,begT,atHead,kd,wantedA,evP,evR,evF,evL,evC,evI,evBin,evUn,evEq,evSt,evRes,plain,scp,scpA,scpL,rdRow_eq,RV,rdCells,veq,veqA,veqL,isHole,Value.cells,evalL,optI,evBounds,evFill,evFillR,evApp,newsOf,wrCells,one1,fitsApp,evClr,undef,onB_bool,List.getElem?_concat_length,List.getElem?_cons_zero,List.getElem?_cons_succ,List.getElem?_toArray,List.getElem?_nil,List.set_cons_zero,List.set_cons_succ,List.cons_append,List.nil_append,-getElem?_pos,-getElem?_neg]
 refine rindex_ x n hx hn _ ?_
 by_cases c1 : n = 0
 ·have e : s.isR x = false := by simp [XS.isR,hn,c1]
  rw [e] at hK
  have c1' : ¬ (1 : Int) ≤ n := by omega
  subst c1
  simp (maxSteps := 2000000) (implicitDefEqProofs := false) [DN,NB,begT,atHead,kd,wantedA,evP,evR,evF,evL,evC,evI,evBin,evUn,evEq,evSt,evRes,plain,scp,scpA,scpL,rdRow_eq,RV,rdCells,veq,veqA,veqL,isHole,Value.cells,evalL,optI,evBounds,evFill,evFillR,evApp,newsOf,wrCells,one1,fitsApp,evClr,undef,onB_bool,List.getElem?_concat_length,List.getElem?_cons_zero,List.getElem?_cons_succ,List.getElem?_toArray,List.getElem?_nil,List.set_cons_zero,List.set_cons_succ,List.cons_append,List.nil_append,-getElem?_pos,-getElem?_neg]
  exact hK
 have c1' : (1 : Int) ≤ n := by omega
 by_cases c2 : n ≤ s.out.length
 case neg =>
  have e : s.isR x = false := by simp [XS.isR,hn]; omega
  rw [e] at hK
  have c2' : ¬ (n : Int) ≤ s.out.length := by omega
  cases r with
  | zero bF _ r =>
   simp (maxSteps := 2000000) (implicitDefEqProofs := false) [DN, NB, begT, atHead, kd, wantedA, evP, evR, evF, evL, evC, evI, evBin, evUn, evEq, evSt, evRes, plain, scp, scpA, scpL, rdRow_eq, RV, rdCells, veq, veqA, veqL, isHole, Value.cells, evalL, optI, evBounds, evFill, evFillR, evApp, newsOf, wrCells, one1, fitsApp, evClr, undef, onB_bool, List.getElem?_concat_length, List.getElem?_cons_zero, List.getElem?_cons_succ, List.getElem?_toArray, List.getElem?_nil, List.set_cons_zero, List.set_cons_succ, List.cons_append, List.nil_append, -getElem?_pos, -getElem?_neg, c1', c1, r.h0]
   exact hK
  | more bF bG bO bs fv _ r =>
   simp (maxSteps := 2000000) (implicitDefEqProofs := false) [DN, NB, begT, atHead, kd, wantedA, evP, evR, evF, evL, evC, evI, evBin, evUn, evEq, evSt, evRes, plain, scp, scpA, scpL, rdRow_eq, RV, rdCells, veq, veqA, veqL, isHole, Value.cells, evalL, optI, evBounds, evFill, evFillR, evApp, newsOf, wrCells, one1, fitsApp, evClr, undef, onB_bool, List.getElem?_concat_length, List.getElem?_cons_zero, List.getElem?_cons_succ, List.getElem?_toArray, List.getElem?_nil, List.set_cons_zero, List.set_cons_succ, List.cons_append, List.nil_append, -getElem?_pos, -getElem?_neg, c1', c2, c2', r.h0]
   exact hK
 have c2' : (n : Int) ≤ s.out.length := by omega
 cases r with
 | zero bF _ r => exact absurd c2 (by rw [r.ou]; simp; omega)
 | more bF bG bO bs fv _ r =>
  obtain ⟨k,rfl⟩ : ∃ k,n = k + 1 := ⟨n - 1,by omega⟩
  obtain ⟨o,ho⟩ : ∃ o,s.out[k]? = some o := ⟨_,List.getElem?_eq_getElem (by omega)⟩
  have hv : (natV s.out)[k]? = some (.int .i64 (o : Int)) := by rw [natV_get,ho]; rfl
  have hfit : k + 1 ≤ (natV s.out).length := by rw [natV_length]; omega
  have hw : IntKind.i64.wrap (k : Int) = (k : Int) := IntWalk.i64_in _ (by omega)
  have c3 : k < s.out.length := by omega
  have c4 : (1 : Int) ≤ (k : Int) + 1 := by omega
  have c5 : (k : Int) + 1 ≤ s.out.length := by omega
  have hisR : s.isR x = (decide (o = 1) && decide (s.han (k + 1) = x)) := by
   unfold XS.isR
   rw [hn,Nat.add_sub_cancel,ho]
   simp
   intro _ _
   omega
  rw [hisR] at hK
  by_cases c6 : o = 1
  ·subst c6
   have hb : (((s.han (k + 1) : Nat) : Int) == (x : Int)) = decide (s.han (k + 1) = x) := by
    by_cases e : s.han (k + 1) = x
    ·simp [e]
    ·have : ¬ ((s.han (k + 1) : Nat) : Int) = x := by omega
     simp [e,this]
   simp (maxSteps := 2000000) (implicitDefEqProofs := false) [DN, NB, begT, atHead, kd, wantedA, evP, evR, evF, evL, evC, evI, evBin, evUn, evEq, evSt, evRes, plain, scp, scpA, scpL, rdRow_eq, RV, rdCells, veq, veqA, veqL, isHole, Value.cells, evalL, optI, evBounds, evFill, evFillR, evApp, newsOf, wrCells, one1, fitsApp, evClr, undef, onB_bool, List.getElem?_concat_length, List.getElem?_cons_zero, List.getElem?_cons_succ, List.getElem?_toArray, List.getElem?_nil, List.set_cons_zero, List.set_cons_succ, List.cons_append, List.nil_append, -getElem?_pos, -getElem?_neg, c1', c2, c2', c3, c4, c5, r.h0, r.hO, hw, hv, hfit]
   refine rhandle_ r (k + 1) (by omega) (by omega) hN hg ?_
   simp (maxSteps := 2000000) (implicitDefEqProofs := false) [DN,NB,begT,atHead,kd,wantedA,evP,evR,evF,evL,evC,evI,evBin,evUn,evEq,evSt,evRes,plain,scp,scpA,scpL,rdRow_eq,RV,rdCells,veq,veqA,veqL,isHole,Value.cells,evalL,optI,evBounds,evFill,evFillR,evApp,newsOf,wrCells,one1,fitsApp,evClr,undef,onB_bool,List.getElem?_concat_length,List.getElem?_cons_zero,List.getElem?_cons_succ,List.getElem?_toArray,List.getElem?_nil,List.set_cons_zero,List.set_cons_succ,List.cons_append,List.nil_append,-getElem?_pos,-getElem?_neg,hb]
   simpa using hK
  ·have c7 : ((o : Int) == 1) = false := by simp; omega
   have c8 : ¬ (o : Int) = 1 := by omega
   simp (maxSteps := 2000000) (implicitDefEqProofs := false) [DN, NB, begT, atHead, kd, wantedA, evP, evR, evF, evL, evC, evI, evBin, evUn, evEq, evSt, evRes, plain, scp, scpA, scpL, rdRow_eq, RV, rdCells, veq, veqA, veqL, isHole, Value.cells, evalL, optI, evBounds, evFill, evFillR, evApp, newsOf, wrCells, one1, fitsApp, evClr, undef, onB_bool, List.getElem?_concat_length, List.getElem?_cons_zero, List.getElem?_cons_succ, List.getElem?_toArray, List.getElem?_nil, List.set_cons_zero, List.set_cons_succ, List.cons_append, List.nil_append, -getElem?_pos, -getElem?_neg, c1', c2, c2', c3, c4, c5, r.h0, r.hO, hw, hv, hfit, c6, c7, c8]
   simpa [c6] using hK
end Px
end Go.Proofs.Ytongllppbifiaaa
