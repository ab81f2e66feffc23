import Derived.Test.YtongllppbifiaaaW15
import Derived.Test.YtongllppbifiaaaW4
namespace Go.Proofs.Ytongllppbifiaaa
namespace Px
open Go Abs Code
set_option linter.unusedVariables false
set_option linter.unusedSimpArgs false
set_option maxRecDepth 100000
theorem refnew_ (n g : Nat) (hn : n < 4096) (hg : g < 262144) (h : AH) {K : Value → AH → Prop} (hK : K (.tuple #[.int .u32 (hOf n g : Nat),.bool true]) h) : AC Try.prog 87 [.int .i64 n,.int .i64 g] h K := by
 have a1 : ¬ (4095 : Int) < n := by omega
 have a2 : ¬ (262143 : Int) < g := by omega
 have a3 : ¬ (n : Int) < 0 := by omega
 have a4 : ¬ (g : Int) < 0 := by omega
 have w1 : IntKind.i64.wrap ((g : Int) * 4096) = (g : Int) * 4096 := IntWalk.i64_in _ (by omega)
 have w2 : IntKind.i64.wrap ((g : Int) * 4096 + n) = ((g * 4096 + n : Nat) : Int) := by rw [IntWalk.i64_in _ (by omega)]; push_cast; rfl
 have w3 := u32w (g * 4096 + n) (by omega)
 refine entry hmix cf87 ?_
 simp (maxSteps := 2000000) (implicitDefEqProofs := false) [DN,NB,begT,atHead,kd,wantedA,evP,evR,evF,evL,evC,evI,evBin,evUn,evEq,evSt,evRes,plain,scp,scpA,scpL,rdRow_eq,RV,rdCells,veq,veqA,veqL,isHole,Value.cells,evalL,optI,evBounds,evFill,evFillR,evApp,newsOf,wrCells,one1,fitsApp,evClr,undef,onB_bool,List.getElem?_concat_length,List.getElem?_cons_zero,List.getElem?_cons_succ,List.getElem?_toArray,List.getElem?_nil,List.set_cons_zero,List.set_cons_succ,List.cons_append,List.nil_append,-getElem?_pos,-getElem?_neg,a1,a2,a3,a4,w1]
 rw [w2,w3]
 exact hK
theorem rnext_ (x : Nat) (hx : x < 4294967296) (h : AH) {K : Value → AH → Prop} (hK : K (.int .u32 (hNext x : Nat)) h) : AC Try.prog 69 [.int .u32 x] h K := by
 obtain ⟨g,hg⟩ : ∃ g,x / 4096 % 262144 = g := ⟨_,rfl⟩
 obtain ⟨n,hn⟩ : ∃ n,x % 4096 = n := ⟨_,rfl⟩
 have hg2 : g < 262144 := by omega
 have w1 : IntKind.i64.wrap ((g : Int) + 1) = (g : Int) + 1 := IntWalk.i64_in _ (by omega)
 refine entry hmix cf69 ?_
 simp (maxSteps := 2000000) (implicitDefEqProofs := false) [DN,NB,begT,atHead,kd,wantedA,evP,evR,evF,evL,evC,evI,evBin,evUn,evEq,evSt,evRes,plain,scp,scpA,scpL,rdRow_eq,RV,rdCells,veq,veqA,veqL,isHole,Value.cells,evalL,optI,evBounds,evFill,evFillR,evApp,newsOf,wrCells,one1,fitsApp,evClr,undef,onB_bool,List.getElem?_concat_length,List.getElem?_cons_zero,List.getElem?_cons_succ,List.getElem?_toArray,List.getElem?_nil,List.set_cons_zero,List.set_cons_succ,List.cons_append,List.nil_append,-getElem?_pos,-getElem?_neg]
 refine rgen_ x g hx hg _ ?_
 by_cases c : g = 262143
 ·subst c
  have e : hNext x = n := by unfold hNext hOf; rw [hn,hg]; omega
  rw [e] at hK
  have w4 := u32w n (by omega)
  have w5 : IntKind.i64.wrap (n : Int) = n := i64w n (by omega)
  have w6 : IntKind.i64.wrap (0 : Int) = 0 := rfl
  have w7 : IntKind.i64.wrap (262144 : Int) = 262144 := rfl
  simp (maxSteps := 2000000) (implicitDefEqProofs := false) [DN,NB,begT,atHead,kd,wantedA,evP,evR,evF,evL,evC,evI,evBin,evUn,evEq,evSt,evRes,plain,scp,scpA,scpL,rdRow_eq,RV,rdCells,veq,veqA,veqL,isHole,Value.cells,evalL,optI,evBounds,evFill,evFillR,evApp,newsOf,wrCells,one1,fitsApp,evClr,undef,onB_bool,List.getElem?_concat_length,List.getElem?_cons_zero,List.getElem?_cons_succ,List.getElem?_toArray,List.getElem?_nil,List.set_cons_zero,List.set_cons_succ,List.cons_append,List.nil_append,-getElem?_pos,-getElem?_neg,w1,w7]
  refine rindex_ x n hx hn _ ?_
  simp (maxSteps := 2000000) (implicitDefEqProofs := false) [DN,NB,begT,atHead,kd,wantedA,evP,evR,evF,evL,evC,evI,evBin,evUn,evEq,evSt,evRes,plain,scp,scpA,scpL,rdRow_eq,RV,rdCells,veq,veqA,veqL,isHole,Value.cells,evalL,optI,evBounds,evFill,evFillR,evApp,newsOf,wrCells,one1,fitsApp,evClr,undef,onB_bool,List.getElem?_concat_length,List.getElem?_cons_zero,List.getElem?_cons_succ,List.getElem?_toArray,List.getElem?_nil,List.set_cons_zero,List.set_cons_succ,List.cons_append,List.nil_append,-getElem?_pos,-getElem?_neg,w4,w5,w6]
  exact hK
 ·have c2 : ¬ (g : Int) + 1 = 262144 := by omega
  have c3 : ((g : Int) + 1 == 262144) = false := by simpa using c2
  have e : hNext x = (g + 1) * 4096 + n := by unfold hNext hOf; rw [hn,hg]; omega
  rw [e] at hK
  have w2 : IntKind.i64.wrap (((g : Int) + 1) * 4096) = ((g : Int) + 1) * 4096 := IntWalk.i64_in _ (by omega)
  have w3 : IntKind.i64.wrap (((g : Int) + 1) * 4096 + n) = (((g + 1) * 4096 + n : Nat) : Int) := by rw [IntWalk.i64_in _ (by omega)]; push_cast; rfl
  have w4 := u32w ((g + 1) * 4096 + n) (by omega)
  simp (maxSteps := 2000000) (implicitDefEqProofs := false) [DN,NB,begT,atHead,kd,wantedA,evP,evR,evF,evL,evC,evI,evBin,evUn,evEq,evSt,evRes,plain,scp,scpA,scpL,rdRow_eq,RV,rdCells,veq,veqA,veqL,isHole,Value.cells,evalL,optI,evBounds,evFill,evFillR,evApp,newsOf,wrCells,one1,fitsApp,evClr,undef,onB_bool,List.getElem?_concat_length,List.getElem?_cons_zero,List.getElem?_cons_succ,List.getElem?_toArray,List.getElem?_nil,List.set_cons_zero,List.set_cons_succ,List.cons_append,List.nil_append,-getElem?_pos,-getElem?_neg,w1,c2,c3]
  refine rindex_ x n hx hn _ ?_
  simp (maxSteps := 2000000) (implicitDefEqProofs := false) [DN,NB,begT,atHead,kd,wantedA,evP,evR,evF,evL,evC,evI,evBin,evUn,evEq,evSt,evRes,plain,scp,scpA,scpL,rdRow_eq,RV,rdCells,veq,veqA,veqL,isHole,Value.cells,evalL,optI,evBounds,evFill,evFillR,evApp,newsOf,wrCells,one1,fitsApp,evClr,undef,onB_bool,List.getElem?_concat_length,List.getElem?_cons_zero,List.getElem?_cons_succ,List.getElem?_toArray,List.getElem?_nil,List.set_cons_zero,List.set_cons_succ,List.cons_append,List.nil_append,-getElem?_pos,-getElem?_neg,w2]
  rw [w3,w4]
  exact hK
def natV (l : List Nat) : List Value := l.map fun (n : Nat) => .int .i64 (n : Int)
theorem natV_length (l : List Nat) : (natV l).length = l.length := by simp [natV]
theorem natV_get (l : List Nat) (i : Nat) : (natV l)[i]? = (l[i]?).map fun (n : Nat) => .int .i64 (n : Int) := by simp [natV]
theorem natV_set (l : List Nat) (i v : Nat) : (natV l).set i (.int .i64 (v : Int)) = natV (l.set i v) := by simp [natV,List.map_set]
inductive RowIs (g : AH) (v : Value) (l : List Nat) (b : Nat) : Prop
 | row (o : Nat) (vs : List Value) : l ≠ [] → v = .slice (some ⟨b,o,none⟩) l.length (OPEN + l.length) → g[b]? = some (.cells vs 3 (some 1)) → vs.drop o = natV l → o + l.length = vs.length → RowIs g v l b
 | empty (o d : Nat) (vs : List Value) : l = [] → v = .slice (some ⟨b,o,some (2 * d)⟩) 0 OPEN → g[b]? = some (.cells vs 3 (some 1)) → o + d = vs.length → RowIs g v l b
theorem RowIs.get {g : AH} {v : Value} {l : List Nat} {b : Nat} (r : RowIs g v l b) : ∃ k,g[b]? = some k := by
 cases r with
 | row o vs _ _ h => exact ⟨_,h⟩
 | empty o d vs _ _ h => exact ⟨_,h⟩
theorem RowIs.keep {g g' : AH} {v : Value} {l : List Nat} {b : Nat} (r : RowIs g v l b) (h : g'[b]? = g[b]?) : RowIs g' v l b := by
 cases r with
 | row o vs h1 h2 h3 h4 h5 => exact .row o vs h1 h2 (by rw [h]; exact h3) h4 h5
 | empty o d vs h1 h2 h3 h4 => exact .empty o d vs h1 h2 (by rw [h]; exact h3) h4
structure Rep0 (g : AH) (b bF : Nat) (s : XS) : Prop where
 each : s.each = 0
 h0 : g[b]? = some (.cells [.int .i64 0,.slice (some ⟨bF,0,none⟩) s.free.length (OPEN + s.free.length),.slice none 0 0,.slice none 0 0] 149 none)
 hF : g[bF]? = some (.cells (List.replicate s.free.length (.slice none 0 0)) 25 (some 1))
 fr : ∀ (t : Nat) r,s.free[t]? = some r → r = []
 gn : s.gen = []
 ou : s.out = []
 one : 1 ≤ s.free.length
structure Rep1 (g : AH) (b bF bG bO : Nat) (bs : List Nat) (fv : List Value) (s : XS) : Prop where
 each : 1 ≤ s.each
 h0 : g[b]? = some (.cells [.int .i64 s.each,.slice (some ⟨bF,0,none⟩) s.free.length (OPEN + s.free.length),.slice (some ⟨bG,0,none⟩) s.gen.length (OPEN + s.gen.length),.slice (some ⟨bO,0,none⟩) s.out.length (OPEN + s.out.length)] 149 none)
 hF : g[bF]? = some (.cells fv 25 (some 1))
 hG : g[bG]? = some (.cells (natV s.gen) 3 (some 1))
 hO : g[bO]? = some (.cells (natV s.out) 3 (some 1))
 lf : fv.length = s.free.length
 lb : bs.length = s.free.length
 rows : ∀ (t : Nat) r,s.free[t]? = some r → ∃ v c,fv[t]? = some v ∧ bs[t]? = some c ∧ RowIs g v r c
 nd : (b :: bF :: bG :: bO :: bs).Nodup
inductive RepP (g : AH) (b : Nat) (ns : List Nat) (s : XS) : Prop
 | zero (bF : Nat) : ns = [b,bF] → Rep0 g b bF s → RepP g b ns s
 | more (bF bG bO : Nat) (bs : List Nat) (fv : List Value) : ns = b :: bF :: bG :: bO :: bs → Rep1 g b bF bG bO bs fv s → RepP g b ns s
theorem RepP.keep {g g' : AH} {b : Nat} {ns : List Nat} {s : XS} (r : RepP g b ns s) (h : ∀ c ∈ ns,g'[c]? = g[c]?) : RepP g' b ns s := by
 cases r with
 | zero bF e r =>
  subst e
  exact .zero bF rfl ⟨r.each,by rw [h b (by simp)]; exact r.h0,by rw [h bF (by simp)]; exact r.hF,r.fr,r.gn,r.ou,r.one⟩
 | more bF bG bO bs fv e r =>
  subst e
  refine .more bF bG bO bs fv rfl ⟨r.each,by rw [h b (by simp)]; exact r.h0,by rw [h bF (by simp)]; exact r.hF,by rw [h bG (by simp)]; exact r.hG,by rw [h bO (by simp)]; exact r.hO,r.lf,r.lb,fun t q hq => ?_,r.nd⟩
  obtain ⟨v,c,h1,h2,h3⟩ := r.rows t q hq
  exact ⟨v,c,h1,h2,h3.keep (h c (by simp [List.mem_of_getElem? h2]))⟩
theorem rhandle_ {H : AH} {b bF bG bO : Nat} {bs : List Nat} {fv : List Value} {s : XS} (r : Rep1 H b bF bG bO bs fv s) (n : Nat) (h1 : 1 ≤ n) (h2 : n ≤ s.gen.length) (hN : s.gen.length < 4096) (hg : ∀ g ∈ s.gen,g < 262144) {K : Value → AH → Prop} (hK : K (.int .u32 (s.han n : Nat)) H) :
  AC Try.prog 65 [.pointer (some ⟨b,0,none⟩),.int .i64 n] H K := by
 obtain ⟨k,rfl⟩ : ∃ k,n = k + 1 := ⟨n - 1,by omega⟩
 obtain ⟨g,hgk⟩ : ∃ g,s.gen[k]? = some g := ⟨_,List.getElem?_eq_getElem (by omega)⟩
 have hv : (natV s.gen)[k]? = some (.int .i64 (g : Int)) := by rw [natV_get,hgk]; rfl
 have hfit : k + 1 ≤ (natV s.gen).length := by rw [natV_length]; omega
 have hw : IntKind.i64.wrap (k : Int) = (k : Int) := IntWalk.i64_in _ (by omega)
 have e : s.han (k + 1) = hOf (k + 1) g := by unfold XS.han; rw [Nat.add_sub_cancel,hgk]; rfl
 rw [e] at hK
 have c1 : k < s.gen.length := by omega
 refine entry hmix cf65 ?_
 simp (maxSteps := 2000000) (implicitDefEqProofs := false) [DN,NB,begT,atHead,kd,wantedA,evP,evR,evF,evL,evC,evI,evBin,evUn,evEq,evSt,evRes,plain,scp,scpA,scpL,rdRow_eq,RV,rdCells,veq,veqA,veqL,isHole,Value.cells,evalL,optI,evBounds,evFill,evFillR,evApp,newsOf,wrCells,one1,fitsApp,evClr,undef,onB_bool,List.getElem?_concat_length,List.getElem?_cons_zero,List.getElem?_cons_succ,List.getElem?_toArray,List.getElem?_nil,List.set_cons_zero,List.set_cons_succ,List.cons_append,List.nil_append,-getElem?_pos,-getElem?_neg,r.h0,r.hG,hw,hv,hfit,c1]
 refine refnew_ (k + 1) g (by omega) (hg g (List.mem_of_getElem? hgk)) _ ?_
 simp (maxSteps := 2000000) (implicitDefEqProofs := false) [DN,NB,begT,atHead,kd,wantedA,evP,evR,evF,evL,evC,evI,evBin,evUn,evEq,evSt,evRes,plain,scp,scpA,scpL,rdRow_eq,RV,rdCells,veq,veqA,veqL,isHole,Value.cells,evalL,optI,evBounds,evFill,evFillR,evApp,newsOf,wrCells,one1,fitsApp,evClr,undef,onB_bool,List.getElem?_concat_length,List.getElem?_cons_zero,List.getElem?_cons_succ,List.getElem?_toArray,List.getElem?_nil,List.set_cons_zero,List.set_cons_succ,List.cons_append,List.nil_append,-getElem?_pos,-getElem?_neg]
 exact hK
end Px
end Go.Proofs.Ytongllppbifiaaa
