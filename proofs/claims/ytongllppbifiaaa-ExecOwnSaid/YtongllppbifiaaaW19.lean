import Derived.Test.YtongllppbifiaaaW18
namespace Go.Proofs.Ytongllppbifiaaa
namespace Px
open Go Abs Code
set_option linter.unusedVariables false
set_option linter.unusedSimpArgs false
set_option maxRecDepth 100000
theorem Rep1.back {H H' : AH} {b bF bG bO : Nat} {bs : List Nat} {fv : List Value} {s : XS} (r : Rep1 H b bF bG bO bs fv s) {k c' n : Nat} {q gen' out' : List Nat} (hq : s.free[k]? = some q) (hc : H.length ≤ c') (e1 : H'[b]? = H[b]?) (e2 : H'[bF]? = some (.cells (fv.set k (.slice (some ⟨c', 0, none⟩) (q.length + 1) (OPEN + (q.length + 1)))) 25 (some 1)))
  (e3 : H'[bG]? = some (.cells (natV gen') 3 (some 1))) (e4 : H'[bO]? = some (.cells (natV out') 3 (some 1))) (e5 : H'[c']? = some (.cells (natV (q ++ [n])) 3 (some 1))) (e6 : ∀ (t x : Nat),bs[t]? = some x → t ≠ k → H'[x]? = H[x]?) (lg : gen'.length = s.gen.length) (lo : out'.length = s.out.length) :
  Rep1 H' b bF bG bO (bs.set k c') (fv.set k (.slice (some ⟨c', 0, none⟩) (q.length + 1) (OPEN + (q.length + 1)))) { s with free := s.free.set k (q ++ [n]), gen := gen', out := out' } := by
 have hkl := (List.getElem?_eq_some_iff.1 hq).1
 have nd := r.nd
 simp only [List.nodup_cons,List.mem_cons,not_or] at nd
 obtain ⟨⟨n1,n2,n3,n4⟩,⟨n5,n6,n7⟩,⟨n8,n9⟩,n10,n11⟩ := nd
 have l1 := lt_get r.h0
 have l2 := lt_get r.hF
 have l3 := lt_get r.hG
 have l4 := lt_get r.hO
 have l5 : ∀ x ∈ bs,x < H.length := by
  intro x hx
  obtain ⟨t,ht,e⟩ := List.mem_iff_getElem.1 hx
  have htl : t < s.free.length := by rw [← r.lb]; exact ht
  obtain ⟨v,c,_,h2,h3⟩ := r.rows t _ (List.getElem?_eq_getElem htl)
  rw [List.getElem?_eq_getElem ht] at h2
  injection h2 with h2
  obtain ⟨kk,hkk⟩ := h3.get
  rw [← e,h2]
  exact lt_get hkk
 have hm : ∀ x,x ∈ bs.set k c' → x = c' ∨ x ∈ bs := fun x hx => (List.mem_or_eq_of_mem_set hx).symm
 refine ⟨r.each, ?_,e2,e3,e4,by simp [r.lf],by simp [r.lb],fun t q' hq' => ?_, ?_⟩
 ·simp only [List.length_set,lg,lo]
  rw [e1]
  exact r.h0
 ·simp only at hq'
  by_cases e : t = k
  ·subst e
   rw [List.getElem?_set_self hkl] at hq'
   injection hq' with hq'
   subst hq'
   refine ⟨_, c', List.getElem?_set_self (by rw [r.lf]; exact hkl), List.getElem?_set_self (by rw [r.lb]; exact hkl), .row 0 _ (by simp) (by simp) e5 (by simp) (by simp [natV_length])⟩
  ·rw [List.getElem?_set_ne (fun h => e h.symm)] at hq'
   obtain ⟨v,x,h1,h2,h3⟩ := r.rows t q' hq'
   exact ⟨v,x,by rw [List.getElem?_set_ne (fun h => e h.symm)]; exact h1,by rw [List.getElem?_set_ne (fun h => e h.symm)]; exact h2,h3.keep (e6 t x h2 e)⟩
 ·have hbn : ∀ x ∈ bs,x ≠ c' := fun x hx e => by have := l5 x hx; omega
  simp only [List.nodup_cons,List.mem_cons,not_or]
  refine ⟨⟨n1,n2,n3,fun h => ?_⟩,⟨n5,n6,fun h => ?_⟩,⟨n8,fun h => ?_⟩,fun h => ?_, ?_⟩
  ·rcases hm _ h with h | h
   ·omega
   ·exact n4 h
  ·rcases hm _ h with h | h
   ·omega
   ·exact n7 h
  ·rcases hm _ h with h | h
   ·omega
   ·exact n9 h
  ·rcases hm _ h with h | h
   ·omega
   ·exact n10 h
  ·rw [List.nodup_iff_pairwise_ne,List.pairwise_iff_getElem] at n11 ⊢
   intro i j hi hj hij
   simp only [List.length_set] at hi hj
   rw [List.getElem_set,List.getElem_set]
   split
   ·split
    ·omega
    ·exact (hbn _ (List.getElem_mem _)).symm
   ·split
    ·exact hbn _ (List.getElem_mem _)
    ·exact n11 i j hi hj hij
set_option maxHeartbeats 2000000 in
theorem rback_ {H : AH} {b : Nat} {ns : List Nat} {s : XS} (r : RepP H b ns s) (ok : OkX s) (x : Nat) (hx : x < 4294967296) (hth : s.isR x = true → (x % 4096 - 1) / s.each < s.free.length) {K : Value → AH → Prop} (hK : ∀ H' ns', RepP H' b ns' (backRS s x) → Upd ns H ns' H' → K (.int .i64 (backE s x)) H') :
  AC Try.prog 36 [.pointer (some ⟨b,0,none⟩),.int .u32 x] H K := by
 refine entry hmix cf36 ?_
 by_cases c0 : x = 0
 ·subst c0
  have hk := hK H ns (by simpa [backRS] using r) (Upd.refl _ _)
  simp only [backE,if_true] at hk
  simp (maxSteps := 2000000) (implicitDefEqProofs := false) [DN,NB,begT,atHead,kd,wantedA,evP,evR,evF,evL,evC,evI,evBin,evUn,evEq,evSt,evRes,plain,scp,scpA,scpL,rdRow_eq,RV,rdCells,veq,veqA,veqL,isHole,Value.cells,evalL,optI,evBounds,evFill,evFillR,evApp,newsOf,wrCells,one1,fitsApp,evClr,undef,onB_bool,List.getElem?_concat_length,List.getElem?_cons_zero,List.getElem?_cons_succ,List.getElem?_toArray,List.getElem?_nil,List.set_cons_zero,List.set_cons_succ,List.cons_append,List.nil_append,-getElem?_pos,-getElem?_neg]
  exact hk
 have c0' : ¬ (x : Int) = 0 := by omega
 simp (maxSteps := 2000000) (implicitDefEqProofs := false) [DN,NB,begT,atHead,kd,wantedA,evP,evR,evF,evL,evC,evI,evBin,evUn,evEq,evSt,evRes,plain,scp,scpA,scpL,rdRow_eq,RV,rdCells,veq,veqA,veqL,isHole,Value.cells,evalL,optI,evBounds,evFill,evFillR,evApp,newsOf,wrCells,one1,fitsApp,evClr,undef,onB_bool,List.getElem?_concat_length,List.getElem?_cons_zero,List.getElem?_cons_succ,List.getElem?_toArray,List.getElem?_nil,List.set_cons_zero,List.set_cons_succ,List.cons_append,List.nil_append,-getElem?_pos,-getElem?_neg,c0,c0']
 refine ris_ r x hx ok.lens ok.small ok.gens ?_
 by_cases c1 : s.isR x = true
 case neg =>
  have c1 : s.isR x = false := by simpa using c1
  have hk := hK H ns (by simpa [backRS,c1] using r) (Upd.refl _ _)
  simp [backE,c0,c1] at hk
  rw [c1]
  simp (maxSteps := 2000000) (implicitDefEqProofs := false) [DN,NB,begT,atHead,kd,wantedA,evP,evR,evF,evL,evC,evI,evBin,evUn,evEq,evSt,evRes,plain,scp,scpA,scpL,rdRow_eq,RV,rdCells,veq,veqA,veqL,isHole,Value.cells,evalL,optI,evBounds,evFill,evFillR,evApp,newsOf,wrCells,one1,fitsApp,evClr,undef,onB_bool,List.getElem?_concat_length,List.getElem?_cons_zero,List.getElem?_cons_succ,List.getElem?_toArray,List.getElem?_nil,List.set_cons_zero,List.set_cons_succ,List.cons_append,List.nil_append,-getElem?_pos,-getElem?_neg]
  exact hk
 have hk0 := hth c1
 have hE : backE s x = 0 := by simp [backE,c0,c1]
 rw [hE] at hK
 obtain ⟨n,hn⟩ : ∃ n,x % 4096 = n := ⟨_,rfl⟩
 have hS : backRS s x = { s with free := s.free.set ((n - 1) / s.each) ((s.free[(n - 1) / s.each]?).getD [] ++ [n]),gen := s.gen.set (n - 1) (hNext x / 4096 % 262144),out := s.out.set (n - 1) 0 } := by
  unfold backRS
  rw [if_neg (by simp [c0,c1]),hn]
 obtain ⟨a1,a2⟩ : 1 ≤ n ∧ n ≤ s.out.length := by
  have := c1
  simp only [XS.isR,decide_eq_true_eq,hn] at this
  exact ⟨this.1,this.2.1⟩
 rw [hn] at hk0
 cases r with
 | zero bF e0 r0 =>
  have := r0.ou
  rw [this] at a2
  simp at a2
  omega
 | more bF bG bO bs fv e0 r0 =>
  obtain ⟨k,hk⟩ : ∃ k,(n - 1) / s.each = k := ⟨_,rfl⟩
  rw [hk] at hS hk0
  obtain ⟨q,hq⟩ : ∃ q,s.free[k]? = some q := ⟨_,List.getElem?_eq_getElem hk0⟩
  rw [hq] at hS
  simp only [Option.getD_some] at hS
  obtain ⟨v,c,h1,h2,h3⟩ := r0.rows k q hq
  have nd := r0.nd
  simp only [List.nodup_cons,List.mem_cons,not_or] at nd
  obtain ⟨⟨n1,n2,n3,n4⟩,⟨n5,n6,n7⟩,⟨n8,n9⟩,n10,n11⟩ := nd
  have hcb : c ∈ bs := List.mem_of_getElem? h2
  have m1 : c ≠ b := fun e => n4 (e ▸ hcb)
  have m2 : c ≠ bF := fun e => n7 (e ▸ hcb)
  have m3 : c ≠ bG := fun e => n9 (e ▸ hcb)
  have m4 : c ≠ bO := fun e => n10 (e ▸ hcb)
  obtain ⟨m,rfl⟩ : ∃ m,n = m + 1 := ⟨n - 1,by omega⟩
  simp only [Nat.add_sub_cancel] at hk hS
  have hol := ok.lens
  have hsm := ok.small
  have hw : IntKind.i64.wrap (m : Int) = (m : Int) := IntWalk.i64_in _ (by omega)
  have o1 : m < s.out.length := by omega
  have o2 : m + 1 ≤ (natV s.out).length := by rw [natV_length]; omega
  have g1 : m < s.gen.length := by omega
  have g2 : m + 1 ≤ (natV s.gen).length := by rw [natV_length]; omega
  have o3 : (natV s.out).set m (.int .i64 0) = natV (s.out.set m 0) := natV_set s.out m 0
  obtain ⟨g', hg'⟩ : ∃ g', hNext x / 4096 % 262144 = g' := ⟨_, rfl⟩
  rw [hg'] at hS
  have g3 := natV_set s.gen m g'
  obtain ⟨A,hA⟩ : ∃ A : ABlk,A = .cells (natV (s.out.set m 0)) 3 (some 1) := ⟨_,rfl⟩
  obtain ⟨B,hB⟩ : ∃ B : ABlk,B = .cells (natV (s.gen.set m g')) 3 (some 1) := ⟨_,rfl⟩
  have he0 := r0.each
  have hd : (m : Int).tdiv (s.each : Int) = (k : Int) := by
   rw [Int.tdiv_eq_ediv_of_nonneg (by omega),← hk]
   push_cast
   rfl
  have hkm : k ≤ m := by rw [← hk]; exact Nat.div_le_self _ _
  have hwk : IntKind.i64.wrap (k : Int) = (k : Int) := IntWalk.i64_in _ (by omega)
  have d0 : ¬ s.each = 0 := by omega
  have k1 : (k : Int) < s.free.length := by omega
  have k2 : k + 1 ≤ fv.length := by rw [r0.lf]; omega
  have f1 : (H.set bO A)[b]? = _ := getS r0.h0 bO (fun e => n3 e.symm) A
  have f2 : (H.set bO A)[bG]? = _ := getS r0.hG bO (fun e => n8 e.symm) A
  have f3 : ((H.set bO A).set bG B)[b]? = _ := getS f1 bG (fun e => n2 e.symm) B
  have f4 : ∀ tl,((H.set bO A).set bG B ++ tl)[b]? = _ := fun tl => getA f3 tl
  have f5 : ∀ tl,((H.set bO A).set bG B ++ tl)[bF]? = _ := fun tl => getA (getS (getS r0.hF bO (fun e => n6 e.symm) A) bG (fun e => n5 e.symm) B) tl
  have f6 : ∀ L : ABlk,((H.set bO A).set bG B ++ [L])[H.length]? = some L := fun L => by
   rw [List.getElem?_append_right (by simp)]
   simp
  have hlen : ((H.set bO A).set bG B).length = H.length := by simp
  obtain ⟨H2,hH2⟩ : ∃ H2,(H.set bO A).set bG B = H2 := ⟨_,rfl⟩
  rw [hH2] at f3 f4 f5 f6 hlen
  have f7 : ∀ L : ABlk,(H2 ++ [L]).set H.length = (H2 ++ [L]).set H2.length := fun L => by rw [hlen]
  have fin : ∀ (lit : ABlk) (v' : Value),v' = .slice (some ⟨H.length + 1,0,none⟩) (q.length + 1) (OPEN + (q.length + 1)) → K (.int .i64 0) (List.set ((H2 ++ [lit]).set c .dead ++ [.cells (natV (q ++ [m + 1])) 3 (some 1)]) bF (.cells (fv.set k v') 25 (some 1))) := by
   rintro lit v' rfl
   obtain ⟨N,hN⟩ : ∃ N : ABlk,N = .cells (natV (q ++ [m + 1])) 3 (some 1) := ⟨_,rfl⟩
   obtain ⟨D,hD⟩ : ∃ D : ABlk,D = .cells (fv.set k (.slice (some ⟨H.length + 1,0,none⟩) (q.length + 1) (OPEN + (q.length + 1)))) 25 (some 1) := ⟨_,rfl⟩
   rw [← hN,← hD]
   obtain ⟨F,hF⟩ : ∃ F,List.set ((H2 ++ [lit]).set c .dead ++ [N]) bF D = F := ⟨_,rfl⟩
   have hl1 : ((H2 ++ [lit]).set c .dead ++ [N]).length = H.length + 2 := by simp [hlen]
   have lF := lt_get r0.hF
   have keep : ∀ y,y < H.length → y ≠ bF → y ≠ c → y ≠ bG → y ≠ bO → F[y]? = H[y]? := by
    intro y hy y1 y2 y3 y4
    rw [← hF,List.getElem?_set_ne (fun e => y1 e.symm),List.getElem?_append_left (by simp [hlen]; omega),List.getElem?_set_ne (fun e => y2 e.symm),List.getElem?_append_left (by omega),← hH2,List.getElem?_set_ne (fun e => y3 e.symm),List.getElem?_set_ne (fun e => y4 e.symm)]
   have lo := lt_get r0.hO
   have lg := lt_get r0.hG
   have r2 := r0.back (H' := F) (k := k) (c' := H.length + 1) (n := m + 1) (gen' := s.gen.set m g') (out' := s.out.set m 0) hq (by omega) (keep b (lt_get r0.h0) n1 (fun e => m1 e.symm) n2 n3) (by rw [← hF,List.getElem?_set_self (by omega),hD]) ?_ ?_ ?_ ?_ (by simp) (by simp)
   ·rw [hF]
    refine hK F _ (by rw [hS]; exact RepP.more bF bG bO _ _ rfl r2) ⟨by rw [← hF]; simp [hlen]; omega,fun y hy hn => ?_,fun y hy => ?_⟩
    ·subst e0
     simp only [List.mem_cons,not_or] at hn
     exact keep y hy hn.2.1 (fun e => hn.2.2.2.2 (e ▸ hcb)) hn.2.2.1 hn.2.2.2.1
    ·subst e0
     simp only [List.mem_cons] at hy ⊢
     rcases hy with h | h | h | h | h
     ·exact .inl (.inl h)
     ·exact .inl (.inr (.inl h))
     ·exact .inl (.inr (.inr (.inl h)))
     ·exact .inl (.inr (.inr (.inr (.inl h))))
     ·rcases List.mem_or_eq_of_mem_set h with h | h
      ·exact .inl (.inr (.inr (.inr (.inr h))))
      ·exact .inr ⟨by omega,by rw [← hF]; simp [hlen]; omega⟩
   ·rw [← hF,List.getElem?_set_ne (fun e => n5 e),List.getElem?_append_left (by simp [hlen]; omega),List.getElem?_set_ne m3,List.getElem?_append_left (by omega),← hH2,List.getElem?_set_self (by simp; omega),hB]
   ·rw [← hF,List.getElem?_set_ne (fun e => n6 e),List.getElem?_append_left (by simp [hlen]; omega),List.getElem?_set_ne m4,List.getElem?_append_left (by omega),← hH2,List.getElem?_set_ne n8,List.getElem?_set_self (by omega),hA]
   ·rw [← hF,List.getElem?_set_ne (by omega),List.getElem?_append_right (by simp [hlen])]
    simp [hlen,hN]
   ·intro t y hy hne
    have hyb := List.mem_of_getElem? hy
    have htl : t < s.free.length := by rw [← r0.lb]; exact (List.getElem?_eq_some_iff.1 hy).1
    obtain ⟨v2,c2,_,w2,w3⟩ := r0.rows t _ (List.getElem?_eq_getElem htl)
    rw [hy] at w2
    injection w2 with w2
    subst w2
    obtain ⟨kk,hkk⟩ := w3.get
    refine keep y (lt_get hkk) (fun e => n7 (e ▸ hyb)) (fun e => hne ?_) (fun e => n9 (e ▸ hyb)) (fun e => n10 (e ▸ hyb))
    subst e
    exact (List.getElem?_inj (List.getElem?_eq_some_iff.1 hy).1 n11).1 (by rw [hy,h2])
  cases h3 with
  | row o vs hne hv h4 h5 h6 =>
   subst hv
   simp (maxSteps := 2000000) (implicitDefEqProofs := false) [DN,NB,begT,atHead,kd,wantedA,evP,evR,evF,evL,evC,evI,evBin,evUn,evEq,evSt,evRes,plain,scp,scpA,scpL,rdRow_eq,RV,rdCells,veq,veqA,veqL,isHole,Value.cells,evalL,optI,evBounds,evFill,evFillR,evApp,newsOf,wrCells,one1,fitsApp,evClr,undef,onB_bool,List.getElem?_concat_length,List.getElem?_cons_zero,List.getElem?_cons_succ,List.getElem?_toArray,List.getElem?_nil,List.set_cons_zero,List.set_cons_succ,List.cons_append,List.nil_append,-getElem?_pos,-getElem?_neg,c1]
   refine rindex_ x (m + 1) hx hn _ ?_
   simp (maxSteps := 2000000) (implicitDefEqProofs := false) [DN,NB,begT,atHead,kd,wantedA,evP,evR,evF,evL,evC,evI,evBin,evUn,evEq,evSt,evRes,plain,scp,scpA,scpL,rdRow_eq,RV,rdCells,veq,veqA,veqL,isHole,Value.cells,evalL,optI,evBounds,evFill,evFillR,evApp,newsOf,wrCells,one1,fitsApp,evClr,undef,onB_bool,List.getElem?_concat_length,List.getElem?_cons_zero,List.getElem?_cons_succ,List.getElem?_toArray,List.getElem?_nil,List.set_cons_zero,List.set_cons_succ,List.cons_append,List.nil_append,-getElem?_pos,-getElem?_neg,r0.h0,r0.hO,hw,o1,o2,o3,← hA,f1]
   refine rnext_ x hx _ ?_
   simp (maxSteps := 2000000) (implicitDefEqProofs := false) [DN,NB,begT,atHead,kd,wantedA,evP,evR,evF,evL,evC,evI,evBin,evUn,evEq,evSt,evRes,plain,scp,scpA,scpL,rdRow_eq,RV,rdCells,veq,veqA,veqL,isHole,Value.cells,evalL,optI,evBounds,evFill,evFillR,evApp,newsOf,wrCells,one1,fitsApp,evClr,undef,onB_bool,List.getElem?_concat_length,List.getElem?_cons_zero,List.getElem?_cons_succ,List.getElem?_toArray,List.getElem?_nil,List.set_cons_zero,List.set_cons_succ,List.cons_append,List.nil_append,-getElem?_pos,-getElem?_neg,f1]
   refine rgen_ (hNext x) g' (hNext_lt x) hg' _ ?_
   have hql := (ok.nodes k q hq).1
   have he8 := ok.each
   obtain ⟨L,hL⟩ : ∃ L,q.length = L := ⟨_,rfl⟩
   rw [hL] at h1 h6 hql
   have f8 : ∀ tl,(H2 ++ tl)[c]? = some (.cells vs 3 (some 1)) := fun tl => by rw [← hH2]; exact getA (getS (getS h4 bO (fun e => m4 e.symm) A) bG (fun e => m3 e.symm) B) tl
   have f9 : ∀ L N : ABlk,((H2 ++ [L]).set c .dead ++ [N])[b]? = _ := fun L N => getA (getS (f4 [L]) c m1 .dead) [N]
   have f10 : ∀ L N : ABlk,((H2 ++ [L]).set c .dead ++ [N])[bF]? = _ := fun L N => getA (getS (f5 [L]) c m2 .dead) [N]
   have l2 : ¬ OPEN + L < OPEN := by omega
   have l3 : OPEN + L - OPEN = L := by omega
   have l4 : (natV q).take L = natV q := List.take_of_length_le (by rw [natV_length]; omega)
   have l5 : (L + 1) * 8 ≤ 140737488355328 := by omega
   have l6 : L ≤ 4294967295 := by omega
   simp (maxSteps := 2000000) (implicitDefEqProofs := false) [DN,NB,begT,atHead,kd,wantedA,evP,evR,evF,evL,evC,evI,evBin,evUn,evEq,evSt,evRes,plain,scp,scpA,scpL,rdRow_eq,RV,rdCells,veq,veqA,veqL,isHole,Value.cells,evalL,optI,evBounds,evFill,evFillR,evApp,newsOf,wrCells,one1,fitsApp,evClr,undef,onB_bool,List.getElem?_concat_length,List.getElem?_cons_zero,List.getElem?_cons_succ,List.getElem?_toArray,List.getElem?_nil,List.set_cons_zero,List.set_cons_succ,List.cons_append,List.nil_append,-getElem?_pos,-getElem?_neg,f1,f2,g1,g2,g3,← hB,hH2,f3,hd,hw,hwk,d0,hlen,f4,f5,f6,f7,k1,k2,h1,hk0,f8,f9,f10,l2,l3,l4,l5,l6,h5,h6,capLow_open]
   have e7 : natV q ++ [Value.int .i64 ((m : Int) + 1)] = natV (q ++ [m + 1]) := by simp [natV]
   rw [e7]
   exact fin _ _ (by rw [hL])
  | empty o d vs hne hv h4 h5 =>
   subst hv hne
   have f8 : ∀ tl,(H2 ++ tl)[c]? = some (.cells vs 3 (some 1)) := fun tl => by rw [← hH2]; exact getA (getS (getS h4 bO (fun e => m4 e.symm) A) bG (fun e => m3 e.symm) B) tl
   have f9 : ∀ L N : ABlk,((H2 ++ [L]).set c .dead ++ [N])[b]? = _ := fun L N => getA (getS (f4 [L]) c m1 .dead) [N]
   have f10 : ∀ L N : ABlk,((H2 ++ [L]).set c .dead ++ [N])[bF]? = _ := fun L N => getA (getS (f5 [L]) c m2 .dead) [N]
   have l7 : 2 * d / 2 = d := by omega
   have l8 : 2 * d % 2 = 0 := by omega
   simp (maxSteps := 2000000) (implicitDefEqProofs := false) [DN,NB,begT,atHead,kd,wantedA,evP,evR,evF,evL,evC,evI,evBin,evUn,evEq,evSt,evRes,plain,scp,scpA,scpL,rdRow_eq,RV,rdCells,veq,veqA,veqL,isHole,Value.cells,evalL,optI,evBounds,evFill,evFillR,evApp,newsOf,wrCells,one1,fitsApp,evClr,undef,onB_bool,List.getElem?_concat_length,List.getElem?_cons_zero,List.getElem?_cons_succ,List.getElem?_toArray,List.getElem?_nil,List.set_cons_zero,List.set_cons_succ,List.cons_append,List.nil_append,-getElem?_pos,-getElem?_neg,c1]
   refine rindex_ x (m + 1) hx hn _ ?_
   simp (maxSteps := 2000000) (implicitDefEqProofs := false) [DN,NB,begT,atHead,kd,wantedA,evP,evR,evF,evL,evC,evI,evBin,evUn,evEq,evSt,evRes,plain,scp,scpA,scpL,rdRow_eq,RV,rdCells,veq,veqA,veqL,isHole,Value.cells,evalL,optI,evBounds,evFill,evFillR,evApp,newsOf,wrCells,one1,fitsApp,evClr,undef,onB_bool,List.getElem?_concat_length,List.getElem?_cons_zero,List.getElem?_cons_succ,List.getElem?_toArray,List.getElem?_nil,List.set_cons_zero,List.set_cons_succ,List.cons_append,List.nil_append,-getElem?_pos,-getElem?_neg,r0.h0,r0.hO,hw,o1,o2,o3,← hA,f1]
   refine rnext_ x hx _ ?_
   simp (maxSteps := 2000000) (implicitDefEqProofs := false) [DN,NB,begT,atHead,kd,wantedA,evP,evR,evF,evL,evC,evI,evBin,evUn,evEq,evSt,evRes,plain,scp,scpA,scpL,rdRow_eq,RV,rdCells,veq,veqA,veqL,isHole,Value.cells,evalL,optI,evBounds,evFill,evFillR,evApp,newsOf,wrCells,one1,fitsApp,evClr,undef,onB_bool,List.getElem?_concat_length,List.getElem?_cons_zero,List.getElem?_cons_succ,List.getElem?_toArray,List.getElem?_nil,List.set_cons_zero,List.set_cons_succ,List.cons_append,List.nil_append,-getElem?_pos,-getElem?_neg,f1]
   refine rgen_ (hNext x) g' (hNext_lt x) hg' _ ?_
   simp (maxSteps := 2000000) (implicitDefEqProofs := false) [DN,NB,begT,atHead,kd,wantedA,evP,evR,evF,evL,evC,evI,evBin,evUn,evEq,evSt,evRes,plain,scp,scpA,scpL,rdRow_eq,RV,rdCells,veq,veqA,veqL,isHole,Value.cells,evalL,optI,evBounds,evFill,evFillR,evApp,newsOf,wrCells,one1,fitsApp,evClr,undef,onB_bool,List.getElem?_concat_length,List.getElem?_cons_zero,List.getElem?_cons_succ,List.getElem?_toArray,List.getElem?_nil,List.set_cons_zero,List.set_cons_succ,List.cons_append,List.nil_append,-getElem?_pos,-getElem?_neg,f1,f2,g1,g2,g3,← hB,hH2,f3,hd,hw,hwk,d0,hlen,f4,f5,f6,f7,k1,k2,h1,hk0,f8,f9,f10,l7,l8,h5]
   exact fin _ _ rfl
end Px
end Go.Proofs.Ytongllppbifiaaa
