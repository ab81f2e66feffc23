import Derived.Test.YtongllppbifiaaaW44
namespace Go.Proofs.Ytongllppbifiaaa
namespace Ex
open Go Abs Code
open Px (u32w i64w)
attribute [local simp] DN5 HA DN NB begT atHead kd wantedA evP evR evF evL evC evI evBin evUn evEq evSt evRes plain scp scpA scpL rdRow_eq RV rdCells veq veqA veqL isHole Value.cells evalL optI evBounds evFill evFillR evApp newsOf wrCells one1 fitsApp evClr undef onB_bool List.getElem?_concat_length List.getElem?_cons_zero List.getElem?_cons_succ List.getElem?_toArray List.getElem?_nil List.set_cons_zero List.set_cons_succ List.cons_append List.nil_append
set_option linter.unusedVariables false
set_option linter.unusedSimpArgs false
set_option maxRecDepth 100000
theorem cr_length {c : Co} (h : c.r.length = 8) : c.cr.length = 9 := by simp [Co.cr,i64,h]
theorem cr_take {c : Co} (h : c.r.length = 8) : c.cr.take 9 = c.cr := List.take_of_length_le (by rw [cr_length h]; omega)
theorem cr_pc {c : Co} (h : c.r.length = 8) : c.cr[8]? = some (.int .i64 c.pc) := by
 unfold Co.cr
 rw [List.getElem?_append_right (by simp [i64,h])]
 simp [i64,h]
theorem cr_set8 {c : Co} (h : c.r.length = 8) (p : Int) : c.cr.set 8 (.int .i64 p) = (c.go p).cr := by
 unfold Co.cr Co.go
 rw [List.set_append_right _ _ (by simp [i64,h])]
 simp [i64,h]
theorem cr_get {c : Co} (h : c.r.length = 8) {i : Int} (hi : 0 ≤ i ∧ i < 8) : c.cr[i.toNat]? = some (.int .i64 (c.at i : Int)) := by
 have hil : i.toNat < c.r.length := by omega
 unfold Co.cr Co.at
 rw [List.getElem?_append_left (by rw [i64_length]; exact hil),i64_get,List.getElem?_eq_getElem hil]
 rfl
theorem cr_put {c : Co} (h : c.r.length = 8) {i : Int} (hi : 0 ≤ i ∧ i < 8) (v : Nat) : c.cr.set i.toNat (.int .i64 (v : Int)) = (c.put i v).cr := by
 have hil : i.toNat < c.r.length := by omega
 unfold Co.cr Co.put
 rw [List.set_append_left _ _ (by rw [i64_length]; exact hil)]
 simp [i64,List.map_set]
theorem cr_splice {c : Co} (h : c.r.length = 8) {vs : List Value} (hv : vs.length = 9) : splice vs 0 c.cr = c.cr := by
 have hl := cr_length h
 unfold splice
 split
 ·rename_i v e
  rw [e] at hl
  simp at hl
 ·simp [hv,hl]
theorem cr_one (c : Co) : c.cr.all one1 = true := by
 unfold Co.cr i64
 simp [one1]
theorem cr_plain (c : Co) : plain c.vr = true := by
 show scpL _ c.cr = true
 rw [scpL_all,List.all_eq_true]
 intro v hv
 unfold Co.cr i64 at hv
 simp only [List.mem_append,List.mem_map,List.mem_singleton] at hv
 rcases hv with ⟨n,_,rfl⟩ | rfl <;> rfl
set_option maxHeartbeats 4000000 in
theorem refone_ (c : Co) (ok : c.Ok) (i : In) (hi : i.Ok) (self : Nat) (hs : self < 4294967296) (hpc : -1099511627776 ≤ c.pc ∧ c.pc ≤ 1099511627776) (H : AH) {K : Value → AH → Prop} (hK : K (stepC c i self).vr H) : AC Try.prog 86 [c.vr,i.v,.int .i64 self] H K := by
 refine AC.clean ?_
 refine entry hmix cf86 ?_
 have hl := ok.len
 have q1 : ∀ c : Co,c.vr = .agg c.cr.toArray := fun _ => rfl
 obtain ⟨d1,d2⟩ := hi.d
 obtain ⟨s1,s2⟩ := hi.s
 obtain ⟨t1,t2⟩ := hi.t
 have gs := cr_get hl hi.s
 have gt := cr_get hl hi.t
 have hcl := cr_length hl
 have hct := cr_take hl
 have hv0 := q1 c
 unfold In.v In.vs
 rw [hv0]
 have hone := cr_one
 have hsp : ∀ c : Co,c.r.length = 8 → splice [.int .i64 0,.int .i64 0,.int .i64 0,.int .i64 0,.int .i64 0,.int .i64 0,.int .i64 0,.int .i64 0,.int .i64 0] 0 c.cr = c.cr := fun c h => cr_splice h rfl
 have d3 : i.d ≤ 8 := by omega
 have s3 : i.s ≤ 8 := by omega
 have t3 : i.t ≤ 8 := by omega
 have wk : IntKind.i64.wrap (i.k : Int) = (i.k : Int) := IntWalk.i64_in _ (by have := hi.k; omega)
 by_cases c16 : 16 ≤ i.op
 ·have e : stepC c i self = c := if_pos (.inl c16)
  rw [e,hv0] at hK
  have hp := cr_plain c
  rw [hv0] at hp
  have h0 := hsp c hl
  simp (maxSteps := 2000000) (implicitDefEqProofs := false) [-getElem?_pos,-getElem?_neg,c16,hcl,hct,hone c,h0,gs,gt,d1,d2,d3,s1,s2,s3,t1,t2,t3]
  exact ⟨hp,hK⟩
 by_cases c13 : i.op = 13
 ·have e : stepC c i self = c := if_pos (.inr c13)
  rw [e,hv0] at hK
  have hp := cr_plain c
  rw [hv0] at hp
  have h0 := hsp c hl
  simp (maxSteps := 2000000) (implicitDefEqProofs := false) [-getElem?_pos,-getElem?_neg,c13,hcl,hct,hone c,h0,gs,gt,d1,d2,d3,s1,s2,s3,t1,t2,t3]
  exact ⟨hp,hK⟩
 have n13 : (i.op == 13) = false := by simpa using c13
 have e8 := cr_pc hl
 have wp : IntKind.i64.wrap (c.pc + 1) = c.pc + 1 := IntWalk.i64_in _ (by omega)
 have f1 : i.d < 8 := d2
 have put : ∀ v : Nat,(c.put i.d v).r.length = 8 := fun v => put_len hl _ _
 have hput := fun v : Nat => cr_put hl hi.d v
 have gpl : ∀ (v : Nat) (p : Int),((c.put i.d v).go p).r.length = 8 := fun v p => put v
 have hpl2 := fun (v : Nat) (p : Int) => cr_length (gpl v p)
 have hpt2 := fun (v : Nat) (p : Int) => cr_take (gpl v p)
 have g8 : ∀ (v : Nat) (p : Int),(c.put i.d v).cr.set 8 (.int .i64 p) = ((c.put i.d v).go p).cr := fun v p => cr_set8 (put v) p
 have hpl3 := fun (v : Nat) => cr_length (put v)
 have hpt3 := fun (v : Nat) => cr_take (put v)
 have fin : ∀ v : Nat,stepC c i self = c.next.put i.d v → plain (.agg ((c.put i.d v).go (c.pc + 1)).cr.toArray) = true ∧ K (.agg ((c.put i.d v).go (c.pc + 1)).cr.toArray) H := fun v e => ⟨cr_plain _,by rw [e] at hK; exact hK⟩
 have hs2 := fun (v : Nat) (p : Int) => hsp _ (gpl v p)
 have ls := Co.at_lt ok i.s
 have lt := Co.at_lt ok i.t
 have gol : ∀ p : Int,(c.go p).r.length = 8 := fun _ => hl
 have g80 : ∀ p : Int,c.cr.set 8 (.int .i64 p) = (c.go p).cr := fun p => cr_set8 hl p
 have hgl := fun p : Int => cr_length (gol p)
 have hgt := fun p : Int => cr_take (gol p)
 have hgs := fun p : Int => hsp _ (gol p)
 have finG : ∀ p : Int,stepC c i self = c.go p → plain (.agg (c.go p).cr.toArray) = true ∧ K (.agg (c.go p).cr.toArray) H := fun p e => ⟨cr_plain _,by rw [e] at hK; exact hK⟩
 have hno : ¬ (16 ≤ i.op ∨ i.op = 13) := by omega
 by_cases o1 : i.op = 1
 ·have := fin i.k (by unfold stepC; rw [if_neg hno,if_pos o1])
  simp (maxSteps := 2000000) (implicitDefEqProofs := false) [-getElem?_pos,-getElem?_neg,c16,c13,n13,o1,hcl,hct,gs,gt,d1,d2,d3,s1,s2,s3,t1,t2,t3,e8,wp,hput,hpl2,hpt2,hone,hs2,g8,wk,hpl3,hpt3]
  exact this
 have n1 := o1
 have b1 : (i.op == 1) = false := by simpa using o1
 by_cases o2 : i.op = 2
 ·have := fin (c.at i.s) (by unfold stepC; rw [if_neg hno,if_neg n1,if_pos o2])
  simp (maxSteps := 2000000) (implicitDefEqProofs := false) [-getElem?_pos,-getElem?_neg,c16,c13,n13,o2,hcl,hct,gs,gt,d1,d2,d3,s1,s2,s3,t1,t2,t3,e8,wp,hput,hpl2,hpt2,hone,hs2,g8,b1,wk,hpl3,hpt3]
  exact this
 have n2 := o2
 have b2 : (i.op == 2) = false := by simpa using o2
 by_cases o3 : i.op = 3
 ·have ws : IntKind.i64.wrap ((c.at i.s : Int) + (i.k : Int)) = ((c.at i.s + i.k : Nat) : Int) := by rw [IntWalk.i64_in _ (by have := hi.k; omega)]; exact (Int.natCast_add _ _).symm
  obtain ⟨v,hv⟩ : ∃ v,((c.at i.s + i.k) % 4294967296) = v := ⟨_,rfl⟩
  have wm := tmod_nat (c.at i.s + i.k) 4294967296
  rw [hv] at wm
  obtain ⟨y,hy⟩ : ∃ y,c.at i.s + i.k = y := ⟨_,rfl⟩
  rw [hy] at ws wm
  have wm2 : (y : Int).tmod 4294967296 = (v : Int) := wm
  have := fin v (by unfold stepC; rw [if_neg hno,if_neg n1,if_neg n2,if_pos o3,hv])
  simp (maxSteps := 2000000) (implicitDefEqProofs := false) [-getElem?_pos,-getElem?_neg,c16,c13,n13,o3,hcl,hct,gs,gt,d1,d2,d3,s1,s2,s3,t1,t2,t3,e8,wp,hput,hpl2,hpt2,hone,hs2,g8,b1,b2,wk,hpl3,hpt3,ws,wm2]
  exact this
 have n3 := o3
 have b3 : (i.op == 3) = false := by simpa using o3
 by_cases o4 : i.op = 4
 ·obtain ⟨v,hv⟩ : ∃ v,(c.at i.s &&& i.k) = v := ⟨_,rfl⟩
  have hb : bitsN (c.at i.s) i.k true 32 = v := by rw [bitsN_and,← hv]; exact Nat.mod_eq_of_lt (Nat.lt_of_le_of_lt Nat.and_le_left ls)
  have := fin v (by unfold stepC; rw [if_neg hno,if_neg n1,if_neg n2,if_neg n3,if_pos o4,hv])
  simp (maxSteps := 2000000) (implicitDefEqProofs := false) [-getElem?_pos,-getElem?_neg,c16,c13,n13,o4,hcl,hct,gs,gt,d1,d2,d3,s1,s2,s3,t1,t2,t3,e8,wp,hput,hpl2,hpt2,hone,hs2,g8,b1,b2,b3,wk,hpl3,hpt3]
  refine bits_ (c.at i.s) i.k ls hi.k true _ ?_
  rw [hb]
  simp (maxSteps := 2000000) (implicitDefEqProofs := false) [-getElem?_pos,-getElem?_neg,c16,c13,n13,o4,hcl,hct,gs,gt,d1,d2,d3,s1,s2,s3,t1,t2,t3,e8,wp,hput,hpl2,hpt2,hone,hs2,g8,b1,b2,b3,wk,hpl3,hpt3]
  exact this
 have n4 := o4
 have b4 : (i.op == 4) = false := by simpa using o4
 by_cases o5 : i.op = 5
 ·have hk31 := hi.sh (.inl o5)
  obtain ⟨v,hv⟩ : ∃ v,(c.at i.s * 2 ^ i.k % 4294967296) = v := ⟨_,rfl⟩
  obtain ⟨w,hw⟩ : ∃ w,2 ^ i.k = w := ⟨_,rfl⟩
  have hwl : w ≤ 2 ^ 31 := by rw [← hw]; exact Nat.pow_le_pow_right (by omega) hk31
  have hw0 : 0 < w := by rw [← hw]; exact Nat.two_pow_pos _
  have w0 : ¬ w = 0 := by omega
  have := fin v (by unfold stepC; rw [if_neg hno,if_neg n1,if_neg n2,if_neg n3,if_neg n4,if_pos o5,hv])
  simp (maxSteps := 2000000) (implicitDefEqProofs := false) [-getElem?_pos,-getElem?_neg,c16,c13,n13,o5,hcl,hct,gs,gt,d1,d2,d3,s1,s2,s3,t1,t2,t3,e8,wp,hput,hpl2,hpt2,hone,hs2,g8,b1,b2,b3,b4,wk,hpl3,hpt3]
  refine pow_ i.k (by omega) _ ?_
  rw [hw] at hv ⊢
  have hm : c.at i.s * w < 4294967296 * 2147483648 := Nat.lt_of_lt_of_le (Nat.mul_lt_mul_of_pos_right ls hw0) (Nat.mul_le_mul_left _ hwl)
  obtain ⟨y,hy⟩ : ∃ y,c.at i.s * w = y := ⟨_,rfl⟩
  have ws : IntKind.i64.wrap ((c.at i.s : Int) * (w : Int)) = (y : Int) := by rw [← Int.natCast_mul,hy]; exact IntWalk.i64_in _ (by omega)
  have wm := tmod_nat y 4294967296
  rw [← hy,hv,hy] at wm
  have wm2 : (y : Int).tmod 4294967296 = (v : Int) := wm
  simp (maxSteps := 2000000) (implicitDefEqProofs := false) [-getElem?_pos,-getElem?_neg,c16,c13,n13,o5,hcl,hct,gs,gt,d1,d2,d3,s1,s2,s3,t1,t2,t3,e8,wp,hput,hpl2,hpt2,hone,hs2,g8,b1,b2,b3,b4,wk,hpl3,hpt3,ws,wm2]
  exact this
 have n5 := o5
 have b5 : (i.op == 5) = false := by simpa using o5
 by_cases o6 : i.op = 6
 ·have hk31 := hi.sh (.inr o6)
  obtain ⟨v,hv⟩ : ∃ v,(c.at i.s / 2 ^ i.k) = v := ⟨_,rfl⟩
  obtain ⟨w,hw⟩ : ∃ w,2 ^ i.k = w := ⟨_,rfl⟩
  have hwl : w ≤ 2 ^ 31 := by rw [← hw]; exact Nat.pow_le_pow_right (by omega) hk31
  have hw0 : 0 < w := by rw [← hw]; exact Nat.two_pow_pos _
  have w0 : ¬ w = 0 := by omega
  have := fin v (by unfold stepC; rw [if_neg hno,if_neg n1,if_neg n2,if_neg n3,if_neg n4,if_neg n5,if_pos o6,hv])
  simp (maxSteps := 2000000) (implicitDefEqProofs := false) [-getElem?_pos,-getElem?_neg,c16,c13,n13,o6,hcl,hct,gs,gt,d1,d2,d3,s1,s2,s3,t1,t2,t3,e8,wp,hput,hpl2,hpt2,hone,hs2,g8,b1,b2,b3,b4,b5,wk,hpl3,hpt3]
  refine pow_ i.k (by omega) _ ?_
  rw [hw] at hv ⊢
  have wd := tdiv_nat (c.at i.s) w
  rw [hv] at wd
  have hvl : v ≤ c.at i.s := by rw [← hv]; exact Nat.div_le_self _ _
  have wv : IntKind.i64.wrap (v : Int) = (v : Int) := IntWalk.i64_in _ (by omega)
  simp (maxSteps := 2000000) (implicitDefEqProofs := false) [-getElem?_pos,-getElem?_neg,c16,c13,n13,o6,hcl,hct,gs,gt,d1,d2,d3,s1,s2,s3,t1,t2,t3,e8,wp,hput,hpl2,hpt2,hone,hs2,g8,b1,b2,b3,b4,b5,wk,hpl3,hpt3,wd,wv,w0]
  exact this
 have n6 := o6
 have b6 : (i.op == 6) = false := by simpa using o6
 by_cases o7 : i.op = 7
 ·obtain ⟨v,hv⟩ : ∃ v,(c.at i.s ||| c.at i.t) = v := ⟨_,rfl⟩
  have hb : bitsN (c.at i.s) (c.at i.t) false 32 = v := by rw [bitsN_or,← hv]; exact Nat.mod_eq_of_lt (Nat.or_lt_two_pow (n := 32) ls lt)
  have := fin v (by unfold stepC; rw [if_neg hno,if_neg n1,if_neg n2,if_neg n3,if_neg n4,if_neg n5,if_neg n6,if_pos o7,hv])
  simp (maxSteps := 2000000) (implicitDefEqProofs := false) [-getElem?_pos,-getElem?_neg,c16,c13,n13,o7,hcl,hct,gs,gt,d1,d2,d3,s1,s2,s3,t1,t2,t3,e8,wp,hput,hpl2,hpt2,hone,hs2,g8,b1,b2,b3,b4,b5,b6,wk,hpl3,hpt3]
  refine bits_ (c.at i.s) (c.at i.t) ls lt false _ ?_
  rw [hb]
  simp (maxSteps := 2000000) (implicitDefEqProofs := false) [-getElem?_pos,-getElem?_neg,c16,c13,n13,o7,hcl,hct,gs,gt,d1,d2,d3,s1,s2,s3,t1,t2,t3,e8,wp,hput,hpl2,hpt2,hone,hs2,g8,b1,b2,b3,b4,b5,b6,wk,hpl3,hpt3]
  exact this
 have n7 := o7
 have b7 : (i.op == 7) = false := by simpa using o7
 by_cases o8 : i.op = 8
 ·by_cases ce : c.at i.s = c.at i.t
  ·have ce2 : ((c.at i.s : Int) == (c.at i.t : Int)) = true := by simp [ce]
   have := finG i.to (by unfold stepC; rw [if_neg hno,if_neg n1,if_neg n2,if_neg n3,if_neg n4,if_neg n5,if_neg n6,if_neg n7,if_pos o8]; rw [if_pos ce])
   simp (maxSteps := 2000000) (implicitDefEqProofs := false) [-getElem?_pos,-getElem?_neg,c16,c13,n13,o8,hcl,hct,gs,gt,d1,d2,d3,s1,s2,s3,t1,t2,t3,e8,wp,hput,hpl2,hpt2,hone,hs2,g8,b1,b2,b3,b4,b5,b6,b7,wk,hpl3,hpt3,g80,hgl,hgt,hgs,ce,ce2]
   exact this
  ·have ce2 : ((c.at i.s : Int) == (c.at i.t : Int)) = false := by simp; omega
   have ce3 : ¬ (c.at i.s : Int) = (c.at i.t : Int) := by omega
   have := finG (c.pc + 1) (by unfold stepC; rw [if_neg hno,if_neg n1,if_neg n2,if_neg n3,if_neg n4,if_neg n5,if_neg n6,if_neg n7,if_pos o8]; rw [if_neg ce]; rfl)
   simp (maxSteps := 2000000) (implicitDefEqProofs := false) [-getElem?_pos,-getElem?_neg,c16,c13,n13,o8,hcl,hct,gs,gt,d1,d2,d3,s1,s2,s3,t1,t2,t3,e8,wp,hput,hpl2,hpt2,hone,hs2,g8,b1,b2,b3,b4,b5,b6,b7,wk,hpl3,hpt3,g80,hgl,hgt,hgs,ce,ce2,ce3]
   exact this
 have n8 := o8
 have b8 : (i.op == 8) = false := by simpa using o8
 by_cases o9 : i.op = 9
 ·by_cases ce : c.at i.s = c.at i.t
  ·have ce2 : ((c.at i.s : Int) == (c.at i.t : Int)) = true := by simp [ce]
   have := finG (c.pc + 1) (by unfold stepC; rw [if_neg hno,if_neg n1,if_neg n2,if_neg n3,if_neg n4,if_neg n5,if_neg n6,if_neg n7,if_neg n8,if_pos o9]; rw [if_pos ce]; rfl)
   simp (maxSteps := 2000000) (implicitDefEqProofs := false) [-getElem?_pos,-getElem?_neg,c16,c13,n13,o9,hcl,hct,gs,gt,d1,d2,d3,s1,s2,s3,t1,t2,t3,e8,wp,hput,hpl2,hpt2,hone,hs2,g8,b1,b2,b3,b4,b5,b6,b7,b8,wk,hpl3,hpt3,g80,hgl,hgt,hgs,ce,ce2]
   exact this
  ·have ce2 : ((c.at i.s : Int) == (c.at i.t : Int)) = false := by simp; omega
   have ce3 : ¬ (c.at i.s : Int) = (c.at i.t : Int) := by omega
   have := finG i.to (by unfold stepC; rw [if_neg hno,if_neg n1,if_neg n2,if_neg n3,if_neg n4,if_neg n5,if_neg n6,if_neg n7,if_neg n8,if_pos o9]; rw [if_neg ce])
   simp (maxSteps := 2000000) (implicitDefEqProofs := false) [-getElem?_pos,-getElem?_neg,c16,c13,n13,o9,hcl,hct,gs,gt,d1,d2,d3,s1,s2,s3,t1,t2,t3,e8,wp,hput,hpl2,hpt2,hone,hs2,g8,b1,b2,b3,b4,b5,b6,b7,b8,wk,hpl3,hpt3,g80,hgl,hgt,hgs,ce,ce2,ce3]
   exact this
 have n9 := o9
 have b9 : (i.op == 9) = false := by simpa using o9
 by_cases o10 : i.op = 10
 ·have := finG i.to (by unfold stepC; rw [if_neg hno,if_neg n1,if_neg n2,if_neg n3,if_neg n4,if_neg n5,if_neg n6,if_neg n7,if_neg n8,if_neg n9,if_pos o10])
  simp (maxSteps := 2000000) (implicitDefEqProofs := false) [-getElem?_pos,-getElem?_neg,c16,c13,n13,o10,hcl,hct,gs,gt,d1,d2,d3,s1,s2,s3,t1,t2,t3,e8,wp,hput,hpl2,hpt2,hone,hs2,g8,b1,b2,b3,b4,b5,b6,b7,b8,b9,wk,hpl3,hpt3,g80,hgl,hgt,hgs]
  exact this
 have n10 := o10
 have b10 : (i.op == 10) = false := by simpa using o10
 by_cases o11 : i.op = 11
 ·have := fin self (by unfold stepC; rw [if_neg hno,if_neg n1,if_neg n2,if_neg n3,if_neg n4,if_neg n5,if_neg n6,if_neg n7,if_neg n8,if_neg n9,if_neg n10,if_pos o11])
  simp (maxSteps := 2000000) (implicitDefEqProofs := false) [-getElem?_pos,-getElem?_neg,c16,c13,n13,o11,hcl,hct,gs,gt,d1,d2,d3,s1,s2,s3,t1,t2,t3,e8,wp,hput,hpl2,hpt2,hone,hs2,g8,b1,b2,b3,b4,b5,b6,b7,b8,b9,b10,wk,hpl3,hpt3]
  exact this
 have n11 := o11
 have b11 : (i.op == 11) = false := by simpa using o11
 have := finG (c.pc + 1) (by unfold stepC; rw [if_neg hno,if_neg n1,if_neg n2,if_neg n3,if_neg n4,if_neg n5,if_neg n6,if_neg n7,if_neg n8,if_neg n9,if_neg n10,if_neg n11]; rfl)
 simp (maxSteps := 2000000) (implicitDefEqProofs := false) [-getElem?_pos,-getElem?_neg,c16,c13,n13,c16,hcl,hct,gs,gt,d1,d2,d3,s1,s2,s3,t1,t2,t3,e8,wp,hput,hpl2,hpt2,hone,hs2,g8,b1,o1,b2,o2,b3,o3,b4,o4,b5,o5,b6,o6,b7,o7,b8,o8,b9,o9,b10,o10,b11,o11,wk,hpl3,hpt3,g80,hgl,hgt,hgs]
 exact this
end Ex
end Go.Proofs.Ytongllppbifiaaa
