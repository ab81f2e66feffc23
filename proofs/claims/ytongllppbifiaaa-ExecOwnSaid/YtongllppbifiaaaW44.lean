import Derived.Test.YtongllppbifiaaaW11
import Derived.Test.YtongllppbifiaaaW43
namespace Go.Proofs.Ytongllppbifiaaa
namespace Ex
open Go Abs Code
open Px (u32w i64w)
attribute [local simp] DN5 HA DN NB begT atHead kd wantedA evP evR evF evL evC evI evBin evUn evEq evSt evRes plain scp scpA scpL rdRow_eq RV rdCells veq veqA veqL isHole Value.cells evalL optI evBounds evFill evFillR evApp newsOf wrCells one1 fitsApp evClr undef onB_bool List.getElem?_concat_length List.getElem?_cons_zero List.getElem?_cons_succ List.getElem?_toArray List.getElem?_nil List.set_cons_zero List.set_cons_succ List.cons_append List.nil_append
set_option linter.unusedVariables false
set_option linter.unusedSimpArgs false
set_option maxRecDepth 100000
def powT (n k : Nat) : List (Nat × Value) := [(0,.int .i64 n),(3,.int .i64 (2 ^ k : Nat)),(4,.int .i64 k)]
theorem pow_ (n : Nat) (hn : n ≤ 40) (H : AH) {K : Value → AH → Prop} (hK : K (.int .i64 (2 ^ n : Nat)) H) : AC Try.prog 94 [.int .i64 n] H K := by
 refine entry hmix cf94 ?_
 simp (maxSteps := 2000000) (implicitDefEqProofs := false) [-getElem?_pos,-getElem?_neg]
 have key := fun T0 Q e1 e2 hr => loop5 (P := Try.prog) (m := H.length) (h := H) hmix (ac := lp94_0) 13 (fun k => k ≤ n) (fun k => n - k) (powT n) (fun _ => H) 0 (Nat.zero_le _) rfl (t := T0) (Q := Q) e1 e2 hr
 refine key _ _ rfl (by simp [List.forall_mem_cons,GB,powT]) fun k hk _ _ _ => ?_
 by_cases hlt : k < n
 ·have c1 : (k : Int) < n := by omega
  have w1 : IntKind.i64.wrap ((k : Int) + 1) = (k : Int) + 1 := IntWalk.i64_in _ (by omega)
  have hp : 2 ^ k ≤ 2 ^ 40 := Nat.pow_le_pow_right (by omega) (by omega)
  obtain ⟨p,hpv⟩ : ∃ p,2 ^ k = p := ⟨_,rfl⟩
  have hs : 2 ^ (k + 1) = p * 2 := by rw [Nat.pow_succ,hpv]
  rw [hpv] at hp
  have w2 : IntKind.i64.wrap ((p : Int) * 2) = (p : Int) * 2 := IntWalk.i64_in _ (by omega)
  simp (maxSteps := 2000000) (implicitDefEqProofs := false) [-getElem?_pos,-getElem?_neg,powT,lp94_0,hlt,c1,w1,hpv,w2]
  refine next5.intro (k + 1) (by omega) (by omega) rfl rfl ?_
  have hs2 : ((2 ^ (k + 1) : Nat) : Int) = (p : Int) * 2 := by rw [hs]; push_cast; rfl
  simp only [powT,hs2]
  simp [GB]
 ·obtain rfl : k = n := by omega
  obtain ⟨p,hpv⟩ : ∃ p,2 ^ k = p := ⟨_,rfl⟩
  rw [hpv] at hK
  simp (maxSteps := 2000000) (implicitDefEqProofs := false) [-getElem?_pos,-getElem?_neg,powT,lp94_0,hpv]
  exact hK
def num (b : Bool) : Int := if b then 1 else 0
def bitT (a b : Nat) (both : Bool) (k : Nat) : List (Nat × Value) := [(0,.int .i64 a),(1,.int .i64 b),(2,.int .i64 (num both)),(7,.int .i64 (bitsN a b both k : Nat)),(8,.int .i64 k)]
theorem tdiv_nat (a b : Nat) : (a : Int).tdiv (b : Int) = ((a / b : Nat) : Int) := by
 rw [Int.tdiv_eq_ediv_of_nonneg (Int.natCast_nonneg _)]
 exact (Int.natCast_ediv a b).symm
theorem tmod_nat (a b : Nat) : (a : Int).tmod (b : Int) = ((a % b : Nat) : Int) := by
 rw [Int.tmod_eq_emod_of_nonneg (Int.natCast_nonneg _)]
 exact (Int.natCast_emod a b).symm
set_option maxHeartbeats 2000000 in
theorem bits_ (a b : Nat) (ha : a < 4294967296) (hb : b < 4294967296) (both : Bool) (H : AH) {K : Value → AH → Prop} (hK : K (.int .i64 (bitsN a b both 32 : Nat)) H) : AC Try.prog 93 [.int .i64 a,.int .i64 b,.int .i64 (num both)] H K := by
 refine entry hmix cf93 ?_
 simp (maxSteps := 2000000) (implicitDefEqProofs := false) [-getElem?_pos,-getElem?_neg]
 have key := fun T0 Q e1 e2 hr => loop5 (P := Try.prog) (m := H.length) (h := H) hmix (ac := lp93_0) 48 (fun k => k ≤ 32) (fun k => 32 - k) (bitT a b both) (fun _ => H) 0 (Nat.zero_le _) rfl (t := T0) (Q := Q) e1 e2 hr
 refine key _ _ rfl (by simp [List.forall_mem_cons,GB,bitT,bitsN]) fun k hk _ _ _ => ?_
 by_cases hlt : k < 32
 case neg =>
  obtain rfl : k = 32 := by omega
  obtain ⟨v,hv⟩ : ∃ v,bitsN a b both 32 = v := ⟨_,rfl⟩
  rw [hv] at hK
  simp (maxSteps := 2000000) (implicitDefEqProofs := false) [-getElem?_pos,-getElem?_neg,bitT,lp93_0,hv]
  exact hK
 have c1 : (k : Int) < 32 := by omega
 have w1 : IntKind.i64.wrap ((k : Int) + 1) = (k : Int) + 1 := IntWalk.i64_in _ (by omega)
 have hp : 2 ^ k ≤ 2 ^ 32 := Nat.pow_le_pow_right (by omega) (by omega)
 have hp0 : 0 < 2 ^ k := Nat.two_pow_pos k
 have hle := bitsN_le a b both k
 have hst : bitsN a b both (k + 1) = bitsN a b both k + if (if both then (a / 2 ^ k % 2 + b / 2 ^ k % 2 == 2) else decide (0 < a / 2 ^ k % 2 + b / 2 ^ k % 2)) then 2 ^ k else 0 := rfl
 obtain ⟨v,hv⟩ : ∃ v,bitsN a b both k = v := ⟨_,rfl⟩
 rw [hv] at hst hle
 obtain ⟨p,hpv⟩ : ∃ p,2 ^ k = p := ⟨_,rfl⟩
 rw [hpv] at hp hp0 hle hst
 obtain ⟨x,hx⟩ : ∃ x,a / p = x := ⟨_,rfl⟩
 obtain ⟨y,hy⟩ : ∃ y,b / p = y := ⟨_,rfl⟩
 have hxl : x ≤ a := by rw [← hx]; exact Nat.div_le_self _ _
 have hyl : y ≤ b := by rw [← hy]; exact Nat.div_le_self _ _
 have d1 : (a : Int).tdiv (p : Int) = (x : Int) := by rw [tdiv_nat,hx]
 have d2 : (b : Int).tdiv (p : Int) = (y : Int) := by rw [tdiv_nat,hy]
 have w2 : IntKind.i64.wrap (x : Int) = (x : Int) := IntWalk.i64_in _ (by omega)
 have w3 : IntKind.i64.wrap (y : Int) = (y : Int) := IntWalk.i64_in _ (by omega)
 have m1 : (x : Int).tmod 2 = ((x % 2 : Nat) : Int) := tmod_nat x 2
 have m2 : (y : Int).tmod 2 = ((y % 2 : Nat) : Int) := tmod_nat y 2
 rw [hx,hy] at hst
 obtain ⟨xb,hxb⟩ : ∃ xb,x % 2 = xb := ⟨_,rfl⟩
 obtain ⟨yb,hyb⟩ : ∃ yb,y % 2 = yb := ⟨_,rfl⟩
 rw [hxb] at m1 hst
 rw [hyb] at m2 hst
 have hxb2 : xb < 2 := by omega
 have hyb2 : yb < 2 := by omega
 have w4 : IntKind.i64.wrap ((xb : Int) + yb) = (xb : Int) + yb := IntWalk.i64_in _ (by omega)
 have w5 : IntKind.i64.wrap ((v : Int) + p) = (v : Int) + p := IntWalk.i64_in _ (by omega)
 have p0 : ¬ p = 0 := by omega
 have fin : ∀ (n : Nat) (z : Int) T0,z = n → n = bitsN a b both (k + 1) → T0.length = 48 → (∀ y ∈ ([(0,.int .i64 a),(1,.int .i64 b),(2,.int .i64 (num both)),(7,.int .i64 z),(8,.int .i64 ((k : Int) + 1))] : List (Nat × Value)),getT T0 y.1 = some y.2) → next5 48 (fun k => k ≤ 32) (fun k => 32 - k) (bitT a b both) (fun _ => H) k T0 H := by
  rintro n z T0 rfl rfl e1 e2
  exact next5.intro (k + 1) (by omega) (by omega) rfl e1 e2
 have hcall : ∀ {K : Value → AH → Prop},K (.int .i64 (p : Int)) H → AC Try.prog 94 [.int .i64 k] H K := fun hk => pow_ k (by omega) H (by rw [hpv]; exact hk)
 simp (maxSteps := 2000000) (implicitDefEqProofs := false) [-getElem?_pos,-getElem?_neg,bitT,lp93_0,hlt,c1,hv]
 refine hcall ?_
 simp (maxSteps := 2000000) (implicitDefEqProofs := false) [-getElem?_pos,-getElem?_neg,d1,w2,m1,p0]
 refine hcall ?_
 cases both with
 | true =>
  have b1 : num true = 1 := rfl
  by_cases c : xb + yb = 2
  ·have c2 : (xb : Int) + yb = 2 := by omega
   have w22 : IntKind.i64.wrap 2 = 2 := rfl
   have hst2 : bitsN a b true (k + 1) = v + p := by rw [hst]; simp [c]
   simp (maxSteps := 2000000) (implicitDefEqProofs := false) [-getElem?_pos,-getElem?_neg,d2,w3,m2,p0,w4,b1,c2,w22]
   refine hcall ?_
   simp (maxSteps := 2000000) (implicitDefEqProofs := false) [-getElem?_pos,-getElem?_neg,w1,w5]
   exact fin (v + p) _ _ (by push_cast; rfl) hst2.symm rfl (by simp [List.forall_mem_cons,GB,num])
  ·have c2 : ¬ (xb : Int) + yb = 2 := by omega
   have c3 : ((xb : Int) + yb == 2) = false := by simpa using c2
   have hst2 : bitsN a b true (k + 1) = v := by rw [hst]; simp [c]
   simp (maxSteps := 2000000) (implicitDefEqProofs := false) [-getElem?_pos,-getElem?_neg,d2,w3,m2,p0,w4,b1,c2,c3,w1]
   exact fin v _ _ rfl hst2.symm rfl (by simp [List.forall_mem_cons,GB,num])
 | false =>
  have b1 : num false = 0 := rfl
  by_cases c : 0 < xb + yb
  ·have c2 : (0 : Int) < (xb : Int) + yb := by omega
   have hst2 : bitsN a b false (k + 1) = v + p := by rw [hst]; simp [c]
   simp (maxSteps := 2000000) (implicitDefEqProofs := false) [-getElem?_pos,-getElem?_neg,d2,w3,m2,p0,w4,b1,c2]
   refine hcall ?_
   simp (maxSteps := 2000000) (implicitDefEqProofs := false) [-getElem?_pos,-getElem?_neg,w1,w5]
   exact fin (v + p) _ _ (by push_cast; rfl) hst2.symm rfl (by simp [List.forall_mem_cons,GB,num])
  ·have c2 : ¬ (0 : Int) < (xb : Int) + yb := by omega
   have hst2 : bitsN a b false (k + 1) = v := by rw [hst]; simp [c]
   simp (maxSteps := 2000000) (implicitDefEqProofs := false) [-getElem?_pos,-getElem?_neg,d2,w3,m2,p0,w4,b1,c2,w1]
   exact fin v _ _ rfl hst2.symm rfl (by simp [List.forall_mem_cons,GB,num])
end Ex
end Go.Proofs.Ytongllppbifiaaa
