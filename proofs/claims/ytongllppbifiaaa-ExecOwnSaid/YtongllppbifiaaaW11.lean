import Derived.Test.YtongllppbifiaaaW5
import Derived.Test.YtongllppbifiaaaProg
import Derived.Test.YtongllppbifiaaaW6
import Derived.Test.YtongllppbifiaaaW7
import Derived.Test.YtongllppbifiaaaW10
namespace Go.Proofs.Ytongllppbifiaaa
namespace Ex
open Go Abs
set_option linter.unusedVariables false
set_option linter.unusedSimpArgs false
theorem hmix : Try.prog.follows .mixedOrders = true := by kernel_rfl
structure In where
 op : Int
 d : Int
 s : Int
 t : Int
 u : Int
 a : Int
 k : Nat
 to : Int
def In.vs (i : In) : List Value := [.int .i64 i.op,.int .i64 i.d,.int .i64 i.s,.int .i64 i.t,.int .i64 i.u,.int .i64 i.a,.int .u32 (i.k : Int),.int .i64 i.to]
def In.v (i : In) : Value := .agg i.vs.toArray
structure In.Ok (i : In) : Prop where
 d : 0 ≤ i.d ∧ i.d < 8
 s : 0 ≤ i.s ∧ i.s < 8
 t : 0 ≤ i.t ∧ i.t < 8
 u : 0 ≤ i.u ∧ i.u < 8
 a : 0 ≤ i.a ∧ i.a < 8
 op : 1 ≤ i.op ∧ i.op ≤ 23 ∧ i.op ≠ 14 ∧ i.op ≠ 15
 k : i.k < 4294967296
 sh : i.op = 5 ∨ i.op = 6 → i.k ≤ 31
structure Co where
 r : List Nat
 pc : Int
structure Co.Ok (c : Co) : Prop where
 len : c.r.length = 8
 lt : ∀ x ∈ c.r,x < 4294967296
def w32 (l : List Nat) : List Value := l.map fun (n : Nat) => .int .u32 (n : Int)
def i64 (l : List Nat) : List Value := l.map fun (n : Nat) => .int .i64 (n : Int)
theorem w32_length (l : List Nat) : (w32 l).length = l.length := by simp [w32]
theorem i64_length (l : List Nat) : (i64 l).length = l.length := by simp [i64]
theorem w32_get (l : List Nat) (i : Nat) : (w32 l)[i]? = (l[i]?).map fun (n : Nat) => .int .u32 (n : Int) := by simp [w32]
theorem i64_get (l : List Nat) (i : Nat) : (i64 l)[i]? = (l[i]?).map fun (n : Nat) => .int .i64 (n : Int) := by simp [i64]
def Co.cs (c : Co) : List Value := w32 c.r ++ [.int .i64 c.pc]
def Co.cr (c : Co) : List Value := i64 c.r ++ [.int .i64 c.pc]
def Co.v (c : Co) : Value := .agg c.cs.toArray
def Co.vr (c : Co) : Value := .agg c.cr.toArray
def Co.at (c : Co) (i : Int) : Nat := (c.r[i.toNat]?).getD 0
def Co.put (c : Co) (i : Int) (v : Nat) : Co := { c with r := c.r.set i.toNat v }
def Co.go (c : Co) (p : Int) : Co := { c with pc := p }
def Co.next (c : Co) : Co := c.go (c.pc + 1)
def stepC (c : Co) (i : In) (self : Nat) : Co :=
 if 16 ≤ i.op ∨ i.op = 13 then c
 else if i.op = 1 then c.next.put i.d i.k
 else if i.op = 2 then c.next.put i.d (c.at i.s)
 else if i.op = 3 then c.next.put i.d ((c.at i.s + i.k) % 4294967296)
 else if i.op = 4 then c.next.put i.d (c.at i.s &&& i.k)
 else if i.op = 5 then c.next.put i.d (c.at i.s * 2 ^ i.k % 4294967296)
 else if i.op = 6 then c.next.put i.d (c.at i.s / 2 ^ i.k)
 else if i.op = 7 then c.next.put i.d (c.at i.s ||| c.at i.t)
 else if i.op = 8 then (if c.at i.s = c.at i.t then c.go i.to else c.next)
 else if i.op = 9 then (if c.at i.s = c.at i.t then c.next else c.go i.to)
 else if i.op = 10 then c.go i.to
 else if i.op = 11 then c.next.put i.d self
 else c.next
theorem ite_ok {α : Type} {P : α → Prop} {c : Prop} [Decidable c] {a b : α} (h1 : P a) (h2 : P b) : P (if c then a else b) := by
 by_cases h : c
 ·rw [if_pos h]; exact h1
 ·rw [if_neg h]; exact h2
theorem Co.at_lt {c : Co} (ok : c.Ok) (i : Int) : c.at i < 4294967296 := by
 unfold Co.at
 cases h : c.r[i.toNat]? with
 | none => simp
 | some x => exact ok.lt x (List.mem_of_getElem? h)
theorem Co.Ok.put_ok {c : Co} (ok : c.Ok) {i : Int} {v : Nat} (hv : v < 4294967296) : (c.put i v).Ok := by
 refine ⟨by simp [Co.put,ok.len],fun x hx => ?_⟩
 rcases List.mem_or_eq_of_mem_set hx with h | rfl
 ·exact ok.lt x h
 ·exact hv
theorem Co.go_ok {c : Co} (ok : c.Ok) (p : Int) : (c.go p).Ok := ⟨ok.len,ok.lt⟩
theorem stepC_ok {c : Co} {i : In} (ok : c.Ok) (hi : i.Ok) {self : Nat} (hs : self < 4294967296) : (stepC c i self).Ok := by
 have h1 := Co.at_lt ok i.s
 have h2 := Co.at_lt ok i.t
 have n : c.next.Ok := Co.go_ok ok (c.pc + 1)
 have m : ∀ x,x % 4294967296 < 4294967296 := fun x => Nat.mod_lt _ (by omega)
 exact ite_ok (P := Co.Ok) ok (ite_ok (P := Co.Ok) (n.put_ok hi.k) (ite_ok (P := Co.Ok) (n.put_ok h1) (ite_ok (P := Co.Ok) (n.put_ok (m _)) (ite_ok (P := Co.Ok) (n.put_ok (Nat.lt_of_le_of_lt Nat.and_le_left h1)) (ite_ok (P := Co.Ok) (n.put_ok (m _)) (ite_ok (P := Co.Ok) (n.put_ok (Nat.lt_of_le_of_lt (Nat.div_le_self _ _) h1)) (ite_ok (P := Co.Ok) (n.put_ok (Nat.or_lt_two_pow (n := 32) h1 h2)) (ite_ok (P := Co.Ok) (ite_ok (P := Co.Ok) (Co.go_ok ok _) n) (ite_ok (P := Co.Ok) (ite_ok (P := Co.Ok) n (Co.go_ok ok _)) (ite_ok (P := Co.Ok) (Co.go_ok ok _) (ite_ok (P := Co.Ok) (n.put_ok hs) n)))))))))))
def bitsN (a b : Nat) (both : Bool) (n : Nat) : Nat := match n with
 | 0 => 0
 | n + 1 => bitsN a b both n + if (if both then (a / 2 ^ n % 2 + b / 2 ^ n % 2 == 2) else decide (0 < a / 2 ^ n % 2 + b / 2 ^ n % 2)) then 2 ^ n else 0
theorem bit_and {x y z : Nat} (hx : x < 2) (hy : y < 2) (hz : z < 2) (h : decide (z = 1) = (decide (x = 1) && decide (y = 1))) : z = if (x + y == 2) then 1 else 0 := by
 obtain rfl | rfl : x = 0 ∨ x = 1 := by omega
 all_goals obtain rfl | rfl : y = 0 ∨ y = 1 := by omega
 all_goals obtain rfl | rfl : z = 0 ∨ z = 1 := by omega
 all_goals first | rfl | (simp at h)
theorem bit_or {x y z : Nat} (hx : x < 2) (hy : y < 2) (hz : z < 2) (h : decide (z = 1) = (decide (x = 1) || decide (y = 1))) : z = if decide (0 < x + y) then 1 else 0 := by
 obtain rfl | rfl : x = 0 ∨ x = 1 := by omega
 all_goals obtain rfl | rfl : y = 0 ∨ y = 1 := by omega
 all_goals obtain rfl | rfl : z = 0 ∨ z = 1 := by omega
 all_goals first | rfl | (simp at h)
theorem bitsN_and (a b n : Nat) : bitsN a b true n = (a &&& b) % 2 ^ n := by
 induction n with
 | zero => simp [bitsN,Nat.mod_one]
 | succ n ih =>
  rw [Nat.mod_pow_succ,← ih,bitsN]
  have h : (a &&& b) / 2 ^ n % 2 = if (a / 2 ^ n % 2 + b / 2 ^ n % 2 == 2) then 1 else 0 := by
   have h1 : (a &&& b).testBit n = (a.testBit n && b.testBit n) := Nat.testBit_and a b n
   simp only [Nat.testBit_eq_decide_div_mod_eq] at h1
   exact bit_and (Nat.mod_lt _ (by omega)) (Nat.mod_lt _ (by omega)) (Nat.mod_lt _ (by omega)) h1
  rw [h]
  simp only [if_true]
  split <;> simp
theorem bitsN_or (a b n : Nat) : bitsN a b false n = (a ||| b) % 2 ^ n := by
 induction n with
 | zero => simp [bitsN,Nat.mod_one]
 | succ n ih =>
  rw [Nat.mod_pow_succ,← ih,bitsN]
  have h : (a ||| b) / 2 ^ n % 2 = if decide (0 < a / 2 ^ n % 2 + b / 2 ^ n % 2) then 1 else 0 := by
   have h1 : (a ||| b).testBit n = (a.testBit n || b.testBit n) := Nat.testBit_or a b n
   simp only [Nat.testBit_eq_decide_div_mod_eq] at h1
   exact bit_or (Nat.mod_lt _ (by omega)) (Nat.mod_lt _ (by omega)) (Nat.mod_lt _ (by omega)) h1
  rw [h]
  simp only [Bool.false_eq_true,if_false]
  split <;> simp
theorem bitsN_le (a b : Nat) (both : Bool) (n : Nat) : bitsN a b both n < 2 ^ n := by
 cases both
 ·rw [bitsN_or]; exact Nat.mod_lt _ (Nat.two_pow_pos n)
 ·rw [bitsN_and]; exact Nat.mod_lt _ (Nat.two_pow_pos n)
end Ex
end Go.Proofs.Ytongllppbifiaaa
namespace Go.Proofs.Ytongllppbifiaaa
namespace Ex
open Go Abs Code
open Px (u32w i64w)
set_option linter.unusedVariables false
set_option linter.unusedSimpArgs false
set_option maxRecDepth 100000
theorem memory_ (i : In) (h : AH) {K : Value → AH → Prop} (hK : K (.bool (decide (16 ≤ i.op ∧ i.op ≤ 23))) h) : AC Try.prog 28 [i.v] h K := by
 refine AC.clean ?_
 refine entry hmix cf28 ?_
 unfold In.v In.vs
 by_cases c1 : 16 ≤ i.op
 ·by_cases c2 : i.op ≤ 23
  ·simp (maxSteps := 2000000) (implicitDefEqProofs := false) [DN,NB,begT,atHead,kd,wantedA,evP,evR,evF,evL,evC,evI,evBin,evUn,evEq,evSt,evRes,plain,scp,scpA,scpL,rdRow_eq,RV,rdCells,veq,veqA,veqL,isHole,Value.cells,evalL,optI,evBounds,evFill,evFillR,evApp,newsOf,wrCells,one1,fitsApp,evClr,undef,onB_bool,List.getElem?_concat_length,List.getElem?_cons_zero,List.getElem?_cons_succ,List.getElem?_toArray,List.getElem?_nil,List.set_cons_zero,List.set_cons_succ,List.cons_append,List.nil_append,-getElem?_pos,-getElem?_neg,c1,c2]
   simpa [c1,c2] using hK
  ·simp (maxSteps := 2000000) (implicitDefEqProofs := false) [DN,NB,begT,atHead,kd,wantedA,evP,evR,evF,evL,evC,evI,evBin,evUn,evEq,evSt,evRes,plain,scp,scpA,scpL,rdRow_eq,RV,rdCells,veq,veqA,veqL,isHole,Value.cells,evalL,optI,evBounds,evFill,evFillR,evApp,newsOf,wrCells,one1,fitsApp,evClr,undef,onB_bool,List.getElem?_concat_length,List.getElem?_cons_zero,List.getElem?_cons_succ,List.getElem?_toArray,List.getElem?_nil,List.set_cons_zero,List.set_cons_succ,List.cons_append,List.nil_append,-getElem?_pos,-getElem?_neg,c1,c2]
   simpa [c1,c2] using hK
 ·simp (maxSteps := 2000000) (implicitDefEqProofs := false) [DN,NB,begT,atHead,kd,wantedA,evP,evR,evF,evL,evC,evI,evBin,evUn,evEq,evSt,evRes,plain,scp,scpA,scpL,rdRow_eq,RV,rdCells,veq,veqA,veqL,isHole,Value.cells,evalL,optI,evBounds,evFill,evFillR,evApp,newsOf,wrCells,one1,fitsApp,evClr,undef,onB_bool,List.getElem?_concat_length,List.getElem?_cons_zero,List.getElem?_cons_succ,List.getElem?_toArray,List.getElem?_nil,List.set_cons_zero,List.set_cons_succ,List.cons_append,List.nil_append,-getElem?_pos,-getElem?_neg,c1]
  simpa [c1] using hK
theorem cs_length {c : Co} (h : c.r.length = 8) : c.cs.length = 9 := by simp [Co.cs,w32,h]
theorem cs_take {c : Co} (h : c.r.length = 8) : c.cs.take 9 = c.cs := List.take_of_length_le (by rw [cs_length h]; omega)
theorem cs_pc {c : Co} (h : c.r.length = 8) : c.cs[8]? = some (.int .i64 c.pc) := by
 unfold Co.cs
 rw [List.getElem?_append_right (by simp [w32,h])]
 simp [w32,h]
theorem cs_set8 {c : Co} (h : c.r.length = 8) (p : Int) : c.cs.set 8 (.int .i64 p) = (c.go p).cs := by
 unfold Co.cs Co.go
 rw [List.set_append_right _ _ (by simp [w32,h])]
 simp [w32,h]
theorem cs_get {c : Co} (h : c.r.length = 8) {i : Int} (hi : 0 ≤ i ∧ i < 8) : c.cs[i.toNat]? = some (.int .u32 (c.at i : Int)) := by
 have hil : i.toNat < c.r.length := by omega
 unfold Co.cs Co.at
 rw [List.getElem?_append_left (by rw [w32_length]; exact hil),w32_get,List.getElem?_eq_getElem hil]
 rfl
theorem cs_put {c : Co} (h : c.r.length = 8) {i : Int} (hi : 0 ≤ i ∧ i < 8) (v : Nat) : c.cs.set i.toNat (.int .u32 (v : Int)) = (c.put i v).cs := by
 have hil : i.toNat < c.r.length := by omega
 unfold Co.cs Co.put
 rw [List.set_append_left _ _ (by rw [w32_length]; exact hil)]
 simp [w32,List.map_set]
theorem cs_splice {c : Co} (h : c.r.length = 8) {vs : List Value} (hv : vs.length = 9) : splice vs 0 c.cs = c.cs := by
 have hl := cs_length h
 unfold splice
 split
 ·rename_i v e
  rw [e] at hl
  simp at hl
 ·simp [hv,hl]
theorem cs_one (c : Co) : c.cs.all one1 = true := by
 unfold Co.cs w32
 simp [one1]
theorem put_len {c : Co} (h : c.r.length = 8) (i : Int) (v : Nat) : (c.put i v).r.length = 8 := by simp [Co.put,h]
theorem mod_u32 (x : Nat) : IntKind.u32.wrap (x : Int) = ((x % 4294967296 : Nat) : Int) := by
 unfold IntKind.wrap
 simp [IntKind.signed,IntKind.bits]
theorem add_u32 (a b : Nat) : IntKind.u32.wrap ((a : Int) + (b : Int)) = (((a + b) % 4294967296 : Nat) : Int) := by
 have := mod_u32 (a + b)
 rwa [Int.natCast_add] at this
theorem pow_cast (k : Nat) : ((2 ^ k : Nat) : Int) = (2 : Int) ^ k := Int.natCast_pow 2 k
theorem shl_u32 (a k : Nat) (hk : k ≤ 31) : IntKind.u32.wrap ((a : Int) * 2 ^ min k IntKind.u32.bits) = ((a * 2 ^ k % 4294967296 : Nat) : Int) := by
 have := mod_u32 (a * 2 ^ k)
 rw [Int.natCast_mul,pow_cast] at this
 rw [show min k IntKind.u32.bits = k from Nat.min_eq_left (by show k ≤ 32; omega)]
 exact this
theorem shr_u32 (a k : Nat) (hk : k ≤ 31) : ((a : Int)).fdiv (2 ^ min k IntKind.u32.bits) = ((a / 2 ^ k : Nat) : Int) := by
 rw [show min k IntKind.u32.bits = k from Nat.min_eq_left (by show k ≤ 32; omega),← pow_cast,Int.fdiv_eq_ediv_of_nonneg _ (Int.natCast_nonneg _)]
 exact (Int.natCast_ediv a (2 ^ k)).symm
theorem and_u32' {a b : Nat} (ha : a < 4294967296) (hb : b < 4294967296) : IntKind.u32.wrap ((a % 2 ^ IntKind.u32.bits &&& b % 2 ^ IntKind.u32.bits : Nat) : Int) = ((a &&& b : Nat) : Int) := by
 have e1 : a % 2 ^ IntKind.u32.bits = a := Nat.mod_eq_of_lt ha
 have e2 : b % 2 ^ IntKind.u32.bits = b := Nat.mod_eq_of_lt hb
 rw [e1,e2]
 exact u32w _ (Nat.lt_of_le_of_lt Nat.and_le_left ha)
theorem or_u32' {a b : Nat} (ha : a < 4294967296) (hb : b < 4294967296) : IntKind.u32.wrap ((a % 2 ^ IntKind.u32.bits ||| b % 2 ^ IntKind.u32.bits : Nat) : Int) = ((a ||| b : Nat) : Int) := by
 have e1 : a % 2 ^ IntKind.u32.bits = a := Nat.mod_eq_of_lt ha
 have e2 : b % 2 ^ IntKind.u32.bits = b := Nat.mod_eq_of_lt hb
 rw [e1,e2]
 exact u32w _ (Nat.or_lt_two_pow (n := 32) ha hb)
end Ex
end Go.Proofs.Ytongllppbifiaaa
namespace Go.Proofs.Ytongllppbifiaaa
namespace Ex
open Go Abs Code
open Px (u32w i64w)
attribute [local simp] DN5 HA DN NB begT atHead kd wantedA evP evR evF evL evC evI evBin evUn evEq evSt evRes plain scp scpA scpL rdRow_eq RV rdCells veq veqA veqL isHole Value.cells evalL optI evBounds evFill evFillR evApp newsOf wrCells one1 fitsApp evClr undef onB_bool List.getElem?_concat_length List.getElem?_cons_zero List.getElem?_cons_succ List.getElem?_toArray List.getElem?_nil List.set_cons_zero List.set_cons_succ List.cons_append List.nil_append
set_option linter.unusedVariables false
set_option linter.unusedSimpArgs false
set_option maxRecDepth 100000
set_option maxHeartbeats 4000000 in
theorem one_ (c : Co) (ok : c.Ok) (i : In) (hi : i.Ok) (self : Nat) (hs : self < 4294967296) (hpc : -1099511627776 ≤ c.pc ∧ c.pc ≤ 1099511627776) (H : AH) {K : Value → AH → Prop} (hK : K (stepC c i self).v H) : AC Try.prog 80 [c.v,i.v,.int .i64 self] H K := by
 refine AC.clean ?_
 refine entry hmix cf80 ?_
 have hl := ok.len
 have q1 : ∀ c : Co,c.v = .agg c.cs.toArray := fun _ => rfl
 have hpl : ∀ c : Co,plain c.v = true := fun c => by
  show scpL _ c.cs = true
  rw [scpL_all,List.all_eq_true]
  intro v hv
  unfold Co.cs w32 at hv
  simp only [List.mem_append,List.mem_map,List.mem_singleton] at hv
  rcases hv with ⟨n,_,rfl⟩ | rfl <;> rfl
 have hmem : ∀ x,x = decide (16 ≤ i.op ∧ i.op ≤ 23) → x = decide (16 ≤ i.op) := fun x h => by rw [h]; have := hi.op; simp; omega
 obtain ⟨d1,d2⟩ := hi.d
 obtain ⟨s1,s2⟩ := hi.s
 obtain ⟨t1,t2⟩ := hi.t
 have gs := cs_get hl hi.s
 have gt := cs_get hl hi.t
 have hcl := cs_length hl
 have hct := cs_take hl
 have hz : ([.int .u32 0,.int .u32 0,.int .u32 0,.int .u32 0,.int .u32 0,.int .u32 0,.int .u32 0,.int .u32 0,.int .i64 0] : List Value).length = 9 := rfl
 have hv0 := q1 c
 unfold In.v In.vs
 rw [hv0]
 simp (maxSteps := 2000000) (implicitDefEqProofs := false) [-getElem?_pos,-getElem?_neg,hcl,hct]
 refine memory_ i _ ?_
 rw [hmem _ rfl]
 have hone := cs_one
 have hsp : ∀ c : Co,c.r.length = 8 → splice [.int .u32 0,.int .u32 0,.int .u32 0,.int .u32 0,.int .u32 0,.int .u32 0,.int .u32 0,.int .u32 0,.int .i64 0] 0 c.cs = c.cs := fun c h => cs_splice h rfl
 by_cases c16 : 16 ≤ i.op
 ·have e : stepC c i self = c := if_pos (.inl c16)
  rw [e,hv0] at hK
  have hp := hpl c
  rw [hv0] at hp
  have h0 := hsp c hl
  simp (maxSteps := 2000000) (implicitDefEqProofs := false) [-getElem?_pos,-getElem?_neg,c16,hcl,hct,hone c,h0]
  exact ⟨hp,hK⟩
 by_cases c13 : i.op = 13
 ·have e : stepC c i self = c := if_pos (.inr c13)
  rw [e,hv0] at hK
  have hp := hpl c
  rw [hv0] at hp
  have h0 := hsp c hl
  simp (maxSteps := 2000000) (implicitDefEqProofs := false) [-getElem?_pos,-getElem?_neg,c13,hcl,hct,hone c,h0]
  exact ⟨hp,hK⟩
 have n13 : (i.op == 13) = false := by simpa using c13
 have nl : c.next.r.length = 8 := hl
 have e8 := cs_pc hl
 have e9 := cs_set8 hl (c.pc + 1)
 have wp : IntKind.i64.wrap (c.pc + 1) = c.pc + 1 := IntWalk.i64_in _ (by omega)
 have f1 : i.d < 8 := d2
 have hcn : c.go (c.pc + 1) = c.next := rfl
 rw [hcn] at e9
 have hnl := cs_length nl
 have hnt := cs_take nl
 have put : ∀ v : Nat,(c.next.put i.d v).r.length = 8 := fun v => put_len nl _ _
 have hput := fun v : Nat => cs_put nl hi.d v
 have hpl2 := fun v : Nat => cs_length (put v)
 have hpt2 := fun v : Nat => cs_take (put v)
 have fin : ∀ v : Nat,stepC c i self = c.next.put i.d v → plain (.agg (c.next.put i.d v).cs.toArray) = true ∧ K (.agg (c.next.put i.d v).cs.toArray) H := fun v e => ⟨hpl _,by rw [e] at hK; exact hK⟩
 have hs2 := fun v : Nat => hsp _ (put v)
 have hno : ¬ (16 ≤ i.op ∨ i.op = 13) := by omega
 have d3 : i.d ≤ 8 := by omega
 have s3 : i.s ≤ 8 := by omega
 have t3 : i.t ≤ 8 := by omega
 have ls := Co.at_lt ok i.s
 have lt := Co.at_lt ok i.t
 have gol : ∀ p : Int,(c.go p).r.length = 8 := fun _ => hl
 have g8 : ∀ p : Int,c.next.cs.set 8 (.int .i64 p) = (c.go p).cs := fun p => cs_set8 nl p
 have hgl := fun p : Int => cs_length (gol p)
 have hgt := fun p : Int => cs_take (gol p)
 have hgs := fun p : Int => hsp _ (gol p)
 have hns := hsp _ nl
 have finG : ∀ p : Int,stepC c i self = c.go p → plain (.agg (c.go p).cs.toArray) = true ∧ K (.agg (c.go p).cs.toArray) H := fun p e => ⟨hpl _,by rw [e] at hK; exact hK⟩
 have finN : stepC c i self = c.next → plain (.agg c.next.cs.toArray) = true ∧ K (.agg c.next.cs.toArray) H := fun e => ⟨hpl _,by rw [e] at hK; exact hK⟩
 by_cases o1 : i.op = 1
 ·have w0 : True := trivial
  have := fin i.k (by unfold stepC; rw [if_neg hno,if_pos o1])
  simp (maxSteps := 2000000) (implicitDefEqProofs := false) [-getElem?_pos,-getElem?_neg,c16,c13,n13,o1,hcl,hct,gs,gt,d1,d2,d3,s1,s2,s3,t1,t2,t3,e8,e9,wp,hnl,hnt,hput,hpl2,hpt2,hone,hs2]
  exact this
 have n1 := o1
 have b1 : (i.op == 1) = false := by simpa using o1
 by_cases o2 : i.op = 2
 ·have w0 : True := trivial
  have := fin (c.at i.s) (by unfold stepC; rw [if_neg hno,if_neg n1,if_pos o2])
  simp (maxSteps := 2000000) (implicitDefEqProofs := false) [-getElem?_pos,-getElem?_neg,c16,c13,n13,o2,hcl,hct,gs,gt,d1,d2,d3,s1,s2,s3,t1,t2,t3,e8,e9,wp,hnl,hnt,hput,hpl2,hpt2,hone,hs2,b1]
  exact this
 have n2 := o2
 have b2 : (i.op == 2) = false := by simpa using o2
 by_cases o3 : i.op = 3
 ·have w3 := add_u32 (c.at i.s) i.k
  obtain ⟨v,hv⟩ : ∃ v,((c.at i.s + i.k) % 4294967296) = v := ⟨_,rfl⟩
  rw [hv] at w3
  have := fin v (by unfold stepC; rw [if_neg hno,if_neg n1,if_neg n2,if_pos o3,hv])
  simp (maxSteps := 2000000) (implicitDefEqProofs := false) [-getElem?_pos,-getElem?_neg,c16,c13,n13,o3,hcl,hct,gs,gt,d1,d2,d3,s1,s2,s3,t1,t2,t3,e8,e9,wp,hnl,hnt,hput,hpl2,hpt2,hone,hs2,b1,b2,w3]
  exact this
 have n3 := o3
 have b3 : (i.op == 3) = false := by simpa using o3
 by_cases o4 : i.op = 4
 ·have w4 := and_u32' ls hi.k
  obtain ⟨v,hv⟩ : ∃ v,(c.at i.s &&& i.k) = v := ⟨_,rfl⟩
  rw [hv] at w4
  have := fin v (by unfold stepC; rw [if_neg hno,if_neg n1,if_neg n2,if_neg n3,if_pos o4,hv])
  simp (maxSteps := 2000000) (implicitDefEqProofs := false) [-getElem?_pos,-getElem?_neg,c16,c13,n13,o4,hcl,hct,gs,gt,d1,d2,d3,s1,s2,s3,t1,t2,t3,e8,e9,wp,hnl,hnt,hput,hpl2,hpt2,hone,hs2,b1,b2,b3,w4]
  exact this
 have n4 := o4
 have b4 : (i.op == 4) = false := by simpa using o4
 by_cases o5 : i.op = 5
 ·have hk31 := hi.sh (.inl o5)
  have w5 := shl_u32 (c.at i.s) i.k hk31
  have w5b : ¬ (i.k : Int) < 0 := by omega
  obtain ⟨v,hv⟩ : ∃ v,(c.at i.s * 2 ^ i.k % 4294967296) = v := ⟨_,rfl⟩
  rw [hv] at w5
  have := fin v (by unfold stepC; rw [if_neg hno,if_neg n1,if_neg n2,if_neg n3,if_neg n4,if_pos o5,hv])
  simp (maxSteps := 2000000) (implicitDefEqProofs := false) [-getElem?_pos,-getElem?_neg,c16,c13,n13,o5,hcl,hct,gs,gt,d1,d2,d3,s1,s2,s3,t1,t2,t3,e8,e9,wp,hnl,hnt,hput,hpl2,hpt2,hone,hs2,b1,b2,b3,b4,w5,w5b,hk31]
  exact this
 have n5 := o5
 have b5 : (i.op == 5) = false := by simpa using o5
 by_cases o6 : i.op = 6
 ·have hk31 := hi.sh (.inr o6)
  have w6 := shr_u32 (c.at i.s) i.k hk31
  have w6b : ¬ (i.k : Int) < 0 := by omega
  obtain ⟨v,hv⟩ : ∃ v,(c.at i.s / 2 ^ i.k) = v := ⟨_,rfl⟩
  rw [hv] at w6
  have := fin v (by unfold stepC; rw [if_neg hno,if_neg n1,if_neg n2,if_neg n3,if_neg n4,if_neg n5,if_pos o6,hv])
  simp (maxSteps := 2000000) (implicitDefEqProofs := false) [-getElem?_pos,-getElem?_neg,c16,c13,n13,o6,hcl,hct,gs,gt,d1,d2,d3,s1,s2,s3,t1,t2,t3,e8,e9,wp,hnl,hnt,hput,hpl2,hpt2,hone,hs2,b1,b2,b3,b4,b5,w6,w6b,hk31]
  exact this
 have n6 := o6
 have b6 : (i.op == 6) = false := by simpa using o6
 by_cases o7 : i.op = 7
 ·have w7 := or_u32' ls lt
  obtain ⟨v,hv⟩ : ∃ v,(c.at i.s ||| c.at i.t) = v := ⟨_,rfl⟩
  rw [hv] at w7
  have := fin v (by unfold stepC; rw [if_neg hno,if_neg n1,if_neg n2,if_neg n3,if_neg n4,if_neg n5,if_neg n6,if_pos o7,hv])
  simp (maxSteps := 2000000) (implicitDefEqProofs := false) [-getElem?_pos,-getElem?_neg,c16,c13,n13,o7,hcl,hct,gs,gt,d1,d2,d3,s1,s2,s3,t1,t2,t3,e8,e9,wp,hnl,hnt,hput,hpl2,hpt2,hone,hs2,b1,b2,b3,b4,b5,b6,w7]
  exact this
 have n7 := o7
 have b7 : (i.op == 7) = false := by simpa using o7
 by_cases o8 : i.op = 8
 ·by_cases ce : c.at i.s = c.at i.t
  ·have ce2 : ((c.at i.s : Int) == (c.at i.t : Int)) = true := by simp [ce]
   have := finG i.to (by unfold stepC; rw [if_neg hno,if_neg n1,if_neg n2,if_neg n3,if_neg n4,if_neg n5,if_neg n6,if_neg n7,if_pos o8]; rw [if_pos ce])
   simp (maxSteps := 2000000) (implicitDefEqProofs := false) [-getElem?_pos,-getElem?_neg,c16,c13,n13,o8,hcl,hct,gs,gt,d1,d2,d3,s1,s2,s3,t1,t2,t3,e8,e9,wp,hnl,hnt,hput,hpl2,hpt2,hone,hs2,b1,b2,b3,b4,b5,b6,b7,g8,hgl,hgt,hgs,hns,ce,ce2]
   exact this
  ·have ce2 : ((c.at i.s : Int) == (c.at i.t : Int)) = false := by simp; omega
   have := finN (by unfold stepC; rw [if_neg hno,if_neg n1,if_neg n2,if_neg n3,if_neg n4,if_neg n5,if_neg n6,if_neg n7,if_pos o8]; rw [if_neg ce])
   simp (maxSteps := 2000000) (implicitDefEqProofs := false) [-getElem?_pos,-getElem?_neg,c16,c13,n13,o8,hcl,hct,gs,gt,d1,d2,d3,s1,s2,s3,t1,t2,t3,e8,e9,wp,hnl,hnt,hput,hpl2,hpt2,hone,hs2,b1,b2,b3,b4,b5,b6,b7,g8,hgl,hgt,hgs,hns,ce,ce2]
   exact this
 have n8 := o8
 have b8 : (i.op == 8) = false := by simpa using o8
 by_cases o9 : i.op = 9
 ·by_cases ce : c.at i.s = c.at i.t
  ·have ce2 : ((c.at i.s : Int) == (c.at i.t : Int)) = true := by simp [ce]
   have := finN (by unfold stepC; rw [if_neg hno,if_neg n1,if_neg n2,if_neg n3,if_neg n4,if_neg n5,if_neg n6,if_neg n7,if_neg n8,if_pos o9]; rw [if_pos ce])
   simp (maxSteps := 2000000) (implicitDefEqProofs := false) [-getElem?_pos,-getElem?_neg,c16,c13,n13,o9,hcl,hct,gs,gt,d1,d2,d3,s1,s2,s3,t1,t2,t3,e8,e9,wp,hnl,hnt,hput,hpl2,hpt2,hone,hs2,b1,b2,b3,b4,b5,b6,b7,b8,g8,hgl,hgt,hgs,hns,ce,ce2]
   exact this
  ·have ce2 : ((c.at i.s : Int) == (c.at i.t : Int)) = false := by simp; omega
   have := finG i.to (by unfold stepC; rw [if_neg hno,if_neg n1,if_neg n2,if_neg n3,if_neg n4,if_neg n5,if_neg n6,if_neg n7,if_neg n8,if_pos o9]; rw [if_neg ce])
   simp (maxSteps := 2000000) (implicitDefEqProofs := false) [-getElem?_pos,-getElem?_neg,c16,c13,n13,o9,hcl,hct,gs,gt,d1,d2,d3,s1,s2,s3,t1,t2,t3,e8,e9,wp,hnl,hnt,hput,hpl2,hpt2,hone,hs2,b1,b2,b3,b4,b5,b6,b7,b8,g8,hgl,hgt,hgs,hns,ce,ce2]
   exact this
 have n9 := o9
 have b9 : (i.op == 9) = false := by simpa using o9
 by_cases o10 : i.op = 10
 ·have := finG i.to (by unfold stepC; rw [if_neg hno,if_neg n1,if_neg n2,if_neg n3,if_neg n4,if_neg n5,if_neg n6,if_neg n7,if_neg n8,if_neg n9,if_pos o10])
  simp (maxSteps := 2000000) (implicitDefEqProofs := false) [-getElem?_pos,-getElem?_neg,c16,c13,n13,o10,hcl,hct,gs,gt,d1,d2,d3,s1,s2,s3,t1,t2,t3,e8,e9,wp,hnl,hnt,hput,hpl2,hpt2,hone,hs2,b1,b2,b3,b4,b5,b6,b7,b8,b9,g8,hgl,hgt,hgs]
  exact this
 have n10 := o10
 have b10 : (i.op == 10) = false := by simpa using o10
 by_cases o11 : i.op = 11
 ·have w11 := u32w self hs
  have := fin self (by unfold stepC; rw [if_neg hno,if_neg n1,if_neg n2,if_neg n3,if_neg n4,if_neg n5,if_neg n6,if_neg n7,if_neg n8,if_neg n9,if_neg n10,if_pos o11])
  simp (maxSteps := 2000000) (implicitDefEqProofs := false) [-getElem?_pos,-getElem?_neg,c16,c13,n13,o11,hcl,hct,gs,gt,d1,d2,d3,s1,s2,s3,t1,t2,t3,e8,e9,wp,hnl,hnt,hput,hpl2,hpt2,hone,hs2,b1,b2,b3,b4,b5,b6,b7,b8,b9,b10,w11]
  exact this
 have n11 := o11
 have b11 : (i.op == 11) = false := by simpa using o11
 have := finN (by unfold stepC; rw [if_neg hno,if_neg n1,if_neg n2,if_neg n3,if_neg n4,if_neg n5,if_neg n6,if_neg n7,if_neg n8,if_neg n9,if_neg n10,if_neg n11])
 simp (maxSteps := 2000000) (implicitDefEqProofs := false) [-getElem?_pos,-getElem?_neg,c16,c13,n13,c16,hcl,hct,gs,gt,d1,d2,d3,s1,s2,s3,t1,t2,t3,e8,e9,wp,hnl,hnt,hput,hpl2,hpt2,hone,hs2,b1,o1,b2,o2,b3,o3,b4,o4,b5,o5,b6,o6,b7,o7,b8,o8,b9,o9,b10,o10,b11,o11,hns]
 exact this
end Ex
end Go.Proofs.Ytongllppbifiaaa
