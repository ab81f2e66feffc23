import Derived.Test.YtongllppbifiaaaW34
namespace Go.Proofs.Ytongllppbifiaaa
namespace Ex
open Go Abs Code
attribute [local simp] DN5 HA DN NB begT atHead kd wantedA evP evR evF evL evC evI evBin evUn evEq evSt evRes plain scp scpA scpL rdRow_eq RV rdCells veq veqA veqL isHole Value.cells evalL optI evBounds evFill evFillR evApp newsOf wrCells one1 fitsApp evClr undef onB_bool List.getElem?_concat_length List.getElem?_cons_zero List.getElem?_cons_succ List.getElem?_toArray List.getElem?_nil List.set_cons_zero List.set_cons_succ List.cons_append List.nil_append
set_option linter.unusedVariables false
set_option linter.unusedSimpArgs false
set_option maxRecDepth 100000
def signsI (op : Int) : List Nat := (formI op).2.map UInt8.toNat
def zeroI : In := ⟨0,0,0,0,0,0,0,0⟩
def rightS (i : In) (n : Nat) : Bool := if (formI i.op).1 = [] then false else match goS n (signsI i.op) { i with op := 0 } with
 | some r => eqL r.vs zeroI.vs
 | none => false
theorem ite_pair {c : Prop} [Decidable c] {a b : List UInt8 × List UInt8} {p : List UInt8 × List UInt8 → Prop} (ha : p a) (hb : p b) : p (if c then a else b) := by split <;> assumption
theorem formI_ok (op : Int) : (formI op).2.length ≤ 100 ∧ ∀ b ∈ (formI op).2,isSign b.toNat := by
 unfold formI
 have ok : ∀ p : List UInt8 × List UInt8,(p.2.length ≤ 100 ∧ (p.2.all fun b => decide (b.toNat = 68 ∨ b.toNat = 83 ∨ b.toNat = 84 ∨ b.toNat = 85 ∨ b.toNat = 65 ∨ b.toNat = 75 ∨ b.toNat = 66 ∨ b.toNat = 77 ∨ b.toNat = 79 ∨ b.toNat = 87 ∨ b.toNat = 80)) = true) → p.2.length ≤ 100 ∧ ∀ b ∈ p.2,isSign b.toNat := fun p h => ⟨h.1,fun b hb => by have := List.all_eq_true.1 h.2 b hb; simpa [isSign] using this⟩
 iterate 21
  refine ite_pair (p := fun p => p.2.length ≤ 100 ∧ ∀ b ∈ p.2,isSign b.toNat) (ok _ (by decide)) ?_
 exact ok _ (by decide)
theorem signsI_ok (op : Int) : (signsI op).length ≤ 100 ∧ ∀ b ∈ signsI op,isSign b := by
 obtain ⟨h1,h2⟩ := formI_ok op
 refine ⟨by simpa [signsI] using h1,fun b hb => ?_⟩
 obtain ⟨x,hx,rfl⟩ := List.mem_map.1 hb
 exact h2 x hx
theorem oi {r' : In} {c : Prop} [Decidable c] {a b : Option In} (h : (if c then a else b) = some r') : a = some r' ∨ b = some r' := by
 by_cases hc : c
 ·rw [if_pos hc] at h; exact .inl h
 ·rw [if_neg hc] at h; exact .inr h
theorem stepS_k {b n : Nat} {r r' : In} (h : stepS b r n = some r') (hk : r.k < 4294967296) : r'.k < 4294967296 := by
 unfold stepS at h
 iterate 10
  rcases oi h with h | h
  ·rcases oi h with h | h
   ·have h := Option.some.inj h
    subst h
    simp only
    omega
   ·cases h
 rcases oi h with h | h
 ·have h := Option.some.inj h
  subst h
  simp only
  omega
 ·cases h
def riT (bR bH n L : Nat) (s : Nat × In) : List (Nat × Value) := [(1,.int .i64 n),(6,.pointer (some ⟨bR,0,none⟩)),(26,.slice (some ⟨bH,0,none⟩) L (OPEN + L)),(27,.int .i64 L),(28,.int .i64 s.1)]
theorem size_mk (l : List UInt8) : (ByteArray.mk l.toArray).size = l.length := by simp [ByteArray.size]
theorem geqI (r : In) (x y : Operand) : (pureVal Try.prog do
  eqGuard .eql 55 x y (.agg #[.int .i64 r.op,.int .i64 r.d,.int .i64 r.s,.int .i64 r.t,.int .i64 r.u,.int .i64 r.a,.int .u32 (r.k : Int),.int .i64 r.to]) (.agg #[.int .i64 0,.int .i64 0,.int .i64 0,.int .i64 0,.int .i64 0,.int .i64 0,.int .u32 0,.int .i64 0])
  binOp .eql 55 (.agg #[.int .i64 r.op,.int .i64 r.d,.int .i64 r.s,.int .i64 r.t,.int .i64 r.u,.int .i64 r.a,.int .u32 (r.k : Int),.int .i64 r.to]) (.agg #[.int .i64 0,.int .i64 0,.int .i64 0,.int .i64 0,.int .i64 0,.int .i64 0,.int .u32 0,.int .i64 0])) = some (.bool (eqL r.vs zeroI.vs)) :=
 geqF (P := Try.prog) (t := 55) (n := 8) (m := 8) (by kernel_rfl) (by kernel_rfl) (by kernel_rfl) (.inl rfl) x y r.vs zeroI.vs rfl rfl ⟨rfl,rfl,rfl,rfl,rfl,rfl,rfl,rfl,trivial⟩
set_option maxHeartbeats 4000000 in
theorem iright_ (i : In) (hk : i.k < 4294967296) (n : Nat) (H : AH) {K : Value → AH → Prop} (hK : K (.bool (rightS i n)) H) : AC Try.prog 52 [i.v,.int .i64 n] H K := by
 refine AC.clean ?_
 refine entry hmix cf52 ?_
 unfold In.v In.vs
 simp (maxSteps := 2000000) (implicitDefEqProofs := false) [-getElem?_pos,-getElem?_neg]
 refine iof_ i.op ?_
 obtain ⟨nm,hnm⟩ : ∃ nm,(formI i.op).1 = nm := ⟨_,rfl⟩
 obtain ⟨hs,hhs⟩ : ∃ hs,(formI i.op).2 = hs := ⟨_,rfl⟩
 have hsg : signsI i.op = hs.map UInt8.toNat := by unfold signsI; rw [hhs]
 unfold rightS at hK
 rw [hnm,hsg] at hK
 rw [hnm,hhs]
 unfold strV
 by_cases c0 : nm = []
 ·subst c0
  simp only [if_true] at hK
  simp (maxSteps := 2000000) (implicitDefEqProofs := false) [-getElem?_pos,-getElem?_neg,splice_more]
  exact hK
 rw [if_neg c0] at hK
 have c0' : (nm == []) = false := by simpa using c0
 obtain ⟨hL,hsig⟩ := signsI_ok i.op
 rw [hsg] at hL hsig
 obtain ⟨L,hLL⟩ : ∃ L,hs.length = L := ⟨_,rfl⟩
 have hL2 : (hs.map UInt8.toNat).length = L := by simpa using hLL
 have hby : hs.map (fun b => Value.int .u8 (b.toNat : Int)) = byV (hs.map UInt8.toNat) := by simp [byV]
 have hsz := size_mk hs
 rw [hLL] at hsz
 generalize hmm : hs.map UInt8.toNat = ss at hK hL hsig hL2 hby
 simp (maxSteps := 2000000) (implicitDefEqProofs := false) [-getElem?_pos, -getElem?_neg, splice_more, c0, c0', hsz, hby]
 obtain ⟨B0,hB0⟩ : ∃ B0,B0 = ABlk.cells [.int .i64 i.op,.int .i64 i.d,.int .i64 i.s,.int .i64 i.t,.int .i64 i.u,.int .i64 i.a,.int .u32 (i.k : Int),.int .i64 i.to] 55 none := ⟨_,rfl⟩
 obtain ⟨B1,hB1⟩ : ∃ B1,B1 = ABlk.cells [.string ⟨nm.toArray⟩,.string ⟨hs.toArray⟩] 159 none := ⟨_,rfl⟩
 have key := fun T0 Q e1 e2 hr => loop5 (P := Try.prog) (m := H.length) hmix (ac := lp52_0) 122 (fun s : Nat × In => s.1 ≤ L ∧ s.2.k < 4294967296 ∧ goS n (ss.drop s.1) s.2 = goS n ss { i with op := 0 }) (fun s => L - s.1) (riT (H.length + 2) (H.length + 3) n L) (fun s => H ++ [B0,B1,inB s.2,.row (byV ss)]) (0,{ i with op := 0 }) ⟨Nat.zero_le _,hk,rfl⟩ (by rw [hB0,hB1]) (t := T0) (Q := Q) e1 e2 hr
 refine key _ _ rfl (by simp [List.forall_mem_cons,GB,riT]) ?_
 clear key
 rintro ⟨k,r⟩ ⟨hkL,hrk,hgo⟩ _ _ _
 simp only at hkL hrk hgo
 by_cases hlt : k < L
 case neg =>
  obtain rfl : k = L := by omega
  have c1 : ¬ (k : Int) < k := by omega
  rw [List.drop_of_length_le (by omega)] at hgo
  simp only [goS] at hgo
  rw [← hgo] at hK
  have hge := geqI r
  unfold inB In.vs
  simp (maxSteps := 2000000) (implicitDefEqProofs := false) [-getElem?_pos,-getElem?_neg,riT,lp52_0,hge,splice_more]
  exact hK
 obtain ⟨b,hb⟩ : ∃ b,ss[k]? = some b := ⟨_,List.getElem?_eq_getElem (by omega)⟩
 have hdr : ss.drop k = b :: ss.drop (k + 1) := by
  rw [List.drop_eq_getElem_cons (by omega)]
  congr 1
  rw [List.getElem?_eq_getElem (by omega)] at hb
  exact Option.some.inj hb
 rw [hdr] at hgo
 simp only [goS] at hgo
 refine round_ (bR := H.length + 2) (bH := H.length + 3) hL2 (by omega) hrk (by rw [HA.1]; rfl) (by rw [HA.1]; rfl) (by omega) k b hb (hsig b (List.mem_of_getElem? hb)) _ _ rfl ?_ ?_
 ·intro hno t H' hH' ht
  rw [hno] at hgo
  simp only at hgo
  rw [← hgo] at hK
  have hE : ∃ E,H' = H ++ E := by
   rcases hH' with rfl | ⟨X,rfl⟩
   ·exact ⟨_,rfl⟩
   ·exact ⟨_,by rw [HA.2.2.1]⟩
  obtain ⟨E,rfl⟩ := hE
  simp (maxSteps := 2000000) (implicitDefEqProofs := false) [-getElem?_pos,-getElem?_neg,ht]
  trace_state
  exact hK
 ·intro r' hyes t t1 t6 t26 t27 t28 ht
  rw [hyes] at hgo
  simp only at hgo
  refine next5.intro (k + 1,r') (by simp only; omega) ⟨by simp only; omega,stepS_k hyes hrk,hgo⟩ ?_ ht ?_
  ·simp
  ·simp [riT,t1,t6,t26,t27,t28]
end Ex
end Go.Proofs.Ytongllppbifiaaa
namespace Go.Proofs.Ytongllppbifiaaa
namespace Ex
open Go Abs Code
set_option linter.unusedVariables false
set_option linter.unusedSimpArgs false
set_option maxRecDepth 100000
theorem bind_ite {c : Prop} [Decidable c] {r : In} {f : In → Option In} : (if c then some r else none : Option In).bind f = if c then f r else none := by split <;> rfl
theorem elim_ite {c : Prop} [Decidable c] {a : Option In} {f : In → Bool} : (if c then a else none : Option In).elim false f = (decide c && a.elim false f) := by split <;> simp_all
theorem goS_cons (n b : Nat) (l : List Nat) (r : In) : goS n (b :: l) r = (stepS b r n).bind (goS n l) := by
 rw [goS]
 cases stepS b r n <;> rfl
theorem goS_nil (n : Nat) (r : In) : goS n [] r = some r := rfl
theorem rightS_def (i : In) (n : Nat) : rightS i n = if (formI i.op).1 = [] then false else (goS n (signsI i.op) { i with op := 0 }).elim false fun r => eqL r.vs zeroI.vs := by
 unfold rightS
 cases goS n (signsI i.op) { i with op := 0 } <;> rfl
set_option maxHeartbeats 4000000 in
theorem rightS_eq (i : In) (n : Nat) (hk : i.k < 4294967296) : rightS i n = rightI i n := by
 obtain ⟨op,d,s,t,u,a,k,to⟩ := i
 simp only at hk
 by_cases hop : 1 ≤ op ∧ op ≤ 23 ∧ op ≠ 14 ∧ op ≠ 15
 ·have : op = 1 ∨ op = 2 ∨ op = 3 ∨ op = 4 ∨ op = 5 ∨ op = 6 ∨ op = 7 ∨ op = 8 ∨ op = 9 ∨ op = 10 ∨ op = 11 ∨ op = 12 ∨ op = 13 ∨ op = 16 ∨ op = 17 ∨ op = 18 ∨ op = 19 ∨ op = 20 ∨ op = 21 ∨ op = 22 ∨ op = 23 := by omega
  rcases this with rfl | rfl | rfl | rfl | rfl | rfl | rfl | rfl | rfl | rfl | rfl | rfl | rfl | rfl | rfl | rfl | rfl | rfl | rfl | rfl | rfl
  all_goals
   rw [rightS_def]
   simp only [signsI,formI,reduceIte,Int.reduceEq,reduceCtorEq,List.map_cons,List.map_nil,goS_cons,goS_nil,stepS,Nat.reduceEqDiff,UInt8.reduceToNat,bind_ite,elim_ite,Option.elim_some,eqL,In.vs,zeroI,rightI,hasI,fieldOk,Bool.false_eq_true,if_false,if_true]
   rw [Bool.eq_iff_iff]
   simp
   omega
 ·have e1 : formI op = ([],[]) := by unfold formI; simp only [show op ≠ 1 by omega,show op ≠ 2 by omega,show op ≠ 3 by omega,show op ≠ 4 by omega,show op ≠ 5 by omega,show op ≠ 6 by omega,show op ≠ 7 by omega,show op ≠ 8 by omega,show op ≠ 9 by omega,show op ≠ 10 by omega,show op ≠ 11 by omega,show op ≠ 12 by omega,show op ≠ 13 by omega,show op ≠ 16 by omega,show op ≠ 17 by omega,show op ≠ 18 by omega,show op ≠ 19 by omega,show op ≠ 20 by omega,show op ≠ 21 by omega,show op ≠ 22 by omega,show op ≠ 23 by omega,if_false]
  have e2 : hasI op = none := by unfold hasI; simp only [show op ≠ 1 by omega,show op ≠ 2 by omega,show op ≠ 3 by omega,show op ≠ 4 by omega,show op ≠ 5 by omega,show op ≠ 6 by omega,show op ≠ 7 by omega,show op ≠ 8 by omega,show op ≠ 9 by omega,show op ≠ 10 by omega,show op ≠ 11 by omega,show op ≠ 12 by omega,show op ≠ 13 by omega,show op ≠ 16 by omega,show op ≠ 17 by omega,show op ≠ 18 by omega,show op ≠ 19 by omega,show op ≠ 20 by omega,show op ≠ 21 by omega,show op ≠ 22 by omega,show op ≠ 23 by omega,if_false]
  simp [rightS,rightI,e1,e2]
theorem ir : IR rightI := fun i n H K hk hK => iright_ i hk n H (by rw [rightS_eq i n hk]; exact hK)
end Ex
end Go.Proofs.Ytongllppbifiaaa
