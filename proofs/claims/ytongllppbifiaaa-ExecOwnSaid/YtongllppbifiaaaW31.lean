import Derived.Test.YtongllppbifiaaaW30
import Derived.Test.YtongllppbifiaaaW14
namespace Go.Proofs.Ytongllppbifiaaa
namespace Ex
open Go Abs Code
open Px (natV natV_length natV_get VecV nm u32w i64w PS poolB outG Own New)
attribute [local simp] DN5 HA DN NB begT atHead kd wantedA evP evR evF evL evC evI evBin evUn evEq evSt evRes plain scp scpA scpL rdRow_eq RV rdCells veq veqA veqL isHole Value.cells evalL optI evBounds evFill evFillR evApp newsOf wrCells one1 fitsApp evClr undef onB_bool List.getElem?_concat_length List.getElem?_cons_zero List.getElem?_cons_succ List.getElem?_toArray List.getElem?_nil List.set_cons_zero List.set_cons_succ List.cons_append List.nil_append
set_option linter.unusedVariables false
set_option linter.unusedSimpArgs false
set_option maxRecDepth 100000
def IR (rI : In → Nat → Bool) : Prop := ∀ (i : In) (n : Nat) (H : AH) (K : Value → AH → Prop),i.k < 4294967296 → K (.bool (rI i n)) H → AC Try.prog 52 [i.v,.int .i64 n] H K
set_option maxHeartbeats 2000000 in
theorem rclo_ {rI : In → Nat → Bool} (ir : IR rI) {H : AH} {i : In} (hk : i.k < 4294967296) {n bn : Nat} (hb : H[bn]? = some (.cells [.int .i64 n] 3 none)) {K : Value → AH → Prop} (hK : K (.bool (! rI i n)) H) : AC Try.prog 51 [i.v,.pointer (some ⟨bn,0,none⟩)] H K := by
 refine AC.clean ?_
 refine entry hmix cf51 ?_
 have f0 : ∀ tl,(H ++ tl)[bn]? = _ := fun tl => getA hb tl
 unfold In.v In.vs
 simp (maxSteps := 2000000) (implicitDefEqProofs := false) [-getElem?_pos,-getElem?_neg,f0]
 refine ir i n _ _ hk ?_
 simp (maxSteps := 2000000) (implicitDefEqProofs := false) [-getElem?_pos,-getElem?_neg]
 exact hK
def ixT (v f : Value) (n k : Nat) : List (Nat × Value) := [(0,v),(1,f),(7,.int .i64 n),(8,.int .i64 k)]
set_option maxHeartbeats 2000000 in
theorem rix_ {rI : In → Nat → Bool} (ir : IR rI) {H : AH} {L : List In} (hks : ∀ i ∈ L,i.k < 4294967296) {n bn b cap : Nat} (hL : L.length ≤ 1000) (hb : H[bn]? = some (.cells [.int .i64 n] 3 none)) {X : ABlk} (hr : H[b]? = some X) (hX : rowVs X = some (rowI L)) {K : Value → AH → Prop} (hK : ∀ z : Int,(0 ≤ z ↔ ∃ i ∈ L,rI i n = false) → K (.int .i64 z) H) : AC Try.prog 76 [.slice (some ⟨b,0,none⟩) L.length cap,.func (.func 51) #[] #[.pointer (some ⟨bn,0,none⟩)]] H K := by
 refine entry hmix cf76 ?_
 simp (maxSteps := 2000000) (implicitDefEqProofs := false) [-getElem?_pos,-getElem?_neg]
 obtain ⟨vf,hvf⟩ : ∃ vf : Value,vf = .func (.func 51) #[] #[.pointer (some ⟨bn,0,none⟩)] := ⟨_,rfl⟩
 have key := fun T0 Q e1 e2 hr => loop5 (P := Try.prog) (m := H.length) hmix (ac := lp76_0) 19 (fun k => k ≤ L.length ∧ ∀ i ∈ L.take k,rI i n = true) (fun k => L.length - k) (ixT (.slice (some ⟨b,0,none⟩) L.length cap) vf L.length) (fun _ => H) 0 ⟨Nat.zero_le _,by simp⟩ rfl (t := T0) (Q := Q) e1 e2 hr
 rw [← hvf]
 refine key _ _ rfl (by simp [List.forall_mem_cons,GB,ixT]) ?_
 clear key
 rintro k ⟨hk,hok⟩ _ _ _
 by_cases hlt : k < L.length
 case neg =>
  obtain rfl : k = L.length := by omega
  rw [List.take_length] at hok
  simp (maxSteps := 2000000) (implicitDefEqProofs := false) [-getElem?_pos,-getElem?_neg,ixT,lp76_0]
  refine hK (-1) ⟨fun h => absurd h (by omega),fun ⟨i,hi,h⟩ => ?_⟩
  rw [hok i hi] at h
  cases h
 have hlt' : (k : Int) < L.length := by omega
 obtain ⟨i,hi⟩ : ∃ i,L[k]? = some i := ⟨_,List.getElem?_eq_getElem hlt⟩
 have hrd := rowI_at hi
 have hfit : k * 8 + 8 ≤ (rowI L).length := by rw [rowI_length]; omega
 have w2 : IntKind.i64.wrap ((k : Int) + 1) = (k : Int) + 1 := IntWalk.i64_in _ (by omega)
 simp (maxSteps := 2000000) (implicitDefEqProofs := false) [-getElem?_pos, -getElem?_neg, ixT, lp76_0, hlt, hlt', hr, hX, hrd, hfit, hvf, In.vs]
 refine rclo_ ir (hks i (List.mem_of_getElem? hi)) hb ?_
 cases hri : rI i n with
 | false =>
  simp (maxSteps := 2000000) (implicitDefEqProofs := false) [-getElem?_pos,-getElem?_neg]
  exact hK k ⟨fun _ => ⟨i,List.mem_of_getElem? hi,hri⟩,fun _ => by omega⟩
 | true =>
  simp (maxSteps := 2000000) (implicitDefEqProofs := false) [-getElem?_pos,-getElem?_neg,w2]
  refine next5.intro (k + 1) (by omega) ⟨by omega,fun y hy => ?_⟩ rfl rfl (by simp [List.forall_mem_cons,GB,ixT])
  rw [List.take_add_one,hi] at hy
  simp only [Option.toList,List.mem_append,List.mem_singleton] at hy
  rcases hy with hy | rfl
  ·exact hok y hy
  ·exact hri
set_option maxHeartbeats 2000000 in
theorem rcont_ {rI : In → Nat → Bool} (ir : IR rI) {H : AH} {L : List In} (hks : ∀ i ∈ L,i.k < 4294967296) {n bn b cap : Nat} (hL : L.length ≤ 1000) (hb : H[bn]? = some (.cells [.int .i64 n] 3 none)) {X : ABlk} (hr : H[b]? = some X) (hX : rowVs X = some (rowI L)) {K : Value → AH → Prop} (hK : K (.bool (! L.all fun i => rI i n)) H) : AC Try.prog 50 [.slice (some ⟨b,0,none⟩) L.length cap,.func (.func 51) #[] #[.pointer (some ⟨bn,0,none⟩)]] H K := by
 refine entry hmix cf50 ?_
 simp (maxSteps := 2000000) (implicitDefEqProofs := false) [-getElem?_pos,-getElem?_neg]
 refine rix_ ir hks hL hb hr hX fun z hz => ?_
 have e : (! L.all fun i => rI i n) = decide (0 ≤ z) := by
  by_cases h : 0 ≤ z
  ·obtain ⟨i,hi,h2⟩ := hz.1 h
   rw [decide_eq_true h, Bool.not_eq_true', List.all_eq_false]
   exact ⟨i,hi,by rw [h2]; simp⟩
  ·rw [decide_eq_false h, Bool.not_eq_false', List.all_eq_true]
   intro i hi
   cases hri : rI i n with
   | true => rfl
   | false => exact absurd (hz.2 ⟨i,hi,hri⟩) h
 rw [e] at hK
 simp (maxSteps := 2000000) (implicitDefEqProofs := false) [-getElem?_pos,-getElem?_neg]
 exact hK
def codeR (rI : In → Nat → Bool) (L : List In) (lk uk : Int) : Bool := decide (1 ≤ L.length ∧ L.length ≤ 64 ∧ 0 ≤ lk ∧ 0 ≤ uk ∧ lk < L.length ∧ uk < L.length) && L.all fun i => rI i L.length
set_option maxHeartbeats 4000000 in
theorem aright_ {rI : In → Nat → Bool} (ir : IR rI) {H : AH} {v : Value} {L : List In} (hks : ∀ i ∈ L,i.k < 4294967296) (r : ArgRow H v (rowI L) L.length) (hL : L.length ≤ 1000) (lk uk : Int) {K : Value → AH → Prop} (hK : K (.bool (codeR rI L lk uk)) H) : AC Try.prog 24 [.agg #[v,.int .i64 lk,.int .i64 uk]] H K := by
 refine AC.clean ?_
 refine entry hmix cf24 ?_
 obtain ⟨A,C,hv⟩ : ∃ A C,v = .slice A L.length C := r.form
 subst hv
 have bad : ¬ (1 ≤ L.length ∧ L.length ≤ 64 ∧ 0 ≤ lk ∧ 0 ≤ uk ∧ lk < L.length ∧ uk < L.length) → K (.bool false) H := fun h => by
  have : codeR rI L lk uk = false := by unfold codeR; rw [decide_eq_false h]; rfl
  rwa [this] at hK
 by_cases c1 : 1 ≤ L.length
 case neg =>
  have c2 : L.length = 0 := by omega
  simp (maxSteps := 2000000) (implicitDefEqProofs := false) [-getElem?_pos,-getElem?_neg,c2]
  exact bad (by omega)
 have c1' : ¬ (L.length : Int) < 1 := by omega
 by_cases c3 : L.length ≤ 64
 case neg =>
  have c4 : (64 : Int) < L.length := by omega
  have c5 : 64 < L.length := by omega
  simp (maxSteps := 2000000) (implicitDefEqProofs := false) [-getElem?_pos, -getElem?_neg, c1', c4, c5]
  exact bad (by omega)
 have c4 : ¬ (64 : Int) < L.length := by omega
 have c5 : ¬ 64 < L.length := by omega
 have c6 : ¬ L.length = 0 := by omega
 by_cases c7 : min lk uk < 0
 ·simp (maxSteps := 2000000) (implicitDefEqProofs := false) [-getElem?_pos, -getElem?_neg, c1', c4, c5, c6, c7]
  exact bad (by omega)
 by_cases c8 : (L.length : Int) ≤ max lk uk
 ·simp (maxSteps := 2000000) (implicitDefEqProofs := false) [-getElem?_pos, -getElem?_neg, c1', c4, c5, c6, c7, c8]
  exact bad (by omega)
 have ok : 1 ≤ L.length ∧ L.length ≤ 64 ∧ 0 ≤ lk ∧ 0 ≤ uk ∧ lk < L.length ∧ uk < L.length := by omega
 have e : codeR rI L lk uk = L.all fun i => rI i L.length := by unfold codeR; rw [decide_eq_true ok]; rfl
 rw [e] at hK
 cases r with
 | none h1 h2 h3 => omega
 | row b cap X h1 h2 h3 =>
  obtain ⟨rfl,rfl⟩ : A = some ⟨b,0,none⟩ ∧ C = cap := by simpa using h1
  simp (maxSteps := 2000000) (implicitDefEqProofs := false) [-getElem?_pos, -getElem?_neg, c1', c4, c5, c6, c7, c8]
  refine rcont_ ir hks hL (bn := H.length + 1) (by rw [HA.1]; rfl) (getA h2 _) h3 ?_
  simp (maxSteps := 2000000) (implicitDefEqProofs := false) [-getElem?_pos,-getElem?_neg]
  exact hK
end Ex
end Go.Proofs.Ytongllppbifiaaa
namespace Go.Proofs.Ytongllppbifiaaa
namespace Ex
set_option linter.unusedVariables false
set_option linter.unusedSimpArgs false
structure Has where
 d : Bool
 s : Bool
 t : Bool
 u : Bool
 a : Bool
 lo : Nat
 hi : Nat
 to : Nat
def hasI (op : Int) : Option Has :=
 if op = 1 then some ⟨true,false,false,false,false,0,4294967295,0⟩
 else if op = 2 then some ⟨true,true,false,false,false,0,0,0⟩
 else if op = 3 then some ⟨true,true,false,false,false,0,4294967295,0⟩
 else if op = 4 then some ⟨true,true,false,false,false,0,4294967295,0⟩
 else if op = 5 then some ⟨true,true,false,false,false,0,31,0⟩
 else if op = 6 then some ⟨true,true,false,false,false,0,31,0⟩
 else if op = 7 then some ⟨true,true,true,false,false,0,0,0⟩
 else if op = 8 then some ⟨false,true,true,false,false,0,0,1⟩
 else if op = 9 then some ⟨false,true,true,false,false,0,0,1⟩
 else if op = 10 then some ⟨false,false,false,false,false,0,0,1⟩
 else if op = 11 then some ⟨true,false,false,false,false,0,0,0⟩
 else if op = 12 then some ⟨false,false,false,false,false,1,4,0⟩
 else if op = 13 then some ⟨false,false,false,false,false,0,3,0⟩
 else if op = 16 then some ⟨true,true,false,false,true,0,0,0⟩
 else if op = 17 then some ⟨false,true,true,false,true,0,0,0⟩
 else if op = 18 then some ⟨true,true,true,false,true,0,0,0⟩
 else if op = 19 then some ⟨true,true,true,true,true,0,0,0⟩
 else if op = 20 then some ⟨true,true,false,false,true,0,4294967295,0⟩
 else if op = 21 then some ⟨true,true,true,false,true,0,1,2⟩
 else if op = 22 then some ⟨true,false,false,false,false,0,0,0⟩
 else if op = 23 then some ⟨false,true,false,false,false,0,0,0⟩
 else none
def fieldOk (b : Bool) (x : Int) : Bool := if b then decide (0 ≤ x ∧ x < 8) else decide (x = 0)
def rightI (i : In) (n : Nat) : Bool := match hasI i.op with
 | none => false
 | some h => fieldOk h.d i.d && fieldOk h.s i.s && fieldOk h.t i.t && fieldOk h.u i.u && fieldOk h.a i.a && decide (h.lo ≤ i.k ∧ i.k ≤ h.hi)
  && (if h.to = 1 then decide (0 ≤ i.to ∧ i.to < n) else if h.to = 2 then decide (-1 ≤ i.to ∧ i.to < n) else decide (i.to = 0))
theorem fieldOk_r {b : Bool} {x : Int} (h : fieldOk b x = true) : 0 ≤ x ∧ x < 8 := by
 unfold fieldOk at h
 split at h
 ·simpa using h
 ·have : x = 0 := by simpa using h
  omega
theorem ite_some {c : Prop} [Decidable c] {a h : Has} {r : Option Has} (e : (if c then some a else r) = some h) : (c ∧ a = h) ∨ r = some h := by
 by_cases hc : c
 ·rw [if_pos hc] at e
  exact .inl ⟨hc,Option.some.inj e⟩
 ·rw [if_neg hc] at e
  exact .inr e
theorem hasI_op {op : Int} {h : Has} (e : hasI op = some h) : (1 ≤ op ∧ op ≤ 23 ∧ op ≠ 14 ∧ op ≠ 15) ∧ (op = 5 ∨ op = 6 → h.hi = 31) := by
 unfold hasI at e
 iterate 21
  rcases ite_some e with ⟨rfl,rfl⟩ | e
  ·exact ⟨by decide,by decide⟩
 cases e
theorem rightI_ok {i : In} {n : Nat} (h : rightI i n = true) (hk : i.k < 4294967296) : i.Ok := by
 unfold rightI at h
 cases e : hasI i.op with
 | none => rw [e] at h; cases h
 | some x =>
  rw [e] at h
  simp only [Bool.and_eq_true] at h
  obtain ⟨⟨⟨⟨⟨⟨h1,h2⟩,h3⟩,h4⟩,h5⟩,h6⟩,h7⟩ := h
  obtain ⟨ho,hs⟩ := hasI_op e
  have h6' : x.lo ≤ i.k ∧ i.k ≤ x.hi := by simpa using h6
  exact ⟨fieldOk_r h1,fieldOk_r h2,fieldOk_r h3,fieldOk_r h4,fieldOk_r h5,ho,hk,fun c => by have := hs c; omega⟩
end Ex
end Go.Proofs.Ytongllppbifiaaa
namespace Go.Proofs.Ytongllppbifiaaa
namespace Ex
open Go Abs Code
attribute [local simp] DN5 HA DN NB begT atHead kd wantedA evP evR evF evL evC evI evBin evUn evEq evSt evRes plain scp scpA scpL rdRow_eq RV rdCells veq veqA veqL isHole Value.cells evalL optI evBounds evFill evFillR evApp newsOf wrCells one1 fitsApp evClr undef onB_bool List.getElem?_concat_length List.getElem?_cons_zero List.getElem?_cons_succ List.getElem?_toArray List.getElem?_nil List.set_cons_zero List.set_cons_succ List.cons_append List.nil_append
set_option linter.unusedVariables false
set_option linter.unusedSimpArgs false
set_option maxRecDepth 100000
set_option maxHeartbeats 2000000 in
theorem pnewBad_ {n each : Int} (h : ¬ (1 ≤ n ∧ n ≤ 64 ∧ 0 ≤ each ∧ each ≤ 8)) {H : AH} {K : Value → AH → Prop} (hK : K (.tuple #[.pointer none,.int .i64 1]) H) : AC Try.prog 22 [.int .i64 n,.int .i64 each] H K := by
 refine AC.clean ?_
 refine entry hmix cf22 ?_
 by_cases c1 : n < 1
 ·simp (maxSteps := 2000000) (implicitDefEqProofs := false) [-getElem?_pos,-getElem?_neg,c1]
  exact hK
 by_cases c2 : 64 < n
 ·simp (maxSteps := 2000000) (implicitDefEqProofs := false) [-getElem?_pos,-getElem?_neg,c1,c2]
  exact hK
 by_cases c3 : each < 0
 ·simp (maxSteps := 2000000) (implicitDefEqProofs := false) [-getElem?_pos,-getElem?_neg,c1,c2,c3]
  exact hK
 by_cases c4 : 8 < each
 ·simp (maxSteps := 2000000) (implicitDefEqProofs := false) [-getElem?_pos,-getElem?_neg,c1,c2,c3,c4]
  exact hK
 exact absurd (by omega) h
end Ex
end Go.Proofs.Ytongllppbifiaaa
