import Derived.Test.YtongllppbifiaaaW36
import Derived.Test.YtongllppbifiaaaW37
namespace Go.Proofs.Ytongllppbifiaaa
namespace Ex
open Go Abs Code
open Px (natV natV_length natV_get VecV nm u32w i64w PS poolB outG Own New newP pnewG OkP)
attribute [local simp] DN5 HA DN NB begT atHead kd wantedA evP evR evF evL evC evI evBin evUn evEq evSt evRes plain scp scpA scpL rdRow_eq RV rdCells veq veqA veqL isHole Value.cells evalL optI evBounds evFill evFillR evApp newsOf wrCells one1 fitsApp evClr undef onB_bool List.getElem?_concat_length List.getElem?_cons_zero List.getElem?_cons_succ List.getElem?_toArray List.getElem?_nil List.set_cons_zero List.set_cons_succ List.cons_append List.nil_append
set_option linter.unusedVariables false
set_option linter.unusedSimpArgs false
set_option maxRecDepth 100000
inductive VecN (es : Nat) (g : AH) (v : Value) (n : Nat) (l : List Value) (e : TypeId) : Prop
 | nil : n = 0 → l = [] → v = .slice none 0 0 → VecN es g v n l e
 | row (b : Nat) : 0 < n → l.length = n * es → v = .slice (some ⟨b,0,none⟩) n (OPEN + n) → g[b]? = some (.cells l e (some es)) → VecN es g v n l e
theorem VecN.keep {es : Nat} {g g' : AH} {v : Value} {n : Nat} {l : List Value} {e : TypeId} (h : VecN es g v n l e) (hk : ∀ c ∈ nm v,c < g.length → g'[c]? = g[c]?) : VecN es g' v n l e := by
 cases h with
 | nil h1 h2 h3 => exact .nil h1 h2 h3
 | row b h1 h2 h3 h4 =>
  subst h3
  exact .row b h1 h2 rfl (by rw [hk b (by simp [nm]) (lt_get h4)]; exact h4)
theorem VecN.lt {es : Nat} {g : AH} {v : Value} {n : Nat} {l : List Value} {e : TypeId} (h : VecN es g v n l e) : ∀ c ∈ nm v,c < g.length := by
 cases h with
 | nil h1 h2 h3 => subst h3; simp [nm]
 | row b h1 h2 h3 h4 => subst h3; simp [nm]; exact lt_get h4
theorem VecN.form {es : Nat} {g : AH} {v : Value} {n : Nat} {l : List Value} {e : TypeId} (h : VecN es g v n l e) : ∃ A C,v = .slice A n C := by
 cases h with
 | nil h1 h2 h3 => exact ⟨none,0,by rw [h1]; exact h3⟩
 | row b h1 h2 h3 h4 => exact ⟨_,_,h3⟩
theorem VecN.one1 {es : Nat} {g : AH} {v : Value} {n : Nat} {l : List Value} {e : TypeId} (h : VecN es g v n l e) : Abs.one1 v = true := by
 obtain ⟨A,C,rfl⟩ := h.form
 rfl
structure AppN (es : Nat) (G : AH) (v : Value) (n : Nat) (l u : List Value) (m : Nat) (e : TypeId) (bytes : Nat) (x0 : Value) (G' : AH) : Prop where
 run : ∀ (t : T) (s x : Operand),evalO t s = some v → evalO t x = some x0 → evApp t G e es bytes s x = some (.slice (some ⟨G.length,0,none⟩) (n + m) (OPEN + (n + m)),G')
 vec : VecN es G' (.slice (some ⟨G.length,0,none⟩) (n + m) (OPEN + (n + m))) (n + m) (l ++ u) e
 len : G'.length = G.length + 1
 keep : ∀ c,c < G.length → c ∉ nm v → G'[c]? = G[c]?
theorem VecN.app {es : Nat} {G : AH} {v : Value} {n : Nat} {l : List Value} {e : TypeId} (h : VecN es G v n l e) (he : 0 < es) {xb m c : Nat} {u : List Value} (hm : 0 < m) (hu : rdCells G xb 0 (m * es) = some u) (hul : u.length = m * es) (hone : u.all Abs.one1 = true) {bytes : Nat} (hn : n + m ≤ 100000) (hb : bytes ≤ 1000) :
  ∃ G', AppN es G v n l u m e bytes (.slice (some ⟨xb, 0, none⟩) m c) G' := by
 have hf : (n + m) * bytes ≤ 140737488355328 := by
  have := Nat.mul_le_mul hn hb
  omega
 have a0 : ¬ m = 0 := by omega
 cases h with
 | nil h1 h2 h3 =>
  subst h1 h2 h3
  refine ⟨G ++ [.cells u e (some es)],⟨fun t s x hs hx => ?_, ?_,by simp,fun c hc _ => List.getElem?_append_left hc⟩⟩
  ·have a1 : m * bytes ≤ 140737488355328 := by simpa using hf
   have a2 : m ≤ 4294967296 := by omega
   have h5 : newsOf t G es x = some (m,u) := by
    unfold newsOf
    rw [hx]
    simp only [hu,hone,if_true]
   unfold evApp
   rw [hs,h5]
   simp [a0,fitsApp,he,a1,a2]
  ·exact .row G.length (by omega) (by simpa using hul) (by simp) (by simp)
 | row b h1 h2 h3 h4 =>
  subst h3
  have hbl := lt_get h4
  refine ⟨G.set b .dead ++ [.cells (l ++ u) e (some es)],⟨fun t s x hs hx => ?_, ?_,by simp,fun c hc hne => ?_⟩⟩
  ·have a3 : ¬ OPEN + n < OPEN := by omega
   have a6 : n + m ≤ 4294967296 := by omega
   have a8 : ¬ n + m ≤ n := by omega
   have h5 : newsOf t G es x = some (m,u) := by
    unfold newsOf
    rw [hx]
    simp only [hu,hone,if_true]
   unfold evApp
   rw [hs,h5]
   have a9 : List.take (n * es) l = l := List.take_of_length_le (by omega)
   simp [a0,fitsApp,he,hf,a6,a3,a8,capLow,h4,h2,a9]
  ·refine .row G.length (by omega) (by rw [List.length_append,h2,hul,Nat.add_mul]) rfl ?_
   rw [List.getElem?_append_right (by simp)]
   simp
  ·have hne2 : b ≠ c := by
    rintro rfl
    exact hne (by simp [nm])
   rw [List.getElem?_append_left (by simpa using hc),List.getElem?_set_ne hne2]
set_option maxHeartbeats 2000000 in
theorem l6ref_ (i : In) {H : AH} {K : Value → AH → Prop} (hK : K i.v H) : AC Try.prog 43 [i.v] H K := by
 refine AC.clean ?_
 refine entry hmix cf43 ?_
 unfold In.v In.vs
 simp (maxSteps := 2000000) (implicitDefEqProofs := false) [-getElem?_pos,-getElem?_neg,splice_more]
 exact hK
structure L7 where
 k : Nat
 g : AH
 v : Value
def l7I (H : AH) (lk uk : Int) (L : List In) (s : L7) : Prop :=
 s.k ≤ L.length ∧ Ext H s.g ∧ s.g[H.length + 2]? = some (.cells [s.v,.int .i64 lk,.int .i64 uk] 34 none) ∧ s.g[H.length + 1]? = some (.cells [.slice none 0 0,.int .i64 0,.int .i64 0] 34 none) ∧ VecN 8 s.g s.v s.k (rowI (L.take s.k)) 102 ∧ ∀ c ∈ nm s.v,H.length + 3 ≤ c
def l7T (n : Nat) (vL : Value) (N : Nat) (s : L7) : List (Nat × Value) := [(2,.pointer (some ⟨n + 1,0,none⟩)),(3,.pointer (some ⟨n + 2,0,none⟩)),(12,vL),(13,.int .i64 N),(14,.int .i64 s.k)]
set_option maxHeartbeats 4000000 in
theorem l7ref_ {H : AH} {vL : Value} {L : List In} (rL : ArgRow H vL (rowI L) L.length) (hL : L.length ≤ 1000) (lk uk : Int) {K : Value → AH → Prop} (hK : ∀ g v,Ext H g → VecN 8 g v L.length (rowI L) 102 → (∀ c ∈ nm v,H.length ≤ c) → K (.agg #[v,.int .i64 lk,.int .i64 uk]) g) : AC Try.prog 21 [.agg #[vL,.int .i64 lk,.int .i64 uk]] H K := by
 refine entry hmix cf21 ?_
 obtain ⟨A,C,rfl⟩ := rL.form
 simp (maxSteps := 2000000) (implicitDefEqProofs := false) [-getElem?_pos,-getElem?_neg,splice_more]
 have key := fun T0 Q e1 e2 hr => loop5 (P := Try.prog) (m := H.length) hmix (ac := lp21_0) 27 (l7I H lk uk L) (fun s => L.length - s.k) (l7T H.length (.slice A L.length C) L.length) (fun s => s.g) ⟨0,H ++ [.cells [.slice A L.length C,.int .i64 lk,.int .i64 uk] 24 none,.cells [.slice none 0 0,.int .i64 0,.int .i64 0] 34 none,.cells [.slice none 0 0,.int .i64 lk,.int .i64 uk] 34 none],.slice none 0 0⟩ ⟨Nat.zero_le _,Ext.app _ _,by rw [HA.1]; rfl,by rw [HA.1]; rfl,.nil rfl rfl rfl,fun c hc => by cases hc⟩ rfl (t := T0) (Q := Q) e1 e2 hr
 refine key _ _ rfl (by simp [List.forall_mem_cons,GB,l7T]) ?_
 clear key
 rintro ⟨k,g,v⟩ ⟨hk,xg,h3,h2,hv,hnm⟩ _ _ _
 simp only at hk xg h3 h2 hv hnm
 by_cases hlt : k < L.length
 case neg =>
  obtain rfl : k = L.length := by omega
  rw [List.take_length] at hv
  obtain ⟨A2,C2,rfl⟩ := hv.form
  have f1 : ∀ X,(g.set (H.length + 1) X)[H.length + 1]? = some X := fun X => List.getElem?_set_self (lt_get h2)
  simp (maxSteps := 2000000) (implicitDefEqProofs := false) [-getElem?_pos,-getElem?_neg,l7T,lp21_0,h3,h2,splice_more,f1]
  refine hK _ _ (xg.set (by omega) _) (hv.keep fun c hc _ => ?_) (fun c hc => by have := hnm c hc; omega)
  have := hnm c hc
  rw [List.getElem?_set_ne (by omega)]
 obtain ⟨i,hi⟩ : ∃ i,L[k]? = some i := ⟨_,List.getElem?_eq_getElem hlt⟩
 have hrd := rowI_at hi
 have hfit : k * 8 + 8 ≤ (rowI L).length := by rw [rowI_length]; omega
 have hlt' : (k : Int) < L.length := by omega
 have w2 : IntKind.i64.wrap ((k : Int) + 1) = (k : Int) + 1 := IntWalk.i64_in _ (by omega)
 have htk : rowI (L.take (k + 1)) = rowI (L.take k) ++ i.vs := by
  rw [List.take_add_one,hi]
  simp [rowI]
 cases rL with
 | none h1 h2 h3 => omega
 | row b cap X hb1 hb2 hb3 =>
  obtain ⟨rfl,rfl⟩ : A = some ⟨b,0,none⟩ ∧ C = cap := by simpa using hb1
  have hg : g[b]? = some X := xg.get hb2
  have hg3 : ∀ tl,(g ++ tl)[H.length + 2]? = _ := fun tl => getA h3 tl
  have hv2 : VecN 8 (g ++ [.cells i.vs 55 none,.cells i.vs 102 none]) v k (rowI (L.take k)) 102 := hv.keep fun c hc hl => List.getElem?_append_left hl
  obtain ⟨G', ap⟩ := hv2.app (xb := g.length + 1) (m := 1) (c := 1) (u := i.vs) (by omega) (by omega) (by simp [rdCells, rdRow_eq, HA.1, rowVs, In.vs]) rfl rfl (bytes := 64) (by omega) (by omega)
  have hrun := ap.run
  have hl2 : (g ++ [ABlk.cells i.vs 55 none,.cells i.vs 102 none]).length = g.length + 2 := by simp
  rw [hl2] at hrun
  have hvs : Abs.one1 v = true := hv.one1
  obtain ⟨A2,C2,rfl⟩ := hv.form
  unfold In.vs at hrd hrun
  simp (maxSteps := 2000000) (implicitDefEqProofs := false) [-getElem?_pos, -getElem?_neg, l7T, lp21_0, hlt, hlt', hg, hb3, hrd, hfit, splice_more, hg3]
  refine l6ref_ i ?_
  unfold In.v In.vs
  have hlt3 := lt_get h3
  have hG3 : G'[H.length + 2]? = some (.cells [.slice A2 k C2,.int .i64 lk,.int .i64 uk] 34 none) := by
   rw [ap.keep _ (by simp; omega) (fun hm => by have := hnm _ hm; omega)]
   exact hg3 _
  simp (maxSteps := 2000000) (implicitDefEqProofs := false) [-getElem?_pos,-getElem?_neg,-evApp,-newsOf,hrun,hg3,hG3,w2]
  have hG2 : G'[H.length + 1]? = some (.cells [.slice none 0 0,.int .i64 0,.int .i64 0] 34 none) := by
   rw [ap.keep _ (by simp; omega) (fun hm => by have := hnm _ hm; omega)]
   exact getA h2 _
  have apl : G'.length = g.length + 3 := by have := ap.len; simpa using this
  have apv := ap.vec
  rw [hl2,← htk] at apv
  refine next5.intro ⟨k + 1,_,.slice (some ⟨g.length + 2,0,none⟩) (k + 1) (OPEN + (k + 1))⟩ (by simp only; omega) ⟨by simp only; omega, ?_, ?_, ?_, ?_, ?_⟩ rfl rfl (by simp [List.forall_mem_cons,GB,l7T])
  ·refine Ext.set ⟨by have := xg.len; omega,fun c hc => ?_⟩ (by omega) _
   rw [ap.keep c (by have := xg.len; simp; omega) (fun hm => by have := hnm _ hm; omega),List.getElem?_append_left (by have := xg.len; omega),xg.keep c hc]
  ·exact List.getElem?_set_self (lt_get hG3)
  ·rw [List.getElem?_set_ne (by omega)]
   exact hG2
  ·refine apv.keep fun c hc _ => ?_
   simp [nm] at hc
   rw [List.getElem?_set_ne (by omega)]
  ·intro c hc
   simp [nm] at hc
   omega
end Ex
end Go.Proofs.Ytongllppbifiaaa
namespace Go.Proofs.Ytongllppbifiaaa
namespace Ex
open Go Abs Code
open Px (natV natV_length natV_get VecV nm u32w i64w PS poolB outG Own New newP pnewG OkP)
attribute [local simp] DN5 HA DN NB begT atHead kd wantedA evP evR evF evL evC evI evBin evUn evEq evSt evRes plain scp scpA scpL rdRow_eq RV rdCells veq veqA veqL isHole Value.cells evalL optI evBounds evFill evFillR evApp newsOf wrCells one1 fitsApp evClr undef onB_bool List.getElem?_concat_length List.getElem?_cons_zero List.getElem?_cons_succ List.getElem?_toArray List.getElem?_nil List.set_cons_zero List.set_cons_succ List.cons_append List.nil_append
set_option linter.unusedVariables false
set_option linter.unusedSimpArgs false
set_option maxRecDepth 100000
theorem VecN.arg {es : Nat} {g : AH} {v : Value} {n : Nat} {l : List Value} {e : TypeId} (h : VecN es g v n l e) : ArgRow g v l n := by
 cases h with
 | nil h1 h2 h3 => exact .none h2 h1 (.inl h3)
 | row b h1 h2 h3 h4 => exact .row b _ _ h3 h4 rfl
def cellsF : Nat → List Nat → List (Nat × Nat)
 | _,[] => []
 | a,n :: ns => (List.range n).map (fun p => (a,p)) ++ cellsF (a + 1) ns
theorem cellsF_append : ∀ (xs ys : List Nat) (a : Nat),cellsF a (xs ++ ys) = cellsF a xs ++ cellsF (a + xs.length) ys
 | [],ys,a => by simp [cellsF]
 | x :: xs,ys,a => by
  have e : a + (xs.length + 1) = a + 1 + xs.length := by omega
  simp only [List.cons_append,cellsF,cellsF_append xs ys (a + 1),List.append_assoc,List.length_cons,e]
theorem cellsF_length : ∀ (ns : List Nat) (a : Nat),(cellsF a ns).length = ns.sum
 | [],a => rfl
 | n :: ns,a => by simp [cellsF,cellsF_length ns]
theorem cellsF_get : ∀ (ns : List Nat) (a0 x a p : Nat),(cellsF a0 ns)[x]? = some (a,p) ↔ ∃ j n,a = a0 + j ∧ ns[j]? = some n ∧ p < n ∧ x = (ns.take j).sum + p
 | [],a0,x,a,p => by simp [cellsF]
 | n :: ns,a0,x,a,p => by
  unfold cellsF
  by_cases hx : x < n
  ·rw [List.getElem?_append_left (by simpa using hx)]
   constructor
   ·intro h
    rw [List.getElem?_map,List.getElem?_range hx] at h
    injection h with h
    injection h with h1 h2
    subst h1 h2
    exact ⟨0,n,by omega,rfl,hx,by simp⟩
   ·rintro ⟨j,m,h1,h2,h3,h4⟩
    cases j with
    | zero =>
     simp at h2 h4
     subst h2 h4 h1
     rw [List.getElem?_map,List.getElem?_range hx]
     rfl
    | succ j =>
     rw [List.take_succ_cons,List.sum_cons] at h4
     omega
  ·rw [List.getElem?_append_right (by simpa using hx),List.length_map,List.length_range,cellsF_get ns (a0 + 1) (x - n) a p]
   constructor
   ·rintro ⟨j,m,h1,h2,h3,h4⟩
    exact ⟨j + 1,m,by omega,by simpa using h2,h3,by rw [List.take_succ_cons,List.sum_cons]; omega⟩
   ·rintro ⟨j,m,h1,h2,h3,h4⟩
    cases j with
    | zero =>
     simp at h2 h4
     omega
    | succ j =>
     rw [List.take_succ_cons,List.sum_cons] at h4
     exact ⟨j,m,by omega,by simpa using h2,h3,by omega⟩
def rowP (ps : List (Nat × Nat)) : List Value := ps.flatMap fun p => [.int .i64 (p.1 : Int),.int .i64 (p.2 : Int)]
theorem rowP_length (ps : List (Nat × Nat)) : (rowP ps).length = ps.length * 2 := by
 induction ps with
 | nil => rfl
 | cons p ps ih => simp [rowP] at ih ⊢; omega
theorem rowP_append (a b : List (Nat × Nat)) : rowP (a ++ b) = rowP a ++ rowP b := by simp [rowP]
theorem rowP_at {ps : List (Nat × Nat)} {k : Nat} {p : Nat × Nat} (h : ps[k]? = some p) : ((rowP ps).drop (k * 2)).take 2 = [.int .i64 (p.1 : Int),.int .i64 (p.2 : Int)] := by
 induction ps generalizing k with
 | nil => simp at h
 | cons q ps ih =>
  cases k with
  | zero => simp at h; subst h; rfl
  | succ k =>
   rw [show (k + 1) * 2 = k * 2 + 2 by omega]
   exact ih (by simpa using h)
def okZ (zs : List Int) : Prop := zs.length ≤ 8 ∧ ∀ z ∈ zs,0 ≤ z ∧ z ≤ 4096
structure C9 where
 k : Nat
 p : Nat
 g : AH
 v : Value
def c9I (H : AH) (zs : List Int) (s : C9) : Prop :=
 s.k ≤ zs.length ∧ Ext H s.g ∧ (∀ z ∈ zs.take s.k,0 ≤ z ∧ z ≤ 4096) ∧ VecN 2 s.g s.v ((zs.take s.k).map Int.toNat).sum (rowP (cellsF 0 ((zs.take s.k).map Int.toNat))) 111 ∧ ∀ c ∈ nm s.v,H.length ≤ c
def c9T (vz : Value) (N : Nat) (s : C9) : List (Nat × Value) := [(4,s.v),(11,vz),(12,.int .i64 N),(13,.int .i64 s.k)]
def c9J (H : AH) (zs : List Int) (k n : Nat) (s : C9) : Prop :=
 s.p ≤ n ∧ Ext H s.g ∧ VecN 2 s.g s.v (((zs.take k).map Int.toNat).sum + s.p) (rowP (cellsF 0 ((zs.take k).map Int.toNat) ++ (List.range s.p).map (fun p => (k,p)))) 111 ∧ ∀ c ∈ nm s.v,H.length ≤ c
def c9U (vz : Value) (N k n : Nat) (s : C9) : List (Nat × Value) := [(4,s.v),(5,.int .i64 k),(6,.int .i64 n),(7,.int .i64 s.p),(11,vz),(12,.int .i64 N),(13,.int .i64 k)]
set_option maxHeartbeats 4000000 in
theorem r9cells_ {H : AH} {vz : Value} {zs : List Int} (rz : ArgRow H vz (intV zs) zs.length) (hz : zs.length ≤ 1000) {K : Value → AH → Prop} (hB : ¬ okZ zs → ∀ g,Ext H g → K (.tuple #[.slice none 0 0,.bool false]) g)
  (hO : okZ zs → ∀ g v,Ext H g → VecN 2 g v (zs.map Int.toNat).sum (rowP (cellsF 0 (zs.map Int.toNat))) 111 → (∀ c ∈ nm v,H.length ≤ c) → K (.tuple #[v,.bool (decide ((zs.map Int.toNat).sum ≤ 8192))]) g) : AC Try.prog 19 [vz] H K := by
 refine entry hmix cf19 ?_
 obtain ⟨A,C,rfl⟩ := rz.form
 by_cases c1 : 8 < zs.length
 ·have c1' : (8 : Int) < zs.length := by omega
  simp (maxSteps := 2000000) (implicitDefEqProofs := false) [-getElem?_pos,-getElem?_neg,c1,c1']
  exact hB (fun o => by have := o.1; omega) H (Ext.refl H)
 have c1' : ¬ (8 : Int) < zs.length := by omega
 simp (maxSteps := 2000000) (implicitDefEqProofs := false) [-getElem?_pos,-getElem?_neg,c1,c1']
 have key := fun T0 Q e1 e2 hr => loop5 (P := Try.prog) (m := H.length) hmix (ac := lp19_0) 40 (c9I H zs) (fun s => zs.length - s.k) (c9T (.slice A zs.length C) zs.length) (fun s => s.g) ⟨0,0,H,.slice none 0 0⟩ ⟨Nat.zero_le _,Ext.refl H,by simp,.nil rfl rfl rfl,fun c hc => by cases hc⟩ rfl (t := T0) (Q := Q) e1 e2 hr
 refine key _ _ rfl (by simp [List.forall_mem_cons,GB,c9T]) ?_
 clear key
 rintro ⟨k,_,g,v⟩ ⟨hk,xg,hok,hv,hnm⟩ _ _ _
 simp only at hk xg hok hv hnm
 by_cases hlt : k < zs.length
 case neg =>
  obtain rfl : k = zs.length := by omega
  rw [List.take_length] at hv hok
  obtain ⟨A2,C2,rfl⟩ := hv.form
  have hOk := hO ⟨by omega,hok⟩ g _ xg hv hnm
  by_cases c3 : (zs.map Int.toNat).sum ≤ 8192
  ·have c3' : (((zs.map Int.toNat).sum : Nat) : Int) ≤ 8192 := by omega
   rw [decide_eq_true c3] at hOk
   simp (maxSteps := 2000000) (implicitDefEqProofs := false) [-getElem?_pos,-getElem?_neg,c9T,lp19_0,c3,c3']
   exact hOk
  ·have c3' : ¬ (((zs.map Int.toNat).sum : Nat) : Int) ≤ 8192 := by omega
   rw [decide_eq_false c3] at hOk
   simp (maxSteps := 2000000) (implicitDefEqProofs := false) [-getElem?_pos,-getElem?_neg,c9T,lp19_0,c3,c3']
   exact hOk
 have hlt' : (k : Int) < zs.length := by omega
 cases rz with
 | none h1 h2 h3 => omega
 | row b cap X h1 h2 hX =>
  obtain ⟨rfl,rfl⟩ : A = some ⟨b,0,none⟩ ∧ C = cap := by simpa using h1
  have hbG : g[b]? = some X := xg.get h2
  obtain ⟨z,hz1⟩ : ∃ z,zs[k]? = some z := ⟨_,List.getElem?_eq_getElem hlt⟩
  have hzv : (intV zs)[k]? = some (.int .i64 z) := by simp [intV,hz1]
  have hfit : k + 1 ≤ (intV zs).length := by simp [intV]; omega
  by_cases c4 : z < 0
  ·simp (maxSteps := 2000000) (implicitDefEqProofs := false) [-getElem?_pos, -getElem?_neg, c9T, lp19_0, hlt, hlt', hbG, hX, hzv, hfit, c4]
   exact hB (fun o => by have := o.2 z (List.mem_of_getElem? hz1); omega) g xg
  by_cases c5 : 4096 < z
  ·simp (maxSteps := 2000000) (implicitDefEqProofs := false) [-getElem?_pos, -getElem?_neg, c9T, lp19_0, hlt, hlt', hbG, hX, hzv, hfit, c4, c5]
   exact hB (fun o => by have := o.2 z (List.mem_of_getElem? hz1); omega) g xg
  obtain ⟨n,rfl⟩ : ∃ n : Nat,z = n := ⟨z.toNat,by omega⟩
  obtain ⟨A2,C2,hvf⟩ := hv.form
  have hone := hv.one1
  simp (maxSteps := 2000000) (implicitDefEqProofs := false) [-getElem?_pos, -getElem?_neg, c9T, lp19_0, hlt, hlt', hbG, hX, hzv, hfit, c4, c5]
  have hnsum : ((zs.take k).map Int.toNat).sum ≤ k * 4096 := by
   have h2 : ∀ l : List Int,(∀ z ∈ l,0 ≤ z ∧ z ≤ 4096) → (l.map Int.toNat).sum ≤ l.length * 4096 := by
    intro l hl
    induction l with
    | nil => simp
    | cons a l ih =>
     have := hl a List.mem_cons_self
     have := ih fun z hz => hl z (List.mem_cons_of_mem _ hz)
     simp only [List.map_cons,List.sum_cons,List.length_cons]
     omega
   have := h2 _ hok
   rw [List.length_take,Nat.min_eq_left hk] at this
   exact this
  have hn : n ≤ 4096 := by omega
  have key := fun T0 Q e1 e2 hr => loop5 (P := Try.prog) (m := H.length) hmix (ac := lp19_1) 40 (c9J H zs k n) (fun s => n - s.p) (c9U (.slice (some ⟨b,0,none⟩) zs.length C) zs.length k n) (fun s => s.g) ⟨k,0,g,v⟩ ⟨Nat.zero_le _,xg,by simpa using hv,hnm⟩ rfl (t := T0) (Q := Q) e1 e2 hr
  refine key _ _ rfl (by simp [List.forall_mem_cons,GB,c9U]) ?_
  clear key
  rintro ⟨_,p,g2,v2⟩ ⟨hp,xg2,hv2,hnm2⟩ _ _ _
  simp only at hp xg2 hv2 hnm2
  by_cases hpl : p < n
  case neg =>
   obtain rfl : p = n := by omega
   have w2 : IntKind.i64.wrap ((k : Int) + 1) = (k : Int) + 1 := IntWalk.i64_in _ (by omega)
   have c6 : ¬ (p : Int) < p := by omega
   have e1 : (zs.take (k + 1)).map Int.toNat = (zs.take k).map Int.toNat ++ [p] := by
    rw [List.take_add_one,hz1]
    simp
   have e2 : cellsF 0 ((zs.take (k + 1)).map Int.toNat) = cellsF 0 ((zs.take k).map Int.toNat) ++ (List.range p).map (fun q => (k,q)) := by
    rw [e1,cellsF_append]
    have : 0 + ((zs.take k).map Int.toNat).length = k := by simp; omega
    rw [this]
    simp [cellsF]
   have e3 : ((zs.take (k + 1)).map Int.toNat).sum = ((zs.take k).map Int.toNat).sum + p := by rw [e1]; simp
   simp (maxSteps := 2000000) (implicitDefEqProofs := false) [-getElem?_pos,-getElem?_neg,c9U,lp19_1,c6,w2]
   refine next5.intro ⟨k + 1,0,g2,v2⟩ (by simp only; omega) ⟨by simp only; omega,xg2, ?_, ?_,hnm2⟩ rfl rfl (by simp [List.forall_mem_cons,GB,c9T])
   ·intro y hy
    rw [List.take_add_one,hz1] at hy
    simp only [Option.toList,List.mem_append,List.mem_singleton] at hy
    rcases hy with hy | rfl
    ·exact hok y hy
    ·omega
   ·rw [e2,e3]
    exact hv2
  have hpl' : (p : Int) < n := by omega
  have hv3 : VecN 2 (g2 ++ [.cells [.int .i64 (k : Int),.int .i64 (p : Int)] 111 none]) v2 _ _ 111 := hv2.keep fun c hc hl => List.getElem?_append_left hl
  obtain ⟨G', ap⟩ := hv3.app (xb := g2.length) (m := 1) (c := 1) (u := [.int .i64 (k : Int), .int .i64 (p : Int)]) (by omega) (by omega) (by simp [rdCells, rdRow_eq, rowVs]) rfl rfl (bytes := 16) (by omega) (by omega)
  have hrun := ap.run
  have hl2 : (g2 ++ [ABlk.cells [.int .i64 (k : Int),.int .i64 (p : Int)] 111 none]).length = g2.length + 1 := by simp
  rw [hl2] at hrun
  have apv := ap.vec
  rw [hl2] at apv
  have apl := ap.len
  rw [hl2] at apl
  have w3 : IntKind.i64.wrap ((p : Int) + 1) = (p : Int) + 1 := IntWalk.i64_in _ (by omega)
  obtain ⟨A3,C3,rfl⟩ := hv2.form
  simp (maxSteps := 2000000) (implicitDefEqProofs := false) [-getElem?_pos, -getElem?_neg, c9U, lp19_1, hpl, hpl', -evApp, -newsOf, hrun, w3, splice_more]
  have lg := xg2.len
  rw [Nat.add_assoc] at apv
  refine next5.intro ⟨k, p + 1, G', .slice (some ⟨g2.length + 1, 0, none⟩) (((zs.take k).map Int.toNat).sum + (p + 1)) (OPEN + (((zs.take k).map Int.toNat).sum + (p + 1)))⟩ (by simp only; omega) ⟨by simp only; omega, ⟨by simp only; omega, fun c hc => ?_⟩, ?_, ?_⟩ rfl rfl (by simp [List.forall_mem_cons, GB, c9U, Nat.add_assoc])
  ·rw [ap.keep c (by simp; omega) (fun hm => by have := hnm2 c hm; omega),List.getElem?_append_left (by omega),xg2.keep c hc]
  ·rw [List.range_succ,List.map_append,← List.append_assoc,rowP_append]
   exact apv
  ·intro c hc
   simp [nm] at hc
   omega
def findZ (ps : List (Nat × Nat)) (a : Int) (v : Nat) : Int := match ps.findIdx? (fun p => decide ((p.1 : Int) = a ∧ p.2 = v % 4096)) with
 | some k => k
 | none => -1
end Ex
end Go.Proofs.Ytongllppbifiaaa
namespace Go.Proofs.Ytongllppbifiaaa
namespace Ex
open Go Abs Code
open Px (natV natV_length natV_get VecV nm u32w i64w PS poolB outG Own New newP pnewG OkP)
attribute [local simp] DN5 HA DN NB begT atHead kd wantedA evP evR evF evL evC evI evBin evUn evEq evSt evRes plain scp scpA scpL rdRow_eq RV rdCells veq veqA veqL isHole Value.cells evalL optI evBounds evFill evFillR evApp newsOf wrCells one1 fitsApp evClr undef onB_bool List.getElem?_concat_length List.getElem?_cons_zero List.getElem?_cons_succ List.getElem?_toArray List.getElem?_nil List.set_cons_zero List.set_cons_succ List.cons_append List.nil_append
set_option linter.unusedVariables false
set_option linter.unusedSimpArgs false
set_option maxRecDepth 100000
def isAt (a : Int) (w : Nat) (p : Nat × Nat) : Prop := (p.1 : Int) = a ∧ p.2 = w % 4096
instance (a : Int) (w : Nat) (p : Nat × Nat) : Decidable (isAt a w p) := by unfold isAt; infer_instance
theorem findZ_none {ps : List (Nat × Nat)} {a : Int} {w : Nat} (h : ∀ q ∈ ps,¬ isAt a w q) : findZ ps a w = -1 := by
 unfold findZ
 have : ps.findIdx? (fun p => decide ((p.1 : Int) = a ∧ p.2 = w % 4096)) = none := by
  rw [List.findIdx?_eq_none_iff]
  intro q hq
  exact decide_eq_false (h q hq)
 rw [this]
theorem findZ_at {ps : List (Nat × Nat)} {a : Int} {w k : Nat} {p : Nat × Nat} (hp : ps[k]? = some p) (hm : isAt a w p) (h : ∀ q ∈ ps.take k,¬ isAt a w q) : findZ ps a w = k := by
 unfold findZ
 obtain ⟨hk,hpe⟩ := List.getElem?_eq_some_iff.1 hp
 have : ps.findIdx? (fun p => decide ((p.1 : Int) = a ∧ p.2 = w % 4096)) = some k := by
  rw [List.findIdx?_eq_some_iff_getElem]
  refine ⟨hk,by rw [hpe]; exact decide_eq_true hm,fun j hj => ?_⟩
  have := h ps[j] (List.mem_take_iff_getElem.2 ⟨j,by omega,rfl⟩)
  simpa [isAt] using this
 rw [this]
theorem findZ_addr (ns : List Nat) (a : Int) (w : Nat) : findZ (cellsF 0 ns) a w = match addrM ns a w with | some x => (x : Int) | none => -1 := by
 have get := fun x p => cellsF_get ns 0 x a.toNat p
 cases hm : addrM ns a w with
 | none =>
  refine findZ_none fun q hq hat => ?_
  obtain ⟨x,hx⟩ := List.getElem?_of_mem hq
  obtain ⟨qa,qp⟩ := q
  obtain ⟨h1,h2⟩ := hat
  simp only at h1 h2
  obtain ⟨j,n,e1,e2,e3,e4⟩ := (cellsF_get ns 0 x qa qp).1 hx
  unfold addrM at hm
  rw [if_neg (by omega)] at hm
  have : a.toNat = j := by omega
  rw [this,e2] at hm
  simp only at hm
  rw [if_pos (by omega)] at hm
  cases hm
 | some x =>
  unfold addrM at hm
  split at hm
  ·cases hm
  rename_i ha
  split at hm
  case h_2 => cases hm
  rename_i n hn
  split at hm
  case isFalse => cases hm
  rename_i hlt
  have hx := Option.some.inj hm
  refine findZ_at (p := (a.toNat,w % 4096)) ((cellsF_get ns 0 x _ _).2 ⟨a.toNat,n,by omega,hn,hlt,hx.symm⟩) ⟨by simp only; omega,rfl⟩ fun q hq hat => ?_
  obtain ⟨y,hy,hyq⟩ := List.mem_take_iff_getElem.1 hq
  obtain ⟨qa,qp⟩ := q
  obtain ⟨h1,h2⟩ := hat
  simp only at h1 h2
  obtain ⟨j,m,e1,e2,e3,e4⟩ := (cellsF_get ns 0 y qa qp).1 (by rw [List.getElem?_eq_getElem (by omega),hyq])
  have : a.toNat = j := by omega
  subst this
  omega
theorem Ext.out {H g : AH} (h : Ext H g) : ∃ E,g = H ++ E := by
 refine ⟨g.drop H.length,List.ext_getElem? fun c => ?_⟩
 by_cases hc : c < H.length
 ·rw [List.getElem?_append_left hc,h.keep c hc]
 ·rw [List.getElem?_append_right (by omega),List.getElem?_drop]
  congr 1
  omega
structure KE where
 k : Nat
 g : AH
def f9T (a w N : Nat) (a0 : Int) (v : Value) (s : KE) : List (Nat × Value) := [(1,.int .i64 a0),(2,.int .u32 w),(9,v),(10,.int .i64 N),(11,.int .i64 s.k)]
set_option maxHeartbeats 4000000 in
theorem r9find_ {H : AH} {v : Value} {ps : List (Nat × Nat)} (r : ArgRow H v (rowP ps) ps.length) (hps : ps.length ≤ 100000) (a : Int) (w : Nat) (hw : w < 4294967296) {K : Value → AH → Prop} (hK : K (.int .i64 (findZ ps a w)) H) : AC Try.prog 37 [v,.int .i64 a,.int .u32 w] H K := by
 refine AC.clean ?_
 refine entry hmix cf37 ?_
 obtain ⟨A,C,rfl⟩ := r.form
 simp (maxSteps := 2000000) (implicitDefEqProofs := false) [-getElem?_pos,-getElem?_neg]
 have key := fun T0 Q e1 e2 hr => loop5 (P := Try.prog) (m := H.length) hmix (ac := lp37_0) 30 (fun s : KE => s.k ≤ ps.length ∧ Ext H s.g ∧ ∀ q ∈ ps.take s.k,¬ isAt a w q) (fun s => ps.length - s.k) (f9T 0 w ps.length a (.slice A ps.length C)) (fun s => s.g) ⟨0,H⟩ ⟨Nat.zero_le _,Ext.refl H,by simp⟩ rfl (t := T0) (Q := Q) e1 e2 hr
 refine key _ _ rfl (by simp [List.forall_mem_cons,GB,f9T]) ?_
 clear key
 rintro ⟨k,g⟩ ⟨hk,xg,hno⟩ _ _ _
 simp only at hk xg hno
 obtain ⟨E,hE⟩ := xg.out
 by_cases hlt : k < ps.length
 case neg =>
  obtain rfl : k = ps.length := by omega
  rw [List.take_length] at hno
  rw [findZ_none hno] at hK
  simp (maxSteps := 2000000) (implicitDefEqProofs := false) [-getElem?_pos,-getElem?_neg,f9T,lp37_0]
  exact ⟨⟨E,hE⟩,hK⟩
 have hlt' : (k : Int) < ps.length := by omega
 cases r with
 | none h1 h2 h3 => omega
 | row b cap X h1 h2 hX =>
  obtain ⟨rfl,rfl⟩ : A = some ⟨b,0,none⟩ ∧ C = cap := by simpa using h1
  have hbG : ∀ tl,(g ++ tl)[b]? = some X := fun tl => getA (xg.get h2) tl
  have hbG0 := xg.get h2
  obtain ⟨⟨qa,qp⟩,hq⟩ : ∃ p,ps[k]? = some p := ⟨_,List.getElem?_eq_getElem hlt⟩
  have hrd := rowP_at hq
  have hfit : k * 2 + 2 ≤ (rowP ps).length := by rw [rowP_length]; omega
  have w2 : IntKind.i64.wrap ((k : Int) + 1) = (k : Int) + 1 := IntWalk.i64_in _ (by omega)
  have w3 : IntKind.i64.wrap (w : Int) = (w : Int) := IntWalk.i64_in _ (by omega)
  have w4 : Int.tmod (w : Int) 4096 = ((w % 4096 : Nat) : Int) := by rw [Int.tmod_eq_emod_of_nonneg (by omega)]; rfl
  have hstep : ¬ isAt a w (qa,qp) → ∀ q ∈ ps.take (k + 1),¬ isAt a w q := by
   intro hne q hqq
   rw [List.take_add_one,hq] at hqq
   simp only [Option.toList,List.mem_append,List.mem_singleton] at hqq
   rcases hqq with hqq | rfl
   ·exact hno q hqq
   ·exact hne
  by_cases c1 : (qa : Int) = a
  case neg =>
   have c1' : ¬ isAt a w (qa,qp) := fun h => c1 h.1
   simp (maxSteps := 2000000) (implicitDefEqProofs := false) [-getElem?_pos, -getElem?_neg, f9T, lp37_0, hlt, hlt', hbG0, hX, hrd, hfit, c1, splice_more, w2]
   exact next5.intro ⟨k + 1,_⟩ (by simp only; omega) ⟨by simp only; omega,xg.trans (Ext.app _ _),fun y z h => hstep c1' (y,z) h⟩ rfl rfl (by simp [List.forall_mem_cons,GB,f9T])
  by_cases c2 : qp = w % 4096
  ·have c2' : (qp : Int) = ((w % 4096 : Nat) : Int) := by rw [c2]
   rw [findZ_at hq ⟨c1,c2⟩ hno] at hK
   simp (maxSteps := 2000000) (implicitDefEqProofs := false) [-getElem?_pos, -getElem?_neg, f9T, lp37_0, hlt, hlt', hbG0, hX, hrd, hfit, c1, splice_more, w2, w3, w4, c2]
   subst hE
   exact ⟨⟨_,List.append_assoc _ _ _⟩,hK⟩
  ·have c2' : ¬ isAt a w (qa,qp) := fun h => c2 h.2
   have c3 : ¬ (qp : Int) = (w : Int) % 4096 := by omega
   simp (maxSteps := 2000000) (implicitDefEqProofs := false) [-getElem?_pos, -getElem?_neg, f9T, lp37_0, hlt, hlt', hbG0, hX, hrd, hfit, c1, splice_more, w2, w3, w4, c2, c3]
   exact next5.intro ⟨k + 1,_⟩ (by simp only; omega) ⟨by simp only; omega,xg.trans (Ext.app _ _),fun y z h => hstep c2' (y,z) h⟩ rfl rfl (by simp [List.forall_mem_cons,GB,f9T])
end Ex
end Go.Proofs.Ytongllppbifiaaa
namespace Go.Proofs.Ytongllppbifiaaa
namespace Ex
open Go Abs Code
open Px (natV natV_length natV_get VecV nm u32w i64w PS poolB outG Own New newP pnewG OkP)
attribute [local simp] DN5 HA DN NB begT atHead kd wantedA evP evR evF evL evC evI evBin evUn evEq evSt evRes plain scp scpA scpL rdRow_eq RV rdCells veq veqA veqL isHole Value.cells evalL optI evBounds evFill evFillR evApp newsOf wrCells one1 fitsApp evClr undef onB_bool List.getElem?_concat_length List.getElem?_cons_zero List.getElem?_cons_succ List.getElem?_toArray List.getElem?_nil List.set_cons_zero List.set_cons_succ List.cons_append List.nil_append
set_option linter.unusedVariables false
set_option linter.unusedSimpArgs false
set_option maxRecDepth 100000
def IRR : Prop := ∀ (i : In) (hk : i.k < 4294967296) (n : Nat) {H : AH} {K : Value → AH → Prop},K (.bool (rightI i n)) H → AC Try.prog 42 [i.v,.int .i64 n] H K
def c7T (n : Nat) (v : Value) (s : KE) : List (Nat × Value) := [(3,.int .i64 n),(38,v),(39,.int .i64 n),(40,.int .i64 s.k)]
set_option maxHeartbeats 4000000 in
theorem rcode_ (irr : IRR) {H : AH} {v : Value} {L : List In} (hks : ∀ i ∈ L,i.k < 4294967296) (r : ArgRow H v (rowI L) L.length) (hL : L.length ≤ 1000) (lk uk : Int) {K : Value → AH → Prop} (hK : K (.bool (codeR rightI L lk uk)) H) : AC Try.prog 20 [.agg #[v,.int .i64 lk,.int .i64 uk]] H K := by
 refine AC.clean ?_
 refine entry hmix cf20 ?_
 obtain ⟨A,C,rfl⟩ := r.form
 have bad : ¬ (1 ≤ L.length ∧ L.length ≤ 64 ∧ 0 ≤ lk ∧ 0 ≤ uk ∧ lk < L.length ∧ uk < L.length) → K (.bool false) H := fun h => by
  have : codeR rightI L lk uk = false := by unfold codeR; rw [decide_eq_false h]; rfl
  rwa [this] at hK
 by_cases c1 : 1 ≤ L.length
 case neg =>
  have c2 : L.length = 0 := by omega
  simp (maxSteps := 2000000) (implicitDefEqProofs := false) [-getElem?_pos,-getElem?_neg,c2]
  exact bad (by omega)
 have c1' : ¬ (L.length : Int) < 1 := by omega
 have c6 : ¬ L.length = 0 := by omega
 by_cases c3 : L.length ≤ 64
 case neg =>
  have c4 : (64 : Int) < L.length := by omega
  have c5 : 64 < L.length := by omega
  simp (maxSteps := 2000000) (implicitDefEqProofs := false) [-getElem?_pos, -getElem?_neg, c1', c4, c5, c6]
  exact bad (by omega)
 have c4 : ¬ (64 : Int) < L.length := by omega
 have c5 : ¬ 64 < L.length := by omega
 by_cases c7 : lk < 0
 ·simp (maxSteps := 2000000) (implicitDefEqProofs := false) [-getElem?_pos, -getElem?_neg, c1', c4, c5, c6, c7]
  exact bad (by omega)
 by_cases c8 : uk < 0
 ·simp (maxSteps := 2000000) (implicitDefEqProofs := false) [-getElem?_pos, -getElem?_neg, c1', c4, c5, c6, c7, c8]
  exact bad (by omega)
 by_cases c9 : (L.length : Int) ≤ lk
 ·simp (maxSteps := 2000000) (implicitDefEqProofs := false) [-getElem?_pos, -getElem?_neg, c1', c4, c5, c6, c7, c8, c9]
  exact bad (by omega)
 by_cases c10 : (L.length : Int) ≤ uk
 ·simp (maxSteps := 2000000) (implicitDefEqProofs := false) [-getElem?_pos, -getElem?_neg, c1', c4, c5, c6, c7, c8, c9, c10]
  exact bad (by omega)
 have ok : 1 ≤ L.length ∧ L.length ≤ 64 ∧ 0 ≤ lk ∧ 0 ≤ uk ∧ lk < L.length ∧ uk < L.length := by omega
 have e : codeR rightI L lk uk = L.all fun i => rightI i L.length := by unfold codeR; rw [decide_eq_true ok]; rfl
 rw [e] at hK
 cases r with
 | none h1 h2 h3 => omega
 | row b cap X h1 h2 hX =>
  obtain ⟨rfl,rfl⟩ : A = some ⟨b,0,none⟩ ∧ C = cap := by simpa using h1
  simp (maxSteps := 2000000) (implicitDefEqProofs := false) [-getElem?_pos, -getElem?_neg, c1', c4, c5, c6, c7, c8, c9, c10]
  have key := fun T0 Q e1 e2 hr => loop5 (P := Try.prog) (m := H.length) hmix (ac := lp20_0) 49 (fun s : KE => s.k ≤ L.length ∧ Ext H s.g ∧ (L.take s.k).all (fun i => rightI i L.length) = true) (fun s => L.length - s.k) (c7T L.length (.slice (some ⟨b,0,none⟩) L.length C)) (fun s => s.g) ⟨0,H ++ [.cells [.slice (some ⟨b,0,none⟩) L.length C,.int .i64 lk,.int .i64 uk] 34 none]⟩ ⟨Nat.zero_le _,Ext.app _ _,by simp⟩ rfl (t := T0) (Q := Q) e1 e2 hr
  refine key _ _ rfl (by simp [List.forall_mem_cons,GB,c7T]) ?_
  clear key
  rintro ⟨k,g⟩ ⟨hk,xg,hall⟩ _ _ _
  simp only at hk xg hall
  obtain ⟨E,hE⟩ := xg.out
  by_cases hlt : k < L.length
  case neg =>
   obtain rfl : k = L.length := by omega
   rw [List.take_length] at hall
   rw [hall] at hK
   simp (maxSteps := 2000000) (implicitDefEqProofs := false) [-getElem?_pos,-getElem?_neg,c7T,lp20_0]
   exact ⟨⟨E,hE⟩,hK⟩
  have hlt' : (k : Int) < L.length := by omega
  obtain ⟨i,hi⟩ : ∃ i,L[k]? = some i := ⟨_,List.getElem?_eq_getElem hlt⟩
  have hrd := rowI_at hi
  have hfit : k * 8 + 8 ≤ (rowI L).length := by rw [rowI_length]; omega
  have w2 : IntKind.i64.wrap ((k : Int) + 1) = (k : Int) + 1 := IntWalk.i64_in _ (by omega)
  have hbG0 := xg.get h2
  have hrr := fun (K : Value → AH → Prop) (G : AH) (h : K (.bool (rightI i L.length)) G) => irr i (hks i (List.mem_of_getElem? hi)) L.length h
  unfold In.v In.vs at hrr
  unfold In.vs at hrd
  simp (maxSteps := 2000000) (implicitDefEqProofs := false) [-getElem?_pos, -getElem?_neg, c7T, lp20_0, hlt, hlt', hbG0, hX, hrd, hfit, splice_more]
  refine hrr _ _ ?_
  cases hri : rightI i L.length with
  | false =>
   have hf : (L.all fun i => rightI i L.length) = false := by
    rw [List.all_eq_false]
    exact ⟨i,List.mem_of_getElem? hi,by rw [hri]; simp⟩
   rw [hf] at hK
   simp (maxSteps := 2000000) (implicitDefEqProofs := false) [-getElem?_pos,-getElem?_neg]
   subst hE
   exact ⟨⟨_,List.append_assoc _ _ _⟩,hK⟩
  | true =>
   have hn : ((L.take (k + 1)).all fun i => rightI i L.length) = true := by
    rw [List.take_add_one,hi,List.all_append,hall]
    simp [hri]
   simp (maxSteps := 2000000) (implicitDefEqProofs := false) [-getElem?_pos,-getElem?_neg,w2]
   refine next5.intro ⟨k + 1,_⟩ (by simp only; omega) ⟨by simp only; omega,xg.trans (Ext.app _ _), ?_⟩ rfl rfl (by simp [List.forall_mem_cons,GB,c7T])
   simpa using hn
end Ex
end Go.Proofs.Ytongllppbifiaaa
