import Derived.Test.YtongllppbifiaaaW52
import Derived.Test.YtongllppbifiaaaW40
namespace Go.Proofs.Ytongllppbifiaaa
namespace Ex
open Go Abs Code
open Px (natV natV_length natV_get VecV nm u32w i64w PS XS poolB outG New newP pnewG OkP)
attribute [local simp] DN5 HA DN NB begT atHead kd wantedA evP evR evF evL evC evI evBin evUn evEq evSt evRes plain scp scpA scpL rdRow_eq RV rdCells veq veqA veqL isHole Value.cells evalL optI evBounds evFill evFillR evApp newsOf wrCells one1 fitsApp evClr undef onB_bool List.getElem?_concat_length List.getElem?_cons_zero List.getElem?_cons_succ List.getElem?_toArray List.getElem?_nil List.set_cons_zero List.set_cons_succ List.cons_append List.nil_append
set_option linter.unusedVariables false
set_option linter.unusedSimpArgs false
set_option maxRecDepth 100000
inductive OwnR (es : Nat) (g : AH) (w : Value) (n : Nat) (l : List Value) (e : TypeId) (b : Nat) : Prop
 | zero : n = 0 → l = [] → w = .slice (some ⟨b,0,none⟩) 0 0 → g[b]? = some (.cells [] e none) → OwnR es g w n l e b
 | row (c : Nat) : 0 < n → l.length = n * es → w = .slice (some ⟨c,0,none⟩) n (OPEN + n) → g[c]? = some (.cells l e (some es)) → OwnR es g w n l e b
theorem OwnR.form {es : Nat} {g : AH} {w : Value} {n : Nat} {l : List Value} {e : TypeId} {b : Nat} (h : OwnR es g w n l e b) : ∃ A C,w = .slice A n C := by
 cases h with
 | zero h1 h2 h3 h4 => exact ⟨_,_,by rw [h1]; exact h3⟩
 | row c h1 h2 h3 h4 => exact ⟨_,_,h3⟩
theorem OwnR.arg {es : Nat} {g : AH} {w : Value} {n : Nat} {l : List Value} {e : TypeId} {b : Nat} (h : OwnR es g w n l e b) : ArgRow g w l n := by
 cases h with
 | zero h1 h2 h3 h4 => exact .row b 0 _ (by rw [h1]; exact h3) h4 (by rw [h2]; rfl)
 | row c h1 h2 h3 h4 => exact .row c _ _ h3 h4 rfl
theorem OwnR.keep {es : Nat} {g g' : AH} {w : Value} {n : Nat} {l : List Value} {e : TypeId} {b : Nat} (h : OwnR es g w n l e b) (hk : ∀ c ∈ nm w,g'[c]? = g[c]?) : OwnR es g' w n l e b := by
 cases h with
 | zero h1 h2 h3 h4 => exact .zero h1 h2 h3 (by rw [hk b (by rw [h3]; simp [nm])]; exact h4)
 | row c h1 h2 h3 h4 => exact .row c h1 h2 h3 (by rw [hk c (by rw [h3]; simp [nm])]; exact h4)
theorem OwnR.lt {es : Nat} {g : AH} {w : Value} {n : Nat} {l : List Value} {e : TypeId} {b : Nat} (h : OwnR es g w n l e b) : ∀ c ∈ nm w,c < g.length := by
 cases h with
 | zero h1 h2 h3 h4 => subst h3; intro c hc; simp [nm] at hc; subst hc; exact lt_get h4
 | row c h1 h2 h3 h4 => subst h3; intro c hc; simp [nm] at hc; subst hc; exact lt_get h4
theorem zero_app {G : AH} {es bytes n b : Nat} {v : Value} {l : List Value} (e : TypeId) (hb0 : G[b]? = some (.cells [] e none)) (r : ArgRow G v l n) (hl : l.length = n * es) (he : 0 < es) (hone : l.all one1 = true) (hn : n ≤ 100000) (hb : bytes ≤ 1000) :
  ∃ G' w,(∀ (t : T) (s x : Operand),evalO t s = some (.slice (some ⟨b,0,none⟩) 0 0) → evalO t x = some v → evApp t G e es bytes s x = some (w,G')) ∧ OwnR es G' w n l e b ∧ Ext G G' ∧ (∀ c ∈ nm w,c = b ∨ G.length ≤ c) := by
 have hf : n * bytes ≤ 140737488355328 := by
  have := Nat.mul_le_mul hn hb
  omega
 have hnews : ∀ (t : T) (x : Operand),evalO t x = some v → newsOf t G es x = some (n,l) := by
  intro t x hx
  unfold newsOf
  rw [hx]
  cases r with
  | none h1 h2 h3 =>
   subst h1 h2
   rcases h3 with rfl | ⟨b,cap,d,rfl⟩ <;> rfl
  | row b cap X h1 h2 h3 =>
   subst h1
   have h4 : rdRow G b = some l := by rw [rdRow_eq,h2]; exact h3
   simp only [rdCells,h4,Nat.zero_add,← hl,Nat.le_refl,if_true,List.drop_zero,List.take_length]
   rw [if_pos hone]
 by_cases h0 : n = 0
 ·subst h0
  have e0 : l = [] := List.eq_nil_of_length_eq_zero (by omega)
  subst e0
  refine ⟨G,.slice (some ⟨b,0,none⟩) 0 0,fun t s x hs hx => ?_,.zero rfl rfl rfl hb0,Ext.refl G,fun c hc => by simp [nm] at hc; exact .inl hc⟩
  unfold evApp
  rw [hs,hnews t x hx]
  rfl
 ·refine ⟨G ++ [.cells l e (some es)],.slice (some ⟨G.length,0,none⟩) n (OPEN + n),fun t s x hs hx => ?_,.row G.length (by omega) hl rfl (by rw [HA.2.1]; rfl),Ext.app _ _,fun c hc => by simp [nm] at hc; exact .inr (by omega)⟩
  unfold evApp
  rw [hs,hnews t x hx]
  have h1 : capLow 0 = 0 := rfl
  have h2 : rdCells G b 0 (0 * es) = some [] := by simp [rdCells,rdRow_eq,hb0,rowVs]
  have h3 : fitsApp es bytes (0 + n) = true := by unfold fitsApp; simp; omega
  have h4 : (0 : Nat) < OPEN := by unfold OPEN; omega
  simp only [if_neg h0,h1,h2,h3]
  rw [if_neg (by omega),if_pos ⟨h0,trivial⟩,if_pos h4]
  simp
theorem intV_length (l : List Int) : (intV l).length = l.length := by simp [intV]
theorem intV_one (l : List Int) : (intV l).all one1 = true := by simp [intV,one1]
structure Lw where
 k : Nat
 g : AH
structure LwI (G : AH) (ns : List Nat) (A : Option Addr) (n es : Nat) (e : TypeId) (P : List Value → Prop) (s : Lw) : Prop where
 k : s.k ≤ n
 len : s.g.length = G.length
 keep : ∀ c,c ∉ ns → s.g[c]? = G[c]?
 row : 0 < n → ∃ b vs,A = some ⟨b,0,none⟩ ∧ b ∈ ns ∧ s.g[b]? = some (.cells vs e (some es)) ∧ vs.length = n * es ∧ P vs
def owT (i1 i2 : Nat) (vl : Value) (h m x n : Nat) (mm : Nat) (s : Lw) : List (Nat × Value) := [(1,vl),(2,.pointer (some ⟨h,0,none⟩)),(5,.int .i64 n),(6,.pointer (some ⟨m,0,none⟩)),(7,.pointer (some ⟨x,0,none⟩)),(i1,.int .i64 mm),(i2,.int .i64 s.k)]
theorem splice_len8 (vs : List Value) (o : Nat) (a b c d e f g h : Value) (hf : o + 8 ≤ vs.length) : (splice vs o [a,b,c,d,e,f,g,h]).length = vs.length := by
 rw [splice_more]
 simp
 omega
theorem LwI.next {G : AH} {ns : List Nat} {A : Option Addr} {n es : Nat} {e : TypeId} {P : List Value → Prop} {k : Nat} {q : AH} (hq : LwI G ns A n es e P ⟨k,q⟩) (hk : k < n) {b : Nat} {vs vs' : List Value} (hA : A = some ⟨b,0,none⟩) (hb : b ∈ ns) (hv : q[b]? = some (.cells vs e (some es))) (hl : vs'.length = n * es) (hP : P vs') : LwI G ns A n es e P ⟨k + 1,q.set b (.cells vs' e (some es))⟩ :=
 ⟨by simp only; omega,by simp only; rw [List.length_set]; exact hq.len,fun c hc => by
  simp only
  rw [List.getElem?_set_ne fun x => hc (by rw [← x]; exact hb)]
  exact hq.keep c hc, fun _ => ⟨b, vs', hA, hb, List.getElem?_set_self (lt_get hv), hl, hP⟩⟩
theorem OwnR.lw {es : Nat} {g G : AH} {A : Option Addr} {C n : Nat} {l : List Value} {e : TypeId} {b : Nat} {P : List Value → Prop} (h : OwnR es g (.slice A n C) n l e b) (hg : ∀ c ∈ nm (.slice A n C),G[c]? = g[c]?) (hP : P l) : LwI G (nm (.slice A n C)) A n es e P ⟨0,G⟩ := by
 refine ⟨Nat.zero_le _,rfl,fun _ _ => rfl,fun h0 => ?_⟩
 cases h with
 | zero h1 h2 h3 h4 => omega
 | row c h1 h2 h3 h4 =>
  injection h3 with h3 _ _
  subst h3
  exact ⟨c,l,rfl,by simp [nm],by rw [hg c (by simp [nm])]; exact h4,h2,hP⟩
theorem rightI_21 {i : In} {n : Nat} (h : rightI i n = true) (h21 : i.op = 21) : i.k ≤ 1 := by
 have e : hasI 21 = some ⟨true,true,true,false,true,0,1,2⟩ := rfl
 unfold rightI at h
 rw [h21,e] at h
 simp only [Bool.and_eq_true,decide_eq_true_eq] at h
 exact h.1.2.2
structure OS where
 k : Nat
 g : AH
 e : ES PS
 x : ES XS
 M : NmR
structure OI (G : AH) (N : Nm) (B y : Nat) (L : List In) (n : Nat) (ops : List LOp) (s : OS) : Prop where
 k : s.k ≤ ops.length
 rx : XAt s.g N s.e
 ry : RAt s.g s.M s.x
 be : Beside s.e s.x
 my : s.M.y = y
 len : B ≤ s.g.length
 hi : ∀ c ∈ s.M.all,B ≤ c
 keep : ∀ c,c < B → c ∉ N.all → s.g[c]? = G[c]?
 L : s.e.L = L
 n : s.e.cs.length = n
def oiT (x y n : Nat) (vl : Value) (m : Nat) (s : OS) : List (Nat × Value) := [(5,.int .i64 n),(7,.pointer (some ⟨x,0,none⟩)),(12,.pointer (some ⟨y,0,none⟩)),(116,vl),(117,.int .i64 m),(118,.int .i64 s.k)]
theorem upd_lo {N : List Nat} {M : List Nat} {B : Nat} {H g : AH} (u : Upd N H N g) (hN : ∀ c ∈ N,c < B) (hM : ∀ c ∈ M,B ≤ c) (hl : ∀ c ∈ M,c < H.length) : ∀ c ∈ M,g[c]? = H[c]? := fun c hc => u.keep c (hl c hc) fun h => by have := hN c h; have := hM c hc; omega
theorem upd_hi {N N' M : List Nat} {B : Nat} {H g : AH} (u : Upd N H N' g) (hN : ∀ c ∈ N,B ≤ c) (hM : ∀ c ∈ M,c < B) (hl : ∀ c ∈ M,c < H.length) : ∀ c ∈ M,g[c]? = H[c]? := fun c hc => u.keep c (hl c hc) fun h => by have := hN c h; have := hM c hc; omega
theorem OI.next {G : AH} {N : Nm} {B y : Nat} {L : List In} {n : Nat} {ops : List LOp} {k : Nat} {q g1 g2 : AH} {e e' : ES PS} {x x' : ES XS} {M M' : NmR} (o : OI G N B y L n ops ⟨k, q, e, x, M⟩) (hk : k < ops.length) (hN : ∀ c ∈ N.all, c < B) (tl : AH) (r1 : XAt g1 N e') (u1 : Upd N.all (q ++ tl) N.all g1) (r2 : RAt g2 M' x') (hy : M'.y = M.y) (u2 : Upd M.all g1 M'.all g2) (be : Beside e' x') (hL : e'.L = e.L) (hn : e'.cs.length = e.cs.length) : OI G N B y L n ops ⟨k + 1, g2, e', x', M'⟩ := by
 obtain ⟨ok,orx,ory,obe,omy,olen,ohi,okeep,oL,on⟩ := o
 simp only at ok orx ory obe omy olen ohi okeep oL on
 have l1 := u1.len
 have l2 := u2.len
 simp only [List.length_append] at l1
 refine ⟨by simp only; omega,r1.keep (upd_hi u2 ohi hN r1.lt),r2,be,by simp only; rw [hy]; exact omy,by simp only; omega,fun c hc => ?_,fun c hc hn => ?_,by simp only; rw [hL]; exact oL,by simp only; rw [hn]; exact on⟩
 ·rcases u2.new c hc with h | ⟨h,_⟩
  ·exact ohi c h
  ·omega
 ·simp only
  rw [u2.keep c (by omega) (fun h => by have := ohi c h; omega),u1.keep c (by simp; omega) hn,List.getElem?_append_left (by omega)]
  exact okeep c hc hn
set_option maxHeartbeats 4000000 in
theorem own_ (irr : IRR) {H : AH} {v : Value} {s : Sp} (r : SpR H v s) {vl : Value} {ops : List LOp} (ro : ArgRow H vl (rowO ops) ops.length) {K : Value → AH → Prop} (hK : ∀ g,Ext H g → K (.bool true) g) : AC Try.prog 4 [v,vl] H K := by
 refine entry hmix cf4 ?_
 obtain ⟨vL,vz,vi,v7,rfl,rL,rz,ri,r7⟩ := r.v
 obtain ⟨A1,C1,e1⟩ := rL.form
 obtain ⟨A2,C2,e2⟩ := rz.form
 obtain ⟨A3,C3,e3⟩ := ri.form
 obtain ⟨A7,C7,e7⟩ := r7.form
 obtain ⟨Ao,Co,eo⟩ := ro.form
 subst e1 e2 e3 e7 eo
 simp (maxSteps := 2000000) (implicitDefEqProofs := false) [-getElem?_pos,-getElem?_neg]
 refine small_ (r.ext (Ext.app _ _)) ?_
 obtain ⟨bx,hbx⟩ : ∃ bx : ABlk,bx = .cells [.slice A1 s.L.length C1,.int .i64 s.lk,.int .i64 s.uk,.slice A2 s.zs.length C2,.slice A3 s.init.length C3,.int .i64 s.each,.slice A7 s.r7.length C7] 28 none := ⟨_,rfl⟩
 rw [← hbx]
 cases hsm : smallS s with
 | false =>
  simp (maxSteps := 2000000) (implicitDefEqProofs := false) [-getElem?_pos,-getElem?_neg]
  refine awake10_ fun g xg => ?_
  simp (maxSteps := 2000000) (implicitDefEqProofs := false) [-getElem?_pos,-getElem?_neg]
  exact hK _ ((Ext.app _ _).trans xg)
 | true =>
  unfold smallS at hsm
  simp only [decide_eq_true_eq] at hsm
  by_cases c1 : 40 < ops.length
  ·have c1' : (40 : Int) < ops.length := by omega
   simp (maxSteps := 2000000) (implicitDefEqProofs := false) [-getElem?_pos,-getElem?_neg,c1,c1']
   refine awake10_ fun g xg => ?_
   simp (maxSteps := 2000000) (implicitDefEqProofs := false) [-getElem?_pos,-getElem?_neg]
   exact hK _ ((Ext.app _ _).trans xg)
  have c1' : ¬ (40 : Int) < ops.length := by omega
  rw [hbx]
  simp (maxSteps := 2000000) (implicitDefEqProofs := false) [-getElem?_pos,-getElem?_neg,c1,c1']
  rw [← hbx]
  refine lref_ (r.ext (Ext.app _ _)) (by omega) fun g v' xg r' => ?_
  simp (maxSteps := 2000000) (implicitDefEqProofs := false) [-getElem?_pos,-getElem?_neg]
  refine r10right_ irr (r'.full (by omega) (by omega)) _ fun b hb => ?_
  cases b with
  | false =>
   simp (maxSteps := 2000000) (implicitDefEqProofs := false) [-getElem?_pos,-getElem?_neg]
   refine awake10_ fun g2 xg2 => ?_
   simp (maxSteps := 2000000) (implicitDefEqProofs := false) [-getElem?_pos,-getElem?_neg]
   exact hK _ ((Ext.app _ _).trans (xg.trans xg2))
  | true =>
   have okx := hb.1 rfl
   have g1 : g[H.length]? = some bx := by rw [xg.keep _ (by simp),HA.2.1]; rfl
   rw [hbx] at g1
   have xHg : Ext H g := (Ext.app _ _).trans xg
   obtain ⟨Z,hZ⟩ : ∃ Z : AH,Z = g ++ [.cells [] 55 none,.hole,.hole,.hole,.hole] := ⟨_,rfl⟩
   have xZ : Ext g Z := by rw [hZ]; exact Ext.app _ _
   have kZ : ∀ j,Z[g.length + j]? = ([ABlk.cells [] 55 none,.hole,.hole,.hole,.hole] : AH)[j]? := fun j => by rw [hZ]; exact HA.1 _ _ _
   have lZ : Z.length = g.length + 5 := by rw [hZ]; simp
   have kZ0 : Z[g.length]? = some (.cells [] 55 none) := kZ 0
   obtain ⟨Z1,w1,run1,o1,x1,n1⟩ := zero_app (G := Z) (es := 8) (bytes := 64) 55 kZ0 (rL.ext (xHg.trans xZ)) (rowI_length _) (by omega) (rowI_one _) (by omega) (by omega)
   have e1 : Z1[g.length + 1]? = some .hole := x1.get (kZ 1)
   obtain ⟨A4,C4,f4⟩ := o1.form
   subst f4
   have gx : ∀ {g' : AH},(∀ c,c < g.length → g'[c]? = g[c]?) → g.length ≤ g'.length → Ext g g' := fun h l => ⟨l,h⟩
   have l1 := x1.len
   obtain ⟨Y2,hY2⟩ : ∃ Y2,Z1.set (g.length + 1) (.cells [] 3 none) = Y2 := ⟨_,rfl⟩
   have ne2 : ∀ c,c ≠ g.length + 1 → Y2[c]? = Z1[c]? := fun c hc => by rw [← hY2,List.getElem?_set_ne fun e => hc e.symm]
   have m2 : Y2[g.length + 1]? = some (.cells [] 3 none) := by rw [← hY2]; exact List.getElem?_set_self (by omega)
   have yl2 : Y2.length = Z1.length := by rw [← hY2]; simp
   have xg2 : Ext g Y2 := gx (fun c hc => by rw [ne2 c (by omega),x1.keep c (by omega),xZ.keep c hc]) (by omega)
   obtain ⟨Z2,w2,run2,o2,x2,n2⟩ := zero_app (G := Y2) (es := 1) (bytes := 8) 3 m2 (rz.ext (xHg.trans xg2)) (by rw [intV_length]; omega) (by omega) (intV_one _) (by omega) (by omega)
   obtain ⟨A5,C5,f5⟩ := o2.form
   subst f5
   have l2 := x2.len
   have e2 : Z2[g.length + 2]? = some .hole := x2.get (by rw [ne2 _ (by omega)]; exact x1.get (kZ 2))
   obtain ⟨Y3,hY3⟩ : ∃ Y3,Z2.set (g.length + 2) (.cells [] 49 none) = Y3 := ⟨_,rfl⟩
   have ne3 : ∀ c,c ≠ g.length + 2 → Y3[c]? = Z2[c]? := fun c hc => by rw [← hY3,List.getElem?_set_ne fun e => hc e.symm]
   have m3 : Y3[g.length + 2]? = some (.cells [] 49 none) := by rw [← hY3]; exact List.getElem?_set_self (by omega)
   have yl3 : Y3.length = Z2.length := by rw [← hY3]; simp
   have xg3 : Ext g Y3 := gx (fun c hc => by rw [ne3 c (by omega),x2.keep c (by omega),xg2.keep c hc]) (by omega)
   obtain ⟨Z3,w3,run3,o3,x3,n3⟩ := zero_app (G := Y3) (es := 1) (bytes := 4) 49 m3 (ri.ext (xHg.trans xg3)) (by rw [w32_length]; omega) (by omega) (w32_one _) (by omega) (by omega)
   obtain ⟨A6,C6,f6⟩ := o3.form
   subst f6
   have l3 := x3.len
   have e3 : Z3[g.length + 3]? = some .hole := x3.get (by rw [ne3 _ (by omega)]; exact x2.get (by rw [ne2 _ (by omega)]; exact x1.get (kZ 3)))
   obtain ⟨Y4,hY4⟩ : ∃ Y4,Z3.set (g.length + 3) (.cells [] 49 none) = Y4 := ⟨_,rfl⟩
   have ne4 : ∀ c,c ≠ g.length + 3 → Y4[c]? = Z3[c]? := fun c hc => by rw [← hY4,List.getElem?_set_ne fun e => hc e.symm]
   have m4 : Y4[g.length + 3]? = some (.cells [] 49 none) := by rw [← hY4]; exact List.getElem?_set_self (by omega)
   have yl4 : Y4.length = Z3.length := by rw [← hY4]; simp
   have xg4 : Ext g Y4 := gx (fun c hc => by rw [ne4 c (by omega),x3.keep c (by omega),xg3.keep c hc]) (by omega)
   obtain ⟨Z4,w4,run4,o4,x4,n4⟩ := zero_app (G := Y4) (es := 1) (bytes := 4) 49 m4 (r7.ext (xHg.trans xg4)) (by rw [w32_length]; omega) (by omega) (w32_one _) (by omega) (by omega)
   obtain ⟨A8,C8,f8⟩ := o4.form
   subst f8
   have l4 := x4.len
   have e4 : Z4[g.length + 4]? = some .hole := x4.get (by rw [ne4 _ (by omega)]; exact x3.get (by rw [ne3 _ (by omega)]; exact x2.get (by rw [ne2 _ (by omega)]; exact x1.get (kZ 4))))
   obtain ⟨bw,hbw⟩ : ∃ bw : ABlk,bw = .cells [.slice A4 s.L.length C4,.int .i64 s.lk,.int .i64 s.uk,.slice A5 s.zs.length C5,.slice A6 s.init.length C6,.int .i64 s.each,.slice A8 s.r7.length C8] 28 none := ⟨_,rfl⟩
   obtain ⟨Z5,hZ5⟩ : ∃ Z5,Z4.set (g.length + 4) bw = Z5 := ⟨_,rfl⟩
   have zs0 : ∀ X,(Z4.set (g.length + 4) X)[g.length + 4]? = some X := fun X => List.getElem?_set_self (by omega)
   have g1Z1 := x1.get (xZ.get g1)
   have g1Z2 := x2.get (xg2.get g1)
   have g1Z3 := x3.get (xg3.get g1)
   have g1Z4 := x4.get (xg4.get g1)
   have g1Y2 := xg2.get g1
   have g1Y3 := xg3.get g1
   have g1Y4 := xg4.get g1
   have hZ5' := hZ5
   rw [hbw] at hZ5'
   have zb5 : Z5[g.length + 4]? = some bw := by rw [← hZ5]; exact zs0 _
   rw [hbw] at zb5
   have ne5 : ∀ c,c ≠ g.length + 4 → Z5[c]? = Z4[c]? := fun c hc => by rw [← hZ5,List.getElem?_set_ne fun e => hc e.symm]
   have yl5 : Z5.length = Z4.length := by rw [← hZ5]; simp
   have xg5 : Ext g Z5 := gx (fun c hc => by rw [ne5 c (by omega),x4.keep c (by omega),xg4.keep c hc]) (by omega)
   have t4 : ∀ c,c ≠ g.length + 4 → c < Z4.length → Z5[c]? = Z4[c]? := fun c h _ => ne5 c h
   have t3 : ∀ c,c ≠ g.length + 3 → c ≠ g.length + 4 → c < Z3.length → Z5[c]? = Z3[c]? := fun c h1 h2 h => by rw [ne5 c h2,x4.keep c (by omega),ne4 c h1]
   have t2 : ∀ c,c ≠ g.length + 2 → c ≠ g.length + 3 → c ≠ g.length + 4 → c < Z2.length → Z5[c]? = Z2[c]? := fun c h0 h1 h2 h => by rw [t3 c h1 h2 (by omega),x3.keep c (by omega),ne3 c h0]
   have t1 : ∀ c,c ≠ g.length + 1 → c ≠ g.length + 2 → c ≠ g.length + 3 → c ≠ g.length + 4 → c < Z1.length → Z5[c]? = Z1[c]? := fun c h9 h0 h1 h2 h => by rw [t2 c h0 h1 h2 (by omega),x2.keep c (by omega),ne2 c h9]
   have p1 := o1.keep (g' := Z5) fun c hc => by
    have h1 := n1 c hc
    have h2 := o1.lt c hc
    exact t1 c (by omega) (by omega) (by omega) (by omega) h2
   have p2 := o2.keep (g' := Z5) fun c hc => by
    have h1 := n2 c hc
    have h2 := o2.lt c hc
    exact t2 c (by omega) (by omega) (by omega) h2
   have p3 := o3.keep (g' := Z5) fun c hc => by
    have h1 := n3 c hc
    have h2 := o3.lt c hc
    exact t3 c (by omega) (by omega) h2
   have p4 := o4.keep (g' := Z5) fun c hc => by
    have h1 := n4 c hc
    have h2 := o4.lt c hc
    exact t4 c (by omega) h2
   simp (maxSteps := 2000000) (implicitDefEqProofs := false) [-getElem?_pos, -getElem?_neg, g1, fun tl => getA g1 tl, hZ.symm, -evApp, -newsOf, run1, e1, hY2, g1Z1, g1Y2, run2, e2, hY3, g1Z2, g1Y3, run3, e3, hY4, g1Z3, g1Y4, run4, e4, g1Z4, zs0, List.set_set, splice_more, hZ5', zb5]
   refine xnew_ (v := .agg #[.slice A4 s.L.length C4,.int .i64 s.lk,.int .i64 s.uk,.slice A5 s.zs.length C5,.slice A6 s.init.length C6,.int .i64 s.each,.slice A8 s.r7.length C8]) ⟨⟨_,_,_,_,rfl,p1.arg,p2.arg,p3.arg,p4.arg⟩,r.ks,r.ws,r.rs,by omega,by omega⟩ _ (fun h => absurd okx h) (fun _ => ?_)
   intro G N xG rX hN
   have hn1 := okx.n1
   have hn7 := okx.r7
   have e0 : ((s.r7.length : Int)).toNat = s.r7.length := by omega
   rw [e0] at rX
   have gb := xG.get zb5
   simp (maxSteps := 2000000) (implicitDefEqProofs := false) [-getElem?_pos,-getElem?_neg,gb]
   have hlen := xG.len
   have pG1 : ∀ c ∈ nm (Value.slice A4 s.L.length C4),G[c]? = Z5[c]? := fun c hc => xG.keep c (p1.lt c hc)
   have key := fun T0 Q e1 e2 hr => loop5 (P := Try.prog) (m := H.length) hmix (ac := lp4_0) 173 (LwI G (nm (.slice A4 s.L.length C4)) A4 s.L.length 8 55 fun _ => True) (fun q => s.L.length - q.k) (owT 76 77 (.slice Ao ops.length Co) H.length (g.length + 4) N.x s.r7.length s.L.length) (fun q => q.g) ⟨0,G⟩ (p1.lw pG1 trivial) rfl (t := T0) (Q := Q) e1 e2 hr
   refine key _ _ rfl (by simp [List.forall_mem_cons,GB,owT]) ?_
   clear key
   rintro ⟨k,q⟩ hq _ _ _
   have hk := hq.k
   have nb1 : g.length + 4 ∉ nm (Value.slice A4 s.L.length C4) := fun hc => by have := n1 _ hc; omega
   have nb2 : g.length + 4 ∉ nm (Value.slice A5 s.zs.length C5) := fun hc => by have := n2 _ hc; omega
   have nb4 : g.length + 4 ∉ nm (Value.slice A8 s.r7.length C8) := fun hc => by have := n4 _ hc; omega
   have qb : q[g.length + 4]? = _ := (hq.keep _ nb1).trans gb
   simp only at hk
   by_cases hlt : k < s.L.length
   case pos =>
    obtain ⟨b,vs,rfl,hbm,hbv,hvl,_⟩ := hq.row (by omega)
    simp only at hbv
    have hlt' : (k : Int) < s.L.length := by omega
    have w2 : IntKind.i64.wrap ((k : Int) + 1) = (k : Int) + 1 := IntWalk.i64_in _ (by omega)
    have hfit : k * 8 + 8 ≤ vs.length := by omega
    simp (maxSteps := 2000000) (implicitDefEqProofs := false) [-getElem?_pos, -getElem?_neg, owT, lp4_0, hlt, hlt', qb, hbv, hfit, w2]
    exact next5.intro ⟨k + 1,_⟩ (by simp only; omega) (hq.next hlt rfl hbm hbv (by rw [splice_len8 _ _ _ _ _ _ _ _ _ _ hfit]; exact hvl) trivial) rfl rfl (by simp [List.forall_mem_cons,GB,owT])
   obtain rfl : k = s.L.length := by omega
   simp (maxSteps := 2000000) (implicitDefEqProofs := false) [-getElem?_pos,-getElem?_neg,owT,lp4_0,qb]
   have k1 := hq.keep
   have ql := hq.len
   simp only at k1 ql
   have d12 : ∀ c ∈ nm (Value.slice A5 s.zs.length C5),c ∉ nm (Value.slice A4 s.L.length C4) := fun c hc hm => by
    have a1 := n1 c hm
    have a2 := n2 c hc
    have a3 := o1.lt c hm
    omega
   have pG2 : ∀ c ∈ nm (Value.slice A5 s.zs.length C5),q[c]? = Z5[c]? := fun c hc => by rw [k1 c (d12 c hc)]; exact xG.keep c (p2.lt c hc)
   have key := fun T0 Q e1 e2 hr => loop5 (P := Try.prog) (m := H.length) hmix (ac := lp4_1) 173 (LwI q (nm (.slice A5 s.zs.length C5)) A5 s.zs.length 1 3 fun _ => True) (fun q => s.zs.length - q.k) (owT 89 90 (.slice Ao ops.length Co) H.length (g.length + 4) N.x s.r7.length s.zs.length) (fun q => q.g) ⟨0,q⟩ (p2.lw pG2 trivial) rfl (t := T0) (Q := Q) e1 e2 hr
   refine key _ _ rfl (by simp [List.forall_mem_cons,GB,owT]) ?_
   clear key
   rintro ⟨k,q'⟩ hq' _ _ _
   have hk := hq'.k
   have qb' : q'[g.length + 4]? = _ := (hq'.keep _ nb2).trans qb
   simp only at hk
   by_cases hlt : k < s.zs.length
   case pos =>
    obtain ⟨b,vs,rfl,hbm,hbv,hvl,_⟩ := hq'.row (by omega)
    simp only at hbv
    have hlt' : (k : Int) < s.zs.length := by omega
    have w2 : IntKind.i64.wrap ((k : Int) + 1) = (k : Int) + 1 := IntWalk.i64_in _ (by omega)
    have hfit : k + 1 ≤ vs.length := by omega
    simp (maxSteps := 2000000) (implicitDefEqProofs := false) [-getElem?_pos, -getElem?_neg, owT, lp4_1, hlt, hlt', qb', hbv, hfit, w2]
    exact next5.intro ⟨k + 1,_⟩ (by simp only; omega) (hq'.next hlt rfl hbm hbv (by rw [List.length_set]; exact hvl) trivial) rfl rfl (by simp [List.forall_mem_cons,GB,owT])
   obtain rfl : k = s.zs.length := by omega
   simp (maxSteps := 2000000) (implicitDefEqProofs := false) [-getElem?_pos,-getElem?_neg,owT,lp4_1,qb']
   have k2 := hq'.keep
   have ql' := hq'.len
   simp only at k2 ql'
   have d4 : ∀ c ∈ nm (Value.slice A8 s.r7.length C8),c ∉ nm (Value.slice A4 s.L.length C4) ∧ c ∉ nm (Value.slice A5 s.zs.length C5) := fun c hc => ⟨fun hm => by
    have a1 := n1 c hm
    have a2 := n4 c hc
    have a3 := o1.lt c hm
    omega,fun hm => by
    have a1 := n2 c hm
    have a2 := n4 c hc
    have a3 := o2.lt c hm
    omega⟩
   have pG4 : ∀ c ∈ nm (Value.slice A8 s.r7.length C8),q'[c]? = Z5[c]? := fun c hc => by rw [k2 c (d4 c hc).2,k1 c (d4 c hc).1]; exact xG.keep c (p4.lt c hc)
   have key := fun T0 Q e1 e2 hr => loop5 (P := Try.prog) (m := H.length) hmix (ac := lp4_2) 173 (LwI q' (nm (.slice A8 s.r7.length C8)) A8 s.r7.length 1 49 fun vs => ∃ l,vs = w32 l) (fun q => s.r7.length - q.k) (owT 100 101 (.slice Ao ops.length Co) H.length (g.length + 4) N.x s.r7.length s.r7.length) (fun q => q.g) ⟨0,q'⟩ (p4.lw pG4 ⟨s.r7,rfl⟩) rfl (t := T0) (Q := Q) e1 e2 hr
   refine key _ _ rfl (by simp [List.forall_mem_cons,GB,owT]) ?_
   clear key
   rintro ⟨k,q2⟩ hq2 _ _ _
   have hk := hq2.k
   have qb2 : q2[g.length + 4]? = _ := (hq2.keep _ nb4).trans qb'
   simp only at hk
   by_cases hlt : k < s.r7.length
   case pos =>
    obtain ⟨b,vs,rfl,hbm,hbv,hvl,l,rfl⟩ := hq2.row (by omega)
    simp only at hbv
    rw [w32_length] at hvl
    have hlt' : (k : Int) < s.r7.length := by omega
    have w2 : IntKind.i64.wrap ((k : Int) + 1) = (k : Int) + 1 := IntWalk.i64_in _ (by omega)
    have hfit : k + 1 ≤ (w32 l).length := by rw [w32_length]; omega
    obtain ⟨x,hx⟩ : ∃ x,l[k]? = some x := ⟨_,List.getElem?_eq_getElem (by omega)⟩
    have hxv : (w32 l)[k]? = some (.int .u32 x) := by rw [w32_get,hx]; rfl
    have hset : (w32 l).set k (.int .u32 (((x : Int) + 1) % 4294967296)) = w32 (l.set k ((x + 1) % 4294967296)) := by
     simp [w32,List.map_set]
    have hwr : IntKind.u32.wrap ((x : Int) + 1) = ((x : Int) + 1) % 4294967296 := by
     have := add_u32 x 1
     simpa using this
    simp (maxSteps := 2000000) (implicitDefEqProofs := false) [-getElem?_pos, -getElem?_neg, owT, lp4_2, hlt, hlt', qb2, hbv, hfit, w2, hxv, hwr, hset]
    exact next5.intro ⟨k + 1,_⟩ (by simp only; omega) (hq2.next hlt rfl hbm hbv (by rw [w32_length,List.length_set]; omega) ⟨_,rfl⟩) rfl rfl (by simp [List.forall_mem_cons,GB,owT])
   obtain rfl : k = s.r7.length := by omega
   have k3 := hq2.keep
   have ql2 := hq2.len
   simp only at k3 ql2
   have kH : ∀ c,c < H.length + 1 → q2[c]? = G[c]? := fun c hc => by
    have hg := lt_get g1
    rw [k3 c fun hm => by have := n4 c hm; omega,k2 c fun hm => by have := n2 c hm; omega,k1 c fun hm => by have := n1 c hm; omega]
   have gH : q2[H.length]? = _ := (kH _ (by omega)).trans (xG.get (xg5.get g1))
   simp (maxSteps := 2000000) (implicitDefEqProofs := false) [-getElem?_pos,-getElem?_neg,owT,lp4_2,gH]
   have l5 := xG.len
   have d5 : ∀ c,Z5.length ≤ c → q2[c]? = G[c]? := fun c hc => by
    rw [k3 c fun hm => by have := p4.lt c hm; omega,k2 c fun hm => by have := p2.lt c hm; omega,k1 c fun hm => by have := p1.lt c hm; omega]
   have rX2 : XAt q2 N (newE s s.r7.length) := rX.keep fun c hc => d5 c (hN c hc)
   have hHg := lt_get g1
   have xHq : Ext H q2 := ⟨by omega,fun c hc => by rw [kH c (by omega),xG.keep c (by omega),xg5.keep c (by omega),xHg.keep c hc]⟩
   have hcode := okx.code
   unfold codeR at hcode
   simp only [Bool.and_eq_true,decide_eq_true_eq,List.all_eq_true] at hcode
   have ins : s.L.length ≤ 64 ∧ ∀ i ∈ s.L,i.Ok := ⟨hcode.1.2.1,fun i hi => rightI_ok (hcode.2 i hi) (r.ks i hi)⟩
   have hk21 : ∀ i ∈ s.L,i.op = 21 → i.k ≤ 1 := fun i hi => rightI_21 (hcode.2 i hi)
   refine lrefV_ (r.ext xHq) (by omega) fun g8 wL wz wi w7 x8 hvL hnL hz hi8 h78 => ?_
   cases hvL with
   | nil h1 h2 h3 => omega
   | row bC h1 h2 h3 h4 =>
    subst h3
    simp (maxSteps := 2000000) (implicitDefEqProofs := false) [-getElem?_pos,-getElem?_neg]
    refine rnew_ h4 hz hi8 h78 s.r7.length okx ins r.ws r.rs fun g9 M x9 rM hM => ?_
    have hbC := hnL bC (by simp [nm])
    have l8 := x8.len
    have l9 := x9.len
    have hM' : ∀ c ∈ M.all,q2.length ≤ c := fun c hc => by
     rcases hM c hc with rfl | h
     ·exact hbC
     ·omega
    have hNB : ∀ c ∈ N.all,c < q2.length := rX2.lt
    have be0 : Beside (newE s s.r7.length) (newEx s s.r7.length) := Beside.of (Px.newP_ok _ _ (by omega) (by omega) (by have := okx.each; omega)) (Px.Sim.new (by omega) (by have := okx.each; omega))
    have xH9 : Ext H g9 := xHq.trans (x8.trans x9)
    have hNH : ∀ c,c < H.length → c ∉ N.all := fun c hc hm => by have := hN c hm; have := xg5.len; omega
    obtain ⟨y0,hy0⟩ : ∃ y0,y0 = M.y := ⟨_,rfl⟩
    rw [← hy0]
    simp (maxSteps := 2000000) (implicitDefEqProofs := false) [-getElem?_pos,-getElem?_neg]
    have key := fun T0 Q e1 e2 hr => loop5 (P := Try.prog) (m := H.length) hmix (ac := lp4_3) 173 (OI g9 N q2.length y0 s.L s.r7.length ops) (fun q => ops.length - q.k) (oiT N.x y0 s.r7.length (.slice Ao ops.length Co) ops.length) (fun q => q.g) ⟨0, g9, newE s s.r7.length, newEx s s.r7.length, M⟩ ⟨Nat.zero_le _, (rX2.ext x8).ext x9, rM, be0, hy0.symm, by simp only; omega, hM', fun _ _ _ => rfl, rfl, by simp [newE]⟩ rfl (t := T0) (Q := Q) e1 e2 hr
    refine key _ _ rfl (by simp [List.forall_mem_cons,GB,oiT]) ?_
    clear key
    clear be0 rM hM hM' hy0 hnL h4 hz hi8 h78 rX2
    rintro ⟨k,q,e,x,M⟩ oi _ _ _
    have hk := oi.k
    have rx := oi.rx
    have ry := oi.ry
    have be := oi.be
    have my := oi.my
    have ql9 := oi.len
    have hhi := oi.hi
    have kp := oi.keep
    have eL := oi.L
    have en := oi.n
    simp only at hk rx ry be my ql9 hhi kp eL en
    have xHl := xHq.len
    have xq : Ext H q := ⟨by omega,fun c hc => by rw [kp c (by omega) (hNH c hc)]; exact xH9.keep c hc⟩
    subst my
    by_cases hlt : k < ops.length
    case neg =>
     obtain rfl : k = ops.length := by omega
     simp (maxSteps := 2000000) (implicitDefEqProofs := false) [-getElem?_pos,-getElem?_neg,oiT,lp4_3]
     refine alike_ rx ry be fun ga xga => ?_
     simp (maxSteps := 2000000) (implicitDefEqProofs := false) [-getElem?_pos,-getElem?_neg]
     refine awake10_ fun gb xgb => ?_
     simp (maxSteps := 2000000) (implicitDefEqProofs := false) [-getElem?_pos,-getElem?_neg]
     exact hK _ (xq.trans (xga.trans xgb))
    have hlt' : (k : Int) < ops.length := by omega
    cases ro with
    | none h1 h2 h3 => omega
    | row bo cap X h1 h2 h3 =>
     obtain ⟨rfl,rfl⟩ : Ao = some ⟨bo,0,none⟩ ∧ Co = cap := by simpa using h1
     have hbo : q[bo]? = some X := xq.get h2
     obtain ⟨⟨kq,t,late⟩,ho⟩ : ∃ o,ops[k]? = some o := ⟨_,List.getElem?_eq_getElem hlt⟩
     have hrd := rowO_at ho
     unfold LOp.vs at hrd
     simp only at hrd
     have hfit : k * 3 + 3 ≤ (rowO ops).length := by rw [rowO_length]; omega
     have w2 : IntKind.i64.wrap ((k : Int) + 1) = (k : Int) + 1 := IntWalk.i64_in _ (by omega)
     have skip : ∀ tl,OI g9 N q2.length M.y s.L s.r7.length ops ⟨k + 1,q ++ tl,e,x,M⟩ := fun tl => ⟨by simp only; omega,rx.ext (Ext.app _ _),ry.ext (Ext.app _ _),be,rfl,by simp only [List.length_append]; omega,hhi,fun c hc hn => by simp only; rw [List.getElem?_append_left (by omega)]; exact kp c hc hn,eL,en⟩
     by_cases c2 : t < 0
     ·simp (maxSteps := 2000000) (implicitDefEqProofs := false) [-getElem?_pos, -getElem?_neg, oiT, lp4_3, hlt, hlt', hbo, h3, hrd, hfit, splice_more, c2, w2]
      exact next5.intro ⟨k + 1,_,e,x,M⟩ (by simp only; omega) (skip _) rfl rfl (by simp [List.forall_mem_cons,GB,oiT])
     by_cases c3 : (s.r7.length : Int) ≤ t
     ·simp (maxSteps := 2000000) (implicitDefEqProofs := false) [-getElem?_pos, -getElem?_neg, oiT, lp4_3, hlt, hlt', hbo, h3, hrd, hfit, splice_more, c2, c3, w2]
      exact next5.intro ⟨k + 1,_,e,x,M⟩ (by simp only; omega) (skip _) rfl rfl (by simp [List.forall_mem_cons,GB,oiT])
     obtain ⟨tn,rfl⟩ : ∃ tn : Nat,t = tn := ⟨t.toNat,by omega⟩
     have htn : tn < e.cs.length := by omega
     have htx : tn < x.cs.length := by rw [be.cs]; exact htn
     have qa := Ext.app q [ABlk.cells [.int .i64 kq,.int .i64 (tn : Int),.bool late] 44 none]
     have qo : ∀ {g' : AH},Upd N.all (q ++ [ABlk.cells [.int .i64 kq,.int .i64 (tn : Int),.bool late] 44 none]) N.all g' → g'[q.length]? = some (.cells [.int .i64 kq,.int .i64 (tn : Int),.bool late] 44 none) := fun u => u.get (by rw [HA.2.1]; rfl) fun hm => by have := rx.lt _ hm; omega
     have ry' : ∀ {g' : AH},Upd N.all (q ++ [ABlk.cells [.int .i64 kq,.int .i64 (tn : Int),.bool late] 44 none]) N.all g' → RAt g' M x := fun u => (ry.ext qa).keep (upd_lo u hNB hhi fun c hc => (ry.ext qa).lt c hc)
     have begin : ∀ (u : Bool) {g1 g2 : AH} {M' : NmR},XAt g1 N (beginX e tn u).1 → Upd N.all (q ++ [ABlk.cells [.int .i64 kq,.int .i64 (tn : Int),.bool late] 44 none]) N.all g1 → RAt g2 M' (beginX x tn u).1 → M'.y = M.y → Upd M.all g1 M'.all g2 → OI g9 N q2.length M.y s.L s.r7.length ops ⟨k + 1,g2,(beginX e tn u).1,(beginX x tn u).1,M'⟩ := fun u _ _ _ a1 a2 a3 a4 a5 => oi.next hlt hNB _ a1 a2 a3 a4 a5 (be.begin tn u).1 (beginX_same e tn u).1 (beginX_same e tn u).2.1
     by_cases c4 : kq = 1
     ·subst c4
      simp (maxSteps := 2000000) (implicitDefEqProofs := false) [-getElem?_pos, -getElem?_neg, oiT, lp4_3, hlt, hlt', hbo, h3, hrd, hfit, splice_more, c2, c3]
      refine xbegin_ (rx.ext qa) tn htn false fun ga va r1 u1 _ _ => ?_
      have qo1 := qo u1
      simp (maxSteps := 2000000) (implicitDefEqProofs := false) [-getElem?_pos,-getElem?_neg,qo1]
      refine rbegin_ (ry' u1) tn htx false fun gb Mb vb r2 y2 u2 _ _ => ?_
      simp (maxSteps := 2000000) (implicitDefEqProofs := false) [-getElem?_pos,-getElem?_neg,w2]
      exact next5.intro ⟨k + 1,gb,_,_,Mb⟩ (by simp only; omega) (begin false r1 u1 r2 y2 u2) rfl rfl (by simp [List.forall_mem_cons,GB,oiT])
     by_cases c5 : kq = 2
     ·subst c5
      simp (maxSteps := 2000000) (implicitDefEqProofs := false) [-getElem?_pos, -getElem?_neg, oiT, lp4_3, hlt, hlt', hbo, h3, hrd, hfit, splice_more, c2, c3]
      refine xbegin_ (rx.ext qa) tn htn true fun ga va r1 u1 _ _ => ?_
      have qo1 := qo u1
      simp (maxSteps := 2000000) (implicitDefEqProofs := false) [-getElem?_pos,-getElem?_neg,qo1]
      refine rbegin_ (ry' u1) tn htx true fun gb Mb vb r2 y2 u2 _ _ => ?_
      simp (maxSteps := 2000000) (implicitDefEqProofs := false) [-getElem?_pos,-getElem?_neg,w2]
      exact next5.intro ⟨k + 1,gb,_,_,Mb⟩ (by simp only; omega) (begin true r1 u1 r2 y2 u2) rfl rfl (by simp [List.forall_mem_cons,GB,oiT])
     simp (maxSteps := 2000000) (implicitDefEqProofs := false) [-getElem?_pos, -getElem?_neg, oiT, lp4_3, hlt, hlt', hbo, h3, hrd, hfit, splice_more, c2, c3, c4, c5]
     refine xstep_ (rx.ext qa) be.ok tn htn late fun ga va r1 u1 _ _ => ?_
     have qo1 := qo u1
     simp (maxSteps := 2000000) (implicitDefEqProofs := false) [-getElem?_pos,-getElem?_neg,qo1]
     refine one10_ late ?_
     simp (maxSteps := 2000000) (implicitDefEqProofs := false) [-getElem?_pos,-getElem?_neg,qo1]
     have xL : ∀ i ∈ x.L,i.op = 21 → i.k ≤ 1 := by rw [be.L,eL]; exact hk21
     refine rstep_ (ry' u1) (okX_by be.sim be.ok) (fun h hr => isR_by be.sim be.ok hr) xL tn htx late fun gb Mb vb r2 y2 u2 _ _ => ?_
     simp (maxSteps := 2000000) (implicitDefEqProofs := false) [-getElem?_pos,-getElem?_neg,w2]
     obtain ⟨z1,z2,_⟩ := stepX_same ⟨_,be.sim,be.ok⟩ tn late
     exact next5.intro ⟨k + 1,gb,_,_,Mb⟩ (by simp only; omega) (oi.next hlt hNB _ r1 u1 r2 y2 u2 (be.step tn late).1 z1 z2) rfl rfl (by simp [List.forall_mem_cons,GB,oiT])
end Ex
end Go.Proofs.Ytongllppbifiaaa
