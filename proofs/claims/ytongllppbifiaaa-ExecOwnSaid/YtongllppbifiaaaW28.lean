import Derived.Test.YtongllppbifiaaaW27
namespace Go.Proofs.Ytongllppbifiaaa
namespace Ex
open Go Abs Code
open Px (natV natV_length natV_get VecV nm u32w i64w PS poolB outG)
attribute [local simp] DN5 HA DN NB begT atHead kd wantedA evP evR evF evL evC evI evBin evUn evEq evSt evRes plain scp scpA scpL rdRow_eq RV rdCells veq veqA veqL isHole Value.cells evalL optI evBounds evFill evFillR evApp newsOf wrCells one1 fitsApp evClr undef onB_bool List.getElem?_concat_length List.getElem?_cons_zero List.getElem?_cons_succ List.getElem?_toArray List.getElem?_nil List.set_cons_zero List.set_cons_succ List.cons_append List.nil_append
set_option linter.unusedVariables false
set_option linter.unusedSimpArgs false
set_option maxRecDepth 100000
theorem AC.adtRow {P : Program} {f : Nat} (hent : enterB P f = true) {D : ADT} {s : D.S} {b : Nat} {H : AH} (hb : H[b]? = some (.adt D s)) {vs : List Value} (hvs : ∀ v ∈ vs,plain v = true) {row : List Value} {e : TypeId} (hrow : ∀ v ∈ row,plain v = true) (hlen : row.length < OPEN) {K : Value → AH → Prop}
  (hc : ∀ (p : Nat) (F : List Nat) (w : World),D.rep s p F w → Calls P f (Value.pointer (some ⟨p,0,none⟩) :: vs).toArray w fun ex w' => ∃ g,ex = .returned (.slice (some ⟨g,0,none⟩) row.length row.length) ∧ w.heap.size ≤ g ∧ Blk w' g e row ∧ Mod [] w w')
  (hK : K (.slice (some ⟨H.length,0,none⟩) row.length row.length) (H ++ [.cells row e none])) : AC P f (.pointer (some ⟨b,0,none⟩) :: vs) H K := by
 refine ⟨hent,fun ρ w us rel hsz hargs => ?_⟩
 have hold := rel.holds b _ hb
 obtain ⟨u0,hu0,vr0⟩ := hargs 0 (.pointer (some ⟨b,0,none⟩)) rfl
 have e0 : u0 = .pointer (some ⟨(ρ b).blk,0,none⟩) := by rw [vr0.2]; simp [conc,cAddr,hold.1]
 obtain ⟨us⟩ := us
 cases us with
 | nil => simp at hsz
 | cons u us =>
  simp at hu0 hsz
  subst hu0 e0
  have e1 := plainArgs (ρ := ρ) hvs (us := us) (by simpa using hsz) (n := live H) fun i v hv => by
   obtain ⟨u,hu,vr⟩ := hargs (i + 1) v (by simpa using hv)
   exact ⟨u,by simpa using hu,vr⟩
  subst e1
  refine (hc (ρ b).blk (ρ b).foot w hold.2.2).mono ?_
  rintro ex w' ⟨g,rfl,hg,hbk,hm⟩
  obtain ⟨r1,nx1⟩ := rel.mod0 hm
  have hcr : row.map (conc ρ) = row := (List.map_congr_left fun y hy => conc_zero _ y (hrow y hy)).trans (List.map_id row)
  obtain ⟨r2,hρ⟩ := r1.addBlk (k := .cells row e none) (cb := ⟨g,0,0,[]⟩) (by simp) hrow ⟨[],[],by rw [hcr]; unfold Blk at hbk; simpa using hbk,rfl,rfl,fun _ => ⟨rfl,rfl⟩⟩ fun x hx c l hl hx' => by
   have h2 := rel.reach_lt hl x hx'
   simp [ABlk.reach] at hx
   omega
  have hlv : live (H ++ [ABlk.cells row e none]) H.length = true := live_of (k := .cells row e none) (by simp) (by simp)
  have hv : VR (Abs.upd ρ H.length ⟨g,0,0,[]⟩) (live (H ++ [ABlk.cells row e none])) (.slice (some ⟨H.length,0,none⟩) row.length row.length) (.slice (some ⟨g,0,none⟩) row.length row.length) := by
   refine ⟨by simpa [scp] using hlv, ?_⟩
   simp [conc,cAddr,upd_self,cCap,hlen]
  refine ⟨_,_,_,_,rfl,hv,hK,r2, ?_,by simp⟩
  refine ⟨fun c hc => by rw [hρ c hc],fun c hc hl => live_push c hl,nx1.os,nx1.tape,nx1.output,nx1.size,nx1.keep,fun c k hc x hx => ?_,fun c k hc x hx => ?_⟩
  all_goals
   by_cases hlt : c < H.length
   ·rw [List.getElem?_append_left hlt] at hc
    rw [hρ c hlt] at hx
    exact .inr ⟨c,k,hc,hx⟩
   ·rw [List.getElem?_append_right (by omega)] at hc
    have hc' := (List.getElem?_eq_some_iff.1 hc).1
    simp at hc'
    obtain rfl : c = H.length := by omega
    simp at hc
    subst hc
    rw [upd_self] at hx
    simp [ABlk.reach,ABlk.foot] at hx
    exact .inl (by omega)
set_option maxHeartbeats 2000000 in
theorem xthreads_ {H : AH} {N : Nm} {s : ES PS} (r : XAt H N s) {K : Value → AH → Prop} (hK : K (.int .i64 (s.cs.length : Nat)) H) : AC Try.prog 38 [.pointer (some ⟨N.x,0,none⟩)] H K := by
 refine entry hmix cf38 ?_
 have hb := r.box
 simp (maxSteps := 2000000) (implicitDefEqProofs := false) [-getElem?_pos,-getElem?_neg,hb]
 exact hK
set_option maxHeartbeats 2000000 in
theorem xout_ {H : AH} {N : Nm} {s : ES PS} (r : XAt H N s) (t : Int) {K : Value → AH → Prop} (hK : K (.int .i64 (Px.outV s.pl t : Nat)) H) : AC Try.prog 40 [.pointer (some ⟨N.x,0,none⟩),.int .i64 t] H K := by
 refine entry hmix cf40 ?_
 have hb := r.box
 simp (maxSteps := 2000000) (implicitDefEqProofs := false) [-getElem?_pos,-getElem?_neg,hb]
 refine outG t r.pool ?_
 simp (maxSteps := 2000000) (implicitDefEqProofs := false) [-getElem?_pos,-getElem?_neg]
 exact hK
set_option maxHeartbeats 2000000 in
theorem xcore_ {H : AH} {N : Nm} {s : ES PS} (r : XAt H N s) (t : Nat) {c : Co} (hc : s.cs[t]? = some c) {K : Value → AH → Prop} (hK : ∀ X,K (.agg c.cs.toArray) (H ++ [X])) : AC Try.prog 13 [.pointer (some ⟨N.x,0,none⟩),.int .i64 t] H K := by
 refine entry hmix cf13 ?_
 have ht : t < s.cs.length := (List.getElem?_eq_some_iff.1 hc).1
 have cok := r.ok.cores c (List.mem_of_getElem? hc)
 have hcl := cs_length cok.len
 have hct := cs_take cok.len
 have hone := cs_one c
 have hrow := rowC_at r.ok.cores hc
 have hfit : t * 9 + 9 ≤ (rowC s.cs).length := by rw [rowC_length r.ok.cores]; omega
 have htl : (t : Int) < s.cs.length := by omega
 have hsp : splice zero9 0 c.cs = c.cs := cs_splice cok.len rfl
 have f0 : ∀ tl,(H ++ tl)[N.x]? = _ := fun tl => getA r.box tl
 have f1 : ∀ tl,(H ++ tl)[N.bc]? = _ := fun tl => getA r.cores tl
 simp (maxSteps := 2000000) (implicitDefEqProofs := false) [-getElem?_pos,-getElem?_neg,f0,f1,hrow,hfit,ht,htl,hcl,hct,hone,hsp]
 exact hK _
theorem cwords_ {H : AH} {b : Nat} {ws : List Nat} (hb : H[b]? = some (cellsB ws)) {K : Value → AH → Prop} (hK : K (.slice (some ⟨H.length,0,none⟩) ws.length ws.length) (H ++ [.cells (w32 ws) 49 none])) (hl : ws.length < OPEN) : AC Try.prog 27 [.pointer (some ⟨b,0,none⟩)] H K := by
 have wl := w32_length ws
 have pl : ∀ v ∈ w32 ws,plain v = true := by
  intro v hv
  unfold w32 at hv
  obtain ⟨n,_,rfl⟩ := List.mem_map.1 hv
  rfl
 refine AC.adtRow (row := w32 ws) (e := 49) (by kernel_rfl) hb (by simp) pl (by rw [wl]; exact hl) ?_ (by rw [wl]; exact hK)
 rintro p F w ⟨d,rfl,hc,hl⟩
 refine (cells_words p d (zs ws) w hc (by rw [zs_length]; omega)).mono ?_
 rintro ex w' ⟨g,rfl,hg,hbk,hm⟩
 have e1 : (zs ws).map (Value.int .u32) = w32 ws := by simp [zs,w32]
 rw [zs_length]
 rw [e1] at hbk
 exact ⟨g,by rw [wl],hg,hbk,hm⟩
set_option maxHeartbeats 2000000 in
theorem xwords_ {H : AH} {N : Nm} {s : ES PS} (r : XAt H N s) {K : Value → AH → Prop} (hK : K (.slice (some ⟨H.length,0,none⟩) s.ws.length s.ws.length) (H ++ [.cells (w32 s.ws) 49 none])) : AC Try.prog 11 [.pointer (some ⟨N.x,0,none⟩)] H K := by
 refine entry hmix cf11 ?_
 have hb := r.box
 have hm := r.mem.box
 simp (maxSteps := 2000000) (implicitDefEqProofs := false) [-getElem?_pos,-getElem?_neg,hb,hm]
 have hsum := sum_take_le s.ns r.mem.ok.small s.ns.length
 rw [List.take_length] at hsum
 have hfew := r.mem.ok.few
 have hwl := r.ok.sum
 refine cwords_ r.cells ?_ (by unfold OPEN; omega)
 simp (maxSteps := 2000000) (implicitDefEqProofs := false) [-getElem?_pos,-getElem?_neg]
 exact hK
end Ex
end Go.Proofs.Ytongllppbifiaaa
namespace Go.Proofs.Ytongllppbifiaaa
namespace Ex
open Go Abs Code
open Px (natV natV_length natV_get VecV nm u32w i64w PS poolB outG)
attribute [local simp] DN5 HA DN NB begT atHead kd wantedA evP evR evF evL evC evI evBin evUn evEq evSt evRes plain scp scpA scpL rdRow_eq RV rdCells veq veqA veqL isHole Value.cells evalL optI evBounds evFill evFillR evApp newsOf wrCells one1 fitsApp evClr undef onB_bool List.getElem?_concat_length List.getElem?_cons_zero List.getElem?_cons_succ List.getElem?_toArray List.getElem?_nil List.set_cons_zero List.set_cons_succ List.cons_append List.nil_append
set_option linter.unusedVariables false
set_option linter.unusedSimpArgs false
set_option maxRecDepth 100000
theorem clone_app {H : AH} {b es n cap : Nat} {l : List Value} (hr : rdRow H b = some l) (hl : l.length = n * es) (hone : l.all one1 = true) (h0 : 0 < n) (he : 0 < es) {bytes : Nat} (hf : n ≤ 4294967296) (hf2 : n * bytes ≤ 140737488355328) (e e0 : TypeId) :
  ∀ (t : T) (s x : Operand),evalO t s = some (.slice (some ⟨H.length,0,none⟩) 0 0) → evalO t x = some (.slice (some ⟨b,0,none⟩) n cap) → evApp t (H ++ [.cells [] e0 none]) e es bytes s x = some (.slice (some ⟨H.length + 1,0,none⟩) n (OPEN + n),H ++ [.cells [] e0 none,.cells l e (some es)]) := by
 intro t s x hs hx
 have a0 : (H ++ [ABlk.cells [] e0 none])[b]? = H[b]? := by
  have hb : b < H.length := by
   unfold rdRow at hr
   cases h : H[b]? with
   | none => rw [h] at hr; cases hr
   | some k => exact lt_get h
  exact List.getElem?_append_left hb
 have a1 : rdCells (H ++ [ABlk.cells [] e0 none]) b 0 (n * es) = some l := by
  have : rdRow (H ++ [ABlk.cells [] e0 none]) b = some l := by
   unfold rdRow at hr ⊢
   rw [a0]
   exact hr
  unfold rdCells
  rw [this]
  simp only [Nat.zero_add,List.drop_zero]
  rw [if_pos (by omega),List.take_of_length_le (by omega)]
 have a2 : rdCells (H ++ [ABlk.cells [] e0 none]) H.length 0 0 = some [] := by simp [rdCells,rdRow]
 have a3 : (0 : Nat) < OPEN := by unfold OPEN; omega
 have a4 : ¬ n = 0 := by omega
 have a5 : newsOf t (H ++ [.cells [] e0 none]) es x = some (n,l) := by
  unfold newsOf
  rw [hx]
  simp only [a1,hone,if_true]
 unfold evApp
 rw [hs,a5]
 simp only [capLow,a3,if_true,a4,if_false,Nat.zero_add,Nat.zero_mul]
 rw [if_neg (by omega),if_pos ⟨by omega,by simp [fitsApp,he,hf,hf2]⟩]
 simp [a2]
set_option maxHeartbeats 2000000 in
theorem iclone_ {H : AH} {b n : Nat} {cap : Nat} {l : List Value} (hn : l.length = n) (h0 : 0 < n) (hf : n ≤ 4294967296) (hone : l.all one1 = true) (hb : rdRow H b = some l) {K : Value → AH → Prop} (hK : K (.slice (some ⟨H.length + 1,0,none⟩) n (OPEN + n)) (H ++ [.cells [] 3 none,.cells l 3 (some 1)])) : AC Try.prog 47 [.slice (some ⟨b,0,none⟩) n cap] H K := by
 refine entry hmix cf47 ?_
 have a1 := clone_app (cap := cap) (es := 1) (bytes := 8) hb (by omega) hone h0 (by omega) hf (by omega) 3 3
 simp (maxSteps := 2000000) (implicitDefEqProofs := false) [-getElem?_pos,-getElem?_neg,-evApp,-newsOf,a1]
 exact hK
set_option maxHeartbeats 2000000 in
theorem iclone0_ {H : AH} {K : Value → AH → Prop} (hK : K (.slice none 0 0) H) : AC Try.prog 47 [.slice none 0 0] H K := by
 refine entry hmix cf47 ?_
 simp (maxSteps := 2000000) (implicitDefEqProofs := false) [-getElem?_pos,-getElem?_neg]
 exact hK
set_option maxHeartbeats 2000000 in
theorem lclone_ {H : AH} {b n : Nat} {cap : Nat} {l : List Value} (hn : l.length = n * 8) (h0 : 0 < n) (hf : n ≤ 4294967296) (hone : l.all one1 = true) (hb : rdRow H b = some l) {K : Value → AH → Prop} (hK : K (.slice (some ⟨H.length + 1,0,none⟩) n (OPEN + n)) (H ++ [.cells [] 55 none,.cells l 55 (some 8)])) : AC Try.prog 53 [.slice (some ⟨b,0,none⟩) n cap] H K := by
 refine entry hmix cf53 ?_
 have a1 := clone_app (cap := cap) (es := 8) (bytes := 64) hb hn hone h0 (by omega) hf (by omega) 55 55
 simp (maxSteps := 2000000) (implicitDefEqProofs := false) [-getElem?_pos,-getElem?_neg,-evApp,-newsOf,a1]
 exact hK
theorem rdRow_app {H : AH} {b : Nat} {l : List Value} (h : rdRow H b = some l) (tl : AH) : rdRow (H ++ tl) b = some l := by
 have hb : b < H.length := by
  unfold rdRow at h
  cases e : H[b]? with
  | none => rw [e] at h; cases h
  | some k => exact lt_get e
 unfold rdRow at h ⊢
 rw [List.getElem?_append_left hb]
 exact h
set_option maxHeartbeats 2000000 in
theorem copy_ {H : AH} {b n : Nat} {cap : Nat} {l : List Value} (hn : l.length = n * 8) (h0 : 0 < n) (hf : n ≤ 4294967296) (hone : l.all one1 = true) (hb : rdRow H b = some l) (lk uk : Int) {K : Value → AH → Prop} (hK : ∀ tl,(H ++ tl)[H.length + 3]? = some (.cells l 55 (some 8)) → K (.agg #[.slice (some ⟨H.length + 3,0,none⟩) n (OPEN + n),.int .i64 lk,.int .i64 uk]) (H ++ tl)) : AC Try.prog 25 [.agg #[.slice (some ⟨b,0,none⟩) n cap,.int .i64 lk,.int .i64 uk]] H K := by
 refine entry hmix cf25 ?_
 simp (maxSteps := 2000000) (implicitDefEqProofs := false) [-getElem?_pos,-getElem?_neg]
 refine lclone_ hn h0 hf hone (rdRow_app hb _) ?_
 have fin : ∀ X Y Z,K (.agg #[.slice (some ⟨H.length + 3,0,none⟩) n (OPEN + n),.int .i64 lk,.int .i64 uk]) (H ++ [X,Y,Z,.cells l 55 (some 8)]) := fun X Y Z => hK _ (by rw [HA.1]; rfl)
 simp (maxSteps := 2000000) (implicitDefEqProofs := false) [-getElem?_pos,-getElem?_neg,splice_more,List.length_append,List.append_assoc,List.length_cons,List.length_nil]
 exact fin _ _ _
inductive ArgRow (H : AH) (v : Value) (l : List Value) (n : Nat) : Prop
 | none : l = [] → n = 0 → (v = .slice none 0 0 ∨ ∃ b cap d,v = .slice (some ⟨b,0,some d⟩) 0 cap) → ArgRow H v l n
 | row (b cap : Nat) (X : ABlk) : v = .slice (some ⟨b,0,none⟩) n cap → H[b]? = some X → rowVs X = some l → ArgRow H v l n
theorem ArgRow.form {H : AH} {v : Value} {l : List Value} {n : Nat} (r : ArgRow H v l n) : ∃ A C,v = .slice A n C := by
 cases r with
 | none h1 h2 h3 =>
  rcases h3 with h3 | ⟨b,cap,d,h3⟩
  ·exact ⟨Option.none,0,by rw [h2]; exact h3⟩
  ·exact ⟨_,_,by rw [h2]; exact h3⟩
 | row b cap X h1 h2 h3 => exact ⟨_,_,h1⟩
set_option maxHeartbeats 2000000 in
theorem iclone1_ {H : AH} {b cap : Nat} (hb : rdRow H b = some []) {K : Value → AH → Prop} (hK : K (.slice (some ⟨H.length,0,none⟩) 0 0) (H ++ [.cells [] 3 none])) : AC Try.prog 47 [.slice (some ⟨b,0,none⟩) 0 cap] H K := by
 refine entry hmix cf47 ?_
 have a1 : ∀ (t : T) (s x : Operand),evalO t s = some (.slice (some ⟨H.length,0,none⟩) 0 0) → evalO t x = some (.slice (some ⟨b,0,none⟩) 0 cap) → evApp t (H ++ [.cells [] 3 none]) 3 1 8 s x = some (.slice (some ⟨H.length,0,none⟩) 0 0,H ++ [.cells [] 3 none]) := by
  intro t s x hs hx
  have a0 := rdRow_app hb [ABlk.cells [] 3 none]
  have a5 : newsOf t (H ++ [.cells [] 3 none]) 1 x = some (0,[]) := by
   unfold newsOf
   rw [hx]
   simp [-rdRow_eq,rdCells,a0]
  unfold evApp
  rw [hs,a5]
  simp [capLow]
 simp (maxSteps := 2000000) (implicitDefEqProofs := false) [-getElem?_pos,-getElem?_neg,-evApp,-newsOf,a1]
 exact hK
set_option maxHeartbeats 2000000 in
theorem iclone2_ {H : AH} {b cap d : Nat} {K : Value → AH → Prop} (hK : K (.slice (some ⟨H.length,0,none⟩) 0 0) (H ++ [.cells [] 3 none])) : AC Try.prog 47 [.slice (some ⟨b,0,some d⟩) 0 cap] H K := by
 refine entry hmix cf47 ?_
 have a1 : ∀ (t : T) (s x : Operand),evalO t s = some (.slice (some ⟨H.length,0,none⟩) 0 0) → evalO t x = some (.slice (some ⟨b,0,some d⟩) 0 cap) → evApp t (H ++ [.cells [] 3 none]) 3 1 8 s x = some (.slice (some ⟨H.length,0,none⟩) 0 0,H ++ [.cells [] 3 none]) := by
  intro t s x hs hx
  have a5 : newsOf t (H ++ [.cells [] 3 none]) 1 x = some (0,[]) := by
   unfold newsOf
   rw [hx]
   rfl
  unfold evApp
  rw [hs,a5]
  simp [capLow]
 simp (maxSteps := 2000000) (implicitDefEqProofs := false) [-getElem?_pos,-getElem?_neg,-evApp,-newsOf,a1]
 exact hK
theorem iclone {H : AH} {v : Value} {l : List Value} (r : ArgRow H v l l.length) (hone : l.all one1 = true) (hf : l.length ≤ 4294967296) {K : Value → AH → Prop} (hK : ∀ g vs,Ext H g → SlV g vs l 3 → (∀ c ∈ nm vs,H.length ≤ c) → K vs g) : AC Try.prog 47 [v] H K := by
 cases r with
 | none h1 _ h2 =>
  subst h1
  rcases h2 with rfl | ⟨b,cap,d,rfl⟩
  ·exact iclone0_ (hK _ _ (Ext.refl H) (.vec (.nil rfl rfl)) (fun c hc => by cases hc))
  ·refine iclone2_ (hK _ _ (Ext.app _ _) (.zero H.length (.cells [] 3 none) rfl rfl ?_) fun c hc => ?_)
   ·rw [HA.2.1]; rfl
   ·simp [nm] at hc; omega
 | row b cap X h1 h2 h3 =>
  subst h1
  have h2 : rdRow H b = some l := by rw [rdRow_eq,h2]; exact h3
  by_cases h0 : 0 < l.length
  ·refine iclone_ rfl h0 hf hone h2 (hK _ _ (Ext.app _ _) (.vec (.row (H.length + 1) (fun h => by rw [h] at h0; cases h0) rfl ?_)) fun c hc => ?_)
   ·rw [HA.1]; rfl
   ·simp [nm] at hc; omega
  ·have e : l = [] := List.eq_nil_of_length_eq_zero (by omega)
   subst e
   refine iclone1_ h2 (hK _ _ (Ext.app _ _) (.zero H.length (.cells [] 3 none) rfl rfl ?_) fun c hc => ?_)
   ·rw [HA.2.1]; rfl
   ·simp [nm] at hc; omega
end Ex
end Go.Proofs.Ytongllppbifiaaa
