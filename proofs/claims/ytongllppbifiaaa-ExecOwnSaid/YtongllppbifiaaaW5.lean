import Derived.Test.YtongllppbifiaaaW4
namespace Go.Proofs.Ytongllppbifiaaa
namespace Abs
open Go
set_option linter.unusedVariables false
set_option linter.unusedSimpArgs false
section
variable {P : Program} {f : FuncId} {ρ : Ren} {H : AH} {w w' : World}
theorem Rel.adtStep (r : Rel ρ H w) {b : Nat} {D D' : ADT} {s : D.S} {s' : D'.S} {F' : List Nat} (hb : H[b]? = some (.adt D s)) (hr : D'.rep s' (ρ b).blk F' w') (hm : Mod (ρ b).foot w w') (hF : ∀ x ∈ F', x ∈ (ρ b).foot ∨ w.heap.size ≤ x) :
  Rel (Abs.upd ρ b ⟨(ρ b).blk,0,0,F'⟩) (H.set b (.adt D' s')) w' ∧ Next H.length ρ H w (Abs.upd ρ b ⟨(ρ b).blk,0,0,F'⟩) (H.set b (.adt D' s')) w' ∧ ∀ c,(Abs.upd ρ b ⟨(ρ b).blk,0,0,F'⟩ c).al = (ρ c).al := by
 have hold := r.holds b _ hb
 have hbl := (List.getElem?_eq_some_iff.1 hb).1
 have hfoot : (ABlk.adt D s).foot (ρ b) = (ρ b).foot := rfl
 have al : ∀ c,(Abs.upd ρ b ⟨(ρ b).blk,0,0,F'⟩ c).al = (ρ c).al := by
  intro c
  by_cases e : c = b
  ·subst e
   rw [upd_self]
   have h1 := hold.1
   have h2 := hold.2.1
   simp [CB.al,h1,h2]
  ·exact upd_al c e
 have keep : ∀ (c : Nat) (k : ABlk),H[c]? = some k → c ≠ b → ∀ x ∈ k.reach (ρ c),w'.heap[x]? = w.heap[x]? := fun c k hc hne x hx =>
  hm.block x (r.reach_lt hc x hx) (fun hm' => r.apart b c _ k hb hc (fun e => hne e.symm) x hm' hx)
 have lv : ∀ c,live (H.set b (.adt D' s')) c = live H c := live_set_iff hb (by simp) (by simp)
 refine ⟨⟨fun c k hc => ?_,fun c k hc => ?_,fun c d k l hc hd hne x hx hx' => ?_⟩,⟨fun c _ => al c,fun c _ hl => by rw [lv]; exact hl,hm.os,hm.tape,hm.output,hm.size,fun x hx hn => hm.block x hx (fun h => hn b _ hb h),fun c k hc x hx => ?_,fun c k hc x hx => ?_⟩,al⟩
 ·rcases get_set hc with ⟨rfl,rfl⟩ | ⟨hne,hc⟩
  ·rw [upd_self]
   exact ⟨rfl,rfl,hr⟩
  ·rw [upd_ne _ hne]
   exact ((r.holds c k hc).keep (keep c k hc hne)).congr (r.scope c k hc) fun d _ => al d
 ·refine ABlk.scp_mono (n := live H) (fun d hd => by rw [lv]; exact hd) ?_
  rcases get_set hc with ⟨rfl,rfl⟩ | ⟨hne,hc⟩
  ·trivial
  ·exact r.scope c k hc
 ·rcases get_set hc with ⟨rfl,rfl⟩ | ⟨hne1,hc1⟩
  ·rw [upd_self] at hx
   rcases get_set hd with ⟨rfl,rfl⟩ | ⟨hne2,hd1⟩
   ·exact hne rfl
   ·rw [upd_ne _ hne2] at hx'
    rcases hF x hx with h | h
    ·exact r.apart c d _ l hb hd1 hne x h hx'
    ·have := r.reach_lt hd1 x hx'; omega
  ·rw [upd_ne _ hne1] at hx
   rcases get_set hd with ⟨rfl,rfl⟩ | ⟨hne2,hd1⟩
   ·rw [upd_self] at hx'
    rcases hF x hx' with h | h
    ·exact r.apart c d k _ hc1 hb hne x hx h
    ·have := r.reach_lt hc1 x (foot_reach hx); omega
   ·rw [upd_ne _ hne2] at hx'
    exact r.apart c d k l hc1 hd1 hne x hx hx'
 ·rcases get_set hc with ⟨rfl,rfl⟩ | ⟨hne,hc⟩
  ·rw [upd_self] at hx
   exact (hF x hx).elim (fun h => .inr ⟨c,_,hb,h⟩) .inl
  ·rw [upd_ne _ hne] at hx
   exact .inr ⟨c,k,hc,hx⟩
 ·rcases get_set hc with ⟨rfl,rfl⟩ | ⟨hne,hc⟩
  ·rw [upd_self] at hx
   exact (hF x hx).elim (fun h => .inr ⟨c,_,hb,h⟩) .inl
  ·rw [upd_ne _ hne] at hx
   exact .inr ⟨c,k,hc,hx⟩
theorem Rel.mod0 (r : Rel ρ H w) (hm : Mod [] w w') : Rel ρ H w' ∧ Next H.length ρ H w ρ H w' :=
 ⟨⟨fun b k hb => (r.holds b k hb).keep fun x hx => hm.block x (r.reach_lt hb x hx) (by simp),r.scope,r.apart⟩,
  ⟨fun _ _ => rfl,fun _ _ h => h,hm.os,hm.tape,hm.output,hm.size,fun x hx _ => hm.block x hx (by simp),fun b k hb x hx => .inr ⟨b,k,hb,hx⟩,fun b k hb x hx => .inr ⟨b,k,hb,hx⟩⟩⟩
theorem Rel.addBlk (r : Rel ρ H w) {k : ABlk} {cb : CB} (hk : k ≠ .hole) (hn : noNames k) (hh : Holds ρ cb w k) (h1 : ∀ x ∈ k.reach cb,∀ (c : Nat) (l : ABlk),H[c]? = some l → x ∉ l.reach (ρ c)) :
  Rel (Abs.upd ρ H.length cb) (H ++ [k]) w ∧ ∀ c,c < H.length → Abs.upd ρ H.length cb c = ρ c := by
 have hole := r.hole
 have hn0 : (H ++ [ABlk.hole])[H.length]? = some .hole := by simp
 have reach : ∀ (b : Nat) (l : ABlk),(H ++ [ABlk.hole])[b]? = some l → ∀ x,x ∈ l.reach (ρ b) → x ∉ k.reach cb := by
  intro b l hb x hx hx'
  by_cases hlt : b < H.length
  ·rw [List.getElem?_append_left hlt] at hb
   exact h1 x hx' b l hb hx
  ·rw [List.getElem?_append_right (by omega)] at hb
   have := List.mem_of_getElem? hb
   simp at this
   subst this
   cases hx
 rw [push_eq]
 exact ⟨hole.fill hn0 hk (scp_noNames hn _) (hh.noNames hn) (fun _ _ _ _ _ => rfl) (fun b l hb x hx hx' => reach b l hb x (foot_reach hx) hx') (fun b l hb x hx hx' => reach b l hb x hx (foot_reach hx')),fun c hc => upd_ne c (by omega)⟩
theorem plainArgs {vs : List Value} (hp : ∀ v ∈ vs,plain v = true) {us : List Value} (hl : us.length = vs.length) {n : Nat → Bool} (h : ∀ (i : Nat) v,vs[i]? = some v → ∃ u,us[i]? = some u ∧ VR ρ n v u) : us = vs := by
 refine List.ext_getElem? fun i => ?_
 by_cases hi : i < vs.length
 ·obtain ⟨u,hu,vr⟩ := h i _ (List.getElem?_eq_getElem hi)
  rw [hu,List.getElem?_eq_getElem hi,vr.2,conc_zero ρ _ (hp _ (List.getElem_mem hi))]
 ·rw [List.getElem?_eq_none (by omega),List.getElem?_eq_none (by omega)]
theorem AC.adt (hent : enterB P f = true) {D : ADT} {s s' : D.S} {b : Nat} (hb : H[b]? = some (.adt D s)) {vs : List Value} (hvs : ∀ v ∈ vs,plain v = true) {r : Value} (hr : plain r = true) {K : Value → AH → Prop}
  (hc : ∀ (p : Nat) (F : List Nat) (w : World), D.rep s p F w → Calls P f (Value.pointer (some ⟨p, 0, none⟩) :: vs).toArray w fun e w' => e = .returned r ∧ Mod F w w' ∧ ∃ F', D.rep s' p F' w' ∧ ∀ x ∈ F', x ∈ F ∨ w.heap.size ≤ x)
  (hK : K r (H.set b (.adt D s'))) : AC P f (.pointer (some ⟨b,0,none⟩) :: vs) H K := by
 refine ⟨hent,fun ρ w us rel hsz hargs => ?_⟩
 have hold := rel.holds b _ hb
 obtain ⟨u0,hu0,vr0⟩ := hargs 0 (.pointer (some ⟨b,0,none⟩)) rfl
 have e0 : u0 = .pointer (some ⟨(ρ b).blk,0,none⟩) := by rw [vr0.2]; simp [conc,cAddr,hold.1]
 obtain ⟨us⟩ := us
 cases us with
 | nil => simp at hsz
 | cons u us =>
  simp at hu0 hsz
  subst hu0 e0
  have e1 := plainArgs (ρ := ρ) hvs (us := us) (by simpa using hsz) (n := live H) fun i v hv => by
   obtain ⟨u,hu,vr⟩ := hargs (i + 1) v (by simpa using hv)
   exact ⟨u,by simpa using hu,vr⟩
  subst e1
  refine (hc (ρ b).blk (ρ b).foot w hold.2.2).mono ?_
  rintro e w' ⟨rfl, hm, F', hr', hF⟩
  obtain ⟨r1,nx,al⟩ := rel.adtStep hb hr' hm hF
  exact ⟨r,r,_,_,rfl,VR.plain hr,hK,r1,nx,by simp⟩
theorem AC.adtNew (hent : enterB P f = true) {D : ADT} {s : D.S} {vs : List Value} (hvs : ∀ v ∈ vs,plain v = true) {rest : List Value} (hrest : ∀ v ∈ rest,plain v = true) {K : Value → AH → Prop}
  (hc : ∀ (w : World),Calls P f vs.toArray w fun e w' => Mod [] w w' ∧ ∃ p F,e = .returned (oneOf (.pointer (some ⟨p,0,none⟩) :: rest)) ∧ D.rep s p F w' ∧ ∀ x ∈ F,w.heap.size ≤ x)
  (hK : K (oneOf (.pointer (some ⟨H.length,0,none⟩) :: rest)) (H ++ [.adt D s])) : AC P f vs H K := by
 refine ⟨hent,fun ρ w us rel hsz hargs => ?_⟩
 obtain ⟨us⟩ := us
 have e1 := plainArgs (ρ := ρ) hvs (us := us) (by simpa using hsz) (n := live H) fun i v hv => by
  obtain ⟨u,hu,vr⟩ := hargs i v hv
  exact ⟨u,by simpa using hu,vr⟩
 subst e1
 refine (hc w).mono ?_
 rintro e w' ⟨hm,p,F,rfl,hr,hF⟩
 obtain ⟨r1,nx1⟩ := rel.mod0 hm
 obtain ⟨r2,hρ⟩ := r1.addBlk (k := .adt D s) (cb := ⟨p,0,0,F⟩) (by simp) trivial ⟨rfl,rfl,hr⟩ fun x hx c l hl hx' => by
  have h1 := hF x hx
  have h2 := rel.reach_lt hl x hx'
  omega
 have hlv : live (H ++ [.adt D s]) H.length = true := live_of (k := .adt D s) (by simp) (by simp)
 have hv : VR (Abs.upd ρ H.length ⟨p,0,0,F⟩) (live (H ++ [.adt D s])) (oneOf (.pointer (some ⟨H.length,0,none⟩) :: rest)) (oneOf (.pointer (some ⟨p,0,none⟩) :: rest)) := by
  have hp : VR (Abs.upd ρ H.length ⟨p,0,0,F⟩) (live (H ++ [.adt D s])) (.pointer (some ⟨H.length,0,none⟩)) (.pointer (some ⟨p,0,none⟩)) := ⟨by simpa [scp] using hlv,by simp [conc,cAddr,upd_self]⟩
  cases rest with
  | nil => exact hp
  | cons v l =>
   rw [oneOf_more,oneOf_more]
   refine ⟨?_, ?_⟩
   ·show scpL _ (_ :: v :: l) = true
    have := hrest v (by simp)
    simp only [scpL,Bool.and_eq_true]
    refine ⟨hp.1, ?_⟩
    rw [scpL_all,List.all_eq_true]
    exact ⟨scp_mono (fun b hb => by cases hb) v this,fun y hy => scp_mono (fun b hb => by cases hb) y (hrest y (by simp [hy]))⟩
   ·have hl : l.map (conc (Abs.upd ρ H.length ⟨p,0,0,F⟩)) = l := (List.map_congr_left fun y hy => conc_zero _ y (hrest y (by simp [hy]))).trans (List.map_id l)
    show _ = conc _ (.tuple ⟨_ :: v :: l⟩)
    simp only [conc,concA,concL_map,List.map_cons,hl,conc_zero _ v (hrest v (by simp))]
    have := hp.2
    simp only [conc] at this
    rw [← this]
 refine ⟨_,_,_,_,rfl,hv,hK,r2, ?_,by simp⟩
 refine ⟨fun c hc => by rw [hρ c hc],fun c hc hl => live_push c hl,nx1.os,nx1.tape,nx1.output,nx1.size,nx1.keep,fun c k hc x hx => ?_,fun c k hc x hx => ?_⟩
 all_goals
  by_cases hlt : c < H.length
  ·rw [List.getElem?_append_left hlt] at hc
   rw [hρ c hlt] at hx
   exact .inr ⟨c,k,hc,hx⟩
  ·rw [List.getElem?_append_right (by omega)] at hc
   have hc' := (List.getElem?_eq_some_iff.1 hc).1
   simp at hc'
   obtain rfl : c = H.length := by omega
   simp at hc
   subst hc
   rw [upd_self] at hx
   exact .inl (hF x hx)
end
end Abs
end Go.Proofs.Ytongllppbifiaaa
