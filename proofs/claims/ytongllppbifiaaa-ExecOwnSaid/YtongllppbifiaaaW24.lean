import Derived.Test.YtongllppbifiaaaW21
import Derived.Test.YtongllppbifiaaaW15
import Derived.Test.YtongllppbifiaaaW22
import Derived.Test.YtongllppbifiaaaW23
namespace Go.Proofs.Ytongllppbifiaaa
namespace Ex
open Go Abs
open Px (PS XS Sim OkP takeH takeS takeE freeE freeS takeR takeRS takeRE backE backRS)
set_option linter.unusedVariables false
set_option linter.unusedSimpArgs false
def addrM (ns : List Nat) (a : Int) (v : Nat) : Option Nat :=
 if a < 0 then none else match ns[a.toNat]? with
  | some n => if v % 4096 < n then some ((ns.take a.toNat).sum + v % 4096) else none
  | none => none
structure OutR where
 ms : List Nat
 done : Int
 addr : Int
 wrote : Bool
 stay : Bool
 e : Int
def trapO : OutR := ⟨[],-1,-1,false,false,11⟩
structure AccR where
 c : Co
 ws : List Nat
 wrote : Bool
 stay : Bool
def accC (c : Co) (i : In) (ws : List Nat) (a : Nat) (late : Bool) : AccR :=
 let w := (ws[a]?).getD 0
 if i.op = 16 then ⟨c.next.put i.d w,ws,false,false⟩
 else if i.op = 17 then ⟨c.next,ws.set a (c.at i.t),true,false⟩
 else if i.op = 18 then ⟨c.next.put i.d w,ws.set a (c.at i.t),true,false⟩
 else if i.op = 19 then (if w = c.at i.t then ⟨c.next.put i.d 1,ws.set a (c.at i.u),true,false⟩ else ⟨c.next.put i.d 0,ws,false,false⟩)
 else if i.op = 20 then ⟨c.next.put i.d w,ws.set a ((w + i.k) % 4294967296),true,false⟩
 else if (decide (w = c.at i.t)) = decide (i.k = 0) then ⟨c.next.put i.d w,ws,false,false⟩
 else if late = false ∨ i.to < 0 then ⟨c.put i.d w,ws,false,true⟩
 else ⟨(c.put i.d w).go i.to,ws,false,false⟩
structure ES (Pl : Type) where
 L : List In
 lk : Int
 uk : Int
 ns : List Nat
 ws : List Nat
 pl : Pl
 cs : List Co
structure PoolOps (Pl : Type) where
 take : Pl → Int → Nat × Pl
 back : Pl → Nat → Int × Pl
def goOn {Pl : Type} (s : ES Pl) (t : Nat) (c : Co) (addr : Int) (wrote : Bool) : ES Pl × OutR :=
 ({ s with cs := s.cs.set t (runC s.L t c).c },⟨(runC s.L t c).ms,(runC s.L t c).done,addr,wrote,false,(runC s.L t c).e⟩)
def beginX {Pl : Type} (s : ES Pl) (t : Nat) (unlock : Bool) : ES Pl × OutR := match s.cs[t]? with
 | some c => goOn s t (c.go (if unlock then s.uk else s.lk)) (-1) false
 | none => (s,trapO)
def stepX {Pl : Type} (O : PoolOps Pl) (s : ES Pl) (t : Nat) (late : Bool) : ES Pl × OutR := match s.cs[t]? with
 | none => (s,trapO)
 | some c => match fetch s.L c.pc with
  | none => (s,trapO)
  | some i =>
   if i.op < 16 then (s,trapO)
   else if i.op = 22 then goOn { s with pl := (O.take s.pl t).2 } t (c.next.put i.d (O.take s.pl t).1) (-1) false
   else if i.op = 23 then (if (O.back s.pl (c.at i.s)).1 = 0 then goOn { s with pl := (O.back s.pl (c.at i.s)).2 } t c.next (-1) false else (s,trapO))
   else match addrM s.ns i.a (c.at i.s) with
    | none => (s,trapO)
    | some a =>
     let r := accC c i s.ws a late
     if r.stay then ({ s with cs := s.cs.set t r.c },⟨[],-1,a,r.wrote,true,0⟩)
     else goOn { s with ws := r.ws } t r.c a r.wrote
def opsP : PoolOps PS := ⟨fun s t => (takeH s t,takeS s t),fun s h => (freeE s h,freeS s h)⟩
def opsR : PoolOps XS := ⟨fun s t => (takeR s t,takeRS s t),fun s h => (backE s h,if backE s h = 0 then backRS s h else s)⟩
structure Beside (p : ES PS) (x : ES XS) : Prop where
 L : x.L = p.L
 lk : x.lk = p.lk
 uk : x.uk = p.uk
 ns : x.ns = p.ns
 ws : x.ws = p.ws
 cs : x.cs = p.cs
 ok : OkP p.pl
 sim : Sim p.pl x.pl
theorem Beside.out {p : ES PS} {x : ES XS} (b : Beside p x) : ∃ pl,x = ⟨p.L,p.lk,p.uk,p.ns,p.ws,pl,p.cs⟩ := by
 obtain ⟨h1,h2,h3,h4,h5,h6,_,_⟩ := b
 obtain ⟨a1,a2,a3,a4,a5,a6,a7⟩ := x
 simp only at h1 h2 h3 h4 h5 h6
 subst h1 h2 h3 h4 h5 h6
 exact ⟨a6,rfl⟩
theorem Beside.of {L : List In} {lk uk : Int} {ns ws : List Nat} {cs : List Co} {pl : PS} {xl : XS} (ok : OkP pl) (sim : Sim pl xl) : Beside ⟨L,lk,uk,ns,ws,pl,cs⟩ ⟨L,lk,uk,ns,ws,xl,cs⟩ := ⟨rfl,rfl,rfl,rfl,rfl,rfl,ok,sim⟩
theorem Beside.goOn {L : List In} {lk uk : Int} {ns ws : List Nat} {cs : List Co} {pl : PS} {xl : XS} (ok : OkP pl) (sim : Sim pl xl) (t : Nat) (c : Co) (a : Int) (w : Bool) : Beside (Ex.goOn ⟨L,lk,uk,ns,ws,pl,cs⟩ t c a w).1 (Ex.goOn ⟨L,lk,uk,ns,ws,xl,cs⟩ t c a w).1 ∧ (Ex.goOn (⟨L,lk,uk,ns,ws,pl,cs⟩ : ES PS) t c a w).2 = (Ex.goOn (⟨L,lk,uk,ns,ws,xl,cs⟩ : ES XS) t c a w).2 :=
 ⟨Beside.of ok sim,rfl⟩
theorem Beside.begin {p : ES PS} {x : ES XS} (b : Beside p x) (t : Nat) (u : Bool) : Beside (beginX p t u).1 (beginX x t u).1 ∧ (beginX p t u).2 = (beginX x t u).2 := by
 obtain ⟨xl,rfl⟩ := b.out
 obtain ⟨L,lk,uk,ns,ws,pl,cs⟩ := p
 unfold beginX
 simp only
 cases cs[t]? with
 | none => exact ⟨b,rfl⟩
 | some c => exact Beside.goOn b.ok b.sim t _ _ _
theorem Beside.step {p : ES PS} {x : ES XS} (b : Beside p x) (t : Nat) (late : Bool) : Beside (stepX opsP p t late).1 (stepX opsR x t late).1 ∧ (stepX opsP p t late).2 = (stepX opsR x t late).2 := by
 obtain ⟨xl,rfl⟩ := b.out
 obtain ⟨L,lk,uk,ns,ws,pl,cs⟩ := p
 have ok := b.ok
 have sim := b.sim
 simp only at ok sim
 unfold stepX
 simp only
 cases cs[t]? with
 | none => exact ⟨b,rfl⟩
 | some c =>
  simp only
  cases hf : fetch L c.pc with
  | none => exact ⟨b,rfl⟩
  | some i =>
   simp only
   by_cases c1 : i.op < 16
   ·rw [if_pos c1,if_pos c1]; exact ⟨b,rfl⟩
   rw [if_neg c1,if_neg c1]
   by_cases c2 : i.op = 22
   ·rw [if_pos c2,if_pos c2]
    have e : (opsR.take xl t).1 = (opsP.take pl t).1 := sim.takeH t
    rw [e]
    obtain ⟨s2,ok2⟩ := sim.take ok t
    exact Beside.goOn ok2 s2 t _ _ _
   rw [if_neg c2,if_neg c2]
   by_cases c3 : i.op = 23
   ·rw [if_pos c3,if_pos c3]
    have e : (opsR.back xl (c.at i.s)).1 = (opsP.back pl (c.at i.s)).1 := sim.freeE ok _
    rw [e]
    by_cases c4 : (opsP.back pl (c.at i.s)).1 = 0
    ·rw [if_pos c4,if_pos c4]
     obtain ⟨s2,ok2⟩ := sim.free' ok (c.at i.s)
     have c5 : backE xl (c.at i.s) = 0 := e.trans c4
     have e2 : (opsR.back xl (c.at i.s)).2 = backRS xl (c.at i.s) := by simp only [opsR,c5,if_true]
     rw [e2]
     exact Beside.goOn ok2 s2 t _ _ _
    ·rw [if_neg c4,if_neg c4]; exact ⟨b,rfl⟩
   rw [if_neg c3,if_neg c3]
   cases ha : addrM ns i.a (c.at i.s) with
   | none => exact ⟨b,rfl⟩
   | some a =>
    simp only
    by_cases c4 : (accC c i ws a late).stay = true
    ·rw [if_pos c4,if_pos c4]
     exact ⟨Beside.of ok sim,rfl⟩
    ·rw [if_neg c4,if_neg c4]
     exact Beside.goOn ok sim t _ _ _
end Ex
end Go.Proofs.Ytongllppbifiaaa
namespace Go.Proofs.Ytongllppbifiaaa
namespace Ex
open Go Abs
open Px (VecV)
set_option linter.unusedVariables false
set_option linter.unusedSimpArgs false
set_option maxRecDepth 100000
def zs (ws : List Nat) : List Int := List.map (fun (n : Nat) => (n : Int)) ws
theorem zs_length (ws : List Nat) : (zs ws).length = ws.length := by simp [zs]
theorem zs_get {ws : List Nat} {i x : Nat} (h : ws[i]? = some x) : (zs ws)[i]? = some (x : Int) := by simp [zs,h]
theorem zs_set (ws : List Nat) (i v : Nat) : (zs ws).set i (v : Int) = zs (ws.set i v) := by simp [zs,List.map_set]
theorem Blk.keepB {w w' : World} {b : Nat} {t : TypeId} {l : List Value} (h : Blk w b t l) (hk : w'.heap[b]? = w.heap[b]?) : Blk w' b t l := by
 unfold Blk at *
 rw [hk]
 exact h
def cellsD : ADT where
 S := List Nat
 rep ws p F w := ∃ d,F = [p,d] ∧ CellsAt w p d (zs ws) ∧ ws.length ≤ 8192
 lt := by
  rintro ws p F w ⟨d,rfl,h,_⟩ x hx
  simp only [List.mem_cons,List.not_mem_nil,or_false] at hx
  rcases hx with rfl | rfl
  ·exact h.box.lt
  ·exact h.row.lt
 keep := by
  rintro ws p F w w' ⟨d,rfl,h,hl⟩ hk
  exact ⟨d,rfl,⟨Blk.keepB h.box (hk p (by simp)),Blk.keepB h.row (hk d (by simp)),h.ne⟩,hl⟩
abbrev cellsB (ws : List Nat) : ABlk := .adt cellsD ws
theorem load_ {H : AH} {b : Nat} {ws : List Nat} (hb : H[b]? = some (cellsB ws)) {a x : Nat} (hx : ws[a]? = some x) {K : Value → AH → Prop} (hK : K (.int .u32 x) H) : AC Try.prog 60 [.pointer (some ⟨b,0,none⟩),.int .i64 a] H K := by
 have hs : H.set b (cellsB ws) = H := set_same hb
 refine AC.adt (by kernel_rfl) (s' := ws) hb (by simp [plain,scp]) rfl ?_ (by rw [hs]; exact hK)
 rintro p F w ⟨d,rfl,hc,hl⟩
 refine (cells_load p d a (zs ws) x w hc (zs_get hx) (by rw [zs_length]; omega)).mono ?_
 rintro e w' ⟨rfl,rfl⟩
 exact ⟨rfl,Mod.refl _ _,[p,d],⟨d,rfl,hc,hl⟩,fun x hx => .inl hx⟩
theorem store_ {H : AH} {b : Nat} {ws : List Nat} (hb : H[b]? = some (cellsB ws)) {a x : Nat} (hx : ws[a]? = some x) (v : Nat) {K : Value → AH → Prop} (hK : K (.tuple #[]) (H.set b (cellsB (ws.set a v)))) : AC Try.prog 49 [.pointer (some ⟨b,0,none⟩),.int .i64 a,.int .u32 v] H K := by
 refine AC.adt (by kernel_rfl) (s' := ws.set a v) hb (by simp [plain,scp]) rfl ?_ hK
 rintro p F w ⟨d,rfl,hc,hl⟩
 refine (cells_store p d a (zs ws) x v w hc (zs_get hx) (by rw [zs_length]; omega)).mono ?_
 rintro e w' ⟨rfl, hc', hm⟩
 rw [zs_set] at hc'
 exact ⟨rfl, hm.mono (fun k hk _ => by simp at hk; simp [hk]), [p, d], ⟨d, rfl, hc', by simpa using hl⟩, fun x hx => .inl hx⟩
theorem swap_ {H : AH} {b : Nat} {ws : List Nat} (hb : H[b]? = some (cellsB ws)) {a x : Nat} (hx : ws[a]? = some x) (v : Nat) {K : Value → AH → Prop} (hK : K (.int .u32 x) (H.set b (cellsB (ws.set a v)))) : AC Try.prog 61 [.pointer (some ⟨b,0,none⟩),.int .i64 a,.int .u32 v] H K := by
 refine AC.adt (by kernel_rfl) (s' := ws.set a v) hb (by simp [plain,scp]) rfl ?_ hK
 rintro p F w ⟨d,rfl,hc,hl⟩
 refine (cells_swap p d a (zs ws) x v w hc (zs_get hx) (by rw [zs_length]; omega)).mono ?_
 rintro e w' ⟨rfl, hc', hm⟩
 rw [zs_set] at hc'
 exact ⟨rfl, hm.mono (fun k hk _ => by simp at hk; simp [hk]), [p, d], ⟨d, rfl, hc', by simpa using hl⟩, fun x hx => .inl hx⟩
theorem casL {ws : List Nat} {a v x z : Nat} (h : ws.length ≤ 8192) : (if x = z then ws.set a v else ws).length ≤ 8192 := by
 by_cases c : x = z
 ·rw [if_pos c]; simpa using h
 ·rw [if_neg c]; exact h
theorem cas_ {H : AH} {b : Nat} {ws : List Nat} (hb : H[b]? = some (cellsB ws)) {a x : Nat} (hx : ws[a]? = some x) (z v : Nat) {K : Value → AH → Prop} (hK : K (.bool (decide (x = z))) (H.set b (cellsB (if x = z then ws.set a v else ws)))) : AC Try.prog 62 [.pointer (some ⟨b,0,none⟩),.int .i64 a,.int .u32 z,.int .u32 v] H K := by
 refine AC.adt (by kernel_rfl) (s' := if x = z then ws.set a v else ws) hb (by simp [plain,scp]) rfl ?_ hK
 rintro p F w ⟨d,rfl,hc,hl⟩
 refine (cells_cas p d a (zs ws) x z v w hc (zs_get hx) (by rw [zs_length]; omega)).mono ?_
 rintro e w' ⟨rfl, hc', hm⟩
 have e1 : decide ((x : Int) = (z : Int)) = decide (x = z) := by by_cases h : x = z <;> simp [h]; omega
 have e2 : (if (x : Int) = (z : Int) then (zs ws).set a (v : Int) else zs ws) = zs (if x = z then ws.set a v else ws) := by
  by_cases h : x = z
  ·rw [if_pos (by omega),if_pos h,zs_set]
  ·rw [if_neg (by omega),if_neg h]
 rw [e2] at hc'
 exact ⟨by rw [e1], hm.mono (fun k hk _ => by simp at hk; simp [hk]), [p, d], ⟨d, rfl, hc', casL hl⟩, fun x hx => .inl hx⟩
theorem add_ {H : AH} {b : Nat} {ws : List Nat} (hb : H[b]? = some (cellsB ws)) {a x : Nat} (hx : ws[a]? = some x) (h32 : x < 4294967296) (k : Nat) {K : Value → AH → Prop} (hK : K (.int .u32 x) (H.set b (cellsB (ws.set a ((x + k) % 4294967296))))) : AC Try.prog 63 [.pointer (some ⟨b,0,none⟩),.int .i64 a,.int .u32 k] H K := by
 refine AC.adt (by kernel_rfl) (s' := ws.set a ((x + k) % 4294967296)) hb (by simp [plain,scp]) rfl ?_ hK
 rintro p F w ⟨d,rfl,hc,hl⟩
 refine (cells_add p d a (zs ws) x k w hc (zs_get hx) (by rw [zs_length]; omega) (by omega) (by omega)).mono ?_
 rintro e w' ⟨rfl, hc', hm⟩
 rw [add_u32,zs_set] at hc'
 exact ⟨rfl, hm.mono (fun k hk _ => by simp at hk; simp [hk]), [p, d], ⟨d, rfl, hc', by simpa using hl⟩, fun x hx => .inl hx⟩
theorem cnew_ {n : Nat} (hn : n ≤ 8192) {H : AH} {K : Value → AH → Prop} (hK : K (.tuple #[.pointer (some ⟨H.length,0,none⟩),.int .i64 0]) (H ++ [cellsB (List.replicate n 0)])) : AC Try.prog 48 [.int .i64 n] H K := by
 refine AC.adtNew (by kernel_rfl) (D := cellsD) (s := List.replicate n 0) (rest := [.int .i64 0]) (by simp [plain,scp]) (by simp [plain,scp]) ?_ hK
 intro w
 refine (cells_new n hn w).mono ?_
 rintro e w' ⟨p,d,rfl,hc,hp,hd,hm⟩
 refine ⟨hm,p,[p,d],rfl,⟨d,rfl, ?_,by simpa using hn⟩,fun x hx => ?_⟩
 ·have : zs (List.replicate n 0) = List.replicate n 0 := by simp [zs]
  rw [this]
  exact hc
 ·simp only [List.mem_cons,List.not_mem_nil,or_false] at hx
  rcases hx with rfl | rfl
  ·exact hp
  ·exact hd
end Ex
end Go.Proofs.Ytongllppbifiaaa
namespace Go.Proofs.Ytongllppbifiaaa
namespace Ex
open Go Abs Code
open Px (natV natV_length natV_get hindex_ VecV nm u32w i64w)
attribute [local simp] DN5 HA DN NB begT atHead kd wantedA evP evR evF evL evC evI evBin evUn evEq evSt evRes plain scp scpA scpL rdRow_eq RV rdCells veq veqA veqL isHole Value.cells evalL optI evBounds evFill evFillR evApp newsOf wrCells one1 fitsApp evClr undef onB_bool List.getElem?_concat_length List.getElem?_cons_zero List.getElem?_cons_succ List.getElem?_toArray List.getElem?_nil List.set_cons_zero List.set_cons_succ List.cons_append List.nil_append
set_option linter.unusedVariables false
set_option linter.unusedSimpArgs false
set_option maxRecDepth 100000
def begs (ns : List Nat) : List Nat := (List.range ns.length).map fun k => (ns.take k).sum
theorem begs_length (ns : List Nat) : (begs ns).length = ns.length := by simp [begs]
theorem begs_get {ns : List Nat} {k : Nat} (h : k < ns.length) : (begs ns)[k]? = some (ns.take k).sum := by simp [begs,h]
structure OkN (ns : List Nat) : Prop where
 few : ns.length ≤ 8
 small : ∀ n ∈ ns,n ≤ 4096
theorem sum_take_le (ns : List Nat) (h : ∀ n ∈ ns,n ≤ 4096) (k : Nat) : (ns.take k).sum ≤ k * 4096 := by
 induction ns generalizing k with
 | nil => simp
 | cons n ns ih =>
  cases k with
  | zero => simp
  | succ k =>
   have h1 := h n List.mem_cons_self
   have h2 := ih (fun m hm => h m (List.mem_cons_of_mem _ hm)) k
   simp only [List.take_succ_cons,List.sum_cons]
   omega
inductive SlV (g : AH) (v : Value) (l : List Value) (e : TypeId) : Prop
 | vec : VecV g v l e → SlV g v l e
 | zero (b : Nat) (k : ABlk) : l = [] → v = .slice (some ⟨b,0,none⟩) 0 0 → g[b]? = some k → SlV g v l e
theorem SlV.keep {g g' : AH} {v : Value} {l : List Value} {e : TypeId} (h : SlV g v l e) (hk : ∀ c ∈ nm v,c < g.length → g'[c]? = g[c]?) : SlV g' v l e := by
 cases h with
 | vec h => exact .vec (h.keep hk)
 | zero b k h1 h2 h3 =>
  subst h2
  exact .zero b k h1 rfl (by rw [hk b (by simp [nm]) (lt_get h3)]; exact h3)
theorem SlV.lt {g : AH} {v : Value} {l : List Value} {e : TypeId} (h : SlV g v l e) : ∀ c ∈ nm v,c < g.length := by
 cases h with
 | vec h => exact h.lt
 | zero b k h1 h2 h3 => subst h2; simp [nm]; exact lt_get h3
structure MemR (g : AH) (m pc : Nat) (vs vb : Value) (ns : List Nat) : Prop where
 box : g[m]? = some (.cells [.pointer (some ⟨pc,0,none⟩),vs,vb] 83 none)
 sz : SlV g vs (natV ns) 3
 bg : VecV g vb (natV (begs ns)) 3
 ok : OkN ns
theorem VecV.form' {g : AH} {v : Value} {l : List Value} {e : TypeId} (h : VecV g v l e) : ∃ A C,v = .slice A l.length C ∧ (l ≠ [] → ∃ b,A = some ⟨b,0,none⟩ ∧ g[b]? = some (.cells l e (some 1))) := by
 cases h with
 | nil h1 h2 => subst h1; exact ⟨none,0,h2,fun h => absurd rfl h⟩
 | row b h1 h2 h3 => exact ⟨_,_,h2,fun _ => ⟨b,rfl,h3⟩⟩
theorem SlV.form {g : AH} {v : Value} {l : List Value} {e : TypeId} (h : SlV g v l e) : ∃ A C,v = .slice A l.length C ∧ (l ≠ [] → ∃ b,A = some ⟨b,0,none⟩ ∧ g[b]? = some (.cells l e (some 1))) := by
 cases h with
 | vec h => exact VecV.form' h
 | zero b k h1 h2 h3 => subst h1; exact ⟨_,_,h2,fun h => absurd rfl h⟩
def addrV : Option Nat → Value
 | some a => .tuple #[.int .i64 a,.bool true]
 | none => .tuple #[.int .i64 0,.bool false]
set_option maxHeartbeats 1000000 in
theorem address_ {H : AH} {m pc : Nat} {vs vb : Value} {ns : List Nat} (r : MemR H m pc vs vb ns) (a : Int) (v : Nat) (hv : v < 4294967296) {K : Value → AH → Prop} (hK : K (addrV (addrM ns a v)) H) : AC Try.prog 31 [.pointer (some ⟨m,0,none⟩),.int .i64 a,.int .u32 v] H K := by
 refine entry hmix cf31 ?_
 obtain ⟨p,hp⟩ : ∃ p,v % 4096 = p := ⟨_,rfl⟩
 have hpl : p < 4096 := by omega
 obtain ⟨A1,C1,e1,f1⟩ := SlV.form r.sz
 obtain ⟨A2,C2,e2,f2⟩ := VecV.form' r.bg
 rw [natV_length] at e1
 rw [natV_length,begs_length] at e2
 have hb := r.box
 rw [e1,e2] at hb
 by_cases c1 : a < 0
 ·have e : addrM ns a v = none := if_pos c1
  rw [e] at hK
  simp (maxSteps := 2000000) (implicitDefEqProofs := false) [-getElem?_pos,-getElem?_neg,c1]
  exact hK
 obtain ⟨k,rfl⟩ : ∃ k : Nat,a = k := ⟨a.toNat,by omega⟩
 by_cases c2 : k < ns.length
 case neg =>
  have e : addrM ns k v = none := by simp [addrM,List.getElem?_eq_none (show ns.length ≤ k by omega)]
  rw [e] at hK
  have c3 : (ns.length : Int) ≤ k := by omega
  have c4 : ns.length ≤ k := by omega
  simp (maxSteps := 2000000) (implicitDefEqProofs := false) [-getElem?_pos,-getElem?_neg,c1,hb,c3,c4]
  exact hK
 have c3 : ¬ (ns.length : Int) ≤ k := by omega
 have c4 : ¬ ns.length ≤ k := by omega
 have c5 : (k : Int) < ns.length := by omega
 have ne1 : natV ns ≠ [] := fun h => by have := natV_length ns; rw [h] at this; simp at this; omega
 have ne2 : natV (begs ns) ≠ [] := fun h => by have := natV_length (begs ns); rw [h,begs_length] at this; simp at this; omega
 obtain ⟨b1,rfl,g1⟩ := f1 ne1
 obtain ⟨b2,rfl,g2⟩ := f2 ne2
 obtain ⟨n,hn⟩ : ∃ n,ns[k]? = some n := ⟨_,List.getElem?_eq_getElem c2⟩
 have hnv : (natV ns)[k]? = some (.int .i64 (n : Int)) := by rw [natV_get,hn]; rfl
 have hbv : (natV (begs ns))[k]? = some (.int .i64 ((ns.take k).sum : Int)) := by rw [natV_get,begs_get c2]; rfl
 have hfit : k + 1 ≤ (natV ns).length := by rw [natV_length]; omega
 have hfit2 : k + 1 ≤ (natV (begs ns)).length := by rw [natV_length,begs_length]; omega
 have hsum := sum_take_le ns r.ok.small k
 have hfew := r.ok.few
 obtain ⟨q,hq⟩ : ∃ q,(ns.take k).sum = q := ⟨_,rfl⟩
 rw [hq] at hbv hsum
 have wq : IntKind.i64.wrap ((q : Int) + p) = (q : Int) + p := IntWalk.i64_in _ (by omega)
 have e : addrM ns k v = if p < n then some (q + p) else none := by simp [addrM,hn,hp,hq]; omega
 rw [e] at hK
 simp (maxSteps := 2000000) (implicitDefEqProofs := false) [-getElem?_pos,-getElem?_neg,c1,hb,c2,c3,c4,c5,g1,hnv,hfit]
 refine hindex_ v p hv hp _ ?_
 by_cases c6 : p < n
 ·have c7 : ¬ (n : Int) ≤ p := by omega
  have c8 : ¬ n ≤ p := by omega
  rw [if_pos c6] at hK
  simp (maxSteps := 2000000) (implicitDefEqProofs := false) [-getElem?_pos,-getElem?_neg,hb,c2,c5,g1,g2,hnv,hbv,hfit,hfit2,c7,c8]
  refine hindex_ v p hv hp _ ?_
  simp (maxSteps := 2000000) (implicitDefEqProofs := false) [-getElem?_pos,-getElem?_neg,hb,g2,hbv,hfit2,wq]
  simpa [addrV] using hK
 ·have c7 : (n : Int) ≤ p := by omega
  have c8 : n ≤ p := by omega
  rw [if_neg c6] at hK
  simp (maxSteps := 2000000) (implicitDefEqProofs := false) [-getElem?_pos,-getElem?_neg,hb,c2,c5,g1,g2,hnv,hbv,hfit,hfit2,c7,c8]
  exact hK
end Ex
end Go.Proofs.Ytongllppbifiaaa
namespace Go.Proofs.Ytongllppbifiaaa
namespace Ex
open Go Abs Code
open Px (natV natV_length natV_get VecV nm u32w i64w PS poolB)
set_option linter.unusedVariables false
set_option linter.unusedSimpArgs false
set_option maxRecDepth 100000
def rowC (cs : List Co) : List Value := cs.flatMap Co.cs
theorem rowC_cons (c : Co) (cs : List Co) : rowC (c :: cs) = c.cs ++ rowC cs := rfl
theorem rowC_length {cs : List Co} (h : ∀ c ∈ cs,c.Ok) : (rowC cs).length = cs.length * 9 := by
 induction cs with
 | nil => rfl
 | cons c cs ih =>
  rw [rowC_cons,List.length_append,cs_length (h c List.mem_cons_self).len,ih fun d hd => h d (List.mem_cons_of_mem _ hd),List.length_cons]
  omega
theorem rowC_at {cs : List Co} (h : ∀ c ∈ cs,c.Ok) {t : Nat} {c : Co} (ht : cs[t]? = some c) : ((rowC cs).drop (t * 9)).take 9 = c.cs := by
 induction cs generalizing t with
 | nil => simp at ht
 | cons d cs ih =>
  have hd := cs_length (h d List.mem_cons_self).len
  cases t with
  | zero =>
   simp at ht
   subst ht
   rw [rowC_cons,Nat.zero_mul,List.drop_zero,List.take_left' hd]
  | succ t =>
   rw [rowC_cons,show (t + 1) * 9 = 9 + t * 9 by omega,← List.drop_drop,List.drop_left' hd]
   exact ih (fun e he => h e (List.mem_cons_of_mem _ he)) (by simpa using ht)
theorem rowC_set {cs : List Co} (h : ∀ c ∈ cs,c.Ok) {t : Nat} (ht : t < cs.length) {c : Co} (hc : c.Ok) : splice (rowC cs) (t * 9) c.cs = rowC (cs.set t c) := by
 have hl := cs_length hc.len
 have e : splice (rowC cs) (t * 9) c.cs = (rowC cs).take (t * 9) ++ c.cs ++ (rowC cs).drop (t * 9 + 9) := by
  unfold splice
  split
  ·rename_i v e
   rw [e] at hl
   simp at hl
  ·rw [hl]
 rw [e]
 clear e
 induction cs generalizing t with
 | nil => simp at ht
 | cons d cs ih =>
  have hd := cs_length (h d List.mem_cons_self).len
  cases t with
  | zero => simp [rowC_cons,List.drop_left' hd]
  | succ t =>
   have := ih (fun e he => h e (List.mem_cons_of_mem _ he)) (t := t) (by simpa using ht)
   rw [List.set_cons_succ,rowC_cons,rowC_cons,← this]
   have e1 : (t + 1) * 9 = 9 + t * 9 := by omega
   rw [e1,List.take_append,List.take_of_length_le (by omega),hd,Nat.add_sub_cancel_left]
   rw [show 9 + t * 9 + 9 = 9 + (t * 9 + 9) by omega,← List.drop_drop,List.drop_left' hd]
   simp [List.append_assoc]
structure Nm where
 x : Nat
 bL : Nat
 m : Nat
 pc : Nat
 p : Nat
 bc : Nat
 vs : Value
 vb : Value
 oL : Option Nat
 capL : Nat
 capC : Nat
def Nm.all (N : Nm) : List Nat := N.x :: N.bL :: N.m :: N.pc :: N.p :: N.bc :: (nm N.vs ++ nm N.vb)
structure OkE {Pl : Type} (s : ES Pl) : Prop where
 len : s.L.length ≤ 64
 ins : ∀ i ∈ s.L,i.Ok
 cores : ∀ c ∈ s.cs,c.Ok
 few : s.cs.length ≤ 64
 words : ∀ w ∈ s.ws,w < 4294967296
 sum : s.ws.length = s.ns.sum
structure XAt (g : AH) (N : Nm) (s : ES PS) : Prop where
 box : g[N.x]? = some (.cells [.slice (some ⟨N.bL,0,none⟩) s.L.length N.capL,.int .i64 s.lk,.int .i64 s.uk,.pointer (some ⟨N.m,0,none⟩),.pointer (some ⟨N.p,0,none⟩),.slice (some ⟨N.bc,0,none⟩) s.cs.length N.capC] 79 none)
 code : g[N.bL]? = some (.cells (rowI s.L) 55 N.oL)
 mem : MemR g N.m N.pc N.vs N.vb s.ns
 cells : g[N.pc]? = some (cellsB s.ws)
 pool : g[N.p]? = some (poolB s.pl)
 cores : g[N.bc]? = some (.cells (rowC s.cs) 52 none)
 nd : [N.x,N.bL,N.m,N.pc,N.p,N.bc].Nodup
 vn : ∀ c ∈ nm N.vs ++ nm N.vb,c ≠ N.pc ∧ c ≠ N.p ∧ c ≠ N.bc
 ok : OkE s
theorem MemR.keep {g g' : AH} {m pc : Nat} {vs vb : Value} {ns : List Nat} (r : MemR g m pc vs vb ns) (h : g'[m]? = g[m]?) (h1 : ∀ c ∈ nm vs,g'[c]? = g[c]?) (h2 : ∀ c ∈ nm vb,g'[c]? = g[c]?) : MemR g' m pc vs vb ns :=
 ⟨by rw [h]; exact r.box,r.sz.keep fun c hc _ => h1 c hc,r.bg.keep fun c hc _ => h2 c hc,r.ok⟩
theorem XAt.lt {g : AH} {N : Nm} {s : ES PS} (r : XAt g N s) : ∀ c ∈ N.all,c < g.length := by
 intro c hc
 simp only [Nm.all,List.mem_cons,List.mem_append] at hc
 rcases hc with rfl | rfl | rfl | rfl | rfl | rfl | h | h
 ·exact lt_get r.box
 ·exact lt_get r.code
 ·exact lt_get r.mem.box
 ·exact lt_get r.cells
 ·exact lt_get r.pool
 ·exact lt_get r.cores
 ·exact r.mem.sz.lt c h
 ·exact r.mem.bg.lt c h
theorem XAt.keep {g g' : AH} {N : Nm} {s : ES PS} (r : XAt g N s) (h : ∀ c ∈ N.all,g'[c]? = g[c]?) : XAt g' N s := by
 have hm : ∀ c,c ∈ N.all ↔ c = N.x ∨ c = N.bL ∨ c = N.m ∨ c = N.pc ∨ c = N.p ∨ c = N.bc ∨ c ∈ nm N.vs ∨ c ∈ nm N.vb := fun c => by simp [Nm.all]
 exact ⟨by rw [h _ ((hm _).2 (by simp))]; exact r.box,by rw [h _ ((hm _).2 (by simp))]; exact r.code,r.mem.keep (h _ ((hm _).2 (by simp))) (fun c hc => h c ((hm c).2 (by simp [hc]))) (fun c hc => h c ((hm c).2 (by simp [hc]))),by rw [h _ ((hm _).2 (by simp))]; exact r.cells,by rw [h _ ((hm _).2 (by simp))]; exact r.pool,by rw [h _ ((hm _).2 (by simp))]; exact r.cores,r.nd,r.vn,r.ok⟩
theorem XAt.ext {g g' : AH} {N : Nm} {s : ES PS} (r : XAt g N s) (h : Ext g g') : XAt g' N s := r.keep fun c hc => h.keep c (r.lt c hc)
theorem XAt.setC {g : AH} {N : Nm} {s : ES PS} (r : XAt g N s) {t : Nat} (c : Co) (hc : c.Ok) : XAt (g.set N.bc (.cells (rowC (s.cs.set t c)) 52 none)) N { s with cs := s.cs.set t c } := by
 have nd := r.nd
 simp only [List.nodup_cons,List.mem_cons,List.not_mem_nil,or_false,not_or] at nd
 obtain ⟨⟨_,_,_,_,n1⟩,⟨_,_,_,n2⟩,⟨_,_,n3⟩,⟨_,n4⟩,n5,_⟩ := nd
 have ne : ∀ y,y ≠ N.bc → (g.set N.bc (.cells (rowC (s.cs.set t c)) 52 none))[y]? = g[y]? := fun y hy => List.getElem?_set_ne (fun e => hy e.symm)
 refine ⟨by rw [ne _ n1]; simpa using r.box,by rw [ne _ n2]; exact r.code,r.mem.keep (ne _ n3) (fun y hy => ne y (r.vn y (List.mem_append_left _ hy)).2.2) (fun y hy => ne y (r.vn y (List.mem_append_right _ hy)).2.2),by rw [ne _ n4]; exact r.cells,by rw [ne _ n5]; exact r.pool,List.getElem?_set_self (lt_get r.cores),r.nd,r.vn,⟨r.ok.len,r.ok.ins,fun d hd => ?_,by simpa using r.ok.few,r.ok.words,r.ok.sum⟩⟩
 rcases List.mem_or_eq_of_mem_set hd with h | rfl
 ·exact r.ok.cores d h
 ·exact hc
def outV (vm : Value) (o : OutR) : Value := .agg #[vm,.int .i64 o.done,.int .i64 o.addr,.bool o.wrote,.bool o.stay,.int .i64 o.e]
def OutIs (H : AH) (N : Nm) (s : ES PS) (o : OutR) (K : Value → AH → Prop) : Prop := ∀ g vm,XAt g N s → Upd N.all H N.all g → VecV g vm (natV o.ms) tI → (∀ c ∈ nm vm,H.length ≤ c) → K (outV vm o) g
end Ex
end Go.Proofs.Ytongllppbifiaaa
