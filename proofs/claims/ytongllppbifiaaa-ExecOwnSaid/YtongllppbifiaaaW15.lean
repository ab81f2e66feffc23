import Derived.Test.YtongllppbifiaaaW14
namespace Go.Proofs.Ytongllppbifiaaa
namespace Px
open Go Abs Code
set_option linter.unusedVariables false
set_option linter.unusedSimpArgs false
set_option maxRecDepth 100000
theorem takeG {s : PS} (t : Int) {H : AH} {b : Nat} (hb : H[b]? = some (poolB s)) {K : Value → AH → Prop} (hK : K (.tuple #[.int .u32 (takeH s t : Nat),.int .i64 (takeE s t)]) (H.set b (poolB (takeS s t)))) : AC Try.prog 29 [.pointer (some ⟨b,0,none⟩),.int .i64 t] H K := by
 refine AC.at1 (args0 := [.pointer (some ⟨0,0,none⟩),.int .i64 t]) (E := []) (ptake_ s t) trivial trivial (by simp) hb (by simp [scpL,scp,live]) (by simp [ren,renA]) ?_
 rw [List.append_nil]
 simpa [ren,renAr,renL] using hK
theorem freeG {s : PS} (x : Nat) (hx : x < 4294967296) {H : AH} {b : Nat} (hb : H[b]? = some (poolB s)) {K : Value → AH → Prop} (hK : K (.int .i64 (freeE s x)) (H.set b (poolB (freeS s x)))) : AC Try.prog 30 [.pointer (some ⟨b,0,none⟩),.int .u32 x] H K := by
 refine AC.at1 (args0 := [.pointer (some ⟨0,0,none⟩),.int .u32 x]) (E := []) (pfree_ s x hx) trivial trivial (by simp) hb (by simp [scpL,scp,live]) (by simp [ren,renA]) ?_
 rw [List.append_nil]
 simpa [ren] using hK
def outV (s : PS) (t : Int) : Nat := if t < 0 then 0 else match s.free[t.toNat]? with | some r => s.each - r.length | none => 0
theorem outG {s : PS} (t : Int) {H : AH} {b : Nat} (hb : H[b]? = some (poolB s)) {K : Value → AH → Prop} (hK : K (.int .i64 (outV s t : Nat)) H) : AC Try.prog 70 [.pointer (some ⟨b,0,none⟩),.int .i64 t] H K := by
 refine AC.at1 (args0 := [.pointer (some ⟨0,0,none⟩),.int .i64 t]) (r := .int .i64 (outV s t : Nat)) (E := []) ((pout_ s t).mono fun v h' hh => ⟨?_,hh.2⟩) trivial trivial (by simp) hb (by simp [scpL,scp,live]) (by simp [ren,renA]) ?_
 ·rw [hh.1]
  unfold outV
  by_cases c : t < 0
  ·rw [if_pos c,if_pos c]; rfl
  ·rw [if_neg c,if_neg c]
   cases s.free[t.toNat]? <;> rfl
 ·rw [set_same hb,List.append_nil]
  simpa [ren] using hK
end Px
end Go.Proofs.Ytongllppbifiaaa
namespace Go.Proofs.Ytongllppbifiaaa
namespace Px
open Go Abs
set_option linter.unusedVariables false
set_option linter.unusedSimpArgs false
structure XS where
 each : Nat
 free : List (List Nat)
 gen : List Nat
 out : List Nat
def XS.han (x : XS) (n : Nat) : Nat := hOf n ((x.gen[n - 1]?).getD 0)
def XS.isR (x : XS) (h : Nat) : Bool := decide (1 ≤ h % 4096 ∧ h % 4096 ≤ x.out.length ∧ x.out[h % 4096 - 1]? = some 1 ∧ x.han (h % 4096) = h)
def takeR (x : XS) (t : Int) : Nat := if t < 0 then 0 else match x.free[t.toNat]? with
 | some (n :: _) => x.han n
 | _ => 0
def takeRS (x : XS) (t : Int) : XS := if t < 0 then x else match x.free[t.toNat]? with
 | some (n :: r) => { x with free := x.free.set t.toNat r,out := x.out.set (n - 1) 1 }
 | _ => x
def takeRE (x : XS) (t : Int) : Int := if t < 0 ∨ (x.free.length : Int) ≤ t then 4 else 0
def backE (x : XS) (h : Nat) : Int := if h = 0 then 0 else if x.isR h = true then 0 else 10
def backRS (x : XS) (h : Nat) : XS := if h = 0 ∨ x.isR h = false then x else { x with free := x.free.set ((h % 4096 - 1) / x.each) ((x.free[(h % 4096 - 1) / x.each]?).getD [] ++ [h % 4096]),gen := x.gen.set (h % 4096 - 1) (hNext h / 4096 % 262144),out := x.out.set (h % 4096 - 1) 0 }
def manyR (x : XS) (t : Int) : Nat := if t < 0 then 0 else match x.free[t.toNat]? with | some r => x.each - r.length | none => 0
structure Good (x : XS) (h t o : Nat) : Prop where
 lo : 1 ≤ h % 4096
 hi : h % 4096 ≤ x.out.length
 th : (h % 4096 - 1) / x.each = t
 out : x.out[h % 4096 - 1]? = some o
 gen : x.gen[h % 4096 - 1]? = some (h / 4096)
structure Sim (p : PS) (x : XS) : Prop where
 each : x.each = p.each
 free : x.free = p.free.map (·.map (· % 4096))
 gl : x.gen.length = p.each * p.free.length
 ol : x.out.length = p.each * p.free.length
 fr : ∀ (t : Nat) r,p.free[t]? = some r → ∀ h ∈ r,Good x h t 0
 ou : ∀ y ∈ p.out,Good x y.1 (y.2 - 1) 1
 all : ∀ n,1 ≤ n → n ≤ p.each * p.free.length → ∃ h ∈ p.all,h % 4096 = n
 gs : ∀ g ∈ x.gen,g < 262144
 sum : x.out.sum = p.out.length
theorem hOf_back {h : Nat} : hOf (h % 4096) (h / 4096) = h := by unfold hOf; omega
theorem Good.han {x : XS} {h t o : Nat} (g : Good x h t o) : x.han (h % 4096) = h := by
 unfold XS.han
 rw [g.gen]
 exact hOf_back
theorem Good.setO {x : XS} {h t o : Nat} (g : Good x h t o) {j v : Nat} (hj : h % 4096 ≠ j) (h1 : 1 ≤ j) (fr : List (List Nat)) : Good { x with free := fr,out := x.out.set (j - 1) v } h t o :=
 ⟨g.lo,by simpa using g.hi,g.th,by have := g.lo; simp only; rw [List.getElem?_set_ne (by omega)]; exact g.out,g.gen⟩
theorem Good.setG {x : XS} {h t o : Nat} (g : Good x h t o) {j v w : Nat} (hj : h % 4096 ≠ j) (h1 : 1 ≤ j) (fr : List (List Nat)) : Good { x with free := fr,gen := x.gen.set (j - 1) w,out := x.out.set (j - 1) v } h t o :=
 ⟨g.lo,by simpa using g.hi,g.th,by have := g.lo; simp only; rw [List.getElem?_set_ne (by omega)]; exact g.out,by have := g.lo; simp only; rw [List.getElem?_set_ne (by omega)]; exact g.gen⟩
theorem sum_set : ∀ {l : List Nat} {i v u : Nat},l[i]? = some u → (l.set i v).sum + u = l.sum + v
 | x :: l,0,v,u,h => by simp at h; subst h; simp; omega
 | x :: l,i + 1,v,u,h => by
  have := sum_set (l := l) (i := i) (v := v) (u := u) (by simpa using h)
  simp
  omega
theorem mem_free {l : List (List Nat)} {h : Nat} (hm : h ∈ l.flatten) : ∃ (t : Nat) (r : List Nat),l[t]? = some r ∧ h ∈ r := by
 obtain ⟨r,hr,hh⟩ := List.mem_flatten.1 hm
 obtain ⟨t,ht,e⟩ := List.mem_iff_getElem.1 hr
 exact ⟨t,r,by rw [List.getElem?_eq_getElem ht,e],hh⟩
theorem Sim.is {p : PS} {x : XS} (s : Sim p x) (ok : OkP p) (h : Nat) : x.isR h = decide (lookP p.out h ≠ 0) := by
 by_cases c : lookP p.out h = 0
 ·have : x.isR h = false := by
   unfold XS.isR
   simp only [decide_eq_false_iff_not]
   rintro ⟨a,b,d,e⟩
   obtain ⟨h', hm, hmod⟩ := s.all (h % 4096) a (by rw [← s.ol]; exact b)
   unfold PS.all at hm
   rcases List.mem_append.1 hm with hm | hm
   ·obtain ⟨t,r,hr,hh⟩ := mem_free hm
    have g := s.fr t r hr h' hh
    have := g.out
    rw [hmod,d] at this
    cases this
   ·obtain ⟨y,hy,rfl⟩ := List.mem_map.1 hm
    have g := s.ou y hy
    have e2 := g.han
    rw [hmod,e] at e2
    subst e2
    have hk := (ok.who y hy).1
    have hf : p.out.find? (fun z => z.1 == y.1) ≠ none := by
     intro hn
     have := List.find?_eq_none.1 hn y hy
     simp at this
    cases hq : p.out.find? (fun z => z.1 == y.1) with
    | none => exact hf hq
    | some z =>
     have hz := ok.who z (List.mem_of_find?_eq_some hq)
     unfold lookP at c
     rw [hq] at c
     simp only at c
     omega
  rw [this]
  simp [c]
 ·have hm := lookP_mem c
  have g := s.ou _ hm
  have : x.isR h = true := by
   unfold XS.isR
   simp only [decide_eq_true_eq]
   exact ⟨g.lo,g.hi,g.out,g.han⟩
  rw [this]
  simp [c]
theorem Sim.freeAt {p : PS} {x : XS} (s : Sim p x) (t : Nat) : x.free[t]? = (p.free[t]?).map (·.map (· % 4096)) := by rw [s.free,List.getElem?_map]
theorem Sim.len {p : PS} {x : XS} (s : Sim p x) : x.free.length = p.free.length := by rw [s.free,List.length_map]
theorem Sim.many {p : PS} {x : XS} (s : Sim p x) (t : Int) : manyR x t = outV p t := by
 unfold manyR outV
 split
 ·rfl
 ·rw [s.freeAt]
  cases p.free[t.toNat]? with
  | none => rfl
  | some r => simp [s.each]
theorem Sim.takeH {p : PS} {x : XS} (s : Sim p x) (t : Int) : takeR x t = takeH p t := by
 unfold takeR Px.takeH
 split
 ·rfl
 ·rw [s.freeAt]
  cases hf : p.free[t.toNat]? with
  | none => rfl
  | some r =>
   cases r with
   | nil => rfl
   | cons h r => exact (s.fr _ _ hf h List.mem_cons_self).han
theorem Sim.take {p : PS} {x : XS} (s : Sim p x) (ok : OkP p) (t : Int) : Sim (takeS p t) (takeRS x t) ∧ OkP (takeS p t) := by
 unfold takeS takeRS
 split
 ·exact ⟨s,ok⟩
 ·rw [s.freeAt]
  cases hf : p.free[t.toNat]? with
  | none => exact ⟨s,ok⟩
  | some r =>
   cases r with
   | nil => exact ⟨s,ok⟩
   | cons h r =>
    simp only [Option.map_some,List.map_cons]
    obtain ⟨ok', hnm⟩ := take_ok ok hf
    refine ⟨?_,ok'⟩
    have g := s.fr _ _ hf h List.mem_cons_self
    have hp : (p.all).Perm (h :: ((p.free.set t.toNat r).flatten ++ p.out.map (·.1))) := by
     unfold PS.all
     exact ((flat_take hf).append_right _)
    have hnd := (hp.map (· % 4096)).nodup_iff.1 ok.idx
    rw [List.map_cons,List.nodup_cons] at hnd
    have hne : ∀ h', h' ∈ (p.free.set t.toNat r).flatten ++ p.out.map (·.1) → h' % 4096 ≠ h % 4096 := fun h' hm e => hnd.1 (e ▸ List.mem_map.2 ⟨h', hm, rfl⟩)
    refine ⟨s.each, ?_,by simpa using s.gl,by simpa using s.ol,fun u q hu h' hh' => ?_,fun y hy => ?_,fun n h1 h2 => ?_,s.gs, ?_⟩
    ·simp only
     rw [s.free,List.map_set]
    ·simp only at hu
     have hm : h' ∈ (p.free.set t.toNat r).flatten := List.mem_flatten.2 ⟨q,List.mem_of_getElem? hu,hh'⟩
     have hg : Good x h' u 0 := by
      rw [List.getElem?_set] at hu
      split at hu
      ·rename_i e
       subst e
       split at hu
       ·injection hu with hu
        subst hu
        exact s.fr _ _ hf h' (List.mem_cons_of_mem _ hh')
       ·cases hu
      ·exact s.fr u q hu h' hh'
     exact hg.setO (hne h' (List.mem_append_left _ hm)) g.lo _
    ·rcases List.mem_append.1 hy with hy | hy
     ·exact (s.ou y hy).setO (hne y.1 (List.mem_append_right _ (List.mem_map.2 ⟨y,hy,rfl⟩))) g.lo _
     ·simp only [List.mem_singleton] at hy
      subst hy
      exact ⟨g.lo,by simpa using g.hi,g.th,by have := g.lo; have := g.hi; simp only; rw [List.getElem?_set_self (by omega)],g.gen⟩
    ·simp only [List.length_set] at h2
     obtain ⟨h', hm, e⟩ := s.all n h1 h2
     refine ⟨h', ?_, e⟩
     have := (hp.mem_iff).1 hm
     unfold PS.all
     simp only [List.mem_cons,List.mem_append,List.map_append,List.map_cons,List.map_nil,List.not_mem_nil,or_false] at this ⊢
     rcases this with h | h | h
     ·exact .inr (.inr h)
     ·exact .inl h
     ·exact .inr (.inl h)
    ·have := sum_set (v := 1) g.out
     have := s.sum
     simp only [List.length_append,List.length_singleton]
     omega
theorem Sim.freeE {p : PS} {x : XS} (s : Sim p x) (ok : OkP p) (h : Nat) : backE x h = freeE p h := by
 unfold backE Px.freeE
 rw [s.is ok]
 split
 ·rfl
 ·by_cases c : lookP p.out h = 0 <;> simp [c]
theorem Sim.free' {p : PS} {x : XS} (s : Sim p x) (ok : OkP p) (h : Nat) : Sim (freeS p h) (backRS x h) ∧ OkP (freeS p h) := by
 unfold freeS backRS
 rw [s.is ok]
 by_cases c0 : h = 0
 ·simp only [c0,true_or,if_true]
  exact ⟨s,ok⟩
 by_cases c : lookP p.out h = 0
 ·rw [if_pos (.inr c),if_pos (.inr (by simp [c]))]
  exact ⟨s,ok⟩
 rw [if_neg (by simp [c0,c]),if_neg (by simp [c0,c])]
 obtain ⟨r,hr,hlt,ok'⟩ := free_ok ok c
 obtain ⟨k,hk⟩ : ∃ k,lookP p.out h = k := ⟨_,rfl⟩
 have hm := lookP_mem c
 rw [hk] at hr ok' hm c ⊢
 have g := s.ou _ hm
 simp only at g
 have hth : (h % 4096 - 1) / x.each = k - 1 := g.th
 rw [hth,s.freeAt,hr]
 simp only [Option.map_some,Option.getD_some]
 refine ⟨?_,ok'⟩
 have hnk : (p.out.map (·.1)).Nodup := by
  have := ok.keys
  unfold PS.all at this
  rw [List.nodup_append] at this
  exact this.2.1
 have hq : p.all.Perm (h :: (p.free.flatten ++ (p.out.filter (fun y => y.1 != h)).map (·.1))) := by
  unfold PS.all
  exact ((keys_out hnk (List.mem_map.2 ⟨_,hm,rfl⟩)).append_left _).trans List.perm_middle
 have hnd := (hq.map (· % 4096)).nodup_iff.1 ok.idx
 rw [List.map_cons,List.nodup_cons] at hnd
 have hne : ∀ h', h' ∈ p.free.flatten ++ (p.out.filter (fun y => y.1 != h)).map (·.1) → h' % 4096 ≠ h % 4096 := fun h' hm e => hnd.1 (e ▸ List.mem_map.2 ⟨h', hm, rfl⟩)
 have hlo := g.lo
 have hhi := g.hi
 have hgl := s.gl
 have hol := s.ol
 have hng : hNext h / 4096 < 262144 := by unfold hNext hOf; omega
 have hnm := hNext_mod h
 have gN : Good { x with free := x.free.set (k - 1) (r.map (· % 4096) ++ [h % 4096]),gen := x.gen.set (h % 4096 - 1) (hNext h / 4096 % 262144),out := x.out.set (h % 4096 - 1) 0 } (hNext h) (k - 1) 0 := by
  refine ⟨by rw [hnm]; exact hlo,by rw [hnm]; simpa using hhi,by rw [hnm]; exact hth, ?_, ?_⟩
  ·rw [hnm]; simp only; rw [List.getElem?_set_self (by omega)]
  ·rw [hnm]; simp only; rw [List.getElem?_set_self (by omega),Nat.mod_eq_of_lt hng]
 refine ⟨s.each, ?_,by simpa using hgl,by simpa using hol,fun u q hu h' hh' => ?_,fun y hy => ?_,fun n h1 h2 => ?_,fun v hv => ?_, ?_⟩
 ·simp only
  rw [s.free,List.map_set,List.map_append]
  simp [hnm]
 ·simp only at hu
  rw [List.getElem?_set] at hu
  split at hu
  ·rename_i e
   subst e
   split at hu
   ·injection hu with hu
    subst hu
    rcases List.mem_append.1 hh' with hh' | hh'
    ·exact (s.fr _ _ hr h' hh').setG (hne h' (List.mem_append_left _ (List.mem_flatten.2 ⟨r,List.mem_of_getElem? hr,hh'⟩))) hlo _
    ·simp only [List.mem_singleton] at hh'
     subst hh'
     exact gN
   ·cases hu
  ·exact (s.fr u q hu h' hh').setG (hne h' (List.mem_append_left _ (List.mem_flatten.2 ⟨q,List.mem_of_getElem? hu,hh'⟩))) hlo _
 ·simp only at hy
  exact (s.ou y (List.mem_filter.1 hy).1).setG (hne y.1 (List.mem_append_right _ (List.mem_map.2 ⟨y,hy,rfl⟩))) hlo _
 ·simp only [List.length_set] at h2
  obtain ⟨h', hm', e⟩ := s.all n h1 h2
  have hp2 : ((p.free.set (k - 1) (r ++ [hNext h])).flatten ++ (p.out.filter (fun y => y.1 != h)).map (·.1)).Perm (hNext h :: (p.free.flatten ++ (p.out.filter (fun y => y.1 != h)).map (·.1))) := (flat_put hr).append_right _
  have := (hq.mem_iff).1 hm'
  rcases List.mem_cons.1 this with rfl | hrest
  ·exact ⟨hNext h', by unfold PS.all; exact hp2.mem_iff.2 List.mem_cons_self, by rw [hnm]; exact e⟩
  ·exact ⟨h', by unfold PS.all; exact hp2.mem_iff.2 (List.mem_cons_of_mem _ hrest), e⟩
 ·rcases List.mem_or_eq_of_mem_set hv with hv | rfl
  ·exact s.gs v hv
  ·omega
 ·have h1 := sum_set (v := 0) g.out
  have h2 := s.sum
  have h3 := (keys_out hnk (List.mem_map.2 ⟨_,hm,rfl⟩)).length_eq
  simp only [List.length_map,List.length_cons] at h3
  simp only
  omega
def freeN (each t k : Nat) : List Nat := (List.range k).map fun i => t * each + i + 1
def newR (n each : Nat) : XS := ⟨each,(List.range n).map fun t => freeN each t each,List.replicate (n * each) 0,List.replicate (n * each) 0⟩
theorem Sim.new {n each : Nat} (hn : n ≤ 64) (he : each ≤ 8) : Sim (newP n each) (newR n each) := by
 have hN : n * each ≤ 512 := Nat.le_trans (Nat.mul_le_mul hn he) (by omega)
 have hb : ∀ t i,t < n → i < each → t * each + i + 1 ≤ n * each := by
  intro t i ht hi
  have : (t + 1) * each ≤ n * each := Nat.mul_le_mul_right _ ht
  rw [Nat.add_mul] at this
  omega
 have hm : ∀ t i,t < n → i < each → (t * each + i + 1) % 4096 = t * each + i + 1 := fun t i ht hi => Nat.mod_eq_of_lt (by have := hb t i ht hi; omega)
 refine ⟨rfl, ?_,by simp [newR,newP,Nat.mul_comm],by simp [newR,newP,Nat.mul_comm],fun t r hr h hh => ?_,fun y hy => by simp [newP] at hy,fun k h1 h2 => ?_,fun g hg => ?_,by simp [newR,newP]⟩
 ·simp only [newR,newP,List.map_map]
  refine List.map_congr_left fun t ht => ?_
  simp only [Function.comp,freeN,freshR,List.map_map]
  refine List.map_congr_left fun i hi => ?_
  exact (hm t i (List.mem_range.1 ht) (List.mem_range.1 hi)).symm
 ·simp only [newP,List.getElem?_map] at hr
  have ht : t < n := by
   cases hq : (List.range n)[t]? with
   | none => rw [hq] at hr; cases hr
   | some u => simpa using (List.getElem?_eq_some_iff.1 hq).1
  rw [List.getElem?_range ht] at hr
  injection hr with hr
  subst hr
  obtain ⟨i,hi,rfl⟩ := List.mem_map.1 hh
  have hi := List.mem_range.1 hi
  have hmi := hm t i ht hi
  have hbi := hb t i ht hi
  refine ⟨by rw [hmi]; omega,by rw [hmi]; simpa [newR] using hbi, ?_, ?_, ?_⟩
  ·rw [hmi]
   show (t * each + i + 1 - 1) / each = t
   rw [Nat.add_sub_cancel,Nat.mul_comm,Nat.mul_add_div (by omega),Nat.div_eq_of_lt hi]
   rfl
  ·rw [hmi]
   simp only [newR]
   rw [List.getElem?_replicate,if_pos (by omega)]
  ·rw [hmi]
   simp only [newR]
   rw [List.getElem?_replicate,if_pos (by omega),Nat.div_eq_of_lt (by omega)]
 ·simp only [newP,List.length_map,List.length_range] at h2
  have he0 : 0 < each := by
   rcases Nat.eq_zero_or_pos each with h | h
   ·subst h; omega
   ·exact h
  have ht : (k - 1) / each < n := by
   rw [Nat.div_lt_iff_lt_mul he0,Nat.mul_comm]
   omega
  have hi := Nat.mod_lt (k - 1) he0
  have e : (k - 1) / each * each + (k - 1) % each + 1 = k := by
   have := Nat.div_add_mod (k - 1) each
   rw [Nat.mul_comm] at this
   omega
  refine ⟨(k - 1) / each * each + (k - 1) % each + 1, ?_,by rw [hm _ _ ht hi,e]⟩
  unfold PS.all
  refine List.mem_append_left _ (List.mem_flatten.2 ⟨_,List.mem_map.2 ⟨_,List.mem_range.2 ht,rfl⟩, ?_⟩)
  exact List.mem_map.2 ⟨_,List.mem_range.2 hi,rfl⟩
 ·simp only [newR,List.mem_replicate] at hg
  omega
end Px
end Go.Proofs.Ytongllppbifiaaa
