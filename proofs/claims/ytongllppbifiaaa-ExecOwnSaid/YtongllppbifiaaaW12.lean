import Derived.Test.YtongllppbifiaaaW10
import Derived.Test.YtongllppbifiaaaW3
namespace Go.Proofs.Ytongllppbifiaaa
namespace Px
open Go Abs Code
set_option linter.unusedVariables false
set_option linter.unusedSimpArgs false
set_option maxRecDepth 100000
structure PS where
 each : Nat
 free : List (List Nat)
 out : List (Nat × Nat)
def PS.all (s : PS) : List Nat := s.free.flatten ++ s.out.map (·.1)
structure OkP (s : PS) : Prop where
 one : 1 ≤ s.free.length
 many : s.free.length ≤ 64
 each : s.each ≤ 8
 cnt : ∀ t r,s.free[t]? = some r → r.length + s.out.countP (fun x => x.2 == t + 1) = s.each
 who : ∀ x ∈ s.out,1 ≤ x.2 ∧ x.2 ≤ s.free.length
 idx : (s.all.map (· % 4096)).Nodup
 rng : ∀ h ∈ s.all,h < 4294967296
def ents (es : List MapEntry) (out : List (Nat × Nat)) : Prop := es.map (fun e => (e.key,e.val)) = out.map fun x => (Value.int .u32 (x.1 : Nat),Value.int .i64 (x.2 : Nat))
def nats (l : List Nat) : List Int := List.map (fun (x : Nat) => ((x : Nat) : Int)) l
def rgB (each : Nat) (r : List Nat) : ABlk := ringB ⟨each,nats r⟩
def ptrs (n : Nat) : List Value := (List.range n).map fun j => .pointer (some ⟨j + 3,0,none⟩)
def plH (s : PS) (es : List MapEntry) (c : Nat) : AH := .cells [.int .i64 s.each,.slice (some ⟨1,0,none⟩) s.free.length (OPEN + s.free.length),.map (some 2)] 117 none :: .cells (ptrs s.free.length) 118 (some 1) :: .map es c :: s.free.map (rgB s.each)
def heapP (s : PS) (g : AH) : Prop := OkP s ∧ ∃ es c,ents es s.out ∧ g = plH s es c
abbrev poolB (s : PS) : ABlk := .adt (mkADT PS heapP) s
theorem ents_plain {es : List MapEntry} {out : List (Nat × Nat)} (h : ents es out) : ∀ e ∈ es,plain e.key = true ∧ plain e.val = true := by
 intro e he
 have : (e.key,e.val) ∈ es.map (fun e => (e.key,e.val)) := List.mem_map.2 ⟨e,he,rfl⟩
 rw [h] at this
 obtain ⟨x,_,hx⟩ := List.mem_map.1 this
 injection hx with h1 h2
 rw [← h1,← h2]
 exact ⟨rfl,rfl⟩
theorem plH_length (s : PS) (es : List MapEntry) (c : Nat) : (plH s es c).length = s.free.length + 3 := by simp [plH]
theorem plH_get (s : PS) (es : List MapEntry) (c : Nat) (j : Nat) : (plH s es c)[j + 3]? = (s.free[j]?).map (rgB s.each) := by simp [plH]
theorem plH_live {s : PS} {es : List MapEntry} {c : Nat} {b : Nat} (h : b < s.free.length + 3) : live (plH s es c) b = true := by
 match b with
 | 0 => rfl
 | 1 => rfl
 | 2 => rfl
 | j + 3 =>
  have hj : j < s.free.length := by omega
  refine live_of (k := rgB s.each s.free[j]) ?_ (by simp [rgB])
  rw [plH_get,List.getElem?_eq_getElem hj]
  rfl
theorem plH_own (s : PS) (es : List MapEntry) (c : Nat) : own (plH s es c) := by
 intro b k hb cb
 match b with
 | 0 => injection hb with hb; subst hb; rfl
 | 1 => injection hb with hb; subst hb; rfl
 | 2 => injection hb with hb; subst hb; rfl
 | j + 3 =>
  rw [plH_get] at hb
  cases hx : s.free[j]? with
  | none => rw [hx] at hb; cases hb
  | some r => rw [hx] at hb; injection hb with hb; subst hb; rfl
theorem plH_ok {s : PS} {es : List MapEntry} {c : Nat} (h : ents es s.out) : AOK (plH s es c) := by
 intro b k hb
 match b with
 | 0 =>
  injection hb with hb
  subst hb
  intro v hv
  simp at hv
  rcases hv with rfl | rfl | rfl
  ·rfl
  ·simp only [scp]; exact plH_live (by omega)
  ·simp only [scp]; exact plH_live (by omega)
 | 1 =>
  injection hb with hb
  subst hb
  intro v hv
  obtain ⟨j,hj,rfl⟩ := List.mem_map.1 hv
  simp only [scp]
  exact plH_live (by have := List.mem_range.1 hj; omega)
 | 2 => injection hb with hb; subst hb; exact scp_noNames (k := .map es c) (ents_plain h) _
 | j + 3 =>
  rw [plH_get] at hb
  cases hx : s.free[j]? with
  | none => rw [hx] at hb; cases hb
  | some r => rw [hx] at hb; injection hb with hb; subst hb; trivial
theorem plH_hc (s : PS) (es : List MapEntry) (c : Nat) : ∃ vs e,(plH s es c)[0]? = some (.cells vs e none) := ⟨_,_,rfl⟩
theorem plClose {s : PS} {es : List MapEntry} {c : Nat} {tl : AH} {v : Value} {K : Value → AH → Prop} (ok : OkP s) (he : ents es s.out) (hv : plain v = true) (hK : K v [poolB s]) : Sees 1 (plH s es c ++ tl) v K := by
 refine Sees.pre _ ⟨ok,es,c,he,rfl⟩ (plH_own _ _ _) (plH_ok he) (plH_hc _ _ _) (fun b k hb => ?_) hv hK
 rw [List.getElem?_append_left (List.getElem?_eq_some_iff.1 hb).1]
 exact hb
theorem plClose0 {s : PS} {es : List MapEntry} {c : Nat} {v : Value} {K : Value → AH → Prop} (ok : OkP s) (he : ents es s.out) (hv : plain v = true) (hK : K v [poolB s]) : Sees 1 (plH s es c) v K := by
 have := plClose (tl := []) (c := c) ok he hv hK
 rwa [List.append_nil] at this
theorem roomG {s : RS} {H : AH} {b : Nat} (hb : H[b]? = some (ringB s)) {K : Value → AH → Prop} (hK : K (.int .i64 (s.room - s.l.length : Nat)) H) : AC Try.prog 73 [.pointer (some ⟨b,0,none⟩)] H K := by
 refine AC.at1 (args0 := [.pointer (some ⟨0,0,none⟩)]) (E := []) (room_ s) trivial trivial (by simp) hb (by simp [scpL,scp,live]) (by simp [ren,renA]) ?_
 rw [set_same hb,List.append_nil]
 simpa [ren] using hK
theorem putG {s : RS} (v : Int) {H : AH} {b : Nat} (hb : H[b]? = some (ringB s)) {K : Value → AH → Prop} (hK : K (.bool (decide (s.l.length < s.room))) (H.set b (ringB (if s.l.length < s.room then ⟨s.room,s.l ++ [v]⟩ else s)))) : AC Try.prog 46 [.pointer (some ⟨b,0,none⟩),.int .u32 v] H K := by
 refine AC.at1 (args0 := [.pointer (some ⟨0,0,none⟩),.int .u32 v]) (E := []) (put_ s v) trivial trivial (by simp) hb (by simp [scpL,scp,live]) (by simp [ren,renA]) ?_
 rw [List.append_nil]
 simpa [ren] using hK
theorem rtakeG {s : RS} {H : AH} {b : Nat} (hb : H[b]? = some (ringB s)) {K : Value → AH → Prop} (hK : K (match s.l with | [] => .tuple #[.int .u32 0,.bool false] | x :: _ => .tuple #[.int .u32 x,.bool true]) (H.set b (ringB ⟨s.room,s.l.tail⟩))) : AC Try.prog 57 [.pointer (some ⟨b,0,none⟩)] H K := by
 refine AC.at1 (args0 := [.pointer (some ⟨0,0,none⟩)]) (E := []) (rtake_ s) trivial trivial (by simp) hb (by simp [scpL,scp,live]) (by simp [ren,renA]) ?_
 rw [List.append_nil]
 cases hl : s.l with
 | nil => rw [hl] at hK; simpa [ren,renAr,renL] using hK
 | cons x r => rw [hl] at hK; simpa [ren,renAr,renL] using hK
def lookP (out : List (Nat × Nat)) (k : Nat) : Nat := match out.find? (fun x => x.1 == k) with
 | some x => x.2
 | none => 0
theorem find_ents : ∀ {es : List MapEntry} {out : List (Nat × Nat)} (k i : Nat),ents es out → findA false (.int .u32 (k : Nat)) es i = some (match out.findIdx? (fun x => x.1 == k) with | some j => some (i + j,.int .i64 ((out[j]?.map (·.2)).getD 0 : Nat)) | none => none)
 | [],[],k,i,h => rfl
 | [],x :: out,k,i,h => by simp [ents] at h
 | e :: es,[],k,i,h => by simp [ents] at h
 | e :: es,x :: out,k,i,h => by
  simp only [ents,List.map_cons,List.cons.injEq,Prod.mk.injEq] at h
  obtain ⟨⟨h1,h2⟩,h3⟩ := h
  have ih := find_ents k (i + 1) (show ents es out from h3)
  simp only [findA,h1,keyEq]
  by_cases hk : x.1 = k
  ·simp [hk,h2,List.findIdx?_cons]
  ·have hb : ((k : Int) == (x.1 : Int)) = false := by simp; omega
   have hb2 : (x.1 == k) = false := by simp [hk]
   simp only [if_true,hb,and_self,ih,List.findIdx?_cons,hb2]
   cases out.findIdx? (fun x => x.1 == k) with
   | none => rfl
   | some j =>
    simp
    omega
theorem flat_take {h : Nat} {r : List Nat} : ∀ {l : List (List Nat)} {t : Nat},l[t]? = some (h :: r) → l.flatten.Perm (h :: (l.set t r).flatten)
 | x :: l,0,e => by simp at e; subst e; simp
 | x :: l,t + 1,e => by
  simp only [List.flatten_cons,List.set_cons_succ]
  have := flat_take (l := l) (t := t) (by simpa using e)
  exact (this.append_left x).trans List.perm_middle
theorem flat_put {h : Nat} {r : List Nat} : ∀ {l : List (List Nat)} {t : Nat},l[t]? = some r → (l.set t (r ++ [h])).flatten.Perm (h :: l.flatten)
 | x :: l,0,e => by
  simp at e
  subst e
  simp only [List.set_cons_zero,List.flatten_cons,List.append_assoc,List.singleton_append]
  exact List.perm_middle
 | x :: l,t + 1,e => by
  simp only [List.flatten_cons,List.set_cons_succ]
  have := flat_put (h := h) (l := l) (t := t) (by simpa using e)
  exact (this.append_left x).trans List.perm_middle
theorem keys_out {h : Nat} : ∀ {out : List (Nat × Nat)},(out.map (·.1)).Nodup → h ∈ out.map (·.1) → (out.map (·.1)).Perm (h :: (out.filter (fun x => x.1 != h)).map (·.1))
 | x :: out,hn,hm => by
  simp only [List.map_cons,List.nodup_cons] at hn
  by_cases e : x.1 = h
  ·subst e
   have : out.filter (fun y => y.1 != x.1) = out := by
    rw [List.filter_eq_self]
    intro y hy
    simp only [bne_iff_ne,ne_eq]
    intro e
    exact hn.1 (e ▸ List.mem_map.2 ⟨y,hy,rfl⟩)
   simp [this]
  ·have hm2 : h ∈ out.map (·.1) := by
    simp only [List.map_cons,List.mem_cons] at hm
    rcases hm with hm | hm
    ·exact absurd hm.symm e
    ·exact hm
   have ih := keys_out hn.2 hm2
   rw [List.filter_cons_of_pos (by simp [e])]
   simp only [List.map_cons]
   exact (ih.cons _).trans (List.Perm.swap _ _ _)
def takeH (s : PS) (t : Int) : Nat := if t < 0 then 0 else match s.free[t.toNat]? with
 | some (h :: _) => h
 | _ => 0
def takeS (s : PS) (t : Int) : PS := if t < 0 then s else match s.free[t.toNat]? with
 | some (h :: r) => { s with free := s.free.set t.toNat r,out := s.out ++ [(h,t.toNat + 1)] }
 | _ => s
def takeE (s : PS) (t : Int) : Int := if t < 0 ∨ (s.free.length : Int) ≤ t then 4 else 0
theorem OkP.keys {s : PS} (ok : OkP s) : s.all.Nodup := by
 have h := ok.idx
 exact List.Pairwise.of_map (fun x => x % 4096) (fun a b hne e => hne (by rw [e])) h
theorem take_ok {s : PS} (ok : OkP s) {t h : Nat} {r : List Nat} (e : s.free[t]? = some (h :: r)) : OkP { s with free := s.free.set t r,out := s.out ++ [(h,t + 1)] } ∧ h ∉ s.out.map (·.1) := by
 have htl := (List.getElem?_eq_some_iff.1 e).1
 have hp : (s.all).Perm ((s.free.set t r).flatten ++ (s.out ++ [(h,t + 1)]).map (·.1)) := by
  unfold PS.all
  refine ((flat_take e).append_right _).trans ?_
  rw [List.map_append,← List.append_assoc]
  exact (List.perm_append_singleton _ _).symm
 refine ⟨⟨by simpa using ok.one,by simpa using ok.many,ok.each,fun u q hu => ?_,fun x hx => ?_, ?_,fun y hy => ok.rng y ?_⟩, ?_⟩
 ·simp only at hu ⊢
  rw [List.countP_append]
  rw [List.getElem?_set] at hu
  split at hu
  ·rename_i eq
   subst eq
   injection hu with hu
   subst hu
   have := ok.cnt t _ e
   simp at this ⊢
   omega
  ·rename_i ne
   have := ok.cnt u q hu
   have hb : (t + 1 == u + 1) = false := by simp; omega
   simp [List.countP_cons,hb]
   exact this
 ·simp only [List.length_set]
  rcases List.mem_append.1 hx with hx | hx
  ·exact ok.who x hx
  ·simp at hx
   subst hx
   simp
   omega
 ·exact (hp.map _).nodup_iff.1 ok.idx
 ·exact hp.mem_iff.2 hy
 ·intro hm
  have hn := ok.keys
  unfold PS.all at hn
  rw [List.nodup_append] at hn
  have : h ∈ s.free.flatten := (flat_take e).mem_iff.2 List.mem_cons_self
  exact hn.2.2 h this h hm rfl
def freeE (s : PS) (h : Nat) : Int := if h = 0 then 0 else if lookP s.out h = 0 then 10 else 0
def freeS (s : PS) (h : Nat) : PS := if h = 0 ∨ lookP s.out h = 0 then s else { s with free := s.free.set (lookP s.out h - 1) ((s.free[lookP s.out h - 1]?).getD [] ++ [hNext h]),out := s.out.filter (fun x => x.1 != h) }
theorem lookP_mem {out : List (Nat × Nat)} {k : Nat} (h : lookP out k ≠ 0) : (k,lookP out k) ∈ out := by
 unfold lookP at h ⊢
 cases hf : out.find? (fun x => x.1 == k) with
 | none => rw [hf] at h; exact absurd rfl h
 | some x =>
  have h1 := List.find?_some hf
  have h2 := List.mem_of_find?_eq_some hf
  simp only [beq_iff_eq] at h1
  simp only
  rw [← h1]
  exact h2
theorem hNext_mod (h : Nat) : hNext h % 4096 = h % 4096 := by unfold hNext hOf; omega
theorem hNext_lt (h : Nat) : hNext h < 4294967296 := by unfold hNext hOf; omega
theorem count_filter {out : List (Nat × Nat)} (hn : (out.map (·.1)).Nodup) {k v : Nat} (hm : (k,v) ∈ out) (u : Nat) : (out.filter (fun x => x.1 != k)).countP (fun x => x.2 == u) + (if v = u then 1 else 0) = out.countP (fun x => x.2 == u) := by
 induction out with
 | nil => cases hm
 | cons x out ih =>
  simp only [List.map_cons,List.nodup_cons] at hn
  rcases List.mem_cons.1 hm with rfl | hm
  ·have hfl : out.filter (fun y => y.1 != k) = out := by
    rw [List.filter_eq_self]
    intro y hy
    simp only [bne_iff_ne,ne_eq]
    intro e
    exact hn.1 (e ▸ List.mem_map.2 ⟨y,hy,rfl⟩)
   rw [List.filter_cons_of_neg (by simp),hfl,List.countP_cons]
   simp
  ·have hne : x.1 ≠ k := fun e => hn.1 (e ▸ List.mem_map.2 ⟨_,hm,rfl⟩)
   rw [List.filter_cons_of_pos (by simp [hne]),List.countP_cons,List.countP_cons]
   have := ih hn.2 hm
   omega
theorem free_ok {s : PS} (ok : OkP s) {h : Nat} (hl : lookP s.out h ≠ 0) : ∃ r,s.free[lookP s.out h - 1]? = some r ∧ r.length < s.each ∧ OkP { s with free := s.free.set (lookP s.out h - 1) (r ++ [hNext h]),out := s.out.filter (fun x => x.1 != h) } := by
 obtain ⟨v,hv⟩ : ∃ v,lookP s.out h = v := ⟨_,rfl⟩
 have hm := lookP_mem hl
 rw [hv] at hl hm ⊢
 obtain ⟨w1,w2⟩ := ok.who _ hm
 simp only at w1 w2
 obtain ⟨r,hr⟩ : ∃ r,s.free[v - 1]? = some r := ⟨_,List.getElem?_eq_getElem (by omega)⟩
 have hnk : (s.out.map (·.1)).Nodup := by
  have := ok.keys
  unfold PS.all at this
  rw [List.nodup_append] at this
  exact this.2.1
 have hcnt := ok.cnt _ _ hr
 have hcf := count_filter hnk hm
 have hlt : r.length < s.each := by
  have := hcf (v - 1 + 1)
  rw [if_pos (by omega)] at this
  omega
 have hp : ((s.free.set (v - 1) (r ++ [hNext h])).flatten ++ (s.out.filter (fun x => x.1 != h)).map (·.1)).Perm (hNext h :: (s.free.flatten ++ (s.out.filter (fun x => x.1 != h)).map (·.1))) := (flat_put hr).append_right _
 have hq : s.all.Perm (h :: (s.free.flatten ++ (s.out.filter (fun x => x.1 != h)).map (·.1))) := by
  unfold PS.all
  exact ((keys_out hnk (List.mem_map.2 ⟨_,hm,rfl⟩)).append_left _).trans List.perm_middle
 refine ⟨r,hr,hlt,⟨by simpa using ok.one,by simpa using ok.many,ok.each,fun u q hu => ?_,fun x hx => ?_, ?_,fun y hy => ?_⟩⟩
 ·simp only at hu ⊢
  rw [List.getElem?_set] at hu
  split at hu
  ·rename_i eq
   split at hu
   ·injection hu with hu
    subst hu
    have := hcf (u + 1)
    rw [if_pos (by omega)] at this
    rw [← eq]
    simp
    rw [← eq] at this
    omega
   ·cases hu
  ·rename_i ne
   have h1 := ok.cnt u q hu
   have := hcf (u + 1)
   rw [if_neg (by omega)] at this
   omega
 ·simp only [List.length_set]
  exact ok.who x (List.mem_filter.1 hx).1
 ·refine (hp.map _).nodup_iff.2 ?_
  have := (hq.map (· % 4096)).nodup_iff.1 ok.idx
  simp only [List.map_cons] at this ⊢
  rw [hNext_mod]
  exact this
 ·rcases List.mem_cons.1 (hp.mem_iff.1 hy) with rfl | hy
  ·exact hNext_lt h
  ·exact ok.rng y (hq.mem_iff.2 (List.mem_cons_of_mem _ hy))
end Px
end Go.Proofs.Ytongllppbifiaaa
