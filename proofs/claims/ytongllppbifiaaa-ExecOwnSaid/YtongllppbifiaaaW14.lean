import Derived.Test.YtongllppbifiaaaW13
namespace Go.Proofs.Ytongllppbifiaaa
namespace Px
open Go Abs Code
set_option linter.unusedVariables false
set_option linter.unusedSimpArgs false
set_option maxRecDepth 100000
theorem rnew_ (room : Nat) (h : room ≤ 4096) : AC Try.prog 44 [.int .i64 room] [] (fun v h' => v = .pointer (some ⟨0,0,none⟩) ∧ h' = [ringB ⟨room,[]⟩]) := by
 refine AC.sees ?_
 refine entry hmix cf44 ?_
 have a1 : min (room : Int) 4096 = room := by omega
 have a4 : room ≤ 281474976710656 := by omega
 have a5 : 4 * (room : Int) ≤ 281474976710656 := by omega
 have a6 : (room : Int) ≤ 281474976710656 := by omega
 simp (maxSteps := 2000000) (implicitDefEqProofs := false) [DN,NB,begT,atHead,kd,wantedA,evP,evR,evF,evL,evC,evI,evBin,evUn,evEq,evSt,evRes,plain,scp,scpA,scpL,rdRow_eq,RV,rdCells,veq,veqA,veqL,isHole,Value.cells,evalL,optI,evBounds,evFill,evFillR,evApp,newsOf,wrCells,one1,fitsApp,evClr,undef,onB_bool,List.getElem?_concat_length,List.getElem?_cons_zero,List.getElem?_cons_succ,List.getElem?_toArray,List.getElem?_nil,List.set_cons_zero,List.set_cons_succ,List.cons_append,List.nil_append,-getElem?_pos,-getElem?_neg,a1,a4,a5,a6,reps_words]
 have hh : heapR ⟨room,[]⟩ (rgH (List.replicate room 0) 0 0) := ⟨List.replicate room 0,0,⟨by simp,h,Nat.zero_le _,by show 0 < room ∨ room = 0 ∧ 0 = 0; omega,fun i hi => by simp at hi⟩,rfl⟩
 refine Sees.new (i := 1) (is := [0]) _ hh (rgH_own _ _ _) (rgH_ok _ _ _) (rgH_hc _ _ _) (by simp) rfl ⟨?_, ?_,trivial⟩ (.pointer (some ⟨0,0,none⟩)) (by simp [ren,renA]) (by simp [scp,live]) ⟨rfl,rfl⟩
 ·simp [renB,ren,renA,nth]
 ·simp [renB,words_ren,nth]
theorem live_adt {G : AH} {s : RS} : live (G ++ [ringB s]) G.length = true := live_of (k := ringB s) (by simp) (by simp)
theorem rnewG {room : Nat} (h : room ≤ 4096) {H : AH} {K : Value → AH → Prop} (hK : K (.pointer (some ⟨H.length,0,none⟩)) (H ++ [ringB ⟨room,[]⟩])) : AC Try.prog 44 [.int .i64 room] H K := by
 refine AC.at0 (args0 := [.int .i64 room]) (rnew_ room h) (by intro k hk; simp at hk; subst hk; trivial) rfl rfl ?_
 simpa [ren,renA] using hK
def freshR (each t k : Nat) : List Nat := (List.range k).map fun i => t * each + i + 1
def newP (n each : Nat) : PS := ⟨each,(List.range n).map fun t => freshR each t each,[]⟩
theorem freshR_s (each t k : Nat) : freshR each t (k + 1) = freshR each t k ++ [t * each + k + 1] := by simp [freshR,List.range_succ]
theorem freshR_length (each t k : Nat) : (freshR each t k).length = k := by simp [freshR]
def iT (n each t b k : Nat) : List (Nat × Value) := [(0,.int .i64 n),(1,.int .i64 each),(6,.pointer (some ⟨0,0,none⟩)),(7,.int .i64 t),(8,.pointer (some ⟨b,0,none⟩)),(30,.int .i64 n),(31,.int .i64 t),(36,.int .i64 each),(37,.int .i64 k)]
set_option maxHeartbeats 2000000 in
theorem loop40b (n each t : Nat) (hn : n ≤ 64) (he : each ≤ 8) (ht : t < n) (G : AH) (hl : 0 < G.length) (h0l : live G 0 = true) (hG : ∀ s,AOK (G ++ [ringB s])) (T0 : T) (h : AH) (Q : AExit → T → AH → Prop)
  (h0 : atHeadV 0 66 (iT n each t G.length 0) (G ++ [ringB ⟨each,nats (freshR each t 0)⟩]) T0 h)
  (hQ : Q (.exit 2) (mkT 66 ((38,.bool false) :: iT n each t G.length each)) (G ++ [ringB ⟨each,nats (freshR each t each)⟩])) : ALoop Try.prog 0 lp22_1 T0 h Q := by
 refine loop3 hmix 66 (fun k => k ≤ each) (fun k => each - k) (iT n each t G.length) (fun k => G ++ [ringB ⟨each,nats (freshR each t k)⟩]) 0 (Nat.zero_le _) h0 ?_
 intro k hk
 by_cases hlt : k < each
 case neg =>
  obtain rfl : k = each := by omega
  simp (maxSteps := 2000000) (implicitDefEqProofs := false) [DN,NB,begT,atHead,kd,wantedA,evP,evR,evF,evL,evC,evI,evBin,evUn,evEq,evSt,evRes,plain,scp,scpA,scpL,rdRow_eq,RV,rdCells,veq,veqA,veqL,isHole,Value.cells,evalL,optI,evBounds,evFill,evFillR,evApp,newsOf,wrCells,one1,fitsApp,evClr,undef,onB_bool,List.getElem?_concat_length,List.getElem?_cons_zero,List.getElem?_cons_succ,List.getElem?_toArray,List.getElem?_nil,List.set_cons_zero,List.set_cons_succ,List.cons_append,List.nil_append,-getElem?_pos,-getElem?_neg,iT] at hQ
  simp (maxSteps := 2000000) (implicitDefEqProofs := false) [DN,NB,begT,atHead,kd,wantedA,evP,evR,evF,evL,evC,evI,evBin,evUn,evEq,evSt,evRes,plain,scp,scpA,scpL,rdRow_eq,RV,rdCells,veq,veqA,veqL,isHole,Value.cells,evalL,optI,evBounds,evFill,evFillR,evApp,newsOf,wrCells,one1,fitsApp,evClr,undef,onB_bool,List.getElem?_concat_length,List.getElem?_cons_zero,List.getElem?_cons_succ,List.getElem?_toArray,List.getElem?_nil,List.set_cons_zero,List.set_cons_succ,List.cons_append,List.nil_append,-getElem?_pos,-getElem?_neg,iT,lp22_1]
  exact hQ
 have hlt' : (k : Int) < each := by omega
 obtain ⟨p,hp⟩ : ∃ p,t * each = p := ⟨_,rfl⟩
 have hple : p ≤ 512 := by
  rw [← hp]
  exact Nat.le_trans (Nat.mul_le_mul (show t ≤ 64 by omega) he) (by omega)
 obtain ⟨x,hx⟩ : ∃ x,t * each + k + 1 = x := ⟨_,rfl⟩
 have hmul : (t : Int) * each = p := by rw [← hp]; push_cast; rfl
 have hw1 : IntKind.i64.wrap (p : Int) = p := IntWalk.i64_in _ (by omega)
 have hw2 : IntKind.i64.wrap ((p : Int) + k) = (p : Int) + k := IntWalk.i64_in _ (by omega)
 have hw3 : IntKind.i64.wrap ((p : Int) + k + 1) = (x : Nat) := by rw [IntWalk.i64_in _ (by omega)]; omega
 have hwr : IntKind.i64.wrap ((k : Int) + 1) = ((k + 1 : Nat) : Int) := by rw [IntWalk.i64_in _ (by omega)]; omega
 have hx0 : hOf x 0 = x := by simp [hOf]
 have hlen : (nats (freshR each t k)).length = k := by simp [nats,freshR_length]
 have hnats : nats (freshR each t k) ++ [(x : Int)] = nats (freshR each t (k + 1)) := by rw [freshR_s,hx]; simp [nats]
 simp (maxSteps := 2000000) (implicitDefEqProofs := false) [DN,NB,begT,atHead,kd,wantedA,evP,evR,evF,evL,evC,evI,evBin,evUn,evEq,evSt,evRes,plain,scp,scpA,scpL,rdRow_eq,RV,rdCells,veq,veqA,veqL,isHole,Value.cells,evalL,optI,evBounds,evFill,evFillR,evApp,newsOf,wrCells,one1,fitsApp,evClr,undef,onB_bool,List.getElem?_concat_length,List.getElem?_cons_zero,List.getElem?_cons_succ,List.getElem?_toArray,List.getElem?_nil,List.set_cons_zero,List.set_cons_succ,List.cons_append,List.nil_append,-getElem?_pos,-getElem?_neg,iT,lp22_1,hlt,hmul,hw1,hw2,hw3]
 refine hnew_ x 0 (by omega) (by omega) _ ?_
 simp (maxSteps := 2000000) (implicitDefEqProofs := false) [DN,NB,begT,atHead,kd,wantedA,evP,evR,evF,evL,evC,evI,evBin,evUn,evEq,evSt,evRes,plain,scp,scpA,scpL,rdRow_eq,RV,rdCells,veq,veqA,veqL,isHole,Value.cells,evalL,optI,evBounds,evFill,evFillR,evApp,newsOf,wrCells,one1,fitsApp,evClr,undef,onB_bool,List.getElem?_concat_length,List.getElem?_cons_zero,List.getElem?_cons_succ,List.getElem?_toArray,List.getElem?_nil,List.set_cons_zero,List.set_cons_succ,List.cons_append,List.nil_append,-getElem?_pos,-getElem?_neg,hx0]
 refine putG (s := ⟨each,nats (freshR each t k)⟩) x (b := G.length) (by simp) ?_
 simp (maxSteps := 2000000) (implicitDefEqProofs := false) [DN,NB,begT,atHead,kd,wantedA,evP,evR,evF,evL,evC,evI,evBin,evUn,evEq,evSt,evRes,plain,scp,scpA,scpL,rdRow_eq,RV,rdCells,veq,veqA,veqL,isHole,Value.cells,evalL,optI,evBounds,evFill,evFillR,evApp,newsOf,wrCells,one1,fitsApp,evClr,undef,onB_bool,List.getElem?_concat_length,List.getElem?_cons_zero,List.getElem?_cons_succ,List.getElem?_toArray,List.getElem?_nil,List.set_cons_zero,List.set_cons_succ,List.cons_append,List.nil_append,-getElem?_pos,-getElem?_neg,hlen,hlt,hnats,hwr]
 refine nextS.intro (k + 1) (by omega) (by omega) ?_
 refine headId (fun _ _ hk => hk) (hG _) (fun b hb => by omega) (by simp) rfl fun y' hy => ?_
 simp only [iT,List.mem_cons,List.not_mem_nil,or_false] at hy
 rcases hy with rfl | rfl | rfl | rfl | rfl | rfl | rfl | rfl | rfl <;> refine ⟨(by simp [GB]), ?_⟩
 case inr.inr.inl => simp only [scp]; exact live_push _ h0l
 case inr.inr.inr.inr.inl => simp [scp,live_adt]
 all_goals simp [scp]
def freeV (t : Nat) : Value := if t = 0 then .slice none 0 0 else .slice (some ⟨t + 2,0,none⟩) t (OPEN + t)
def ptrs2 (n : Nat) : List Value := (List.range n).map fun j => .pointer (some ⟨j + 2,0,none⟩)
def ringsP (each t : Nat) : AH := (List.range t).map fun j => ringB ⟨each,nats (freshR each j each)⟩
def rowT (t : Nat) : AH := if t = 0 then [] else [.cells (ptrs2 t) 118 (some 1)]
def baseP (each t : Nat) : AH := .cells [.int .i64 each,freeV t,.map (some 1)] 117 none :: .map [] 0 :: (ringsP each t ++ rowT t)
theorem baseP_length (each t : Nat) : (baseP each t).length = 2 + t + (if t = 0 then 0 else 1) := by
 unfold baseP rowT ringsP
 split <;> simp <;> omega
theorem capLow_open (n : Nat) : capLow (OPEN + n) = n := by
 unfold capLow
 rw [if_neg (by omega)]
 omega
theorem baseP_get {each t b : Nat} {k : ABlk} (h : (baseP each (t + 1))[b]? = some k) : (b = 0 ∧ k = .cells [.int .i64 each,freeV (t + 1),.map (some 1)] 117 none) ∨ (b = 1 ∧ k = .map [] 0) ∨ (∃ j,j < t + 1 ∧ b = j + 2 ∧ k = ringB ⟨each,nats (freshR each j each)⟩) ∨ (b = t + 3 ∧ k = .cells (ptrs2 (t + 1)) 118 (some 1)) := by
 match b with
 | 0 => injection h with h; exact .inl ⟨rfl,h.symm⟩
 | 1 => injection h with h; exact .inr (.inl ⟨rfl,h.symm⟩)
 | b + 2 =>
  replace h : (ringsP each (t + 1) ++ rowT (t + 1))[b]? = some k := h
  have hXl : (ringsP each (t + 1)).length = t + 1 := by simp [ringsP]
  by_cases hb : b < t + 1
  ·rw [List.getElem?_append_left (by omega)] at h
   refine .inr (.inr (.inl ⟨b,hb,rfl, ?_⟩))
   unfold ringsP at h
   rw [List.getElem?_map,List.getElem?_range hb] at h
   injection h with h
   exact h.symm
  ·rw [List.getElem?_append_right (by omega),hXl] at h
   unfold rowT at h
   rw [if_neg (by omega)] at h
   by_cases hb2 : b = t + 1
   ·subst hb2
    rw [Nat.sub_self] at h
    injection h with h
    exact .inr (.inr (.inr ⟨rfl,h.symm⟩))
   ·rw [List.getElem?_eq_none (by simp; omega)] at h
    cases h
theorem baseP_ring {each t j : Nat} (h : j < t + 1) : (baseP each (t + 1))[j + 2]? = some (ringB ⟨each,nats (freshR each j each)⟩) := by
 show (ringsP each (t + 1) ++ rowT (t + 1))[j]? = _
 rw [List.getElem?_append_left (by simp [ringsP]; omega)]
 unfold ringsP
 rw [List.getElem?_map,List.getElem?_range h]
 rfl
theorem baseP_row {each t : Nat} : (baseP each (t + 1))[t + 3]? = some (.cells (ptrs2 (t + 1)) 118 (some 1)) := by
 show (ringsP each (t + 1) ++ rowT (t + 1))[t + 1]? = _
 rw [List.getElem?_append_right (by simp [ringsP])]
 simp [ringsP,rowT]
theorem baseP_scp (each t : Nat) (L : Nat → Bool) (hL : ∀ b,live (baseP each t) b = true → L b = true) : ∀ (b : Nat) (k : ABlk),(baseP each t)[b]? = some k → k.scp L := by
 intro b k hb
 cases t with
 | zero =>
  match b with
  | 0 =>
   injection hb with hb
   subst hb
   intro v hv
   simp only [List.mem_cons,List.not_mem_nil,or_false] at hv
   rcases hv with rfl | rfl | rfl
   ·rfl
   ·simp [freeV,scp]
   ·exact hL 1 rfl
  | 1 => injection hb with hb; subst hb; intro e he; cases he
  | b + 2 => simp [baseP,ringsP,rowT] at hb
 | succ t =>
  rcases baseP_get hb with ⟨rfl,rfl⟩ | ⟨rfl,rfl⟩ | ⟨j,hj,rfl,rfl⟩ | ⟨rfl,rfl⟩
  ·intro v hv
   simp only [List.mem_cons,List.not_mem_nil,or_false] at hv
   rcases hv with rfl | rfl | rfl
   ·rfl
   ·exact hL (t + 3) (live_of baseP_row (by simp))
   ·exact hL 1 rfl
  ·intro e he; cases he
  ·trivial
  ·intro v hv
   obtain ⟨j,hj,rfl⟩ := List.mem_map.1 hv
   exact hL (j + 2) (live_of (baseP_ring (List.mem_range.1 hj)) (by simp))
theorem baseP_ok0 (each t : Nat) : AOK (baseP each t) := baseP_scp each t _ fun b h => h
theorem baseP_ok (each t : Nat) : ∀ s,AOK (baseP each t ++ [ringB s]) := by
 intro s b k hb
 by_cases hlt : b < (baseP each t).length
 ·rw [List.getElem?_append_left hlt] at hb
  exact baseP_scp each t _ (fun b h => live_push _ h) b k hb
 ·rw [List.getElem?_append_right (by omega)] at hb
  obtain ⟨m,hm⟩ : ∃ m,b - (baseP each t).length = m := ⟨_,rfl⟩
  rw [hm] at hb
  match m with
  | 0 => injection hb with hb; subst hb; trivial
  | m + 1 => simp at hb
theorem nth_map_range (f : Nat → Nat) : ∀ (n a b : Nat),b < n → nth ((List.range' a n).map f) b = f (a + b)
 | 0,a,b,h => by omega
 | n + 1,a,0,h => by simp [List.range'_succ,nth]
 | n + 1,a,b + 1,h => by
  rw [List.range'_succ,List.map_cons,nth_s,nth_map_range f n (a + 1) b (by omega)]
  congr 1
  omega
theorem keepsF_of {σ : Nat → Nat} {h : AH} : ∀ {g : AH} {is : List Nat},g.length = is.length → (∀ (b : Nat) (k : ABlk),g[b]? = some k → h[nth is b]? = some (renB σ k)) → keepsF σ h g is
 | [],[],_,_ => trivial
 | k :: g,i :: is,hl,hg => ⟨hg 0 k rfl,keepsF_of (by simpa using hl) fun b k' hb => hg (b + 1) k' (by simpa using hb)⟩
 | [],_ :: _,hl,_ => by simp at hl
 | _ :: _,[],hl,_ => by simp at hl
theorem headF {m n : Nat} {tv : List (Nat × Value)} {g : AH} {t : T} {h : AH} (f : Nat → Nat) (h1 : ∀ (b : Nat) (k : ABlk),g[b]? = some k → h[f b]? = some (renB (fun b => if b < g.length then f b else b) k)) (hinj : ∀ a b,a < b → b < g.length → f a < f b) (h3 : AOK g) (h4 : ∀ b,b < m → f b = b ∧ live g b = true) (h5 : m ≤ g.length) (h6 : t.length = n) (h7 : ∀ x ∈ tv,getT t x.1 = some (ren (fun b => if b < g.length then f b else b) x.2) ∧ scp (live g) x.2 = true) : atHeadV m n tv g t h := by
 have hσ : nthD ((List.range' 0 g.length).map f) = fun b => if b < g.length then f b else b := by
  funext b
  unfold nthD
  rw [List.length_map,List.length_range']
  split
  ·rename_i hb
   rw [nth_map_range f _ _ _ hb,Nat.zero_add]
  ·rfl
 refine headK ((List.range' 0 g.length).map f) (keepsF_of (by simp) fun b k hb => ?_) ?_ h3 (fun b hb => ?_) h5 h6 (by rw [hσ]; exact h7)
 ·rw [hσ,nth_map_range f _ _ _ (List.getElem?_eq_some_iff.1 hb).1,Nat.zero_add]
  exact h1 b k hb
 ·refine List.Pairwise.map _ (R := fun a b => a < b ∧ b < g.length) (fun a b hab e => ?_) ?_
  ·have := hinj a b hab.1 hab.2
   omega
  ·rw [← List.range_eq_range']
   refine List.Pairwise.imp_of_mem (R := (· < ·)) (fun ha hb hab => ⟨hab,by simpa using hb⟩) List.pairwise_lt_range
 ·rw [hσ]
  have := h4 b hb
  refine ⟨?_,this.2⟩
  show (if b < g.length then f b else b) = b
  split
  ·exact this.1
  ·rfl
def oT (n each t : Nat) : List (Nat × Value) := [(0,.int .i64 n),(1,.int .i64 each),(6,.pointer (some ⟨0,0,none⟩)),(30,.int .i64 n),(31,.int .i64 t)]
set_option maxHeartbeats 2000000 in
theorem loop40a (n each : Nat) (hn : n ≤ 64) (he : each ≤ 8) (T0 : T) (h : AH) (Q : AExit → T → AH → Prop)
  (h0 : atHeadV 0 66 (oT n each 0) (baseP each 0) T0 h)
  (hQ : Q (.exit 0) (mkT 66 ((32,.bool false) :: oT n each n)) (baseP each n)) : ALoop Try.prog 0 lp22_0 T0 h Q := by
 refine loop3 hmix 66 (fun k => k ≤ n) (fun k => n - k) (oT n each) (baseP each) 0 (Nat.zero_le _) h0 ?_
 intro t ht
 by_cases hlt : t < n
 case neg =>
  obtain rfl : t = n := by omega
  simp (maxSteps := 2000000) (implicitDefEqProofs := false) [DN,NB,begT,atHead,kd,wantedA,evP,evR,evF,evL,evC,evI,evBin,evUn,evEq,evSt,evRes,plain,scp,scpA,scpL,rdRow_eq,RV,rdCells,veq,veqA,veqL,isHole,Value.cells,evalL,optI,evBounds,evFill,evFillR,evApp,newsOf,wrCells,one1,fitsApp,evClr,undef,onB_bool,List.getElem?_concat_length,List.getElem?_cons_zero,List.getElem?_cons_succ,List.getElem?_toArray,List.getElem?_nil,List.set_cons_zero,List.set_cons_succ,List.cons_append,List.nil_append,-getElem?_pos,-getElem?_neg,oT] at hQ
  simp (maxSteps := 2000000) (implicitDefEqProofs := false) [DN,NB,begT,atHead,kd,wantedA,evP,evR,evF,evL,evC,evI,evBin,evUn,evEq,evSt,evRes,plain,scp,scpA,scpL,rdRow_eq,RV,rdCells,veq,veqA,veqL,isHole,Value.cells,evalL,optI,evBounds,evFill,evFillR,evApp,newsOf,wrCells,one1,fitsApp,evClr,undef,onB_bool,List.getElem?_concat_length,List.getElem?_cons_zero,List.getElem?_cons_succ,List.getElem?_toArray,List.getElem?_nil,List.set_cons_zero,List.set_cons_succ,List.cons_append,List.nil_append,-getElem?_pos,-getElem?_neg,oT,lp22_0]
  exact hQ
 have hlt' : (t : Int) < n := by omega
 have hwr : IntKind.i64.wrap ((t : Int) + 1) = ((t + 1 : Nat) : Int) := by rw [IntWalk.i64_in _ (by omega)]; omega
 have hl0 : live (baseP each t) 0 = true := rfl
 have hpos : 0 < (baseP each t).length := by rw [baseP_length]; omega
 obtain ⟨L,hL⟩ : ∃ L,(baseP each t).length = L := ⟨_,rfl⟩
 simp (maxSteps := 2000000) (implicitDefEqProofs := false) [DN,NB,begT,atHead,kd,wantedA,evP,evR,evF,evL,evC,evI,evBin,evUn,evEq,evSt,evRes,plain,scp,scpA,scpL,rdRow_eq,RV,rdCells,veq,veqA,veqL,isHole,Value.cells,evalL,optI,evBounds,evFill,evFillR,evApp,newsOf,wrCells,one1,fitsApp,evClr,undef,onB_bool,List.getElem?_concat_length,List.getElem?_cons_zero,List.getElem?_cons_succ,List.getElem?_toArray,List.getElem?_nil,List.set_cons_zero,List.set_cons_succ,List.cons_append,List.nil_append,-getElem?_pos,-getElem?_neg,oT,lp22_0,hlt]
 refine rnewG (room := each) (by omega) ?_
 simp (maxSteps := 2000000) (implicitDefEqProofs := false) [DN,NB,begT,atHead,kd,wantedA,evP,evR,evF,evL,evC,evI,evBin,evUn,evEq,evSt,evRes,plain,scp,scpA,scpL,rdRow_eq,RV,rdCells,veq,veqA,veqL,isHole,Value.cells,evalL,optI,evBounds,evFill,evFillR,evApp,newsOf,wrCells,one1,fitsApp,evClr,undef,onB_bool,List.getElem?_concat_length,List.getElem?_cons_zero,List.getElem?_cons_succ,List.getElem?_toArray,List.getElem?_nil,List.set_cons_zero,List.set_cons_succ,List.cons_append,List.nil_append,-getElem?_pos,-getElem?_neg,hL]
 refine loop40b n each t hn he hlt (baseP each t) hpos hl0 (baseP_ok each t) _ _ _ ?_ ?_
 ·refine headId (fun _ _ hk => hk) (baseP_ok each t _) (fun b hb => by omega) (by simp) rfl fun y' hy => ?_
  simp only [iT,List.mem_cons,List.not_mem_nil,or_false] at hy
  rcases hy with rfl | rfl | rfl | rfl | rfl | rfl | rfl | rfl | rfl <;> refine ⟨(by simp [GB,hL]), ?_⟩
  case inr.inr.inl => simp only [scp]; exact live_push _ hl0
  case inr.inr.inr.inr.inl => simp [scp,live_adt]
  all_goals simp [scp]
 cases t with
 | zero =>
  have hwr1 : IntKind.i64.wrap 1 = 1 := rfl
  simp (maxSteps := 2000000) (implicitDefEqProofs := false) [DN,NB,begT,atHead,kd,wantedA,evP,evR,evF,evL,evC,evI,evBin,evUn,evEq,evSt,evRes,plain,scp,scpA,scpL,rdRow_eq,RV,rdCells,veq,veqA,veqL,isHole,Value.cells,evalL,optI,evBounds,evFill,evFillR,evApp,newsOf,wrCells,one1,fitsApp,evClr,undef,onB_bool,List.getElem?_concat_length,List.getElem?_cons_zero,List.getElem?_cons_succ,List.getElem?_toArray,List.getElem?_nil,List.set_cons_zero,List.set_cons_succ,List.cons_append,List.nil_append,-getElem?_pos,-getElem?_neg,iT,baseP,freeV,rowT,ringsP,hwr1]
  refine nextS.intro 1 (by omega) (by omega) ?_
  refine headK [0,1,2,4] ?_ (by simp) (by simpa using baseP_ok0 each 1) (fun b hb => by omega) (by simp) rfl fun y' hy => ?_
  ·refine ⟨?_, ?_, ?_, ?_,trivial⟩ <;> simp [renB,freeV,ren,renA,nthD,nth,ptrs2]
  simp only [oT,List.mem_cons,List.not_mem_nil,or_false] at hy
  rcases hy with rfl | rfl | rfl | rfl | rfl <;> refine ⟨by simp [GB,ren,renA,nthD,nth], ?_⟩
  case inr.inr.inl => simp only [scp]; rfl
  all_goals simp [scp]
 | succ t =>
  have hXl : (ringsP each (t + 1)).length = t + 1 := by simp [ringsP]
  obtain ⟨X,hX⟩ : ∃ X,ringsP each (t + 1) = X := ⟨_,rfl⟩
  rw [hX] at hXl
  have hrow : ∀ (a : ABlk) (Y : AH),(X ++ a :: Y)[t + 1]? = some a := by
   intro a Y
   rw [List.getElem?_append_right (by omega),hXl]
   simp
  have hlast : ∀ (a b c : ABlk),(X ++ [a,b,c])[X.length + 2]? = some c := by simp
  have hset : ∀ (a b : ABlk) (Y : AH),(X ++ a :: Y).set (t + 1) b = X ++ b :: Y := by
   intro a b Y
   rw [List.set_append_right _ _ (by omega),hXl]
   simp
  have hpl : (ptrs2 (t + 1)).length = t + 1 := by simp [ptrs2]
  have hpt : List.take (t + 1) (ptrs2 (t + 1)) = ptrs2 (t + 1) := List.take_of_length_le (by omega)
  have hf1 : t ≤ 4294967294 := by omega
  have hf2 : (t + 1 + 1) * 8 ≤ 140737488355328 := by omega
  have hno : ¬ OPEN + (t + 1) < OPEN := by omega
  have hcl : t + 1 < t + 1 + 1 := by omega
  have hwr2 : IntKind.i64.wrap ((t : Int) + 1 + 1) = (t : Int) + 1 + 1 := IntWalk.i64_in _ (by omega)
  simp (maxSteps := 2000000) (implicitDefEqProofs := false) [DN,NB,begT,atHead,kd,wantedA,evP,evR,evF,evL,evC,evI,evBin,evUn,evEq,evSt,evRes,plain,scp,scpA,scpL,rdRow_eq,RV,rdCells,veq,veqA,veqL,isHole,Value.cells,evalL,optI,evBounds,evFill,evFillR,evApp,newsOf,wrCells,one1,fitsApp,evClr,undef,onB_bool,List.getElem?_concat_length,List.getElem?_cons_zero,List.getElem?_cons_succ,List.getElem?_toArray,List.getElem?_nil,List.set_cons_zero,List.set_cons_succ,List.cons_append,List.nil_append,-getElem?_pos,-getElem?_neg,iT,baseP,freeV,rowT,hX,hrow,hset,hlast,hpl,capLow_open,hpt,hf1,hf2,hno,hcl,hwr2]
  refine nextS.intro (t + 2) (by omega) (by omega) ?_
  have hgl : (baseP each (t + 2)).length = t + 5 := by rw [baseP_length,if_neg (by omega)]; omega
  refine headF (fun b => if b < t + 3 then b else if b = t + 3 then t + 4 else t + 6) (fun b k hb => ?_) (fun a b h1 h2 => ?_) (baseP_ok0 _ _) (fun b hb => by omega) (by simp) rfl fun y' hy => ?_
  ·rw [hgl]
   rcases baseP_get hb with ⟨rfl,rfl⟩ | ⟨rfl,rfl⟩ | ⟨j,hj,rfl,rfl⟩ | ⟨rfl,rfl⟩
   ·simp [renB,freeV,ren,renA,hXl]
   ·simp [renB]
   ·by_cases hjt : j < t + 1
    ·have : X[j]? = some (ringB ⟨each,nats (freshR each j each)⟩) := by
      rw [← hX]
      unfold ringsP
      rw [List.getElem?_map,List.getElem?_range hjt]
      rfl
     simp only [if_pos (show j + 2 < t + 3 by omega),List.getElem?_cons_succ]
     rw [List.getElem?_append_left (by omega),this]
     rfl
    ·obtain rfl : j = t + 1 := by omega
     have ef : (if t + 1 + 2 < t + 3 then t + 1 + 2 else if t + 1 + 2 = t + 3 then t + 4 else t + 6) = t + 4 := by rw [if_neg (by omega),if_pos (by omega)]
     rw [ef]
     simp only [List.getElem?_cons_succ]
     rw [List.getElem?_append_right (by omega),hXl]
     simp [renB]
   ·simp only [if_neg (show ¬ t + 1 + 3 < t + 3 by omega),if_neg (show ¬ t + 1 + 3 = t + 3 by omega),List.getElem?_cons_succ]
    rw [List.getElem?_append_right (by omega),hXl]
    have hp2 : (ptrs2 (t + 1 + 1)).map (ren fun b => if b < t + 5 then (if b < t + 3 then b else if b = t + 3 then t + 4 else t + 6) else b) = ptrs2 (t + 1) ++ [.pointer (some ⟨t + 4,0,none⟩)] := by
     unfold ptrs2
     rw [List.range_succ,List.map_append,List.map_append,List.map_map]
     congr 1
     ·refine List.map_congr_left fun j hj => ?_
      have := List.mem_range.1 hj
      simp only [Function.comp,ren,renA,if_pos (show j + 2 < t + 5 by omega),if_pos (show j + 2 < t + 3 by omega)]
     ·simp [ren,renA]
    simp only [renB,hp2]
    simp
  ·rw [hgl] at h2
   split <;> split <;> (try split) <;> (try split) <;> omega
  rw [hgl]
  simp only [oT,List.mem_cons,List.not_mem_nil,or_false] at hy
  rcases hy with rfl | rfl | rfl | rfl | rfl <;> refine ⟨by simp [GB,ren,renA] <;> omega, ?_⟩
  case inr.inr.inl => simp only [scp]; rfl
  all_goals simp [scp]
theorem newP_ok (n each : Nat) (h1 : 1 ≤ n) (hn : n ≤ 64) (he : each ≤ 8) : OkP (newP n each) := by
 have hall : (newP n each).all = List.range' 1 (n * each) := by
  show ((List.range n).map fun t => freshR each t each).flatten ++ [] = _
  rw [List.append_nil]
  clear h1 hn
  induction n with
  | zero => simp
  | succ n ih =>
   rw [List.range_succ,List.map_append,List.flatten_append,ih,Nat.succ_mul,← List.range'_append_1]
   congr 1
   simp only [List.map_cons,List.map_nil,List.flatten_cons,List.flatten_nil,List.append_nil,freshR]
   rw [List.range'_eq_map_range]
   refine List.map_congr_left fun i _ => ?_
   omega
 have hle : n * each ≤ 512 := Nat.le_trans (Nat.mul_le_mul hn he) (by omega)
 refine ⟨by simpa [newP] using h1,by simpa [newP] using hn,he,fun t r ht => ?_,fun x hx => by simp [newP] at hx, ?_,fun h hh => ?_⟩
 ·simp only [newP,List.getElem?_map] at ht
  cases hr : (List.range n)[t]? with
  | none => rw [hr] at ht; cases ht
  | some y =>
   rw [hr] at ht
   injection ht with ht
   subst ht
   simp [newP,freshR_length]
 ·rw [hall]
  have : (List.range' 1 (n * each)).map (· % 4096) = List.range' 1 (n * each) := by
   conv => rhs; rw [← List.map_id (List.range' 1 (n * each))]
   refine List.map_congr_left fun x hx => ?_
   have := List.mem_range'_1.1 hx
   simp only [id]
   omega
  rw [this]
  exact List.nodup_range'
 ·rw [hall] at hh
  have := List.mem_range'_1.1 hh
  omega
theorem subL_of {ι : Nat → Nat} {h : AH} : ∀ {g : AH} {j0 : Nat},(∀ (j : Nat) (k : ABlk),g[j]? = some k → h[ι (j0 + j)]? = some (renB ι k)) → subL ι h j0 g
 | [],j0,_ => trivial
 | k :: g,j0,hg => ⟨by simpa using hg 0 k rfl,subL_of fun j k' hj => by
   have := hg (j + 1) k' (by simpa using hj)
   rwa [show j0 + 1 + j = j0 + (j + 1) by omega]⟩
set_option maxHeartbeats 2000000 in
theorem pnew_ (n each : Nat) (h1 : 1 ≤ n) (hn : n ≤ 64) (he : each ≤ 8) : AC Try.prog 22 [.int .i64 n,.int .i64 each] [] (fun v h' => v = .tuple #[.pointer (some ⟨0,0,none⟩),.int .i64 0] ∧ h' = [poolB (newP n each)]) := by
 refine AC.sees ?_
 refine entry hmix cf22 ?_
 have a1 : ¬ (n : Int) < 1 := by omega
 have a2 : ¬ 64 < (n : Int) := by omega
 have a3 : ¬ 8 < (each : Int) := by omega
 have a4 : ¬ (each : Int) < 0 := by omega
 have b1 : 1 ≤ (n : Int) := by omega
 have b2 : (n : Int) ≤ 64 := by omega
 simp (maxSteps := 2000000) (implicitDefEqProofs := false) [DN,NB,begT,atHead,kd,wantedA,evP,evR,evF,evL,evC,evI,evBin,evUn,evEq,evSt,evRes,plain,scp,scpA,scpL,rdRow_eq,RV,rdCells,veq,veqA,veqL,isHole,Value.cells,evalL,optI,evBounds,evFill,evFillR,evApp,newsOf,wrCells,one1,fitsApp,evClr,undef,onB_bool,List.getElem?_concat_length,List.getElem?_cons_zero,List.getElem?_cons_succ,List.getElem?_toArray,List.getElem?_nil,List.set_cons_zero,List.set_cons_succ,List.cons_append,List.nil_append,-getElem?_pos,-getElem?_neg,a1,a2,a3,a4,b1,b2]
 refine loop40a n each hn he _ _ _ ?_ ?_
 ·refine headK [1,0] ?_ (by simp) (baseP_ok0 each 0) (fun b hb => by omega) (by simp) rfl fun y' hy => ?_
  ·refine ⟨?_, ?_,trivial⟩ <;> simp [renB,freeV,ren,renA,nthD,nth]
  simp only [oT,List.mem_cons,List.not_mem_nil,or_false] at hy
  rcases hy with rfl | rfl | rfl | rfl | rfl <;> refine ⟨by simp [GB,ren,renA,nthD,nth], ?_⟩
  case inr.inr.inl => simp only [scp]; rfl
  all_goals simp [scp]
 simp (maxSteps := 2000000) (implicitDefEqProofs := false) [DN,NB,begT,atHead,kd,wantedA,evP,evR,evF,evL,evC,evI,evBin,evUn,evEq,evSt,evRes,plain,scp,scpA,scpL,rdRow_eq,RV,rdCells,veq,veqA,veqL,isHole,Value.cells,evalL,optI,evBounds,evFill,evFillR,evApp,newsOf,wrCells,one1,fitsApp,evClr,undef,onB_bool,List.getElem?_concat_length,List.getElem?_cons_zero,List.getElem?_cons_succ,List.getElem?_toArray,List.getElem?_nil,List.set_cons_zero,List.set_cons_succ,List.cons_append,List.nil_append,-getElem?_pos,-getElem?_neg,oT]
 obtain ⟨t,rfl⟩ : ∃ t,n = t + 1 := ⟨n - 1,by omega⟩
 have hfl : (newP (t + 1) each).free.length = t + 1 := by simp [newP]
 have hgl : (plH (newP (t + 1) each) [] 0).length = t + 4 := by rw [plH_length,hfl]
 refine Sees.new (i := 0) (is := (List.range' 1 (t + 3)).map fun b => if b = 1 then t + 3 else b - 1) (plH (newP (t + 1) each) [] 0) ⟨newP_ok _ _ h1 hn he,[],0,rfl,rfl⟩ (plH_own _ _ _) (plH_ok rfl) (plH_hc _ _ _) ?_ (by rw [hgl]; simp) ?_ (.tuple #[.pointer (some ⟨0,0,none⟩),.int .i64 0]) (by simp [ren,renA,renAr,renL]) (by simp [scp,scpA,scpL,live]) ⟨rfl,rfl⟩
 ·refine List.nodup_cons.2 ⟨?_, ?_⟩
  ·intro h
   obtain ⟨b,hb,e⟩ := List.mem_map.1 h
   have := List.mem_range'_1.1 hb
   split at e <;> omega
  ·refine List.Pairwise.map _ (R := fun a b => a < b ∧ 1 ≤ a ∧ b < t + 4) (fun a b hab e => ?_) ?_
   ·split at e <;> split at e <;> omega
   ·refine List.Pairwise.imp_of_mem (R := (· < ·)) (fun ha hb hab => ?_) (List.pairwise_lt_range' ..)
    have := List.mem_range'_1.1 ha
    have := List.mem_range'_1.1 hb
    omega
 ·have hnth : ∀ b,b < t + 3 → nth (0 :: (List.range' 1 (t + 3)).map fun b => if b = 1 then t + 3 else b - 1) (b + 1) = if b = 0 then t + 3 else b := by
   intro b hb
   rw [nth_s,nth_map_range _ _ _ _ hb]
   split <;> split <;> omega
  refine subL_of fun b k hb => ?_
  rw [Nat.zero_add]
  have hbl := (List.getElem?_eq_some_iff.1 hb).1
  rw [hgl] at hbl
  match b with
  | 0 =>
   injection hb with hb
   subst hb
   rw [nth_0]
   simp [baseP,renB,ren,renA,freeV,newP,hnth 0 (by omega),hnth 1 (by omega)]
  | 1 =>
   injection hb with hb
   subst hb
   rw [hnth 0 (by omega),if_pos rfl,baseP_row,hfl]
   have hp : (ptrs (t + 1)).map (ren (nth (0 :: (List.range' 1 (t + 3)).map fun b => if b = 1 then t + 3 else b - 1))) = ptrs2 (t + 1) := by
    unfold ptrs ptrs2
    rw [List.map_map]
    refine List.map_congr_left fun j hj => ?_
    have := List.mem_range.1 hj
    simp only [Function.comp,ren,renA]
    rw [hnth (j + 2) (by omega),if_neg (by omega)]
   simp only [renB,hp]
  | 2 =>
   injection hb with hb
   subst hb
   rw [hnth 1 (by omega)]
   rfl
  | b + 3 =>
   rw [plH_get] at hb
   rw [hnth (b + 2) (by omega),if_neg (by omega),baseP_ring (by omega)]
   simp only [newP,List.getElem?_map,List.getElem?_range (show b < t + 1 by omega),Option.map_some] at hb
   injection hb with hb
   subst hb
   rfl
theorem pnewG {n each : Nat} (h1 : 1 ≤ n) (hn : n ≤ 64) (he : each ≤ 8) {H : AH} {K : Value → AH → Prop} (hK : K (.tuple #[.pointer (some ⟨H.length,0,none⟩),.int .i64 0]) (H ++ [poolB (newP n each)])) : AC Try.prog 22 [.int .i64 n,.int .i64 each] H K := by
 refine AC.at0 (args0 := [.int .i64 n,.int .i64 each]) (pnew_ n each h1 hn he) (by intro k hk; simp at hk; subst hk; trivial) rfl rfl ?_
 simpa [ren,renA,renAr,renL] using hK
end Px
end Go.Proofs.Ytongllppbifiaaa
