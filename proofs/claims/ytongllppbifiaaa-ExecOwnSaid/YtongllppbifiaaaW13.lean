import Derived.Test.YtongllppbifiaaaW12
namespace Go.Proofs.Ytongllppbifiaaa
namespace Px
open Go Abs Code
set_option linter.unusedVariables false
set_option linter.unusedSimpArgs false
set_option maxRecDepth 100000
theorem ptrs_get {n t : Nat} (h : t < n) : (ptrs n)[t]? = some (.pointer (some ⟨t + 3,0,none⟩)) := by
 unfold ptrs
 rw [List.getElem?_map,List.getElem?_range h]
 rfl
theorem free_get {s : PS} {t : Nat} {r : List Nat} (h : s.free[t]? = some r) : (s.free.map (rgB s.each))[t]? = some (rgB s.each r) := by rw [List.getElem?_map,h]; rfl
theorem free_set (s : PS) (t : Nat) (r : List Nat) : (s.free.map (rgB s.each)).set t (rgB s.each r) = (s.free.set t r).map (rgB s.each) := by rw [List.map_set]
theorem rgB_def (each : Nat) (r : List Nat) : rgB each r = ringB ⟨each,nats r⟩ := rfl
set_option maxHeartbeats 2000000 in
theorem pout_ (s : PS) (t : Int) : AC Try.prog 70 [.pointer (some ⟨0,0,none⟩),.int .i64 t] [poolB s] (fun v h' => v = .int .i64 (if t < 0 then 0 else match s.free[t.toNat]? with | some r => (s.each - r.length : Nat) | none => 0) ∧ h' = [poolB s]) := by
 refine AC.method2 (by kernel_rfl) fun g hg hown hlive => ?_
 obtain ⟨ok,es,c,he,rfl⟩ := hg
 refine entry hmix cf70 ?_
 simp (maxSteps := 2000000) (implicitDefEqProofs := false) [DN,NB,begT,atHead,kd,wantedA,evP,evR,evF,evL,evC,evI,evBin,evUn,evEq,evSt,evRes,plain,scp,scpA,scpL,rdRow_eq,RV,rdCells,veq,veqA,veqL,isHole,Value.cells,evalL,optI,evBounds,evFill,evFillR,evApp,newsOf,wrCells,one1,fitsApp,evClr,undef,onB_bool,List.getElem?_concat_length,List.getElem?_cons_zero,List.getElem?_cons_succ,List.getElem?_toArray,List.getElem?_nil,List.set_cons_zero,List.set_cons_succ,List.cons_append,List.nil_append,-getElem?_pos,-getElem?_neg,plH]
 refine entry hmix cf56 ?_
 by_cases c1 : t < 0
 ·have c1' : ¬ 0 ≤ t := by omega
  simp (maxSteps := 2000000) (implicitDefEqProofs := false) [DN,NB,begT,atHead,kd,wantedA,evP,evR,evF,evL,evC,evI,evBin,evUn,evEq,evSt,evRes,plain,scp,scpA,scpL,rdRow_eq,RV,rdCells,veq,veqA,veqL,isHole,Value.cells,evalL,optI,evBounds,evFill,evFillR,evApp,newsOf,wrCells,one1,fitsApp,evClr,undef,onB_bool,List.getElem?_concat_length,List.getElem?_cons_zero,List.getElem?_cons_succ,List.getElem?_toArray,List.getElem?_nil,List.set_cons_zero,List.set_cons_succ,List.cons_append,List.nil_append,-getElem?_pos,-getElem?_neg,c1']
  exact plClose0 (c := c) ok he rfl ⟨by simp [c1],rfl⟩
 have c1' : 0 ≤ t := by omega
 by_cases c2 : t < s.free.length
 case neg =>
  simp (maxSteps := 2000000) (implicitDefEqProofs := false) [DN, NB, begT, atHead, kd, wantedA, evP, evR, evF, evL, evC, evI, evBin, evUn, evEq, evSt, evRes, plain, scp, scpA, scpL, rdRow_eq, RV, rdCells, veq, veqA, veqL, isHole, Value.cells, evalL, optI, evBounds, evFill, evFillR, evApp, newsOf, wrCells, one1, fitsApp, evClr, undef, onB_bool, List.getElem?_concat_length, List.getElem?_cons_zero, List.getElem?_cons_succ, List.getElem?_toArray, List.getElem?_nil, List.set_cons_zero, List.set_cons_succ, List.cons_append, List.nil_append, -getElem?_pos, -getElem?_neg, c1', c2]
  refine plClose0 (c := c) ok he rfl ⟨?_,rfl⟩
  have : s.free[t.toNat]? = none := by simp; omega
  simp [c1,this]
 obtain ⟨r,hr⟩ : ∃ r,s.free[t.toNat]? = some r := ⟨_,List.getElem?_eq_getElem (by omega)⟩
 have hp := ptrs_get (n := s.free.length) (t := t.toNat) (by omega)
 have hg := free_get hr
 simp (maxSteps := 2000000) (implicitDefEqProofs := false) [DN, NB, begT, atHead, kd, wantedA, evP, evR, evF, evL, evC, evI, evBin, evUn, evEq, evSt, evRes, plain, scp, scpA, scpL, rdRow_eq, RV, rdCells, veq, veqA, veqL, isHole, Value.cells, evalL, optI, evBounds, evFill, evFillR, evApp, newsOf, wrCells, one1, fitsApp, evClr, undef, onB_bool, List.getElem?_concat_length, List.getElem?_cons_zero, List.getElem?_cons_succ, List.getElem?_toArray, List.getElem?_nil, List.set_cons_zero, List.set_cons_succ, List.cons_append, List.nil_append, -getElem?_pos, -getElem?_neg, c1', c2, hp]
 refine roomG (s := ⟨s.each,nats r⟩) (b := t.toNat + 3) hg ?_
 simp (maxSteps := 2000000) (implicitDefEqProofs := false) [DN,NB,begT,atHead,kd,wantedA,evP,evR,evF,evL,evC,evI,evBin,evUn,evEq,evSt,evRes,plain,scp,scpA,scpL,rdRow_eq,RV,rdCells,veq,veqA,veqL,isHole,Value.cells,evalL,optI,evBounds,evFill,evFillR,evApp,newsOf,wrCells,one1,fitsApp,evClr,undef,onB_bool,List.getElem?_concat_length,List.getElem?_cons_zero,List.getElem?_cons_succ,List.getElem?_toArray,List.getElem?_nil,List.set_cons_zero,List.set_cons_succ,List.cons_append,List.nil_append,-getElem?_pos,-getElem?_neg]
 refine plClose0 (c := c) ok he rfl ⟨?_,rfl⟩
 simp [c1,hr,nats]
theorem find_idx {α : Type} {p : α → Bool} : ∀ {l : List α} {j : Nat},l.findIdx? p = some j → l.find? p = l[j]?
 | [],j,h => by simp at h
 | x :: l,j,h => by
  rw [List.findIdx?_cons] at h
  by_cases hx : p x = true
  ·rw [if_pos hx] at h
   injection h with h
   subst h
   simp [List.find?_cons,hx]
  ·rw [if_neg hx] at h
   cases hj : l.findIdx? p with
   | none => rw [hj] at h; cases h
   | some i =>
    rw [hj] at h
    injection h with h
    subst h
    simp only [Bool.not_eq_true] at hx
    simp [List.find?_cons,hx,find_idx hj]
theorem find_some {es : List MapEntry} {out : List (Nat × Nat)} {k : Nat} (he : ents es out) (hk : lookP out k ≠ 0) : ∃ i,findA false (.int .u32 (k : Nat)) es 0 = some (some (i,.int .i64 (lookP out k : Nat))) ∧ out.findIdx? (fun x => x.1 == k) = some i := by
 rw [find_ents k 0 he]
 have hm := lookP_mem hk
 cases hx : out.findIdx? (fun x => x.1 == k) with
 | none =>
  exfalso
  have := List.findIdx?_eq_none_iff.1 hx _ hm
  simp at this
 | some j =>
  refine ⟨j, ?_,rfl⟩
  have hf : out.find? (fun x => x.1 == k) = out[j]? := find_idx hx
  unfold lookP
  rw [hf]
  have hjl : j < out.length := by
   have := List.findIdx?_eq_some_iff_getElem.1 hx
   exact this.1
  rw [List.getElem?_eq_getElem hjl]
  simp [List.getElem?_eq_getElem hjl]
theorem find_none {es : List MapEntry} {out : List (Nat × Nat)} {k : Nat} (he : ents es out) (hk : k ∉ out.map (·.1)) : findA false (.int .u32 (k : Nat)) es 0 = some none := by
 rw [find_ents k 0 he]
 have : out.findIdx? (fun x => x.1 == k) = none := by
  rw [List.findIdx?_eq_none_iff]
  intro x hx
  simp only [beq_eq_false_iff_ne,ne_eq]
  rintro rfl
  exact hk (List.mem_map.2 ⟨x,hx,rfl⟩)
 rw [this]
set_option maxHeartbeats 2000000 in
theorem ptake_ (s : PS) (t : Int) : AC Try.prog 29 [.pointer (some ⟨0,0,none⟩),.int .i64 t] [poolB s] (fun v h' => v = .tuple #[.int .u32 (takeH s t : Nat),.int .i64 (takeE s t)] ∧ h' = [poolB (takeS s t)]) := by
 refine AC.method2 (by kernel_rfl) fun g hg hown hlive => ?_
 obtain ⟨ok,es,c,he,rfl⟩ := hg
 refine entry hmix cf29 ?_
 simp (maxSteps := 2000000) (implicitDefEqProofs := false) [DN,NB,begT,atHead,kd,wantedA,evP,evR,evF,evL,evC,evI,evBin,evUn,evEq,evSt,evRes,plain,scp,scpA,scpL,rdRow_eq,RV,rdCells,veq,veqA,veqL,isHole,Value.cells,evalL,optI,evBounds,evFill,evFillR,evApp,newsOf,wrCells,one1,fitsApp,evClr,undef,onB_bool,List.getElem?_concat_length,List.getElem?_cons_zero,List.getElem?_cons_succ,List.getElem?_toArray,List.getElem?_nil,List.set_cons_zero,List.set_cons_succ,List.cons_append,List.nil_append,-getElem?_pos,-getElem?_neg,plH]
 refine entry hmix cf56 ?_
 by_cases c1 : t < 0
 ·have c1' : ¬ 0 ≤ t := by omega
  simp (maxSteps := 2000000) (implicitDefEqProofs := false) [DN,NB,begT,atHead,kd,wantedA,evP,evR,evF,evL,evC,evI,evBin,evUn,evEq,evSt,evRes,plain,scp,scpA,scpL,rdRow_eq,RV,rdCells,veq,veqA,veqL,isHole,Value.cells,evalL,optI,evBounds,evFill,evFillR,evApp,newsOf,wrCells,one1,fitsApp,evClr,undef,onB_bool,List.getElem?_concat_length,List.getElem?_cons_zero,List.getElem?_cons_succ,List.getElem?_toArray,List.getElem?_nil,List.set_cons_zero,List.set_cons_succ,List.cons_append,List.nil_append,-getElem?_pos,-getElem?_neg,c1']
  exact plClose0 (c := c) ok he rfl ⟨by simp [takeH,takeE,c1],by simp [takeS,c1]⟩
 have c1' : 0 ≤ t := by omega
 by_cases c2 : t < s.free.length
 case neg =>
  have c2' : (s.free.length : Int) ≤ t := by omega
  simp (maxSteps := 2000000) (implicitDefEqProofs := false) [DN, NB, begT, atHead, kd, wantedA, evP, evR, evF, evL, evC, evI, evBin, evUn, evEq, evSt, evRes, plain, scp, scpA, scpL, rdRow_eq, RV, rdCells, veq, veqA, veqL, isHole, Value.cells, evalL, optI, evBounds, evFill, evFillR, evApp, newsOf, wrCells, one1, fitsApp, evClr, undef, onB_bool, List.getElem?_concat_length, List.getElem?_cons_zero, List.getElem?_cons_succ, List.getElem?_toArray, List.getElem?_nil, List.set_cons_zero, List.set_cons_succ, List.cons_append, List.nil_append, -getElem?_pos, -getElem?_neg, c1', c2]
  have : s.free[t.toNat]? = none := by simp; omega
  exact plClose0 (c := c) ok he rfl ⟨by simp [takeH, takeE, c1, c2', this], by simp [takeS, c1, this]⟩
 have c2' : ¬ (s.free.length : Int) ≤ t := by omega
 obtain ⟨k,rfl⟩ : ∃ k : Nat,t = k := ⟨t.toNat,by omega⟩
 obtain ⟨r,hr⟩ : ∃ r,s.free[k]? = some r := ⟨_,List.getElem?_eq_getElem (by omega)⟩
 have hp := ptrs_get (n := s.free.length) (t := k) (by omega)
 have hg := free_get hr
 have c3 : k < s.free.length := by omega
 simp (maxSteps := 2000000) (implicitDefEqProofs := false) [DN, NB, begT, atHead, kd, wantedA, evP, evR, evF, evL, evC, evI, evBin, evUn, evEq, evSt, evRes, plain, scp, scpA, scpL, rdRow_eq, RV, rdCells, veq, veqA, veqL, isHole, Value.cells, evalL, optI, evBounds, evFill, evFillR, evApp, newsOf, wrCells, one1, fitsApp, evClr, undef, onB_bool, List.getElem?_concat_length, List.getElem?_cons_zero, List.getElem?_cons_succ, List.getElem?_toArray, List.getElem?_nil, List.set_cons_zero, List.set_cons_succ, List.cons_append, List.nil_append, -getElem?_pos, -getElem?_neg, c1', c2, c3, hp]
 refine rtakeG (s := ⟨s.each,nats r⟩) (b := k + 3) hg ?_
 cases r with
 | nil =>
  have hsame : (s.free.map (rgB s.each)).set k (ringB ⟨s.each,[]⟩) = s.free.map (rgB s.each) := set_same hg
  simp (maxSteps := 2000000) (implicitDefEqProofs := false) [DN,NB,begT,atHead,kd,wantedA,evP,evR,evF,evL,evC,evI,evBin,evUn,evEq,evSt,evRes,plain,scp,scpA,scpL,rdRow_eq,RV,rdCells,veq,veqA,veqL,isHole,Value.cells,evalL,optI,evBounds,evFill,evFillR,evApp,newsOf,wrCells,one1,fitsApp,evClr,undef,onB_bool,List.getElem?_concat_length,List.getElem?_cons_zero,List.getElem?_cons_succ,List.getElem?_toArray,List.getElem?_nil,List.set_cons_zero,List.set_cons_succ,List.cons_append,List.nil_append,-getElem?_pos,-getElem?_neg,nats,hsame]
  exact plClose0 (c := c) ok he rfl ⟨by simp [takeH, takeE, c1, c2', hr], by simp [takeS, c1, hr]⟩
 | cons h r =>
  obtain ⟨ok', hfresh⟩ := take_ok ok hr
  have hset : (s.free.map (rgB s.each)).set k (ringB ⟨s.each,List.map (fun (x : Nat) => (x : Int)) r⟩) = (s.free.set k r).map (rgB s.each) := free_set s k r
  have hw : IntKind.i64.wrap ((k : Int) + 1) = (k : Int) + 1 := by
   have := ok.many
   exact IntWalk.i64_in _ (by omega)
  have hput : mapPut false es c (.int .u32 (h : Nat)) (.int .i64 ((k : Int) + 1)) = some (es ++ [⟨.int .u32 (h : Nat),.int .i64 ((k : Int) + 1),c⟩],c + 1) := by
   unfold mapPut
   rw [find_none he hfresh]
  simp (maxSteps := 2000000) (implicitDefEqProofs := false) [DN,NB,begT,atHead,kd,wantedA,evP,evR,evF,evL,evC,evI,evBin,evUn,evEq,evSt,evRes,plain,scp,scpA,scpL,rdRow_eq,RV,rdCells,veq,veqA,veqL,isHole,Value.cells,evalL,optI,evBounds,evFill,evFillR,evApp,newsOf,wrCells,one1,fitsApp,evClr,undef,onB_bool,List.getElem?_concat_length,List.getElem?_cons_zero,List.getElem?_cons_succ,List.getElem?_toArray,List.getElem?_nil,List.set_cons_zero,List.set_cons_succ,List.cons_append,List.nil_append,-getElem?_pos,-getElem?_neg,nats,hset,hw,evMupd,mapAt,hput]
  have he' : ents (es ++ [⟨.int .u32 (h : Nat),.int .i64 ((k : Int) + 1),c⟩]) (s.out ++ [(h,k + 1)]) := by
   unfold ents at he ⊢
   rw [List.map_append,List.map_append,he]
   simp
  rw [free_set]
  refine (congrArg (fun H => Sees 1 H _ _) ?_).mpr (plClose0 (c := c + 1) ok' he' rfl ⟨by simp [takeH, takeE, c1, c2', hr], by simp [takeS, c1, hr]⟩)
  simp [plH]
theorem filter_erase {α : Type} {p : α → Bool} : ∀ {l : List α} {j : Nat},l.findIdx? p = some j → (∀ i x,i ≠ j → l[i]? = some x → p x = false) → l.eraseIdx j = l.filter (fun x => !p x)
 | [],j,h,_ => by simp at h
 | x :: l,j,h,hn => by
  rw [List.findIdx?_cons] at h
  by_cases hx : p x = true
  ·rw [if_pos hx] at h
   injection h with h
   subst h
   rw [List.filter_cons_of_neg (by simp [hx]),List.eraseIdx_cons_zero]
   symm
   rw [List.filter_eq_self]
   intro y hy
   obtain ⟨i,hi⟩ := List.getElem?_of_mem hy
   have := hn (i + 1) y (by omega) (by simpa using hi)
   simp [this]
  ·rw [if_neg hx] at h
   cases hj : l.findIdx? p with
   | none => rw [hj] at h; cases h
   | some i =>
    rw [hj] at h
    injection h with h
    subst h
    simp only [Bool.not_eq_true] at hx
    rw [List.filter_cons_of_pos (by simp [hx]),List.eraseIdx_cons_succ,filter_erase hj fun k y hk hy => hn (k + 1) y (by intro e; exact hk (by simpa using e)) (by simpa using hy)]
theorem ents_erase {es : List MapEntry} {out : List (Nat × Nat)} (he : ents es out) (j : Nat) : ents (es.eraseIdx j) (out.eraseIdx j) := by
 unfold ents at he ⊢
 rw [map_eraseIdx0,he,map_eraseIdx0]
theorem key_mem {s : PS} (ok : OkP s) {h : Nat} (hl : lookP s.out h = 0) : h ∉ s.out.map (·.1) := by
 intro hm
 obtain ⟨x,hx,rfl⟩ := List.mem_map.1 hm
 have h1 := (ok.who x hx).1
 unfold lookP at hl
 cases hf : s.out.find? (fun y => y.1 == x.1) with
 | none => have := List.find?_eq_none.1 hf x hx; simp at this
 | some y =>
  rw [hf] at hl
  have := (ok.who y (List.mem_of_find?_eq_some hf)).1
  simp at hl
  omega
set_option maxHeartbeats 4000000 in
theorem pfree_ (s : PS) (h : Nat) (hh : h < 4294967296) : AC Try.prog 30 [.pointer (some ⟨0,0,none⟩),.int .u32 h] [poolB s] (fun v h' => v = .int .i64 (freeE s h) ∧ h' = [poolB (freeS s h)]) := by
 refine AC.method2 (by kernel_rfl) fun g hg hown hlive => ?_
 obtain ⟨ok,es,c,he,rfl⟩ := hg
 refine entry hmix cf30 ?_
 by_cases h0 : h = 0
 ·subst h0
  simp (maxSteps := 2000000) (implicitDefEqProofs := false) [DN,NB,begT,atHead,kd,wantedA,evP,evR,evF,evL,evC,evI,evBin,evUn,evEq,evSt,evRes,plain,scp,scpA,scpL,rdRow_eq,RV,rdCells,veq,veqA,veqL,isHole,Value.cells,evalL,optI,evBounds,evFill,evFillR,evApp,newsOf,wrCells,one1,fitsApp,evClr,undef,onB_bool,List.getElem?_concat_length,List.getElem?_cons_zero,List.getElem?_cons_succ,List.getElem?_toArray,List.getElem?_nil,List.set_cons_zero,List.set_cons_succ,List.cons_append,List.nil_append,-getElem?_pos,-getElem?_neg,plH]
  exact plClose0 (c := c) ok he rfl ⟨by simp [freeE],by simp [freeS]⟩
 have h0' : ¬ (h : Int) = 0 := by omega
 by_cases hl : lookP s.out h = 0
 ·simp (maxSteps := 2000000) (implicitDefEqProofs := false) [DN,NB,begT,atHead,kd,wantedA,evP,evR,evF,evL,evC,evI,evBin,evUn,evEq,evSt,evRes,plain,scp,scpA,scpL,rdRow_eq,RV,rdCells,veq,veqA,veqL,isHole,Value.cells,evalL,optI,evBounds,evFill,evFillR,evApp,newsOf,wrCells,one1,fitsApp,evClr,undef,onB_bool,List.getElem?_concat_length,List.getElem?_cons_zero,List.getElem?_cons_succ,List.getElem?_toArray,List.getElem?_nil,List.set_cons_zero,List.set_cons_succ,List.cons_append,List.nil_append,-getElem?_pos,-getElem?_neg,plH,h0,mapAt,find_none he (key_mem ok hl)]
  exact plClose0 (c := c) ok he rfl ⟨by simp [freeE,hl,h0],by simp [freeS,hl]⟩
 obtain ⟨i,hf,hi⟩ := find_some he hl
 obtain ⟨r,hr,hlt,ok'⟩ := free_ok ok hl
 obtain ⟨v,hv⟩ : ∃ v,lookP s.out h = v + 1 := ⟨lookP s.out h - 1,by omega⟩
 have hm := lookP_mem hl
 have hwho := ok.who _ hm
 rw [hv] at hf hr hwho ok'
 simp only [Nat.add_sub_cancel] at hr ok'
 have hvl : v < s.free.length := (List.getElem?_eq_some_iff.1 hr).1
 have hnk : (s.out.map (·.1)).Nodup := by
  have := ok.keys
  unfold PS.all at this
  rw [List.nodup_append] at this
  exact this.2.1
 have her : s.out.eraseIdx i = s.out.filter (fun x => x.1 != h) := by
  have := filter_erase hi fun j x hj hx => by
   simp only [beq_eq_false_iff_ne,ne_eq]
   intro e
   have h1 : (s.out.map (·.1))[j]? = some h := by rw [List.getElem?_map,hx,← e]; rfl
   have h2 := find_idx hi
   cases hy : s.out[i]? with
   | none =>
    have := List.findIdx?_eq_some_iff_getElem.1 hi
    rw [List.getElem?_eq_getElem this.1] at hy
    cases hy
   | some y =>
    rw [hy] at h2
    have h3 := List.find?_some h2
    simp only [beq_iff_eq] at h3
    have h4 : (s.out.map (·.1))[i]? = some h := by rw [List.getElem?_map,hy,← h3]; rfl
    have hil : j < (s.out.map (·.1)).length := (List.getElem?_eq_some_iff.1 h1).1
    exact hj ((List.getElem?_inj hil hnk).1 (by rw [h1,h4]))
  rw [this]
  rfl
 have hdel : mapDel false es (.int .u32 (h : Nat)) = some (es.eraseIdx i) := by
  unfold mapDel
  rw [hf]
 have he' : ents (es.eraseIdx i) (s.out.filter (fun x => x.1 != h)) := by rw [← her]; exact ents_erase he i
 have hp := ptrs_get (n := s.free.length) (t := v) hvl
 have hg := free_get hr
 have hw : IntKind.i64.wrap (v : Int) = v := by
  have := ok.many
  exact IntWalk.i64_in _ (by omega)
 have hv1 : ¬ ((v : Int) + 1 = 0) := by omega
 simp (maxSteps := 2000000) (implicitDefEqProofs := false) [DN,NB,begT,atHead,kd,wantedA,evP,evR,evF,evL,evC,evI,evBin,evUn,evEq,evSt,evRes,plain,scp,scpA,scpL,rdRow_eq,RV,rdCells,veq,veqA,veqL,isHole,Value.cells,evalL,optI,evBounds,evFill,evFillR,evApp,newsOf,wrCells,one1,fitsApp,evClr,undef,onB_bool,List.getElem?_concat_length,List.getElem?_cons_zero,List.getElem?_cons_succ,List.getElem?_toArray,List.getElem?_nil,List.set_cons_zero,List.set_cons_succ,List.cons_append,List.nil_append,-getElem?_pos,-getElem?_neg,plH,h0,mapAt,hf,evDel,hdel,hw,hvl,hp,hv1]
 refine hnext_ h hh _ ?_
 simp (maxSteps := 2000000) (implicitDefEqProofs := false) [DN,NB,begT,atHead,kd,wantedA,evP,evR,evF,evL,evC,evI,evBin,evUn,evEq,evSt,evRes,plain,scp,scpA,scpL,rdRow_eq,RV,rdCells,veq,veqA,veqL,isHole,Value.cells,evalL,optI,evBounds,evFill,evFillR,evApp,newsOf,wrCells,one1,fitsApp,evClr,undef,onB_bool,List.getElem?_concat_length,List.getElem?_cons_zero,List.getElem?_cons_succ,List.getElem?_toArray,List.getElem?_nil,List.set_cons_zero,List.set_cons_succ,List.cons_append,List.nil_append,-getElem?_pos,-getElem?_neg,hp]
 refine putG (s := ⟨s.each,nats r⟩) (hNext h : Nat) (b := v + 3) hg ?_
 have hlt2 : (nats r).length < s.each := by simpa [nats] using hlt
 rw [if_pos hlt2]
 have hset : (s.free.map (rgB s.each)).set v (ringB ⟨s.each,nats r ++ [((hNext h : Nat) : Int)]⟩) = (s.free.set v (r ++ [hNext h])).map (rgB s.each) := by
  have := free_set s v (r ++ [hNext h])
  rw [← this,rgB_def]
  simp [nats]
 simp (maxSteps := 2000000) (implicitDefEqProofs := false) [DN,NB,begT,atHead,kd,wantedA,evP,evR,evF,evL,evC,evI,evBin,evUn,evEq,evSt,evRes,plain,scp,scpA,scpL,rdRow_eq,RV,rdCells,veq,veqA,veqL,isHole,Value.cells,evalL,optI,evBounds,evFill,evFillR,evApp,newsOf,wrCells,one1,fitsApp,evClr,undef,onB_bool,List.getElem?_concat_length,List.getElem?_cons_zero,List.getElem?_cons_succ,List.getElem?_toArray,List.getElem?_nil,List.set_cons_zero,List.set_cons_succ,List.cons_append,List.nil_append,-getElem?_pos,-getElem?_neg,hset]
 have e1 : freeS s h = { s with free := s.free.set v (r ++ [hNext h]),out := s.out.filter (fun x => x.1 != h) } := by
  unfold freeS
  rw [if_neg (by simp [h0,hv])]
  simp [hv,hr]
 refine (congrArg (fun H => Sees 1 H _ _) ?_).mpr (plClose0 (c := c) ok' he' rfl ⟨by simp [freeE,hv,h0],by rw [e1]⟩)
 simp [plH]
end Px
end Go.Proofs.Ytongllppbifiaaa
