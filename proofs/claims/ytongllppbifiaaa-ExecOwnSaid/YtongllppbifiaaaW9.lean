import Derived.Test.YtongllppbifiaaaW3
import Derived.Test.YtongllppbifiaaaW8
import Derived.IntWalk
import Derived.RowKit
namespace Go.Proofs.Ytongllppbifiaaa
namespace Px
open Go Abs Code
set_option linter.unusedVariables false
set_option linter.unusedSimpArgs false
set_option maxRecDepth 100000
theorem hmix : Try.prog.follows .mixedOrders = true := by kernel_rfl
def words (l : List Int) : List Value := l.map fun x => .int .u32 x
theorem words_length (l : List Int) : (words l).length = l.length := by simp [words]
theorem words_get (l : List Int) (i : Nat) : (words l)[i]? = (l[i]?).map (Value.int .u32) := by simp [words]
theorem words_set (l : List Int) (i : Nat) (v : Int) : (words l).set i (.int .u32 v) = words (l.set i v) := by simp [words,List.map_set]
theorem words_plain (l : List Int) : ∀ v ∈ words l,plain v = true := by
 intro v hv
 obtain ⟨x,_,rfl⟩ := List.mem_map.1 hv
 rfl
theorem words_noNames (l : List Int) (e : TypeId) (o : Option Nat) : noNames (.cells (words l) e o) := words_plain l
theorem words_ren (σ : Nat → Nat) (l : List Int) : (words l).map (ren σ) = words l := by simp [words,ren]
theorem reps_words (m : Nat) : reps [.int .u32 0] m = words (List.replicate m 0) := by
 induction m with
 | zero => rfl
 | succ m ih => rw [reps,ih]; simp [words,List.replicate_succ]
structure RS where
 room : Nat
 l : List Int
def rgH (cells : List Int) (first n : Nat) : AH := [.cells [.slice (some ⟨1,0,none⟩) cells.length cells.length,.int .i64 first,.int .i64 n] 154 none,.cells (words cells) 49 none]
structure RgOk (s : RS) (cells : List Int) (first : Nat) : Prop where
 room : cells.length = s.room
 le : s.room ≤ 4096
 fit : s.l.length ≤ s.room
 fst : first < s.room ∨ s.room = 0 ∧ first = 0
 at_ : ∀ i,i < s.l.length → cells[(first + i) % s.room]? = s.l[i]?
def heapR (s : RS) (g : AH) : Prop := ∃ cells first,RgOk s cells first ∧ g = rgH cells first s.l.length
abbrev ringB (s : RS) : ABlk := .adt (mkADT RS heapR) s
theorem rgH_own (cells : List Int) (first n : Nat) : own (rgH cells first n) := by
 intro b k hb cb
 match b with
 | 0 => injection hb with hb; subst hb; rfl
 | 1 => injection hb with hb; subst hb; rfl
 | m + 2 => simp [rgH] at hb
theorem rgH_ok (cells : List Int) (first n : Nat) : AOK (rgH cells first n) := by
 refine AOK.of ⟨?_,scp_noNames (words_noNames _ _ _) _,trivial⟩
 intro v hv
 simp at hv
 rcases hv with rfl | rfl | rfl <;> simp [scp,live,rgH]
theorem rgH_hc (cells : List Int) (first n : Nat) : ∃ vs e,(rgH cells first n)[0]? = some (.cells vs e none) := ⟨_,_,rfl⟩
theorem rgClose {s : RS} {cells : List Int} {first : Nat} {h' : AH} {v : Value} {K : Value → AH → Prop} (ok : RgOk s cells first) (h0 : h'[0]? = (rgH cells first s.l.length)[0]?) (h1 : h'[1]? = (rgH cells first s.l.length)[1]?) (hv : plain v = true) (hK : K v [ringB s]) : Sees 1 h' v K := by
 refine Sees.m0 (is := [0,1]) _ ⟨cells,first,ok,rfl⟩ (rgH_own _ _ _) (rgH_ok _ _ _) (rgH_hc _ _ _) rfl (by simp) rfl ⟨?_, ?_,trivial⟩ hv hK
 ·rw [nth_0,h0]; simp [rgH,renB,ren,renA,nth]
 ·rw [nth_s,nth_0,h1]; simp [rgH,renB,words_ren]
theorem room_ (s : RS) : AC Try.prog 73 [.pointer (some ⟨0,0,none⟩)] [ringB s] (fun v h' => v = .int .i64 (s.room - s.l.length : Nat) ∧ h' = [ringB s]) := by
 refine AC.method2 (by kernel_rfl) fun g hg hown hlive => ?_
 obtain ⟨cells,first,ok,rfl⟩ := hg
 have h1 := ok.room
 have h2 := ok.le
 have h3 := ok.fit
 have hw : IntKind.i64.wrap ((cells.length : Int) - s.l.length) = ((s.room - s.l.length : Nat) : Int) := by rw [IntWalk.i64_in _ (by omega)]; omega
 refine entry hmix cf73 ?_
 simp (maxSteps := 2000000) (implicitDefEqProofs := false) [DN,NB,begT,atHead,kd,wantedA,evP,evR,evF,evL,evC,evI,evBin,evUn,evEq,evSt,evRes,plain,scp,scpA,scpL,rdRow_eq,RV,rdCells,veq,veqA,veqL,isHole,Value.cells,evalL,optI,evBounds,evFill,evFillR,evApp,newsOf,wrCells,one1,fitsApp,evClr,undef,onB_bool,List.getElem?_concat_length,List.getElem?_cons_zero,List.getElem?_cons_succ,List.getElem?_toArray,List.getElem?_nil,List.set_cons_zero,List.set_cons_succ,List.cons_append,List.nil_append,-getElem?_pos,-getElem?_neg,rgH,hw]
 exact rgClose ok rfl rfl rfl ⟨rfl,rfl⟩
theorem mod_ne {a b n r : Nat} (ha : a < n) (hb : b < n) (hne : a ≠ b) (hr : r < n) : (r + a) % n ≠ (r + b) % n := by
 intro e
 have h1 : (r + a) % n = if r + a < n then r + a else r + a - n := by
  split
  ·exact Nat.mod_eq_of_lt ‹_›
  ·rw [Nat.mod_eq_sub_mod (by omega),Nat.mod_eq_of_lt (by omega)]
 have h2 : (r + b) % n = if r + b < n then r + b else r + b - n := by
  split
  ·exact Nat.mod_eq_of_lt ‹_›
  ·rw [Nat.mod_eq_sub_mod (by omega),Nat.mod_eq_of_lt (by omega)]
 rw [h1,h2] at e
 split at e <;> split at e <;> omega
set_option maxHeartbeats 1000000 in
theorem put_ (s : RS) (v : Int) : AC Try.prog 46 [.pointer (some ⟨0,0,none⟩),.int .u32 v] [ringB s] (fun u h' => u = .bool (decide (s.l.length < s.room)) ∧ h' = [ringB (if s.l.length < s.room then ⟨s.room,s.l ++ [v]⟩ else s)]) := by
 refine AC.method2 (by kernel_rfl) fun g hg hown hlive => ?_
 obtain ⟨cells,first,ok,rfl⟩ := hg
 have h1 := ok.room
 have h2 := ok.le
 have h3 := ok.fit
 have hw : IntKind.i64.wrap ((cells.length : Int) - s.l.length) = ((s.room - s.l.length : Nat) : Int) := by rw [IntWalk.i64_in _ (by omega)]; omega
 refine entry hmix cf46 ?_
 simp (maxSteps := 2000000) (implicitDefEqProofs := false) [DN,NB,begT,atHead,kd,wantedA,evP,evR,evF,evL,evC,evI,evBin,evUn,evEq,evSt,evRes,plain,scp,scpA,scpL,rdRow_eq,RV,rdCells,veq,veqA,veqL,isHole,Value.cells,evalL,optI,evBounds,evFill,evFillR,evApp,newsOf,wrCells,one1,fitsApp,evClr,undef,onB_bool,List.getElem?_concat_length,List.getElem?_cons_zero,List.getElem?_cons_succ,List.getElem?_toArray,List.getElem?_nil,List.set_cons_zero,List.set_cons_succ,List.cons_append,List.nil_append,-getElem?_pos,-getElem?_neg,rgH]
 refine entry hmix cf73 ?_
 by_cases hlt : s.l.length < s.room
 case neg =>
  have b0 : (((s.room - s.l.length : Nat) : Int) == 0) = true := by simp; omega
  simp (maxSteps := 2000000) (implicitDefEqProofs := false) [DN,NB,begT,atHead,kd,wantedA,evP,evR,evF,evL,evC,evI,evBin,evUn,evEq,evSt,evRes,plain,scp,scpA,scpL,rdRow_eq,RV,rdCells,veq,veqA,veqL,isHole,Value.cells,evalL,optI,evBounds,evFill,evFillR,evApp,newsOf,wrCells,one1,fitsApp,evClr,undef,onB_bool,List.getElem?_concat_length,List.getElem?_cons_zero,List.getElem?_cons_succ,List.getElem?_toArray,List.getElem?_nil,List.set_cons_zero,List.set_cons_succ,List.cons_append,List.nil_append,-getElem?_pos,-getElem?_neg,hw,b0]
  refine rgClose ok rfl rfl rfl ⟨by simp [hlt],by rw [if_neg hlt]⟩
 have b0 : (((s.room - s.l.length : Nat) : Int) == 0) = false := by simp; omega
 have hf : first < s.room := by
  rcases ok.fst with h | ⟨h,_⟩ <;> omega
 obtain ⟨p,hp⟩ : ∃ p,(first + s.l.length) % s.room = p := ⟨_,rfl⟩
 have hpl : p < s.room := by rw [← hp]; exact Nat.mod_lt _ (by omega)
 have hrem : ((first : Int) + s.l.length).tmod (cells.length : Int) = (p : Int) := by
  rw [Int.tmod_eq_emod_of_nonneg (by omega),h1,← hp]
  push_cast
  rfl
 have hw1 : IntKind.i64.wrap ((first : Int) + s.l.length) = (first : Int) + s.l.length := IntWalk.i64_in _ (by omega)
 have hw2 : IntKind.i64.wrap ((s.l.length : Int) + 1) = (s.l.length : Int) + 1 := IntWalk.i64_in _ (by omega)
 have hnz : ¬ cells.length = 0 := by omega
 have hp0 : (0 : Int) ≤ p := by omega
 have hpc : (p : Int) < cells.length := by omega
 have hpl1 : p + 1 ≤ cells.length := by omega
 simp (maxSteps := 2000000) (implicitDefEqProofs := false) [DN,NB,begT,atHead,kd,wantedA,evP,evR,evF,evL,evC,evI,evBin,evUn,evEq,evSt,evRes,plain,scp,scpA,scpL,rdRow_eq,RV,rdCells,veq,veqA,veqL,isHole,Value.cells,evalL,optI,evBounds,evFill,evFillR,evApp,newsOf,wrCells,one1,fitsApp,evClr,undef,onB_bool,List.getElem?_concat_length,List.getElem?_cons_zero,List.getElem?_cons_succ,List.getElem?_toArray,List.getElem?_nil,List.set_cons_zero,List.set_cons_succ,List.cons_append,List.nil_append,-getElem?_pos,-getElem?_neg,hw,b0]
 refine entry hmix cf74 ?_
 simp (maxSteps := 2000000) (implicitDefEqProofs := false) [DN,NB,begT,atHead,kd,wantedA,evP,evR,evF,evL,evC,evI,evBin,evUn,evEq,evSt,evRes,plain,scp,scpA,scpL,rdRow_eq,RV,rdCells,veq,veqA,veqL,isHole,Value.cells,evalL,optI,evBounds,evFill,evFillR,evApp,newsOf,wrCells,one1,fitsApp,evClr,undef,onB_bool,List.getElem?_concat_length,List.getElem?_cons_zero,List.getElem?_cons_succ,List.getElem?_toArray,List.getElem?_nil,List.set_cons_zero,List.set_cons_succ,List.cons_append,List.nil_append,-getElem?_pos,-getElem?_neg,hw1,hrem,hnz,hp0,hpc,hpl1,words_length,words_set,hw2]
 have hlen' : (s.l ++ [v]).length = s.l.length + 1 := by simp
 refine rgClose (s := ⟨s.room,s.l ++ [v]⟩) (cells := cells.set p v) (first := first) ⟨by simpa using h1,h2,by simp; omega,.inl hf,fun i hi => ?_⟩ (by simp [rgH]) rfl rfl ⟨by simp [hlt],by rw [if_pos hlt]⟩
 simp only [hlen'] at hi
 simp only
 by_cases hi2 : i < s.l.length
 ·have hne : p ≠ (first + i) % s.room := by
   rw [← hp]
   exact mod_ne (by omega) (by omega) (by omega) hf
  rw [List.getElem?_set_ne hne,ok.at_ i hi2,List.getElem?_append_left hi2]
 ·have : i = s.l.length := by omega
  subst this
  rw [hp,List.getElem?_set_self (by omega)]
  simp
set_option maxHeartbeats 1000000 in
theorem rtake_ (s : RS) : AC Try.prog 57 [.pointer (some ⟨0,0,none⟩)] [ringB s] (fun u h' => (u = match s.l with | [] => .tuple #[.int .u32 0,.bool false] | x :: _ => .tuple #[.int .u32 x,.bool true]) ∧ h' = [ringB ⟨s.room,s.l.tail⟩]) := by
 refine AC.method2 (by kernel_rfl) fun g hg hown hlive => ?_
 obtain ⟨cells,first,ok,rfl⟩ := hg
 have h1 := ok.room
 have h2 := ok.le
 have h3 := ok.fit
 refine entry hmix cf57 ?_
 cases hl : s.l with
 | nil =>
  have hs : s = ⟨s.room,[]⟩ := by cases s; simp at hl; simp [hl]
  simp (maxSteps := 2000000) (implicitDefEqProofs := false) [DN,NB,begT,atHead,kd,wantedA,evP,evR,evF,evL,evC,evI,evBin,evUn,evEq,evSt,evRes,plain,scp,scpA,scpL,rdRow_eq,RV,rdCells,veq,veqA,veqL,isHole,Value.cells,evalL,optI,evBounds,evFill,evFillR,evApp,newsOf,wrCells,one1,fitsApp,evClr,undef,onB_bool,List.getElem?_concat_length,List.getElem?_cons_zero,List.getElem?_cons_succ,List.getElem?_toArray,List.getElem?_nil,List.set_cons_zero,List.set_cons_succ,List.cons_append,List.nil_append,-getElem?_pos,-getElem?_neg,rgH]
  refine rgClose (s := s) ok (by simp [rgH,hl]) rfl rfl ⟨rfl,by rw [hs]⟩
 | cons x r =>
  have hlen : s.l.length = r.length + 1 := by rw [hl]; rfl
  have hf : first < s.room := by
   rcases ok.fst with h | ⟨h,_⟩ <;> omega
  have hx : cells[first]? = some x := by
   have := ok.at_ 0 (by omega)
   rw [hl,Nat.add_zero,Nat.mod_eq_of_lt hf] at this
   exact this
  have hx' : (words cells)[first]? = some (.int .u32 x) := by rw [words_get,hx]; rfl
  have hf0 : (0 : Int) ≤ first := by omega
  have hfc : (first : Int) < cells.length := by omega
  have hfc1 : first + 1 ≤ cells.length := by omega
  obtain ⟨p,hp⟩ : ∃ p,(first + 1) % s.room = p := ⟨_,rfl⟩
  have hpl : p < s.room := by rw [← hp]; exact Nat.mod_lt _ (by omega)
  have hrem : ((first : Int) + 1).tmod (cells.length : Int) = (p : Int) := by
   rw [Int.tmod_eq_emod_of_nonneg (by omega),h1,← hp]
   push_cast
   rfl
  have hw1 : IntKind.i64.wrap ((first : Int) + 1) = (first : Int) + 1 := IntWalk.i64_in _ (by omega)
  have hw2 : IntKind.i64.wrap ((r.length : Int)) = (r.length : Int) := IntWalk.i64_in _ (by omega)
  have hnz : ¬ cells.length = 0 := by omega
  have hn0 : ¬ ((r.length : Int) + 1 = 0) := by omega
  simp (maxSteps := 2000000) (implicitDefEqProofs := false) [DN, NB, begT, atHead, kd, wantedA, evP, evR, evF, evL, evC, evI, evBin, evUn, evEq, evSt, evRes, plain, scp, scpA, scpL, rdRow_eq, RV, rdCells, veq, veqA, veqL, isHole, Value.cells, evalL, optI, evBounds, evFill, evFillR, evApp, newsOf, wrCells, one1, fitsApp, evClr, undef, onB_bool, List.getElem?_concat_length, List.getElem?_cons_zero, List.getElem?_cons_succ, List.getElem?_toArray, List.getElem?_nil, List.set_cons_zero, List.set_cons_succ, List.cons_append, List.nil_append, -getElem?_pos, -getElem?_neg, rgH, hl, hn0, hf0, hfc, hx', hfc1, words_length, words_set, hw2]
  refine entry hmix cf74 ?_
  simp (maxSteps := 2000000) (implicitDefEqProofs := false) [DN,NB,begT,atHead,kd,wantedA,evP,evR,evF,evL,evC,evI,evBin,evUn,evEq,evSt,evRes,plain,scp,scpA,scpL,rdRow_eq,RV,rdCells,veq,veqA,veqL,isHole,Value.cells,evalL,optI,evBounds,evFill,evFillR,evApp,newsOf,wrCells,one1,fitsApp,evClr,undef,onB_bool,List.getElem?_concat_length,List.getElem?_cons_zero,List.getElem?_cons_succ,List.getElem?_toArray,List.getElem?_nil,List.set_cons_zero,List.set_cons_succ,List.cons_append,List.nil_append,-getElem?_pos,-getElem?_neg,hw1,hrem,hnz,words_length]
  refine rgClose (s := ⟨s.room,r⟩) (cells := cells.set first 0) (first := p) ⟨by simpa using h1,h2,by simp; omega,.inl hpl,fun i hi => ?_⟩ (by simp [rgH]) rfl rfl ⟨rfl,rfl⟩
  simp only at hi ⊢
  have hmm : (p + i) % s.room = (first + (i + 1)) % s.room := by
   rw [← hp,Nat.mod_add_mod]
   congr 1
   omega
  have hne : first ≠ (p + i) % s.room := by
   rw [hmm]
   have := mod_ne (a := 0) (b := i + 1) (n := s.room) (r := first) (by omega) (by omega) (by omega) hf
   rwa [Nat.add_zero,Nat.mod_eq_of_lt hf] at this
  rw [List.getElem?_set_ne hne,hmm,ok.at_ (i + 1) (by omega),hl]
  rfl
end Px
end Go.Proofs.Ytongllppbifiaaa
