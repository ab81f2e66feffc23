/- order: OrderTells, on the blocks. -/
import Derived.Test.YtekhadlpcdjlpaaOt12
import Derived.Test.YtekhadlpcdjlpaaOr9
namespace Go.Proofs.Ytekhadlpcdjlpaa
namespace Ox
open Go Abs Code
set_option linter.unusedVariables false
set_option linter.unusedSimpArgs false
set_option maxRecDepth 100000

theorem rowAt_more {H : AH} {A : Option Addr} {n : Nat} {R : List Value} (tl : AH) (h : RowAt H A n R) : RowAt (H ++ tl) A n R := by
  rcases h with h | ⟨b, o, sp, rfl, h⟩
  · exact .inl h
  · refine .inr ⟨b, o, sp, rfl, ?_⟩
    rcases h with h | ⟨rfl, vs, h1, h2⟩
    · exact .inl h
    · refine .inr ⟨rfl, vs, ?_, h2⟩
      have hbl : b < H.length := by
        unfold rdRow at h1
        cases hb : H[b]? with
        | none => rw [hb] at h1; cases h1
        | some k => exact (List.getElem?_eq_some_iff.1 hb).1
      unfold rdRow at h1 ⊢
      rw [List.getElem?_append_left hbl]
      exact h1

def mostB (a g : Int) : ABlk := .cells [.int .i64 0, .int .i64 a, .int .i64 g] 58 none
theorem mostB_noNames (a g : Int) : noNames (mostB a g) := w3_noNames _ _ _ _ _

def otT (sv : Value) (n p i : Nat) : List (Nat × Value) := [(0, sv), (5, .slice (some ⟨4, 0, none⟩) n (OPEN + n)), (6, .pointer (some ⟨p, 0, none⟩)), (29, .slice (some ⟨3, 0, none⟩) n (OPEN + n)), (30, .int .i64 n), (31, .int .i64 i)]

set_option maxHeartbeats 8000000 in
theorem tells_ (l : List En) (A : Option Addr) (cap : Nat) (hcl : l.length ≤ cap) (hcap : cap < OPEN) (hA : (l = [] ∧ cap = 0 ∧ A = none) ∨ (∃ d, l = [] ∧ A = some ⟨0, 0, some d⟩) ∨ A = some ⟨0, 0, none⟩) :
    AC Try.prog 8 [.slice A l.length cap] [.row (rowOf l)] (fun v _ => v = .bool true) := by
  refine entry hmix cf8 ?_
  by_cases c1 : 60 < (l.length : Int)
  · simp (maxSteps := 2000000) (implicitDefEqProofs := false) [DN, NB, begT, atHead, kd, wantedA, evP, evR, evF, evL, evC, evI, evBin, evUn, evEq, evSt, evRes, plain, scp, scpA, scpL, rdRow, rdCells, veq, veqA, veqL, isHole, Value.cells, evalL, optI, evBounds, evFill, evFillR, evApp, newsOf, wrCells, one1, fitsApp, evClr, undef, onB_bool, List.getElem?_concat_length, List.getElem?_cons_zero, List.getElem?_cons_succ, List.getElem?_toArray, List.getElem?_nil, List.set_cons_zero, List.set_cons_succ, List.cons_append, List.nil_append, -getElem?_pos, -getElem?_neg, c1]
    refine awakeK _ _ fun h' => ?_
    simp (maxSteps := 2000000) (implicitDefEqProofs := false) [DN, NB, begT, atHead, kd, wantedA, evP, evR, evF, evL, evC, evI, evBin, evUn, evEq, evSt, evRes, plain, scp, scpA, scpL, rdRow, rdCells, veq, veqA, veqL, isHole, Value.cells, evalL, optI, evBounds, evFill, evFillR, evApp, newsOf, wrCells, one1, fitsApp, evClr, undef, onB_bool, List.getElem?_concat_length, List.getElem?_cons_zero, List.getElem?_cons_succ, List.getElem?_toArray, List.getElem?_nil, List.set_cons_zero, List.set_cons_succ, List.cons_append, List.nil_append, -getElem?_pos, -getElem?_neg]
  have c2 : ¬ 60 < l.length := by omega
  have c3 : l.length ≤ 60 := by omega
  have hl : l.length ≤ 1000 := by omega
  have hone : RowOne l.length A := by
    rcases hA with ⟨hl, _, rfl⟩ | ⟨d, hl, rfl⟩ | rfl
    · exact .inl ⟨by rw [hl]; rfl, .inl rfl⟩
    · exact .inl ⟨by rw [hl]; rfl, .inr ⟨_, rfl⟩⟩
    · exact .inr rfl
  have hat : ∀ tl, RowAt (.row (rowOf l) :: tl) A l.length (rowOf l) := fun tl => rowAt_one hone
  have hwl : (waitsL l).length ≤ 1000 := by have := waits_len l; have := turns_length l; omega
  obtain ⟨A', cap', e1, e2, e3⟩ := enV_row l (H := .row (rowOf l) :: enH l) (n := 1) (fun h => by simp [enH, h])
  simp (maxSteps := 2000000) (implicitDefEqProofs := false) [DN, NB, begT, atHead, kd, wantedA, evP, evR, evF, evL, evC, evI, evBin, evUn, evEq, evSt, evRes, plain, scp, scpA, scpL, rdRow, rdCells, veq, veqA, veqL, isHole, Value.cells, evalL, optI, evBounds, evFill, evFillR, evApp, newsOf, wrCells, one1, fitsApp, evClr, undef, onB_bool, List.getElem?_concat_length, List.getElem?_cons_zero, List.getElem?_cons_succ, List.getElem?_toArray, List.getElem?_nil, List.set_cons_zero, List.set_cons_succ, List.cons_append, List.nil_append, -getElem?_pos, -getElem?_neg, c1]
  refine ref12G hl (hat []) ?_
  simp only [List.length_singleton, List.singleton_append]
  rw [e1]
  simp (maxSteps := 2000000) (implicitDefEqProofs := false) [DN, NB, begT, atHead, kd, wantedA, evP, evR, evF, evL, evC, evI, evBin, evUn, evEq, evSt, evRes, plain, scp, scpA, scpL, rdRow, rdCells, veq, veqA, veqL, isHole, Value.cells, evalL, optI, evBounds, evFill, evFillR, evApp, newsOf, wrCells, one1, fitsApp, evClr, undef, onB_bool, List.getElem?_concat_length, List.getElem?_cons_zero, List.getElem?_cons_succ, List.getElem?_toArray, List.getElem?_nil, List.set_cons_zero, List.set_cons_succ, List.cons_append, List.nil_append, -getElem?_pos, -getElem?_neg]
  refine overG hl (hat _) ?_
  simp (maxSteps := 2000000) (implicitDefEqProofs := false) [DN, NB, begT, atHead, kd, wantedA, evP, evR, evF, evL, evC, evI, evBin, evUn, evEq, evSt, evRes, plain, scp, scpA, scpL, rdRow, rdCells, veq, veqA, veqL, isHole, Value.cells, evalL, optI, evBounds, evFill, evFillR, evApp, newsOf, wrCells, one1, fitsApp, evClr, undef, onB_bool, List.getElem?_concat_length, List.getElem?_cons_zero, List.getElem?_cons_succ, List.getElem?_toArray, List.getElem?_nil, List.set_cons_zero, List.set_cons_succ, List.cons_append, List.nil_append, -getElem?_pos, -getElem?_neg]
  refine roverG hl e3 ?_
  simp (maxSteps := 2000000) (implicitDefEqProofs := false) [DN, NB, begT, atHead, kd, wantedA, evP, evR, evF, evL, evC, evI, evBin, evUn, evEq, evSt, evRes, plain, scp, scpA, scpL, rdRow, rdCells, veq, veqA, veqL, isHole, Value.cells, evalL, optI, evBounds, evFill, evFillR, evApp, newsOf, wrCells, one1, fitsApp, evClr, undef, onB_bool, List.getElem?_concat_length, List.getElem?_cons_zero, List.getElem?_cons_succ, List.getElem?_toArray, List.getElem?_nil, List.set_cons_zero, List.set_cons_succ, List.cons_append, List.nil_append, -getElem?_pos, -getElem?_neg]
  refine waitsG hl hcl hcap (hat _) fun v E hw => ?_
  obtain ⟨ws, hws⟩ : ∃ ws, waitsL l = ws := ⟨_, rfl⟩
  obtain ⟨ts, hts⟩ : ∃ ts, turnsL l = ts := ⟨_, rfl⟩
  have hmost : ∀ tl {K : Value → AH → Prop}, K (.agg #[.int .i64 0, .int .i64 (mxA ws), .int .i64 (mxG ws)]) (.row (rowOf l) :: tl) → AC Try.prog 39 [.slice A l.length cap] (.row (rowOf l) :: tl) K := by
    intro tl K hK
    rw [← hws] at hK
    exact mostG hl hcl hcap (hat tl) hK
  rw [hws, hts] at hw
  rw [hws] at hwl
  cases hw with
  | nil hw0 =>
    have g1 : rwV (List.length (.row (rowOf l) :: enH l)) ws = .slice none 0 0 := by simp [rwV, hw0]
    have g2 : rwH ws = [] := by simp [rwH, hw0]
    simp (maxSteps := 2000000) (implicitDefEqProofs := false) [DN, NB, begT, atHead, kd, wantedA, evP, evR, evF, evL, evC, evI, evBin, evUn, evEq, evSt, evRes, plain, scp, scpA, scpL, rdRow, rdCells, veq, veqA, veqL, isHole, Value.cells, evalL, optI, evBounds, evFill, evFillR, evApp, newsOf, wrCells, one1, fitsApp, evClr, undef, onB_bool, List.getElem?_concat_length, List.getElem?_cons_zero, List.getElem?_cons_succ, List.getElem?_toArray, List.getElem?_nil, List.set_cons_zero, List.set_cons_succ, List.cons_append, List.nil_append, -getElem?_pos, -getElem?_neg]
    refine rwaitsG hl e2 e3 ?_
    rw [hws, g2, List.append_nil, g1]
    have m1 : mxA ws = 0 := by rw [hw0]; rfl
    have m2 : mxG ws = 0 := by rw [hw0]; rfl
    rw [m1, m2] at hmost
    by_cases hl0 : l = []
    · have eh : enH l = [] := by simp [enH, hl0]
      rw [eh]
      simp (maxSteps := 2000000) (implicitDefEqProofs := false) [DN, NB, begT, atHead, kd, wantedA, evP, evR, evF, evL, evC, evI, evBin, evUn, evEq, evSt, evRes, plain, scp, scpA, scpL, rdRow, rdCells, veq, veqA, veqL, isHole, Value.cells, evalL, optI, evBounds, evFill, evFillR, evApp, newsOf, wrCells, one1, fitsApp, evClr, undef, onB_bool, List.getElem?_concat_length, List.getElem?_cons_zero, List.getElem?_cons_succ, List.getElem?_toArray, List.getElem?_nil, List.set_cons_zero, List.set_cons_succ, List.cons_append, List.nil_append, -getElem?_pos, -getElem?_neg]
      refine loop3 hmix 68 (fun _ : Unit => True) (fun _ => 0) (fun _ => [(0, .slice A l.length cap), (6, .pointer (some ⟨1, 0, none⟩)), (30, .int .i64 0), (31, .int .i64 0)]) (fun _ => [.row (rowOf l), mostB 0 0]) () trivial (headId (fun _ _ hb => hb) ?_ (fun b hb => ?_) (by simp) rfl fun y hy => ?_) ?_
      · exact AOK.of ⟨scp_noNames (rowOf_noNames l) _, scp_noNames (mostB_noNames _ _) _, trivial⟩
      · obtain rfl : b = 0 := by omega
        rfl
      · simp only [List.mem_cons, List.not_mem_nil, or_false] at hy
        rcases hy with rfl | rfl | rfl | rfl
        · exact ⟨by simp [GB], rowOne_scp hone _⟩
        all_goals exact ⟨by simp [GB], by simp [scp, live, mostB]⟩
      intro _ _
      simp (maxSteps := 2000000) (implicitDefEqProofs := false) [DN, NB, begT, atHead, kd, wantedA, evP, evR, evF, evL, evC, evI, evBin, evUn, evEq, evSt, evRes, plain, scp, scpA, scpL, rdRow, rdCells, veq, veqA, veqL, isHole, Value.cells, evalL, optI, evBounds, evFill, evFillR, evApp, newsOf, wrCells, one1, fitsApp, evClr, undef, onB_bool, List.getElem?_concat_length, List.getElem?_cons_zero, List.getElem?_cons_succ, List.getElem?_toArray, List.getElem?_nil, List.set_cons_zero, List.set_cons_succ, List.cons_append, List.nil_append, -getElem?_pos, -getElem?_neg, mostB]
      refine hmost _ ?_
      simp (maxSteps := 2000000) (implicitDefEqProofs := false) [DN, NB, begT, atHead, kd, wantedA, evP, evR, evF, evL, evC, evI, evBin, evUn, evEq, evSt, evRes, plain, scp, scpA, scpL, rdRow, rdCells, veq, veqA, veqL, isHole, Value.cells, evalL, optI, evBounds, evFill, evFillR, evApp, newsOf, wrCells, one1, fitsApp, evClr, undef, onB_bool, List.getElem?_concat_length, List.getElem?_cons_zero, List.getElem?_cons_succ, List.getElem?_toArray, List.getElem?_nil, List.set_cons_zero, List.set_cons_succ, List.cons_append, List.nil_append, -getElem?_pos, -getElem?_neg, geqW]
      refine awakeK _ _ fun h' => ?_
      simp (maxSteps := 2000000) (implicitDefEqProofs := false) [DN, NB, begT, atHead, kd, wantedA, evP, evR, evF, evL, evC, evI, evBin, evUn, evEq, evSt, evRes, plain, scp, scpA, scpL, rdRow, rdCells, veq, veqA, veqL, isHole, Value.cells, evalL, optI, evBounds, evFill, evFillR, evApp, newsOf, wrCells, one1, fitsApp, evClr, undef, onB_bool, List.getElem?_concat_length, List.getElem?_cons_zero, List.getElem?_cons_succ, List.getElem?_toArray, List.getElem?_nil, List.set_cons_zero, List.set_cons_succ, List.cons_append, List.nil_append, -getElem?_pos, -getElem?_neg]
    · have eh : enH l = [.cells (rowOf l) 126 (some 3)] := by simp [enH, hl0]
      rw [eh]
      simp (maxSteps := 2000000) (implicitDefEqProofs := false) [DN, NB, begT, atHead, kd, wantedA, evP, evR, evF, evL, evC, evI, evBin, evUn, evEq, evSt, evRes, plain, scp, scpA, scpL, rdRow, rdCells, veq, veqA, veqL, isHole, Value.cells, evalL, optI, evBounds, evFill, evFillR, evApp, newsOf, wrCells, one1, fitsApp, evClr, undef, onB_bool, List.getElem?_concat_length, List.getElem?_cons_zero, List.getElem?_cons_succ, List.getElem?_toArray, List.getElem?_nil, List.set_cons_zero, List.set_cons_succ, List.cons_append, List.nil_append, -getElem?_pos, -getElem?_neg]
      refine loop3 hmix 68 (fun _ : Unit => True) (fun _ => 0) (fun _ => [(0, .slice A l.length cap), (6, .pointer (some ⟨2, 0, none⟩)), (30, .int .i64 0), (31, .int .i64 0)]) (fun _ => [.row (rowOf l), .cells (rowOf l) 126 (some 3), mostB 0 0]) () trivial (headId (fun _ _ hb => hb) ?_ (fun b hb => ?_) (by simp) rfl fun y hy => ?_) ?_
      · exact AOK.of ⟨scp_noNames (rowOf_noNames l) _, scp_noNames (enBlk_noNames l) _, scp_noNames (mostB_noNames _ _) _, trivial⟩
      · obtain rfl : b = 0 := by omega
        rfl
      · simp only [List.mem_cons, List.not_mem_nil, or_false] at hy
        rcases hy with rfl | rfl | rfl | rfl
        · exact ⟨by simp [GB], rowOne_scp hone _⟩
        all_goals exact ⟨by simp [GB], by simp [scp, live, mostB]⟩
      intro _ _
      simp (maxSteps := 2000000) (implicitDefEqProofs := false) [DN, NB, begT, atHead, kd, wantedA, evP, evR, evF, evL, evC, evI, evBin, evUn, evEq, evSt, evRes, plain, scp, scpA, scpL, rdRow, rdCells, veq, veqA, veqL, isHole, Value.cells, evalL, optI, evBounds, evFill, evFillR, evApp, newsOf, wrCells, one1, fitsApp, evClr, undef, onB_bool, List.getElem?_concat_length, List.getElem?_cons_zero, List.getElem?_cons_succ, List.getElem?_toArray, List.getElem?_nil, List.set_cons_zero, List.set_cons_succ, List.cons_append, List.nil_append, -getElem?_pos, -getElem?_neg, mostB]
      refine hmost _ ?_
      simp (maxSteps := 2000000) (implicitDefEqProofs := false) [DN, NB, begT, atHead, kd, wantedA, evP, evR, evF, evL, evC, evI, evBin, evUn, evEq, evSt, evRes, plain, scp, scpA, scpL, rdRow, rdCells, veq, veqA, veqL, isHole, Value.cells, evalL, optI, evBounds, evFill, evFillR, evApp, newsOf, wrCells, one1, fitsApp, evClr, undef, onB_bool, List.getElem?_concat_length, List.getElem?_cons_zero, List.getElem?_cons_succ, List.getElem?_toArray, List.getElem?_nil, List.set_cons_zero, List.set_cons_succ, List.cons_append, List.nil_append, -getElem?_pos, -getElem?_neg, geqW]
      refine awakeK _ _ fun h' => ?_
      simp (maxSteps := 2000000) (implicitDefEqProofs := false) [DN, NB, begT, atHead, kd, wantedA, evP, evR, evF, evL, evC, evI, evBin, evUn, evEq, evSt, evRes, plain, scp, scpA, scpL, rdRow, rdCells, veq, veqA, veqL, isHole, Value.cells, evalL, optI, evBounds, evFill, evFillR, evApp, newsOf, wrCells, one1, fitsApp, evClr, undef, onB_bool, List.getElem?_concat_length, List.getElem?_cons_zero, List.getElem?_cons_succ, List.getElem?_toArray, List.getElem?_nil, List.set_cons_zero, List.set_cons_succ, List.cons_append, List.nil_append, -getElem?_pos, -getElem?_neg]
  | some_ hw0 =>
    have hl0 : l ≠ [] := by
      rintro rfl
      exact hw0 (by rw [← hws]; rfl)
    have eh : enH l = [.cells (rowOf l) 126 (some 3)] := by simp [enH, hl0]
    have g1 : ∀ n, rwV n ws = .slice (some ⟨n, 0, none⟩) ws.length (OPEN + ws.length) := fun n => by simp [rwV, hw0]
    have g2 : rwH ws = [rwB ws] := by simp [rwH, hw0]
    rw [eh] at e3
    have e3' : RowAt ([.row (rowOf l), .cells (rowOf l) 126 (some 3), tB ts, wB ws]) A' l.length (rowOf l) := rowAt_more [tB ts, wB ws] e3
    rw [eh]
    simp (maxSteps := 2000000) (implicitDefEqProofs := false) [DN, NB, begT, atHead, kd, wantedA, evP, evR, evF, evL, evC, evI, evBin, evUn, evEq, evSt, evRes, plain, scp, scpA, scpL, rdRow, rdCells, veq, veqA, veqL, isHole, Value.cells, evalL, optI, evBounds, evFill, evFillR, evApp, newsOf, wrCells, one1, fitsApp, evClr, undef, onB_bool, List.getElem?_concat_length, List.getElem?_cons_zero, List.getElem?_cons_succ, List.getElem?_toArray, List.getElem?_nil, List.set_cons_zero, List.set_cons_succ, List.cons_append, List.nil_append, -getElem?_pos, -getElem?_neg]
    refine rwaitsG hl e2 e3' ?_
    rw [hws, g2, g1]
    simp (maxSteps := 2000000) (implicitDefEqProofs := false) [DN, NB, begT, atHead, kd, wantedA, evP, evR, evF, evL, evC, evI, evBin, evUn, evEq, evSt, evRes, plain, scp, scpA, scpL, rdRow, rdCells, veq, veqA, veqL, isHole, Value.cells, evalL, optI, evBounds, evFill, evFillR, evApp, newsOf, wrCells, one1, fitsApp, evClr, undef, onB_bool, List.getElem?_concat_length, List.getElem?_cons_zero, List.getElem?_cons_succ, List.getElem?_toArray, List.getElem?_nil, List.set_cons_zero, List.set_cons_succ, List.cons_append, List.nil_append, -getElem?_pos, -getElem?_neg]
    have hok : ∀ a g, AOK [.row (rowOf l), .cells (rowOf l) 126 (some 3), tB ts, wB ws, rwB ws, mostB a g] := fun a g => AOK.of ⟨scp_noNames (rowOf_noNames l) _, scp_noNames (enBlk_noNames l) _, scp_noNames (tB_noNames _) _, scp_noNames (wB_noNames _) _, scp_noNames (rwB_noNames _) _, scp_noNames (mostB_noNames _ _) _, trivial⟩
    obtain ⟨tv, htv⟩ : ∃ tv, tv = otT (.slice A l.length cap) ws.length 5 := ⟨_, rfl⟩
    obtain ⟨hv, hhv⟩ : ∃ hv : Nat → AH, hv = fun i => [.row (rowOf l), .cells (rowOf l) 126 (some 3), tB ts, wB ws, rwB ws, mostB (mxA (ws.take i)) (mxG (ws.take i))] := ⟨_, rfl⟩
    have hhd : ∀ i (t' : T) (h' tl : AH), h' = [.row (rowOf l), .cells (rowOf l) 126 (some 3), tB ts, wB ws, rwB ws, mostB (mxA (ws.take i)) (mxG (ws.take i))] ++ tl → t'.length = 68 → (∀ y ∈ otT (.slice A l.length cap) ws.length 5 i, getT t' y.1 = some y.2) → atHeadV 1 68 (tv i) (hv i) t' h' := by
      rintro i t' h' tl rfl e1 e2
      rw [htv, hhv]
      refine headId (fun b k hb => by rw [List.getElem?_append_left (List.getElem?_eq_some_iff.1 hb).1]; exact hb) (hok _ _) (fun b hb => ?_) (by simp) e1 fun y hy => ⟨e2 y hy, ?_⟩
      · obtain rfl : b = 0 := by omega
        rfl
      · simp only [otT, List.mem_cons, List.not_mem_nil, or_false] at hy
        rcases hy with rfl | rfl | rfl | rfl | rfl | rfl
        · exact rowOne_scp hone _
        all_goals simp [scp, live, mostB, wB, rwB]
    refine loop3 hmix 68 (fun i => i ≤ ws.length) (fun i => ws.length - i) tv hv 0 (Nat.zero_le _) (hhd 0 _ _ [] rfl rfl ?_) ?_
    · simp only [otT, List.mem_cons, List.not_mem_nil, or_false]
      rintro y (rfl | rfl | rfl | rfl | rfl | rfl) <;> simp [GB]
    intro i hi
    rw [show tv i = otT (.slice A l.length cap) ws.length 5 i by rw [htv], show hv i = [.row (rowOf l), .cells (rowOf l) 126 (some 3), tB ts, wB ws, rwB ws, mostB (mxA (ws.take i)) (mxG (ws.take i))] by rw [hhv]]
    by_cases hlt : i < ws.length
    case neg =>
      obtain rfl : i = ws.length := by omega
      have htk : ws.take ws.length = ws := List.take_length
      simp (maxSteps := 2000000) (implicitDefEqProofs := false) [DN, NB, begT, atHead, kd, wantedA, evP, evR, evF, evL, evC, evI, evBin, evUn, evEq, evSt, evRes, plain, scp, scpA, scpL, rdRow, rdCells, veq, veqA, veqL, isHole, Value.cells, evalL, optI, evBounds, evFill, evFillR, evApp, newsOf, wrCells, one1, fitsApp, evClr, undef, onB_bool, List.getElem?_concat_length, List.getElem?_cons_zero, List.getElem?_cons_succ, List.getElem?_toArray, List.getElem?_nil, List.set_cons_zero, List.set_cons_succ, List.cons_append, List.nil_append, -getElem?_pos, -getElem?_neg, otT, mostB, htk]
      refine hmost _ ?_
      simp (maxSteps := 2000000) (implicitDefEqProofs := false) [DN, NB, begT, atHead, kd, wantedA, evP, evR, evF, evL, evC, evI, evBin, evUn, evEq, evSt, evRes, plain, scp, scpA, scpL, rdRow, rdCells, veq, veqA, veqL, isHole, Value.cells, evalL, optI, evBounds, evFill, evFillR, evApp, newsOf, wrCells, one1, fitsApp, evClr, undef, onB_bool, List.getElem?_concat_length, List.getElem?_cons_zero, List.getElem?_cons_succ, List.getElem?_toArray, List.getElem?_nil, List.set_cons_zero, List.set_cons_succ, List.cons_append, List.nil_append, -getElem?_pos, -getElem?_neg, geqW]
      refine awakeK _ _ fun h' => ?_
      simp (maxSteps := 2000000) (implicitDefEqProofs := false) [DN, NB, begT, atHead, kd, wantedA, evP, evR, evF, evL, evC, evI, evBin, evUn, evEq, evSt, evRes, plain, scp, scpA, scpL, rdRow, rdCells, veq, veqA, veqL, isHole, Value.cells, evalL, optI, evBounds, evFill, evFillR, evApp, newsOf, wrCells, one1, fitsApp, evClr, undef, onB_bool, List.getElem?_concat_length, List.getElem?_cons_zero, List.getElem?_cons_succ, List.getElem?_toArray, List.getElem?_nil, List.set_cons_zero, List.set_cons_succ, List.cons_append, List.nil_append, -getElem?_pos, -getElem?_neg]
    have hlt' : (i : Int) < ws.length := by omega
    have hi0 : (0 : Int) ≤ i := by omega
    obtain ⟨x, hx⟩ : ∃ x, ws[i]? = some x := ⟨_, List.getElem?_eq_getElem hlt⟩
    have hrd := rowW_at hx
    have hfitr : i * 3 + 3 ≤ (rowW ws).length := by rw [rowW_length]; omega
    have hwr : IntKind.i64.wrap ((i : Int) + 1) = (i : Int) + 1 := IntWalk.i64_in _ (by omega)
    have hma := mxA_take hx
    have hmg := mxG_take hx
    simp (maxSteps := 2000000) (implicitDefEqProofs := false) [DN, NB, begT, atHead, kd, wantedA, evP, evR, evF, evL, evC, evI, evBin, evUn, evEq, evSt, evRes, plain, scp, scpA, scpL, rdRow, rdCells, veq, veqA, veqL, isHole, Value.cells, evalL, optI, evBounds, evFill, evFillR, evApp, newsOf, wrCells, one1, fitsApp, evClr, undef, onB_bool, List.getElem?_concat_length, List.getElem?_cons_zero, List.getElem?_cons_succ, List.getElem?_toArray, List.getElem?_nil, List.set_cons_zero, List.set_cons_succ, List.cons_append, List.nil_append, -getElem?_pos, -getElem?_neg, otT, mostB, wB, rwB, hlt', hi0, hrd, hfitr, set_concat, splice_many, hwr, gneR]
    refine nextS.intro (i + 1) (by omega) (by omega) (hhd (i + 1) _ _ [.cells [.int .i64 x.t, .int .i64 x.a, .int .i64 x.g] 58 none] ?_ rfl ?_)
    · rw [hma, hmg]; simp [mostB, wB, rwB]
    simp only [otT, List.mem_cons, List.not_mem_nil, or_false]
    rintro y (rfl | rfl | rfl | rfl | rfl | rfl) <;> simp [GB]

end Ox
end Go.Proofs.Ytekhadlpcdjlpaa
