/- fifo: Take. -/
import Derived.Test.YtekhadlpcdjlpaaFx3
namespace Go.Proofs.Ytekhadlpcdjlpaa
namespace Fx
open Go Abs Code
set_option linter.unusedVariables false
set_option linter.unusedSimpArgs false
set_option maxRecDepth 100000

def boxB (s : LS) (b : Nat) (stale : List Int) : ABlk := .cells [.slice (some ⟨1, 0, none⟩) s.st.length s.st.length, .slice (some ⟨b, 0, none⟩) s.q.length (OPEN + (s.q.length + stale.length)), .int .i64 s.own, .int .i64 s.now] 171 none

/-- The blocks of a lock. -/
def heapL (s : LS) (g : AH) : Prop := OkL s ∧ ((s.q = [] ∧ g = [boxL s (.slice none 0 0), .cells (ints s.st) 3 none]) ∨
  ∃ stale, g = [boxL s (.slice (some ⟨2, 0, none⟩) s.q.length (OPEN + (s.q.length + stale.length))), .cells (ints s.st) 3 none, .cells (ints (s.q ++ stale)) 3 (some 1)])

theorem ints_scp (L : Nat → Bool) (l : List Int) : ∀ v ∈ ints l, scp L v = true := by
  intro v hv
  obtain ⟨x, _, rfl⟩ := List.mem_map.1 hv
  simp [scp]

theorem ints_ren (σ : Nat → Nat) (l : List Int) : (ints l).map (ren σ) = ints l := by
  simp [ints, ren]

theorem ownL {s : LS} {g : AH} (h : heapL s g) : own g := by
  rcases h.2 with ⟨_, rfl⟩ | ⟨stale, rfl⟩
  · intro b k hb cb
    match b with
    | 0 => injection hb with hb; subst hb; rfl
    | 1 => injection hb with hb; subst hb; rfl
    | n + 2 => simp at hb
  · intro b k hb cb
    match b with
    | 0 => injection hb with hb; subst hb; rfl
    | 1 => injection hb with hb; subst hb; rfl
    | 2 => injection hb with hb; subst hb; rfl
    | n + 3 => simp at hb

theorem okL {s : LS} {g : AH} (h : heapL s g) : AOK g := by
  rcases h.2 with ⟨_, rfl⟩ | ⟨stale, rfl⟩
  · intro b k hb
    match b with
    | 0 =>
      injection hb with hb
      subst hb
      intro v hv
      simp at hv
      rcases hv with rfl | rfl | rfl | rfl <;> simp [scp, live]
    | 1 => injection hb with hb; subst hb; exact ints_scp _ _
    | n + 2 => simp at hb
  · intro b k hb
    match b with
    | 0 =>
      injection hb with hb
      subst hb
      intro v hv
      simp at hv
      rcases hv with rfl | rfl | rfl | rfl <;> simp [scp, live]
    | 1 => injection hb with hb; subst hb; exact ints_scp _ _
    | 2 => injection hb with hb; subst hb; exact ints_scp _ _
    | n + 3 => simp at hb

theorem close0 {s : LS} {h' : AH} (ok : OkL s) (hq : s.q = []) (h0 : h'[0]? = some (boxL s (.slice none 0 0))) (h1 : h'[1]? = some (.cells (ints s.st) 3 none)) : Closes heapL s h' := by
  have hh : heapL s [boxL s (.slice none 0 0), .cells (ints s.st) 3 none] := ⟨ok, .inl ⟨hq, rfl⟩⟩
  refine ⟨_, fun b => b, hh, ownL hh, okL hh, by simp [live, boxL], rfl, ⟨fun j k hj => ?_, fun _ _ _ _ e => e⟩⟩
  match j with
  | 0 => injection hj with hj; subst hj; rw [h0]; simp [boxL, renB, ren, renA]
  | 1 => injection hj with hj; subst hj; rw [h1]; simp [renB, ints_ren]
  | n + 2 => simp at hj

theorem close1 {s : LS} {h' : AH} {b : Nat} {stale : List Int} (ok : OkL s) (hb0 : b ≠ 0) (hb1 : b ≠ 1) (h0 : h'[0]? = some (boxB s b stale)) (h1 : h'[1]? = some (.cells (ints s.st) 3 none)) (h2 : h'[b]? = some (.cells (ints (s.q ++ stale)) 3 (some 1))) : Closes heapL s h' := by
  have hh : heapL s [boxL s (.slice (some ⟨2, 0, none⟩) s.q.length (OPEN + (s.q.length + stale.length))), .cells (ints s.st) 3 none, .cells (ints (s.q ++ stale)) 3 (some 1)] := ⟨ok, .inr ⟨stale, rfl⟩⟩
  refine ⟨_, fun c => if c = 2 then b else c, hh, ownL hh, okL hh, by simp [live, boxL], rfl, ⟨fun j k hj => ?_, fun i j hi hj e => ?_⟩⟩
  · match j with
    | 0 => injection hj with hj; subst hj; simp only [show ((0 : Nat) = 2) = False by simp, if_false]; rw [h0]; simp [boxL, boxB, renB, ren, renA]
    | 1 => injection hj with hj; subst hj; simp only [show ((1 : Nat) = 2) = False by simp, if_false]; rw [h1]; simp [renB, ints_ren]
    | 2 => injection hj with hj; subst hj; simp only [if_true]; rw [h2]; simp [renB, ints_ren]
    | n + 3 => simp at hj
  · simp at hi hj
    split at e <;> split at e <;> omega

theorem wayK (k : Int) (h : AH) (K : Value → AH → Prop) (hK : K (.tuple #[.int .i64 (wayOf k).1, .int .i64 (wayOf k).2.1, .bool (wayOf k).2.2]) h) : AC Try.prog 108 [.int .i64 k] h K := by
  refine (way_ k h).mono ?_
  rintro _ _ ⟨rfl, rfl⟩
  exact hK

/-- The lock. -/
def lockD : ADT := mkADT LS heapL

set_option maxHeartbeats 4000000 in
theorem take0_ (s : LS) (ok : OkL s) (hq : s.q = []) (x : En) : AC Try.prog 76 [.pointer (some ⟨0, 0, none⟩), x.v] [boxL s (.slice none 0 0), .cells (ints s.st) 3 none]
    (fun v h' => v = .bool (fitsL s x) ∧ Closes heapL (takeL s x) h') := by
  have hxv : x.v = .agg #[.int .i64 x.k, .int .i64 x.t, .int .i64 x.now] := rfl
  refine entry hmix cf76 ?_
  simp (maxSteps := 2000000) (implicitDefEqProofs := false) [DN, NB, begT, atHead, kd, wantedA, evP, evR, evF, evL, evC, evBin, evUn, evEq, evSt, evRes, plain, scp, scpA, scpL, rdRow, rdCells, veq, veqA, veqL, isHole, Value.cells, evalL, optI, evBounds, evFill, evFillR, evApp, newsOf, wrCells, one1, fitsApp, evClr, undef, onB_bool, List.getElem?_concat_length, List.getElem?_cons_zero, List.getElem?_cons_succ, List.getElem?_toArray, List.getElem?_nil, List.set_cons_zero, List.set_cons_succ, List.cons_append, List.nil_append, -getElem?_pos, -getElem?_neg, hxv, boxL]
  refine fits0_ s ok hq x _ _ fun jk => ?_
  by_cases hf : fitsL s x = true
  case neg =>
    have hf' : fitsL s x = false := by simpa using hf
    simp (maxSteps := 2000000) (implicitDefEqProofs := false) [DN, NB, begT, atHead, kd, wantedA, evP, evR, evF, evL, evC, evBin, evUn, evEq, evSt, evRes, plain, scp, scpA, scpL, rdRow, rdCells, veq, veqA, veqL, isHole, Value.cells, evalL, optI, evBounds, evFill, evFillR, evApp, newsOf, wrCells, one1, fitsApp, evClr, undef, onB_bool, List.getElem?_concat_length, List.getElem?_cons_zero, List.getElem?_cons_succ, List.getElem?_toArray, List.getElem?_nil, List.set_cons_zero, List.set_cons_succ, List.cons_append, List.nil_append, -getElem?_pos, -getElem?_neg, hf', boxL]
    have e : takeL s x = s := by simp [takeL, hf']
    rw [e]
    exact close0 ok hq rfl rfl
  have ok' : OkL (takeL s x) := takeL_ok ok
  obtain ⟨p1, p2, p3, p4, p5, p6⟩ := fitsL_parts hf
  have hlt : x.t.toNat < s.st.length := by omega
  have hlt1 : x.t.toNat + 1 ≤ s.st.length := by omega
  have hst : (takeL s x).st = s.st.set x.t.toNat (wayOf x.k).2.1 := by simp [takeL, hf]
  have hnow : (takeL s x).now = x.now := by simp [takeL, hf]
  by_cases hk34 : x.k = 3 ∨ x.k = 4
  · exfalso
    have hw : (wayOf x.k).1 = 2 := by rcases hk34 with h | h <;> (rw [h]; rfl)
    have := ok.que x.t.toNat (by rw [p5, hw])
    rw [hq] at this
    cases this
  have b3 : (x.k == 3) = false := by simp; omega
  have b4 : (x.k == 4) = false := by simp; omega
  have n3 : ¬ x.k = 3 := by omega
  have n4 : ¬ x.k = 4 := by omega
  by_cases hk2 : x.k = 2
  · have b2 : (x.k == 2) = true := by simp [hk2]
    have b9 : (x.k == 9) = false := by simp [hk2]
    have hqq : (takeL s x).q = [x.t] := by simp [takeL, hf, hk2, hq]
    have hown : (takeL s x).own = s.own := by simp [takeL, hf, hk2]
    simp (maxSteps := 2000000) (implicitDefEqProofs := false) [DN, NB, begT, atHead, kd, wantedA, evP, evR, evF, evL, evC, evBin, evUn, evEq, evSt, evRes, plain, scp, scpA, scpL, rdRow, rdCells, veq, veqA, veqL, isHole, Value.cells, evalL, optI, evBounds, evFill, evFillR, evApp, newsOf, wrCells, one1, fitsApp, evClr, undef, onB_bool, List.getElem?_concat_length, List.getElem?_cons_zero, List.getElem?_cons_succ, List.getElem?_toArray, List.getElem?_nil, List.set_cons_zero, List.set_cons_succ, List.cons_append, List.nil_append, -getElem?_pos, -getElem?_neg, hf, boxL]
    refine wayK _ _ _ ?_
    simp (maxSteps := 2000000) (implicitDefEqProofs := false) [DN, NB, begT, atHead, kd, wantedA, evP, evR, evF, evL, evC, evBin, evUn, evEq, evSt, evRes, plain, scp, scpA, scpL, rdRow, rdCells, veq, veqA, veqL, isHole, Value.cells, evalL, optI, evBounds, evFill, evFillR, evApp, newsOf, wrCells, one1, fitsApp, evClr, undef, onB_bool, List.getElem?_concat_length, List.getElem?_cons_zero, List.getElem?_cons_succ, List.getElem?_toArray, List.getElem?_nil, List.set_cons_zero, List.set_cons_succ, List.cons_append, List.nil_append, -getElem?_pos, -getElem?_neg, b2, b3, b4, b9, p2, p3, hlt1, ints_length, ints_set]
    refine close1 (b := 5) (stale := []) ok' (by simp) (by simp) ?_ ?_ ?_
    · simp [boxB, hst, hnow, hown, hqq]
    · simp [hst]
    · simp [hqq, ints]
  have b2 : (x.k == 2) = false := by simp [hk2]
  have hqq : (takeL s x).q = [] := by simp [takeL, hf, hk2, hq, n3, n4]
  by_cases hk9 : x.k = 9
  · have b9 : (x.k == 9) = true := by simp [hk9]
    have hown : (takeL s x).own = -1 := by simp [takeL, hf, hk9]
    simp (maxSteps := 2000000) (implicitDefEqProofs := false) [DN, NB, begT, atHead, kd, wantedA, evP, evR, evF, evL, evC, evBin, evUn, evEq, evSt, evRes, plain, scp, scpA, scpL, rdRow, rdCells, veq, veqA, veqL, isHole, Value.cells, evalL, optI, evBounds, evFill, evFillR, evApp, newsOf, wrCells, one1, fitsApp, evClr, undef, onB_bool, List.getElem?_concat_length, List.getElem?_cons_zero, List.getElem?_cons_succ, List.getElem?_toArray, List.getElem?_nil, List.set_cons_zero, List.set_cons_succ, List.cons_append, List.nil_append, -getElem?_pos, -getElem?_neg, hf, boxL]
    refine wayK _ _ _ ?_
    simp (maxSteps := 2000000) (implicitDefEqProofs := false) [DN, NB, begT, atHead, kd, wantedA, evP, evR, evF, evL, evC, evBin, evUn, evEq, evSt, evRes, plain, scp, scpA, scpL, rdRow, rdCells, veq, veqA, veqL, isHole, Value.cells, evalL, optI, evBounds, evFill, evFillR, evApp, newsOf, wrCells, one1, fitsApp, evClr, undef, onB_bool, List.getElem?_concat_length, List.getElem?_cons_zero, List.getElem?_cons_succ, List.getElem?_toArray, List.getElem?_nil, List.set_cons_zero, List.set_cons_succ, List.cons_append, List.nil_append, -getElem?_pos, -getElem?_neg, b2, b3, b4, b9, p2, p3, hlt1, ints_length, ints_set]
    refine close0 ok' hqq ?_ ?_
    · simp [boxL, hst, hnow, hown]
    · simp [hst]
  · have b9 : (x.k == 9) = false := by simp [hk9]
    have hown : (takeL s x).own = s.own := by simp [takeL, hf, hk9, n3]
    simp (maxSteps := 2000000) (implicitDefEqProofs := false) [DN, NB, begT, atHead, kd, wantedA, evP, evR, evF, evL, evC, evBin, evUn, evEq, evSt, evRes, plain, scp, scpA, scpL, rdRow, rdCells, veq, veqA, veqL, isHole, Value.cells, evalL, optI, evBounds, evFill, evFillR, evApp, newsOf, wrCells, one1, fitsApp, evClr, undef, onB_bool, List.getElem?_concat_length, List.getElem?_cons_zero, List.getElem?_cons_succ, List.getElem?_toArray, List.getElem?_nil, List.set_cons_zero, List.set_cons_succ, List.cons_append, List.nil_append, -getElem?_pos, -getElem?_neg, hf, boxL]
    refine wayK _ _ _ ?_
    simp (maxSteps := 2000000) (implicitDefEqProofs := false) [DN, NB, begT, atHead, kd, wantedA, evP, evR, evF, evL, evC, evBin, evUn, evEq, evSt, evRes, plain, scp, scpA, scpL, rdRow, rdCells, veq, veqA, veqL, isHole, Value.cells, evalL, optI, evBounds, evFill, evFillR, evApp, newsOf, wrCells, one1, fitsApp, evClr, undef, onB_bool, List.getElem?_concat_length, List.getElem?_cons_zero, List.getElem?_cons_succ, List.getElem?_toArray, List.getElem?_nil, List.set_cons_zero, List.set_cons_succ, List.cons_append, List.nil_append, -getElem?_pos, -getElem?_neg, b2, b3, b4, b9, p2, p3, hlt1, ints_length, ints_set]
    refine close0 ok' hqq ?_ ?_
    · simp [boxL, hst, hnow, hown]
    · simp [hst]

theorem capLow_open (n : Nat) : capLow (OPEN + n) = n := by
  unfold capLow
  rw [if_neg (by omega)]
  omega

set_option maxHeartbeats 4000000 in
theorem take1_ (s : LS) (ok : OkL s) (stale : List Int) (hql : s.q.length ≤ 900) (x : En) : AC Try.prog 76 [.pointer (some ⟨0, 0, none⟩), x.v] [boxL s (.slice (some ⟨2, 0, none⟩) s.q.length (OPEN + (s.q.length + stale.length))), .cells (ints s.st) 3 none, .cells (ints (s.q ++ stale)) 3 (some 1)]
    (fun v h' => v = .bool (fitsL s x) ∧ Closes heapL (takeL s x) h') := by
  have hxv : x.v = .agg #[.int .i64 x.k, .int .i64 x.t, .int .i64 x.now] := rfl
  refine entry hmix cf76 ?_
  simp (maxSteps := 2000000) (implicitDefEqProofs := false) [DN, NB, begT, atHead, kd, wantedA, evP, evR, evF, evL, evC, evBin, evUn, evEq, evSt, evRes, plain, scp, scpA, scpL, rdRow, rdCells, veq, veqA, veqL, isHole, Value.cells, evalL, optI, evBounds, evFill, evFillR, evApp, newsOf, wrCells, one1, fitsApp, evClr, undef, onB_bool, List.getElem?_concat_length, List.getElem?_cons_zero, List.getElem?_cons_succ, List.getElem?_toArray, List.getElem?_nil, List.set_cons_zero, List.set_cons_succ, List.cons_append, List.nil_append, -getElem?_pos, -getElem?_neg, hxv, boxL]
  refine fits_ s ok stale x _ _ fun jk => ?_
  by_cases hf : fitsL s x = true
  case neg =>
    have hf' : fitsL s x = false := by simpa using hf
    simp (maxSteps := 2000000) (implicitDefEqProofs := false) [DN, NB, begT, atHead, kd, wantedA, evP, evR, evF, evL, evC, evBin, evUn, evEq, evSt, evRes, plain, scp, scpA, scpL, rdRow, rdCells, veq, veqA, veqL, isHole, Value.cells, evalL, optI, evBounds, evFill, evFillR, evApp, newsOf, wrCells, one1, fitsApp, evClr, undef, onB_bool, List.getElem?_concat_length, List.getElem?_cons_zero, List.getElem?_cons_succ, List.getElem?_toArray, List.getElem?_nil, List.set_cons_zero, List.set_cons_succ, List.cons_append, List.nil_append, -getElem?_pos, -getElem?_neg, hf', boxL]
    have e : takeL s x = s := by simp [takeL, hf']
    rw [e]
    exact close1 (b := 2) ok (by simp) (by simp) rfl rfl rfl
  have ok' : OkL (takeL s x) := takeL_ok ok
  obtain ⟨p1, p2, p3, p4, p5, p6⟩ := fitsL_parts hf
  have hlt : x.t.toNat < s.st.length := by omega
  have hlt1 : x.t.toNat + 1 ≤ s.st.length := by omega
  have hst : (takeL s x).st = s.st.set x.t.toNat (wayOf x.k).2.1 := by simp [takeL, hf]
  have hnow : (takeL s x).now = x.now := by simp [takeL, hf]
  have hop : ¬ (OPEN + (s.q.length + stale.length) < OPEN) := by omega
  have hmem : x.k = 3 ∨ x.k = 4 → x.t ∈ s.q := by
    intro h34
    have hw : (wayOf x.k).1 = 2 := by rcases h34 with h | h <;> (rw [h]; rfl)
    have := ok.que x.t.toNat (by rw [p5, hw])
    rwa [Int.toNat_of_nonneg p2] at this
  by_cases hk2 : x.k = 2
  · have b2 : (x.k == 2) = true := by simp [hk2]
    have b3 : (x.k == 3) = false := by simp [hk2]
    have b4 : (x.k == 4) = false := by simp [hk2]
    have b9 : (x.k == 9) = false := by simp [hk2]
    have hqq : (takeL s x).q = s.q ++ [x.t] := by simp [takeL, hf, hk2]
    have hown : (takeL s x).own = s.own := by simp [takeL, hf, hk2]
    cases stale with
    | cons z stale =>
      have hroom : s.q.length + 1 ≤ s.q.length + (stale.length + 1) := by omega
      have hset : (ints (s.q ++ z :: stale)).set s.q.length (.int .i64 x.t) = ints ((s.q ++ [x.t]) ++ stale) := by rw [ints_set]; simp
      simp (maxSteps := 2000000) (implicitDefEqProofs := false) [DN, NB, begT, atHead, kd, wantedA, evP, evR, evF, evL, evC, evBin, evUn, evEq, evSt, evRes, plain, scp, scpA, scpL, rdRow, rdCells, veq, veqA, veqL, isHole, Value.cells, evalL, optI, evBounds, evFill, evFillR, evApp, newsOf, wrCells, one1, fitsApp, evClr, undef, onB_bool, List.getElem?_concat_length, List.getElem?_cons_zero, List.getElem?_cons_succ, List.getElem?_toArray, List.getElem?_nil, List.set_cons_zero, List.set_cons_succ, List.cons_append, List.nil_append, -getElem?_pos, -getElem?_neg, hf, boxL]
      refine wayK _ _ _ ?_
      simp (maxSteps := 2000000) (implicitDefEqProofs := false) [DN, NB, begT, atHead, kd, wantedA, evP, evR, evF, evL, evC, evBin, evUn, evEq, evSt, evRes, plain, scp, scpA, scpL, rdRow, rdCells, veq, veqA, veqL, isHole, Value.cells, evalL, optI, evBounds, evFill, evFillR, evApp, newsOf, wrCells, one1, fitsApp, evClr, undef, onB_bool, List.getElem?_concat_length, List.getElem?_cons_zero, List.getElem?_cons_succ, List.getElem?_toArray, List.getElem?_nil, List.set_cons_zero, List.set_cons_succ, List.cons_append, List.nil_append, -getElem?_pos, -getElem?_neg, b2, b3, b4, b9, p2, p3, hlt1, ints_length, ints_set, capLow_open, hroom, hset]
      refine close1 (b := 2) (stale := stale) ok' (by simp) (by simp) ?_ ?_ ?_
      · simp [boxB, hst, hnow, hown, hqq]
        omega
      · simp [hst]
      · simp [hqq]
    | nil =>
      simp (maxSteps := 2000000) (implicitDefEqProofs := false) [DN, NB, begT, atHead, kd, wantedA, evP, evR, evF, evL, evC, evBin, evUn, evEq, evSt, evRes, plain, scp, scpA, scpL, rdRow, rdCells, veq, veqA, veqL, isHole, Value.cells, evalL, optI, evBounds, evFill, evFillR, evApp, newsOf, wrCells, one1, fitsApp, evClr, undef, onB_bool, List.getElem?_concat_length, List.getElem?_cons_zero, List.getElem?_cons_succ, List.getElem?_toArray, List.getElem?_nil, List.set_cons_zero, List.set_cons_succ, List.cons_append, List.nil_append, -getElem?_pos, -getElem?_neg, hf, boxL]
      refine wayK _ _ _ ?_
      have hf1 : s.q.length ≤ 4294967295 := by omega
      have hf2 : (s.q.length + 1) * 8 ≤ 140737488355328 := by omega
      have hop' : ¬ (OPEN + s.q.length < OPEN) := by omega
      have hnr : ¬ (s.q.length + 1 ≤ s.q.length) := by omega
      have htk : (ints s.q).take s.q.length = ints s.q := List.take_of_length_le (by rw [ints_length]; exact Nat.le_refl _)
      simp (maxSteps := 2000000) (implicitDefEqProofs := false) [DN, NB, begT, atHead, kd, wantedA, evP, evR, evF, evL, evC, evBin, evUn, evEq, evSt, evRes, plain, scp, scpA, scpL, rdRow, rdCells, veq, veqA, veqL, isHole, Value.cells, evalL, optI, evBounds, evFill, evFillR, evApp, newsOf, wrCells, one1, fitsApp, evClr, undef, onB_bool, List.getElem?_concat_length, List.getElem?_cons_zero, List.getElem?_cons_succ, List.getElem?_toArray, List.getElem?_nil, List.set_cons_zero, List.set_cons_succ, List.cons_append, List.nil_append, -getElem?_pos, -getElem?_neg, b2, b3, b4, b9, p2, p3, hlt1, ints_length, ints_set, capLow_open, hf1, hf2, hop', htk, hnr]
      refine close1 (b := 6) (stale := []) ok' (by simp) (by simp) ?_ ?_ ?_
      · simp [boxB, hst, hnow, hown, hqq]
      · simp [hst]
      · simp [hqq, ints]
  have b2 : (x.k == 2) = false := by simp [hk2]
  by_cases hk3 : x.k = 3
  · have b3 : (x.k == 3) = true := by simp [hk3]
    have b9 : (x.k == 9) = false := by simp [hk3]
    have hqq : (takeL s x).q = s.q.filter (· != x.t) := by simp [takeL, hf, hk3]
    have hown : (takeL s x).own = x.t := by simp [takeL, hf, hk3]
    simp (maxSteps := 2000000) (implicitDefEqProofs := false) [DN, NB, begT, atHead, kd, wantedA, evP, evR, evF, evL, evC, evBin, evUn, evEq, evSt, evRes, plain, scp, scpA, scpL, rdRow, rdCells, veq, veqA, veqL, isHole, Value.cells, evalL, optI, evBounds, evFill, evFillR, evApp, newsOf, wrCells, one1, fitsApp, evClr, undef, onB_bool, List.getElem?_concat_length, List.getElem?_cons_zero, List.getElem?_cons_succ, List.getElem?_toArray, List.getElem?_nil, List.set_cons_zero, List.set_cons_succ, List.cons_append, List.nil_append, -getElem?_pos, -getElem?_neg, hf, boxL]
    refine wayK _ _ _ ?_
    simp (maxSteps := 2000000) (implicitDefEqProofs := false) [DN, NB, begT, atHead, kd, wantedA, evP, evR, evF, evL, evC, evBin, evUn, evEq, evSt, evRes, plain, scp, scpA, scpL, rdRow, rdCells, veq, veqA, veqL, isHole, Value.cells, evalL, optI, evBounds, evFill, evFillR, evApp, newsOf, wrCells, one1, fitsApp, evClr, undef, onB_bool, List.getElem?_concat_length, List.getElem?_cons_zero, List.getElem?_cons_succ, List.getElem?_toArray, List.getElem?_nil, List.set_cons_zero, List.set_cons_succ, List.cons_append, List.nil_append, -getElem?_pos, -getElem?_neg, b2, b3, b9, p2, p3, hlt1, ints_length, ints_set]
    refine delete_ _ _ _ _ _ _ _ _ _ (by omega) (hmem (.inl hk3)) fun stale2 hl2 => ?_
    simp (maxSteps := 2000000) (implicitDefEqProofs := false) [DN, NB, begT, atHead, kd, wantedA, evP, evR, evF, evL, evC, evBin, evUn, evEq, evSt, evRes, plain, scp, scpA, scpL, rdRow, rdCells, veq, veqA, veqL, isHole, Value.cells, evalL, optI, evBounds, evFill, evFillR, evApp, newsOf, wrCells, one1, fitsApp, evClr, undef, onB_bool, List.getElem?_concat_length, List.getElem?_cons_zero, List.getElem?_cons_succ, List.getElem?_toArray, List.getElem?_nil, List.set_cons_zero, List.set_cons_succ, List.cons_append, List.nil_append, -getElem?_pos, -getElem?_neg]
    refine close1 (b := 2) (stale := stale2) ok' (by simp) (by simp) ?_ ?_ ?_
    · simp [boxB, hst, hnow, hown, hqq, hl2]
    · simp [hst]
    · simp [hqq]
  have b3 : (x.k == 3) = false := by simp [hk3]
  by_cases hk4 : x.k = 4
  · have b4 : (x.k == 4) = true := by simp [hk4]
    have b9 : (x.k == 9) = false := by simp [hk4]
    have hqq : (takeL s x).q = s.q.filter (· != x.t) := by simp [takeL, hf, hk4]
    have hown : (takeL s x).own = s.own := by simp [takeL, hf, hk4]
    simp (maxSteps := 2000000) (implicitDefEqProofs := false) [DN, NB, begT, atHead, kd, wantedA, evP, evR, evF, evL, evC, evBin, evUn, evEq, evSt, evRes, plain, scp, scpA, scpL, rdRow, rdCells, veq, veqA, veqL, isHole, Value.cells, evalL, optI, evBounds, evFill, evFillR, evApp, newsOf, wrCells, one1, fitsApp, evClr, undef, onB_bool, List.getElem?_concat_length, List.getElem?_cons_zero, List.getElem?_cons_succ, List.getElem?_toArray, List.getElem?_nil, List.set_cons_zero, List.set_cons_succ, List.cons_append, List.nil_append, -getElem?_pos, -getElem?_neg, hf, boxL]
    refine wayK _ _ _ ?_
    simp (maxSteps := 2000000) (implicitDefEqProofs := false) [DN, NB, begT, atHead, kd, wantedA, evP, evR, evF, evL, evC, evBin, evUn, evEq, evSt, evRes, plain, scp, scpA, scpL, rdRow, rdCells, veq, veqA, veqL, isHole, Value.cells, evalL, optI, evBounds, evFill, evFillR, evApp, newsOf, wrCells, one1, fitsApp, evClr, undef, onB_bool, List.getElem?_concat_length, List.getElem?_cons_zero, List.getElem?_cons_succ, List.getElem?_toArray, List.getElem?_nil, List.set_cons_zero, List.set_cons_succ, List.cons_append, List.nil_append, -getElem?_pos, -getElem?_neg, b2, b3, b4, b9, p2, p3, hlt1, ints_length, ints_set]
    refine delete_ _ _ _ _ _ _ _ _ _ (by omega) (hmem (.inr hk4)) fun stale2 hl2 => ?_
    simp (maxSteps := 2000000) (implicitDefEqProofs := false) [DN, NB, begT, atHead, kd, wantedA, evP, evR, evF, evL, evC, evBin, evUn, evEq, evSt, evRes, plain, scp, scpA, scpL, rdRow, rdCells, veq, veqA, veqL, isHole, Value.cells, evalL, optI, evBounds, evFill, evFillR, evApp, newsOf, wrCells, one1, fitsApp, evClr, undef, onB_bool, List.getElem?_concat_length, List.getElem?_cons_zero, List.getElem?_cons_succ, List.getElem?_toArray, List.getElem?_nil, List.set_cons_zero, List.set_cons_succ, List.cons_append, List.nil_append, -getElem?_pos, -getElem?_neg]
    refine close1 (b := 2) (stale := stale2) ok' (by simp) (by simp) ?_ ?_ ?_
    · simp [boxB, hst, hnow, hown, hqq, hl2]
    · simp [hst]
    · simp [hqq]
  have b4 : (x.k == 4) = false := by simp [hk4]
  have hqq : (takeL s x).q = s.q := by simp [takeL, hf, hk2, hk3, hk4]
  by_cases hk9 : x.k = 9
  · have b9 : (x.k == 9) = true := by simp [hk9]
    have hown : (takeL s x).own = -1 := by simp [takeL, hf, hk9]
    simp (maxSteps := 2000000) (implicitDefEqProofs := false) [DN, NB, begT, atHead, kd, wantedA, evP, evR, evF, evL, evC, evBin, evUn, evEq, evSt, evRes, plain, scp, scpA, scpL, rdRow, rdCells, veq, veqA, veqL, isHole, Value.cells, evalL, optI, evBounds, evFill, evFillR, evApp, newsOf, wrCells, one1, fitsApp, evClr, undef, onB_bool, List.getElem?_concat_length, List.getElem?_cons_zero, List.getElem?_cons_succ, List.getElem?_toArray, List.getElem?_nil, List.set_cons_zero, List.set_cons_succ, List.cons_append, List.nil_append, -getElem?_pos, -getElem?_neg, hf, boxL]
    refine wayK _ _ _ ?_
    simp (maxSteps := 2000000) (implicitDefEqProofs := false) [DN, NB, begT, atHead, kd, wantedA, evP, evR, evF, evL, evC, evBin, evUn, evEq, evSt, evRes, plain, scp, scpA, scpL, rdRow, rdCells, veq, veqA, veqL, isHole, Value.cells, evalL, optI, evBounds, evFill, evFillR, evApp, newsOf, wrCells, one1, fitsApp, evClr, undef, onB_bool, List.getElem?_concat_length, List.getElem?_cons_zero, List.getElem?_cons_succ, List.getElem?_toArray, List.getElem?_nil, List.set_cons_zero, List.set_cons_succ, List.cons_append, List.nil_append, -getElem?_pos, -getElem?_neg, b2, b3, b4, b9, p2, p3, hlt1, ints_length, ints_set]
    refine close1 (b := 2) (stale := stale) ok' (by simp) (by simp) ?_ ?_ ?_
    · simp [boxB, hst, hnow, hown, hqq]
    · simp [hst]
    · simp [hqq]
  · have b9 : (x.k == 9) = false := by simp [hk9]
    have hown : (takeL s x).own = s.own := by simp [takeL, hf, hk9, hk3]
    simp (maxSteps := 2000000) (implicitDefEqProofs := false) [DN, NB, begT, atHead, kd, wantedA, evP, evR, evF, evL, evC, evBin, evUn, evEq, evSt, evRes, plain, scp, scpA, scpL, rdRow, rdCells, veq, veqA, veqL, isHole, Value.cells, evalL, optI, evBounds, evFill, evFillR, evApp, newsOf, wrCells, one1, fitsApp, evClr, undef, onB_bool, List.getElem?_concat_length, List.getElem?_cons_zero, List.getElem?_cons_succ, List.getElem?_toArray, List.getElem?_nil, List.set_cons_zero, List.set_cons_succ, List.cons_append, List.nil_append, -getElem?_pos, -getElem?_neg, hf, boxL]
    refine wayK _ _ _ ?_
    simp (maxSteps := 2000000) (implicitDefEqProofs := false) [DN, NB, begT, atHead, kd, wantedA, evP, evR, evF, evL, evC, evBin, evUn, evEq, evSt, evRes, plain, scp, scpA, scpL, rdRow, rdCells, veq, veqA, veqL, isHole, Value.cells, evalL, optI, evBounds, evFill, evFillR, evApp, newsOf, wrCells, one1, fitsApp, evClr, undef, onB_bool, List.getElem?_concat_length, List.getElem?_cons_zero, List.getElem?_cons_succ, List.getElem?_toArray, List.getElem?_nil, List.set_cons_zero, List.set_cons_succ, List.cons_append, List.nil_append, -getElem?_pos, -getElem?_neg, b2, b3, b4, b9, p2, p3, hlt1, ints_length, ints_set]
    refine close1 (b := 2) (stale := stale) ok' (by simp) (by simp) ?_ ?_ ?_
    · simp [boxB, hst, hnow, hown, hqq]
    · simp [hst]
    · simp [hqq]

end Fx
end Go.Proofs.Ytekhadlpcdjlpaa
