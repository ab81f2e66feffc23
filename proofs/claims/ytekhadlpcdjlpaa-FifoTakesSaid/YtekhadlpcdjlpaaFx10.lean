/- fifo: the lock's other methods; methods of a lock in whatever heap. -/
import Derived.Test.YtekhadlpcdjlpaaFx9
import Derived.Test.YtekhadlpcdjlpaaAbs26
namespace Go.Proofs.Ytekhadlpcdjlpaa
namespace Fx
open Go Abs Code
set_option linter.unusedVariables false
set_option linter.unusedSimpArgs false
set_option maxRecDepth 100000

abbrev lkB (s : LS) : ABlk := .adt (mkADT LS heapL) s

theorem boxL_hc (s : LS) (qv : Value) (tl : AH) : ∃ vs e, ((boxL s qv :: tl) : AH)[0]? = some (.cells vs e none) := ⟨_, _, rfl⟩

/-- How the box stands when the queue is nil, or not. -/
theorem close0K {s : LS} {h' : AH} {v : Value} {K : Value → AH → Prop} (ok : OkL s) (hq : s.q = []) (h0 : h'[0]? = some (boxL s (.slice none 0 0))) (h1 : h'[1]? = some (.cells (ints s.st) 3 none)) (hv : plain v = true) (hK : K v [lkB s]) : Sees 1 h' v K := by
  have hh : heapL s [boxL s (.slice none 0 0), .cells (ints s.st) 3 none] := ⟨ok, .inl ⟨hq, rfl⟩⟩
  refine Sees.m0 (is := [0, 1]) _ hh (ownL hh) (okL hh) (boxL_hc _ _ _) rfl (by simp) rfl ⟨?_, ?_, trivial⟩ hv hK
  · rw [nth_0, h0]; simp [boxL, renB, ren, renA, nth]
  · rw [nth_s, nth_0, h1]; simp [renB, ints_ren]

theorem close1K {s : LS} {h' : AH} {b : Nat} {stale : List Int} {v : Value} {K : Value → AH → Prop} (ok : OkL s) (hb0 : b ≠ 0) (hb1 : b ≠ 1) (h0 : h'[0]? = some (boxB s b stale)) (h1 : h'[1]? = some (.cells (ints s.st) 3 none)) (h2 : h'[b]? = some (.cells (ints (s.q ++ stale)) 3 (some 1))) (hv : plain v = true) (hK : K v [lkB s]) : Sees 1 h' v K := by
  have hh : heapL s [boxL s (.slice (some ⟨2, 0, none⟩) s.q.length (OPEN + (s.q.length + stale.length))), .cells (ints s.st) 3 none, .cells (ints (s.q ++ stale)) 3 (some 1)] := ⟨ok, .inr ⟨stale, rfl⟩⟩
  refine Sees.m0 (is := [0, 1, b]) _ hh (ownL hh) (okL hh) (boxL_hc _ _ _) rfl (by simp; omega) rfl ⟨?_, ?_, ?_, trivial⟩ hv hK
  · rw [nth_0, h0]; simp [boxL, boxB, renB, ren, renA, nth]
  · rw [nth_s, nth_0, h1]; simp [renB, ints_ren]
  · rw [nth_s, nth_s, nth_0, h2]; simp [renB, ints_ren]

def stateL (s : LS) (t : Int) : Int := if t < 0 then 0 else (s.st[t.toNat]?).getD 0

theorem state_ (s : LS) (t : Int) : AC Try.prog 81 [.pointer (some ⟨0, 0, none⟩), .int .i64 t] [lkB s] (fun v h' => v = .int .i64 (stateL s t) ∧ h' = [lkB s]) := by
  refine AC.method2 (by kernel_rfl) fun g hg hown hlive => ?_
  obtain ⟨ok, ⟨hq, rfl⟩ | ⟨stale, rfl⟩⟩ := hg
  · refine entry hmix cf81 ?_
    by_cases c1 : t < 0
    · simp (maxSteps := 2000000) (implicitDefEqProofs := false) [DN, NB, begT, atHead, kd, wantedA, evP, evR, evF, evL, evC, evBin, evUn, evEq, evSt, evRes, plain, scp, scpA, scpL, rdRow, rdCells, veq, veqA, veqL, isHole, Value.cells, evalL, optI, evBounds, evFill, evFillR, evApp, newsOf, wrCells, one1, fitsApp, evClr, undef, onB_bool, List.getElem?_concat_length, List.getElem?_cons_zero, List.getElem?_cons_succ, List.getElem?_toArray, List.getElem?_nil, List.set_cons_zero, List.set_cons_succ, List.cons_append, List.nil_append, -getElem?_pos, -getElem?_neg, boxL, c1]
      refine close0K ok hq ?_ rfl rfl ?_
      · simp [boxL]
      · simp [stateL, c1]
    · by_cases c2 : (s.st.length : Int) ≤ t
      · simp (maxSteps := 2000000) (implicitDefEqProofs := false) [DN, NB, begT, atHead, kd, wantedA, evP, evR, evF, evL, evC, evBin, evUn, evEq, evSt, evRes, plain, scp, scpA, scpL, rdRow, rdCells, veq, veqA, veqL, isHole, Value.cells, evalL, optI, evBounds, evFill, evFillR, evApp, newsOf, wrCells, one1, fitsApp, evClr, undef, onB_bool, List.getElem?_concat_length, List.getElem?_cons_zero, List.getElem?_cons_succ, List.getElem?_toArray, List.getElem?_nil, List.set_cons_zero, List.set_cons_succ, List.cons_append, List.nil_append, -getElem?_pos, -getElem?_neg, boxL, c1, c2]
        refine close0K ok hq ?_ rfl rfl ?_
        · simp [boxL]
        · have : s.st[t.toNat]? = none := by simp; omega
          simp [stateL, c1, this]
      · have c3 : t < s.st.length := by omega
        have c4 : 0 ≤ t := by omega
        obtain ⟨y, hy⟩ : ∃ y, s.st[t.toNat]? = some y := ⟨_, List.getElem?_eq_getElem (by omega)⟩
        have hy' : (ints s.st)[t.toNat]? = some (.int .i64 y) := by rw [ints_get, hy]; rfl
        simp (maxSteps := 2000000) (implicitDefEqProofs := false) [DN, NB, begT, atHead, kd, wantedA, evP, evR, evF, evL, evC, evBin, evUn, evEq, evSt, evRes, plain, scp, scpA, scpL, rdRow, rdCells, veq, veqA, veqL, isHole, Value.cells, evalL, optI, evBounds, evFill, evFillR, evApp, newsOf, wrCells, one1, fitsApp, evClr, undef, onB_bool, List.getElem?_concat_length, List.getElem?_cons_zero, List.getElem?_cons_succ, List.getElem?_toArray, List.getElem?_nil, List.set_cons_zero, List.set_cons_succ, List.cons_append, List.nil_append, -getElem?_pos, -getElem?_neg, boxL, c1, c2, c3, c4, hy', ints_length]
        refine close0K ok hq ?_ rfl rfl ?_
        · simp [boxL]
        · simp [stateL, c1, hy]
  · refine entry hmix cf81 ?_
    by_cases c1 : t < 0
    · simp (maxSteps := 2000000) (implicitDefEqProofs := false) [DN, NB, begT, atHead, kd, wantedA, evP, evR, evF, evL, evC, evBin, evUn, evEq, evSt, evRes, plain, scp, scpA, scpL, rdRow, rdCells, veq, veqA, veqL, isHole, Value.cells, evalL, optI, evBounds, evFill, evFillR, evApp, newsOf, wrCells, one1, fitsApp, evClr, undef, onB_bool, List.getElem?_concat_length, List.getElem?_cons_zero, List.getElem?_cons_succ, List.getElem?_toArray, List.getElem?_nil, List.set_cons_zero, List.set_cons_succ, List.cons_append, List.nil_append, -getElem?_pos, -getElem?_neg, boxL, c1]
      refine close1K (b := 2) (stale := stale) ok (by simp) (by simp) ?_ rfl rfl rfl ?_
      · simp [boxB]
      · simp [stateL, c1]
    · by_cases c2 : (s.st.length : Int) ≤ t
      · simp (maxSteps := 2000000) (implicitDefEqProofs := false) [DN, NB, begT, atHead, kd, wantedA, evP, evR, evF, evL, evC, evBin, evUn, evEq, evSt, evRes, plain, scp, scpA, scpL, rdRow, rdCells, veq, veqA, veqL, isHole, Value.cells, evalL, optI, evBounds, evFill, evFillR, evApp, newsOf, wrCells, one1, fitsApp, evClr, undef, onB_bool, List.getElem?_concat_length, List.getElem?_cons_zero, List.getElem?_cons_succ, List.getElem?_toArray, List.getElem?_nil, List.set_cons_zero, List.set_cons_succ, List.cons_append, List.nil_append, -getElem?_pos, -getElem?_neg, boxL, c1, c2]
        refine close1K (b := 2) (stale := stale) ok (by simp) (by simp) ?_ rfl rfl rfl ?_
        · simp [boxB]
        · have : s.st[t.toNat]? = none := by simp; omega
          simp [stateL, c1, this]
      · have c3 : t < s.st.length := by omega
        have c4 : 0 ≤ t := by omega
        obtain ⟨y, hy⟩ : ∃ y, s.st[t.toNat]? = some y := ⟨_, List.getElem?_eq_getElem (by omega)⟩
        have hy' : (ints s.st)[t.toNat]? = some (.int .i64 y) := by rw [ints_get, hy]; rfl
        simp (maxSteps := 2000000) (implicitDefEqProofs := false) [DN, NB, begT, atHead, kd, wantedA, evP, evR, evF, evL, evC, evBin, evUn, evEq, evSt, evRes, plain, scp, scpA, scpL, rdRow, rdCells, veq, veqA, veqL, isHole, Value.cells, evalL, optI, evBounds, evFill, evFillR, evApp, newsOf, wrCells, one1, fitsApp, evClr, undef, onB_bool, List.getElem?_concat_length, List.getElem?_cons_zero, List.getElem?_cons_succ, List.getElem?_toArray, List.getElem?_nil, List.set_cons_zero, List.set_cons_succ, List.cons_append, List.nil_append, -getElem?_pos, -getElem?_neg, boxL, c1, c2, c3, c4, hy', ints_length]
        refine close1K (b := 2) (stale := stale) ok (by simp) (by simp) ?_ rfl rfl rfl ?_
        · simp [boxB]
        · simp [stateL, c1, hy]

theorem owner_ (s : LS) : AC Try.prog 79 [.pointer (some ⟨0, 0, none⟩)] [lkB s] (fun v h' => v = .tuple #[.int .i64 (max s.own 0), .bool (s.own != -1)] ∧ h' = [lkB s]) := by
  refine AC.method2 (by kernel_rfl) fun g hg hown hlive => ?_
  obtain ⟨ok, ⟨hq, rfl⟩ | ⟨stale, rfl⟩⟩ := hg
  · refine entry hmix cf79 ?_
    simp (maxSteps := 2000000) (implicitDefEqProofs := false) [DN, NB, begT, atHead, kd, wantedA, evP, evR, evF, evL, evC, evBin, evUn, evEq, evSt, evRes, plain, scp, scpA, scpL, rdRow, rdCells, veq, veqA, veqL, isHole, Value.cells, evalL, optI, evBounds, evFill, evFillR, evApp, newsOf, wrCells, one1, fitsApp, evClr, undef, onB_bool, List.getElem?_concat_length, List.getElem?_cons_zero, List.getElem?_cons_succ, List.getElem?_toArray, List.getElem?_nil, List.set_cons_zero, List.set_cons_succ, List.cons_append, List.nil_append, -getElem?_pos, -getElem?_neg, boxL]
    refine close0K ok hq ?_ rfl rfl ?_
    · simp [boxL]
    · simp
  · refine entry hmix cf79 ?_
    simp (maxSteps := 2000000) (implicitDefEqProofs := false) [DN, NB, begT, atHead, kd, wantedA, evP, evR, evF, evL, evC, evBin, evUn, evEq, evSt, evRes, plain, scp, scpA, scpL, rdRow, rdCells, veq, veqA, veqL, isHole, Value.cells, evalL, optI, evBounds, evFill, evFillR, evApp, newsOf, wrCells, one1, fitsApp, evClr, undef, onB_bool, List.getElem?_concat_length, List.getElem?_cons_zero, List.getElem?_cons_succ, List.getElem?_toArray, List.getElem?_nil, List.set_cons_zero, List.set_cons_succ, List.cons_append, List.nil_append, -getElem?_pos, -getElem?_neg, boxL]
    refine close1K (b := 2) (stale := stale) ok (by simp) (by simp) ?_ rfl rfl rfl ?_
    · simp [boxB]
    · simp

/-- The queue, handed out. -/
inductive QOut (q : List Int) : Value → AH → Prop
  | nil : q = [] → QOut q (.slice none 0 0) []
  | emp : q = [] → QOut q (.slice (some ⟨1, 0, none⟩) 0 0) [.cells [] 3 none]
  | some_ : q ≠ [] → QOut q (.slice (some ⟨1, 0, none⟩) q.length (OPEN + q.length)) [.cells (ints q) 3 (some 1)]

theorem ints_one1 (l : List Int) : (ints l).all one1 = true := by simp [ints, one1]

theorem queue_ (s : LS) (hql : s.q.length ≤ 900) : AC Try.prog 77 [.pointer (some ⟨0, 0, none⟩)] [lkB s] (fun v h' => ∃ k1 E, h' = k1 :: E ∧ noNames k1 ∧ (∀ k ∈ E, noNames k) ∧ (k1 = lkB s ∧ QOut s.q v E)) := by
  refine AC.method2 (by kernel_rfl) fun g hg hown hlive => ?_
  have hg0 := hg
  obtain ⟨ok, ⟨hq, rfl⟩ | ⟨stale, rfl⟩⟩ := hg
  · refine entry hmix cf77 ?_
    simp (maxSteps := 2000000) (implicitDefEqProofs := false) [DN, NB, begT, atHead, kd, wantedA, evP, evR, evF, evL, evC, evBin, evUn, evEq, evSt, evRes, plain, scp, scpA, scpL, rdRow, rdCells, veq, veqA, veqL, isHole, Value.cells, evalL, optI, evBounds, evFill, evFillR, evApp, newsOf, wrCells, one1, fitsApp, evClr, undef, onB_bool, List.getElem?_concat_length, List.getElem?_cons_zero, List.getElem?_cons_succ, List.getElem?_toArray, List.getElem?_nil, List.set_cons_zero, List.set_cons_succ, List.cons_append, List.nil_append, -getElem?_pos, -getElem?_neg, boxL]
    refine entry hmix cf83 ?_
    simp (maxSteps := 2000000) (implicitDefEqProofs := false) [DN, NB, begT, atHead, kd, wantedA, evP, evR, evF, evL, evC, evBin, evUn, evEq, evSt, evRes, plain, scp, scpA, scpL, rdRow, rdCells, veq, veqA, veqL, isHole, Value.cells, evalL, optI, evBounds, evFill, evFillR, evApp, newsOf, wrCells, one1, fitsApp, evClr, undef, onB_bool, List.getElem?_concat_length, List.getElem?_cons_zero, List.getElem?_cons_succ, List.getElem?_toArray, List.getElem?_nil, List.set_cons_zero, List.set_cons_succ, List.cons_append, List.nil_append, -getElem?_pos, -getElem?_neg]
    refine close0K ok hq ?_ rfl rfl ?_
    · simp [boxL]
    · exact ⟨_, _, rfl, trivial, by simp, rfl, .nil hq⟩
  · by_cases hq : s.q = []
    · refine entry hmix cf77 ?_
      have hl : s.q.length = 0 := by rw [hq]; rfl
      simp (maxSteps := 2000000) (implicitDefEqProofs := false) [DN, NB, begT, atHead, kd, wantedA, evP, evR, evF, evL, evC, evBin, evUn, evEq, evSt, evRes, plain, scp, scpA, scpL, rdRow, rdCells, veq, veqA, veqL, isHole, Value.cells, evalL, optI, evBounds, evFill, evFillR, evApp, newsOf, wrCells, one1, fitsApp, evClr, undef, onB_bool, List.getElem?_concat_length, List.getElem?_cons_zero, List.getElem?_cons_succ, List.getElem?_toArray, List.getElem?_nil, List.set_cons_zero, List.set_cons_succ, List.cons_append, List.nil_append, -getElem?_pos, -getElem?_neg, boxL, hl]
      refine entry hmix cf83 ?_
      simp (maxSteps := 2000000) (implicitDefEqProofs := false) [DN, NB, begT, atHead, kd, wantedA, evP, evR, evF, evL, evC, evBin, evUn, evEq, evSt, evRes, plain, scp, scpA, scpL, rdRow, rdCells, veq, veqA, veqL, isHole, Value.cells, evalL, optI, evBounds, evFill, evFillR, evApp, newsOf, wrCells, one1, fitsApp, evClr, undef, onB_bool, List.getElem?_concat_length, List.getElem?_cons_zero, List.getElem?_cons_succ, List.getElem?_toArray, List.getElem?_nil, List.set_cons_zero, List.set_cons_succ, List.cons_append, List.nil_append, -getElem?_pos, -getElem?_neg, capLow]
      refine Sees.m1 (is := [0, 1, 2]) (e := 3) _ hg0 (ownL hg0) (okL hg0) (boxL_hc _ _ _) rfl (by simp) rfl ⟨?_, ?_, ?_, trivial⟩ (.cells [] 3 none) (by simp) rfl (by intro v hv; cases hv) (by simp) (.slice (some ⟨1, 0, none⟩) 0 0) (by simp [ren, renA]) (by simp [scp, live]) ?_
      · simp [boxL, renB, ren, renA, nth, hl]
      · simp [renB, ints_ren, nth]
      · simp [renB, ints_ren, nth]
      · exact ⟨_, _, rfl, trivial, by simp [noNames], rfl, .emp hq⟩
    · refine entry hmix cf77 ?_
      have hl : ¬ s.q.length = 0 := by simpa using hq
      have hl2 : ¬ s.q.length ≤ 0 := by omega
      have hl1 : 0 < s.q.length := by omega
      have h1 : s.q.length ≤ 4294967296 := by omega
      have h2 : s.q.length * 8 ≤ 140737488355328 := by omega
      have htk : (ints (s.q ++ stale)).take s.q.length = ints s.q := by simp [ints]
      have hfit : s.q.length ≤ (ints (s.q ++ stale)).length := by rw [ints_length]; simp
      simp (maxSteps := 2000000) (implicitDefEqProofs := false) [DN, NB, begT, atHead, kd, wantedA, evP, evR, evF, evL, evC, evBin, evUn, evEq, evSt, evRes, plain, scp, scpA, scpL, rdRow, rdCells, veq, veqA, veqL, isHole, Value.cells, evalL, optI, evBounds, evFill, evFillR, evApp, newsOf, wrCells, one1, fitsApp, evClr, undef, onB_bool, List.getElem?_concat_length, List.getElem?_cons_zero, List.getElem?_cons_succ, List.getElem?_toArray, List.getElem?_nil, List.set_cons_zero, List.set_cons_succ, List.cons_append, List.nil_append, -getElem?_pos, -getElem?_neg, boxL]
      refine entry hmix cf83 ?_
      have hop : 0 < OPEN := by unfold OPEN; omega
      have hone0 := List.all_eq_true.1 (ints_one1 s.q)
      simp only [one1] at hone0
      have hone := eq_true hone0
      simp (maxSteps := 2000000) (implicitDefEqProofs := false) [DN, NB, begT, atHead, kd, wantedA, evP, evR, evF, evL, evC, evBin, evUn, evEq, evSt, evRes, plain, scp, scpA, scpL, rdRow, rdCells, veq, veqA, veqL, isHole, Value.cells, evalL, optI, evBounds, evFill, evFillR, evApp, newsOf, wrCells, one1, fitsApp, evClr, undef, onB_bool, List.getElem?_concat_length, List.getElem?_cons_zero, List.getElem?_cons_succ, List.getElem?_toArray, List.getElem?_nil, List.set_cons_zero, List.set_cons_succ, List.cons_append, List.nil_append, -getElem?_pos, -getElem?_neg, capLow, hl, hl1, hl2, h1, h2, htk, hfit, hone, ints_length, hop]
      refine Sees.m1 (is := [0, 1, 2]) (e := 4) _ hg0 (ownL hg0) (okL hg0) (boxL_hc _ _ _) rfl (by simp) rfl ⟨?_, ?_, ?_, trivial⟩ (.cells (ints s.q) 3 (some 1)) (by simp) rfl (ints_noNames _ _ _) (by simp) (.slice (some ⟨1, 0, none⟩) s.q.length (OPEN + s.q.length)) (by simp [ren, renA]) (by simp [scp, live]) ?_
      · simp [boxL, renB, ren, renA, nth]
      · simp [renB, ints_ren, nth]
      · simp [renB, ints_ren, nth]
      · exact ⟨_, _, rfl, trivial, by intro k hk; simp at hk; subst hk; exact ints_noNames _ _ _, rfl, .some_ hq⟩

/-! Methods of a lock in whatever heap. -/

theorem takeG {s : LS} (hql : s.q.length ≤ 900) (x : En) {H : AH} {b : Nat} (hb : H[b]? = some (lkB s)) {K : Value → AH → Prop} (hK : K (.bool (fitsL s x)) (H.set b (lkB (takeL s x)))) : AC Try.prog 76 [.pointer (some ⟨b, 0, none⟩), x.v] H K := by
  refine AC.at1Q (args0 := [.pointer (some ⟨0, 0, none⟩), x.v]) (fun v k1 E => v = .bool (fitsL s x) ∧ k1 = lkB (takeL s x) ∧ E = []) ((take_ s hql x).mono ?_) trivial hb (by simp [En.v, scpL, scp, scpA, live]) (by simp [En.v, ren, renA, renAr, renL]) ?_
  · rintro v h' ⟨s', rfl, rfl, rfl⟩
    exact ⟨_, [], rfl, trivial, by simp, rfl, rfl, rfl⟩
  · rintro v k1 E ⟨rfl, rfl, rfl⟩
    simpa [ren] using hK

theorem stateG {s : LS} (t : Int) {H : AH} {b : Nat} (hb : H[b]? = some (lkB s)) {K : Value → AH → Prop} (hK : K (.int .i64 (stateL s t)) H) : AC Try.prog 81 [.pointer (some ⟨b, 0, none⟩), .int .i64 t] H K := by
  refine AC.at1Q (args0 := [.pointer (some ⟨0, 0, none⟩), .int .i64 t]) (fun v k1 E => v = .int .i64 (stateL s t) ∧ k1 = lkB s ∧ E = []) ((state_ s t).mono ?_) trivial hb (by simp [scpL, scp, live]) (by simp [ren, renA]) ?_
  · rintro v h' ⟨rfl, rfl⟩
    exact ⟨_, [], rfl, trivial, by simp, rfl, rfl, rfl⟩
  · rintro v k1 E ⟨rfl, rfl, rfl⟩
    rw [set_same hb, List.append_nil]
    simpa [ren] using hK

theorem ownerG {s : LS} {H : AH} {b : Nat} (hb : H[b]? = some (lkB s)) {K : Value → AH → Prop} (hK : K (.tuple #[.int .i64 (max s.own 0), .bool (s.own != -1)]) H) : AC Try.prog 79 [.pointer (some ⟨b, 0, none⟩)] H K := by
  refine AC.at1Q (args0 := [.pointer (some ⟨0, 0, none⟩)]) (fun v k1 E => v = .tuple #[.int .i64 (max s.own 0), .bool (s.own != -1)] ∧ k1 = lkB s ∧ E = []) ((owner_ s).mono ?_) trivial hb (by simp [scpL, scp, live]) (by simp [ren, renA]) ?_
  · rintro v h' ⟨rfl, rfl⟩
    exact ⟨_, [], rfl, trivial, by simp, rfl, rfl, rfl⟩
  · rintro v k1 E ⟨rfl, rfl, rfl⟩
    rw [set_same hb, List.append_nil]
    simpa [ren, renAr, renL] using hK

/-- The queue, handed out, as the block n. -/
inductive QOutN (q : List Int) (n : Nat) : Value → AH → Prop
  | nil : q = [] → QOutN q n (.slice none 0 0) []
  | emp : q = [] → QOutN q n (.slice (some ⟨n, 0, none⟩) 0 0) [.cells [] 3 none]
  | some_ : q ≠ [] → QOutN q n (.slice (some ⟨n, 0, none⟩) q.length (OPEN + q.length)) [.cells (ints q) 3 (some 1)]

theorem queueG {s : LS} (hql : s.q.length ≤ 900) {H : AH} {b : Nat} (hb : H[b]? = some (lkB s)) {K : Value → AH → Prop} (hK : ∀ v E, QOutN s.q H.length v E → K v (H ++ E)) : AC Try.prog 77 [.pointer (some ⟨b, 0, none⟩)] H K := by
  refine AC.at1Q (args0 := [.pointer (some ⟨0, 0, none⟩)]) (fun v k1 E => k1 = lkB s ∧ QOut s.q v E) (queue_ s hql) trivial hb (by simp [scpL, scp, live]) (by simp [ren, renA]) ?_
  rintro v k1 E ⟨rfl, hq⟩
  rw [set_same hb]
  cases hq with
  | nil h => exact hK _ _ (by simpa [ren] using QOutN.nil h)
  | emp h => exact hK _ _ (by simpa [ren, renA, opnR] using QOutN.emp h)
  | some_ h => exact hK _ _ (by simpa [ren, renA, opnR] using QOutN.some_ h)

theorem new0_ (n : Int) (h1 : 1 ≤ n) (h2 : n ≤ 64) : AC Try.prog 74 [.int .i64 n] [] (fun v h' => v = .tuple #[.pointer (some ⟨0, 0, none⟩), .int .i64 0] ∧ h' = [lkB (newL n)]) := by
  refine AC.sees ?_
  refine entry hmix cf74 ?_
  have a1 : ¬ n < 1 := by omega
  have a2 : ¬ 64 < n := by omega
  have a3 : 0 ≤ n := by omega
  have a4 : 8 * n ≤ 281474976710656 := by omega
  have a5 : n ≤ 281474976710656 := by omega
  simp (maxSteps := 2000000) (implicitDefEqProofs := false) [DN, NB, begT, atHead, kd, wantedA, evP, evR, evF, evL, evC, evBin, evUn, evEq, evSt, evRes, plain, scp, scpA, scpL, rdRow, rdCells, veq, veqA, veqL, isHole, Value.cells, evalL, optI, evBounds, evFill, evFillR, evApp, newsOf, wrCells, one1, fitsApp, evClr, undef, onB_bool, List.getElem?_concat_length, List.getElem?_cons_zero, List.getElem?_cons_succ, List.getElem?_toArray, List.getElem?_nil, List.set_cons_zero, List.set_cons_succ, List.cons_append, List.nil_append, -getElem?_pos, -getElem?_neg, a1, a2, a3, a4, a5, reps_ints]
  have hh : heapL (newL n) [boxL (newL n) (.slice none 0 0), .cells (ints (newL n).st) 3 none] := ⟨newL_ok h1 h2, .inl ⟨rfl, rfl⟩⟩
  refine Sees.new (i := 1) (is := [0]) _ hh (ownL hh) (okL hh) (boxL_hc _ _ _) (by simp) rfl ⟨?_, ?_, trivial⟩ (.tuple #[.pointer (some ⟨0, 0, none⟩), .int .i64 0]) (by simp [ren, renA, renAr, renL]) (by simp [scp, scpA, scpL, live]) ⟨rfl, rfl⟩
  · simp [boxL, renB, ren, renA, newL, nth]
  · simp [renB, ints_ren, newL, nth]

theorem newG {n : Int} (h1 : 1 ≤ n) (h2 : n ≤ 64) {H : AH} {K : Value → AH → Prop} (hK : K (.tuple #[.pointer (some ⟨H.length, 0, none⟩), .int .i64 0]) (H ++ [lkB (newL n)])) : AC Try.prog 74 [.int .i64 n] H K := by
  refine AC.at0 (args0 := [.int .i64 n]) (new0_ n h1 h2) (by intro k hk; simp at hk; subst hk; trivial) rfl rfl ?_
  simpa [ren, renA, renAr, renL] using hK

end Fx
end Go.Proofs.Ytekhadlpcdjlpaa
