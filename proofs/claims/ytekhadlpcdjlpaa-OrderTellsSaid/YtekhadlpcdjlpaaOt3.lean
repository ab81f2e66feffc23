/- order: the document's answer, walked: Overtaken. -/
import Derived.Test.YtekhadlpcdjlpaaOt2
namespace Go.Proofs.Ytekhadlpcdjlpaa
namespace Ox
open Go Abs Code
set_option linter.unusedVariables false
set_option linter.unusedSimpArgs false
set_option maxRecDepth 100000

theorem turnAt_grant {l : List En} {i : Nat} {y : En} (hy : l[i]? = some y) (hk : y.k = 2) : (grantZ l i = -1 ∧ turnAt l i = none) ∨ ∃ g : Nat, grantZ l i = g ∧ turnAt l i = some ⟨y.t, i, g⟩ := by
  unfold grantZ turnAt seekZ
  rw [hy]
  simp only [hk, if_true]
  cases seek y.t (l.drop (i + 1)) (i + 1) with
  | none => exact .inl ⟨rfl, rfl⟩
  | some g => exact .inr ⟨g, rfl, rfl⟩

theorem turnAt_not {l : List En} {i : Nat} {y : En} (hy : l[i]? = some y) (hk : y.k ≠ 2) : turnAt l i = none := by
  unfold turnAt
  rw [hy]
  simp [hk]

/-- The turns from a place on. -/
def fromT (l : List En) (i : Nat) : List Tn := (List.range' i (l.length - i)).filterMap (turnAt l)
theorem fromT_s {l : List En} {i : Nat} (h : i < l.length) : fromT l i = (turnAt l i).toList ++ fromT l (i + 1) := by
  unfold fromT
  obtain ⟨m, hm⟩ : ∃ m, l.length - i = m + 1 := ⟨l.length - i - 1, by omega⟩
  rw [hm, List.range'_succ, show l.length - (i + 1) = m by omega, List.filterMap_cons]
  cases turnAt l i <;> rfl
theorem fromT_end (l : List En) : fromT l l.length = [] := by unfold fromT; simp
theorem fromT_0 (l : List En) : fromT l 0 = turnsL l := by unfold fromT turnsL; rw [List.range_eq_range']; rfl

def roT (sv : Value) (l : List En) (s : Nat × Nat) : List (Nat × Value) := [(0, sv), (3, .int .i64 s.2), (6, sv), (7, .int .i64 l.length), (8, .int .i64 s.1)]

set_option maxHeartbeats 16000000 in
theorem rover_ (l : List En) (A : Option Addr) (cap : Nat) (hl : l.length ≤ 1000) (hA : RowOne l.length A) : AC Try.prog 37 [.slice A l.length cap] [.row (rowOf l)] (fun v h' => v = .int .i64 (overL (turnsL l) : Nat) ∧ h' = [.row (rowOf l)]) := by
  have hat := rowAt_one (tl := []) hA
  have hle : overL (turnsL l) ≤ 1000000 := by
    have h1 := overL_le (turnsL l)
    have h2 := turns_length l
    have := Nat.mul_le_mul (show (turnsL l).length ≤ 1000 by omega) (show (turnsL l).length ≤ 1000 by omega)
    omega
  refine entry hmix cf37 ?_
  simp (maxSteps := 2000000) (implicitDefEqProofs := false) [DN, NB, begT, atHead, kd, wantedA, evP, evR, evF, evL, evC, evI, evBin, evUn, evEq, evSt, evRes, plain, scp, scpA, scpL, rdRow, rdCells, veq, veqA, veqL, isHole, Value.cells, evalL, optI, evBounds, evFill, evFillR, evApp, newsOf, wrCells, one1, fitsApp, evClr, undef, onB_bool, List.getElem?_concat_length, List.getElem?_cons_zero, List.getElem?_cons_succ, List.getElem?_toArray, List.getElem?_nil, List.set_cons_zero, List.set_cons_succ, List.cons_append, List.nil_append, -getElem?_pos, -getElem?_neg]
  obtain ⟨tv, htv⟩ : ∃ tv, tv = roT (.slice A l.length cap) l := ⟨_, rfl⟩
  obtain ⟨hv, hhv⟩ : ∃ hv : Nat × Nat → AH, hv = fun _ => [.row (rowOf l)] := ⟨_, rfl⟩
  have hhd : ∀ s t', t'.length = 69 → (∀ y ∈ roT (.slice A l.length cap) l s, getT t' y.1 = some y.2) → atHeadV 1 69 (tv s) (hv s) t' [.row (rowOf l)] := by
    intro s t' e1 e2
    rw [htv, hhv]
    refine rowHead rfl e1 fun y hy => ⟨e2 y hy, ?_⟩
    simp only [roT, List.mem_cons, List.not_mem_nil, or_false] at hy
    rcases hy with rfl | rfl | rfl | rfl | rfl
    case inl => exact rowOne_scp hA []
    case inr.inr.inl => exact rowOne_scp hA []
    all_goals rfl
  refine loop3 hmix 69 (fun s => s.1 ≤ l.length ∧ s.2 + overL (fromT l s.1) = overL (turnsL l)) (fun s => l.length - s.1) tv hv (0, 0) ⟨Nat.zero_le _, by simp [fromT_0]⟩ (hhd (0, 0) _ rfl ?_) ?_
  · simp only [roT, List.mem_cons, List.not_mem_nil, or_false]
    rintro y (rfl | rfl | rfl | rfl | rfl) <;> simp [GB]
  rintro ⟨i, n⟩ ⟨hi, hn⟩
  simp only at hi hn
  rw [show tv (i, n) = roT (.slice A l.length cap) l (i, n) by rw [htv], show hv (i, n) = [.row (rowOf l)] by rw [hhv]]
  by_cases hlt : i < l.length
  case neg =>
    obtain rfl : i = l.length := by omega
    rw [fromT_end] at hn
    have hn' : n = overL (turnsL l) := by simpa [overL] using hn
    subst hn'
    simp (maxSteps := 2000000) (implicitDefEqProofs := false) [DN, NB, begT, atHead, kd, wantedA, evP, evR, evF, evL, evC, evI, evBin, evUn, evEq, evSt, evRes, plain, scp, scpA, scpL, rdRow, rdCells, veq, veqA, veqL, isHole, Value.cells, evalL, optI, evBounds, evFill, evFillR, evApp, newsOf, wrCells, one1, fitsApp, evClr, undef, onB_bool, List.getElem?_concat_length, List.getElem?_cons_zero, List.getElem?_cons_succ, List.getElem?_toArray, List.getElem?_nil, List.set_cons_zero, List.set_cons_succ, List.cons_append, List.nil_append, -getElem?_pos, -getElem?_neg, roT]
  have hA' : A = some ⟨0, 0, none⟩ := by
    rcases hA with ⟨h, _⟩ | h
    · omega
    · exact h
  subst hA'
  have hlt' : (i : Int) < l.length := by omega
  have hi0 : (0 : Int) ≤ i := by omega
  obtain ⟨x, hx⟩ : ∃ x, l[i]? = some x := ⟨_, List.getElem?_eq_getElem hlt⟩
  have hrx := rowOf_at hx
  have hxt : (rowOf l)[i * 3 + 1]? = some (.int .i64 x.t) := by
    have := congrArg (fun v => v[1]?) hrx
    simpa [List.getElem?_take, List.getElem?_drop] using this
  have hxk : (rowOf l)[i * 3]? = some (.int .i64 x.k) := by
    have := congrArg (fun v => v[0]?) hrx
    simpa [List.getElem?_take, List.getElem?_drop] using this
  have hfi : i * 3 + 1 + 1 ≤ (rowOf l).length := by rw [rowOf_length]; omega
  have hfk : i * 3 + 1 ≤ (rowOf l).length := by rw [rowOf_length]; omega
  have hwr : IntKind.i64.wrap ((i : Int) + 1) = (i : Int) + 1 := IntWalk.i64_in _ (by omega)
  have hfs := fromT_s hlt
  have fin : ∀ n' t', n' + overL (fromT l (i + 1)) = overL (turnsL l) → t'.length = 69 → (∀ y ∈ roT (.slice (some ⟨0, 0, none⟩) l.length cap) l (i + 1, n'), getT t' y.1 = some y.2) → nextS 1 69 (fun s => s.1 ≤ l.length ∧ s.2 + overL (fromT l s.1) = overL (turnsL l)) (fun s => l.length - s.1) tv hv (i, n) t' [.row (rowOf l)] := by
    intro n' t' e0 e1 e2
    exact nextS.intro (i + 1, n') (by simp only; omega) ⟨by simp only; omega, e0⟩ (hhd (i + 1, n') _ e1 e2)
  by_cases ck : x.k = 2
  case neg =>
    have bk : (x.k == 2) = false := by simp [ck]
    rw [turnAt_not hx ck] at hfs
    rw [hfs] at hn
    simp (maxSteps := 2000000) (implicitDefEqProofs := false) [DN, NB, begT, atHead, kd, wantedA, evP, evR, evF, evL, evC, evI, evBin, evUn, evEq, evSt, evRes, plain, scp, scpA, scpL, rdRow, rdCells, veq, veqA, veqL, isHole, Value.cells, evalL, optI, evBounds, evFill, evFillR, evApp, newsOf, wrCells, one1, fitsApp, evClr, undef, onB_bool, List.getElem?_concat_length, List.getElem?_cons_zero, List.getElem?_cons_succ, List.getElem?_toArray, List.getElem?_nil, List.set_cons_zero, List.set_cons_succ, List.cons_append, List.nil_append, -getElem?_pos, -getElem?_neg, roT, hlt', hi0, hxk, hfk, ck, bk, hwr]
    refine fin n _ hn rfl ?_
    simp only [roT, List.mem_cons, List.not_mem_nil, or_false]
    rintro y (rfl | rfl | rfl | rfl | rfl) <;> simp [GB]
  rw [ck] at hxk
  rcases turnAt_grant hx ck with ⟨hg, hta⟩ | ⟨g, hg, hta⟩
  · rw [hta] at hfs
    rw [hfs] at hn
    simp (maxSteps := 2000000) (implicitDefEqProofs := false) [DN, NB, begT, atHead, kd, wantedA, evP, evR, evF, evL, evC, evI, evBin, evUn, evEq, evSt, evRes, plain, scp, scpA, scpL, rdRow, rdCells, veq, veqA, veqL, isHole, Value.cells, evalL, optI, evBounds, evFill, evFillR, evApp, newsOf, wrCells, one1, fitsApp, evClr, undef, onB_bool, List.getElem?_concat_length, List.getElem?_cons_zero, List.getElem?_cons_succ, List.getElem?_toArray, List.getElem?_nil, List.set_cons_zero, List.set_cons_succ, List.cons_append, List.nil_append, -getElem?_pos, -getElem?_neg, roT, hlt', hi0, hxk, hfk, hwr]
    refine grantG hl hlt hat ?_
    rw [hg]
    simp (maxSteps := 2000000) (implicitDefEqProofs := false) [DN, NB, begT, atHead, kd, wantedA, evP, evR, evF, evL, evC, evI, evBin, evUn, evEq, evSt, evRes, plain, scp, scpA, scpL, rdRow, rdCells, veq, veqA, veqL, isHole, Value.cells, evalL, optI, evBounds, evFill, evFillR, evApp, newsOf, wrCells, one1, fitsApp, evClr, undef, onB_bool, List.getElem?_concat_length, List.getElem?_cons_zero, List.getElem?_cons_succ, List.getElem?_toArray, List.getElem?_nil, List.set_cons_zero, List.set_cons_succ, List.cons_append, List.nil_append, -getElem?_pos, -getElem?_neg, hwr]
    refine fin n _ hn rfl ?_
    simp only [roT, List.mem_cons, List.not_mem_nil, or_false]
    rintro y (rfl | rfl | rfl | rfl | rfl) <;> simp [GB]
  rw [hta] at hfs
  have hfs : fromT l i = ⟨x.t, i, g⟩ :: fromT l (i + 1) := hfs
  rw [hfs] at hn
  simp only [overL] at hn
  have hg0 : ¬ (g : Int) < 0 := by omega
  simp (maxSteps := 2000000) (implicitDefEqProofs := false) [DN, NB, begT, atHead, kd, wantedA, evP, evR, evF, evL, evC, evI, evBin, evUn, evEq, evSt, evRes, plain, scp, scpA, scpL, rdRow, rdCells, veq, veqA, veqL, isHole, Value.cells, evalL, optI, evBounds, evFill, evFillR, evApp, newsOf, wrCells, one1, fitsApp, evClr, undef, onB_bool, List.getElem?_concat_length, List.getElem?_cons_zero, List.getElem?_cons_succ, List.getElem?_toArray, List.getElem?_nil, List.set_cons_zero, List.set_cons_succ, List.cons_append, List.nil_append, -getElem?_pos, -getElem?_neg, roT, hlt', hi0, hxk, hfk, hwr]
  refine grantG hl hlt hat ?_
  rw [hg]
  simp (maxSteps := 2000000) (implicitDefEqProofs := false) [DN, NB, begT, atHead, kd, wantedA, evP, evR, evF, evL, evC, evI, evBin, evUn, evEq, evSt, evRes, plain, scp, scpA, scpL, rdRow, rdCells, veq, veqA, veqL, isHole, Value.cells, evalL, optI, evBounds, evFill, evFillR, evApp, newsOf, wrCells, one1, fitsApp, evClr, undef, onB_bool, List.getElem?_concat_length, List.getElem?_cons_zero, List.getElem?_cons_succ, List.getElem?_toArray, List.getElem?_nil, List.set_cons_zero, List.set_cons_succ, List.cons_append, List.nil_append, -getElem?_pos, -getElem?_neg, hg0, hwr]
  obtain ⟨tw, htw⟩ : ∃ tw : Nat × Nat → List (Nat × Value), tw = fun s => (4, .int .i64 i) :: (5, .int .i64 s.1) :: roT (.slice (some ⟨0, 0, none⟩) l.length cap) l (i, s.2) := ⟨_, rfl⟩
  obtain ⟨hw, hhw⟩ : ∃ hw : Nat × Nat → AH, hw = fun _ => [.row (rowOf l)] := ⟨_, rfl⟩
  have hhd2 : ∀ s t', t'.length = 69 → (∀ y ∈ tw s, getT t' y.1 = some y.2) → atHeadV 1 69 (tw s) (hw s) t' [.row (rowOf l)] := by
    intro s t' e1 e2
    rw [hhw]
    refine rowHead rfl e1 fun y hy => ⟨e2 y hy, ?_⟩
    rw [htw] at hy
    simp only [roT, List.mem_cons, List.not_mem_nil, or_false] at hy
    rcases hy with rfl | rfl | rfl | rfl | rfl | rfl | rfl <;> rfl
  refine loop3 hmix 69 (fun s => i < s.1 ∧ s.1 ≤ l.length ∧ s.2 + (fromT l s.1).countP (pass ⟨x.t, i, g⟩) = n + (fromT l (i + 1)).countP (pass ⟨x.t, i, g⟩)) (fun s => l.length - s.1) tw hw (i + 1, n) ⟨by simp only; omega, by simp only; omega, rfl⟩ (hhd2 (i + 1, n) _ rfl ?_) ?_
  · rw [htw]
    simp only [roT, List.mem_cons, List.not_mem_nil, or_false]
    rintro y (rfl | rfl | rfl | rfl | rfl | rfl | rfl) <;> simp [GB]
  rintro ⟨j, c⟩ ⟨hij, hj, hc⟩
  simp only at hij hj hc
  rw [show tw (j, c) = (4, .int .i64 i) :: (5, .int .i64 j) :: roT (.slice (some ⟨0, 0, none⟩) l.length cap) l (i, c) by rw [htw], show hw (j, c) = [.row (rowOf l)] by rw [hhw]]
  by_cases hjl : j < l.length
  case neg =>
    obtain rfl : j = l.length := by omega
    rw [fromT_end] at hc
    have hc : c = n + (fromT l (i + 1)).countP (pass ⟨x.t, i, g⟩) := by simpa using hc
    simp (maxSteps := 2000000) (implicitDefEqProofs := false) [DN, NB, begT, atHead, kd, wantedA, evP, evR, evF, evL, evC, evI, evBin, evUn, evEq, evSt, evRes, plain, scp, scpA, scpL, rdRow, rdCells, veq, veqA, veqL, isHole, Value.cells, evalL, optI, evBounds, evFill, evFillR, evApp, newsOf, wrCells, one1, fitsApp, evClr, undef, onB_bool, List.getElem?_concat_length, List.getElem?_cons_zero, List.getElem?_cons_succ, List.getElem?_toArray, List.getElem?_nil, List.set_cons_zero, List.set_cons_succ, List.cons_append, List.nil_append, -getElem?_pos, -getElem?_neg, roT, hwr]
    refine fin c _ (by omega) rfl ?_
    simp only [roT, List.mem_cons, List.not_mem_nil, or_false]
    rintro y (rfl | rfl | rfl | rfl | rfl) <;> simp [GB]
  have hjl' : (j : Int) < l.length := by omega
  have hj0 : (0 : Int) ≤ j := by omega
  obtain ⟨y, hy⟩ : ∃ y, l[j]? = some y := ⟨_, List.getElem?_eq_getElem hjl⟩
  have hry := rowOf_at hy
  have hyt : (rowOf l)[j * 3 + 1]? = some (.int .i64 y.t) := by
    have := congrArg (fun v => v[1]?) hry
    simpa [List.getElem?_take, List.getElem?_drop] using this
  have hyk : (rowOf l)[j * 3]? = some (.int .i64 y.k) := by
    have := congrArg (fun v => v[0]?) hry
    simpa [List.getElem?_take, List.getElem?_drop] using this
  have hfj : j * 3 + 1 + 1 ≤ (rowOf l).length := by rw [rowOf_length]; omega
  have hfkj : j * 3 + 1 ≤ (rowOf l).length := by rw [rowOf_length]; omega
  have hwj : IntKind.i64.wrap ((j : Int) + 1) = (j : Int) + 1 := IntWalk.i64_in _ (by omega)
  have hfj2 := fromT_s hjl
  have fin2 : ∀ c' t', c' + (fromT l (j + 1)).countP (pass ⟨x.t, i, g⟩) = n + (fromT l (i + 1)).countP (pass ⟨x.t, i, g⟩) → t'.length = 69 → (∀ y ∈ ((4, .int .i64 i) :: (5, .int .i64 ((j + 1 : Nat) : Int)) :: roT (.slice (some ⟨0, 0, none⟩) l.length cap) l (i, c') : List (Nat × Value)), getT t' y.1 = some y.2) → nextS 1 69 (fun s => i < s.1 ∧ s.1 ≤ l.length ∧ s.2 + (fromT l s.1).countP (pass ⟨x.t, i, g⟩) = n + (fromT l (i + 1)).countP (pass ⟨x.t, i, g⟩)) (fun s => l.length - s.1) tw hw (j, c) t' [.row (rowOf l)] := by
    intro c' t' e0 e1 e2
    exact nextS.intro (j + 1, c') (by simp only; omega) ⟨by simp only; omega, by simp only; omega, e0⟩ (hhd2 (j + 1, c') _ e1 (by rw [htw]; exact e2))
  by_cases dk : y.k = 2
  case neg =>
    have bk : (y.k == 2) = false := by simp [dk]
    rw [turnAt_not hy dk] at hfj2
    rw [hfj2] at hc
    simp (maxSteps := 2000000) (implicitDefEqProofs := false) [DN, NB, begT, atHead, kd, wantedA, evP, evR, evF, evL, evC, evI, evBin, evUn, evEq, evSt, evRes, plain, scp, scpA, scpL, rdRow, rdCells, veq, veqA, veqL, isHole, Value.cells, evalL, optI, evBounds, evFill, evFillR, evApp, newsOf, wrCells, one1, fitsApp, evClr, undef, onB_bool, List.getElem?_concat_length, List.getElem?_cons_zero, List.getElem?_cons_succ, List.getElem?_toArray, List.getElem?_nil, List.set_cons_zero, List.set_cons_succ, List.cons_append, List.nil_append, -getElem?_pos, -getElem?_neg, roT, hjl', hj0, hyk, hfkj, dk, bk, hwj]
    refine fin2 c _ hc rfl ?_
    simp only [roT, List.mem_cons, List.not_mem_nil, or_false]
    rintro y (rfl | rfl | rfl | rfl | rfl | rfl | rfl) <;> simp [GB]
  rw [dk] at hyk
  by_cases dt : y.t = x.t
  · have bt : (y.t == x.t) = true := by simp [dt]
    have dt2 : (y.t = x.t) = True := eq_true dt
    have hc2 : c + (fromT l (j + 1)).countP (pass ⟨x.t, i, g⟩) = n + (fromT l (i + 1)).countP (pass ⟨x.t, i, g⟩) := by
      rw [hfj2] at hc
      rcases turnAt_grant hy dk with ⟨_, h⟩ | ⟨g', _, h⟩
      · rw [h] at hc; exact hc
      · rw [h] at hc
        simpa [List.countP_cons, pass, dt] using hc
    simp (maxSteps := 2000000) (implicitDefEqProofs := false) [DN, NB, begT, atHead, kd, wantedA, evP, evR, evF, evL, evC, evI, evBin, evUn, evEq, evSt, evRes, plain, scp, scpA, scpL, rdRow, rdCells, veq, veqA, veqL, isHole, Value.cells, evalL, optI, evBounds, evFill, evFillR, evApp, newsOf, wrCells, one1, fitsApp, evClr, undef, onB_bool, List.getElem?_concat_length, List.getElem?_cons_zero, List.getElem?_cons_succ, List.getElem?_toArray, List.getElem?_nil, List.set_cons_zero, List.set_cons_succ, List.cons_append, List.nil_append, -getElem?_pos, -getElem?_neg, roT, hjl', hj0, hlt', hi0, hyk, hyt, hxt, hfi, hfj, hfkj, dt2, bt, hwj]
    refine fin2 c _ hc2 rfl ?_
    simp only [roT, List.mem_cons, List.not_mem_nil, or_false]
    rintro y (rfl | rfl | rfl | rfl | rfl | rfl | rfl) <;> simp [GB]
  have bt : (y.t == x.t) = false := by simp [dt]
  rcases turnAt_grant hy dk with ⟨hgj, htj⟩ | ⟨g', hgj, htj⟩
  · rw [htj] at hfj2
    rw [hfj2] at hc
    simp (maxSteps := 2000000) (implicitDefEqProofs := false) [DN, NB, begT, atHead, kd, wantedA, evP, evR, evF, evL, evC, evI, evBin, evUn, evEq, evSt, evRes, plain, scp, scpA, scpL, rdRow, rdCells, veq, veqA, veqL, isHole, Value.cells, evalL, optI, evBounds, evFill, evFillR, evApp, newsOf, wrCells, one1, fitsApp, evClr, undef, onB_bool, List.getElem?_concat_length, List.getElem?_cons_zero, List.getElem?_cons_succ, List.getElem?_toArray, List.getElem?_nil, List.set_cons_zero, List.set_cons_succ, List.cons_append, List.nil_append, -getElem?_pos, -getElem?_neg, roT, hjl', hj0, hlt', hi0, hyk, hyt, hxt, hfi, hfj, hfkj, dt, bt, hwj]
    refine grantG hl hjl hat ?_
    rw [hgj]
    simp (maxSteps := 2000000) (implicitDefEqProofs := false) [DN, NB, begT, atHead, kd, wantedA, evP, evR, evF, evL, evC, evI, evBin, evUn, evEq, evSt, evRes, plain, scp, scpA, scpL, rdRow, rdCells, veq, veqA, veqL, isHole, Value.cells, evalL, optI, evBounds, evFill, evFillR, evApp, newsOf, wrCells, one1, fitsApp, evClr, undef, onB_bool, List.getElem?_concat_length, List.getElem?_cons_zero, List.getElem?_cons_succ, List.getElem?_toArray, List.getElem?_nil, List.set_cons_zero, List.set_cons_succ, List.cons_append, List.nil_append, -getElem?_pos, -getElem?_neg, hwj, dt, bt]
    refine fin2 c _ hc rfl ?_
    simp only [roT, List.mem_cons, List.not_mem_nil, or_false]
    rintro y (rfl | rfl | rfl | rfl | rfl | rfl | rfl) <;> simp [GB]
  rw [htj] at hfj2
  have hfj2 : fromT l j = ⟨y.t, j, g'⟩ :: fromT l (j + 1) := hfj2
  rw [hfj2, List.countP_cons] at hc
  have hg'0 : (0 : Int) ≤ g' := by omega
  have hcb : c ≤ 1000000 := by omega
  have hwc : IntKind.i64.wrap ((c : Int) + 1) = (c : Int) + 1 := IntWalk.i64_in _ (by omega)
  have dtx : ¬ x.t = y.t := fun h => dt h.symm
  simp (maxSteps := 2000000) (implicitDefEqProofs := false) [DN, NB, begT, atHead, kd, wantedA, evP, evR, evF, evL, evC, evI, evBin, evUn, evEq, evSt, evRes, plain, scp, scpA, scpL, rdRow, rdCells, veq, veqA, veqL, isHole, Value.cells, evalL, optI, evBounds, evFill, evFillR, evApp, newsOf, wrCells, one1, fitsApp, evClr, undef, onB_bool, List.getElem?_concat_length, List.getElem?_cons_zero, List.getElem?_cons_succ, List.getElem?_toArray, List.getElem?_nil, List.set_cons_zero, List.set_cons_succ, List.cons_append, List.nil_append, -getElem?_pos, -getElem?_neg, roT, hjl', hj0, hlt', hi0, hyk, hyt, hxt, hfi, hfj, hfkj, dt, bt, hwj]
  refine grantG hl hjl hat ?_
  rw [hgj]
  simp (maxSteps := 2000000) (implicitDefEqProofs := false) [DN, NB, begT, atHead, kd, wantedA, evP, evR, evF, evL, evC, evI, evBin, evUn, evEq, evSt, evRes, plain, scp, scpA, scpL, rdRow, rdCells, veq, veqA, veqL, isHole, Value.cells, evalL, optI, evBounds, evFill, evFillR, evApp, newsOf, wrCells, one1, fitsApp, evClr, undef, onB_bool, List.getElem?_concat_length, List.getElem?_cons_zero, List.getElem?_cons_succ, List.getElem?_toArray, List.getElem?_nil, List.set_cons_zero, List.set_cons_succ, List.cons_append, List.nil_append, -getElem?_pos, -getElem?_neg, hg'0, dt, bt]
  refine grantG hl hjl hat ?_
  rw [hgj]
  simp (maxSteps := 2000000) (implicitDefEqProofs := false) [DN, NB, begT, atHead, kd, wantedA, evP, evR, evF, evL, evC, evI, evBin, evUn, evEq, evSt, evRes, plain, scp, scpA, scpL, rdRow, rdCells, veq, veqA, veqL, isHole, Value.cells, evalL, optI, evBounds, evFill, evFillR, evApp, newsOf, wrCells, one1, fitsApp, evClr, undef, onB_bool, List.getElem?_concat_length, List.getElem?_cons_zero, List.getElem?_cons_succ, List.getElem?_toArray, List.getElem?_nil, List.set_cons_zero, List.set_cons_succ, List.cons_append, List.nil_append, -getElem?_pos, -getElem?_neg, dt, bt]
  refine grantG hl hlt hat ?_
  rw [hg]
  by_cases cg : g' < g
  · have hp : pass ⟨x.t, i, g⟩ ⟨y.t, j, g'⟩ = true := by simp [pass, dtx, cg]
    rw [hp, if_pos rfl] at hc
    simp (maxSteps := 2000000) (implicitDefEqProofs := false) [DN, NB, begT, atHead, kd, wantedA, evP, evR, evF, evL, evC, evI, evBin, evUn, evEq, evSt, evRes, plain, scp, scpA, scpL, rdRow, rdCells, veq, veqA, veqL, isHole, Value.cells, evalL, optI, evBounds, evFill, evFillR, evApp, newsOf, wrCells, one1, fitsApp, evClr, undef, onB_bool, List.getElem?_concat_length, List.getElem?_cons_zero, List.getElem?_cons_succ, List.getElem?_toArray, List.getElem?_nil, List.set_cons_zero, List.set_cons_succ, List.cons_append, List.nil_append, -getElem?_pos, -getElem?_neg, cg, dt, bt, hwj, hwc]
    refine fin2 (c + 1) _ (by omega) rfl ?_
    simp only [roT, List.mem_cons, List.not_mem_nil, or_false]
    rintro y (rfl | rfl | rfl | rfl | rfl | rfl | rfl) <;> simp [GB]
  · have hp : pass ⟨x.t, i, g⟩ ⟨y.t, j, g'⟩ = false := by simp [pass, cg]
    rw [hp, if_neg (by simp)] at hc
    simp (maxSteps := 2000000) (implicitDefEqProofs := false) [DN, NB, begT, atHead, kd, wantedA, evP, evR, evF, evL, evC, evI, evBin, evUn, evEq, evSt, evRes, plain, scp, scpA, scpL, rdRow, rdCells, veq, veqA, veqL, isHole, Value.cells, evalL, optI, evBounds, evFill, evFillR, evApp, newsOf, wrCells, one1, fitsApp, evClr, undef, onB_bool, List.getElem?_concat_length, List.getElem?_cons_zero, List.getElem?_cons_succ, List.getElem?_toArray, List.getElem?_nil, List.set_cons_zero, List.set_cons_succ, List.cons_append, List.nil_append, -getElem?_pos, -getElem?_neg, cg, dt, bt, hwj]
    refine fin2 c _ (by omega) rfl ?_
    simp only [roT, List.mem_cons, List.not_mem_nil, or_false]
    rintro y (rfl | rfl | rfl | rfl | rfl | rfl | rfl) <;> simp [GB]

end Ox
end Go.Proofs.Ytekhadlpcdjlpaa
