/- order: the document's answer, walked: Waits, who is ahead of a turn. -/
import Derived.Test.YtekhadlpcdjlpaaOt9
namespace Go.Proofs.Ytekhadlpcdjlpaa
namespace Ox
open Go Abs Code
set_option linter.unusedVariables false
set_option linter.unusedSimpArgs false
set_option maxRecDepth 100000

def bT (sv : Value) (l : List En) (v3 : Value) (px i g p k : Nat) : List (Nat × Value) := [(0, sv), (3, v3), (4, .int .i64 i), (5, .pointer (some ⟨px, 0, none⟩)), (6, .int .i64 g), (7, .pointer (some ⟨p, 0, none⟩)), (8, .int .i64 k), (12, sv), (13, .int .i64 l.length), (14, .int .i64 i)]

/-- Who is ahead, of the threads of the first k entries. -/
def ahUp (l : List En) (i k : Nat) (t : Int) : Nat := (firsts (l.take k)).countP fun u => decide (u ≠ t ∧ 0 < stateT (l.take i) u)
theorem ahUp_0 (l : List En) (i : Nat) (t : Int) : ahUp l i 0 t = 0 := rfl
theorem ahUp_i (l : List En) (i : Nat) (t : Int) : ahUp l i i t = aheadL (l.take i) t := (aheadL_firsts _ _).symm
theorem ahUp_s {l : List En} {i k : Nat} {t : Int} {x : En} (h : l[k]? = some x) : ahUp l i (k + 1) t = ahUp l i k t + if hasT (l.take k) x.t = false ∧ x.t ≠ t ∧ 0 < stateT (l.take i) x.t then 1 else 0 := by
  unfold ahUp
  rw [firsts_take h, List.countP_append]
  congr 1
  cases hasT (l.take k) x.t <;> simp [List.countP_cons]
theorem firsts_len (l : List En) : (firsts l).length ≤ l.length := by
  induction l with
  | nil => simp [firsts]
  | cons x l ih => simp only [firsts, List.length_cons]; have := List.length_filter_le (· != x.t) (firsts l); omega
theorem ahUp_le (l : List En) (i k : Nat) (t : Int) : ahUp l i k t ≤ k := by
  unfold ahUp
  have h1 := List.countP_le_length (p := fun u => decide (u ≠ t ∧ 0 < stateT (l.take i) u)) (l := firsts (l.take k))
  have h2 := firsts_len (l.take k)
  rw [List.length_take] at h2
  omega

theorem stateAt {l : List En} (hl : l.length ≤ 1000) {i cap : Nat} (hi : i ≤ l.length) {H : AH} (h0 : H[0]? = some (.row (rowOf l))) (u : Int) {K : Value → AH → Prop} (hK : K (.int .i64 (stateT (l.take i) u)) H) : AC Try.prog 92 [.slice (some ⟨0, 0, none⟩) i cap, .int .i64 u] H K := by
  have hlen : (l.take i).length = i := by rw [List.length_take]; omega
  have hat : RowAt H (some ⟨0, 0, none⟩) (l.take i).length (rowOf (l.take i)) := by
    refine .inr ⟨0, 0, none, rfl, .inr ⟨rfl, rowOf l, by simp [rdRow, h0], fun j v hv => ?_⟩⟩
    rw [← rowOf_take, List.getElem?_take] at hv
    rw [Nat.zero_add]
    split at hv
    · exact hv
    · cases hv
  have := stateG (l := l.take i) (A := some ⟨0, 0, none⟩) (cap := cap) (H := H) (by omega) hat u hK
  rwa [hlen] at this

set_option maxHeartbeats 8000000 in
theorem loop38b (l : List En) (d : Nat) (hl : l.length ≤ 1000) (hld : l.length ≤ d) (G : AH) (t : Int) (hG : ∀ a c, AOK (G ++ [w9 t a c])) (h0g : G[0]? = some (.row (rowOf l))) (px : Nat) (k2 now : Value) (hpx : G[px]? = some (.cells [k2, .int .i64 t, now] 126 none)) (v3 : Value) (s3 : scp (live G) v3 = true) (i g : Nat) (hi : i < l.length) (T0 : T) (h : AH) (Q : AExit → T → AH → Prop)
    (h0 : atHeadV 1 103 (bT (.slice (some ⟨0, 0, none⟩) l.length (OPEN + d)) l v3 px i g G.length 0) (G ++ [w9 t 0 0]) T0 h)
    (hQ : Q (.exit 2) (mkT 103 ((30, .int .i64 i) :: (31, .int .i64 i) :: (32, .bool false) :: bT (.slice (some ⟨0, 0, none⟩) l.length (OPEN + d)) l v3 px i g G.length i)) (G ++ [w9 t (aheadL (l.take i) t : Nat) 0])) : ALoop Try.prog 1 lp38_1 T0 h Q := by
  have hlive : live G 0 = true := live_of h0g (by simp)
  have hGl := (List.getElem?_eq_some_iff.1 h0g).1
  have hpl := (List.getElem?_eq_some_iff.1 hpx).1
  obtain ⟨tv, htv⟩ : ∃ tv, tv = bT (.slice (some ⟨0, 0, none⟩) l.length (OPEN + d)) l v3 px i g G.length := ⟨_, rfl⟩
  obtain ⟨hv, hhv⟩ : ∃ hv : Nat → AH, hv = fun k => G ++ [w9 t (ahUp l i k t : Nat) 0] := ⟨_, rfl⟩
  have hrow : ∀ b : ABlk, (G ++ [b])[0]? = some (.row (rowOf l)) := fun b => by rw [List.getElem?_append_left hGl]; exact h0g
  have hrpx : ∀ b : ABlk, (G ++ [b])[px]? = some (.cells [k2, .int .i64 t, now] 126 none) := fun b => by rw [List.getElem?_append_left hpl]; exact hpx
  have hscp : ∀ a k, ∀ y ∈ bT (.slice (some ⟨0, 0, none⟩) l.length (OPEN + d)) l v3 px i g G.length k, scp (live (G ++ [w9 t a 0])) y.2 = true := by
    intro a k y hy
    simp only [bT, List.mem_cons, List.not_mem_nil, or_false] at hy
    rcases hy with rfl | rfl | rfl | rfl | rfl | rfl | rfl | rfl | rfl | rfl
    · simpa [scp] using live_push _ hlive
    · exact scp_mono (fun b hb => live_push b hb) _ s3
    · rfl
    · simp only [scp]; exact live_push _ (live_of hpx (by simp))
    · rfl
    · simp only [scp]; exact live_of (k := w9 t a 0) (by simp) (by simp [w9])
    · rfl
    · simpa [scp] using live_push _ hlive
    · rfl
    · rfl
  refine loop3 hmix 103 (fun k => k ≤ i) (fun k => i - k) tv hv 0 (Nat.zero_le _) (by rw [htv, hhv]; exact h0) ?_
  intro k hk
  rw [show tv k = bT (.slice (some ⟨0, 0, none⟩) l.length (OPEN + d)) l v3 px i g G.length k by rw [htv], show hv k = G ++ [w9 t (ahUp l i k t : Nat) 0] by rw [hhv]]
  by_cases hlt : k < i
  case neg =>
    obtain rfl : k = i := by omega
    rw [ahUp_i]
    simp (maxSteps := 2000000) (implicitDefEqProofs := false) [DN, NB, begT, atHead, kd, wantedA, evP, evR, evF, evL, evC, evI, evBin, evUn, evEq, evSt, evRes, plain, scp, scpA, scpL, rdRow, rdCells, veq, veqA, veqL, isHole, Value.cells, evalL, optI, evBounds, evFill, evFillR, evApp, newsOf, wrCells, one1, fitsApp, evClr, undef, onB_bool, List.getElem?_concat_length, List.getElem?_cons_zero, List.getElem?_cons_succ, List.getElem?_toArray, List.getElem?_nil, List.set_cons_zero, List.set_cons_succ, List.cons_append, List.nil_append, -getElem?_pos, -getElem?_neg, bT] at hQ
    simp (maxSteps := 2000000) (implicitDefEqProofs := false) [DN, NB, begT, atHead, kd, wantedA, evP, evR, evF, evL, evC, evI, evBin, evUn, evEq, evSt, evRes, plain, scp, scpA, scpL, rdRow, rdCells, veq, veqA, veqL, isHole, Value.cells, evalL, optI, evBounds, evFill, evFillR, evApp, newsOf, wrCells, one1, fitsApp, evClr, undef, onB_bool, List.getElem?_concat_length, List.getElem?_cons_zero, List.getElem?_cons_succ, List.getElem?_toArray, List.getElem?_nil, List.set_cons_zero, List.set_cons_succ, List.cons_append, List.nil_append, -getElem?_pos, -getElem?_neg, bT, lp38_1]
    exact hQ
  have hlt' : (k : Int) < i := by omega
  have hk0 : (0 : Int) ≤ k := by omega
  have hkl : (k : Int) < l.length := by omega
  obtain ⟨x, hx⟩ : ∃ x, l[k]? = some x := ⟨_, List.getElem?_eq_getElem (by omega)⟩
  have hxt := row_t hx
  have hfk : k * 3 + 1 + 1 ≤ (rowOf l).length := by rw [rowOf_length]; omega
  have hwk : IntKind.i64.wrap ((k : Int) + 1) = (k : Int) + 1 := IntWalk.i64_in _ (by omega)
  have hs := ahUp_s (i := i) (t := t) hx
  have hle := ahUp_le l i k t
  obtain ⟨c, hc⟩ : ∃ c, ahUp l i k t = c := ⟨_, rfl⟩
  rw [hc] at hs hle
  rw [hc]
  have hwc : IntKind.i64.wrap ((c : Int) + 1) = (c : Int) + 1 := IntWalk.i64_in _ (by omega)
  have a3 : ¬ OPEN + d < OPEN := by omega
  have a4 : OPEN + d - OPEN = d := by omega
  have a5 : i ≤ d := by omega
  have a6 : (i : Int) ≤ d := by omega
  have a7 : (0 : Int) ≤ i := by omega
  have a8 : i ≤ l.length := by omega
  have a9 : 0 < d := by omega
  have fin : ∀ (c' : Nat) (ci : Int) t', ci = c' → c' = ahUp l i (k + 1) t → t'.length = 103 → (∀ y ∈ bT (.slice (some ⟨0, 0, none⟩) l.length (OPEN + d)) l v3 px i g G.length (k + 1), getT t' y.1 = some y.2) → nextS 1 103 (fun k => k ≤ i) (fun k => i - k) tv hv k t' (G ++ [w9 t ci 0]) := by
    rintro c' ci t' rfl rfl e1 e2
    refine nextS.intro (k + 1) (by omega) (by omega) ?_
    rw [htv, hhv]
    refine headId (fun _ _ hb => hb) (hG _ _) (fun b hb => ?_) (by show 1 ≤ _; simp) e1 fun y hy => ⟨e2 y hy, hscp _ _ y hy⟩
    obtain rfl : b = 0 := by omega
    exact live_push _ hlive
  simp (maxSteps := 2000000) (implicitDefEqProofs := false) [DN, NB, begT, atHead, kd, wantedA, evP, evR, evF, evL, evC, evI, evBin, evUn, evEq, evSt, evRes, plain, scp, scpA, scpL, rdRow, rdCells, veq, veqA, veqL, isHole, Value.cells, evalL, optI, evBounds, evFill, evFillR, evApp, newsOf, wrCells, one1, fitsApp, evClr, undef, onB_bool, List.getElem?_concat_length, List.getElem?_cons_zero, List.getElem?_cons_succ, List.getElem?_toArray, List.getElem?_nil, List.set_cons_zero, List.set_cons_succ, List.cons_append, List.nil_append, -getElem?_pos, -getElem?_neg, bT, lp38_1, hlt]
  refine loop38c l (OPEN + d) hl (G ++ [w9 t c 0]) (hG _ _) (hrow _) v3 (.pointer (some ⟨px, 0, none⟩)) (.int .i64 g) (.pointer (some ⟨G.length, 0, none⟩)) (scp_mono (fun b hb => live_push b hb) _ s3) (by simp only [scp]; exact live_push _ (live_of hpx (by simp))) rfl (by simp only [scp]; exact live_of (k := w9 t c 0) (by simp) (by simp [w9])) i k x hx _ _ _ (headId (fun _ _ hb => hb) (hG _ _) (fun b hb => ?_) (by simp) rfl fun y hy => ?_) ?_
  · obtain rfl : b = 0 := by omega
    exact live_push _ hlive
  · simp only [fT, List.mem_cons, List.not_mem_nil, or_false] at hy
    rcases hy with rfl | rfl | rfl | rfl | rfl | rfl | rfl | rfl | rfl | rfl | rfl | rfl
    · exact ⟨(by simp [GB]), by simpa [scp] using live_push _ hlive⟩
    · exact ⟨(by simp [GB]), scp_mono (fun b hb => live_push b hb) _ s3⟩
    · exact ⟨(by simp [GB]), rfl⟩
    · exact ⟨(by simp [GB]), by simp only [scp]; exact live_push _ (live_of hpx (by simp))⟩
    · exact ⟨(by simp [GB]), rfl⟩
    · exact ⟨(by simp [GB]), by simp only [scp]; exact live_of (k := w9 t c 0) (by simp) (by simp [w9])⟩
    · exact ⟨(by simp [GB]), rfl⟩
    · exact ⟨by simp [GB, hasT], rfl⟩
    · exact ⟨by simp [GB], rfl⟩
    · exact ⟨(by simp [GB]), by simpa [scp] using live_push _ hlive⟩
    · exact ⟨(by simp [GB]), rfl⟩
    · exact ⟨(by simp [GB]), rfl⟩
  by_cases hh : hasT (l.take k) x.t = true
  · rw [hh] at hs
    simp (maxSteps := 2000000) (implicitDefEqProofs := false) [DN, NB, begT, atHead, kd, wantedA, evP, evR, evF, evL, evC, evI, evBin, evUn, evEq, evSt, evRes, plain, scp, scpA, scpL, rdRow, rdCells, veq, veqA, veqL, isHole, Value.cells, evalL, optI, evBounds, evFill, evFillR, evApp, newsOf, wrCells, one1, fitsApp, evClr, undef, onB_bool, List.getElem?_concat_length, List.getElem?_cons_zero, List.getElem?_cons_succ, List.getElem?_toArray, List.getElem?_nil, List.set_cons_zero, List.set_cons_succ, List.cons_append, List.nil_append, -getElem?_pos, -getElem?_neg, fT, hh, hwk]
    refine fin c _ _ rfl (by simpa using hs.symm) rfl ?_
    simp only [bT, List.mem_cons, List.not_mem_nil, or_false]
    rintro y (rfl | rfl | rfl | rfl | rfl | rfl | rfl | rfl | rfl | rfl) <;> simp [GB]
  have hf : hasT (l.take k) x.t = false := by simpa using hh
  rw [hf] at hs
  by_cases ct : x.t = t
  · have hs2 : ahUp l i (k + 1) t = c := by rw [hs, if_neg (fun h => h.2.1 ct)]; rfl
    have bt : (x.t == t) = true := by simp [ct]
    have ct2 : (x.t = t) = True := eq_true ct
    simp (maxSteps := 2000000) (implicitDefEqProofs := false) [DN, NB, begT, atHead, kd, wantedA, evP, evR, evF, evL, evC, evI, evBin, evUn, evEq, evSt, evRes, plain, scp, scpA, scpL, rdRow, rdCells, veq, veqA, veqL, isHole, Value.cells, evalL, optI, evBounds, evFill, evFillR, evApp, newsOf, wrCells, one1, fitsApp, evClr, undef, onB_bool, List.getElem?_concat_length, List.getElem?_cons_zero, List.getElem?_cons_succ, List.getElem?_toArray, List.getElem?_nil, List.set_cons_zero, List.set_cons_succ, List.cons_append, List.nil_append, -getElem?_pos, -getElem?_neg, fT, hf, w9, hrow, hrpx, hk0, hkl, hxt, hfk, bt, ct2, hwk]
    refine fin c _ _ rfl hs2.symm rfl ?_
    simp only [bT, List.mem_cons, List.not_mem_nil, or_false]
    rintro y (rfl | rfl | rfl | rfl | rfl | rfl | rfl | rfl | rfl | rfl) <;> simp [GB]
  have bt : (x.t == t) = false := by simp [ct]
  simp (maxSteps := 2000000) (implicitDefEqProofs := false) [DN, NB, begT, atHead, kd, wantedA, evP, evR, evF, evL, evC, evI, evBin, evUn, evEq, evSt, evRes, plain, scp, scpA, scpL, rdRow, rdCells, veq, veqA, veqL, isHole, Value.cells, evalL, optI, evBounds, evFill, evFillR, evApp, newsOf, wrCells, one1, fitsApp, evClr, undef, onB_bool, List.getElem?_concat_length, List.getElem?_cons_zero, List.getElem?_cons_succ, List.getElem?_toArray, List.getElem?_nil, List.set_cons_zero, List.set_cons_succ, List.cons_append, List.nil_append, -getElem?_pos, -getElem?_neg, fT, hf, w9, hrow, hrpx, hk0, hkl, hxt, hfk, bt, ct, hwk, bnd, a3, a4, a5, a6, a7, a8, a9, hld]
  refine stateAt hl (Nat.le_of_lt hi) (hrow _) x.t ?_
  by_cases cs : 0 < stateT (l.take i) x.t
  · rw [if_pos ⟨rfl, ct, cs⟩] at hs
    simp (maxSteps := 2000000) (implicitDefEqProofs := false) [DN, NB, begT, atHead, kd, wantedA, evP, evR, evF, evL, evC, evI, evBin, evUn, evEq, evSt, evRes, plain, scp, scpA, scpL, rdRow, rdCells, veq, veqA, veqL, isHole, Value.cells, evalL, optI, evBounds, evFill, evFillR, evApp, newsOf, wrCells, one1, fitsApp, evClr, undef, onB_bool, List.getElem?_concat_length, List.getElem?_cons_zero, List.getElem?_cons_succ, List.getElem?_toArray, List.getElem?_nil, List.set_cons_zero, List.set_cons_succ, List.cons_append, List.nil_append, -getElem?_pos, -getElem?_neg, cs, w9, hrow, hrpx, hk0, hkl, hxt, hfk, bt, ct, hwk, hwc, bnd, a3, a4, a5, a6, a7, a8, a9, hld, set_concat]
    refine fin (c + 1) _ _ (by simp) hs.symm rfl ?_
    simp only [bT, List.mem_cons, List.not_mem_nil, or_false]
    rintro y (rfl | rfl | rfl | rfl | rfl | rfl | rfl | rfl | rfl | rfl) <;> simp [GB]
  · have hs2 : ahUp l i (k + 1) t = c := by rw [hs, if_neg (fun h => cs h.2.2)]; rfl
    simp (maxSteps := 2000000) (implicitDefEqProofs := false) [DN, NB, begT, atHead, kd, wantedA, evP, evR, evF, evL, evC, evI, evBin, evUn, evEq, evSt, evRes, plain, scp, scpA, scpL, rdRow, rdCells, veq, veqA, veqL, isHole, Value.cells, evalL, optI, evBounds, evFill, evFillR, evApp, newsOf, wrCells, one1, fitsApp, evClr, undef, onB_bool, List.getElem?_concat_length, List.getElem?_cons_zero, List.getElem?_cons_succ, List.getElem?_toArray, List.getElem?_nil, List.set_cons_zero, List.set_cons_succ, List.cons_append, List.nil_append, -getElem?_pos, -getElem?_neg, cs, w9, hrow, hrpx, hk0, hkl, hxt, hfk, bt, ct, hwk, hwc, bnd, a3, a4, a5, a6, a7, a8, a9, hld, set_concat]
    refine fin c _ _ rfl hs2.symm rfl ?_
    simp only [bT, List.mem_cons, List.not_mem_nil, or_false]
    rintro y (rfl | rfl | rfl | rfl | rfl | rfl | rfl | rfl | rfl | rfl) <;> simp [GB]

end Ox
end Go.Proofs.Ytekhadlpcdjlpaa
