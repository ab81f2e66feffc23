/- pool: PoolWhole, on the blocks. -/
import Derived.Test.YtekhadlpcdjlpaaPw
import Derived.Test.YtekhadlpcdjlpaaAbs29
import Derived.Test.YtekhadlpcdjlpaaCodeW
namespace Go.Proofs.Ytekhadlpcdjlpaa
namespace Px
open Go Abs Code
set_option linter.unusedVariables false
set_option linter.unusedSimpArgs false
set_option maxRecDepth 100000

theorem freshR_range (k t : Nat) : freshR k t k = List.range' (t * k + 1) k := by
  unfold freshR
  rw [List.range'_eq_map_range]
  refine List.map_congr_left fun i _ => ?_
  omega

theorem filt (a k c : Nat) (h1 : a ≤ c + 1) (h2 : c + 1 ≤ a + k) : (List.range' a k).filter (fun x => decide (c < x)) = List.range' (c + 1) (a + k - (c + 1)) := by
  have e : List.range' a k = List.range' a (c + 1 - a) ++ List.range' (c + 1) (a + k - (c + 1)) := by
    have := List.range'_append_1 (s := a) (m := c + 1 - a) (n := a + k - (c + 1))
    rw [show a + (c + 1 - a) = c + 1 by omega, show c + 1 - a + (a + k - (c + 1)) = k by omega] at this
    exact this.symm
  rw [e, List.filter_append]
  have e1 : (List.range' a (c + 1 - a)).filter (fun x => decide (c < x)) = [] := by
    rw [List.filter_eq_nil_iff]
    intro x hx
    have := List.mem_range'_1.1 hx
    simp
    omega
  have e2 : (List.range' (c + 1) (a + k - (c + 1))).filter (fun x => decide (c < x)) = List.range' (c + 1) (a + k - (c + 1)) := by
    rw [List.filter_eq_self]
    intro x hx
    have := List.mem_range'_1.1 hx
    simp
    omega
  rw [e1, e2, List.nil_append]

/-- A pool of which the first c handles are out. -/
def freeW (k c t : Nat) : List Nat := (freshR k t k).filter fun x => decide (c < x)
def wS (n k c : Nat) : PS := ⟨k, (List.range n).map (freeW k c), (List.range c).map fun j => (j + 1, j / k + 1)⟩

theorem wS_free {n k c t : Nat} (h : t < n) : (wS n k c).free[t]? = some (freeW k c t) := by
  unfold wS
  simp only
  rw [List.getElem?_map, List.getElem?_range h]
  rfl

theorem freeW_own {k t i : Nat} (hi : i < k) : freeW k (t * k + i) t = (t * k + i + 1) :: freeW k (t * k + i + 1) t := by
  unfold freeW
  rw [freshR_range, filt _ _ _ (by omega) (by omega), filt _ _ _ (by omega) (by omega)]
  obtain ⟨m, hm⟩ : ∃ m, t * k + 1 + k - (t * k + i + 1) = m + 1 := ⟨k - i - 1, by omega⟩
  rw [hm, List.range'_succ]
  congr 2
  omega

theorem freeW_full {k t : Nat} : freeW k (t * k + k) t = [] := by
  unfold freeW
  rw [freshR_range, filt _ _ _ (by omega) (by omega)]
  have : t * k + 1 + k - (t * k + k + 1) = 0 := by omega
  rw [this]
  rfl

theorem freeW_other {k t i u : Nat} (hi : i < k) (hu : u ≠ t) : freeW k (t * k + i) u = freeW k (t * k + i + 1) u := by
  unfold freeW
  refine List.filter_congr fun x hx => ?_
  have hne : x ≠ t * k + i + 1 := by
    rintro rfl
    rw [freshR_range] at hx
    have := List.mem_range'_1.1 hx
    have e1 : (t * k + i) / k = t := by rw [Nat.mul_comm, Nat.mul_add_div (by omega), Nat.div_eq_of_lt hi]; rfl
    have e2 : (t * k + i) / k = u := by
      obtain ⟨j, hj⟩ : ∃ j, t * k + i = u * k + j := ⟨t * k + i - u * k, by omega⟩
      rw [hj, Nat.mul_comm u k, Nat.mul_add_div (by omega), Nat.div_eq_of_lt (by omega)]
      rfl
    exact hu (e2.symm.trans e1)
  by_cases h : t * k + i < x
  · simp [h]; omega
  · simp [h]; omega

theorem w_takeS {n k t i : Nat} (hi : i < k) (ht : t < n) : takeH (wS n k (t * k + i)) t = t * k + i + 1 ∧ takeE (wS n k (t * k + i)) t = 0 ∧ takeS (wS n k (t * k + i)) t = wS n k (t * k + i + 1) := by
  have hfl : (wS n k (t * k + i)).free.length = n := by simp [wS]
  have c1 : ¬ (t : Int) < 0 := by omega
  have hf := wS_free (k := k) (c := t * k + i) ht
  rw [freeW_own hi] at hf
  refine ⟨?_, ?_, ?_⟩
  · unfold takeH
    rw [if_neg c1, Int.toNat_natCast, hf]
  · unfold takeE
    rw [if_neg (by rw [hfl]; omega)]
  · unfold takeS
    rw [if_neg c1, Int.toNat_natCast, hf]
    simp only
    have hd : (t * k + i) / k = t := by rw [Nat.mul_comm, Nat.mul_add_div (by omega), Nat.div_eq_of_lt hi]; rfl
    unfold wS
    simp only [PS.mk.injEq, true_and]
    refine ⟨?_, ?_⟩
    · refine List.ext_getElem? fun u => ?_
      rw [List.getElem?_set]
      split
      · rename_i e
        subst e
        rw [if_pos (by simpa using ht), List.getElem?_map, List.getElem?_range ht]
        rfl
      · rename_i hne
        rw [List.getElem?_map, List.getElem?_map]
        cases hx : (List.range n)[u]? with
        | none => rfl
        | some y =>
          obtain rfl : y = u := by
            have := List.getElem?_eq_some_iff.1 hx
            obtain ⟨h1, h2⟩ := this
            simpa using h2.symm
          simp only [Option.map_some]
          rw [freeW_other hi (fun e => hne e.symm)]
    · rw [List.range_succ, List.map_append]
      simp only [List.map_cons, List.map_nil, hd]

theorem w_full {n k t : Nat} (ht : t < n) : takeH (wS n k (t * k + k)) t = 0 ∧ takeE (wS n k (t * k + k)) t = 0 ∧ takeS (wS n k (t * k + k)) t = wS n k (t * k + k) ∧ outV (wS n k (t * k + k)) t = k := by
  have hfl : (wS n k (t * k + k)).free.length = n := by simp [wS]
  have c1 : ¬ (t : Int) < 0 := by omega
  have hf := wS_free (k := k) (c := t * k + k) ht
  rw [freeW_full] at hf
  refine ⟨?_, ?_, ?_, ?_⟩
  · unfold takeH
    rw [if_neg c1, Int.toNat_natCast, hf]
  · unfold takeE
    rw [if_neg (by rw [hfl]; omega)]
  · unfold takeS
    rw [if_neg c1, Int.toNat_natCast, hf]
  · unfold outV
    rw [if_neg c1, Int.toNat_natCast, hf]
    rfl

theorem w_new (n k : Nat) : newP n k = wS n k 0 := by
  unfold newP wS
  simp only [PS.mk.injEq, true_and, List.range_zero, List.map_nil, and_true]
  refine List.map_congr_left fun t _ => ?_
  unfold freeW
  symm
  rw [List.filter_eq_self]
  intro x hx
  obtain ⟨i, _, rfl⟩ := List.mem_map.1 hx
  simp

theorem w_own {n k t i : Nat} (hi : i < k) (ht : t < n) (hn : n ≤ 64) (hk : k ≤ 8) (c : Nat) : ownB (wS n k c) (t * k + i + 1) = true ∧ ownT (wS n k c) (t * k + i + 1) = t := by
  have h1 : t * k + i < k * n := by
    have : (t + 1) * k ≤ n * k := Nat.mul_le_mul_right k (by omega)
    rw [Nat.succ_mul] at this
    rw [Nat.mul_comm k n]
    omega
  have h2 : k * n ≤ 512 := Nat.le_trans (Nat.mul_le_mul hk hn) (by omega)
  have h3 : (t * k + i + 1) % 4096 = t * k + i + 1 := Nat.mod_eq_of_lt (by omega)
  have hfl : (wS n k c).free.length = n := by simp [wS]
  have hb : ownB (wS n k c) (t * k + i + 1) = true := by
    unfold ownB
    rw [h3, hfl]
    have : (wS n k c).each = k := rfl
    rw [this]
    simp
    exact ⟨by omega, h1⟩
  refine ⟨hb, ?_⟩
  unfold ownT
  rw [if_pos hb, h3]
  show (t * k + i + 1 - 1) / k = t
  rw [Nat.add_sub_cancel, Nat.mul_comm, Nat.mul_add_div (by omega), Nat.div_eq_of_lt hi]
  rfl

/-- The handles that were had, as a map. -/
def hadE (c : Nat) : List MapEntry := (List.range c).map fun j => ⟨.int .u32 ((j + 1 : Nat) : Int), .int .i64 1, j⟩

theorem had_find (c : Nat) : findA false (.int .u32 ((c + 1 : Nat) : Int)) (hadE c) 0 = some none := by
  refine find_none (out := (List.range c).map fun j => (j + 1, 1)) ?_ ?_
  · unfold ents hadE
    simp only [List.map_map]
    rfl
  · intro h
    simp only [List.map_map, List.mem_map, List.mem_range, Function.comp] at h
    obtain ⟨j, hj, e⟩ := h
    omega

theorem had_put (c : Nat) : mapPut false (hadE c) c (.int .u32 ((c + 1 : Nat) : Int)) (.int .i64 1) = some (hadE (c + 1), c + 1) := by
  unfold mapPut
  rw [had_find]
  simp [hadE, List.range_succ]

theorem had_good (c : Nat) : goodM (hadE c) c := by
  refine ⟨fun e he => ?_, ?_⟩
  · obtain ⟨j, hj, rfl⟩ := List.mem_map.1 he
    exact ⟨rfl, rfl, List.mem_range.1 hj⟩
  · unfold hadE
    rw [List.map_map]
    have : (MapEntry.born ∘ fun j => (⟨.int .u32 ((j + 1 : Nat) : Int), .int .i64 1, j⟩ : MapEntry)) = id := rfl
    rw [this, List.map_id]
    exact List.nodup_range

def hadB (c : Nat) : ABlk := .map (hadE c) c
theorem hadB_noNames (c : Nat) : noNames (hadB c) := fun e he => by
  obtain ⟨j, hj, rfl⟩ := List.mem_map.1 he
  exact ⟨rfl, rfl⟩
def wH (n k c : Nat) : AH := [poolB (wS n k c), hadB c]
theorem wH_ok (n k c : Nat) : AOK (wH n k c) := AOK.of ⟨trivial, scp_noNames (hadB_noNames c) _, trivial⟩

def wT (n k t : Nat) : List (Nat × Value) := [(5, .int .i64 n), (6, .int .i64 k), (7, .pointer (some ⟨0, 0, none⟩)), (9, .map (some 1)), (38, .int .i64 n), (39, .int .i64 t)]
def wTi (n k t i : Nat) : List (Nat × Value) := [(5, .int .i64 n), (6, .int .i64 k), (7, .pointer (some ⟨0, 0, none⟩)), (9, .map (some 1)), (38, .int .i64 n), (39, .int .i64 t), (10, .int .i64 t), (42, .int .i64 k), (43, .int .i64 i)]

set_option maxHeartbeats 4000000 in
theorem loop11b (n k t : Nat) (hn : n ≤ 64) (hk : k ≤ 8) (ht : t < n) (T0 : T) (h : AH) (Q : AExit → T → AH → Prop)
    (h0 : atHeadV 0 123 (wTi n k t 0) (wH n k (t * k + 0)) T0 h)
    (hQ : Q (.exit 2) (mkT 123 ((44, .bool false) :: wTi n k t k)) (wH n k (t * k + k))) : ALoop Try.prog 0 lp11_1 T0 h Q := by
  refine loop3 hmix 123 (fun i => i ≤ k) (fun i => k - i) (wTi n k t) (fun i => wH n k (t * k + i)) 0 (Nat.zero_le _) h0 ?_
  intro i hi
  by_cases hlt : i < k
  case neg =>
    obtain rfl : i = k := by omega
    simp (maxSteps := 2000000) (implicitDefEqProofs := false) [DN, NB, begT, atHead, kd, wantedA, evP, evR, evF, evL, evC, evI, evBin, evUn, evEq, evSt, evRes, plain, scp, scpA, scpL, rdRow, rdCells, veq, veqA, veqL, isHole, Value.cells, evalL, optI, evBounds, evFill, evFillR, evApp, newsOf, wrCells, one1, fitsApp, evClr, undef, onB_bool, List.getElem?_concat_length, List.getElem?_cons_zero, List.getElem?_cons_succ, List.getElem?_toArray, List.getElem?_nil, List.set_cons_zero, List.set_cons_succ, List.cons_append, List.nil_append, -getElem?_pos, -getElem?_neg, wTi] at hQ
    simp (maxSteps := 2000000) (implicitDefEqProofs := false) [DN, NB, begT, atHead, kd, wantedA, evP, evR, evF, evL, evC, evI, evBin, evUn, evEq, evSt, evRes, plain, scp, scpA, scpL, rdRow, rdCells, veq, veqA, veqL, isHole, Value.cells, evalL, optI, evBounds, evFill, evFillR, evApp, newsOf, wrCells, one1, fitsApp, evClr, undef, onB_bool, List.getElem?_concat_length, List.getElem?_cons_zero, List.getElem?_cons_succ, List.getElem?_toArray, List.getElem?_nil, List.set_cons_zero, List.set_cons_succ, List.cons_append, List.nil_append, -getElem?_pos, -getElem?_neg, wTi, lp11_1]
    exact hQ
  obtain ⟨e1, e2, e3⟩ := w_takeS (n := n) hlt ht
  obtain ⟨o1, o2⟩ := w_own hlt ht hn hk (t * k + i + 1)
  have hcl : t * k + i < 512 := by
    have : t * k ≤ 63 * k := Nat.mul_le_mul_right k (by omega)
    omega
  have hput := had_put (t * k + i)
  have hfind := had_find (t * k + i)
  have hnext : t * k + (i + 1) = t * k + i + 1 := by omega
  obtain ⟨c, hc⟩ : ∃ c, t * k + i = c := ⟨_, rfl⟩
  rw [hc] at e1 e2 e3 o1 o2 hcl hput hfind
  obtain ⟨x, hx⟩ : ∃ x, c + 1 = x := ⟨_, rfl⟩
  rw [hx] at e1 e3 o1 o2 hput hfind
  have hx0 : ¬ x = 0 := by omega
  have hwr : IntKind.i64.wrap ((i : Int) + 1) = ((i + 1 : Nat) : Int) := by rw [IntWalk.i64_in _ (by omega)]; omega
  rw [hc]
  simp (maxSteps := 2000000) (implicitDefEqProofs := false) [DN, NB, begT, atHead, kd, wantedA, evP, evR, evF, evL, evC, evI, evBin, evUn, evEq, evSt, evRes, plain, scp, scpA, scpL, rdRow, rdCells, veq, veqA, veqL, isHole, Value.cells, evalL, optI, evBounds, evFill, evFillR, evApp, newsOf, wrCells, one1, fitsApp, evClr, undef, onB_bool, List.getElem?_concat_length, List.getElem?_cons_zero, List.getElem?_cons_succ, List.getElem?_toArray, List.getElem?_nil, List.set_cons_zero, List.set_cons_succ, List.cons_append, List.nil_append, -getElem?_pos, -getElem?_neg, wTi, wH, hadB, lp11_1, hlt]
  refine takeG (s := wS n k c) t rfl ?_
  rw [e1, e2, e3]
  simp (maxSteps := 2000000) (implicitDefEqProofs := false) [DN, NB, begT, atHead, kd, wantedA, evP, evR, evF, evL, evC, evI, evBin, evUn, evEq, evSt, evRes, plain, scp, scpA, scpL, rdRow, rdCells, veq, veqA, veqL, isHole, Value.cells, evalL, optI, evBounds, evFill, evFillR, evApp, newsOf, wrCells, one1, fitsApp, evClr, undef, onB_bool, List.getElem?_concat_length, List.getElem?_cons_zero, List.getElem?_cons_succ, List.getElem?_toArray, List.getElem?_nil, List.set_cons_zero, List.set_cons_succ, List.cons_append, List.nil_append, -getElem?_pos, -getElem?_neg]
  refine ownerG (s := wS n k x) x (by omega) rfl ?_
  rw [o1, o2]
  simp (maxSteps := 2000000) (implicitDefEqProofs := false) [DN, NB, begT, atHead, kd, wantedA, evP, evR, evF, evL, evC, evI, evBin, evUn, evEq, evSt, evRes, plain, scp, scpA, scpL, rdRow, rdCells, veq, veqA, veqL, isHole, Value.cells, evalL, optI, evBounds, evFill, evFillR, evApp, newsOf, wrCells, one1, fitsApp, evClr, undef, onB_bool, List.getElem?_concat_length, List.getElem?_cons_zero, List.getElem?_cons_succ, List.getElem?_toArray, List.getElem?_nil, List.set_cons_zero, List.set_cons_succ, List.cons_append, List.nil_append, -getElem?_pos, -getElem?_neg, hx0, mapAt, hfind, evMupd, hput, hwr]
  refine nextS.intro (i + 1) (by omega) (by omega) ?_
  rw [hnext, hc, hx]
  refine headId (fun _ _ hk => hk) (wH_ok n k x) (fun b hb => by omega) (by simp) rfl fun y' hy => ?_
  simp only [wTi, List.mem_cons, List.not_mem_nil, or_false] at hy
  rcases hy with rfl | rfl | rfl | rfl | rfl | rfl | rfl | rfl | rfl <;> exact ⟨(by simp [GB]), by simp [scp, live, wH, hadB]⟩

set_option maxHeartbeats 4000000 in
theorem loop11a (n k : Nat) (hn : n ≤ 64) (hk : k ≤ 8) (T0 : T) (h : AH) (Q : AExit → T → AH → Prop)
    (h0 : atHeadV 0 123 (wT n k 0) (wH n k (0 * k)) T0 h)
    (hQ : Q (.exit 0) (mkT 123 ((40, .bool false) :: wT n k n)) (wH n k (n * k))) : ALoop Try.prog 0 lp11_0 T0 h Q := by
  refine loop3 hmix 123 (fun t => t ≤ n) (fun t => n - t) (wT n k) (fun t => wH n k (t * k)) 0 (Nat.zero_le _) h0 ?_
  intro t ht
  by_cases hlt : t < n
  case neg =>
    obtain rfl : t = n := by omega
    simp (maxSteps := 2000000) (implicitDefEqProofs := false) [DN, NB, begT, atHead, kd, wantedA, evP, evR, evF, evL, evC, evI, evBin, evUn, evEq, evSt, evRes, plain, scp, scpA, scpL, rdRow, rdCells, veq, veqA, veqL, isHole, Value.cells, evalL, optI, evBounds, evFill, evFillR, evApp, newsOf, wrCells, one1, fitsApp, evClr, undef, onB_bool, List.getElem?_concat_length, List.getElem?_cons_zero, List.getElem?_cons_succ, List.getElem?_toArray, List.getElem?_nil, List.set_cons_zero, List.set_cons_succ, List.cons_append, List.nil_append, -getElem?_pos, -getElem?_neg, wT] at hQ
    simp (maxSteps := 2000000) (implicitDefEqProofs := false) [DN, NB, begT, atHead, kd, wantedA, evP, evR, evF, evL, evC, evI, evBin, evUn, evEq, evSt, evRes, plain, scp, scpA, scpL, rdRow, rdCells, veq, veqA, veqL, isHole, Value.cells, evalL, optI, evBounds, evFill, evFillR, evApp, newsOf, wrCells, one1, fitsApp, evClr, undef, onB_bool, List.getElem?_concat_length, List.getElem?_cons_zero, List.getElem?_cons_succ, List.getElem?_toArray, List.getElem?_nil, List.set_cons_zero, List.set_cons_succ, List.cons_append, List.nil_append, -getElem?_pos, -getElem?_neg, wT, lp11_0]
    exact hQ
  have hwr : IntKind.i64.wrap ((t : Int) + 1) = ((t + 1 : Nat) : Int) := by rw [IntWalk.i64_in _ (by omega)]; omega
  obtain ⟨e1, e2, e3, e4⟩ := w_full (n := n) (k := k) hlt
  simp (maxSteps := 2000000) (implicitDefEqProofs := false) [DN, NB, begT, atHead, kd, wantedA, evP, evR, evF, evL, evC, evI, evBin, evUn, evEq, evSt, evRes, plain, scp, scpA, scpL, rdRow, rdCells, veq, veqA, veqL, isHole, Value.cells, evalL, optI, evBounds, evFill, evFillR, evApp, newsOf, wrCells, one1, fitsApp, evClr, undef, onB_bool, List.getElem?_concat_length, List.getElem?_cons_zero, List.getElem?_cons_succ, List.getElem?_toArray, List.getElem?_nil, List.set_cons_zero, List.set_cons_succ, List.cons_append, List.nil_append, -getElem?_pos, -getElem?_neg, wT, lp11_0, hlt]
  refine loop11b n k t hn hk hlt _ _ _ ?_ ?_
  · refine headId (fun _ _ hk => hk) (wH_ok n k _) (fun b hb => by omega) (by simp) rfl fun y' hy => ?_
    simp only [wTi, List.mem_cons, List.not_mem_nil, or_false] at hy
    rcases hy with rfl | rfl | rfl | rfl | rfl | rfl | rfl | rfl | rfl <;> exact ⟨(by simp [GB]), by simp [scp, live, wH, hadB]⟩
  simp (maxSteps := 2000000) (implicitDefEqProofs := false) [DN, NB, begT, atHead, kd, wantedA, evP, evR, evF, evL, evC, evI, evBin, evUn, evEq, evSt, evRes, plain, scp, scpA, scpL, rdRow, rdCells, veq, veqA, veqL, isHole, Value.cells, evalL, optI, evBounds, evFill, evFillR, evApp, newsOf, wrCells, one1, fitsApp, evClr, undef, onB_bool, List.getElem?_concat_length, List.getElem?_cons_zero, List.getElem?_cons_succ, List.getElem?_toArray, List.getElem?_nil, List.set_cons_zero, List.set_cons_succ, List.cons_append, List.nil_append, -getElem?_pos, -getElem?_neg, wTi, wH]
  refine takeG (s := wS n k (t * k + k)) t rfl ?_
  rw [e1, e2, e3]
  simp (maxSteps := 2000000) (implicitDefEqProofs := false) [DN, NB, begT, atHead, kd, wantedA, evP, evR, evF, evL, evC, evI, evBin, evUn, evEq, evSt, evRes, plain, scp, scpA, scpL, rdRow, rdCells, veq, veqA, veqL, isHole, Value.cells, evalL, optI, evBounds, evFill, evFillR, evApp, newsOf, wrCells, one1, fitsApp, evClr, undef, onB_bool, List.getElem?_concat_length, List.getElem?_cons_zero, List.getElem?_cons_succ, List.getElem?_toArray, List.getElem?_nil, List.set_cons_zero, List.set_cons_succ, List.cons_append, List.nil_append, -getElem?_pos, -getElem?_neg]
  refine outG (s := wS n k (t * k + k)) t rfl ?_
  rw [e4]
  simp (maxSteps := 2000000) (implicitDefEqProofs := false) [DN, NB, begT, atHead, kd, wantedA, evP, evR, evF, evL, evC, evI, evBin, evUn, evEq, evSt, evRes, plain, scp, scpA, scpL, rdRow, rdCells, veq, veqA, veqL, isHole, Value.cells, evalL, optI, evBounds, evFill, evFillR, evApp, newsOf, wrCells, one1, fitsApp, evClr, undef, onB_bool, List.getElem?_concat_length, List.getElem?_cons_zero, List.getElem?_cons_succ, List.getElem?_toArray, List.getElem?_nil, List.set_cons_zero, List.set_cons_succ, List.cons_append, List.nil_append, -getElem?_pos, -getElem?_neg, hwr]
  refine nextS.intro (t + 1) (by omega) (by omega) ?_
  rw [Nat.succ_mul]
  refine headId (fun _ _ hk => hk) (wH_ok n k (t * k + k)) (fun b hb => by omega) (by simp) rfl fun y' hy => ?_
  simp only [wT, List.mem_cons, List.not_mem_nil, or_false] at hy
  rcases hy with rfl | rfl | rfl | rfl | rfl | rfl <;> exact ⟨(by simp [GB]), by simp [scp, live, wH, hadB]⟩

end Px
end Go.Proofs.Ytekhadlpcdjlpaa
