/- fifo: the document's answer, walked: Queue. -/
import Derived.Test.YtekhadlpcdjlpaaFx13
import Derived.Test.YtekhadlpcdjlpaaFx11
namespace Go.Proofs.Ytekhadlpcdjlpaa
namespace Fx
open Go Abs Code
set_option linter.unusedVariables false
set_option linter.unusedSimpArgs false
set_option maxRecDepth 100000

/-- A list of numbers that was appended to, nil at first; its block has the number n. -/
def outV (n : Nat) (q : List Int) : Value := if q = [] then .slice none 0 0 else .slice (some ⟨n, 0, none⟩) q.length (OPEN + q.length)
def outH (q : List Int) : AH := if q = [] then [] else [.cells (ints q) 3 (some 1)]
def outIs (k : Nat) (q : List Int) : List Nat := if q = [] then [0] else [0, k]
theorem outH_ok (q : List Int) : ∀ k ∈ outH q, noNames k ∧ k ≠ .hole ∧ ∀ cb, k.reach cb = k.foot cb := by
  intro k hk
  unfold outH at hk
  split at hk
  · cases hk
  · simp at hk; subst hk; exact ⟨ints_noNames _ _ _, by simp, fun _ => rfl⟩
theorem outV_ren (q : List Int) (k : Nat) : ren (nthD (outIs k q)) (outV 1 q) = outV k q := by
  unfold outV outIs
  split <;> simp [ren, renA, nthD, nth]
theorem outIs_0 (q : List Int) (k : Nat) : nthD (outIs k q) 0 = 0 := by
  unfold outIs
  split <;> simp [nthD, nth]
theorem outV_scp (l : List En) (q : List Int) : Abs.scp (live (.row (rowOf l) :: outH q)) (outV 1 q) = true := by
  unfold outV outH
  split <;> simp [Abs.scp, live]

theorem outHead {nt : Nat} {l : List En} {q : List Int} {k : Nat} {tv : List (Nat × Value)} {t' : T} {h' : AH} (hk : k ≠ 0) (h0 : h'[0]? = some (.row (rowOf l))) (h1 : q ≠ [] → h'[k]? = some (.cells (ints q) 3 (some 1))) (e1 : t'.length = nt)
    (e2 : ∀ y ∈ tv, getT t' y.1 = some (ren (nthD (outIs k q)) y.2) ∧ Abs.scp (live (.row (rowOf l) :: outH q)) y.2 = true) : atHeadV 1 nt tv (.row (rowOf l) :: outH q) t' h' := by
  refine headK (outIs k q) ?_ ?_ ?_ (fun b hb => ?_) (by simp) e1 e2
  · unfold outIs outH
    split
    · simp [keepsF, renB_noNames (rowOf_noNames l), h0]
    · rename_i h; simp [keepsF, renB_noNames (rowOf_noNames l), renB_noNames (ints_noNames _ _ _), h0, h1 h]
  · unfold outIs
    split <;> simp <;> omega
  · refine aok_noNames fun k hk => ?_
    rcases List.mem_cons.1 hk with rfl | hk
    · exact rowOf_noNames l
    · exact (outH_ok q k hk).1
  · obtain rfl : b = 0 := by omega
    exact ⟨outIs_0 q k, rfl⟩

def quT (sv : Value) (l : List En) (s : Nat × List Int) : List (Nat × Value) := [(0, sv), (3, outV 1 s.2), (6, sv), (7, .int .i64 l.length), (8, .int .i64 s.1)]

theorem rowOf_drop (l : List En) (j : Nat) : rowOf (l.drop j) = (rowOf l).drop (j * 3) := by
  induction j generalizing l with
  | zero => simp
  | succ j ih =>
    cases l with
    | nil => simp [rowOf]
    | cons x l =>
      rw [List.drop_succ_cons, ih, show (j + 1) * 3 = j * 3 + 1 + 1 + 1 by omega]
      simp only [rowOf, List.drop_succ_cons]

theorem rowAt_drop {l : List En} {i c : Nat} {H : AH} (hi : i < l.length) (hc : l.length ≤ c) (hH : H[0]? = some (.row (rowOf l))) :
    RowAt H (some (if i + 1 < c then ⟨0, (i + 1) * 3, none⟩ else ⟨0, 0, some (2 * ((i + 1) * 3))⟩)) (l.drop (i + 1)).length (rowOf (l.drop (i + 1))) := by
  by_cases h : i + 1 < c
  · rw [if_pos h]
    refine .inr ⟨0, _, none, rfl, .inr ⟨rfl, rowOf l, by simp [rdRow, hH], fun k v hv => ?_⟩⟩
    rw [rowOf_drop, List.getElem?_drop] at hv
    exact hv
  · rw [if_neg h]
    have : l.drop (i + 1) = [] := List.drop_of_length_le (by omega)
    rw [this]
    exact .inr ⟨0, _, _, rfl, .inl ⟨rfl, rfl⟩⟩

theorem rowAt_whole {l : List En} {H : AH} (hH : H[0]? = some (.row (rowOf l))) : RowAt H (some ⟨0, 0, none⟩) l.length (rowOf l) :=
  .inr ⟨0, 0, none, rfl, .inr ⟨rfl, rowOf l, by simp [rdRow, hH], fun k v hv => by simpa using hv⟩⟩

/-- How the cap may be: known from below, or there is nothing. -/
def CapOk (n cap : Nat) : Prop := n = 0 ∨ ∃ c, cap = OPEN + c ∧ n ≤ c

set_option maxHeartbeats 8000000 in
theorem queue13_ (l : List En) (A : Option Addr) (cap : Nat) (hl : l.length ≤ 1000) (hA : RowOne l.length A) (hcap : CapOk l.length cap) : AC Try.prog 78 [.slice A l.length cap] [.row (rowOf l)] (fun v h' => h' = .row (rowOf l) :: outH (queueR l) ∧ v = outV 1 (queueR l)) := by
  refine entry hmix cf78 ?_
  simp (maxSteps := 2000000) (implicitDefEqProofs := false) [DN, NB, begT, atHead, kd, wantedA, evP, evR, evF, evL, evC, evBin, evUn, evEq, evSt, evRes, plain, scp, scpA, scpL, rdRow, rdCells, veq, veqA, veqL, isHole, Value.cells, evalL, optI, evBounds, evFill, evFillR, evApp, newsOf, wrCells, one1, fitsApp, evClr, undef, onB_bool, List.getElem?_concat_length, List.getElem?_cons_zero, List.getElem?_cons_succ, List.getElem?_toArray, List.getElem?_nil, List.set_cons_zero, List.set_cons_succ, List.cons_append, List.nil_append, -getElem?_pos, -getElem?_neg]
  refine loop3 hmix 40 (fun s : Nat × List Int => s.1 ≤ l.length ∧ s.2 ++ queueF l (l.drop s.1) = queueR l ∧ s.2.length ≤ s.1) (fun s => l.length - s.1) (quT (.slice A l.length cap) l) (fun s => .row (rowOf l) :: outH s.2) (0, []) ⟨by simp, by simp [queueR], by simp⟩ (outHead (k := 1) (by simp) rfl (by simp) rfl ?_) ?_
  · have hr : ren (nthD (outIs 1 [])) (.slice A l.length cap) = .slice A l.length cap := by
      rcases hA with ⟨_, rfl | ⟨sp, rfl⟩⟩ | rfl <;> simp [ren, renA, outIs, nthD, nth]
    simp only [quT, List.mem_cons, List.not_mem_nil, or_false]
    rintro y (rfl | rfl | rfl | rfl | rfl)
    · exact ⟨by simp [hr, GB], rowOne_scp hA _⟩
    · exact ⟨(by simp [GB, outV, ren]), rfl⟩
    · exact ⟨by simp [hr, GB], rowOne_scp hA _⟩
    · exact ⟨(by simp [GB, ren]), rfl⟩
    · exact ⟨(by simp [GB, ren]), rfl⟩
  rintro ⟨i, q⟩ ⟨hi, hq, hql⟩
  simp only at hi hq hql
  by_cases hlt : i < l.length
  case neg =>
    have hlt' : ¬ (i : Int) < l.length := by omega
    have e : queueR l = q := by
      rw [List.drop_of_length_le (by omega)] at hq
      simpa [queueF] using hq.symm
    simp (maxSteps := 2000000) (implicitDefEqProofs := false) [DN, NB, begT, atHead, kd, wantedA, evP, evR, evF, evL, evC, evBin, evUn, evEq, evSt, evRes, plain, scp, scpA, scpL, rdRow, rdCells, veq, veqA, veqL, isHole, Value.cells, evalL, optI, evBounds, evFill, evFillR, evApp, newsOf, wrCells, one1, fitsApp, evClr, undef, onB_bool, List.getElem?_concat_length, List.getElem?_cons_zero, List.getElem?_cons_succ, List.getElem?_toArray, List.getElem?_nil, List.set_cons_zero, List.set_cons_succ, List.cons_append, List.nil_append, -getElem?_pos, -getElem?_neg, quT, hlt', e]
  have hlt' : (i : Int) < l.length := by omega
  have hi0 : (0 : Int) ≤ i := by omega
  obtain ⟨x, hx⟩ : ∃ x, l[i]? = some x := ⟨_, List.getElem?_eq_getElem hlt⟩
  have hrd := rowOf_at hx
  have hfitr : i * 3 + 3 ≤ (rowOf l).length := by rw [rowOf_length]; omega
  have hwr : IntKind.i64.wrap ((i : Int) + 1) = (i : Int) + 1 := IntWalk.i64_in _ (by omega)
  have hA' : A = some ⟨0, 0, none⟩ := by
    rcases hA with ⟨h, _⟩ | h
    · omega
    · exact h
  subst hA'
  obtain ⟨c, rfl, hlc⟩ : ∃ c, cap = OPEN + c ∧ l.length ≤ c := by
    rcases hcap with h | h
    · omega
    · exact h
  have hdrop : l.drop i = x :: l.drop (i + 1) := by
    obtain ⟨h1, h2⟩ := List.getElem?_eq_some_iff.1 hx
    rw [List.drop_eq_getElem_cons h1, h2]
  rw [hdrop] at hq
  simp only [queueF] at hq
  have fin : ∀ (q' : List Int) (k : Nat) (t' : T) (h' : AH), q' ++ queueF l (l.drop (i + 1)) = queueR l → q'.length ≤ i + 1 → k ≠ 0 → h'[0]? = some (.row (rowOf l)) → (q' ≠ [] → h'[k]? = some (.cells (ints q') 3 (some 1))) → t'.length = 40 → getT t' 0 = some (.slice (some ⟨0, 0, none⟩) l.length (OPEN + c)) → getT t' 3 = some (outV k q') → getT t' 6 = some (.slice (some ⟨0, 0, none⟩) l.length (OPEN + c)) → getT t' 7 = some (.int .i64 l.length) → getT t' 8 = some (.int .i64 ((i : Int) + 1)) →
      nextS 1 40 (fun s : Nat × List Int => s.1 ≤ l.length ∧ s.2 ++ queueF l (l.drop s.1) = queueR l ∧ s.2.length ≤ s.1) (fun s => l.length - s.1) (quT (.slice (some ⟨0, 0, none⟩) l.length (OPEN + c)) l) (fun s => .row (rowOf l) :: outH s.2) (i, q) t' h' := by
    intro q' k t' h' e0 e00 ek e1 e2 e3 e4 e5 e6 e7 e8
    refine nextS.intro (i + 1, q') (by simp only; omega) ⟨by simp only; omega, e0, e00⟩ (outHead ek e1 e2 e3 ?_)
    simp only [quT, List.mem_cons, List.not_mem_nil, or_false]
    rintro y (rfl | rfl | rfl | rfl | rfl)
    · exact ⟨by rw [e4]; simp [ren, renA, outIs_0], by simp [Abs.scp, live]⟩
    · exact ⟨by rw [e5, outV_ren], outV_scp l q'⟩
    · exact ⟨by rw [e6]; simp [ren, renA, outIs_0], by simp [Abs.scp, live]⟩
    · exact ⟨by rw [e7]; simp [ren], rfl⟩
    · exact ⟨by rw [e8]; simp [ren], rfl⟩
  by_cases hk2 : x.k = 2
  case neg =>
    have b2 : (x.k == 2) = false := by simp [hk2]
    rw [if_neg (by rintro ⟨h, _⟩; exact hk2 h)] at hq
    by_cases hq0 : q = []
    · subst hq0
      simp (maxSteps := 2000000) (implicitDefEqProofs := false) [DN, NB, begT, atHead, kd, wantedA, evP, evR, evF, evL, evC, evBin, evUn, evEq, evSt, evRes, plain, scp, scpA, scpL, rdRow, rdCells, veq, veqA, veqL, isHole, Value.cells, evalL, optI, evBounds, evFill, evFillR, evApp, newsOf, wrCells, one1, fitsApp, evClr, undef, onB_bool, List.getElem?_concat_length, List.getElem?_cons_zero, List.getElem?_cons_succ, List.getElem?_toArray, List.getElem?_nil, List.set_cons_zero, List.set_cons_succ, List.cons_append, List.nil_append, -getElem?_pos, -getElem?_neg, quT, outV, outH, hlt', hi0, hrd, hfitr, set_concat, splice_many, b2, hwr]
      exact fin [] 1 _ _ hq (by omega) (by simp) rfl (by simp) rfl (by simp [GB]) (by simp [GB, outV]) (by simp [GB]) (by simp [GB]) (by simp [GB])
    · simp (maxSteps := 2000000) (implicitDefEqProofs := false) [DN, NB, begT, atHead, kd, wantedA, evP, evR, evF, evL, evC, evBin, evUn, evEq, evSt, evRes, plain, scp, scpA, scpL, rdRow, rdCells, veq, veqA, veqL, isHole, Value.cells, evalL, optI, evBounds, evFill, evFillR, evApp, newsOf, wrCells, one1, fitsApp, evClr, undef, onB_bool, List.getElem?_concat_length, List.getElem?_cons_zero, List.getElem?_cons_succ, List.getElem?_toArray, List.getElem?_nil, List.set_cons_zero, List.set_cons_succ, List.cons_append, List.nil_append, -getElem?_pos, -getElem?_neg, quT, outV, outH, hq0, hlt', hi0, hrd, hfitr, set_concat, splice_many, b2, hwr]
      exact fin q 1 _ _ hq (by omega) (by simp) rfl (fun _ => rfl) rfl (by simp [GB]) (by simp [GB, outV, hq0]) (by simp [GB]) (by simp [GB]) (by simp [GB])
  have b2 : (x.k == 2) = true := by simp [hk2]
  obtain ⟨y, hy⟩ : ∃ y, lastL l x.t = y := ⟨_, rfl⟩
  rw [hy] at hq
  by_cases hy2 : y = 2
  case neg =>
    have by2 : (y == 2) = false := by simp [hy2]
    rw [if_neg (by rintro ⟨_, h, _⟩; exact hy2 h)] at hq
    by_cases hq0 : q = []
    · subst hq0
      simp (maxSteps := 2000000) (implicitDefEqProofs := false) [DN, NB, begT, atHead, kd, wantedA, evP, evR, evF, evL, evC, evBin, evUn, evEq, evSt, evRes, plain, scp, scpA, scpL, rdRow, rdCells, veq, veqA, veqL, isHole, Value.cells, evalL, optI, evBounds, evFill, evFillR, evApp, newsOf, wrCells, one1, fitsApp, evClr, undef, onB_bool, List.getElem?_concat_length, List.getElem?_cons_zero, List.getElem?_cons_succ, List.getElem?_toArray, List.getElem?_nil, List.set_cons_zero, List.set_cons_succ, List.cons_append, List.nil_append, -getElem?_pos, -getElem?_neg, quT, outV, outH, hlt', hi0, hrd, hfitr, set_concat, splice_many, b2]
      refine lastG hl (rowAt_whole rfl) x.t ?_
      rw [hy]
      simp (maxSteps := 2000000) (implicitDefEqProofs := false) [DN, NB, begT, atHead, kd, wantedA, evP, evR, evF, evL, evC, evBin, evUn, evEq, evSt, evRes, plain, scp, scpA, scpL, rdRow, rdCells, veq, veqA, veqL, isHole, Value.cells, evalL, optI, evBounds, evFill, evFillR, evApp, newsOf, wrCells, one1, fitsApp, evClr, undef, onB_bool, List.getElem?_concat_length, List.getElem?_cons_zero, List.getElem?_cons_succ, List.getElem?_toArray, List.getElem?_nil, List.set_cons_zero, List.set_cons_succ, List.cons_append, List.nil_append, -getElem?_pos, -getElem?_neg, by2, hwr]
      exact fin [] 1 _ _ hq (by omega) (by simp) rfl (by simp) rfl (by simp [GB]) (by simp [GB, outV]) (by simp [GB]) (by simp [GB]) (by simp [GB])
    · simp (maxSteps := 2000000) (implicitDefEqProofs := false) [DN, NB, begT, atHead, kd, wantedA, evP, evR, evF, evL, evC, evBin, evUn, evEq, evSt, evRes, plain, scp, scpA, scpL, rdRow, rdCells, veq, veqA, veqL, isHole, Value.cells, evalL, optI, evBounds, evFill, evFillR, evApp, newsOf, wrCells, one1, fitsApp, evClr, undef, onB_bool, List.getElem?_concat_length, List.getElem?_cons_zero, List.getElem?_cons_succ, List.getElem?_toArray, List.getElem?_nil, List.set_cons_zero, List.set_cons_succ, List.cons_append, List.nil_append, -getElem?_pos, -getElem?_neg, quT, outV, outH, hq0, hlt', hi0, hrd, hfitr, set_concat, splice_many, b2]
      refine lastG hl (rowAt_whole rfl) x.t ?_
      rw [hy]
      simp (maxSteps := 2000000) (implicitDefEqProofs := false) [DN, NB, begT, atHead, kd, wantedA, evP, evR, evF, evL, evC, evBin, evUn, evEq, evSt, evRes, plain, scp, scpA, scpL, rdRow, rdCells, veq, veqA, veqL, isHole, Value.cells, evalL, optI, evBounds, evFill, evFillR, evApp, newsOf, wrCells, one1, fitsApp, evClr, undef, onB_bool, List.getElem?_concat_length, List.getElem?_cons_zero, List.getElem?_cons_succ, List.getElem?_toArray, List.getElem?_nil, List.set_cons_zero, List.set_cons_succ, List.cons_append, List.nil_append, -getElem?_pos, -getElem?_neg, by2, hwr]
      exact fin q 1 _ _ hq (by omega) (by simp) rfl (fun _ => rfl) rfl (by simp [GB]) (by simp [GB, outV, hq0]) (by simp [GB]) (by simp [GB]) (by simp [GB])
  subst hy2
  obtain ⟨z, hz⟩ : ∃ z, lastL (l.drop (i + 1)) x.t = z := ⟨_, rfl⟩
  rw [hz] at hq
  have hdl : (l.drop (i + 1)).length = l.length - (i + 1) := by simp
  have hdl2 : (l.drop (i + 1)).length ≤ 1000 := by rw [hdl]; omega
  have a1 : (0 : Int) ≤ (i : Int) + 1 := by omega
  have a2 : (i : Int) + 1 ≤ l.length := by omega
  have a3 : ¬ OPEN + c < OPEN := by omega
  have a4 : OPEN + c - OPEN = c := by omega
  have a5 : ((i : Int) + 1).toNat = i + 1 := by omega
  by_cases hz0 : z = 0
  case neg =>
    have bz : (z == 0) = false := by simp [hz0]
    rw [if_neg (by rintro ⟨_, _, h⟩; exact hz0 h)] at hq
    by_cases hq0 : q = []
    · subst hq0
      simp (maxSteps := 2000000) (implicitDefEqProofs := false) [DN, NB, begT, atHead, kd, wantedA, evP, evR, evF, evL, evC, evBin, evUn, evEq, evSt, evRes, plain, scp, scpA, scpL, rdRow, rdCells, veq, veqA, veqL, isHole, Value.cells, evalL, optI, evBounds, evFill, evFillR, evApp, newsOf, wrCells, one1, fitsApp, evClr, undef, onB_bool, List.getElem?_concat_length, List.getElem?_cons_zero, List.getElem?_cons_succ, List.getElem?_toArray, List.getElem?_nil, List.set_cons_zero, List.set_cons_succ, List.cons_append, List.nil_append, -getElem?_pos, -getElem?_neg, quT, outV, outH, hlt', hi0, hrd, hfitr, set_concat, splice_many, b2]
      refine lastG hl (rowAt_whole rfl) x.t ?_
      rw [hy]
      simp (maxSteps := 2000000) (implicitDefEqProofs := false) [DN, NB, begT, atHead, kd, wantedA, evP, evR, evF, evL, evC, evBin, evUn, evEq, evSt, evRes, plain, scp, scpA, scpL, rdRow, rdCells, veq, veqA, veqL, isHole, Value.cells, evalL, optI, evBounds, evFill, evFillR, evApp, newsOf, wrCells, one1, fitsApp, evClr, undef, onB_bool, List.getElem?_concat_length, List.getElem?_cons_zero, List.getElem?_cons_succ, List.getElem?_toArray, List.getElem?_nil, List.set_cons_zero, List.set_cons_succ, List.cons_append, List.nil_append, -getElem?_pos, -getElem?_neg, hwr, a1, a2, a3, a4, a5, hlc, bnd]
      rw [← hdl]
      refine lastG hdl2 (rowAt_drop hlt hlc rfl) x.t ?_
      rw [hz]
      simp (maxSteps := 2000000) (implicitDefEqProofs := false) [DN, NB, begT, atHead, kd, wantedA, evP, evR, evF, evL, evC, evBin, evUn, evEq, evSt, evRes, plain, scp, scpA, scpL, rdRow, rdCells, veq, veqA, veqL, isHole, Value.cells, evalL, optI, evBounds, evFill, evFillR, evApp, newsOf, wrCells, one1, fitsApp, evClr, undef, onB_bool, List.getElem?_concat_length, List.getElem?_cons_zero, List.getElem?_cons_succ, List.getElem?_toArray, List.getElem?_nil, List.set_cons_zero, List.set_cons_succ, List.cons_append, List.nil_append, -getElem?_pos, -getElem?_neg, bz, hwr]
      exact fin [] 1 _ _ hq (by omega) (by simp) rfl (by simp) rfl (by simp [GB]) (by simp [GB, outV]) (by simp [GB]) (by simp [GB]) (by simp [GB])
    · simp (maxSteps := 2000000) (implicitDefEqProofs := false) [DN, NB, begT, atHead, kd, wantedA, evP, evR, evF, evL, evC, evBin, evUn, evEq, evSt, evRes, plain, scp, scpA, scpL, rdRow, rdCells, veq, veqA, veqL, isHole, Value.cells, evalL, optI, evBounds, evFill, evFillR, evApp, newsOf, wrCells, one1, fitsApp, evClr, undef, onB_bool, List.getElem?_concat_length, List.getElem?_cons_zero, List.getElem?_cons_succ, List.getElem?_toArray, List.getElem?_nil, List.set_cons_zero, List.set_cons_succ, List.cons_append, List.nil_append, -getElem?_pos, -getElem?_neg, quT, outV, outH, hq0, hlt', hi0, hrd, hfitr, set_concat, splice_many, b2]
      refine lastG hl (rowAt_whole rfl) x.t ?_
      rw [hy]
      simp (maxSteps := 2000000) (implicitDefEqProofs := false) [DN, NB, begT, atHead, kd, wantedA, evP, evR, evF, evL, evC, evBin, evUn, evEq, evSt, evRes, plain, scp, scpA, scpL, rdRow, rdCells, veq, veqA, veqL, isHole, Value.cells, evalL, optI, evBounds, evFill, evFillR, evApp, newsOf, wrCells, one1, fitsApp, evClr, undef, onB_bool, List.getElem?_concat_length, List.getElem?_cons_zero, List.getElem?_cons_succ, List.getElem?_toArray, List.getElem?_nil, List.set_cons_zero, List.set_cons_succ, List.cons_append, List.nil_append, -getElem?_pos, -getElem?_neg, hwr, a1, a2, a3, a4, a5, hlc, bnd]
      rw [← hdl]
      refine lastG hdl2 (rowAt_drop hlt hlc rfl) x.t ?_
      rw [hz]
      simp (maxSteps := 2000000) (implicitDefEqProofs := false) [DN, NB, begT, atHead, kd, wantedA, evP, evR, evF, evL, evC, evBin, evUn, evEq, evSt, evRes, plain, scp, scpA, scpL, rdRow, rdCells, veq, veqA, veqL, isHole, Value.cells, evalL, optI, evBounds, evFill, evFillR, evApp, newsOf, wrCells, one1, fitsApp, evClr, undef, onB_bool, List.getElem?_concat_length, List.getElem?_cons_zero, List.getElem?_cons_succ, List.getElem?_toArray, List.getElem?_nil, List.set_cons_zero, List.set_cons_succ, List.cons_append, List.nil_append, -getElem?_pos, -getElem?_neg, bz, hwr]
      exact fin q 1 _ _ hq (by omega) (by simp) rfl (fun _ => rfl) rfl (by simp [GB]) (by simp [GB, outV, hq0]) (by simp [GB]) (by simp [GB]) (by simp [GB])
  subst hz0
  rw [if_pos ⟨hk2, rfl, rfl⟩] at hq
  have hq' : (q ++ [x.t]) ++ queueF l (l.drop (i + 1)) = queueR l := by rw [← hq]; simp
  by_cases hq0 : q = []
  · subst hq0
    simp (maxSteps := 2000000) (implicitDefEqProofs := false) [DN, NB, begT, atHead, kd, wantedA, evP, evR, evF, evL, evC, evBin, evUn, evEq, evSt, evRes, plain, scp, scpA, scpL, rdRow, rdCells, veq, veqA, veqL, isHole, Value.cells, evalL, optI, evBounds, evFill, evFillR, evApp, newsOf, wrCells, one1, fitsApp, evClr, undef, onB_bool, List.getElem?_concat_length, List.getElem?_cons_zero, List.getElem?_cons_succ, List.getElem?_toArray, List.getElem?_nil, List.set_cons_zero, List.set_cons_succ, List.cons_append, List.nil_append, -getElem?_pos, -getElem?_neg, quT, outV, outH, hlt', hi0, hrd, hfitr, set_concat, splice_many, b2]
    refine lastG hl (rowAt_whole rfl) x.t ?_
    rw [hy]
    simp (maxSteps := 2000000) (implicitDefEqProofs := false) [DN, NB, begT, atHead, kd, wantedA, evP, evR, evF, evL, evC, evBin, evUn, evEq, evSt, evRes, plain, scp, scpA, scpL, rdRow, rdCells, veq, veqA, veqL, isHole, Value.cells, evalL, optI, evBounds, evFill, evFillR, evApp, newsOf, wrCells, one1, fitsApp, evClr, undef, onB_bool, List.getElem?_concat_length, List.getElem?_cons_zero, List.getElem?_cons_succ, List.getElem?_toArray, List.getElem?_nil, List.set_cons_zero, List.set_cons_succ, List.cons_append, List.nil_append, -getElem?_pos, -getElem?_neg, hwr, a1, a2, a3, a4, a5, hlc, bnd]
    rw [← hdl]
    refine lastG hdl2 (rowAt_drop hlt hlc rfl) x.t ?_
    rw [hz]
    simp (maxSteps := 2000000) (implicitDefEqProofs := false) [DN, NB, begT, atHead, kd, wantedA, evP, evR, evF, evL, evC, evBin, evUn, evEq, evSt, evRes, plain, scp, scpA, scpL, rdRow, rdCells, veq, veqA, veqL, isHole, Value.cells, evalL, optI, evBounds, evFill, evFillR, evApp, newsOf, wrCells, one1, fitsApp, evClr, undef, onB_bool, List.getElem?_concat_length, List.getElem?_cons_zero, List.getElem?_cons_succ, List.getElem?_toArray, List.getElem?_nil, List.set_cons_zero, List.set_cons_succ, List.cons_append, List.nil_append, -getElem?_pos, -getElem?_neg, hwr]
    exact fin [x.t] 3 _ _ hq' (by simp) (by simp) rfl (fun _ => by simp [ints]) rfl (by simp [GB]) (by simp [GB, outV]) (by simp [GB]) (by simp [GB]) (by simp [GB])
  · have hq1 : q.length ≤ 4294967295 := by omega
    have hq2 : (q.length + 1) * 8 ≤ 140737488355328 := by omega
    have hc1 : ¬ OPEN + q.length < OPEN := by omega
    have hdt' : (ints q).take q.length = ints q := List.take_of_length_le (by rw [ints_length]; omega)
    simp (maxSteps := 2000000) (implicitDefEqProofs := false) [DN, NB, begT, atHead, kd, wantedA, evP, evR, evF, evL, evC, evBin, evUn, evEq, evSt, evRes, plain, scp, scpA, scpL, rdRow, rdCells, veq, veqA, veqL, isHole, Value.cells, evalL, optI, evBounds, evFill, evFillR, evApp, newsOf, wrCells, one1, fitsApp, evClr, undef, onB_bool, List.getElem?_concat_length, List.getElem?_cons_zero, List.getElem?_cons_succ, List.getElem?_toArray, List.getElem?_nil, List.set_cons_zero, List.set_cons_succ, List.cons_append, List.nil_append, -getElem?_pos, -getElem?_neg, quT, outV, outH, hq0, hlt', hi0, hrd, hfitr, set_concat, splice_many, b2]
    refine lastG hl (rowAt_whole rfl) x.t ?_
    rw [hy]
    simp (maxSteps := 2000000) (implicitDefEqProofs := false) [DN, NB, begT, atHead, kd, wantedA, evP, evR, evF, evL, evC, evBin, evUn, evEq, evSt, evRes, plain, scp, scpA, scpL, rdRow, rdCells, veq, veqA, veqL, isHole, Value.cells, evalL, optI, evBounds, evFill, evFillR, evApp, newsOf, wrCells, one1, fitsApp, evClr, undef, onB_bool, List.getElem?_concat_length, List.getElem?_cons_zero, List.getElem?_cons_succ, List.getElem?_toArray, List.getElem?_nil, List.set_cons_zero, List.set_cons_succ, List.cons_append, List.nil_append, -getElem?_pos, -getElem?_neg, hwr, a1, a2, a3, a4, a5, hlc, bnd]
    rw [← hdl]
    refine lastG hdl2 (rowAt_drop hlt hlc rfl) x.t ?_
    rw [hz]
    simp (maxSteps := 2000000) (implicitDefEqProofs := false) [DN, NB, begT, atHead, kd, wantedA, evP, evR, evF, evL, evC, evBin, evUn, evEq, evSt, evRes, plain, scp, scpA, scpL, rdRow, rdCells, veq, veqA, veqL, isHole, Value.cells, evalL, optI, evBounds, evFill, evFillR, evApp, newsOf, wrCells, one1, fitsApp, evClr, undef, onB_bool, List.getElem?_concat_length, List.getElem?_cons_zero, List.getElem?_cons_succ, List.getElem?_toArray, List.getElem?_nil, List.set_cons_zero, List.set_cons_succ, List.cons_append, List.nil_append, -getElem?_pos, -getElem?_neg, hwr, capLow_open, hq1, hq2, hc1, ints_length, hdt']
    exact fin (q ++ [x.t]) 4 _ _ hq' (by simp; omega) (by simp) rfl (fun _ => by simp [ints]) rfl (by simp [GB]) (by simp [GB, outV]) (by simp [GB]) (by simp [GB]) (by simp [GB])

end Fx
end Go.Proofs.Ytekhadlpcdjlpaa
