/- fifo: Check. -/
import Derived.Test.YtekhadlpcdjlpaaFx5
namespace Go.Proofs.Ytekhadlpcdjlpaa
namespace Fx
open Go Abs Code
set_option linter.unusedVariables false
set_option linter.unusedSimpArgs false
set_option maxRecDepth 100000

def rowOf : List En → List Value
  | [] => []
  | x :: l => .int .i64 x.k :: .int .i64 x.t :: .int .i64 x.now :: rowOf l

theorem rowOf_length (l : List En) : (rowOf l).length = l.length * 3 := by
  induction l with
  | nil => rfl
  | cons x l ih => simp [rowOf, ih]; omega

theorem rowOf_plain (l : List En) : ∀ v ∈ rowOf l, plain v = true := by
  induction l with
  | nil => intro v hv; cases hv
  | cons x l ih =>
    intro v hv
    simp [rowOf] at hv
    rcases hv with rfl | rfl | rfl | hv
    · rfl
    · rfl
    · rfl
    · exact ih v hv

theorem rowOf_at {l : List En} {i : Nat} {x : En} (h : l[i]? = some x) : ((rowOf l).drop (i * 3)).take 3 = [.int .i64 x.k, .int .i64 x.t, .int .i64 x.now] := by
  induction l generalizing i with
  | nil => simp at h
  | cons y l ih =>
    cases i with
    | zero => simp at h; subst h; simp [rowOf]
    | succ i =>
      simp at h
      rw [show (i + 1) * 3 = i * 3 + 1 + 1 + 1 by omega]
      simp only [rowOf, List.drop_succ_cons]
      exact ih h

theorem splice_many (vs : List Value) (o : Nat) (a b : Value) (l : List Value) : splice vs o (a :: b :: l) = vs.take o ++ (a :: b :: l) ++ vs.drop (o + (a :: b :: l).length) := rfl
theorem set_concat {α : Type _} (l : List α) (a b : α) : (l ++ [a]).set l.length b = l ++ [b] := by
  induction l with
  | nil => rfl
  | cons x l ih => simp [ih]

/-- How many fit, for as many threads. -/
def countN (n : Int) (l : List En) : Nat := if 1 ≤ n ∧ n ≤ 64 then countL (newL n) l else 0
def allN (n : Int) (l : List En) : Bool := decide (1 ≤ n ∧ n ≤ 64 ∧ countL (newL n) l = l.length)

theorem takeL_q (s : LS) (x : En) : (takeL s x).q.length ≤ s.q.length + 1 := by
  unfold takeL
  split
  · simp only
    split
    · simp
    · split
      · have := List.length_filter_le (· != x.t) s.q; omega
      · omega
  · omega

def InvC (n : Int) (l : List En) (A : Option Addr) (m cap : Nat) (nn : Nat) (t : T) (h : AH) : Prop := ∃ (s : LS) (i : Nat) (tl : AH) (j2 j3 j8 j9 j10 j11 j12 j13 j14 j15 j16 j20 j21 j22 j23 j24 j25 j26 j27 j28 j29 j30 j31 : Option Value), h = .row (rowOf l) :: .adt (mkADT LS heapL) s :: tl ∧ s.q.length ≤ i ∧ i ≤ m ∧ nn = m - i ∧ countL (newL n) (l.take m) = i + countL s ((l.take m).drop i) ∧ t = [some (.int .i64 n), some (.slice A m cap), j2, j3, some (.int .i64 0), some (.bool false), some (.pointer (some ⟨1, 0, none⟩)), some (.int .i64 0), j8, j9, j10, j11, j12, j13, j14, j15, j16, some (.slice A m cap), some (.int .i64 (m : Nat)), some (.int .i64 (i : Nat)), j20, j21, j22, j23, j24, j25, j26, j27, j28, j29, j30, j31]

set_option maxHeartbeats 4000000 in
theorem check_ (n : Int) (l : List En) (A : Option Addr) (m cap : Nat) (hm : m ≤ l.length) (hl : m ≤ 200) (hA : m = 0 ∨ A = some ⟨0, 0, none⟩) :
    AC Try.prog 72 [.int .i64 n, .slice A m cap] [.row (rowOf l)] (fun v h' => v = .tuple #[.int .i64 (countN n (l.take m)), .bool (allN n (l.take m))] ∧ ∃ tl, h' = .row (rowOf l) :: tl) := by
  by_cases hn : 1 ≤ n ∧ n ≤ 64
  case neg =>
    have e1 : countN n (l.take m) = 0 := by simp [countN, hn]
    have e2 : allN n (l.take m) = false := by unfold allN; rw [decide_eq_false_iff_not]; intro h; exact hn ⟨h.1, h.2.1⟩
    rw [e1, e2]
    refine entry hmix cf72 ?_
    simp (maxSteps := 2000000) (implicitDefEqProofs := false) [DN, NB, begT, atHead, kd, wantedA, evP, evR, evF, evL, evC, evBin, evUn, evEq, evSt, evRes, plain, scp, scpA, scpL, rdRow, rdCells, veq, veqA, veqL, isHole, Value.cells, evalL, optI, evBounds, evFill, evFillR, evApp, newsOf, wrCells, one1, fitsApp, evClr, undef, onB_bool, List.getElem?_concat_length, List.getElem?_cons_zero, List.getElem?_cons_succ, List.getElem?_toArray, List.getElem?_nil, List.set_cons_zero, List.set_cons_succ, List.cons_append, List.nil_append, -getElem?_pos, -getElem?_neg]
    refine entry hmix cf74 ?_
    by_cases a1 : n < 1
    · simp (maxSteps := 2000000) (implicitDefEqProofs := false) [DN, NB, begT, atHead, kd, wantedA, evP, evR, evF, evL, evC, evBin, evUn, evEq, evSt, evRes, plain, scp, scpA, scpL, rdRow, rdCells, veq, veqA, veqL, isHole, Value.cells, evalL, optI, evBounds, evFill, evFillR, evApp, newsOf, wrCells, one1, fitsApp, evClr, undef, onB_bool, List.getElem?_concat_length, List.getElem?_cons_zero, List.getElem?_cons_succ, List.getElem?_toArray, List.getElem?_nil, List.set_cons_zero, List.set_cons_succ, List.cons_append, List.nil_append, -getElem?_pos, -getElem?_neg, a1]
    · have a2 : 64 < n := by omega
      simp (maxSteps := 2000000) (implicitDefEqProofs := false) [DN, NB, begT, atHead, kd, wantedA, evP, evR, evF, evL, evC, evBin, evUn, evEq, evSt, evRes, plain, scp, scpA, scpL, rdRow, rdCells, veq, veqA, veqL, isHole, Value.cells, evalL, optI, evBounds, evFill, evFillR, evApp, newsOf, wrCells, one1, fitsApp, evClr, undef, onB_bool, List.getElem?_concat_length, List.getElem?_cons_zero, List.getElem?_cons_succ, List.getElem?_toArray, List.getElem?_nil, List.set_cons_zero, List.set_cons_succ, List.cons_append, List.nil_append, -getElem?_pos, -getElem?_neg, a1, a2]
  obtain ⟨hn1, hn2⟩ := hn
  have e1 : countN n (l.take m) = countL (newL n) (l.take m) := by simp [countN, hn1, hn2]
  have e2 : allN n (l.take m) = decide (countL (newL n) (l.take m) = m) := by simp [allN, hn1, hn2, List.length_take, Nat.min_eq_left hm]
  rw [e1, e2]
  have hnew := new_ n (rowOf l) (rowOf_plain l) hn1 hn2
  refine entry hmix cf72 ?_
  simp (maxSteps := 2000000) (implicitDefEqProofs := false) [DN, NB, begT, atHead, kd, wantedA, evP, evR, evF, evL, evC, evBin, evUn, evEq, evSt, evRes, plain, scp, scpA, scpL, rdRow, rdCells, veq, veqA, veqL, isHole, Value.cells, evalL, optI, evBounds, evFill, evFillR, evApp, newsOf, wrCells, one1, fitsApp, evClr, undef, onB_bool, List.getElem?_concat_length, List.getElem?_cons_zero, List.getElem?_cons_succ, List.getElem?_toArray, List.getElem?_nil, List.set_cons_zero, List.set_cons_succ, List.cons_append, List.nil_append, -getElem?_pos, -getElem?_neg]
  refine newK n (rowOf l) (rowOf_plain l) hn1 hn2 _ ?_
  simp (maxSteps := 2000000) (implicitDefEqProofs := false) [DN, NB, begT, atHead, kd, wantedA, evP, evR, evF, evL, evC, evBin, evUn, evEq, evSt, evRes, plain, scp, scpA, scpL, rdRow, rdCells, veq, veqA, veqL, isHole, Value.cells, evalL, optI, evBounds, evFill, evFillR, evApp, newsOf, wrCells, one1, fitsApp, evClr, undef, onB_bool, List.getElem?_concat_length, List.getElem?_cons_zero, List.getElem?_cons_succ, List.getElem?_toArray, List.getElem?_nil, List.set_cons_zero, List.set_cons_succ, List.cons_append, List.nil_append, -getElem?_pos, -getElem?_neg]
  refine loop_inv hmix (InvC n l A m cap) (fun n => n) m ⟨newL n, 0, [], _, _, _, _, _, _, _, _, _, _, _, _, _, _, _, _, _, _, _, _, _, _, _, rfl, by simp [newL], by omega, by omega, by simp, rfl⟩ ?_
  rintro nn t h ⟨s, i, tl, j2, j3, j8, j9, j10, j11, j12, j13, j14, j15, j16, j20, j21, j22, j23, j24, j25, j26, j27, j28, j29, j30, j31, rfl, hq, him, rfl, hcount, rfl⟩
  have hlm : (l.take m).length = m := by rw [List.length_take]; omega
  by_cases hlt : i < m
  case neg =>
    have hi : i = m := by omega
    have hlt' : ¬ (i : Int) < m := by omega
    have e3 : countL (newL n) (l.take m) = m := by
      rw [hcount, hi, List.drop_of_length_le (by omega)]
      simp [countL]
    simp (maxSteps := 2000000) (implicitDefEqProofs := false) [DN, NB, begT, atHead, kd, wantedA, evP, evR, evF, evL, evC, evBin, evUn, evEq, evSt, evRes, plain, scp, scpA, scpL, rdRow, rdCells, veq, veqA, veqL, isHole, Value.cells, evalL, optI, evBounds, evFill, evFillR, evApp, newsOf, wrCells, one1, fitsApp, evClr, undef, onB_bool, List.getElem?_concat_length, List.getElem?_cons_zero, List.getElem?_cons_succ, List.getElem?_toArray, List.getElem?_nil, List.set_cons_zero, List.set_cons_succ, List.cons_append, List.nil_append, -getElem?_pos, -getElem?_neg, hlt', e3]
  have hlt' : (i : Int) < m := by omega
  have hi0 : (0 : Int) ≤ i := by omega
  obtain ⟨x, hx⟩ : ∃ x, l[i]? = some x := ⟨_, List.getElem?_eq_getElem (by omega)⟩
  have hrd := rowOf_at hx
  have hfit : i * 3 + 3 ≤ (rowOf l).length := by rw [rowOf_length]; omega
  have hA' : A = some ⟨0, 0, none⟩ := by rcases hA with h | h; · omega
                                         · exact h
  subst hA'
  have hdrop : (l.take m).drop i = x :: (l.take m).drop (i + 1) := by
    have hx' : (l.take m)[i]? = some x := by rw [List.getElem?_take, if_pos hlt]; exact hx
    obtain ⟨hi', e⟩ := List.getElem?_eq_some_iff.1 hx'
    rw [List.drop_eq_getElem_cons hi', e]
  have hwr : IntKind.i64.wrap ((i : Int) + 1) = ((i + 1 : Nat) : Int) := by rw [IntWalk.i64_in _ (by omega)]; omega
  simp (maxSteps := 2000000) (implicitDefEqProofs := false) [DN, NB, begT, atHead, kd, wantedA, evP, evR, evF, evL, evC, evBin, evUn, evEq, evSt, evRes, plain, scp, scpA, scpL, rdRow, rdCells, veq, veqA, veqL, isHole, Value.cells, evalL, optI, evBounds, evFill, evFillR, evApp, newsOf, wrCells, one1, fitsApp, evClr, undef, onB_bool, List.getElem?_concat_length, List.getElem?_cons_zero, List.getElem?_cons_succ, List.getElem?_toArray, List.getElem?_nil, List.set_cons_zero, List.set_cons_succ, List.cons_append, List.nil_append, -getElem?_pos, -getElem?_neg, hlt', hi0, hrd, hfit, set_concat, splice_many]
  refine takeAt_ s (by omega) x _ _ _ ?_
  by_cases hf : fitsL s x = true
  · simp (maxSteps := 2000000) (implicitDefEqProofs := false) [DN, NB, begT, atHead, kd, wantedA, evP, evR, evF, evL, evC, evBin, evUn, evEq, evSt, evRes, plain, scp, scpA, scpL, rdRow, rdCells, veq, veqA, veqL, isHole, Value.cells, evalL, optI, evBounds, evFill, evFillR, evApp, newsOf, wrCells, one1, fitsApp, evClr, undef, onB_bool, List.getElem?_concat_length, List.getElem?_cons_zero, List.getElem?_cons_succ, List.getElem?_toArray, List.getElem?_nil, List.set_cons_zero, List.set_cons_succ, List.cons_append, List.nil_append, -getElem?_pos, -getElem?_neg, hf, hwr]
    refine ⟨m - (i + 1), by omega, takeL s x, i + 1, _, _, _, _, _, _, _, _, _, _, _, _, _, _, _, _, _, _, _, _, _, _, _, _, rfl, ?_, by omega, rfl, ?_, rfl⟩
    · have := takeL_q s x; omega
    · rw [hcount, hdrop]
      simp only [countL, hf, if_true]
      omega
  · have hf' : fitsL s x = false := by simpa using hf
    have e4 : countL (newL n) (l.take m) = i := by
      rw [hcount, hdrop]
      simp [countL, hf']
    have hne : ¬ i = m := by omega
    simp (maxSteps := 2000000) (implicitDefEqProofs := false) [DN, NB, begT, atHead, kd, wantedA, evP, evR, evF, evL, evC, evBin, evUn, evEq, evSt, evRes, plain, scp, scpA, scpL, rdRow, rdCells, veq, veqA, veqL, isHole, Value.cells, evalL, optI, evBounds, evFill, evFillR, evApp, newsOf, wrCells, one1, fitsApp, evClr, undef, onB_bool, List.getElem?_concat_length, List.getElem?_cons_zero, List.getElem?_cons_succ, List.getElem?_toArray, List.getElem?_nil, List.set_cons_zero, List.set_cons_succ, List.cons_append, List.nil_append, -getElem?_pos, -getElem?_neg, hf', e4, hne]

/-- Check, where more stands behind. -/
theorem checkAt_ (n : Int) (l : List En) (A : Option Addr) (m cap : Nat) (hm : m ≤ l.length) (hl : m ≤ 200) (hA : m = 0 ∨ A = some ⟨0, 0, none⟩) (hA2 : A = none ∨ ∃ sp, A = some ⟨0, 0, sp⟩) (tl0 : AH) (K : Value → AH → Prop) (hK : ∀ tl, K (.tuple #[.int .i64 (countN n (l.take m)), .bool (allN n (l.take m))]) (.row (rowOf l) :: tl)) :
    AC Try.prog 72 [.int .i64 n, .slice A m cap] (.row (rowOf l) :: tl0) K := by
  have rr : ∀ σ, (rowOf l).map (ren σ) = rowOf l := fun σ => by
    conv => rhs; rw [← List.map_id (rowOf l)]
    exact List.map_congr_left fun v hv => ren_plain _ v (rowOf_plain l v hv)
  have sb : Sub (fun b => b) [.row (rowOf l)] (.row (rowOf l) :: tl0) := by
    refine ⟨fun j k hj => ?_, fun i j hi hj e => e⟩
    match j with
    | 0 => injection hj with hj; subst hj; simp [renB, rr]
    | n + 1 => simp at hj
  have ok : AOK [ABlk.row (rowOf l)] := by
    intro b k hb
    match b with
    | 0 => injection hb with hb; subst hb; exact fun v hv => scp_mono (fun b hb => by cases hb) v (rowOf_plain l v hv)
    | n + 1 => simp at hb
  have := AC.frame sb ok (by rcases hA2 with rfl | ⟨sp, rfl⟩ <;> simp [scpL, scp, live]) (check_ n l A m cap hm hl hA)
  have e : [Value.int .i64 n, .slice A m cap].map (ren fun b => b) = [.int .i64 n, .slice A m cap] := by rcases hA2 with rfl | ⟨sp, rfl⟩ <;> simp [ren, renA]
  rw [e] at this
  refine this.mono ?_
  rintro v H' ⟨v0, h', ⟨rfl, tl, rfl⟩, _, rfl, rfl⟩
  have e2 : ∀ τ : Nat → Nat, τ = extN (fun b => b) [ABlk.row (rowOf l)].length (ABlk.row (rowOf l) :: tl0).length → glue (fun b => b) [ABlk.row (rowOf l)].length (.row (rowOf l) :: tl0) (.row (rowOf l) :: tl) = .row (rowOf l) :: (tl0 ++ tl.map (renB τ)) := by
    intro τ hτ
    subst hτ
    simp [glue, setAll, extN, renB, rr]
  rw [e2 _ rfl]
  simpa [ren, renAr, renL] using hK _

end Fx
end Go.Proofs.Ytekhadlpcdjlpaa
