/- fifo: FifoOne, on the blocks. -/
import Derived.Test.YtekhadlpcdjlpaaFx7
import Derived.Test.YtekhadlpcdjlpaaFx8
import Derived.Test.YtekhadlpcdjlpaaAbs25
namespace Go.Proofs.Ytekhadlpcdjlpaa
namespace Fx
open Go Abs Code
set_option linter.unusedVariables false
set_option linter.unusedSimpArgs false
set_option maxRecDepth 100000

theorem rowOf_noNames (l : List En) : noNames (.row (rowOf l)) := rowOf_plain l
theorem ints_plain (l : List Int) : ∀ v ∈ ints l, plain v = true := by
  intro v hv
  obtain ⟨x, _, rfl⟩ := List.mem_map.1 hv
  rfl
theorem ints_noNames (l : List Int) (e : TypeId) (o : Option Nat) : noNames (.cells (ints l) e o) := ints_plain l

theorem checkX_ (n : Int) (l : List En) (A : Option Addr) (m cap : Nat) (hm : m ≤ l.length) (hl : m ≤ 200) (hA : m = 0 ∨ A = some ⟨0, 0, none⟩) :
    AC Try.prog 72 [.int .i64 n, .slice A m cap] [.row (rowOf l)] (fun v h' => v = .tuple #[.int .i64 (countN n (l.take m)), .bool (allN n (l.take m))] ∧ h' = [.row (rowOf l)]) := by
  refine AC.cut ((check_ n l A m cap hm hl hA).mono ?_)
  rintro v h' ⟨rfl, tl, rfl⟩
  refine ⟨[.row (rowOf l)], rfl, AOK.of ⟨scp_noNames (rowOf_noNames l) _, trivial⟩, rfl, Nat.le_refl _, fun b hb => ?_, rfl, rfl⟩
  simp at hb
  subst hb
  rfl

/-- The queue, as the law keeps it. -/
inductive QR where
  | nil
  | at_ (pre q : List Int)
  | emp (pre : List Int) (x : Int)
def QR.v : QR → Value
  | .nil => .slice none 0 0
  | .at_ pre q => .slice (some ⟨1, pre.length, none⟩) q.length (OPEN + q.length)
  | .emp pre x => .slice (some ⟨1, pre.length, some 2⟩) 0 OPEN
def QR.l : QR → List Int
  | .nil => []
  | .at_ _ q => q
  | .emp _ _ => []
def QR.h : QR → AH
  | .nil => []
  | .at_ pre q => [.cells (ints (pre ++ q)) 3 (some 1)]
  | .emp pre x => [.cells (ints (pre ++ [x])) 3 (some 1)]

def oneI (s0 : LS) (l : List En) (c : Nat) (s : Nat × QR) : Prop := s.1 ≤ c ∧ s.2.l = (afterL s0 (l.take s.1)).q
def oneT (s0 : LS) (l : List En) (c : Nat) (sv : Value) (s : Nat × QR) : List (Nat × Value) := [(7, s.2.v), (8, .int .i64 (afterL s0 (l.take s.1)).own), (30, sv), (31, .int .i64 c), (32, .int .i64 s.1)]
def oneH (l : List En) (s : Nat × QR) : AH := .row (rowOf l) :: s.2.h

def QR.vAt (j : Nat) : QR → Value
  | .nil => .slice none 0 0
  | .at_ pre q => .slice (some ⟨j, pre.length, none⟩) q.length (OPEN + q.length)
  | .emp pre x => .slice (some ⟨j, pre.length, some 2⟩) 0 OPEN
def QR.is (j : Nat) : QR → List Nat
  | .nil => [0]
  | _ => [0, j]
theorem QR.ren_v (r : QR) (j : Nat) : ren (nthD (r.is j)) r.v = r.vAt j := by cases r <;> simp [QR.v, QR.vAt, QR.is, ren, renA, nthD, nth]
theorem QR.scp_v (l : List En) (r : QR) (i : Nat) : scp (live (oneH l (i, r))) r.v = true := by cases r <;> simp [QR.v, oneH, QR.h, scp, live]
theorem nthD_0 (r : QR) (j : Nat) : nthD (r.is j) 0 = 0 := by cases r <;> simp [QR.is, nthD, nth]
theorem oneH_live (l : List En) (i : Nat) (r : QR) : live (oneH l (i, r)) 0 = true := rfl

theorem headR (l : List En) (r' : QR) (j : Nat) (t' : T) (h' : AH) {i : Nat} (tv : List (Nat × Value)) (e1 : t'.length = 92) (e2 : h'[0]? = some (.row (rowOf l))) (e3 : ∀ k, r'.h[0]? = some k → h'[j]? = some k) (e4 : j ≠ 0)
    (ht : ∀ x ∈ tv, getT t' x.1 = some (ren (nthD (r'.is j)) x.2) ∧ scp (live (oneH l (i, r'))) x.2 = true) : atHeadV 1 92 tv (oneH l (i, r')) t' h' := by
  refine headK (r'.is j) ?_ (by cases r' <;> simp [QR.is] <;> omega) ?_ ?_ ?_ e1 ht
  · cases r' with
    | nil => simp [keepsF, oneH, QR.h, QR.is, renB_noNames (rowOf_noNames l), e2]
    | at_ pre q => simp [keepsF, oneH, QR.h, QR.is, renB_noNames (rowOf_noNames l), renB_noNames (ints_noNames _ _ _), e2, e3 _ rfl]
    | emp pre y => simp [keepsF, oneH, QR.h, QR.is, renB_noNames (rowOf_noNames l), renB_noNames (ints_noNames _ _ _), e2, e3 _ rfl]
  · cases r' with
    | nil => exact AOK.of ⟨scp_noNames (rowOf_noNames l) _, trivial⟩
    | at_ pre q => exact AOK.of ⟨scp_noNames (rowOf_noNames l) _, scp_noNames (ints_noNames _ _ _) _, trivial⟩
    | emp pre y => exact AOK.of ⟨scp_noNames (rowOf_noNames l) _, scp_noNames (ints_noNames _ _ _) _, trivial⟩
  · intro b hb
    obtain rfl : b = 0 := by omega
    exact ⟨nthD_0 r' j, rfl⟩
  · simp [oneH]

theorem oneI_pos {s0 : LS} {l : List En} {c i : Nat} {r : QR} (h : oneI s0 l c (i, r)) : i ≤ c ∧ r.l = (afterL s0 (l.take i)).q := h

theorem afterL_step {s0 : LS} {l : List En} {i : Nat} {x : En} (hx : l[i]? = some x) : afterL s0 (l.take (i + 1)) = takeL (afterL s0 (l.take i)) x := by
  rw [List.take_add_one, hx]
  exact afterL_snoc _ _ _

/-- What is left of the queue, as the law builds it. -/
abbrev LR := Option (List Int)
def LR.l (r : LR) : List Int := r.getD []
def LR.v : LR → Value
  | none => .slice none 0 0
  | some v => .slice (some ⟨3, 0, none⟩) v.length (OPEN + v.length)
def LR.h : LR → AH
  | none => []
  | some v => [.cells (ints v) 3 (some 1)]
def inT (q : List Int) (pre : List Int) (own : Int) (sv : Value) (c i : Nat) (s : Nat × LR) : List (Nat × Value) := [(8, .int .i64 own), (10, .pointer (some ⟨2, 0, none⟩)), (11, LR.v s.2), (30, sv), (31, .int .i64 c), (32, .int .i64 i), (68, .slice (some ⟨1, pre.length, none⟩) q.length (OPEN + q.length)), (69, .int .i64 q.length), (70, .int .i64 s.1)]
def inH (l : List En) (pre q : List Int) (x : En) (s : Nat × LR) : AH := .row (rowOf l) :: .cells (ints (pre ++ q)) 3 (some 1) :: .cells [.int .i64 x.k, .int .i64 x.t, .int .i64 x.now] 122 none :: LR.h s.2

def LR.vAt (k : Nat) : LR → Value
  | none => .slice none 0 0
  | some v => .slice (some ⟨k, 0, none⟩) v.length (OPEN + v.length)
def LR.is (k : Nat) : LR → List Nat
  | none => [0, 1, 2]
  | some _ => [0, 1, 2, k]
theorem LR.ren_v (r : LR) (k : Nat) : ren (nthD (LR.is k r)) (LR.v r) = LR.vAt k r := by cases r <;> simp [LR.v, LR.vAt, LR.is, ren, renA, nthD, nth]
theorem LR.nthD_s (r : LR) (k : Nat) : nthD (LR.is k r) 0 = 0 ∧ nthD (LR.is k r) 1 = 1 ∧ nthD (LR.is k r) 2 = 2 := by cases r <;> simp [LR.is, nthD, nth]
theorem LR.scp_v (l : List En) (pre q : List Int) (x : En) (r : LR) (j : Nat) : scp (live (inH l pre q x (j, r))) (LR.v r) = true := by cases r <;> simp [LR.v, inH, LR.h, scp, live]

theorem headI (l : List En) (pre q : List Int) (x : En) (own : Int) (sv : Value) (c i : Nat) (hsv : ∀ g : AH, scp (live (.row (rowOf l) :: g)) sv = true) (hsr : ∀ is, ren (nthD (0 :: is)) sv = sv) (lf' : LR) (k : Nat) (t' : T) (h' : AH) {j : Nat} (e1 : t'.length = 92) (ek : 2 < k) (e2 : h'[0]? = some (.row (rowOf l))) (e3 : h'[1]? = some (.cells (ints (pre ++ q)) 3 (some 1))) (e4 : h'[2]? = some (.cells [.int .i64 x.k, .int .i64 x.t, .int .i64 x.now] 122 none)) (e5 : ∀ b, (LR.h lf')[0]? = some b → h'[k]? = some b)
    (e6 : getT t' 11 = some (LR.vAt k lf')) (e7 : ∀ y ∈ inT q pre own sv c i (j, lf'), y.1 ≠ 11 → getT t' y.1 = some y.2) : atHeadV 1 92 (inT q pre own sv c i (j, lf')) (inH l pre q x (j, lf')) t' h' := by
  have hbx : noNames (.cells [.int .i64 x.k, .int .i64 x.t, .int .i64 x.now] 122 none) := by intro v hv; simp at hv; rcases hv with rfl | rfl | rfl <;> rfl
  obtain ⟨n0, n1, n2⟩ := LR.nthD_s lf' k
  have hsr' : ren (nthD (LR.is k lf')) sv = sv := by cases lf' <;> exact hsr _
  refine headK (LR.is k lf') ?_ (by cases lf' <;> simp [LR.is] <;> omega) ?_ ?_ (by simp [inH]) e1 ?_
  · cases lf' with
    | none => simp [keepsF, inH, LR.h, LR.is, renB_noNames (rowOf_noNames l), renB_noNames (ints_noNames _ _ _), renB_noNames hbx, e2, e3, e4]
    | some w => simp [keepsF, inH, LR.h, LR.is, renB_noNames (rowOf_noNames l), renB_noNames (ints_noNames _ _ _), renB_noNames hbx, e2, e3, e4, e5 _ rfl]
  · cases lf' with
    | none => exact AOK.of ⟨scp_noNames (rowOf_noNames l) _, scp_noNames (ints_noNames _ _ _) _, scp_noNames hbx _, trivial⟩
    | some w => exact AOK.of ⟨scp_noNames (rowOf_noNames l) _, scp_noNames (ints_noNames _ _ _) _, scp_noNames hbx _, scp_noNames (ints_noNames _ _ _) _, trivial⟩
  · intro b hb
    obtain rfl : b = 0 := by omega
    exact ⟨n0, rfl⟩
  · intro y hy
    have h7 := e7 y hy
    simp only [inT, List.mem_cons, List.not_mem_nil, or_false] at hy
    rcases hy with rfl | rfl | rfl | rfl | rfl | rfl | rfl | rfl | rfl
    case inr.inr.inl => exact ⟨by rw [LR.ren_v]; exact e6, LR.scp_v l pre q x lf' j⟩
    all_goals (rw [h7 (by simp)])
    case inr.inr.inr.inl => exact ⟨by rw [hsr'], hsv _⟩
    all_goals simp [ren, renA, scp, n1, n2, inH, live]

set_option maxHeartbeats 4000000 in
/-- The law's loop that leaves one out of the queue. -/
theorem loop18b (l : List En) (pre q : List Int) (x : En) (own : Int) (sv : Value) (c i : Nat) (hq : q.length ≤ 200) (hsv : ∀ g : AH, scp (live (.row (rowOf l) :: g)) sv = true) (hsr : ∀ is, ren (nthD (0 :: is)) sv = sv) (t : T) (h : AH) (Q : AExit → T → AH → Prop)
    (h0 : atHeadV 1 92 (inT q pre own sv c i (0, none)) (inH l pre q x (0, none)) t h)
    (hQ : ∀ lf : LR, LR.l lf = q.filter (· != x.t) → Q (.exit 3) (mkT 92 ((71, .bool false) :: inT q pre own sv c i (q.length, lf))) (inH l pre q x (q.length, lf))) : ALoop Try.prog 1 lp18_1 t h Q := by
  refine loop3 hmix 92 (fun s : Nat × LR => s.1 ≤ q.length ∧ LR.l s.2 = (q.take s.1).filter (· != x.t)) (fun s => q.length - s.1) (inT q pre own sv c i) (inH l pre q x) (0, none) ⟨by simp, by simp [LR.l]⟩ h0 ?_
  rintro ⟨j, lf⟩ ⟨hj, hlf⟩
  simp only at hj hlf
  by_cases hlt : j < q.length
  case neg =>
    obtain rfl : j = q.length := by omega
    have hlt' : ¬ (q.length : Int) < q.length := by omega
    rw [List.take_length] at hlf
    have hq := hQ lf hlf
    simp (maxSteps := 2000000) (implicitDefEqProofs := false) [DN, NB, begT, atHead, kd, wantedA, evP, evR, evF, evL, evC, evBin, evUn, evEq, evSt, evRes, plain, scp, scpA, scpL, rdRow, rdCells, veq, veqA, veqL, isHole, Value.cells, evalL, optI, evBounds, evFill, evFillR, evApp, newsOf, wrCells, one1, fitsApp, evClr, undef, onB_bool, List.getElem?_concat_length, List.getElem?_cons_zero, List.getElem?_cons_succ, List.getElem?_toArray, List.getElem?_nil, List.set_cons_zero, List.set_cons_succ, List.cons_append, List.nil_append, -getElem?_pos, -getElem?_neg, inT] at hq
    simp (maxSteps := 2000000) (implicitDefEqProofs := false) [DN, NB, begT, atHead, kd, wantedA, evP, evR, evF, evL, evC, evBin, evUn, evEq, evSt, evRes, plain, scp, scpA, scpL, rdRow, rdCells, veq, veqA, veqL, isHole, Value.cells, evalL, optI, evBounds, evFill, evFillR, evApp, newsOf, wrCells, one1, fitsApp, evClr, undef, onB_bool, List.getElem?_concat_length, List.getElem?_cons_zero, List.getElem?_cons_succ, List.getElem?_toArray, List.getElem?_nil, List.set_cons_zero, List.set_cons_succ, List.cons_append, List.nil_append, -getElem?_pos, -getElem?_neg, inT, lp18_1]
    exact hq
  obtain ⟨v, hv⟩ : ∃ v, q[j]? = some v := ⟨_, List.getElem?_eq_getElem hlt⟩
  have hget : (ints (pre ++ q))[pre.length + j]? = some (.int .i64 v) := by rw [ints_get, List.getElem?_append_right (by omega), Nat.add_sub_cancel_left, hv]; rfl
  have hlt' : (j : Int) < q.length := by omega
  have hj0 : (0 : Int) ≤ j := by omega
  have hwr : IntKind.i64.wrap ((j : Int) + 1) = ((j + 1 : Nat) : Int) := by rw [IntWalk.i64_in _ (by omega)]; omega
  have htj : q.take (j + 1) = q.take j ++ [v] := by rw [List.take_add_one, hv]; rfl
  have fin : ∀ (lf' : LR) (k : Nat) (t' : T) (h' : AH), LR.l lf' = (q.take (j + 1)).filter (· != x.t) → t'.length = 92 → 2 < k → h'[0]? = some (.row (rowOf l)) → h'[1]? = some (.cells (ints (pre ++ q)) 3 (some 1)) → h'[2]? = some (.cells [.int .i64 x.k, .int .i64 x.t, .int .i64 x.now] 122 none) → (∀ b, (LR.h lf')[0]? = some b → h'[k]? = some b) →
      getT t' 11 = some (LR.vAt k lf') → (∀ y ∈ inT q pre own sv c i (j + 1, lf'), y.1 ≠ 11 → getT t' y.1 = some y.2) → nextS 1 92 (fun s : Nat × LR => s.1 ≤ q.length ∧ LR.l s.2 = (q.take s.1).filter (· != x.t)) (fun s => q.length - s.1) (inT q pre own sv c i) (inH l pre q x) (j, lf) t' h' := by
    intro lf' k t' h' e0 e1 ek e2 e3 e4 e5 e6 e7
    refine nextS.intro (j + 1, lf') (by simp only; omega) ⟨by simp only; omega, e0⟩ ?_
    exact headI l pre q x own sv c i hsv hsr lf' k t' h' e1 ek e2 e3 e4 e5 e6 e7
  by_cases hvx : v = x.t
  · have hb : (v != x.t) = false := by simp [hvx]
    have hfl : (q.take (j + 1)).filter (· != x.t) = (q.take j).filter (· != x.t) := by rw [htj]; simp [hvx]
    cases lf with
    | none =>
      simp (maxSteps := 2000000) (implicitDefEqProofs := false) [DN, NB, begT, atHead, kd, wantedA, evP, evR, evF, evL, evC, evBin, evUn, evEq, evSt, evRes, plain, scp, scpA, scpL, rdRow, rdCells, veq, veqA, veqL, isHole, Value.cells, evalL, optI, evBounds, evFill, evFillR, evApp, newsOf, wrCells, one1, fitsApp, evClr, undef, onB_bool, List.getElem?_concat_length, List.getElem?_cons_zero, List.getElem?_cons_succ, List.getElem?_toArray, List.getElem?_nil, List.set_cons_zero, List.set_cons_succ, List.cons_append, List.nil_append, -getElem?_pos, -getElem?_neg, inT, inH, LR.v, LR.h, lp18_1, hlt', hj0, hget, hb, hwr]
      exact fin none 3 _ _ (by rw [hfl, hlf]) rfl (by simp) rfl rfl rfl (by simp [LR.h]) (by simp [GB, LR.vAt]) (by simp [inT, GB])
    | some w =>
      simp (maxSteps := 2000000) (implicitDefEqProofs := false) [DN, NB, begT, atHead, kd, wantedA, evP, evR, evF, evL, evC, evBin, evUn, evEq, evSt, evRes, plain, scp, scpA, scpL, rdRow, rdCells, veq, veqA, veqL, isHole, Value.cells, evalL, optI, evBounds, evFill, evFillR, evApp, newsOf, wrCells, one1, fitsApp, evClr, undef, onB_bool, List.getElem?_concat_length, List.getElem?_cons_zero, List.getElem?_cons_succ, List.getElem?_toArray, List.getElem?_nil, List.set_cons_zero, List.set_cons_succ, List.cons_append, List.nil_append, -getElem?_pos, -getElem?_neg, inT, inH, LR.v, LR.h, lp18_1, hlt', hj0, hget, hb, hwr]
      exact fin (some w) 3 _ _ (by rw [hfl, hlf]) rfl (by simp) rfl rfl rfl (by simp [LR.h]) (by simp [GB, LR.vAt]) (by simp [inT, GB])
  · have hb : (v != x.t) = true := by simp [hvx]
    have hfl : (q.take (j + 1)).filter (· != x.t) = (q.take j).filter (· != x.t) ++ [v] := by rw [htj]; simp [hvx]
    cases lf with
    | none =>
      simp only [LR.l, Option.getD_none] at hlf
      simp (maxSteps := 2000000) (implicitDefEqProofs := false) [DN, NB, begT, atHead, kd, wantedA, evP, evR, evF, evL, evC, evBin, evUn, evEq, evSt, evRes, plain, scp, scpA, scpL, rdRow, rdCells, veq, veqA, veqL, isHole, Value.cells, evalL, optI, evBounds, evFill, evFillR, evApp, newsOf, wrCells, one1, fitsApp, evClr, undef, onB_bool, List.getElem?_concat_length, List.getElem?_cons_zero, List.getElem?_cons_succ, List.getElem?_toArray, List.getElem?_nil, List.set_cons_zero, List.set_cons_succ, List.cons_append, List.nil_append, -getElem?_pos, -getElem?_neg, inT, inH, LR.v, LR.h, lp18_1, hlt', hj0, hget, hb, hwr]
      exact fin (some [v]) 4 _ _ (by rw [hfl, ← hlf]; rfl) rfl (by simp) rfl rfl rfl (by simp [LR.h, ints]) (by simp [GB, LR.vAt]) (by simp [inT, GB])
    | some w =>
      simp only [LR.l, Option.getD_some] at hlf
      have hwl : w.length ≤ 200 := by
        rw [hlf]
        have := List.length_filter_le (· != x.t) (q.take j)
        rw [List.length_take] at this
        omega
      have hq1 : w.length ≤ 4294967295 := by omega
      have hq2 : (w.length + 1) * 8 ≤ 140737488355328 := by omega
      have hc1 : ¬ OPEN + w.length < OPEN := by omega
      have hc2 : OPEN + w.length - OPEN = w.length := by omega
      have hdt : ((ints w).drop 0).take w.length = ints w := by
        rw [List.drop_zero]
        exact List.take_of_length_le (by rw [ints_length]; omega)
      have hdt' : (ints w).take w.length = ints w := List.take_of_length_le (by rw [ints_length]; omega)
      simp (maxSteps := 2000000) (implicitDefEqProofs := false) [DN, NB, begT, atHead, kd, wantedA, evP, evR, evF, evL, evC, evBin, evUn, evEq, evSt, evRes, plain, scp, scpA, scpL, rdRow, rdCells, veq, veqA, veqL, isHole, Value.cells, evalL, optI, evBounds, evFill, evFillR, evApp, newsOf, wrCells, one1, fitsApp, evClr, undef, onB_bool, List.getElem?_concat_length, List.getElem?_cons_zero, List.getElem?_cons_succ, List.getElem?_toArray, List.getElem?_nil, List.set_cons_zero, List.set_cons_succ, List.cons_append, List.nil_append, -getElem?_pos, -getElem?_neg, inT, inH, LR.v, LR.h, lp18_1, hlt', hj0, hget, hb, hwr, capLow_open, hq1, hq2, hc1, hc2, ints_length, hdt']
      exact fin (some (w ++ [v])) 5 _ _ (by rw [hfl, ← hlf]; rfl) rfl (by simp) rfl rfl rfl (by simp [LR.h, ints]) (by simp [GB, LR.vAt]) (by simp [inT, GB])

set_option maxHeartbeats 8000000 in
/-- The law's loop over the entries that fit. -/
theorem loop18 (s0 : LS) (l : List En) (c : Nat) (hcl : c ≤ l.length) (hl : l.length ≤ 200) (hfit : ∀ (i : Nat) (x : En), i < c → l[i]? = some x → fitsL (afterL s0 (l.take i)) x = true) (good : ∀ i, GoodL (afterL s0 (l.take i))) (ok : ∀ i, OkL (afterL s0 (l.take i)))
    (A : Option Addr) (cap : Nat) (hA : c = 0 ∨ A = some ⟨0, 0, none⟩) (t : T) (h : AH) (Q : AExit → T → AH → Prop)
    (h0 : atHeadV 1 92 (oneT s0 l c (.slice A c cap) (0, .nil)) (oneH l (0, .nil)) t h) (hq0 : s0.q = []) (hlen : ∀ i, (afterL s0 (l.take i)).q.length ≤ i)
    (hQ : ∀ s, oneI s0 l c s → Q (.exit 0) (mkT 92 ((33, .bool false) :: oneT s0 l c (.slice A c cap) s)) (oneH l s)) : ALoop Try.prog 1 lp18_0 t h Q := by
  refine loop3 hmix 92 (oneI s0 l c) (fun s => c - s.1) (oneT s0 l c (.slice A c cap)) (oneH l) (0, .nil) ⟨by simp, by simp [QR.l, afterL, hq0]⟩ h0 ?_
  rintro ⟨i, r⟩ hI
  obtain ⟨hi, hr⟩ := oneI_pos hI
  by_cases hlt : i < c
  case neg =>
    have hlt' : ¬ (i : Int) < c := by omega
    have hq := hQ _ hI
    simp (maxSteps := 2000000) (implicitDefEqProofs := false) [DN, NB, begT, atHead, kd, wantedA, evP, evR, evF, evL, evC, evBin, evUn, evEq, evSt, evRes, plain, scp, scpA, scpL, rdRow, rdCells, veq, veqA, veqL, isHole, Value.cells, evalL, optI, evBounds, evFill, evFillR, evApp, newsOf, wrCells, one1, fitsApp, evClr, undef, onB_bool, List.getElem?_concat_length, List.getElem?_cons_zero, List.getElem?_cons_succ, List.getElem?_toArray, List.getElem?_nil, List.set_cons_zero, List.set_cons_succ, List.cons_append, List.nil_append, -getElem?_pos, -getElem?_neg, oneT] at hq
    simp (maxSteps := 2000000) (implicitDefEqProofs := false) [DN, NB, begT, atHead, kd, wantedA, evP, evR, evF, evL, evC, evBin, evUn, evEq, evSt, evRes, plain, scp, scpA, scpL, rdRow, rdCells, veq, veqA, veqL, isHole, Value.cells, evalL, optI, evBounds, evFill, evFillR, evApp, newsOf, wrCells, one1, fitsApp, evClr, undef, onB_bool, List.getElem?_concat_length, List.getElem?_cons_zero, List.getElem?_cons_succ, List.getElem?_toArray, List.getElem?_nil, List.set_cons_zero, List.set_cons_succ, List.cons_append, List.nil_append, -getElem?_pos, -getElem?_neg, oneT, hlt', lp18_0]
    exact hq
  have hA' : A = some ⟨0, 0, none⟩ := by rcases hA with h | h; · omega
                                         · exact h
  subst hA'
  obtain ⟨x, hx⟩ : ∃ x, l[i]? = some x := ⟨_, List.getElem?_eq_getElem (by omega)⟩
  have hf := hfit i x hlt hx
  have g := good i
  have okl := ok i
  have hs' := afterL_step (s0 := s0) hx
  obtain ⟨s, hs⟩ : ∃ s, afterL s0 (l.take i) = s := ⟨_, rfl⟩
  rw [hs] at hf g okl hs' hr
  obtain ⟨p1, p2, p3, p4, p5, p6⟩ := fitsL_parts hf
  have hlt' : (i : Int) < c := by omega
  have hi0 : (0 : Int) ≤ i := by omega
  have hrd := rowOf_at hx
  have hfitr : i * 3 + 3 ≤ (rowOf l).length := by rw [rowOf_length]; omega
  have hwr : IntKind.i64.wrap ((i : Int) + 1) = ((i + 1 : Nat) : Int) := by rw [IntWalk.i64_in _ (by omega)]; omega
  have hmemq : x.k = 3 ∨ x.k = 4 → x.t ∈ s.q := by
    intro h34
    have hw : (wayOf x.k).1 = 2 := by rcases h34 with h | h <;> (rw [h]; rfl)
    have := okl.que x.t.toNat (by rw [p5, hw])
    rwa [Int.toNat_of_nonneg p2] at this
  -- how a round ends
  have fin : ∀ (r' : QR) (j : Nat) (t' : T) (h' : AH), r'.l = (takeL s x).q → t'.length = 92 → h'[0]? = some (.row (rowOf l)) → (∀ k, r'.h[0]? = some k → h'[j]? = some k) → j ≠ 0 → getT t' 7 = some (r'.vAt j) → getT t' 8 = some (.int .i64 (takeL s x).own) → getT t' 30 = some (.slice (some ⟨0, 0, none⟩) c cap) → getT t' 31 = some (.int .i64 c) → getT t' 32 = some (.int .i64 ((i + 1 : Nat) : Int)) →
      nextS 1 92 (oneI s0 l c) (fun s => c - s.1) (oneT s0 l c (.slice (some ⟨0, 0, none⟩) c cap)) (oneH l) (i, r) t' h' := by
    intro r' j t' h' e e1 e2 e3 e4 e5 e6 e7 e8 e9
    refine nextS.intro (i + 1, r') (by simp only; omega) ⟨by simp only; omega, by simp only; rw [hs', e]⟩ ?_
    exact headR l r' j t' h' _ e1 e2 e3 e4 (by simp only [oneT, hs', e5, e6, e7, e8, e9, List.mem_cons, List.not_mem_nil, or_false]; rintro y (rfl | rfl | rfl | rfl | rfl) <;> simp [QR.ren_v, QR.scp_v, e5, e6, e7, e8, e9, e4, ren, scp, renA, nthD_0, oneH_live])
  have hql : s.q.length ≤ 200 := by have := hlen i; rw [hs] at this; omega
  have hown_i : ((wayOf x.k).1 = 3 ∨ (wayOf x.k).1 = 4 ∨ (wayOf x.k).1 = 6) → s.own = x.t := by
    intro h
    have := (g.own x.t.toNat).1 ⟨_, p5, h⟩
    omega
  have hdt : ∀ (pre q : List Int), ((ints (pre ++ q)).drop pre.length).take q.length = ints q := by
    intro pre q
    simp [ints, List.map_drop, List.map_take, List.drop_append]
    exact List.take_of_length_le (by simp)
  by_cases hk2 : x.k = 2
  · have b2 : (x.k == 2) = true := by simp [hk2]
    have hqq : (takeL s x).q = s.q ++ [x.t] := by simp [takeL, hf, hk2]
    have hown : (takeL s x).own = s.own := by simp [takeL, hf, hk2]
    cases r with
    | nil =>
      simp only [QR.l] at hr
      simp (maxSteps := 2000000) (implicitDefEqProofs := false) [DN, NB, begT, atHead, kd, wantedA, evP, evR, evF, evL, evC, evBin, evUn, evEq, evSt, evRes, plain, scp, scpA, scpL, rdRow, rdCells, veq, veqA, veqL, isHole, Value.cells, evalL, optI, evBounds, evFill, evFillR, evApp, newsOf, wrCells, one1, fitsApp, evClr, undef, onB_bool, List.getElem?_concat_length, List.getElem?_cons_zero, List.getElem?_cons_succ, List.getElem?_toArray, List.getElem?_nil, List.set_cons_zero, List.set_cons_succ, List.cons_append, List.nil_append, -getElem?_pos, -getElem?_neg, oneT, oneH, QR.v, QR.h, hs, hlt', lp18_0, hi0, hrd, hfitr, set_concat, splice_many, b2, hwr]
      exact fin (.at_ [] [x.t]) 3 _ _ (by rw [hqq, ← hr]; rfl) rfl rfl (by simp [QR.h, ints]) (by simp) (by simp [GB, QR.vAt]) (by simp [GB, hown]) (by simp [GB]) (by simp [GB]) (by simp [GB])
    | at_ pre q =>
      simp only [QR.l] at hr
      have hq1 : q.length + 1 ≤ 4294967296 := by rw [hr]; omega
      have hq1' : q.length ≤ 4294967295 := by rw [hr]; omega
      have hq2 : (q.length + 1) * 8 ≤ 140737488355328 := by rw [hr]; omega
      have hc1 : ¬ OPEN + q.length < OPEN := by omega
      have hc2 : OPEN + q.length - OPEN = q.length := by omega
      simp (maxSteps := 2000000) (implicitDefEqProofs := false) [DN, NB, begT, atHead, kd, wantedA, evP, evR, evF, evL, evC, evBin, evUn, evEq, evSt, evRes, plain, scp, scpA, scpL, rdRow, rdCells, veq, veqA, veqL, isHole, Value.cells, evalL, optI, evBounds, evFill, evFillR, evApp, newsOf, wrCells, one1, fitsApp, evClr, undef, onB_bool, List.getElem?_concat_length, List.getElem?_cons_zero, List.getElem?_cons_succ, List.getElem?_toArray, List.getElem?_nil, List.set_cons_zero, List.set_cons_succ, List.cons_append, List.nil_append, -getElem?_pos, -getElem?_neg, oneT, oneH, QR.v, QR.h, hs, hlt', lp18_0, hi0, hrd, hfitr, set_concat, splice_many, b2, hwr, capLow_open, hq1, hq1', hq2, hc1, hc2, ints_length, hdt]
      exact fin (.at_ [] (q ++ [x.t])) 4 _ _ (by rw [hqq, ← hr]; rfl) rfl rfl (by simp [QR.h, ints]) (by simp) (by simp [GB, QR.vAt]) (by simp [GB, hown]) (by simp [GB]) (by simp [GB]) (by simp [GB])
    | emp pre y =>
      simp only [QR.l] at hr
      have hc1 : capLow OPEN = 0 := by simp [capLow]
      simp (maxSteps := 2000000) (implicitDefEqProofs := false) [DN, NB, begT, atHead, kd, wantedA, evP, evR, evF, evL, evC, evBin, evUn, evEq, evSt, evRes, plain, scp, scpA, scpL, rdRow, rdCells, veq, veqA, veqL, isHole, Value.cells, evalL, optI, evBounds, evFill, evFillR, evApp, newsOf, wrCells, one1, fitsApp, evClr, undef, onB_bool, List.getElem?_concat_length, List.getElem?_cons_zero, List.getElem?_cons_succ, List.getElem?_toArray, List.getElem?_nil, List.set_cons_zero, List.set_cons_succ, List.cons_append, List.nil_append, -getElem?_pos, -getElem?_neg, oneT, oneH, QR.v, QR.h, hs, hlt', lp18_0, hi0, hrd, hfitr, set_concat, splice_many, b2, hwr, ints_length]
      exact fin (.at_ [] [x.t]) 4 _ _ (by rw [hqq, ← hr]; rfl) rfl rfl (by simp [QR.h, ints]) (by simp) (by simp [GB, QR.vAt]) (by simp [GB, hown]) (by simp [GB]) (by simp [GB]) (by simp [GB])
  have b2 : (x.k == 2) = false := by simp [hk2]
  by_cases hk3 : x.k = 3
  · have b3 : (x.k == 3) = true := by simp [hk3]
    obtain ⟨ho, hh⟩ : s.own = -1 ∧ s.q.head? = some x.t := by
      rcases p6 with h | h
      · exact absurd hk3 h
      · exact h
    obtain ⟨q', hq'⟩ : ∃ q', s.q = x.t :: q' := by
      cases hq : s.q with
      | nil => rw [hq] at hh; cases hh
      | cons z q' => rw [hq] at hh; simp at hh; exact ⟨q', by rw [hh]⟩
    have hqq : (takeL s x).q = q' := by
      have hnd := g.nodup
      rw [hq'] at hnd
      have h1 := (List.nodup_cons.1 hnd).1
      have e : (takeL s x).q = s.q.filter (· != x.t) := by simp [takeL, hf, hk3]
      rw [e, hq']
      simp
      intro a ha e
      exact h1 (e ▸ ha)
    have hown : (takeL s x).own = x.t := by simp [takeL, hf, hk3]
    have b4 : (s.own == -1) = true := by simp [ho]
    have b4' : (s.own != -1) = false := by simp [ho]
    cases r with
    | nil => simp only [QR.l] at hr; rw [hq'] at hr; cases hr
    | emp pre y => simp only [QR.l] at hr; rw [hq'] at hr; cases hr
    | at_ pre q =>
      simp only [QR.l] at hr
      rw [hq'] at hr
      subst hr
      have hget : (ints (pre ++ x.t :: q'))[pre.length]? = some (.int .i64 x.t) := by rw [ints_get]; simp
      have hl0 : ¬ ((q'.length : Int) + 1 = 0) := by omega
      have hc1 : ¬ OPEN + (q'.length + 1) < OPEN := by omega
      have hc2 : OPEN + (q'.length + 1) - OPEN = q'.length + 1 := by omega
      have hpos : (0 : Int) < (q'.length : Int) + 1 := by omega
      have h1le : (1 : Int) ≤ (q'.length : Int) + 1 := by omega
      simp (maxSteps := 2000000) (implicitDefEqProofs := false) [DN, NB, begT, atHead, kd, wantedA, evP, evR, evF, evL, evC, evBin, evUn, evEq, evSt, evRes, plain, scp, scpA, scpL, rdRow, rdCells, veq, veqA, veqL, isHole, Value.cells, evalL, optI, evBounds, evFill, evFillR, evApp, newsOf, wrCells, one1, fitsApp, evClr, undef, onB_bool, List.getElem?_concat_length, List.getElem?_cons_zero, List.getElem?_cons_succ, List.getElem?_toArray, List.getElem?_nil, List.set_cons_zero, List.set_cons_succ, List.cons_append, List.nil_append, -getElem?_pos, -getElem?_neg, oneT, oneH, QR.v, QR.h, hs, hlt', lp18_0, hi0, hrd, hfitr, set_concat, splice_many, b2, b3, b4, b4', hwr, hget, hl0, hc1, hc2, hpos, h1le, bnd]
      by_cases hp : 0 < q'.length
      · rw [if_pos hp]
        exact fin (.at_ (pre ++ [x.t]) q') 1 _ _ (by rw [hqq]; rfl) rfl rfl (by simp [QR.h]) (by simp) (by simp [GB, QR.vAt]) (by simp [GB, hown]) (by simp [GB]) (by simp [GB]) (by simp [GB])
      · rw [if_neg hp]
        obtain rfl : q' = [] := List.eq_nil_of_length_eq_zero (by omega)
        exact fin (.emp pre x.t) 1 _ _ (by rw [hqq]; rfl) rfl rfl (by simp [QR.h]) (by simp) (by simp [GB, QR.vAt]) (by simp [GB, hown]) (by simp [GB]) (by simp [GB]) (by simp [GB])
  have b3 : (x.k == 3) = false := by simp [hk3]
  by_cases hk4 : x.k = 4
  · have b4 : (x.k == 4) = true := by simp [hk4]
    have hm := hmemq (.inr hk4)
    have hqq : (takeL s x).q = s.q.filter (· != x.t) := by simp [takeL, hf, hk4]
    have hown : (takeL s x).own = s.own := by simp [takeL, hf, hk4]
    cases r with
    | nil => simp only [QR.l] at hr; rw [← hr] at hm; cases hm
    | emp pre y => simp only [QR.l] at hr; rw [← hr] at hm; cases hm
    | at_ pre q =>
      simp only [QR.l] at hr
      simp (maxSteps := 2000000) (implicitDefEqProofs := false) [DN, NB, begT, atHead, kd, wantedA, evP, evR, evF, evL, evC, evBin, evUn, evEq, evSt, evRes, plain, scp, scpA, scpL, rdRow, rdCells, veq, veqA, veqL, isHole, Value.cells, evalL, optI, evBounds, evFill, evFillR, evApp, newsOf, wrCells, one1, fitsApp, evClr, undef, onB_bool, List.getElem?_concat_length, List.getElem?_cons_zero, List.getElem?_cons_succ, List.getElem?_toArray, List.getElem?_nil, List.set_cons_zero, List.set_cons_succ, List.cons_append, List.nil_append, -getElem?_pos, -getElem?_neg, oneT, oneH, QR.v, QR.h, hs, hlt', lp18_0, hi0, hrd, hfitr, set_concat, splice_many, b2, b3, b4, hwr]
      refine loop18b l pre q x s.own (.slice (some ⟨0, 0, none⟩) c cap) c i (by rw [hr]; omega) (fun g => by simp [scp, live]) (fun is => by simp [ren, renA, nthD, nth]) _ _ _ ?_ ?_
      · exact headI l pre q x s.own _ c i (fun g => by simp [scp, live]) (fun is => by simp [ren, renA, nthD, nth]) none 3 _ _ rfl (by simp) rfl rfl rfl (by simp [LR.h]) (by simp [GB, LR.vAt]) (by simp [inT, GB])
      · intro lf hlf
        cases lf with
        | none =>
          simp (maxSteps := 2000000) (implicitDefEqProofs := false) [DN, NB, begT, atHead, kd, wantedA, evP, evR, evF, evL, evC, evBin, evUn, evEq, evSt, evRes, plain, scp, scpA, scpL, rdRow, rdCells, veq, veqA, veqL, isHole, Value.cells, evalL, optI, evBounds, evFill, evFillR, evApp, newsOf, wrCells, one1, fitsApp, evClr, undef, onB_bool, List.getElem?_concat_length, List.getElem?_cons_zero, List.getElem?_cons_succ, List.getElem?_toArray, List.getElem?_nil, List.set_cons_zero, List.set_cons_succ, List.cons_append, List.nil_append, -getElem?_pos, -getElem?_neg, inT, inH, LR.v, LR.h, hwr]
          exact fin .nil 1 _ _ (by rw [hqq, ← hr, ← hlf]; rfl) rfl rfl (by simp [QR.h]) (by simp) (by simp [GB, QR.vAt]) (by simp [GB, hown]) (by simp [GB]) (by simp [GB]) (by simp [GB])
        | some v =>
          simp (maxSteps := 2000000) (implicitDefEqProofs := false) [DN, NB, begT, atHead, kd, wantedA, evP, evR, evF, evL, evC, evBin, evUn, evEq, evSt, evRes, plain, scp, scpA, scpL, rdRow, rdCells, veq, veqA, veqL, isHole, Value.cells, evalL, optI, evBounds, evFill, evFillR, evApp, newsOf, wrCells, one1, fitsApp, evClr, undef, onB_bool, List.getElem?_concat_length, List.getElem?_cons_zero, List.getElem?_cons_succ, List.getElem?_toArray, List.getElem?_nil, List.set_cons_zero, List.set_cons_succ, List.cons_append, List.nil_append, -getElem?_pos, -getElem?_neg, inT, inH, LR.v, LR.h, hwr]
          exact fin (.at_ [] v) 3 _ _ (by rw [hqq, ← hr, ← hlf]; rfl) rfl rfl (by simp [QR.h]) (by simp) (by simp [GB, QR.vAt]) (by simp [GB, hown]) (by simp [GB]) (by simp [GB]) (by simp [GB])
  have b4 : (x.k == 4) = false := by simp [hk4]
  have hqq : (takeL s x).q = s.q := by simp [takeL, hf, hk2, hk3, hk4]
  by_cases hk9 : x.k = 9
  · have b9 : (x.k == 9) = true := by simp [hk9]
    have hown : (takeL s x).own = -1 := by simp [takeL, hf, hk9]
    have ho : s.own = x.t := hown_i (by rw [hk9]; simp [wayOf])
    have ho' : (s.own != x.t) = false := by simp [ho]
    have ho2 : (x.t == x.t) = true := by simp
    cases r with
    | nil =>
      simp (maxSteps := 2000000) (implicitDefEqProofs := false) [DN, NB, begT, atHead, kd, wantedA, evP, evR, evF, evL, evC, evBin, evUn, evEq, evSt, evRes, plain, scp, scpA, scpL, rdRow, rdCells, veq, veqA, veqL, isHole, Value.cells, evalL, optI, evBounds, evFill, evFillR, evApp, newsOf, wrCells, one1, fitsApp, evClr, undef, onB_bool, List.getElem?_concat_length, List.getElem?_cons_zero, List.getElem?_cons_succ, List.getElem?_toArray, List.getElem?_nil, List.set_cons_zero, List.set_cons_succ, List.cons_append, List.nil_append, -getElem?_pos, -getElem?_neg, oneT, oneH, QR.v, QR.h, hs, hlt', lp18_0, hi0, hrd, hfitr, set_concat, splice_many, b2, b3, b4, b9, ho, hwr]
      exact fin .nil 1 _ _ (by rw [hqq, ← hr]) rfl rfl (by simp [QR.h]) (by simp) (by simp [GB, QR.vAt]) (by simp [GB, hown]) (by simp [GB]) (by simp [GB]) (by simp [GB])
    | at_ pre q =>
      simp (maxSteps := 2000000) (implicitDefEqProofs := false) [DN, NB, begT, atHead, kd, wantedA, evP, evR, evF, evL, evC, evBin, evUn, evEq, evSt, evRes, plain, scp, scpA, scpL, rdRow, rdCells, veq, veqA, veqL, isHole, Value.cells, evalL, optI, evBounds, evFill, evFillR, evApp, newsOf, wrCells, one1, fitsApp, evClr, undef, onB_bool, List.getElem?_concat_length, List.getElem?_cons_zero, List.getElem?_cons_succ, List.getElem?_toArray, List.getElem?_nil, List.set_cons_zero, List.set_cons_succ, List.cons_append, List.nil_append, -getElem?_pos, -getElem?_neg, oneT, oneH, QR.v, QR.h, hs, hlt', lp18_0, hi0, hrd, hfitr, set_concat, splice_many, b2, b3, b4, b9, ho, hwr]
      exact fin (.at_ pre q) 1 _ _ (by rw [hqq, ← hr]) rfl rfl (by simp [QR.h]) (by simp) (by simp [GB, QR.vAt]) (by simp [GB, hown]) (by simp [GB]) (by simp [GB]) (by simp [GB])
    | emp pre y =>
      simp (maxSteps := 2000000) (implicitDefEqProofs := false) [DN, NB, begT, atHead, kd, wantedA, evP, evR, evF, evL, evC, evBin, evUn, evEq, evSt, evRes, plain, scp, scpA, scpL, rdRow, rdCells, veq, veqA, veqL, isHole, Value.cells, evalL, optI, evBounds, evFill, evFillR, evApp, newsOf, wrCells, one1, fitsApp, evClr, undef, onB_bool, List.getElem?_concat_length, List.getElem?_cons_zero, List.getElem?_cons_succ, List.getElem?_toArray, List.getElem?_nil, List.set_cons_zero, List.set_cons_succ, List.cons_append, List.nil_append, -getElem?_pos, -getElem?_neg, oneT, oneH, QR.v, QR.h, hs, hlt', lp18_0, hi0, hrd, hfitr, set_concat, splice_many, b2, b3, b4, b9, ho, hwr]
      exact fin (.emp pre y) 1 _ _ (by rw [hqq, ← hr]) rfl rfl (by simp [QR.h]) (by simp) (by simp [GB, QR.vAt]) (by simp [GB, hown]) (by simp [GB]) (by simp [GB]) (by simp [GB])
  · have b9 : (x.k == 9) = false := by simp [hk9]
    have hown : (takeL s x).own = s.own := by simp [takeL, hf, hk9, hk3]
    cases r with
    | nil =>
      simp (maxSteps := 2000000) (implicitDefEqProofs := false) [DN, NB, begT, atHead, kd, wantedA, evP, evR, evF, evL, evC, evBin, evUn, evEq, evSt, evRes, plain, scp, scpA, scpL, rdRow, rdCells, veq, veqA, veqL, isHole, Value.cells, evalL, optI, evBounds, evFill, evFillR, evApp, newsOf, wrCells, one1, fitsApp, evClr, undef, onB_bool, List.getElem?_concat_length, List.getElem?_cons_zero, List.getElem?_cons_succ, List.getElem?_toArray, List.getElem?_nil, List.set_cons_zero, List.set_cons_succ, List.cons_append, List.nil_append, -getElem?_pos, -getElem?_neg, oneT, oneH, QR.v, QR.h, hs, hlt', lp18_0, hi0, hrd, hfitr, set_concat, splice_many, b2, b3, b4, b9, hwr]
      exact fin .nil 1 _ _ (by rw [hqq, ← hr]) rfl rfl (by simp [QR.h]) (by simp) (by simp [GB, QR.vAt]) (by simp [GB, hown]) (by simp [GB]) (by simp [GB]) (by simp [GB])
    | at_ pre q =>
      simp (maxSteps := 2000000) (implicitDefEqProofs := false) [DN, NB, begT, atHead, kd, wantedA, evP, evR, evF, evL, evC, evBin, evUn, evEq, evSt, evRes, plain, scp, scpA, scpL, rdRow, rdCells, veq, veqA, veqL, isHole, Value.cells, evalL, optI, evBounds, evFill, evFillR, evApp, newsOf, wrCells, one1, fitsApp, evClr, undef, onB_bool, List.getElem?_concat_length, List.getElem?_cons_zero, List.getElem?_cons_succ, List.getElem?_toArray, List.getElem?_nil, List.set_cons_zero, List.set_cons_succ, List.cons_append, List.nil_append, -getElem?_pos, -getElem?_neg, oneT, oneH, QR.v, QR.h, hs, hlt', lp18_0, hi0, hrd, hfitr, set_concat, splice_many, b2, b3, b4, b9, hwr]
      exact fin (.at_ pre q) 1 _ _ (by rw [hqq, ← hr]) rfl rfl (by simp [QR.h]) (by simp) (by simp [GB, QR.vAt]) (by simp [GB, hown]) (by simp [GB]) (by simp [GB]) (by simp [GB])
    | emp pre y =>
      simp (maxSteps := 2000000) (implicitDefEqProofs := false) [DN, NB, begT, atHead, kd, wantedA, evP, evR, evF, evL, evC, evBin, evUn, evEq, evSt, evRes, plain, scp, scpA, scpL, rdRow, rdCells, veq, veqA, veqL, isHole, Value.cells, evalL, optI, evBounds, evFill, evFillR, evApp, newsOf, wrCells, one1, fitsApp, evClr, undef, onB_bool, List.getElem?_concat_length, List.getElem?_cons_zero, List.getElem?_cons_succ, List.getElem?_toArray, List.getElem?_nil, List.set_cons_zero, List.set_cons_succ, List.cons_append, List.nil_append, -getElem?_pos, -getElem?_neg, oneT, oneH, QR.v, QR.h, hs, hlt', lp18_0, hi0, hrd, hfitr, set_concat, splice_many, b2, b3, b4, b9, hwr]
      exact fin (.emp pre y) 1 _ _ (by rw [hqq, ← hr]) rfl rfl (by simp [QR.h]) (by simp) (by simp [GB, QR.vAt]) (by simp [GB, hown]) (by simp [GB]) (by simp [GB]) (by simp [GB])

theorem afterL_len {n : Int} (l : List En) (i : Nat) : (afterL (newL n) (l.take i)).q.length ≤ i := by
  have : ∀ (l : List En) (s : LS), (afterL s l).q.length ≤ s.q.length + l.length := by
    intro l
    induction l with
    | nil => intro s; simp [afterL]
    | cons x l ih =>
      intro s
      have h1 := ih (takeL s x)
      have h2 := takeL_q s x
      simp only [List.length_cons]
      show (afterL (takeL s x) l).q.length ≤ _
      omega
  have h := this (l.take i) (newL n)
  rw [List.length_take] at h
  simp only [newL, List.length_nil] at h
  have : (afterL (newL n) (l.take i)).q.length ≤ 0 + min i l.length := h
  omega

set_option maxHeartbeats 4000000 in
theorem one_ (n : Int) (l : List En) (A : Option Addr) (cap : Nat) (hcl : l.length ≤ cap) (hcap : cap < OPEN) (hA : (l = [] ∧ cap = 0 ∧ A = none) ∨ (∃ d, l = [] ∧ A = some ⟨0, 0, some d⟩) ∨ A = some ⟨0, 0, none⟩) :
    AC Try.prog 18 [.int .i64 n, .slice A l.length cap] [.row (rowOf l)] (fun v _ => v = .bool true) := by
  by_cases c1 : 80 < (l.length : Int)
  · refine entry hmix cf18 ?_
    simp (maxSteps := 2000000) (implicitDefEqProofs := false) [DN, NB, begT, atHead, kd, wantedA, evP, evR, evF, evL, evC, evBin, evUn, evEq, evSt, evRes, plain, scp, scpA, scpL, rdRow, rdCells, veq, veqA, veqL, isHole, Value.cells, evalL, optI, evBounds, evFill, evFillR, evApp, newsOf, wrCells, one1, fitsApp, evClr, undef, onB_bool, List.getElem?_concat_length, List.getElem?_cons_zero, List.getElem?_cons_succ, List.getElem?_toArray, List.getElem?_nil, List.set_cons_zero, List.set_cons_succ, List.cons_append, List.nil_append, -getElem?_pos, -getElem?_neg, c1]
    refine awakeK _ _ fun h' => ?_
    simp (maxSteps := 2000000) (implicitDefEqProofs := false) [DN, NB, begT, atHead, kd, wantedA, evP, evR, evF, evL, evC, evBin, evUn, evEq, evSt, evRes, plain, scp, scpA, scpL, rdRow, rdCells, veq, veqA, veqL, isHole, Value.cells, evalL, optI, evBounds, evFill, evFillR, evApp, newsOf, wrCells, one1, fitsApp, evClr, undef, onB_bool, List.getElem?_concat_length, List.getElem?_cons_zero, List.getElem?_cons_succ, List.getElem?_toArray, List.getElem?_nil, List.set_cons_zero, List.set_cons_succ, List.cons_append, List.nil_append, -getElem?_pos, -getElem?_neg]
  have hA1 : l.length = 0 ∨ A = some ⟨0, 0, none⟩ := by
    rcases hA with ⟨rfl, _⟩ | ⟨d, rfl, _⟩ | h
    · exact .inl rfl
    · exact .inl rfl
    · exact .inr h
  obtain ⟨c, hc⟩ : ∃ c, countN n l = c := ⟨_, rfl⟩
  have hcle : c ≤ l.length := by
    rw [← hc]
    unfold countN
    split
    · exact countL_le _ _
    · omega
  have hfit : ∀ (i : Nat) (x : En), i < c → l[i]? = some x → fitsL (afterL (newL n) (l.take i)) x = true := by
    intro i x hi hx
    rw [← hc] at hi
    unfold countN at hi
    split at hi
    · exact countL_fits hi hx
    · omega
  have good : ∀ i, GoodL (afterL (newL n) (l.take i)) := fun i => afterL_good (newL_good n) _
  have ok : c ≠ 0 → ∀ i, OkL (afterL (newL n) (l.take i)) := by
    intro h0 i
    rw [← hc] at h0
    unfold countN at h0
    split at h0
    · rename_i h; exact afterL_ok (newL_ok h.1 h.2) _
    · exact absurd rfl h0
  have m1 : max (c : Int) 0 = c := by omega
  have m2 : min (c : Int) l.length = c := by omega
  have m3 : (0 : Int) ≤ c := by omega
  have m4 : (c : Int) ≤ cap := by omega
  have hA0 : c = 0 ∨ A = some ⟨0, 0, none⟩ := by
    rcases hA1 with h | h
    · exact .inl (by omega)
    · exact .inr h
  have key : ∀ (t : T) (h : AH) (Q : AExit → T → AH → Prop), t.length = 92 → h = [.row (rowOf l)] → getT t 7 = some (.slice none 0 0) → getT t 8 = some (.int .i64 (-1)) → (∃ cap', getT t 30 = some (Value.slice A c cap') ∧ (c ≠ 0 → cap' = cap)) → getT t 31 = some (.int .i64 c) → getT t 32 = some (.int .i64 0) →
      (∀ cap' s, Q (.exit 0) (mkT 92 ((33, .bool false) :: oneT (newL n) l c (.slice A c cap') s)) (oneH l s)) → ALoop Try.prog 1 lp18_0 t h Q := by
    rintro t h Q e1 rfl e2 e3 ⟨cap', e4, hcc⟩ e5 e6 hQ
    have h0 : atHeadV 1 92 (oneT (newL n) l c (.slice A c cap') (0, .nil)) (oneH l (0, .nil)) t [.row (rowOf l)] := by
      refine headK [0] ?_ (by simp) (AOK.of ⟨scp_noNames (rowOf_noNames l) _, trivial⟩) ?_ (by simp [oneH, QR.h]) e1 ?_
      · simp [keepsF, oneH, QR.h, renB_noNames (rowOf_noNames l)]
      · intro b hb
        obtain rfl : b = 0 := by omega
        simp [nthD, nth, oneH, live]
      · have hA3 : scp (live (oneH l (0, .nil))) (Value.slice A c cap') = true ∧ ren (nthD [0]) (Value.slice A c cap') = Value.slice A c cap' := by
          rcases hA with ⟨_, _, rfl⟩ | ⟨d, _, rfl⟩ | rfl <;> simp [scp, ren, renA, live, oneH, nthD, nth]
        intro x hx
        simp only [oneT, List.mem_cons, List.not_mem_nil, or_false] at hx
        rcases hx with rfl | rfl | rfl | rfl | rfl
        · simp [e2, QR.v, ren, scp]
        · simp [e3, ren, scp, afterL, newL]
        · simp only [e4]; exact ⟨by rw [hA3.2], hA3.1⟩
        · simp [e5, ren, scp]
        · simp [e6, ren, scp]
    by_cases h00 : c = 0
    · subst h00
      refine loop3 hmix 92 (fun s : Nat × QR => s = (0, .nil)) (fun _ => 0) (oneT (newL n) l 0 (.slice A 0 cap')) (oneH l) (0, .nil) rfl h0 ?_
      rintro s rfl
      have hq := hQ cap' (0, .nil)
      simp (maxSteps := 2000000) (implicitDefEqProofs := false) [DN, NB, begT, atHead, kd, wantedA, evP, evR, evF, evL, evC, evBin, evUn, evEq, evSt, evRes, plain, scp, scpA, scpL, rdRow, rdCells, veq, veqA, veqL, isHole, Value.cells, evalL, optI, evBounds, evFill, evFillR, evApp, newsOf, wrCells, one1, fitsApp, evClr, undef, onB_bool, List.getElem?_concat_length, List.getElem?_cons_zero, List.getElem?_cons_succ, List.getElem?_toArray, List.getElem?_nil, List.set_cons_zero, List.set_cons_succ, List.cons_append, List.nil_append, -getElem?_pos, -getElem?_neg, oneT] at hq
      simp (maxSteps := 2000000) (implicitDefEqProofs := false) [DN, NB, begT, atHead, kd, wantedA, evP, evR, evF, evL, evC, evBin, evUn, evEq, evSt, evRes, plain, scp, scpA, scpL, rdRow, rdCells, veq, veqA, veqL, isHole, Value.cells, evalL, optI, evBounds, evFill, evFillR, evApp, newsOf, wrCells, one1, fitsApp, evClr, undef, onB_bool, List.getElem?_concat_length, List.getElem?_cons_zero, List.getElem?_cons_succ, List.getElem?_toArray, List.getElem?_nil, List.set_cons_zero, List.set_cons_succ, List.cons_append, List.nil_append, -getElem?_pos, -getElem?_neg, oneT, lp18_0]
      exact hq
    · exact loop18 (newL n) l c hcle (by omega) hfit good (ok h00) A cap' hA0 t _ Q h0 rfl (fun i => afterL_len l i) (fun s _ => hQ cap' s)
  rcases hA with ⟨hl0, hc0, rfl⟩ | ⟨d, hl0, rfl⟩ | rfl
  · subst hl0 hc0
    obtain rfl : c = 0 := by simpa using hcle
    refine entry hmix cf18 ?_
    simp (maxSteps := 2000000) (implicitDefEqProofs := false) [DN, NB, begT, atHead, kd, wantedA, evP, evR, evF, evL, evC, evBin, evUn, evEq, evSt, evRes, plain, scp, scpA, scpL, rdRow, rdCells, veq, veqA, veqL, isHole, Value.cells, evalL, optI, evBounds, evFill, evFillR, evApp, newsOf, wrCells, one1, fitsApp, evClr, undef, onB_bool, List.getElem?_concat_length, List.getElem?_cons_zero, List.getElem?_cons_succ, List.getElem?_toArray, List.getElem?_nil, List.set_cons_zero, List.set_cons_succ, List.cons_append, List.nil_append, -getElem?_pos, -getElem?_neg]
    refine (checkX_ n [] none 0 0 (Nat.le_refl _) (by omega) (.inl rfl)).mono ?_
    rintro _ _ ⟨rfl, rfl⟩
    rw [List.take_zero, hc]
    simp (maxSteps := 2000000) (implicitDefEqProofs := false) [DN, NB, begT, atHead, kd, wantedA, evP, evR, evF, evL, evC, evBin, evUn, evEq, evSt, evRes, plain, scp, scpA, scpL, rdRow, rdCells, veq, veqA, veqL, isHole, Value.cells, evalL, optI, evBounds, evFill, evFillR, evApp, newsOf, wrCells, one1, fitsApp, evClr, undef, onB_bool, List.getElem?_concat_length, List.getElem?_cons_zero, List.getElem?_cons_succ, List.getElem?_toArray, List.getElem?_nil, List.set_cons_zero, List.set_cons_succ, List.cons_append, List.nil_append, -getElem?_pos, -getElem?_neg, m1, m2, m3, m4, hcap, bnd]
    refine key _ _ _ rfl rfl (by simp [GB]) (by simp [GB]) ⟨0, (by simp [GB]), fun _ => rfl⟩ (by simp [GB]) (by simp [GB]) fun cap' s => ?_
    simp (maxSteps := 2000000) (implicitDefEqProofs := false) [DN, NB, begT, atHead, kd, wantedA, evP, evR, evF, evL, evC, evBin, evUn, evEq, evSt, evRes, plain, scp, scpA, scpL, rdRow, rdCells, veq, veqA, veqL, isHole, Value.cells, evalL, optI, evBounds, evFill, evFillR, evApp, newsOf, wrCells, one1, fitsApp, evClr, undef, onB_bool, List.getElem?_concat_length, List.getElem?_cons_zero, List.getElem?_cons_succ, List.getElem?_toArray, List.getElem?_nil, List.set_cons_zero, List.set_cons_succ, List.cons_append, List.nil_append, -getElem?_pos, -getElem?_neg, oneT]
    refine awakeK _ _ fun h' => ?_
    simp (maxSteps := 2000000) (implicitDefEqProofs := false) [DN, NB, begT, atHead, kd, wantedA, evP, evR, evF, evL, evC, evBin, evUn, evEq, evSt, evRes, plain, scp, scpA, scpL, rdRow, rdCells, veq, veqA, veqL, isHole, Value.cells, evalL, optI, evBounds, evFill, evFillR, evApp, newsOf, wrCells, one1, fitsApp, evClr, undef, onB_bool, List.getElem?_concat_length, List.getElem?_cons_zero, List.getElem?_cons_succ, List.getElem?_toArray, List.getElem?_nil, List.set_cons_zero, List.set_cons_succ, List.cons_append, List.nil_append, -getElem?_pos, -getElem?_neg]
  · subst hl0
    obtain rfl : c = 0 := by simpa using hcle
    refine entry hmix cf18 ?_
    simp (maxSteps := 2000000) (implicitDefEqProofs := false) [DN, NB, begT, atHead, kd, wantedA, evP, evR, evF, evL, evC, evBin, evUn, evEq, evSt, evRes, plain, scp, scpA, scpL, rdRow, rdCells, veq, veqA, veqL, isHole, Value.cells, evalL, optI, evBounds, evFill, evFillR, evApp, newsOf, wrCells, one1, fitsApp, evClr, undef, onB_bool, List.getElem?_concat_length, List.getElem?_cons_zero, List.getElem?_cons_succ, List.getElem?_toArray, List.getElem?_nil, List.set_cons_zero, List.set_cons_succ, List.cons_append, List.nil_append, -getElem?_pos, -getElem?_neg]
    refine (checkX_ n [] (some ⟨0, 0, some d⟩) 0 cap (Nat.le_refl _) (by omega) (.inl rfl)).mono ?_
    rintro _ _ ⟨rfl, rfl⟩
    rw [List.take_zero, hc]
    simp (maxSteps := 2000000) (implicitDefEqProofs := false) [DN, NB, begT, atHead, kd, wantedA, evP, evR, evF, evL, evC, evBin, evUn, evEq, evSt, evRes, plain, scp, scpA, scpL, rdRow, rdCells, veq, veqA, veqL, isHole, Value.cells, evalL, optI, evBounds, evFill, evFillR, evApp, newsOf, wrCells, one1, fitsApp, evClr, undef, onB_bool, List.getElem?_concat_length, List.getElem?_cons_zero, List.getElem?_cons_succ, List.getElem?_toArray, List.getElem?_nil, List.set_cons_zero, List.set_cons_succ, List.cons_append, List.nil_append, -getElem?_pos, -getElem?_neg, m1, m2, m3, m4, hcap, bnd]
    refine key _ _ _ rfl rfl (by simp [GB]) (by simp [GB]) ⟨cap, (by simp [GB]), fun _ => rfl⟩ (by simp [GB]) (by simp [GB]) fun cap' s => ?_
    simp (maxSteps := 2000000) (implicitDefEqProofs := false) [DN, NB, begT, atHead, kd, wantedA, evP, evR, evF, evL, evC, evBin, evUn, evEq, evSt, evRes, plain, scp, scpA, scpL, rdRow, rdCells, veq, veqA, veqL, isHole, Value.cells, evalL, optI, evBounds, evFill, evFillR, evApp, newsOf, wrCells, one1, fitsApp, evClr, undef, onB_bool, List.getElem?_concat_length, List.getElem?_cons_zero, List.getElem?_cons_succ, List.getElem?_toArray, List.getElem?_nil, List.set_cons_zero, List.set_cons_succ, List.cons_append, List.nil_append, -getElem?_pos, -getElem?_neg, oneT]
    refine awakeK _ _ fun h' => ?_
    simp (maxSteps := 2000000) (implicitDefEqProofs := false) [DN, NB, begT, atHead, kd, wantedA, evP, evR, evF, evL, evC, evBin, evUn, evEq, evSt, evRes, plain, scp, scpA, scpL, rdRow, rdCells, veq, veqA, veqL, isHole, Value.cells, evalL, optI, evBounds, evFill, evFillR, evApp, newsOf, wrCells, one1, fitsApp, evClr, undef, onB_bool, List.getElem?_concat_length, List.getElem?_cons_zero, List.getElem?_cons_succ, List.getElem?_toArray, List.getElem?_nil, List.set_cons_zero, List.set_cons_succ, List.cons_append, List.nil_append, -getElem?_pos, -getElem?_neg]
  · refine entry hmix cf18 ?_
    simp (maxSteps := 2000000) (implicitDefEqProofs := false) [DN, NB, begT, atHead, kd, wantedA, evP, evR, evF, evL, evC, evBin, evUn, evEq, evSt, evRes, plain, scp, scpA, scpL, rdRow, rdCells, veq, veqA, veqL, isHole, Value.cells, evalL, optI, evBounds, evFill, evFillR, evApp, newsOf, wrCells, one1, fitsApp, evClr, undef, onB_bool, List.getElem?_concat_length, List.getElem?_cons_zero, List.getElem?_cons_succ, List.getElem?_toArray, List.getElem?_nil, List.set_cons_zero, List.set_cons_succ, List.cons_append, List.nil_append, -getElem?_pos, -getElem?_neg, c1]
    refine (checkX_ n l (some ⟨0, 0, none⟩) l.length cap (Nat.le_refl _) (by omega) hA1).mono ?_
    rintro _ _ ⟨rfl, rfl⟩
    rw [List.take_length, hc]
    simp (maxSteps := 2000000) (implicitDefEqProofs := false) [DN, NB, begT, atHead, kd, wantedA, evP, evR, evF, evL, evC, evBin, evUn, evEq, evSt, evRes, plain, scp, scpA, scpL, rdRow, rdCells, veq, veqA, veqL, isHole, Value.cells, evalL, optI, evBounds, evFill, evFillR, evApp, newsOf, wrCells, one1, fitsApp, evClr, undef, onB_bool, List.getElem?_concat_length, List.getElem?_cons_zero, List.getElem?_cons_succ, List.getElem?_toArray, List.getElem?_nil, List.set_cons_zero, List.set_cons_succ, List.cons_append, List.nil_append, -getElem?_pos, -getElem?_neg, m1, m2, m3, m4, hcap, bnd]
    refine key _ _ _ rfl rfl (by simp [GB]) (by simp [GB]) ⟨cap, (by simp [GB]), fun _ => rfl⟩ (by simp [GB]) (by simp [GB]) fun cap' s => ?_
    simp (maxSteps := 2000000) (implicitDefEqProofs := false) [DN, NB, begT, atHead, kd, wantedA, evP, evR, evF, evL, evC, evBin, evUn, evEq, evSt, evRes, plain, scp, scpA, scpL, rdRow, rdCells, veq, veqA, veqL, isHole, Value.cells, evalL, optI, evBounds, evFill, evFillR, evApp, newsOf, wrCells, one1, fitsApp, evClr, undef, onB_bool, List.getElem?_concat_length, List.getElem?_cons_zero, List.getElem?_cons_succ, List.getElem?_toArray, List.getElem?_nil, List.set_cons_zero, List.set_cons_succ, List.cons_append, List.nil_append, -getElem?_pos, -getElem?_neg, oneT]
    refine awakeK _ _ fun h' => ?_
    simp (maxSteps := 2000000) (implicitDefEqProofs := false) [DN, NB, begT, atHead, kd, wantedA, evP, evR, evF, evL, evC, evBin, evUn, evEq, evSt, evRes, plain, scp, scpA, scpL, rdRow, rdCells, veq, veqA, veqL, isHole, Value.cells, evalL, optI, evBounds, evFill, evFillR, evApp, newsOf, wrCells, one1, fitsApp, evClr, undef, onB_bool, List.getElem?_concat_length, List.getElem?_cons_zero, List.getElem?_cons_succ, List.getElem?_toArray, List.getElem?_nil, List.set_cons_zero, List.set_cons_succ, List.cons_append, List.nil_append, -getElem?_pos, -getElem?_neg]

end Fx
end Go.Proofs.Ytekhadlpcdjlpaa
