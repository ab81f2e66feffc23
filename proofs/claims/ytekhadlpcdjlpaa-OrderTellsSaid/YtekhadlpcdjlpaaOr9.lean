/- order: OrderMore, on the blocks. -/
import Derived.Test.YtekhadlpcdjlpaaOr8
namespace Go.Proofs.Ytekhadlpcdjlpaa
namespace Ox
open Go Abs Code
set_option linter.unusedVariables false
set_option linter.unusedSimpArgs false
set_option maxRecDepth 100000

theorem awakeK (h : AH) (K : Value → AH → Prop) (hK : ∀ h', K (.bool true) h') : AC Try.prog 32 [] h K := by
  have sb : Sub (fun b => b) [] h := ⟨fun j k hj => by simp at hj, fun i j hi => by simp at hi⟩
  have := AC.frame sb (fun b k hb => by simp at hb) rfl awake_
  refine this.mono ?_
  rintro v H' ⟨v0, h', rfl, _, rfl, rfl⟩
  simpa [ren] using hK _

def eqW (x y : Wt) : Bool := x.t == y.t && (x.a == y.a && x.g == y.g)
theorem eqW_eq {x y : Wt} : eqW x y = true ↔ x = y := by
  cases x
  cases y
  simp [eqW]

/-- How many are met, one behind the other. -/
def gr (a : List Wt) : List Wt → Nat → Nat
  | [], c => c
  | w :: r, c => gr a r (match a[c]? with | some u => if eqW w u = true then c + 1 else c | none => c)

theorem gr_all (a : List Wt) : ∀ (r : List Wt) (c : Nat), c ≤ a.length → (a.drop c).Sublist r → gr a r c = a.length
  | [], c, hc, h => by
    have := List.eq_nil_of_sublist_nil h
    have := congrArg List.length this
    simp at this
    simp only [gr]
    omega
  | w :: r, c, hc, h => by
    simp only [gr]
    cases hu : a[c]? with
    | none =>
      simp only
      refine gr_all a r c hc ?_
      have : a.drop c = [] := by
        rw [List.drop_eq_nil_iff]
        exact List.getElem?_eq_none_iff.1 hu
      rw [this]
      exact List.nil_sublist _
    | some u =>
      have hcl := (List.getElem?_eq_some_iff.1 hu).1
      have hd : a.drop c = u :: a.drop (c + 1) := by
        rw [List.drop_eq_getElem_cons hcl]
        congr 1
        exact (List.getElem?_eq_some_iff.1 hu).2
      simp only
      by_cases he : eqW w u = true
      · rw [if_pos he]
        obtain rfl := eqW_eq.1 he
        rw [hd] at h
        exact gr_all a r (c + 1) (by omega) (List.cons_sublist_cons.1 h)
      · rw [if_neg he]
        refine gr_all a r c hc ?_
        rw [hd] at h ⊢
        cases h with
        | cons _ h => exact h
        | cons_cons _ h => exact absurd (eqW_eq.2 rfl) he

def v1Of (b1 : Nat) (a : List Wt) : Value := if a = [] then .slice none 0 0 else .slice (some ⟨b1, 0, none⟩) a.length (OPEN + a.length)
def mrT (b1 b2 : Nat) (a r : List Wt) (s : Nat × Nat) : List (Nat × Value) := [(6, v1Of b1 a), (8, .int .i64 s.2), (41, .slice (some ⟨b2, 0, none⟩) r.length (OPEN + r.length)), (42, .int .i64 r.length), (43, .int .i64 s.1)]

set_option maxHeartbeats 8000000 in
theorem loop6 (a r : List Wt) (hr : r.length ≤ 1000) (hsub : a.Sublist r) (G : AH) (b1 b2 : Nat) (hG : AOK G) (h0l : live G 0 = true) (hg2 : G[b2]? = some (wB r)) (hg1 : a ≠ [] → G[b1]? = some (wB a)) (T0 : T) (h : AH) (Q : AExit → T → AH → Prop)
    (h0 : atHeadV 1 69 (mrT b1 b2 a r (0, 0)) G T0 h)
    (hQ : Q (.exit 0) (mkT 69 ((44, .bool false) :: mrT b1 b2 a r (r.length, a.length))) G) : ALoop Try.prog 1 lp6_0 T0 h Q := by
  have hb2 := (List.getElem?_eq_some_iff.1 hg2).1
  obtain ⟨tv, htv⟩ : ∃ tv, tv = mrT b1 b2 a r := ⟨_, rfl⟩
  obtain ⟨hv, hhv⟩ : ∃ hv : Nat × Nat → AH, hv = fun _ => G := ⟨_, rfl⟩
  refine loop3 hmix 69 (fun s => s.1 ≤ r.length ∧ s.2 ≤ a.length ∧ gr a (r.drop s.1) s.2 = a.length) (fun s => r.length - s.1) tv hv (0, 0) ⟨Nat.zero_le _, Nat.zero_le _, by show gr a (r.drop 0) 0 = a.length; exact gr_all a r 0 (Nat.zero_le _) hsub⟩ (by rw [htv, hhv]; exact h0) ?_
  rintro ⟨i, c⟩ ⟨hi, hc, hgr⟩
  simp only at hi hc hgr
  rw [show tv (i, c) = mrT b1 b2 a r (i, c) by rw [htv], show hv (i, c) = G by rw [hhv]]
  by_cases hlt : i < r.length
  case neg =>
    obtain rfl : i = r.length := by omega
    rw [List.drop_length] at hgr
    obtain rfl : c = a.length := hgr
    simp (maxSteps := 2000000) (implicitDefEqProofs := false) [DN, NB, begT, atHead, kd, wantedA, evP, evR, evF, evL, evC, evI, evBin, evUn, evEq, evSt, evRes, plain, scp, scpA, scpL, rdRow, rdCells, veq, veqA, veqL, isHole, Value.cells, evalL, optI, evBounds, evFill, evFillR, evApp, newsOf, wrCells, one1, fitsApp, evClr, undef, onB_bool, List.getElem?_concat_length, List.getElem?_cons_zero, List.getElem?_cons_succ, List.getElem?_toArray, List.getElem?_nil, List.set_cons_zero, List.set_cons_succ, List.cons_append, List.nil_append, -getElem?_pos, -getElem?_neg, mrT] at hQ
    simp (maxSteps := 2000000) (implicitDefEqProofs := false) [DN, NB, begT, atHead, kd, wantedA, evP, evR, evF, evL, evC, evI, evBin, evUn, evEq, evSt, evRes, plain, scp, scpA, scpL, rdRow, rdCells, veq, veqA, veqL, isHole, Value.cells, evalL, optI, evBounds, evFill, evFillR, evApp, newsOf, wrCells, one1, fitsApp, evClr, undef, onB_bool, List.getElem?_concat_length, List.getElem?_cons_zero, List.getElem?_cons_succ, List.getElem?_toArray, List.getElem?_nil, List.set_cons_zero, List.set_cons_succ, List.cons_append, List.nil_append, -getElem?_pos, -getElem?_neg, mrT, lp6_0]
    exact hQ
  have hlt' : (i : Int) < r.length := by omega
  have hi0 : (0 : Int) ≤ i := by omega
  obtain ⟨w, hw⟩ : ∃ w, r[i]? = some w := ⟨_, List.getElem?_eq_getElem hlt⟩
  have hrd := rowW_at hw
  have hfitr : i * 3 + 3 ≤ (rowW r).length := by rw [rowW_length]; omega
  have hwr : IntKind.i64.wrap ((i : Int) + 1) = (i : Int) + 1 := IntWalk.i64_in _ (by omega)
  have hal : a.length ≤ r.length := hsub.length_le
  have hwc : IntKind.i64.wrap ((c : Int) + 1) = (c : Int) + 1 := IntWalk.i64_in _ (by omega)
  have hdw : r.drop i = w :: r.drop (i + 1) := by
    rw [List.drop_eq_getElem_cons hlt]
    congr 1
    exact (List.getElem?_eq_some_iff.1 hw).2
  rw [hdw] at hgr
  simp only [gr] at hgr
  have q2 : G[b2]? = some (.cells (rowW r) 58 (some 3)) := hg2
  have q3 : ∀ x : ABlk, (G ++ [x])[b2]? = some (.cells (rowW r) 58 (some 3)) := fun x => by rw [List.getElem?_append_left hb2]; exact hg2
  have fin : ∀ c' t' tl, c' ≤ a.length → gr a (r.drop (i + 1)) c' = a.length → t'.length = 69 → (∀ y ∈ mrT b1 b2 a r (i + 1, c'), getT t' y.1 = some y.2) → nextS 1 69 (fun s => s.1 ≤ r.length ∧ s.2 ≤ a.length ∧ gr a (r.drop s.1) s.2 = a.length) (fun s => r.length - s.1) tv hv (i, c) t' (G ++ tl) := by
    intro c' t' tl g1 g2 e1 e2
    refine nextS.intro (i + 1, c') (by simp only; omega) ⟨by simp only; omega, g1, g2⟩ ?_
    rw [htv, hhv]
    refine headId (fun b k hb => ?_) hG (fun b hb => ?_) ?_ e1 fun y hy => ⟨e2 y hy, ?_⟩
    · rw [List.getElem?_append_left (List.getElem?_eq_some_iff.1 hb).1]; exact hb
    · obtain rfl : b = 0 := by omega
      exact h0l
    · have := live_lt h0l
      show 1 ≤ G.length
      omega
    · simp only [mrT, List.mem_cons, List.not_mem_nil, or_false] at hy
      rcases hy with rfl | rfl | rfl | rfl | rfl
      · unfold v1Of
        split
        · rfl
        · rename_i hne
          simp only [scp]
          exact live_of (hg1 hne) (by simp [wB])
      · rfl
      · simp only [scp]
        exact live_of hg2 (by simp [wB])
      · rfl
      · rfl
  by_cases hcl : c < a.length
  case neg =>
    have hn : a[c]? = none := by simp; omega
    rw [hn] at hgr
    simp only at hgr
    have hcl' : ¬ c < a.length := hcl
    have hcl2 : a.length ≤ c := by omega
    by_cases ha : a = []
    · have hsv : v1Of b1 a = .slice none 0 0 := by unfold v1Of; rw [if_pos ha]
      simp (maxSteps := 2000000) (implicitDefEqProofs := false) [DN, NB, begT, atHead, kd, wantedA, evP, evR, evF, evL, evC, evI, evBin, evUn, evEq, evSt, evRes, plain, scp, scpA, scpL, rdRow, rdCells, veq, veqA, veqL, isHole, Value.cells, evalL, optI, evBounds, evFill, evFillR, evApp, newsOf, wrCells, one1, fitsApp, evClr, undef, onB_bool, List.getElem?_concat_length, List.getElem?_cons_zero, List.getElem?_cons_succ, List.getElem?_toArray, List.getElem?_nil, List.set_cons_zero, List.set_cons_succ, List.cons_append, List.nil_append, -getElem?_pos, -getElem?_neg, mrT, hsv, lp6_0, hlt', hi0, q2, q3, hrd, hfitr, set_concat, splice_many, hwr]
      refine fin c _ [_] hc hgr rfl ?_
      simp only [mrT, List.mem_cons, List.not_mem_nil, or_false]
      rintro y (rfl | rfl | rfl | rfl | rfl) <;> simp [GB, hsv]
    · simp (maxSteps := 2000000) (implicitDefEqProofs := false) [DN, NB, begT, atHead, kd, wantedA, evP, evR, evF, evL, evC, evI, evBin, evUn, evEq, evSt, evRes, plain, scp, scpA, scpL, rdRow, rdCells, veq, veqA, veqL, isHole, Value.cells, evalL, optI, evBounds, evFill, evFillR, evApp, newsOf, wrCells, one1, fitsApp, evClr, undef, onB_bool, List.getElem?_concat_length, List.getElem?_cons_zero, List.getElem?_cons_succ, List.getElem?_toArray, List.getElem?_nil, List.set_cons_zero, List.set_cons_succ, List.cons_append, List.nil_append, -getElem?_pos, -getElem?_neg, mrT, v1Of, ha, lp6_0, hlt', hi0, q2, q3, hrd, hfitr, set_concat, splice_many, hwr, hcl', hcl2]
      refine fin c _ [_] hc hgr rfl ?_
      simp only [mrT, List.mem_cons, List.not_mem_nil, or_false]
      rintro y (rfl | rfl | rfl | rfl | rfl) <;> simp [GB, v1Of, ha]
  have ha : a ≠ [] := by rintro rfl; simp at hcl
  obtain ⟨u, hu⟩ : ∃ u, a[c]? = some u := ⟨_, List.getElem?_eq_getElem hcl⟩
  rw [hu] at hgr
  simp only at hgr
  have hb1 := (List.getElem?_eq_some_iff.1 (hg1 ha)).1
  have q5 : ∀ x : ABlk, (G ++ [x])[b1]? = some (.cells (rowW a) 58 (some 3)) := fun x => by rw [List.getElem?_append_left hb1]; exact hg1 ha
  have hrd2 := rowW_at hu
  have hfit2 : c * 3 + 3 ≤ (rowW a).length := by rw [rowW_length]; omega
  have hcl' : (c : Int) < a.length := by omega
  have hc0 : (0 : Int) ≤ c := by omega
  by_cases he : eqW w u = true
  · rw [if_pos he] at hgr
    have hq : ∀ x y : Operand, (pureVal Try.prog do
      eqGuard .eql 58 x y (.agg #[.int .i64 w.t, .int .i64 w.a, .int .i64 w.g]) (.agg #[.int .i64 u.t, .int .i64 u.a, .int .i64 u.g])
      binOp .eql 58 (.agg #[.int .i64 w.t, .int .i64 w.a, .int .i64 w.g]) (.agg #[.int .i64 u.t, .int .i64 u.a, .int .i64 u.g])) = some (.bool true) := fun x y => (geqW x y _ _ _ _ _ _).trans (by unfold eqW at he; rw [he])
    simp (maxSteps := 2000000) (implicitDefEqProofs := false) [DN, NB, begT, atHead, kd, wantedA, evP, evR, evF, evL, evC, evI, evBin, evUn, evEq, evSt, evRes, plain, scp, scpA, scpL, rdRow, rdCells, veq, veqA, veqL, isHole, Value.cells, evalL, optI, evBounds, evFill, evFillR, evApp, newsOf, wrCells, one1, fitsApp, evClr, undef, onB_bool, List.getElem?_concat_length, List.getElem?_cons_zero, List.getElem?_cons_succ, List.getElem?_toArray, List.getElem?_nil, List.set_cons_zero, List.set_cons_succ, List.cons_append, List.nil_append, -getElem?_pos, -getElem?_neg, mrT, v1Of, ha, lp6_0, hlt', hi0, q2, q3, q5, hrd, hfitr, hrd2, hfit2, hcl, hc0, hq, set_concat, splice_many, hwr, hwc]
    refine fin (c + 1) _ _ (by omega) hgr rfl ?_
    simp only [mrT, List.mem_cons, List.not_mem_nil, or_false]
    rintro y (rfl | rfl | rfl | rfl | rfl) <;> simp [GB, v1Of, ha]
  · rw [if_neg he] at hgr
    have he' : eqW w u = false := by simpa using he
    have hq : ∀ x y : Operand, (pureVal Try.prog do
      eqGuard .eql 58 x y (.agg #[.int .i64 w.t, .int .i64 w.a, .int .i64 w.g]) (.agg #[.int .i64 u.t, .int .i64 u.a, .int .i64 u.g])
      binOp .eql 58 (.agg #[.int .i64 w.t, .int .i64 w.a, .int .i64 w.g]) (.agg #[.int .i64 u.t, .int .i64 u.a, .int .i64 u.g])) = some (.bool false) := fun x y => (geqW x y _ _ _ _ _ _).trans (by unfold eqW at he'; rw [he'])
    simp (maxSteps := 2000000) (implicitDefEqProofs := false) [DN, NB, begT, atHead, kd, wantedA, evP, evR, evF, evL, evC, evI, evBin, evUn, evEq, evSt, evRes, plain, scp, scpA, scpL, rdRow, rdCells, veq, veqA, veqL, isHole, Value.cells, evalL, optI, evBounds, evFill, evFillR, evApp, newsOf, wrCells, one1, fitsApp, evClr, undef, onB_bool, List.getElem?_concat_length, List.getElem?_cons_zero, List.getElem?_cons_succ, List.getElem?_toArray, List.getElem?_nil, List.set_cons_zero, List.set_cons_succ, List.cons_append, List.nil_append, -getElem?_pos, -getElem?_neg, mrT, v1Of, ha, lp6_0, hlt', hi0, q2, q3, q5, hrd, hfitr, hrd2, hfit2, hcl, hc0, hq, set_concat, splice_many, hwr]
    refine fin c _ _ hc hgr rfl ?_
    simp only [mrT, List.mem_cons, List.not_mem_nil, or_false]
    rintro y (rfl | rfl | rfl | rfl | rfl) <;> simp [GB, v1Of, ha]

end Ox
end Go.Proofs.Ytekhadlpcdjlpaa
