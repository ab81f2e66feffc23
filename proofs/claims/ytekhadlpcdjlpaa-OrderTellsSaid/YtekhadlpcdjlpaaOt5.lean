/- order: Most. -/
import Derived.Test.YtekhadlpcdjlpaaOr8
namespace Go.Proofs.Ytekhadlpcdjlpaa
namespace Ox
open Go Abs Code
set_option linter.unusedVariables false
set_option linter.unusedSimpArgs false
set_option maxRecDepth 100000

def mxA (ws : List Wt) : Int := ws.foldl (fun m w => max m w.a) 0
def mxG (ws : List Wt) : Int := ws.foldl (fun m w => max m w.g) 0
theorem mxA_take {ws : List Wt} {i : Nat} {w : Wt} (h : ws[i]? = some w) : mxA (ws.take (i + 1)) = max (mxA (ws.take i)) w.a := by
  unfold mxA; rw [List.take_add_one, h, List.foldl_append]; rfl
theorem mxG_take {ws : List Wt} {i : Nat} {w : Wt} (h : ws[i]? = some w) : mxG (ws.take (i + 1)) = max (mxG (ws.take i)) w.g := by
  unfold mxG; rw [List.take_add_one, h, List.foldl_append]; rfl

def mtT (n : Nat) (i : Nat) : List (Nat × Value) := [(2, .pointer (some ⟨1, 0, none⟩)), (3, .pointer (some ⟨2, 0, none⟩)), (7, .slice (some ⟨4, 0, none⟩) n (OPEN + n)), (8, .int .i64 n), (9, .int .i64 i)]
def mtH (l : List En) (i : Nat) : AH := [.row (rowOf l), .cells [.int .i64 0, .int .i64 0, .int .i64 0] 58 none, .cells [.int .i64 0, .int .i64 (mxA ((waitsL l).take i)), .int .i64 (mxG ((waitsL l).take i))] 58 none, tB (turnsL l), wB (waitsL l)]
theorem mtH_ok (l : List En) (i : Nat) : AOK (mtH l i) := by
  have h3 : ∀ a b c : Int, noNames (.cells [.int .i64 a, .int .i64 b, .int .i64 c] 58 none) := by intro a b c v hv; simp at hv; rcases hv with rfl | rfl | rfl <;> rfl
  exact AOK.of ⟨scp_noNames (rowOf_noNames l) _, scp_noNames (h3 _ _ _) _, scp_noNames (h3 _ _ _) _, scp_noNames (tB_noNames _) _, scp_noNames (wB_noNames _) _, trivial⟩

set_option maxHeartbeats 4000000 in
theorem most_ (l : List En) (A : Option Addr) (cap : Nat) (hl : l.length ≤ 1000) (hcl : l.length ≤ cap) (hcap : cap < OPEN) (hA : RowOne l.length A) : AC Try.prog 39 [.slice A l.length cap] [.row (rowOf l)] (fun v h' => v = .agg #[.int .i64 0, .int .i64 (mxA (waitsL l)), .int .i64 (mxG (waitsL l))] ∧ h' = [.row (rowOf l)]) := by
  refine AC.cut ?_
  refine entry hmix cf39 ?_
  simp (maxSteps := 2000000) (implicitDefEqProofs := false) [DN, NB, begT, atHead, kd, wantedA, evP, evR, evF, evL, evC, evI, evBin, evUn, evEq, evSt, evRes, plain, scp, scpA, scpL, rdRow, rdCells, veq, veqA, veqL, isHole, Value.cells, evalL, optI, evBounds, evFill, evFillR, evApp, newsOf, wrCells, one1, fitsApp, evClr, undef, onB_bool, List.getElem?_concat_length, List.getElem?_cons_zero, List.getElem?_cons_succ, List.getElem?_toArray, List.getElem?_nil, List.set_cons_zero, List.set_cons_succ, List.cons_append, List.nil_append, -getElem?_pos, -getElem?_neg]
  refine waitsG hl hcl hcap (rowAt_one hA) fun v E hw => ?_
  cases hw with
  | nil h =>
    simp (maxSteps := 2000000) (implicitDefEqProofs := false) [DN, NB, begT, atHead, kd, wantedA, evP, evR, evF, evL, evC, evI, evBin, evUn, evEq, evSt, evRes, plain, scp, scpA, scpL, rdRow, rdCells, veq, veqA, veqL, isHole, Value.cells, evalL, optI, evBounds, evFill, evFillR, evApp, newsOf, wrCells, one1, fitsApp, evClr, undef, onB_bool, List.getElem?_concat_length, List.getElem?_cons_zero, List.getElem?_cons_succ, List.getElem?_toArray, List.getElem?_nil, List.set_cons_zero, List.set_cons_succ, List.cons_append, List.nil_append, -getElem?_pos, -getElem?_neg]
    have e1 : mxA (waitsL l) = 0 := by rw [h]; rfl
    have e2 : mxG (waitsL l) = 0 := by rw [h]; rfl
    refine loop3 hmix 27 (fun _ : Unit => True) (fun _ => 0) (fun _ => [(2, .pointer (some ⟨1, 0, none⟩)), (3, .pointer (some ⟨2, 0, none⟩)), (8, .int .i64 0), (9, .int .i64 0)]) (fun _ => [.row (rowOf l), .cells [.int .i64 0, .int .i64 0, .int .i64 0] 58 none, .cells [.int .i64 0, .int .i64 0, .int .i64 0] 58 none]) () trivial (headId (fun _ _ hb => hb) ?_ (fun b hb => ?_) (by simp) rfl fun y hy => ?_) ?_
    · have h3 : ∀ a b c : Int, noNames (.cells [.int .i64 a, .int .i64 b, .int .i64 c] 58 none) := by intro a b c v hv; simp at hv; rcases hv with rfl | rfl | rfl <;> rfl
      exact AOK.of ⟨scp_noNames (rowOf_noNames l) _, scp_noNames (h3 _ _ _) _, scp_noNames (h3 _ _ _) _, trivial⟩
    · obtain rfl : b = 0 := by omega
      rfl
    · simp only [List.mem_cons, List.not_mem_nil, or_false] at hy
      rcases hy with rfl | rfl | rfl | rfl <;> exact ⟨by simp [GB], by simp [scp, live]⟩
    intro _ _
    simp (maxSteps := 2000000) (implicitDefEqProofs := false) [DN, NB, begT, atHead, kd, wantedA, evP, evR, evF, evL, evC, evI, evBin, evUn, evEq, evSt, evRes, plain, scp, scpA, scpL, rdRow, rdCells, veq, veqA, veqL, isHole, Value.cells, evalL, optI, evBounds, evFill, evFillR, evApp, newsOf, wrCells, one1, fitsApp, evClr, undef, onB_bool, List.getElem?_concat_length, List.getElem?_cons_zero, List.getElem?_cons_succ, List.getElem?_toArray, List.getElem?_nil, List.set_cons_zero, List.set_cons_succ, List.cons_append, List.nil_append, -getElem?_pos, -getElem?_neg, e1, e2, splice_many]
    exact ⟨[.row (rowOf l)], rfl, aok1 l, Nat.le_refl _, rfl, rfl⟩
  | some_ h =>
    simp (maxSteps := 2000000) (implicitDefEqProofs := false) [DN, NB, begT, atHead, kd, wantedA, evP, evR, evF, evL, evC, evI, evBin, evUn, evEq, evSt, evRes, plain, scp, scpA, scpL, rdRow, rdCells, veq, veqA, veqL, isHole, Value.cells, evalL, optI, evBounds, evFill, evFillR, evApp, newsOf, wrCells, one1, fitsApp, evClr, undef, onB_bool, List.getElem?_concat_length, List.getElem?_cons_zero, List.getElem?_cons_succ, List.getElem?_toArray, List.getElem?_nil, List.set_cons_zero, List.set_cons_succ, List.cons_append, List.nil_append, -getElem?_pos, -getElem?_neg]
    obtain ⟨tv, htv⟩ : ∃ tv, tv = mtT (waitsL l).length := ⟨_, rfl⟩
    obtain ⟨hv, hhv⟩ : ∃ hv, hv = mtH l := ⟨_, rfl⟩
    have hhd : ∀ i t' tl, t'.length = 27 → (∀ y ∈ mtT (waitsL l).length i, getT t' y.1 = some y.2) → atHeadV 1 27 (tv i) (hv i) t' (mtH l i ++ tl) := by
      intro i t' tl e1 e2
      rw [htv, hhv]
      refine headId (fun b k hb => by rw [List.getElem?_append_left (List.getElem?_eq_some_iff.1 hb).1]; exact hb) (mtH_ok l i) (fun b hb => ?_) (by simp [mtH]) e1 fun y hy => ⟨e2 y hy, ?_⟩
      · obtain rfl : b = 0 := by omega
        rfl
      · simp only [mtT, List.mem_cons, List.not_mem_nil, or_false] at hy
        rcases hy with rfl | rfl | rfl | rfl | rfl <;> simp [scp, live, mtH, wB]
    have hwl : (waitsL l).length ≤ 1000 := by have := waits_len l; have := turns_length l; omega
    refine loop3 hmix 27 (fun i => i ≤ (waitsL l).length) (fun i => (waitsL l).length - i) tv hv 0 (Nat.zero_le _) (hhd 0 _ [] rfl ?_) ?_
    · simp only [mtT, List.mem_cons, List.not_mem_nil, or_false]
      rintro y (rfl | rfl | rfl | rfl | rfl) <;> simp [GB]
    intro i hi
    rw [show tv i = mtT (waitsL l).length i by rw [htv], show hv i = mtH l i by rw [hhv]]
    by_cases hlt : i < (waitsL l).length
    case neg =>
      obtain rfl : i = (waitsL l).length := by omega
      have htk : (waitsL l).take (waitsL l).length = waitsL l := List.take_length
      simp (maxSteps := 2000000) (implicitDefEqProofs := false) [DN, NB, begT, atHead, kd, wantedA, evP, evR, evF, evL, evC, evI, evBin, evUn, evEq, evSt, evRes, plain, scp, scpA, scpL, rdRow, rdCells, veq, veqA, veqL, isHole, Value.cells, evalL, optI, evBounds, evFill, evFillR, evApp, newsOf, wrCells, one1, fitsApp, evClr, undef, onB_bool, List.getElem?_concat_length, List.getElem?_cons_zero, List.getElem?_cons_succ, List.getElem?_toArray, List.getElem?_nil, List.set_cons_zero, List.set_cons_succ, List.cons_append, List.nil_append, -getElem?_pos, -getElem?_neg, mtT, mtH, htk, splice_many]
      exact ⟨[.row (rowOf l)], rfl, aok1 l, Nat.le_refl _, rfl, rfl⟩
    have hlt' : (i : Int) < (waitsL l).length := by omega
    have hi0 : (0 : Int) ≤ i := by omega
    obtain ⟨w, hw⟩ : ∃ w, (waitsL l)[i]? = some w := ⟨_, List.getElem?_eq_getElem hlt⟩
    have hrd := rowW_at hw
    have hfitr : i * 3 + 3 ≤ (rowW (waitsL l)).length := by rw [rowW_length]; omega
    have hwr : IntKind.i64.wrap ((i : Int) + 1) = (i : Int) + 1 := IntWalk.i64_in _ (by omega)
    have hma := mxA_take hw
    have hmg := mxG_take hw
    simp (maxSteps := 2000000) (implicitDefEqProofs := false) [DN, NB, begT, atHead, kd, wantedA, evP, evR, evF, evL, evC, evI, evBin, evUn, evEq, evSt, evRes, plain, scp, scpA, scpL, rdRow, rdCells, veq, veqA, veqL, isHole, Value.cells, evalL, optI, evBounds, evFill, evFillR, evApp, newsOf, wrCells, one1, fitsApp, evClr, undef, onB_bool, List.getElem?_concat_length, List.getElem?_cons_zero, List.getElem?_cons_succ, List.getElem?_toArray, List.getElem?_nil, List.set_cons_zero, List.set_cons_succ, List.cons_append, List.nil_append, -getElem?_pos, -getElem?_neg, mtT, mtH, wB, hlt', hi0, hrd, hfitr, set_concat, splice_many, hwr]
    rw [← hma, ← hmg]
    refine nextS.intro (i + 1) (by omega) (by omega) (hhd (i + 1) _ [_] rfl ?_)
    simp only [mtT, List.mem_cons, List.not_mem_nil, or_false]
    rintro y (rfl | rfl | rfl | rfl | rfl) <;> simp [GB]

theorem mostG {l : List En} {A : Option Addr} {cap : Nat} {H : AH} (hl : l.length ≤ 1000) (hcl : l.length ≤ cap) (hcap : cap < OPEN) (hA : RowAt H A l.length (rowOf l)) {K : Value → AH → Prop} (hK : K (.agg #[.int .i64 0, .int .i64 (mxA (waitsL l)), .int .i64 (mxG (waitsL l))]) H) : AC Try.prog 39 [.slice A l.length cap] H K :=
  AC.rowG (pre := []) (rest := []) (rowOf_plain l) (by simp) (by simp) (by simp [plain, scp, scpA, scpL]) (fun A' hA' => most_ l A' cap hl hcl hcap hA') hA hK

end Ox
end Go.Proofs.Ytekhadlpcdjlpaa
