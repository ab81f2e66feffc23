/- order: ahead, whole. -/
import Derived.Test.YtekhadlpcdjlpaaOr3
namespace Go.Proofs.Ytekhadlpcdjlpaa
namespace Ox
open Go Abs Code
set_option linter.unusedVariables false
set_option linter.unusedSimpArgs false
set_option maxRecDepth 100000

theorem lasts_take {l : List En} {i : Nat} {x : En} (hx : l[i]? = some x) : lasts (l.take (i + 1)) = if bearing x.k then putL (lasts (l.take i)) x.t x.k else lasts (l.take i) := by
  rw [List.take_add_one, hx]
  exact lasts_snoc _ _

set_option maxHeartbeats 4000000 in
theorem loop88a (l : List En) (A : Option Addr) (cap : Nat) (hl : l.length ≤ 1000) (hA : RowOne l.length A) (t : Int) (T0 : T) (h : AH) (Q : AExit → T → AH → Prop)
    (h0 : atHeadV 1 52 (ahT (.slice A l.length cap) l t 0) (ahH l (0, [], 0)) T0 h)
    (hQ : ∀ es c, entsI es (lasts l) → goodM es c → Q (.exit 0) (mkT 52 ((15, .bool false) :: ahT (.slice A l.length cap) l t l.length)) (ahH l (l.length, es, c))) : ALoop Try.prog 1 lp88_0 T0 h Q := by
  refine loop3 hmix 52 (ahI l) (fun s => l.length - s.1) (fun s => ahT (.slice A l.length cap) l t s.1) (ahH l) (0, [], 0) ⟨Nat.zero_le _, rfl, ⟨by simp, by simp⟩⟩ h0 ?_
  rintro ⟨i, es, c⟩ ⟨hi, he, hg⟩
  simp only at hi he hg
  by_cases hlt : i < l.length
  case neg =>
    obtain rfl : i = l.length := by omega
    rw [List.take_length] at he
    have hq := hQ es c he hg
    simp (maxSteps := 2000000) (implicitDefEqProofs := false) [DN, NB, begT, atHead, kd, wantedA, evP, evR, evF, evL, evC, evI, evBin, evUn, evEq, evSt, evRes, plain, scp, scpA, scpL, rdRow, rdCells, veq, veqA, veqL, isHole, Value.cells, evalL, optI, evBounds, evFill, evFillR, evApp, newsOf, wrCells, one1, fitsApp, evClr, undef, onB_bool, List.getElem?_concat_length, List.getElem?_cons_zero, List.getElem?_cons_succ, List.getElem?_toArray, List.getElem?_nil, List.set_cons_zero, List.set_cons_succ, List.cons_append, List.nil_append, -getElem?_pos, -getElem?_neg, ahT, ahH] at hq
    simp (maxSteps := 2000000) (implicitDefEqProofs := false) [DN, NB, begT, atHead, kd, wantedA, evP, evR, evF, evL, evC, evI, evBin, evUn, evEq, evSt, evRes, plain, scp, scpA, scpL, rdRow, rdCells, veq, veqA, veqL, isHole, Value.cells, evalL, optI, evBounds, evFill, evFillR, evApp, newsOf, wrCells, one1, fitsApp, evClr, undef, onB_bool, List.getElem?_concat_length, List.getElem?_cons_zero, List.getElem?_cons_succ, List.getElem?_toArray, List.getElem?_nil, List.set_cons_zero, List.set_cons_succ, List.cons_append, List.nil_append, -getElem?_pos, -getElem?_neg, ahT, ahH, lp88_0]
    exact hq
  have hlt' : (i : Int) < l.length := by omega
  have hi0 : (0 : Int) ≤ i := by omega
  obtain ⟨x, hx⟩ : ∃ x, l[i]? = some x := ⟨_, List.getElem?_eq_getElem hlt⟩
  have hrd := rowOf_at hx
  have hfitr : i * 3 + 3 ≤ (rowOf l).length := by rw [rowOf_length]; omega
  have hwr : IntKind.i64.wrap ((i : Int) + 1) = ((i + 1 : Nat) : Int) := by rw [IntWalk.i64_in _ (by omega)]; omega
  have hA' : A = some ⟨0, 0, none⟩ := by
    rcases hA with ⟨h, _⟩ | h
    · omega
    · exact h
  have hnx := lasts_take hx
  obtain ⟨es', c', hput, he', hg'⟩ := put_ents x.t x.k he (lasts_keys _) hg
  have fin : ∀ (es1 : List MapEntry) (c1 : Nat), entsI es1 (lasts (l.take (i + 1))) → goodM es1 c1 → ∀ t' tl, t'.length = 52 → (∀ y ∈ ahT (.slice A l.length cap) l t (i + 1), getT t' y.1 = some y.2) → nextS 1 52 (ahI l) (fun s => l.length - s.1) (fun s => ahT (.slice A l.length cap) l t s.1) (ahH l) (i, es, c) t' (.row (rowOf l) :: .map es1 c1 :: tl) := by
    intro es1 c1 h1 h2 t' tl e1 e2
    exact nextS.intro (i + 1, es1, c1) (by simp only; omega) ⟨by simp only; omega, h1, h2⟩ (ahHead hA h2 e1 e2)
  subst hA'
  by_cases hb : bearing x.k = true
  · rw [hb, if_pos rfl] at hnx
    rw [← hnx] at he'
    have hf := fin es' c' he' hg'
    have hcase : x.k = 2 ∨ x.k = 3 ∨ x.k = 4 ∨ x.k = 9 := by simpa [bearing] using hb
    rcases hcase with hk | hk | hk | hk
    · rw [hk] at hrd hput
      simp (maxSteps := 2000000) (implicitDefEqProofs := false) [DN, NB, begT, atHead, kd, wantedA, evP, evR, evF, evL, evC, evI, evBin, evUn, evEq, evSt, evRes, plain, scp, scpA, scpL, rdRow, rdCells, veq, veqA, veqL, isHole, Value.cells, evalL, optI, evBounds, evFill, evFillR, evApp, newsOf, wrCells, one1, fitsApp, evClr, undef, onB_bool, List.getElem?_concat_length, List.getElem?_cons_zero, List.getElem?_cons_succ, List.getElem?_toArray, List.getElem?_nil, List.set_cons_zero, List.set_cons_succ, List.cons_append, List.nil_append, -getElem?_pos, -getElem?_neg, ahT, ahH, lp88_0, hlt', hi0, hrd, hfitr, set_concat, splice_many, evMupd, mapAt, hput, hwr]
      refine hf _ _ rfl ?_
      simp only [ahT, List.mem_cons, List.not_mem_nil, or_false]
      rintro y (rfl | rfl | rfl | rfl | rfl) <;> simp [GB]
    · rw [hk] at hrd hput
      simp (maxSteps := 2000000) (implicitDefEqProofs := false) [DN, NB, begT, atHead, kd, wantedA, evP, evR, evF, evL, evC, evI, evBin, evUn, evEq, evSt, evRes, plain, scp, scpA, scpL, rdRow, rdCells, veq, veqA, veqL, isHole, Value.cells, evalL, optI, evBounds, evFill, evFillR, evApp, newsOf, wrCells, one1, fitsApp, evClr, undef, onB_bool, List.getElem?_concat_length, List.getElem?_cons_zero, List.getElem?_cons_succ, List.getElem?_toArray, List.getElem?_nil, List.set_cons_zero, List.set_cons_succ, List.cons_append, List.nil_append, -getElem?_pos, -getElem?_neg, ahT, ahH, lp88_0, hlt', hi0, hrd, hfitr, set_concat, splice_many, evMupd, mapAt, hput, hwr]
      refine hf _ _ rfl ?_
      simp only [ahT, List.mem_cons, List.not_mem_nil, or_false]
      rintro y (rfl | rfl | rfl | rfl | rfl) <;> simp [GB]
    · rw [hk] at hrd hput
      simp (maxSteps := 2000000) (implicitDefEqProofs := false) [DN, NB, begT, atHead, kd, wantedA, evP, evR, evF, evL, evC, evI, evBin, evUn, evEq, evSt, evRes, plain, scp, scpA, scpL, rdRow, rdCells, veq, veqA, veqL, isHole, Value.cells, evalL, optI, evBounds, evFill, evFillR, evApp, newsOf, wrCells, one1, fitsApp, evClr, undef, onB_bool, List.getElem?_concat_length, List.getElem?_cons_zero, List.getElem?_cons_succ, List.getElem?_toArray, List.getElem?_nil, List.set_cons_zero, List.set_cons_succ, List.cons_append, List.nil_append, -getElem?_pos, -getElem?_neg, ahT, ahH, lp88_0, hlt', hi0, hrd, hfitr, set_concat, splice_many, evMupd, mapAt, hput, hwr]
      refine hf _ _ rfl ?_
      simp only [ahT, List.mem_cons, List.not_mem_nil, or_false]
      rintro y (rfl | rfl | rfl | rfl | rfl) <;> simp [GB]
    · rw [hk] at hrd hput
      simp (maxSteps := 2000000) (implicitDefEqProofs := false) [DN, NB, begT, atHead, kd, wantedA, evP, evR, evF, evL, evC, evI, evBin, evUn, evEq, evSt, evRes, plain, scp, scpA, scpL, rdRow, rdCells, veq, veqA, veqL, isHole, Value.cells, evalL, optI, evBounds, evFill, evFillR, evApp, newsOf, wrCells, one1, fitsApp, evClr, undef, onB_bool, List.getElem?_concat_length, List.getElem?_cons_zero, List.getElem?_cons_succ, List.getElem?_toArray, List.getElem?_nil, List.set_cons_zero, List.set_cons_succ, List.cons_append, List.nil_append, -getElem?_pos, -getElem?_neg, ahT, ahH, lp88_0, hlt', hi0, hrd, hfitr, set_concat, splice_many, evMupd, mapAt, hput, hwr]
      refine hf _ _ rfl ?_
      simp only [ahT, List.mem_cons, List.not_mem_nil, or_false]
      rintro y (rfl | rfl | rfl | rfl | rfl) <;> simp [GB]
  · have hb' : bearing x.k = false := by simpa using hb
    rw [hb', if_neg (by simp)] at hnx
    have hf := fin es c (by rw [hnx]; exact he) hg
    have hno : ¬ (x.k = 2 ∨ x.k = 3 ∨ x.k = 4 ∨ x.k = 9) := by simpa [bearing] using hb
    have k2 : ¬ x.k = 2 := fun h => hno (.inl h)
    have k3 : ¬ x.k = 3 := fun h => hno (.inr (.inl h))
    have k4 : ¬ x.k = 4 := fun h => hno (.inr (.inr (.inl h)))
    have k9 : ¬ x.k = 9 := fun h => hno (.inr (.inr (.inr h)))
    have b2 : (x.k == 2) = false := by simp [k2]
    have b3 : (x.k == 3) = false := by simp [k3]
    have b4 : (x.k == 4) = false := by simp [k4]
    have b9 : (x.k == 9) = false := by simp [k9]
    simp (maxSteps := 2000000) (implicitDefEqProofs := false) [DN, NB, begT, atHead, kd, wantedA, evP, evR, evF, evL, evC, evI, evBin, evUn, evEq, evSt, evRes, plain, scp, scpA, scpL, rdRow, rdCells, veq, veqA, veqL, isHole, Value.cells, evalL, optI, evBounds, evFill, evFillR, evApp, newsOf, wrCells, one1, fitsApp, evClr, undef, onB_bool, List.getElem?_concat_length, List.getElem?_cons_zero, List.getElem?_cons_succ, List.getElem?_toArray, List.getElem?_nil, List.set_cons_zero, List.set_cons_succ, List.cons_append, List.nil_append, -getElem?_pos, -getElem?_neg, ahT, ahH, lp88_0, hlt', hi0, hrd, hfitr, set_concat, splice_many, hwr, k2, k3, k4, k9, b2, b3, b4, b9]
    refine hf _ _ rfl ?_
    simp only [ahT, List.mem_cons, List.not_mem_nil, or_false]
    rintro y (rfl | rfl | rfl | rfl | rfl) <;> simp [GB]

theorem putL_length (m : List (Int × Int)) (t k : Int) : (putL m t k).length ≤ m.length + 1 := by
  unfold putL
  split <;> simp

theorem lasts_length (l : List En) : (lasts l).length ≤ l.length := by
  have key : ∀ n, (lasts (l.take n)).length ≤ n := by
    intro n
    induction n with
    | zero => simp [lasts]
    | succ n ih =>
      cases hx : l[n]? with
      | none =>
        rw [List.take_add_one, hx]
        simpa using Nat.le_succ_of_le ih
      | some x =>
        rw [lasts_take hx]
        split
        · exact Nat.le_trans (putL_length _ _ _) (by omega)
        · omega
  have := key l.length
  rwa [List.take_length] at this

set_option maxHeartbeats 4000000 in
theorem ahead_ (l : List En) (A : Option Addr) (cap : Nat) (hl : l.length ≤ 1000) (hA : RowOne l.length A) (t : Int) : AC Try.prog 88 [.slice A l.length cap, .int .i64 t] [.row (rowOf l)] (fun v h' => v = .int .i64 (aheadL l t : Nat) ∧ h' = [.row (rowOf l)]) := by
  refine AC.cut ?_
  refine entry hmix cf88 ?_
  simp (maxSteps := 2000000) (implicitDefEqProofs := false) [DN, NB, begT, atHead, kd, wantedA, evP, evR, evF, evL, evC, evI, evBin, evUn, evEq, evSt, evRes, plain, scp, scpA, scpL, rdRow, rdCells, veq, veqA, veqL, isHole, Value.cells, evalL, optI, evBounds, evFill, evFillR, evApp, newsOf, wrCells, one1, fitsApp, evClr, undef, onB_bool, List.getElem?_concat_length, List.getElem?_cons_zero, List.getElem?_cons_succ, List.getElem?_toArray, List.getElem?_nil, List.set_cons_zero, List.set_cons_succ, List.cons_append, List.nil_append, -getElem?_pos, -getElem?_neg]
  refine loop88a l A cap hl hA t _ _ _ (ahHead (s := (0, [], 0)) (tl := []) hA ⟨by simp, by simp⟩ rfl ?_) ?_
  · simp only [ahT, List.mem_cons, List.not_mem_nil, or_false]
    rintro y (rfl | rfl | rfl | rfl | rfl) <;> simp [GB]
  intro es c he hg
  have hlen : es.length = (lasts l).length := by have := congrArg List.length he; simpa using this
  have hel : es.length ≤ 1000 := by have := lasts_length l; omega
  simp (maxSteps := 2000000) (implicitDefEqProofs := false) [DN, NB, begT, atHead, kd, wantedA, evP, evR, evF, evL, evC, evI, evBin, evUn, evEq, evSt, evRes, plain, scp, scpA, scpL, rdRow, rdCells, veq, veqA, veqL, isHole, Value.cells, evalL, optI, evBounds, evFill, evFillR, evApp, newsOf, wrCells, one1, fitsApp, evClr, undef, onB_bool, List.getElem?_concat_length, List.getElem?_cons_zero, List.getElem?_cons_succ, List.getElem?_toArray, List.getElem?_nil, List.set_cons_zero, List.set_cons_succ, List.cons_append, List.nil_append, -getElem?_pos, -getElem?_neg, ahT, ahH]
  refine rangeK (b := 1) (es := es) (clock := c) rfl hg ?_
  simp (maxSteps := 2000000) (implicitDefEqProofs := false) [DN, NB, begT, atHead, kd, wantedA, evP, evR, evF, evL, evC, evI, evBin, evUn, evEq, evSt, evRes, plain, scp, scpA, scpL, rdRow, rdCells, veq, veqA, veqL, isHole, Value.cells, evalL, optI, evBounds, evFill, evFillR, evApp, newsOf, wrCells, one1, fitsApp, evClr, undef, onB_bool, List.getElem?_concat_length, List.getElem?_cons_zero, List.getElem?_cons_succ, List.getElem?_toArray, List.getElem?_nil, List.set_cons_zero, List.set_cons_succ, List.cons_append, List.nil_append, -getElem?_pos, -getElem?_neg]
  refine loop88b l es c (lasts l) he hg hel t _ _ _ (ah2Head (s := ([], 0)) rfl ?_) ?_
  · simp only [ah2T, List.mem_cons, List.not_mem_nil, or_false]
    rintro y (rfl | rfl | rfl) <;> simp [GB]
  rintro ⟨seen, n⟩ hn
  simp only at hn
  rw [count_ents he] at hn
  have hn2 : n = aheadL l t := hn
  simp (maxSteps := 2000000) (implicitDefEqProofs := false) [DN, NB, begT, atHead, kd, wantedA, evP, evR, evF, evL, evC, evI, evBin, evUn, evEq, evSt, evRes, plain, scp, scpA, scpL, rdRow, rdCells, veq, veqA, veqL, isHole, Value.cells, evalL, optI, evBounds, evFill, evFillR, evApp, newsOf, wrCells, one1, fitsApp, evClr, undef, onB_bool, List.getElem?_concat_length, List.getElem?_cons_zero, List.getElem?_cons_succ, List.getElem?_toArray, List.getElem?_nil, List.set_cons_zero, List.set_cons_succ, List.cons_append, List.nil_append, -getElem?_pos, -getElem?_neg, ah2T, ah2H]
  exact ⟨[.row (rowOf l)], rfl, aok1 l, Nat.le_refl _, rfl, by rw [hn2], rfl⟩

theorem aheadG {l : List En} {A : Option Addr} {cap : Nat} {H : AH} (hl : l.length ≤ 1000) (hA : RowAt H A l.length (rowOf l)) (t : Int) {K : Value → AH → Prop} (hK : K (.int .i64 (aheadL l t : Nat)) H) : AC Try.prog 88 [.slice A l.length cap, .int .i64 t] H K :=
  AC.rowG (pre := []) (rest := [.int .i64 t]) (rowOf_plain l) (by simp) (by simp [plain, scp]) rfl (fun A' hA' => ahead_ l A' cap hl hA' t) hA hK

end Ox
end Go.Proofs.Ytekhadlpcdjlpaa
