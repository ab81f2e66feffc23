/- order: Waits, whole. -/
import Derived.Test.YtekhadlpcdjlpaaOr7
import Derived.Test.YtekhadlpcdjlpaaOrE
namespace Go.Proofs.Ytekhadlpcdjlpaa
namespace Ox
open Go Abs Code
set_option linter.unusedVariables false
set_option linter.unusedSimpArgs false
set_option maxRecDepth 100000

/-- Waits, handed out, from the block n on. -/
inductive WOut (ts : List Tn) (ws : List Wt) (n : Nat) : Value → AH → Prop
  | nil : ws = [] → WOut ts ws n (.slice none 0 0) []
  | some_ : ws ≠ [] → WOut ts ws n (.slice (some ⟨n + 1, 0, none⟩) ws.length (OPEN + ws.length)) [tB ts, wB ws]

set_option maxHeartbeats 2000000 in
theorem waits_ (l : List En) (A : Option Addr) (cap : Nat) (hl : l.length ≤ 1000) (hcl : l.length ≤ cap) (hcap : cap < OPEN) (hA : RowOne l.length A) : AC Try.prog 33 [.slice A l.length cap] [.row (rowOf l)] (fun v h' => ∃ E, h' = .row (rowOf l) :: E ∧ WOut (turnsL l) (waitsL l) 1 v E) := by
  refine entry hmix cf33 ?_
  simp (maxSteps := 2000000) (implicitDefEqProofs := false) [DN, NB, begT, atHead, kd, wantedA, evP, evR, evF, evL, evC, evI, evBin, evUn, evEq, evSt, evRes, plain, scp, scpA, scpL, rdRow, rdCells, veq, veqA, veqL, isHole, Value.cells, evalL, optI, evBounds, evFill, evFillR, evApp, newsOf, wrCells, one1, fitsApp, evClr, undef, onB_bool, List.getElem?_concat_length, List.getElem?_cons_zero, List.getElem?_cons_succ, List.getElem?_toArray, List.getElem?_nil, List.set_cons_zero, List.set_cons_succ, List.cons_append, List.nil_append, -getElem?_pos, -getElem?_neg]
  refine turnsG hl (rowAt_one (tl := []) hA) fun v E hT => ?_
  cases hT with
  | nil hn =>
    have hw : waitsL l = [] := by unfold waitsL; rw [hn]; rfl
    simp (maxSteps := 2000000) (implicitDefEqProofs := false) [DN, NB, begT, atHead, kd, wantedA, evP, evR, evF, evL, evC, evI, evBin, evUn, evEq, evSt, evRes, plain, scp, scpA, scpL, rdRow, rdCells, veq, veqA, veqL, isHole, Value.cells, evalL, optI, evBounds, evFill, evFillR, evApp, newsOf, wrCells, one1, fitsApp, evClr, undef, onB_bool, List.getElem?_concat_length, List.getElem?_cons_zero, List.getElem?_cons_succ, List.getElem?_toArray, List.getElem?_nil, List.set_cons_zero, List.set_cons_succ, List.cons_append, List.nil_append, -getElem?_pos, -getElem?_neg]
    refine loop3 hmix 35 (fun _ : Unit => True) (fun _ => 0) (fun _ => [(3, .slice none 0 0), (8, .int .i64 0), (9, .int .i64 0)]) (fun _ => [.row (rowOf l)]) () trivial (rowHead rfl rfl ?_) ?_
    · simp only [List.mem_cons, List.not_mem_nil, or_false]
      rintro y (rfl | rfl | rfl) <;> simp [GB, scp]
    intro _ _
    simp (maxSteps := 2000000) (implicitDefEqProofs := false) [DN, NB, begT, atHead, kd, wantedA, evP, evR, evF, evL, evC, evI, evBin, evUn, evEq, evSt, evRes, plain, scp, scpA, scpL, rdRow, rdCells, veq, veqA, veqL, isHole, Value.cells, evalL, optI, evBounds, evFill, evFillR, evApp, newsOf, wrCells, one1, fitsApp, evClr, undef, onB_bool, List.getElem?_concat_length, List.getElem?_cons_zero, List.getElem?_cons_succ, List.getElem?_toArray, List.getElem?_nil, List.set_cons_zero, List.set_cons_succ, List.cons_append, List.nil_append, -getElem?_pos, -getElem?_neg]
    exact .nil hw
  | some_ hn =>
    have hA' : A = some ⟨0, 0, none⟩ := by
      rcases hA with ⟨h, _⟩ | h
      · exact absurd (List.length_eq_zero_iff.1 (by have := turns_length l; omega)) hn
      · exact h
    subst hA'
    have hw : waitsL l ≠ [] := by
      intro h
      have := waits_len l
      rw [h] at this
      exact hn (List.length_eq_zero_iff.1 this.symm)
    have hlen : (turnsL l).length ≠ 0 := fun h => hn (List.length_eq_zero_iff.1 h)
    have hup : wsUp l (turnsL l) (turnsL l).length = waitsL l := by unfold wsUp waitsL; rw [List.take_length]
    simp (maxSteps := 2000000) (implicitDefEqProofs := false) [DN, NB, begT, atHead, kd, wantedA, evP, evR, evF, evL, evC, evI, evBin, evUn, evEq, evSt, evRes, plain, scp, scpA, scpL, rdRow, rdCells, veq, veqA, veqL, isHole, Value.cells, evalL, optI, evBounds, evFill, evFillR, evApp, newsOf, wrCells, one1, fitsApp, evClr, undef, onB_bool, List.getElem?_concat_length, List.getElem?_cons_zero, List.getElem?_cons_succ, List.getElem?_toArray, List.getElem?_nil, List.set_cons_zero, List.set_cons_succ, List.cons_append, List.nil_append, -getElem?_pos, -getElem?_neg]
    refine loop33 l cap hl hcl hcap hn _ _ _ (waHead hn 2 (by decide) rfl rfl rfl (fun h => absurd rfl h) (by simp [GB]) (by simp [GB]) (by simp [GB]) (by simp [GB]) (by simp [GB])) ?_
    simp (maxSteps := 2000000) (implicitDefEqProofs := false) [DN, NB, begT, atHead, kd, wantedA, evP, evR, evF, evL, evC, evI, evBin, evUn, evEq, evSt, evRes, plain, scp, scpA, scpL, rdRow, rdCells, veq, veqA, veqL, isHole, Value.cells, evalL, optI, evBounds, evFill, evFillR, evApp, newsOf, wrCells, one1, fitsApp, evClr, undef, onB_bool, List.getElem?_concat_length, List.getElem?_cons_zero, List.getElem?_cons_succ, List.getElem?_toArray, List.getElem?_nil, List.set_cons_zero, List.set_cons_succ, List.cons_append, List.nil_append, -getElem?_pos, -getElem?_neg, waT, waH, wE, wV, hn, hlen, hup]
    have := WOut.some_ (ts := turnsL l) (n := 1) hw
    rw [waits_len l] at this
    exact this

theorem waitsG {l : List En} {A : Option Addr} {cap : Nat} {H : AH} (hl : l.length ≤ 1000) (hcl : l.length ≤ cap) (hcap : cap < OPEN) (hA : RowAt H A l.length (rowOf l)) {K : Value → AH → Prop} (hK : ∀ v E, WOut (turnsL l) (waitsL l) H.length v E → K v (H ++ E)) : AC Try.prog 33 [.slice A l.length cap] H K := by
  refine AC.rowGE (pre := []) (rest := []) (WOut (turnsL l) (waitsL l) 1) (rowOf_plain l) (by simp) (by simp) (fun A' hA' => (waits_ l A' cap hl hcl hcap hA').mono ?_) hA ?_
  · rintro v h' ⟨E, rfl, ht⟩
    cases ht with
    | nil h => exact ⟨[], rfl, by simp, rfl, .nil h⟩
    | some_ h =>
      refine ⟨[tB (turnsL l), wB (waitsL l)], rfl, fun k hk => ?_, by simp [scp], .some_ h⟩
      simp only [List.mem_cons, List.not_mem_nil, or_false] at hk
      rcases hk with rfl | rfl
      · exact ⟨tB_noNames _, by simp [tB], fun cb => rfl⟩
      · exact ⟨wB_noNames _, by simp [wB], fun cb => rfl⟩
  · intro v E ht
    cases ht with
    | nil h => simpa [ren] using hK _ _ (.nil h)
    | some_ h => simpa [ren, renA] using hK _ _ (.some_ h)

def l4 : List En := [⟨2, 0, 0⟩, ⟨2, 1, 0⟩, ⟨3, 1, 0⟩, ⟨3, 0, 0⟩]
theorem l4_turns : turnsL l4 = [⟨0, 0, 3⟩, ⟨1, 1, 2⟩] := by rfl
theorem l4_waits : waitsL l4 = [⟨0, 0, 1⟩, ⟨1, 1, 0⟩] := by rfl

set_option maxHeartbeats 2000000 in
theorem awake_ : AC Try.prog 32 [] [] (fun v h' => v = .bool true) := by
  refine entry hmix cf32 ?_
  simp (maxSteps := 2000000) (implicitDefEqProofs := false) [DN, NB, begT, atHead, kd, wantedA, evP, evR, evF, evL, evC, evI, evBin, evUn, evEq, evSt, evRes, plain, scp, scpA, scpL, rdRow, rdCells, veq, veqA, veqL, isHole, Value.cells, evalL, optI, evBounds, evFill, evFillR, evApp, newsOf, wrCells, one1, fitsApp, evClr, undef, onB_bool, List.getElem?_concat_length, List.getElem?_cons_zero, List.getElem?_cons_succ, List.getElem?_toArray, List.getElem?_nil, List.set_cons_zero, List.set_cons_succ, List.cons_append, List.nil_append, -getElem?_pos, -getElem?_neg]
  have hat : ∀ tl : AH, RowAt (.cells (rowOf l4) 122 none :: tl) (some ⟨0, 0, none⟩) l4.length (rowOf l4) := fun tl => .inr ⟨0, 0, none, rfl, .inr ⟨rfl, rowOf l4, rfl, fun i v hv => by rw [Nat.zero_add]; exact hv⟩⟩
  refine waitsG (l := l4) (by decide) (by decide) (by unfold OPEN; decide) (hat []) fun v E hw => ?_
  rw [l4_turns, l4_waits] at hw
  cases hw with
  | nil h => cases h
  | some_ h =>
    simp (maxSteps := 2000000) (implicitDefEqProofs := false) [DN, NB, begT, atHead, kd, wantedA, evP, evR, evF, evL, evC, evI, evBin, evUn, evEq, evSt, evRes, plain, scp, scpA, scpL, rdRow, rdCells, veq, veqA, veqL, isHole, Value.cells, evalL, optI, evBounds, evFill, evFillR, evApp, newsOf, wrCells, one1, fitsApp, evClr, undef, onB_bool, List.getElem?_concat_length, List.getElem?_cons_zero, List.getElem?_cons_succ, List.getElem?_toArray, List.getElem?_nil, List.set_cons_zero, List.set_cons_succ, List.cons_append, List.nil_append, -getElem?_pos, -getElem?_neg, wB, tB, rowW, rowT]
    refine overG (l := l4) (by decide) (hat _) ?_
    rw [l4_turns]
    have ho : overL [⟨0, 0, 3⟩, ⟨1, 1, 2⟩] = 1 := by rfl
    rw [ho]
    simp (maxSteps := 2000000) (implicitDefEqProofs := false) [DN, NB, begT, atHead, kd, wantedA, evP, evR, evF, evL, evC, evI, evBin, evUn, evEq, evSt, evRes, plain, scp, scpA, scpL, rdRow, rdCells, veq, veqA, veqL, isHole, Value.cells, evalL, optI, evBounds, evFill, evFillR, evApp, newsOf, wrCells, one1, fitsApp, evClr, undef, onB_bool, List.getElem?_concat_length, List.getElem?_cons_zero, List.getElem?_cons_succ, List.getElem?_toArray, List.getElem?_nil, List.set_cons_zero, List.set_cons_succ, List.cons_append, List.nil_append, -getElem?_pos, -getElem?_neg, geqW]

end Ox
end Go.Proofs.Ytekhadlpcdjlpaa
