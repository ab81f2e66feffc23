/- order: the document's answer, walked: Waits, in any heap. -/
import Derived.Test.YtekhadlpcdjlpaaOt11
import Derived.Test.YtekhadlpcdjlpaaOtE
import Derived.Test.YtekhadlpcdjlpaaOt5
namespace Go.Proofs.Ytekhadlpcdjlpaa
namespace Ox
open Go Abs Code
set_option linter.unusedVariables false
set_option linter.unusedSimpArgs false
set_option maxRecDepth 100000

def CapOk (n cap : Nat) : Prop := n = 0 ∨ ∃ c, cap = OPEN + c ∧ n ≤ c

theorem enV_row (l : List En) {H : AH} {n : Nat} (hH : l ≠ [] → H[n]? = some (.cells (rowOf l) 126 (some 3))) : ∃ A cap, enV n l = .slice A l.length cap ∧ CapOk l.length cap ∧ RowAt H A l.length (rowOf l) := by
  by_cases h : l = []
  · subst h
    exact ⟨none, 0, rfl, .inl rfl, .inl ⟨rfl, rfl, rfl⟩⟩
  · refine ⟨some ⟨n, 0, none⟩, OPEN + l.length, by simp [enV, h], .inr ⟨_, rfl, Nat.le_refl _⟩, .inr ⟨n, 0, none, rfl, .inr ⟨rfl, rowOf l, by simp [rdRow, hH h], fun i v hv => by simpa using hv⟩⟩⟩

theorem rwaitsX_ (l : List En) (A : Option Addr) (cap : Nat) (hl : l.length ≤ 1000) (hcap : CapOk l.length cap) (hA : RowOne l.length A) : AC Try.prog 38 [.slice A l.length cap] [.row (rowOf l)] (fun v h' => h' = .row (rowOf l) :: rwH (waitsL l) ∧ v = rwV 1 (waitsL l)) := by
  by_cases h0 : l = []
  · subst h0
    have hw : waitsL ([] : List En) = [] := rfl
    rw [hw]
    refine entry hmix cf38 ?_
    simp (maxSteps := 2000000) (implicitDefEqProofs := false) [DN, NB, begT, atHead, kd, wantedA, evP, evR, evF, evL, evC, evI, evBin, evUn, evEq, evSt, evRes, plain, scp, scpA, scpL, rdRow, rdCells, veq, veqA, veqL, isHole, Value.cells, evalL, optI, evBounds, evFill, evFillR, evApp, newsOf, wrCells, one1, fitsApp, evClr, undef, onB_bool, List.getElem?_concat_length, List.getElem?_cons_zero, List.getElem?_cons_succ, List.getElem?_toArray, List.getElem?_nil, List.set_cons_zero, List.set_cons_succ, List.cons_append, List.nil_append, -getElem?_pos, -getElem?_neg]
    refine loop3 hmix 103 (fun _ : Unit => True) (fun _ => 0) (fun _ => [(3, .slice none 0 0), (13, .int .i64 0), (14, .int .i64 0)]) (fun _ => [.row (rowOf [])]) () trivial (rowHead rfl rfl ?_) ?_
    · simp only [List.mem_cons, List.not_mem_nil, or_false]
      rintro y (rfl | rfl | rfl) <;> simp [GB, scp]
    intro _ _
    simp (maxSteps := 2000000) (implicitDefEqProofs := false) [DN, NB, begT, atHead, kd, wantedA, evP, evR, evF, evL, evC, evI, evBin, evUn, evEq, evSt, evRes, plain, scp, scpA, scpL, rdRow, rdCells, veq, veqA, veqL, isHole, Value.cells, evalL, optI, evBounds, evFill, evFillR, evApp, newsOf, wrCells, one1, fitsApp, evClr, undef, onB_bool, List.getElem?_concat_length, List.getElem?_cons_zero, List.getElem?_cons_succ, List.getElem?_toArray, List.getElem?_nil, List.set_cons_zero, List.set_cons_succ, List.cons_append, List.nil_append, -getElem?_pos, -getElem?_neg]
    exact ⟨rfl, rfl⟩
  · have hl0 : l.length ≠ 0 := fun h => h0 (List.length_eq_zero_iff.1 h)
    have hA' : A = some ⟨0, 0, none⟩ := by
      rcases hA with ⟨h, _⟩ | h
      · exact absurd h hl0
      · exact h
    obtain ⟨c, rfl, hc⟩ : ∃ c, cap = OPEN + c ∧ l.length ≤ c := by
      rcases hcap with h | h
      · exact absurd h hl0
      · exact h
    subst hA'
    exact rwaits_ l c hl hc

theorem rwaitsG {l : List En} {A : Option Addr} {cap : Nat} {H : AH} (hl : l.length ≤ 1000) (hcap : CapOk l.length cap) (hA : RowAt H A l.length (rowOf l)) {K : Value → AH → Prop} (hK : K (rwV H.length (waitsL l)) (H ++ rwH (waitsL l))) : AC Try.prog 38 [.slice A l.length cap] H K := by
  refine AC.rowGE (pre := []) (rest := []) (fun v E => v = rwV 1 (waitsL l) ∧ E = rwH (waitsL l)) (rowOf_plain l) (by simp) (by simp) (fun A' hA' => (rwaitsX_ l A' cap hl hcap hA').mono ?_) hA ?_
  · rintro v h' ⟨rfl, rfl⟩
    refine ⟨_, rfl, rwH_ok _, ?_, rfl, rfl⟩
    unfold rwV rwH
    split <;> simp [Abs.scp]
  · rintro v E ⟨rfl, rfl⟩
    have : ren (fun j => H.length + (j - 1)) (rwV 1 (waitsL l)) = rwV H.length (waitsL l) := by
      unfold rwV
      split <;> simp [ren, renA]
    rw [this]
    exact hK

theorem roverG {l : List En} {A : Option Addr} {cap : Nat} {H : AH} (hl : l.length ≤ 1000) (hA : RowAt H A l.length (rowOf l)) {K : Value → AH → Prop} (hK : K (.int .i64 (overL (turnsL l) : Nat)) H) : AC Try.prog 37 [.slice A l.length cap] H K :=
  AC.rowG (pre := []) (rest := []) (rowOf_plain l) (by simp) (by simp) rfl (fun A' hA' => rover_ l A' cap hl hA') hA hK

end Ox
end Go.Proofs.Ytekhadlpcdjlpaa
