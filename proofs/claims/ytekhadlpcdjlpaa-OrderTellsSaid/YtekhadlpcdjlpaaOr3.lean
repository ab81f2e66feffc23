/- order: ahead. -/
import Derived.Test.YtekhadlpcdjlpaaOr2
namespace Go.Proofs.Ytekhadlpcdjlpaa
namespace Ox
open Go Abs Code
set_option linter.unusedVariables false
set_option linter.unusedSimpArgs false
set_option maxRecDepth 100000

def keyI : Value → Int
  | .int _ n => n
  | _ => 0
def condE (t : Int) (e : MapEntry) : Bool := decide (keyI e.key ≠ t ∧ (keyI e.val = 2 ∨ keyI e.val = 3))

theorem count_ents {es : List MapEntry} {m : List (Int × Int)} (h : entsI es m) (t : Int) : es.countP (condE t) = m.countP fun y => decide (y.1 ≠ t ∧ (y.2 = 2 ∨ y.2 = 3)) := by
  have e1 : es.countP (condE t) = (es.map fun e => (e.key, e.val)).countP fun p => decide (keyI p.1 ≠ t ∧ (keyI p.2 = 2 ∨ keyI p.2 = 3)) := by rw [List.countP_map]; rfl
  rw [e1, h, List.countP_map]
  rfl

theorem entsI_mem {es : List MapEntry} {m : List (Int × Int)} (h : entsI es m) {e : MapEntry} (he : e ∈ es) : ∃ a b, e.key = .int .i64 a ∧ e.val = .int .i64 b := by
  have : (e.key, e.val) ∈ es.map fun e => (e.key, e.val) := List.mem_map.2 ⟨e, he, rfl⟩
  rw [h] at this
  obtain ⟨y, _, hy⟩ := List.mem_map.1 this
  injection hy with h1 h2
  exact ⟨y.1, y.2, h1.symm, h2.symm⟩

def ahT (sv : Value) (l : List En) (t : Int) (i : Nat) : List (Nat × Value) := [(1, .int .i64 t), (5, .map (some 1)), (12, sv), (13, .int .i64 l.length), (14, .int .i64 i)]
def ahH (l : List En) (s : Nat × List MapEntry × Nat) : AH := [.row (rowOf l), .map s.2.1 s.2.2]
def ahI (l : List En) (s : Nat × List MapEntry × Nat) : Prop := s.1 ≤ l.length ∧ entsI s.2.1 (lasts (l.take s.1)) ∧ goodM s.2.1 s.2.2

theorem map_noNames {es : List MapEntry} {c : Nat} (h : goodM es c) : noNames (.map es c) := fun e he => ⟨(h.1 e he).1, (h.1 e he).2.1⟩

theorem ahHead {l : List En} {A : Option Addr} {cap : Nat} {t : Int} {s : Nat × List MapEntry × Nat} (hA : RowOne l.length A) (hg : goodM s.2.1 s.2.2) {t' : T} {tl : AH} (e1 : t'.length = 52) (e2 : ∀ y ∈ ahT (.slice A l.length cap) l t s.1, getT t' y.1 = some y.2) :
    atHeadV 1 52 (ahT (.slice A l.length cap) l t s.1) (ahH l s) t' (.row (rowOf l) :: .map s.2.1 s.2.2 :: tl) := by
  refine headId (fun b k hb => ?_) (AOK.of ⟨scp_noNames (rowOf_noNames l) _, scp_noNames (map_noNames hg) _, trivial⟩) (fun b hb => ?_) (by simp [ahH]) e1 fun y hy => ⟨e2 y hy, ?_⟩
  · match b with
    | 0 => injection hb with hb; subst hb; rfl
    | 1 => injection hb with hb; subst hb; rfl
    | b + 2 => simp [ahH] at hb
  · obtain rfl : b = 0 := by omega
    rfl
  · simp only [ahT, List.mem_cons, List.not_mem_nil, or_false] at hy
    rcases hy with rfl | rfl | rfl | rfl | rfl
    · rfl
    · rfl
    · exact rowOne_scp hA _
    · rfl
    · rfl

def ah2T (t : Int) (n : Nat) : List (Nat × Value) := [(1, .int .i64 t), (8, .int .i64 n), (32, .pointer (some ⟨2, 0, none⟩))]
def ah2H (l : List En) (es : List MapEntry) (c : Nat) (s : List Nat × Nat) : AH := [.row (rowOf l), .dead, miB ⟨es, c, s.1⟩]

theorem ah2Head {l : List En} {es : List MapEntry} {c : Nat} {t : Int} {s : List Nat × Nat} {t' : T} (e1 : t'.length = 52) (e2 : ∀ y ∈ ah2T t s.2, getT t' y.1 = some y.2) : atHeadV 1 52 (ah2T t s.2) (ah2H l es c s) t' [.row (rowOf l), .dead, miB ⟨es, c, s.1⟩] := by
  refine headId (fun _ _ hk => hk) (AOK.of ⟨scp_noNames (rowOf_noNames l) _, trivial, trivial, trivial⟩) (fun b hb => ?_) (by simp [ah2H]) e1 fun y hy => ⟨e2 y hy, ?_⟩
  · obtain rfl : b = 0 := by omega
    rfl
  · simp only [ah2T, List.mem_cons, List.not_mem_nil, or_false] at hy
    rcases hy with rfl | rfl | rfl <;> simp [scp, live, ah2H]

set_option maxHeartbeats 4000000 in
/-- The threads, whatever the order. -/
theorem loop88b (l : List En) (es : List MapEntry) (c : Nat) (m : List (Int × Int)) (he : entsI es m) (hg : goodM es c) (hm : es.length ≤ 1000) (t : Int) (T0 : T) (h : AH) (Q : AExit → T → AH → Prop)
    (h0 : atHeadV 1 52 (ah2T t 0) (ah2H l es c ([], 0)) T0 h)
    (hQ : ∀ s : List Nat × Nat, s.2 = es.countP (condE t) → Q (.exit 3) (mkT 52 ((34, .bool false) :: (33, .tuple #[.bool false]) :: ah2T t s.2)) (ah2H l es c s)) : ALoop Try.prog 1 lp88_1 T0 h Q := by
  refine loop3 hmix 52 (fun s => s.2 + (MIS.left ⟨es, c, s.1⟩).countP (condE t) = es.countP (condE t)) (fun s => (MIS.left ⟨es, c, s.1⟩).length) (fun s => ah2T t s.2) (ah2H l es c) ([], 0) ?_ h0 ?_
  · show 0 + (MIS.left ⟨es, c, []⟩).countP (condE t) = _
    unfold MIS.left
    rw [List.filter_eq_self.2 (by simp)]
    exact Nat.zero_add _
  rintro ⟨seen, n⟩ hs
  simp only at hs
  simp (maxSteps := 2000000) (implicitDefEqProofs := false) [DN, NB, begT, atHead, kd, wantedA, evP, evR, evF, evL, evC, evI, evBin, evUn, evEq, evSt, evRes, plain, scp, scpA, scpL, rdRow, rdCells, veq, veqA, veqL, isHole, Value.cells, evalL, optI, evBounds, evFill, evFillR, evApp, newsOf, wrCells, one1, fitsApp, evClr, undef, onB_bool, List.getElem?_concat_length, List.getElem?_cons_zero, List.getElem?_cons_succ, List.getElem?_toArray, List.getElem?_nil, List.set_cons_zero, List.set_cons_succ, List.cons_append, List.nil_append, -getElem?_pos, -getElem?_neg, ah2T, ah2H, lp88_1]
  refine nextK (b := 2) (s := ⟨es, c, seen⟩) rfl ?_ ?_
  · intro e hel
    have hee : e ∈ es := (List.mem_filter.1 hel).1
    obtain ⟨a, b, hk, hv⟩ := entsI_mem he hee
    have hless := count_less (p := condE t) (left_nodup (s := ⟨es, c, seen⟩) hg.2) hel
    have hlt := left_lt hel
    have hls := left_snoc ⟨es, c, seen⟩ e.born
    simp only at hls
    have hc : condE t e = decide (a ≠ t ∧ (b = 2 ∨ b = 3)) := by unfold condE; rw [hk, hv]; rfl
    have hnl : es.countP (condE t) ≤ 1000 := Nat.le_trans List.countP_le_length hm
    rw [hk, hv]
    have fin : ∀ n' t', t'.length = 52 → (∀ y ∈ ah2T t n', getT t' y.1 = some y.2) → n' = n + (if condE t e then 1 else 0) → nextS 1 52 (fun s : List Nat × Nat => s.2 + (MIS.left ⟨es, c, s.1⟩).countP (condE t) = es.countP (condE t)) (fun s => (MIS.left ⟨es, c, s.1⟩).length) (fun s => ah2T t s.2) (ah2H l es c) (seen, n) t' [.row (rowOf l), .dead, miB ⟨es, c, seen ++ [e.born]⟩] := by
      intro n' t' e1 e2 e3
      refine nextS.intro (seen ++ [e.born], n') ?_ ?_ (ah2Head (s := (seen ++ [e.born], n')) e1 e2)
      · simp only
        rw [hls]
        exact hlt
      · simp only
        rw [hls]
        omega
    have hwr : n < 1000 → IntKind.i64.wrap ((n : Int) + 1) = ((n + 1 : Nat) : Int) := fun _ => by rw [IntWalk.i64_in _ (by omega)]; omega
    by_cases c1 : a = t
    · have hcf : condE t e = false := by rw [hc]; simp [c1]
      rw [hcf] at fin hless
      have b1 : (a == t) = true := by simp [c1]
      simp (maxSteps := 2000000) (implicitDefEqProofs := false) [DN, NB, begT, atHead, kd, wantedA, evP, evR, evF, evL, evC, evI, evBin, evUn, evEq, evSt, evRes, plain, scp, scpA, scpL, rdRow, rdCells, veq, veqA, veqL, isHole, Value.cells, evalL, optI, evBounds, evFill, evFillR, evApp, newsOf, wrCells, one1, fitsApp, evClr, undef, onB_bool, List.getElem?_concat_length, List.getElem?_cons_zero, List.getElem?_cons_succ, List.getElem?_toArray, List.getElem?_nil, List.set_cons_zero, List.set_cons_succ, List.cons_append, List.nil_append, -getElem?_pos, -getElem?_neg]
      refine entryK (b := 2) (s := ⟨es, c, seen⟩) (sn := seen) (e := e) rfl hee ?_
      rw [hk, hv]
      simp (maxSteps := 2000000) (implicitDefEqProofs := false) [DN, NB, begT, atHead, kd, wantedA, evP, evR, evF, evL, evC, evI, evBin, evUn, evEq, evSt, evRes, plain, scp, scpA, scpL, rdRow, rdCells, veq, veqA, veqL, isHole, Value.cells, evalL, optI, evBounds, evFill, evFillR, evApp, newsOf, wrCells, one1, fitsApp, evClr, undef, onB_bool, List.getElem?_concat_length, List.getElem?_cons_zero, List.getElem?_cons_succ, List.getElem?_toArray, List.getElem?_nil, List.set_cons_zero, List.set_cons_succ, List.cons_append, List.nil_append, -getElem?_pos, -getElem?_neg, b1, c1]
      refine fin n _ rfl ?_ (by simp)
      simp only [ah2T, List.mem_cons, List.not_mem_nil, or_false]
      rintro y (rfl | rfl | rfl) <;> simp [GB]
    have b1 : (a == t) = false := by simp [c1]
    by_cases c2 : b = 2
    · have hct : condE t e = true := by rw [hc]; simp [c1, c2]
      rw [hct] at fin hless
      have hn1 : n < 1000 := by simp at hless; omega
      have b2 : (b == 2) = true := by simp [c2]
      simp (maxSteps := 2000000) (implicitDefEqProofs := false) [DN, NB, begT, atHead, kd, wantedA, evP, evR, evF, evL, evC, evI, evBin, evUn, evEq, evSt, evRes, plain, scp, scpA, scpL, rdRow, rdCells, veq, veqA, veqL, isHole, Value.cells, evalL, optI, evBounds, evFill, evFillR, evApp, newsOf, wrCells, one1, fitsApp, evClr, undef, onB_bool, List.getElem?_concat_length, List.getElem?_cons_zero, List.getElem?_cons_succ, List.getElem?_toArray, List.getElem?_nil, List.set_cons_zero, List.set_cons_succ, List.cons_append, List.nil_append, -getElem?_pos, -getElem?_neg]
      refine entryK (b := 2) (s := ⟨es, c, seen⟩) (sn := seen) (e := e) rfl hee ?_
      rw [hk, hv]
      simp (maxSteps := 2000000) (implicitDefEqProofs := false) [DN, NB, begT, atHead, kd, wantedA, evP, evR, evF, evL, evC, evI, evBin, evUn, evEq, evSt, evRes, plain, scp, scpA, scpL, rdRow, rdCells, veq, veqA, veqL, isHole, Value.cells, evalL, optI, evBounds, evFill, evFillR, evApp, newsOf, wrCells, one1, fitsApp, evClr, undef, onB_bool, List.getElem?_concat_length, List.getElem?_cons_zero, List.getElem?_cons_succ, List.getElem?_toArray, List.getElem?_nil, List.set_cons_zero, List.set_cons_succ, List.cons_append, List.nil_append, -getElem?_pos, -getElem?_neg, b1, b2, c1, c2, hwr hn1]
      refine fin (n + 1) _ rfl ?_ (by simp)
      simp only [ah2T, List.mem_cons, List.not_mem_nil, or_false]
      rintro y (rfl | rfl | rfl) <;> simp [GB]
    have b2 : (b == 2) = false := by simp [c2]
    by_cases c3 : b = 3
    · have hct : condE t e = true := by rw [hc]; simp [c1, c3]
      rw [hct] at fin hless
      have hn1 : n < 1000 := by simp at hless; omega
      have b3 : (b == 3) = true := by simp [c3]
      simp (maxSteps := 2000000) (implicitDefEqProofs := false) [DN, NB, begT, atHead, kd, wantedA, evP, evR, evF, evL, evC, evI, evBin, evUn, evEq, evSt, evRes, plain, scp, scpA, scpL, rdRow, rdCells, veq, veqA, veqL, isHole, Value.cells, evalL, optI, evBounds, evFill, evFillR, evApp, newsOf, wrCells, one1, fitsApp, evClr, undef, onB_bool, List.getElem?_concat_length, List.getElem?_cons_zero, List.getElem?_cons_succ, List.getElem?_toArray, List.getElem?_nil, List.set_cons_zero, List.set_cons_succ, List.cons_append, List.nil_append, -getElem?_pos, -getElem?_neg]
      refine entryK (b := 2) (s := ⟨es, c, seen⟩) (sn := seen) (e := e) rfl hee ?_
      rw [hk, hv]
      simp (maxSteps := 2000000) (implicitDefEqProofs := false) [DN, NB, begT, atHead, kd, wantedA, evP, evR, evF, evL, evC, evI, evBin, evUn, evEq, evSt, evRes, plain, scp, scpA, scpL, rdRow, rdCells, veq, veqA, veqL, isHole, Value.cells, evalL, optI, evBounds, evFill, evFillR, evApp, newsOf, wrCells, one1, fitsApp, evClr, undef, onB_bool, List.getElem?_concat_length, List.getElem?_cons_zero, List.getElem?_cons_succ, List.getElem?_toArray, List.getElem?_nil, List.set_cons_zero, List.set_cons_succ, List.cons_append, List.nil_append, -getElem?_pos, -getElem?_neg, b1, b2, b3, c1, c2, c3, hwr hn1]
      refine fin (n + 1) _ rfl ?_ (by simp)
      simp only [ah2T, List.mem_cons, List.not_mem_nil, or_false]
      rintro y (rfl | rfl | rfl) <;> simp [GB]
    have b3 : (b == 3) = false := by simp [c3]
    have hcf : condE t e = false := by rw [hc]; simp [c2, c3]
    rw [hcf] at fin hless
    simp (maxSteps := 2000000) (implicitDefEqProofs := false) [DN, NB, begT, atHead, kd, wantedA, evP, evR, evF, evL, evC, evI, evBin, evUn, evEq, evSt, evRes, plain, scp, scpA, scpL, rdRow, rdCells, veq, veqA, veqL, isHole, Value.cells, evalL, optI, evBounds, evFill, evFillR, evApp, newsOf, wrCells, one1, fitsApp, evClr, undef, onB_bool, List.getElem?_concat_length, List.getElem?_cons_zero, List.getElem?_cons_succ, List.getElem?_toArray, List.getElem?_nil, List.set_cons_zero, List.set_cons_succ, List.cons_append, List.nil_append, -getElem?_pos, -getElem?_neg]
    refine entryK (b := 2) (s := ⟨es, c, seen⟩) (sn := seen) (e := e) rfl hee ?_
    rw [hk, hv]
    simp (maxSteps := 2000000) (implicitDefEqProofs := false) [DN, NB, begT, atHead, kd, wantedA, evP, evR, evF, evL, evC, evI, evBin, evUn, evEq, evSt, evRes, plain, scp, scpA, scpL, rdRow, rdCells, veq, veqA, veqL, isHole, Value.cells, evalL, optI, evBounds, evFill, evFillR, evApp, newsOf, wrCells, one1, fitsApp, evClr, undef, onB_bool, List.getElem?_concat_length, List.getElem?_cons_zero, List.getElem?_cons_succ, List.getElem?_toArray, List.getElem?_nil, List.set_cons_zero, List.set_cons_succ, List.cons_append, List.nil_append, -getElem?_pos, -getElem?_neg, b1, b2, b3, c1, c2, c3]
    refine fin n _ rfl ?_ (by simp)
    simp only [ah2T, List.mem_cons, List.not_mem_nil, or_false]
    rintro y (rfl | rfl | rfl) <;> simp [GB]
  · intro hnil
    rw [hnil] at hs
    have hq := hQ (seen, n) (by simpa using hs)
    simp (maxSteps := 2000000) (implicitDefEqProofs := false) [DN, NB, begT, atHead, kd, wantedA, evP, evR, evF, evL, evC, evI, evBin, evUn, evEq, evSt, evRes, plain, scp, scpA, scpL, rdRow, rdCells, veq, veqA, veqL, isHole, Value.cells, evalL, optI, evBounds, evFill, evFillR, evApp, newsOf, wrCells, one1, fitsApp, evClr, undef, onB_bool, List.getElem?_concat_length, List.getElem?_cons_zero, List.getElem?_cons_succ, List.getElem?_toArray, List.getElem?_nil, List.set_cons_zero, List.set_cons_succ, List.cons_append, List.nil_append, -getElem?_pos, -getElem?_neg, ah2T, ah2H] at hq
    simp (maxSteps := 2000000) (implicitDefEqProofs := false) [DN, NB, begT, atHead, kd, wantedA, evP, evR, evF, evL, evC, evI, evBin, evUn, evEq, evSt, evRes, plain, scp, scpA, scpL, rdRow, rdCells, veq, veqA, veqL, isHole, Value.cells, evalL, optI, evBounds, evFill, evFillR, evApp, newsOf, wrCells, one1, fitsApp, evClr, undef, onB_bool, List.getElem?_concat_length, List.getElem?_cons_zero, List.getElem?_cons_succ, List.getElem?_toArray, List.getElem?_nil, List.set_cons_zero, List.set_cons_succ, List.cons_append, List.nil_append, -getElem?_pos, -getElem?_neg]
    exact hq

end Ox
end Go.Proofs.Ytekhadlpcdjlpaa
