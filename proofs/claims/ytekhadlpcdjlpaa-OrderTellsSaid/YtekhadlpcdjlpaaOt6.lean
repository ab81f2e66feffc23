/- order: the document's entries. -/
import Derived.Test.YtekhadlpcdjlpaaOr7
import Derived.Test.YtekhadlpcdjlpaaCodeN
namespace Go.Proofs.Ytekhadlpcdjlpaa
namespace Ox
open Go Abs Code
set_option linter.unusedVariables false
set_option linter.unusedSimpArgs false
set_option maxRecDepth 100000

theorem aok_noNames {g : AH} (h : ∀ k ∈ g, noNames k) : AOK g := fun b k hb => scp_noNames (h k (List.mem_of_getElem? hb)) _

/-- Entries that were appended, nil at first; their block has the number n. -/
def enV (n : Nat) (l : List En) : Value := if l = [] then .slice none 0 0 else .slice (some ⟨n, 0, none⟩) l.length (OPEN + l.length)
def enH (l : List En) : AH := if l = [] then [] else [.cells (rowOf l) 126 (some 3)]
def enIs (k : Nat) (l : List En) : List Nat := if l = [] then [0] else [0, k]
theorem enBlk_noNames (l : List En) : noNames (.cells (rowOf l) 126 (some 3)) := rowOf_plain l
theorem enH_ok (q : List En) : ∀ k ∈ enH q, noNames k ∧ k ≠ .hole ∧ ∀ cb, k.reach cb = k.foot cb := by
  intro k hk
  unfold enH at hk
  split at hk
  · cases hk
  · simp at hk; subst hk; exact ⟨enBlk_noNames _, by simp, fun _ => rfl⟩
theorem enV_ren (q : List En) (k : Nat) : ren (nthD (enIs k q)) (enV 1 q) = enV k q := by
  unfold enV enIs
  split <;> simp [ren, renA, nthD, nth]
theorem enIs_0 (q : List En) (k : Nat) : nthD (enIs k q) 0 = 0 := by
  unfold enIs
  split <;> simp [nthD, nth]
theorem enV_scp (l : List En) (q : List En) : Abs.scp (live (.row (rowOf l) :: enH q)) (enV 1 q) = true := by
  unfold enV enH
  split <;> simp [Abs.scp, live]

theorem enHead {nt : Nat} {l q : List En} {k : Nat} {tv : List (Nat × Value)} {t' : T} {h' : AH} (hk : k ≠ 0) (h0 : h'[0]? = some (.row (rowOf l))) (h1 : q ≠ [] → h'[k]? = some (.cells (rowOf q) 126 (some 3))) (e1 : t'.length = nt)
    (e2 : ∀ y ∈ tv, getT t' y.1 = some (ren (nthD (enIs k q)) y.2) ∧ Abs.scp (live (.row (rowOf l) :: enH q)) y.2 = true) : atHeadV 1 nt tv (.row (rowOf l) :: enH q) t' h' := by
  refine headK (enIs k q) ?_ ?_ ?_ (fun b hb => ?_) (by simp) e1 e2
  · unfold enIs enH
    split
    · simp [keepsF, renB_noNames (rowOf_noNames l), h0]
    · rename_i h; simp [keepsF, renB_noNames (rowOf_noNames l), renB_noNames (enBlk_noNames _), h0, h1 h]
  · unfold enIs
    split <;> simp <;> omega
  · refine aok_noNames fun k hk => ?_
    rcases List.mem_cons.1 hk with rfl | hk
    · exact rowOf_noNames l
    · exact (enH_ok q k hk).1
  · obtain rfl : b = 0 := by omega
    exact ⟨enIs_0 q k, rfl⟩

def rfT (sv : Value) (l : List En) (i : Nat) : List (Nat × Value) := [(3, enV 1 (l.take i)), (6, sv), (7, .int .i64 l.length), (8, .int .i64 i)]

theorem rowOf_snoc (l : List En) (x : En) : rowOf (l ++ [x]) = rowOf l ++ [.int .i64 x.k, .int .i64 x.t, .int .i64 x.now] := by
  induction l with
  | nil => rfl
  | cons y l ih => simp [rowOf, ih]

set_option maxHeartbeats 4000000 in
theorem ref12_ (l : List En) (A : Option Addr) (cap : Nat) (hl : l.length ≤ 1000) (hA : RowOne l.length A) : AC Try.prog 36 [.slice A l.length cap] [.row (rowOf l)] (fun v h' => h' = .row (rowOf l) :: enH l ∧ v = enV 1 l) := by
  refine entry hmix cf36 ?_
  simp (maxSteps := 2000000) (implicitDefEqProofs := false) [DN, NB, begT, atHead, kd, wantedA, evP, evR, evF, evL, evC, evI, evBin, evUn, evEq, evSt, evRes, plain, scp, scpA, scpL, rdRow, rdCells, veq, veqA, veqL, isHole, Value.cells, evalL, optI, evBounds, evFill, evFillR, evApp, newsOf, wrCells, one1, fitsApp, evClr, undef, onB_bool, List.getElem?_concat_length, List.getElem?_cons_zero, List.getElem?_cons_succ, List.getElem?_toArray, List.getElem?_nil, List.set_cons_zero, List.set_cons_succ, List.cons_append, List.nil_append, -getElem?_pos, -getElem?_neg]
  have hr : ∀ k q, ren (nthD (enIs k q)) (.slice A l.length cap) = .slice A l.length cap := by
    intro k q
    rcases hA with ⟨_, rfl | ⟨sp, rfl⟩⟩ | rfl <;> simp [ren, renA, enIs_0]
  refine loop3 hmix 24 (fun i => i ≤ l.length) (fun i => l.length - i) (rfT (.slice A l.length cap) l) (fun i => .row (rowOf l) :: enH (l.take i)) 0 (Nat.zero_le _) (enHead (k := 1) (by simp) rfl (by simp) rfl ?_) ?_
  · simp only [rfT, List.mem_cons, List.not_mem_nil, or_false]
    rintro y (rfl | rfl | rfl | rfl)
    · exact ⟨(by simp [GB, enV, ren]), rfl⟩
    · exact ⟨by simp [hr, GB], rowOne_scp hA _⟩
    · exact ⟨(by simp [GB, ren]), rfl⟩
    · exact ⟨(by simp [GB, ren]), rfl⟩
  intro i hi
  by_cases hlt : i < l.length
  case neg =>
    have hlt' : ¬ (i : Int) < l.length := by omega
    have e : l.take i = l := List.take_of_length_le (by omega)
    simp (maxSteps := 2000000) (implicitDefEqProofs := false) [DN, NB, begT, atHead, kd, wantedA, evP, evR, evF, evL, evC, evI, evBin, evUn, evEq, evSt, evRes, plain, scp, scpA, scpL, rdRow, rdCells, veq, veqA, veqL, isHole, Value.cells, evalL, optI, evBounds, evFill, evFillR, evApp, newsOf, wrCells, one1, fitsApp, evClr, undef, onB_bool, List.getElem?_concat_length, List.getElem?_cons_zero, List.getElem?_cons_succ, List.getElem?_toArray, List.getElem?_nil, List.set_cons_zero, List.set_cons_succ, List.cons_append, List.nil_append, -getElem?_pos, -getElem?_neg, rfT, hlt', e]
  have hlt' : (i : Int) < l.length := by omega
  have hi0 : (0 : Int) ≤ i := by omega
  obtain ⟨x, hx⟩ : ∃ x, l[i]? = some x := ⟨_, List.getElem?_eq_getElem hlt⟩
  have hrd := rowOf_at hx
  have hfitr : i * 3 + 3 ≤ (rowOf l).length := by rw [rowOf_length]; omega
  have hwr : IntKind.i64.wrap ((i : Int) + 1) = (i : Int) + 1 := IntWalk.i64_in _ (by omega)
  have hA' : A = some ⟨0, 0, none⟩ := by
    rcases hA with ⟨h, _⟩ | h
    · omega
    · exact h
  subst hA'
  have htk : l.take (i + 1) = l.take i ++ [x] := by rw [List.take_add_one, hx]; rfl
  have htl : (l.take i).length = i := by rw [List.length_take]; omega
  have fin : ∀ (k : Nat) (t' : T) (h' : AH), k ≠ 0 → h'[0]? = some (.row (rowOf l)) → h'[k]? = some (.cells (rowOf (l.take (i + 1))) 126 (some 3)) → t'.length = 24 → getT t' 3 = some (enV k (l.take (i + 1))) → getT t' 6 = some (.slice (some ⟨0, 0, none⟩) l.length cap) → getT t' 7 = some (.int .i64 l.length) → getT t' 8 = some (.int .i64 ((i : Int) + 1)) →
      nextS 1 24 (fun i => i ≤ l.length) (fun i => l.length - i) (rfT (.slice (some ⟨0, 0, none⟩) l.length cap) l) (fun i => .row (rowOf l) :: enH (l.take i)) i t' h' := by
    intro k t' h' ek e1 e2 e3 e4 e5 e6 e7
    refine nextS.intro (i + 1) (by omega) (by omega) (enHead ek e1 (fun _ => e2) e3 ?_)
    simp only [rfT, List.mem_cons, List.not_mem_nil, or_false]
    rintro y (rfl | rfl | rfl | rfl)
    · exact ⟨by rw [e4, enV_ren], enV_scp l _⟩
    · exact ⟨by rw [hr]; exact e5, by simp [Abs.scp, live]⟩
    · exact ⟨by rw [e6]; simp [ren], rfl⟩
    · exact ⟨by rw [e7]; simp [ren], rfl⟩
  obtain ⟨q, hq⟩ : ∃ q, l.take i = q := ⟨_, rfl⟩
  rw [hq] at htl
  have hen1 : enV 1 (l.take i) = enV 1 q := by rw [hq]
  by_cases hq0 : q = []
  · subst hq0
    have e0 : i = 0 := by simpa using htl.symm
    have ev : enV 1 ([] : List En) = .slice none 0 0 := rfl
    have eh : enH ([] : List En) = [] := rfl
    simp (maxSteps := 2000000) (implicitDefEqProofs := false) [DN, NB, begT, atHead, kd, wantedA, evP, evR, evF, evL, evC, evI, evBin, evUn, evEq, evSt, evRes, plain, scp, scpA, scpL, rdRow, rdCells, veq, veqA, veqL, isHole, Value.cells, evalL, optI, evBounds, evFill, evFillR, evApp, newsOf, wrCells, one1, fitsApp, evClr, undef, onB_bool, List.getElem?_concat_length, List.getElem?_cons_zero, List.getElem?_cons_succ, List.getElem?_toArray, List.getElem?_nil, List.set_cons_zero, List.set_cons_succ, List.cons_append, List.nil_append, -getElem?_pos, -getElem?_neg, rfT, hq, ev, eh, hlt', hi0, hrd, hfitr, set_concat, splice_many, hwr]
    refine fin 3 _ _ (by simp) rfl ?_ rfl ?_ (by simp [GB]) (by simp [GB]) (by simp [GB])
    · rw [htk, hq]; simp [rowOf]
    · rw [htk, hq]; simp [enV, GB]
  · have hqi : i ≠ 0 := by
      rintro rfl
      exact hq0 (List.eq_nil_of_length_eq_zero htl)
    have ev : enV 1 q = .slice (some ⟨1, 0, none⟩) i (OPEN + i) := by simp [enV, hq0, htl]
    have eh : enH q = [.cells (rowOf q) 126 (some 3)] := by simp [enH, hq0]
    have hql : (rowOf q).length = i * 3 := by rw [rowOf_length, htl]
    have hq1 : i ≤ 4294967295 := by omega
    have hq2 : (i + 1) * 24 ≤ 140737488355328 := by omega
    have hc1 : ¬ OPEN + i < OPEN := by omega
    have hc2 : OPEN + i - OPEN = i := by omega
    have hdt' : (rowOf q).take (i * 3) = rowOf q := List.take_of_length_le (by omega)
    simp (maxSteps := 2000000) (implicitDefEqProofs := false) [DN, NB, begT, atHead, kd, wantedA, evP, evR, evF, evL, evC, evI, evBin, evUn, evEq, evSt, evRes, plain, scp, scpA, scpL, rdRow, rdCells, veq, veqA, veqL, isHole, Value.cells, evalL, optI, evBounds, evFill, evFillR, evApp, newsOf, wrCells, one1, fitsApp, evClr, undef, onB_bool, List.getElem?_concat_length, List.getElem?_cons_zero, List.getElem?_cons_succ, List.getElem?_toArray, List.getElem?_nil, List.set_cons_zero, List.set_cons_succ, List.cons_append, List.nil_append, -getElem?_pos, -getElem?_neg, rfT, hq, ev, eh, hlt', hi0, hrd, hfitr, set_concat, splice_many, hwr, capLow_open, hq1, hq2, hc1, hc2, hql, hdt']
    refine fin 4 _ _ (by simp) rfl ?_ rfl ?_ (by simp [GB]) (by simp [GB]) (by simp [GB])
    · rw [htk, hq, rowOf_snoc]; simp
    · rw [htk, hq]; simp [enV, htl, GB]

theorem ref12G {l : List En} {A : Option Addr} {cap : Nat} {H : AH} (hl : l.length ≤ 1000) (hA : RowAt H A l.length (rowOf l)) {K : Value → AH → Prop} (hK : K (enV H.length l) (H ++ enH l)) : AC Try.prog 36 [.slice A l.length cap] H K := by
  refine AC.rowGE (pre := []) (rest := []) (fun v E => v = enV 1 l ∧ E = enH l) (rowOf_plain l) (by simp) (by simp) (fun A' hA' => (ref12_ l A' cap hl hA').mono ?_) hA ?_
  · rintro v h' ⟨rfl, rfl⟩
    refine ⟨_, rfl, enH_ok _, ?_, rfl, rfl⟩
    unfold enV enH
    split <;> simp [Abs.scp]
  · rintro v E ⟨rfl, rfl⟩
    have : ren (fun j => H.length + (j - 1)) (enV 1 l) = enV H.length l := by
      unfold enV
      split <;> simp [ren, renA]
    rw [this]
    exact hK


end Ox
end Go.Proofs.Ytekhadlpcdjlpaa
