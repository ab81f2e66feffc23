/- order: the document's answer, walked: Waits. -/
import Derived.Test.YtekhadlpcdjlpaaOt10
import Derived.Test.YtekhadlpcdjlpaaOt6
namespace Go.Proofs.Ytekhadlpcdjlpaa
namespace Ox
open Go Abs Code
set_option linter.unusedVariables false
set_option linter.unusedSimpArgs false
set_option maxRecDepth 100000

def rwB (q : List Wt) : ABlk := .cells (rowW q) 69 (some 3)
def rwV (n : Nat) (q : List Wt) : Value := if q = [] then .slice none 0 0 else .slice (some ⟨n, 0, none⟩) q.length (OPEN + q.length)
def rwH (q : List Wt) : AH := if q = [] then [] else [rwB q]
def rwIs (k : Nat) (q : List Wt) : List Nat := if q = [] then [0] else [0, k]
theorem rwB_noNames (q : List Wt) : noNames (rwB q) := rowW_plain q
theorem rwH_ok (q : List Wt) : ∀ k ∈ rwH q, noNames k ∧ k ≠ .hole ∧ ∀ cb, k.reach cb = k.foot cb := by
  intro k hk
  unfold rwH at hk
  split at hk
  · cases hk
  · simp at hk; subst hk; exact ⟨rwB_noNames _, by simp [rwB], fun _ => rfl⟩
theorem rwV_ren (q : List Wt) (k : Nat) : ren (nthD (rwIs k q)) (rwV 1 q) = rwV k q := by
  unfold rwV rwIs
  split <;> simp [ren, renA, nthD, nth]
theorem rwIs_0 (q : List Wt) (k : Nat) : nthD (rwIs k q) 0 = 0 := by
  unfold rwIs
  split <;> simp [nthD, nth]
theorem rwV_scp (l : List En) (q : List Wt) : Abs.scp (live (.row (rowOf l) :: rwH q)) (rwV 1 q) = true := by
  unfold rwV rwH
  split <;> simp [Abs.scp, live, rwB]

theorem rwHead {nt : Nat} {l : List En} {q : List Wt} {k : Nat} {tv : List (Nat × Value)} {t' : T} {h' : AH} (hk : k ≠ 0) (h0 : h'[0]? = some (.row (rowOf l))) (h1 : q ≠ [] → h'[k]? = some (rwB q)) (e1 : t'.length = nt)
    (e2 : ∀ y ∈ tv, getT t' y.1 = some (ren (nthD (rwIs k q)) y.2) ∧ Abs.scp (live (.row (rowOf l) :: rwH q)) y.2 = true) : atHeadV 1 nt tv (.row (rowOf l) :: rwH q) t' h' := by
  refine headK (rwIs k q) ?_ ?_ ?_ (fun b hb => ?_) (by simp) e1 e2
  · unfold rwIs rwH
    split
    · simp [keepsF, renB_noNames (rowOf_noNames l), h0]
    · rename_i h; simp [keepsF, renB_noNames (rowOf_noNames l), renB_noNames (rwB_noNames _), h0, h1 h]
  · unfold rwIs
    split <;> simp <;> omega
  · refine aok_noNames fun k hk => ?_
    rcases List.mem_cons.1 hk with rfl | hk
    · exact rowOf_noNames l
    · exact (rwH_ok q k hk).1
  · obtain rfl : b = 0 := by omega
    exact ⟨rwIs_0 q k, rfl⟩

/-- The waits of the turns that begin ahead of a place. -/
def wFrom (l : List En) (i : Nat) : List Wt := ((List.range i).filterMap (turnAt l)).map (waitOf l)
theorem wFrom_s (l : List En) (i : Nat) : wFrom l (i + 1) = wFrom l i ++ (turnAt l i).toList.map (waitOf l) := by
  unfold wFrom
  rw [List.range_succ, List.filterMap_append, List.map_append]
  cases h : turnAt l i <;> simp [h]
theorem wFrom_all (l : List En) : wFrom l l.length = waitsL l := rfl
theorem wFrom_len (l : List En) (i : Nat) : (wFrom l i).length ≤ i := by
  unfold wFrom
  rw [List.length_map]
  have := List.length_filterMap_le (turnAt l) (List.range i)
  rwa [List.length_range] at this

def aT (l : List En) (d i : Nat) : List (Nat × Value) := [(0, .slice (some ⟨0, 0, none⟩) l.length (OPEN + d)), (3, rwV 1 (wFrom l i)), (12, .slice (some ⟨0, 0, none⟩) l.length (OPEN + d)), (13, .int .i64 l.length), (14, .int .i64 i)]

theorem aHead {l : List En} {d i k : Nat} {t' : T} {h' : AH} (hk : k ≠ 0) (h0 : h'[0]? = some (.row (rowOf l))) (h1 : wFrom l i ≠ [] → h'[k]? = some (rwB (wFrom l i))) (e1 : t'.length = 103)
    (g0 : getT t' 0 = some (.slice (some ⟨0, 0, none⟩) l.length (OPEN + d))) (g3 : getT t' 3 = some (rwV k (wFrom l i))) (g12 : getT t' 12 = some (.slice (some ⟨0, 0, none⟩) l.length (OPEN + d))) (g13 : getT t' 13 = some (.int .i64 l.length)) (g14 : getT t' 14 = some (.int .i64 i)) :
    atHeadV 1 103 (aT l d i) (.row (rowOf l) :: rwH (wFrom l i)) t' h' := by
  refine rwHead hk h0 h1 e1 fun y hy => ?_
  simp only [aT, List.mem_cons, List.not_mem_nil, or_false] at hy
  rcases hy with rfl | rfl | rfl | rfl | rfl
  · exact ⟨by rw [g0]; simp [ren, renA, rwIs_0], by simp [Abs.scp, live]⟩
  · exact ⟨by rw [g3, rwV_ren], rwV_scp l _⟩
  · exact ⟨by rw [g12]; simp [ren, renA, rwIs_0], by simp [Abs.scp, live]⟩
  · exact ⟨by rw [g13]; simp [ren], rfl⟩
  · exact ⟨by rw [g14]; simp [ren], rfl⟩

theorem w3_noNames (a b c : Int) (e : TypeId) (o : Option Nat) : noNames (.cells [.int .i64 a, .int .i64 b, .int .i64 c] e o) := by intro v hv; simp at hv; rcases hv with rfl | rfl | rfl <;> rfl

set_option maxHeartbeats 8000000 in
theorem rwaits_ (l : List En) (d : Nat) (hl : l.length ≤ 1000) (hld : l.length ≤ d) : AC Try.prog 38 [.slice (some ⟨0, 0, none⟩) l.length (OPEN + d)] [.row (rowOf l)] (fun v h' => h' = .row (rowOf l) :: rwH (waitsL l) ∧ v = rwV 1 (waitsL l)) := by
  refine entry hmix cf38 ?_
  simp (maxSteps := 2000000) (implicitDefEqProofs := false) [DN, NB, begT, atHead, kd, wantedA, evP, evR, evF, evL, evC, evI, evBin, evUn, evEq, evSt, evRes, plain, scp, scpA, scpL, rdRow, rdCells, veq, veqA, veqL, isHole, Value.cells, evalL, optI, evBounds, evFill, evFillR, evApp, newsOf, wrCells, one1, fitsApp, evClr, undef, onB_bool, List.getElem?_concat_length, List.getElem?_cons_zero, List.getElem?_cons_succ, List.getElem?_toArray, List.getElem?_nil, List.set_cons_zero, List.set_cons_succ, List.cons_append, List.nil_append, -getElem?_pos, -getElem?_neg]
  obtain ⟨tv, htv⟩ : ∃ tv, tv = aT l d := ⟨_, rfl⟩
  obtain ⟨hv, hhv⟩ : ∃ hv : Nat → AH, hv = fun i => .row (rowOf l) :: rwH (wFrom l i) := ⟨_, rfl⟩
  have hhd : ∀ (i k : Nat) (t' : T) (h' : AH), k ≠ 0 → h'[0]? = some (.row (rowOf l)) → (wFrom l i ≠ [] → h'[k]? = some (rwB (wFrom l i))) → t'.length = 103 → getT t' 0 = some (.slice (some ⟨0, 0, none⟩) l.length (OPEN + d)) → getT t' 3 = some (rwV k (wFrom l i)) → getT t' 12 = some (.slice (some ⟨0, 0, none⟩) l.length (OPEN + d)) → getT t' 13 = some (.int .i64 l.length) → getT t' 14 = some (.int .i64 i) →
      atHeadV 1 103 (tv i) (hv i) t' h' := by
    intro i k t' h' e0 e1 e2 e3 e4 e5 e6 e7 e8
    rw [htv, hhv]
    exact aHead e0 e1 e2 e3 e4 e5 e6 e7 e8
  refine loop3 hmix 103 (fun i => i ≤ l.length) (fun i => l.length - i) tv hv 0 (Nat.zero_le _) (hhd 0 1 _ _ (by simp) rfl (fun h => absurd rfl h) rfl (by simp [GB]) (by simp [GB, wFrom, rwV]) (by simp [GB]) (by simp [GB]) (by simp [GB])) ?_
  intro i hi
  rw [show tv i = aT l d i by rw [htv], show hv i = .row (rowOf l) :: rwH (wFrom l i) by rw [hhv]]
  by_cases hlt : i < l.length
  case neg =>
    obtain rfl : i = l.length := by omega
    simp (maxSteps := 2000000) (implicitDefEqProofs := false) [DN, NB, begT, atHead, kd, wantedA, evP, evR, evF, evL, evC, evI, evBin, evUn, evEq, evSt, evRes, plain, scp, scpA, scpL, rdRow, rdCells, veq, veqA, veqL, isHole, Value.cells, evalL, optI, evBounds, evFill, evFillR, evApp, newsOf, wrCells, one1, fitsApp, evClr, undef, onB_bool, List.getElem?_concat_length, List.getElem?_cons_zero, List.getElem?_cons_succ, List.getElem?_toArray, List.getElem?_nil, List.set_cons_zero, List.set_cons_succ, List.cons_append, List.nil_append, -getElem?_pos, -getElem?_neg, aT]
    rw [wFrom_all]
    exact ⟨rfl, rfl⟩
  have hlt' : (i : Int) < l.length := by omega
  have hi0 : (0 : Int) ≤ i := by omega
  obtain ⟨x, hx⟩ : ∃ x, l[i]? = some x := ⟨_, List.getElem?_eq_getElem hlt⟩
  have hrd := rowOf_at hx
  have hfitr : i * 3 + 3 ≤ (rowOf l).length := by rw [rowOf_length]; omega
  have hwr : IntKind.i64.wrap ((i : Int) + 1) = (i : Int) + 1 := IntWalk.i64_in _ (by omega)
  have hat : ∀ tl : AH, RowAt (.row (rowOf l) :: tl) (some ⟨0, 0, none⟩) l.length (rowOf l) := fun tl => rowAt_one (.inr rfl)
  have hws := wFrom_s l i
  have hwl := wFrom_len l i
  obtain ⟨q, hq⟩ : ∃ q, wFrom l i = q := ⟨_, rfl⟩
  rw [hq] at hws hwl
  have skip : turnAt l i = none → wFrom l (i + 1) = q := by intro h; rw [hws, h]; simp
  have skipA : ∀ (t' : T) (h' : AH), turnAt l i = none → h'[0]? = some (.row (rowOf l)) → (q ≠ [] → h'[1]? = some (rwB q)) → t'.length = 103 → getT t' 0 = some (.slice (some ⟨0, 0, none⟩) l.length (OPEN + d)) → getT t' 3 = some (rwV 1 q) → getT t' 12 = some (.slice (some ⟨0, 0, none⟩) l.length (OPEN + d)) → getT t' 13 = some (.int .i64 l.length) → getT t' 14 = some (.int .i64 ((i : Int) + 1)) →
      nextS 1 103 (fun i => i ≤ l.length) (fun i => l.length - i) tv hv i t' h' := by
    intro t' h' hn e1 e2 e3 e4 e5 e6 e7 e8
    refine nextS.intro (i + 1) (by omega) (by omega) (hhd (i + 1) 1 _ _ (by simp) e1 ?_ e3 e4 ?_ e6 e7 e8)
    · rw [skip hn]; exact e2
    · rw [skip hn]; exact e5
  have goA : ∀ (k : Nat) (t' : T) (h' : AH) (g : Nat), turnAt l i = some ⟨x.t, i, g⟩ → k ≠ 0 → h'[0]? = some (.row (rowOf l)) → h'[k]? = some (rwB (q ++ [waitOf l ⟨x.t, i, g⟩])) → t'.length = 103 → getT t' 0 = some (.slice (some ⟨0, 0, none⟩) l.length (OPEN + d)) → getT t' 3 = some (rwV k (q ++ [waitOf l ⟨x.t, i, g⟩])) → getT t' 12 = some (.slice (some ⟨0, 0, none⟩) l.length (OPEN + d)) → getT t' 13 = some (.int .i64 l.length) → getT t' 14 = some (.int .i64 ((i : Int) + 1)) →
      nextS 1 103 (fun i => i ≤ l.length) (fun i => l.length - i) tv hv i t' h' := by
    intro k t' h' g hn e0 e1 e2 e3 e4 e5 e6 e7 e8
    have e : wFrom l (i + 1) = q ++ [waitOf l ⟨x.t, i, g⟩] := by rw [hws, hn]; rfl
    refine nextS.intro (i + 1) (by omega) (by omega) (hhd (i + 1) k _ _ e0 e1 ?_ e3 e4 ?_ e6 e7 e8)
    · rw [e]; exact fun _ => e2
    · rw [e]; exact e5
  have ok2 : ∀ a b c e : Int, AOK ([.row (rowOf l), .cells [.int .i64 x.k, .int .i64 x.t, .int .i64 x.now] 126 none] ++ [w9 a b c]) := fun a b c e => aok_noNames fun k hk => by
    simp at hk
    rcases hk with rfl | rfl | rfl
    · exact rowOf_noNames l
    · exact w3_noNames _ _ _ _ _
    · exact w9_noNames _ _ _
  have ok3 : ∀ a b c e : Int, AOK ([.row (rowOf l), rwB q, .cells [.int .i64 x.k, .int .i64 x.t, .int .i64 x.now] 126 none] ++ [w9 a b c]) := fun a b c e => aok_noNames fun k hk => by
    simp at hk
    rcases hk with rfl | rfl | rfl | rfl
    · exact rowOf_noNames l
    · exact rwB_noNames q
    · exact w3_noNames _ _ _ _ _
    · exact w9_noNames _ _ _
  by_cases hq0 : q = []
  · have ev : rwV 1 q = .slice none 0 0 := by simp [rwV, hq0]
    have eh : rwH q = [] := by simp [rwH, hq0]
    by_cases ck : x.k = 2
    case neg =>
      have bk : (x.k == 2) = false := by simp [ck]
      simp (maxSteps := 2000000) (implicitDefEqProofs := false) [DN, NB, begT, atHead, kd, wantedA, evP, evR, evF, evL, evC, evI, evBin, evUn, evEq, evSt, evRes, plain, scp, scpA, scpL, rdRow, rdCells, veq, veqA, veqL, isHole, Value.cells, evalL, optI, evBounds, evFill, evFillR, evApp, newsOf, wrCells, one1, fitsApp, evClr, undef, onB_bool, List.getElem?_concat_length, List.getElem?_cons_zero, List.getElem?_cons_succ, List.getElem?_toArray, List.getElem?_nil, List.set_cons_zero, List.set_cons_succ, List.cons_append, List.nil_append, -getElem?_pos, -getElem?_neg, aT, hq, ev, eh, hlt', hi0, hrd, hfitr, set_concat, splice_many, hwr, ck, bk]
      exact skipA _ _ (turnAt_not hx ck) rfl (fun h => absurd hq0 h) rfl (by simp [GB]) (by simp [GB, ev]) (by simp [GB]) (by simp [GB]) (by simp [GB])
    have bk : (x.k == 2) = true := by simp [ck]
    rcases turnAt_grant hx ck with ⟨hg, hta⟩ | ⟨g, hg, hta⟩
    · simp (maxSteps := 2000000) (implicitDefEqProofs := false) [DN, NB, begT, atHead, kd, wantedA, evP, evR, evF, evL, evC, evI, evBin, evUn, evEq, evSt, evRes, plain, scp, scpA, scpL, rdRow, rdCells, veq, veqA, veqL, isHole, Value.cells, evalL, optI, evBounds, evFill, evFillR, evApp, newsOf, wrCells, one1, fitsApp, evClr, undef, onB_bool, List.getElem?_concat_length, List.getElem?_cons_zero, List.getElem?_cons_succ, List.getElem?_toArray, List.getElem?_nil, List.set_cons_zero, List.set_cons_succ, List.cons_append, List.nil_append, -getElem?_pos, -getElem?_neg, aT, hq, ev, eh, hlt', hi0, hrd, hfitr, set_concat, splice_many, hwr, ck, bk]
      refine grantG hl hlt (hat _) ?_
      rw [hg]
      simp (maxSteps := 2000000) (implicitDefEqProofs := false) [DN, NB, begT, atHead, kd, wantedA, evP, evR, evF, evL, evC, evI, evBin, evUn, evEq, evSt, evRes, plain, scp, scpA, scpL, rdRow, rdCells, veq, veqA, veqL, isHole, Value.cells, evalL, optI, evBounds, evFill, evFillR, evApp, newsOf, wrCells, one1, fitsApp, evClr, undef, onB_bool, List.getElem?_concat_length, List.getElem?_cons_zero, List.getElem?_cons_succ, List.getElem?_toArray, List.getElem?_nil, List.set_cons_zero, List.set_cons_succ, List.cons_append, List.nil_append, -getElem?_pos, -getElem?_neg, hwr]
      exact skipA _ _ hta rfl (fun h => absurd hq0 h) rfl (by simp [GB]) (by simp [GB, ev]) (by simp [GB]) (by simp [GB]) (by simp [GB])
    · obtain ⟨_, p1, p2, _⟩ := turnAt_parts hta
      simp only at p1 p2
      have hg0 : ¬ (g : Int) < 0 := by omega
      simp (maxSteps := 2000000) (implicitDefEqProofs := false) [DN, NB, begT, atHead, kd, wantedA, evP, evR, evF, evL, evC, evI, evBin, evUn, evEq, evSt, evRes, plain, scp, scpA, scpL, rdRow, rdCells, veq, veqA, veqL, isHole, Value.cells, evalL, optI, evBounds, evFill, evFillR, evApp, newsOf, wrCells, one1, fitsApp, evClr, undef, onB_bool, List.getElem?_concat_length, List.getElem?_cons_zero, List.getElem?_cons_succ, List.getElem?_toArray, List.getElem?_nil, List.set_cons_zero, List.set_cons_succ, List.cons_append, List.nil_append, -getElem?_pos, -getElem?_neg, aT, hq, ev, eh, hlt', hi0, hrd, hfitr, set_concat, splice_many, hwr, ck, bk]
      refine grantG hl hlt (hat _) ?_
      rw [hg]
      simp (maxSteps := 2000000) (implicitDefEqProofs := false) [DN, NB, begT, atHead, kd, wantedA, evP, evR, evF, evL, evC, evI, evBin, evUn, evEq, evSt, evRes, plain, scp, scpA, scpL, rdRow, rdCells, veq, veqA, veqL, isHole, Value.cells, evalL, optI, evBounds, evFill, evFillR, evApp, newsOf, wrCells, one1, fitsApp, evClr, undef, onB_bool, List.getElem?_concat_length, List.getElem?_cons_zero, List.getElem?_cons_succ, List.getElem?_toArray, List.getElem?_nil, List.set_cons_zero, List.set_cons_succ, List.cons_append, List.nil_append, -getElem?_pos, -getElem?_neg, hg0, hwr, splice_many]
      refine loop38b l d hl hld [.row (rowOf l), .cells [.int .i64 x.k, .int .i64 x.t, .int .i64 x.now] 126 none] x.t (fun a c => ok2 _ _ _ 0) rfl 1 _ _ rfl (.slice none 0 0) rfl i g hlt _ _ _ (headId (fun _ _ hb => by simpa [w9, ck] using hb) (ok2 _ _ _ 0) (fun b hb => ?_) (by simp) rfl fun y hy => ?_) ?_
      · obtain rfl : b = 0 := by omega
        rfl
      · simp only [bT, List.mem_cons, List.not_mem_nil, or_false] at hy
        rcases hy with rfl | rfl | rfl | rfl | rfl | rfl | rfl | rfl | rfl | rfl <;> exact ⟨by simp [GB], by simp [scp, live, w9]⟩
      simp (maxSteps := 2000000) (implicitDefEqProofs := false) [DN, NB, begT, atHead, kd, wantedA, evP, evR, evF, evL, evC, evI, evBin, evUn, evEq, evSt, evRes, plain, scp, scpA, scpL, rdRow, rdCells, veq, veqA, veqL, isHole, Value.cells, evalL, optI, evBounds, evFill, evFillR, evApp, newsOf, wrCells, one1, fitsApp, evClr, undef, onB_bool, List.getElem?_concat_length, List.getElem?_cons_zero, List.getElem?_cons_succ, List.getElem?_toArray, List.getElem?_nil, List.set_cons_zero, List.set_cons_succ, List.cons_append, List.nil_append, -getElem?_pos, -getElem?_neg, bT]
      refine loop38d l (OPEN + d) hl [.row (rowOf l), .cells [.int .i64 x.k, .int .i64 x.t, .int .i64 x.now] 126 none] x.t (aheadL (l.take i) x.t : Nat) (fun c => ok2 _ _ _ 0) rfl (.slice none 0 0) (.pointer (some ⟨1, 0, none⟩)) rfl (by simp [scp, live]) i g (by omega) (by omega) _ _ _ (headId (fun _ _ hb => by simpa [w9, ck] using hb) (ok2 _ _ _ 0) (fun b hb => ?_) (by simp) rfl fun y hy => ?_) ?_
      · obtain rfl : b = 0 := by omega
        rfl
      · simp only [dT, List.mem_cons, List.not_mem_nil, or_false] at hy
        rcases hy with rfl | rfl | rfl | rfl | rfl | rfl | rfl | rfl | rfl | rfl <;> exact ⟨by simp [GB], by simp [scp, live, w9]⟩
      simp (maxSteps := 2000000) (implicitDefEqProofs := false) [DN, NB, begT, atHead, kd, wantedA, evP, evR, evF, evL, evC, evI, evBin, evUn, evEq, evSt, evRes, plain, scp, scpA, scpL, rdRow, rdCells, veq, veqA, veqL, isHole, Value.cells, evalL, optI, evBounds, evFill, evFillR, evApp, newsOf, wrCells, one1, fitsApp, evClr, undef, onB_bool, List.getElem?_concat_length, List.getElem?_cons_zero, List.getElem?_cons_succ, List.getElem?_toArray, List.getElem?_nil, List.set_cons_zero, List.set_cons_succ, List.cons_append, List.nil_append, -getElem?_pos, -getElem?_neg, dT, w9, splice_many, hwr]
      refine goA 4 _ _ g hta (by simp) rfl ?_ rfl (by simp [GB]) ?_ (by simp [GB]) (by simp [GB]) (by simp [GB])
      · simp [hq0, rwB, rowW, waitOf]
      · simp [GB, hq0, rwV]
  · have ev : rwV 1 q = .slice (some ⟨1, 0, none⟩) q.length (OPEN + q.length) := by simp [rwV, hq0]
    have eh : rwH q = [rwB q] := by simp [rwH, hq0]
    have hwlq := rowW_length q
    have hpt : List.take (q.length * 3) (rowW q) = rowW q := List.take_of_length_le (by omega)
    have hno : ¬ OPEN + q.length < OPEN := by omega
    have g1 : (q.length + 1) * 3 ≤ 4294967296 := by omega
    have g2 : (q.length + 1) * 24 ≤ 140737488355328 := by omega
    have g3 : q.length ≤ 4294967295 := by omega
    by_cases ck : x.k = 2
    case neg =>
      have bk : (x.k == 2) = false := by simp [ck]
      simp (maxSteps := 2000000) (implicitDefEqProofs := false) [DN, NB, begT, atHead, kd, wantedA, evP, evR, evF, evL, evC, evI, evBin, evUn, evEq, evSt, evRes, plain, scp, scpA, scpL, rdRow, rdCells, veq, veqA, veqL, isHole, Value.cells, evalL, optI, evBounds, evFill, evFillR, evApp, newsOf, wrCells, one1, fitsApp, evClr, undef, onB_bool, List.getElem?_concat_length, List.getElem?_cons_zero, List.getElem?_cons_succ, List.getElem?_toArray, List.getElem?_nil, List.set_cons_zero, List.set_cons_succ, List.cons_append, List.nil_append, -getElem?_pos, -getElem?_neg, aT, hq, ev, eh, rwB, hlt', hi0, hrd, hfitr, set_concat, splice_many, hwr, ck, bk]
      exact skipA _ _ (turnAt_not hx ck) rfl (fun _ => rfl) rfl (by simp [GB]) (by simp [GB, ev]) (by simp [GB]) (by simp [GB]) (by simp [GB])
    have bk : (x.k == 2) = true := by simp [ck]
    rcases turnAt_grant hx ck with ⟨hg, hta⟩ | ⟨g, hg, hta⟩
    · simp (maxSteps := 2000000) (implicitDefEqProofs := false) [DN, NB, begT, atHead, kd, wantedA, evP, evR, evF, evL, evC, evI, evBin, evUn, evEq, evSt, evRes, plain, scp, scpA, scpL, rdRow, rdCells, veq, veqA, veqL, isHole, Value.cells, evalL, optI, evBounds, evFill, evFillR, evApp, newsOf, wrCells, one1, fitsApp, evClr, undef, onB_bool, List.getElem?_concat_length, List.getElem?_cons_zero, List.getElem?_cons_succ, List.getElem?_toArray, List.getElem?_nil, List.set_cons_zero, List.set_cons_succ, List.cons_append, List.nil_append, -getElem?_pos, -getElem?_neg, aT, hq, ev, eh, rwB, hlt', hi0, hrd, hfitr, set_concat, splice_many, hwr, ck, bk]
      refine grantG hl hlt (hat _) ?_
      rw [hg]
      simp (maxSteps := 2000000) (implicitDefEqProofs := false) [DN, NB, begT, atHead, kd, wantedA, evP, evR, evF, evL, evC, evI, evBin, evUn, evEq, evSt, evRes, plain, scp, scpA, scpL, rdRow, rdCells, veq, veqA, veqL, isHole, Value.cells, evalL, optI, evBounds, evFill, evFillR, evApp, newsOf, wrCells, one1, fitsApp, evClr, undef, onB_bool, List.getElem?_concat_length, List.getElem?_cons_zero, List.getElem?_cons_succ, List.getElem?_toArray, List.getElem?_nil, List.set_cons_zero, List.set_cons_succ, List.cons_append, List.nil_append, -getElem?_pos, -getElem?_neg, hwr]
      exact skipA _ _ hta rfl (fun _ => rfl) rfl (by simp [GB]) (by simp [GB, ev]) (by simp [GB]) (by simp [GB]) (by simp [GB])
    · obtain ⟨_, p1, p2, _⟩ := turnAt_parts hta
      simp only at p1 p2
      have hg0 : ¬ (g : Int) < 0 := by omega
      simp (maxSteps := 2000000) (implicitDefEqProofs := false) [DN, NB, begT, atHead, kd, wantedA, evP, evR, evF, evL, evC, evI, evBin, evUn, evEq, evSt, evRes, plain, scp, scpA, scpL, rdRow, rdCells, veq, veqA, veqL, isHole, Value.cells, evalL, optI, evBounds, evFill, evFillR, evApp, newsOf, wrCells, one1, fitsApp, evClr, undef, onB_bool, List.getElem?_concat_length, List.getElem?_cons_zero, List.getElem?_cons_succ, List.getElem?_toArray, List.getElem?_nil, List.set_cons_zero, List.set_cons_succ, List.cons_append, List.nil_append, -getElem?_pos, -getElem?_neg, aT, hq, ev, eh, rwB, hlt', hi0, hrd, hfitr, set_concat, splice_many, hwr, ck, bk]
      refine grantG hl hlt (hat _) ?_
      rw [hg]
      simp (maxSteps := 2000000) (implicitDefEqProofs := false) [DN, NB, begT, atHead, kd, wantedA, evP, evR, evF, evL, evC, evI, evBin, evUn, evEq, evSt, evRes, plain, scp, scpA, scpL, rdRow, rdCells, veq, veqA, veqL, isHole, Value.cells, evalL, optI, evBounds, evFill, evFillR, evApp, newsOf, wrCells, one1, fitsApp, evClr, undef, onB_bool, List.getElem?_concat_length, List.getElem?_cons_zero, List.getElem?_cons_succ, List.getElem?_toArray, List.getElem?_nil, List.set_cons_zero, List.set_cons_succ, List.cons_append, List.nil_append, -getElem?_pos, -getElem?_neg, hg0, hwr, splice_many]
      refine loop38b l d hl hld [.row (rowOf l), rwB q, .cells [.int .i64 x.k, .int .i64 x.t, .int .i64 x.now] 126 none] x.t (fun a c => ok3 _ _ _ 0) rfl 2 _ _ rfl (.slice (some ⟨1, 0, none⟩) q.length (OPEN + q.length)) (by simp [scp, live, rwB]) i g hlt _ _ _ (headId (fun _ _ hb => by simpa [w9, ck, rwB] using hb) (ok3 _ _ _ 0) (fun b hb => ?_) (by simp) rfl fun y hy => ?_) ?_
      · obtain rfl : b = 0 := by omega
        rfl
      · simp only [bT, List.mem_cons, List.not_mem_nil, or_false] at hy
        rcases hy with rfl | rfl | rfl | rfl | rfl | rfl | rfl | rfl | rfl | rfl <;> exact ⟨by simp [GB], by simp [scp, live, w9, rwB]⟩
      simp (maxSteps := 2000000) (implicitDefEqProofs := false) [DN, NB, begT, atHead, kd, wantedA, evP, evR, evF, evL, evC, evI, evBin, evUn, evEq, evSt, evRes, plain, scp, scpA, scpL, rdRow, rdCells, veq, veqA, veqL, isHole, Value.cells, evalL, optI, evBounds, evFill, evFillR, evApp, newsOf, wrCells, one1, fitsApp, evClr, undef, onB_bool, List.getElem?_concat_length, List.getElem?_cons_zero, List.getElem?_cons_succ, List.getElem?_toArray, List.getElem?_nil, List.set_cons_zero, List.set_cons_succ, List.cons_append, List.nil_append, -getElem?_pos, -getElem?_neg, bT]
      refine loop38d l (OPEN + d) hl [.row (rowOf l), rwB q, .cells [.int .i64 x.k, .int .i64 x.t, .int .i64 x.now] 126 none] x.t (aheadL (l.take i) x.t : Nat) (fun c => ok3 _ _ _ 0) rfl (.slice (some ⟨1, 0, none⟩) q.length (OPEN + q.length)) (.pointer (some ⟨2, 0, none⟩)) (by simp [scp, live, rwB]) (by simp [scp, live]) i g (by omega) (by omega) _ _ _ (headId (fun _ _ hb => by simpa [w9, ck, rwB] using hb) (ok3 _ _ _ 0) (fun b hb => ?_) (by simp) rfl fun y hy => ?_) ?_
      · obtain rfl : b = 0 := by omega
        rfl
      · simp only [dT, List.mem_cons, List.not_mem_nil, or_false] at hy
        rcases hy with rfl | rfl | rfl | rfl | rfl | rfl | rfl | rfl | rfl | rfl <;> exact ⟨by simp [GB], by simp [scp, live, w9, rwB]⟩
      simp (maxSteps := 2000000) (implicitDefEqProofs := false) [DN, NB, begT, atHead, kd, wantedA, evP, evR, evF, evL, evC, evI, evBin, evUn, evEq, evSt, evRes, plain, scp, scpA, scpL, rdRow, rdCells, veq, veqA, veqL, isHole, Value.cells, evalL, optI, evBounds, evFill, evFillR, evApp, newsOf, wrCells, one1, fitsApp, evClr, undef, onB_bool, List.getElem?_concat_length, List.getElem?_cons_zero, List.getElem?_cons_succ, List.getElem?_toArray, List.getElem?_nil, List.set_cons_zero, List.set_cons_succ, List.cons_append, List.nil_append, -getElem?_pos, -getElem?_neg, dT, w9, rwB, splice_many, hwr, hwlq, hpt, hno, g1, g2, g3, capLow_open]
      refine goA 5 _ _ g hta (by simp) rfl ?_ rfl (by simp [GB]) ?_ (by simp [GB]) (by simp [GB]) (by simp [GB])
      · simp [rwB, rowW_app, waitOf]
      · simp [GB, rwV]

end Ox
end Go.Proofs.Ytekhadlpcdjlpaa
