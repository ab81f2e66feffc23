/- order: turns, whole; Overtaken. -/
import Derived.Test.YtekhadlpcdjlpaaOr5
namespace Go.Proofs.Ytekhadlpcdjlpaa
namespace Ox
open Go Abs Code
set_option linter.unusedVariables false
set_option linter.unusedSimpArgs false
set_option maxRecDepth 100000

/-- Turns, handed out, as the block n. -/
inductive TOut (ts : List Tn) (n : Nat) : Value → AH → Prop
  | nil : ts = [] → TOut ts n (.slice none 0 0) []
  | some_ : ts ≠ [] → TOut ts n (.slice (some ⟨n, 0, none⟩) ts.length (OPEN + ts.length)) [tB ts]

theorem tOut_tE (ts : List Tn) : TOut ts 1 (tV ts) (tE ts) := by
  unfold tV tE
  by_cases h : ts = []
  · rw [if_pos h, if_pos h]; exact .nil h
  · rw [if_neg h, if_neg h]; exact .some_ h

theorem turns_ (l : List En) (A : Option Addr) (cap : Nat) (hl : l.length ≤ 1000) (hA : RowOne l.length A) : AC Try.prog 87 [.slice A l.length cap] [.row (rowOf l)] (fun v h' => ∃ E, h' = .row (rowOf l) :: E ∧ TOut (turnsL l) 1 v E) := by
  refine entry hmix cf87 ?_
  simp (maxSteps := 2000000) (implicitDefEqProofs := false) [DN, NB, begT, atHead, kd, wantedA, evP, evR, evF, evL, evC, evI, evBin, evUn, evEq, evSt, evRes, plain, scp, scpA, scpL, rdRow, rdCells, veq, veqA, veqL, isHole, Value.cells, evalL, optI, evBounds, evFill, evFillR, evApp, newsOf, wrCells, one1, fitsApp, evClr, undef, onB_bool, List.getElem?_concat_length, List.getElem?_cons_zero, List.getElem?_cons_succ, List.getElem?_toArray, List.getElem?_nil, List.set_cons_zero, List.set_cons_succ, List.cons_append, List.nil_append, -getElem?_pos, -getElem?_neg]
  refine loop87 l A cap hl hA _ _ _ (tHead hA 1 (by decide) rfl rfl (by simp [GB]) (by simp [GB]) (by simp [GB]) (by simp [GB]) (fun _ => (by simp [GB])) (fun h => absurd rfl h)) ?_
  simp (maxSteps := 2000000) (implicitDefEqProofs := false) [DN, NB, begT, atHead, kd, wantedA, evP, evR, evF, evL, evC, evI, evBin, evUn, evEq, evSt, evRes, plain, scp, scpA, scpL, rdRow, rdCells, veq, veqA, veqL, isHole, Value.cells, evalL, optI, evBounds, evFill, evFillR, evApp, newsOf, wrCells, one1, fitsApp, evClr, undef, onB_bool, List.getElem?_concat_length, List.getElem?_cons_zero, List.getElem?_cons_succ, List.getElem?_toArray, List.getElem?_nil, List.set_cons_zero, List.set_cons_succ, List.cons_append, List.nil_append, -getElem?_pos, -getElem?_neg, tT]
  refine ⟨tE (turnsL l), rfl, tOut_tE _⟩

theorem turnsG {l : List En} {A : Option Addr} {cap : Nat} {H : AH} (hl : l.length ≤ 1000) (hA : RowAt H A l.length (rowOf l)) {K : Value → AH → Prop} (hK : ∀ v E, TOut (turnsL l) H.length v E → K v (H ++ E)) : AC Try.prog 87 [.slice A l.length cap] H K := by
  refine AC.rowGE (pre := []) (rest := []) (TOut (turnsL l) 1) (rowOf_plain l) (by simp) (by simp) (fun A' hA' => (turns_ l A' cap hl hA').mono ?_) hA ?_
  · rintro v h' ⟨E, rfl, ht⟩
    cases ht with
    | nil h => exact ⟨[], rfl, by simp, rfl, .nil h⟩
    | some_ h => exact ⟨[tB (turnsL l)], rfl, fun k hk => by simp at hk; subst hk; exact ⟨tB_noNames _, by simp [tB], fun cb => rfl⟩, by simp [scp], .some_ h⟩
  · intro v E ht
    cases ht with
    | nil h => simpa [ren] using hK _ _ (.nil h)
    | some_ h => simpa [ren, renA] using hK _ _ (.some_ h)

theorem overL_le : ∀ (ts : List Tn), overL ts ≤ ts.length * ts.length
  | [] => Nat.le_refl _
  | a :: r => by
    have h1 := overL_le r
    have h2 : r.countP (pass a) ≤ r.length := List.countP_le_length
    simp only [overL, List.length_cons]
    have : (r.length + 1) * (r.length + 1) = r.length * r.length + 2 * r.length + 1 := by rw [Nat.mul_add, Nat.add_mul]; omega
    omega

theorem overL_drop {ts : List Tn} {i : Nat} {a : Tn} (h : ts[i]? = some a) : overL (ts.drop i) = (ts.drop (i + 1)).countP (pass a) + overL (ts.drop (i + 1)) := by
  have hi := (List.getElem?_eq_some_iff.1 h).1
  have e : ts.drop i = a :: ts.drop (i + 1) := by
    rw [List.drop_eq_getElem_cons hi]
    congr 1
    exact (List.getElem?_eq_some_iff.1 h).2
  rw [e]
  rfl

def ovT (ts : List Tn) (s : Nat × Nat) : List (Nat × Value) := [(3, tV ts), (4, .int .i64 s.2), (11, tV ts), (12, .int .i64 ts.length), (13, .int .i64 s.1)]

theorem ovHead {l : List En} {ts : List Tn} {s : Nat × Nat} {t' : T} {h' : AH} (hp : ∀ (b : Nat) (k : ABlk), (.row (rowOf l) :: tE ts : AH)[b]? = some k → h'[b]? = some k) (e1 : t'.length = 44) (e2 : ∀ y ∈ ovT ts s, getT t' y.1 = some y.2) : atHeadV 1 44 (ovT ts s) (.row (rowOf l) :: tE ts) t' h' := by
  refine headId hp (tE_ok l ts) (fun b hb => ?_) (by simp) e1 fun y hy => ⟨e2 y hy, ?_⟩
  · obtain rfl : b = 0 := by omega
    rfl
  · simp only [ovT, List.mem_cons, List.not_mem_nil, or_false] at hy
    rcases hy with rfl | rfl | rfl | rfl | rfl
    · unfold tV tE; split <;> simp [scp, live, tB]
    · rfl
    · unfold tV tE; split <;> simp [scp, live, tB]
    · rfl
    · rfl

set_option maxHeartbeats 8000000 in
theorem loop34 (l : List En) (ts : List Tn) (hts : ts.length ≤ 1000) (T0 : T) (h : AH) (Q : AExit → T → AH → Prop)
    (h0 : atHeadV 1 44 (ovT ts (0, 0)) (.row (rowOf l) :: tE ts) T0 h)
    (hQ : Q (.exit 0) (mkT 44 ((14, .bool false) :: ovT ts (ts.length, overL ts))) (.row (rowOf l) :: tE ts)) : ALoop Try.prog 1 lp34_0 T0 h Q := by
  obtain ⟨tv, htv⟩ : ∃ tv : Nat × Nat → List (Nat × Value), tv = ovT ts := ⟨_, rfl⟩
  obtain ⟨hv, hhv⟩ : ∃ hv : Nat × Nat → AH, hv = fun _ => .row (rowOf l) :: tE ts := ⟨_, rfl⟩
  refine loop3 hmix 44 (fun s => s.1 ≤ ts.length ∧ s.2 + overL (ts.drop s.1) = overL ts) (fun s => ts.length - s.1) tv hv (0, 0) ⟨Nat.zero_le _, by simp⟩ (by rw [htv, hhv]; exact h0) ?_
  rintro ⟨i, n⟩ ⟨hi, hn⟩
  simp only at hi hn
  rw [show tv (i, n) = ovT ts (i, n) by rw [htv], show hv (i, n) = .row (rowOf l) :: tE ts by rw [hhv]]
  by_cases hlt : i < ts.length
  case neg =>
    obtain rfl : i = ts.length := by omega
    rw [List.drop_length] at hn
    have hn' : n = overL ts := by simpa [overL] using hn
    subst hn'
    simp (maxSteps := 2000000) (implicitDefEqProofs := false) [DN, NB, begT, atHead, kd, wantedA, evP, evR, evF, evL, evC, evI, evBin, evUn, evEq, evSt, evRes, plain, scp, scpA, scpL, rdRow, rdCells, veq, veqA, veqL, isHole, Value.cells, evalL, optI, evBounds, evFill, evFillR, evApp, newsOf, wrCells, one1, fitsApp, evClr, undef, onB_bool, List.getElem?_concat_length, List.getElem?_cons_zero, List.getElem?_cons_succ, List.getElem?_toArray, List.getElem?_nil, List.set_cons_zero, List.set_cons_succ, List.cons_append, List.nil_append, -getElem?_pos, -getElem?_neg, ovT] at hQ
    simp (maxSteps := 2000000) (implicitDefEqProofs := false) [DN, NB, begT, atHead, kd, wantedA, evP, evR, evF, evL, evC, evI, evBin, evUn, evEq, evSt, evRes, plain, scp, scpA, scpL, rdRow, rdCells, veq, veqA, veqL, isHole, Value.cells, evalL, optI, evBounds, evFill, evFillR, evApp, newsOf, wrCells, one1, fitsApp, evClr, undef, onB_bool, List.getElem?_concat_length, List.getElem?_cons_zero, List.getElem?_cons_succ, List.getElem?_toArray, List.getElem?_nil, List.set_cons_zero, List.set_cons_succ, List.cons_append, List.nil_append, -getElem?_pos, -getElem?_neg, ovT, lp34_0]
    exact hQ
  have hlt' : (i : Int) < ts.length := by omega
  have hi0 : (0 : Int) ≤ i := by omega
  obtain ⟨a, ha⟩ : ∃ a, ts[i]? = some a := ⟨_, List.getElem?_eq_getElem hlt⟩
  have hrd := rowT_at ha
  have hfitr : i * 3 + 3 ≤ (rowT ts).length := by rw [rowT_length]; omega
  have hwr : IntKind.i64.wrap ((i : Int) + 1) = (i : Int) + 1 := IntWalk.i64_in _ (by omega)
  have hne : ts ≠ [] := by rintro rfl; simp at hlt
  have hov := overL_drop ha
  have hsq := overL_le ts
  have hsq2 : ts.length * ts.length ≤ 1000 * 1000 := Nat.mul_le_mul hts hts
  have hno : ¬ OPEN + ts.length < OPEN := by omega
  have hc0 : (0 : Int) ≤ (i : Int) + 1 := by omega
  have hc1 : (i : Int) + 1 ≤ ts.length := by omega
  simp (maxSteps := 2000000) (implicitDefEqProofs := false) [DN, NB, begT, atHead, kd, wantedA, evP, evR, evF, evL, evC, evI, evBin, evUn, evEq, evSt, evRes, plain, scp, scpA, scpL, rdRow, rdCells, veq, veqA, veqL, isHole, Value.cells, evalL, optI, evBounds, evFill, evFillR, evApp, newsOf, wrCells, one1, fitsApp, evClr, undef, onB_bool, List.getElem?_concat_length, List.getElem?_cons_zero, List.getElem?_cons_succ, List.getElem?_toArray, List.getElem?_nil, List.set_cons_zero, List.set_cons_succ, List.cons_append, List.nil_append, -getElem?_pos, -getElem?_neg, ovT, tV, tE, tB, hne, lp34_0, hlt', hi0, hrd, hfitr, set_concat, splice_many, hwr, hc0, hc1, bnd, hno]
  obtain ⟨ad, had⟩ : ∃ ad : Addr, ad = (if i + 1 < ts.length then (⟨1, (i + 1) * 3, none⟩ : Addr) else ⟨1, 0, some (2 * ((i + 1) * 3))⟩) := ⟨_, rfl⟩
  have hadb : ad.block = 1 := by rw [had]; split <;> rfl
  obtain ⟨m, hm⟩ : ∃ m, ts.length - (i + 1) = m := ⟨_, rfl⟩
  obtain ⟨cp, hcp⟩ : ∃ cp, OPEN + ts.length - (i + 1) = cp := ⟨_, rfl⟩
  rw [← had, hm, hcp]
  obtain ⟨tw, htw⟩ : ∃ tw : Nat × Nat → List (Nat × Value), tw = fun s => (6, .pointer (some ⟨2, 0, none⟩)) :: (21, .slice (some ad) m cp) :: (22, .int .i64 m) :: (23, .int .i64 s.1) :: ovT ts (i, s.2) := ⟨_, rfl⟩
  obtain ⟨hw, hhw⟩ : ∃ hw : Nat × Nat → AH, hw = fun _ => [.row (rowOf l), .cells (rowT ts) 147 (some 3), .cells [.int .i64 a.t, .int .i64 a.e, .int .i64 a.g] 147 none] := ⟨_, rfl⟩
  have hok3 : AOK [.row (rowOf l), .cells (rowT ts) 147 (some 3), .cells [.int .i64 a.t, .int .i64 a.e, .int .i64 a.g] 147 none] := AOK.of ⟨scp_noNames (rowOf_noNames l) _, scp_noNames (tB_noNames ts) _, by intro v hv; simp at hv; rcases hv with rfl | rfl | rfl <;> rfl, trivial⟩
  have hin : ∀ (s : Nat × Nat) (tl : AH) {t' : T}, t'.length = 44 → (∀ y ∈ tw s, getT t' y.1 = some y.2) → atHeadV 1 44 (tw s) (hw s) t' (.row (rowOf l) :: .cells (rowT ts) 147 (some 3) :: .cells [.int .i64 a.t, .int .i64 a.e, .int .i64 a.g] 147 none :: tl) := by
    intro s tl t' e1 e2
    rw [hhw]
    refine headId (fun b k hb => ?_) hok3 (fun b hb => ?_) (by simp) e1 fun y hy => ⟨e2 y hy, ?_⟩
    · match b with
      | 0 => injection hb with hb; subst hb; rfl
      | 1 => injection hb with hb; subst hb; rfl
      | 2 => injection hb with hb; subst hb; rfl
      | b + 3 => simp at hb
    · obtain rfl : b = 0 := by omega
      rfl
    · rw [htw] at hy
      simp only [ovT, List.mem_cons, List.not_mem_nil, or_false] at hy
      rcases hy with rfl | rfl | rfl | rfl | rfl | rfl | rfl | rfl | rfl
      · simp [scp, live]
      · simp [scp, live, hadb]
      · rfl
      · rfl
      · simp [scp, tV, hne, live]
      · rfl
      · simp [scp, tV, hne, live]
      · rfl
      · rfl
  refine loop3 hmix 44 (fun s => s.1 ≤ m ∧ s.2 = n + ((ts.drop (i + 1)).take s.1).countP (pass a)) (fun s => m - s.1) tw hw (0, n) ⟨Nat.zero_le _, by simp⟩ (hin (0, n) [] rfl ?_) ?_
  · rw [htw]
    simp only [ovT, List.mem_cons, List.not_mem_nil, or_false]
    rintro y (rfl | rfl | rfl | rfl | rfl | rfl | rfl | rfl | rfl) <;> simp [GB, tV, hne]
  rintro ⟨j, c⟩ ⟨hj, hc⟩
  simp only at hj hc
  rw [show tw (j, c) = (6, .pointer (some ⟨2, 0, none⟩)) :: (21, .slice (some ad) m cp) :: (22, .int .i64 m) :: (23, .int .i64 j) :: ovT ts (i, c) by rw [htw], show hw (j, c) = [.row (rowOf l), .cells (rowT ts) 147 (some 3), .cells [.int .i64 a.t, .int .i64 a.e, .int .i64 a.g] 147 none] by rw [hhw]]
  have hdl : (ts.drop (i + 1)).length = m := by rw [List.length_drop]; exact hm
  by_cases hjm : j < m
  case neg =>
    obtain rfl : j = m := by omega
    rw [← hdl, List.take_length] at hc
    simp (maxSteps := 2000000) (implicitDefEqProofs := false) [DN, NB, begT, atHead, kd, wantedA, evP, evR, evF, evL, evC, evI, evBin, evUn, evEq, evSt, evRes, plain, scp, scpA, scpL, rdRow, rdCells, veq, veqA, veqL, isHole, Value.cells, evalL, optI, evBounds, evFill, evFillR, evApp, newsOf, wrCells, one1, fitsApp, evClr, undef, onB_bool, List.getElem?_concat_length, List.getElem?_cons_zero, List.getElem?_cons_succ, List.getElem?_toArray, List.getElem?_nil, List.set_cons_zero, List.set_cons_succ, List.cons_append, List.nil_append, -getElem?_pos, -getElem?_neg, ovT, tV, hne, hwr]
    refine nextS.intro (i + 1, c) (by simp only; omega) ⟨by simp only; omega, by simp only; omega⟩ ?_
    rw [htv, hhv]
    refine ovHead (s := (i + 1, c)) (fun b k hb => ?_) rfl ?_
    · unfold tE at hb
      rw [if_neg hne] at hb
      match b with
      | 0 => injection hb with hb; subst hb; rfl
      | 1 => injection hb with hb; subst hb; rfl
      | b + 2 => simp at hb
    · simp only [ovT, List.mem_cons, List.not_mem_nil, or_false]
      rintro y (rfl | rfl | rfl | rfl | rfl) <;> simp [GB, tV, hne]
  have hi1 : i + 1 < ts.length := by omega
  rw [if_pos hi1] at had
  subst had
  have hjm' : (j : Int) < m := by omega
  have hj0 : (0 : Int) ≤ j := by omega
  obtain ⟨b, hb⟩ : ∃ b, ts[i + 1 + j]? = some b := ⟨_, List.getElem?_eq_getElem (by omega)⟩
  have hrd3 := rowT_at hb
  rw [Nat.add_mul] at hrd3
  have hfit3 : (i + 1) * 3 + j * 3 + 3 ≤ (rowT ts).length := by rw [rowT_length]; omega
  have hwj : IntKind.i64.wrap ((j : Int) + 1) = (j : Int) + 1 := IntWalk.i64_in _ (by omega)
  have hcs : ((ts.drop (i + 1)).take (j + 1)).countP (pass a) = ((ts.drop (i + 1)).take j).countP (pass a) + if pass a b then 1 else 0 := by
    rw [List.take_add_one, List.getElem?_drop, hb, List.countP_append]
    simp [List.countP_cons]
  have hcl : ((ts.drop (i + 1)).take j).countP (pass a) ≤ (ts.drop (i + 1)).countP (pass a) := (List.take_sublist _ _).countP_le
  have hwc : IntKind.i64.wrap ((c : Int) + 1) = (c : Int) + 1 := IntWalk.i64_in _ (by omega)
  have fin : ∀ c' tl t', c' = c + (if pass a b then 1 else 0) → t'.length = 44 → (∀ y ∈ ((6, .pointer (some ⟨2, 0, none⟩)) :: (21, .slice (some ⟨1, (i + 1) * 3, none⟩) m cp) :: (22, .int .i64 m) :: (23, .int .i64 ((j + 1 : Nat) : Int)) :: ovT ts (i, c') : List (Nat × Value)), getT t' y.1 = some y.2) → nextS 1 44 (fun s => s.1 ≤ m ∧ s.2 = n + ((ts.drop (i + 1)).take s.1).countP (pass a)) (fun s => m - s.1) tw hw (j, c) t' (.row (rowOf l) :: .cells (rowT ts) 147 (some 3) :: .cells [.int .i64 a.t, .int .i64 a.e, .int .i64 a.g] 147 none :: tl) := by
    intro c' tl t' e0 e1 e2
    refine nextS.intro (j + 1, c') (by simp only; omega) ⟨by simp only; omega, by simp only; rw [hcs]; omega⟩ (hin (j + 1, c') tl e1 ?_)
    rw [htw]
    exact e2
  have tail : ∀ c' (t' : T), getT t' 6 = some (.pointer (some ⟨2, 0, none⟩)) → getT t' 21 = some (.slice (some ⟨1, (i + 1) * 3, none⟩) m cp) → getT t' 22 = some (.int .i64 m) → getT t' 23 = some (.int .i64 ((j : Int) + 1)) → getT t' 3 = some (tV ts) → getT t' 4 = some (.int .i64 (c' : Nat)) → getT t' 11 = some (tV ts) → getT t' 12 = some (.int .i64 ts.length) → getT t' 13 = some (.int .i64 i) → ∀ y ∈ ((6, .pointer (some ⟨2, 0, none⟩)) :: (21, .slice (some ⟨1, (i + 1) * 3, none⟩) m cp) :: (22, .int .i64 m) :: (23, .int .i64 ((j + 1 : Nat) : Int)) :: ovT ts (i, c') : List (Nat × Value)), getT t' y.1 = some y.2 := by
    intro c' t' g1 g2 g3 g4 g5 g6 g7 g8 g9
    simp only [ovT, List.mem_cons, List.not_mem_nil, or_false]
    rintro y (rfl | rfl | rfl | rfl | rfl | rfl | rfl | rfl | rfl)
    · exact g1
    · exact g2
    · exact g3
    · rw [g4]; rfl
    · exact g5
    · exact g6
    · exact g7
    · exact g8
    · exact g9
  by_cases ct : a.t = b.t
  · have bt : (a.t == b.t) = true := by simp [ct]
    have hp : pass a b = false := by simp [pass, ct]
    rw [hp] at fin
    have ct2 : (a.t = b.t) = True := eq_true ct
    simp (maxSteps := 2000000) (implicitDefEqProofs := false) [DN, NB, begT, atHead, kd, wantedA, evP, evR, evF, evL, evC, evI, evBin, evUn, evEq, evSt, evRes, plain, scp, scpA, scpL, rdRow, rdCells, veq, veqA, veqL, isHole, Value.cells, evalL, optI, evBounds, evFill, evFillR, evApp, newsOf, wrCells, one1, fitsApp, evClr, undef, onB_bool, List.getElem?_concat_length, List.getElem?_cons_zero, List.getElem?_cons_succ, List.getElem?_toArray, List.getElem?_nil, List.set_cons_zero, List.set_cons_succ, List.cons_append, List.nil_append, -getElem?_pos, -getElem?_neg, ovT, tV, hne, hjm', hj0, hrd3, hfit3, set_concat, splice_many, bt, ct2, hwj]
    exact fin c _ _ (by simp) rfl (tail c _ (by simp [GB]) (by simp [GB]) (by simp [GB]) (by simp [GB]) (by simp [GB, tV, hne]) (by simp [GB]) (by simp [GB, tV, hne]) (by simp [GB]) (by simp [GB]))
  have bt : (a.t == b.t) = false := by simp [ct]
  by_cases cg : b.g < a.g
  · have hp : pass a b = true := by simp [pass, ct, cg]
    rw [hp] at fin
    simp (maxSteps := 2000000) (implicitDefEqProofs := false) [DN, NB, begT, atHead, kd, wantedA, evP, evR, evF, evL, evC, evI, evBin, evUn, evEq, evSt, evRes, plain, scp, scpA, scpL, rdRow, rdCells, veq, veqA, veqL, isHole, Value.cells, evalL, optI, evBounds, evFill, evFillR, evApp, newsOf, wrCells, one1, fitsApp, evClr, undef, onB_bool, List.getElem?_concat_length, List.getElem?_cons_zero, List.getElem?_cons_succ, List.getElem?_toArray, List.getElem?_nil, List.set_cons_zero, List.set_cons_succ, List.cons_append, List.nil_append, -getElem?_pos, -getElem?_neg, ovT, tV, hne, hjm', hj0, hrd3, hfit3, set_concat, splice_many, bt, ct, cg, hwj, hwc]
    exact fin (c + 1) _ _ (by simp) rfl (tail (c + 1) _ (by simp [GB]) (by simp [GB]) (by simp [GB]) (by simp [GB]) (by simp [GB, tV, hne]) (by simp [GB]) (by simp [GB, tV, hne]) (by simp [GB]) (by simp [GB]))
  · have hp : pass a b = false := by simp [pass, cg]
    rw [hp] at fin
    simp (maxSteps := 2000000) (implicitDefEqProofs := false) [DN, NB, begT, atHead, kd, wantedA, evP, evR, evF, evL, evC, evI, evBin, evUn, evEq, evSt, evRes, plain, scp, scpA, scpL, rdRow, rdCells, veq, veqA, veqL, isHole, Value.cells, evalL, optI, evBounds, evFill, evFillR, evApp, newsOf, wrCells, one1, fitsApp, evClr, undef, onB_bool, List.getElem?_concat_length, List.getElem?_cons_zero, List.getElem?_cons_succ, List.getElem?_toArray, List.getElem?_nil, List.set_cons_zero, List.set_cons_succ, List.cons_append, List.nil_append, -getElem?_pos, -getElem?_neg, ovT, tV, hne, hjm', hj0, hrd3, hfit3, set_concat, splice_many, bt, ct, cg, hwj]
    exact fin c _ _ (by simp) rfl (tail c _ (by simp [GB]) (by simp [GB]) (by simp [GB]) (by simp [GB]) (by simp [GB, tV, hne]) (by simp [GB]) (by simp [GB, tV, hne]) (by simp [GB]) (by simp [GB]))

end Ox
end Go.Proofs.Ytekhadlpcdjlpaa
