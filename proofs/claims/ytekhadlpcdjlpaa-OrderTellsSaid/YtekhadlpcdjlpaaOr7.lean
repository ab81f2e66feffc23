/- order: Overtaken, whole; Waits. -/
import Derived.Test.YtekhadlpcdjlpaaOr6
namespace Go.Proofs.Ytekhadlpcdjlpaa
namespace Ox
open Go Abs Code
set_option linter.unusedVariables false
set_option linter.unusedSimpArgs false
set_option maxRecDepth 100000

theorem rowAt_one {l : List En} {A : Option Addr} {tl : AH} (hA : RowOne l.length A) : RowAt (.row (rowOf l) :: tl) A l.length (rowOf l) := by
  rcases hA with ⟨h, rfl | ⟨sp, rfl⟩⟩ | rfl
  · obtain rfl := List.length_eq_zero_iff.1 h
    exact .inl ⟨rfl, rfl, rfl⟩
  · obtain rfl := List.length_eq_zero_iff.1 h
    exact .inr ⟨0, 0, sp, rfl, .inl ⟨rfl, rfl⟩⟩
  · exact .inr ⟨0, 0, none, rfl, .inr ⟨rfl, rowOf l, rfl, fun i v hv => by simpa using hv⟩⟩

theorem turns_length (l : List En) : (turnsL l).length ≤ l.length := upTo_length l l.length

set_option maxHeartbeats 2000000 in
theorem over_ (l : List En) (A : Option Addr) (cap : Nat) (hl : l.length ≤ 1000) (hA : RowOne l.length A) : AC Try.prog 34 [.slice A l.length cap] [.row (rowOf l)] (fun v h' => v = .int .i64 (overL (turnsL l) : Nat) ∧ h' = [.row (rowOf l)]) := by
  refine AC.cut ?_
  refine entry hmix cf34 ?_
  have htl := turns_length l
  obtain ⟨ts, hts⟩ : ∃ ts, turnsL l = ts := ⟨_, rfl⟩
  simp (maxSteps := 2000000) (implicitDefEqProofs := false) [DN, NB, begT, atHead, kd, wantedA, evP, evR, evF, evL, evC, evI, evBin, evUn, evEq, evSt, evRes, plain, scp, scpA, scpL, rdRow, rdCells, veq, veqA, veqL, isHole, Value.cells, evalL, optI, evBounds, evFill, evFillR, evApp, newsOf, wrCells, one1, fitsApp, evClr, undef, onB_bool, List.getElem?_concat_length, List.getElem?_cons_zero, List.getElem?_cons_succ, List.getElem?_toArray, List.getElem?_nil, List.set_cons_zero, List.set_cons_succ, List.cons_append, List.nil_append, -getElem?_pos, -getElem?_neg]
  refine turnsG hl (rowAt_one (tl := []) hA) fun v E hT => ?_
  rw [hts] at hT htl ⊢
  have hv : v = tV ts ∧ E = tE ts := by
    cases hT with
    | nil h => unfold tV tE; rw [if_pos h, if_pos h]; exact ⟨rfl, rfl⟩
    | some_ h => unfold tV tE; rw [if_neg h, if_neg h]; exact ⟨rfl, rfl⟩
  obtain ⟨rfl, rfl⟩ := hv
  by_cases hn : ts = []
  · subst hn
    simp (maxSteps := 2000000) (implicitDefEqProofs := false) [DN, NB, begT, atHead, kd, wantedA, evP, evR, evF, evL, evC, evI, evBin, evUn, evEq, evSt, evRes, plain, scp, scpA, scpL, rdRow, rdCells, veq, veqA, veqL, isHole, Value.cells, evalL, optI, evBounds, evFill, evFillR, evApp, newsOf, wrCells, one1, fitsApp, evClr, undef, onB_bool, List.getElem?_concat_length, List.getElem?_cons_zero, List.getElem?_cons_succ, List.getElem?_toArray, List.getElem?_nil, List.set_cons_zero, List.set_cons_succ, List.cons_append, List.nil_append, -getElem?_pos, -getElem?_neg, tV, tE]
    refine loop34 l [] (by simp) _ _ _ (ovHead (s := (0, 0)) (fun _ _ hb => hb) rfl ?_) ?_
    · simp only [ovT, List.mem_cons, List.not_mem_nil, or_false]
      rintro y (rfl | rfl | rfl | rfl | rfl) <;> simp [GB, tV]
    simp (maxSteps := 2000000) (implicitDefEqProofs := false) [DN, NB, begT, atHead, kd, wantedA, evP, evR, evF, evL, evC, evI, evBin, evUn, evEq, evSt, evRes, plain, scp, scpA, scpL, rdRow, rdCells, veq, veqA, veqL, isHole, Value.cells, evalL, optI, evBounds, evFill, evFillR, evApp, newsOf, wrCells, one1, fitsApp, evClr, undef, onB_bool, List.getElem?_concat_length, List.getElem?_cons_zero, List.getElem?_cons_succ, List.getElem?_toArray, List.getElem?_nil, List.set_cons_zero, List.set_cons_succ, List.cons_append, List.nil_append, -getElem?_pos, -getElem?_neg, ovT, tE]
    exact ⟨[.row (rowOf l)], rfl, aok1 l, Nat.le_refl _, rfl, rfl⟩
  · simp (maxSteps := 2000000) (implicitDefEqProofs := false) [DN, NB, begT, atHead, kd, wantedA, evP, evR, evF, evL, evC, evI, evBin, evUn, evEq, evSt, evRes, plain, scp, scpA, scpL, rdRow, rdCells, veq, veqA, veqL, isHole, Value.cells, evalL, optI, evBounds, evFill, evFillR, evApp, newsOf, wrCells, one1, fitsApp, evClr, undef, onB_bool, List.getElem?_concat_length, List.getElem?_cons_zero, List.getElem?_cons_succ, List.getElem?_toArray, List.getElem?_nil, List.set_cons_zero, List.set_cons_succ, List.cons_append, List.nil_append, -getElem?_pos, -getElem?_neg, tV, tE, hn]
    refine loop34 l ts (by omega) _ _ _ (ovHead (s := (0, 0)) (fun b k hb => ?_) rfl ?_) ?_
    · unfold tE at hb
      rw [if_neg hn] at hb
      exact hb
    · simp only [ovT, List.mem_cons, List.not_mem_nil, or_false]
      rintro y (rfl | rfl | rfl | rfl | rfl) <;> simp [GB, tV, hn]
    simp (maxSteps := 2000000) (implicitDefEqProofs := false) [DN, NB, begT, atHead, kd, wantedA, evP, evR, evF, evL, evC, evI, evBin, evUn, evEq, evSt, evRes, plain, scp, scpA, scpL, rdRow, rdCells, veq, veqA, veqL, isHole, Value.cells, evalL, optI, evBounds, evFill, evFillR, evApp, newsOf, wrCells, one1, fitsApp, evClr, undef, onB_bool, List.getElem?_concat_length, List.getElem?_cons_zero, List.getElem?_cons_succ, List.getElem?_toArray, List.getElem?_nil, List.set_cons_zero, List.set_cons_succ, List.cons_append, List.nil_append, -getElem?_pos, -getElem?_neg, ovT, tE, hn]
    exact ⟨[.row (rowOf l)], rfl, aok1 l, Nat.le_refl _, rfl, rfl⟩

theorem overG {l : List En} {A : Option Addr} {cap : Nat} {H : AH} (hl : l.length ≤ 1000) (hA : RowAt H A l.length (rowOf l)) {K : Value → AH → Prop} (hK : K (.int .i64 (overL (turnsL l) : Nat)) H) : AC Try.prog 34 [.slice A l.length cap] H K :=
  AC.rowG (pre := []) (rest := []) (rowOf_plain l) (by simp) (by simp) rfl (fun A' hA' => over_ l A' cap hl hA') hA hK

def rowW : List Wt → List Value
  | [] => []
  | x :: l => .int .i64 x.t :: .int .i64 x.a :: .int .i64 x.g :: rowW l
theorem rowW_length (l : List Wt) : (rowW l).length = l.length * 3 := by
  induction l with
  | nil => rfl
  | cons x l ih => simp [rowW, ih]; omega
theorem rowW_plain (l : List Wt) : ∀ v ∈ rowW l, plain v = true := by
  induction l with
  | nil => intro v hv; cases hv
  | cons x l ih =>
    intro v hv
    simp [rowW] at hv
    rcases hv with rfl | rfl | rfl | hv
    · rfl
    · rfl
    · rfl
    · exact ih v hv
theorem rowW_app (l : List Wt) (x : Wt) : rowW (l ++ [x]) = rowW l ++ [.int .i64 x.t, .int .i64 x.a, .int .i64 x.g] := by
  induction l with
  | nil => rfl
  | cons y l ih => simp [rowW, ih]
theorem rowW_at {l : List Wt} {i : Nat} {x : Wt} (h : l[i]? = some x) : ((rowW l).drop (i * 3)).take 3 = [.int .i64 x.t, .int .i64 x.a, .int .i64 x.g] := by
  induction l generalizing i with
  | nil => simp at h
  | cons y l ih =>
    cases i with
    | zero => simp at h; subst h; simp [rowW]
    | succ i =>
      simp at h
      rw [show (i + 1) * 3 = i * 3 + 1 + 1 + 1 by omega]
      simp only [rowW, List.drop_succ_cons]
      exact ih h

def wB (ws : List Wt) : ABlk := .cells (rowW ws) 58 (some 3)
theorem wB_noNames (ws : List Wt) : noNames (wB ws) := rowW_plain ws
def wsUp (l : List En) (ts : List Tn) (i : Nat) : List Wt := (ts.take i).map (waitOf l)
def wV (i : Nat) : Value := if i = 0 then .slice none 0 0 else .slice (some ⟨2, 0, none⟩) i (OPEN + i)
def wE (l : List En) (ts : List Tn) (i : Nat) : AH := if i = 0 then [] else [wB (wsUp l ts i)]
def waT (sv : Value) (ts : List Tn) (i : Nat) : List (Nat × Value) := [(0, sv), (3, wV i), (7, tV ts), (8, .int .i64 ts.length), (9, .int .i64 i)]
def waH (l : List En) (ts : List Tn) (i : Nat) : AH := .row (rowOf l) :: tB ts :: wE l ts i
theorem waH_ok (l : List En) (ts : List Tn) (i : Nat) : AOK (waH l ts i) := by
  unfold waH wE
  split
  · exact AOK.of ⟨scp_noNames (rowOf_noNames l) _, scp_noNames (tB_noNames _) _, trivial⟩
  · exact AOK.of ⟨scp_noNames (rowOf_noNames l) _, scp_noNames (tB_noNames _) _, scp_noNames (wB_noNames _) _, trivial⟩

theorem waHead {l : List En} {ts : List Tn} (hn : ts ≠ []) {cap i : Nat} (b : Nat) (hb : 2 ≤ b) {t' : T} {h' : AH} (e1 : t'.length = 35) (h0 : h'[0]? = some (.row (rowOf l))) (h1 : h'[1]? = some (tB ts)) (h2 : i ≠ 0 → h'[b]? = some (wB (wsUp l ts i)))
    (g0 : getT t' 0 = some (.slice (some ⟨0, 0, none⟩) l.length cap)) (g3 : getT t' 3 = some (if i = 0 then .slice none 0 0 else .slice (some ⟨b, 0, none⟩) i (OPEN + i))) (g7 : getT t' 7 = some (.slice (some ⟨1, 0, none⟩) ts.length (OPEN + ts.length))) (g8 : getT t' 8 = some (.int .i64 ts.length)) (g9 : getT t' 9 = some (.int .i64 i)) :
    atHeadV 1 35 (waT (.slice (some ⟨0, 0, none⟩) l.length cap) ts i) (waH l ts i) t' h' := by
  have hl1 : ∀ E, live (.row (rowOf l) :: tB ts :: E) 1 = true := fun _ => rfl
  have hmem : ∀ (σ : Nat → Nat) (E : AH), σ 0 = 0 → σ 1 = 1 → (i ≠ 0 → σ 2 = b) → (i ≠ 0 → live (.row (rowOf l) :: tB ts :: E) 2 = true) → ∀ y ∈ waT (.slice (some ⟨0, 0, none⟩) l.length cap) ts i, getT t' y.1 = some (ren σ y.2) ∧ scp (live (.row (rowOf l) :: tB ts :: E)) y.2 = true := by
    intro σ E s0 s1 s2 hl y hy
    simp only [waT, List.mem_cons, List.not_mem_nil, or_false] at hy
    rcases hy with rfl | rfl | rfl | rfl | rfl
    · exact ⟨by rw [g0]; simp [ren, renA, s0], by simp [scp, live]⟩
    · by_cases hi : i = 0
      · exact ⟨by rw [g3]; simp [wV, hi, ren], by simp [wV, hi, scp]⟩
      · exact ⟨by rw [g3]; simp [wV, hi, ren, renA, s2 hi], by simp only [wV, if_neg hi, scp]; exact hl hi⟩
    · exact ⟨by rw [g7]; simp [tV, hn, ren, renA, s1], by simp only [tV, if_neg hn, scp]; rfl⟩
    · exact ⟨g8, rfl⟩
    · exact ⟨g9, rfl⟩
  by_cases hi : i = 0
  · have hh : waH l ts i = [.row (rowOf l), tB ts] := by simp [waH, wE, hi]
    have hok := waH_ok l ts i
    rw [hh] at hok ⊢
    refine headK [0, 1] ⟨by rw [renB_noNames (rowOf_noNames l)]; exact h0, by rw [renB_noNames (tB_noNames ts)]; exact h1, trivial⟩ (by simp) hok (fun c hc => ?_) (by simp) e1 (hmem _ [] (by simp [nthD, nth]) (by simp [nthD, nth]) (fun h => absurd hi h) (fun h => absurd hi h))
    obtain rfl : c = 0 := by omega
    exact ⟨by simp [nthD, nth], rfl⟩
  · have hh : waH l ts i = [.row (rowOf l), tB ts, wB (wsUp l ts i)] := by simp [waH, wE, hi]
    have hok := waH_ok l ts i
    rw [hh] at hok ⊢
    refine headK [0, 1, b] ⟨by rw [renB_noNames (rowOf_noNames l)]; exact h0, by rw [renB_noNames (tB_noNames ts)]; exact h1, by rw [renB_noNames (wB_noNames _)]; exact h2 hi, trivial⟩ (by simp; omega) hok (fun c hc => ?_) (by simp) e1 (hmem _ [wB (wsUp l ts i)] (by simp [nthD, nth]) (by simp [nthD, nth]) (fun _ => by simp [nthD, nth]) (fun _ => rfl))
    obtain rfl : c = 0 := by omega
    exact ⟨by simp [nthD, nth], rfl⟩

theorem waits_len (l : List En) : (waitsL l).length = (turnsL l).length := by simp [waitsL]

theorem turn_parts {l : List En} {i : Nat} {x : Tn} (h : (turnsL l)[i]? = some x) : x.e < x.g ∧ x.g < l.length := by
  have hm := List.mem_of_getElem? h
  unfold turnsL at hm
  obtain ⟨j, _, hj⟩ := List.mem_filterMap.1 hm
  obtain ⟨he, h1, h2, _⟩ := turnAt_parts hj
  omega

theorem rowAt_take {l : List En} {e : Nat} {tl : AH} : RowAt (.row (rowOf l) :: tl) (some ⟨0, 0, none⟩) e (rowOf (l.take e)) := by
  refine .inr ⟨0, 0, none, rfl, .inr ⟨rfl, rowOf l, rfl, fun i v hv => ?_⟩⟩
  rw [← rowOf_take, List.getElem?_take] at hv
  rw [Nat.zero_add]
  split at hv
  · exact hv
  · cases hv

theorem rowAt_mid {l : List En} {e g : Nat} {tl : AH} : RowAt (.row (rowOf l) :: tl) (some ⟨0, e * 3, none⟩) (g - e) (rowOf ((l.take g).drop e)) := by
  refine .inr ⟨0, e * 3, none, rfl, .inr ⟨rfl, rowOf l, rfl, fun i v hv => ?_⟩⟩
  rw [← rowOf_drop, ← rowOf_take, List.getElem?_drop, List.getElem?_take] at hv
  split at hv
  · exact hv
  · cases hv

theorem aheadAt {l : List En} (hl : l.length ≤ 1000) {e cap : Nat} (he : e ≤ l.length) (t : Int) {tl : AH} {K : Value → AH → Prop} (hK : K (.int .i64 (aheadL (l.take e) t : Nat)) (.row (rowOf l) :: tl)) : AC Try.prog 88 [.slice (some ⟨0, 0, none⟩) e cap, .int .i64 t] (.row (rowOf l) :: tl) K := by
  have hlen : (l.take e).length = e := by rw [List.length_take]; omega
  have := aheadG (l := l.take e) (A := some ⟨0, 0, none⟩) (cap := cap) (H := .row (rowOf l) :: tl) (by omega) (by rw [hlen]; exact rowAt_take) t hK
  rwa [hlen] at this

theorem countAt {l : List En} (hl : l.length ≤ 1000) {e g cap : Nat} (he : e ≤ g) (hg : g ≤ l.length) (k : Int) {tl : AH} {K : Value → AH → Prop} (hK : K (.int .i64 (countK ((l.take g).drop e) k : Nat)) (.row (rowOf l) :: tl)) : AC Try.prog 89 [.slice (some ⟨0, e * 3, none⟩) (g - e) cap, .int .i64 k] (.row (rowOf l) :: tl) K := by
  have hlen : ((l.take g).drop e).length = g - e := by rw [List.length_drop, List.length_take]; omega
  have := countG (l := (l.take g).drop e) (A := some ⟨0, e * 3, none⟩) (cap := cap) (H := .row (rowOf l) :: tl) (by omega) (by rw [hlen]; exact rowAt_mid) k hK
  rwa [hlen] at this

set_option maxHeartbeats 8000000 in
theorem loop33 (l : List En) (cap : Nat) (hl : l.length ≤ 1000) (hcl : l.length ≤ cap) (hcap : cap < OPEN) (hn : turnsL l ≠ []) (T0 : T) (h : AH) (Q : AExit → T → AH → Prop)
    (h0 : atHeadV 1 35 (waT (.slice (some ⟨0, 0, none⟩) l.length cap) (turnsL l) 0) (waH l (turnsL l) 0) T0 h)
    (hQ : Q (.exit 0) (mkT 35 ((10, .bool false) :: waT (.slice (some ⟨0, 0, none⟩) l.length cap) (turnsL l) (turnsL l).length)) (waH l (turnsL l) (turnsL l).length)) : ALoop Try.prog 1 lp33_0 T0 h Q := by
  have hparts := @turn_parts l
  have htl := turns_length l
  obtain ⟨ts, hts⟩ : ∃ ts, turnsL l = ts := ⟨_, rfl⟩
  rw [hts] at hn h0 hQ hparts htl
  obtain ⟨tv, htv⟩ : ∃ tv, tv = waT (.slice (some ⟨0, 0, none⟩) l.length cap) ts := ⟨_, rfl⟩
  obtain ⟨hv, hhv⟩ : ∃ hv, hv = waH l ts := ⟨_, rfl⟩
  refine loop3 hmix 35 (fun i => i ≤ ts.length) (fun i => ts.length - i) tv hv 0 (Nat.zero_le _) (by rw [htv, hhv]; exact h0) ?_
  intro i hi
  rw [show tv i = waT (.slice (some ⟨0, 0, none⟩) l.length cap) ts i by rw [htv], show hv i = waH l ts i by rw [hhv]]
  by_cases hlt : i < ts.length
  case neg =>
    obtain rfl : i = ts.length := by omega
    simp (maxSteps := 2000000) (implicitDefEqProofs := false) [DN, NB, begT, atHead, kd, wantedA, evP, evR, evF, evL, evC, evI, evBin, evUn, evEq, evSt, evRes, plain, scp, scpA, scpL, rdRow, rdCells, veq, veqA, veqL, isHole, Value.cells, evalL, optI, evBounds, evFill, evFillR, evApp, newsOf, wrCells, one1, fitsApp, evClr, undef, onB_bool, List.getElem?_concat_length, List.getElem?_cons_zero, List.getElem?_cons_succ, List.getElem?_toArray, List.getElem?_nil, List.set_cons_zero, List.set_cons_succ, List.cons_append, List.nil_append, -getElem?_pos, -getElem?_neg, waT] at hQ
    simp (maxSteps := 2000000) (implicitDefEqProofs := false) [DN, NB, begT, atHead, kd, wantedA, evP, evR, evF, evL, evC, evI, evBin, evUn, evEq, evSt, evRes, plain, scp, scpA, scpL, rdRow, rdCells, veq, veqA, veqL, isHole, Value.cells, evalL, optI, evBounds, evFill, evFillR, evApp, newsOf, wrCells, one1, fitsApp, evClr, undef, onB_bool, List.getElem?_concat_length, List.getElem?_cons_zero, List.getElem?_cons_succ, List.getElem?_toArray, List.getElem?_nil, List.set_cons_zero, List.set_cons_succ, List.cons_append, List.nil_append, -getElem?_pos, -getElem?_neg, waT, lp33_0]
    exact hQ
  have hlt' : (i : Int) < ts.length := by omega
  have hi0 : (0 : Int) ≤ i := by omega
  obtain ⟨x, hx⟩ : ∃ x, ts[i]? = some x := ⟨_, List.getElem?_eq_getElem hlt⟩
  obtain ⟨p1, p2⟩ := hparts hx
  have hrd := rowT_at hx
  have hfitr : i * 3 + 3 ≤ (rowT ts).length := by rw [rowT_length]; omega
  have hwr : IntKind.i64.wrap ((i : Int) + 1) = (i : Int) + 1 := IntWalk.i64_in _ (by omega)
  have hws : wsUp l ts (i + 1) = wsUp l ts i ++ [waitOf l x] := by
    unfold wsUp
    rw [List.take_add_one, hx, List.map_append]
    rfl
  have f1 : (x.e : Int) ≤ cap := by omega
  have f2 : (0 : Int) ≤ x.e := by omega
  have f3 : (x.g : Int) ≤ cap := by omega
  have f4 : (x.e : Int) ≤ x.g := by omega
  have f5 : x.e ≤ cap := by omega
  have f6 : x.g ≤ cap := by omega
  have f7 : x.e ≤ x.g := by omega
  have f8 : ¬ cap = x.e := by omega
  have hn3 : turnsL l ≠ [] := by rw [hts]; exact hn
  by_cases hi00 : i = 0
  · subst hi00
    have hrd0 : List.take 3 (rowT ts) = [.int .i64 x.t, .int .i64 x.e, .int .i64 x.g] := by simpa using hrd
    have hl0 : 0 < ts.length := hlt
    have hf0 : 3 ≤ (rowT ts).length := by omega
    have hw1 : IntKind.i64.wrap 1 = 1 := rfl
    simp (maxSteps := 2000000) (implicitDefEqProofs := false) [DN, NB, begT, atHead, kd, wantedA, evP, evR, evF, evL, evC, evI, evBin, evUn, evEq, evSt, evRes, plain, scp, scpA, scpL, rdRow, rdCells, veq, veqA, veqL, isHole, Value.cells, evalL, optI, evBounds, evFill, evFillR, evApp, newsOf, wrCells, one1, fitsApp, evClr, undef, onB_bool, List.getElem?_concat_length, List.getElem?_cons_zero, List.getElem?_cons_succ, List.getElem?_toArray, List.getElem?_nil, List.set_cons_zero, List.set_cons_succ, List.cons_append, List.nil_append, -getElem?_pos, -getElem?_neg, waT, waH, wV, wE, tV, tB, hn, lp33_0, hl0, hf0, hw1, hrd0, hfitr, set_concat, splice_many, bnd, hcap, f1, f2, f3, f4, f5, f6, f7, f8]
    refine aheadAt hl (by omega) x.t ?_
    simp (maxSteps := 2000000) (implicitDefEqProofs := false) [DN, NB, begT, atHead, kd, wantedA, evP, evR, evF, evL, evC, evI, evBin, evUn, evEq, evSt, evRes, plain, scp, scpA, scpL, rdRow, rdCells, veq, veqA, veqL, isHole, Value.cells, evalL, optI, evBounds, evFill, evFillR, evApp, newsOf, wrCells, one1, fitsApp, evClr, undef, onB_bool, List.getElem?_concat_length, List.getElem?_cons_zero, List.getElem?_cons_succ, List.getElem?_toArray, List.getElem?_nil, List.set_cons_zero, List.set_cons_succ, List.cons_append, List.nil_append, -getElem?_pos, -getElem?_neg]
    refine countAt hl (by omega) (by omega) 3 ?_
    simp (maxSteps := 2000000) (implicitDefEqProofs := false) [DN, NB, begT, atHead, kd, wantedA, evP, evR, evF, evL, evC, evI, evBin, evUn, evEq, evSt, evRes, plain, scp, scpA, scpL, rdRow, rdCells, veq, veqA, veqL, isHole, Value.cells, evalL, optI, evBounds, evFill, evFillR, evApp, newsOf, wrCells, one1, fitsApp, evClr, undef, onB_bool, List.getElem?_concat_length, List.getElem?_cons_zero, List.getElem?_cons_succ, List.getElem?_toArray, List.getElem?_nil, List.set_cons_zero, List.set_cons_succ, List.cons_append, List.nil_append, -getElem?_pos, -getElem?_neg, hw1]
    refine nextS.intro 1 (by omega) (by omega) ?_
    rw [htv, hhv]
    refine waHead hn (cap := cap) (i := 1) 4 (by decide) rfl rfl rfl (fun _ => ?_) (by simp [GB]) (by simp [GB]) (by simp [GB]) (by simp [GB]) (by simp [GB])
    have hws1 : wsUp l ts 1 = [waitOf l x] := by simpa [wsUp] using hws
    rw [hws1]
    rfl
  · have hwl := rowW_length (wsUp l ts i)
    have hul : (wsUp l ts i).length = i := by unfold wsUp; rw [List.length_map, List.length_take]; omega
    rw [hul] at hwl
    have hpt : List.take (i * 3) (rowW (wsUp l ts i)) = rowW (wsUp l ts i) := List.take_of_length_le (by omega)
    have hno : ¬ OPEN + i < OPEN := by omega
    have g1 : (i + 1) * 3 ≤ 4294967296 := by omega
    have g2 : (i + 1) * 24 ≤ 140737488355328 := by omega
    have g3 : i ≤ 4294967295 := by omega
    simp (maxSteps := 2000000) (implicitDefEqProofs := false) [DN, NB, begT, atHead, kd, wantedA, evP, evR, evF, evL, evC, evI, evBin, evUn, evEq, evSt, evRes, plain, scp, scpA, scpL, rdRow, rdCells, veq, veqA, veqL, isHole, Value.cells, evalL, optI, evBounds, evFill, evFillR, evApp, newsOf, wrCells, one1, fitsApp, evClr, undef, onB_bool, List.getElem?_concat_length, List.getElem?_cons_zero, List.getElem?_cons_succ, List.getElem?_toArray, List.getElem?_nil, List.set_cons_zero, List.set_cons_succ, List.cons_append, List.nil_append, -getElem?_pos, -getElem?_neg, waT, waH, wV, wE, wB, tV, tB, hn, hi00, lp33_0, hlt', hi0, hrd, hfitr, set_concat, splice_many, hwr, bnd, hcap, f1, f2, f3, f4, f5, f6, f7, f8]
    refine aheadAt hl (by omega) x.t ?_
    simp (maxSteps := 2000000) (implicitDefEqProofs := false) [DN, NB, begT, atHead, kd, wantedA, evP, evR, evF, evL, evC, evI, evBin, evUn, evEq, evSt, evRes, plain, scp, scpA, scpL, rdRow, rdCells, veq, veqA, veqL, isHole, Value.cells, evalL, optI, evBounds, evFill, evFillR, evApp, newsOf, wrCells, one1, fitsApp, evClr, undef, onB_bool, List.getElem?_concat_length, List.getElem?_cons_zero, List.getElem?_cons_succ, List.getElem?_toArray, List.getElem?_nil, List.set_cons_zero, List.set_cons_succ, List.cons_append, List.nil_append, -getElem?_pos, -getElem?_neg]
    refine countAt hl (by omega) (by omega) 3 ?_
    simp (maxSteps := 2000000) (implicitDefEqProofs := false) [DN, NB, begT, atHead, kd, wantedA, evP, evR, evF, evL, evC, evI, evBin, evUn, evEq, evSt, evRes, plain, scp, scpA, scpL, rdRow, rdCells, veq, veqA, veqL, isHole, Value.cells, evalL, optI, evBounds, evFill, evFillR, evApp, newsOf, wrCells, one1, fitsApp, evClr, undef, onB_bool, List.getElem?_concat_length, List.getElem?_cons_zero, List.getElem?_cons_succ, List.getElem?_toArray, List.getElem?_nil, List.set_cons_zero, List.set_cons_succ, List.cons_append, List.nil_append, -getElem?_pos, -getElem?_neg, hwr, hwl, hpt, hno, g1, g2, g3, capLow_open]
    refine nextS.intro (i + 1) (by omega) (by omega) ?_
    rw [htv, hhv]
    refine waHead hn (cap := cap) (i := i + 1) 5 (by decide) rfl rfl rfl (fun _ => ?_) (by simp [GB]) (by simp [GB]) (by simp [GB]) (by simp [GB]) (by simp [GB])
    rw [hws]
    simp [wB, rowW_app, waitOf]

end Ox
end Go.Proofs.Ytekhadlpcdjlpaa
