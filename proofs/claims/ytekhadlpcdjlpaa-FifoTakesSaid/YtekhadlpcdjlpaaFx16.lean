/- fifo: the document's Check; entries turned into the document's; FifoChecks on the blocks. -/
import Derived.Test.YtekhadlpcdjlpaaFx15
namespace Go.Proofs.Ytekhadlpcdjlpaa
namespace Fx
open Go Abs Code
set_option linter.unusedVariables false
set_option linter.unusedSimpArgs false
set_option maxRecDepth 100000

theorem fits13X_ (n : Int) (l : List En) (A : Option Addr) (cap : Nat) (hl : l.length ≤ 1000) (hA : RowOne l.length A) (hcap : CapOk l.length cap) (x : En) : AC Try.prog 75 [.int .i64 n, .slice A l.length cap, x.v] [.row (rowOf l)] (fun v h' => v = .bool (fitsR n l x) ∧ h' = [.row (rowOf l)]) := by
  refine AC.cut ((fits13_ n l A cap hl hA hcap x).mono ?_)
  rintro v h' ⟨rfl, tl, rfl⟩
  refine ⟨[.row (rowOf l)], rfl, AOK.of ⟨scp_noNames (rowOf_noNames l) _, trivial⟩, rfl, Nat.le_refl _, fun b hb => ?_, rfl, rfl⟩
  simp at hb
  subst hb
  rfl

theorem fits13G {n : Int} {l : List En} {A : Option Addr} {cap : Nat} {H : AH} (hl : l.length ≤ 1000) (hcap : CapOk l.length cap) (hA : RowAt H A l.length (rowOf l)) (x : En) {K : Value → AH → Prop} (hK : K (.bool (fitsR n l x)) H) : AC Try.prog 75 [.int .i64 n, .slice A l.length cap, x.v] H K :=
  AC.rowG (pre := [.int .i64 n]) (rest := [x.v]) (rowOf_plain l) (by simp [plain, scp]) (by simp [plain, En.v, scp, scpA, scpL]) rfl (fun A' hA' => fits13X_ n l A' cap hl hA' hcap x) hA hK

theorem rowOf_take (l : List En) (j : Nat) : rowOf (l.take j) = (rowOf l).take (j * 3) := by
  induction j generalizing l with
  | zero => simp [rowOf]
  | succ j ih =>
    cases l with
    | nil => simp [rowOf]
    | cons x l =>
      rw [show (j + 1) * 3 = j * 3 + 1 + 1 + 1 by omega]
      simp only [List.take_succ_cons, rowOf, ih]

theorem rowAt_take {l : List En} {i : Nat} {H : AH} (hH : H[0]? = some (.row (rowOf l))) : RowAt H (some ⟨0, 0, none⟩) (l.take i).length (rowOf (l.take i)) := by
  refine .inr ⟨0, 0, none, rfl, .inr ⟨rfl, rowOf l, by simp [rdRow, hH], fun k v hv => ?_⟩⟩
  rw [rowOf_take, List.getElem?_take] at hv
  split at hv
  · simpa using hv
  · cases hv

theorem fits13T {n : Int} {l : List En} {i d : Nat} {H : AH} (hi : i ≤ l.length) (hl : l.length ≤ 200) (hd : l.length ≤ d) (hH : H[0]? = some (.row (rowOf l))) (x : En) {K : Value → AH → Prop} (hK : K (.bool (fitsR n (l.take i) x)) H) : AC Try.prog 75 [.int .i64 n, .slice (some ⟨0, 0, none⟩) i (OPEN + d), x.v] H K := by
  have htl : (l.take i).length = i := by rw [List.length_take]; omega
  have := fits13G (n := n) (l := l.take i) (A := some ⟨0, 0, none⟩) (cap := OPEN + d) (by omega) (.inr ⟨d, rfl, by omega⟩) (rowAt_take hH) x hK
  rwa [htl] at this

theorem countL_stop {s : LS} {l : List En} {x : En} (hx : l[countL s l]? = some x) : fitsL (afterL s (l.take (countL s l))) x = false := by
  induction l generalizing s with
  | nil => simp at hx
  | cons y l ih =>
    simp only [countL] at hx ⊢
    by_cases hf : fitsL s y = true
    · simp only [hf, if_true] at hx ⊢
      rw [List.getElem?_cons_succ] at hx
      rw [List.take_succ_cons]
      exact ih hx
    · simp only [hf, Bool.false_eq_true, if_false] at hx ⊢
      simp at hx
      subst hx
      simpa [afterL] using hf

theorem sameR_take {n : Nat} (l : List En) (i : Nat) (hi : i ≤ countL (newL n) l) : SameR n (afterL (newL n) (l.take i)) (l.take i) := by
  induction i with
  | zero => simpa [afterL] using sameR_new n
  | succ i ih =>
    have hlt : i < l.length := by have := countL_le (newL n) l; omega
    obtain ⟨x, hx⟩ : ∃ x, l[i]? = some x := ⟨_, List.getElem?_eq_getElem hlt⟩
    have h1 := ih (by omega)
    have h2 := countL_fits (s := newL n) (by omega) hx
    rw [afterL_step hx, List.take_add_one, hx]
    exact h1.step h2

def ckT (n : Int) (sv : Value) (len i : Nat) : List (Nat × Value) := [(0, .int .i64 n), (1, sv), (13, .int .i64 len), (14, .int .i64 i)]

set_option maxHeartbeats 4000000 in
theorem check13_ (n : Int) (l : List En) (A : Option Addr) (cap : Nat) (hl : l.length ≤ 200) (hA : RowOne l.length A) (hcap : CapOk l.length cap) : AC Try.prog 73 [.int .i64 n, .slice A l.length cap] [.row (rowOf l)] (fun v h' => v = .int .i64 (countN n l) ∧ h' = [.row (rowOf l)]) := by
  by_cases c1 : n < 1
  · have e : countN n l = 0 := by simp [countN]; omega
    rw [e]
    refine entry hmix cf73 ?_
    simp (maxSteps := 2000000) (implicitDefEqProofs := false) [DN, NB, begT, atHead, kd, wantedA, evP, evR, evF, evL, evC, evBin, evUn, evEq, evSt, evRes, plain, scp, scpA, scpL, rdRow, rdCells, veq, veqA, veqL, isHole, Value.cells, evalL, optI, evBounds, evFill, evFillR, evApp, newsOf, wrCells, one1, fitsApp, evClr, undef, onB_bool, List.getElem?_concat_length, List.getElem?_cons_zero, List.getElem?_cons_succ, List.getElem?_toArray, List.getElem?_nil, List.set_cons_zero, List.set_cons_succ, List.cons_append, List.nil_append, -getElem?_pos, -getElem?_neg, c1]
  by_cases c2 : 64 < n
  · have e : countN n l = 0 := by simp [countN]; omega
    rw [e]
    refine entry hmix cf73 ?_
    simp (maxSteps := 2000000) (implicitDefEqProofs := false) [DN, NB, begT, atHead, kd, wantedA, evP, evR, evF, evL, evC, evBin, evUn, evEq, evSt, evRes, plain, scp, scpA, scpL, rdRow, rdCells, veq, veqA, veqL, isHole, Value.cells, evalL, optI, evBounds, evFill, evFillR, evApp, newsOf, wrCells, one1, fitsApp, evClr, undef, onB_bool, List.getElem?_concat_length, List.getElem?_cons_zero, List.getElem?_cons_succ, List.getElem?_toArray, List.getElem?_nil, List.set_cons_zero, List.set_cons_succ, List.cons_append, List.nil_append, -getElem?_pos, -getElem?_neg, c1, c2]
  obtain ⟨nt, rfl⟩ : ∃ nt : Nat, n = nt := ⟨n.toNat, by omega⟩
  have e : countN nt l = countL (newL nt) l := by simp [countN]; omega
  rw [e]
  obtain ⟨c, hc⟩ : ∃ c, countL (newL nt) l = c := ⟨_, rfl⟩
  have hcl : c ≤ l.length := by rw [← hc]; exact countL_le _ _
  have hfit : ∀ (i : Nat) (x : En), i < c → l[i]? = some x → fitsR nt (l.take i) x = true := by
    intro i x hi hx
    rw [(sameR_take l i (by omega)).fits]
    exact countL_fits (by omega) hx
  have hstop : ∀ (x : En), l[c]? = some x → fitsR nt (l.take c) x = false := by
    intro x hx
    rw [(sameR_take l c (by omega)).fits]
    subst hc
    exact countL_stop hx
  rw [hc]
  refine entry hmix cf73 ?_
  simp (maxSteps := 2000000) (implicitDefEqProofs := false) [DN, NB, begT, atHead, kd, wantedA, evP, evR, evF, evL, evC, evBin, evUn, evEq, evSt, evRes, plain, scp, scpA, scpL, rdRow, rdCells, veq, veqA, veqL, isHole, Value.cells, evalL, optI, evBounds, evFill, evFillR, evApp, newsOf, wrCells, one1, fitsApp, evClr, undef, onB_bool, List.getElem?_concat_length, List.getElem?_cons_zero, List.getElem?_cons_succ, List.getElem?_toArray, List.getElem?_nil, List.set_cons_zero, List.set_cons_succ, List.cons_append, List.nil_append, -getElem?_pos, -getElem?_neg, c1, c2]
  refine loop3 hmix 31 (fun i => i ≤ c) (fun i => c - i) (ckT nt (.slice A l.length cap) l.length) (fun _ => [.row (rowOf l)]) 0 (Nat.zero_le _) (rowHead (n := 0) rfl rfl ?_) ?_
  · simp only [ckT, List.mem_cons, List.not_mem_nil, or_false]
    rintro y (rfl | rfl | rfl | rfl)
    case inr.inl => exact ⟨(by simp [GB]), rowOne_scp hA []⟩
    all_goals simp [GB, scp]
  intro i hi
  by_cases hlt : i < l.length
  case neg =>
    have hlt' : ¬ (i : Int) < l.length := by omega
    have e1 : c = l.length := by omega
    simp (maxSteps := 2000000) (implicitDefEqProofs := false) [DN, NB, begT, atHead, kd, wantedA, evP, evR, evF, evL, evC, evBin, evUn, evEq, evSt, evRes, plain, scp, scpA, scpL, rdRow, rdCells, veq, veqA, veqL, isHole, Value.cells, evalL, optI, evBounds, evFill, evFillR, evApp, newsOf, wrCells, one1, fitsApp, evClr, undef, onB_bool, List.getElem?_concat_length, List.getElem?_cons_zero, List.getElem?_cons_succ, List.getElem?_toArray, List.getElem?_nil, List.set_cons_zero, List.set_cons_succ, List.cons_append, List.nil_append, -getElem?_pos, -getElem?_neg, ckT, hlt', e1]
  have hlt' : (i : Int) < l.length := by omega
  have hi0 : (0 : Int) ≤ i := by omega
  have hile : (i : Int) ≤ l.length := by omega
  obtain ⟨x, hx⟩ : ∃ x, l[i]? = some x := ⟨_, List.getElem?_eq_getElem hlt⟩
  have hrd := rowOf_at hx
  have hfitr : i * 3 + 3 ≤ (rowOf l).length := by rw [rowOf_length]; omega
  have hwr : IntKind.i64.wrap ((i : Int) + 1) = ((i + 1 : Nat) : Int) := by rw [IntWalk.i64_in _ (by omega)]; omega
  have hA' : A = some ⟨0, 0, none⟩ := by
    rcases hA with ⟨h, _⟩ | h
    · omega
    · exact h
  subst hA'
  obtain ⟨d, rfl, hld⟩ : ∃ d, cap = OPEN + d ∧ l.length ≤ d := by
    rcases hcap with h | h
    · omega
    · exact h
  have a3 : ¬ OPEN + d < OPEN := by omega
  have a4 : OPEN + d - OPEN = d := by omega
  have a5 : 0 < d := by omega
  have htl : (l.take i).length = i := by rw [List.length_take]; omega
  have hxv : (Value.agg #[Value.int IntKind.i64 x.k, Value.int IntKind.i64 x.t, Value.int IntKind.i64 x.now]) = x.v := rfl
  by_cases hic : i < c
  · have hf := hfit i x hic hx
    simp (maxSteps := 2000000) (implicitDefEqProofs := false) [DN, NB, begT, atHead, kd, wantedA, evP, evR, evF, evL, evC, evBin, evUn, evEq, evSt, evRes, plain, scp, scpA, scpL, rdRow, rdCells, veq, veqA, veqL, isHole, Value.cells, evalL, optI, evBounds, evFill, evFillR, evApp, newsOf, wrCells, one1, fitsApp, evClr, undef, onB_bool, List.getElem?_concat_length, List.getElem?_cons_zero, List.getElem?_cons_succ, List.getElem?_toArray, List.getElem?_nil, List.set_cons_zero, List.set_cons_succ, List.cons_append, List.nil_append, -getElem?_pos, -getElem?_neg, ckT, hlt', hi0, hile, hrd, hfitr, a3, a4, a5, hld, bnd]
    rw [hxv]
    refine fits13T (l := l) (by omega) hl hld rfl x ?_
    rw [hf]
    simp (maxSteps := 2000000) (implicitDefEqProofs := false) [DN, NB, begT, atHead, kd, wantedA, evP, evR, evF, evL, evC, evBin, evUn, evEq, evSt, evRes, plain, scp, scpA, scpL, rdRow, rdCells, veq, veqA, veqL, isHole, Value.cells, evalL, optI, evBounds, evFill, evFillR, evApp, newsOf, wrCells, one1, fitsApp, evClr, undef, onB_bool, List.getElem?_concat_length, List.getElem?_cons_zero, List.getElem?_cons_succ, List.getElem?_toArray, List.getElem?_nil, List.set_cons_zero, List.set_cons_succ, List.cons_append, List.nil_append, -getElem?_pos, -getElem?_neg, hwr]
    refine nextS.intro (i + 1) (by omega) (by omega) (rowHead (n := 0) rfl rfl ?_)
    simp only [ckT, List.mem_cons, List.not_mem_nil, or_false]
    rintro y (rfl | rfl | rfl | rfl) <;> simp [GB, scp, live]
  · obtain rfl : i = c := by omega
    have hf := hstop x hx
    simp (maxSteps := 2000000) (implicitDefEqProofs := false) [DN, NB, begT, atHead, kd, wantedA, evP, evR, evF, evL, evC, evBin, evUn, evEq, evSt, evRes, plain, scp, scpA, scpL, rdRow, rdCells, veq, veqA, veqL, isHole, Value.cells, evalL, optI, evBounds, evFill, evFillR, evApp, newsOf, wrCells, one1, fitsApp, evClr, undef, onB_bool, List.getElem?_concat_length, List.getElem?_cons_zero, List.getElem?_cons_succ, List.getElem?_toArray, List.getElem?_nil, List.set_cons_zero, List.set_cons_succ, List.cons_append, List.nil_append, -getElem?_pos, -getElem?_neg, ckT, hlt', hi0, hile, hrd, hfitr, a3, a4, a5, hld, bnd]
    rw [hxv]
    refine fits13T (l := l) (by omega) hl hld rfl x ?_
    rw [hf]
    simp (maxSteps := 2000000) (implicitDefEqProofs := false) [DN, NB, begT, atHead, kd, wantedA, evP, evR, evF, evL, evC, evBin, evUn, evEq, evSt, evRes, plain, scp, scpA, scpL, rdRow, rdCells, veq, veqA, veqL, isHole, Value.cells, evalL, optI, evBounds, evFill, evFillR, evApp, newsOf, wrCells, one1, fitsApp, evClr, undef, onB_bool, List.getElem?_concat_length, List.getElem?_cons_zero, List.getElem?_cons_succ, List.getElem?_toArray, List.getElem?_nil, List.set_cons_zero, List.set_cons_succ, List.cons_append, List.nil_append, -getElem?_pos, -getElem?_neg]

theorem check13G {n : Int} {l : List En} {A : Option Addr} {cap : Nat} {H : AH} (hl : l.length ≤ 200) (hcap : CapOk l.length cap) (hA : RowAt H A l.length (rowOf l)) {K : Value → AH → Prop} (hK : K (.int .i64 (countN n l)) H) : AC Try.prog 73 [.int .i64 n, .slice A l.length cap] H K :=
  AC.rowG (pre := [.int .i64 n]) (rest := []) (rowOf_plain l) (by simp [plain, scp]) (by simp) rfl (fun A' hA' => check13_ n l A' cap hl hA' hcap) hA hK

/-! Entries, turned into the document's. -/

/-- Entries that were appended, nil at first; their block has the number n. -/
def enV (n : Nat) (l : List En) : Value := if l = [] then .slice none 0 0 else .slice (some ⟨n, 0, none⟩) l.length (OPEN + l.length)
def enH (l : List En) : AH := if l = [] then [] else [.cells (rowOf l) 126 (some 3)]
def enIs (k : Nat) (l : List En) : List Nat := if l = [] then [0] else [0, k]
theorem enBlk_noNames (l : List En) : noNames (.cells (rowOf l) 126 (some 3)) := rowOf_plain l
theorem enH_ok (q : List En) : ∀ k ∈ enH q, noNames k ∧ k ≠ .hole ∧ ∀ cb, k.reach cb = k.foot cb := by
  intro k hk
  unfold enH at hk
  split at hk
  · cases hk
  · simp at hk; subst hk; exact ⟨enBlk_noNames _, by simp, fun _ => rfl⟩
theorem enV_ren (q : List En) (k : Nat) : ren (nthD (enIs k q)) (enV 1 q) = enV k q := by
  unfold enV enIs
  split <;> simp [ren, renA, nthD, nth]
theorem enIs_0 (q : List En) (k : Nat) : nthD (enIs k q) 0 = 0 := by
  unfold enIs
  split <;> simp [nthD, nth]
theorem enV_scp (l : List En) (q : List En) : Abs.scp (live (.row (rowOf l) :: enH q)) (enV 1 q) = true := by
  unfold enV enH
  split <;> simp [Abs.scp, live]

theorem enHead {nt : Nat} {l q : List En} {k : Nat} {tv : List (Nat × Value)} {t' : T} {h' : AH} (hk : k ≠ 0) (h0 : h'[0]? = some (.row (rowOf l))) (h1 : q ≠ [] → h'[k]? = some (.cells (rowOf q) 126 (some 3))) (e1 : t'.length = nt)
    (e2 : ∀ y ∈ tv, getT t' y.1 = some (ren (nthD (enIs k q)) y.2) ∧ Abs.scp (live (.row (rowOf l) :: enH q)) y.2 = true) : atHeadV 1 nt tv (.row (rowOf l) :: enH q) t' h' := by
  refine headK (enIs k q) ?_ ?_ ?_ (fun b hb => ?_) (by simp) e1 e2
  · unfold enIs enH
    split
    · simp [keepsF, renB_noNames (rowOf_noNames l), h0]
    · rename_i h; simp [keepsF, renB_noNames (rowOf_noNames l), renB_noNames (enBlk_noNames _), h0, h1 h]
  · unfold enIs
    split <;> simp <;> omega
  · refine aok_noNames fun k hk => ?_
    rcases List.mem_cons.1 hk with rfl | hk
    · exact rowOf_noNames l
    · exact (enH_ok q k hk).1
  · obtain rfl : b = 0 := by omega
    exact ⟨enIs_0 q k, rfl⟩

def rfT (sv : Value) (l : List En) (i : Nat) : List (Nat × Value) := [(3, enV 1 (l.take i)), (6, sv), (7, .int .i64 l.length), (8, .int .i64 i)]

theorem rowOf_snoc (l : List En) (x : En) : rowOf (l ++ [x]) = rowOf l ++ [.int .i64 x.k, .int .i64 x.t, .int .i64 x.now] := by
  induction l with
  | nil => rfl
  | cons y l ih => simp [rowOf, ih]

set_option maxHeartbeats 4000000 in
theorem ref12_ (l : List En) (A : Option Addr) (cap : Nat) (hl : l.length ≤ 1000) (hA : RowOne l.length A) : AC Try.prog 36 [.slice A l.length cap] [.row (rowOf l)] (fun v h' => h' = .row (rowOf l) :: enH l ∧ v = enV 1 l) := by
  refine entry hmix cf36 ?_
  simp (maxSteps := 2000000) (implicitDefEqProofs := false) [DN, NB, begT, atHead, kd, wantedA, evP, evR, evF, evL, evC, evBin, evUn, evEq, evSt, evRes, plain, scp, scpA, scpL, rdRow, rdCells, veq, veqA, veqL, isHole, Value.cells, evalL, optI, evBounds, evFill, evFillR, evApp, newsOf, wrCells, one1, fitsApp, evClr, undef, onB_bool, List.getElem?_concat_length, List.getElem?_cons_zero, List.getElem?_cons_succ, List.getElem?_toArray, List.getElem?_nil, List.set_cons_zero, List.set_cons_succ, List.cons_append, List.nil_append, -getElem?_pos, -getElem?_neg]
  have hr : ∀ k q, ren (nthD (enIs k q)) (.slice A l.length cap) = .slice A l.length cap := by
    intro k q
    rcases hA with ⟨_, rfl | ⟨sp, rfl⟩⟩ | rfl <;> simp [ren, renA, enIs_0]
  refine loop3 hmix 24 (fun i => i ≤ l.length) (fun i => l.length - i) (rfT (.slice A l.length cap) l) (fun i => .row (rowOf l) :: enH (l.take i)) 0 (Nat.zero_le _) (enHead (k := 1) (by simp) rfl (by simp) rfl ?_) ?_
  · simp only [rfT, List.mem_cons, List.not_mem_nil, or_false]
    rintro y (rfl | rfl | rfl | rfl)
    · exact ⟨(by simp [GB, enV, ren]), rfl⟩
    · exact ⟨by simp [hr, GB], rowOne_scp hA _⟩
    · exact ⟨(by simp [GB, ren]), rfl⟩
    · exact ⟨(by simp [GB, ren]), rfl⟩
  intro i hi
  by_cases hlt : i < l.length
  case neg =>
    have hlt' : ¬ (i : Int) < l.length := by omega
    have e : l.take i = l := List.take_of_length_le (by omega)
    simp (maxSteps := 2000000) (implicitDefEqProofs := false) [DN, NB, begT, atHead, kd, wantedA, evP, evR, evF, evL, evC, evBin, evUn, evEq, evSt, evRes, plain, scp, scpA, scpL, rdRow, rdCells, veq, veqA, veqL, isHole, Value.cells, evalL, optI, evBounds, evFill, evFillR, evApp, newsOf, wrCells, one1, fitsApp, evClr, undef, onB_bool, List.getElem?_concat_length, List.getElem?_cons_zero, List.getElem?_cons_succ, List.getElem?_toArray, List.getElem?_nil, List.set_cons_zero, List.set_cons_succ, List.cons_append, List.nil_append, -getElem?_pos, -getElem?_neg, rfT, hlt', e]
  have hlt' : (i : Int) < l.length := by omega
  have hi0 : (0 : Int) ≤ i := by omega
  obtain ⟨x, hx⟩ : ∃ x, l[i]? = some x := ⟨_, List.getElem?_eq_getElem hlt⟩
  have hrd := rowOf_at hx
  have hfitr : i * 3 + 3 ≤ (rowOf l).length := by rw [rowOf_length]; omega
  have hwr : IntKind.i64.wrap ((i : Int) + 1) = (i : Int) + 1 := IntWalk.i64_in _ (by omega)
  have hA' : A = some ⟨0, 0, none⟩ := by
    rcases hA with ⟨h, _⟩ | h
    · omega
    · exact h
  subst hA'
  have htk : l.take (i + 1) = l.take i ++ [x] := by rw [List.take_add_one, hx]; rfl
  have htl : (l.take i).length = i := by rw [List.length_take]; omega
  have fin : ∀ (k : Nat) (t' : T) (h' : AH), k ≠ 0 → h'[0]? = some (.row (rowOf l)) → h'[k]? = some (.cells (rowOf (l.take (i + 1))) 126 (some 3)) → t'.length = 24 → getT t' 3 = some (enV k (l.take (i + 1))) → getT t' 6 = some (.slice (some ⟨0, 0, none⟩) l.length cap) → getT t' 7 = some (.int .i64 l.length) → getT t' 8 = some (.int .i64 ((i : Int) + 1)) →
      nextS 1 24 (fun i => i ≤ l.length) (fun i => l.length - i) (rfT (.slice (some ⟨0, 0, none⟩) l.length cap) l) (fun i => .row (rowOf l) :: enH (l.take i)) i t' h' := by
    intro k t' h' ek e1 e2 e3 e4 e5 e6 e7
    refine nextS.intro (i + 1) (by omega) (by omega) (enHead ek e1 (fun _ => e2) e3 ?_)
    simp only [rfT, List.mem_cons, List.not_mem_nil, or_false]
    rintro y (rfl | rfl | rfl | rfl)
    · exact ⟨by rw [e4, enV_ren], enV_scp l _⟩
    · exact ⟨by rw [hr]; exact e5, by simp [Abs.scp, live]⟩
    · exact ⟨by rw [e6]; simp [ren], rfl⟩
    · exact ⟨by rw [e7]; simp [ren], rfl⟩
  obtain ⟨q, hq⟩ : ∃ q, l.take i = q := ⟨_, rfl⟩
  rw [hq] at htl
  have hen1 : enV 1 (l.take i) = enV 1 q := by rw [hq]
  by_cases hq0 : q = []
  · subst hq0
    have e0 : i = 0 := by simpa using htl.symm
    have ev : enV 1 ([] : List En) = .slice none 0 0 := rfl
    have eh : enH ([] : List En) = [] := rfl
    simp (maxSteps := 2000000) (implicitDefEqProofs := false) [DN, NB, begT, atHead, kd, wantedA, evP, evR, evF, evL, evC, evBin, evUn, evEq, evSt, evRes, plain, scp, scpA, scpL, rdRow, rdCells, veq, veqA, veqL, isHole, Value.cells, evalL, optI, evBounds, evFill, evFillR, evApp, newsOf, wrCells, one1, fitsApp, evClr, undef, onB_bool, List.getElem?_concat_length, List.getElem?_cons_zero, List.getElem?_cons_succ, List.getElem?_toArray, List.getElem?_nil, List.set_cons_zero, List.set_cons_succ, List.cons_append, List.nil_append, -getElem?_pos, -getElem?_neg, rfT, hq, ev, eh, hlt', hi0, hrd, hfitr, set_concat, splice_many, hwr]
    refine fin 3 _ _ (by simp) rfl ?_ rfl ?_ (by simp [GB]) (by simp [GB]) (by simp [GB])
    · rw [htk, hq]; simp [rowOf]
    · rw [htk, hq]; simp [enV, GB]
  · have hqi : i ≠ 0 := by
      rintro rfl
      exact hq0 (List.eq_nil_of_length_eq_zero htl)
    have ev : enV 1 q = .slice (some ⟨1, 0, none⟩) i (OPEN + i) := by simp [enV, hq0, htl]
    have eh : enH q = [.cells (rowOf q) 126 (some 3)] := by simp [enH, hq0]
    have hql : (rowOf q).length = i * 3 := by rw [rowOf_length, htl]
    have hq1 : i ≤ 4294967295 := by omega
    have hq2 : (i + 1) * 24 ≤ 140737488355328 := by omega
    have hc1 : ¬ OPEN + i < OPEN := by omega
    have hc2 : OPEN + i - OPEN = i := by omega
    have hdt' : (rowOf q).take (i * 3) = rowOf q := List.take_of_length_le (by omega)
    simp (maxSteps := 2000000) (implicitDefEqProofs := false) [DN, NB, begT, atHead, kd, wantedA, evP, evR, evF, evL, evC, evBin, evUn, evEq, evSt, evRes, plain, scp, scpA, scpL, rdRow, rdCells, veq, veqA, veqL, isHole, Value.cells, evalL, optI, evBounds, evFill, evFillR, evApp, newsOf, wrCells, one1, fitsApp, evClr, undef, onB_bool, List.getElem?_concat_length, List.getElem?_cons_zero, List.getElem?_cons_succ, List.getElem?_toArray, List.getElem?_nil, List.set_cons_zero, List.set_cons_succ, List.cons_append, List.nil_append, -getElem?_pos, -getElem?_neg, rfT, hq, ev, eh, hlt', hi0, hrd, hfitr, set_concat, splice_many, hwr, capLow_open, hq1, hq2, hc1, hc2, hql, hdt']
    refine fin 4 _ _ (by simp) rfl ?_ rfl ?_ (by simp [GB]) (by simp [GB]) (by simp [GB])
    · rw [htk, hq, rowOf_snoc]; simp
    · rw [htk, hq]; simp [enV, htl, GB]

theorem ref12G {l : List En} {A : Option Addr} {cap : Nat} {H : AH} (hl : l.length ≤ 1000) (hA : RowAt H A l.length (rowOf l)) {K : Value → AH → Prop} (hK : K (enV H.length l) (H ++ enH l)) : AC Try.prog 36 [.slice A l.length cap] H K := by
  refine AC.rowGE (pre := []) (rest := []) (fun v E => v = enV 1 l ∧ E = enH l) (rowOf_plain l) (by simp) (by simp) (fun A' hA' => (ref12_ l A' cap hl hA').mono ?_) hA ?_
  · rintro v h' ⟨rfl, rfl⟩
    refine ⟨_, rfl, enH_ok _, ?_, rfl, rfl⟩
    unfold enV enH
    split <;> simp [Abs.scp]
  · rintro v E ⟨rfl, rfl⟩
    have : ren (fun j => H.length + (j - 1)) (enV 1 l) = enV H.length l := by
      unfold enV
      split <;> simp [ren, renA]
    rw [this]
    exact hK

/-- The document's entries, as an argument. -/
theorem enV_row (l : List En) {H : AH} {n : Nat} (hH : l ≠ [] → H[n]? = some (.cells (rowOf l) 126 (some 3))) : ∃ A cap, enV n l = .slice A l.length cap ∧ CapOk l.length cap ∧ RowAt H A l.length (rowOf l) := by
  by_cases h : l = []
  · subst h
    exact ⟨none, 0, rfl, .inl rfl, .inl ⟨rfl, rfl, rfl⟩⟩
  · refine ⟨some ⟨n, 0, none⟩, OPEN + l.length, by simp [enV, h], .inr ⟨_, rfl, Nat.le_refl _⟩, .inr ⟨n, 0, none, rfl, .inr ⟨rfl, rowOf l, by simp [rdRow, hH h], fun i v hv => by simpa using hv⟩⟩⟩

set_option maxHeartbeats 4000000 in
theorem checks_ (n : Int) (l : List En) (A : Option Addr) (cap : Nat) (hcl : l.length ≤ cap) (hcap : cap < OPEN) (hA : (l = [] ∧ cap = 0 ∧ A = none) ∨ (∃ d, l = [] ∧ A = some ⟨0, 0, some d⟩) ∨ A = some ⟨0, 0, none⟩) :
    AC Try.prog 16 [.int .i64 n, .slice A l.length cap] [.row (rowOf l)] (fun v _ => v = .bool true) := by
  by_cases c1 : 80 < (l.length : Int)
  · refine entry hmix cf16 ?_
    simp (maxSteps := 2000000) (implicitDefEqProofs := false) [DN, NB, begT, atHead, kd, wantedA, evP, evR, evF, evL, evC, evBin, evUn, evEq, evSt, evRes, plain, scp, scpA, scpL, rdRow, rdCells, veq, veqA, veqL, isHole, Value.cells, evalL, optI, evBounds, evFill, evFillR, evApp, newsOf, wrCells, one1, fitsApp, evClr, undef, onB_bool, List.getElem?_concat_length, List.getElem?_cons_zero, List.getElem?_cons_succ, List.getElem?_toArray, List.getElem?_nil, List.set_cons_zero, List.set_cons_succ, List.cons_append, List.nil_append, -getElem?_pos, -getElem?_neg, c1]
    refine awakeK _ _ fun h' => ?_
    simp (maxSteps := 2000000) (implicitDefEqProofs := false) [DN, NB, begT, atHead, kd, wantedA, evP, evR, evF, evL, evC, evBin, evUn, evEq, evSt, evRes, plain, scp, scpA, scpL, rdRow, rdCells, veq, veqA, veqL, isHole, Value.cells, evalL, optI, evBounds, evFill, evFillR, evApp, newsOf, wrCells, one1, fitsApp, evClr, undef, onB_bool, List.getElem?_concat_length, List.getElem?_cons_zero, List.getElem?_cons_succ, List.getElem?_toArray, List.getElem?_nil, List.set_cons_zero, List.set_cons_succ, List.cons_append, List.nil_append, -getElem?_pos, -getElem?_neg]
  have hA1 : RowOne l.length A := by
    rcases hA with ⟨rfl, _, rfl⟩ | ⟨d, rfl, rfl⟩ | h
    · exact .inl ⟨rfl, .inl rfl⟩
    · exact .inl ⟨rfl, .inr ⟨_, rfl⟩⟩
    · exact .inr h
  have hA2 : l.length = 0 ∨ A = some ⟨0, 0, none⟩ := by
    rcases hA1 with ⟨h, _⟩ | h
    · exact .inl h
    · exact .inr h
  refine entry hmix cf16 ?_
  simp (maxSteps := 2000000) (implicitDefEqProofs := false) [DN, NB, begT, atHead, kd, wantedA, evP, evR, evF, evL, evC, evBin, evUn, evEq, evSt, evRes, plain, scp, scpA, scpL, rdRow, rdCells, veq, veqA, veqL, isHole, Value.cells, evalL, optI, evBounds, evFill, evFillR, evApp, newsOf, wrCells, one1, fitsApp, evClr, undef, onB_bool, List.getElem?_concat_length, List.getElem?_cons_zero, List.getElem?_cons_succ, List.getElem?_toArray, List.getElem?_nil, List.set_cons_zero, List.set_cons_succ, List.cons_append, List.nil_append, -getElem?_pos, -getElem?_neg, c1]
  refine (checkX_ n l A l.length cap (Nat.le_refl _) (by omega) hA2).mono ?_
  rintro _ _ ⟨rfl, rfl⟩
  rw [List.take_length]
  simp (maxSteps := 2000000) (implicitDefEqProofs := false) [DN, NB, begT, atHead, kd, wantedA, evP, evR, evF, evL, evC, evBin, evUn, evEq, evSt, evRes, plain, scp, scpA, scpL, rdRow, rdCells, veq, veqA, veqL, isHole, Value.cells, evalL, optI, evBounds, evFill, evFillR, evApp, newsOf, wrCells, one1, fitsApp, evClr, undef, onB_bool, List.getElem?_concat_length, List.getElem?_cons_zero, List.getElem?_cons_succ, List.getElem?_toArray, List.getElem?_nil, List.set_cons_zero, List.set_cons_succ, List.cons_append, List.nil_append, -getElem?_pos, -getElem?_neg]
  refine ref12G (by omega) (rowAt_self hA1) ?_
  obtain ⟨A', cap', e1, e2, e3⟩ := enV_row l (H := [.row (rowOf l)] ++ enH l) (n := 1) (fun h => by simp [enH, h])
  simp only [List.length_singleton]
  rw [e1]
  simp (maxSteps := 2000000) (implicitDefEqProofs := false) [DN, NB, begT, atHead, kd, wantedA, evP, evR, evF, evL, evC, evBin, evUn, evEq, evSt, evRes, plain, scp, scpA, scpL, rdRow, rdCells, veq, veqA, veqL, isHole, Value.cells, evalL, optI, evBounds, evFill, evFillR, evApp, newsOf, wrCells, one1, fitsApp, evClr, undef, onB_bool, List.getElem?_concat_length, List.getElem?_cons_zero, List.getElem?_cons_succ, List.getElem?_toArray, List.getElem?_nil, List.set_cons_zero, List.set_cons_succ, List.cons_append, List.nil_append, -getElem?_pos, -getElem?_neg]
  refine check13G (by omega) e2 e3 ?_
  obtain ⟨c, hc⟩ : ∃ c, countN n l = c := ⟨_, rfl⟩
  have hall : allN n l = decide (c = l.length ∧ 1 ≤ n ∧ n ≤ 64) := by
    unfold allN
    rw [decide_eq_decide]
    rw [← hc]
    unfold countN
    by_cases h : 1 ≤ n ∧ n ≤ 64
    · rw [if_pos h]; exact ⟨fun h2 => ⟨h2.2.2, h⟩, fun h2 => ⟨h.1, h.2, h2.1⟩⟩
    · rw [if_neg h]
      constructor
      · intro h2; exact absurd ⟨h2.1, h2.2.1⟩ h
      · intro h2; exact absurd h2.2 h
  rw [hc, hall]
  by_cases d1 : c = l.length
  case neg =>
    have b1 : ((c : Int) == l.length) = false := by simp; omega
    have b2 : decide (c = l.length ∧ 1 ≤ n ∧ n ≤ 64) = false := by simp [d1]
    rw [b2]
    simp (maxSteps := 2000000) (implicitDefEqProofs := false) [DN, NB, begT, atHead, kd, wantedA, evP, evR, evF, evL, evC, evBin, evUn, evEq, evSt, evRes, plain, scp, scpA, scpL, rdRow, rdCells, veq, veqA, veqL, isHole, Value.cells, evalL, optI, evBounds, evFill, evFillR, evApp, newsOf, wrCells, one1, fitsApp, evClr, undef, onB_bool, List.getElem?_concat_length, List.getElem?_cons_zero, List.getElem?_cons_succ, List.getElem?_toArray, List.getElem?_nil, List.set_cons_zero, List.set_cons_succ, List.cons_append, List.nil_append, -getElem?_pos, -getElem?_neg, b1]
    refine awakeK _ _ fun h' => ?_
    simp (maxSteps := 2000000) (implicitDefEqProofs := false) [DN, NB, begT, atHead, kd, wantedA, evP, evR, evF, evL, evC, evBin, evUn, evEq, evSt, evRes, plain, scp, scpA, scpL, rdRow, rdCells, veq, veqA, veqL, isHole, Value.cells, evalL, optI, evBounds, evFill, evFillR, evApp, newsOf, wrCells, one1, fitsApp, evClr, undef, onB_bool, List.getElem?_concat_length, List.getElem?_cons_zero, List.getElem?_cons_succ, List.getElem?_toArray, List.getElem?_nil, List.set_cons_zero, List.set_cons_succ, List.cons_append, List.nil_append, -getElem?_pos, -getElem?_neg]
  have b1 : ((c : Int) == l.length) = true := by simp; omega
  by_cases d2 : 1 ≤ n
  case neg =>
    have b2 : decide (c = l.length ∧ 1 ≤ n ∧ n ≤ 64) = false := by simp [d2]
    rw [b2]
    simp (maxSteps := 2000000) (implicitDefEqProofs := false) [DN, NB, begT, atHead, kd, wantedA, evP, evR, evF, evL, evC, evBin, evUn, evEq, evSt, evRes, plain, scp, scpA, scpL, rdRow, rdCells, veq, veqA, veqL, isHole, Value.cells, evalL, optI, evBounds, evFill, evFillR, evApp, newsOf, wrCells, one1, fitsApp, evClr, undef, onB_bool, List.getElem?_concat_length, List.getElem?_cons_zero, List.getElem?_cons_succ, List.getElem?_toArray, List.getElem?_nil, List.set_cons_zero, List.set_cons_succ, List.cons_append, List.nil_append, -getElem?_pos, -getElem?_neg, b1, d2]
    refine awakeK _ _ fun h' => ?_
    simp (maxSteps := 2000000) (implicitDefEqProofs := false) [DN, NB, begT, atHead, kd, wantedA, evP, evR, evF, evL, evC, evBin, evUn, evEq, evSt, evRes, plain, scp, scpA, scpL, rdRow, rdCells, veq, veqA, veqL, isHole, Value.cells, evalL, optI, evBounds, evFill, evFillR, evApp, newsOf, wrCells, one1, fitsApp, evClr, undef, onB_bool, List.getElem?_concat_length, List.getElem?_cons_zero, List.getElem?_cons_succ, List.getElem?_toArray, List.getElem?_nil, List.set_cons_zero, List.set_cons_succ, List.cons_append, List.nil_append, -getElem?_pos, -getElem?_neg]
  by_cases d3 : n ≤ 64
  case neg =>
    have b2 : decide (c = l.length ∧ 1 ≤ n ∧ n ≤ 64) = false := by simp [d3]
    rw [b2]
    simp (maxSteps := 2000000) (implicitDefEqProofs := false) [DN, NB, begT, atHead, kd, wantedA, evP, evR, evF, evL, evC, evBin, evUn, evEq, evSt, evRes, plain, scp, scpA, scpL, rdRow, rdCells, veq, veqA, veqL, isHole, Value.cells, evalL, optI, evBounds, evFill, evFillR, evApp, newsOf, wrCells, one1, fitsApp, evClr, undef, onB_bool, List.getElem?_concat_length, List.getElem?_cons_zero, List.getElem?_cons_succ, List.getElem?_toArray, List.getElem?_nil, List.set_cons_zero, List.set_cons_succ, List.cons_append, List.nil_append, -getElem?_pos, -getElem?_neg, b1, d2, d3]
    refine awakeK _ _ fun h' => ?_
    simp (maxSteps := 2000000) (implicitDefEqProofs := false) [DN, NB, begT, atHead, kd, wantedA, evP, evR, evF, evL, evC, evBin, evUn, evEq, evSt, evRes, plain, scp, scpA, scpL, rdRow, rdCells, veq, veqA, veqL, isHole, Value.cells, evalL, optI, evBounds, evFill, evFillR, evApp, newsOf, wrCells, one1, fitsApp, evClr, undef, onB_bool, List.getElem?_concat_length, List.getElem?_cons_zero, List.getElem?_cons_succ, List.getElem?_toArray, List.getElem?_nil, List.set_cons_zero, List.set_cons_succ, List.cons_append, List.nil_append, -getElem?_pos, -getElem?_neg]
  have b2 : decide (c = l.length ∧ 1 ≤ n ∧ n ≤ 64) = true := by simp [d1, d2, d3]
  rw [b2]
  simp (maxSteps := 2000000) (implicitDefEqProofs := false) [DN, NB, begT, atHead, kd, wantedA, evP, evR, evF, evL, evC, evBin, evUn, evEq, evSt, evRes, plain, scp, scpA, scpL, rdRow, rdCells, veq, veqA, veqL, isHole, Value.cells, evalL, optI, evBounds, evFill, evFillR, evApp, newsOf, wrCells, one1, fitsApp, evClr, undef, onB_bool, List.getElem?_concat_length, List.getElem?_cons_zero, List.getElem?_cons_succ, List.getElem?_toArray, List.getElem?_nil, List.set_cons_zero, List.set_cons_succ, List.cons_append, List.nil_append, -getElem?_pos, -getElem?_neg, b1, d2, d3]
  refine awakeK _ _ fun h' => ?_
  simp (maxSteps := 2000000) (implicitDefEqProofs := false) [DN, NB, begT, atHead, kd, wantedA, evP, evR, evF, evL, evC, evBin, evUn, evEq, evSt, evRes, plain, scp, scpA, scpL, rdRow, rdCells, veq, veqA, veqL, isHole, Value.cells, evalL, optI, evBounds, evFill, evFillR, evApp, newsOf, wrCells, one1, fitsApp, evClr, undef, onB_bool, List.getElem?_concat_length, List.getElem?_cons_zero, List.getElem?_cons_succ, List.getElem?_toArray, List.getElem?_nil, List.set_cons_zero, List.set_cons_succ, List.cons_append, List.nil_append, -getElem?_pos, -getElem?_neg]

end Fx
end Go.Proofs.Ytekhadlpcdjlpaa
