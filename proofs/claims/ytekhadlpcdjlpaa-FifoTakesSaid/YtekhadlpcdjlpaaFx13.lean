/- fifo: the document's answer, walked: Last, State, Owner. -/
import Derived.Test.YtekhadlpcdjlpaaFx12
import Derived.Test.YtekhadlpcdjlpaaFx10
import Derived.Test.YtekhadlpcdjlpaaAbs27
namespace Go.Proofs.Ytekhadlpcdjlpaa
namespace Fx
open Go Abs Code
set_option linter.unusedVariables false
set_option linter.unusedSimpArgs false
set_option maxRecDepth 100000

theorem rowOne_scp {l : List En} {n cap : Nat} {A : Option Addr} (hA : RowOne n A) (tl : AH) : Abs.scp (live (.row (rowOf l) :: tl)) (.slice A n cap) = true := by
  rcases hA with ⟨_, rfl | ⟨sp, rfl⟩⟩ | rfl <;> simp [Abs.scp, live]

theorem rowHead {n nt : Nat} {l : List En} {tv : List (Nat × Value)} {t' : T} {h' : AH} (h0 : h'[0]? = some (.row (rowOf l))) (e1 : t'.length = nt) (e2 : ∀ y ∈ tv, getT t' y.1 = some y.2 ∧ Abs.scp (live [.row (rowOf l)]) y.2 = true) : atHeadV 1 nt tv [.row (rowOf l)] t' h' := by
  refine headId (fun b k hb => ?_) (aok1 l) (fun b hb => ?_) (by simp) e1 e2
  · match b with
    | 0 => injection hb with hb; subst hb; exact h0
    | m + 1 => simp at hb
  · obtain rfl : b = 0 := by omega
    rfl
where aok1 (l : List En) : AOK [.row (rowOf l)] := AOK.of ⟨scp_noNames (rowOf_noNames l) _, trivial⟩

def lsT (sv : Value) (l : List En) (t : Int) (i : Nat) : List (Nat × Value) := [(1, .int .i64 t), (5, .int .i64 (lastL (l.take i) t)), (8, sv), (9, .int .i64 l.length), (10, .int .i64 i)]

theorem lastL_take {l : List En} {i : Nat} {x : En} (hx : l[i]? = some x) (t : Int) : lastL (l.take (i + 1)) t = if x.t = t then x.k else lastL (l.take i) t := by
  rw [List.take_add_one, hx]
  exact lastL_snoc _ _ _

set_option maxHeartbeats 2000000 in
theorem last_ (l : List En) (A : Option Addr) (cap : Nat) (hl : l.length ≤ 1000) (hA : RowOne l.length A) (t : Int) : AC Try.prog 106 [.slice A l.length cap, .int .i64 t] [.row (rowOf l)] (fun v h' => v = .int .i64 (lastL l t) ∧ h' = [.row (rowOf l)]) := by
  refine entry hmix cf106 ?_
  simp (maxSteps := 2000000) (implicitDefEqProofs := false) [DN, NB, begT, atHead, kd, wantedA, evP, evR, evF, evL, evC, evBin, evUn, evEq, evSt, evRes, plain, scp, scpA, scpL, rdRow, rdCells, veq, veqA, veqL, isHole, Value.cells, evalL, optI, evBounds, evFill, evFillR, evApp, newsOf, wrCells, one1, fitsApp, evClr, undef, onB_bool, List.getElem?_concat_length, List.getElem?_cons_zero, List.getElem?_cons_succ, List.getElem?_toArray, List.getElem?_nil, List.set_cons_zero, List.set_cons_succ, List.cons_append, List.nil_append, -getElem?_pos, -getElem?_neg]
  refine loop3 hmix 22 (fun i => i ≤ l.length) (fun i => l.length - i) (lsT (.slice A l.length cap) l t) (fun _ => [.row (rowOf l)]) 0 (Nat.zero_le _) (rowHead (n := 0) rfl rfl ?_) ?_
  · simp only [lsT, List.mem_cons, List.not_mem_nil, or_false]
    rintro y (rfl | rfl | rfl | rfl | rfl)
    case inr.inr.inl => exact ⟨(by simp [GB]), rowOne_scp hA []⟩
    all_goals simp [GB, lastL, scp]
  intro i hi
  by_cases hlt : i < l.length
  case neg =>
    obtain rfl : i = l.length := by omega
    have hlt' : ¬ (l.length : Int) < l.length := by omega
    have htk : l.take l.length = l := List.take_length
    simp (maxSteps := 2000000) (implicitDefEqProofs := false) [DN, NB, begT, atHead, kd, wantedA, evP, evR, evF, evL, evC, evBin, evUn, evEq, evSt, evRes, plain, scp, scpA, scpL, rdRow, rdCells, veq, veqA, veqL, isHole, Value.cells, evalL, optI, evBounds, evFill, evFillR, evApp, newsOf, wrCells, one1, fitsApp, evClr, undef, onB_bool, List.getElem?_concat_length, List.getElem?_cons_zero, List.getElem?_cons_succ, List.getElem?_toArray, List.getElem?_nil, List.set_cons_zero, List.set_cons_succ, List.cons_append, List.nil_append, -getElem?_pos, -getElem?_neg, lsT, htk]
  have hlt' : (i : Int) < l.length := by omega
  have hi0 : (0 : Int) ≤ i := by omega
  obtain ⟨x, hx⟩ : ∃ x, l[i]? = some x := ⟨_, List.getElem?_eq_getElem hlt⟩
  have hrd := rowOf_at hx
  have hfitr : i * 3 + 3 ≤ (rowOf l).length := by rw [rowOf_length]; omega
  have hwr : IntKind.i64.wrap ((i : Int) + 1) = ((i + 1 : Nat) : Int) := by rw [IntWalk.i64_in _ (by omega)]; omega
  have hA' : A = some ⟨0, 0, none⟩ := by
    rcases hA with ⟨h, _⟩ | h
    · omega
    · exact h
  subst hA'
  have hlt2 := lastL_take hx t
  have fin : ∀ t', t'.length = 22 → getT t' 1 = some (.int .i64 t) → getT t' 5 = some (.int .i64 (lastL (l.take (i + 1)) t)) → getT t' 8 = some (.slice (some ⟨0, 0, none⟩) l.length cap) → getT t' 9 = some (.int .i64 l.length) → getT t' 10 = some (.int .i64 ((i + 1 : Nat) : Int)) → ∀ tl, nextS 1 22 (fun i => i ≤ l.length) (fun i => l.length - i) (lsT (.slice (some ⟨0, 0, none⟩) l.length cap) l t) (fun _ => [.row (rowOf l)]) i t' (.row (rowOf l) :: tl) := by
    intro t' e1 e2 e3 e4 e5 e6 tl
    refine nextS.intro (i + 1) (by omega) (by omega) (rowHead (n := 0) rfl e1 ?_)
    simp only [lsT, List.mem_cons, List.not_mem_nil, or_false]
    rintro y (rfl | rfl | rfl | rfl | rfl)
    · exact ⟨e2, rfl⟩
    · exact ⟨e3, rfl⟩
    · exact ⟨e4, rfl⟩
    · exact ⟨e5, rfl⟩
    · exact ⟨e6, rfl⟩
  by_cases hxt : x.t = t
  · have hb : (x.t == t) = true := by simp [hxt]
    rw [if_pos hxt] at hlt2
    simp (maxSteps := 2000000) (implicitDefEqProofs := false) [DN, NB, begT, atHead, kd, wantedA, evP, evR, evF, evL, evC, evBin, evUn, evEq, evSt, evRes, plain, scp, scpA, scpL, rdRow, rdCells, veq, veqA, veqL, isHole, Value.cells, evalL, optI, evBounds, evFill, evFillR, evApp, newsOf, wrCells, one1, fitsApp, evClr, undef, onB_bool, List.getElem?_concat_length, List.getElem?_cons_zero, List.getElem?_cons_succ, List.getElem?_toArray, List.getElem?_nil, List.set_cons_zero, List.set_cons_succ, List.cons_append, List.nil_append, -getElem?_pos, -getElem?_neg, lsT, hlt', hi0, hrd, hfitr, set_concat, splice_many, hb, hwr]
    exact fin _ rfl (by simp [GB]) (by simp [GB, hlt2]) (by simp [GB]) (by simp [GB]) (by simp [GB]) _
  · have hb : (x.t == t) = false := by simp [hxt]
    rw [if_neg hxt] at hlt2
    simp (maxSteps := 2000000) (implicitDefEqProofs := false) [DN, NB, begT, atHead, kd, wantedA, evP, evR, evF, evL, evC, evBin, evUn, evEq, evSt, evRes, plain, scp, scpA, scpL, rdRow, rdCells, veq, veqA, veqL, isHole, Value.cells, evalL, optI, evBounds, evFill, evFillR, evApp, newsOf, wrCells, one1, fitsApp, evClr, undef, onB_bool, List.getElem?_concat_length, List.getElem?_cons_zero, List.getElem?_cons_succ, List.getElem?_toArray, List.getElem?_nil, List.set_cons_zero, List.set_cons_succ, List.cons_append, List.nil_append, -getElem?_pos, -getElem?_neg, lsT, hlt', hi0, hrd, hfitr, set_concat, splice_many, hb, hwr]
    exact fin _ rfl (by simp [GB]) (by simp [GB, hlt2]) (by simp [GB]) (by simp [GB]) (by simp [GB]) _

/-- Last, of a row that lies anywhere. -/
theorem lastG {l : List En} {A : Option Addr} {cap : Nat} {H : AH} (hl : l.length ≤ 1000) (hA : RowAt H A l.length (rowOf l)) (t : Int) {K : Value → AH → Prop} (hK : K (.int .i64 (lastL l t)) H) : AC Try.prog 106 [.slice A l.length cap, .int .i64 t] H K :=
  AC.rowG (pre := []) (rest := [.int .i64 t]) (rowOf_plain l) (by simp) (by simp [plain, scp]) rfl (fun A' hA' => last_ l A' cap hl hA' t) hA hK

theorem state13_ (l : List En) (A : Option Addr) (cap : Nat) (hl : l.length ≤ 1000) (hA : RowOne l.length A) (t : Int) : AC Try.prog 82 [.slice A l.length cap, .int .i64 t] [.row (rowOf l)] (fun v h' => v = .int .i64 (stateR l t) ∧ h' = [.row (rowOf l)]) := by
  refine entry hmix cf82 ?_
  simp (maxSteps := 2000000) (implicitDefEqProofs := false) [DN, NB, begT, atHead, kd, wantedA, evP, evR, evF, evL, evC, evBin, evUn, evEq, evSt, evRes, plain, scp, scpA, scpL, rdRow, rdCells, veq, veqA, veqL, isHole, Value.cells, evalL, optI, evBounds, evFill, evFillR, evApp, newsOf, wrCells, one1, fitsApp, evClr, undef, onB_bool, List.getElem?_concat_length, List.getElem?_cons_zero, List.getElem?_cons_succ, List.getElem?_toArray, List.getElem?_nil, List.set_cons_zero, List.set_cons_succ, List.cons_append, List.nil_append, -getElem?_pos, -getElem?_neg]
  refine (last_ l A cap hl hA t).mono ?_
  rintro _ _ ⟨rfl, rfl⟩
  unfold stateR
  generalize lastL l t = k
  simp (maxSteps := 2000000) (implicitDefEqProofs := false) [DN, NB, begT, atHead, kd, wantedA, evP, evR, evF, evL, evC, evBin, evUn, evEq, evSt, evRes, plain, scp, scpA, scpL, rdRow, rdCells, veq, veqA, veqL, isHole, Value.cells, evalL, optI, evBounds, evFill, evFillR, evApp, newsOf, wrCells, one1, fitsApp, evClr, undef, onB_bool, List.getElem?_concat_length, List.getElem?_cons_zero, List.getElem?_cons_succ, List.getElem?_toArray, List.getElem?_nil, List.set_cons_zero, List.set_cons_succ, List.cons_append, List.nil_append, -getElem?_pos, -getElem?_neg]
  unfold stK
  repeat' split
  all_goals simp_all

theorem state13G {l : List En} {A : Option Addr} {cap : Nat} {H : AH} (hl : l.length ≤ 1000) (hA : RowAt H A l.length (rowOf l)) (t : Int) {K : Value → AH → Prop} (hK : K (.int .i64 (stateR l t)) H) : AC Try.prog 82 [.slice A l.length cap, .int .i64 t] H K :=
  AC.rowG (pre := []) (rest := [.int .i64 t]) (rowOf_plain l) (by simp) (by simp [plain, scp]) rfl (fun A' hA' => state13_ l A' cap hl hA' t) hA hK

theorem ownerF_last (full : List En) (a : List En) (x : En) (b : List En) (hb : ∀ y ∈ b, ownS (stateR full y.t) = false) (hx : ownS (stateR full x.t) = true) : ownerF full (a ++ x :: b) = x.t := by
  unfold ownerF
  rw [List.foldl_append, List.foldl_cons, hx]
  have : ∀ (b : List En) (o : Int), (∀ y ∈ b, ownS (stateR full y.t) = false) → b.foldl (fun o x => if ownS (stateR full x.t) then x.t else o) o = o := by
    intro b
    induction b with
    | nil => intro o _; rfl
    | cons y b ih =>
      intro o h
      rw [List.foldl_cons, h y List.mem_cons_self]
      exact ih o fun z hz => h z (List.mem_cons_of_mem _ hz)
  exact this b _ hb

theorem rowOf_get1 {l : List En} {i : Nat} {x : En} (h : l[i]? = some x) : (rowOf l)[i * 3 + 1]? = some (.int .i64 x.t) := by
  have := rowOf_at h
  have h2 : (((rowOf l).drop (i * 3)).take 3)[1]? = some (.int .i64 x.t) := by rw [this]; rfl
  rw [List.getElem?_take, if_pos (by omega), List.getElem?_drop] at h2
  exact h2
theorem rowOf_get2 {l : List En} {i : Nat} {x : En} (h : l[i]? = some x) : (rowOf l)[i * 3 + 2]? = some (.int .i64 x.now) := by
  have := rowOf_at h
  have h2 : (((rowOf l).drop (i * 3)).take 3)[2]? = some (.int .i64 x.now) := by rw [this]; rfl
  rw [List.getElem?_take, if_pos (by omega), List.getElem?_drop] at h2
  exact h2

def owT (sv : Value) (j : Nat) : List (Nat × Value) := [(0, sv), (3, .int .i64 ((j : Int) - 1))]

theorem rowAt_self {l : List En} {A : Option Addr} {tl : AH} (hA : RowOne l.length A) : RowAt (.row (rowOf l) :: tl) A l.length (rowOf l) := by
  rcases hA with ⟨h, rfl | ⟨sp, rfl⟩⟩ | rfl
  · have : l = [] := List.eq_nil_of_length_eq_zero h
    subst this
    exact .inl ⟨rfl, rfl, rfl⟩
  · have : l = [] := List.eq_nil_of_length_eq_zero h
    subst this
    exact .inr ⟨0, 0, sp, rfl, .inl ⟨rfl, rfl⟩⟩
  · exact .inr ⟨0, 0, none, rfl, .inr ⟨rfl, rowOf l, rfl, fun i v hv => by simpa using hv⟩⟩

set_option maxHeartbeats 2000000 in
theorem owner13_ (l : List En) (A : Option Addr) (cap : Nat) (hl : l.length ≤ 1000) (hA : RowOne l.length A) : AC Try.prog 80 [.slice A l.length cap] [.row (rowOf l)] (fun v h' => v = .int .i64 (ownerR l) ∧ h' = [.row (rowOf l)]) := by
  have w0 : IntKind.i64.wrap ((l.length : Int) - 1) = (l.length : Int) - 1 := IntWalk.i64_in _ (by omega)
  refine entry hmix cf80 ?_
  simp (maxSteps := 2000000) (implicitDefEqProofs := false) [DN, NB, begT, atHead, kd, wantedA, evP, evR, evF, evL, evC, evBin, evUn, evEq, evSt, evRes, plain, scp, scpA, scpL, rdRow, rdCells, veq, veqA, veqL, isHole, Value.cells, evalL, optI, evBounds, evFill, evFillR, evApp, newsOf, wrCells, one1, fitsApp, evClr, undef, onB_bool, List.getElem?_concat_length, List.getElem?_cons_zero, List.getElem?_cons_succ, List.getElem?_toArray, List.getElem?_nil, List.set_cons_zero, List.set_cons_succ, List.cons_append, List.nil_append, -getElem?_pos, -getElem?_neg, w0]
  refine loop3 hmix 34 (fun j => j ≤ l.length ∧ ∀ y ∈ l.drop j, ownS (stateR l y.t) = false) (fun j => j) (owT (.slice A l.length cap)) (fun _ => [.row (rowOf l)]) l.length ⟨Nat.le_refl _, by simp⟩ (rowHead (n := 0) rfl rfl ?_) ?_
  · simp only [owT, List.mem_cons, List.not_mem_nil, or_false]
    rintro y (rfl | rfl)
    · exact ⟨(by simp [GB]), rowOne_scp hA []⟩
    · exact ⟨(by simp [GB]), rfl⟩
  rintro j ⟨hj, hno⟩
  cases j with
  | zero =>
    have e : ownerR l = -1 := by
      rcases ownerF_spec l l with ⟨h, _⟩ | ⟨x, hx, _, h⟩
      · exact h
      · rw [List.drop_zero] at hno
        rw [hno x hx] at h
        cases h
    simp (maxSteps := 2000000) (implicitDefEqProofs := false) [DN, NB, begT, atHead, kd, wantedA, evP, evR, evF, evL, evC, evBin, evUn, evEq, evSt, evRes, plain, scp, scpA, scpL, rdRow, rdCells, veq, veqA, veqL, isHole, Value.cells, evalL, optI, evBounds, evFill, evFillR, evApp, newsOf, wrCells, one1, fitsApp, evClr, undef, onB_bool, List.getElem?_concat_length, List.getElem?_cons_zero, List.getElem?_cons_succ, List.getElem?_toArray, List.getElem?_nil, List.set_cons_zero, List.set_cons_succ, List.cons_append, List.nil_append, -getElem?_pos, -getElem?_neg, owT, e]
  | succ i =>
    have hlt : i < l.length := by omega
    have hlt' : (i : Int) < l.length := by omega
    have hi0 : (0 : Int) ≤ i := by omega
    obtain ⟨x, hx⟩ : ∃ x, l[i]? = some x := ⟨_, List.getElem?_eq_getElem hlt⟩
    have hg1 := rowOf_get1 hx
    have hwr : IntKind.i64.wrap ((i : Int) - 1) = (i : Int) - 1 := IntWalk.i64_in _ (by omega)
    have ecast : ((i : Int) + 1 - 1) = i := by omega
    have hA' : A = some ⟨0, 0, none⟩ := by
      rcases hA with ⟨h, _⟩ | h
      · omega
      · exact h
    subst hA'
    simp (maxSteps := 2000000) (implicitDefEqProofs := false) [DN, NB, begT, atHead, kd, wantedA, evP, evR, evF, evL, evC, evBin, evUn, evEq, evSt, evRes, plain, scp, scpA, scpL, rdRow, rdCells, veq, veqA, veqL, isHole, Value.cells, evalL, optI, evBounds, evFill, evFillR, evApp, newsOf, wrCells, one1, fitsApp, evClr, undef, onB_bool, List.getElem?_concat_length, List.getElem?_cons_zero, List.getElem?_cons_succ, List.getElem?_toArray, List.getElem?_nil, List.set_cons_zero, List.set_cons_succ, List.cons_append, List.nil_append, -getElem?_pos, -getElem?_neg, owT, ecast, hi0, hlt', hg1]
    refine state13G hl (rowAt_self hA) x.t ?_
    have hdrop : l.drop i = x :: l.drop (i + 1) := by
      obtain ⟨h1, h2⟩ := List.getElem?_eq_some_iff.1 hx
      rw [List.drop_eq_getElem_cons h1, h2]
    obtain ⟨y, hy⟩ : ∃ y, stateR l x.t = y := ⟨_, rfl⟩
    rw [hy]
    by_cases ho : ownS y = true
    · have e : ownerR l = x.t := by
        have h2 := ownerF_last l (l.take i) x (l.drop (i + 1)) hno (by rw [hy]; exact ho)
        rwa [← hdrop, List.take_append_drop] at h2
      have ho' : y = 3 ∨ y = 4 ∨ y = 6 := by simpa [ownS] using ho
      rcases ho' with rfl | rfl | rfl <;> simp (maxSteps := 2000000) (implicitDefEqProofs := false) [DN, NB, begT, atHead, kd, wantedA, evP, evR, evF, evL, evC, evBin, evUn, evEq, evSt, evRes, plain, scp, scpA, scpL, rdRow, rdCells, veq, veqA, veqL, isHole, Value.cells, evalL, optI, evBounds, evFill, evFillR, evApp, newsOf, wrCells, one1, fitsApp, evClr, undef, onB_bool, List.getElem?_concat_length, List.getElem?_cons_zero, List.getElem?_cons_succ, List.getElem?_toArray, List.getElem?_nil, List.set_cons_zero, List.set_cons_succ, List.cons_append, List.nil_append, -getElem?_pos, -getElem?_neg, hi0, hlt', hg1, e]
    · have ho' : ¬ (y = 3 ∨ y = 4 ∨ y = 6) := by simpa [ownS] using ho
      have b3 : (y == 3) = false := by simp; omega
      have b4 : (y == 4) = false := by simp; omega
      have b6 : (y == 6) = false := by simp; omega
      simp (maxSteps := 2000000) (implicitDefEqProofs := false) [DN, NB, begT, atHead, kd, wantedA, evP, evR, evF, evL, evC, evBin, evUn, evEq, evSt, evRes, plain, scp, scpA, scpL, rdRow, rdCells, veq, veqA, veqL, isHole, Value.cells, evalL, optI, evBounds, evFill, evFillR, evApp, newsOf, wrCells, one1, fitsApp, evClr, undef, onB_bool, List.getElem?_concat_length, List.getElem?_cons_zero, List.getElem?_cons_succ, List.getElem?_toArray, List.getElem?_nil, List.set_cons_zero, List.set_cons_succ, List.cons_append, List.nil_append, -getElem?_pos, -getElem?_neg, b3, b4, b6, hwr]
      refine nextS.intro i (by omega) ⟨by omega, fun z hz => ?_⟩ (rowHead (n := 0) rfl rfl ?_)
      · rw [hdrop] at hz
        rcases List.mem_cons.1 hz with rfl | hz
        · rw [hy]; simpa using ho
        · exact hno z hz
      · simp only [owT, List.mem_cons, List.not_mem_nil, or_false]
        rintro y (rfl | rfl)
        · exact ⟨(by simp [GB]), rowOne_scp hA []⟩
        · exact ⟨(by simp [GB]), rfl⟩

theorem owner13G {l : List En} {A : Option Addr} {cap : Nat} {H : AH} (hl : l.length ≤ 1000) (hA : RowAt H A l.length (rowOf l)) {K : Value → AH → Prop} (hK : K (.int .i64 (ownerR l)) H) : AC Try.prog 80 [.slice A l.length cap] H K :=
  AC.rowG (pre := []) (rest := []) (rowOf_plain l) (by simp) (by simp) rfl (fun A' hA' => owner13_ l A' cap hl hA') hA hK

end Fx
end Go.Proofs.Ytekhadlpcdjlpaa
