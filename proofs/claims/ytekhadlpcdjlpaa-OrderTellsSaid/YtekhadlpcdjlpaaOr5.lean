/- order: turns. -/
import Derived.Test.YtekhadlpcdjlpaaOr4
namespace Go.Proofs.Ytekhadlpcdjlpaa
namespace Ox
open Go Abs Code
set_option linter.unusedVariables false
set_option linter.unusedSimpArgs false
set_option maxRecDepth 100000

def rowT : List Tn → List Value
  | [] => []
  | x :: l => .int .i64 x.t :: .int .i64 x.e :: .int .i64 x.g :: rowT l
theorem rowT_length (l : List Tn) : (rowT l).length = l.length * 3 := by
  induction l with
  | nil => rfl
  | cons x l ih => simp [rowT, ih]; omega
theorem rowT_plain (l : List Tn) : ∀ v ∈ rowT l, plain v = true := by
  induction l with
  | nil => intro v hv; cases hv
  | cons x l ih =>
    intro v hv
    simp [rowT] at hv
    rcases hv with rfl | rfl | rfl | hv
    · rfl
    · rfl
    · rfl
    · exact ih v hv
theorem rowT_app (l : List Tn) (x : Tn) : rowT (l ++ [x]) = rowT l ++ [.int .i64 x.t, .int .i64 x.e, .int .i64 x.g] := by
  induction l with
  | nil => rfl
  | cons y l ih => simp [rowT, ih]
theorem rowT_at {l : List Tn} {i : Nat} {x : Tn} (h : l[i]? = some x) : ((rowT l).drop (i * 3)).take 3 = [.int .i64 x.t, .int .i64 x.e, .int .i64 x.g] := by
  induction l generalizing i with
  | nil => simp at h
  | cons y l ih =>
    cases i with
    | zero => simp at h; subst h; simp [rowT]
    | succ i =>
      simp at h
      rw [show (i + 1) * 3 = i * 3 + 1 + 1 + 1 by omega]
      simp only [rowT, List.drop_succ_cons]
      exact ih h
theorem rowT_ren (σ : Nat → Nat) (l : List Tn) : (rowT l).map (ren σ) = rowT l := by
  conv => rhs; rw [← List.map_id (rowT l)]
  exact List.map_congr_left fun v hv => ren_plain _ _ (rowT_plain l v hv)

def tB (ts : List Tn) : ABlk := .cells (rowT ts) 147 (some 3)
theorem tB_noNames (ts : List Tn) : noNames (tB ts) := rowT_plain ts

/-- The turns as far as they are found. -/
def upTo (l : List En) (i : Nat) : List Tn := (List.range i).filterMap (turnAt l)
theorem upTo_s (l : List En) (i : Nat) : upTo l (i + 1) = upTo l i ++ (turnAt l i).toList := by
  unfold upTo
  rw [List.range_succ, List.filterMap_append]
  cases h : turnAt l i <;> simp [h]
theorem upTo_length (l : List En) (i : Nat) : (upTo l i).length ≤ i := by
  have := List.length_filterMap_le (turnAt l) (List.range i)
  simpa [upTo] using this

def tV (ts : List Tn) : Value := if ts = [] then .slice none 0 0 else .slice (some ⟨1, 0, none⟩) ts.length (OPEN + ts.length)
def tE (ts : List Tn) : AH := if ts = [] then [] else [tB ts]
def tT (sv : Value) (l : List En) (i : Nat) : List (Nat × Value) := [(0, sv), (3, tV (upTo l i)), (8, sv), (9, .int .i64 l.length), (10, .int .i64 i)]
def tH (l : List En) (i : Nat) : AH := .row (rowOf l) :: tE (upTo l i)

theorem tE_ok (l : List En) (ts : List Tn) : AOK (.row (rowOf l) :: tE ts) := by
  unfold tE
  split
  · exact aok1 l
  · exact AOK.of ⟨scp_noNames (rowOf_noNames l) _, scp_noNames (tB_noNames _) _, trivial⟩

/-- A turn's round is over: the turns lie at b. -/
theorem tHead {l : List En} {A : Option Addr} {cap : Nat} {i : Nat} (hA : RowOne l.length A) (b : Nat) (hb0 : b ≠ 0) {t' : T} {h' : AH} (e1 : t'.length = 63) (hr : h'[0]? = some (.row (rowOf l)))
    (e2 : getT t' 0 = some (.slice A l.length cap)) (e3 : getT t' 8 = some (.slice A l.length cap)) (e4 : getT t' 9 = some (.int .i64 l.length)) (e5 : getT t' 10 = some (.int .i64 i))
    (e6 : upTo l i = [] → getT t' 3 = some (.slice none 0 0)) (e7 : upTo l i ≠ [] → getT t' 3 = some (.slice (some ⟨b, 0, none⟩) (upTo l i).length (OPEN + (upTo l i).length)) ∧ h'[b]? = some (tB (upTo l i))) :
    atHeadV 1 63 (tT (.slice A l.length cap) l i) (tH l i) t' h' := by
  have hsl : ∀ E, scp (live (.row (rowOf l) :: E)) (.slice A l.length cap) = true := fun E => rowOne_scp hA E
  by_cases hn : upTo l i = []
  · have hh : tH l i = [.row (rowOf l)] := by unfold tH tE; rw [if_pos hn]
    rw [hh]
    refine rowHead hr e1 fun y hy => ?_
    simp only [tT, List.mem_cons, List.not_mem_nil, or_false] at hy
    rcases hy with rfl | rfl | rfl | rfl | rfl
    · exact ⟨e2, hsl _⟩
    · unfold tV; rw [if_pos hn]; exact ⟨e6 hn, rfl⟩
    · exact ⟨e3, hsl _⟩
    · exact ⟨e4, rfl⟩
    · exact ⟨e5, rfl⟩
  · obtain ⟨g1, g2⟩ := e7 hn
    have hh : tH l i = [.row (rowOf l), tB (upTo l i)] := by unfold tH tE; rw [if_neg hn]
    rw [hh]
    have hren : ren (nthD [0, b]) (.slice A l.length cap) = .slice A l.length cap := by
      rcases hA with ⟨_, rfl | ⟨sp, rfl⟩⟩ | rfl <;> simp [ren, renA, nthD, nth]
    refine headK [0, b] ⟨by simpa [renB_noNames (rowOf_noNames l)] using hr, ?_, trivial⟩ (by simp; exact fun h => hb0 h.symm) ?_ (fun c hc => ?_) (by simp) e1 fun y hy => ?_
    · rw [renB_noNames (tB_noNames _)]
      exact g2
    · have := tE_ok l (upTo l i)
      unfold tE at this
      rwa [if_neg hn] at this
    · obtain rfl : c = 0 := by omega
      exact ⟨by simp [nthD, nth], rfl⟩
    · simp only [tT, List.mem_cons, List.not_mem_nil, or_false] at hy
      rcases hy with rfl | rfl | rfl | rfl | rfl
      · exact ⟨by rw [hren]; exact e2, hsl _⟩
      · unfold tV
        rw [if_neg hn]
        exact ⟨by rw [g1]; simp [ren, renA, nthD, nth], by simp [scp, live, tB]⟩
      · exact ⟨by rw [hren]; exact e3, hsl _⟩
      · exact ⟨e4, rfl⟩
      · exact ⟨e5, rfl⟩

/-- Within a round: the turns, then the round's own entry. -/
def nT (sv : Value) (l : List En) (i b j : Nat) : List (Nat × Value) := [(0, sv), (3, tV (upTo l i)), (8, sv), (9, .int .i64 l.length), (10, .int .i64 i), (4, .int .i64 i), (5, .pointer (some ⟨b, 0, none⟩)), (6, .int .i64 j)]
def xB (x : En) : ABlk := .cells [.int .i64 2, .int .i64 x.t, .int .i64 x.now] 122 none

theorem capLow_open (n : Nat) : capLow (OPEN + n) = n := by
  unfold capLow
  rw [if_neg (by omega)]
  omega

theorem seek_drop {l : List En} {j : Nat} {y : En} (hy : l[j]? = some y) (t : Int) : seek t (l.drop j) j = if y.t = t ∧ (y.k = 2 ∨ y.k = 4 ∨ y.k = 3) then (if y.k = 3 then some j else none) else seek t (l.drop (j + 1)) (j + 1) := by
  have hj := (List.getElem?_eq_some_iff.1 hy).1
  have e : l.drop j = y :: l.drop (j + 1) := by
    rw [List.drop_eq_getElem_cons hj]
    congr 1
    have := (List.getElem?_eq_some_iff.1 hy).2
    exact this
  rw [e]
  rfl

theorem seek_end (t : Int) (l : List En) : seek t (l.drop l.length) l.length = none := by rw [List.drop_length]; rfl

/-- Within a round. -/
def nH (l : List En) (i : Nat) (x : En) : AH := .row (rowOf l) :: (tE (upTo l i) ++ [xB x])
theorem nH_ok (l : List En) (i : Nat) (x : En) : AOK (nH l i x) := by
  have hx : noNames (xB x) := by intro v hv; simp at hv; rcases hv with rfl | rfl | rfl <;> rfl
  unfold nH tE
  split
  · exact AOK.of ⟨scp_noNames (rowOf_noNames l) _, scp_noNames hx _, trivial⟩
  · exact AOK.of ⟨scp_noNames (rowOf_noNames l) _, scp_noNames (tB_noNames _) _, scp_noNames hx _, trivial⟩

def bOf (ts : List Tn) : Nat := if ts = [] then 1 else 2

theorem nHead {l : List En} {A : Option Addr} {cap : Nat} {i j : Nat} {x : En} (hA : RowOne l.length A) {t' : T} {tl : AH} (e1 : t'.length = 63) (e2 : ∀ y ∈ nT (.slice A l.length cap) l i (bOf (upTo l i)) j, getT t' y.1 = some y.2) :
    atHeadV 1 63 (nT (.slice A l.length cap) l i (bOf (upTo l i)) j) (nH l i x) t' (nH l i x ++ tl) := by
  refine headId (fun b k hb => ?_) (nH_ok l i x) (fun b hb => ?_) (by simp [nH]) e1 fun y hy => ⟨e2 y hy, ?_⟩
  · rw [List.getElem?_append_left (List.getElem?_eq_some_iff.1 hb).1]
    exact hb
  · obtain rfl : b = 0 := by omega
    rfl
  · simp only [nT, List.mem_cons, List.not_mem_nil, or_false] at hy
    rcases hy with rfl | rfl | rfl | rfl | rfl | rfl | rfl | rfl
    · exact rowOne_scp hA _
    · unfold tV nH tE; split <;> simp [scp, live, tB]
    · exact rowOne_scp hA _
    · rfl
    · rfl
    · rfl
    · unfold bOf nH tE; split <;> simp [scp, live, tB, xB]
    · rfl


set_option maxHeartbeats 16000000 in
theorem loop87 (l : List En) (A : Option Addr) (cap : Nat) (hl : l.length ≤ 1000) (hA : RowOne l.length A) (T0 : T) (h : AH) (Q : AExit → T → AH → Prop)
    (h0 : atHeadV 1 63 (tT (.slice A l.length cap) l 0) (tH l 0) T0 h)
    (hQ : Q (.exit 0) (mkT 63 ((11, .bool false) :: tT (.slice A l.length cap) l l.length)) (tH l l.length)) : ALoop Try.prog 1 lp87_0 T0 h Q := by
  refine loop3 hmix 63 (fun i => i ≤ l.length) (fun i => l.length - i) (tT (.slice A l.length cap) l) (tH l) 0 (Nat.zero_le _) h0 ?_
  intro i hi
  by_cases hlt : i < l.length
  case neg =>
    obtain rfl : i = l.length := by omega
    simp (maxSteps := 2000000) (implicitDefEqProofs := false) [DN, NB, begT, atHead, kd, wantedA, evP, evR, evF, evL, evC, evI, evBin, evUn, evEq, evSt, evRes, plain, scp, scpA, scpL, rdRow, rdCells, veq, veqA, veqL, isHole, Value.cells, evalL, optI, evBounds, evFill, evFillR, evApp, newsOf, wrCells, one1, fitsApp, evClr, undef, onB_bool, List.getElem?_concat_length, List.getElem?_cons_zero, List.getElem?_cons_succ, List.getElem?_toArray, List.getElem?_nil, List.set_cons_zero, List.set_cons_succ, List.cons_append, List.nil_append, -getElem?_pos, -getElem?_neg, tT] at hQ
    simp (maxSteps := 2000000) (implicitDefEqProofs := false) [DN, NB, begT, atHead, kd, wantedA, evP, evR, evF, evL, evC, evI, evBin, evUn, evEq, evSt, evRes, plain, scp, scpA, scpL, rdRow, rdCells, veq, veqA, veqL, isHole, Value.cells, evalL, optI, evBounds, evFill, evFillR, evApp, newsOf, wrCells, one1, fitsApp, evClr, undef, onB_bool, List.getElem?_concat_length, List.getElem?_cons_zero, List.getElem?_cons_succ, List.getElem?_toArray, List.getElem?_nil, List.set_cons_zero, List.set_cons_succ, List.cons_append, List.nil_append, -getElem?_pos, -getElem?_neg, tT, lp87_0]
    exact hQ
  have hlt' : (i : Int) < l.length := by omega
  have hi0 : (0 : Int) ≤ i := by omega
  obtain ⟨x, hx⟩ : ∃ x, l[i]? = some x := ⟨_, List.getElem?_eq_getElem hlt⟩
  have hrd := rowOf_at hx
  have hfitr : i * 3 + 3 ≤ (rowOf l).length := by rw [rowOf_length]; omega
  have hwr : IntKind.i64.wrap ((i : Int) + 1) = (i : Int) + 1 := IntWalk.i64_in _ (by omega)
  have hA' : A = some ⟨0, 0, none⟩ := by
    rcases hA with ⟨h, _⟩ | h
    · omega
    · exact h
  have hup := upTo_s l i
  have htl := upTo_length l i
  have hfin : ∀ (ts : List Tn), upTo l (i + 1) = ts → ∀ (b : Nat) t' h', b ≠ 0 → t'.length = 63 → h'[0]? = some (.row (rowOf l)) → getT t' 0 = some (.slice A l.length cap) → getT t' 8 = some (.slice A l.length cap) → getT t' 9 = some (.int .i64 l.length) → getT t' 10 = some (.int .i64 ((i : Int) + 1)) →
      (ts = [] → getT t' 3 = some (.slice none 0 0)) → (ts ≠ [] → getT t' 3 = some (.slice (some ⟨b, 0, none⟩) ts.length (OPEN + ts.length)) ∧ h'[b]? = some (tB ts)) → nextS 1 63 (fun i => i ≤ l.length) (fun i => l.length - i) (tT (.slice A l.length cap) l) (tH l) i t' h' := by
    rintro ts rfl b t' h' hb e1 hr e2 e3 e4 e5 e6 e7
    exact nextS.intro (i + 1) (by omega) (by omega) (tHead hA b hb e1 hr e2 e3 e4 (by rw [e5]; rfl) e6 e7)
  by_cases hk : x.k = 2
  case neg =>
    have hb2 : (x.k == 2) = false := by simp [hk]
    have hno : turnAt l i = none := by unfold turnAt; rw [hx]; simp [hk]
    rw [hno, Option.toList_none, List.append_nil] at hup
    have hf := hfin _ hup
    subst hA'
    by_cases hn : upTo l i = []
    · rw [hn] at hf
      simp (maxSteps := 2000000) (implicitDefEqProofs := false) [DN, NB, begT, atHead, kd, wantedA, evP, evR, evF, evL, evC, evI, evBin, evUn, evEq, evSt, evRes, plain, scp, scpA, scpL, rdRow, rdCells, veq, veqA, veqL, isHole, Value.cells, evalL, optI, evBounds, evFill, evFillR, evApp, newsOf, wrCells, one1, fitsApp, evClr, undef, onB_bool, List.getElem?_concat_length, List.getElem?_cons_zero, List.getElem?_cons_succ, List.getElem?_toArray, List.getElem?_nil, List.set_cons_zero, List.set_cons_succ, List.cons_append, List.nil_append, -getElem?_pos, -getElem?_neg, tT, tV, tH, tE, hn, lp87_0, hlt', hi0, hrd, hfitr, set_concat, splice_many, hk, hb2, hwr]
      refine hf 1 _ _ (by decide) rfl rfl (by simp [GB]) (by simp [GB]) (by simp [GB]) (by simp [GB]) (fun _ => (by simp [GB])) (fun h => absurd rfl h)
    · simp (maxSteps := 2000000) (implicitDefEqProofs := false) [DN, NB, begT, atHead, kd, wantedA, evP, evR, evF, evL, evC, evI, evBin, evUn, evEq, evSt, evRes, plain, scp, scpA, scpL, rdRow, rdCells, veq, veqA, veqL, isHole, Value.cells, evalL, optI, evBounds, evFill, evFillR, evApp, newsOf, wrCells, one1, fitsApp, evClr, undef, onB_bool, List.getElem?_concat_length, List.getElem?_cons_zero, List.getElem?_cons_succ, List.getElem?_toArray, List.getElem?_nil, List.set_cons_zero, List.set_cons_succ, List.cons_append, List.nil_append, -getElem?_pos, -getElem?_neg, tT, tV, tH, tE, hn, lp87_0, hlt', hi0, hrd, hfitr, set_concat, splice_many, hk, hb2, hwr]
      refine hf 1 _ _ (by decide) rfl rfl (by simp [GB]) (by simp [GB]) (by simp [GB]) (by simp [GB]) (fun h => absurd h hn) (fun _ => ⟨(by simp [GB]), rfl⟩)
  have hta : turnAt l i = (seek x.t (l.drop (i + 1)) (i + 1)).map fun g => ⟨x.t, i, g⟩ := by unfold turnAt; rw [hx]; simp [hk]
  subst hA'
  rw [hk] at hrd
  by_cases hn : upTo l i = []
  · have hnH : nH l i x = [.row (rowOf l), xB x] := by simp [nH, tE, hn]
    have nHj : ∀ (j : Nat) (tl : AH) {t' : T}, t'.length = 63 → (∀ y ∈ nT (.slice (some ⟨0, 0, none⟩) l.length cap) l i (bOf (upTo l i)) j, getT t' y.1 = some y.2) → atHeadV 1 63 (nT (.slice (some ⟨0, 0, none⟩) l.length cap) l i (bOf (upTo l i)) j) (nH l i x) t' (.row (rowOf l) :: xB x :: tl) := by
      intro j tl t' e1 e2
      have := nHead (x := x) (tl := tl) hA e1 e2
      rwa [show nH l i x ++ tl = .row (rowOf l) :: xB x :: tl by rw [hnH]; rfl] at this
    have nH0 : ∀ (j : Nat) {t' : T}, t'.length = 63 → (∀ y ∈ nT (.slice (some ⟨0, 0, none⟩) l.length cap) l i (bOf (upTo l i)) j, getT t' y.1 = some y.2) → atHeadV 1 63 (nT (.slice (some ⟨0, 0, none⟩) l.length cap) l i (bOf (upTo l i)) j) (nH l i x) t' (.row (rowOf l) :: xB x :: []) := fun j t' e1 e2 => nHj j [] e1 e2
    simp (maxSteps := 2000000) (implicitDefEqProofs := false) [DN, NB, begT, atHead, kd, wantedA, evP, evR, evF, evL, evC, evI, evBin, evUn, evEq, evSt, evRes, plain, scp, scpA, scpL, rdRow, rdCells, veq, veqA, veqL, isHole, Value.cells, evalL, optI, evBounds, evFill, evFillR, evApp, newsOf, wrCells, one1, fitsApp, evClr, undef, onB_bool, List.getElem?_concat_length, List.getElem?_cons_zero, List.getElem?_cons_succ, List.getElem?_toArray, List.getElem?_nil, List.set_cons_zero, List.set_cons_succ, List.cons_append, List.nil_append, -getElem?_pos, -getElem?_neg, tT, tV, tH, tE, tB, hn, lp87_0, hlt', hi0, hrd, hfitr, set_concat, splice_many, hwr]
    obtain ⟨tv, htv⟩ : ∃ tv : Nat → List (Nat × Value), tv = fun j => nT (.slice (some ⟨0, 0, none⟩) l.length cap) l i (bOf (upTo l i)) j := ⟨_, rfl⟩
    obtain ⟨hv, hhv⟩ : ∃ hv : Nat → AH, hv = fun _ => nH l i x := ⟨_, rfl⟩
    refine loop3 hmix 63 (fun j => i < j ∧ j ≤ l.length ∧ seek x.t (l.drop (i + 1)) (i + 1) = seek x.t (l.drop j) j) (fun j => l.length - j) tv hv (i + 1) ⟨by omega, by omega, rfl⟩ ?_ ?_
    · rw [htv, hhv]
      refine nH0 _ rfl ?_
      simp only [nT, List.mem_cons, List.not_mem_nil, or_false]
      rintro y' (rfl | rfl | rfl | rfl | rfl | rfl | rfl | rfl) <;> simp [GB, tV, bOf, hn]
    rintro j ⟨hij, hj, hsk⟩
    rw [show tv j = nT (.slice (some ⟨0, 0, none⟩) l.length cap) l i (bOf (upTo l i)) j by rw [htv], show hv j = nH l i x by rw [hhv]]
    rw [hsk] at hta
    by_cases hjl : j < l.length
    case neg =>
      obtain rfl : j = l.length := by omega
      rw [seek_end, Option.map_none] at hta
      rw [hta, Option.toList_none, List.append_nil] at hup
      have hf := hfin _ hup
      rw [hn] at hf
      simp (maxSteps := 2000000) (implicitDefEqProofs := false) [DN, NB, begT, atHead, kd, wantedA, evP, evR, evF, evL, evC, evI, evBin, evUn, evEq, evSt, evRes, plain, scp, scpA, scpL, rdRow, rdCells, veq, veqA, veqL, isHole, Value.cells, evalL, optI, evBounds, evFill, evFillR, evApp, newsOf, wrCells, one1, fitsApp, evClr, undef, onB_bool, List.getElem?_concat_length, List.getElem?_cons_zero, List.getElem?_cons_succ, List.getElem?_toArray, List.getElem?_nil, List.set_cons_zero, List.set_cons_succ, List.cons_append, List.nil_append, -getElem?_pos, -getElem?_neg, nT, nH, tV, tE, bOf, xB, tB, hn, hwr]
      exact hf 1 _ _ (by decide) rfl rfl (by simp [GB]) (by simp [GB]) (by simp [GB]) (by simp [GB]) (fun _ => (by simp [GB])) (fun h => absurd rfl h)
    have hjl' : (j : Int) < l.length := by omega
    have hj0 : (0 : Int) ≤ j := by omega
    obtain ⟨y, hy⟩ : ∃ y, l[j]? = some y := ⟨_, List.getElem?_eq_getElem hjl⟩
    have hrd2 := rowOf_at hy
    have hfit2 : j * 3 + 3 ≤ (rowOf l).length := by rw [rowOf_length]; omega
    have hwj : IntKind.i64.wrap ((j : Int) + 1) = (j : Int) + 1 := IntWalk.i64_in _ (by omega)
    rw [seek_drop hy] at hta hsk
    by_cases ct : y.t = x.t
    case neg =>
      rw [if_neg (fun h => ct h.1)] at hsk
      have bt : (y.t == x.t) = false := by simp [ct]
      simp (maxSteps := 2000000) (implicitDefEqProofs := false) [DN, NB, begT, atHead, kd, wantedA, evP, evR, evF, evL, evC, evI, evBin, evUn, evEq, evSt, evRes, plain, scp, scpA, scpL, rdRow, rdCells, veq, veqA, veqL, isHole, Value.cells, evalL, optI, evBounds, evFill, evFillR, evApp, newsOf, wrCells, one1, fitsApp, evClr, undef, onB_bool, List.getElem?_concat_length, List.getElem?_cons_zero, List.getElem?_cons_succ, List.getElem?_toArray, List.getElem?_nil, List.set_cons_zero, List.set_cons_succ, List.cons_append, List.nil_append, -getElem?_pos, -getElem?_neg, nT, nH, tV, tE, bOf, xB, tB, hn, hjl', hj0, hrd2, hfit2, set_concat, splice_many, hwj, ct, bt]
      refine nextS.intro (j + 1) (by omega) ⟨by omega, by omega, hsk⟩ ?_
      rw [htv, hhv]
      refine nHj _ _ rfl ?_
      simp only [nT, List.mem_cons, List.not_mem_nil, or_false]
      rintro y' (rfl | rfl | rfl | rfl | rfl | rfl | rfl | rfl) <;> simp [GB, tV, bOf, hn]
    rw [ct] at hrd2
    by_cases c3 : y.k = 3
    · rw [if_pos ⟨ct, .inr (.inr c3)⟩, if_pos c3] at hta
      have hup2 : upTo l (i + 1) = upTo l i ++ [⟨x.t, i, j⟩] := by rw [hup, hta]; rfl
      have hf := hfin _ hup2
      rw [c3] at hrd2
      rw [hn, List.nil_append] at hf
      simp (maxSteps := 2000000) (implicitDefEqProofs := false) [DN, NB, begT, atHead, kd, wantedA, evP, evR, evF, evL, evC, evI, evBin, evUn, evEq, evSt, evRes, plain, scp, scpA, scpL, rdRow, rdCells, veq, veqA, veqL, isHole, Value.cells, evalL, optI, evBounds, evFill, evFillR, evApp, newsOf, wrCells, one1, fitsApp, evClr, undef, onB_bool, List.getElem?_concat_length, List.getElem?_cons_zero, List.getElem?_cons_succ, List.getElem?_toArray, List.getElem?_nil, List.set_cons_zero, List.set_cons_succ, List.cons_append, List.nil_append, -getElem?_pos, -getElem?_neg, nT, nH, tV, tE, bOf, xB, tB, hn, hjl', hj0, hrd2, hfit2, set_concat, splice_many, hwr]
      exact hf 4 _ _ (by decide) rfl rfl (by simp [GB]) (by simp [GB]) (by simp [GB]) (by simp [GB]) (fun h => by simp at h) (fun _ => ⟨(by simp [GB]), rfl⟩)
    by_cases c2 : y.k = 2
    · rw [if_pos ⟨ct, .inl c2⟩, if_neg c3] at hta
      rw [hta, Option.map_none, Option.toList_none, List.append_nil] at hup
      have hf := hfin _ hup
      rw [hn] at hf
      rw [c2] at hrd2
      simp (maxSteps := 2000000) (implicitDefEqProofs := false) [DN, NB, begT, atHead, kd, wantedA, evP, evR, evF, evL, evC, evI, evBin, evUn, evEq, evSt, evRes, plain, scp, scpA, scpL, rdRow, rdCells, veq, veqA, veqL, isHole, Value.cells, evalL, optI, evBounds, evFill, evFillR, evApp, newsOf, wrCells, one1, fitsApp, evClr, undef, onB_bool, List.getElem?_concat_length, List.getElem?_cons_zero, List.getElem?_cons_succ, List.getElem?_toArray, List.getElem?_nil, List.set_cons_zero, List.set_cons_succ, List.cons_append, List.nil_append, -getElem?_pos, -getElem?_neg, nT, nH, tV, tE, bOf, xB, tB, hn, hjl', hj0, hrd2, hfit2, set_concat, splice_many, hwr]
      exact hf 1 _ _ (by decide) rfl rfl (by simp [GB]) (by simp [GB]) (by simp [GB]) (by simp [GB]) (fun _ => (by simp [GB])) (fun h => absurd rfl h)
    by_cases c4 : y.k = 4
    · rw [if_pos ⟨ct, .inr (.inl c4)⟩, if_neg c3] at hta
      rw [hta, Option.map_none, Option.toList_none, List.append_nil] at hup
      have hf := hfin _ hup
      rw [hn] at hf
      rw [c4] at hrd2
      simp (maxSteps := 2000000) (implicitDefEqProofs := false) [DN, NB, begT, atHead, kd, wantedA, evP, evR, evF, evL, evC, evI, evBin, evUn, evEq, evSt, evRes, plain, scp, scpA, scpL, rdRow, rdCells, veq, veqA, veqL, isHole, Value.cells, evalL, optI, evBounds, evFill, evFillR, evApp, newsOf, wrCells, one1, fitsApp, evClr, undef, onB_bool, List.getElem?_concat_length, List.getElem?_cons_zero, List.getElem?_cons_succ, List.getElem?_toArray, List.getElem?_nil, List.set_cons_zero, List.set_cons_succ, List.cons_append, List.nil_append, -getElem?_pos, -getElem?_neg, nT, nH, tV, tE, bOf, xB, tB, hn, hjl', hj0, hrd2, hfit2, set_concat, splice_many, hwr]
      exact hf 1 _ _ (by decide) rfl rfl (by simp [GB]) (by simp [GB]) (by simp [GB]) (by simp [GB]) (fun _ => (by simp [GB])) (fun h => absurd rfl h)
    rw [if_neg (fun h => h.2.elim c2 fun h => h.elim c4 c3)] at hsk
    have b2 : (y.k == 2) = false := by simp [c2]
    have b3 : (y.k == 3) = false := by simp [c3]
    have b4 : (y.k == 4) = false := by simp [c4]
    simp (maxSteps := 2000000) (implicitDefEqProofs := false) [DN, NB, begT, atHead, kd, wantedA, evP, evR, evF, evL, evC, evI, evBin, evUn, evEq, evSt, evRes, plain, scp, scpA, scpL, rdRow, rdCells, veq, veqA, veqL, isHole, Value.cells, evalL, optI, evBounds, evFill, evFillR, evApp, newsOf, wrCells, one1, fitsApp, evClr, undef, onB_bool, List.getElem?_concat_length, List.getElem?_cons_zero, List.getElem?_cons_succ, List.getElem?_toArray, List.getElem?_nil, List.set_cons_zero, List.set_cons_succ, List.cons_append, List.nil_append, -getElem?_pos, -getElem?_neg, nT, nH, tV, tE, bOf, xB, tB, hn, hjl', hj0, hrd2, hfit2, set_concat, splice_many, hwj, c2, c3, c4, b2, b3, b4]
    refine nextS.intro (j + 1) (by omega) ⟨by omega, by omega, hsk⟩ ?_
    rw [htv, hhv]
    refine nHj _ _ rfl ?_
    simp only [nT, List.mem_cons, List.not_mem_nil, or_false]
    rintro y' (rfl | rfl | rfl | rfl | rfl | rfl | rfl | rfl) <;> simp [GB, tV, bOf, hn]
  · have hnH : nH l i x = [.row (rowOf l), tB (upTo l i), xB x] := by simp [nH, tE, hn]
    have nHj : ∀ (j : Nat) (tl : AH) {t' : T}, t'.length = 63 → (∀ y ∈ nT (.slice (some ⟨0, 0, none⟩) l.length cap) l i (bOf (upTo l i)) j, getT t' y.1 = some y.2) → atHeadV 1 63 (nT (.slice (some ⟨0, 0, none⟩) l.length cap) l i (bOf (upTo l i)) j) (nH l i x) t' (.row (rowOf l) :: tB (upTo l i) :: xB x :: tl) := by
      intro j tl t' e1 e2
      have := nHead (x := x) (tl := tl) hA e1 e2
      rwa [show nH l i x ++ tl = .row (rowOf l) :: tB (upTo l i) :: xB x :: tl by rw [hnH]; rfl] at this
    have nH0 : ∀ (j : Nat) {t' : T}, t'.length = 63 → (∀ y ∈ nT (.slice (some ⟨0, 0, none⟩) l.length cap) l i (bOf (upTo l i)) j, getT t' y.1 = some y.2) → atHeadV 1 63 (nT (.slice (some ⟨0, 0, none⟩) l.length cap) l i (bOf (upTo l i)) j) (nH l i x) t' (.row (rowOf l) :: tB (upTo l i) :: xB x :: []) := fun j t' e1 e2 => nHj j [] e1 e2
    simp (maxSteps := 2000000) (implicitDefEqProofs := false) [DN, NB, begT, atHead, kd, wantedA, evP, evR, evF, evL, evC, evI, evBin, evUn, evEq, evSt, evRes, plain, scp, scpA, scpL, rdRow, rdCells, veq, veqA, veqL, isHole, Value.cells, evalL, optI, evBounds, evFill, evFillR, evApp, newsOf, wrCells, one1, fitsApp, evClr, undef, onB_bool, List.getElem?_concat_length, List.getElem?_cons_zero, List.getElem?_cons_succ, List.getElem?_toArray, List.getElem?_nil, List.set_cons_zero, List.set_cons_succ, List.cons_append, List.nil_append, -getElem?_pos, -getElem?_neg, tT, tV, tH, tE, tB, hn, lp87_0, hlt', hi0, hrd, hfitr, set_concat, splice_many, hwr]
    obtain ⟨tv, htv⟩ : ∃ tv : Nat → List (Nat × Value), tv = fun j => nT (.slice (some ⟨0, 0, none⟩) l.length cap) l i (bOf (upTo l i)) j := ⟨_, rfl⟩
    obtain ⟨hv, hhv⟩ : ∃ hv : Nat → AH, hv = fun _ => nH l i x := ⟨_, rfl⟩
    refine loop3 hmix 63 (fun j => i < j ∧ j ≤ l.length ∧ seek x.t (l.drop (i + 1)) (i + 1) = seek x.t (l.drop j) j) (fun j => l.length - j) tv hv (i + 1) ⟨by omega, by omega, rfl⟩ ?_ ?_
    · rw [htv, hhv]
      refine nH0 _ rfl ?_
      simp only [nT, List.mem_cons, List.not_mem_nil, or_false]
      rintro y' (rfl | rfl | rfl | rfl | rfl | rfl | rfl | rfl) <;> simp [GB, tV, bOf, hn]
    rintro j ⟨hij, hj, hsk⟩
    rw [show tv j = nT (.slice (some ⟨0, 0, none⟩) l.length cap) l i (bOf (upTo l i)) j by rw [htv], show hv j = nH l i x by rw [hhv]]
    rw [hsk] at hta
    by_cases hjl : j < l.length
    case neg =>
      obtain rfl : j = l.length := by omega
      rw [seek_end, Option.map_none] at hta
      rw [hta, Option.toList_none, List.append_nil] at hup
      have hf := hfin _ hup
      simp (maxSteps := 2000000) (implicitDefEqProofs := false) [DN, NB, begT, atHead, kd, wantedA, evP, evR, evF, evL, evC, evI, evBin, evUn, evEq, evSt, evRes, plain, scp, scpA, scpL, rdRow, rdCells, veq, veqA, veqL, isHole, Value.cells, evalL, optI, evBounds, evFill, evFillR, evApp, newsOf, wrCells, one1, fitsApp, evClr, undef, onB_bool, List.getElem?_concat_length, List.getElem?_cons_zero, List.getElem?_cons_succ, List.getElem?_toArray, List.getElem?_nil, List.set_cons_zero, List.set_cons_succ, List.cons_append, List.nil_append, -getElem?_pos, -getElem?_neg, nT, nH, tV, tE, bOf, xB, tB, hn, hwr]
      exact hf 1 _ _ (by decide) rfl rfl (by simp [GB]) (by simp [GB]) (by simp [GB]) (by simp [GB]) (fun h => absurd h hn) (fun _ => ⟨(by simp [GB]), rfl⟩)
    have hjl' : (j : Int) < l.length := by omega
    have hj0 : (0 : Int) ≤ j := by omega
    obtain ⟨y, hy⟩ : ∃ y, l[j]? = some y := ⟨_, List.getElem?_eq_getElem hjl⟩
    have hrd2 := rowOf_at hy
    have hfit2 : j * 3 + 3 ≤ (rowOf l).length := by rw [rowOf_length]; omega
    have hwj : IntKind.i64.wrap ((j : Int) + 1) = (j : Int) + 1 := IntWalk.i64_in _ (by omega)
    rw [seek_drop hy] at hta hsk
    by_cases ct : y.t = x.t
    case neg =>
      rw [if_neg (fun h => ct h.1)] at hsk
      have bt : (y.t == x.t) = false := by simp [ct]
      simp (maxSteps := 2000000) (implicitDefEqProofs := false) [DN, NB, begT, atHead, kd, wantedA, evP, evR, evF, evL, evC, evI, evBin, evUn, evEq, evSt, evRes, plain, scp, scpA, scpL, rdRow, rdCells, veq, veqA, veqL, isHole, Value.cells, evalL, optI, evBounds, evFill, evFillR, evApp, newsOf, wrCells, one1, fitsApp, evClr, undef, onB_bool, List.getElem?_concat_length, List.getElem?_cons_zero, List.getElem?_cons_succ, List.getElem?_toArray, List.getElem?_nil, List.set_cons_zero, List.set_cons_succ, List.cons_append, List.nil_append, -getElem?_pos, -getElem?_neg, nT, nH, tV, tE, bOf, xB, tB, hn, hjl', hj0, hrd2, hfit2, set_concat, splice_many, hwj, ct, bt]
      refine nextS.intro (j + 1) (by omega) ⟨by omega, by omega, hsk⟩ ?_
      rw [htv, hhv]
      refine nHj _ _ rfl ?_
      simp only [nT, List.mem_cons, List.not_mem_nil, or_false]
      rintro y' (rfl | rfl | rfl | rfl | rfl | rfl | rfl | rfl) <;> simp [GB, tV, bOf, hn]
    rw [ct] at hrd2
    by_cases c3 : y.k = 3
    · rw [if_pos ⟨ct, .inr (.inr c3)⟩, if_pos c3] at hta
      have hup2 : upTo l (i + 1) = upTo l i ++ [⟨x.t, i, j⟩] := by rw [hup, hta]; rfl
      have hf := hfin _ hup2
      rw [c3] at hrd2
      have hpl := rowT_length (upTo l i)
      have hpt : List.take ((upTo l i).length * 3) (rowT (upTo l i)) = rowT (upTo l i) := List.take_of_length_le (by omega)
      have hno : ¬ OPEN + (upTo l i).length < OPEN := by omega
      have hf1 : ((upTo l i).length + 1) * 3 ≤ 4294967296 := by omega
      have hf2 : ((upTo l i).length + 1) * 24 ≤ 140737488355328 := by omega
      have hf3 : (upTo l i).length ≤ 4294967295 := by omega
      simp (maxSteps := 2000000) (implicitDefEqProofs := false) [DN, NB, begT, atHead, kd, wantedA, evP, evR, evF, evL, evC, evI, evBin, evUn, evEq, evSt, evRes, plain, scp, scpA, scpL, rdRow, rdCells, veq, veqA, veqL, isHole, Value.cells, evalL, optI, evBounds, evFill, evFillR, evApp, newsOf, wrCells, one1, fitsApp, evClr, undef, onB_bool, List.getElem?_concat_length, List.getElem?_cons_zero, List.getElem?_cons_succ, List.getElem?_toArray, List.getElem?_nil, List.set_cons_zero, List.set_cons_succ, List.cons_append, List.nil_append, -getElem?_pos, -getElem?_neg, nT, nH, tV, tE, bOf, xB, tB, hn, hjl', hj0, hrd2, hfit2, set_concat, splice_many, hwr, capLow_open, hpl, hpt, hno, hf1, hf2, hf3]
      exact hf 5 _ _ (by decide) rfl rfl (by simp [GB]) (by simp [GB]) (by simp [GB]) (by simp [GB]) (fun h => by simp at h) (fun _ => ⟨by simp [GB], by simp [tB, rowT_app]⟩)
    by_cases c2 : y.k = 2
    · rw [if_pos ⟨ct, .inl c2⟩, if_neg c3] at hta
      rw [hta, Option.map_none, Option.toList_none, List.append_nil] at hup
      have hf := hfin _ hup
      rw [c2] at hrd2
      simp (maxSteps := 2000000) (implicitDefEqProofs := false) [DN, NB, begT, atHead, kd, wantedA, evP, evR, evF, evL, evC, evI, evBin, evUn, evEq, evSt, evRes, plain, scp, scpA, scpL, rdRow, rdCells, veq, veqA, veqL, isHole, Value.cells, evalL, optI, evBounds, evFill, evFillR, evApp, newsOf, wrCells, one1, fitsApp, evClr, undef, onB_bool, List.getElem?_concat_length, List.getElem?_cons_zero, List.getElem?_cons_succ, List.getElem?_toArray, List.getElem?_nil, List.set_cons_zero, List.set_cons_succ, List.cons_append, List.nil_append, -getElem?_pos, -getElem?_neg, nT, nH, tV, tE, bOf, xB, tB, hn, hjl', hj0, hrd2, hfit2, set_concat, splice_many, hwr]
      exact hf 1 _ _ (by decide) rfl rfl (by simp [GB]) (by simp [GB]) (by simp [GB]) (by simp [GB]) (fun h => absurd h hn) (fun _ => ⟨(by simp [GB]), rfl⟩)
    by_cases c4 : y.k = 4
    · rw [if_pos ⟨ct, .inr (.inl c4)⟩, if_neg c3] at hta
      rw [hta, Option.map_none, Option.toList_none, List.append_nil] at hup
      have hf := hfin _ hup
      rw [c4] at hrd2
      simp (maxSteps := 2000000) (implicitDefEqProofs := false) [DN, NB, begT, atHead, kd, wantedA, evP, evR, evF, evL, evC, evI, evBin, evUn, evEq, evSt, evRes, plain, scp, scpA, scpL, rdRow, rdCells, veq, veqA, veqL, isHole, Value.cells, evalL, optI, evBounds, evFill, evFillR, evApp, newsOf, wrCells, one1, fitsApp, evClr, undef, onB_bool, List.getElem?_concat_length, List.getElem?_cons_zero, List.getElem?_cons_succ, List.getElem?_toArray, List.getElem?_nil, List.set_cons_zero, List.set_cons_succ, List.cons_append, List.nil_append, -getElem?_pos, -getElem?_neg, nT, nH, tV, tE, bOf, xB, tB, hn, hjl', hj0, hrd2, hfit2, set_concat, splice_many, hwr]
      exact hf 1 _ _ (by decide) rfl rfl (by simp [GB]) (by simp [GB]) (by simp [GB]) (by simp [GB]) (fun h => absurd h hn) (fun _ => ⟨(by simp [GB]), rfl⟩)
    rw [if_neg (fun h => h.2.elim c2 fun h => h.elim c4 c3)] at hsk
    have b2 : (y.k == 2) = false := by simp [c2]
    have b3 : (y.k == 3) = false := by simp [c3]
    have b4 : (y.k == 4) = false := by simp [c4]
    simp (maxSteps := 2000000) (implicitDefEqProofs := false) [DN, NB, begT, atHead, kd, wantedA, evP, evR, evF, evL, evC, evI, evBin, evUn, evEq, evSt, evRes, plain, scp, scpA, scpL, rdRow, rdCells, veq, veqA, veqL, isHole, Value.cells, evalL, optI, evBounds, evFill, evFillR, evApp, newsOf, wrCells, one1, fitsApp, evClr, undef, onB_bool, List.getElem?_concat_length, List.getElem?_cons_zero, List.getElem?_cons_succ, List.getElem?_toArray, List.getElem?_nil, List.set_cons_zero, List.set_cons_succ, List.cons_append, List.nil_append, -getElem?_pos, -getElem?_neg, nT, nH, tV, tE, bOf, xB, tB, hn, hjl', hj0, hrd2, hfit2, set_concat, splice_many, hwj, c2, c3, c4, b2, b3, b4]
    refine nextS.intro (j + 1) (by omega) ⟨by omega, by omega, hsk⟩ ?_
    rw [htv, hhv]
    refine nHj _ _ rfl ?_
    simp only [nT, List.mem_cons, List.not_mem_nil, or_false]
    rintro y' (rfl | rfl | rfl | rfl | rfl | rfl | rfl | rfl) <;> simp [GB, tV, bOf, hn]

end Ox
end Go.Proofs.Ytekhadlpcdjlpaa
