/- pool: its calls, in whatever heap; the law PoolOrder, on the blocks. -/
import Derived.Test.YtekhadlpcdjlpaaPn
import Derived.Test.YtekhadlpcdjlpaaPa
namespace Go.Proofs.Ytekhadlpcdjlpaa
namespace Px
open Go Abs Code
set_option linter.unusedVariables false
set_option linter.unusedSimpArgs false
set_option maxRecDepth 100000

theorem awakeK (h : AH) (K : Value → AH → Prop) (hK : ∀ h', K (.bool true) h') : AC Try.prog 46 [] h K := by
  have sb : Sub (fun b => b) [] h := ⟨fun j k hj => by simp at hj, fun i j hi => by simp at hi⟩
  have := AC.frame sb (fun b k hb => by simp at hb) rfl awake_
  refine this.mono ?_
  rintro v H' ⟨v0, h', rfl, _, rfl, rfl⟩
  simpa [ren] using hK _

theorem takeG {s : PS} (t : Int) {H : AH} {b : Nat} (hb : H[b]? = some (poolB s)) {K : Value → AH → Prop} (hK : K (.tuple #[.int .u32 (takeH s t : Nat), .int .i64 (takeE s t)]) (H.set b (poolB (takeS s t)))) : AC Try.prog 41 [.pointer (some ⟨b, 0, none⟩), .int .i64 t] H K := by
  refine AC.at1 (args0 := [.pointer (some ⟨0, 0, none⟩), .int .i64 t]) (E := []) (ptake_ s t) trivial trivial (by simp) hb (by simp [scpL, scp, live]) (by simp [ren, renA]) ?_
  rw [List.append_nil]
  simpa [ren, renAr, renL] using hK

theorem freeG {s : PS} (x : Nat) (hx : x < 4294967296) {H : AH} {b : Nat} (hb : H[b]? = some (poolB s)) {K : Value → AH → Prop} (hK : K (.int .i64 (freeE s x)) (H.set b (poolB (freeS s x)))) : AC Try.prog 45 [.pointer (some ⟨b, 0, none⟩), .int .u32 x] H K := by
  refine AC.at1 (args0 := [.pointer (some ⟨0, 0, none⟩), .int .u32 x]) (E := []) (pfree_ s x hx) trivial trivial (by simp) hb (by simp [scpL, scp, live]) (by simp [ren, renA]) ?_
  rw [List.append_nil]
  simpa [ren] using hK

def outV (s : PS) (t : Int) : Nat := if t < 0 then 0 else match s.free[t.toNat]? with | some r => s.each - r.length | none => 0

theorem outG {s : PS} (t : Int) {H : AH} {b : Nat} (hb : H[b]? = some (poolB s)) {K : Value → AH → Prop} (hK : K (.int .i64 (outV s t : Nat)) H) : AC Try.prog 44 [.pointer (some ⟨b, 0, none⟩), .int .i64 t] H K := by
  refine AC.at1 (args0 := [.pointer (some ⟨0, 0, none⟩), .int .i64 t]) (r := .int .i64 (outV s t : Nat)) (E := []) ((pout_ s t).mono fun v h' hh => ⟨?_, hh.2⟩) trivial trivial (by simp) hb (by simp [scpL, scp, live]) (by simp [ren, renA]) ?_
  · rw [hh.1]
    unfold outV
    by_cases c : t < 0
    · rw [if_pos c, if_pos c]; rfl
    · rw [if_neg c, if_neg c]
      cases s.free[t.toNat]? <;> rfl
  · rw [set_same hb, List.append_nil]
    simpa [ren] using hK

theorem totalG {s : PS} {H : AH} {b : Nat} (hb : H[b]? = some (poolB s)) {K : Value → AH → Prop} (hK : K (.int .i64 (s.out.length : Nat)) H) : AC Try.prog 48 [.pointer (some ⟨b, 0, none⟩)] H K := by
  refine AC.at1 (args0 := [.pointer (some ⟨0, 0, none⟩)]) (E := []) (ptotal_ s) trivial trivial (by simp) hb (by simp [scpL, scp, live]) (by simp [ren, renA]) ?_
  rw [set_same hb, List.append_nil]
  simpa [ren] using hK

theorem isG {s : PS} (x : Nat) {H : AH} {b : Nat} (hb : H[b]? = some (poolB s)) {K : Value → AH → Prop} (hK : K (.bool (decide (lookP s.out x ≠ 0))) H) : AC Try.prog 47 [.pointer (some ⟨b, 0, none⟩), .int .u32 x] H K := by
  refine AC.at1 (args0 := [.pointer (some ⟨0, 0, none⟩), .int .u32 x]) (E := []) (pis_ s x) trivial trivial (by simp) hb (by simp [scpL, scp, live]) (by simp [ren, renA]) ?_
  rw [set_same hb, List.append_nil]
  simpa [ren] using hK

/-- The handle that goes out as the i-th; what is left. -/
def ordX (k i : Nat) : Nat := hOf (1 + i % k) (i / k)
def ordR (k i : Nat) : List Nat := (List.range k).map fun p => ordX k (i + p)
def ordS (k i : Nat) : PS := ⟨k, [ordR k i], []⟩
def ordM (k i : Nat) : PS := ⟨k, [(ordR k i).tail], [(ordX k i, 1)]⟩

theorem ordX_lt {k i : Nat} (hk : 1 ≤ k) (h8 : k ≤ 8) (hi : i < 1000) : ordX k i < 4294967296 := by
  unfold ordX hOf
  have := Nat.mod_lt i (show 0 < k by omega)
  have := Nat.div_le_self i k
  omega

theorem ordR_cons {k i : Nat} (hk : 1 ≤ k) : ordR k i = ordX k i :: (ordR k i).tail := by
  obtain ⟨m, rfl⟩ : ∃ m, k = m + 1 := ⟨k - 1, by omega⟩
  unfold ordR
  rw [List.range_succ_eq_map]
  rfl

theorem ordX_next {k i : Nat} (hk : 1 ≤ k) (h8 : k ≤ 8) (hi : i < 1000) : hNext (ordX k i) = ordX k (i + k) := by
  have h1 := Nat.mod_lt i (show 0 < k by omega)
  have h2 := Nat.div_le_self i k
  unfold hNext ordX hOf
  rw [Nat.add_mod_right, Nat.add_div_right _ (by omega)]
  omega

theorem ordR_next {k i : Nat} (hk : 1 ≤ k) : (ordR k i).tail ++ [ordX k (i + k)] = ordR k (i + 1) := by
  obtain ⟨m, rfl⟩ : ∃ m, k = m + 1 := ⟨k - 1, by omega⟩
  have e : (ordR (m + 1) i).tail = (List.range m).map fun p => ordX (m + 1) (i + 1 + p) := by
    unfold ordR
    rw [List.range_succ_eq_map, List.map_cons, List.tail_cons, List.map_map]
    refine List.map_congr_left fun p _ => ?_
    simp only [Function.comp]
    congr 1
    omega
  rw [e]
  unfold ordR
  rw [List.range_succ, List.map_append]
  have e2 : i + (m + 1) = i + 1 + m := by omega
  rw [e2]
  rfl

theorem ordR_length (k i : Nat) : (ordR k i).length = k := by simp [ordR]

theorem ord_new {k : Nat} (hk : 1 ≤ k) : newP 1 k = ordS k 0 := by
  unfold newP ordS ordR freshR
  simp only [List.range_succ, List.range_zero, List.nil_append, List.map_cons, List.map_nil]
  congr 2
  refine List.map_congr_left fun p hp => ?_
  have := List.mem_range.1 hp
  unfold ordX hOf
  rw [Nat.zero_add, Nat.mod_eq_of_lt this, Nat.div_eq_of_lt this]
  omega

theorem ordTake {k i : Nat} (hk : 1 ≤ k) {K : Value → AH → Prop} (hK : K (.tuple #[.int .u32 (ordX k i : Nat), .int .i64 0]) [poolB (ordM k i)]) : AC Try.prog 41 [.pointer (some ⟨0, 0, none⟩), .int .i64 0] [poolB (ordS k i)] K := by
  refine takeG (s := ordS k i) 0 rfl ?_
  have e1 : takeH (ordS k i) 0 = ordX k i := by unfold takeH ordS; rw [ordR_cons hk]; rfl
  have e2 : takeS (ordS k i) 0 = ordM k i := by unfold takeS ordS ordM; rw [ordR_cons hk]; rfl
  rw [e1, e2]
  exact hK

theorem look_one (x : Nat) : lookP [(x, 1)] x = 1 := by simp [lookP]

theorem ordFree {k i : Nat} (hk : 1 ≤ k) (h8 : k ≤ 8) (hi : i < 1000) {K : Value → AH → Prop} (hK : K (.int .i64 0) [poolB (ordS k (i + 1))]) : AC Try.prog 45 [.pointer (some ⟨0, 0, none⟩), .int .u32 (ordX k i : Nat)] [poolB (ordM k i)] K := by
  refine freeG (s := ordM k i) (ordX k i) (ordX_lt hk h8 hi) rfl ?_
  have e0 : ordX k i ≠ 0 := by unfold ordX hOf; omega
  have el : lookP (ordM k i).out (ordX k i) = 1 := look_one _
  have e1 : freeE (ordM k i) (ordX k i) = 0 := by unfold freeE; rw [if_neg e0, el]; rfl
  have e2 : freeS (ordM k i) (ordX k i) = ordS k (i + 1) := by
    unfold freeS
    rw [el, if_neg (by simp [e0])]
    simp [ordM, ordS, ordX_next hk h8 hi, ordR_next hk]
  rw [e1, e2]
  exact hK

theorem ordOutM {k i : Nat} (hk : 1 ≤ k) {K : Value → AH → Prop} (hK : K (.int .i64 1) [poolB (ordM k i)]) : AC Try.prog 44 [.pointer (some ⟨0, 0, none⟩), .int .i64 0] [poolB (ordM k i)] K := by
  refine outG (s := ordM k i) 0 rfl ?_
  have e : outV (ordM k i) 0 = 1 := by
    simp [outV, ordM, ordR_length]
    omega
  rw [e]
  exact hK
theorem ordOutS {k i : Nat} {K : Value → AH → Prop} (hK : K (.int .i64 0) [poolB (ordS k i)]) : AC Try.prog 44 [.pointer (some ⟨0, 0, none⟩), .int .i64 0] [poolB (ordS k i)] K := by
  refine outG (s := ordS k i) 0 rfl ?_
  have e : outV (ordS k i) 0 = 0 := by simp [outV, ordS, ordR_length]
  rw [e]
  exact hK

def ordT (k n i : Nat) : List (Nat × Value) := [(5, .int .i64 k), (7, .pointer (some ⟨0, 0, none⟩)), (30, .int .i64 n), (31, .int .i64 i)]

set_option maxHeartbeats 4000000 in
theorem loop9 (k n : Nat) (hk : 1 ≤ k) (h8 : k ≤ 8) (hn : n ≤ 100) (T0 : T) (h : AH) (Q : AExit → T → AH → Prop)
    (h0 : atHeadV 0 74 (ordT k n 0) [poolB (ordS k 0)] T0 h)
    (hQ : Q (.exit 0) (mkT 74 ((32, .bool false) :: ordT k n n)) [poolB (ordS k n)]) : ALoop Try.prog 0 lp9_0 T0 h Q := by
  refine loop3 hmix 74 (fun i => i ≤ n) (fun i => n - i) (ordT k n) (fun i => [poolB (ordS k i)]) 0 (Nat.zero_le _) h0 ?_
  intro i hi
  by_cases hlt : i < n
  case neg =>
    obtain rfl : i = n := by omega
    simp (maxSteps := 2000000) (implicitDefEqProofs := false) [DN, NB, begT, atHead, kd, wantedA, evP, evR, evF, evL, evC, evI, evBin, evUn, evEq, evSt, evRes, plain, scp, scpA, scpL, rdRow, rdCells, veq, veqA, veqL, isHole, Value.cells, evalL, optI, evBounds, evFill, evFillR, evApp, newsOf, wrCells, one1, fitsApp, evClr, undef, onB_bool, List.getElem?_concat_length, List.getElem?_cons_zero, List.getElem?_cons_succ, List.getElem?_toArray, List.getElem?_nil, List.set_cons_zero, List.set_cons_succ, List.cons_append, List.nil_append, -getElem?_pos, -getElem?_neg, ordT] at hQ
    simp (maxSteps := 2000000) (implicitDefEqProofs := false) [DN, NB, begT, atHead, kd, wantedA, evP, evR, evF, evL, evC, evI, evBin, evUn, evEq, evSt, evRes, plain, scp, scpA, scpL, rdRow, rdCells, veq, veqA, veqL, isHole, Value.cells, evalL, optI, evBounds, evFill, evFillR, evApp, newsOf, wrCells, one1, fitsApp, evClr, undef, onB_bool, List.getElem?_concat_length, List.getElem?_cons_zero, List.getElem?_cons_succ, List.getElem?_toArray, List.getElem?_nil, List.set_cons_zero, List.set_cons_succ, List.cons_append, List.nil_append, -getElem?_pos, -getElem?_neg, ordT, lp9_0]
    exact hQ
  have hlt' : (i : Int) < n := by omega
  have hwr : IntKind.i64.wrap ((i : Int) + 1) = ((i + 1 : Nat) : Int) := by rw [IntWalk.i64_in _ (by omega)]; omega
  obtain ⟨r, hr⟩ : ∃ r, i % k = r := ⟨_, rfl⟩
  obtain ⟨q, hq⟩ : ∃ q, i / k = q := ⟨_, rfl⟩
  have hrk : r < k := by rw [← hr]; exact Nat.mod_lt _ (by omega)
  have hql : q ≤ 100 := by rw [← hq]; exact Nat.le_trans (Nat.div_le_self _ _) (by omega)
  have hrem : (i : Int).tmod (k : Int) = (r : Nat) := by rw [Int.tmod_eq_emod_of_nonneg (by omega), ← hr]; push_cast; rfl
  have hquo : (i : Int).tdiv (k : Int) = (q : Nat) := by rw [Int.tdiv_eq_ediv_of_nonneg (by omega), ← hq]; push_cast; rfl
  have hw1 : IntKind.i64.wrap (1 + (r : Int)) = ((r + 1 : Nat) : Int) := by rw [IntWalk.i64_in _ (by omega)]; omega
  have hw2 : IntKind.i64.wrap (q : Int) = (q : Nat) := IntWalk.i64_in _ (by omega)
  have hw3 : IntKind.i64.wrap (r : Int) = (r : Nat) := IntWalk.i64_in _ (by omega)
  have hk0 : ¬ k = 0 := by omega
  obtain ⟨x, hx⟩ : ∃ x, ordX k i = x := ⟨_, rfl⟩
  have hxl : x < 4294967296 := by rw [← hx]; exact ordX_lt hk h8 (by omega)
  have hxi : x % 4096 = r + 1 := by rw [← hx]; unfold ordX hOf; rw [hr]; omega
  have hxg : x / 4096 % 262144 = q := by rw [← hx]; unfold ordX hOf; rw [hr, hq]; omega
  simp (maxSteps := 2000000) (implicitDefEqProofs := false) [DN, NB, begT, atHead, kd, wantedA, evP, evR, evF, evL, evC, evI, evBin, evUn, evEq, evSt, evRes, plain, scp, scpA, scpL, rdRow, rdCells, veq, veqA, veqL, isHole, Value.cells, evalL, optI, evBounds, evFill, evFillR, evApp, newsOf, wrCells, one1, fitsApp, evClr, undef, onB_bool, List.getElem?_concat_length, List.getElem?_cons_zero, List.getElem?_cons_succ, List.getElem?_toArray, List.getElem?_nil, List.set_cons_zero, List.set_cons_succ, List.cons_append, List.nil_append, -getElem?_pos, -getElem?_neg, ordT, lp9_0, hlt]
  refine ordTake hk ?_
  simp (maxSteps := 2000000) (implicitDefEqProofs := false) [DN, NB, begT, atHead, kd, wantedA, evP, evR, evF, evL, evC, evI, evBin, evUn, evEq, evSt, evRes, plain, scp, scpA, scpL, rdRow, rdCells, veq, veqA, veqL, isHole, Value.cells, evalL, optI, evBounds, evFill, evFillR, evApp, newsOf, wrCells, one1, fitsApp, evClr, undef, onB_bool, List.getElem?_concat_length, List.getElem?_cons_zero, List.getElem?_cons_succ, List.getElem?_toArray, List.getElem?_nil, List.set_cons_zero, List.set_cons_succ, List.cons_append, List.nil_append, -getElem?_pos, -getElem?_neg, hx, hrem, hquo, hw1, hw2, hw3, hk0]
  refine rindex_ x (r + 1) hxl hxi _ ?_
  simp (maxSteps := 2000000) (implicitDefEqProofs := false) [DN, NB, begT, atHead, kd, wantedA, evP, evR, evF, evL, evC, evI, evBin, evUn, evEq, evSt, evRes, plain, scp, scpA, scpL, rdRow, rdCells, veq, veqA, veqL, isHole, Value.cells, evalL, optI, evBounds, evFill, evFillR, evApp, newsOf, wrCells, one1, fitsApp, evClr, undef, onB_bool, List.getElem?_concat_length, List.getElem?_cons_zero, List.getElem?_cons_succ, List.getElem?_toArray, List.getElem?_nil, List.set_cons_zero, List.set_cons_succ, List.cons_append, List.nil_append, -getElem?_pos, -getElem?_neg, hrem, hquo, hw1, hw2, hw3, hk0]
  refine rgen_ x q hxl hxg _ ?_
  simp (maxSteps := 2000000) (implicitDefEqProofs := false) [DN, NB, begT, atHead, kd, wantedA, evP, evR, evF, evL, evC, evI, evBin, evUn, evEq, evSt, evRes, plain, scp, scpA, scpL, rdRow, rdCells, veq, veqA, veqL, isHole, Value.cells, evalL, optI, evBounds, evFill, evFillR, evApp, newsOf, wrCells, one1, fitsApp, evClr, undef, onB_bool, List.getElem?_concat_length, List.getElem?_cons_zero, List.getElem?_cons_succ, List.getElem?_toArray, List.getElem?_nil, List.set_cons_zero, List.set_cons_succ, List.cons_append, List.nil_append, -getElem?_pos, -getElem?_neg, hrem, hquo, hw1, hw2, hw3, hk0]
  refine ordOutM hk ?_
  simp (maxSteps := 2000000) (implicitDefEqProofs := false) [DN, NB, begT, atHead, kd, wantedA, evP, evR, evF, evL, evC, evI, evBin, evUn, evEq, evSt, evRes, plain, scp, scpA, scpL, rdRow, rdCells, veq, veqA, veqL, isHole, Value.cells, evalL, optI, evBounds, evFill, evFillR, evApp, newsOf, wrCells, one1, fitsApp, evClr, undef, onB_bool, List.getElem?_concat_length, List.getElem?_cons_zero, List.getElem?_cons_succ, List.getElem?_toArray, List.getElem?_nil, List.set_cons_zero, List.set_cons_succ, List.cons_append, List.nil_append, -getElem?_pos, -getElem?_neg]
  rw [← hx]
  refine ordFree hk h8 (by omega) ?_
  simp (maxSteps := 2000000) (implicitDefEqProofs := false) [DN, NB, begT, atHead, kd, wantedA, evP, evR, evF, evL, evC, evI, evBin, evUn, evEq, evSt, evRes, plain, scp, scpA, scpL, rdRow, rdCells, veq, veqA, veqL, isHole, Value.cells, evalL, optI, evBounds, evFill, evFillR, evApp, newsOf, wrCells, one1, fitsApp, evClr, undef, onB_bool, List.getElem?_concat_length, List.getElem?_cons_zero, List.getElem?_cons_succ, List.getElem?_toArray, List.getElem?_nil, List.set_cons_zero, List.set_cons_succ, List.cons_append, List.nil_append, -getElem?_pos, -getElem?_neg]
  refine ordOutS ?_
  simp (maxSteps := 2000000) (implicitDefEqProofs := false) [DN, NB, begT, atHead, kd, wantedA, evP, evR, evF, evL, evC, evI, evBin, evUn, evEq, evSt, evRes, plain, scp, scpA, scpL, rdRow, rdCells, veq, veqA, veqL, isHole, Value.cells, evalL, optI, evBounds, evFill, evFillR, evApp, newsOf, wrCells, one1, fitsApp, evClr, undef, onB_bool, List.getElem?_concat_length, List.getElem?_cons_zero, List.getElem?_cons_succ, List.getElem?_toArray, List.getElem?_nil, List.set_cons_zero, List.set_cons_succ, List.cons_append, List.nil_append, -getElem?_pos, -getElem?_neg, hwr]
  refine nextS.intro (i + 1) (by omega) (by omega) ?_
  refine headId (fun _ _ hk => hk) (AOK.of ⟨trivial, trivial⟩) (fun b hb => by omega) (by simp) rfl fun y' hy => ?_
  simp only [ordT, List.mem_cons, List.not_mem_nil, or_false] at hy
  rcases hy with rfl | rfl | rfl | rfl <;> exact ⟨(by simp [GB]), by simp [scp, live]⟩

theorem rem_nat (x : Int) (m : Nat) (hm : 0 < m) (h0 : 0 ≤ x) (h255 : x ≤ 255) : ∃ r : Nat, r < m ∧ x.tmod (m : Int) = r := by
  refine ⟨x.toNat % m, Nat.mod_lt _ hm, ?_⟩
  rw [Int.tmod_eq_emod_of_nonneg h0]
  have : (x.toNat : Int) = x := by omega
  conv => lhs; rw [← this]
  push_cast
  rfl

set_option maxHeartbeats 2000000 in
theorem order_ (x0 x1 : Int) (a0 : 0 ≤ x0) (a1 : x0 ≤ 255) (b0 : 0 ≤ x1) (b1 : x1 ≤ 255) : AC Try.prog 9 [.int .u8 x0, .int .u8 x1] [] (fun v _ => v = .bool true) := by
  refine entry hmix cf9 ?_
  obtain ⟨k, hk, ek⟩ := rem_nat x0 8 (by omega) a0 a1
  obtain ⟨n, hn, en⟩ := rem_nat x1 101 (by omega) b0 b1
  have ek : x0.tmod 8 = (k : Int) := ek
  have en : x1.tmod 101 = (n : Int) := en
  have w0 : IntKind.i64.wrap x0 = x0 := IntWalk.i64_in _ (by omega)
  have w1 : IntKind.i64.wrap x1 = x1 := IntWalk.i64_in _ (by omega)
  have w2 : IntKind.i64.wrap (k : Int) = k := IntWalk.i64_in _ (by omega)
  have w3 : IntKind.i64.wrap (n : Int) = n := IntWalk.i64_in _ (by omega)
  have w4 : IntKind.i64.wrap (1 + (k : Int)) = ((k + 1 : Nat) : Int) := by rw [IntWalk.i64_in _ (by omega)]; omega
  simp (maxSteps := 2000000) (implicitDefEqProofs := false) [DN, NB, begT, atHead, kd, wantedA, evP, evR, evF, evL, evC, evI, evBin, evUn, evEq, evSt, evRes, plain, scp, scpA, scpL, rdRow, rdCells, veq, veqA, veqL, isHole, Value.cells, evalL, optI, evBounds, evFill, evFillR, evApp, newsOf, wrCells, one1, fitsApp, evClr, undef, onB_bool, List.getElem?_concat_length, List.getElem?_cons_zero, List.getElem?_cons_succ, List.getElem?_toArray, List.getElem?_nil, List.set_cons_zero, List.set_cons_succ, List.cons_append, List.nil_append, -getElem?_pos, -getElem?_neg, ek, en, w0, w1, w2, w3, w4]
  refine pnewG (n := 1) (each := k + 1) (by omega) (by omega) (by omega) ?_
  rw [ord_new (by omega)]
  simp (maxSteps := 2000000) (implicitDefEqProofs := false) [DN, NB, begT, atHead, kd, wantedA, evP, evR, evF, evL, evC, evI, evBin, evUn, evEq, evSt, evRes, plain, scp, scpA, scpL, rdRow, rdCells, veq, veqA, veqL, isHole, Value.cells, evalL, optI, evBounds, evFill, evFillR, evApp, newsOf, wrCells, one1, fitsApp, evClr, undef, onB_bool, List.getElem?_concat_length, List.getElem?_cons_zero, List.getElem?_cons_succ, List.getElem?_toArray, List.getElem?_nil, List.set_cons_zero, List.set_cons_succ, List.cons_append, List.nil_append, -getElem?_pos, -getElem?_neg]
  refine loop9 (k + 1) n (by omega) (by omega) (by omega) _ _ _ ?_ ?_
  · refine headId (fun _ _ hk => hk) (AOK.of ⟨trivial, trivial⟩) (fun b hb => by omega) (by simp) rfl fun y' hy => ?_
    simp only [ordT, List.mem_cons, List.not_mem_nil, or_false] at hy
    rcases hy with rfl | rfl | rfl | rfl <;> exact ⟨(by simp [GB]), by simp [scp, live]⟩
  simp (maxSteps := 2000000) (implicitDefEqProofs := false) [DN, NB, begT, atHead, kd, wantedA, evP, evR, evF, evL, evC, evI, evBin, evUn, evEq, evSt, evRes, plain, scp, scpA, scpL, rdRow, rdCells, veq, veqA, veqL, isHole, Value.cells, evalL, optI, evBounds, evFill, evFillR, evApp, newsOf, wrCells, one1, fitsApp, evClr, undef, onB_bool, List.getElem?_concat_length, List.getElem?_cons_zero, List.getElem?_cons_succ, List.getElem?_toArray, List.getElem?_nil, List.set_cons_zero, List.set_cons_succ, List.cons_append, List.nil_append, -getElem?_pos, -getElem?_neg, ordT]
  refine awakeK _ _ fun h' => ?_
  simp (maxSteps := 2000000) (implicitDefEqProofs := false) [DN, NB, begT, atHead, kd, wantedA, evP, evR, evF, evL, evC, evI, evBin, evUn, evEq, evSt, evRes, plain, scp, scpA, scpL, rdRow, rdCells, veq, veqA, veqL, isHole, Value.cells, evalL, optI, evBounds, evFill, evFillR, evApp, newsOf, wrCells, one1, fitsApp, evClr, undef, onB_bool, List.getElem?_concat_length, List.getElem?_cons_zero, List.getElem?_cons_succ, List.getElem?_toArray, List.getElem?_nil, List.set_cons_zero, List.set_cons_succ, List.cons_append, List.nil_append, -getElem?_pos, -getElem?_neg]

end Px
end Go.Proofs.Ytekhadlpcdjlpaa
