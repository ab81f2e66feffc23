/- fifo: FifoStates, on the blocks. -/
import Derived.Test.YtekhadlpcdjlpaaFx10
namespace Go.Proofs.Ytekhadlpcdjlpaa
namespace Fx
open Go Abs Code
set_option linter.unusedVariables false
set_option linter.unusedSimpArgs false
set_option maxRecDepth 100000

def enB (x : En) : ABlk := .cells [.int .i64 x.k, .int .i64 x.t, .int .i64 x.now] 122 none
theorem enB_noNames (x : En) : noNames (enB x) := by intro v hv; simp at hv; rcases hv with rfl | rfl | rfl <;> rfl
theorem QOutN.noNames {q : List Int} {n : Nat} {v : Value} {E : AH} (h : QOutN q n v E) : ∀ k ∈ E, Abs.noNames k := by
  cases h with
  | nil => simp
  | emp => intro k hk; simp at hk; subst hk; intro v hv; cases hv
  | some_ => intro k hk; simp at hk; subst hk; exact ints_noNames _ _ _

theorem aok_noNames {g : AH} (h : ∀ k ∈ g, noNames k) : AOK g := fun b k hb => scp_noNames (h k (List.mem_of_getElem? hb)) _

/-- The blocks within a round. -/
def rH (l : List En) (s : LS) (x : En) (E : AH) : AH := .row (rowOf l) :: lkB s :: enB x :: E
theorem rH_noNames {l : List En} {s : LS} {x : En} {E : AH} (h : ∀ k ∈ E, noNames k) : ∀ k ∈ rH l s x E, noNames k := by
  intro k hk
  simp only [rH, List.mem_cons] at hk
  rcases hk with rfl | rfl | rfl | hk
  · exact rowOf_noNames l
  · trivial
  · exact enB_noNames x
  · exact h k hk

theorem QOutN.scp {q : List Int} {v : Value} {E : AH} (h : QOutN q 3 v E) (l : List En) (s : LS) (x : En) : Abs.scp (live (rH l s x E)) v = true := by
  cases h <;> simp [Abs.scp, rH, live]

def cT (n : Int) (qv : Value) (q : List Int) (o : Int) (b : Bool) (sv : Value) (len i : Nat) (t y : Int) (j : Nat) : List (Nat × Value) :=
  [(0, .int .i64 n), (5, .pointer (some ⟨1, 0, none⟩)), (9, .int .i64 o), (10, .bool b), (11, qv), (12, .int .i64 t), (13, .int .i64 y), (14, .int .i64 ((q.take j).count t)), (41, sv), (42, .int .i64 len), (43, .int .i64 i), (57, .int .i64 n), (58, .int .i64 t), (64, qv), (65, .int .i64 q.length), (66, .int .i64 j)]

set_option maxHeartbeats 2000000 in
/-- How often one is in the queue. -/
theorem loop20c (n : Int) (l : List En) (s : LS) (x : En) (q : List Int) (qv : Value) (E : AH) (hq : QOutN q 3 qv E) (hql : q.length ≤ 900) (o : Int) (b : Bool) (sv : Value) (hsv : ∀ g : AH, scp (live (.row (rowOf l) :: g)) sv = true) (len i : Nat) (tt y : Int) (t : T) (h : AH) (Q : AExit → T → AH → Prop)
    (h0 : atHeadV 1 108 (cT n qv q o b sv len i tt y 0) (rH l s x E) t h)
    (hQ : Q (.exit 4) (mkT 108 ((67, .bool false) :: cT n qv q o b sv len i tt y q.length)) (rH l s x E)) : ALoop Try.prog 1 lp20_2 t h Q := by
  refine loop3 hmix 108 (fun j => j ≤ q.length) (fun j => q.length - j) (cT n qv q o b sv len i tt y) (fun _ => rH l s x E) 0 (Nat.zero_le _) h0 ?_
  intro j hj
  by_cases hlt : j < q.length
  case neg =>
    obtain rfl : j = q.length := by omega
    simp (maxSteps := 2000000) (implicitDefEqProofs := false) [DN, NB, begT, atHead, kd, wantedA, evP, evR, evF, evL, evC, evBin, evUn, evEq, evSt, evRes, plain, scp, scpA, scpL, rdRow, rdCells, veq, veqA, veqL, isHole, Value.cells, evalL, optI, evBounds, evFill, evFillR, evApp, newsOf, wrCells, one1, fitsApp, evClr, undef, onB_bool, List.getElem?_concat_length, List.getElem?_cons_zero, List.getElem?_cons_succ, List.getElem?_toArray, List.getElem?_nil, List.set_cons_zero, List.set_cons_succ, List.cons_append, List.nil_append, -getElem?_pos, -getElem?_neg, cT] at hQ
    simp (maxSteps := 2000000) (implicitDefEqProofs := false) [DN, NB, begT, atHead, kd, wantedA, evP, evR, evF, evL, evC, evBin, evUn, evEq, evSt, evRes, plain, scp, scpA, scpL, rdRow, rdCells, veq, veqA, veqL, isHole, Value.cells, evalL, optI, evBounds, evFill, evFillR, evApp, newsOf, wrCells, one1, fitsApp, evClr, undef, onB_bool, List.getElem?_concat_length, List.getElem?_cons_zero, List.getElem?_cons_succ, List.getElem?_toArray, List.getElem?_nil, List.set_cons_zero, List.set_cons_succ, List.cons_append, List.nil_append, -getElem?_pos, -getElem?_neg, cT, lp20_2]
    exact hQ
  cases hq with
  | nil h => subst h; simp at hlt
  | emp h => subst h; simp at hlt
  | some_ hne =>
    obtain ⟨v, hv⟩ : ∃ v, q[j]? = some v := ⟨_, List.getElem?_eq_getElem hlt⟩
    have hget : (ints q)[j]? = some (.int .i64 v) := by rw [ints_get, hv]; rfl
    have hlt' : (j : Int) < q.length := by omega
    have hj0 : (0 : Int) ≤ j := by omega
    have hwr : IntKind.i64.wrap ((j : Int) + 1) = ((j + 1 : Nat) : Int) := by rw [IntWalk.i64_in _ (by omega)]; omega
    have hcl : (q.take j).count tt ≤ 900 := by have := List.count_le_length (a := tt) (l := q.take j); rw [List.length_take] at this; omega
    have hwc : IntKind.i64.wrap (((q.take j).count tt : Nat) + 1 : Int) = (((q.take j).count tt + 1 : Nat) : Int) := by rw [IntWalk.i64_in _ (by omega)]; omega
    have htj : q.take (j + 1) = q.take j ++ [v] := by rw [List.take_add_one, hv]; rfl
    have hE : ∀ k ∈ ([.cells (ints q) 3 (some 1)] : AH), noNames k := by intro k hk; simp at hk; subst hk; exact ints_noNames _ _ _
    have fin : ∀ t', t'.length = 108 → (∀ y' ∈ cT n (.slice (some ⟨3, 0, none⟩) q.length (OPEN + q.length)) q o b sv len i tt y (j + 1), getT t' y'.1 = some y'.2) → nextS 1 108 (fun j => j ≤ q.length) (fun j => q.length - j) (cT n (.slice (some ⟨3, 0, none⟩) q.length (OPEN + q.length)) q o b sv len i tt y) (fun _ => rH l s x [.cells (ints q) 3 (some 1)]) j t' (rH l s x [.cells (ints q) 3 (some 1)]) := by
      intro t' e1 e2
      refine nextS.intro (j + 1) (by omega) (by omega) ?_
      refine headId (fun _ _ hk => hk) (aok_noNames (rH_noNames hE)) (fun b hb => ?_) (by simp [rH]) e1 fun y' hy => ⟨e2 y' hy, ?_⟩
      · obtain rfl : b = 0 := by omega
        rfl
      · simp only [cT, List.mem_cons, List.not_mem_nil, or_false] at hy
        rcases hy with rfl | rfl | rfl | rfl | rfl | rfl | rfl | rfl | rfl | rfl | rfl | rfl | rfl | rfl | rfl | rfl
        case inr.inr.inr.inr.inr.inr.inr.inr.inl => exact hsv _
        all_goals simp [scp, rH, live]
    by_cases hvt : v = tt
    · have hb : (v == tt) = true := by simp [hvt]
      have hc : (q.take (j + 1)).count tt = (q.take j).count tt + 1 := by rw [htj]; simp [hvt]
      simp (maxSteps := 2000000) (implicitDefEqProofs := false) [DN, NB, begT, atHead, kd, wantedA, evP, evR, evF, evL, evC, evBin, evUn, evEq, evSt, evRes, plain, scp, scpA, scpL, rdRow, rdCells, veq, veqA, veqL, isHole, Value.cells, evalL, optI, evBounds, evFill, evFillR, evApp, newsOf, wrCells, one1, fitsApp, evClr, undef, onB_bool, List.getElem?_concat_length, List.getElem?_cons_zero, List.getElem?_cons_succ, List.getElem?_toArray, List.getElem?_nil, List.set_cons_zero, List.set_cons_succ, List.cons_append, List.nil_append, -getElem?_pos, -getElem?_neg, cT, rH, lp20_2, hlt', hj0, hget, hb, hwr, hwc]
      exact fin _ rfl (by simp only [cT, hc, List.mem_cons, List.not_mem_nil, or_false]; rintro y' (rfl | rfl | rfl | rfl | rfl | rfl | rfl | rfl | rfl | rfl | rfl | rfl | rfl | rfl | rfl | rfl) <;> simp [GB])
    · have hb : (v == tt) = false := by simp [hvt]
      have hc : (q.take (j + 1)).count tt = (q.take j).count tt := by rw [htj]; simp [hvt]
      simp (maxSteps := 2000000) (implicitDefEqProofs := false) [DN, NB, begT, atHead, kd, wantedA, evP, evR, evF, evL, evC, evBin, evUn, evEq, evSt, evRes, plain, scp, scpA, scpL, rdRow, rdCells, veq, veqA, veqL, isHole, Value.cells, evalL, optI, evBounds, evFill, evFillR, evApp, newsOf, wrCells, one1, fitsApp, evClr, undef, onB_bool, List.getElem?_concat_length, List.getElem?_cons_zero, List.getElem?_cons_succ, List.getElem?_toArray, List.getElem?_nil, List.set_cons_zero, List.set_cons_succ, List.cons_append, List.nil_append, -getElem?_pos, -getElem?_neg, cT, rH, lp20_2, hlt', hj0, hget, hb, hwr]
      exact fin _ rfl (by simp only [cT, hc, List.mem_cons, List.not_mem_nil, or_false]; rintro y' (rfl | rfl | rfl | rfl | rfl | rfl | rfl | rfl | rfl | rfl | rfl | rfl | rfl | rfl | rfl | rfl) <;> simp [GB])

def mT (n : Int) (qv : Value) (o : Int) (b : Bool) (sv : Value) (len i : Nat) (t : Nat) : List (Nat × Value) :=
  [(0, .int .i64 n), (5, .pointer (some ⟨1, 0, none⟩)), (9, .int .i64 o), (10, .bool b), (11, qv), (41, sv), (42, .int .i64 len), (43, .int .i64 i), (57, .int .i64 n), (58, .int .i64 t)]

theorem mT_head {l : List En} {s : LS} {x : En} {E : AH} {n : Int} {qv : Value} {o : Int} {b : Bool} {sv : Value} {len i t : Nat} {t' : T} (hq : QOutN s.q 3 qv E) (hsv : ∀ g : AH, scp (live (.row (rowOf l) :: g)) sv = true) (e1 : t'.length = 108) (e2 : ∀ y' ∈ mT n qv o b sv len i t, getT t' y'.1 = some y'.2) :
    atHeadV 1 108 (mT n qv o b sv len i t) (rH l s x E) t' (rH l s x E) := by
  refine headId (fun _ _ hk => hk) (aok_noNames (rH_noNames hq.noNames)) (fun b hb => ?_) (by simp [rH]) e1 fun y' hy => ⟨e2 y' hy, ?_⟩
  · obtain rfl : b = 0 := by omega
    rfl
  · simp only [mT, List.mem_cons, List.not_mem_nil, or_false] at hy
    rcases hy with rfl | rfl | rfl | rfl | rfl | rfl | rfl | rfl | rfl | rfl
    case inr.inr.inr.inr.inl => exact hq.scp l s x
    case inr.inr.inr.inr.inr.inl => exact hsv _
    all_goals simp [scp, rH, live]

theorem cT_head {l : List En} {s : LS} {x : En} {E : AH} {n : Int} {qv : Value} {o : Int} {b : Bool} {sv : Value} {len i : Nat} {tt y : Int} {j : Nat} {t' : T} (hq : QOutN s.q 3 qv E) (hsv : ∀ g : AH, scp (live (.row (rowOf l) :: g)) sv = true) (e1 : t'.length = 108) (e2 : ∀ y' ∈ cT n qv s.q o b sv len i tt y j, getT t' y'.1 = some y'.2) :
    atHeadV 1 108 (cT n qv s.q o b sv len i tt y j) (rH l s x E) t' (rH l s x E) := by
  refine headId (fun _ _ hk => hk) (aok_noNames (rH_noNames hq.noNames)) (fun b hb => ?_) (by simp [rH]) e1 fun y' hy => ⟨e2 y' hy, ?_⟩
  · obtain rfl : b = 0 := by omega
    rfl
  · simp only [cT, List.mem_cons, List.not_mem_nil, or_false] at hy
    rcases hy with rfl | rfl | rfl | rfl | rfl | rfl | rfl | rfl | rfl | rfl | rfl | rfl | rfl | rfl | rfl | rfl
    case inr.inr.inr.inr.inl => exact hq.scp l s x
    case inr.inr.inr.inr.inr.inr.inr.inr.inl => exact hsv _
    case inr.inr.inr.inr.inr.inr.inr.inr.inr.inr.inr.inr.inr.inl => exact hq.scp l s x
    all_goals simp [scp, rH, live]

theorem count_nodup : ∀ {l : List Int} {a : Int}, l.Nodup → a ∈ l → l.count a = 1
  | b :: l, a, hn, ha => by
    obtain ⟨h1, h2⟩ := List.nodup_cons.1 hn
    by_cases e : b = a
    · subst e
      rw [List.count_cons_self, List.count_eq_zero.2 h1]
    · rw [List.count_cons_of_ne e]
      exact count_nodup h2 (by rcases List.mem_cons.1 ha with h | h; · exact absurd h.symm e
                               · exact h)

theorem stateL_get {s : LS} {t : Nat} (h : t < s.st.length) : s.st[t]? = some (stateL s t) := by
  obtain ⟨y, hy⟩ : ∃ y, s.st[t]? = some y := ⟨_, List.getElem?_eq_getElem h⟩
  have : ¬ (t : Int) < 0 := by omega
  simp [stateL, hy, this]

set_option maxHeartbeats 8000000 in
/-- Thread by thread. -/
theorem loop20b (nt : Nat) (l : List En) (s : LS) (good : GoodL s) (hst : s.st.length = nt) (hnt : nt ≤ 64) (x : En) (qv : Value) (E : AH) (hq : QOutN s.q 3 qv E) (hql : s.q.length ≤ 900) (sv : Value) (hsv : ∀ g : AH, scp (live (.row (rowOf l) :: g)) sv = true) (len i : Nat) (t : T) (h : AH) (Q : AExit → T → AH → Prop)
    (h0 : atHeadV 1 108 (mT nt qv (max s.own 0) (s.own != -1) sv len i 0) (rH l s x E) t h)
    (hQ : Q (.exit 2) (mkT 108 ((59, .bool false) :: mT nt qv (max s.own 0) (s.own != -1) sv len i nt)) (rH l s x E)) : ALoop Try.prog 1 lp20_1 t h Q := by
  refine loop3 hmix 108 (fun k => k ≤ nt) (fun k => nt - k) (mT nt qv (max s.own 0) (s.own != -1) sv len i) (fun _ => rH l s x E) 0 (Nat.zero_le _) h0 ?_
  intro k hk
  by_cases hlt : k < nt
  case neg =>
    obtain rfl : k = nt := by omega
    simp (maxSteps := 2000000) (implicitDefEqProofs := false) [DN, NB, begT, atHead, kd, wantedA, evP, evR, evF, evL, evC, evBin, evUn, evEq, evSt, evRes, plain, scp, scpA, scpL, rdRow, rdCells, veq, veqA, veqL, isHole, Value.cells, evalL, optI, evBounds, evFill, evFillR, evApp, newsOf, wrCells, one1, fitsApp, evClr, undef, onB_bool, List.getElem?_concat_length, List.getElem?_cons_zero, List.getElem?_cons_succ, List.getElem?_toArray, List.getElem?_nil, List.set_cons_zero, List.set_cons_succ, List.cons_append, List.nil_append, -getElem?_pos, -getElem?_neg, mT] at hQ
    simp (maxSteps := 2000000) (implicitDefEqProofs := false) [DN, NB, begT, atHead, kd, wantedA, evP, evR, evF, evL, evC, evBin, evUn, evEq, evSt, evRes, plain, scp, scpA, scpL, rdRow, rdCells, veq, veqA, veqL, isHole, Value.cells, evalL, optI, evBounds, evFill, evFillR, evApp, newsOf, wrCells, one1, fitsApp, evClr, undef, onB_bool, List.getElem?_concat_length, List.getElem?_cons_zero, List.getElem?_cons_succ, List.getElem?_toArray, List.getElem?_nil, List.set_cons_zero, List.set_cons_succ, List.cons_append, List.nil_append, -getElem?_pos, -getElem?_neg, mT, lp20_1]
    exact hQ
  have hlt' : (k : Int) < nt := by omega
  have hwr : IntKind.i64.wrap ((k : Int) + 1) = ((k + 1 : Nat) : Int) := by rw [IntWalk.i64_in _ (by omega)]; omega
  have hy := stateL_get (s := s) (t := k) (by omega)
  have hinq := good.inq k
  have hown := good.own k
  rw [Int.toNat_natCast, hy] at hinq
  rw [hy] at hown
  obtain ⟨y, hyy⟩ : ∃ y, stateL s k = y := ⟨_, rfl⟩
  rw [hyy] at hinq hown
  have hinq' : (k : Int) ∈ s.q ↔ y = 2 := by
    rw [hinq]
    constructor
    · rintro ⟨_, h⟩; injection h
    · intro h; exact ⟨by omega, by rw [h]⟩
  have hown' : (y = 3 ∨ y = 4 ∨ y = 6) ↔ s.own = (k : Int) := by
    rw [← hown]
    constructor
    · intro h; exact ⟨y, rfl, h⟩
    · rintro ⟨v, hv, h⟩; injection hv with hv; rw [hv]; exact h
  have hcnt : s.q.count (k : Int) = if y = 2 then 1 else 0 := by
    split
    · rename_i h; exact count_nodup good.nodup (hinq'.2 h)
    · rename_i h; exact List.count_eq_zero.2 fun hm => h (hinq'.1 hm)
  have fin : ∀ t', t'.length = 108 → (∀ y' ∈ mT nt qv (max s.own 0) (s.own != -1) sv len i (k + 1), getT t' y'.1 = some y'.2) → nextS 1 108 (fun k => k ≤ nt) (fun k => nt - k) (mT nt qv (max s.own 0) (s.own != -1) sv len i) (fun _ => rH l s x E) k t' (rH l s x E) := by
    intro t' e1 e2
    exact nextS.intro (k + 1) (by omega) (by omega) (mT_head hq hsv e1 e2)
  have hqv : ∃ cap, ∃ A, qv = .slice A s.q.length cap := by
    cases hq with
    | nil h => exact ⟨0, none, by rw [h]; rfl⟩
    | emp h => exact ⟨0, _, by rw [h]; rfl⟩
    | some_ h => exact ⟨_, _, rfl⟩
  obtain ⟨qcap, qA, rfl⟩ := hqv
  have hlen : s.q.take s.q.length = s.q := List.take_length
  obtain ⟨o, ho⟩ : ∃ o, max s.own 0 = o := ⟨_, rfl⟩
  obtain ⟨b, hb⟩ : ∃ b, (s.own != -1) = b := ⟨_, rfl⟩
  rw [ho, hb] at fin
  rw [ho, hb]
  simp (maxSteps := 2000000) (implicitDefEqProofs := false) [DN, NB, begT, atHead, kd, wantedA, evP, evR, evF, evL, evC, evBin, evUn, evEq, evSt, evRes, plain, scp, scpA, scpL, rdRow, rdCells, veq, veqA, veqL, isHole, Value.cells, evalL, optI, evBounds, evFill, evFillR, evApp, newsOf, wrCells, one1, fitsApp, evClr, undef, onB_bool, List.getElem?_concat_length, List.getElem?_cons_zero, List.getElem?_cons_succ, List.getElem?_toArray, List.getElem?_nil, List.set_cons_zero, List.set_cons_succ, List.cons_append, List.nil_append, -getElem?_pos, -getElem?_neg, mT, lp20_1, hlt']
  refine stateG (s := s) k rfl ?_
  rw [hyy]
  simp (maxSteps := 2000000) (implicitDefEqProofs := false) [DN, NB, begT, atHead, kd, wantedA, evP, evR, evF, evL, evC, evBin, evUn, evEq, evSt, evRes, plain, scp, scpA, scpL, rdRow, rdCells, veq, veqA, veqL, isHole, Value.cells, evalL, optI, evBounds, evFill, evFillR, evApp, newsOf, wrCells, one1, fitsApp, evClr, undef, onB_bool, List.getElem?_concat_length, List.getElem?_cons_zero, List.getElem?_cons_succ, List.getElem?_toArray, List.getElem?_nil, List.set_cons_zero, List.set_cons_succ, List.cons_append, List.nil_append, -getElem?_pos, -getElem?_neg]
  refine loop20c nt l s x s.q _ E hq hql o b sv hsv len i k y _ _ _ (cT_head hq hsv rfl ?_) ?_
  · simp only [cT, List.mem_cons, List.not_mem_nil, or_false]
    rintro y' (rfl | rfl | rfl | rfl | rfl | rfl | rfl | rfl | rfl | rfl | rfl | rfl | rfl | rfl | rfl | rfl) <;> simp [GB]
  -- what is asked
  have done : ∀ t', t'.length = 108 → getT t' 58 = some (.int .i64 ((k : Int) + 1)) → getT t' 0 = some (.int .i64 nt) → getT t' 5 = some (.pointer (some ⟨1, 0, none⟩)) → getT t' 9 = some (.int .i64 o) → getT t' 10 = some (.bool b) → getT t' 11 = some (.slice qA s.q.length qcap) → getT t' 41 = some sv → getT t' 42 = some (.int .i64 len) → getT t' 43 = some (.int .i64 i) → getT t' 57 = some (.int .i64 nt) →
      nextS 1 108 (fun k => k ≤ nt) (fun k => nt - k) (mT nt (.slice qA s.q.length qcap) o b sv len i) (fun _ => rH l s x E) k t' (rH l s x E) := by
    intro t' e1 e2 e3 e4 e5 e6 e7 e8 e9 e10 e11
    refine fin t' e1 ?_
    simp only [mT, List.mem_cons, List.not_mem_nil, or_false]
    rintro y' (rfl | rfl | rfl | rfl | rfl | rfl | rfl | rfl | rfl | rfl)
    · exact e3
    · exact e4
    · exact e5
    · exact e6
    · exact e7
    · exact e8
    · exact e9
    · exact e10
    · exact e11
    · rw [e2]; simp
  by_cases c1 : y = 3 ∨ y = 4 ∨ y = 6
  · have e1 := hown'.1 c1
    have hb1 : b = true := by rw [← hb, e1]; simp
    have ho1 : (o == (k : Int)) = true := by rw [← ho, e1]; simp
    have hc0 : s.q.count (k : Int) = 0 := by rw [hcnt, if_neg (by omega)]
    have b2 : (y == 2) = false := by simp; omega
    subst hb1
    rcases c1 with c1 | c1 | c1 <;> subst c1 <;> simp (maxSteps := 2000000) (implicitDefEqProofs := false) [DN, NB, begT, atHead, kd, wantedA, evP, evR, evF, evL, evC, evBin, evUn, evEq, evSt, evRes, plain, scp, scpA, scpL, rdRow, rdCells, veq, veqA, veqL, isHole, Value.cells, evalL, optI, evBounds, evFill, evFillR, evApp, newsOf, wrCells, one1, fitsApp, evClr, undef, onB_bool, List.getElem?_concat_length, List.getElem?_cons_zero, List.getElem?_cons_succ, List.getElem?_toArray, List.getElem?_nil, List.set_cons_zero, List.set_cons_succ, List.cons_append, List.nil_append, -getElem?_pos, -getElem?_neg, cT, hlen, ho1, hc0, b2, hwr] <;> exact done _ rfl (by simp [GB]) (by simp [GB]) (by simp [GB]) (by simp [GB]) (by simp [GB]) (by simp [GB]) (by simp [GB]) (by simp [GB]) (by simp [GB]) (by simp [GB])
  · have b3 : (y == 3) = false := by simp; omega
    have b4 : (y == 4) = false := by simp; omega
    have b6 : (y == 6) = false := by simp; omega
    have hno : ¬ s.own = (k : Int) := fun h => c1 (hown'.2 h)
    have hob : b = false ∨ (b = true ∧ (o == (k : Int)) = false) := by
      by_cases c2 : s.own = -1
      · left; rw [← hb, c2]; rfl
      · right
        have := good.ownr
        exact ⟨by rw [← hb]; simpa using c2, by rw [← ho]; simp; omega⟩
    by_cases c2 : y = 2
    · have b2 : (y == 2) = true := by simp [c2]
      have hc0 : s.q.count (k : Int) = 1 := by rw [hcnt, if_pos c2]
      rcases hob with hb1 | ⟨hb1, ho1⟩
      · subst hb1
        simp (maxSteps := 2000000) (implicitDefEqProofs := false) [DN, NB, begT, atHead, kd, wantedA, evP, evR, evF, evL, evC, evBin, evUn, evEq, evSt, evRes, plain, scp, scpA, scpL, rdRow, rdCells, veq, veqA, veqL, isHole, Value.cells, evalL, optI, evBounds, evFill, evFillR, evApp, newsOf, wrCells, one1, fitsApp, evClr, undef, onB_bool, List.getElem?_concat_length, List.getElem?_cons_zero, List.getElem?_cons_succ, List.getElem?_toArray, List.getElem?_nil, List.set_cons_zero, List.set_cons_succ, List.cons_append, List.nil_append, -getElem?_pos, -getElem?_neg, cT, hlen, hc0, b2, b3, b4, b6, hwr]
        exact done _ rfl (by simp [GB]) (by simp [GB]) (by simp [GB]) (by simp [GB]) (by simp [GB]) (by simp [GB]) (by simp [GB]) (by simp [GB]) (by simp [GB]) (by simp [GB])
      · subst hb1
        simp (maxSteps := 2000000) (implicitDefEqProofs := false) [DN, NB, begT, atHead, kd, wantedA, evP, evR, evF, evL, evC, evBin, evUn, evEq, evSt, evRes, plain, scp, scpA, scpL, rdRow, rdCells, veq, veqA, veqL, isHole, Value.cells, evalL, optI, evBounds, evFill, evFillR, evApp, newsOf, wrCells, one1, fitsApp, evClr, undef, onB_bool, List.getElem?_concat_length, List.getElem?_cons_zero, List.getElem?_cons_succ, List.getElem?_toArray, List.getElem?_nil, List.set_cons_zero, List.set_cons_succ, List.cons_append, List.nil_append, -getElem?_pos, -getElem?_neg, cT, hlen, ho1, hc0, b2, b3, b4, b6, hwr]
        exact done _ rfl (by simp [GB]) (by simp [GB]) (by simp [GB]) (by simp [GB]) (by simp [GB]) (by simp [GB]) (by simp [GB]) (by simp [GB]) (by simp [GB]) (by simp [GB])
    · have b2 : (y == 2) = false := by simp [c2]
      have hc0 : s.q.count (k : Int) = 0 := by rw [hcnt, if_neg c2]
      rcases hob with hb1 | ⟨hb1, ho1⟩
      · subst hb1
        simp (maxSteps := 2000000) (implicitDefEqProofs := false) [DN, NB, begT, atHead, kd, wantedA, evP, evR, evF, evL, evC, evBin, evUn, evEq, evSt, evRes, plain, scp, scpA, scpL, rdRow, rdCells, veq, veqA, veqL, isHole, Value.cells, evalL, optI, evBounds, evFill, evFillR, evApp, newsOf, wrCells, one1, fitsApp, evClr, undef, onB_bool, List.getElem?_concat_length, List.getElem?_cons_zero, List.getElem?_cons_succ, List.getElem?_toArray, List.getElem?_nil, List.set_cons_zero, List.set_cons_succ, List.cons_append, List.nil_append, -getElem?_pos, -getElem?_neg, cT, hlen, hc0, b2, b3, b4, b6, hwr]
        exact done _ rfl (by simp [GB]) (by simp [GB]) (by simp [GB]) (by simp [GB]) (by simp [GB]) (by simp [GB]) (by simp [GB]) (by simp [GB]) (by simp [GB]) (by simp [GB])
      · subst hb1
        simp (maxSteps := 2000000) (implicitDefEqProofs := false) [DN, NB, begT, atHead, kd, wantedA, evP, evR, evF, evL, evC, evBin, evUn, evEq, evSt, evRes, plain, scp, scpA, scpL, rdRow, rdCells, veq, veqA, veqL, isHole, Value.cells, evalL, optI, evBounds, evFill, evFillR, evApp, newsOf, wrCells, one1, fitsApp, evClr, undef, onB_bool, List.getElem?_concat_length, List.getElem?_cons_zero, List.getElem?_cons_succ, List.getElem?_toArray, List.getElem?_nil, List.set_cons_zero, List.set_cons_succ, List.cons_append, List.nil_append, -getElem?_pos, -getElem?_neg, cT, hlen, ho1, hc0, b2, b3, b4, b6, hwr]
        exact done _ rfl (by simp [GB]) (by simp [GB]) (by simp [GB]) (by simp [GB]) (by simp [GB]) (by simp [GB]) (by simp [GB]) (by simp [GB]) (by simp [GB]) (by simp [GB])

def oT (n : Nat) (sv : Value) (len i : Nat) : List (Nat × Value) := [(0, .int .i64 n), (5, .pointer (some ⟨1, 0, none⟩)), (41, sv), (42, .int .i64 len), (43, .int .i64 i)]
def oH (s0 : LS) (l : List En) (i : Nat) : AH := [.row (rowOf l), lkB (afterL s0 (l.take i))]

theorem oT_head {s0 : LS} {l : List En} {n : Nat} {sv : Value} {len i : Nat} {t' : T} {h' : AH} (hsv : ∀ g : AH, scp (live (.row (rowOf l) :: g)) sv = true) (h0 : h'[0]? = some (.row (rowOf l))) (h1 : h'[1]? = some (lkB (afterL s0 (l.take i)))) (e1 : t'.length = 108) (e2 : ∀ y' ∈ oT n sv len i, getT t' y'.1 = some y'.2) :
    atHeadV 1 108 (oT n sv len i) (oH s0 l i) t' h' := by
  refine headId (fun b k hb => ?_) (aok_noNames ?_) (fun b hb => ?_) (by simp [oH]) e1 fun y' hy => ⟨e2 y' hy, ?_⟩
  · match b with
    | 0 => injection hb with hb; subst hb; exact h0
    | 1 => injection hb with hb; subst hb; exact h1
    | m + 2 => simp [oH] at hb
  · intro k hk
    simp only [oH, List.mem_cons, List.not_mem_nil, or_false] at hk
    rcases hk with rfl | rfl
    · exact rowOf_noNames l
    · trivial
  · obtain rfl : b = 0 := by omega
    rfl
  · simp only [oT, List.mem_cons, List.not_mem_nil, or_false] at hy
    rcases hy with rfl | rfl | rfl | rfl | rfl
    case inr.inr.inl => exact hsv _
    all_goals simp [scp, oH, live]

theorem afterL_stlen (s : LS) (l : List En) : (afterL s l).st.length = s.st.length := by
  induction l generalizing s with
  | nil => rfl
  | cons x l ih =>
    show (afterL (takeL s x) l).st.length = _
    rw [ih]
    unfold takeL
    split <;> simp

set_option maxHeartbeats 4000000 in
theorem states_ (n : Int) (l : List En) (A : Option Addr) (cap : Nat) (hcl : l.length ≤ cap) (hcap : cap < OPEN) (hA : (l = [] ∧ cap = 0 ∧ A = none) ∨ (∃ d, l = [] ∧ A = some ⟨0, 0, some d⟩) ∨ A = some ⟨0, 0, none⟩) :
    AC Try.prog 20 [.int .i64 n, .slice A l.length cap] [.row (rowOf l)] (fun v _ => v = .bool true) := by
  by_cases c1 : 80 < (l.length : Int)
  · refine entry hmix cf20 ?_
    simp (maxSteps := 2000000) (implicitDefEqProofs := false) [DN, NB, begT, atHead, kd, wantedA, evP, evR, evF, evL, evC, evBin, evUn, evEq, evSt, evRes, plain, scp, scpA, scpL, rdRow, rdCells, veq, veqA, veqL, isHole, Value.cells, evalL, optI, evBounds, evFill, evFillR, evApp, newsOf, wrCells, one1, fitsApp, evClr, undef, onB_bool, List.getElem?_concat_length, List.getElem?_cons_zero, List.getElem?_cons_succ, List.getElem?_toArray, List.getElem?_nil, List.set_cons_zero, List.set_cons_succ, List.cons_append, List.nil_append, -getElem?_pos, -getElem?_neg, c1]
    refine awakeK _ _ fun h' => ?_
    simp (maxSteps := 2000000) (implicitDefEqProofs := false) [DN, NB, begT, atHead, kd, wantedA, evP, evR, evF, evL, evC, evBin, evUn, evEq, evSt, evRes, plain, scp, scpA, scpL, rdRow, rdCells, veq, veqA, veqL, isHole, Value.cells, evalL, optI, evBounds, evFill, evFillR, evApp, newsOf, wrCells, one1, fitsApp, evClr, undef, onB_bool, List.getElem?_concat_length, List.getElem?_cons_zero, List.getElem?_cons_succ, List.getElem?_toArray, List.getElem?_nil, List.set_cons_zero, List.set_cons_succ, List.cons_append, List.nil_append, -getElem?_pos, -getElem?_neg]
  by_cases c2 : n < 1
  · refine entry hmix cf20 ?_
    simp (maxSteps := 2000000) (implicitDefEqProofs := false) [DN, NB, begT, atHead, kd, wantedA, evP, evR, evF, evL, evC, evBin, evUn, evEq, evSt, evRes, plain, scp, scpA, scpL, rdRow, rdCells, veq, veqA, veqL, isHole, Value.cells, evalL, optI, evBounds, evFill, evFillR, evApp, newsOf, wrCells, one1, fitsApp, evClr, undef, onB_bool, List.getElem?_concat_length, List.getElem?_cons_zero, List.getElem?_cons_succ, List.getElem?_toArray, List.getElem?_nil, List.set_cons_zero, List.set_cons_succ, List.cons_append, List.nil_append, -getElem?_pos, -getElem?_neg, c1, c2]
    refine awakeK _ _ fun h' => ?_
    simp (maxSteps := 2000000) (implicitDefEqProofs := false) [DN, NB, begT, atHead, kd, wantedA, evP, evR, evF, evL, evC, evBin, evUn, evEq, evSt, evRes, plain, scp, scpA, scpL, rdRow, rdCells, veq, veqA, veqL, isHole, Value.cells, evalL, optI, evBounds, evFill, evFillR, evApp, newsOf, wrCells, one1, fitsApp, evClr, undef, onB_bool, List.getElem?_concat_length, List.getElem?_cons_zero, List.getElem?_cons_succ, List.getElem?_toArray, List.getElem?_nil, List.set_cons_zero, List.set_cons_succ, List.cons_append, List.nil_append, -getElem?_pos, -getElem?_neg]
  by_cases c3 : 64 < n
  · refine entry hmix cf20 ?_
    simp (maxSteps := 2000000) (implicitDefEqProofs := false) [DN, NB, begT, atHead, kd, wantedA, evP, evR, evF, evL, evC, evBin, evUn, evEq, evSt, evRes, plain, scp, scpA, scpL, rdRow, rdCells, veq, veqA, veqL, isHole, Value.cells, evalL, optI, evBounds, evFill, evFillR, evApp, newsOf, wrCells, one1, fitsApp, evClr, undef, onB_bool, List.getElem?_concat_length, List.getElem?_cons_zero, List.getElem?_cons_succ, List.getElem?_toArray, List.getElem?_nil, List.set_cons_zero, List.set_cons_succ, List.cons_append, List.nil_append, -getElem?_pos, -getElem?_neg, c1, c2, c3]
    refine awakeK _ _ fun h' => ?_
    simp (maxSteps := 2000000) (implicitDefEqProofs := false) [DN, NB, begT, atHead, kd, wantedA, evP, evR, evF, evL, evC, evBin, evUn, evEq, evSt, evRes, plain, scp, scpA, scpL, rdRow, rdCells, veq, veqA, veqL, isHole, Value.cells, evalL, optI, evBounds, evFill, evFillR, evApp, newsOf, wrCells, one1, fitsApp, evClr, undef, onB_bool, List.getElem?_concat_length, List.getElem?_cons_zero, List.getElem?_cons_succ, List.getElem?_toArray, List.getElem?_nil, List.set_cons_zero, List.set_cons_succ, List.cons_append, List.nil_append, -getElem?_pos, -getElem?_neg]
  obtain ⟨nt, rfl⟩ : ∃ nt : Nat, n = nt := ⟨n.toNat, by omega⟩
  have hn1 : 1 ≤ (nt : Int) := by omega
  have hn2 : (nt : Int) ≤ 64 := by omega
  refine entry hmix cf20 ?_
  simp (maxSteps := 2000000) (implicitDefEqProofs := false) [DN, NB, begT, atHead, kd, wantedA, evP, evR, evF, evL, evC, evBin, evUn, evEq, evSt, evRes, plain, scp, scpA, scpL, rdRow, rdCells, veq, veqA, veqL, isHole, Value.cells, evalL, optI, evBounds, evFill, evFillR, evApp, newsOf, wrCells, one1, fitsApp, evClr, undef, onB_bool, List.getElem?_concat_length, List.getElem?_cons_zero, List.getElem?_cons_succ, List.getElem?_toArray, List.getElem?_nil, List.set_cons_zero, List.set_cons_succ, List.cons_append, List.nil_append, -getElem?_pos, -getElem?_neg, c1, c2, c3]
  refine newG hn1 hn2 ?_
  simp (maxSteps := 2000000) (implicitDefEqProofs := false) [DN, NB, begT, atHead, kd, wantedA, evP, evR, evF, evL, evC, evBin, evUn, evEq, evSt, evRes, plain, scp, scpA, scpL, rdRow, rdCells, veq, veqA, veqL, isHole, Value.cells, evalL, optI, evBounds, evFill, evFillR, evApp, newsOf, wrCells, one1, fitsApp, evClr, undef, onB_bool, List.getElem?_concat_length, List.getElem?_cons_zero, List.getElem?_cons_succ, List.getElem?_toArray, List.getElem?_nil, List.set_cons_zero, List.set_cons_succ, List.cons_append, List.nil_append, -getElem?_pos, -getElem?_neg]
  have hsv : ∀ g : AH, scp (live (.row (rowOf l) :: g)) (.slice A l.length cap) = true := by
    intro g
    rcases hA with ⟨_, _, rfl⟩ | ⟨d, _, rfl⟩ | rfl <;> simp [scp, live]
  refine loop3 hmix 108 (fun i => i ≤ l.length) (fun i => l.length - i) (oT nt (.slice A l.length cap) l.length) (oH (newL nt) l) 0 (Nat.zero_le _) (oT_head hsv rfl rfl rfl ?_) ?_
  · simp only [oT, List.mem_cons, List.not_mem_nil, or_false]
    rintro y' (rfl | rfl | rfl | rfl | rfl) <;> simp [GB]
  intro i hi
  by_cases hlt : i < l.length
  case neg =>
    have hlt' : ¬ (i : Int) < l.length := by omega
    simp (maxSteps := 2000000) (implicitDefEqProofs := false) [DN, NB, begT, atHead, kd, wantedA, evP, evR, evF, evL, evC, evBin, evUn, evEq, evSt, evRes, plain, scp, scpA, scpL, rdRow, rdCells, veq, veqA, veqL, isHole, Value.cells, evalL, optI, evBounds, evFill, evFillR, evApp, newsOf, wrCells, one1, fitsApp, evClr, undef, onB_bool, List.getElem?_concat_length, List.getElem?_cons_zero, List.getElem?_cons_succ, List.getElem?_toArray, List.getElem?_nil, List.set_cons_zero, List.set_cons_succ, List.cons_append, List.nil_append, -getElem?_pos, -getElem?_neg, oT, hlt']
    refine awakeK _ _ fun h' => ?_
    simp (maxSteps := 2000000) (implicitDefEqProofs := false) [DN, NB, begT, atHead, kd, wantedA, evP, evR, evF, evL, evC, evBin, evUn, evEq, evSt, evRes, plain, scp, scpA, scpL, rdRow, rdCells, veq, veqA, veqL, isHole, Value.cells, evalL, optI, evBounds, evFill, evFillR, evApp, newsOf, wrCells, one1, fitsApp, evClr, undef, onB_bool, List.getElem?_concat_length, List.getElem?_cons_zero, List.getElem?_cons_succ, List.getElem?_toArray, List.getElem?_nil, List.set_cons_zero, List.set_cons_succ, List.cons_append, List.nil_append, -getElem?_pos, -getElem?_neg]
  have hlt' : (i : Int) < l.length := by omega
  have hi0 : (0 : Int) ≤ i := by omega
  obtain ⟨x, hx⟩ : ∃ x, l[i]? = some x := ⟨_, List.getElem?_eq_getElem hlt⟩
  have hrd := rowOf_at hx
  have hfitr : i * 3 + 3 ≤ (rowOf l).length := by rw [rowOf_length]; omega
  have hwr : IntKind.i64.wrap ((i : Int) + 1) = ((i + 1 : Nat) : Int) := by rw [IntWalk.i64_in _ (by omega)]; omega
  have hA' : A = some ⟨0, 0, none⟩ := by
    rcases hA with ⟨rfl, _⟩ | ⟨d, rfl, _⟩ | h
    · simp at hlt
    · simp at hlt
    · exact h
  subst hA'
  have hs' := afterL_step (s0 := newL nt) hx
  have hql : (afterL (newL nt) (l.take i)).q.length ≤ 900 := by have := afterL_len (n := nt) l i; omega
  have hql' : (takeL (afterL (newL nt) (l.take i)) x).q.length ≤ 900 := by rw [← hs']; have := afterL_len (n := nt) l (i + 1); omega
  have good' : GoodL (takeL (afterL (newL nt) (l.take i)) x) := by rw [← hs']; exact afterL_good (newL_good _) _
  have hst' : (takeL (afterL (newL nt) (l.take i)) x).st.length = nt := by rw [← hs', afterL_stlen]; simp [newL]
  simp (maxSteps := 2000000) (implicitDefEqProofs := false) [DN, NB, begT, atHead, kd, wantedA, evP, evR, evF, evL, evC, evBin, evUn, evEq, evSt, evRes, plain, scp, scpA, scpL, rdRow, rdCells, veq, veqA, veqL, isHole, Value.cells, evalL, optI, evBounds, evFill, evFillR, evApp, newsOf, wrCells, one1, fitsApp, evClr, undef, onB_bool, List.getElem?_concat_length, List.getElem?_cons_zero, List.getElem?_cons_succ, List.getElem?_toArray, List.getElem?_nil, List.set_cons_zero, List.set_cons_succ, List.cons_append, List.nil_append, -getElem?_pos, -getElem?_neg, oT, oH, hlt', hi0, hrd, hfitr, set_concat, splice_many]
  refine takeG hql x (b := 1) rfl ?_
  simp (maxSteps := 2000000) (implicitDefEqProofs := false) [DN, NB, begT, atHead, kd, wantedA, evP, evR, evF, evL, evC, evBin, evUn, evEq, evSt, evRes, plain, scp, scpA, scpL, rdRow, rdCells, veq, veqA, veqL, isHole, Value.cells, evalL, optI, evBounds, evFill, evFillR, evApp, newsOf, wrCells, one1, fitsApp, evClr, undef, onB_bool, List.getElem?_concat_length, List.getElem?_cons_zero, List.getElem?_cons_succ, List.getElem?_toArray, List.getElem?_nil, List.set_cons_zero, List.set_cons_succ, List.cons_append, List.nil_append, -getElem?_pos, -getElem?_neg]
  refine ownerG (s := takeL (afterL (newL nt) (l.take i)) x) rfl ?_
  simp (maxSteps := 2000000) (implicitDefEqProofs := false) [DN, NB, begT, atHead, kd, wantedA, evP, evR, evF, evL, evC, evBin, evUn, evEq, evSt, evRes, plain, scp, scpA, scpL, rdRow, rdCells, veq, veqA, veqL, isHole, Value.cells, evalL, optI, evBounds, evFill, evFillR, evApp, newsOf, wrCells, one1, fitsApp, evClr, undef, onB_bool, List.getElem?_concat_length, List.getElem?_cons_zero, List.getElem?_cons_succ, List.getElem?_toArray, List.getElem?_nil, List.set_cons_zero, List.set_cons_succ, List.cons_append, List.nil_append, -getElem?_pos, -getElem?_neg]
  refine queueG (s := takeL (afterL (newL nt) (l.take i)) x) hql' rfl ?_
  intro v E hq
  simp (maxSteps := 2000000) (implicitDefEqProofs := false) [DN, NB, begT, atHead, kd, wantedA, evP, evR, evF, evL, evC, evBin, evUn, evEq, evSt, evRes, plain, scp, scpA, scpL, rdRow, rdCells, veq, veqA, veqL, isHole, Value.cells, evalL, optI, evBounds, evFill, evFillR, evApp, newsOf, wrCells, one1, fitsApp, evClr, undef, onB_bool, List.getElem?_concat_length, List.getElem?_cons_zero, List.getElem?_cons_succ, List.getElem?_toArray, List.getElem?_nil, List.set_cons_zero, List.set_cons_succ, List.cons_append, List.nil_append, -getElem?_pos, -getElem?_neg]
  refine loop20b nt l _ good' hst' (by omega) x v E hq hql' (.slice (some ⟨0, 0, none⟩) l.length cap) hsv l.length i _ _ _ (mT_head hq hsv rfl ?_) ?_
  · simp only [mT, List.mem_cons, List.not_mem_nil, or_false]
    rintro y' (rfl | rfl | rfl | rfl | rfl | rfl | rfl | rfl | rfl | rfl) <;> simp [GB]
  simp (maxSteps := 2000000) (implicitDefEqProofs := false) [DN, NB, begT, atHead, kd, wantedA, evP, evR, evF, evL, evC, evBin, evUn, evEq, evSt, evRes, plain, scp, scpA, scpL, rdRow, rdCells, veq, veqA, veqL, isHole, Value.cells, evalL, optI, evBounds, evFill, evFillR, evApp, newsOf, wrCells, one1, fitsApp, evClr, undef, onB_bool, List.getElem?_concat_length, List.getElem?_cons_zero, List.getElem?_cons_succ, List.getElem?_toArray, List.getElem?_nil, List.set_cons_zero, List.set_cons_succ, List.cons_append, List.nil_append, -getElem?_pos, -getElem?_neg, mT, hwr]
  refine nextS.intro (i + 1) (by omega) (by omega) (oT_head hsv rfl (by rw [hs']; rfl) rfl ?_)
  simp only [oT, List.mem_cons, List.not_mem_nil, or_false]
  rintro y' (rfl | rfl | rfl | rfl | rfl) <;> simp [GB]

end Fx
end Go.Proofs.Ytekhadlpcdjlpaa
