/- fifo: FifoTakes, on the blocks. -/
import Derived.Test.YtekhadlpcdjlpaaFx16
import Derived.Test.YtekhadlpcdjlpaaCodeG
namespace Go.Proofs.Ytekhadlpcdjlpaa
namespace Fx
open Go Abs Code
set_option linter.unusedVariables false
set_option linter.unusedSimpArgs false
set_option maxRecDepth 100000

/-- The entries that were done. -/
def doneL (s : LS) : List En → List En → List En
  | h, [] => h
  | h, x :: l => doneL (takeL s x) (if fitsL s x then h ++ [x] else h) l
theorem doneL_snoc (l : List En) (x : En) : ∀ (s : LS) (h : List En), doneL s h (l ++ [x]) = if fitsL (afterL s l) x then doneL s h l ++ [x] else doneL s h l := by
  induction l with
  | nil => intro s h; by_cases hf : fitsL s x = true <;> simp [doneL, afterL, hf]
  | cons y l ih => intro s h; exact ih (takeL s y) _
theorem doneL_len (l : List En) : ∀ (s : LS) (h : List En), (doneL s h l).length ≤ h.length + l.length := by
  induction l with
  | nil => intro s h; simp [doneL]
  | cons y l ih =>
    intro s h
    have := ih (takeL s y) (if fitsL s y then h ++ [y] else h)
    simp only [doneL, List.length_cons]
    refine Nat.le_trans this ?_
    split
    · simp; omega
    · omega

theorem same_all {n : Nat} (l : List En) : ∀ (s : LS) (h : List En), SameR n s h → SameR n (afterL s l) (doneL s h l) := by
  induction l with
  | nil => intro s h r; exact r
  | cons x l ih =>
    intro s h r
    show SameR n (afterL (takeL s x) l) (doneL (takeL s x) _ l)
    refine ih _ _ ?_
    by_cases hf : fitsL s x = true
    · rw [if_pos hf]; exact r.step hf
    · rw [if_neg hf, takeL_no (by simpa using hf)]; exact r

theorem SameR.stateL {n : Nat} {s : LS} {l : List En} (r : SameR n s l) (t : Int) : Fx.stateL s t = stateR l t := by
  by_cases h0 : t < 0
  · have : stateR l t = 0 := by
      unfold stateR
      by_cases h : lastL l t = 0
      · rw [h]; rfl
      · obtain ⟨x, hx, e⟩ := lastL_mem h
        have := (r.thr x hx).1
        omega
    rw [this]
    simp [Fx.stateL, h0]
  · obtain ⟨k, rfl⟩ : ∃ k : Nat, t = k := ⟨t.toNat, by omega⟩
    by_cases hk : k < n
    · have h := r.st k hk
      simp [Fx.stateL, h, h0]
    · have h : s.st[k]? = none := by rw [List.getElem?_eq_none_iff, r.len]; omega
      have : stateR l k = 0 := by
        unfold stateR
        by_cases h : lastL l k = 0
        · rw [h]; rfl
        · obtain ⟨x, hx, e⟩ := lastL_mem h
          have := (r.thr x hx).2
          omega
      rw [this]
      simp [Fx.stateL, h, h0]

/-- What lives through the loop that compares the queues. -/
def cmT (n : Int) (sv hv qv1 qv2 : Value) (len i box : Nat) (rl : Nat) (ql j : Nat) : List (Nat × Value) :=
  [(0, .int .i64 n), (1, sv), (5, .pointer (some ⟨1, 0, none⟩)), (7, hv), (9, .pointer (some ⟨box, 0, none⟩)), (11, qv1), (12, qv2), (48, .slice (some ⟨2, 0, none⟩) rl (OPEN + rl)), (49, .int .i64 len), (50, .int .i64 i), (82, .int .i64 ql), (83, .int .i64 j)]

set_option maxHeartbeats 4000000 in
/-- The queues are compared, and the one that was handed out is spoilt. -/
theorem loop19b (n : Int) (sv hv : Value) (len i box rl a b c1 c2 : Nat) (q : List Int) (hq : q.length ≤ 900) (H : AH) (hH : ∀ k ∈ H, noNames k) (hab : a ≠ b) (ha : H[a]? = some (.cells (ints q) 3 (some 1))) (hb : H[b]? = some (.cells (ints q) 3 (some 1))) (h1 : 1 ≤ H.length) (hl0 : live H 0 = true)
    (hs : ∀ X, ∀ y ∈ cmT n sv hv (.slice (some ⟨a, 0, none⟩) q.length c1) (.slice (some ⟨b, 0, none⟩) q.length c2) len i box rl q.length 0, Abs.scp (live (H.set a (.cells X 3 (some 1)))) y.2 = true) (ha0 : a ≠ 0)
    (t : T) (h : AH) (Q : AExit → T → AH → Prop)
    (h0 : atHeadV 1 129 (cmT n sv hv (.slice (some ⟨a, 0, none⟩) q.length c1) (.slice (some ⟨b, 0, none⟩) q.length c2) len i box rl q.length 0) H t h)
    (hQ : ∀ X, noNames (.cells X 3 (some 1)) → Q (.exit 2) (mkT 129 ((84, .bool false) :: cmT n sv hv (.slice (some ⟨a, 0, none⟩) q.length c1) (.slice (some ⟨b, 0, none⟩) q.length c2) len i box rl q.length q.length)) (H.set a (.cells X 3 (some 1)))) : ALoop Try.prog 1 lp19_1 t h Q := by
  have hlt : a < H.length := (List.getElem?_eq_some_iff.1 ha).1
  have hset : ∀ X, (H.set a X)[a]? = some X := fun X => List.getElem?_set_self hlt
  have hsetb : ∀ X, (H.set a X)[b]? = some (.cells (ints q) 3 (some 1)) := fun X => by rw [List.getElem?_set_ne hab]; exact hb
  have hno : ∀ X, noNames (.cells X 3 (some 1)) → ∀ k ∈ H.set a (.cells X 3 (some 1)), noNames k := by
    intro X hX k hk
    rcases List.mem_or_eq_of_mem_set hk with h | h
    · exact hH k h
    · subst h; exact hX
  have hnx : ∀ j, noNames (.cells (ints (List.replicate j 99 ++ q.drop j)) 3 (some 1)) := fun j => ints_noNames _ _ _
  have hlive : ∀ X, ∀ b, b < 1 → live (H.set a (.cells X 3 (some 1))) b = true := by
    intro X b hb
    obtain rfl : b = 0 := by omega
    unfold live at hl0 ⊢
    rw [List.getElem?_set_ne ha0]
    exact hl0
  have h0set : H = H.set a (.cells (ints (List.replicate 0 99 ++ q.drop 0)) 3 (some 1)) := by
    simp only [List.replicate_zero, List.nil_append, List.drop_zero]
    exact (set_same ha).symm
  refine loop3 hmix 129 (fun j => j ≤ q.length) (fun j => q.length - j) (cmT n sv hv (.slice (some ⟨a, 0, none⟩) q.length c1) (.slice (some ⟨b, 0, none⟩) q.length c2) len i box rl q.length) (fun j => H.set a (.cells (ints (List.replicate j 99 ++ q.drop j)) 3 (some 1))) 0 (Nat.zero_le _) ?_ ?_
  · show atHeadV 1 129 _ (H.set a (.cells (ints (List.replicate 0 99 ++ q.drop 0)) 3 (some 1))) t h
    rw [← h0set]
    exact h0
  intro j hj
  by_cases hjl : j < q.length
  case neg =>
    obtain rfl : j = q.length := by omega
    have hq' := hQ _ (hnx q.length)
    simp (maxSteps := 2000000) (implicitDefEqProofs := false) [DN, NB, begT, atHead, kd, wantedA, evP, evR, evF, evL, evC, evBin, evUn, evEq, evSt, evRes, plain, scp, scpA, scpL, rdRow, rdCells, veq, veqA, veqL, isHole, Value.cells, evalL, optI, evBounds, evFill, evFillR, evApp, newsOf, wrCells, one1, fitsApp, evClr, undef, onB_bool, List.getElem?_concat_length, List.getElem?_cons_zero, List.getElem?_cons_succ, List.getElem?_toArray, List.getElem?_nil, List.set_cons_zero, List.set_cons_succ, List.cons_append, List.nil_append, -getElem?_pos, -getElem?_neg, cmT] at hq'
    simp (maxSteps := 2000000) (implicitDefEqProofs := false) [DN, NB, begT, atHead, kd, wantedA, evP, evR, evF, evL, evC, evBin, evUn, evEq, evSt, evRes, plain, scp, scpA, scpL, rdRow, rdCells, veq, veqA, veqL, isHole, Value.cells, evalL, optI, evBounds, evFill, evFillR, evApp, newsOf, wrCells, one1, fitsApp, evClr, undef, onB_bool, List.getElem?_concat_length, List.getElem?_cons_zero, List.getElem?_cons_succ, List.getElem?_toArray, List.getElem?_nil, List.set_cons_zero, List.set_cons_succ, List.cons_append, List.nil_append, -getElem?_pos, -getElem?_neg, cmT, lp19_1]
    exact hq'
  obtain ⟨v, hv'⟩ : ∃ v, q[j]? = some v := ⟨_, List.getElem?_eq_getElem hjl⟩
  have hjl' : (j : Int) < q.length := by omega
  have hj0 : (0 : Int) ≤ j := by omega
  have hwr : IntKind.i64.wrap ((j : Int) + 1) = ((j + 1 : Nat) : Int) := by rw [IntWalk.i64_in _ (by omega)]; omega
  have hg1 : (ints (List.replicate j 99 ++ q.drop j))[j]? = some (.int .i64 v) := by
    rw [ints_get, List.getElem?_append_right (by simp), List.length_replicate, Nat.sub_self, List.getElem?_drop]
    simp [hv']
  have hg2 : (ints q)[j]? = some (.int .i64 v) := by rw [ints_get, hv']; rfl
  have hln : j + 1 ≤ (ints (List.replicate j 99 ++ q.drop j)).length := by rw [ints_length]; simp; omega
  have hstp : (ints (List.replicate j 99 ++ q.drop j)).set j (.int .i64 99) = ints (List.replicate (j + 1) 99 ++ q.drop (j + 1)) := by
    rw [ints_set, List.set_append_right _ _ (by simp), List.length_replicate, Nat.sub_self]
    have : q.drop j = v :: q.drop (j + 1) := by
      obtain ⟨h1, h2⟩ := List.getElem?_eq_some_iff.1 hv'
      rw [List.drop_eq_getElem_cons h1, h2]
    rw [this, List.set_cons_zero, List.replicate_succ', List.append_assoc]
    rfl
  simp (maxSteps := 2000000) (implicitDefEqProofs := false) [DN, NB, begT, atHead, kd, wantedA, evP, evR, evF, evL, evC, evBin, evUn, evEq, evSt, evRes, plain, scp, scpA, scpL, rdRow, rdCells, veq, veqA, veqL, isHole, Value.cells, evalL, optI, evBounds, evFill, evFillR, evApp, newsOf, wrCells, one1, fitsApp, evClr, undef, onB_bool, List.getElem?_concat_length, List.getElem?_cons_zero, List.getElem?_cons_succ, List.getElem?_toArray, List.getElem?_nil, List.set_cons_zero, List.set_cons_succ, List.cons_append, List.nil_append, -getElem?_pos, -getElem?_neg, cmT, lp19_1, hjl', hj0, hset, hsetb, hg1, hg2, hln, hstp, hwr, List.set_set]
  refine nextS.intro (j + 1) (by omega) (by omega) (headId (fun _ _ h => h) (aok_noNames (hno _ (hnx _))) (hlive _) (by simpa using h1) rfl fun y hy => ⟨?_, ?_⟩)
  · simp only [cmT, List.mem_cons, List.not_mem_nil, or_false] at hy
    rcases hy with rfl | rfl | rfl | rfl | rfl | rfl | rfl | rfl | rfl | rfl | rfl | rfl <;> simp [GB]
  · simp only [cmT, List.mem_cons, List.not_mem_nil, or_false] at hy
    rcases hy with rfl | rfl | rfl | rfl | rfl | rfl | rfl | rfl | rfl | rfl | rfl | rfl
    case inr.inr.inr.inr.inr.inr.inr.inr.inr.inr.inr => rfl
    all_goals exact hs _ _ (by simp [cmT])

/-- At the head of the law's loop. -/
def tkT (n : Nat) (sv : Value) (had : List En) (len i : Nat) : List (Nat × Value) := [(0, .int .i64 n), (1, sv), (5, .pointer (some ⟨1, 0, none⟩)), (7, enV 3 had), (48, .slice (some ⟨2, 0, none⟩) len (OPEN + len)), (49, .int .i64 len), (50, .int .i64 i)]
def tkH (l : List En) (s : LS) (had : List En) : AH := .row (rowOf l) :: lkB s :: .cells (rowOf l) 126 (some 3) :: enH had
def tkIs (k : Nat) (l : List En) : List Nat := if l = [] then [0, 1, 2] else [0, 1, 2, k]
theorem renB_lk (σ : Nat → Nat) (s : LS) : renB σ (lkB s) = lkB s := rfl
theorem tk_ren (q : List En) (k : Nat) : ren (nthD (tkIs k q)) (enV 3 q) = enV k q := by
  unfold enV tkIs
  split <;> simp [ren, renA, nthD, nth]
theorem tkIs_s (q : List En) (k : Nat) : nthD (tkIs k q) 0 = 0 ∧ nthD (tkIs k q) 1 = 1 ∧ nthD (tkIs k q) 2 = 2 := by
  unfold tkIs
  split <;> simp [nthD, nth]
theorem tk_scp (l q : List En) (s : LS) : Abs.scp (live (tkH l s q)) (enV 3 q) = true := by
  unfold enV tkH enH
  split <;> simp [Abs.scp, live]

theorem tkHead {n : Nat} {l q : List En} {s : LS} {k len i : Nat} {cap : Nat} {t' : T} {h' : AH} (hk : 2 < k) (h0 : h'[0]? = some (.row (rowOf l))) (h1 : h'[1]? = some (lkB s)) (h2 : h'[2]? = some (.cells (rowOf l) 126 (some 3))) (h3 : q ≠ [] → h'[k]? = some (.cells (rowOf q) 126 (some 3))) (e1 : t'.length = 129)
    (f0 : getT t' 0 = some (.int .i64 n)) (f1 : getT t' 1 = some (.slice (some ⟨0, 0, none⟩) len cap)) (f5 : getT t' 5 = some (.pointer (some ⟨1, 0, none⟩))) (f7 : getT t' 7 = some (enV k q)) (f48 : getT t' 48 = some (.slice (some ⟨2, 0, none⟩) len (OPEN + len))) (f49 : getT t' 49 = some (.int .i64 len)) (f50 : getT t' 50 = some (.int .i64 i)) : atHeadV 1 129 (tkT n (.slice (some ⟨0, 0, none⟩) len cap) q len i) (tkH l s q) t' h' := by
  obtain ⟨n0, n1, n2⟩ := tkIs_s q k
  refine headK (tkIs k q) ?_ ?_ ?_ (fun b hb => ?_) (by simp [tkH]) e1 ?_
  · unfold tkIs tkH enH
    split
    · simp [keepsF, renB_noNames (rowOf_noNames l), renB_noNames (enBlk_noNames _), h0, h1, h2, renB_lk]
    · rename_i h; simp [keepsF, renB_noNames (rowOf_noNames l), renB_noNames (enBlk_noNames _), h0, h1, h2, h3 h, renB_lk]
  · unfold tkIs
    split <;> simp <;> omega
  · refine aok_noNames fun k hk => ?_
    simp only [tkH, List.mem_cons] at hk
    rcases hk with rfl | rfl | rfl | hk
    · exact rowOf_noNames l
    · trivial
    · exact enBlk_noNames l
    · exact (enH_ok q k hk).1
  · obtain rfl : b = 0 := by omega
    exact ⟨n0, rfl⟩
  · simp only [tkT, List.mem_cons, List.not_mem_nil, or_false]
    rintro y (rfl | rfl | rfl | rfl | rfl | rfl | rfl)
    · exact ⟨by rw [f0]; simp [ren], rfl⟩
    · exact ⟨by rw [f1]; simp [ren, renA, n0], by simp [Abs.scp, live, tkH]⟩
    · exact ⟨by rw [f5]; simp [ren, renA, n1], by simp [Abs.scp, live, tkH]⟩
    · exact ⟨by rw [f7, tk_ren], tk_scp l q s⟩
    · exact ⟨by rw [f48]; simp [ren, renA, n2], by simp [Abs.scp, live, tkH]⟩
    · exact ⟨by rw [f49]; simp [ren], rfl⟩
    · exact ⟨by rw [f50]; simp [ren], rfl⟩

/-- Within a round, where the queues are compared: the queue's blocks, then the entries that were done. -/
def qH (X q : List Int) : AH := if q = [] then [] else [.cells (ints X) 3 (some 1), .cells (ints q) 3 (some 1)]
def qV (m : Nat) (q : List Int) : Value := if q = [] then .slice none 0 0 else .slice (some ⟨m, 0, none⟩) q.length (OPEN + q.length)

def roundQ (nt : Nat) (l : List En) (cap : Nat) (i : Nat) (Q0 : AExit → T → AH → Prop) : AExit → T → AH → Prop :=
  loopQ3 1 129 (fun i => i ≤ l.length) (fun i => l.length - i) (fun i => tkT nt (.slice (some ⟨0, 0, none⟩) l.length cap) (doneL (newL nt) [] (l.take i)) l.length i) (fun i => tkH l (afterL (newL nt) (l.take i)) (doneL (newL nt) [] (l.take i))) i Q0

set_option maxHeartbeats 8000000 in
/-- Behind the comparison, where somebody is queued. -/
theorem tail19a (nt : Nat) (l : List En) (cap i : Nat) (Q0 : AExit → T → AH → Prop) (hl : l.length ≤ 200) (x : En) (hx : l[i]? = some x) (s' : LS) (had' : List En) (r' : SameR nt s' had') (hs' : afterL (newL nt) (l.take (i + 1)) = s') (hd' : doneL (newL nt) [] (l.take (i + 1)) = had') (hlen1 : had'.length ≤ 1000)
    (q : List Int) (hq : s'.q = q) (hq0 : q ≠ []) (hh0 : had' ≠ []) (hq900 : q.length ≤ 900) (c1 c2 : Nat) (t : T) (h : AH)
    (hd : atHeadV 1 129 (cmT nt (.slice (some ⟨0, 0, none⟩) l.length cap) (.slice (some ⟨6, 0, none⟩) had'.length (OPEN + had'.length)) (.slice (some ⟨4, 0, none⟩) q.length c1) (.slice (some ⟨5, 0, none⟩) q.length c2) l.length i 3 l.length q.length 0) [.row (rowOf l), lkB s', .cells (rowOf l) 126 (some 3), .cells [.int .i64 x.k, .int .i64 x.t, .int .i64 x.now] 126 none, .cells (ints q) 3 (some 1), .cells (ints q) 3 (some 1), .cells (rowOf had') 126 (some 3)] t h) :
    ALoop Try.prog 1 lp19_1 t h (resK Try.prog 1 fr19_1 (roundQ nt l cap i Q0)) := by
  have hno : ∀ k ∈ ([.row (rowOf l), lkB s', .cells (rowOf l) 126 (some 3), .cells [.int .i64 x.k, .int .i64 x.t, .int .i64 x.now] 126 none, .cells (ints q) 3 (some 1), .cells (ints q) 3 (some 1), .cells (rowOf had') 126 (some 3)] : AH), noNames k := by
    intro k hk
    simp only [List.mem_cons, List.not_mem_nil, or_false] at hk
    rcases hk with rfl | rfl | rfl | rfl | rfl | rfl | rfl
    · exact rowOf_noNames l
    · trivial
    · exact enBlk_noNames l
    · intro v hv; simp at hv; rcases hv with rfl | rfl | rfl <;> rfl
    · exact ints_noNames _ _ _
    · exact ints_noNames _ _ _
    · exact enBlk_noNames _
  refine loop19b nt _ _ l.length i 3 l.length 4 5 c1 c2 q hq900 _ hno (by simp) rfl rfl (by simp) rfl ?_ (by simp) t h _ hd ?_
  · intro X y hy
    simp only [cmT, List.mem_cons, List.not_mem_nil, or_false] at hy
    rcases hy with rfl | rfl | rfl | rfl | rfl | rfl | rfl | rfl | rfl | rfl | rfl | rfl <;> simp [Abs.scp, live]
  intro X hX
  have hown : (s'.own = -1 ∧ (s'.own != -1) = false ∧ ¬ 0 ≤ s'.own) ∨ (s'.own ≠ -1 ∧ (s'.own != -1) = true ∧ 0 ≤ s'.own) := by
    rcases r'.good.ownr with h | h
    · left; rw [h]; decide
    · right; exact ⟨by omega, by simp; omega, h⟩
  have hwr : IntKind.i64.wrap ((i : Int) + 1) = ((i + 1 : Nat) : Int) := by
    have : i < l.length := (List.getElem?_eq_some_iff.1 hx).1
    rw [IntWalk.i64_in _ (by omega)]; omega
  simp (maxSteps := 2000000) (implicitDefEqProofs := false) [DN, NB, begT, atHead, kd, wantedA, evP, evR, evF, evL, evC, evBin, evUn, evEq, evSt, evRes, plain, scp, scpA, scpL, rdRow, rdCells, veq, veqA, veqL, isHole, Value.cells, evalL, optI, evBounds, evFill, evFillR, evApp, newsOf, wrCells, one1, fitsApp, evClr, undef, onB_bool, List.getElem?_concat_length, List.getElem?_cons_zero, List.getElem?_cons_succ, List.getElem?_toArray, List.getElem?_nil, List.set_cons_zero, List.set_cons_succ, List.cons_append, List.nil_append, -getElem?_pos, -getElem?_neg, cmT, fr19_1]
  refine ownerG (s := s') rfl ?_
  simp (maxSteps := 2000000) (implicitDefEqProofs := false) [DN, NB, begT, atHead, kd, wantedA, evP, evR, evF, evL, evC, evBin, evUn, evEq, evSt, evRes, plain, scp, scpA, scpL, rdRow, rdCells, veq, veqA, veqL, isHole, Value.cells, evalL, optI, evBounds, evFill, evFillR, evApp, newsOf, wrCells, one1, fitsApp, evClr, undef, onB_bool, List.getElem?_concat_length, List.getElem?_cons_zero, List.getElem?_cons_succ, List.getElem?_toArray, List.getElem?_nil, List.set_cons_zero, List.set_cons_succ, List.cons_append, List.nil_append, -getElem?_pos, -getElem?_neg]
  refine owner13G (l := had') (A := some ⟨6, 0, none⟩) (cap := OPEN + had'.length) hlen1 (.inr ⟨6, 0, none, rfl, .inr ⟨rfl, rowOf had', rfl, fun i v hv => by simpa using hv⟩⟩) ?_
  rw [← r'.own]
  have hev : enV 6 had' = .slice (some ⟨6, 0, none⟩) had'.length (OPEN + had'.length) := by simp [enV, hh0]
  rcases hown with ⟨ho, ho1, ho2⟩ | ⟨ho, ho1, ho2⟩
  all_goals
    simp (maxSteps := 2000000) (implicitDefEqProofs := false) [DN, NB, begT, atHead, kd, wantedA, evP, evR, evF, evL, evC, evBin, evUn, evEq, evSt, evRes, plain, scp, scpA, scpL, rdRow, rdCells, veq, veqA, veqL, isHole, Value.cells, evalL, optI, evBounds, evFill, evFillR, evApp, newsOf, wrCells, one1, fitsApp, evClr, undef, onB_bool, List.getElem?_concat_length, List.getElem?_cons_zero, List.getElem?_cons_succ, List.getElem?_toArray, List.getElem?_nil, List.set_cons_zero, List.set_cons_succ, List.cons_append, List.nil_append, -getElem?_pos, -getElem?_neg, ho, ho1, ho2]
    refine stateG (s := s') x.t rfl ?_
    simp (maxSteps := 2000000) (implicitDefEqProofs := false) [DN, NB, begT, atHead, kd, wantedA, evP, evR, evF, evL, evC, evBin, evUn, evEq, evSt, evRes, plain, scp, scpA, scpL, rdRow, rdCells, veq, veqA, veqL, isHole, Value.cells, evalL, optI, evBounds, evFill, evFillR, evApp, newsOf, wrCells, one1, fitsApp, evClr, undef, onB_bool, List.getElem?_concat_length, List.getElem?_cons_zero, List.getElem?_cons_succ, List.getElem?_toArray, List.getElem?_nil, List.set_cons_zero, List.set_cons_succ, List.cons_append, List.nil_append, -getElem?_pos, -getElem?_neg]
    refine state13G (l := had') (A := some ⟨6, 0, none⟩) (cap := OPEN + had'.length) hlen1 (.inr ⟨6, 0, none, rfl, .inr ⟨rfl, rowOf had', rfl, fun i v hv => by simpa using hv⟩⟩) x.t ?_
    rw [← r'.stateL]
    simp (maxSteps := 2000000) (implicitDefEqProofs := false) [DN, NB, begT, atHead, kd, wantedA, evP, evR, evF, evL, evC, evBin, evUn, evEq, evSt, evRes, plain, scp, scpA, scpL, rdRow, rdCells, veq, veqA, veqL, isHole, Value.cells, evalL, optI, evBounds, evFill, evFillR, evApp, newsOf, wrCells, one1, fitsApp, evClr, undef, onB_bool, List.getElem?_concat_length, List.getElem?_cons_zero, List.getElem?_cons_succ, List.getElem?_toArray, List.getElem?_nil, List.set_cons_zero, List.set_cons_succ, List.cons_append, List.nil_append, -getElem?_pos, -getElem?_neg, hwr, roundQ]
    refine nextS.intro (i + 1) (by have := (List.getElem?_eq_some_iff.1 hx).1; omega) (by have := (List.getElem?_eq_some_iff.1 hx).1; omega) ?_
    rw [hs', hd']
    exact tkHead (k := 6) (by simp) rfl rfl rfl (fun _ => rfl) rfl (by simp [GB]) (by simp [GB]) (by simp [GB]) (by rw [hev]; simp [GB]) (by simp [GB]) (by simp [GB]) (by simp [GB])

def cnT (n : Int) (sv hv : Value) (len i : Nat) : List (Nat × Value) :=
  [(0, .int .i64 n), (1, sv), (5, .pointer (some ⟨1, 0, none⟩)), (7, hv), (9, .pointer (some ⟨3, 0, none⟩)), (48, .slice (some ⟨2, 0, none⟩) len (OPEN + len)), (49, .int .i64 len), (50, .int .i64 i), (82, .int .i64 0), (83, .int .i64 0)]

set_option maxHeartbeats 8000000 in
/-- Behind the comparison, where nobody is queued. -/
theorem tail19b (nt : Nat) (l : List En) (cap i : Nat) (Q0 : AExit → T → AH → Prop) (hl : l.length ≤ 200) (x : En) (hx : l[i]? = some x) (s' : LS) (had' : List En) (r' : SameR nt s' had') (hs' : afterL (newL nt) (l.take (i + 1)) = s') (hd' : doneL (newL nt) [] (l.take (i + 1)) = had') (hlen1 : had'.length ≤ 1000) (t : T) (h : AH)
    (hd : atHeadV 1 129 (cnT nt (.slice (some ⟨0, 0, none⟩) l.length cap) (enV 4 had') l.length i) (.row (rowOf l) :: lkB s' :: .cells (rowOf l) 126 (some 3) :: .cells [.int .i64 x.k, .int .i64 x.t, .int .i64 x.now] 126 none :: enH had') t h) :
    ALoop Try.prog 1 lp19_1 t h (resK Try.prog 1 fr19_1 (roundQ nt l cap i Q0)) := by
  have hown : (s'.own = -1 ∧ (s'.own != -1) = false ∧ ¬ 0 ≤ s'.own) ∨ (s'.own ≠ -1 ∧ (s'.own != -1) = true ∧ 0 ≤ s'.own) := by
    rcases r'.good.ownr with h | h
    · left; rw [h]; decide
    · right; exact ⟨by omega, by simp; omega, h⟩
  have hil : i < l.length := (List.getElem?_eq_some_iff.1 hx).1
  have hwr : IntKind.i64.wrap ((i : Int) + 1) = ((i + 1 : Nat) : Int) := by rw [IntWalk.i64_in _ (by omega)]; omega
  by_cases hh0 : had' = []
  · subst hh0
    refine loop3 hmix 129 (fun _ : Unit => True) (fun _ => 0) (fun _ => cnT nt (.slice (some ⟨0, 0, none⟩) l.length cap) (enV 4 []) l.length i) (fun _ => .row (rowOf l) :: lkB s' :: .cells (rowOf l) 126 (some 3) :: .cells [.int .i64 x.k, .int .i64 x.t, .int .i64 x.now] 126 none :: enH []) () trivial hd ?_
    intro _ _
    have ev : enV 4 ([] : List En) = .slice none 0 0 := rfl
    have eh : enH ([] : List En) = [] := rfl
    simp (maxSteps := 2000000) (implicitDefEqProofs := false) [DN, NB, begT, atHead, kd, wantedA, evP, evR, evF, evL, evC, evBin, evUn, evEq, evSt, evRes, plain, scp, scpA, scpL, rdRow, rdCells, veq, veqA, veqL, isHole, Value.cells, evalL, optI, evBounds, evFill, evFillR, evApp, newsOf, wrCells, one1, fitsApp, evClr, undef, onB_bool, List.getElem?_concat_length, List.getElem?_cons_zero, List.getElem?_cons_succ, List.getElem?_toArray, List.getElem?_nil, List.set_cons_zero, List.set_cons_succ, List.cons_append, List.nil_append, -getElem?_pos, -getElem?_neg, cnT, lp19_1, fr19_1, ev, eh]
    refine ownerG (s := s') rfl ?_
    simp (maxSteps := 2000000) (implicitDefEqProofs := false) [DN, NB, begT, atHead, kd, wantedA, evP, evR, evF, evL, evC, evBin, evUn, evEq, evSt, evRes, plain, scp, scpA, scpL, rdRow, rdCells, veq, veqA, veqL, isHole, Value.cells, evalL, optI, evBounds, evFill, evFillR, evApp, newsOf, wrCells, one1, fitsApp, evClr, undef, onB_bool, List.getElem?_concat_length, List.getElem?_cons_zero, List.getElem?_cons_succ, List.getElem?_toArray, List.getElem?_nil, List.set_cons_zero, List.set_cons_succ, List.cons_append, List.nil_append, -getElem?_pos, -getElem?_neg]
    refine owner13G (l := []) (A := none) (cap := 0) hlen1 (.inl ⟨rfl, rfl, rfl⟩) ?_
    rw [← r'.own]
    rcases hown with ⟨ho, ho1, ho2⟩ | ⟨ho, ho1, ho2⟩
    all_goals
      simp (maxSteps := 2000000) (implicitDefEqProofs := false) [DN, NB, begT, atHead, kd, wantedA, evP, evR, evF, evL, evC, evBin, evUn, evEq, evSt, evRes, plain, scp, scpA, scpL, rdRow, rdCells, veq, veqA, veqL, isHole, Value.cells, evalL, optI, evBounds, evFill, evFillR, evApp, newsOf, wrCells, one1, fitsApp, evClr, undef, onB_bool, List.getElem?_concat_length, List.getElem?_cons_zero, List.getElem?_cons_succ, List.getElem?_toArray, List.getElem?_nil, List.set_cons_zero, List.set_cons_succ, List.cons_append, List.nil_append, -getElem?_pos, -getElem?_neg, ho, ho1, ho2]
      refine stateG (s := s') x.t rfl ?_
      simp (maxSteps := 2000000) (implicitDefEqProofs := false) [DN, NB, begT, atHead, kd, wantedA, evP, evR, evF, evL, evC, evBin, evUn, evEq, evSt, evRes, plain, scp, scpA, scpL, rdRow, rdCells, veq, veqA, veqL, isHole, Value.cells, evalL, optI, evBounds, evFill, evFillR, evApp, newsOf, wrCells, one1, fitsApp, evClr, undef, onB_bool, List.getElem?_concat_length, List.getElem?_cons_zero, List.getElem?_cons_succ, List.getElem?_toArray, List.getElem?_nil, List.set_cons_zero, List.set_cons_succ, List.cons_append, List.nil_append, -getElem?_pos, -getElem?_neg]
      refine state13G (l := []) (A := none) (cap := 0) hlen1 (.inl ⟨rfl, rfl, rfl⟩) x.t ?_
      rw [← r'.stateL]
      simp (maxSteps := 2000000) (implicitDefEqProofs := false) [DN, NB, begT, atHead, kd, wantedA, evP, evR, evF, evL, evC, evBin, evUn, evEq, evSt, evRes, plain, scp, scpA, scpL, rdRow, rdCells, veq, veqA, veqL, isHole, Value.cells, evalL, optI, evBounds, evFill, evFillR, evApp, newsOf, wrCells, one1, fitsApp, evClr, undef, onB_bool, List.getElem?_concat_length, List.getElem?_cons_zero, List.getElem?_cons_succ, List.getElem?_toArray, List.getElem?_nil, List.set_cons_zero, List.set_cons_succ, List.cons_append, List.nil_append, -getElem?_pos, -getElem?_neg, hwr, roundQ]
      refine nextS.intro (i + 1) (by omega) (by omega) ?_
      rw [hs', hd']
      exact tkHead (k := 3) (by simp) rfl rfl rfl (by simp) rfl (by simp [GB]) (by simp [GB]) (by simp [GB]) (by simp [GB, enV]) (by simp [GB]) (by simp [GB]) (by simp [GB])
  · refine loop3 hmix 129 (fun _ : Unit => True) (fun _ => 0) (fun _ => cnT nt (.slice (some ⟨0, 0, none⟩) l.length cap) (enV 4 had') l.length i) (fun _ => .row (rowOf l) :: lkB s' :: .cells (rowOf l) 126 (some 3) :: .cells [.int .i64 x.k, .int .i64 x.t, .int .i64 x.now] 126 none :: enH had') () trivial hd ?_
    intro _ _
    have ev : enV 4 had' = .slice (some ⟨4, 0, none⟩) had'.length (OPEN + had'.length) := by simp [enV, hh0]
    have eh : enH had' = [.cells (rowOf had') 126 (some 3)] := by simp [enH, hh0]
    simp (maxSteps := 2000000) (implicitDefEqProofs := false) [DN, NB, begT, atHead, kd, wantedA, evP, evR, evF, evL, evC, evBin, evUn, evEq, evSt, evRes, plain, scp, scpA, scpL, rdRow, rdCells, veq, veqA, veqL, isHole, Value.cells, evalL, optI, evBounds, evFill, evFillR, evApp, newsOf, wrCells, one1, fitsApp, evClr, undef, onB_bool, List.getElem?_concat_length, List.getElem?_cons_zero, List.getElem?_cons_succ, List.getElem?_toArray, List.getElem?_nil, List.set_cons_zero, List.set_cons_succ, List.cons_append, List.nil_append, -getElem?_pos, -getElem?_neg, cnT, lp19_1, fr19_1, ev, eh]
    refine ownerG (s := s') rfl ?_
    simp (maxSteps := 2000000) (implicitDefEqProofs := false) [DN, NB, begT, atHead, kd, wantedA, evP, evR, evF, evL, evC, evBin, evUn, evEq, evSt, evRes, plain, scp, scpA, scpL, rdRow, rdCells, veq, veqA, veqL, isHole, Value.cells, evalL, optI, evBounds, evFill, evFillR, evApp, newsOf, wrCells, one1, fitsApp, evClr, undef, onB_bool, List.getElem?_concat_length, List.getElem?_cons_zero, List.getElem?_cons_succ, List.getElem?_toArray, List.getElem?_nil, List.set_cons_zero, List.set_cons_succ, List.cons_append, List.nil_append, -getElem?_pos, -getElem?_neg]
    refine owner13G (l := had') (A := some ⟨4, 0, none⟩) (cap := OPEN + had'.length) hlen1 (.inr ⟨4, 0, none, rfl, .inr ⟨rfl, rowOf had', rfl, fun i v hv => by simpa using hv⟩⟩) ?_
    rw [← r'.own]
    rcases hown with ⟨ho, ho1, ho2⟩ | ⟨ho, ho1, ho2⟩
    all_goals
      simp (maxSteps := 2000000) (implicitDefEqProofs := false) [DN, NB, begT, atHead, kd, wantedA, evP, evR, evF, evL, evC, evBin, evUn, evEq, evSt, evRes, plain, scp, scpA, scpL, rdRow, rdCells, veq, veqA, veqL, isHole, Value.cells, evalL, optI, evBounds, evFill, evFillR, evApp, newsOf, wrCells, one1, fitsApp, evClr, undef, onB_bool, List.getElem?_concat_length, List.getElem?_cons_zero, List.getElem?_cons_succ, List.getElem?_toArray, List.getElem?_nil, List.set_cons_zero, List.set_cons_succ, List.cons_append, List.nil_append, -getElem?_pos, -getElem?_neg, ho, ho1, ho2]
      refine stateG (s := s') x.t rfl ?_
      simp (maxSteps := 2000000) (implicitDefEqProofs := false) [DN, NB, begT, atHead, kd, wantedA, evP, evR, evF, evL, evC, evBin, evUn, evEq, evSt, evRes, plain, scp, scpA, scpL, rdRow, rdCells, veq, veqA, veqL, isHole, Value.cells, evalL, optI, evBounds, evFill, evFillR, evApp, newsOf, wrCells, one1, fitsApp, evClr, undef, onB_bool, List.getElem?_concat_length, List.getElem?_cons_zero, List.getElem?_cons_succ, List.getElem?_toArray, List.getElem?_nil, List.set_cons_zero, List.set_cons_succ, List.cons_append, List.nil_append, -getElem?_pos, -getElem?_neg]
      refine state13G (l := had') (A := some ⟨4, 0, none⟩) (cap := OPEN + had'.length) hlen1 (.inr ⟨4, 0, none, rfl, .inr ⟨rfl, rowOf had', rfl, fun i v hv => by simpa using hv⟩⟩) x.t ?_
      rw [← r'.stateL]
      simp (maxSteps := 2000000) (implicitDefEqProofs := false) [DN, NB, begT, atHead, kd, wantedA, evP, evR, evF, evL, evC, evBin, evUn, evEq, evSt, evRes, plain, scp, scpA, scpL, rdRow, rdCells, veq, veqA, veqL, isHole, Value.cells, evalL, optI, evBounds, evFill, evFillR, evApp, newsOf, wrCells, one1, fitsApp, evClr, undef, onB_bool, List.getElem?_concat_length, List.getElem?_cons_zero, List.getElem?_cons_succ, List.getElem?_toArray, List.getElem?_nil, List.set_cons_zero, List.set_cons_succ, List.cons_append, List.nil_append, -getElem?_pos, -getElem?_neg, hwr, roundQ]
      refine nextS.intro (i + 1) (by omega) (by omega) ?_
      rw [hs', hd']
      exact tkHead (k := 4) (by simp) rfl rfl rfl (fun _ => rfl) rfl (by simp [GB]) (by simp [GB]) (by simp [GB]) (by rw [ev]; simp [GB]) (by simp [GB]) (by simp [GB]) (by simp [GB])

/-- Where the comparison begins. -/
theorem cmHead {nt : Nat} {l : List En} {x : En} {s' : LS} {had' : List En} {q : List Int} {cap i c1 c2 ib iq1 iq2 ih : Nat} {t' : T} {h' : AH} (hne : [0, 1, 2, ib, iq1, iq2, ih].Nodup) (h0 : h'[0]? = some (.row (rowOf l))) (h1 : h'[1]? = some (lkB s')) (h2 : h'[2]? = some (.cells (rowOf l) 126 (some 3))) (h3 : h'[ib]? = some (.cells [.int .i64 x.k, .int .i64 x.t, .int .i64 x.now] 126 none)) (h4 : h'[iq1]? = some (.cells (ints q) 3 (some 1))) (h5 : h'[iq2]? = some (.cells (ints q) 3 (some 1))) (h6 : h'[ih]? = some (.cells (rowOf had') 126 (some 3))) (e1 : t'.length = 129)
    (f0 : getT t' 0 = some (.int .i64 nt)) (f1 : getT t' 1 = some (.slice (some ⟨0, 0, none⟩) l.length cap)) (f5 : getT t' 5 = some (.pointer (some ⟨1, 0, none⟩))) (f7 : getT t' 7 = some (.slice (some ⟨ih, 0, none⟩) had'.length (OPEN + had'.length))) (f9 : getT t' 9 = some (.pointer (some ⟨ib, 0, none⟩))) (f11 : getT t' 11 = some (.slice (some ⟨iq1, 0, none⟩) q.length c1)) (f12 : getT t' 12 = some (.slice (some ⟨iq2, 0, none⟩) q.length c2)) (f48 : getT t' 48 = some (.slice (some ⟨2, 0, none⟩) l.length (OPEN + l.length))) (f49 : getT t' 49 = some (.int .i64 l.length)) (f50 : getT t' 50 = some (.int .i64 i)) (f82 : getT t' 82 = some (.int .i64 q.length)) (f83 : getT t' 83 = some (.int .i64 0)) :
    atHeadV 1 129 (cmT nt (.slice (some ⟨0, 0, none⟩) l.length cap) (.slice (some ⟨6, 0, none⟩) had'.length (OPEN + had'.length)) (.slice (some ⟨4, 0, none⟩) q.length c1) (.slice (some ⟨5, 0, none⟩) q.length c2) l.length i 3 l.length q.length 0) [.row (rowOf l), lkB s', .cells (rowOf l) 126 (some 3), .cells [.int .i64 x.k, .int .i64 x.t, .int .i64 x.now] 126 none, .cells (ints q) 3 (some 1), .cells (ints q) 3 (some 1), .cells (rowOf had') 126 (some 3)] t' h' := by
  have hbx : noNames (.cells [.int .i64 x.k, .int .i64 x.t, .int .i64 x.now] 126 none) := by intro v hv; simp at hv; rcases hv with rfl | rfl | rfl <;> rfl
  refine headK [0, 1, 2, ib, iq1, iq2, ih] ?_ hne ?_ (fun b hb => ?_) (by simp) e1 ?_
  · simp [keepsF, renB_noNames (rowOf_noNames l), renB_noNames (enBlk_noNames _), renB_noNames (ints_noNames _ _ _), renB_noNames hbx, renB_lk, h0, h1, h2, h3, h4, h5, h6]
  · exact AOK.of ⟨scp_noNames (rowOf_noNames l) _, trivial, scp_noNames (enBlk_noNames _) _, scp_noNames hbx _, scp_noNames (ints_noNames _ _ _) _, scp_noNames (ints_noNames _ _ _) _, scp_noNames (enBlk_noNames _) _, trivial⟩
  · obtain rfl : b = 0 := by omega
    exact ⟨rfl, rfl⟩
  · simp only [cmT, List.mem_cons, List.not_mem_nil, or_false]
    rintro y (rfl | rfl | rfl | rfl | rfl | rfl | rfl | rfl | rfl | rfl | rfl | rfl) <;> simp [f0, f1, f5, f7, f9, f11, f12, f48, f49, f50, f82, f83, ren, renA, nthD, nth, Abs.scp, live]

theorem cnHead {nt : Nat} {l : List En} {x : En} {s' : LS} {had' : List En} {cap i ib ih : Nat} {t' : T} {h' : AH} (hne : [0, 1, 2, ib, ih].Nodup) (h0 : h'[0]? = some (.row (rowOf l))) (h1 : h'[1]? = some (lkB s')) (h2 : h'[2]? = some (.cells (rowOf l) 126 (some 3))) (h3 : h'[ib]? = some (.cells [.int .i64 x.k, .int .i64 x.t, .int .i64 x.now] 126 none)) (h6 : had' ≠ [] → h'[ih]? = some (.cells (rowOf had') 126 (some 3))) (e1 : t'.length = 129)
    (f0 : getT t' 0 = some (.int .i64 nt)) (f1 : getT t' 1 = some (.slice (some ⟨0, 0, none⟩) l.length cap)) (f5 : getT t' 5 = some (.pointer (some ⟨1, 0, none⟩))) (f7 : getT t' 7 = some (enV ih had')) (f9 : getT t' 9 = some (.pointer (some ⟨ib, 0, none⟩))) (f48 : getT t' 48 = some (.slice (some ⟨2, 0, none⟩) l.length (OPEN + l.length))) (f49 : getT t' 49 = some (.int .i64 l.length)) (f50 : getT t' 50 = some (.int .i64 i)) (f82 : getT t' 82 = some (.int .i64 0)) (f83 : getT t' 83 = some (.int .i64 0)) :
    atHeadV 1 129 (cnT nt (.slice (some ⟨0, 0, none⟩) l.length cap) (enV 4 had') l.length i) (.row (rowOf l) :: lkB s' :: .cells (rowOf l) 126 (some 3) :: .cells [.int .i64 x.k, .int .i64 x.t, .int .i64 x.now] 126 none :: enH had') t' h' := by
  have hbx : noNames (.cells [.int .i64 x.k, .int .i64 x.t, .int .i64 x.now] 126 none) := by intro v hv; simp at hv; rcases hv with rfl | rfl | rfl <;> rfl
  by_cases hh0 : had' = []
  · subst hh0
    have ev : ∀ k, enV k ([] : List En) = .slice none 0 0 := fun _ => rfl
    rw [ev] at f7
    refine headK [0, 1, 2, ib] ?_ (by simp at hne ⊢; omega) ?_ (fun b hb => ?_) (by simp) e1 ?_
    · simp [keepsF, enH, renB_noNames (rowOf_noNames l), renB_noNames (enBlk_noNames _), renB_noNames hbx, renB_lk, h0, h1, h2, h3]
    · exact AOK.of ⟨scp_noNames (rowOf_noNames l) _, trivial, scp_noNames (enBlk_noNames _) _, scp_noNames hbx _, trivial⟩
    · obtain rfl : b = 0 := by omega
      exact ⟨rfl, rfl⟩
    · simp only [cnT, List.mem_cons, List.not_mem_nil, or_false]
      rintro y (rfl | rfl | rfl | rfl | rfl | rfl | rfl | rfl | rfl | rfl) <;> simp [ev, f0, f1, f5, f7, f9, f48, f49, f50, f82, f83, ren, renA, nthD, nth, Abs.scp, live]
  · have ev : ∀ k, enV k had' = .slice (some ⟨k, 0, none⟩) had'.length (OPEN + had'.length) := fun _ => by simp [enV, hh0]
    have eh : enH had' = [.cells (rowOf had') 126 (some 3)] := by simp [enH, hh0]
    rw [ev] at f7
    rw [eh]
    refine headK [0, 1, 2, ib, ih] ?_ hne ?_ (fun b hb => ?_) (by simp) e1 ?_
    · simp [keepsF, renB_noNames (rowOf_noNames l), renB_noNames (enBlk_noNames _), renB_noNames hbx, renB_lk, h0, h1, h2, h3, h6 hh0]
    · exact AOK.of ⟨scp_noNames (rowOf_noNames l) _, trivial, scp_noNames (enBlk_noNames _) _, scp_noNames hbx _, scp_noNames (enBlk_noNames _) _, trivial⟩
    · obtain rfl : b = 0 := by omega
      exact ⟨rfl, rfl⟩
    · simp only [cnT, List.mem_cons, List.not_mem_nil, or_false]
      rintro y (rfl | rfl | rfl | rfl | rfl | rfl | rfl | rfl | rfl | rfl) <;> simp [ev, f0, f1, f5, f7, f9, f48, f49, f50, f82, f83, ren, renA, nthD, nth, Abs.scp, live]

end Fx
end Go.Proofs.Ytekhadlpcdjlpaa
