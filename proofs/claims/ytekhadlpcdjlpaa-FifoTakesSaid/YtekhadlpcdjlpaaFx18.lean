/- fifo: FifoTakes, on the blocks: the rounds, the whole. -/
import Derived.Test.YtekhadlpcdjlpaaFx17
namespace Go.Proofs.Ytekhadlpcdjlpaa
namespace Fx
open Go Abs Code
set_option linter.unusedVariables false
set_option linter.unusedSimpArgs false
set_option maxRecDepth 100000

set_option maxHeartbeats 20000000 in
theorem round19 (nt : Nat) (l : List En) (cap i : Nat) (Q0 : AExit → T → AH → Prop) (hl : l.length ≤ 80) (hcap : l.length ≤ cap) (hnt : 1 ≤ nt ∧ nt ≤ 64) (x : En) (hx : l[i]? = some x) :
    begin_ Try.prog 1 (mkT 129 (tkT nt (.slice (some ⟨0, 0, none⟩) l.length cap) (doneL (newL nt) [] (l.take i)) l.length i)) lp19_0 (tkH l (afterL (newL nt) (l.take i)) (doneL (newL nt) [] (l.take i))) (roundQ nt l cap i Q0) := by
  have hlt : i < l.length := (List.getElem?_eq_some_iff.1 hx).1
  have hl2 : l.length ≤ 200 := by omega
  have hlt' : (i : Int) < l.length := by omega
  have hi0 : (0 : Int) ≤ i := by omega
  have hrd := rowOf_at hx
  have hfitr : i * 3 + 3 ≤ (rowOf l).length := by rw [rowOf_length]; omega
  have hxv : (Value.agg #[Value.int IntKind.i64 x.k, Value.int IntKind.i64 x.t, Value.int IntKind.i64 x.now]) = x.v := rfl
  have hxc : x.v = .agg #[Value.int IntKind.i64 x.k, Value.int IntKind.i64 x.t, Value.int IntKind.i64 x.now] := rfl
  have r := same_all (l.take i) (newL nt) [] (sameR_new nt)
  have hs' := afterL_step (s0 := newL nt) hx
  have hd1' : doneL (newL nt) [] (l.take (i + 1)) = if fitsL (afterL (newL nt) (l.take i)) x then doneL (newL nt) [] (l.take i) ++ [x] else doneL (newL nt) [] (l.take i) := by
    rw [List.take_add_one, hx]
    exact doneL_snoc _ _ _ _
  have hq900s : (afterL (newL nt) (l.take i)).q.length ≤ 900 := by have := afterL_len (n := nt) l i; omega
  have hq900 : (takeL (afterL (newL nt) (l.take i)) x).q.length ≤ 900 := by rw [← hs']; have := afterL_len (n := nt) l (i + 1); omega
  have hlen0 : (doneL (newL nt) [] (l.take i)).length ≤ 900 := by
    have := doneL_len (l.take i) (newL nt) []
    rw [List.length_take] at this
    simp at this
    omega
  obtain ⟨s, hs⟩ : ∃ s, afterL (newL nt) (l.take i) = s := ⟨_, rfl⟩
  obtain ⟨had, hh⟩ : ∃ had, doneL (newL nt) [] (l.take i) = had := ⟨_, rfl⟩
  rw [hs, hh] at r hd1'
  rw [hs] at hs' hq900s hq900
  rw [hh] at hlen0
  rw [hs, hh]
  have hd1 : had.length ≤ 4294967295 := by omega
  have hd2 : (had.length + 1) * 24 ≤ 140737488355328 := by omega
  have hd3 : ¬ OPEN + had.length < OPEN := by omega
  have hd4 : OPEN + had.length - OPEN = had.length := by omega
  have hd5 : (rowOf had).take (had.length * 3) = rowOf had := List.take_of_length_le (by rw [rowOf_length]; omega)
  unfold lp19_0
  by_cases hh0 : had = []
  · subst hh0
    have ev : enV 3 ([] : List En) = .slice none 0 0 := rfl
    have eh : enH ([] : List En) = [] := rfl
    by_cases hf : fitsL s x = true
    · have r' := r.step hf
      have hd' : doneL (newL nt) [] (l.take (i + 1)) = [x] := by rw [hd1', hf]; rfl
      have hlen1 : ([x]).length ≤ 1000 := by first | (simp; done) | (simp; omega)
      have hhq : (takeL s x).q ≠ [] → [x] ≠ [] := fun _ => by simp
      have hs2 : takeL s x = takeL s x := rfl
      simp (maxSteps := 2000000) (implicitDefEqProofs := false) [DN, NB, begT, atHead, kd, wantedA, evP, evR, evF, evL, evC, evBin, evUn, evEq, evSt, evRes, plain, scp, scpA, scpL, rdRow, rdCells, veq, veqA, veqL, isHole, Value.cells, evalL, optI, evBounds, evFill, evFillR, evApp, newsOf, wrCells, one1, fitsApp, evClr, undef, onB_bool, List.getElem?_concat_length, List.getElem?_cons_zero, List.getElem?_cons_succ, List.getElem?_toArray, List.getElem?_nil, List.set_cons_zero, List.set_cons_succ, List.cons_append, List.nil_append, -getElem?_pos, -getElem?_neg, tkT, tkH, ev, eh, hlt', hi0, hrd, hfitr, set_concat, splice_many]
      rw [hxv]
      refine fits13G (l := []) (A := none) (cap := 0) (by first | (simp; done) | omega) (.inl rfl) (.inl ⟨rfl, rfl, rfl⟩) x ?_
      rw [r.fits x, hf]
      simp (maxSteps := 2000000) (implicitDefEqProofs := false) [DN, NB, begT, atHead, kd, wantedA, evP, evR, evF, evL, evC, evBin, evUn, evEq, evSt, evRes, plain, scp, scpA, scpL, rdRow, rdCells, veq, veqA, veqL, isHole, Value.cells, evalL, optI, evBounds, evFill, evFillR, evApp, newsOf, wrCells, one1, fitsApp, evClr, undef, onB_bool, List.getElem?_concat_length, List.getElem?_cons_zero, List.getElem?_cons_succ, List.getElem?_toArray, List.getElem?_nil, List.set_cons_zero, List.set_cons_succ, List.cons_append, List.nil_append, -getElem?_pos, -getElem?_neg, hi0, hlt', hrd, hfitr]
      rw [hxv]
      refine takeG hq900s x (b := 1) rfl ?_
      rw [hf]
      simp (maxSteps := 2000000) (implicitDefEqProofs := false) [DN, NB, begT, atHead, kd, wantedA, evP, evR, evF, evL, evC, evBin, evUn, evEq, evSt, evRes, plain, scp, scpA, scpL, rdRow, rdCells, veq, veqA, veqL, isHole, Value.cells, evalL, optI, evBounds, evFill, evFillR, evApp, newsOf, wrCells, one1, fitsApp, evClr, undef, onB_bool, List.getElem?_concat_length, List.getElem?_cons_zero, List.getElem?_cons_succ, List.getElem?_toArray, List.getElem?_nil, List.set_cons_zero, List.set_cons_succ, List.cons_append, List.nil_append, -getElem?_pos, -getElem?_neg, hxc]
      refine queueG (s := takeL s x) hq900 rfl ?_
      intro qv E hqo
      obtain ⟨q, hq⟩ : ∃ q, (takeL s x).q = q := ⟨_, rfl⟩
      rw [hq] at hqo hq900
      have hqr : queueR ([x]) = q := by have h := r'.q; rw [hq] at h; exact h.symm
      cases hqo with
      | nil h =>
        subst h
        simp (maxSteps := 2000000) (implicitDefEqProofs := false) [DN, NB, begT, atHead, kd, wantedA, evP, evR, evF, evL, evC, evBin, evUn, evEq, evSt, evRes, plain, scp, scpA, scpL, rdRow, rdCells, veq, veqA, veqL, isHole, Value.cells, evalL, optI, evBounds, evFill, evFillR, evApp, newsOf, wrCells, one1, fitsApp, evClr, undef, onB_bool, List.getElem?_concat_length, List.getElem?_cons_zero, List.getElem?_cons_succ, List.getElem?_toArray, List.getElem?_nil, List.set_cons_zero, List.set_cons_succ, List.cons_append, List.nil_append, -getElem?_pos, -getElem?_neg]
        refine queue13G (l := [x]) (A := some ⟨5, 0, none⟩) (cap := OPEN + 1) hlen1 (.inr ⟨_, rfl, Nat.le_refl _⟩) (.inr ⟨5, 0, none, rfl, .inr ⟨rfl, rowOf [x], rfl, fun i v hv => by simpa using hv⟩⟩) ?_
        rw [hqr]
        rw [show ∀ n, outV n ([] : List Int) = .slice none 0 0 from fun _ => rfl, show outH ([] : List Int) = [] from rfl]
        simp (maxSteps := 2000000) (implicitDefEqProofs := false) [DN, NB, begT, atHead, kd, wantedA, evP, evR, evF, evL, evC, evBin, evUn, evEq, evSt, evRes, plain, scp, scpA, scpL, rdRow, rdCells, veq, veqA, veqL, isHole, Value.cells, evalL, optI, evBounds, evFill, evFillR, evApp, newsOf, wrCells, one1, fitsApp, evClr, undef, onB_bool, List.getElem?_concat_length, List.getElem?_cons_zero, List.getElem?_cons_succ, List.getElem?_toArray, List.getElem?_nil, List.set_cons_zero, List.set_cons_succ, List.cons_append, List.nil_append, -getElem?_pos, -getElem?_neg]
        refine tail19b nt l cap i _ hl2 x hx (takeL s x) ([x]) r' hs' hd' hlen1 _ _ (cnHead (ib := 3) (ih := 5) (by simp) rfl rfl rfl rfl (fun _ => by simp [rowOf_snoc, rowOf]) rfl (by simp [GB]) (by simp [GB]) (by simp [GB]) (by simp [GB, enV]) (by simp [GB]) (by simp [GB]) (by simp [GB]) (by simp [GB]) (by simp [GB]) (by simp [GB]))
      | emp h =>
        subst h
        simp (maxSteps := 2000000) (implicitDefEqProofs := false) [DN, NB, begT, atHead, kd, wantedA, evP, evR, evF, evL, evC, evBin, evUn, evEq, evSt, evRes, plain, scp, scpA, scpL, rdRow, rdCells, veq, veqA, veqL, isHole, Value.cells, evalL, optI, evBounds, evFill, evFillR, evApp, newsOf, wrCells, one1, fitsApp, evClr, undef, onB_bool, List.getElem?_concat_length, List.getElem?_cons_zero, List.getElem?_cons_succ, List.getElem?_toArray, List.getElem?_nil, List.set_cons_zero, List.set_cons_succ, List.cons_append, List.nil_append, -getElem?_pos, -getElem?_neg]
        refine queue13G (l := [x]) (A := some ⟨5, 0, none⟩) (cap := OPEN + 1) hlen1 (.inr ⟨_, rfl, Nat.le_refl _⟩) (.inr ⟨5, 0, none, rfl, .inr ⟨rfl, rowOf [x], rfl, fun i v hv => by simpa using hv⟩⟩) ?_
        rw [hqr]
        rw [show ∀ n, outV n ([] : List Int) = .slice none 0 0 from fun _ => rfl, show outH ([] : List Int) = [] from rfl]
        simp (maxSteps := 2000000) (implicitDefEqProofs := false) [DN, NB, begT, atHead, kd, wantedA, evP, evR, evF, evL, evC, evBin, evUn, evEq, evSt, evRes, plain, scp, scpA, scpL, rdRow, rdCells, veq, veqA, veqL, isHole, Value.cells, evalL, optI, evBounds, evFill, evFillR, evApp, newsOf, wrCells, one1, fitsApp, evClr, undef, onB_bool, List.getElem?_concat_length, List.getElem?_cons_zero, List.getElem?_cons_succ, List.getElem?_toArray, List.getElem?_nil, List.set_cons_zero, List.set_cons_succ, List.cons_append, List.nil_append, -getElem?_pos, -getElem?_neg]
        refine tail19b nt l cap i _ hl2 x hx (takeL s x) ([x]) r' hs' hd' hlen1 _ _ (cnHead (ib := 3) (ih := 5) (by simp) rfl rfl rfl rfl (fun _ => by simp [rowOf_snoc, rowOf]) rfl (by simp [GB]) (by simp [GB]) (by simp [GB]) (by simp [GB, enV]) (by simp [GB]) (by simp [GB]) (by simp [GB]) (by simp [GB]) (by simp [GB]) (by simp [GB]))
      | some_ h =>
        simp (maxSteps := 2000000) (implicitDefEqProofs := false) [DN, NB, begT, atHead, kd, wantedA, evP, evR, evF, evL, evC, evBin, evUn, evEq, evSt, evRes, plain, scp, scpA, scpL, rdRow, rdCells, veq, veqA, veqL, isHole, Value.cells, evalL, optI, evBounds, evFill, evFillR, evApp, newsOf, wrCells, one1, fitsApp, evClr, undef, onB_bool, List.getElem?_concat_length, List.getElem?_cons_zero, List.getElem?_cons_succ, List.getElem?_toArray, List.getElem?_nil, List.set_cons_zero, List.set_cons_succ, List.cons_append, List.nil_append, -getElem?_pos, -getElem?_neg]
        refine queue13G (l := [x]) (A := some ⟨5, 0, none⟩) (cap := OPEN + 1) hlen1 (.inr ⟨_, rfl, Nat.le_refl _⟩) (.inr ⟨5, 0, none, rfl, .inr ⟨rfl, rowOf [x], rfl, fun i v hv => by simpa using hv⟩⟩) ?_
        rw [hqr]
        have o1 : ∀ n, outV n q = .slice (some ⟨n, 0, none⟩) q.length (OPEN + q.length) := fun _ => by simp [outV, h]
        have o2 : outH q = [.cells (ints q) 3 (some 1)] := by simp [outH, h]
        rw [o1, o2]
        simp (maxSteps := 2000000) (implicitDefEqProofs := false) [DN, NB, begT, atHead, kd, wantedA, evP, evR, evF, evL, evC, evBin, evUn, evEq, evSt, evRes, plain, scp, scpA, scpL, rdRow, rdCells, veq, veqA, veqL, isHole, Value.cells, evalL, optI, evBounds, evFill, evFillR, evApp, newsOf, wrCells, one1, fitsApp, evClr, undef, onB_bool, List.getElem?_concat_length, List.getElem?_cons_zero, List.getElem?_cons_succ, List.getElem?_toArray, List.getElem?_nil, List.set_cons_zero, List.set_cons_succ, List.cons_append, List.nil_append, -getElem?_pos, -getElem?_neg]
        refine tail19a nt l cap i _ hl2 x hx (takeL s x) ([x]) r' hs' hd' hlen1 q hq h (hhq (by rw [hq]; exact h)) hq900 _ _ _ _ (cmHead (c1 := OPEN + q.length) (c2 := OPEN + q.length) (ib := 3) (iq1 := 6) (iq2 := 7) (ih := 5) (by simp) rfl rfl rfl rfl rfl rfl (by simp [rowOf_snoc, rowOf]) rfl (by simp [GB]) (by simp [GB]) (by simp [GB]) (by simp [GB]) (by simp [GB]) (by simp [GB]) (by simp [GB]) (by simp [GB]) (by simp [GB]) (by simp [GB]) (by simp [GB]) (by simp [GB]))
    · replace hf : fitsL s x = false := by simpa using hf
      have r' : SameR nt (takeL s x) [] := by rw [takeL_no hf]; exact r
      have hd' : doneL (newL nt) [] (l.take (i + 1)) = [] := by rw [hd1', hf]; rfl
      have hlen1 : ([] : List En).length ≤ 1000 := by simp
      have hhq : (takeL s x).q ≠ [] → ([] : List En) ≠ [] := fun h => absurd r'.q h
      have hs2 : takeL s x = s := takeL_no hf
      simp (maxSteps := 2000000) (implicitDefEqProofs := false) [DN, NB, begT, atHead, kd, wantedA, evP, evR, evF, evL, evC, evBin, evUn, evEq, evSt, evRes, plain, scp, scpA, scpL, rdRow, rdCells, veq, veqA, veqL, isHole, Value.cells, evalL, optI, evBounds, evFill, evFillR, evApp, newsOf, wrCells, one1, fitsApp, evClr, undef, onB_bool, List.getElem?_concat_length, List.getElem?_cons_zero, List.getElem?_cons_succ, List.getElem?_toArray, List.getElem?_nil, List.set_cons_zero, List.set_cons_succ, List.cons_append, List.nil_append, -getElem?_pos, -getElem?_neg, tkT, tkH, ev, eh, hlt', hi0, hrd, hfitr, set_concat, splice_many]
      rw [hxv]
      refine fits13G (l := []) (A := none) (cap := 0) (by first | (simp; done) | omega) (.inl rfl) (.inl ⟨rfl, rfl, rfl⟩) x ?_
      rw [r.fits x, hf]
      simp (maxSteps := 2000000) (implicitDefEqProofs := false) [DN, NB, begT, atHead, kd, wantedA, evP, evR, evF, evL, evC, evBin, evUn, evEq, evSt, evRes, plain, scp, scpA, scpL, rdRow, rdCells, veq, veqA, veqL, isHole, Value.cells, evalL, optI, evBounds, evFill, evFillR, evApp, newsOf, wrCells, one1, fitsApp, evClr, undef, onB_bool, List.getElem?_concat_length, List.getElem?_cons_zero, List.getElem?_cons_succ, List.getElem?_toArray, List.getElem?_nil, List.set_cons_zero, List.set_cons_succ, List.cons_append, List.nil_append, -getElem?_pos, -getElem?_neg, hi0, hlt', hrd, hfitr]
      rw [hxv]
      refine takeG hq900s x (b := 1) rfl ?_
      rw [hf]
      simp (maxSteps := 2000000) (implicitDefEqProofs := false) [DN, NB, begT, atHead, kd, wantedA, evP, evR, evF, evL, evC, evBin, evUn, evEq, evSt, evRes, plain, scp, scpA, scpL, rdRow, rdCells, veq, veqA, veqL, isHole, Value.cells, evalL, optI, evBounds, evFill, evFillR, evApp, newsOf, wrCells, one1, fitsApp, evClr, undef, onB_bool, List.getElem?_concat_length, List.getElem?_cons_zero, List.getElem?_cons_succ, List.getElem?_toArray, List.getElem?_nil, List.set_cons_zero, List.set_cons_succ, List.cons_append, List.nil_append, -getElem?_pos, -getElem?_neg]
      refine queueG (s := takeL s x) hq900 rfl ?_
      intro qv E hqo
      obtain ⟨q, hq⟩ : ∃ q, (takeL s x).q = q := ⟨_, rfl⟩
      rw [hq] at hqo hq900
      have hqr : queueR (([] : List En)) = q := by have h := r'.q; rw [hq] at h; exact h.symm
      cases hqo with
      | nil h =>
        subst h
        simp (maxSteps := 2000000) (implicitDefEqProofs := false) [DN, NB, begT, atHead, kd, wantedA, evP, evR, evF, evL, evC, evBin, evUn, evEq, evSt, evRes, plain, scp, scpA, scpL, rdRow, rdCells, veq, veqA, veqL, isHole, Value.cells, evalL, optI, evBounds, evFill, evFillR, evApp, newsOf, wrCells, one1, fitsApp, evClr, undef, onB_bool, List.getElem?_concat_length, List.getElem?_cons_zero, List.getElem?_cons_succ, List.getElem?_toArray, List.getElem?_nil, List.set_cons_zero, List.set_cons_succ, List.cons_append, List.nil_append, -getElem?_pos, -getElem?_neg]
        refine queue13G (l := []) (A := none) (cap := 0) hlen1 (.inl rfl) (.inl ⟨rfl, rfl, rfl⟩) ?_
        rw [hqr]
        rw [show ∀ n, outV n ([] : List Int) = .slice none 0 0 from fun _ => rfl, show outH ([] : List Int) = [] from rfl]
        simp (maxSteps := 2000000) (implicitDefEqProofs := false) [DN, NB, begT, atHead, kd, wantedA, evP, evR, evF, evL, evC, evBin, evUn, evEq, evSt, evRes, plain, scp, scpA, scpL, rdRow, rdCells, veq, veqA, veqL, isHole, Value.cells, evalL, optI, evBounds, evFill, evFillR, evApp, newsOf, wrCells, one1, fitsApp, evClr, undef, onB_bool, List.getElem?_concat_length, List.getElem?_cons_zero, List.getElem?_cons_succ, List.getElem?_toArray, List.getElem?_nil, List.set_cons_zero, List.set_cons_succ, List.cons_append, List.nil_append, -getElem?_pos, -getElem?_neg]
        refine tail19b nt l cap i _ hl2 x hx (takeL s x) (([] : List En)) r' hs' hd' hlen1 _ _ (cnHead (ib := 3) (ih := 4) (by simp) rfl rfl rfl rfl (by simp) rfl (by simp [GB]) (by simp [GB]) (by simp [GB]) (by simp [GB, enV]) (by simp [GB]) (by simp [GB]) (by simp [GB]) (by simp [GB]) (by simp [GB]) (by simp [GB]))
      | emp h =>
        subst h
        simp (maxSteps := 2000000) (implicitDefEqProofs := false) [DN, NB, begT, atHead, kd, wantedA, evP, evR, evF, evL, evC, evBin, evUn, evEq, evSt, evRes, plain, scp, scpA, scpL, rdRow, rdCells, veq, veqA, veqL, isHole, Value.cells, evalL, optI, evBounds, evFill, evFillR, evApp, newsOf, wrCells, one1, fitsApp, evClr, undef, onB_bool, List.getElem?_concat_length, List.getElem?_cons_zero, List.getElem?_cons_succ, List.getElem?_toArray, List.getElem?_nil, List.set_cons_zero, List.set_cons_succ, List.cons_append, List.nil_append, -getElem?_pos, -getElem?_neg]
        refine queue13G (l := []) (A := none) (cap := 0) hlen1 (.inl rfl) (.inl ⟨rfl, rfl, rfl⟩) ?_
        rw [hqr]
        rw [show ∀ n, outV n ([] : List Int) = .slice none 0 0 from fun _ => rfl, show outH ([] : List Int) = [] from rfl]
        simp (maxSteps := 2000000) (implicitDefEqProofs := false) [DN, NB, begT, atHead, kd, wantedA, evP, evR, evF, evL, evC, evBin, evUn, evEq, evSt, evRes, plain, scp, scpA, scpL, rdRow, rdCells, veq, veqA, veqL, isHole, Value.cells, evalL, optI, evBounds, evFill, evFillR, evApp, newsOf, wrCells, one1, fitsApp, evClr, undef, onB_bool, List.getElem?_concat_length, List.getElem?_cons_zero, List.getElem?_cons_succ, List.getElem?_toArray, List.getElem?_nil, List.set_cons_zero, List.set_cons_succ, List.cons_append, List.nil_append, -getElem?_pos, -getElem?_neg]
        refine tail19b nt l cap i _ hl2 x hx (takeL s x) (([] : List En)) r' hs' hd' hlen1 _ _ (cnHead (ib := 3) (ih := 4) (by simp) rfl rfl rfl rfl (by simp) rfl (by simp [GB]) (by simp [GB]) (by simp [GB]) (by simp [GB, enV]) (by simp [GB]) (by simp [GB]) (by simp [GB]) (by simp [GB]) (by simp [GB]) (by simp [GB]))
      | some_ h =>
        exact absurd rfl (hhq (by rw [hq]; exact h))

  · have ev : enV 3 had = .slice (some ⟨3, 0, none⟩) had.length (OPEN + had.length) := by simp [enV, hh0]
    have eh : enH had = [.cells (rowOf had) 126 (some 3)] := by simp [enH, hh0]
    by_cases hf : fitsL s x = true
    · have r' := r.step hf
      have hd' : doneL (newL nt) [] (l.take (i + 1)) = had ++ [x] := by rw [hd1', hf]; rfl
      have hlen1 : (had ++ [x]).length ≤ 1000 := by first | (simp; done) | (simp; omega)
      have hhq : (takeL s x).q ≠ [] → had ++ [x] ≠ [] := fun _ => by simp
      have hs2 : takeL s x = takeL s x := rfl
      simp (maxSteps := 2000000) (implicitDefEqProofs := false) [DN, NB, begT, atHead, kd, wantedA, evP, evR, evF, evL, evC, evBin, evUn, evEq, evSt, evRes, plain, scp, scpA, scpL, rdRow, rdCells, veq, veqA, veqL, isHole, Value.cells, evalL, optI, evBounds, evFill, evFillR, evApp, newsOf, wrCells, one1, fitsApp, evClr, undef, onB_bool, List.getElem?_concat_length, List.getElem?_cons_zero, List.getElem?_cons_succ, List.getElem?_toArray, List.getElem?_nil, List.set_cons_zero, List.set_cons_succ, List.cons_append, List.nil_append, -getElem?_pos, -getElem?_neg, tkT, tkH, ev, eh, hlt', hi0, hrd, hfitr, set_concat, splice_many]
      rw [hxv]
      refine fits13G (l := had) (A := some ⟨3, 0, none⟩) (cap := OPEN + had.length) (by first | (simp; done) | omega) (.inr ⟨_, rfl, Nat.le_refl _⟩) (.inr ⟨3, 0, none, rfl, .inr ⟨rfl, rowOf had, rfl, fun i v hv => by simpa using hv⟩⟩) x ?_
      rw [r.fits x, hf]
      simp (maxSteps := 2000000) (implicitDefEqProofs := false) [DN, NB, begT, atHead, kd, wantedA, evP, evR, evF, evL, evC, evBin, evUn, evEq, evSt, evRes, plain, scp, scpA, scpL, rdRow, rdCells, veq, veqA, veqL, isHole, Value.cells, evalL, optI, evBounds, evFill, evFillR, evApp, newsOf, wrCells, one1, fitsApp, evClr, undef, onB_bool, List.getElem?_concat_length, List.getElem?_cons_zero, List.getElem?_cons_succ, List.getElem?_toArray, List.getElem?_nil, List.set_cons_zero, List.set_cons_succ, List.cons_append, List.nil_append, -getElem?_pos, -getElem?_neg, hi0, hlt', hrd, hfitr]
      rw [hxv]
      refine takeG hq900s x (b := 1) rfl ?_
      rw [hf]
      simp (maxSteps := 2000000) (implicitDefEqProofs := false) [DN, NB, begT, atHead, kd, wantedA, evP, evR, evF, evL, evC, evBin, evUn, evEq, evSt, evRes, plain, scp, scpA, scpL, rdRow, rdCells, veq, veqA, veqL, isHole, Value.cells, evalL, optI, evBounds, evFill, evFillR, evApp, newsOf, wrCells, one1, fitsApp, evClr, undef, onB_bool, List.getElem?_concat_length, List.getElem?_cons_zero, List.getElem?_cons_succ, List.getElem?_toArray, List.getElem?_nil, List.set_cons_zero, List.set_cons_succ, List.cons_append, List.nil_append, -getElem?_pos, -getElem?_neg, hxc, hd1, hd2, hd3, hd4, hd5, rowOf_length, capLow_open]
      refine queueG (s := takeL s x) hq900 rfl ?_
      intro qv E hqo
      obtain ⟨q, hq⟩ : ∃ q, (takeL s x).q = q := ⟨_, rfl⟩
      rw [hq] at hqo hq900
      have hqr : queueR (had ++ [x]) = q := by have h := r'.q; rw [hq] at h; exact h.symm
      cases hqo with
      | nil h =>
        subst h
        simp (maxSteps := 2000000) (implicitDefEqProofs := false) [DN, NB, begT, atHead, kd, wantedA, evP, evR, evF, evL, evC, evBin, evUn, evEq, evSt, evRes, plain, scp, scpA, scpL, rdRow, rdCells, veq, veqA, veqL, isHole, Value.cells, evalL, optI, evBounds, evFill, evFillR, evApp, newsOf, wrCells, one1, fitsApp, evClr, undef, onB_bool, List.getElem?_concat_length, List.getElem?_cons_zero, List.getElem?_cons_succ, List.getElem?_toArray, List.getElem?_nil, List.set_cons_zero, List.set_cons_succ, List.cons_append, List.nil_append, -getElem?_pos, -getElem?_neg]
        rw [show had.length + 1 = (had ++ [x]).length by simp]
        refine queue13G (l := had ++ [x]) (A := some ⟨6, 0, none⟩) (cap := OPEN + (had ++ [x]).length) hlen1 (.inr ⟨_, rfl, Nat.le_refl _⟩) (.inr ⟨6, 0, none, rfl, .inr ⟨rfl, rowOf (had ++ [x]), by simp [rdRow, rowOf_snoc, rowOf], fun i v hv => by simpa using hv⟩⟩) ?_
        rw [hqr]
        rw [show ∀ n, outV n ([] : List Int) = .slice none 0 0 from fun _ => rfl, show outH ([] : List Int) = [] from rfl]
        simp (maxSteps := 2000000) (implicitDefEqProofs := false) [DN, NB, begT, atHead, kd, wantedA, evP, evR, evF, evL, evC, evBin, evUn, evEq, evSt, evRes, plain, scp, scpA, scpL, rdRow, rdCells, veq, veqA, veqL, isHole, Value.cells, evalL, optI, evBounds, evFill, evFillR, evApp, newsOf, wrCells, one1, fitsApp, evClr, undef, onB_bool, List.getElem?_concat_length, List.getElem?_cons_zero, List.getElem?_cons_succ, List.getElem?_toArray, List.getElem?_nil, List.set_cons_zero, List.set_cons_succ, List.cons_append, List.nil_append, -getElem?_pos, -getElem?_neg]
        refine tail19b nt l cap i _ hl2 x hx (takeL s x) (had ++ [x]) r' hs' hd' hlen1 _ _ (cnHead (ib := 4) (ih := 6) (by simp) rfl rfl rfl rfl (fun _ => by simp [rowOf_snoc, rowOf]) rfl (by simp [GB]) (by simp [GB]) (by simp [GB]) (by simp [GB, enV, hh0]) (by simp [GB]) (by simp [GB]) (by simp [GB]) (by simp [GB]) (by simp [GB]) (by simp [GB]))
      | emp h =>
        subst h
        simp (maxSteps := 2000000) (implicitDefEqProofs := false) [DN, NB, begT, atHead, kd, wantedA, evP, evR, evF, evL, evC, evBin, evUn, evEq, evSt, evRes, plain, scp, scpA, scpL, rdRow, rdCells, veq, veqA, veqL, isHole, Value.cells, evalL, optI, evBounds, evFill, evFillR, evApp, newsOf, wrCells, one1, fitsApp, evClr, undef, onB_bool, List.getElem?_concat_length, List.getElem?_cons_zero, List.getElem?_cons_succ, List.getElem?_toArray, List.getElem?_nil, List.set_cons_zero, List.set_cons_succ, List.cons_append, List.nil_append, -getElem?_pos, -getElem?_neg]
        rw [show had.length + 1 = (had ++ [x]).length by simp]
        refine queue13G (l := had ++ [x]) (A := some ⟨6, 0, none⟩) (cap := OPEN + (had ++ [x]).length) hlen1 (.inr ⟨_, rfl, Nat.le_refl _⟩) (.inr ⟨6, 0, none, rfl, .inr ⟨rfl, rowOf (had ++ [x]), by simp [rdRow, rowOf_snoc, rowOf], fun i v hv => by simpa using hv⟩⟩) ?_
        rw [hqr]
        rw [show ∀ n, outV n ([] : List Int) = .slice none 0 0 from fun _ => rfl, show outH ([] : List Int) = [] from rfl]
        simp (maxSteps := 2000000) (implicitDefEqProofs := false) [DN, NB, begT, atHead, kd, wantedA, evP, evR, evF, evL, evC, evBin, evUn, evEq, evSt, evRes, plain, scp, scpA, scpL, rdRow, rdCells, veq, veqA, veqL, isHole, Value.cells, evalL, optI, evBounds, evFill, evFillR, evApp, newsOf, wrCells, one1, fitsApp, evClr, undef, onB_bool, List.getElem?_concat_length, List.getElem?_cons_zero, List.getElem?_cons_succ, List.getElem?_toArray, List.getElem?_nil, List.set_cons_zero, List.set_cons_succ, List.cons_append, List.nil_append, -getElem?_pos, -getElem?_neg]
        refine tail19b nt l cap i _ hl2 x hx (takeL s x) (had ++ [x]) r' hs' hd' hlen1 _ _ (cnHead (ib := 4) (ih := 6) (by simp) rfl rfl rfl rfl (fun _ => by simp [rowOf_snoc, rowOf]) rfl (by simp [GB]) (by simp [GB]) (by simp [GB]) (by simp [GB, enV, hh0]) (by simp [GB]) (by simp [GB]) (by simp [GB]) (by simp [GB]) (by simp [GB]) (by simp [GB]))
      | some_ h =>
        simp (maxSteps := 2000000) (implicitDefEqProofs := false) [DN, NB, begT, atHead, kd, wantedA, evP, evR, evF, evL, evC, evBin, evUn, evEq, evSt, evRes, plain, scp, scpA, scpL, rdRow, rdCells, veq, veqA, veqL, isHole, Value.cells, evalL, optI, evBounds, evFill, evFillR, evApp, newsOf, wrCells, one1, fitsApp, evClr, undef, onB_bool, List.getElem?_concat_length, List.getElem?_cons_zero, List.getElem?_cons_succ, List.getElem?_toArray, List.getElem?_nil, List.set_cons_zero, List.set_cons_succ, List.cons_append, List.nil_append, -getElem?_pos, -getElem?_neg]
        rw [show had.length + 1 = (had ++ [x]).length by simp]
        refine queue13G (l := had ++ [x]) (A := some ⟨6, 0, none⟩) (cap := OPEN + (had ++ [x]).length) hlen1 (.inr ⟨_, rfl, Nat.le_refl _⟩) (.inr ⟨6, 0, none, rfl, .inr ⟨rfl, rowOf (had ++ [x]), by simp [rdRow, rowOf_snoc, rowOf], fun i v hv => by simpa using hv⟩⟩) ?_
        rw [hqr]
        have o1 : ∀ n, outV n q = .slice (some ⟨n, 0, none⟩) q.length (OPEN + q.length) := fun _ => by simp [outV, h]
        have o2 : outH q = [.cells (ints q) 3 (some 1)] := by simp [outH, h]
        rw [o1, o2]
        simp (maxSteps := 2000000) (implicitDefEqProofs := false) [DN, NB, begT, atHead, kd, wantedA, evP, evR, evF, evL, evC, evBin, evUn, evEq, evSt, evRes, plain, scp, scpA, scpL, rdRow, rdCells, veq, veqA, veqL, isHole, Value.cells, evalL, optI, evBounds, evFill, evFillR, evApp, newsOf, wrCells, one1, fitsApp, evClr, undef, onB_bool, List.getElem?_concat_length, List.getElem?_cons_zero, List.getElem?_cons_succ, List.getElem?_toArray, List.getElem?_nil, List.set_cons_zero, List.set_cons_succ, List.cons_append, List.nil_append, -getElem?_pos, -getElem?_neg]
        refine tail19a nt l cap i _ hl2 x hx (takeL s x) (had ++ [x]) r' hs' hd' hlen1 q hq h (hhq (by rw [hq]; exact h)) hq900 _ _ _ _ (cmHead (c1 := OPEN + q.length) (c2 := OPEN + q.length) (ib := 4) (iq1 := 7) (iq2 := 8) (ih := 6) (by simp) rfl rfl rfl rfl rfl rfl (by simp [rowOf_snoc, rowOf]) rfl (by simp [GB]) (by simp [GB]) (by simp [GB]) (by simp [GB]) (by simp [GB]) (by simp [GB]) (by simp [GB]) (by simp [GB]) (by simp [GB]) (by simp [GB]) (by simp [GB]) (by simp [GB]))
    · replace hf : fitsL s x = false := by simpa using hf
      have r' : SameR nt (takeL s x) had := by rw [takeL_no hf]; exact r
      have hd' : doneL (newL nt) [] (l.take (i + 1)) = had := by rw [hd1', hf]; rfl
      have hlen1 : (had : List En).length ≤ 1000 := by omega
      have hhq : (takeL s x).q ≠ [] → (had : List En) ≠ [] := fun _ => hh0
      have hs2 : takeL s x = s := takeL_no hf
      simp (maxSteps := 2000000) (implicitDefEqProofs := false) [DN, NB, begT, atHead, kd, wantedA, evP, evR, evF, evL, evC, evBin, evUn, evEq, evSt, evRes, plain, scp, scpA, scpL, rdRow, rdCells, veq, veqA, veqL, isHole, Value.cells, evalL, optI, evBounds, evFill, evFillR, evApp, newsOf, wrCells, one1, fitsApp, evClr, undef, onB_bool, List.getElem?_concat_length, List.getElem?_cons_zero, List.getElem?_cons_succ, List.getElem?_toArray, List.getElem?_nil, List.set_cons_zero, List.set_cons_succ, List.cons_append, List.nil_append, -getElem?_pos, -getElem?_neg, tkT, tkH, ev, eh, hlt', hi0, hrd, hfitr, set_concat, splice_many]
      rw [hxv]
      refine fits13G (l := had) (A := some ⟨3, 0, none⟩) (cap := OPEN + had.length) (by first | (simp; done) | omega) (.inr ⟨_, rfl, Nat.le_refl _⟩) (.inr ⟨3, 0, none, rfl, .inr ⟨rfl, rowOf had, rfl, fun i v hv => by simpa using hv⟩⟩) x ?_
      rw [r.fits x, hf]
      simp (maxSteps := 2000000) (implicitDefEqProofs := false) [DN, NB, begT, atHead, kd, wantedA, evP, evR, evF, evL, evC, evBin, evUn, evEq, evSt, evRes, plain, scp, scpA, scpL, rdRow, rdCells, veq, veqA, veqL, isHole, Value.cells, evalL, optI, evBounds, evFill, evFillR, evApp, newsOf, wrCells, one1, fitsApp, evClr, undef, onB_bool, List.getElem?_concat_length, List.getElem?_cons_zero, List.getElem?_cons_succ, List.getElem?_toArray, List.getElem?_nil, List.set_cons_zero, List.set_cons_succ, List.cons_append, List.nil_append, -getElem?_pos, -getElem?_neg, hi0, hlt', hrd, hfitr]
      rw [hxv]
      refine takeG hq900s x (b := 1) rfl ?_
      rw [hf]
      simp (maxSteps := 2000000) (implicitDefEqProofs := false) [DN, NB, begT, atHead, kd, wantedA, evP, evR, evF, evL, evC, evBin, evUn, evEq, evSt, evRes, plain, scp, scpA, scpL, rdRow, rdCells, veq, veqA, veqL, isHole, Value.cells, evalL, optI, evBounds, evFill, evFillR, evApp, newsOf, wrCells, one1, fitsApp, evClr, undef, onB_bool, List.getElem?_concat_length, List.getElem?_cons_zero, List.getElem?_cons_succ, List.getElem?_toArray, List.getElem?_nil, List.set_cons_zero, List.set_cons_succ, List.cons_append, List.nil_append, -getElem?_pos, -getElem?_neg]
      refine queueG (s := takeL s x) hq900 rfl ?_
      intro qv E hqo
      obtain ⟨q, hq⟩ : ∃ q, (takeL s x).q = q := ⟨_, rfl⟩
      rw [hq] at hqo hq900
      have hqr : queueR (had) = q := by have h := r'.q; rw [hq] at h; exact h.symm
      cases hqo with
      | nil h =>
        subst h
        simp (maxSteps := 2000000) (implicitDefEqProofs := false) [DN, NB, begT, atHead, kd, wantedA, evP, evR, evF, evL, evC, evBin, evUn, evEq, evSt, evRes, plain, scp, scpA, scpL, rdRow, rdCells, veq, veqA, veqL, isHole, Value.cells, evalL, optI, evBounds, evFill, evFillR, evApp, newsOf, wrCells, one1, fitsApp, evClr, undef, onB_bool, List.getElem?_concat_length, List.getElem?_cons_zero, List.getElem?_cons_succ, List.getElem?_toArray, List.getElem?_nil, List.set_cons_zero, List.set_cons_succ, List.cons_append, List.nil_append, -getElem?_pos, -getElem?_neg]
        refine queue13G (l := had) (A := some ⟨3, 0, none⟩) (cap := OPEN + (had).length) hlen1 (.inr ⟨_, rfl, Nat.le_refl _⟩) (.inr ⟨3, 0, none, rfl, .inr ⟨rfl, rowOf (had), by simp [rdRow, rowOf_snoc, rowOf], fun i v hv => by simpa using hv⟩⟩) ?_
        rw [hqr]
        rw [show ∀ n, outV n ([] : List Int) = .slice none 0 0 from fun _ => rfl, show outH ([] : List Int) = [] from rfl]
        simp (maxSteps := 2000000) (implicitDefEqProofs := false) [DN, NB, begT, atHead, kd, wantedA, evP, evR, evF, evL, evC, evBin, evUn, evEq, evSt, evRes, plain, scp, scpA, scpL, rdRow, rdCells, veq, veqA, veqL, isHole, Value.cells, evalL, optI, evBounds, evFill, evFillR, evApp, newsOf, wrCells, one1, fitsApp, evClr, undef, onB_bool, List.getElem?_concat_length, List.getElem?_cons_zero, List.getElem?_cons_succ, List.getElem?_toArray, List.getElem?_nil, List.set_cons_zero, List.set_cons_succ, List.cons_append, List.nil_append, -getElem?_pos, -getElem?_neg]
        refine tail19b nt l cap i _ hl2 x hx (takeL s x) (had) r' hs' hd' hlen1 _ _ (cnHead (ib := 4) (ih := 3) (by simp) rfl rfl rfl rfl (fun _ => by simp [rowOf_snoc, rowOf]) rfl (by simp [GB]) (by simp [GB]) (by simp [GB]) (by simp [GB, enV, hh0]) (by simp [GB]) (by simp [GB]) (by simp [GB]) (by simp [GB]) (by simp [GB]) (by simp [GB]))
      | emp h =>
        subst h
        simp (maxSteps := 2000000) (implicitDefEqProofs := false) [DN, NB, begT, atHead, kd, wantedA, evP, evR, evF, evL, evC, evBin, evUn, evEq, evSt, evRes, plain, scp, scpA, scpL, rdRow, rdCells, veq, veqA, veqL, isHole, Value.cells, evalL, optI, evBounds, evFill, evFillR, evApp, newsOf, wrCells, one1, fitsApp, evClr, undef, onB_bool, List.getElem?_concat_length, List.getElem?_cons_zero, List.getElem?_cons_succ, List.getElem?_toArray, List.getElem?_nil, List.set_cons_zero, List.set_cons_succ, List.cons_append, List.nil_append, -getElem?_pos, -getElem?_neg]
        refine queue13G (l := had) (A := some ⟨3, 0, none⟩) (cap := OPEN + (had).length) hlen1 (.inr ⟨_, rfl, Nat.le_refl _⟩) (.inr ⟨3, 0, none, rfl, .inr ⟨rfl, rowOf (had), by simp [rdRow, rowOf_snoc, rowOf], fun i v hv => by simpa using hv⟩⟩) ?_
        rw [hqr]
        rw [show ∀ n, outV n ([] : List Int) = .slice none 0 0 from fun _ => rfl, show outH ([] : List Int) = [] from rfl]
        simp (maxSteps := 2000000) (implicitDefEqProofs := false) [DN, NB, begT, atHead, kd, wantedA, evP, evR, evF, evL, evC, evBin, evUn, evEq, evSt, evRes, plain, scp, scpA, scpL, rdRow, rdCells, veq, veqA, veqL, isHole, Value.cells, evalL, optI, evBounds, evFill, evFillR, evApp, newsOf, wrCells, one1, fitsApp, evClr, undef, onB_bool, List.getElem?_concat_length, List.getElem?_cons_zero, List.getElem?_cons_succ, List.getElem?_toArray, List.getElem?_nil, List.set_cons_zero, List.set_cons_succ, List.cons_append, List.nil_append, -getElem?_pos, -getElem?_neg]
        refine tail19b nt l cap i _ hl2 x hx (takeL s x) (had) r' hs' hd' hlen1 _ _ (cnHead (ib := 4) (ih := 3) (by simp) rfl rfl rfl rfl (fun _ => by simp [rowOf_snoc, rowOf]) rfl (by simp [GB]) (by simp [GB]) (by simp [GB]) (by simp [GB, enV, hh0]) (by simp [GB]) (by simp [GB]) (by simp [GB]) (by simp [GB]) (by simp [GB]) (by simp [GB]))
      | some_ h =>
        simp (maxSteps := 2000000) (implicitDefEqProofs := false) [DN, NB, begT, atHead, kd, wantedA, evP, evR, evF, evL, evC, evBin, evUn, evEq, evSt, evRes, plain, scp, scpA, scpL, rdRow, rdCells, veq, veqA, veqL, isHole, Value.cells, evalL, optI, evBounds, evFill, evFillR, evApp, newsOf, wrCells, one1, fitsApp, evClr, undef, onB_bool, List.getElem?_concat_length, List.getElem?_cons_zero, List.getElem?_cons_succ, List.getElem?_toArray, List.getElem?_nil, List.set_cons_zero, List.set_cons_succ, List.cons_append, List.nil_append, -getElem?_pos, -getElem?_neg]
        refine queue13G (l := had) (A := some ⟨3, 0, none⟩) (cap := OPEN + (had).length) hlen1 (.inr ⟨_, rfl, Nat.le_refl _⟩) (.inr ⟨3, 0, none, rfl, .inr ⟨rfl, rowOf (had), by simp [rdRow, rowOf_snoc, rowOf], fun i v hv => by simpa using hv⟩⟩) ?_
        rw [hqr]
        have o1 : ∀ n, outV n q = .slice (some ⟨n, 0, none⟩) q.length (OPEN + q.length) := fun _ => by simp [outV, h]
        have o2 : outH q = [.cells (ints q) 3 (some 1)] := by simp [outH, h]
        rw [o1, o2]
        simp (maxSteps := 2000000) (implicitDefEqProofs := false) [DN, NB, begT, atHead, kd, wantedA, evP, evR, evF, evL, evC, evBin, evUn, evEq, evSt, evRes, plain, scp, scpA, scpL, rdRow, rdCells, veq, veqA, veqL, isHole, Value.cells, evalL, optI, evBounds, evFill, evFillR, evApp, newsOf, wrCells, one1, fitsApp, evClr, undef, onB_bool, List.getElem?_concat_length, List.getElem?_cons_zero, List.getElem?_cons_succ, List.getElem?_toArray, List.getElem?_nil, List.set_cons_zero, List.set_cons_succ, List.cons_append, List.nil_append, -getElem?_pos, -getElem?_neg]
        refine tail19a nt l cap i _ hl2 x hx (takeL s x) (had) r' hs' hd' hlen1 q hq h (hhq (by rw [hq]; exact h)) hq900 _ _ _ _ (cmHead (c1 := OPEN + q.length) (c2 := OPEN + q.length) (ib := 4) (iq1 := 5) (iq2 := 6) (ih := 3) (by simp) rfl rfl rfl rfl rfl rfl (by simp [rowOf_snoc, rowOf]) rfl (by simp [GB]) (by simp [GB]) (by simp [GB]) (by simp [GB]) (by simp [GB]) (by simp [GB]) (by simp [GB]) (by simp [GB]) (by simp [GB]) (by simp [GB]) (by simp [GB]) (by simp [GB]))

set_option maxHeartbeats 8000000 in
theorem takes_ (n : Int) (l : List En) (A : Option Addr) (cap : Nat) (hcl : l.length ≤ cap) (hcap : cap < OPEN) (hA : (l = [] ∧ cap = 0 ∧ A = none) ∨ (∃ d, l = [] ∧ A = some ⟨0, 0, some d⟩) ∨ A = some ⟨0, 0, none⟩) :
    AC Try.prog 19 [.int .i64 n, .slice A l.length cap] [.row (rowOf l)] (fun v _ => v = .bool true) := by
  by_cases c1 : 80 < (l.length : Int)
  · refine entry hmix cf19 ?_
    simp (maxSteps := 2000000) (implicitDefEqProofs := false) [DN, NB, begT, atHead, kd, wantedA, evP, evR, evF, evL, evC, evBin, evUn, evEq, evSt, evRes, plain, scp, scpA, scpL, rdRow, rdCells, veq, veqA, veqL, isHole, Value.cells, evalL, optI, evBounds, evFill, evFillR, evApp, newsOf, wrCells, one1, fitsApp, evClr, undef, onB_bool, List.getElem?_concat_length, List.getElem?_cons_zero, List.getElem?_cons_succ, List.getElem?_toArray, List.getElem?_nil, List.set_cons_zero, List.set_cons_succ, List.cons_append, List.nil_append, -getElem?_pos, -getElem?_neg, c1]
    refine awakeK _ _ fun h' => ?_
    simp (maxSteps := 2000000) (implicitDefEqProofs := false) [DN, NB, begT, atHead, kd, wantedA, evP, evR, evF, evL, evC, evBin, evUn, evEq, evSt, evRes, plain, scp, scpA, scpL, rdRow, rdCells, veq, veqA, veqL, isHole, Value.cells, evalL, optI, evBounds, evFill, evFillR, evApp, newsOf, wrCells, one1, fitsApp, evClr, undef, onB_bool, List.getElem?_concat_length, List.getElem?_cons_zero, List.getElem?_cons_succ, List.getElem?_toArray, List.getElem?_nil, List.set_cons_zero, List.set_cons_succ, List.cons_append, List.nil_append, -getElem?_pos, -getElem?_neg]
  by_cases c2 : n < 1
  · refine entry hmix cf19 ?_
    simp (maxSteps := 2000000) (implicitDefEqProofs := false) [DN, NB, begT, atHead, kd, wantedA, evP, evR, evF, evL, evC, evBin, evUn, evEq, evSt, evRes, plain, scp, scpA, scpL, rdRow, rdCells, veq, veqA, veqL, isHole, Value.cells, evalL, optI, evBounds, evFill, evFillR, evApp, newsOf, wrCells, one1, fitsApp, evClr, undef, onB_bool, List.getElem?_concat_length, List.getElem?_cons_zero, List.getElem?_cons_succ, List.getElem?_toArray, List.getElem?_nil, List.set_cons_zero, List.set_cons_succ, List.cons_append, List.nil_append, -getElem?_pos, -getElem?_neg, c1]
    refine entry hmix cf74 ?_
    simp (maxSteps := 2000000) (implicitDefEqProofs := false) [DN, NB, begT, atHead, kd, wantedA, evP, evR, evF, evL, evC, evBin, evUn, evEq, evSt, evRes, plain, scp, scpA, scpL, rdRow, rdCells, veq, veqA, veqL, isHole, Value.cells, evalL, optI, evBounds, evFill, evFillR, evApp, newsOf, wrCells, one1, fitsApp, evClr, undef, onB_bool, List.getElem?_concat_length, List.getElem?_cons_zero, List.getElem?_cons_succ, List.getElem?_toArray, List.getElem?_nil, List.set_cons_zero, List.set_cons_succ, List.cons_append, List.nil_append, -getElem?_pos, -getElem?_neg, c2]
    refine awakeK _ _ fun h' => ?_
    simp (maxSteps := 2000000) (implicitDefEqProofs := false) [DN, NB, begT, atHead, kd, wantedA, evP, evR, evF, evL, evC, evBin, evUn, evEq, evSt, evRes, plain, scp, scpA, scpL, rdRow, rdCells, veq, veqA, veqL, isHole, Value.cells, evalL, optI, evBounds, evFill, evFillR, evApp, newsOf, wrCells, one1, fitsApp, evClr, undef, onB_bool, List.getElem?_concat_length, List.getElem?_cons_zero, List.getElem?_cons_succ, List.getElem?_toArray, List.getElem?_nil, List.set_cons_zero, List.set_cons_succ, List.cons_append, List.nil_append, -getElem?_pos, -getElem?_neg]
  by_cases c3 : 64 < n
  · refine entry hmix cf19 ?_
    simp (maxSteps := 2000000) (implicitDefEqProofs := false) [DN, NB, begT, atHead, kd, wantedA, evP, evR, evF, evL, evC, evBin, evUn, evEq, evSt, evRes, plain, scp, scpA, scpL, rdRow, rdCells, veq, veqA, veqL, isHole, Value.cells, evalL, optI, evBounds, evFill, evFillR, evApp, newsOf, wrCells, one1, fitsApp, evClr, undef, onB_bool, List.getElem?_concat_length, List.getElem?_cons_zero, List.getElem?_cons_succ, List.getElem?_toArray, List.getElem?_nil, List.set_cons_zero, List.set_cons_succ, List.cons_append, List.nil_append, -getElem?_pos, -getElem?_neg, c1]
    refine entry hmix cf74 ?_
    simp (maxSteps := 2000000) (implicitDefEqProofs := false) [DN, NB, begT, atHead, kd, wantedA, evP, evR, evF, evL, evC, evBin, evUn, evEq, evSt, evRes, plain, scp, scpA, scpL, rdRow, rdCells, veq, veqA, veqL, isHole, Value.cells, evalL, optI, evBounds, evFill, evFillR, evApp, newsOf, wrCells, one1, fitsApp, evClr, undef, onB_bool, List.getElem?_concat_length, List.getElem?_cons_zero, List.getElem?_cons_succ, List.getElem?_toArray, List.getElem?_nil, List.set_cons_zero, List.set_cons_succ, List.cons_append, List.nil_append, -getElem?_pos, -getElem?_neg, c2, c3]
    refine awakeK _ _ fun h' => ?_
    simp (maxSteps := 2000000) (implicitDefEqProofs := false) [DN, NB, begT, atHead, kd, wantedA, evP, evR, evF, evL, evC, evBin, evUn, evEq, evSt, evRes, plain, scp, scpA, scpL, rdRow, rdCells, veq, veqA, veqL, isHole, Value.cells, evalL, optI, evBounds, evFill, evFillR, evApp, newsOf, wrCells, one1, fitsApp, evClr, undef, onB_bool, List.getElem?_concat_length, List.getElem?_cons_zero, List.getElem?_cons_succ, List.getElem?_toArray, List.getElem?_nil, List.set_cons_zero, List.set_cons_succ, List.cons_append, List.nil_append, -getElem?_pos, -getElem?_neg]
  obtain ⟨nt, rfl⟩ : ∃ nt : Nat, n = nt := ⟨n.toNat, by omega⟩
  have hn1 : 1 ≤ (nt : Int) := by omega
  have hn2 : (nt : Int) ≤ 64 := by omega
  have hA1 : RowOne l.length A := by
    rcases hA with ⟨rfl, _, rfl⟩ | ⟨d, rfl, rfl⟩ | h
    · exact .inl ⟨rfl, .inl rfl⟩
    · exact .inl ⟨rfl, .inr ⟨_, rfl⟩⟩
    · exact .inr h
  refine entry hmix cf19 ?_
  simp (maxSteps := 2000000) (implicitDefEqProofs := false) [DN, NB, begT, atHead, kd, wantedA, evP, evR, evF, evL, evC, evBin, evUn, evEq, evSt, evRes, plain, scp, scpA, scpL, rdRow, rdCells, veq, veqA, veqL, isHole, Value.cells, evalL, optI, evBounds, evFill, evFillR, evApp, newsOf, wrCells, one1, fitsApp, evClr, undef, onB_bool, List.getElem?_concat_length, List.getElem?_cons_zero, List.getElem?_cons_succ, List.getElem?_toArray, List.getElem?_nil, List.set_cons_zero, List.set_cons_succ, List.cons_append, List.nil_append, -getElem?_pos, -getElem?_neg, c1]
  refine newG hn1 hn2 ?_
  simp (maxSteps := 2000000) (implicitDefEqProofs := false) [DN, NB, begT, atHead, kd, wantedA, evP, evR, evF, evL, evC, evBin, evUn, evEq, evSt, evRes, plain, scp, scpA, scpL, rdRow, rdCells, veq, veqA, veqL, isHole, Value.cells, evalL, optI, evBounds, evFill, evFillR, evApp, newsOf, wrCells, one1, fitsApp, evClr, undef, onB_bool, List.getElem?_concat_length, List.getElem?_cons_zero, List.getElem?_cons_succ, List.getElem?_toArray, List.getElem?_nil, List.set_cons_zero, List.set_cons_succ, List.cons_append, List.nil_append, -getElem?_pos, -getElem?_neg, c2, c3]
  refine ref12G (by omega) (rowAt_self hA1) ?_
  by_cases hl0 : l = []
  · subst hl0
    rw [show ∀ n, enV n ([] : List En) = .slice none 0 0 from fun _ => rfl, show enH ([] : List En) = [] from rfl]
    simp (maxSteps := 2000000) (implicitDefEqProofs := false) [DN, NB, begT, atHead, kd, wantedA, evP, evR, evF, evL, evC, evBin, evUn, evEq, evSt, evRes, plain, scp, scpA, scpL, rdRow, rdCells, veq, veqA, veqL, isHole, Value.cells, evalL, optI, evBounds, evFill, evFillR, evApp, newsOf, wrCells, one1, fitsApp, evClr, undef, onB_bool, List.getElem?_concat_length, List.getElem?_cons_zero, List.getElem?_cons_succ, List.getElem?_toArray, List.getElem?_nil, List.set_cons_zero, List.set_cons_succ, List.cons_append, List.nil_append, -getElem?_pos, -getElem?_neg]
    refine loop3 hmix 129 (fun _ : Unit => True) (fun _ => 0) (fun _ => [(49, .int .i64 0), (50, .int .i64 0)]) (fun _ => [.row (rowOf [])]) () trivial (headId (fun b k hb => ?_) (aok_noNames ?_) (fun b hb => ?_) (by simp) rfl ?_) ?_
    · match b with
      | 0 => exact hb
      | m + 1 => simp at hb
    · intro k hk
      simp at hk
      subst hk
      exact rowOf_noNames []
    · obtain rfl : b = 0 := by omega
      rfl
    · simp only [List.mem_cons, List.not_mem_nil, or_false]
      rintro y (rfl | rfl) <;> simp [GB, scp]
    · intro _ _
      simp (maxSteps := 2000000) (implicitDefEqProofs := false) [DN, NB, begT, atHead, kd, wantedA, evP, evR, evF, evL, evC, evBin, evUn, evEq, evSt, evRes, plain, scp, scpA, scpL, rdRow, rdCells, veq, veqA, veqL, isHole, Value.cells, evalL, optI, evBounds, evFill, evFillR, evApp, newsOf, wrCells, one1, fitsApp, evClr, undef, onB_bool, List.getElem?_concat_length, List.getElem?_cons_zero, List.getElem?_cons_succ, List.getElem?_toArray, List.getElem?_nil, List.set_cons_zero, List.set_cons_succ, List.cons_append, List.nil_append, -getElem?_pos, -getElem?_neg]
      refine awakeK _ _ fun h' => ?_
      simp (maxSteps := 2000000) (implicitDefEqProofs := false) [DN, NB, begT, atHead, kd, wantedA, evP, evR, evF, evL, evC, evBin, evUn, evEq, evSt, evRes, plain, scp, scpA, scpL, rdRow, rdCells, veq, veqA, veqL, isHole, Value.cells, evalL, optI, evBounds, evFill, evFillR, evApp, newsOf, wrCells, one1, fitsApp, evClr, undef, onB_bool, List.getElem?_concat_length, List.getElem?_cons_zero, List.getElem?_cons_succ, List.getElem?_toArray, List.getElem?_nil, List.set_cons_zero, List.set_cons_succ, List.cons_append, List.nil_append, -getElem?_pos, -getElem?_neg]
  have hA' : A = some ⟨0, 0, none⟩ := by
    rcases hA with ⟨h, _⟩ | ⟨d, h, _⟩ | h
    · exact absurd h hl0
    · exact absurd h hl0
    · exact h
  subst hA'
  have ev : ∀ k, enV k l = .slice (some ⟨k, 0, none⟩) l.length (OPEN + l.length) := fun k => by simp [enV, hl0]
  have eh : enH l = [.cells (rowOf l) 126 (some 3)] := by simp [enH, hl0]
  rw [ev, eh]
  simp (maxSteps := 2000000) (implicitDefEqProofs := false) [DN, NB, begT, atHead, kd, wantedA, evP, evR, evF, evL, evC, evBin, evUn, evEq, evSt, evRes, plain, scp, scpA, scpL, rdRow, rdCells, veq, veqA, veqL, isHole, Value.cells, evalL, optI, evBounds, evFill, evFillR, evApp, newsOf, wrCells, one1, fitsApp, evClr, undef, onB_bool, List.getElem?_concat_length, List.getElem?_cons_zero, List.getElem?_cons_succ, List.getElem?_toArray, List.getElem?_nil, List.set_cons_zero, List.set_cons_succ, List.cons_append, List.nil_append, -getElem?_pos, -getElem?_neg]
  refine loop3 hmix 129 (fun i => i ≤ l.length) (fun i => l.length - i) (fun i => tkT nt (.slice (some ⟨0, 0, none⟩) l.length cap) (doneL (newL nt) [] (l.take i)) l.length i) (fun i => tkH l (afterL (newL nt) (l.take i)) (doneL (newL nt) [] (l.take i))) 0 (Nat.zero_le _) (tkHead (k := 3) (by simp) rfl rfl rfl (by simp [doneL]) rfl (by simp [GB]) (by simp [GB]) (by simp [GB]) (by simp [GB, doneL, enV]) (by simp [GB]) (by simp [GB]) (by simp [GB])) ?_
  intro i hi
  by_cases hlt : i < l.length
  case neg =>
    have hlt' : ¬ (i : Int) < l.length := by omega
    simp (maxSteps := 2000000) (implicitDefEqProofs := false) [DN, NB, begT, atHead, kd, wantedA, evP, evR, evF, evL, evC, evBin, evUn, evEq, evSt, evRes, plain, scp, scpA, scpL, rdRow, rdCells, veq, veqA, veqL, isHole, Value.cells, evalL, optI, evBounds, evFill, evFillR, evApp, newsOf, wrCells, one1, fitsApp, evClr, undef, onB_bool, List.getElem?_concat_length, List.getElem?_cons_zero, List.getElem?_cons_succ, List.getElem?_toArray, List.getElem?_nil, List.set_cons_zero, List.set_cons_succ, List.cons_append, List.nil_append, -getElem?_pos, -getElem?_neg, tkT, hlt']
    refine awakeK _ _ fun h' => ?_
    simp (maxSteps := 2000000) (implicitDefEqProofs := false) [DN, NB, begT, atHead, kd, wantedA, evP, evR, evF, evL, evC, evBin, evUn, evEq, evSt, evRes, plain, scp, scpA, scpL, rdRow, rdCells, veq, veqA, veqL, isHole, Value.cells, evalL, optI, evBounds, evFill, evFillR, evApp, newsOf, wrCells, one1, fitsApp, evClr, undef, onB_bool, List.getElem?_concat_length, List.getElem?_cons_zero, List.getElem?_cons_succ, List.getElem?_toArray, List.getElem?_nil, List.set_cons_zero, List.set_cons_succ, List.cons_append, List.nil_append, -getElem?_pos, -getElem?_neg]
  obtain ⟨x, hx⟩ : ∃ x, l[i]? = some x := ⟨_, List.getElem?_eq_getElem hlt⟩
  exact round19 nt l cap i _ (by omega) hcl (by omega) x hx

end Fx
end Go.Proofs.Ytekhadlpcdjlpaa
