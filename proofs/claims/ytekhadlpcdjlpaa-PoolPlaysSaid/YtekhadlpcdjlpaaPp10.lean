/- pool: PoolPlays, the rounds. MADE BY PROGRAM (pp10.py). -/
import Derived.Test.YtekhadlpcdjlpaaPp9
namespace Go.Proofs.Ytekhadlpcdjlpaa
namespace Px
open Go Abs Code
set_option linter.unusedVariables false
set_option linter.unusedSimpArgs false
set_option maxRecDepth 100000

theorem splice_many (vs : List Value) (o : Nat) (a b : Value) (l : List Value) : splice vs o (a :: b :: l) = vs.take o ++ (a :: b :: l) ++ vs.drop (o + (a :: b :: l).length) := rfl

set_option maxHeartbeats 8000000 in
theorem loop13a (l : List OpL) (A : Option Addr) (cap n m : Nat) (hln : l.length = n) (hn : n ≤ 100) (hA : n = 0 ∨ A = some ⟨0, 0, none⟩) (hl : ∀ o ∈ l, o.h < 4294967296) (s0 : Q13) (h0 : q13I (rowQ l) n s0) (T0 : T) (e1 : T0.length = 209) (e2 : ∀ y ∈ q13T (.slice A n cap) n s0, getT T0 y.1 = some y.2) (Q : AExit → T → AH → Prop)
    (hQ : ∀ s, q13I (rowQ l) n s → Q (.exit 0) (mkT 209 ((60, .bool false) :: q13T (.slice A n cap) n s)) s.g) : ALoop Try.prog m lp13_0 T0 s0.g Q := by
  refine loop5 hmix 209 (q13I (rowQ l) n) (fun s => n - s.i) (q13T (.slice A n cap) n) (·.g) s0 h0 rfl e1 e2 ?_
  rintro ⟨i, g, p, x, ns, vh, had⟩ ⟨hi, hhad, hpo, J⟩ _ _ _
  simp only at hi hhad hpo J ⊢
  obtain ⟨R, hR⟩ : ∃ R, R = rowQ l := ⟨_, rfl⟩
  rw [← hR] at J hQ ⊢
  by_cases hlt : i < n
  case neg =>
    obtain rfl : i = n := by omega
    have hq := hQ ⟨i, g, p, x, ns, vh, had⟩ ⟨hi, hhad, hpo, J⟩
    simp only [q13T] at hq
    simp (maxSteps := 2000000) (implicitDefEqProofs := false) [DN5, DN, NB, begT, atHead, kd, wantedA, evP, evR, evF, evL, evC, evI, evBin, evUn, evEq, evSt, evRes, plain, scp, scpA, scpL, rdRow, rdCells, veq, veqA, veqL, isHole, Value.cells, evalL, optI, evBounds, evFill, evFillR, evApp, newsOf, wrCells, one1, fitsApp, evClr, undef, onB_bool, List.getElem?_concat_length, List.getElem?_cons_zero, List.getElem?_cons_succ, List.getElem?_toArray, List.getElem?_nil, List.set_cons_zero, List.set_cons_succ, List.cons_append, List.nil_append, -getElem?_pos, -getElem?_neg, q13T, lp13_0]
    simp (maxSteps := 2000000) (implicitDefEqProofs := false) [DN, NB, begT, atHead, kd, wantedA, evP, evR, evF, evL, evC, evI, evBin, evUn, evEq, evSt, evRes, plain, scp, scpA, scpL, rdRow, rdCells, veq, veqA, veqL, isHole, Value.cells, evalL, optI, evBounds, evFill, evFillR, evApp, newsOf, wrCells, one1, fitsApp, evClr, undef, onB_bool, List.getElem?_concat_length, List.getElem?_cons_zero, List.getElem?_cons_succ, List.getElem?_toArray, List.getElem?_nil, List.set_cons_zero, List.set_cons_succ, List.cons_append, List.nil_append, -getElem?_pos, -getElem?_neg] at hq
    exact hq
  have hA' : A = some ⟨0, 0, none⟩ := by
    rcases hA with h | h
    · omega
    · exact h
  subst hA'
  have c1 : (i : Int) < n := by omega
  have c2 : (0 : Int) ≤ i := by omega
  obtain ⟨o, ho⟩ : ∃ o, l[i]? = some o := ⟨_, List.getElem?_eq_getElem (by omega)⟩
  have hol := hl o (List.mem_of_getElem? ho)
  have hrd := rowQ_at ho
  rw [← hR] at hrd
  have hfit : i * 4 + 4 ≤ R.length := by rw [hR, rowQ_length]; omega
  obtain ⟨q, hqg⟩ : ∃ q, g.length = q := ⟨_, rfl⟩
  have J1 := J.app [.cells o.vs 97 none]
  have hq1 : (g ++ [.cells o.vs 97 none])[q]? = some (.cells o.vs 97 none) := by rw [← hqg]; simp
  have l1 := lt_get J.pool
  have f0 := J.row
  obtain ⟨g1, hg1⟩ : ∃ g1, g ++ [.cells o.vs 97 none] = g1 := ⟨_, rfl⟩
  have hset : ∀ k : ABlk, (g ++ [k]).set q (.cells o.vs 97 none) = g1 := fun k => by rw [← hg1, ← hqg]; simp
  have hget : ∀ k : ABlk, (g ++ [k])[q]? = some k := fun k => by rw [← hqg]; simp
  have hg1l : g1.length = q + 1 := by rw [← hg1, ← hqg]; simp
  rw [hg1] at J1 hq1
  obtain ⟨A1, C1, hvh, hrow⟩ := J1.vec.len
  rw [words_length] at hvh
  have hhl0 : (nats had).length = had.length := by simp [nats]
  rw [hhl0] at hvh
  subst hvh
  unfold OpL.vs at hrd hset hq1
  cases hob : o.back with
  | true =>
    rw [hob] at hrd hset hq1
    by_cases d1 : 1 ≤ o.own
    · by_cases d2 : o.own ≤ had.length
      · obtain ⟨k, hk⟩ : ∃ k : Nat, o.own = (k : Int) + 1 := ⟨(o.own - 1).toNat, by omega⟩
        have hkl : k < had.length := by omega
        obtain ⟨h, hh⟩ : ∃ h, had[k]? = some h := ⟨_, List.getElem?_eq_getElem hkl⟩
        have hhl := J.lts h (List.mem_of_getElem? hh)
        obtain ⟨b, rfl, hb⟩ := hrow (fun e => by have := congrArg List.length e; simp [words, nats] at this; rw [this] at hkl; simp at hkl)
        have hw : (words (nats had))[k]? = some (.int .u32 (h : Int)) := by rw [words_get]; simp [nats, hh]
        have hf2 : k + 1 ≤ (words (nats had)).length := by rw [words_length, hhl0]; omega
        have w0 : IntKind.i64.wrap (k : Int) = (k : Int) := IntWalk.i64_in _ (by omega)
        have d2' : (k : Int) + 1 ≤ had.length := by omega
        have d1' : (1 : Int) ≤ (k : Int) + 1 := by omega
        have d3 : k + 1 ≤ had.length := by omega
        rw [hk] at hrd hset hq1
        simp (maxSteps := 2000000) (implicitDefEqProofs := false) [DN5, DN, NB, begT, atHead, kd, wantedA, evP, evR, evF, evL, evC, evI, evBin, evUn, evEq, evSt, evRes, plain, scp, scpA, scpL, rdRow, rdCells, veq, veqA, veqL, isHole, Value.cells, evalL, optI, evBounds, evFill, evFillR, evApp, newsOf, wrCells, one1, fitsApp, evClr, undef, onB_bool, List.getElem?_concat_length, List.getElem?_cons_zero, List.getElem?_cons_succ, List.getElem?_toArray, List.getElem?_nil, List.set_cons_zero, List.set_cons_succ, List.cons_append, List.nil_append, -getElem?_pos, -getElem?_neg, q13T, lp13_0, c1, c2, hlt, f0, hrd, hfit, splice_many, hqg, hget, hset, hq1, d1', d2', d3, hb, hw, hf2, w0, hkl]
        have okx := okX_of J1.sim J1.ok
        have e0 : o.vs = [.bool true, .int .i64 o.t, .int .i64 ((k : Int) + 1), .int .u32 (o.h : Int)] := by rw [← hk, ← hob]; rfl
        rw [← e0] at hq1
        refine isG h J1.pool ?_
        simp (maxSteps := 2000000) (implicitDefEqProofs := false) [DN5, DN, NB, begT, atHead, kd, wantedA, evP, evR, evF, evL, evC, evI, evBin, evUn, evEq, evSt, evRes, plain, scp, scpA, scpL, rdRow, rdCells, veq, veqA, veqL, isHole, Value.cells, evalL, optI, evBounds, evFill, evFillR, evApp, newsOf, wrCells, one1, fitsApp, evClr, undef, onB_bool, List.getElem?_concat_length, List.getElem?_cons_zero, List.getElem?_cons_succ, List.getElem?_toArray, List.getElem?_nil, List.set_cons_zero, List.set_cons_succ, List.cons_append, List.nil_append, -getElem?_pos, -getElem?_neg]
        refine ris_ J1.rep h hhl okx.lens okx.small okx.gens ?_
        rw [J1.sim.is J1.ok]
        simp (maxSteps := 2000000) (implicitDefEqProofs := false) [DN5, DN, NB, begT, atHead, kd, wantedA, evP, evR, evF, evL, evC, evI, evBin, evUn, evEq, evSt, evRes, plain, scp, scpA, scpL, rdRow, rdCells, veq, veqA, veqL, isHole, Value.cells, evalL, optI, evBounds, evFill, evFillR, evApp, newsOf, wrCells, one1, fitsApp, evClr, undef, onB_bool, List.getElem?_concat_length, List.getElem?_cons_zero, List.getElem?_cons_succ, List.getElem?_toArray, List.getElem?_nil, List.set_cons_zero, List.set_cons_succ, List.cons_append, List.nil_append, -getElem?_pos, -getElem?_neg]
        refine freeG h hhl J1.pool ?_
        simp (maxSteps := 2000000) (implicitDefEqProofs := false) [DN5, DN, NB, begT, atHead, kd, wantedA, evP, evR, evF, evL, evC, evI, evBin, evUn, evEq, evSt, evRes, plain, scp, scpA, scpL, rdRow, rdCells, veq, veqA, veqL, isHole, Value.cells, evalL, optI, evBounds, evFill, evFillR, evApp, newsOf, wrCells, one1, fitsApp, evClr, undef, onB_bool, List.getElem?_concat_length, List.getElem?_cons_zero, List.getElem?_cons_succ, List.getElem?_toArray, List.getElem?_nil, List.set_cons_zero, List.set_cons_succ, List.cons_append, List.nil_append, -getElem?_pos, -getElem?_neg]
        have r2 : RepP (g1.set 1 (poolB (freeS p h))) 2 ns x := J1.rep.keep fun c hc => List.getElem?_set_ne (show 1 ≠ c from fun e => J1.n1 (e ▸ hc))
        refine rback_ r2 okx h hhl (isR_th J1.sim J1.ok) fun g2 ns2 r3 u3 => ?_
        rw [J1.sim.freeE J1.ok]
        simp (maxSteps := 2000000) (implicitDefEqProofs := false) [DN5, DN, NB, begT, atHead, kd, wantedA, evP, evR, evF, evL, evC, evI, evBin, evUn, evEq, evSt, evRes, plain, scp, scpA, scpL, rdRow, rdCells, veq, veqA, veqL, isHole, Value.cells, evalL, optI, evBounds, evFill, evFillR, evApp, newsOf, wrCells, one1, fitsApp, evClr, undef, onB_bool, List.getElem?_concat_length, List.getElem?_cons_zero, List.getElem?_cons_succ, List.getElem?_toArray, List.getElem?_nil, List.set_cons_zero, List.set_cons_succ, List.cons_append, List.nil_append, -getElem?_pos, -getElem?_neg]
        obtain ⟨s4, ok4⟩ := J1.sim.free' J1.ok h
        have J4 := J1.turn r3 u3 ok4 s4
        have hq2 : g2[q]? = some (.cells o.vs 97 none) := u3.get (getS hq1 1 (by omega) _) (fun hm => by have := J.rep.lt q hm; omega)
        obtain ⟨nn, hnn⟩ : ∃ nn, h % 4096 = nn := ⟨_, rfl⟩
        have hno := own_eq J4.sim h
        rw [hnn] at hno
        have hnl : nn < 4096 := by omega
        refine rindex_ h nn hhl hnn _ ?_
        simp (maxSteps := 2000000) (implicitDefEqProofs := false) [DN5, DN, NB, begT, atHead, kd, wantedA, evP, evR, evF, evL, evC, evI, evBin, evUn, evEq, evSt, evRes, plain, scp, scpA, scpL, rdRow, rdCells, veq, veqA, veqL, isHole, Value.cells, evalL, optI, evBounds, evFill, evFillR, evApp, newsOf, wrCells, one1, fitsApp, evClr, undef, onB_bool, List.getElem?_concat_length, List.getElem?_cons_zero, List.getElem?_cons_succ, List.getElem?_toArray, List.getElem?_nil, List.set_cons_zero, List.set_cons_succ, List.cons_append, List.nil_append, -getElem?_pos, -getElem?_neg]
        refine ownerG h hhl J4.pool ?_
        obtain ⟨vF, vG, vO, f2, hO⟩ := J4.rep.outs
        have w1 : IntKind.i64.wrap ((nn : Int) - 1) = (nn : Int) - 1 := IntWalk.i64_in _ (by omega)
        by_cases z0 : nn = 0
        · have hf : ownB (freeS p h) h = false := hno.trans (by simp [z0])
          have hot : ownT (freeS p h) h = 0 := by unfold ownT; rw [hf]; rfl
          rw [hf, hot]
          rcases hO with ⟨rfl, ho⟩ | ⟨bO, rfl, hb⟩
          · simp (maxSteps := 2000000) (implicitDefEqProofs := false) [DN5, DN, NB, begT, atHead, kd, wantedA, evP, evR, evF, evL, evC, evI, evBin, evUn, evEq, evSt, evRes, plain, scp, scpA, scpL, rdRow, rdCells, veq, veqA, veqL, isHole, Value.cells, evalL, optI, evBounds, evFill, evFillR, evApp, newsOf, wrCells, one1, fitsApp, evClr, undef, onB_bool, List.getElem?_concat_length, List.getElem?_cons_zero, List.getElem?_cons_succ, List.getElem?_toArray, List.getElem?_nil, List.set_cons_zero, List.set_cons_succ, List.cons_append, List.nil_append, -getElem?_pos, -getElem?_neg, f2, z0]
            refine rest13 R _ n _ i hn hlt _ _ _ _ _ had (by first | omega | (simp; omega)) (by have := freeS_out p h; omega) J4 q o hq2 h hhl _ 0 (.inl ⟨rfl, ho⟩) (by rw [ho]; rfl) _ rfl _ rfl (by simp [List.forall_mem_cons, GB, r13T]) _
          · simp (maxSteps := 2000000) (implicitDefEqProofs := false) [DN5, DN, NB, begT, atHead, kd, wantedA, evP, evR, evF, evL, evC, evI, evBin, evUn, evEq, evSt, evRes, plain, scp, scpA, scpL, rdRow, rdCells, veq, veqA, veqL, isHole, Value.cells, evalL, optI, evBounds, evFill, evFillR, evApp, newsOf, wrCells, one1, fitsApp, evClr, undef, onB_bool, List.getElem?_concat_length, List.getElem?_cons_zero, List.getElem?_cons_succ, List.getElem?_toArray, List.getElem?_nil, List.set_cons_zero, List.set_cons_succ, List.cons_append, List.nil_append, -getElem?_pos, -getElem?_neg, f2, z0]
            refine rest13 R _ n _ i hn hlt _ _ _ _ _ had (by first | omega | (simp; omega)) (by have := freeS_out p h; omega) J4 q o hq2 h hhl _ _ (.inr ⟨bO, rfl, hb⟩) rfl _ rfl _ rfl (by simp [List.forall_mem_cons, GB, r13T]) _
        have z1 : (1 : Int) ≤ nn := by omega
        have z2 : 1 ≤ nn := by omega
        rcases hO with ⟨rfl, ho⟩ | ⟨bO, rfl, hb⟩
        · have hf : ownB (freeS p h) h = false := hno.trans (by rw [ho]; simp; omega)
          have hot : ownT (freeS p h) h = 0 := by unfold ownT; rw [hf]; rfl
          rw [hf, hot]
          have z3 : ¬ (nn : Int) ≤ 0 := by omega
          simp (maxSteps := 2000000) (implicitDefEqProofs := false) [DN5, DN, NB, begT, atHead, kd, wantedA, evP, evR, evF, evL, evC, evI, evBin, evUn, evEq, evSt, evRes, plain, scp, scpA, scpL, rdRow, rdCells, veq, veqA, veqL, isHole, Value.cells, evalL, optI, evBounds, evFill, evFillR, evApp, newsOf, wrCells, one1, fitsApp, evClr, undef, onB_bool, List.getElem?_concat_length, List.getElem?_cons_zero, List.getElem?_cons_succ, List.getElem?_toArray, List.getElem?_nil, List.set_cons_zero, List.set_cons_succ, List.cons_append, List.nil_append, -getElem?_pos, -getElem?_neg, f2, z0, z1, z2, z3]
          refine rest13 R _ n _ i hn hlt _ _ _ _ _ had (by first | omega | (simp; omega)) (by have := freeS_out p h; omega) J4 q o hq2 h hhl _ 0 (.inl ⟨rfl, ho⟩) (by rw [ho]; rfl) _ rfl _ rfl (by simp [List.forall_mem_cons, GB, r13T]) _
        obtain ⟨N, hN⟩ : ∃ N, List.length (backRS x h).out = N := ⟨_, rfl⟩
        rw [hN] at hno f2
        by_cases z3 : nn ≤ N
        · have ht : ownB (freeS p h) h = true := hno.trans (by simp [z2, z3])
          have z3' : (nn : Int) ≤ N := by omega
          obtain ⟨tt, htt⟩ : ∃ tt, ownT (freeS p h) h = tt := ⟨_, rfl⟩
          have htt2 := htt
          unfold ownT at htt2
          rw [ht, if_pos rfl, hnn, ← J4.sim.each] at htt2
          rw [ht, htt]
          obtain ⟨ee, hee⟩ : ∃ ee, XS.each (backRS x h) = ee := ⟨_, rfl⟩
          rw [hee] at htt2 f2
          have he0 : ¬ ee = 0 := by
            rintro rfl
            have := ht
            unfold ownB at this
            rw [decide_eq_true_eq, ← J4.sim.each, hee] at this
            exact this.1 rfl
          have hdv : ((nn : Int) - 1).tdiv (ee : Int) = (tt : Int) := by
            have e : ((nn : Int) - 1) = ((nn - 1 : Nat) : Int) := by omega
            rw [e, Int.tdiv_eq_ediv_of_nonneg (by omega), ← htt2]
            push_cast
            rfl
          have htl : tt ≤ 4096 := by rw [← htt2]; exact Nat.le_trans (Nat.div_le_self _ _) (by omega)
          have wt : IntKind.i64.wrap (tt : Int) = (tt : Int) := IntWalk.i64_in _ (by omega)
          simp (maxSteps := 2000000) (implicitDefEqProofs := false) [DN5, DN, NB, begT, atHead, kd, wantedA, evP, evR, evF, evL, evC, evI, evBin, evUn, evEq, evSt, evRes, plain, scp, scpA, scpL, rdRow, rdCells, veq, veqA, veqL, isHole, Value.cells, evalL, optI, evBounds, evFill, evFillR, evApp, newsOf, wrCells, one1, fitsApp, evClr, undef, onB_bool, List.getElem?_concat_length, List.getElem?_cons_zero, List.getElem?_cons_succ, List.getElem?_toArray, List.getElem?_nil, List.set_cons_zero, List.set_cons_succ, List.cons_append, List.nil_append, -getElem?_pos, -getElem?_neg, f2, z0, z1, z2, z3, z3', w1, hdv, wt, he0]
          refine rest13 R _ n _ i hn hlt _ _ _ _ _ had (by first | omega | (simp; omega)) (by have := freeS_out p h; omega) J4 q o hq2 h hhl _ N (.inr ⟨bO, by rw [hN], hb⟩) hN.symm _ rfl _ rfl (by simp [List.forall_mem_cons, GB, r13T]) _
        · have hf : ownB (freeS p h) h = false := hno.trans (by first | omega | (simp; omega))
          have hot : ownT (freeS p h) h = 0 := by unfold ownT; rw [hf]; rfl
          have z3' : ¬ (nn : Int) ≤ N := by omega
          rw [hf, hot]
          simp (maxSteps := 2000000) (implicitDefEqProofs := false) [DN5, DN, NB, begT, atHead, kd, wantedA, evP, evR, evF, evL, evC, evI, evBin, evUn, evEq, evSt, evRes, plain, scp, scpA, scpL, rdRow, rdCells, veq, veqA, veqL, isHole, Value.cells, evalL, optI, evBounds, evFill, evFillR, evApp, newsOf, wrCells, one1, fitsApp, evClr, undef, onB_bool, List.getElem?_concat_length, List.getElem?_cons_zero, List.getElem?_cons_succ, List.getElem?_toArray, List.getElem?_nil, List.set_cons_zero, List.set_cons_succ, List.cons_append, List.nil_append, -getElem?_pos, -getElem?_neg, f2, z0, z1, z2, z3, z3']
          refine rest13 R _ n _ i hn hlt _ _ _ _ _ had (by first | omega | (simp; omega)) (by have := freeS_out p h; omega) J4 q o hq2 h hhl _ N (.inr ⟨bO, by rw [hN], hb⟩) hN.symm _ rfl _ rfl (by simp [List.forall_mem_cons, GB, r13T]) _
      · have d2' : ¬ o.own ≤ (had.length : Int) := d2
        simp (maxSteps := 2000000) (implicitDefEqProofs := false) [DN5, DN, NB, begT, atHead, kd, wantedA, evP, evR, evF, evL, evC, evI, evBin, evUn, evEq, evSt, evRes, plain, scp, scpA, scpL, rdRow, rdCells, veq, veqA, veqL, isHole, Value.cells, evalL, optI, evBounds, evFill, evFillR, evApp, newsOf, wrCells, one1, fitsApp, evClr, undef, onB_bool, List.getElem?_concat_length, List.getElem?_cons_zero, List.getElem?_cons_succ, List.getElem?_toArray, List.getElem?_nil, List.set_cons_zero, List.set_cons_succ, List.cons_append, List.nil_append, -getElem?_pos, -getElem?_neg, q13T, lp13_0, c1, c2, hlt, f0, hrd, hfit, splice_many, hqg, hget, hset, hq1, d1, d2']
        have okx := okX_of J1.sim J1.ok
        have hhl := hol
        have e0 : o.vs = [.bool true, .int .i64 o.t, .int .i64 o.own, .int .u32 (o.h : Int)] := by rw [← hob]; rfl
        rw [← e0] at hq1
        refine isG o.h J1.pool ?_
        simp (maxSteps := 2000000) (implicitDefEqProofs := false) [DN5, DN, NB, begT, atHead, kd, wantedA, evP, evR, evF, evL, evC, evI, evBin, evUn, evEq, evSt, evRes, plain, scp, scpA, scpL, rdRow, rdCells, veq, veqA, veqL, isHole, Value.cells, evalL, optI, evBounds, evFill, evFillR, evApp, newsOf, wrCells, one1, fitsApp, evClr, undef, onB_bool, List.getElem?_concat_length, List.getElem?_cons_zero, List.getElem?_cons_succ, List.getElem?_toArray, List.getElem?_nil, List.set_cons_zero, List.set_cons_succ, List.cons_append, List.nil_append, -getElem?_pos, -getElem?_neg]
        refine ris_ J1.rep o.h hhl okx.lens okx.small okx.gens ?_
        rw [J1.sim.is J1.ok]
        simp (maxSteps := 2000000) (implicitDefEqProofs := false) [DN5, DN, NB, begT, atHead, kd, wantedA, evP, evR, evF, evL, evC, evI, evBin, evUn, evEq, evSt, evRes, plain, scp, scpA, scpL, rdRow, rdCells, veq, veqA, veqL, isHole, Value.cells, evalL, optI, evBounds, evFill, evFillR, evApp, newsOf, wrCells, one1, fitsApp, evClr, undef, onB_bool, List.getElem?_concat_length, List.getElem?_cons_zero, List.getElem?_cons_succ, List.getElem?_toArray, List.getElem?_nil, List.set_cons_zero, List.set_cons_succ, List.cons_append, List.nil_append, -getElem?_pos, -getElem?_neg]
        refine freeG o.h hhl J1.pool ?_
        simp (maxSteps := 2000000) (implicitDefEqProofs := false) [DN5, DN, NB, begT, atHead, kd, wantedA, evP, evR, evF, evL, evC, evI, evBin, evUn, evEq, evSt, evRes, plain, scp, scpA, scpL, rdRow, rdCells, veq, veqA, veqL, isHole, Value.cells, evalL, optI, evBounds, evFill, evFillR, evApp, newsOf, wrCells, one1, fitsApp, evClr, undef, onB_bool, List.getElem?_concat_length, List.getElem?_cons_zero, List.getElem?_cons_succ, List.getElem?_toArray, List.getElem?_nil, List.set_cons_zero, List.set_cons_succ, List.cons_append, List.nil_append, -getElem?_pos, -getElem?_neg]
        have r2 : RepP (g1.set 1 (poolB (freeS p o.h))) 2 ns x := J1.rep.keep fun c hc => List.getElem?_set_ne (show 1 ≠ c from fun e => J1.n1 (e ▸ hc))
        refine rback_ r2 okx o.h hhl (isR_th J1.sim J1.ok) fun g2 ns2 r3 u3 => ?_
        rw [J1.sim.freeE J1.ok]
        simp (maxSteps := 2000000) (implicitDefEqProofs := false) [DN5, DN, NB, begT, atHead, kd, wantedA, evP, evR, evF, evL, evC, evI, evBin, evUn, evEq, evSt, evRes, plain, scp, scpA, scpL, rdRow, rdCells, veq, veqA, veqL, isHole, Value.cells, evalL, optI, evBounds, evFill, evFillR, evApp, newsOf, wrCells, one1, fitsApp, evClr, undef, onB_bool, List.getElem?_concat_length, List.getElem?_cons_zero, List.getElem?_cons_succ, List.getElem?_toArray, List.getElem?_nil, List.set_cons_zero, List.set_cons_succ, List.cons_append, List.nil_append, -getElem?_pos, -getElem?_neg]
        obtain ⟨s4, ok4⟩ := J1.sim.free' J1.ok o.h
        have J4 := J1.turn r3 u3 ok4 s4
        have hq2 : g2[q]? = some (.cells o.vs 97 none) := u3.get (getS hq1 1 (by omega) _) (fun hm => by have := J.rep.lt q hm; omega)
        obtain ⟨nn, hnn⟩ : ∃ nn, o.h % 4096 = nn := ⟨_, rfl⟩
        have hno := own_eq J4.sim o.h
        rw [hnn] at hno
        have hnl : nn < 4096 := by omega
        refine rindex_ o.h nn hhl hnn _ ?_
        simp (maxSteps := 2000000) (implicitDefEqProofs := false) [DN5, DN, NB, begT, atHead, kd, wantedA, evP, evR, evF, evL, evC, evI, evBin, evUn, evEq, evSt, evRes, plain, scp, scpA, scpL, rdRow, rdCells, veq, veqA, veqL, isHole, Value.cells, evalL, optI, evBounds, evFill, evFillR, evApp, newsOf, wrCells, one1, fitsApp, evClr, undef, onB_bool, List.getElem?_concat_length, List.getElem?_cons_zero, List.getElem?_cons_succ, List.getElem?_toArray, List.getElem?_nil, List.set_cons_zero, List.set_cons_succ, List.cons_append, List.nil_append, -getElem?_pos, -getElem?_neg]
        refine ownerG o.h hhl J4.pool ?_
        obtain ⟨vF, vG, vO, f2, hO⟩ := J4.rep.outs
        have w1 : IntKind.i64.wrap ((nn : Int) - 1) = (nn : Int) - 1 := IntWalk.i64_in _ (by omega)
        by_cases z0 : nn = 0
        · have hf : ownB (freeS p o.h) o.h = false := hno.trans (by simp [z0])
          have hot : ownT (freeS p o.h) o.h = 0 := by unfold ownT; rw [hf]; rfl
          rw [hf, hot]
          rcases hO with ⟨rfl, ho⟩ | ⟨bO, rfl, hb⟩
          · simp (maxSteps := 2000000) (implicitDefEqProofs := false) [DN5, DN, NB, begT, atHead, kd, wantedA, evP, evR, evF, evL, evC, evI, evBin, evUn, evEq, evSt, evRes, plain, scp, scpA, scpL, rdRow, rdCells, veq, veqA, veqL, isHole, Value.cells, evalL, optI, evBounds, evFill, evFillR, evApp, newsOf, wrCells, one1, fitsApp, evClr, undef, onB_bool, List.getElem?_concat_length, List.getElem?_cons_zero, List.getElem?_cons_succ, List.getElem?_toArray, List.getElem?_nil, List.set_cons_zero, List.set_cons_succ, List.cons_append, List.nil_append, -getElem?_pos, -getElem?_neg, f2, z0]
            refine rest13 R _ n _ i hn hlt _ _ _ _ _ had (by first | omega | (simp; omega)) (by have := freeS_out p o.h; omega) J4 q o hq2 o.h hhl _ 0 (.inl ⟨rfl, ho⟩) (by rw [ho]; rfl) _ rfl _ rfl (by simp [List.forall_mem_cons, GB, r13T]) _
          · simp (maxSteps := 2000000) (implicitDefEqProofs := false) [DN5, DN, NB, begT, atHead, kd, wantedA, evP, evR, evF, evL, evC, evI, evBin, evUn, evEq, evSt, evRes, plain, scp, scpA, scpL, rdRow, rdCells, veq, veqA, veqL, isHole, Value.cells, evalL, optI, evBounds, evFill, evFillR, evApp, newsOf, wrCells, one1, fitsApp, evClr, undef, onB_bool, List.getElem?_concat_length, List.getElem?_cons_zero, List.getElem?_cons_succ, List.getElem?_toArray, List.getElem?_nil, List.set_cons_zero, List.set_cons_succ, List.cons_append, List.nil_append, -getElem?_pos, -getElem?_neg, f2, z0]
            refine rest13 R _ n _ i hn hlt _ _ _ _ _ had (by first | omega | (simp; omega)) (by have := freeS_out p o.h; omega) J4 q o hq2 o.h hhl _ _ (.inr ⟨bO, rfl, hb⟩) rfl _ rfl _ rfl (by simp [List.forall_mem_cons, GB, r13T]) _
        have z1 : (1 : Int) ≤ nn := by omega
        have z2 : 1 ≤ nn := by omega
        rcases hO with ⟨rfl, ho⟩ | ⟨bO, rfl, hb⟩
        · have hf : ownB (freeS p o.h) o.h = false := hno.trans (by rw [ho]; simp; omega)
          have hot : ownT (freeS p o.h) o.h = 0 := by unfold ownT; rw [hf]; rfl
          rw [hf, hot]
          have z3 : ¬ (nn : Int) ≤ 0 := by omega
          simp (maxSteps := 2000000) (implicitDefEqProofs := false) [DN5, DN, NB, begT, atHead, kd, wantedA, evP, evR, evF, evL, evC, evI, evBin, evUn, evEq, evSt, evRes, plain, scp, scpA, scpL, rdRow, rdCells, veq, veqA, veqL, isHole, Value.cells, evalL, optI, evBounds, evFill, evFillR, evApp, newsOf, wrCells, one1, fitsApp, evClr, undef, onB_bool, List.getElem?_concat_length, List.getElem?_cons_zero, List.getElem?_cons_succ, List.getElem?_toArray, List.getElem?_nil, List.set_cons_zero, List.set_cons_succ, List.cons_append, List.nil_append, -getElem?_pos, -getElem?_neg, f2, z0, z1, z2, z3]
          refine rest13 R _ n _ i hn hlt _ _ _ _ _ had (by first | omega | (simp; omega)) (by have := freeS_out p o.h; omega) J4 q o hq2 o.h hhl _ 0 (.inl ⟨rfl, ho⟩) (by rw [ho]; rfl) _ rfl _ rfl (by simp [List.forall_mem_cons, GB, r13T]) _
        obtain ⟨N, hN⟩ : ∃ N, List.length (backRS x o.h).out = N := ⟨_, rfl⟩
        rw [hN] at hno f2
        by_cases z3 : nn ≤ N
        · have ht : ownB (freeS p o.h) o.h = true := hno.trans (by simp [z2, z3])
          have z3' : (nn : Int) ≤ N := by omega
          obtain ⟨tt, htt⟩ : ∃ tt, ownT (freeS p o.h) o.h = tt := ⟨_, rfl⟩
          have htt2 := htt
          unfold ownT at htt2
          rw [ht, if_pos rfl, hnn, ← J4.sim.each] at htt2
          rw [ht, htt]
          obtain ⟨ee, hee⟩ : ∃ ee, XS.each (backRS x o.h) = ee := ⟨_, rfl⟩
          rw [hee] at htt2 f2
          have he0 : ¬ ee = 0 := by
            rintro rfl
            have := ht
            unfold ownB at this
            rw [decide_eq_true_eq, ← J4.sim.each, hee] at this
            exact this.1 rfl
          have hdv : ((nn : Int) - 1).tdiv (ee : Int) = (tt : Int) := by
            have e : ((nn : Int) - 1) = ((nn - 1 : Nat) : Int) := by omega
            rw [e, Int.tdiv_eq_ediv_of_nonneg (by omega), ← htt2]
            push_cast
            rfl
          have htl : tt ≤ 4096 := by rw [← htt2]; exact Nat.le_trans (Nat.div_le_self _ _) (by omega)
          have wt : IntKind.i64.wrap (tt : Int) = (tt : Int) := IntWalk.i64_in _ (by omega)
          simp (maxSteps := 2000000) (implicitDefEqProofs := false) [DN5, DN, NB, begT, atHead, kd, wantedA, evP, evR, evF, evL, evC, evI, evBin, evUn, evEq, evSt, evRes, plain, scp, scpA, scpL, rdRow, rdCells, veq, veqA, veqL, isHole, Value.cells, evalL, optI, evBounds, evFill, evFillR, evApp, newsOf, wrCells, one1, fitsApp, evClr, undef, onB_bool, List.getElem?_concat_length, List.getElem?_cons_zero, List.getElem?_cons_succ, List.getElem?_toArray, List.getElem?_nil, List.set_cons_zero, List.set_cons_succ, List.cons_append, List.nil_append, -getElem?_pos, -getElem?_neg, f2, z0, z1, z2, z3, z3', w1, hdv, wt, he0]
          refine rest13 R _ n _ i hn hlt _ _ _ _ _ had (by first | omega | (simp; omega)) (by have := freeS_out p o.h; omega) J4 q o hq2 o.h hhl _ N (.inr ⟨bO, by rw [hN], hb⟩) hN.symm _ rfl _ rfl (by simp [List.forall_mem_cons, GB, r13T]) _
        · have hf : ownB (freeS p o.h) o.h = false := hno.trans (by first | omega | (simp; omega))
          have hot : ownT (freeS p o.h) o.h = 0 := by unfold ownT; rw [hf]; rfl
          have z3' : ¬ (nn : Int) ≤ N := by omega
          rw [hf, hot]
          simp (maxSteps := 2000000) (implicitDefEqProofs := false) [DN5, DN, NB, begT, atHead, kd, wantedA, evP, evR, evF, evL, evC, evI, evBin, evUn, evEq, evSt, evRes, plain, scp, scpA, scpL, rdRow, rdCells, veq, veqA, veqL, isHole, Value.cells, evalL, optI, evBounds, evFill, evFillR, evApp, newsOf, wrCells, one1, fitsApp, evClr, undef, onB_bool, List.getElem?_concat_length, List.getElem?_cons_zero, List.getElem?_cons_succ, List.getElem?_toArray, List.getElem?_nil, List.set_cons_zero, List.set_cons_succ, List.cons_append, List.nil_append, -getElem?_pos, -getElem?_neg, f2, z0, z1, z2, z3, z3']
          refine rest13 R _ n _ i hn hlt _ _ _ _ _ had (by first | omega | (simp; omega)) (by have := freeS_out p o.h; omega) J4 q o hq2 o.h hhl _ N (.inr ⟨bO, by rw [hN], hb⟩) hN.symm _ rfl _ rfl (by simp [List.forall_mem_cons, GB, r13T]) _
    · simp (maxSteps := 2000000) (implicitDefEqProofs := false) [DN5, DN, NB, begT, atHead, kd, wantedA, evP, evR, evF, evL, evC, evI, evBin, evUn, evEq, evSt, evRes, plain, scp, scpA, scpL, rdRow, rdCells, veq, veqA, veqL, isHole, Value.cells, evalL, optI, evBounds, evFill, evFillR, evApp, newsOf, wrCells, one1, fitsApp, evClr, undef, onB_bool, List.getElem?_concat_length, List.getElem?_cons_zero, List.getElem?_cons_succ, List.getElem?_toArray, List.getElem?_nil, List.set_cons_zero, List.set_cons_succ, List.cons_append, List.nil_append, -getElem?_pos, -getElem?_neg, q13T, lp13_0, c1, c2, hlt, f0, hrd, hfit, splice_many, hqg, hget, hset, hq1, d1]
      have okx := okX_of J1.sim J1.ok
      have hhl := hol
      have e0 : o.vs = [.bool true, .int .i64 o.t, .int .i64 o.own, .int .u32 (o.h : Int)] := by rw [← hob]; rfl
      rw [← e0] at hq1
      refine isG o.h J1.pool ?_
      simp (maxSteps := 2000000) (implicitDefEqProofs := false) [DN5, DN, NB, begT, atHead, kd, wantedA, evP, evR, evF, evL, evC, evI, evBin, evUn, evEq, evSt, evRes, plain, scp, scpA, scpL, rdRow, rdCells, veq, veqA, veqL, isHole, Value.cells, evalL, optI, evBounds, evFill, evFillR, evApp, newsOf, wrCells, one1, fitsApp, evClr, undef, onB_bool, List.getElem?_concat_length, List.getElem?_cons_zero, List.getElem?_cons_succ, List.getElem?_toArray, List.getElem?_nil, List.set_cons_zero, List.set_cons_succ, List.cons_append, List.nil_append, -getElem?_pos, -getElem?_neg]
      refine ris_ J1.rep o.h hhl okx.lens okx.small okx.gens ?_
      rw [J1.sim.is J1.ok]
      simp (maxSteps := 2000000) (implicitDefEqProofs := false) [DN5, DN, NB, begT, atHead, kd, wantedA, evP, evR, evF, evL, evC, evI, evBin, evUn, evEq, evSt, evRes, plain, scp, scpA, scpL, rdRow, rdCells, veq, veqA, veqL, isHole, Value.cells, evalL, optI, evBounds, evFill, evFillR, evApp, newsOf, wrCells, one1, fitsApp, evClr, undef, onB_bool, List.getElem?_concat_length, List.getElem?_cons_zero, List.getElem?_cons_succ, List.getElem?_toArray, List.getElem?_nil, List.set_cons_zero, List.set_cons_succ, List.cons_append, List.nil_append, -getElem?_pos, -getElem?_neg]
      refine freeG o.h hhl J1.pool ?_
      simp (maxSteps := 2000000) (implicitDefEqProofs := false) [DN5, DN, NB, begT, atHead, kd, wantedA, evP, evR, evF, evL, evC, evI, evBin, evUn, evEq, evSt, evRes, plain, scp, scpA, scpL, rdRow, rdCells, veq, veqA, veqL, isHole, Value.cells, evalL, optI, evBounds, evFill, evFillR, evApp, newsOf, wrCells, one1, fitsApp, evClr, undef, onB_bool, List.getElem?_concat_length, List.getElem?_cons_zero, List.getElem?_cons_succ, List.getElem?_toArray, List.getElem?_nil, List.set_cons_zero, List.set_cons_succ, List.cons_append, List.nil_append, -getElem?_pos, -getElem?_neg]
      have r2 : RepP (g1.set 1 (poolB (freeS p o.h))) 2 ns x := J1.rep.keep fun c hc => List.getElem?_set_ne (show 1 ≠ c from fun e => J1.n1 (e ▸ hc))
      refine rback_ r2 okx o.h hhl (isR_th J1.sim J1.ok) fun g2 ns2 r3 u3 => ?_
      rw [J1.sim.freeE J1.ok]
      simp (maxSteps := 2000000) (implicitDefEqProofs := false) [DN5, DN, NB, begT, atHead, kd, wantedA, evP, evR, evF, evL, evC, evI, evBin, evUn, evEq, evSt, evRes, plain, scp, scpA, scpL, rdRow, rdCells, veq, veqA, veqL, isHole, Value.cells, evalL, optI, evBounds, evFill, evFillR, evApp, newsOf, wrCells, one1, fitsApp, evClr, undef, onB_bool, List.getElem?_concat_length, List.getElem?_cons_zero, List.getElem?_cons_succ, List.getElem?_toArray, List.getElem?_nil, List.set_cons_zero, List.set_cons_succ, List.cons_append, List.nil_append, -getElem?_pos, -getElem?_neg]
      obtain ⟨s4, ok4⟩ := J1.sim.free' J1.ok o.h
      have J4 := J1.turn r3 u3 ok4 s4
      have hq2 : g2[q]? = some (.cells o.vs 97 none) := u3.get (getS hq1 1 (by omega) _) (fun hm => by have := J.rep.lt q hm; omega)
      obtain ⟨nn, hnn⟩ : ∃ nn, o.h % 4096 = nn := ⟨_, rfl⟩
      have hno := own_eq J4.sim o.h
      rw [hnn] at hno
      have hnl : nn < 4096 := by omega
      refine rindex_ o.h nn hhl hnn _ ?_
      simp (maxSteps := 2000000) (implicitDefEqProofs := false) [DN5, DN, NB, begT, atHead, kd, wantedA, evP, evR, evF, evL, evC, evI, evBin, evUn, evEq, evSt, evRes, plain, scp, scpA, scpL, rdRow, rdCells, veq, veqA, veqL, isHole, Value.cells, evalL, optI, evBounds, evFill, evFillR, evApp, newsOf, wrCells, one1, fitsApp, evClr, undef, onB_bool, List.getElem?_concat_length, List.getElem?_cons_zero, List.getElem?_cons_succ, List.getElem?_toArray, List.getElem?_nil, List.set_cons_zero, List.set_cons_succ, List.cons_append, List.nil_append, -getElem?_pos, -getElem?_neg]
      refine ownerG o.h hhl J4.pool ?_
      obtain ⟨vF, vG, vO, f2, hO⟩ := J4.rep.outs
      have w1 : IntKind.i64.wrap ((nn : Int) - 1) = (nn : Int) - 1 := IntWalk.i64_in _ (by omega)
      by_cases z0 : nn = 0
      · have hf : ownB (freeS p o.h) o.h = false := hno.trans (by simp [z0])
        have hot : ownT (freeS p o.h) o.h = 0 := by unfold ownT; rw [hf]; rfl
        rw [hf, hot]
        rcases hO with ⟨rfl, ho⟩ | ⟨bO, rfl, hb⟩
        · simp (maxSteps := 2000000) (implicitDefEqProofs := false) [DN5, DN, NB, begT, atHead, kd, wantedA, evP, evR, evF, evL, evC, evI, evBin, evUn, evEq, evSt, evRes, plain, scp, scpA, scpL, rdRow, rdCells, veq, veqA, veqL, isHole, Value.cells, evalL, optI, evBounds, evFill, evFillR, evApp, newsOf, wrCells, one1, fitsApp, evClr, undef, onB_bool, List.getElem?_concat_length, List.getElem?_cons_zero, List.getElem?_cons_succ, List.getElem?_toArray, List.getElem?_nil, List.set_cons_zero, List.set_cons_succ, List.cons_append, List.nil_append, -getElem?_pos, -getElem?_neg, f2, z0]
          refine rest13 R _ n _ i hn hlt _ _ _ _ _ had (by first | omega | (simp; omega)) (by have := freeS_out p o.h; omega) J4 q o hq2 o.h hhl _ 0 (.inl ⟨rfl, ho⟩) (by rw [ho]; rfl) _ rfl _ rfl (by simp [List.forall_mem_cons, GB, r13T]) _
        · simp (maxSteps := 2000000) (implicitDefEqProofs := false) [DN5, DN, NB, begT, atHead, kd, wantedA, evP, evR, evF, evL, evC, evI, evBin, evUn, evEq, evSt, evRes, plain, scp, scpA, scpL, rdRow, rdCells, veq, veqA, veqL, isHole, Value.cells, evalL, optI, evBounds, evFill, evFillR, evApp, newsOf, wrCells, one1, fitsApp, evClr, undef, onB_bool, List.getElem?_concat_length, List.getElem?_cons_zero, List.getElem?_cons_succ, List.getElem?_toArray, List.getElem?_nil, List.set_cons_zero, List.set_cons_succ, List.cons_append, List.nil_append, -getElem?_pos, -getElem?_neg, f2, z0]
          refine rest13 R _ n _ i hn hlt _ _ _ _ _ had (by first | omega | (simp; omega)) (by have := freeS_out p o.h; omega) J4 q o hq2 o.h hhl _ _ (.inr ⟨bO, rfl, hb⟩) rfl _ rfl _ rfl (by simp [List.forall_mem_cons, GB, r13T]) _
      have z1 : (1 : Int) ≤ nn := by omega
      have z2 : 1 ≤ nn := by omega
      rcases hO with ⟨rfl, ho⟩ | ⟨bO, rfl, hb⟩
      · have hf : ownB (freeS p o.h) o.h = false := hno.trans (by rw [ho]; simp; omega)
        have hot : ownT (freeS p o.h) o.h = 0 := by unfold ownT; rw [hf]; rfl
        rw [hf, hot]
        have z3 : ¬ (nn : Int) ≤ 0 := by omega
        simp (maxSteps := 2000000) (implicitDefEqProofs := false) [DN5, DN, NB, begT, atHead, kd, wantedA, evP, evR, evF, evL, evC, evI, evBin, evUn, evEq, evSt, evRes, plain, scp, scpA, scpL, rdRow, rdCells, veq, veqA, veqL, isHole, Value.cells, evalL, optI, evBounds, evFill, evFillR, evApp, newsOf, wrCells, one1, fitsApp, evClr, undef, onB_bool, List.getElem?_concat_length, List.getElem?_cons_zero, List.getElem?_cons_succ, List.getElem?_toArray, List.getElem?_nil, List.set_cons_zero, List.set_cons_succ, List.cons_append, List.nil_append, -getElem?_pos, -getElem?_neg, f2, z0, z1, z2, z3]
        refine rest13 R _ n _ i hn hlt _ _ _ _ _ had (by first | omega | (simp; omega)) (by have := freeS_out p o.h; omega) J4 q o hq2 o.h hhl _ 0 (.inl ⟨rfl, ho⟩) (by rw [ho]; rfl) _ rfl _ rfl (by simp [List.forall_mem_cons, GB, r13T]) _
      obtain ⟨N, hN⟩ : ∃ N, List.length (backRS x o.h).out = N := ⟨_, rfl⟩
      rw [hN] at hno f2
      by_cases z3 : nn ≤ N
      · have ht : ownB (freeS p o.h) o.h = true := hno.trans (by simp [z2, z3])
        have z3' : (nn : Int) ≤ N := by omega
        obtain ⟨tt, htt⟩ : ∃ tt, ownT (freeS p o.h) o.h = tt := ⟨_, rfl⟩
        have htt2 := htt
        unfold ownT at htt2
        rw [ht, if_pos rfl, hnn, ← J4.sim.each] at htt2
        rw [ht, htt]
        obtain ⟨ee, hee⟩ : ∃ ee, XS.each (backRS x o.h) = ee := ⟨_, rfl⟩
        rw [hee] at htt2 f2
        have he0 : ¬ ee = 0 := by
          rintro rfl
          have := ht
          unfold ownB at this
          rw [decide_eq_true_eq, ← J4.sim.each, hee] at this
          exact this.1 rfl
        have hdv : ((nn : Int) - 1).tdiv (ee : Int) = (tt : Int) := by
          have e : ((nn : Int) - 1) = ((nn - 1 : Nat) : Int) := by omega
          rw [e, Int.tdiv_eq_ediv_of_nonneg (by omega), ← htt2]
          push_cast
          rfl
        have htl : tt ≤ 4096 := by rw [← htt2]; exact Nat.le_trans (Nat.div_le_self _ _) (by omega)
        have wt : IntKind.i64.wrap (tt : Int) = (tt : Int) := IntWalk.i64_in _ (by omega)
        simp (maxSteps := 2000000) (implicitDefEqProofs := false) [DN5, DN, NB, begT, atHead, kd, wantedA, evP, evR, evF, evL, evC, evI, evBin, evUn, evEq, evSt, evRes, plain, scp, scpA, scpL, rdRow, rdCells, veq, veqA, veqL, isHole, Value.cells, evalL, optI, evBounds, evFill, evFillR, evApp, newsOf, wrCells, one1, fitsApp, evClr, undef, onB_bool, List.getElem?_concat_length, List.getElem?_cons_zero, List.getElem?_cons_succ, List.getElem?_toArray, List.getElem?_nil, List.set_cons_zero, List.set_cons_succ, List.cons_append, List.nil_append, -getElem?_pos, -getElem?_neg, f2, z0, z1, z2, z3, z3', w1, hdv, wt, he0]
        refine rest13 R _ n _ i hn hlt _ _ _ _ _ had (by first | omega | (simp; omega)) (by have := freeS_out p o.h; omega) J4 q o hq2 o.h hhl _ N (.inr ⟨bO, by rw [hN], hb⟩) hN.symm _ rfl _ rfl (by simp [List.forall_mem_cons, GB, r13T]) _
      · have hf : ownB (freeS p o.h) o.h = false := hno.trans (by first | omega | (simp; omega))
        have hot : ownT (freeS p o.h) o.h = 0 := by unfold ownT; rw [hf]; rfl
        have z3' : ¬ (nn : Int) ≤ N := by omega
        rw [hf, hot]
        simp (maxSteps := 2000000) (implicitDefEqProofs := false) [DN5, DN, NB, begT, atHead, kd, wantedA, evP, evR, evF, evL, evC, evI, evBin, evUn, evEq, evSt, evRes, plain, scp, scpA, scpL, rdRow, rdCells, veq, veqA, veqL, isHole, Value.cells, evalL, optI, evBounds, evFill, evFillR, evApp, newsOf, wrCells, one1, fitsApp, evClr, undef, onB_bool, List.getElem?_concat_length, List.getElem?_cons_zero, List.getElem?_cons_succ, List.getElem?_toArray, List.getElem?_nil, List.set_cons_zero, List.set_cons_succ, List.cons_append, List.nil_append, -getElem?_pos, -getElem?_neg, f2, z0, z1, z2, z3, z3']
        refine rest13 R _ n _ i hn hlt _ _ _ _ _ had (by first | omega | (simp; omega)) (by have := freeS_out p o.h; omega) J4 q o hq2 o.h hhl _ N (.inr ⟨bO, by rw [hN], hb⟩) hN.symm _ rfl _ rfl (by simp [List.forall_mem_cons, GB, r13T]) _
  | false =>
    rw [hob] at hrd hset hq1
    simp (maxSteps := 2000000) (implicitDefEqProofs := false) [DN5, DN, NB, begT, atHead, kd, wantedA, evP, evR, evF, evL, evC, evI, evBin, evUn, evEq, evSt, evRes, plain, scp, scpA, scpL, rdRow, rdCells, veq, veqA, veqL, isHole, Value.cells, evalL, optI, evBounds, evFill, evFillR, evApp, newsOf, wrCells, one1, fitsApp, evClr, undef, onB_bool, List.getElem?_concat_length, List.getElem?_cons_zero, List.getElem?_cons_succ, List.getElem?_toArray, List.getElem?_nil, List.set_cons_zero, List.set_cons_succ, List.cons_append, List.nil_append, -getElem?_pos, -getElem?_neg, q13T, lp13_0, c1, c2, hlt, f0, hrd, hfit, splice_many, hqg, hget, hset, hq1]
    have okx := okX_of J1.sim J1.ok
    refine takeG o.t J1.pool ?_
    have hq1s : ∀ k, (g1.set 1 k)[q]? = _ := fun k => getS hq1 1 (by omega) k
    simp (maxSteps := 2000000) (implicitDefEqProofs := false) [DN5, DN, NB, begT, atHead, kd, wantedA, evP, evR, evF, evL, evC, evI, evBin, evUn, evEq, evSt, evRes, plain, scp, scpA, scpL, rdRow, rdCells, veq, veqA, veqL, isHole, Value.cells, evalL, optI, evBounds, evFill, evFillR, evApp, newsOf, wrCells, one1, fitsApp, evClr, undef, onB_bool, List.getElem?_concat_length, List.getElem?_cons_zero, List.getElem?_cons_succ, List.getElem?_toArray, List.getElem?_nil, List.set_cons_zero, List.set_cons_succ, List.cons_append, List.nil_append, -getElem?_pos, -getElem?_neg, hq1s]
    have r2 : RepP (g1.set 1 (poolB (takeS p o.t))) 2 ns x := J1.rep.keep fun c hc => List.getElem?_set_ne (show 1 ≠ c from fun e => J1.n1 (e ▸ hc))
    refine reftake_ r2 okx o.t fun g2 r3 u3 => ?_
    rw [J1.sim.takeH, J1.sim.takeE]
    obtain ⟨s4, ok4⟩ := J1.sim.take J1.ok o.t
    have J3 := J1.turn r3 u3 ok4 s4
    have hhl : takeH p o.t < 4294967296 := by rw [← J1.sim.takeH]; exact takeR_lt okx o.t
    obtain ⟨h, hh⟩ : ∃ h, takeH p o.t = h := ⟨_, rfl⟩
    rw [hh] at hhl ⊢
    have hq3 : g2[q]? = _ := u3.get (hq1s _) (fun hm => by have := J.rep.lt q hm; omega)
    have ow : Own g2 1 ([] ++ (.slice A1 had.length C1, words (nats had), 35) :: []) := ⟨fun y hy => by simp at hy; subst hy; exact J3.vec, by
      simp only [List.nil_append, List.flatMap_cons, List.flatMap_nil, List.append_nil, List.nodup_cons]
      refine ⟨fun hm => (J3.hn 1 hm).2.2 rfl, ?_⟩
      obtain ⟨A9, L9, C9, e9⟩ := J3.vec.slice
      rw [e9]
      cases A9 <;> simp [nm], lt_get J3.pool⟩
    obtain ⟨g3, a3, o3, l3, b3, k3⟩ := Own.app (pre := []) (post := []) ow (.int .u32 (h : Int)) rfl (by rw [words_length, hhl0]; omega) (bytes := 4) (by omega)
    have J4 := J3.push h hhl o3 k3
    have hg2l : q < g2.length := lt_get hq3
    have hqn : q ∉ nm (.slice A1 had.length C1) := fun hm => by have := J.vec.lt q hm; omega
    have hq4 : g3[q]? = _ := (k3 q hg2l hqn).trans hq3
    simp (maxSteps := 2000000) (implicitDefEqProofs := false) [DN5, DN, NB, begT, atHead, kd, wantedA, evP, evR, evF, evL, evC, evI, evBin, evUn, evEq, evSt, evRes, plain, scp, scpA, scpL, rdRow, rdCells, veq, veqA, veqL, isHole, Value.cells, evalL, optI, evBounds, evFill, evFillR, evApp, newsOf, wrCells, one1, fitsApp, evClr, undef, onB_bool, List.getElem?_concat_length, List.getElem?_cons_zero, List.getElem?_cons_succ, List.getElem?_toArray, List.getElem?_nil, List.set_cons_zero, List.set_cons_succ, List.cons_append, List.nil_append, -getElem?_pos, -getElem?_neg, -evApp, -newsOf, a3, hq3, hq4]
    have e0 : o.vs = [.bool false, .int .i64 o.t, .int .i64 o.own, .int .u32 (o.h : Int)] := by rw [← hob]; rfl
    have hq2 : g3[q]? = some (.cells o.vs 97 none) := by rw [e0]; exact hq4
    obtain ⟨nn, hnn⟩ : ∃ nn, h % 4096 = nn := ⟨_, rfl⟩
    have hno := own_eq J4.sim h
    rw [hnn] at hno
    have hnl : nn < 4096 := by omega
    refine rindex_ h nn hhl hnn _ ?_
    simp (maxSteps := 2000000) (implicitDefEqProofs := false) [DN5, DN, NB, begT, atHead, kd, wantedA, evP, evR, evF, evL, evC, evI, evBin, evUn, evEq, evSt, evRes, plain, scp, scpA, scpL, rdRow, rdCells, veq, veqA, veqL, isHole, Value.cells, evalL, optI, evBounds, evFill, evFillR, evApp, newsOf, wrCells, one1, fitsApp, evClr, undef, onB_bool, List.getElem?_concat_length, List.getElem?_cons_zero, List.getElem?_cons_succ, List.getElem?_toArray, List.getElem?_nil, List.set_cons_zero, List.set_cons_succ, List.cons_append, List.nil_append, -getElem?_pos, -getElem?_neg]
    refine ownerG h hhl J4.pool ?_
    obtain ⟨vF, vG, vO, f2, hO⟩ := J4.rep.outs
    have w1 : IntKind.i64.wrap ((nn : Int) - 1) = (nn : Int) - 1 := IntWalk.i64_in _ (by omega)
    by_cases z0 : nn = 0
    · have hf : ownB (takeS p o.t) h = false := hno.trans (by simp [z0])
      have hot : ownT (takeS p o.t) h = 0 := by unfold ownT; rw [hf]; rfl
      rw [hf, hot]
      rcases hO with ⟨rfl, ho⟩ | ⟨bO, rfl, hb⟩
      · simp (maxSteps := 2000000) (implicitDefEqProofs := false) [DN5, DN, NB, begT, atHead, kd, wantedA, evP, evR, evF, evL, evC, evI, evBin, evUn, evEq, evSt, evRes, plain, scp, scpA, scpL, rdRow, rdCells, veq, veqA, veqL, isHole, Value.cells, evalL, optI, evBounds, evFill, evFillR, evApp, newsOf, wrCells, one1, fitsApp, evClr, undef, onB_bool, List.getElem?_concat_length, List.getElem?_cons_zero, List.getElem?_cons_succ, List.getElem?_toArray, List.getElem?_nil, List.set_cons_zero, List.set_cons_succ, List.cons_append, List.nil_append, -getElem?_pos, -getElem?_neg, f2, z0]
        refine rest13 R _ n _ i hn hlt _ _ _ _ _ (had ++ [h]) (by first | omega | (simp; omega)) (by have := takeS_out p o.t; omega) J4 q o hq2 h hhl _ 0 (.inl ⟨rfl, ho⟩) (by rw [ho]; rfl) _ rfl _ rfl (by simp [List.forall_mem_cons, GB, r13T]) _
      · simp (maxSteps := 2000000) (implicitDefEqProofs := false) [DN5, DN, NB, begT, atHead, kd, wantedA, evP, evR, evF, evL, evC, evI, evBin, evUn, evEq, evSt, evRes, plain, scp, scpA, scpL, rdRow, rdCells, veq, veqA, veqL, isHole, Value.cells, evalL, optI, evBounds, evFill, evFillR, evApp, newsOf, wrCells, one1, fitsApp, evClr, undef, onB_bool, List.getElem?_concat_length, List.getElem?_cons_zero, List.getElem?_cons_succ, List.getElem?_toArray, List.getElem?_nil, List.set_cons_zero, List.set_cons_succ, List.cons_append, List.nil_append, -getElem?_pos, -getElem?_neg, f2, z0]
        refine rest13 R _ n _ i hn hlt _ _ _ _ _ (had ++ [h]) (by first | omega | (simp; omega)) (by have := takeS_out p o.t; omega) J4 q o hq2 h hhl _ _ (.inr ⟨bO, rfl, hb⟩) rfl _ rfl _ rfl (by simp [List.forall_mem_cons, GB, r13T]) _
    have z1 : (1 : Int) ≤ nn := by omega
    have z2 : 1 ≤ nn := by omega
    rcases hO with ⟨rfl, ho⟩ | ⟨bO, rfl, hb⟩
    · have hf : ownB (takeS p o.t) h = false := hno.trans (by rw [ho]; simp; omega)
      have hot : ownT (takeS p o.t) h = 0 := by unfold ownT; rw [hf]; rfl
      rw [hf, hot]
      have z3 : ¬ (nn : Int) ≤ 0 := by omega
      simp (maxSteps := 2000000) (implicitDefEqProofs := false) [DN5, DN, NB, begT, atHead, kd, wantedA, evP, evR, evF, evL, evC, evI, evBin, evUn, evEq, evSt, evRes, plain, scp, scpA, scpL, rdRow, rdCells, veq, veqA, veqL, isHole, Value.cells, evalL, optI, evBounds, evFill, evFillR, evApp, newsOf, wrCells, one1, fitsApp, evClr, undef, onB_bool, List.getElem?_concat_length, List.getElem?_cons_zero, List.getElem?_cons_succ, List.getElem?_toArray, List.getElem?_nil, List.set_cons_zero, List.set_cons_succ, List.cons_append, List.nil_append, -getElem?_pos, -getElem?_neg, f2, z0, z1, z2, z3]
      refine rest13 R _ n _ i hn hlt _ _ _ _ _ (had ++ [h]) (by first | omega | (simp; omega)) (by have := takeS_out p o.t; omega) J4 q o hq2 h hhl _ 0 (.inl ⟨rfl, ho⟩) (by rw [ho]; rfl) _ rfl _ rfl (by simp [List.forall_mem_cons, GB, r13T]) _
    obtain ⟨N, hN⟩ : ∃ N, List.length (takeRS x o.t).out = N := ⟨_, rfl⟩
    rw [hN] at hno f2
    by_cases z3 : nn ≤ N
    · have ht : ownB (takeS p o.t) h = true := hno.trans (by simp [z2, z3])
      have z3' : (nn : Int) ≤ N := by omega
      obtain ⟨tt, htt⟩ : ∃ tt, ownT (takeS p o.t) h = tt := ⟨_, rfl⟩
      have htt2 := htt
      unfold ownT at htt2
      rw [ht, if_pos rfl, hnn, ← J4.sim.each] at htt2
      rw [ht, htt]
      obtain ⟨ee, hee⟩ : ∃ ee, XS.each (takeRS x o.t) = ee := ⟨_, rfl⟩
      rw [hee] at htt2 f2
      have he0 : ¬ ee = 0 := by
        rintro rfl
        have := ht
        unfold ownB at this
        rw [decide_eq_true_eq, ← J4.sim.each, hee] at this
        exact this.1 rfl
      have hdv : ((nn : Int) - 1).tdiv (ee : Int) = (tt : Int) := by
        have e : ((nn : Int) - 1) = ((nn - 1 : Nat) : Int) := by omega
        rw [e, Int.tdiv_eq_ediv_of_nonneg (by omega), ← htt2]
        push_cast
        rfl
      have htl : tt ≤ 4096 := by rw [← htt2]; exact Nat.le_trans (Nat.div_le_self _ _) (by omega)
      have wt : IntKind.i64.wrap (tt : Int) = (tt : Int) := IntWalk.i64_in _ (by omega)
      simp (maxSteps := 2000000) (implicitDefEqProofs := false) [DN5, DN, NB, begT, atHead, kd, wantedA, evP, evR, evF, evL, evC, evI, evBin, evUn, evEq, evSt, evRes, plain, scp, scpA, scpL, rdRow, rdCells, veq, veqA, veqL, isHole, Value.cells, evalL, optI, evBounds, evFill, evFillR, evApp, newsOf, wrCells, one1, fitsApp, evClr, undef, onB_bool, List.getElem?_concat_length, List.getElem?_cons_zero, List.getElem?_cons_succ, List.getElem?_toArray, List.getElem?_nil, List.set_cons_zero, List.set_cons_succ, List.cons_append, List.nil_append, -getElem?_pos, -getElem?_neg, f2, z0, z1, z2, z3, z3', w1, hdv, wt, he0]
      refine rest13 R _ n _ i hn hlt _ _ _ _ _ (had ++ [h]) (by first | omega | (simp; omega)) (by have := takeS_out p o.t; omega) J4 q o hq2 h hhl _ N (.inr ⟨bO, by rw [hN], hb⟩) hN.symm _ rfl _ rfl (by simp [List.forall_mem_cons, GB, r13T]) _
    · have hf : ownB (takeS p o.t) h = false := hno.trans (by first | omega | (simp; omega))
      have hot : ownT (takeS p o.t) h = 0 := by unfold ownT; rw [hf]; rfl
      have z3' : ¬ (nn : Int) ≤ N := by omega
      rw [hf, hot]
      simp (maxSteps := 2000000) (implicitDefEqProofs := false) [DN5, DN, NB, begT, atHead, kd, wantedA, evP, evR, evF, evL, evC, evI, evBin, evUn, evEq, evSt, evRes, plain, scp, scpA, scpL, rdRow, rdCells, veq, veqA, veqL, isHole, Value.cells, evalL, optI, evBounds, evFill, evFillR, evApp, newsOf, wrCells, one1, fitsApp, evClr, undef, onB_bool, List.getElem?_concat_length, List.getElem?_cons_zero, List.getElem?_cons_succ, List.getElem?_toArray, List.getElem?_nil, List.set_cons_zero, List.set_cons_succ, List.cons_append, List.nil_append, -getElem?_pos, -getElem?_neg, f2, z0, z1, z2, z3, z3']
      refine rest13 R _ n _ i hn hlt _ _ _ _ _ (had ++ [h]) (by first | omega | (simp; omega)) (by have := takeS_out p o.t; omega) J4 q o hq2 h hhl _ N (.inr ⟨bO, by rw [hN], hb⟩) hN.symm _ rfl _ rfl (by simp [List.forall_mem_cons, GB, r13T]) _

end Px
end Go.Proofs.Ytekhadlpcdjlpaa
