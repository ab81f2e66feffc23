/- pool: PoolPlays, the end of a round. -/
import Derived.Test.YtekhadlpcdjlpaaPp7
import Derived.Test.YtekhadlpcdjlpaaCodeQ
namespace Go.Proofs.Ytekhadlpcdjlpaa
namespace Px
open Go Abs Code
set_option linter.unusedVariables false
set_option linter.unusedSimpArgs false
set_option maxRecDepth 100000

theorem okX_of {p : PS} {x : XS} (s : Sim p x) (ok : OkP p) : OkX x := by
  have hN : p.each * p.free.length ≤ 512 := Nat.le_trans (Nat.mul_le_mul ok.each ok.many) (by omega)
  refine ⟨by rw [s.each]; exact ok.each, by rw [s.gl, s.ol], by rw [s.gl]; omega, s.gs, fun t r hr => ?_⟩
  rw [s.freeAt] at hr
  cases hq : p.free[t]? with
  | none => rw [hq] at hr; cases hr
  | some q =>
    rw [hq] at hr
    injection hr with hr
    subst hr
    have hc := ok.cnt t q hq
    refine ⟨by rw [List.length_map, s.each]; omega, fun n hn => ?_⟩
    obtain ⟨h, hh, rfl⟩ := List.mem_map.1 hn
    have g := s.fr t q hq h hh
    exact ⟨g.lo, g.hi⟩

theorem isR_th {p : PS} {x : XS} (s : Sim p x) (ok : OkP p) {h : Nat} (hr : x.isR h = true) : (h % 4096 - 1) / x.each < x.free.length := by
  rw [s.is ok] at hr
  have hm := lookP_mem (of_decide_eq_true hr)
  have g := s.ou _ hm
  have w := ok.who _ hm
  rw [g.th, s.len]
  simp only at w ⊢
  omega

theorem RepP.outs {g : AH} {b : Nat} {ns : List Nat} {s : XS} (r : RepP g b ns s) : ∃ vF vG vO, g[b]? = some (.cells [.int .i64 s.each, vF, vG, vO] 102 none) ∧ ((vO = .slice none 0 0 ∧ s.out = []) ∨ ∃ bO, vO = .slice (some ⟨bO, 0, none⟩) s.out.length (OPEN + s.out.length) ∧ g[bO]? = some (.cells (natV s.out) 3 (some 1))) := by
  cases r with
  | zero bF _ r => exact ⟨_, _, _, by have := r.h0; rw [r.each]; exact this, .inl ⟨rfl, r.ou⟩⟩
  | more bF bG bO bs fv _ r => exact ⟨_, _, _, r.h0, .inr ⟨bO, rfl, r.hO⟩⟩
theorem RepP.lt {g : AH} {b : Nat} {ns : List Nat} {s : XS} (r : RepP g b ns s) : ∀ c ∈ ns, c < g.length := by
  cases r with
  | zero bF e r =>
    subst e
    intro c hc
    simp only [List.mem_cons, List.not_mem_nil, or_false] at hc
    rcases hc with rfl | rfl
    · exact lt_get r.h0
    · exact lt_get r.hF
  | more bF bG bO bs fv e r =>
    subst e
    intro c hc
    simp only [List.mem_cons] at hc
    rcases hc with rfl | rfl | rfl | rfl | hc
    · exact lt_get r.h0
    · exact lt_get r.hF
    · exact lt_get r.hG
    · exact lt_get r.hO
    · obtain ⟨t, ht, e⟩ := List.mem_iff_getElem.1 hc
      have htl : t < s.free.length := by rw [← r.lb]; exact ht
      obtain ⟨v, c2, _, h2, h3⟩ := r.rows t _ (List.getElem?_eq_getElem htl)
      rw [List.getElem?_eq_getElem ht] at h2
      injection h2 with h2
      obtain ⟨kk, hkk⟩ := h3.get
      rw [← e, h2]
      exact lt_get hkk
theorem RepP.at_ {g : AH} {b : Nat} {ns : List Nat} {s : XS} (r : RepP g b ns s) : b ∈ ns := by
  cases r with
  | zero bF e r => subst e; simp
  | more bF bG bO bs fv e r => subst e; simp

structure OpL where
  back : Bool
  t : Int
  own : Int
  h : Nat
def OpL.vs (o : OpL) : List Value := [.bool o.back, .int .i64 o.t, .int .i64 o.own, .int .u32 (o.h : Int)]
def rowQ (l : List OpL) : List Value := l.flatMap OpL.vs

/-- Both pools, beside what came in and what was had. -/
structure J13 (R : List Value) (g : AH) (p : PS) (x : XS) (ns : List Nat) (vh : Value) (had : List Nat) : Prop where
  row : g[0]? = some (.row R)
  pool : g[1]? = some (poolB p)
  rep : RepP g 2 ns x
  n0 : 0 ∉ ns
  n1 : 1 ∉ ns
  vec : VecV g vh (words (nats had)) 35
  hn : ∀ c ∈ nm vh, c ∉ ns ∧ c ≠ 0 ∧ c ≠ 1
  ok : OkP p
  sim : Sim p x
  lts : ∀ h ∈ had, h < 4294967296

structure Q13 where
  i : Nat
  g : AH
  p : PS
  x : XS
  ns : List Nat
  vh : Value
  had : List Nat
def q13I (R : List Value) (n : Nat) (s : Q13) : Prop := s.i ≤ n ∧ s.had.length ≤ s.i ∧ s.p.out.length ≤ s.i ∧ J13 R s.g s.p s.x s.ns s.vh s.had
def q13T (sv : Value) (n : Nat) (s : Q13) : List (Nat × Value) := [(7, .pointer (some ⟨1, 0, none⟩)), (9, .pointer (some ⟨2, 0, none⟩)), (10, s.vh), (57, sv), (58, .int .i64 n), (59, .int .i64 s.i)]

def r13T (sv : Value) (n i q : Nat) (vh : Value) (h : Nat) (vO : Value) (lO : Nat) (s : Nat × Nat) : List (Nat × Value) := [(7, .pointer (some ⟨1, 0, none⟩)), (9, .pointer (some ⟨2, 0, none⟩)), (10, vh), (12, .pointer (some ⟨q, 0, none⟩)), (13, .int .u32 (h : Int)), (22, .int .i64 s.2), (57, sv), (58, .int .i64 n), (59, .int .i64 i), (173, vO), (174, .int .i64 lO), (175, .int .i64 s.1)]

theorem sum_take_s {l : List Nat} {j y : Nat} (h : l[j]? = some y) : (l.take (j + 1)).sum = (l.take j).sum + y := by
  rw [List.take_add_one, h]
  simp

set_option maxHeartbeats 4000000 in
theorem rest13 (R : List Value) (sv : Value) (n m i : Nat) (hn : n ≤ 100) (hi : i < n) (g : AH) (p : PS) (x : XS) (ns : List Nat) (vh : Value) (had : List Nat) (hhad : had.length ≤ i + 1) (hol : p.out.length ≤ i + 1) (J : J13 R g p x ns vh had) (q : Nat) (o : OpL) (hq : g[q]? = some (.cells o.vs 97 none)) (h : Nat) (hh : h < 4294967296) (vO : Value) (lO : Nat)
    (hO : (vO = .slice none 0 0 ∧ x.out = []) ∨ ∃ bO, vO = .slice (some ⟨bO, 0, none⟩) x.out.length (OPEN + x.out.length) ∧ g[bO]? = some (.cells (natV x.out) 3 (some 1))) (hlO : lO = x.out.length) (s0 : Q13) (hs0 : s0.i = i) (T0 : T) (e1 : T0.length = 209) (e2 : ∀ y ∈ r13T sv n i q vh h vO lO (0, 0), getT T0 y.1 = some y.2) (Q : AExit → T → AH → Prop) :
    ALoop Try.prog m lp13_1 T0 g (resK Try.prog m fr13_1 (loopQ5 209 (q13I R n) (fun s => n - s.i) (q13T sv n) (·.g) s0 Q)) := by
  have okx := okX_of J.sim J.ok
  have hsml := okx.small
  have hlen := okx.lens
  have hpre : ∀ j, (x.out.take j).sum ≤ 101 := by
    intro j
    have h1 := J.sim.sum
    have h2 : (x.out.take j).sum + (x.out.drop j).sum = x.out.sum := by rw [← List.sum_append, List.take_append_drop]
    omega
  refine loop5 hmix 209 (fun s => s.1 ≤ lO ∧ s.2 = (x.out.take s.1).sum) (fun s => lO - s.1) (r13T sv n i q vh h vO lO) (fun _ => g) (0, 0) ⟨Nat.zero_le _, rfl⟩ rfl e1 e2 ?_
  rintro ⟨j, c⟩ ⟨hj, hc⟩ _ _ _
  simp only at hj hc ⊢
  by_cases hlt : j < lO
  · rcases hO with ⟨hv, ho⟩ | ⟨bO, hv, hb⟩
    · rw [ho] at hlO
      simp at hlO
      omega
    subst hv
    obtain ⟨y, hy⟩ : ∃ y, x.out[j]? = some y := ⟨_, List.getElem?_eq_getElem (by omega)⟩
    have hyv : (natV x.out)[j]? = some (.int .i64 (y : Int)) := by rw [natV_get, hy]; rfl
    have hfit : j + 1 ≤ (natV x.out).length := by rw [natV_length]; omega
    have hs := sum_take_s hy
    have h1 := hpre (j + 1)
    have w1 : IntKind.i64.wrap ((c : Int) + y) = (c : Int) + y := IntWalk.i64_in _ (by omega)
    have w2 : IntKind.i64.wrap ((j : Int) + 1) = (j : Int) + 1 := IntWalk.i64_in _ (by omega)
    have c1 : j < x.out.length := by omega
    have c2 : (j : Int) < lO := by omega
    simp (maxSteps := 2000000) (implicitDefEqProofs := false) [DN5, DN, NB, begT, atHead, kd, wantedA, evP, evR, evF, evL, evC, evI, evBin, evUn, evEq, evSt, evRes, plain, scp, scpA, scpL, rdRow, rdCells, veq, veqA, veqL, isHole, Value.cells, evalL, optI, evBounds, evFill, evFillR, evApp, newsOf, wrCells, one1, fitsApp, evClr, undef, onB_bool, List.getElem?_concat_length, List.getElem?_cons_zero, List.getElem?_cons_succ, List.getElem?_toArray, List.getElem?_nil, List.set_cons_zero, List.set_cons_succ, List.cons_append, List.nil_append, -getElem?_pos, -getElem?_neg, r13T, lp13_1, c1, c2, hlt, hb, hyv, hfit, w1, w2]
    exact next5.intro (j + 1, c + y) (by simp only; omega) ⟨by simp only; omega, by simp only; omega⟩ rfl rfl (by simp [List.forall_mem_cons, GB, r13T])
  obtain rfl : j = lO := by omega
  have hfull : c = x.out.sum := by rw [hc, hlO, List.take_length]
  have hc2 : c = p.out.length := by rw [hfull, J.sim.sum]
  simp (maxSteps := 2000000) (implicitDefEqProofs := false) [DN5, DN, NB, begT, atHead, kd, wantedA, evP, evR, evF, evL, evC, evI, evBin, evUn, evEq, evSt, evRes, plain, scp, scpA, scpL, rdRow, rdCells, veq, veqA, veqL, isHole, Value.cells, evalL, optI, evBounds, evFill, evFillR, evApp, newsOf, wrCells, one1, fitsApp, evClr, undef, onB_bool, List.getElem?_concat_length, List.getElem?_cons_zero, List.getElem?_cons_succ, List.getElem?_toArray, List.getElem?_nil, List.set_cons_zero, List.set_cons_succ, List.cons_append, List.nil_append, -getElem?_pos, -getElem?_neg, r13T, lp13_1, fr13_1]
  refine totalG J.pool ?_
  rw [← hc2]
  unfold OpL.vs at hq
  simp (maxSteps := 2000000) (implicitDefEqProofs := false) [DN5, DN, NB, begT, atHead, kd, wantedA, evP, evR, evF, evL, evC, evI, evBin, evUn, evEq, evSt, evRes, plain, scp, scpA, scpL, rdRow, rdCells, veq, veqA, veqL, isHole, Value.cells, evalL, optI, evBounds, evFill, evFillR, evApp, newsOf, wrCells, one1, fitsApp, evClr, undef, onB_bool, List.getElem?_concat_length, List.getElem?_cons_zero, List.getElem?_cons_succ, List.getElem?_toArray, List.getElem?_nil, List.set_cons_zero, List.set_cons_succ, List.cons_append, List.nil_append, -getElem?_pos, -getElem?_neg, hq]
  refine outG o.t J.pool ?_
  have hmn := J.sim.many o.t
  simp (maxSteps := 2000000) (implicitDefEqProofs := false) [DN5, DN, NB, begT, atHead, kd, wantedA, evP, evR, evF, evL, evC, evI, evBin, evUn, evEq, evSt, evRes, plain, scp, scpA, scpL, rdRow, rdCells, veq, veqA, veqL, isHole, Value.cells, evalL, optI, evBounds, evFill, evFillR, evApp, newsOf, wrCells, one1, fitsApp, evClr, undef, onB_bool, List.getElem?_concat_length, List.getElem?_cons_zero, List.getElem?_cons_succ, List.getElem?_toArray, List.getElem?_nil, List.set_cons_zero, List.set_cons_succ, List.cons_append, List.nil_append, -getElem?_pos, -getElem?_neg, hq]
  refine rmany_ J.rep o.t (fun t r hr => (okx.nodes t r hr).1) okx.each ?_
  rw [hmn]
  simp (maxSteps := 2000000) (implicitDefEqProofs := false) [DN5, DN, NB, begT, atHead, kd, wantedA, evP, evR, evF, evL, evC, evI, evBin, evUn, evEq, evSt, evRes, plain, scp, scpA, scpL, rdRow, rdCells, veq, veqA, veqL, isHole, Value.cells, evalL, optI, evBounds, evFill, evFillR, evApp, newsOf, wrCells, one1, fitsApp, evClr, undef, onB_bool, List.getElem?_concat_length, List.getElem?_cons_zero, List.getElem?_cons_succ, List.getElem?_toArray, List.getElem?_nil, List.set_cons_zero, List.set_cons_succ, List.cons_append, List.nil_append, -getElem?_pos, -getElem?_neg, hq]
  refine isG h J.pool ?_
  simp (maxSteps := 2000000) (implicitDefEqProofs := false) [DN5, DN, NB, begT, atHead, kd, wantedA, evP, evR, evF, evL, evC, evI, evBin, evUn, evEq, evSt, evRes, plain, scp, scpA, scpL, rdRow, rdCells, veq, veqA, veqL, isHole, Value.cells, evalL, optI, evBounds, evFill, evFillR, evApp, newsOf, wrCells, one1, fitsApp, evClr, undef, onB_bool, List.getElem?_concat_length, List.getElem?_cons_zero, List.getElem?_cons_succ, List.getElem?_toArray, List.getElem?_nil, List.set_cons_zero, List.set_cons_succ, List.cons_append, List.nil_append, -getElem?_pos, -getElem?_neg, hq]
  refine ris_ J.rep h hh okx.lens okx.small okx.gens ?_
  rw [J.sim.is J.ok]
  have w2 : IntKind.i64.wrap ((i : Int) + 1) = (i : Int) + 1 := IntWalk.i64_in _ (by omega)
  simp (maxSteps := 2000000) (implicitDefEqProofs := false) [DN5, DN, NB, begT, atHead, kd, wantedA, evP, evR, evF, evL, evC, evI, evBin, evUn, evEq, evSt, evRes, plain, scp, scpA, scpL, rdRow, rdCells, veq, veqA, veqL, isHole, Value.cells, evalL, optI, evBounds, evFill, evFillR, evApp, newsOf, wrCells, one1, fitsApp, evClr, undef, onB_bool, List.getElem?_concat_length, List.getElem?_cons_zero, List.getElem?_cons_succ, List.getElem?_toArray, List.getElem?_nil, List.set_cons_zero, List.set_cons_succ, List.cons_append, List.nil_append, -getElem?_pos, -getElem?_neg, w2]
  exact next5.intro ⟨i + 1, g, p, x, ns, vh, had⟩ (by simp only; omega) ⟨by simp only; omega, by simpa using hhad, by simpa using hol, J⟩ rfl rfl (by simp [List.forall_mem_cons, GB, q13T])

end Px
end Go.Proofs.Ytekhadlpcdjlpaa
