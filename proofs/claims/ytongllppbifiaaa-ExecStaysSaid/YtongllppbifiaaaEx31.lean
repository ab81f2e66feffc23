/- specs: short ones, the document's; those that may be. -/
import Derived.Test.YtongllppbifiaaaEx27
import Derived.Test.YtongllppbifiaaaCodeE
namespace Go.Proofs.Ytongllppbifiaaa
namespace Ex
open Go Abs Code
open Px (natV natV_length natV_get VecV nm u32w i64w PS poolB outG Own New newP pnewG OkP)
attribute [local simp] DN5 HA DN NB begT atHead kd wantedA evP evR evF evL evC evI evBin evUn evEq evSt evRes plain scp scpA scpL rdRow_eq RV rdCells veq veqA veqL isHole Value.cells evalL optI evBounds evFill evFillR evApp newsOf wrCells one1 fitsApp evClr undef onB_bool List.getElem?_concat_length List.getElem?_cons_zero List.getElem?_cons_succ List.getElem?_toArray List.getElem?_nil List.set_cons_zero List.set_cons_succ List.cons_append List.nil_append
set_option linter.unusedVariables false
set_option linter.unusedSimpArgs false
set_option maxRecDepth 100000

theorem kb2 {H : AH} {K : Value → AH → Prop} {b b' : Bool} (h : K (.bool b) H) (e : b = true ↔ b' = true) : K (.bool b') H := by
  rw [← Bool.eq_iff_iff.2 e]
  exact h

/-- A spec, as it is handed in, whatever its length. -/
structure SpR (H : AH) (v : Value) (s : Sp) : Prop where
  v : ∃ vL vz vi v7, v = .agg #[vL, .int .i64 s.lk, .int .i64 s.uk, vz, vi, .int .i64 s.each, v7] ∧ ArgRow H vL (rowI s.L) s.L.length ∧ ArgRow H vz (intV s.zs) s.zs.length ∧ ArgRow H vi (w32 s.init) s.init.length ∧ ArgRow H v7 (w32 s.r7) s.r7.length
  ks : ∀ i ∈ s.L, i.k < 4294967296
  ws : ∀ w ∈ s.init, w < 4294967296
  rs : ∀ w ∈ s.r7, w < 4294967296
theorem SpR.ext {H g : AH} {v : Value} {s : Sp} (r : SpR H v s) (h : Ext H g) : SpR g v s := by
  obtain ⟨⟨vL, vz, vi, v7, e, rL, rz, ri, r7⟩, k, w, q⟩ := r
  exact ⟨⟨vL, vz, vi, v7, e, rL.ext h, rz.ext h, ri.ext h, r7.ext h⟩, k, w, q⟩
theorem SpR.full {H : AH} {v : Value} {s : Sp} (r : SpR H v s) (h1 : s.L.length ≤ 1000) (h2 : s.zs.length ≤ 1000) : SpV H v s := ⟨r.v, r.ks, r.ws, r.rs, h1, h2⟩

def smallS (s : Sp) : Bool := decide (s.L.length ≤ 80 ∧ s.zs.length ≤ 12 ∧ s.init.length ≤ 300 ∧ s.r7.length ≤ 80)

set_option maxHeartbeats 4000000 in
theorem small_ {H : AH} {v : Value} {s : Sp} (r : SpR H v s) {K : Value → AH → Prop} (hK : K (.bool (smallS s)) H) : AC Try.prog 5 [v] H K := by
  refine AC.clean ?_
  refine entry hmix cf5 ?_
  obtain ⟨vL, vz, vi, v7, rfl, rL, rz, ri, r7⟩ := r.v
  obtain ⟨A1, C1, rfl⟩ := rL.form
  obtain ⟨A2, C2, rfl⟩ := rz.form
  obtain ⟨A3, C3, rfl⟩ := ri.form
  obtain ⟨A4, C4, rfl⟩ := r7.form
  unfold smallS at hK
  by_cases c1 : s.L.length ≤ 80
  case neg =>
    have c1' : ¬ (s.L.length : Int) ≤ 80 := by omega
    simp (maxSteps := 2000000) (implicitDefEqProofs := false) [-getElem?_pos, -getElem?_neg, c1, c1']
    exact kb2 hK (by simp; omega)
  have c1' : (s.L.length : Int) ≤ 80 := by omega
  by_cases c2 : s.zs.length ≤ 12
  case neg =>
    have c2' : ¬ (s.zs.length : Int) ≤ 12 := by omega
    simp (maxSteps := 2000000) (implicitDefEqProofs := false) [-getElem?_pos, -getElem?_neg, c1, c1', c2, c2']
    exact kb2 hK (by simp; omega)
  have c2' : (s.zs.length : Int) ≤ 12 := by omega
  by_cases c3 : s.init.length ≤ 300
  case neg =>
    have c3' : ¬ (s.init.length : Int) ≤ 300 := by omega
    simp (maxSteps := 2000000) (implicitDefEqProofs := false) [-getElem?_pos, -getElem?_neg, c1, c1', c2, c2', c3, c3']
    exact kb2 hK (by simp; omega)
  have c3' : (s.init.length : Int) ≤ 300 := by omega
  by_cases c4 : s.r7.length ≤ 80
  case neg =>
    have c4' : ¬ (s.r7.length : Int) ≤ 80 := by omega
    simp (maxSteps := 2000000) (implicitDefEqProofs := false) [-getElem?_pos, -getElem?_neg, c1, c1', c2, c2', c3, c3', c4, c4']
    exact kb2 hK (by simp; omega)
  have c4' : (s.r7.length : Int) ≤ 80 := by omega
  simp (maxSteps := 2000000) (implicitDefEqProofs := false) [-getElem?_pos, -getElem?_neg, c1, c1', c2, c2', c3, c3', c4, c4']
  exact kb2 hK (by simp; omega)

set_option maxHeartbeats 4000000 in
theorem lref_ {H : AH} {v : Value} {s : Sp} (r : SpR H v s) (hL : s.L.length ≤ 1000) {K : Value → AH → Prop} (hK : ∀ g v', Ext H g → SpR g v' s → K v' g) : AC Try.prog 7 [v] H K := by
  refine entry hmix cf7 ?_
  obtain ⟨vL, vz, vi, v7, rfl, rL, rz, ri, r7⟩ := r.v
  have q1 : ∀ {x : Value} {l n}, ArgRow H x l n → veq x x = true := fun h => by
    obtain ⟨A, C, rfl⟩ := h.form
    simp [veq]
  have q2 := q1 rz
  have q3 := q1 ri
  have q4 := q1 r7
  simp (maxSteps := 2000000) (implicitDefEqProofs := false) [-getElem?_pos, -getElem?_neg]
  refine l7ref_ (rL.ext (Ext.app _ _)) hL _ _ fun g v' xg hv hn => ?_
  have g1 : g[H.length]? = some (.cells [vL, .int .i64 s.lk, .int .i64 s.uk, vz, vi, .int .i64 s.each, v7] 28 none) := by rw [xg.keep _ (by simp), HA.2.1]; rfl
  have g2 : g[H.length + 1]? = some (.cells [.slice none 0 0, .int .i64 0, .int .i64 0, .slice none 0 0, .slice none 0 0, .int .i64 0, .slice none 0 0] 36 none) := by rw [xg.keep _ (by simp), HA.1]; rfl
  have f1 : ∀ X, (g.set (H.length + 1) X)[H.length + 1]? = some X := fun X => List.getElem?_set_self (lt_get g2)
  have o1 := hv.one1
  obtain ⟨A2, C2, e2⟩ := rz.form
  obtain ⟨A3, C3, e3⟩ := ri.form
  obtain ⟨A4, C4, e4⟩ := r7.form
  obtain ⟨A5, C5, e5⟩ := hv.form
  subst e2 e3 e4 e5
  simp (maxSteps := 2000000) (implicitDefEqProofs := false) [-getElem?_pos, -getElem?_neg, g1, g2, f1, splice_more, q2, q3, q4]
  have x2 : Ext H (g.set (H.length + 1) (.cells [.slice A5 s.L.length C5, .int .i64 s.lk, .int .i64 s.uk, .slice A2 s.zs.length C2, .slice A3 s.init.length C3, .int .i64 s.each, .slice A4 s.r7.length C4] 36 none)) := ((Ext.app _ _).trans xg).set (by omega) _
  refine hK _ _ x2 ⟨⟨_, _, _, _, rfl, ?_, rz.ext x2, ri.ext x2, r7.ext x2⟩, r.ks, r.ws, r.rs⟩
  refine (hv.keep fun c hc _ => ?_).arg
  have := hn c hc
  simp at this
  rw [List.getElem?_set_ne (by omega)]

set_option maxHeartbeats 4000000 in
theorem r10right_ (irr : IRR) {H : AH} {v : Value} {s : Sp} (r : SpV H v s) (n : Int) {K : Value → AH → Prop} (hK : ∀ b : Bool, (b = true ↔ OkX s n) → K (.bool b) H) : AC Try.prog 6 [v, .int .i64 n] H K := by
  refine AC.clean ?_
  refine entry hmix cf6 ?_
  obtain ⟨vL, vz, vi, v7, rfl, rL, rz, ri, r7⟩ := r.v
  obtain ⟨A3, C3, e3⟩ := ri.form
  obtain ⟨A4, C4, e4⟩ := r7.form
  obtain ⟨A1, C1, e1⟩ := rL.form
  subst e1 e3 e4
  simp (maxSteps := 2000000) (implicitDefEqProofs := false) [-getElem?_pos, -getElem?_neg]
  refine r9cells_ (rz.ext (Ext.app _ _)) r.lz (fun bad g xg => ?_) (fun ok g v' xg hv hn => ?_)
  · obtain ⟨E, hE⟩ := ((Ext.app _ _).trans xg : Ext H g).out
    simp (maxSteps := 2000000) (implicitDefEqProofs := false) [-getElem?_pos, -getElem?_neg]
    exact ⟨⟨E, hE⟩, hK false (by simp; exact fun o => bad ⟨o.mem.few, o.mem.rng⟩)⟩
  have xH : Ext H g := (Ext.app _ _).trans xg
  obtain ⟨E, hE⟩ := xH.out
  have hK : ∀ b : Bool, (b = true ↔ OkX s n) → (∃ E, g = H ++ E) ∧ K (.bool b) H := fun b h => ⟨⟨E, hE⟩, hK b h⟩
  have no : ¬ OkX s n → (∃ E, g = H ++ E) ∧ K (.bool false) H := fun h => hK false (by simpa using h)
  have g1 : g[H.length]? = some (.cells [.slice A1 s.L.length C1, .int .i64 s.lk, .int .i64 s.uk, vz, .slice A3 s.init.length C3, .int .i64 s.each, .slice A4 s.r7.length C4] 36 none) := by rw [xg.keep _ (by simp), HA.2.1]; rfl
  obtain ⟨A5, C5, e5⟩ := hv.form
  subst e5
  by_cases c1 : (s.zs.map Int.toNat).sum ≤ 8192
  case neg =>
    rw [decide_eq_false c1]
    simp (maxSteps := 2000000) (implicitDefEqProofs := false) [-getElem?_pos, -getElem?_neg]
    exact no fun o => c1 o.mem.most
  rw [decide_eq_true c1]
  by_cases c2 : (s.zs.map Int.toNat).sum = s.init.length
  case neg =>
    have c2' : ¬ (((s.zs.map Int.toNat).sum : Nat) : Int) = s.init.length := by omega
    simp (maxSteps := 2000000) (implicitDefEqProofs := false) [-getElem?_pos, -getElem?_neg, g1, c2, c2']
    exact no fun o => c2 o.mem.all
  by_cases c3 : 1 ≤ n
  case neg =>
    simp (maxSteps := 2000000) (implicitDefEqProofs := false) [-getElem?_pos, -getElem?_neg, g1, c2, c3]
    exact no fun o => c3 o.n1.1
  by_cases c4 : n ≤ 64
  case neg =>
    simp (maxSteps := 2000000) (implicitDefEqProofs := false) [-getElem?_pos, -getElem?_neg, g1, c2, c3, c4]
    exact no fun o => c4 o.n1.2
  by_cases c5 : 0 ≤ s.each
  case neg =>
    simp (maxSteps := 2000000) (implicitDefEqProofs := false) [-getElem?_pos, -getElem?_neg, g1, c2, c3, c4, c5]
    exact no fun o => c5 o.each.1
  by_cases c6 : s.each ≤ 8
  case neg =>
    simp (maxSteps := 2000000) (implicitDefEqProofs := false) [-getElem?_pos, -getElem?_neg, g1, c2, c3, c4, c5, c6]
    exact no fun o => c6 o.each.2
  by_cases c7 : (s.r7.length : Int) = n
  case neg =>
    simp (maxSteps := 2000000) (implicitDefEqProofs := false) [-getElem?_pos, -getElem?_neg, g1, c2, c3, c4, c5, c6, c7]
    exact no fun o => c7 o.r7
  simp (maxSteps := 2000000) (implicitDefEqProofs := false) [-getElem?_pos, -getElem?_neg, g1, c2, c3, c4, c5, c6, c7]
  refine rcode_ irr r.ks (rL.ext xH) r.lL _ _ ?_
  cases cr : codeR rightI s.L s.lk s.uk with
  | false =>
    simp (maxSteps := 2000000) (implicitDefEqProofs := false) [-getElem?_pos, -getElem?_neg]
    exact no fun o => by have := o.code; rw [cr] at this; cases this
  | true =>
    simp (maxSteps := 2000000) (implicitDefEqProofs := false) [-getElem?_pos, -getElem?_neg]
    exact hK true (by simp; exact ⟨⟨c3, c4⟩, ⟨c5, c6⟩, ⟨ok.1, ok.2, c1, c2⟩, cr, c7⟩)

/-- The document's example. -/
def spA : Sp := ⟨[⟨20, 1, 0, 0, 0, 0, 1, 0⟩, ⟨13, 0, 0, 0, 0, 0, 1, 0⟩], 0, 0, [1], [7], 0, [0]⟩
theorem spA_ok : OkX spA 1 := ⟨⟨by decide, by decide⟩, ⟨by decide, by decide⟩, ⟨by decide, by decide, by decide, by decide⟩, by decide, rfl⟩

set_option maxHeartbeats 4000000 in
theorem awake10_ {H : AH} {K : Value → AH → Prop} (hK : ∀ g, Ext H g → K (.bool true) g) : AC Try.prog 8 [] H K := by
  refine entry hmix cf8 ?_
  simp (maxSteps := 2000000) (implicitDefEqProofs := false) [-getElem?_pos, -getElem?_neg, reps, splice_more]
  refine xnew_ (s := spA) ⟨⟨.slice (some ⟨H.length, 0, none⟩) 2 2, .slice (some ⟨H.length + 1, 0, none⟩) 1 1, .slice (some ⟨H.length + 2, 0, none⟩) 1 1, .slice (some ⟨H.length + 3, 0, none⟩) 1 1, rfl, ?_, ?_, ?_, ?_⟩, by decide, by decide, by decide, by decide, by decide⟩ 1 (fun h => absurd spA_ok h) (fun _ => ?_)
  · exact .row _ _ _ rfl (by rw [HA.2.1]; rfl) rfl
  · exact .row _ _ _ rfl (by rw [HA.1]; rfl) rfl
  · exact .row _ _ _ rfl (by rw [HA.1]; rfl) rfl
  · exact .row _ _ _ rfl (by rw [HA.1]; rfl) rfl
  intro g N xg r hN
  have xH : Ext H g := (Ext.app _ _).trans xg
  have e1 : ((1 : Int).toNat) = 1 := rfl
  rw [e1] at r
  simp (maxSteps := 2000000) (implicitDefEqProofs := false) [-getElem?_pos, -getElem?_neg]
  have ok0 : OkP (newE spA 1).pl := Px.newP_ok 1 0 (by omega) (by omega) (by omega)
  refine xbegin_ r 0 (by decide) false ?_
  have b1 : beginX (newE spA 1) 0 false = ((beginX (newE spA 1) 0 false).1, ⟨[], -1, -1, false, false, 0⟩) := by rfl
  have b2 : (beginX (newE spA 1) 0 false).1.pl = (newE spA 1).pl := rfl
  have b3 : (beginX (newE spA 1) 0 false).1.cs.length = 1 := rfl
  intro g2 vm r2 u2 hv2 hn2
  rw [b1]
  rw [b1] at r2
  rw [← b2] at ok0
  generalize hs1 : (beginX (newE spA 1) 0 false).1 = s1 at *
  obtain ⟨A1, L1, C1, e2⟩ := hv2.slice
  subst e2
  unfold outV
  simp (maxSteps := 2000000) (implicitDefEqProofs := false) [-getElem?_pos, -getElem?_neg]
  refine xstep_ r2 ok0 0 (by omega) false ?_
  intro g3 vm3 r3 u3 hv3 hn3
  obtain ⟨A2, L2, C2, e3⟩ := hv3.slice
  subst e3
  have st : (stepX opsP s1 0 false).2 = ⟨[], 1, 0, true, false, 0⟩ := by rw [← hs1]; rfl
  have sc : (stepX opsP s1 0 false).1.cs[0]? = some ⟨[0, 7, 0, 0, 0, 0, 0, 0], 1⟩ := by
    rw [← hs1]
    rfl
  rw [st]
  unfold outV
  simp (maxSteps := 2000000) (implicitDefEqProofs := false) [-getElem?_pos, -getElem?_neg, splice_more]
  refine xcore_ (r3.ext (Ext.app _ _)) 0 sc fun X => ?_
  simp only [Co.cs, w32, List.map_cons, List.map_nil, List.cons_append, List.nil_append]
  simp (maxSteps := 2000000) (implicitDefEqProofs := false) [-getElem?_pos, -getElem?_neg]
  have nH : ∀ c, c < H.length → c ∉ N.all := fun c hc hm => by
    have := hN c hm
    simp at this
    omega
  have x2 : Ext H g2 := ⟨Nat.le_trans xH.len u2.len, fun c hc => by rw [u2.keep c (Nat.lt_of_lt_of_le hc xH.len) (nH c hc), xH.keep c hc]⟩
  have x3 : Ext H g3 := ⟨Nat.le_trans x2.len u3.len, fun c hc => by rw [u3.keep c (Nat.lt_of_lt_of_le hc x2.len) (nH c hc), x2.keep c hc]⟩
  exact hK _ (x3.trans (Ext.app _ _))

end Ex
end Go.Proofs.Ytongllppbifiaaa

/- a step that stays, in plain Lean. -/
namespace Go.Proofs.Ytongllppbifiaaa
namespace Ex
open Go Abs Code
open Px (natV natV_length natV_get VecV nm u32w i64w PS poolB outG Own New newP pnewG OkP)
set_option linter.unusedVariables false
set_option linter.unusedSimpArgs false
set_option maxRecDepth 100000

theorem put_at {c : Co} {d x : Int} (hd : 0 ≤ d) (hx : 0 ≤ x) (hne : d ≠ x) (v : Nat) : (c.put d v).at x = c.at x := by
  unfold Co.put Co.at
  simp only
  rw [List.getElem?_set_ne (by omega)]
theorem put_put (c : Co) (d : Int) (v : Nat) : (c.put d v).put d v = c.put d v := by
  unfold Co.put
  simp

theorem accC_stays {c : Co} {i : In} {ws : List Nat} {a : Nat} {late : Bool} (h : (accC c i ws a late).stay = true) : accC c i ws a late = ⟨c.put i.d ((ws[a]?).getD 0), ws, false, true⟩ ∧ i.op ≠ 16 ∧ i.op ≠ 17 ∧ i.op ≠ 18 ∧ i.op ≠ 19 ∧ i.op ≠ 20 ∧ ¬ ((decide ((ws[a]?).getD 0 = c.at i.t)) = decide (i.k = 0)) ∧ (late = false ∨ i.to < 0) := by
  unfold accC at h ⊢
  simp only at h ⊢
  by_cases c1 : i.op = 16
  · rw [if_pos c1] at h; cases h
  rw [if_neg c1] at h ⊢
  by_cases c2 : i.op = 17
  · rw [if_pos c2] at h; cases h
  rw [if_neg c2] at h ⊢
  by_cases c3 : i.op = 18
  · rw [if_pos c3] at h; cases h
  rw [if_neg c3] at h ⊢
  by_cases c4 : i.op = 19
  · rw [if_pos c4] at h; split at h <;> cases h
  rw [if_neg c4] at h ⊢
  by_cases c5 : i.op = 20
  · rw [if_pos c5] at h; cases h
  rw [if_neg c5] at h ⊢
  by_cases c6 : (decide ((ws[a]?).getD 0 = c.at i.t)) = decide (i.k = 0)
  · rw [if_pos c6] at h; cases h
  rw [if_neg c6] at h ⊢
  by_cases c7 : late = false ∨ i.to < 0
  · rw [if_pos c7]
    exact ⟨rfl, c1, c2, c3, c4, c5, c6, c7⟩
  · rw [if_neg c7] at h; cases h

theorem accC_again {c : Co} {i : In} {ws : List Nat} {a : Nat} {late : Bool} (h : (accC c i ws a late).stay = true) (hd : 0 ≤ i.d) (ht : 0 ≤ i.t) (hne : i.d ≠ i.t) : accC (c.put i.d ((ws[a]?).getD 0)) i ws a late = ⟨c.put i.d ((ws[a]?).getD 0), ws, false, true⟩ := by
  obtain ⟨_, c1, c2, c3, c4, c5, c6, c7⟩ := accC_stays h
  unfold accC
  simp only
  rw [if_neg c1, if_neg c2, if_neg c3, if_neg c4, if_neg c5, put_at hd ht hne, if_neg c6, if_pos c7, put_put]

/-- What a step that stays leaves. -/
theorem stepX_stays {Pl : Type} {O : PoolOps Pl} {s : ES Pl} {t : Nat} {late : Bool} (h : (stepX O s t late).2.stay = true) : ∃ c i a, s.cs[t]? = some c ∧ fetch s.L c.pc = some i ∧
    stepX O s t late = ({ s with cs := s.cs.set t (c.put i.d ((s.ws[a]?).getD 0)) }, ⟨[], -1, (a : Nat), false, true, 0⟩) ∧
    (0 ≤ i.d → 0 ≤ i.s → 0 ≤ i.t → i.d ≠ i.s → i.d ≠ i.t → stepX O { s with cs := s.cs.set t (c.put i.d ((s.ws[a]?).getD 0)) } t late = ({ s with cs := s.cs.set t (c.put i.d ((s.ws[a]?).getD 0)) }, ⟨[], -1, (a : Nat), false, true, 0⟩)) := by
  cases hc : s.cs[t]? with
  | none => unfold stepX at h; rw [hc] at h; cases h
  | some c =>
    cases hf : fetch s.L c.pc with
    | none => unfold stepX at h; rw [hc] at h; simp only [hf] at h; cases h
    | some i =>
      by_cases c1 : i.op < 16
      · unfold stepX at h; rw [hc] at h; simp only [hf, if_pos c1] at h; cases h
      by_cases c2 : i.op = 22
      · unfold stepX at h; rw [hc] at h; simp only [hf, if_neg c1, if_pos c2] at h; cases h
      by_cases c3 : i.op = 23
      · unfold stepX at h; rw [hc] at h; simp only [hf, if_neg c1, if_neg c2, if_pos c3] at h; split at h <;> cases h
      cases ha : addrM s.ns i.a (c.at i.s) with
      | none => unfold stepX at h; rw [hc] at h; simp only [hf, if_neg c1, if_neg c2, if_neg c3, ha] at h; cases h
      | some a =>
        have hst : (accC c i s.ws a late).stay = true := by
          unfold stepX at h; rw [hc] at h; simp only [hf, if_neg c1, if_neg c2, if_neg c3, ha] at h
          split at h
          · assumption
          · cases h
        obtain ⟨e1, _⟩ := accC_stays hst
        refine ⟨c, i, a, rfl, hf, ?_, fun hd hs ht n1 n2 => ?_⟩
        · unfold stepX
          rw [hc]
          simp only [hf, if_neg c1, if_neg c2, if_neg c3, ha, e1, if_true]
        · have hlt : t < s.cs.length := (List.getElem?_eq_some_iff.1 hc).1
          have e2 := accC_again hst hd ht n2
          have e3 : (s.cs.set t (c.put i.d ((s.ws[a]?).getD 0)))[t]? = some (c.put i.d ((s.ws[a]?).getD 0)) := List.getElem?_set_self hlt
          have e4 : fetch s.L (c.put i.d ((s.ws[a]?).getD 0)).pc = some i := hf
          unfold stepX
          simp only [e3, e4, if_neg c1, if_neg c2, if_neg c3, put_at hd hs n1, ha, e2, if_true, List.set_set]

end Ex
end Go.Proofs.Ytongllppbifiaaa
