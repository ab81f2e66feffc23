/- ExecStays: a step that stays, in the law. -/
import Derived.Test.YtongllppbifiaaaEx31
namespace Go.Proofs.Ytongllppbifiaaa
namespace Ex
open Go Abs Code
open Px (natV natV_length natV_get VecV nm u32w i64w PS poolB outG Own New newP pnewG OkP)
attribute [local simp] DN5 HA DN NB begT atHead kd wantedA evP evR evF evL evC evI evBin evUn evEq evSt evRes plain scp scpA scpL rdRow_eq RV rdCells veq veqA veqL isHole Value.cells evalL optI evBounds evFill evFillR evApp newsOf wrCells one1 fitsApp evClr undef onB_bool List.getElem?_concat_length List.getElem?_cons_zero List.getElem?_cons_succ List.getElem?_toArray List.getElem?_nil List.set_cons_zero List.set_cons_succ List.cons_append List.nil_append
set_option linter.unusedVariables false
set_option linter.unusedSimpArgs false
set_option maxRecDepth 100000

/-- A call. -/
structure LOp where
  kind : Int
  t : Int
  late : Bool
def LOp.vs (o : LOp) : List Value := [.int .i64 o.kind, .int .i64 o.t, .bool o.late]
def rowO (l : List LOp) : List Value := l.flatMap LOp.vs
theorem rowO_length (l : List LOp) : (rowO l).length = l.length * 3 := by
  induction l with
  | nil => rfl
  | cons o l ih => simp [rowO, LOp.vs] at ih ⊢; omega
theorem rowO_at {l : List LOp} {k : Nat} {o : LOp} (h : l[k]? = some o) : ((rowO l).drop (k * 3)).take 3 = o.vs := by
  induction l generalizing k with
  | nil => simp at h
  | cons q l ih =>
    cases k with
    | zero => simp at h; subst h; rfl
    | succ k =>
      rw [show (k + 1) * 3 = k * 3 + 3 by omega]
      exact ih (by simpa using h)

theorem goOn_same {Pl : Type} (s : ES Pl) (t : Nat) (c : Co) (a : Int) (w : Bool) : (goOn s t c a w).1.L = s.L ∧ (goOn s t c a w).1.cs.length = s.cs.length ∧ (goOn s t c a w).1.pl = s.pl ∧ (goOn s t c a w).1.ws = s.ws := ⟨rfl, by simp [goOn], rfl, rfl⟩
theorem beginX_same {Pl : Type} (s : ES Pl) (t : Nat) (u : Bool) : (beginX s t u).1.L = s.L ∧ (beginX s t u).1.cs.length = s.cs.length ∧ (beginX s t u).1.pl = s.pl := by
  unfold beginX
  split
  · exact ⟨rfl, by simp [goOn], rfl⟩
  · exact ⟨rfl, rfl, rfl⟩
/-- A pool that has one of the document's beside it. -/
def okPl (p : PS) : Prop := ∃ x, Px.Sim p x ∧ OkP p
theorem okPl.take {p : PS} (h : okPl p) (t : Int) : okPl (Px.takeS p t) := by
  obtain ⟨x, s, ok⟩ := h
  obtain ⟨s2, ok2⟩ := s.take ok t
  exact ⟨_, s2, ok2⟩
theorem okPl.free {p : PS} (h : okPl p) (y : Nat) : okPl (Px.freeS p y) := by
  obtain ⟨x, s, ok⟩ := h
  obtain ⟨s2, ok2⟩ := s.free' ok y
  exact ⟨_, s2, ok2⟩
theorem okPl.ok {p : PS} (h : okPl p) : OkP p := h.choose_spec.2

theorem stepX_same {s : ES PS} (ok : okPl s.pl) (t : Nat) (late : Bool) : (stepX opsP s t late).1.L = s.L ∧ (stepX opsP s t late).1.cs.length = s.cs.length ∧ okPl (stepX opsP s t late).1.pl := by
  unfold stepX
  cases s.cs[t]? with
  | none => exact ⟨rfl, rfl, ok⟩
  | some c =>
    simp only
    cases fetch s.L c.pc with
    | none => exact ⟨rfl, rfl, ok⟩
    | some i =>
      simp only
      by_cases c1 : i.op < 16
      · rw [if_pos c1]; exact ⟨rfl, rfl, ok⟩
      rw [if_neg c1]
      by_cases c2 : i.op = 22
      · rw [if_pos c2]; exact ⟨rfl, by simp [goOn], ok.take t⟩
      rw [if_neg c2]
      by_cases c3 : i.op = 23
      · rw [if_pos c3]
        split
        · exact ⟨rfl, by simp [goOn], ok.free _⟩
        · exact ⟨rfl, rfl, ok⟩
      rw [if_neg c3]
      cases addrM s.ns i.a (c.at i.s) with
      | none => exact ⟨rfl, rfl, ok⟩
      | some a =>
        simp only
        split
        · exact ⟨rfl, by simp, ok⟩
        · exact ⟨rfl, by simp [goOn], ok⟩

theorem intsL_refl : ∀ (l : List Value), (∀ v ∈ l, ∃ k n, v = Value.int k n) → intsL l l ∧ eqL l l = true
  | [], _ => ⟨trivial, rfl⟩
  | v :: l, h => by
    obtain ⟨k, n, rfl⟩ := h v List.mem_cons_self
    obtain ⟨h1, h2⟩ := intsL_refl l fun x hx => h x (List.mem_cons_of_mem _ hx)
    exact ⟨⟨rfl, h1⟩, by simp [eqL, h2]⟩
theorem cs_ints (c : Co) : ∀ v ∈ c.cs, ∃ k n, v = Value.int k n := by
  intro v hv
  unfold Co.cs w32 at hv
  rcases List.mem_append.1 hv with hv | hv
  · obtain ⟨n, _, rfl⟩ := List.mem_map.1 hv
    exact ⟨_, _, rfl⟩
  · simp at hv
    exact ⟨_, _, hv⟩
theorem cs_plain (c : Co) : scpL nil c.cs = true := by
  rw [scpL_all, List.all_eq_true]
  intro v hv
  obtain ⟨k, n, rfl⟩ := cs_ints c v hv
  rfl
theorem veqL_ints : ∀ (l : List Value), (∀ v ∈ l, ∃ k n, v = Value.int k n) → veqL l l = true
  | [], _ => rfl
  | v :: l, h => by
    obtain ⟨k, n, rfl⟩ := h v List.mem_cons_self
    simp [veqL, veq, veqL_ints l fun x hx => h x (List.mem_cons_of_mem _ hx)]
theorem geqCo (c : Co) (h : c.r.length = 8) : ∀ x y : Operand, (pureVal Try.prog do
    eqGuard .neq 52 x y (.agg c.cs.toArray) (.agg c.cs.toArray)
    binOp .neq 52 (.agg c.cs.toArray) (.agg c.cs.toArray)) = some (.bool false) := fun x y => by
  obtain ⟨h1, h2⟩ := intsL_refl c.cs (cs_ints c)
  have := geqF (P := Try.prog) (t := 52) (n := 9) (m := 9) (by kernel_rfl) (by kernel_rfl) (by kernel_rfl) (.inr rfl) x y c.cs c.cs (cs_length h) (cs_length h) h1
  rw [h2] at this
  exact this

structure SS where
  k : Nat
  g : AH
  e : ES PS
structure SI (G : AH) (N : Nm) (L : List In) (n : Nat) (ops : List LOp) (s : SS) : Prop where
  k : s.k ≤ ops.length
  at' : XAt s.g N s.e
  ok : okPl s.e.pl
  up : Upd N.all G N.all s.g
  L : s.e.L = L
  n : s.e.cs.length = n
def ssT (x2 nx n : Nat) (vl : Value) (m : Nat) (s : SS) : List (Nat × Value) := [(2, .pointer (some ⟨x2, 0, none⟩)), (5, .int .i64 n), (6, .pointer (some ⟨nx, 0, none⟩)), (48, vl), (49, .int .i64 m), (50, .int .i64 s.k)]

theorem upd_ext {N : List Nat} {G g : AH} (u : Upd N G N g) (tl : AH) : Upd N G N (g ++ tl) := u.trans (Upd.app _ _ _)

set_option maxHeartbeats 8000000 in
theorem stays_ (irr : IRR) {H : AH} {v : Value} {s : Sp} (r : SpR H v s) {vl : Value} {ops : List LOp} (ro : ArgRow H vl (rowO ops) ops.length) {K : Value → AH → Prop} (hK : ∀ g, Ext H g → K (.bool true) g) : AC Try.prog 3 [v, vl] H K := by
  refine entry hmix cf3 ?_
  obtain ⟨vL, vz, vi, v7, rfl, rL, rz, ri, r7⟩ := r.v
  obtain ⟨A1, C1, e1⟩ := rL.form
  obtain ⟨A7, C7, e7⟩ := r7.form
  obtain ⟨Ao, Co, eo⟩ := ro.form
  subst e1 e7 eo
  simp (maxSteps := 2000000) (implicitDefEqProofs := false) [-getElem?_pos, -getElem?_neg]
  refine small_ (r.ext (Ext.app _ _)) ?_
  obtain ⟨bx, hbx⟩ : ∃ bx : ABlk, bx = .cells [.slice A1 s.L.length C1, .int .i64 s.lk, .int .i64 s.uk, vz, vi, .int .i64 s.each, .slice A7 s.r7.length C7] 28 none := ⟨_, rfl⟩
  rw [← hbx]
  cases hsm : smallS s with
  | false =>
    simp (maxSteps := 2000000) (implicitDefEqProofs := false) [-getElem?_pos, -getElem?_neg]
    refine awake10_ fun g xg => ?_
    simp (maxSteps := 2000000) (implicitDefEqProofs := false) [-getElem?_pos, -getElem?_neg]
    exact hK _ ((Ext.app _ _).trans xg)
  | true =>
    unfold smallS at hsm
    simp only [decide_eq_true_eq] at hsm
    by_cases c1 : 60 < ops.length
    · have c1' : (60 : Int) < ops.length := by omega
      simp (maxSteps := 2000000) (implicitDefEqProofs := false) [-getElem?_pos, -getElem?_neg, c1, c1']
      refine awake10_ fun g xg => ?_
      simp (maxSteps := 2000000) (implicitDefEqProofs := false) [-getElem?_pos, -getElem?_neg]
      exact hK _ ((Ext.app _ _).trans xg)
    have c1' : ¬ (60 : Int) < ops.length := by omega
    rw [hbx]
    simp (maxSteps := 2000000) (implicitDefEqProofs := false) [-getElem?_pos, -getElem?_neg, c1, c1']
    rw [← hbx]
    refine lref_ (r.ext (Ext.app _ _)) (by omega) fun g v' xg r' => ?_
    simp (maxSteps := 2000000) (implicitDefEqProofs := false) [-getElem?_pos, -getElem?_neg]
    refine r10right_ irr (r'.full (by omega) (by omega)) _ fun b hb => ?_
    cases b with
    | false =>
      simp (maxSteps := 2000000) (implicitDefEqProofs := false) [-getElem?_pos, -getElem?_neg]
      refine awake10_ fun g2 xg2 => ?_
      simp (maxSteps := 2000000) (implicitDefEqProofs := false) [-getElem?_pos, -getElem?_neg]
      exact hK _ ((Ext.app _ _).trans (xg.trans xg2))
    | true =>
      have okx := hb.1 rfl
      have g1 : g[H.length]? = some bx := by rw [xg.keep _ (by simp), HA.2.1]; rfl
      rw [hbx] at g1
      simp (maxSteps := 2000000) (implicitDefEqProofs := false) [-getElem?_pos, -getElem?_neg, g1]
      refine xnew_ ((r.ext ((Ext.app _ _).trans xg)).full (by omega) (by omega)) _ (fun h => absurd okx h) (fun _ => ?_)
      intro G N xG rX hN
      have hn1 := okx.n1
      have hn7 := okx.r7
      have e0 : ((s.r7.length : Int)).toNat = s.r7.length := by omega
      rw [e0] at rX
      have okp : okPl (newE s s.r7.length).pl := ⟨_, Px.Sim.new (by omega) (by have := okx.each; omega), Px.newP_ok _ _ (by omega) (by omega) (by have := okx.each; omega)⟩
      have xHg : Ext H g := (Ext.app _ _).trans xg
      have hlg : H.length < g.length := lt_get g1
      have hNH : ∀ c, c < g.length → c ∉ N.all := fun c hc hm => by have := hN c hm; omega
      simp (maxSteps := 2000000) (implicitDefEqProofs := false) [-getElem?_pos, -getElem?_neg]
      have key := fun T0 Q e1 e2 hr => loop5 (P := Try.prog) (m := H.length) hmix (ac := lp3_0) 189 (SI G N s.L s.r7.length ops) (fun q => ops.length - q.k) (ssT H.length N.x s.r7.length (.slice Ao ops.length Co) ops.length) (fun q => q.g) ⟨0, G, newE s s.r7.length⟩ ⟨Nat.zero_le _, rX, okp, Upd.refl _ _, rfl, by simp [newE]⟩ rfl (t := T0) (Q := Q) e1 e2 hr
      refine key _ _ rfl (by simp [List.forall_mem_cons, GB, ssT]) ?_
      clear key
      rintro ⟨k, q, e⟩ ⟨hk, rq, okq, uq, eL, en⟩ _ _ _
      simp only at hk rq okq uq eL en
      have xq : Ext H q := ⟨Nat.le_trans xHg.len (Nat.le_trans xG.len uq.len), fun c hc => by rw [uq.keep c (by have := xHg.len; have := xG.len; omega) (hNH c (by have := xHg.len; omega)), xG.keep c (by have := xHg.len; omega), xHg.keep c hc]⟩
      have qx : ∀ tl, (q ++ tl)[H.length]? = _ := fun tl => getA (by rw [uq.keep _ (by have := xG.len; omega) (hNH _ hlg), xG.keep _ hlg]; exact g1) tl
      by_cases hlt : k < ops.length
      case neg =>
        obtain rfl : k = ops.length := by omega
        simp (maxSteps := 2000000) (implicitDefEqProofs := false) [-getElem?_pos, -getElem?_neg, ssT, lp3_0]
        refine awake10_ fun g2 xg2 => ?_
        simp (maxSteps := 2000000) (implicitDefEqProofs := false) [-getElem?_pos, -getElem?_neg]
        exact hK _ (xq.trans xg2)
      have hlt' : (k : Int) < ops.length := by omega
      cases ro with
      | none h1 h2 h3 => omega
      | row bo cap X h1 h2 hX =>
        obtain ⟨rfl, rfl⟩ : Ao = some ⟨bo, 0, none⟩ ∧ Co = cap := by simpa using h1
        have hbo : ∀ tl, (q ++ tl)[bo]? = some X := fun tl => getA (xq.get h2) tl
        have hbo0 := xq.get h2
        obtain ⟨⟨kq, t, late⟩, ho⟩ : ∃ o, ops[k]? = some o := ⟨_, List.getElem?_eq_getElem hlt⟩
        have hrd := rowO_at ho
        unfold LOp.vs at hrd
        simp only at hrd
        have hfit : k * 3 + 3 ≤ (rowO ops).length := by rw [rowO_length]; omega
        have w2 : IntKind.i64.wrap ((k : Int) + 1) = (k : Int) + 1 := IntWalk.i64_in _ (by omega)
        by_cases c2 : t < 0
        · simp (maxSteps := 2000000) (implicitDefEqProofs := false) [-getElem?_pos, -getElem?_neg, ssT, lp3_0, hlt, hlt', hbo0, hX, hrd, hfit, splice_more, c2, w2]
          exact next5.intro ⟨k + 1, _, e⟩ (by simp only; omega) ⟨by simp only; omega, rq.ext (Ext.app _ _), okq, upd_ext uq _, eL, en⟩ rfl rfl (by simp [List.forall_mem_cons, GB, ssT])
        by_cases c3 : (s.r7.length : Int) ≤ t
        · simp (maxSteps := 2000000) (implicitDefEqProofs := false) [-getElem?_pos, -getElem?_neg, ssT, lp3_0, hlt, hlt', hbo0, hX, hrd, hfit, splice_more, c2, c3, w2]
          exact next5.intro ⟨k + 1, _, e⟩ (by simp only; omega) ⟨by simp only; omega, rq.ext (Ext.app _ _), okq, upd_ext uq _, eL, en⟩ rfl rfl (by simp [List.forall_mem_cons, GB, ssT])
        obtain ⟨tn, rfl⟩ : ∃ tn : Nat, t = tn := ⟨t.toNat, by omega⟩
        have htn : tn < e.cs.length := by omega
        have begin : ∀ (u : Bool), (∀ g2, XAt g2 N (beginX e tn u).1 → Upd N.all (q ++ [.cells [.int .i64 kq, .int .i64 (tn : Int), .bool late] 44 none]) N.all g2 → SI G N s.L s.r7.length ops ⟨k + 1, g2, (beginX e tn u).1⟩) := by
          intro u g2 r2 u2
          obtain ⟨s1, s2, s3⟩ := beginX_same e tn u
          exact ⟨by simp only; omega, r2, by rw [s3]; exact okq, uq.trans ((Upd.app _ _ _).trans u2), by simp only; rw [s1]; exact eL, by simp only; rw [s2]; exact en⟩
        by_cases c4 : kq = 1
        · subst c4
          simp (maxSteps := 2000000) (implicitDefEqProofs := false) [-getElem?_pos, -getElem?_neg, ssT, lp3_0, hlt, hlt', hbo0, hX, hrd, hfit, splice_more, c2, c3]
          refine xbegin_ (rq.ext (Ext.app _ _)) tn htn false fun g2 vm r2 u2 hv2 hn2 => ?_
          simp (maxSteps := 2000000) (implicitDefEqProofs := false) [-getElem?_pos, -getElem?_neg, w2]
          exact next5.intro ⟨k + 1, g2, _⟩ (by simp only; omega) (begin false g2 r2 u2) rfl rfl (by simp [List.forall_mem_cons, GB, ssT])
        by_cases c5 : kq = 2
        · subst c5
          simp (maxSteps := 2000000) (implicitDefEqProofs := false) [-getElem?_pos, -getElem?_neg, ssT, lp3_0, hlt, hlt', hbo0, hX, hrd, hfit, splice_more, c2, c3]
          refine xbegin_ (rq.ext (Ext.app _ _)) tn htn true fun g2 vm r2 u2 hv2 hn2 => ?_
          simp (maxSteps := 2000000) (implicitDefEqProofs := false) [-getElem?_pos, -getElem?_neg, w2]
          exact next5.intro ⟨k + 1, g2, _⟩ (by simp only; omega) (begin true g2 r2 u2) rfl rfl (by simp [List.forall_mem_cons, GB, ssT])
        have rq2 := rq.ext (Ext.app q [.cells [.int .i64 kq, .int .i64 (tn : Int), .bool late] 44 none])
        simp (maxSteps := 2000000) (implicitDefEqProofs := false) [-getElem?_pos, -getElem?_neg, ssT, lp3_0, hlt, hlt', hbo0, hX, hrd, hfit, splice_more, c2, c3, c4, c5]
        refine xwords_ rq2 ?_
        have f1 : ∀ tl, ((q ++ [ABlk.cells [.int .i64 kq, .int .i64 (tn : Int), .bool late] 44 none]) ++ tl)[q.length]? = some (.cells [.int .i64 kq, .int .i64 (tn : Int), .bool late] 44 none) := fun tl => by rw [List.append_assoc, HA.2.1]; rfl
        simp (maxSteps := 2000000) (implicitDefEqProofs := false) [-getElem?_pos, -getElem?_neg]
        obtain ⟨g1', hg1⟩ : ∃ g1', g1' = q ++ [ABlk.cells [.int .i64 kq, .int .i64 (tn : Int), .bool late] 44 none, .cells (w32 e.ws) 49 none] := ⟨_, rfl⟩
        rw [← hg1]
        have rq3 : XAt g1' N e := by rw [hg1]; exact rq.ext (Ext.app _ _)
        have uq3 : Upd N.all G N.all g1' := by rw [hg1]; exact upd_ext uq _
        have go : g1'[q.length]? = some (.cells [.int .i64 kq, .int .i64 (tn : Int), .bool late] 44 none) := by rw [hg1, HA.2.1]; rfl
        have gw : g1'[q.length + 1]? = some (.cells (w32 e.ws) 49 none) := by rw [hg1, HA.1]; rfl
        have hnq : ∀ c, q.length ≤ c → c ∉ N.all := fun c hc hm => by have := rq.lt c hm; omega
        refine xstep_ rq3 okq.ok tn htn late fun g2 vm r2 u2 hv2 hn2 => ?_
        obtain ⟨z1, z2, z3⟩ := stepX_same okq tn late
        have u2' : Upd N.all G N.all g2 := uq3.trans u2
        have hl1 : g1'.length = q.length + 2 := by rw [hg1]; simp
        obtain ⟨A9, L9, C9, e9⟩ := hv2.slice
        subst e9
        have stepSI : ∀ tl, SI G N s.L s.r7.length ops ⟨k + 1, g2 ++ tl, (stepX opsP e tn late).1⟩ := fun tl => ⟨by simp only; omega, r2.ext (Ext.app _ _), z3, upd_ext u2' _, by simp only; rw [z1]; exact eL, by simp only; rw [z2]; exact en⟩
        cases hst : (stepX opsP e tn late).2.stay with
        | false =>
          unfold outV
          simp (maxSteps := 2000000) (implicitDefEqProofs := false) [-getElem?_pos, -getElem?_neg, splice_more, hst, w2]
          exact next5.intro ⟨k + 1, _, _⟩ (by simp only; omega) (stepSI _) rfl rfl (by simp [List.forall_mem_cons, GB, ssT])
        | true =>
          obtain ⟨c, i, a, hc, hf, heq, hagain⟩ := stepX_stays hst
          obtain ⟨e', he'⟩ : ∃ e' : ES PS, e' = { e with cs := e.cs.set tn (c.put i.d ((e.ws[a]?).getD 0)) } := ⟨_, rfl⟩
          rw [← he'] at heq hagain
          have z3' : okPl e'.pl := by rw [heq] at z3; exact z3
          have stepSI' : ∀ g3, XAt g3 N e' → Upd N.all G N.all g3 → SI G N s.L s.r7.length ops ⟨k + 1, g3, e'⟩ := fun g3 r3 u3 => ⟨by simp only; omega, r3, z3', u3, by simp only; rw [he']; exact eL, by simp only; rw [he']; simpa using en⟩
          rw [heq] at r2 hv2 ⊢
          simp only at r2 hv2
          have hvn : Value.slice A9 L9 C9 = .slice none 0 0 := by
            cases hv2 with
            | nil h1 h2 => exact h2
            | row b h1 h2 h3 => exact absurd rfl h1
          rw [hvn]
          clear hv2 hn2 hvn
          unfold outV
          simp (maxSteps := 2000000) (implicitDefEqProofs := false) [-getElem?_pos, -getElem?_neg, splice_more]
          refine xwords_ (r2.ext (Ext.app _ _)) ?_
          have hws : e'.ws = e.ws := by rw [he']
          rw [hws]
          simp (maxSteps := 2000000) (implicitDefEqProofs := false) [-getElem?_pos, -getElem?_neg]
          have k0 : ∀ c, c < g1'.length → q.length ≤ c → g2[c]? = g1'[c]? := fun c h1 h2 => u2.keep c h1 (hnq c h2)
          have go2 : ∀ tl, (g2 ++ tl)[q.length]? = _ := fun tl => getA (by rw [k0 _ (by omega) (Nat.le_refl _)]; exact go) tl
          have gw2 : ∀ tl, (g2 ++ tl)[q.length + 1]? = _ := fun tl => getA (by rw [k0 _ (by omega) (by omega)]; exact gw) tl
          obtain ⟨g3, hg3⟩ : ∃ g3, g3 = g2 ++ [ABlk.cells [.slice none 0 0, .int .i64 (-1), .int .i64 (a : Int), .bool false, .bool true, .int .i64 0] 46 none, .cells (w32 e.ws) 49 none] := ⟨_, rfl⟩
          rw [← hg3]
          have r3 : XAt g3 N e' := by rw [hg3]; exact r2.ext (Ext.app _ _)
          have u3 : Upd N.all G N.all g3 := by rw [hg3]; exact upd_ext u2' _
          have go3 : ∀ tl, (g3 ++ tl)[q.length]? = some (.cells [.int .i64 kq, .int .i64 (tn : Int), .bool late] 44 none) := fun tl => by rw [hg3, List.append_assoc]; exact go2 _
          have gw3 : g3[q.length + 1]? = some (.cells (w32 e.ws) 49 none) := by rw [hg3]; exact gw2 _
          have gv3 : g3[g2.length + 1]? = some (.cells (w32 e.ws) 49 none) := by rw [hg3, HA.1]; simp
          have gt3 : ∀ tl, (g3 ++ tl)[g2.length]? = some (.cells [.slice none 0 0, .int .i64 (-1), .int .i64 (a : Int), .bool false, .bool true, .int .i64 0] 46 none) := fun tl => by rw [hg3, List.append_assoc, HA.2.1]; rfl
          have hl3 : g3.length = g2.length + 2 := by rw [hg3]; simp
          have key := fun T0 Q e1 e2 hr => loop5 (P := Try.prog) (m := H.length) hmix (ac := lp3_1) 189 (fun j : Nat => j ≤ e.ws.length) (fun j => e.ws.length - j) (fun j => [(2, .pointer (some ⟨H.length, 0, none⟩)), (5, .int .i64 s.r7.length), (6, .pointer (some ⟨N.x, 0, none⟩)), (9, .pointer (some ⟨q.length, 0, none⟩)), (10, .slice (some ⟨q.length + 1, 0, none⟩) e.ws.length e.ws.length), (11, .pointer (some ⟨g2.length, 0, none⟩)), (48, .slice (some ⟨bo, 0, none⟩) ops.length Co), (49, .int .i64 ops.length), (50, .int .i64 k), (108, .slice (some ⟨g2.length + 1, 0, none⟩) e.ws.length e.ws.length), (109, .int .i64 e.ws.length), (110, .int .i64 (j : Nat))]) (fun _ => g3) 0 (Nat.zero_le _) rfl (t := T0) (Q := Q) e1 e2 hr
          refine key _ _ rfl (by simp [List.forall_mem_cons, GB]) ?_
          clear key
          intro j hj _ _ _
          by_cases hjl : j < e.ws.length
          · have hjl' : (j : Int) < e.ws.length := by omega
            obtain ⟨x, hx⟩ : ∃ x, e.ws[j]? = some x := ⟨_, List.getElem?_eq_getElem hjl⟩
            have hxx : (w32 e.ws)[j]? = some (.int .u32 (x : Int)) := by rw [w32_get, hx]; rfl
            have hfj : j + 1 ≤ (w32 e.ws).length := by rw [w32_length]; omega
            have hwl : e.ws.length ≤ 40000 := by
              have := sum_take_le e.ns rq.mem.ok.small e.ns.length
              rw [List.take_length] at this
              have := rq.mem.ok.few
              have := rq.ok.sum
              omega
            have wj : IntKind.i64.wrap ((j : Int) + 1) = (j : Int) + 1 := IntWalk.i64_in _ (by omega)
            have hj0 : ¬ (e.ws.length : Int) ≤ j := by omega
            simp (maxSteps := 2000000) (implicitDefEqProofs := false) [-getElem?_pos, -getElem?_neg, lp3_1, hjl, hjl', gw3, gv3, hxx, hfj, hj0, wj]
            exact next5.intro (j + 1) (by omega) (by omega) rfl rfl (by simp [List.forall_mem_cons, GB])
          obtain rfl : j = e.ws.length := by omega
          have hc' : e'.cs[tn]? = some (c.put i.d ((e.ws[a]?).getD 0)) := by rw [he']; exact List.getElem?_set_self htn
          have go3' := go3 []
          rw [List.append_nil] at go3'
          simp (maxSteps := 2000000) (implicitDefEqProofs := false) [-getElem?_pos, -getElem?_neg, lp3_1, go3']
          refine xcore_ r3 tn hc' fun X => ?_
          have c'ok := r3.ok.cores _ (List.mem_of_getElem? hc')
          have cl9 := cs_length c'ok.len
          have clt := cs_take c'ok.len
          have cl1 := cs_one (c.put i.d ((e.ws[a]?).getD 0))
          have clp := cs_pc c'ok.len
          have cls : splice zero9 0 (c.put i.d ((e.ws[a]?).getD 0)).cs = (c.put i.d ((e.ws[a]?).getD 0)).cs := cs_splice c'ok.len rfl
          have cpc : (c.put i.d ((e.ws[a]?).getD 0)).pc = c.pc := rfl
          rw [cpc] at clp
          have clg := geqCo (c.put i.d ((e.ws[a]?).getD 0)) c'ok.len
          have cvq := veqL_ints _ (cs_ints (c.put i.d ((e.ws[a]?).getD 0)))
          have cpl := cs_plain (c.put i.d ((e.ws[a]?).getD 0))
          generalize hcl : (c.put i.d ((e.ws[a]?).getD 0)).cs = cl at cl9 clt cl1 clp cls clg cpl cvq ⊢
          have hq3 : ∀ tl, (g3 ++ tl)[H.length]? = some (.cells [.slice A1 s.L.length C1, .int .i64 s.lk, .int .i64 s.uk, vz, vi, .int .i64 s.each, .slice A7 s.r7.length C7] 28 none) := fun tl => getA (by rw [u3.keep _ (by have := xG.len; omega) (hNH _ hlg), xG.keep _ hlg]; exact g1) tl
          obtain ⟨hp0, hpL⟩ : 0 ≤ c.pc ∧ s.L[c.pc.toNat]? = some i := by
            unfold fetch at hf
            split at hf
            · cases hf
            · rw [eL] at hf; exact ⟨by omega, hf⟩
          obtain ⟨pn, hpn⟩ : ∃ pn : Nat, c.pc = pn := ⟨c.pc.toNat, by omega⟩
          rw [hpn] at clp hpL
          simp only [Int.toNat_natCast] at hpL
          have hpl : pn < s.L.length := (List.getElem?_eq_some_iff.1 hpL).1
          have p1 : ¬ (pn : Int) < 0 := by omega
          have p2 : ¬ (s.L.length : Int) ≤ pn := by omega
          have p3 : (pn : Int) < s.L.length := by omega
          have p4 : ¬ s.L.length ≤ pn := by omega
          have iok := r3.ok.ins i (by rw [he']; exact List.mem_of_getElem? (by rw [eL]; exact hpL))
          have hrdI := rowI_at hpL
          have hfitI : pn * 8 + 8 ≤ (rowI s.L).length := by rw [rowI_length]; omega
          cases rL with
          | none h1 h2 h3 => omega
          | row bl capl XL hl1' hl2 hl3' =>
            obtain ⟨rfl, rfl⟩ : A1 = some ⟨bl, 0, none⟩ ∧ C1 = capl := by simpa using hl1'
            have hbl : ∀ tl, (g3 ++ tl)[bl]? = some XL := fun tl => getA (by rw [u3.keep _ (by have := lt_get hl2; have := xHg.len; have := xG.len; omega) (hNH _ (by have := lt_get hl2; have := xHg.len; omega)), xG.keep _ (by have := lt_get hl2; have := xHg.len; omega), xHg.keep _ (lt_get hl2)]; exact hl2) tl
            unfold In.vs at hrdI
            by_cases n1 : i.d = i.s
            · have n1b : (i.d == i.s) = true := by rw [n1]; simp
              clear hagain
              generalize i.d = zd at *
              generalize i.s = zs' at *
              simp (maxSteps := 2000000) (implicitDefEqProofs := false) [-getElem?_pos, -getElem?_neg, cls, cl9, clt, cl1, clp, hq3, p1, p2, p3, p4, hpl, hbl, hl3', hrdI, hfitI, splice_more, n1b, w2]
              exact next5.intro ⟨k + 1, _, e'⟩ (by simp only; omega) (stepSI' _ (r3.ext (Ext.app _ _)) (upd_ext u3 _)) rfl rfl (by simp [List.forall_mem_cons, GB, ssT])
            by_cases n2 : i.d = i.t
            · have n2b : (i.d == i.t) = true := by rw [n2]; simp
              have n1b : (i.d == i.s) = false := by simpa using n1
              clear hagain
              generalize i.d = zd at *
              generalize i.s = zs' at *
              simp (maxSteps := 2000000) (implicitDefEqProofs := false) [-getElem?_pos, -getElem?_neg, cls, cl9, clt, cl1, clp, hq3, p1, p2, p3, p4, hpl, hbl, hl3', hrdI, hfitI, splice_more, n1, n1b, n2b, w2]
              exact next5.intro ⟨k + 1, _, e'⟩ (by simp only; omega) (stepSI' _ (r3.ext (Ext.app _ _)) (upd_ext u3 _)) rfl rfl (by simp [List.forall_mem_cons, GB, ssT])
            have hag := hagain iok.d.1 iok.s.1 iok.t.1 n1 n2
            simp (maxSteps := 2000000) (implicitDefEqProofs := false) [-getElem?_pos, -getElem?_neg, cls, cl9, clt, cl1, clp, hq3, p1, p2, p3, p4, hpl, hbl, hl3', hrdI, hfitI, splice_more, n1, n2, go3]
            obtain ⟨g5, hg5⟩ : ∃ g5, g5 = g3 ++ [X, ABlk.cells cl 52 none, .cells [.int .i64 i.op, .int .i64 i.d, .int .i64 i.s, .int .i64 i.t, .int .i64 i.u, .int .i64 i.a, .int .u32 (i.k : Int), .int .i64 i.to] 55 none] := ⟨_, rfl⟩
            rw [← hg5]
            have r5 : XAt g5 N e' := by rw [hg5]; exact r3.ext (Ext.app _ _)
            have u5 : Upd N.all G N.all g5 := by rw [hg5]; exact upd_ext u3 _
            have l5 : g5.length = g3.length + 3 := by rw [hg5]; simp
            have hnq5 : ∀ c, q.length ≤ c → c ∉ N.all := hnq
            have o5 : g5[q.length]? = some (.cells [.int .i64 kq, .int .i64 (tn : Int), .bool late] 44 none) := by rw [hg5]; exact go3 _
            have t5 : g5[g2.length]? = some (.cells [.slice none 0 0, .int .i64 (-1), .int .i64 (a : Int), .bool false, .bool true, .int .i64 0] 46 none) := by rw [hg5]; exact gt3 _
            have c5b : g5[g3.length + 1]? = some (.cells cl 52 none) := by rw [hg5, HA.1]; simp
            refine xstep_ r5 z3'.ok tn (by rw [he']; simpa using htn) late fun g6 vm6 r6 u6 hv6 hn6 => ?_
            rw [hag] at r6 hv6 ⊢
            simp only at r6 hv6
            have hvn6 : vm6 = .slice none 0 0 := by
              cases hv6 with
              | nil h1 h2 => exact h2
              | row b h1 h2 h3 => exact absurd rfl h1
            subst hvn6
            have hlq2 : q.length ≤ g2.length := by have := u2.len; omega
            have o6 : ∀ tl, (g6 ++ tl)[q.length]? = _ := fun tl => getA (by rw [u6.keep _ (by omega) (hnq5 _ (Nat.le_refl _))]; exact o5) tl
            have t6 : ∀ tl, (g6 ++ tl)[g2.length]? = _ := fun tl => getA (by rw [u6.keep _ (by omega) (hnq5 _ (by omega))]; exact t5) tl
            have c6 : ∀ tl, (g6 ++ tl)[g3.length + 1]? = _ := fun tl => getA (by rw [u6.keep _ (by omega) (hnq5 _ (by omega))]; exact c5b) tl
            unfold outV
            simp (maxSteps := 2000000) (implicitDefEqProofs := false) [-getElem?_pos, -getElem?_neg, splice_more, o6, t6, c6, cl9, clt]
            refine xcore_ (r6.ext (Ext.app _ _)) tn (by rw [he']; exact List.getElem?_set_self htn) fun X2 => ?_
            rw [hcl]
            simp (maxSteps := 2000000) (implicitDefEqProofs := false) [-getElem?_pos, -getElem?_neg, splice_more, o6, t6, c6, cl9, clt, clg, cpl, cvq, w2]
            refine next5.intro ⟨k + 1, _, e'⟩ (by simp only; omega) (stepSI' _ (r6.ext (Ext.app _ _)) (upd_ext (u5.trans u6) _)) rfl rfl (by simp [List.forall_mem_cons, GB, ssT])

end Ex
end Go.Proofs.Ytongllppbifiaaa
