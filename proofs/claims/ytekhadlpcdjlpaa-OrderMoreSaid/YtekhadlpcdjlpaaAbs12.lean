/- What an operation looks at; what it leaves in scope. -/
import Derived.Test.YtekhadlpcdjlpaaAbs11
namespace Go.Proofs.Ytekhadlpcdjlpaa
namespace Abs
open Go
set_option linter.unusedVariables false
set_option linter.unusedSimpArgs false

def opnds : AOp → List Operand
  | .mv x | .un _ x | .cvt _ x | .off _ x | .ext _ x | .part _ _ x | .nilck x | .len x | .lenS x | .ld _ x | .mlen x | .box _ x | .clear _ x | .range x | .next x | .entry x => [x]
  | .pick c a b => [c, a, b]
  | .bin _ x y | .eq _ _ x y | .geq _ _ x y | .idx _ x y | .idxA _ _ x y | .partI _ _ _ x y | .sIdx x y | .look _ _ x y _ | .mkS _ _ _ _ x y | .st _ x y | .app _ _ _ x y | .copy _ x y | .del _ x y | .ment _ _ x y => [x, y]
  | .sub _ x lo hi mx | .subA _ _ x lo hi mx => x :: (lo.toList ++ hi.toList ++ mx.toList)
  | .subS x lo hi => x :: (lo.toList ++ hi.toList)
  | .fn _ first captured => first ++ captured
  | .agg _ parts => parts.map (·.2.2)
  | .alen _ | .alloc _ _ | .mkM => []
  | .mm _ args => args
  | .row _ _ _ _ parts => parts.map (·.2)
  | .mupd _ x y z | .mest x y z => [x, y, z]
  | .call f args => f :: args

/-- Numbers from here on are no functions. -/
def SPEC : Nat := 1000000000
def RNG : Nat := 1000000000
def NXT : Nat := 1000000001
def ENT : Nat := 1000000002

/-- Whom a call calls, with what. -/
def evC (t : T) : AOp → Option (FuncId × List Value)
  | .call f args => match evalO t f, evalL t args with
    | some (.func (.func fid) first captured), some vs => if fid < 1000000000 then some (fid, first.toList ++ vs ++ captured.toList) else none
    | _, _ => none
  | _ => none

/-- What goes over a map, and on what. -/
def evI (t : T) : AOp → Option (FuncId × List Value)
  | .range x => match evalO t x with
    | some v => some (1000000000, [v])
    | none => none
  | .next x => match evalO t x with
    | some v => some (1000000001, [v])
    | none => none
  | .entry x => match evalO t x with
    | some v => some (1000000002, [v])
    | none => none
  | _ => none

/-- What is run there. -/
def Intr (P : Program) (f : FuncId) (u : Value) (s : Sem Value) : Prop :=
  (f = 1000000000 ∧ ∃ ty k e, P.underlying ty = some (.map k e) ∧ s = Instr.range ty u) ∨ (f = 1000000001 ∧ ∃ ty, s = Instr.next u false ty) ∨ (f = 1000000002 ∧ s = Instr.entry u)

/-- What comes of it. -/
def IC (P : Program) (f : FuncId) (args : List Value) (h : AH) (Post : Value → AH → Prop) : Prop := ∀ (ρ : Ren) (w : World) (v0 : Value) (s : Sem Value), args = [v0] → Intr P f (conc ρ v0) s → Rel ρ h w → scp (live h) v0 = true →
  ∃ u w' v h' ρ', s.run P w = .ok u w' ∧ VR ρ' (live h') v u ∧ Post v h' ∧ Rel ρ' h' w' ∧ Next h.length ρ h w ρ' h' w' ∧ h.length ≤ h'.length

/-- A call, or what goes over a map. -/
def AC2 (P : Program) (f : FuncId) (args : List Value) (h : AH) (Post : Value → AH → Prop) : Prop := if f < 1000000000 then AC P f args h Post else IC P f args h Post
theorem AC2_lt {P : Program} {f : FuncId} {args : List Value} {h : AH} {Post : Value → AH → Prop} (hf : f < 1000000000) : AC2 P f args h Post = AC P f args h Post := if_pos hf
theorem AC2_ge {P : Program} {f : FuncId} {args : List Value} {h : AH} {Post : Value → AH → Prop} (hf : 1000000000 ≤ f) : AC2 P f args h Post = IC P f args h Post := if_neg (Nat.not_lt.2 hf)

theorem evC_lt {t : T} {ao : AOp} {f : FuncId} {args : List Value} (h : evC t ao = some (f, args)) : f < 1000000000 := by
  cases ao <;> try (simp only [evC] at h; cases h; done)
  simp only [evC] at h
  split at h
  · split at h
    · rename_i hlt
      injection h with h
      injection h with h1 h2
      subst h1
      exact hlt
    · cases h
  · cases h
theorem evI_ge {t : T} {ao : AOp} {f : FuncId} {args : List Value} (h : evI t ao = some (f, args)) : 1000000000 ≤ f ∧ ∃ v, args = [v] := by
  cases ao <;> try (simp only [evI] at h; cases h; done)
  all_goals
    simp only [evI] at h
    split at h
    · injection h with h
      injection h with h1 h2
      subst h1 h2
      exact ⟨by decide, _, rfl⟩
    · cases h

section
variable {P : Program} {t t' : T} {h : AH}

theorem evalL_congr {l : List Operand} (H : ∀ x ∈ l, evalO t x = evalO t' x) : evalL t l = evalL t' l := by
  induction l with
  | nil => rfl
  | cons x l ih => simp only [evalL, H x (List.mem_cons_self ..), ih (fun y hy => H y (List.mem_cons_of_mem _ hy))]

theorem evFill_congr {l : List (Nat × Nat × Operand)} (H : ∀ x ∈ l.map (·.2.2), evalO t x = evalO t' x) : ∀ cs, evFill t l cs = evFill t' l cs := by
  induction l with
  | nil => intro cs; rfl
  | cons x l ih =>
    intro cs
    obtain ⟨o, n, x⟩ := x
    simp only [evFill, H x (by simp), ih (fun y hy => H y (by simp only [List.map_cons]; exact List.mem_cons_of_mem _ hy))]

theorem evFillR_congr {es : Nat} {l : List (Nat × Operand)} (H : ∀ x ∈ l.map (·.2), evalO t x = evalO t' x) : ∀ cs, evFillR t es l cs = evFillR t' es l cs := by
  induction l with
  | nil => intro cs; rfl
  | cons x l ih =>
    intro cs
    obtain ⟨o, x⟩ := x
    simp only [evFillR, H x (by simp), ih (fun y hy => H y (by simp only [List.map_cons]; exact List.mem_cons_of_mem _ hy))]

theorem optI_congr {x : Option Operand} (H : ∀ y ∈ x.toList, evalO t y = evalO t' y) : optI t x = optI t' x := by
  cases x with
  | none => rfl
  | some x => simp only [optI, H x (by simp)]

theorem evP_congr {ao : AOp} (H : ∀ x ∈ opnds ao, evalO t x = evalO t' x) : evP P t ao = evP P t' ao := by
  cases ao <;> simp only [opnds, List.mem_cons, List.not_mem_nil, or_false, forall_eq_or_imp, forall_eq, List.mem_append] at H <;> first
    | (simp only [evP]; done)
    | (simp only [evP, H]; done)
    | (rename_i ag x; cases ag <;> simp only [evP, H]; done)
    | skip
  case sub es x lo hi mx => simp only [evP, H.1, optI_congr (fun y hy => H.2 y (.inl (.inl hy))), optI_congr (fun y hy => H.2 y (.inl (.inr hy))), optI_congr (fun y hy => H.2 y (.inr hy))]
  case subA n es x lo hi mx => simp only [evP, H.1, optI_congr (fun y hy => H.2 y (.inl (.inl hy))), optI_congr (fun y hy => H.2 y (.inl (.inr hy))), optI_congr (fun y hy => H.2 y (.inr hy))]
  case subS x lo hi => simp only [evP, H.1, optI_congr (fun y hy => H.2 y (.inl hy)), optI_congr (fun y hy => H.2 y (.inr hy))]
  case fn f first captured => simp only [evP, evalL_congr (fun y hy => H y (.inl hy)), evalL_congr (fun y hy => H y (.inr hy))]
  case agg zero parts => simp only [evP, evFill_congr H]
  case mm mx args => simp only [evP, evalL_congr H]

theorem evR_congr {ao : AOp} (H : ∀ x ∈ opnds ao, evalO t x = evalO t' x) (h : AH) : evR t h ao = evR t' h ao := by
  cases ao <;> simp only [opnds, List.mem_cons, List.not_mem_nil, or_false, forall_eq_or_imp, forall_eq, List.mem_append] at H <;> first
    | (simp only [evR]; done)
    | (simp only [evR, H]; done)
    | (rename_i ag x; cases ag <;> simp only [evR, H]; done)

theorem evF_congr {ao : AOp} (H : ∀ x ∈ opnds ao, evalO t x = evalO t' x) (n : Nat) : evF t n ao = evF t' n ao := by
  cases ao <;> simp only [opnds, List.mem_cons, List.not_mem_nil, or_false, forall_eq_or_imp, forall_eq, List.mem_append] at H <;> first
    | (simp only [evF]; done)
    | (simp only [evF, H]; done)
    | skip
  case row e len es zero parts => simp only [evF, evFillR_congr H]

theorem evL_congr {ao : AOp} (H : ∀ x ∈ opnds ao, evalO t x = evalO t' x) (h : AH) : evL t h ao = evL t' h ao := by
  cases ao <;> simp only [opnds, List.mem_cons, List.not_mem_nil, or_false, forall_eq_or_imp, forall_eq, List.mem_append] at H <;> first
    | (simp only [evL]; done)
    | (simp only [evL, evSt, H]; done)
    | (simp only [evL, evApp, newsOf, H]; done)
    | (simp only [evL, evClr, H]; done)
    | (simp only [evL, evMupd, H]; done)
    | (simp only [evL, evDel, H]; done)

theorem evC_congr {ao : AOp} (H : ∀ x ∈ opnds ao, evalO t x = evalO t' x) : evC t ao = evC t' ao := by
  cases ao <;> simp only [opnds, List.mem_cons, List.not_mem_nil, or_false, forall_eq_or_imp, forall_eq, List.mem_append] at H <;> first
    | (simp only [evC]; done)
    | skip
  case call f args => simp only [evC, H.1, evalL_congr H.2]

theorem evalO_put {d : Option Tmp} {v : Value} {x : Operand} (hx : ∀ i, x = .tmp i → d ≠ some i) : evalO (t.put d v) x = evalO t x := by
  cases d with
  | none => rfl
  | some d =>
    cases x with
    | tmp i =>
      have : d ≠ i := fun e => hx i rfl (by rw [e])
      simp only [evalO, T.put, List.getElem?_set_ne this]
    | _ => rfl

theorem T.put_comm {d e : Option Tmp} {v u : Value} (hd : ∀ i, d = some i → e ≠ some i) : (t.put d v).put e u = (t.put e u).put d v := by
  cases d with
  | none => rfl
  | some d =>
    cases e with
    | none => rfl
    | some e =>
      have : d ≠ e := fun h => hd d rfl (by rw [h])
      simp only [T.put]
      exact List.set_comm _ _ this

end

/-- All that is known speaks of names that are there. -/
def AOK (h : AH) : Prop := ∀ (b : Nat) (k : ABlk), h[b]? = some k → k.scp (live h)
def TOK (L : Nat → Bool) (t : T) : Prop := ∀ (i : Nat) v, t[i]? = some (some v) → scp L v = true

section
variable {P : Program} {ρ : Ren} {t : T} {h : AH} {w : World} {L : Nat → Bool}

theorem Rel.ok (r : Rel ρ h w) : AOK h := r.scope
theorem TRel.ok {a : Act} (tr : TRel ρ L t a) : TOK L t := fun i v hv => let ⟨_, _, h⟩ := tr.val i v hv; h.1

theorem TOK.put (tk : TOK L t) {d : Option Tmp} {v : Value} (hv : scp L v = true) : TOK L (t.put d v) := by
  cases d with
  | none => exact tk
  | some d =>
    intro i x hx
    simp only [T.put, List.getElem?_set] at hx
    split at hx
    · split at hx
      · injection hx with hx
        injection hx with hx
        subst hx
        exact hv
      · cases hx
    · exact tk i x hx

theorem TOK.mono {L' : Nat → Bool} (tk : TOK L t) (hl : ∀ b, L b = true → L' b = true) : TOK L' t := fun i v hv => scp_mono hl v (tk i v hv)

/-- Some act that fits. -/
theorem TOK.act (tk : TOK L t) (ρ : Ren) : ∃ a, TRel ρ L t a := by
  refine ⟨⟨(t.map fun x => match x with | some v => conc ρ v | none => undef).toArray, []⟩, rfl, by simp, fun i v hv => ⟨conc ρ v, by simp [hv], tk i v hv, rfl⟩⟩

theorem evalO_scp (tk : TOK L t) {x : Operand} {v : Value} (hv : evalO t x = some v) : scp L v = true := by
  obtain ⟨a, ha⟩ := tk.act (fun _ => ⟨0, 0, 0, []⟩)
  exact (evalO_VR ha hv).1

theorem evP_scp (tk : TOK L t) {o : Oper} {ao : AOp} {v : Value} (hc : cOp P o.op = some ao) (hv : evP P t ao = some v) : scp L v = true := by
  obtain ⟨a, ha⟩ := tk.act (fun _ => ⟨0, 0, 0, []⟩)
  obtain ⟨u, vr, _⟩ := sound_pure hc ha hv
  exact vr.1

theorem evF_scp (tk : TOK (live h) t) {o : Oper} {ao : AOp} {n : Nat} {v : Value} {k : ABlk} (hc : cOp P o.op = some ao) (hv : evF t n ao = some (v, k)) (hL : ∀ b, live h b = true → L b = true) (hn : L n = true) : scp L v = true ∧ k.scp L := by
  obtain ⟨a, ha⟩ := tk.act (fun _ => ⟨0, 0, 0, []⟩)
  exact (sound_fresh (w := default) hc ha hv).vscp L hL hn

theorem rdRow_scp (ok : AOK h) {b o : Nat} {vs : List Value} {v : Value} (hb : rdRow h b = some vs) (hv : vs[o]? = some v) : scp (live h) v = true := by
  unfold rdRow at hb
  split at hb
  · rename_i hk
    injection hb with hb
    subst hb
    exact ok b _ hk v (List.mem_of_getElem? hv)
  · rename_i hk
    injection hb with hb
    subst hb
    exact ok b _ hk v (List.mem_of_getElem? hv)
  · cases hb

theorem rdCells_scp (ok : AOK h) {b o n : Nat} {l : List Value} (hl : rdCells h b o n = some l) : scpL (live h) l = true := by
  unfold rdCells at hl
  split at hl
  case h_2 => cases hl
  rename_i vs hb
  split at hl
  case isFalse => cases hl
  injection hl with hl
  subst hl
  rw [scpL_all, List.all_eq_true]
  intro v hv
  obtain ⟨j, hj⟩ := List.getElem?_of_mem (List.mem_of_mem_drop (List.mem_of_mem_take hv))
  exact rdRow_scp ok hb hj

theorem findA_scp (ok : AOK h) {b : Nat} {es : List MapEntry} {c : Nat} (hb : mapAt h b = some (es, c)) {str : Bool} {k : Value} {i j : Nat} {v : Value} (hf : findA str k es i = some (some (j, v))) : scp (live h) v = true := by
  unfold mapAt at hb
  split at hb
  · rename_i es' c' hk
    injection hb with hb
    injection hb with h1 h2
    subst h1 h2
    obtain ⟨_, e, he, hv, _⟩ := findA_mem es' i j v hf
    have := (ok b _ hk e (List.mem_of_getElem? he)).2
    rw [hv] at this
    exact this
  · cases hb

theorem evR_scp (ok : AOK h) (tk : TOK (live h) t) {o : Oper} {ao : AOp} {v : Value} (hc : cOp P o.op = some ao) (hv : evR t h ao = some v) : scp (live h) v = true := by
  cases ao <;> try (simp only [evR] at hv; cases hv; done)
  case ld ag x =>
    cases ag with
    | none =>
      simp only [evR] at hv
      split at hv
      · split at hv
        · rename_i vs hb; exact rdRow_scp ok hb hv
        · cases hv
      · cases hv
    | some n =>
      simp only [evR] at hv
      split at hv
      · split at hv
        · rename_i l hl
          injection hv with hv
          subst hv
          simpa [scp, scpA] using rdCells_scp ok hl
        · cases hv
      · cases hv
  case look str z m k okk =>
    have hz : plain z = true := by
      cases ho : o.op <;> rw [ho] at hc <;> simp only [cOp] at hc
      case lookup ty m' k' ok' =>
        unfold cLook at hc
        split at hc
        case h_2 => cases hc
        split at hc
        case h_2 => cases hc
        split at hc
        case h_2 => cases hc
        split at hc
        case isFalse => cases hc
        rename_i hp
        injection hc with hc
        injection hc with _ hc
        subst hc
        exact hp
      all_goals
        have hk := cOp_kd (P := P) (op := o.op) (ao := .look str z m k okk) (by rw [ho]; simp only [cOp]; exact hc)
        rw [ho] at hk
        first
          | (cases hk; done)
          | skip
      all_goals first
        | (split at hc <;> first | (cases hc; done) | (injection hc with hc; cases hc))
        | skip
      all_goals
        rename_i c
        obtain ⟨callee, args, tys⟩ := c
        cases callee <;> simp only at hc <;> first
          | (cases hc; done)
          | (injection hc with hc; cases hc; done)
          | skip
        unfold cBuiltin at hc
        repeat' split at hc
        all_goals first
          | (cases hc; done)
          | (injection hc with hc; cases hc; done)
          | (unfold cLen at hc; repeat' split at hc
             all_goals first
               | (cases hc; done)
               | (injection hc with hc; cases hc; done))
          | (unfold cApp at hc; repeat' split at hc
             all_goals first
               | (cases hc; done)
               | (injection hc with hc; cases hc; done))
          | (unfold cClr at hc; repeat' split at hc
             all_goals first
               | (cases hc; done)
               | (injection hc with hc; cases hc; done))
          | (unfold cDel at hc; repeat' split at hc
             all_goals first
               | (cases hc; done)
               | (injection hc with hc; cases hc; done))
    have hzl : scp (live h) z = true := scp_mono (fun b hb => by cases hb) z hz
    simp only [evR] at hv
    split at hv
    · cases okk <;> simp at hv <;> subst hv <;> simp [scp, scpA, scpL, hzl]
    · split at hv
      case h_2 => cases hv
      rename_i es c hes
      split at hv
      · rename_i j x hf
        have hx := findA_scp ok hes hf
        injection hv with hv
        subst hv
        cases okk <;> simp [scp, scpA, scpL, hx]
      · injection hv with hv
        subst hv
        cases okk <;> simp [scp, scpA, scpL, hzl]
      · cases hv
    · cases hv
  case mlen x =>
    simp only [evR] at hv
    split at hv
    · injection hv with hv; subst hv; rfl
    · split at hv
      · injection hv with hv; subst hv; rfl
      · cases hv
    · cases hv

end
end Abs
end Go.Proofs.Ytekhadlpcdjlpaa
