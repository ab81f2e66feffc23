/- Loops whose heap is part of the round's state; structures by what holds of a heap that is not written out. -/
import Derived.Test.YtongllppbifiaaaAbsD
namespace Go.Proofs.Ytongllppbifiaaa
namespace Abs
open Go
set_option linter.unusedVariables false
set_option linter.unusedSimpArgs false

section
variable {P : Program} {m : Nat} {t : T} {h : AH} {Q : AExit → T → AH → Prop}

/-- What is always so of a heap and its temporaries. -/
theorem awp_known {c : Code} (hw : AOK h → TOK (live h) t → m ≤ h.length → AWp P m c Q t h) : AWp P m c Q t h :=
  fun ρ w a r tr hm => hw r.scope (fun i v hi => (tr.val i v hi).choose_spec.2.1) hm ρ w a r tr hm

theorem aloop_known {ac : ACode} (hw : AOK h → TOK (live h) t → m ≤ h.length → ALoop P m ac t h Q) : ALoop P m ac t h Q :=
  fun c hc => awp_known fun a b d => hw a b d c hc

def next5 {σ : Type _} (n : Nat) (I : σ → Prop) (μ : σ → Nat) (tv : σ → List (Nat × Value)) (hv : σ → AH) (s : σ) (t : T) (h : AH) : Prop := ∃ s', μ s' < μ s ∧ I s' ∧ h = hv s' ∧ t.length = n ∧ ∀ x ∈ tv s', getT t x.1 = some x.2
theorem next5.intro {σ : Type _} {n : Nat} {I : σ → Prop} {μ : σ → Nat} {tv : σ → List (Nat × Value)} {hv : σ → AH} {s : σ} (s' : σ) (h1 : μ s' < μ s) (h2 : I s') (h3 : h = hv s') (h4 : t.length = n) (h5 : ∀ x ∈ tv s', getT t x.1 = some x.2) : next5 n I μ tv hv s t h := ⟨s', h1, h2, h3, h4, h5⟩
def loopQ5 {σ : Type _} (n : Nat) (I : σ → Prop) (μ : σ → Nat) (tv : σ → List (Nat × Value)) (hv : σ → AH) (s : σ) (Q : AExit → T → AH → Prop) : AExit → T → AH → Prop
  | .normal, t, h => next5 n I μ tv hv s t h
  | e, t, h => Q e t h
theorem loopQ5_normal {σ : Type _} (n : Nat) (I : σ → Prop) (μ : σ → Nat) (tv : σ → List (Nat × Value)) (hv : σ → AH) (s : σ) : loopQ5 n I μ tv hv s Q .normal t h = next5 n I μ tv hv s t h := rfl
theorem loopQ5_exit {σ : Type _} (n : Nat) (I : σ → Prop) (μ : σ → Nat) (tv : σ → List (Nat × Value)) (hv : σ → AH) (s : σ) (i : Nat) : loopQ5 n I μ tv hv s Q (.exit i) t h = Q (.exit i) t h := rfl
theorem loopQ5_ret {σ : Type _} (n : Nat) (I : σ → Prop) (μ : σ → Nat) (tv : σ → List (Nat × Value)) (hv : σ → AH) (s : σ) : loopQ5 n I μ tv hv s Q .ret t h = Q .ret t h := rfl

theorem tok_tv {n : Nat} {tv : List (Nat × Value)} (hn : t.length = n) (ht : ∀ x ∈ tv, getT t x.1 = some x.2) : (∀ (i : Nat) v, (mkT n tv)[i]? = some (some v) → t[i]? = some (some v)) := by
  intro i v hi
  have hm := mkT_get hi
  have e := ht _ hm
  rw [getT_eq] at e
  cases hx : t[i]? with
  | none => simp only [hx] at e; cases e
  | some o => simp only [hx, Option.join_some] at e; rw [e]

theorem awp_tv {c : Code} {n : Nat} {tv : List (Nat × Value)} (hn : t.length = n) (ht : ∀ x ∈ tv, getT t x.1 = some x.2) (hw : AOK h → (∀ x ∈ tv, scp (live h) x.2 = true) → m ≤ h.length → AWp P m c Q (mkT n tv) h) : AWp P m c Q t h := by
  refine awp_known fun ok tok hm => ?_
  have hs : ∀ x ∈ tv, scp (live h) x.2 = true := by
    intro x hx
    have e := ht x hx
    rw [getT_eq] at e
    cases hy : t[x.1]? with
    | none => simp only [hy] at e; cases e
    | some o =>
      simp only [hy, Option.join_some] at e
      rw [e] at hy
      exact tok _ _ hy
  refine awp_less (t2 := mkT n tv) (h2 := h) (by rw [mkT_length, hn]) (fun i v hi => ⟨tok_tv hn ht i v hi, hs _ (mkT_get hi)⟩) (by simp) ok hm (hw ok hs hm)

/-- THE LOOP's RULE, where the heap is part of the round's state: nothing is to be shown of names. -/
theorem loop5 (hmix : P.follows .mixedOrders = true) {ac : ACode} {σ : Type _} (n : Nat) (I : σ → Prop) (μ : σ → Nat) (tv : σ → List (Nat × Value)) (hv : σ → AH) (s0 : σ) (hI : I s0) (hh : h = hv s0) (hn : t.length = n) (ht : ∀ x ∈ tv s0, getT t x.1 = some x.2)
    (hr : ∀ s, I s → AOK (hv s) → (∀ x ∈ tv s, scp (live (hv s)) x.2 = true) → m ≤ (hv s).length → begin_ P m (mkT n (tv s)) ac (hv s) (loopQ5 n I μ tv hv s Q)) : ALoop P m ac t h Q := by
  subst hh
  have key : ∀ N s, μ s = N → I s → AOK (hv s) → (∀ x ∈ tv s, scp (live (hv s)) x.2 = true) → m ≤ (hv s).length → ∀ c, cCode P c = some ac → ARounds P m c Q (N + 1) (mkT n (tv s)) (hv s) := by
    intro N
    induction N using Nat.strongRecOn with
    | _ N ih =>
      intro s hs hI ok hsc hm c hc
      have hb := hr s hI ok hsc hm
      unfold begin_ run at hb
      have hw := W_sound (holds := fun p => p) hmix (fun h => h) (fun _ _ _ _ h => h) (fun c ac t h K hc hl => hl c hc) c ac _ _ _ hc hb
      refine AWp.mono hw fun e t' h' hq => ?_
      unfold resK resume at hq
      cases e with
      | normal =>
        obtain ⟨s', hlt, hI', rfl, hn', ht'⟩ := hq
        cases N with
        | zero => exact absurd hlt (by omega)
        | succ N =>
          show AWp P m c _ t' (hv s')
          refine awp_tv hn' ht' fun ok' hsc' hm' => ?_
          exact ARounds.more (μ s' + 1) (N + 1) _ _ (by omega) (ih (μ s') (by omega) s' rfl hI' ok' hsc' hm' c hc)
      | exit id => exact hq
      | ret => exact hq
  intro c hc
  exact awp_tv hn ht fun ok hsc hm => awp_rounds _ (key _ s0 rfl hI ok hsc hm c hc)

attribute [irreducible] next5

theorem DN5 : (∀ {σ : Type} (n : Nat) (I : σ → Prop) (μ : σ → Nat) (tv : σ → List (Nat × Value)) (hv : σ → AH) (s : σ) (Q : AExit → T → AH → Prop) (t : T) (h : AH), loopQ5 n I μ tv hv s Q .normal t h = next5 n I μ tv hv s t h) ∧
    (∀ {σ : Type} (n : Nat) (I : σ → Prop) (μ : σ → Nat) (tv : σ → List (Nat × Value)) (hv : σ → AH) (s : σ) (Q : AExit → T → AH → Prop) (t : T) (h : AH) (i : Nat), loopQ5 n I μ tv hv s Q (.exit i) t h = Q (.exit i) t h) ∧
    (∀ {σ : Type} (n : Nat) (I : σ → Prop) (μ : σ → Nat) (tv : σ → List (Nat × Value)) (hv : σ → AH) (s : σ) (Q : AExit → T → AH → Prop) (t : T) (h : AH), loopQ5 n I μ tv hv s Q .ret t h = Q .ret t h) ∧
    (∀ {σ : Type 1} (n : Nat) (I : σ → Prop) (μ : σ → Nat) (tv : σ → List (Nat × Value)) (hv : σ → AH) (s : σ) (Q : AExit → T → AH → Prop) (t : T) (h : AH), loopQ5 n I μ tv hv s Q .normal t h = next5 n I μ tv hv s t h) ∧
    (∀ {σ : Type 1} (n : Nat) (I : σ → Prop) (μ : σ → Nat) (tv : σ → List (Nat × Value)) (hv : σ → AH) (s : σ) (Q : AExit → T → AH → Prop) (t : T) (h : AH) (i : Nat), loopQ5 n I μ tv hv s Q (.exit i) t h = Q (.exit i) t h) ∧
    (∀ {σ : Type 1} (n : Nat) (I : σ → Prop) (μ : σ → Nat) (tv : σ → List (Nat × Value)) (hv : σ → AH) (s : σ) (Q : AExit → T → AH → Prop) (t : T) (h : AH), loopQ5 n I μ tv hv s Q .ret t h = Q .ret t h) :=
  ⟨fun _ _ _ _ _ _ _ _ _ => rfl, fun _ _ _ _ _ _ _ _ _ _ => rfl, fun _ _ _ _ _ _ _ _ _ => rfl, fun _ _ _ _ _ _ _ _ _ => rfl, fun _ _ _ _ _ _ _ _ _ _ => rfl, fun _ _ _ _ _ _ _ _ _ => rfl⟩
end

/-- What a call laid down for itself is let go. -/
theorem AC.clean {P : Program} {f : FuncId} {args : List Value} {h : AH} {K : Value → AH → Prop} (hc : AC P f args h (fun v h' => plain v = true ∧ (∃ E, h' = h ++ E) ∧ K v h)) : AC P f args h K := by
  refine ⟨hc.1, fun ρ w us r hs ha => ?_⟩
  have ok : AOK h := r.scope
  have hs2 : AC P f args h K := by
    refine AC.sees (hc.mono ?_)
    rintro v h' ⟨hv, ⟨E, rfl⟩, hk⟩
    have hpre : ∀ b (k : ABlk), h[b]? = some k → (h ++ E)[b]? = some k := fun b k hb => by rw [List.getElem?_append_left (List.getElem?_eq_some_iff.1 hb).1]; exact hb
    refine ⟨v, h, fun b => b, fun b => [b], ⟨fun b k hb => .keep ?_, fun b c _ _ hne x hx hx' => ?_⟩, ok, scp_mono (fun b hb => by cases hb) v hv, (ren_id v).symm, fun _ _ => rfl, fun b hb hl => ?_, Nat.le_refl _, hk⟩
    · rw [renB_id]
      exact hpre b k hb
    · simp only [List.mem_singleton] at hx hx'
      exact hne (hx.symm.trans hx')
    · unfold live at hl ⊢
      rw [List.getElem?_append_left hb] at hl
      exact hl
  exact hs2.2 ρ w us r hs ha

/-! Blocks that are read behind others' changes. -/
theorem lt_get {H : AH} {c : Nat} {k : ABlk} (h : H[c]? = some k) : c < H.length := (List.getElem?_eq_some_iff.1 h).1
theorem getA {H : AH} {c : Nat} {k : ABlk} (h : H[c]? = some k) (tl : AH) : (H ++ tl)[c]? = some k := by rw [List.getElem?_append_left (lt_get h)]; exact h
theorem getS {H : AH} {c : Nat} {k : ABlk} (h : H[c]? = some k) (b : Nat) (hne : b ≠ c) (k' : ABlk) : (H.set b k')[c]? = some k := by rw [List.getElem?_set_ne hne]; exact h

/-- New blocks behind a heap that is not written out. -/
theorem HA : (∀ (H tl : AH) (n : Nat), (H ++ tl)[H.length + n]? = tl[n]?) ∧ (∀ (H tl : AH), (H ++ tl)[H.length]? = tl[0]?) ∧ (∀ (H tl : AH) (n : Nat) (k : ABlk), (H ++ tl).set (H.length + n) k = H ++ tl.set n k) ∧ (∀ (H tl : AH) (k : ABlk), (H ++ tl).set H.length k = H ++ tl.set 0 k) := by
  have h1 : ∀ (H tl : AH) (n : Nat), (H ++ tl)[H.length + n]? = tl[n]? := fun H tl n => by rw [List.getElem?_append_right (by omega), Nat.add_sub_cancel_left]
  have h2 : ∀ (H tl : AH) (n : Nat) (k : ABlk), (H ++ tl).set (H.length + n) k = H ++ tl.set n k := fun H tl n k => by rw [List.set_append_right _ _ (by omega), Nat.add_sub_cancel_left]
  exact ⟨h1, fun H tl => h1 H tl 0, h2, fun H tl k => h2 H tl 0 k⟩

theorem splice_more (vs : List Value) (o : Nat) (a b : Value) (l : List Value) : splice vs o (a :: b :: l) = vs.take o ++ (a :: b :: l) ++ vs.drop (o + (a :: b :: l).length) := rfl

/-- Blocks of one structure turn; the others stay. -/
structure Upd (ns : List Nat) (H : AH) (ns' : List Nat) (H' : AH) : Prop where
  len : H.length ≤ H'.length
  keep : ∀ c, c < H.length → c ∉ ns → H'[c]? = H[c]?
  new : ∀ c ∈ ns', c ∈ ns ∨ (H.length ≤ c ∧ c < H'.length)

theorem Upd.refl (ns : List Nat) (H : AH) : Upd ns H ns H := ⟨Nat.le_refl _, fun _ _ _ => rfl, fun c h => .inl h⟩
theorem Upd.get {ns : List Nat} {H : AH} {ns' : List Nat} {H' : AH} (u : Upd ns H ns' H') {c : Nat} {k : ABlk} (h : H[c]? = some k) (hn : c ∉ ns) : H'[c]? = some k := by rw [u.keep c (lt_get h) hn]; exact h
theorem Upd.set {ns : List Nat} {H : AH} {b : Nat} (hb : b ∈ ns) (k : ABlk) : Upd ns H ns (H.set b k) := ⟨by simp, fun c hc hn => by rw [List.getElem?_set_ne (show b ≠ c from fun e => hn (e ▸ hb))], fun c h => .inl h⟩
theorem Upd.app (ns : List Nat) (H tl : AH) : Upd ns H ns (H ++ tl) := ⟨by simp, fun c hc hn => by rw [List.getElem?_append_left hc], fun c h => .inl h⟩
theorem Upd.trans {ns : List Nat} {H : AH} {ns' : List Nat} {H' : AH} {ns2 : List Nat} {H2 : AH} (u : Upd ns H ns' H') (v : Upd ns' H' ns2 H2) : Upd ns H ns2 H2 := by
  refine ⟨Nat.le_trans u.len v.len, fun c hc hn => ?_, fun c hc => ?_⟩
  · by_cases hm : c ∈ ns'
    · rcases u.new c hm with h | h
      · exact absurd h hn
      · omega
    · rw [v.keep c (Nat.lt_of_lt_of_le hc u.len) hm, u.keep c hc hn]
  · rcases v.new c hc with h | h
    · rcases u.new c h with h | h
      · exact .inl h
      · exact .inr ⟨h.1, Nat.lt_of_lt_of_le h.2 v.len⟩
    · exact .inr ⟨Nat.le_trans u.len h.1, h.2⟩
/-- More names are let be changed. -/
theorem Upd.more {ns : List Nat} {H : AH} {ns' : List Nat} {H' : AH} (u : Upd ns H ns' H') {ms : List Nat} (h1 : ∀ c ∈ ns, c ∈ ms) {ms' : List Nat} (h2 : ∀ c ∈ ms', c ∈ ns' ∨ c ∈ ms) : Upd ms H ms' H' :=
  ⟨u.len, fun c hc hn => u.keep c hc (fun h => hn (h1 c h)), fun c hc => (h2 c hc).elim (fun h => (u.new c h).imp (h1 c) id) .inl⟩

end Abs
end Go.Proofs.Ytongllppbifiaaa
