/- A call, by what its text comes to; a program that runs. -/
import Derived.Test.YtekhadlpcdjlpaaAbs19
namespace Go.Proofs.Ytekhadlpcdjlpaa
namespace Abs
open Go
set_option linter.unusedVariables false
set_option linter.unusedSimpArgs false

inductive ARes where
  | tmp (i : Nat)
  | cell (i : Nat) (agg : Option Nat)

structure AFunc where
  ntmps : Nat
  res : List ARes
  body : ACode

def cRes (P : Program) : List ResultVar → Option (List ARes)
  | [] => some []
  | .tmp i :: l => match cRes P l with
    | some r => some (.tmp i :: r)
    | none => none
  | .cell i t :: l => match aggOf P t, cRes P l with
    | some ag, some r => some (.cell i ag :: r)
    | _, _ => none

def cFunc (P : Program) (f : FuncId) : Option AFunc := match P.funcs[f]? with
  | some fn => match fn.body with
    | some c => if fn.name == "runtime.NumGoroutine" then none else match cCode P c, cRes P fn.results.toList with
      | some ac, some rs => some ⟨fn.ntmps, rs, ac⟩
      | _, _ => none
    | none => none
  | none => none

def evRes (t : T) (h : AH) : List ARes → Option (List Value)
  | [] => some []
  | .tmp i :: l => match evalO t (.tmp i), evRes t h l with
    | some v, some r => some (v :: r)
    | _, _ => none
  | .cell i ag :: l => match evR t h (.ld ag (.tmp i)), evRes t h l with
    | some v, some r => some (v :: r)
    | _, _ => none

def oneOf : List Value → Value
  | [v] => v
  | l => .tuple l.toArray

/-- The temporaries at first. -/
def initT (n : Nat) (args : List Value) : T := args.map some ++ List.replicate (n - args.length) none

section
variable {R : Type} (P : Program) (bot : R) (C : FuncId → List Value → AH → (Value → AH → R) → R) (Lp : ACode → T → AH → (AExit → T → AH → R) → R)

/-- What a function comes to. -/
def wFunc (af : AFunc) (args : List Value) (h : AH) (K : Value → AH → R) : R :=
  W P bot C Lp af.body (initT af.ntmps args) h (fun e t h => match e with
    | .exit _ => bot
    | _ => match evRes t h af.res with
      | some vs => K (oneOf vs) h
      | none => bot)
end

section
variable {P : Program} {R : Type} {bot : R} {holds : R → Prop} {C : FuncId → List Value → AH → (Value → AH → R) → R} {Lp : ACode → T → AH → (AExit → T → AH → R) → R}

theorem evRes_run {ρ : Ren} {h : AH} {w : World} {t : T} {a : Act} (r : Rel ρ h w) (tr : TRel ρ (live h) t a) (F : ResultVar → Sem Value) (hF1 : ∀ i, F (.tmp i) = pure (a.tmps.getD i undef)) (hF2 : ∀ i ty, F (.cell i ty) = do loadVar ty (← asAddr (a.tmps.getD i undef))) : ∀ (l : List ResultVar) (rs : List ARes) (vs : List Value), cRes P l = some rs → evRes t h rs = some vs →
    (l.mapM F).run P w = .ok (vs.map (conc ρ)) w ∧ scpL (live h) vs = true := by
  intro l
  induction l with
  | nil =>
    intro rs vs hc hv
    simp only [cRes] at hc
    injection hc with hc
    subst hc
    simp only [evRes] at hv
    injection hv with hv
    subst hv
    exact ⟨rfl, rfl⟩
  | cons x l ih =>
    intro rs vs hc hv
    cases x with
    | tmp i =>
      simp only [cRes] at hc
      split at hc
      case h_2 => cases hc
      rename_i r' hr'
      injection hc with hc
      subst hc
      simp only [evRes] at hv
      split at hv
      case h_2 => cases hv
      rename_i v us hv1 hus
      injection hv with hv
      subst hv
      obtain ⟨h1, h2⟩ := ih _ _ hr' hus
      have vr := evalO_VR tr hv1
      have e1 : a.tmps.getD i undef = conc ρ v := vr.2
      refine ⟨?_, by simp [scpL, vr.1, h2]⟩
      rw [List.mapM_cons]
      simp only [hF1, Sem.run_bind, e1, Sem.run_pure, Result.andThen_ok, h1]
      rfl
    | cell i ty =>
      simp only [cRes] at hc
      split at hc
      case h_2 => cases hc
      rename_i ag r' hag hr'
      injection hc with hc
      subst hc
      simp only [evRes] at hv
      split at hv
      case h_2 => cases hv
      rename_i v us hv1 hus
      injection hv with hv
      subst hv
      obtain ⟨h1, h2⟩ := ih _ _ hr' hus
      have key : (do loadVar ty (← asAddr (a.tmps.getD i undef)) : Sem Value).run P w = .ok (conc ρ v) w ∧ scp (live h) v = true := by
        have hg := aggOf_run hag w
        cases ag with
        | none =>
          simp only [evR] at hv1
          split at hv1
          · rename_i b off hx
            split at hv1
            · rename_i vs' hb
              have vr := evalO_VR tr hx
              have e1 : a.tmps.getD i undef = .pointer (some ⟨(ρ b).blk, (ρ b).off + off, none⟩) := vr.2
              obtain ⟨g1, g2⟩ := rdRow_cell r hb hv1
              exact ⟨by simp [e1, asAddr, loadVar, hg.1, g1], g2⟩
            · cases hv1
          · cases hv1
        | some n =>
          simp only [evR] at hv1
          split at hv1
          · rename_i b off hx
            split at hv1
            · rename_i l' hl
              injection hv1 with hv1
              subst hv1
              have vr := evalO_VR tr hx
              have e1 : a.tmps.getD i undef = .pointer (some (cAddr ρ ⟨b, off, none⟩)) := vr.2
              obtain ⟨g1, g2, g3⟩ := rdCells_run (P := P) r hl
              exact ⟨by simp [e1, asAddr, loadVar, hg.1, hg.2 n rfl, g1, conc, concA, concL_map], by simp [scp, scpA, g2]⟩
            · cases hv1
          · cases hv1
      refine ⟨?_, by simp [scpL, key.2, h2]⟩
      rw [List.mapM_cons]
      have k1 := key.1
      simp only [hF2, Sem.run_bind, Sem.run_pure, Result.andThen_ok, h1] at k1 ⊢
      rw [k1]
      simp only [Result.andThen_ok, h1]
      rfl

theorem results_run {fn : Func} {ρ : Ren} {h : AH} {w : World} {t : T} {a : Act} {rs : List ARes} {vs : List Value} (r : Rel ρ h w) (tr : TRel ρ (live h) t a) (hc : cRes P fn.results.toList = some rs) (hv : evRes t h rs = some vs) :
    (results fn a.tmps).run P w = .ok (conc ρ (oneOf vs)) w ∧ scp (live h) (oneOf vs) = true := by
  have h1 := fun F hF1 hF2 => (evRes_run (P := P) r tr F hF1 hF2 _ _ _ hc hv).1
  have h2 := (evRes_run (P := P) r tr (fun | .tmp i => pure (a.tmps.getD i undef) | .cell i ty => do loadVar ty (← asAddr (a.tmps.getD i undef))) (fun _ => rfl) (fun _ _ => rfl) _ _ _ hc hv).2
  constructor
  · unfold results
    rw [Array.mapM_eq_mapM_toList]
    simp only [Sem.run_bind, Sem.run_map]
    rw [h1 _ (fun _ => rfl) (fun _ _ => rfl)]
    simp only [Result.andThen_ok, Sem.run_pure]
    congr 1
    cases vs with
    | nil => simp [oneOf, conc, concA, concL]
    | cons x l =>
      cases l with
      | nil => simp [oneOf]
      | cons y l => simp [oneOf, conc, concA, concL, concL_map]
  · unfold oneOf
    split
    · simpa [scpL] using h2
    · simpa [scp, scpA] using h2

theorem enter_sound (hmix : P.follows .mixedOrders = true) (hbot : ¬ holds bot) (hC : ∀ f args h K, holds (C f args h K) → AC2 P f args h (fun v h' => holds (K v h')))
    {f : FuncId} {af : AFunc} (hf : cFunc P f = some af) {args : List Value} {h : AH} {K : Value → AH → R}
    (hL : ∀ c ac t h' K, cCode P c = some ac → holds (Lp ac t h' K) → AWp P h.length (.loop c) (fun e t h => holds (K e t h)) t h')
    (hw : holds (wFunc P bot C Lp af args h K)) : AC P f args h (fun v h' => holds (K v h')) := by
  unfold cFunc at hf
  split at hf
  case h_2 => cases hf
  rename_i fn hfn
  split at hf
  case h_2 => cases hf
  rename_i c hbody
  split at hf
  case isTrue => cases hf
  rename_i hname
  split at hf
  case h_2 => cases hf
  rename_i ac rs hac hrs
  injection hf with hf
  subst hf
  refine ⟨?_, fun ρ w us r hs ha => ?_⟩
  · unfold enterB
    rw [hfn]
    simp only [hbody, Option.isSome_some, Bool.true_and, Bool.not_eq_true']
    simpa using hname
  · have hawp := W_sound hmix hbot hC (m := h.length) hL c ac _ h _ hac hw
    refine calls_of_wp hfn hbody ?_
    have tr : TRel ρ (live h) (initT fn.ntmps args) { tmps := us ++ Array.replicate (fn.ntmps - us.size) undef, defers := [] } := by
      refine ⟨rfl, by simp [initT, hs], fun i v hv => ?_⟩
      unfold initT at hv
      by_cases hi : i < args.length
      · rw [List.getElem?_append_left (by simpa using hi), List.getElem?_map] at hv
        cases hx : args[i]? with
        | none => rw [hx] at hv; cases hv
        | some x =>
          rw [hx] at hv
          injection hv with hv
          injection hv with hv
          subst hv
          obtain ⟨u, h1, h2⟩ := ha i x hx
          refine ⟨u, ?_, h2⟩
          simp only
          rw [Array.getElem?_append_left (by omega)]
          exact h1
      · rw [List.getElem?_append_right (by simpa using hi), List.getElem?_replicate] at hv
        split at hv <;> cases hv
    refine wp_mono (hawp ρ w _ r tr (Nat.le_refl _)) ?_
    rintro e a' w' ⟨e', t', h', ρ', he, hq, r', tr', nx, hle⟩
    cases e' with
    | exit id => exact (hbot hq).elim
    | normal =>
      simp only [AExit.is] at he
      subst he
      have hq2 : holds (match evRes t' h' rs with | some vs => K (oneOf vs) h' | none => bot) := hq
      split at hq2
      case h_2 => exact (hbot hq2).elim
      rename_i vs hvs
      obtain ⟨g1, g2⟩ := results_run (fn := fn) r' tr' hrs hvs
      exact ⟨tr'.defers, _, g1, oneOf vs, _, h', ρ', rfl, ⟨g2, rfl⟩, hq2, r', nx, hle⟩
    | ret =>
      simp only [AExit.is] at he
      subst he
      have hq2 : holds (match evRes t' h' rs with | some vs => K (oneOf vs) h' | none => bot) := hq
      split at hq2
      case h_2 => exact (hbot hq2).elim
      rename_i vs hvs
      obtain ⟨g1, g2⟩ := results_run (fn := fn) r' tr' hrs hvs
      exact ⟨tr'.defers, _, g1, oneOf vs, _, h', ρ', rfl, ⟨g2, rfl⟩, hq2, r', nx, hle⟩

end

/-- A loop, of text whose types are resolved. -/
def ALoop (P : Program) (m : Nat) (ac : ACode) (t : T) (h : AH) (K : AExit → T → AH → Prop) : Prop := ∀ c, cCode P c = some ac → AWp P m (.loop c) K t h

/-- A function's contract: its text leaves calls and loops to be shown. -/
theorem contract {P : Program} (hmix : P.follows .mixedOrders = true) {f : FuncId} {af : AFunc} (hf : cFunc P f = some af) {args : List Value} {h : AH} {K : Value → AH → Prop} (hw : wFunc P False (AC2 P) (ALoop P h.length) af args h K) : AC P f args h K :=
  enter_sound (holds := fun p => p) hmix (fun h => h) (fun _ _ _ _ h => h) hf (fun c ac t h' K hc hl => hl c hc) hw

theorem aloop {P : Program} (hmix : P.follows .mixedOrders = true) {m : Nat} {ac : ACode} {t : T} {h : AH} {K : AExit → T → AH → Prop} (I : Nat → T → AH → Prop) (n0 : Nat) (h0 : I n0 t h)
    (hr : ∀ n t h, I n t h → W P False (AC2 P) (ALoop P m) ac t h (thenQ (fun t h => ∃ n', n' < n ∧ I n' t h) K)) : ALoop P m ac t h K := by
  intro c hc
  refine awp_loop I n0 h0 fun n t h hI => ?_
  exact W_sound (holds := fun p => p) hmix (fun h => h) (fun _ _ _ _ h => h) (fun c ac t h K hc hl => hl c hc) c ac t h _ hc (hr n t h hI)

section
variable {R : Type} (P : Program) (bot : R) (tab : FuncId → Option AFunc)
mutual
def callF : Nat → FuncId → List Value → AH → (Value → AH → R) → R
  | 0, _, _, _, _ => bot
  | n + 1, f, args, h, K => if f < 1000000000 then match tab f with
    | some af => wFunc P bot (callF n) (loopF n) af args h K
    | none => bot else bot
def loopF : Nat → ACode → T → AH → (AExit → T → AH → R) → R
  | 0, _, _, _, _ => bot
  | n + 1, c, t, h, K => W P bot (callF n) (loopF n) c t h (fun e t h => match e with
    | .normal => loopF n c t h K
    | e => K e t h)
end
end

theorem run_sound2 {P : Program} {R : Type} {bot : R} {holds : R → Prop} {tab : FuncId → Option AFunc} (hmix : P.follows .mixedOrders = true) (hbot : ¬ holds bot) (htab : ∀ f af, tab f = some af → cFunc P f = some af) : ∀ n : Nat,
    (∀ f args h K, holds (callF P bot tab n f args h K) → f < 1000000000 ∧ AC P f args h (fun v h' => holds (K v h'))) ∧
    (∀ m c ac t h K, cCode P c = some ac → holds (loopF P bot tab n ac t h K) → ARounds P m c (fun e t h => holds (K e t h)) n t h) := by
  intro n
  induction n with
  | zero => exact ⟨fun f args h K hw => absurd hw hbot, fun m c ac t h K hc hw => absurd hw hbot⟩
  | succ n ih =>
    refine ⟨fun f args h K hw => ?_, fun m c ac t h K hc hw => ?_⟩
    · simp only [callF] at hw
      split at hw
      case isFalse => exact absurd hw hbot
      rename_i hlt
      split at hw
      case h_2 => exact absurd hw hbot
      rename_i af haf
      exact ⟨hlt, enter_sound hmix hbot (fun f args h K hh => by have := ih.1 f args h K hh; rw [AC2_lt this.1]; exact this.2) (htab f af haf) (fun c ac t h' K hc hl => awp_rounds n (ih.2 h.length c ac t h' K hc hl)) hw⟩
    · simp only [loopF] at hw
      have := W_sound hmix hbot (fun f args h K hh => by have := ih.1 f args h K hh; rw [AC2_lt this.1]; exact this.2) (m := m) (fun c ac t h' K hc hl => awp_rounds n (ih.2 m c ac t h' K hc hl)) c ac t h _ hc hw
      show AWp P m c _ t h
      refine this.mono fun e t h hk => ?_
      cases e with
      | normal => exact ih.2 m c ac t h K hc hk
      | exit id => exact hk
      | ret => exact hk

theorem run_sound {P : Program} {R : Type} {bot : R} {holds : R → Prop} {tab : FuncId → Option AFunc} (hmix : P.follows .mixedOrders = true) (hbot : ¬ holds bot) (htab : ∀ f af, tab f = some af → cFunc P f = some af) (n : Nat) :
    (∀ f args h K, holds (callF P bot tab n f args h K) → AC P f args h (fun v h' => holds (K v h'))) ∧
    (∀ m c ac t h K, cCode P c = some ac → holds (loopF P bot tab n ac t h K) → ARounds P m c (fun e t h => holds (K e t h)) n t h) :=
  ⟨fun f args h K hw => ((run_sound2 hmix hbot htab n).1 f args h K hw).2, (run_sound2 hmix hbot htab n).2⟩

end Abs
end Go.Proofs.Ytekhadlpcdjlpaa
