/- Abstract triples for code and calls; the rules of control. -/
import Derived.Test.YtekhadlpcdjlpaaAbs1
namespace Go.Proofs.Ytekhadlpcdjlpaa
namespace Abs
open Go
set_option linter.unusedVariables false
set_option linter.unusedSimpArgs false

/-- The temporaries, as far as they are known. -/
abbrev T := List (Option Value)

structure TRel (ρ : Ren) (n : Nat → Bool) (t : T) (a : Act) : Prop where
  defers : a.defers = []
  size : a.tmps.size = t.length
  val : ∀ (i : Nat) v, t[i]? = some (some v) → ∃ u, a.tmps[i]? = some u ∧ VR ρ n v u

theorem TRel.mono {ρ ρ' : Ren} {n m : Nat → Bool} {t : T} {a : Act} (h : TRel ρ n t a) (hn : ∀ b, n b = true → m b = true) (he : ∀ b, n b = true → (ρ' b).al = (ρ b).al) : TRel ρ' m t a :=
  ⟨h.defers, h.size, fun i v hv => let ⟨u, h1, h2⟩ := h.val i v hv; ⟨u, h1, h2.mono hn he⟩⟩

def T.put (t : T) : Option Tmp → Value → T
  | some d, v => t.set d (some v)
  | none, _ => t

theorem TRel.put {ρ : Ren} {n : Nat → Bool} {t : T} {a : Act} (h : TRel ρ n t a) (d : Option Tmp) {v u : Value} (hv : VR ρ n v u) : TRel ρ n (t.put d v) (a.put d u) := by
  cases d with
  | none => exact h
  | some d =>
    refine ⟨h.defers, by simp [T.put, Act.put, h.size], fun i x hx => ?_⟩
    simp only [T.put, List.getElem?_set] at hx
    split at hx
    · rename_i e
      subst e
      split at hx
      · rename_i hd
        injection hx with hx
        injection hx with hx
        subst hx
        exact ⟨u, by simp [Act.put, Array.getElem?_setIfInBounds, h.size, hd], hv⟩
      · cases hx
    · rename_i e
      obtain ⟨y, h1, h2⟩ := h.val i x hx
      exact ⟨y, by simp [Act.put, Array.getElem?_setIfInBounds, e, h1], h2⟩

/-- Nothing is known of them any more, but for those that are listed. -/
def T.keep (t : T) (l : List Nat) : T := t.zipIdx.map fun x => if l.contains x.2 then x.1 else none

inductive AExit where
  | normal
  | exit (id : Nat)
  | ret
  deriving DecidableEq

def AExit.is : AExit → Exit → Prop
  | .normal, e => e = .normal
  | .exit id, e => e = .exit id
  | .ret, e => e = .ret

section
variable (P : Program)

/-- How code may leave the world. m: the names that stay. -/
def Beh (m : Nat) (Q : AExit → T → AH → Prop) (ρ : Ren) (h : AH) (w : World) : Exit → Act → World → Prop := fun e a' w' =>
  ∃ e' t' h' ρ', e'.is e ∧ Q e' t' h' ∧ Rel ρ' h' w' ∧ TRel ρ' (live h') t' a' ∧ Next m ρ h w ρ' h' w' ∧ m ≤ h'.length

/-- Code, from what is known to what is known behind it. -/
def AWp (m : Nat) (c : Code) (Q : AExit → T → AH → Prop) (t : T) (h : AH) : Prop :=
  ∀ (ρ : Ren) (w : World) (a : Act), Rel ρ h w → TRel ρ (live h) t a → m ≤ h.length → c.wp P (Beh m Q ρ h w) a w

/-- Has a function a text of its own? -/
def enterB (f : FuncId) : Bool := match P.funcs[f]? with
  | some fn => fn.body.isSome && !(fn.name == "runtime.NumGoroutine")
  | none => false

/-- A call. -/
def AC (f : FuncId) (args : List Value) (h : AH) (Post : Value → AH → Prop) : Prop :=
  enterB P f = true ∧ ∀ (ρ : Ren) (w : World) (us : Array Value), Rel ρ h w → us.size = args.length → (∀ (i : Nat) v, args[i]? = some v → ∃ u, us[i]? = some u ∧ VR ρ (live h) v u) →
    Calls P f us w fun e w' => ∃ v u h' ρ', e = .returned u ∧ VR ρ' (live h') v u ∧ Post v h' ∧ Rel ρ' h' w' ∧ Next h.length ρ h w ρ' h' w' ∧ h.length ≤ h'.length
end

section
variable {P : Program} {m : Nat} {Q Q' : AExit → T → AH → Prop} {t : T} {h : AH}

theorem Beh.trans {ρ ρ1 : Ren} {h1 : AH} {w w1 : World} {e : Exit} {a : Act} {w2 : World} (n : Next m ρ h w ρ1 h1 w1) (b : Beh m Q ρ1 h1 w1 e a w2) : Beh m Q ρ h w e a w2 :=
  let ⟨e', t', h', ρ', he, hq, r, tr, nx, hm⟩ := b
  ⟨e', t', h', ρ', he, hq, r, tr, n.trans nx, hm⟩

theorem AC.mono {f : FuncId} {args : List Value} {Post Post' : Value → AH → Prop} (hc : AC P f args h Post) (hp : ∀ v h', Post v h' → Post' v h') : AC P f args h Post' :=
  ⟨hc.1, fun ρ w us r hs ha => (hc.2 ρ w us r hs ha).mono fun e w' ⟨v, u, h', ρ', h1, h2, h3, h4⟩ => ⟨v, u, h', ρ', h1, h2, hp _ _ h3, h4⟩⟩

theorem AWp.mono {c : Code} (hw : AWp P m c Q t h) (hq : ∀ e t h, Q e t h → Q' e t h) : AWp P m c Q' t h :=
  fun ρ w a r tr hm => wp_mono (hw ρ w a r tr hm) fun e a' w' ⟨e', t', h', ρ', h1, h2, h3⟩ => ⟨e', t', h', ρ', h1, hq _ _ _ h2, h3⟩

theorem awp_skip (hq : Q .normal t h) : AWp P m .skip Q t h :=
  fun ρ w a r tr hm => wp_skip ⟨.normal, t, h, ρ, rfl, hq, r, tr, Next.refl _ _ _ _, hm⟩

theorem awp_exit {id : Nat} (hq : Q (.exit id) t h) : AWp P m (.exit id) Q t h :=
  fun ρ w a r tr hm => wp_exit ⟨.exit id, t, h, ρ, rfl, hq, r, tr, Next.refl _ _ _ _, hm⟩

theorem awp_ret (hq : Q .ret t h) : AWp P m .ret Q t h :=
  fun ρ w a r tr hm => wp_ret ⟨.ret, t, h, ρ, rfl, hq, r, tr, Next.refl _ _ _ _, hm⟩

/-- What comes behind code that ends normally. -/
def thenQ (K : T → AH → Prop) (Q : AExit → T → AH → Prop) : AExit → T → AH → Prop
  | .normal, t, h => K t h
  | e, t, h => Q e t h

theorem awp_seq {x y : Code} (hx : AWp P m x (thenQ (AWp P m y Q) Q) t h) : AWp P m (.seq x y) Q t h := by
  intro ρ w a r tr hm
  refine wp_seq (wp_mono (hx ρ w a r tr hm) ?_)
  rintro e a' w' ⟨e', t', h', ρ', he, hq, r', tr', nx, hm'⟩
  cases e' with
  | normal =>
    simp only [AExit.is] at he
    subst he
    simp only [Exit.then]
    simp only [thenQ] at hq
    exact wp_mono (hq ρ' w' a' r' tr' hm') fun e a2 w2 hb => Beh.trans nx hb
  | exit id =>
    simp only [AExit.is] at he
    subst he
    exact ⟨.exit id, t', h', ρ', rfl, hq, r', tr', nx, hm'⟩
  | ret =>
    simp only [AExit.is] at he
    subst he
    exact ⟨.ret, t', h', ρ', rfl, hq, r', tr', nx, hm'⟩

def blockQ (id : Nat) (Q : AExit → T → AH → Prop) : AExit → T → AH → Prop
  | .exit i, t, h => if i = id then Q .normal t h else Q (.exit i) t h
  | e, t, h => Q e t h

theorem awp_block {id : Nat} {c : Code} (hx : AWp P m c (blockQ id Q) t h) : AWp P m (.block id c) Q t h := by
  intro ρ w a r tr hm
  refine wp_block (wp_mono (hx ρ w a r tr hm) ?_)
  rintro e a' w' ⟨e', t', h', ρ', he, hq, rest⟩
  cases e' with
  | normal =>
    simp only [AExit.is] at he
    subst he
    exact ⟨.normal, t', h', ρ', rfl, hq, rest⟩
  | exit i =>
    simp only [AExit.is] at he
    subst he
    simp only [Exit.inBlock]
    simp only [blockQ] at hq
    split
    · rename_i e
      rw [if_pos e] at hq
      exact ⟨.normal, t', h', ρ', rfl, hq, rest⟩
    · rename_i e
      rw [if_neg e] at hq
      exact ⟨.exit i, t', h', ρ', rfl, hq, rest⟩
  | ret =>
    simp only [AExit.is] at he
    subst he
    exact ⟨.ret, t', h', ρ', rfl, hq, rest⟩

def nil : Nat → Bool := fun _ => false
/-- No names in it. -/
abbrev plain (v : Value) : Bool := scp nil v

/-- An operand's value, as far as it is known. -/
def evalO (t : T) : Operand → Option Value
  | .tmp i => t[i]?.join
  | .const v => if plain v then some v else none
  | .func f => some (.func (.func f) #[] #[])
  | .global _ => none

mutual
theorem conc_zero (ρ : Ren) : ∀ v, plain v = true → conc ρ v = v
  | .pointer (some a), hs => by simp [scp, nil] at hs
  | .slice (some a) _ _, hs => by simp [scp, nil] at hs
  | .map (some r), hs => by simp [scp, nil] at hs
  | .chan (some r), hs => by simp [scp, nil] at hs
  | .func fn first captured, hs => by
    simp only [scp, Bool.and_eq_true] at hs
    simp only [conc, concA_zero ρ first hs.1, concA_zero ρ captured hs.2]
  | .iface t v, hs => by simp only [scp] at hs; simp only [conc, conc_zero ρ v hs]
  | .agg cs, hs => by simp only [scp] at hs; simp only [conc, concA_zero ρ cs hs]
  | .tuple cs, hs => by simp only [scp] at hs; simp only [conc, concA_zero ρ cs hs]
  | .pointer none, _ => by simp only [conc]
  | .slice none _ _, _ => by simp only [conc]
  | .map none, _ => by simp only [conc]
  | .chan none, _ => by simp only [conc]
  | .bool b, _ => by simp only [conc]
  | .int k n, _ => by simp only [conc]
  | .float k n, _ => by simp only [conc]
  | .complex k a b, _ => by simp only [conc]
  | .string s, _ => by simp only [conc]
  | .nilFunc, _ => by simp only [conc]
  | .nilIface, _ => by simp only [conc]
theorem concA_zero (ρ : Ren) : ∀ v, scpA nil v = true → concA ρ v = v
  | ⟨l⟩, hs => by simp only [scpA] at hs; simp only [concA, concL_zero ρ l hs]
theorem concL_zero (ρ : Ren) : ∀ v, scpL nil v = true → concL ρ v = v
  | [], _ => by simp only [concL]
  | v :: l, hs => by
    simp only [scpL, Bool.and_eq_true] at hs
    simp only [concL, conc_zero ρ v hs.1, concL_zero ρ l hs.2]
end

theorem VR.plain {ρ : Ren} {n : Nat → Bool} {v : Value} (h : plain v = true) : VR ρ n v v := ⟨scp_mono (fun b hb => by cases hb) v h, (conc_zero ρ v h).symm⟩

theorem evalO_VR {ρ : Ren} {n : Nat → Bool} {t : T} {a : Act} (tr : TRel ρ n t a) {x : Operand} {v : Value} (h : evalO t x = some v) : VR ρ n v (a.eval x) := by
  cases x with
  | tmp i =>
    simp only [evalO] at h
    cases hi : t[i]? with
    | none => rw [hi] at h; cases h
    | some o =>
      rw [hi] at h
      simp only [Option.join_some] at h
      subst h
      obtain ⟨u, h1, h2⟩ := tr.val i v hi
      have : a.eval (.tmp i) = u := by simp [Act.eval, Array.getD_eq_getD_getElem?, h1]
      rw [this]
      exact h2
  | const c =>
    simp only [evalO] at h
    split at h
    · rename_i hs
      injection h with h
      subst h
      exact VR.plain hs
    · cases h
  | func f =>
    simp only [evalO] at h
    injection h with h
    subst h
    exact VR.plain rfl
  | global g => simp [evalO] at h

theorem awp_cond {c : Operand} {x y : Code} {b : Bool} (hc : evalO t c = some (.bool b)) (hx : AWp P m (if b then x else y) Q t h) : AWp P m (.cond c x y) Q t h := by
  intro ρ w a r tr hm
  have h1 := evalO_VR tr hc
  have h2 : a.eval c = .bool b := by rw [h1.2]; rfl
  exact wp_cond h2 (hx ρ w a r tr hm)

/-- So many rounds of a loop. -/
def ARounds (P : Program) (m : Nat) (c : Code) (Q : AExit → T → AH → Prop) : Nat → T → AH → Prop
  | 0, _, _ => False
  | n + 1, t, h => AWp P m c (thenQ (ARounds P m c Q n) Q) t h

theorem rounds_of {c : Code} {ρ : Ren} {w : World} : ∀ (n : Nat) (t' : T) (h' : AH) (ρ' : Ren) (a' : Act) (w' : World), ARounds P m c Q n t' h' → Rel ρ' h' w' → TRel ρ' (live h') t' a' → Next m ρ h w ρ' h' w' → m ≤ h'.length →
    Code.rounds P c (Beh m Q ρ h w) n a' w' := by
  intro n
  induction n with
  | zero => intro t' h' ρ' a' w' hr; exact hr.elim
  | succ n ih =>
    intro t' h' ρ' a' w' hr r tr nx hm
    rw [rounds_succ]
    refine wp_mono (hr ρ' w' a' r tr hm) ?_
    rintro e a2 w2 ⟨e', t2, h2, ρ2, he, hq, r2, tr2, nx2, hm2⟩
    cases e' with
    | normal =>
      simp only [AExit.is] at he
      subst he
      simp only [thenQ] at hq
      exact ih t2 h2 ρ2 a2 w2 hq r2 tr2 (nx.trans nx2) hm2
    | exit id =>
      simp only [AExit.is] at he
      subst he
      exact ⟨.exit id, t2, h2, ρ2, rfl, hq, r2, tr2, nx.trans nx2, hm2⟩
    | ret =>
      simp only [AExit.is] at he
      subst he
      exact ⟨.ret, t2, h2, ρ2, rfl, hq, r2, tr2, nx.trans nx2, hm2⟩

theorem awp_rounds {c : Code} (n : Nat) (hr : ARounds P m c Q n t h) : AWp P m (.loop c) Q t h :=
  fun ρ w a r tr hm => wp_loop_rounds n (rounds_of n t h ρ a w hr r tr (Next.refl _ _ _ _) hm)

theorem ARounds.more {c : Code} : ∀ (n k : Nat) (t : T) (h : AH), n ≤ k → ARounds P m c Q n t h → ARounds P m c Q k t h := by
  intro n
  induction n with
  | zero => intro k t h _ hr; exact hr.elim
  | succ n ih =>
    intro k t h hk hr
    obtain ⟨k, rfl⟩ : ∃ j, k = j + 1 := ⟨k - 1, by omega⟩
    refine AWp.mono (Q := thenQ (ARounds P m c Q n) Q) hr fun e t' h' hq => ?_
    cases e <;> first | exact hq | exact ih k t' h' (by omega) hq

/-- A loop, by what holds at the head of each round, and a number that falls. -/
theorem awp_loop {c : Code} (I : Nat → T → AH → Prop) (n0 : Nat) (h0 : I n0 t h) (hr : ∀ n t h, I n t h → AWp P m c (thenQ (fun t h => ∃ n', n' < n ∧ I n' t h) Q) t h) : AWp P m (.loop c) Q t h := by
  have key : ∀ n t h, I n t h → ARounds P m c Q (n + 1) t h := by
    intro n
    induction n using Nat.strongRecOn with
    | _ n ih =>
      intro t h hI
      refine AWp.mono (hr n t h hI) fun e t' h' hq => ?_
      cases e with
      | normal =>
        obtain ⟨n', hn, hI'⟩ := hq
        exact ARounds.more (n' + 1) n t' h' (by omega) (ih n' hn t' h' hI')
      | exit id => exact hq
      | ret => exact hq
  exact awp_rounds (n0 + 1) (key n0 t h h0)

/-- Some of what is known is let go: temporaries, and the newest names. -/
theorem awp_less {c : Code} {t2 : T} {h2 : AH} (ht : t2.length = t.length) (hv : ∀ (i : Nat) v, t2[i]? = some (some v) → t[i]? = some (some v) ∧ scp (live h2) v = true) (hp : h2 = h.take h2.length) (hs : ∀ (b : Nat) (k : ABlk), h2[b]? = some k → k.scp (live h2)) (hm2 : m ≤ h2.length) (hw : AWp P m c Q t2 h2) : AWp P m c Q t h := by
  intro ρ w a r tr hm
  have get : ∀ (b : Nat) (k : ABlk), h2[b]? = some k → h[b]? = some k := by
    intro b k hb
    rw [hp, List.getElem?_take] at hb
    split at hb
    · exact hb
    · cases hb
  have r2 : Rel ρ h2 w := ⟨fun b k hb => r.holds b k (get b k hb), hs, fun b c k l hb hc => r.apart b c k l (get b k hb) (get c l hc)⟩
  have tr2 : TRel ρ (live h2) t2 a := ⟨tr.defers, by rw [ht]; exact tr.size, fun i v hi => by
    obtain ⟨h1, h3⟩ := hv i v hi
    obtain ⟨u, hu, hvr⟩ := tr.val i v h1
    exact ⟨u, hu, h3, hvr.2⟩⟩
  refine wp_mono (hw ρ w a r2 tr2 hm2) ?_
  rintro e a' w' ⟨e', t', h', ρ', he, hq, r', tr', nx, hm'⟩
  refine ⟨e', t', h', ρ', he, hq, r', tr', ⟨nx.ext, fun b hb hl => nx.lives b hb ?_, nx.os, nx.tape, nx.output, nx.size, fun x hx hn => nx.keep x hx (fun b k hb => hn b k (get b k hb)), fun b k hb x hx => ?_, fun b k hb x hx => ?_⟩, hm'⟩
  · unfold live at hl ⊢
    rw [hp, List.getElem?_take, if_pos (by omega)]
    exact hl
  · rcases nx.prov b k hb x hx with h1 | ⟨b0, k0, h1, h3⟩
    · exact .inl h1
    · exact .inr ⟨b0, k0, get b0 k0 h1, h3⟩
  · rcases nx.prow b k hb x hx with h1 | ⟨b0, k0, h1, h3⟩
    · exact .inl h1
    · exact .inr ⟨b0, k0, get b0 k0 h1, h3⟩

end
end Abs
end Go.Proofs.Ytekhadlpcdjlpaa
