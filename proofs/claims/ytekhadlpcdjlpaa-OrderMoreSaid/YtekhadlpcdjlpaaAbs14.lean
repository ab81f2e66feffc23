/- A region: its operations in one order, whatever order is drawn. -/
import Derived.Test.YtekhadlpcdjlpaaAbs13
namespace Go.Proofs.Ytekhadlpcdjlpaa
namespace Abs
open Go
set_option linter.unusedVariables false
set_option linter.unusedSimpArgs false

def cOper (P : Program) (ops : Array Oper) (o : Oper) : Option AOper := match cOp P o.op with
  | none => none
  | some ao => match o.guard with
    | none => some ⟨o.dst, ao, none⟩
    | some (j, want) => match (ops[j]?).bind (·.dst) with
      | some d => some ⟨o.dst, ao, some (d, want)⟩
      | none => none

/-- Is an operation to be carried out? -/
def wantedA (t : T) : Option (Tmp × Bool) → Option Bool
  | none => some true
  | some (d, want) => match evalO t (.tmp d) with
    | some (.bool b) => some (b == want)
    | some (.tuple _) => some false
    | _ => none

/-- The temporaries that it looks at. -/
def looks (x : AOper) : List Nat := (opnds x.op).filterMap (fun | .tmp i => some i | _ => none) ++ (match x.guard with | some (d, _) => [d] | none => [])

/-- Two operations that share no temporary. -/
def apartB (x y : AOper) : Bool :=
  (match x.dst with | some d => !(looks y).contains d && y.dst != some d | none => true) && (match y.dst with | some d => !(looks x).contains d | none => true)

section
variable {P : Program} {ρ : Ren} {t : T} {h h' : AH} {w : World} {a : Act}

theorem evalO_tmp {d : Nat} {v : Value} (hv : evalO t (.tmp d) = some v) : t[d]? = some (some v) := by
  simp only [evalO] at hv
  cases hd : t[d]? with
  | none => rw [hd] at hv; cases hv
  | some x => rw [hd] at hv; simp only [Option.join_some] at hv; rw [hv]

theorem wanted_eq {ops : Array Oper} {o : Oper} {x : AOper} {r : Bool} {L : Nat → Bool} (hc : cOper P ops o = some x) (tr : TRel ρ L t a) (hw : wantedA t x.guard = some r) : Region.wanted o (yielded ops a.tmps) = r := by
  unfold cOper at hc
  split at hc
  case h_1 => cases hc
  rename_i ao hao
  split at hc
  · rename_i hg
    injection hc with hc
    subst hc
    simp only [wantedA] at hw
    injection hw with hw
    subst hw
    simp [Region.wanted, hg]
  · rename_i j want hg
    split at hc
    case h_2 => cases hc
    rename_i d hd
    injection hc with hc
    subst hc
    simp only [wantedA] at hw
    split at hw
    case h_3 => cases hw
    · rename_i b hb
      injection hw with hw
      subst hw
      obtain ⟨u, hu, vr⟩ := tr.val d _ (evalO_tmp hb)
      have hub : u = .bool b := vr.2
      subst hub
      simp only [Region.wanted, hg, yielded, hd, Option.bind_some, hu]
      cases b <;> cases want <;> rfl
    · rename_i cs hb
      injection hw with hw
      subst hw
      obtain ⟨u, hu, vr⟩ := tr.val d _ (evalO_tmp hb)
      have hub : u = .tuple (concA ρ cs) := vr.2
      subst hub
      simp only [Region.wanted, hg, yielded, hd, Option.bind_some, hu]
      rfl

theorem cOper_op {ops : Array Oper} {o : Oper} {x : AOper} (hc : cOper P ops o = some x) : cOp P o.op = some x.op ∧ x.dst = o.dst := by
  unfold cOper at hc
  split at hc
  case h_1 => cases hc
  rename_i ao hao
  split at hc
  · injection hc with hc; subst hc; exact ⟨hao, rfl⟩
  · split at hc
    · injection hc with hc; subst hc; exact ⟨hao, rfl⟩
    · cases hc

structure ApartA (x y : AOper) : Prop where
  h1 : ∀ d, x.dst = some d → d ∉ looks y
  h2 : ∀ d, x.dst = some d → y.dst ≠ some d
  h3 : ∀ d, y.dst = some d → d ∉ looks x

theorem apartB_spec {x y : AOper} (hb : apartB x y = true) : ApartA x y := by
  unfold apartB at hb
  simp only [Bool.and_eq_true] at hb
  refine ⟨fun d hd => ?_, fun d hd => ?_, fun d hd => ?_⟩
  · have := hb.1
    rw [hd] at this
    simp at this
    exact this.1
  · have := hb.1
    rw [hd] at this
    simp at this
    exact this.2
  · have := hb.2
    rw [hd] at this
    simpa using this

theorem ApartA.symm {x y : AOper} (ap : ApartA x y) : ApartA y x := ⟨ap.h3, fun d hd he => ap.h2 d he hd, ap.h1⟩

theorem looks_put {x : AOper} {d : Option Tmp} {v : Value} (hd : ∀ i, d = some i → i ∉ looks x) : (∀ y ∈ opnds x.op, evalO (t.put d v) y = evalO t y) ∧ wantedA (t.put d v) x.guard = wantedA t x.guard := by
  refine ⟨fun y hy => evalO_put fun i hi e => hd i e ?_, ?_⟩
  · unfold looks
    refine List.mem_append_left _ (List.mem_filterMap.2 ⟨y, hy, ?_⟩)
    rw [hi]
  · cases hg : x.guard with
    | none => rfl
    | some g =>
      obtain ⟨e, want⟩ := g
      simp only [wantedA]
      rw [evalO_put fun i hi he => hd i he (by
        unfold looks
        rw [hg]
        injection hi with hi
        subst hi
        simp)]

end

section
variable (P : Program) (aos : Nat → AOper) (hn : Nat → Nat) (chk : Nat → Nat → Bool) (K : T → AH → Prop)

/-- The reads so far, and what they gave. -/
abbrev Reads := List (Nat × (AH → Option Value) × Value)

def okD (i : Nat) (D : Reads) (h : AH) : Prop := ∀ d ∈ D, chk i d.1 = true → d.2.1 h = some d.2.2
def holesOk (rem : List Nat) (h : AH) : Prop := ∀ j ∈ rem, kd (aos j).op = 2 → h[hn j]? = some .hole

/-- What needs neither to read nor to write. -/
def stepQ (t : T) (x : AOper) (v : Value) : Prop := (wantedA t x.guard = some false ∧ v = undef) ∨ (wantedA t x.guard = some true ∧ evP P t x.op = some v)

/-- One operation, and what follows. -/
def Stp (i : Nat) (rem : List Nat) (D : Reads) (t : T) (h : AH) (k : Reads → T → AH → Prop) : Prop :=
  (∃ v, stepQ P t (aos i) v ∧ k D (t.put (aos i).dst v) h) ∨ (wantedA t (aos i).guard = some true ∧
    ((∃ v, evR t h (aos i).op = some v ∧ k ((i, fun h => evR t h (aos i).op, v) :: D) (t.put (aos i).dst v) h) ∨
     (∃ v b, evF t (hn i) (aos i).op = some (v, b) ∧ h[hn i]? = some .hole ∧ k D (t.put (aos i).dst v) (h.set (hn i) b)) ∨
     (∃ v h', evL t h (aos i).op = some (v, h') ∧ okD chk i D h' ∧ k D (t.put (aos i).dst v) h') ∨
     (∃ f args, evC t (aos i).op = some (f, args) ∧ AC P f args h (fun v h' => okD chk i D h' ∧ holesOk aos hn rem h' ∧ k D (t.put (aos i).dst v) h'))))

/-- The operations in the order of the list. -/
def LA : List Nat → Reads → T → AH → Prop
  | [], _, t, h => K t h
  | i :: rem, D, t, h => Stp P aos hn chk i rem D t h (LA rem)
end

section
variable {P : Program} {ρ : Ren} {t : T} {h : AH} {w : World} {a : Act}

theorem evF_block {ao : AOp} {n : Nat} {v : Value} {k : ABlk} (hv : evF t n ao = some (v, k)) : k ≠ .hole := by
  rintro rfl
  cases ao <;> simp only [evF] at hv
  all_goals repeat' split at hv
  all_goals first
    | (cases hv; done)
    | (injection hv with hv; injection hv with _ hv; cases hv)

/-- A new block, in memory. -/
theorem fresh_step (r : Rel ρ h w) (tr : TRel ρ (live h) t a) {o : Oper} {ao : AOp} {n : Nat} {v : Value} {k : ABlk} (hc : cOp P o.op = some ao) (hv : evF t n ao = some (v, k)) (hn : h[n]? = some .hole) :
    ∃ u w', (execOp a.eval o).run P w = .ok (.value u) w' ∧ VR (upd ρ n ⟨w.heap.size, 0, 0, []⟩) (live (h.set n k)) v u ∧ Rel (upd ρ n ⟨w.heap.size, 0, 0, []⟩) (h.set n k) w' ∧ (∀ m, m ≤ n → Next m ρ h w (upd ρ n ⟨w.heap.size, 0, 0, []⟩) (h.set n k) w') := by
  have fo : FreshOk P ρ h n a o w v k := sound_fresh hc tr hv
  have hk : k ≠ .hole := evF_block hv
  have hlt : n < h.length := (List.getElem?_eq_some_iff.1 hn).1
  obtain ⟨u, obj, hrun, hfin⟩ := fo.run
  have hnl : ∀ b, live h b = true → b ≠ n := by
    rintro b hb rfl
    unfold live at hb
    rw [hn] at hb
    cases hb
  obtain ⟨e1, e2⟩ := hfin (upd ρ n ⟨w.heap.size, 0, 0, []⟩) (fun b hb => upd_ne b (hnl b hb)) (upd_self _ _ _)
  rw [upd_self] at e2
  obtain ⟨hs1, hs2⟩ := fo.vscp (live (h.set n k)) (fun b hb => live_set hk b hb) (live_of (List.getElem?_set_self hlt) hk)
  have heap : ∀ x, x < w.heap.size → (w.alloc obj).heap[x]? = w.heap[x]? := fun x hx => alloc_old w _ hx
  have R := r.fill (k := k) (cb := ⟨w.heap.size, 0, 0, []⟩) hn hk hs2 e2 (fun b l hb x hx => heap x (r.reach_lt hb x hx))
    (fun b l hb x hx hx' => by
      rw [(fo.foot _).2, List.mem_singleton] at hx'
      have := r.reach_lt hb x (foot_reach hx)
      simp only at hx'
      omega)
    (fun b l hb x hx hx' => by
      rw [(fo.foot _).1, List.mem_singleton] at hx'
      have := r.reach_lt hb x hx
      simp only at hx'
      omega)
  refine ⟨u, _, hrun, ⟨hs1, e1⟩, R, fun m hm => ⟨fun b hb => upd_al b (by omega), fun b hb hl => live_set hk b hl, rfl, rfl, rfl, by simp, fun x hx _ => heap x hx, fun b l hb x hx => ?_, fun b l hb x hx => ?_⟩⟩
  · rcases get_set hb with ⟨rfl, rfl⟩ | ⟨hne, hb⟩
    · rw [upd_self, (fo.foot _).1, List.mem_singleton] at hx
      simp only at hx
      exact .inl (by omega)
    · rw [upd_ne _ hne] at hx
      exact .inr ⟨b, l, hb, hx⟩
  · rcases get_set hb with ⟨rfl, rfl⟩ | ⟨hne, hb⟩
    · rw [upd_self, (fo.foot _).2, List.mem_singleton] at hx
      simp only at hx
      exact .inl (by omega)
    · rw [upd_ne _ hne] at hx
      exact .inr ⟨b, l, hb, hx⟩

theorem fresh_rel (r : Rel ρ h w) (tr : TRel ρ (live h) t a) {o : Oper} {ao : AOp} {n : Nat} {v : Value} {k : ABlk} (hc : cOp P o.op = some ao) (hv : evF t n ao = some (v, k)) (hn : h[n]? = some .hole) : ∃ ρ w, Rel ρ (h.set n k) w :=
  let ⟨_, w', _, _, r', _⟩ := fresh_step r tr hc hv hn
  ⟨_, w', r'⟩

end

/-- What holds all the while. -/
structure Inv (aos : Nat → AOper) (hn : Nat → Nat) (rem : List Nat) (D : Reads) (t : T) (h : AH) : Prop where
  rel : ∃ ρ w, Rel ρ h w
  tk : TOK (live h) t
  holes : holesOk aos hn rem h
  reads : ∀ d ∈ D, ∀ (h : AH) (n : Nat) (k : ABlk) (v : Value), h[n]? = some .hole → d.2.1 h = some v → d.2.1 (h.set n k) = some v

section
variable {P : Program} {aos : Nat → AOper} {hn : Nat → Nat} {chk : Nat → Nat → Bool} {K : T → AH → Prop} {t : T} {h : AH}

theorem AC.rel {f : FuncId} {args : List Value} {Post : Value → AH → Prop} (hc : AC P f args h Post) : AC P f args h (fun v h' => Post v h' ∧ LOK h v h' ∧ ∃ ρ w, Rel ρ h' w) :=
  ⟨hc.1, fun ρ w us r hs ha => (hc.2 ρ w us r hs ha).mono fun e w' ⟨v, u, h', ρ', h1, h2, h3, h4, h5, h6⟩ =>
    ⟨v, u, h', ρ', h1, h2, ⟨h3, ⟨h4.ok, h2.1, fun b hb => h5.lives b (live_lt hb) hb, h6⟩, ρ', w', h4⟩, h4, h5, h6⟩⟩

theorem VRs_of {ρ : Ren} {L : Nat → Bool} {args : List Value} (ha : scpL L args = true) : ∃ us : Array Value, us.size = args.length ∧ ∀ (i : Nat) v, args[i]? = some v → ∃ u, us[i]? = some u ∧ VR ρ L v u :=
  ⟨(args.map (conc ρ)).toArray, by simp, fun i v hv => ⟨conc ρ v, by simp [hv], scpL_iff.1 ha v (List.mem_of_getElem? hv), rfl⟩⟩

/-- A call comes to something. -/
theorem AC.outcome {f : FuncId} {args : List Value} {Post : Value → AH → Prop} (hc : AC P f args h Post) (hr : ∃ ρ w, Rel ρ h w) (ha : scpL (live h) args = true) : ∃ v h', Post v h' := by
  obtain ⟨ρ, w, r⟩ := hr
  obtain ⟨us, h1, h2⟩ := VRs_of (ρ := ρ) ha
  obtain ⟨e, w', fr, ⟨v, u, h', ρ', _, _, hp, _⟩, _⟩ := hc.2 ρ w us r h1 h2 []
  exact ⟨v, h', hp⟩

theorem evC_scp {L : Nat → Bool} (tk : TOK L t) {ao : AOp} {f : FuncId} {args : List Value} (hv : evC t ao = some (f, args)) : scpL L args = true := by
  cases ao <;> try (simp only [evC] at hv; cases hv; done)
  case call g xs =>
    simp only [evC] at hv
    split at hv
    case h_2 => cases hv
    rename_i fid first captured vs hf hx
    split at hv
    case isFalse => cases hv
    injection hv with hv
    injection hv with q1 q2
    subst q1 q2
    obtain ⟨a, ha⟩ := tk.act (fun _ => ⟨0, 0, 0, []⟩)
    have h1 := (evalL_VR ha hx).2
    have h2 := evalO_scp tk hf
    simp only [scp, Bool.and_eq_true] at h2
    rw [scpL_append, scpL_append, h1]
    obtain ⟨l⟩ := captured
    obtain ⟨l2⟩ := first
    have q1 : scpL L l = true := h2.2
    have q2 : scpL L l2 = true := h2.1
    simp [q1, q2]

theorem evC_kd {ao : AOp} {x : FuncId × List Value} (hv : evC t ao = some x) : kd ao = 4 := by
  cases ao <;> first
    | rfl
    | (simp only [evC] at hv; cases hv; done)

theorem Stp.mono {i : Nat} {rem rem' : List Nat} {D : Reads} {k k' : Reads → T → AH → Prop} {ops : Nat → Oper} (hops : cOp P (ops i).op = some (aos i).op) (hr : ∀ x, x ∈ rem → x ∈ rem') (hr' : ∀ x, x ∈ rem' → x ∈ rem) (hinj : ∀ x ∈ rem, kd (aos x).op = 2 → hn x ≠ hn i ∨ kd (aos i).op ≠ 2)
    (iv : Inv aos hn (i :: rem) D t h) (hk : ∀ D t h, Inv aos hn rem D t h → k D t h → k' D t h) (hs : Stp P aos hn chk i rem D t h k) : Stp P aos hn chk i rem' D t h k' := by
  obtain ⟨rel, tk, holes, reads⟩ := iv
  have holes' : holesOk aos hn rem h := fun j hj => holes j (List.mem_cons_of_mem _ hj)
  have ok : AOK h := let ⟨_, _, r⟩ := rel; r.ok
  rcases hs with ⟨v, hv, hl⟩ | ⟨hw, hs⟩
  · refine .inl ⟨v, hv, hk _ _ _ ⟨rel, tk.put ?_, holes', reads⟩ hl⟩
    rcases hv with ⟨_, rfl⟩ | ⟨_, hv⟩
    · rfl
    · exact evP_scp tk hops hv
  · refine .inr ⟨hw, ?_⟩
    rcases hs with ⟨v, hv, hl⟩ | ⟨v, b, hv, hh, hl⟩ | ⟨v, h', hv, ho, hl⟩ | ⟨f, args, hv, hc⟩
    · refine .inl ⟨v, hv, hk _ _ _ ⟨rel, tk.put (evR_scp ok tk hops hv), holes', fun d hd => ?_⟩ hl⟩
      rcases List.mem_cons.1 hd with rfl | hd
      · exact fun h n k v hn hv => evR_fill hn hv
      · exact reads d hd
    · refine .inr (.inl ⟨v, b, hv, hh, hk _ _ _ ⟨?_, ?_, ?_, reads⟩ hl⟩)
      · obtain ⟨ρ, w, r⟩ := rel
        obtain ⟨a, tr⟩ := tk.act ρ
        exact fresh_rel r tr hops hv hh
      · have hb : b ≠ .hole := evF_block hv
        refine (tk.mono fun c hc => live_set hb c hc).put (evF_scp tk hops hv (fun c hc => live_set hb c hc) ?_).1
        exact live_of (List.getElem?_set_self (List.getElem?_eq_some_iff.1 hh).1) hb
      · intro x hx h2
        rcases hinj x hx h2 with hne | hne
        · rw [List.getElem?_set_ne (fun e => hne e.symm)]
          exact holes' x hx h2
        · exact absurd (evF_kd hv) hne
    · have lk := evL_ok ok tk hv
      refine .inr (.inr (.inl ⟨v, h', hv, ho, hk _ _ _ ⟨?_, (tk.mono lk.lives).put lk.val, fun x hx h2 => (evL_fill (kb := .dead) (holes' x hx h2) hv).2, reads⟩ hl⟩))
      obtain ⟨ρ, w, r⟩ := rel
      obtain ⟨a, tr⟩ := tk.act ρ
      obtain ⟨_, _, w', ρ', _, _, _, r', _⟩ := sound_loud hops r tr hv
      exact ⟨ρ', w', r'⟩
    · refine .inr (.inr (.inr ⟨f, args, hv, hc.rel.mono fun v h' ⟨⟨h1, h2, h3⟩, lk, hrel⟩ => ⟨h1, fun x hx => h2 x (hr' x hx), hk _ _ _ ⟨hrel, (tk.mono lk.lives).put lk.val, h2, reads⟩ h3⟩⟩))

end
end Abs
end Go.Proofs.Ytekhadlpcdjlpaa
