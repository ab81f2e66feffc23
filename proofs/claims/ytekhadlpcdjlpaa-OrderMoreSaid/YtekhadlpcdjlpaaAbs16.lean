/- A region, whatever order is drawn; a region in a row. -/
import Derived.Test.YtekhadlpcdjlpaaAbs15
namespace Go.Proofs.Ytekhadlpcdjlpaa
namespace Abs
open Go
set_option linter.unusedVariables false
set_option linter.unusedSimpArgs false

/-- anc: of each operation which ones it surely waits for, as bits. -/
def ancB (ops : Array Oper) (anc : Array Nat) : Bool :=
  (List.range ops.size).all fun j => match ops[j]? with
    | none => false
    | some o => (o.after.toList.all fun e => !Region.binds .any e || decide (e.on < j)) &&
      ((List.range j).all fun i => !(anc.getD j 0).testBit i || o.after.toList.any fun e => Region.binds .any e && (e.on == i || (decide (i < e.on) && (anc.getD e.on 0).testBit i)))

section
variable {P : Program} {ops : Array Oper} {anc : Array Nat}

theorem anc_listed (hB : ancB ops anc = true) {listed : Array Bool} (hcl : ∀ (j : Nat) (oj : Oper), ops[j]? = some oj → listed.getD j false = true → ∀ e ∈ oj.after, Region.binds .any e = true → listed.getD e.on false = true) :
    ∀ (j : Nat) (oj : Oper), ops[j]? = some oj → (∀ e ∈ oj.after, Region.binds .any e = true → listed.getD e.on false = true) → ∀ i, i < j → (anc.getD j 0).testBit i = true → listed.getD i false = true := by
  intro j
  induction j using Nat.strongRecOn with
  | _ j ih =>
    intro oj hoj hp i hij hbit
    have hjs : j < ops.size := (Array.getElem?_eq_some_iff.1 hoj).1
    have h1 := List.all_eq_true.1 hB j (List.mem_range.2 hjs)
    simp only [hoj, Bool.and_eq_true] at h1
    have h2 := List.all_eq_true.1 h1.2 i (List.mem_range.2 hij)
    simp only [hbit, Bool.not_true, Bool.false_or] at h2
    obtain ⟨e, he, h3⟩ := List.any_eq_true.1 h2
    have he' : e ∈ oj.after := by simpa using he
    simp only [Bool.and_eq_true, Bool.or_eq_true, beq_iff_eq, decide_eq_true_eq] at h3
    obtain ⟨hb, h4⟩ := h3
    have hon := hp e he' hb
    rcases h4 with h4 | ⟨h4, h5⟩
    · rw [← h4]; exact hon
    · have hlt : e.on < j := by
        have := List.all_eq_true.1 h1.1 e he
        simpa [hb] using this
      obtain ⟨oe, hoe⟩ : ∃ oe, ops[e.on]? = some oe := ⟨_, Array.getElem?_eq_getElem (by omega)⟩
      exact ih e.on hlt oe hoe (hcl e.on oe hoe hon) i h4 h5

/-- What is left to do. -/
structure Left (ops : Array Oper) (listed : Array Bool) (rem : List Nat) : Prop where
  size : listed.size = ops.size
  nodup : rem.Nodup
  mem : ∀ k, k ∈ rem ↔ k < ops.size ∧ listed.getD k true = false
  closed : ∀ (j : Nat) (oj : Oper), ops[j]? = some oj → listed.getD j false = true → ∀ e ∈ oj.after, Region.binds .any e = true → listed.getD e.on false = true

theorem getD_tf {l : Array Bool} {i : Nat} (h : l.getD i true = false) : l.getD i false = false := by
  rcases Nat.lt_or_ge i l.size with h' | h'
  · simp [h'] at h ⊢; exact h
  · simp [Array.getElem?_eq_none h'] at h

theorem getD_ft {l : Array Bool} {i : Nat} (hi : i < l.size) (h : l.getD i true ≠ false) : l.getD i false = true := by
  simp [hi] at h ⊢; exact h

theorem getD_set_true {l : Array Bool} {i j : Nat} (h : l.getD j false = true) : (l.setIfInBounds i true).getD j false = true := by
  by_cases hij : i = j
  · subst hij
    have hi : i < l.size := by
      rcases Nat.lt_or_ge i l.size with h' | h'
      · exact h'
      · simp [Array.getElem?_eq_none h'] at h
    simp [hi]
  · rw [getD_set_ne false hij]; exact h

theorem Left.next {listed : Array Bool} {rem : List Nat} (h : Left ops listed rem) {i : Nat} (hr : i ∈ Region.ready .any ops listed) : Left ops (listed.setIfInBounds i true) (rem.erase i) := by
  obtain ⟨hun, oi, hoi, hall⟩ := mem_ready.1 hr
  refine ⟨by simp [h.size], h.nodup.sublist List.erase_sublist, fun k => ?_, fun j oj hj hl e he hb => ?_⟩
  · rw [h.nodup.mem_erase_iff, h.mem k]
    by_cases hki : k = i
    · subst hki
      have hks : k < listed.size := by rw [h.size]; exact (Array.getElem?_eq_some_iff.1 hoi).1
      simp [hks]
    · rw [getD_set_ne true (fun e => hki e.symm)]
      simp [hki]
  · by_cases hij : i = j
    · subst hij
      obtain rfl : oj = oi := Option.some.inj (hj.symm.trans hoi)
      exact getD_set_true (hall e he hb)
    · rw [getD_set_ne false hij] at hl
      exact getD_set_true (h.closed j oj hj hl e he hb)

theorem exists_min : ∀ (l : List Nat), l ≠ [] → ∃ j ∈ l, ∀ x ∈ l, j ≤ x
  | [], h => absurd rfl h
  | [x], _ => ⟨x, List.mem_cons_self .., fun y hy => by simp at hy; omega⟩
  | x :: y :: l, _ => by
    obtain ⟨j, hj, hm⟩ := exists_min (y :: l) (by simp)
    by_cases h : x ≤ j
    · exact ⟨x, List.mem_cons_self .., fun z hz => by
        rcases List.mem_cons.1 hz with rfl | hz
        · exact Nat.le_refl _
        · exact Nat.le_trans h (hm z hz)⟩
    · exact ⟨j, List.mem_cons_of_mem _ hj, fun z hz => by
        rcases List.mem_cons.1 hz with rfl | hz
        · omega
        · exact hm z hz⟩

end

/-- What two operations of the order have to be. -/
def pairOk (aos : Nat → AOper) (chk : Nat → Nat → Bool) (anc : Array Nat) (j i : Nat) : Bool :=
  (decide (j < i) && (anc.getD i 0).testBit j) || (apartB (aos i) (aos j) && compat (chk i j) (kd (aos j).op) (kd (aos i).op))

section
variable {P : Program} {ops : Array Oper} {anc : Array Nat} {aos : Nat → AOper} {hn : Nat → Nat} {chk : Nat → Nat → Bool} {K : T → AH → Prop} {m : Nat} {ρ0 : Ren} {h0 : AH} {w0 : World} {Q : AExit → T → AH → Prop}

/-- The calls of the model. -/
theorem run_call {o : Oper} {a : Act} {c : Call} {f : Operand} {fid : FuncId} {first captured : Array Value} (ho : o.op = .call c) (hcal : c.callee = .value f) (hf : a.eval f = .func (.func fid) first captured) (he : enterB P fid = true) (w : World) :
    (execOp a.eval o).run P w = .ok (.enter fid (first ++ c.args.map a.eval ++ captured)) w := by
  unfold enterB at he
  split at he
  case h_2 => cases he
  rename_i fn hfn
  simp only [Bool.and_eq_true, Bool.not_eq_true'] at he
  obtain ⟨body, hbody⟩ := Option.isSome_iff_exists.1 he.1
  unfold execOp
  simp only [ho, resolve, hcal, hf, Deferred.ofValue, pure_bind, invoke, callFunc]
  have hne : ¬ fn.name = "runtime.NumGoroutine" := by simpa using he.2
  simp [hfn, hne, hbody]

theorem call_step {o : Oper} {x : AOp} {t : T} {h : AH} {ρ : Ren} {w : World} {a : Act} {f : FuncId} {args : List Value} {Post : Value → AH → Prop} {next : Act → World → Prop} {QQ : Exit → Act → World → Prop} (hc : cOp P o.op = some x) (r : Rel ρ h w) (tr : TRel ρ (live h) t a) (hv : evC t x = some (f, args)) (hcall : AC P f args h Post)
    (hn : ∀ v u h' ρ' w', VR ρ' (live h') v u → Post v h' → Rel ρ' h' w' → Next h.length ρ h w ρ' h' w' → h.length ≤ h'.length → next (a.put o.dst u) w') : o.wp P a w next QQ := by
  have hk : kdOp P o.op = 4 := (cOp_kd hc).symm.trans (evC_kd hv)
  cases ho : o.op <;> rw [ho] at hc hk <;> simp only [cOp] at hc
  case call c =>
    obtain ⟨callee, xs, tys⟩ := c
    cases callee with
    | invoke r m => cases hc
    | builtin b =>
      exfalso
      simp only [kdOp] at hk
      split at hk
      · cases hk
      · cases hk
      · cases hk
      · split at hk
        · split at hk <;> cases hk
        · cases hk
      · cases hk
      · rename_i q3; exact q3 b rfl
    | value g =>
      simp only at hc
      injection hc with hc
      subst hc
      simp only [evC] at hv
      split at hv
      case h_2 => cases hv
      rename_i fid first captured vs hg hxs
      split at hv
      case isFalse => cases hv
      injection hv with hv
      injection hv with q1 q2
      subst q1 q2
      have vg := evalO_VR tr hg
      obtain ⟨e2, e3⟩ := evalL_VR tr hxs
      have eg : a.eval g = .func (.func fid) (concA ρ first) (concA ρ captured) := vg.2
      have hr := run_call (P := P) ho rfl eg hcall.1 w
      unfold Oper.wp
      rw [hr]
      simp only [Oper.upon]
      have hsc : scpL (live h) (first.toList ++ vs ++ captured.toList) = true := by
        have := vg.1
        simp only [scp, Bool.and_eq_true] at this
        rw [scpL_append, scpL_append, e3]
        obtain ⟨l⟩ := captured
        obtain ⟨l2⟩ := first
        have q1 : scpL (live h) l = true := this.2
        have q2 : scpL (live h) l2 = true := this.1
        simp [q1, q2]
      have hus : concA ρ first ++ xs.map a.eval ++ concA ρ captured = ((first.toList ++ vs ++ captured.toList).map (conc ρ)).toArray := by
        apply Array.ext'
        simp only [Array.toList_append, Array.toList_map, e2, concA_map, List.map_append]
      rw [hus]
      refine (hcall.2 ρ w _ r (by simp) fun i v hv => ⟨conc ρ v, by rw [List.getElem?_toArray, List.getElem?_map, hv]; rfl, scpL_iff.1 hsc v (List.mem_of_getElem? hv), rfl⟩).mono ?_
      rintro e w' ⟨v, u, h', ρ', rfl, vr, hp, r', nx, hl⟩
      exact hn v u h' ρ' w' vr hp r' nx hl
  all_goals (cases hk; done)

/-- What goes over a map. -/
theorem intr_step {o : Oper} {x : AOp} {t : T} {h : AH} {ρ : Ren} {w : World} {a : Act} {f : FuncId} {args : List Value} {Post : Value → AH → Prop} {next : Act → World → Prop} {QQ : Exit → Act → World → Prop} (hc : cOp P o.op = some x) (r : Rel ρ h w) (tr : TRel ρ (live h) t a) (hv : evI t x = some (f, args)) (hcall : IC P f args h Post)
    (hn : ∀ v u h' ρ' w', VR ρ' (live h') v u → Post v h' → Rel ρ' h' w' → Next h.length ρ h w ρ' h' w' → h.length ≤ h'.length → next (a.put o.dst u) w') : o.wp P a w next QQ := by
  have hk5 : kd x = 5 := by
    cases x <;> first
      | rfl
      | (simp only [evI] at hv; cases hv; done)
  have hk : kdOp P o.op = 5 := (cOp_kd hc).symm.trans hk5
  cases ho : o.op <;> rw [ho] at hc hk <;> simp only [cOp] at hc
  case range ty y =>
    split at hc
    case h_2 => cases hc
    rename_i k e hu
    injection hc with hc
    subst hc
    simp only [evI] at hv
    split at hv
    case h_2 => cases hv
    rename_i v0 hy
    injection hv with hv
    injection hv with q1 q2
    subst q1 q2
    have vy := evalO_VR tr hy
    obtain ⟨u, w', v, h', ρ', hrun, vr, hp, r', nx, hl⟩ := hcall ρ w v0 (Instr.range ty (conc ρ v0)) rfl (.inl ⟨rfl, ty, k, e, hu, rfl⟩) r vy.1
    have hex : (execOp a.eval o).run P w = .ok (.value u) w' := by
      unfold execOp
      simp only [ho, vy.2]
      exact run_val hrun
    unfold Oper.wp
    rw [hex]
    exact hn v u h' ρ' w' vr hp r' nx hl
  case next y st =>
    cases st
    case true => simp [cOp] at hc
    simp only [cOp] at hc
    injection hc with hc
    subst hc
    simp only [evI] at hv
    split at hv
    case h_2 => cases hv
    rename_i v0 hy
    injection hv with hv
    injection hv with q1 q2
    subst q1 q2
    have vy := evalO_VR tr hy
    obtain ⟨u, w', v, h', ρ', hrun, vr, hp, r', nx, hl⟩ := hcall ρ w v0 (Instr.next (conc ρ v0) false o.type) rfl (.inr (.inl ⟨rfl, o.type, rfl⟩)) r vy.1
    have hex : (execOp a.eval o).run P w = .ok (.value u) w' := by
      unfold execOp
      simp only [ho, vy.2]
      exact run_val hrun
    unfold Oper.wp
    rw [hex]
    exact hn v u h' ρ' w' vr hp r' nx hl
  case entry y =>
    injection hc with hc
    subst hc
    simp only [evI] at hv
    split at hv
    case h_2 => cases hv
    rename_i v0 hy
    injection hv with hv
    injection hv with q1 q2
    subst q1 q2
    have vy := evalO_VR tr hy
    obtain ⟨u, w', v, h', ρ', hrun, vr, hp, r', nx, hl⟩ := hcall ρ w v0 (Instr.entry (conc ρ v0)) rfl (.inr (.inr ⟨rfl, rfl⟩)) r vy.1
    have hex : (execOp a.eval o).run P w = .ok (.value u) w' := by
      unfold execOp
      simp only [ho, vy.2]
      exact run_val hrun
    unfold Oper.wp
    rw [hex]
    exact hn v u h' ρ' w' vr hp r' nx hl
  case call c =>
    exfalso
    obtain ⟨callee, xs, tys⟩ := c
    cases callee with
    | invoke q m => cases hc
    | value g => cases hk
    | builtin b =>
      simp only [kdOp] at hk
      repeat' split at hk
      all_goals cases hk
  all_goals (cases hk; done)

theorem LA_sound (hB : ancB ops anc = true) (haos : ∀ (i : Nat) (o : Oper), ops[i]? = some o → cOper P ops o = some (aos i)) (hinj : ∀ x, x < ops.size → ∀ y, y < ops.size → x ≠ y → kd (aos x).op = 2 → kd (aos y).op = 2 → hn x ≠ hn y) (hm : ∀ x, x < ops.size → kd (aos x).op = 2 → m ≤ hn x) (hK : ∀ t h, K t h → Q .normal t h) :
    ∀ (n : Nat) (rem : List Nat) (listed : Array Bool) (D : Reads) (t : T) (h : AH) (ρ : Ren) (w : World) (a : Act), rem.length = n → Left ops listed rem → rem.Pairwise (fun j i => pairOk aos chk anc j i = true) → holesOk aos hn rem h →
      (∀ d ∈ D, ∀ (h : AH) (n : Nat) (k : ABlk) (v : Value), h[n]? = some .hole → d.2.1 h = some v → d.2.1 (h.set n k) = some v) → Rel ρ h w → TRel ρ (live h) t a → Next m ρ0 h0 w0 ρ h w → m ≤ h.length → LA P aos hn chk K rem D t h →
      wpAny P .any ops (Beh m Q ρ0 h0 w0) n listed a w := by
  intro n
  induction n with
  | zero =>
    intro rem listed D t h ρ w a hlen hL _ _ _ r tr nx hml hl
    have : rem = [] := List.length_eq_zero_iff.1 hlen
    subst this
    refine ⟨?_, ⟨.normal, t, h, ρ, rfl, hK t h hl, r, tr, nx, hml⟩⟩
    cases hr : Region.ready .any ops listed with
    | nil => rfl
    | cons i _ =>
      have hi : i ∈ Region.ready .any ops listed := by rw [hr]; exact List.mem_cons_self ..
      obtain ⟨hun, oi, hoi, _⟩ := mem_ready.1 hi
      have := (hL.mem i).2 ⟨(Array.getElem?_eq_some_iff.1 hoi).1, hun⟩
      cases this
  | succ n ih =>
    intro rem listed D t h ρ w a hlen hL hpw hholes hD r tr nx hml hl
    refine ⟨fun hr0 => ?_, fun i hi => ?_⟩
    · exfalso
      obtain ⟨j, hj, hmin⟩ := exists_min rem (by intro e; rw [e] at hlen; cases hlen)
      have hj2 := (hL.mem j).1 hj
      obtain ⟨oj, hoj⟩ : ∃ oj, ops[j]? = some oj := ⟨_, Array.getElem?_eq_getElem hj2.1⟩
      have : j ∈ Region.ready .any ops listed := by
        refine mem_ready.2 ⟨hj2.2, oj, hoj, fun e he hb => ?_⟩
        have h1 := List.all_eq_true.1 hB j (List.mem_range.2 hj2.1)
        simp only [hoj, Bool.and_eq_true] at h1
        have hlt : e.on < j := by
          have := List.all_eq_true.1 h1.1 e (by simpa using he)
          simpa [hb] using this
        apply getD_ft (by rw [hL.size]; omega)
        intro hf
        have := hmin e.on ((hL.mem e.on).2 ⟨by omega, hf⟩)
        omega
      rw [hr0] at this
      cases this
    · obtain ⟨hun, oi, hoi, hall⟩ := mem_ready.1 hi
      have his := (Array.getElem?_eq_some_iff.1 hoi).1
      have him : i ∈ rem := (hL.mem i).2 ⟨his, hun⟩
      have hopi := cOper_op (haos i oi hoi)
      have hlt : ∀ x ∈ rem, x < ops.size := fun x hx => ((hL.mem x).1 hx).1
      have iv : Inv aos hn rem D t h := ⟨⟨ρ, w, r⟩, tr.ok, hholes, hD⟩
      have hf := LA_front (P := P) (K := K) (all := rem) (ops := fun i => (ops[i]?).getD default) (fun i hi => by
          obtain ⟨o, ho⟩ : ∃ o, ops[i]? = some o := ⟨_, Array.getElem?_eq_getElem (hlt i hi)⟩
          simp only [ho, Option.getD_some]
          exact (cOper_op (haos i o ho)).1)
        (fun x hx y hy => hinj x (hlt x hx) y (hlt y hy)) rem (fun x hx => hx) hL.nodup him
        (fun l1 l2 e j hj => by
          rw [e, List.pairwise_append] at hpw
          have hp := hpw.2.2 j hj i (List.mem_cons_self ..)
          unfold pairOk at hp
          simp only [Bool.or_eq_true, Bool.and_eq_true, decide_eq_true_eq] at hp
          rcases hp with ⟨hji, hbit⟩ | ⟨h2, h3⟩
          · exfalso
            have hjm : j ∈ rem := by rw [e]; exact List.mem_append_left _ hj
            have := anc_listed hB hL.closed i oi hoi hall j hji hbit
            rw [getD_tf ((hL.mem j).1 hjm).2] at this
            cases this
          · exact ⟨apartB_spec h2, h3⟩)
        D t h iv hl
      have hlen' : (rem.erase i).length = n := by rw [List.length_erase_of_mem him, hlen]; rfl
      have hL' := hL.next hi
      have hpw' := hpw.sublist (List.erase_sublist (a := i) (l := rem))
      have hholes' : holesOk aos hn (rem.erase i) h := fun x hx => hholes x (List.mem_of_mem_erase hx)
      unfold LA at hf
      unfold wpOp
      simp only [hoi]
      have hdst : (aos i).dst = oi.dst := hopi.2
      rcases hf with ⟨v, hv, hl'⟩ | ⟨hw, hs⟩
      · rcases hv with ⟨hwt, rfl⟩ | ⟨hwt, hv⟩
        · rw [wanted_eq (haos i oi hoi) tr hwt, if_neg (by simp)]
          rw [hdst] at hl'
          exact ih _ _ D _ h ρ w _ hlen' hL' hpw' hholes' hD r (tr.put oi.dst VR_undef) nx hml hl'
        · rw [wanted_eq (haos i oi hoi) tr hwt, if_pos rfl]
          left
          obtain ⟨u, vr, hy⟩ := sound_pure hopi.1 tr hv
          unfold Oper.wp
          rw [hy w]
          rw [hdst] at hl'
          exact ih _ _ D _ h ρ w _ hlen' hL' hpw' hholes' hD r (tr.put oi.dst vr) nx hml hl'
      · rw [wanted_eq (haos i oi hoi) tr hw, if_pos rfl]
        left
        rcases hs with ⟨v, hv, hl'⟩ | ⟨v, b, hv, hh, hl'⟩ | ⟨v, h', hv, ho, hl'⟩ | ⟨f, args, hv, hc⟩
        · obtain ⟨u, vr, hy⟩ := sound_read hopi.1 r tr hv
          unfold Oper.wp
          rw [show (execOp a.eval oi).run P w = .ok (.value u) w from hy]
          rw [hdst] at hl'
          refine ih _ _ _ _ h ρ w _ hlen' hL' hpw' hholes' (fun d hd => ?_) r (tr.put oi.dst vr) nx hml hl'
          rcases List.mem_cons.1 hd with rfl | hd
          · exact fun h n k v hn hv => evR_fill hn hv
          · exact hD d hd
        · obtain ⟨u, w', hrun, vr, r', hnx⟩ := fresh_step r tr hopi.1 hv hh
          unfold Oper.wp
          rw [hrun]
          rw [hdst] at hl'
          have hb : b ≠ .hole := evF_block hv
          have hnl : ∀ c, live h c = true → c ≠ hn i := by
            rintro c hc rfl
            unfold live at hc
            rw [hh] at hc
            cases hc
          refine ih _ _ D _ _ _ w' _ hlen' hL' hpw' (fun x hx h2 => ?_) hD r' ((tr.mono (fun c hc => live_set hb c hc) (fun c hc => upd_al c (hnl c hc))).put oi.dst vr) (nx.trans (hnx m (hm i his (evF_kd hv)))) (by simpa using hml) hl'
          have hxr := List.mem_of_mem_erase hx
          have hne : x ≠ i := (hL.nodup.mem_erase_iff.1 hx).1
          rw [List.getElem?_set_ne (hinj i his x (hlt x hxr) (fun e => hne e.symm) (evF_kd hv) h2)]
          exact hholes x hxr h2
        · obtain ⟨u, nxt, w', ρ', hrun, hnxt, vr, r', nx', hle⟩ := sound_loud hopi.1 r tr hv
          rw [hdst] at hl'
          have go : wpAny P .any ops (Beh m Q ρ0 h0 w0) n (listed.setIfInBounds i true) (a.put oi.dst u) w' :=
            ih _ _ D _ h' ρ' w' _ hlen' hL' hpw' (fun x hx h2 => (evL_fill (kb := .dead) (hholes' x hx h2) hv).2) hD r' ((tr.mono (fun c hc => nx'.lives c (live_lt hc) hc) (fun c hc => nx'.ext c (live_lt hc))).put oi.dst vr) (nx.trans (nx'.less hml)) (by omega) hl'
          unfold Oper.wp
          rw [hrun]
          rcases hnxt with rfl | ⟨rfl, rfl⟩
          · exact go
          · exact go
        · refine call_step hopi.1 r tr hv hc fun v u h' ρ' w' vr ⟨g1, g2, g3⟩ r' nx' hle => ?_
          rw [hdst] at g3
          exact ih _ _ D _ h' ρ' w' _ hlen' hL' hpw' g2 hD r' ((tr.mono (fun c hc => nx'.lives c (live_lt hc) hc) (fun c hc => nx'.ext c (live_lt hc))).put oi.dst vr) (nx.trans (nx'.less hml)) (by omega) g3

end
end Abs
end Go.Proofs.Ytekhadlpcdjlpaa
