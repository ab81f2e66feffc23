/- What is computed of a region that draws is so; of all code; of a call. -/
import Derived.Test.YtekhadlpcdjlpaaAbs18
namespace Go.Proofs.Ytekhadlpcdjlpaa
namespace Abs
open Go
set_option linter.unusedVariables false
set_option linter.unusedSimpArgs false

section
variable {P : Program} {R : Type} {bot : R} {holds : R → Prop} {C : FuncId → List Value → AH → (Value → AH → R) → R} {Lp : ACode → T → AH → (AExit → T → AH → R) → R}

theorem chkD_ok {l : List Nat} {D : Reads} {h : AH} {chk : Nat → Nat → Bool} {i : Nat} (hl : ∀ j, chk i j = true → l.contains j = true) (hc : chkD l D h = true) : okD chk i D h := by
  intro d hd hch
  have := List.all_eq_true.1 hc d hd
  rw [hl _ hch] at this
  simp only [Bool.not_true, Bool.false_or] at this
  split at this
  · rename_i v hv
    rw [hv, veq_eq _ _ this]
  · cases this

theorem wDrawn_sound (hbot : ¬ holds bot) (hC : ∀ f args h K, holds (C f args h K) → AC2 P f args h (fun v h' => holds (K v h'))) {aos : Nat → AOper} {hn : Nat → Nat} {chk : Nat → Nat → Bool} {base : Nat} {K : T → AH → R} :
    ∀ (l : List DOper) (D : Reads) (t : T) (h : AH), (∀ d ∈ l, aos d.i = d.x ∧ hn d.i = base + d.fi ∧ ∀ j, chk d.i j = true → d.chk.contains j = true) → holds (wDrawn P bot C base l D t h K) → LA P aos hn chk (fun t h => holds (K t h)) (l.map (·.i)) D t h := by
  intro l
  induction l with
  | nil => intro D t h _ hw; exact hw
  | cons d l ih =>
    intro D t h hd hw
    obtain ⟨e1, e2, e3⟩ := hd d (List.mem_cons_self ..)
    have hd' : ∀ x ∈ l, aos x.i = x.x ∧ hn x.i = base + x.fi ∧ ∀ j, chk x.i j = true → x.chk.contains j = true := fun x hx => hd x (List.mem_cons_of_mem _ hx)
    simp only [List.map_cons]
    unfold LA Stp
    simp only [wDrawn, onW] at hw
    rw [e1, e2]
    split at hw
    · exact absurd hw hbot
    · rename_i hwt
      exact .inl ⟨undef, .inl ⟨hwt, rfl⟩, ih _ _ _ hd' hw⟩
    · rename_i hwt
      split at hw
      · split at hw
        case h_2 => exact absurd hw hbot
        rename_i v hv
        exact .inl ⟨v, .inr ⟨hwt, hv⟩, ih _ _ _ hd' hw⟩
      · split at hw
        case h_2 => exact absurd hw hbot
        rename_i v hv
        exact .inr ⟨hwt, .inl ⟨v, hv, ih _ _ _ hd' hw⟩⟩
      · split at hw
        case h_2 => exact absurd hw hbot
        rename_i v k hv
        split at hw
        case isFalse => exact absurd hw hbot
        rename_i hh
        exact .inr ⟨hwt, .inr (.inl ⟨v, k, hv, isHole_eq hh, ih _ _ _ hd' hw⟩)⟩
      · split at hw
        case h_2 => exact absurd hw hbot
        rename_i v h' hv
        split at hw
        case isFalse => exact absurd hw hbot
        rename_i hch
        exact .inr ⟨hwt, .inr (.inr (.inl ⟨v, h', hv, chkD_ok e3 hch, ih _ _ _ hd' hw⟩))⟩
      · split at hw
        case h_2 => exact absurd hw hbot
        rename_i f args hv
        have hac := hC _ _ _ _ hw
        rw [AC2_lt (evC_lt hv)] at hac
        refine .inr ⟨hwt, .inr (.inr (.inr ⟨f, args, hv, hac.mono fun v h' hh => ?_⟩))⟩
        split at hh
        case isFalse => exact absurd hh hbot
        rename_i hcond
        simp only [Bool.and_eq_true] at hcond
        refine ⟨chkD_ok e3 hcond.1, fun j hj h2 => ?_, ih _ _ _ hd' hh⟩
        obtain ⟨x, hx, rfl⟩ := List.mem_map.1 hj
        obtain ⟨q1, q2, _⟩ := hd' x hx
        rw [q1] at h2
        rw [q2]
        have := List.all_eq_true.1 hcond.2 x hx
        rw [h2] at this
        exact isHole_eq (by simpa using this)

theorem freshes_succ (A : List AOper) (n : Nat) : freshes A (n + 1) = freshes A n + (match A[n]? with | some x => if kd x.op == 2 then 1 else 0 | none => 0) := by
  unfold freshes
  rw [List.take_add_one]
  cases h : A[n]? with
  | none => simp
  | some x =>
    simp only [Option.toList_some, List.filter_append, List.length_append]
    by_cases hk : (kd x.op == 2) = true <;> simp [hk]

theorem freshes_mono (A : List AOper) {n m : Nat} (h : n ≤ m) : freshes A n ≤ freshes A m := by
  induction h with
  | refl => exact Nat.le_refl _
  | step _ ih => rw [freshes_succ]; omega

theorem freshes_lt {A : List AOper} {x y : Nat} (hx : kd (A.getD x dfl).op = 2) (h : x < y) : freshes A x < freshes A y := by
  have hlt : x < A.length := by
    rcases Nat.lt_or_ge x A.length with h' | h'
    · exact h'
    · rw [List.getD_eq_getElem?_getD, List.getElem?_eq_none h'] at hx
      cases hx
  have h1 := freshes_succ A x
  have h2 : A[x]? = some (A.getD x dfl) := by simp [List.getD_eq_getElem?_getD, hlt]
  rw [h2] at h1
  simp only [hx, beq_self_eq_true, if_true] at h1
  have := freshes_mono A (n := x + 1) (m := y) h
  omega

theorem pairsOk_spec {A : List AOper} {anc : Array Nat} {ord : List Nat} : ∀ (l : List Nat), pairsOk A anc ord l = true → l.Nodup ∧ l.Pairwise (fun j i => pairOk (fun k => A.getD k dfl) (fun i j => (chkOf A anc ord i).contains j) anc j i = true) := by
  intro l
  induction l with
  | nil => intro _; exact ⟨List.nodup_nil, List.Pairwise.nil⟩
  | cons j l ih =>
    intro h
    simp only [pairsOk, Bool.and_eq_true, Bool.not_eq_true'] at h
    obtain ⟨⟨h1, h2⟩, h3⟩ := h
    obtain ⟨g1, g2⟩ := ih h3
    exact ⟨List.nodup_cons.2 ⟨by simpa using h2, g1⟩, List.pairwise_cons.2 ⟨fun i hi => List.all_eq_true.1 h1 i hi, g2⟩⟩

theorem getD_rep (n j : Nat) : (Array.replicate n false).getD j false = false := by
  by_cases h : j < n <;> simp [h]

theorem Rel.holes {ρ : Ren} {h : AH} {w : World} (r : Rel ρ h w) : ∀ n, Rel ρ (h ++ List.replicate n .hole) w
  | 0 => by simpa using r
  | n + 1 => by
    have := (r.holes n).hole
    rw [List.append_assoc, show [ABlk.hole] = List.replicate 1 ABlk.hole from rfl, List.replicate_append_replicate] at this
    exact this

theorem live_holes {h : AH} (n : Nat) : live (h ++ List.replicate n .hole) = live h := by
  funext b
  by_cases hb : b < h.length
  · unfold live; rw [List.getElem?_append_left hb]
  · have e1 : live h b = false := by
      cases hq : live h b with
      | false => rfl
      | true => exact absurd (live_lt hq) hb
    rw [e1]
    unfold live
    rw [List.getElem?_append_right (by omega), List.getElem?_replicate]
    split <;> simp_all

theorem Next.holes {m : Nat} {ρ : Ren} {h : AH} {w : World} (n : Nat) : Next m ρ h w ρ (h ++ List.replicate n .hole) w := by
  have back : ∀ (b : Nat) (l : ABlk), (h ++ List.replicate n ABlk.hole)[b]? = some l → l = .hole ∨ h[b]? = some l := by
    intro b l hb
    by_cases hlt : b < h.length
    · rw [List.getElem?_append_left hlt] at hb
      exact .inr hb
    · rw [List.getElem?_append_right (by omega)] at hb
      have := List.mem_of_getElem? hb
      exact .inl (List.eq_of_mem_replicate this)
  refine ⟨fun _ _ => rfl, fun b _ hb => by rw [live_holes]; exact hb, rfl, rfl, rfl, Nat.le_refl _, fun _ _ _ => rfl, fun b l hb x hx => ?_, fun b l hb x hx => ?_⟩
  · rcases back b l hb with rfl | hb
    · cases hx
    · exact .inr ⟨b, l, hb, hx⟩
  · rcases back b l hb with rfl | hb
    · cases hx
    · exact .inr ⟨b, l, hb, hx⟩

theorem drawn_sound (hmix : P.follows .mixedOrders = true) (hbot : ¬ holds bot) (hC : ∀ f args h K, holds (C f args h K) → AC2 P f args h (fun v h' => holds (K v h'))) {id : Nat} {ops : Array Oper} {nh : Nat} {l : List DOper} (hc : cDrawn P ops = some (nh, l)) {m : Nat} {Q : AExit → T → AH → Prop} {K : T → AH → R} {t : T} {h : AH} (hQ : ∀ t h, holds (K t h) → Q .normal t h)
    (hw : holds (wDrawn P bot C h.length l [] t (h ++ List.replicate nh .hole) K)) : AWp P m (.region id ops true) Q t h := by
  unfold cDrawn at hc
  split at hc
  case h_1 => cases hc
  rename_i A hA
  simp only at hc
  split at hc
  case isFalse => cases hc
  rename_i hcond
  injection hc with hc
  injection hc with q1 q2
  simp only [Bool.and_eq_true, beq_iff_eq] at hcond
  obtain ⟨⟨⟨⟨hB, hlen⟩, hall⟩, hpairs⟩, hcov⟩ := hcond
  obtain ⟨hnd, hpw⟩ := pairsOk_spec _ hpairs
  obtain ⟨hAlen, hAget⟩ := cOpsL_get _ A hA
  have hlt : ∀ x ∈ orderOf A (ancs ops) ops.size (List.range ops.size), x < ops.size := fun x hx => by simpa using List.all_eq_true.1 hall x hx
  have hAl : A.length = ops.size := by simpa using hAlen
  have hbound : ∀ x, x < ops.size → kd (A.getD x dfl).op = 2 → freshes A x < nh := fun x hx h2 => by rw [← q1]; exact freshes_lt h2 hx
  intro ρ w a r tr hm
  refine wp_region_any hmix ?_
  have la := wDrawn_sound (aos := fun k => A.getD k dfl) (hn := fun x => h.length + freshes A x) (chk := fun i j => (chkOf A (ancs ops) (orderOf A (ancs ops) ops.size (List.range ops.size)) i).contains j) hbot hC l [] t _ (fun d hd => by
    rw [← q2] at hd
    obtain ⟨i, _, rfl⟩ := List.mem_map.1 hd
    exact ⟨rfl, rfl, fun j hj => hj⟩) hw
  have hl : l.map (·.i) = orderOf A (ancs ops) ops.size (List.range ops.size) := by
    rw [← q2, List.map_map]
    exact List.map_id' _
  rw [hl] at la
  have r1 : Rel ρ (h ++ List.replicate nh .hole) { w with drawn := w.drawn + 1 } := (r.holes nh).heap rfl
  refine LA_sound (P := P) (Q := Q) (ρ0 := ρ) (h0 := h) (w0 := w) (m := m) hB (fun i o ho => hAget i o (by simpa using ho)) (fun x hx y hy hne hx2 hy2 he => ?_) (fun x _ _ => Nat.le_trans hm (Nat.le_add_right _ _)) hQ ops.size _ _ [] t _ ρ _ a hlen ?_ hpw ?_ (fun d hd => by cases hd) r1 (by rw [live_holes]; exact tr) ((Next.holes nh).drew rfl rfl rfl rfl) (by simp; omega) la
  · have hne2 : freshes A x ≠ freshes A y := by
      rcases Nat.lt_or_ge x y with h' | h'
      · have := freshes_lt hx2 h'; omega
      · have := freshes_lt hy2 (by omega : y < x); omega
    omega
  · refine ⟨by simp, hnd, fun k => ?_, fun j oj _ hl => by rw [getD_rep] at hl; cases hl⟩
    constructor
    · intro hk
      exact ⟨hlt k hk, by simp [hlt k hk]⟩
    · intro ⟨hk, _⟩
      simpa using List.all_eq_true.1 hcov k (List.mem_range.2 hk)
  · intro x hx h2
    have hb := hbound x (hlt x hx) h2
    show (h ++ List.replicate nh ABlk.hole)[h.length + freshes A x]? = _
    rw [List.getElem?_append_right (by omega), Nat.add_sub_cancel_left, List.getElem?_replicate, if_pos hb]

theorem W_sound (hmix : P.follows .mixedOrders = true) (hbot : ¬ holds bot) (hC : ∀ f args h K, holds (C f args h K) → AC2 P f args h (fun v h' => holds (K v h'))) {m : Nat}
    (hL : ∀ c ac t h K, cCode P c = some ac → holds (Lp ac t h K) → AWp P m (.loop c) (fun e t h => holds (K e t h)) t h) :
    ∀ (c : Code) (ac : ACode) (t : T) (h : AH) (K : AExit → T → AH → R), cCode P c = some ac → holds (W P bot C Lp ac t h K) → AWp P m c (fun e t h => holds (K e t h)) t h := by
  intro c
  induction c with
  | skip =>
    intro ac t h K hc hw
    simp only [cCode] at hc
    injection hc with hc
    subst hc
    exact awp_skip hw
  | region id ops draw =>
    intro ac t h K hc hw
    cases draw with
    | true =>
      simp only [cCode, if_true] at hc
      split at hc
      case h_2 => cases hc
      rename_i n l hl
      injection hc with hc
      subst hc
      exact drawn_sound hmix hbot hC hl (fun t h hk => hk) hw
    | false =>
      simp only [cCode, Bool.false_eq_true, if_false] at hc
      split at hc
      case h_2 => cases hc
      rename_i l hl
      injection hc with hc
      subst hc
      intro ρ w a r tr hm
      exact wp_region_list (wOps_sound (m := m) (Q := fun e t h => holds (K e t h)) (ρ0 := ρ) (h0 := h) (w0 := w) hbot hC (K .normal) (fun t h hk => hk) _ _ t h ρ w a hl r tr (Next.refl _ _ _ _) hm hw)
  | seq a b iha ihb =>
    intro ac t h K hc hw
    simp only [cCode] at hc
    split at hc
    case h_2 => cases hc
    rename_i x y hx hy
    injection hc with hc
    subst hc
    refine awp_seq ((iha x t h _ hx hw).mono fun e t h hk => ?_)
    cases e with
    | normal => exact ihb y t h K hy hk
    | exit id => exact hk
    | ret => exact hk
  | cond c a b iha ihb =>
    intro ac t h K hc hw
    simp only [cCode] at hc
    split at hc
    case h_2 => cases hc
    rename_i x y hx hy
    injection hc with hc
    subst hc
    simp only [W, onB] at hw
    split at hw
    · rename_i hb
      exact awp_cond hb (by rw [if_pos rfl]; exact iha x t h K hx hw)
    · rename_i hb
      exact awp_cond hb (by rw [if_neg (by simp)]; exact ihb y t h K hy hw)
    · exact absurd hw hbot
  | block id a iha =>
    intro ac t h K hc hw
    simp only [cCode] at hc
    split at hc
    case h_2 => cases hc
    rename_i x hx
    injection hc with hc
    subst hc
    refine awp_block ((iha x t h _ hx hw).mono fun e t h hk => ?_)
    cases e with
    | normal => exact hk
    | exit i =>
      simp only [blockQ]
      split
      · rename_i e; simp only [if_pos e] at hk; exact hk
      · rename_i e; simp only [if_neg e] at hk; exact hk
    | ret => exact hk
  | loop a iha =>
    intro ac t h K hc hw
    simp only [cCode] at hc
    split at hc
    case h_2 => cases hc
    rename_i x hx
    injection hc with hc
    subst hc
    exact hL a x t h K hx hw
  | exit id =>
    intro ac t h K hc hw
    simp only [cCode] at hc
    injection hc with hc
    subst hc
    exact awp_exit hw
  | ret =>
    intro ac t h K hc hw
    simp only [cCode] at hc
    injection hc with hc
    subst hc
    exact awp_ret hw
  | rangeFunc f params assign body => intro ac t h K hc hw; simp [cCode] at hc
  | scope body => intro ac t h K hc hw; simp [cCode] at hc
  | label l => intro ac t h K hc hw; simp [cCode] at hc
  | goto l => intro ac t h K hc hw; simp [cCode] at hc
  | refuse why => intro ac t h K hc hw; simp [cCode] at hc

end
end Abs
end Go.Proofs.Ytekhadlpcdjlpaa
