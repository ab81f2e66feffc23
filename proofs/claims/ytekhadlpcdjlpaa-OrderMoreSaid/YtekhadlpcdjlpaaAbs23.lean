/- A call whose contract knows less of the heap. -/
import Derived.Test.YtekhadlpcdjlpaaAbs22
namespace Go.Proofs.Ytekhadlpcdjlpaa
namespace Abs
open Go
set_option linter.unusedVariables false
set_option linter.unusedSimpArgs false

/-- Blocks laid over those of these names. -/
def setAll (σ : Nat → Nat) : Nat → List ABlk → AH → AH
  | _, [], H => H
  | b, k :: l, H => setAll σ (b + 1) l (H.set (σ b) (renB σ k))

/-- The names of the small heap in the great one: the first n as they are told, others behind all. -/
def extN (σ : Nat → Nat) (n N : Nat) (b : Nat) : Nat := if b < n then σ b else N + (b - n)

/-- The great heap behind a call that knew a small one. -/
def glue (σ : Nat → Nat) (n : Nat) (H h' : AH) : AH := setAll (extN σ n H.length) 0 (h'.take n) H ++ (h'.drop n).map (renB (extN σ n H.length))

mutual
theorem scp_ren {L L' : Nat → Bool} {σ : Nat → Nat} (h : ∀ b, L b = true → L' (σ b) = true) : ∀ v, scp L v = true → scp L' (ren σ v) = true
  | .pointer (some a), hs => by simp only [scp] at hs; simp only [ren, scp, renA]; exact h _ hs
  | .slice (some a) _ _, hs => by simp only [scp] at hs; simp only [ren, scp, renA]; exact h _ hs
  | .map (some r), hs => by simp only [scp] at hs; simp only [ren, scp]; exact h _ hs
  | .chan (some r), hs => by simp only [scp] at hs; simp only [ren, scp]; exact h _ hs
  | .func fn first captured, hs => by
    simp only [scp, Bool.and_eq_true] at hs
    simp only [ren, scp, Bool.and_eq_true]
    exact ⟨scpA_ren h first hs.1, scpA_ren h captured hs.2⟩
  | .iface t v, hs => by simp only [scp] at hs; simp only [ren, scp]; exact scp_ren h v hs
  | .agg cs, hs => by simp only [scp] at hs; simp only [ren, scp]; exact scpA_ren h cs hs
  | .tuple cs, hs => by simp only [scp] at hs; simp only [ren, scp]; exact scpA_ren h cs hs
  | .pointer none, _ => by simp only [ren, scp]
  | .slice none _ _, _ => by simp only [ren, scp]
  | .map none, _ => by simp only [ren, scp]
  | .chan none, _ => by simp only [ren, scp]
  | .bool b, _ => by simp only [ren, scp]
  | .int k n, _ => by simp only [ren, scp]
  | .float k n, _ => by simp only [ren, scp]
  | .complex k a b, _ => by simp only [ren, scp]
  | .string s, _ => by simp only [ren, scp]
  | .nilFunc, _ => by simp only [ren, scp]
  | .nilIface, _ => by simp only [ren, scp]
theorem scpA_ren {L L' : Nat → Bool} {σ : Nat → Nat} (h : ∀ b, L b = true → L' (σ b) = true) : ∀ v, scpA L v = true → scpA L' (renAr σ v) = true
  | ⟨l⟩, hs => by simp only [scpA] at hs; simp only [renAr, scpA]; exact scpL_ren h l hs
theorem scpL_ren {L L' : Nat → Bool} {σ : Nat → Nat} (h : ∀ b, L b = true → L' (σ b) = true) : ∀ v, scpL L v = true → scpL L' (renL σ v) = true
  | [], _ => by simp only [renL, scpL]
  | v :: l, hs => by
    simp only [scpL, Bool.and_eq_true] at hs
    simp only [renL, scpL, Bool.and_eq_true]
    exact ⟨scp_ren h v hs.1, scpL_ren h l hs.2⟩
end

theorem scpB_ren {L L' : Nat → Bool} {σ : Nat → Nat} (h : ∀ b, L b = true → L' (σ b) = true) {k : ABlk} (hk : k.scp L) : (renB σ k).scp L' := by
  cases k with
  | cells vs e opn =>
    intro v hv
    obtain ⟨x, hx, rfl⟩ := List.mem_map.1 hv
    exact scp_ren h x (hk x hx)
  | row vs =>
    intro v hv
    obtain ⟨x, hx, rfl⟩ := List.mem_map.1 hv
    exact scp_ren h x (hk x hx)
  | map es c =>
    intro v hv
    obtain ⟨x, hx, rfl⟩ := List.mem_map.1 hv
    exact ⟨scp_ren h _ (hk x hx).1, scp_ren h _ (hk x hx).2⟩
  | _ => trivial

section
variable {P : Program} {h H : AH} {σ : Nat → Nat}

theorem setAll_length (σ : Nat → Nat) : ∀ (l : List ABlk) (b : Nat) (H : AH), (setAll σ b l H).length = H.length := by
  intro l
  induction l with
  | nil => intro b H; rfl
  | cons k l ih => intro b H; simp only [setAll]; rw [ih]; simp

theorem setAll_other (σ : Nat → Nat) {c : Nat} : ∀ (l : List ABlk) (b : Nat) (H : AH), (∀ j, b ≤ j → j < b + l.length → σ j ≠ c) → (setAll σ b l H)[c]? = H[c]? := by
  intro l
  induction l with
  | nil => intro b H _; rfl
  | cons k l ih =>
    intro b H hn
    simp only [setAll]
    rw [ih _ _ (fun j h1 h2 => hn j (by omega) (by simp; omega)), List.getElem?_set_ne (hn b (Nat.le_refl _) (by simp))]

theorem setAll_at (σ : Nat → Nat) : ∀ (l : List ABlk) (b : Nat) (H : AH), (∀ i j, b ≤ i → i < b + l.length → b ≤ j → j < b + l.length → σ i = σ j → i = j) → (∀ j, b ≤ j → j < b + l.length → σ j < H.length) → ∀ (j : Nat) (k : ABlk), l[j]? = some k → (setAll σ b l H)[σ (b + j)]? = some (renB σ k) := by
  intro l
  induction l with
  | nil => intro b H _ _ j k hk; simp at hk
  | cons x l ih =>
    intro b H hinj hlt j k hk
    simp only [setAll]
    simp only [List.length_cons] at hinj hlt
    cases j with
    | zero =>
      simp at hk
      subst hk
      show (setAll σ (b + 1) l (H.set (σ b) (renB σ x)))[σ b]? = some (renB σ x)
      rw [setAll_other σ l (b + 1) _ (fun j h1 h2 e => by have := hinj j b (by omega) (by omega) (by omega) (by omega) e; omega), List.getElem?_set_self (hlt b (Nat.le_refl _) (by omega))]
    | succ j =>
      simp at hk
      have := ih (b + 1) (H.set (σ b) (renB σ x)) (fun i j h1 h2 h3 h4 => hinj i j (by omega) (by omega) (by omega) (by omega)) (fun j h1 h2 => by simpa using hlt j (by omega) (by omega)) j k hk
      rw [← this]
      congr 2
      omega

theorem Sub.lt (s : Sub σ h H) {b : Nat} (hb : b < h.length) : σ b < H.length :=
  (List.getElem?_eq_some_iff.1 (s.get b _ (List.getElem?_eq_getElem hb))).1

/-- What stands in the glued heap. -/
theorem glue_get (s : Sub σ h H) {h' : AH} (hle : h.length ≤ h'.length) {c : Nat} {k : ABlk} (hc : (glue σ h.length H h')[c]? = some k) :
    (∃ b k0, b < h.length ∧ c = σ b ∧ h'[b]? = some k0 ∧ k = renB (extN σ h.length H.length) k0) ∨ ((∀ b, b < h.length → σ b ≠ c) ∧ c < H.length ∧ H[c]? = some k) ∨
    (∃ b k0, h.length ≤ b ∧ c = H.length + (b - h.length) ∧ h'[b]? = some k0 ∧ k = renB (extN σ h.length H.length) k0) := by
  have hlen : (setAll (extN σ h.length H.length) 0 (h'.take h.length) H).length = H.length := setAll_length _ _ _ _
  have htk : (h'.take h.length).length = h.length := by simp; omega
  unfold glue at hc
  by_cases hcl : c < H.length
  · rw [List.getElem?_append_left (by omega)] at hc
    by_cases hex : ∃ b, b < h.length ∧ σ b = c
    · obtain ⟨b, hb, rfl⟩ := hex
      obtain ⟨k0, hk0⟩ : ∃ k0, h'[b]? = some k0 := ⟨_, List.getElem?_eq_getElem (by omega)⟩
      have e : extN σ h.length H.length (0 + b) = σ b := by simp [extN, hb]
      have := setAll_at (extN σ h.length H.length) (h'.take h.length) 0 H (fun i j _ hi _ hj he => by
          rw [htk] at hi hj
          simp only [extN, show i < h.length by omega, show j < h.length by omega, if_true] at he
          exact s.inj i j (by omega) (by omega) he) (fun j _ hj => by
          rw [htk] at hj
          simp only [extN, show j < h.length by omega, if_true]
          exact s.lt (by omega)) b k0 (by rw [List.getElem?_take, if_pos hb]; exact hk0)
      rw [e, hc] at this
      injection this with this
      exact .inl ⟨b, k0, hb, rfl, hk0, this⟩
    · have hno : ∀ b, b < h.length → σ b ≠ c := fun b hb e => hex ⟨b, hb, e⟩
      rw [setAll_other _ _ _ _ (fun j _ hj => by
        rw [htk] at hj
        simp only [extN, show j < h.length by omega, if_true]
        exact hno j (by omega))] at hc
      exact .inr (.inl ⟨hno, hcl, hc⟩)
  · rw [List.getElem?_append_right (by omega), hlen, List.getElem?_map, List.getElem?_drop] at hc
    cases hk : h'[h.length + (c - H.length)]? with
    | none => rw [hk] at hc; cases hc
    | some k0 =>
      rw [hk] at hc
      injection hc with hc
      exact .inr (.inr ⟨h.length + (c - H.length), k0, by omega, by omega, hk, hc.symm⟩)

theorem glue_at (s : Sub σ h H) {h' : AH} (hle : h.length ≤ h'.length) {b : Nat} {k0 : ABlk} (hb : h'[b]? = some k0) : (glue σ h.length H h')[extN σ h.length H.length b]? = some (renB (extN σ h.length H.length) k0) := by
  have hlen : (setAll (extN σ h.length H.length) 0 (h'.take h.length) H).length = H.length := setAll_length _ _ _ _
  have htk : (h'.take h.length).length = h.length := by simp; omega
  unfold glue
  by_cases hbl : b < h.length
  · have e : extN σ h.length H.length b = σ b := by simp [extN, hbl]
    have := setAll_at (extN σ h.length H.length) (h'.take h.length) 0 H (fun i j _ hi _ hj he => by
        rw [htk] at hi hj
        simp only [extN, show i < h.length by omega, show j < h.length by omega, if_true] at he
        exact s.inj i j (by omega) (by omega) he) (fun j _ hj => by
        rw [htk] at hj
        simp only [extN, show j < h.length by omega, if_true]
        exact s.lt (by omega)) b k0 (by rw [List.getElem?_take, if_pos hbl]; exact hb)
    rw [Nat.zero_add] at this
    rw [List.getElem?_append_left (by rw [hlen, e]; exact s.lt hbl)]
    exact this
  · have e : extN σ h.length H.length b = H.length + (b - h.length) := by simp [extN, hbl]
    rw [e, List.getElem?_append_right (by omega), hlen, Nat.add_sub_cancel_left, List.getElem?_map, List.getElem?_drop, show h.length + (b - h.length) = b by omega, hb]
    rfl

theorem AC.frame {f : FuncId} {args : List Value} {Post : Value → AH → Prop} (s : Sub σ h H) (ok : AOK h) (ha0 : scpL (live h) args = true) (hc : AC P f args h Post) :
    AC P f (args.map (ren σ)) H (fun v H' => ∃ v0 h', Post v0 h' ∧ h.length ≤ h'.length ∧ v = ren (extN σ h.length H.length) v0 ∧ H' = glue σ h.length H h') := by
  refine ⟨hc.1, fun ρ w us r hs ha => ?_⟩
  have r0 := s.rel ok r
  refine (hc.2 (fun b => ρ (σ b)) w us r0 (by simpa using hs) fun i v hv => ?_).mono ?_
  · obtain ⟨u, hu, vr⟩ := ha i (ren σ v) (by rw [List.getElem?_map, hv]; rfl)
    exact ⟨u, hu, scpL_iff.1 ha0 v (List.mem_of_getElem? hv), by rw [vr.2, conc_ren]⟩
  rintro e w' ⟨v, u, h', ρ1, he, vr, hp, r1, nx, hle⟩
  obtain ⟨n, hn⟩ : ∃ n, h.length = n := ⟨_, rfl⟩
  obtain ⟨N, hN⟩ : ∃ N, H.length = N := ⟨_, rfl⟩
  obtain ⟨τ, hτ⟩ : ∃ τ, τ = extN σ h.length H.length := ⟨_, rfl⟩
  have τlt : ∀ b, b < h.length → τ b = σ b := fun b hb => by rw [hτ]; simp [extN, hb]
  have τge : ∀ b, h.length ≤ b → τ b = H.length + (b - h.length) := fun b hb => by rw [hτ]; simp [extN]; omega
  -- the names of the great heap
  have each : ∀ c, ∃ cb : CB, (∀ b, τ b = c → cb = ρ1 b) ∧ ((∀ b, τ b ≠ c) → cb = ρ c) := by
    intro c
    by_cases hex : ∃ b, τ b = c
    · obtain ⟨b, hb⟩ := hex
      refine ⟨ρ1 b, fun b' hb' => ?_, fun hno => absurd hb (hno b)⟩
      have : b = b' := by
        rw [← hb'] at hb
        by_cases h1 : b < h.length <;> by_cases h2 : b' < h.length
        · rw [τlt b h1, τlt b' h2] at hb; exact s.inj b b' h1 h2 hb
        · rw [τlt b h1, τge b' (by omega)] at hb; have := s.lt h1; omega
        · rw [τge b (by omega), τlt b' h2] at hb; have := s.lt h2; omega
        · rw [τge b (by omega), τge b' (by omega)] at hb; omega
      rw [this]
    · exact ⟨ρ c, fun b hb => absurd ⟨b, hb⟩ hex, fun _ => rfl⟩
  obtain ⟨ρ2, hρ2⟩ := Classical.axiomOfChoice each
  have q1 : ∀ b, ρ2 (τ b) = ρ1 b := fun b => (hρ2 _).1 b rfl
  have q2 : ∀ c, c < H.length → (∀ b, b < h.length → σ b ≠ c) → ρ2 c = ρ c := fun c hcl hno => (hρ2 c).2 fun b hb => by
    by_cases h1 : b < h.length
    · exact hno b h1 (by rw [← τlt b h1]; exact hb)
    · rw [τge b (by omega)] at hb; omega
  have hal : ∀ c, c < H.length → (ρ2 c).al = (ρ c).al := by
    intro c hcl
    by_cases hex : ∃ b, b < h.length ∧ σ b = c
    · obtain ⟨b, hb, rfl⟩ := hex
      rw [← τlt b hb, q1 b, τlt b hb]
      exact nx.ext b hb
    · rw [q2 c hcl (fun b hb e => hex ⟨b, hb, e⟩)]
  have hfun : (fun b => ρ2 (τ b)) = ρ1 := funext q1
  -- what the call does not know stays
  have hkeep : ∀ (c : Nat) (k : ABlk), (∀ b, b < h.length → σ b ≠ c) → H[c]? = some k → ∀ x, x ∈ k.reach (ρ c) → w'.heap[x]? = w.heap[x]? := by
    intro c k hno hk x hx
    refine nx.keep x (r.reach_lt hk x hx) fun b kk hb hx' => ?_
    exact r.apart (σ b) c _ _ (s.get b kk hb) hk (hno b (List.getElem?_eq_some_iff.1 hb).1) x (by rw [foot_ren]; exact hx') hx
  have hout : ∀ (c : Nat) (k : ABlk), (∀ b, b < h.length → σ b ≠ c) → H[c]? = some k → ∀ (b : Nat) (k1 : ABlk), h'[b]? = some k1 → ∀ x, (x ∈ k.foot (ρ c) → x ∉ k1.reach (ρ1 b)) ∧ (x ∈ k.reach (ρ c) → x ∉ k1.foot (ρ1 b)) := by
    intro c k hno hk b k1 hb x
    constructor
    · intro hx hx'
      rcases nx.prow b k1 hb x hx' with hge | ⟨b0, k0, hb0, hx0⟩
      · have := r.reach_lt hk x (foot_reach hx); omega
      · exact r.apart c (σ b0) _ _ hk (s.get b0 k0 hb0) (fun e => hno b0 (List.getElem?_eq_some_iff.1 hb0).1 e.symm) x hx (by rw [reach_ren]; exact hx0)
    · intro hx hx'
      rcases nx.prov b k1 hb x hx' with hge | ⟨b0, k0, hb0, hx0⟩
      · have := r.reach_lt hk x hx; omega
      · exact r.apart (σ b0) c _ _ (s.get b0 k0 hb0) hk (hno b0 (List.getElem?_eq_some_iff.1 hb0).1) x (by rw [foot_ren]; exact hx0) hx
  have cases_ : ∀ (c : Nat) (k : ABlk), (glue σ h.length H h')[c]? = some k → (∃ b k0, c = τ b ∧ h'[b]? = some k0 ∧ k = renB τ k0) ∨ ((∀ b, b < h.length → σ b ≠ c) ∧ c < H.length ∧ H[c]? = some k) := by
    intro c k hck
    rcases glue_get s hle hck with ⟨b, k0, hb, rfl, hk0, rfl⟩ | h1 | ⟨b, k0, hb, rfl, hk0, rfl⟩
    · exact .inl ⟨b, k0, (τlt b hb).symm, hk0, by rw [hτ]⟩
    · exact .inr h1
    · exact .inl ⟨b, k0, (τge b hb).symm, hk0, by rw [hτ]⟩
  have hlive1 : ∀ b, live h' b = true → live (glue σ h.length H h') (τ b) = true := by
    intro b hb
    obtain ⟨k0, hk0⟩ : ∃ k0, h'[b]? = some k0 := ⟨_, List.getElem?_eq_getElem (live_lt hb)⟩
    refine live_of (by rw [hτ]; exact glue_at s hle hk0) fun e => ?_
    have := hole_ren e
    subst this
    unfold live at hb
    rw [hk0] at hb
    cases hb
  have hlive2 : ∀ c, live H c = true → live (glue σ h.length H h') c = true := by
    intro c hcl
    by_cases hex : ∃ b, b < h.length ∧ σ b = c
    · obtain ⟨b, hb, rfl⟩ := hex
      rw [← τlt b hb]
      refine hlive1 b (nx.lives b hb ?_)
      obtain ⟨k0, hk0⟩ : ∃ k0, h[b]? = some k0 := ⟨_, List.getElem?_eq_getElem hb⟩
      refine live_of hk0 fun e => ?_
      subst e
      unfold live at hcl
      rw [s.get b _ hk0] at hcl
      cases hcl
    · have hno : ∀ b, b < h.length → σ b ≠ c := fun b hb e => hex ⟨b, hb, e⟩
      have hl := live_lt hcl
      have : (glue σ h.length H h')[c]? = H[c]? := by
        unfold glue
        rw [List.getElem?_append_left (by rw [setAll_length]; exact hl), setAll_other _ _ _ _ (fun j _ hj => by
          have : j < h.length := by simp at hj; omega
          simp only [extN, this, if_true]
          exact hno j this)]
      unfold live at hcl ⊢
      rw [this]
      exact hcl
  have hscp : ∀ v0 : Value, scp (live h') v0 = true → scp (live (glue σ h.length H h')) (ren τ v0) = true := fun v0 hv0 => scp_ren hlive1 v0 hv0
  refine ⟨ren τ v, u, glue σ h.length H h', ρ2, he, ⟨hscp v vr.1, by rw [conc_ren, hfun]; exact vr.2⟩, ⟨v, h', hp, hle, by rw [hτ], rfl⟩, ⟨fun c k hck => ?_, fun c k hck => ?_, fun c d k l hck hdl hne x hx hx' => ?_⟩, ⟨fun c hcl => hal c hcl, fun c _ hcl => hlive2 c hcl, nx.os, nx.tape, nx.output, nx.size, fun x hx hnx => nx.keep x hx (fun b k hb hx' => hnx (σ b) _ (s.get b k hb) (by rw [foot_ren]; exact hx')), fun c k hck x hx => ?_, fun c k hck x hx => ?_⟩, ?_⟩
  · rcases cases_ c k hck with ⟨b, k0, rfl, hk0, rfl⟩ | ⟨hno, hcl, hk⟩
    · rw [q1 b, holds_ren, hfun]
      exact r1.holds b k0 hk0
    · rw [q2 c hcl hno]
      exact ((r.holds c k hk).keep (hkeep c k hno hk)).congr (r.scope c k hk) (fun d hd => hal d (live_lt hd))
  · rcases cases_ c k hck with ⟨b, k0, rfl, hk0, rfl⟩ | ⟨hno, hcl, hk⟩
    · exact scpB_ren hlive1 (r1.scope b k0 hk0)
    · exact ABlk.scp_mono hlive2 (r.scope c k hk)
  · rcases cases_ c k hck with ⟨b, k0, rfl, hk0, rfl⟩ | ⟨hno, hcl, hk⟩
    · rw [q1 b, foot_ren] at hx
      rcases cases_ d l hdl with ⟨b', k0', rfl, hk0', rfl⟩ | ⟨hno', hdl', hk'⟩
      · rw [q1 b', reach_ren] at hx'
        exact r1.apart b b' k0 k0' hk0 hk0' (fun e => hne (by rw [e])) x hx hx'
      · rw [q2 d hdl' hno'] at hx'
        exact (hout d l hno' hk' b k0 hk0 x).2 hx' hx
    · rw [q2 c hcl hno] at hx
      rcases cases_ d l hdl with ⟨b', k0', rfl, hk0', rfl⟩ | ⟨hno', hdl', hk'⟩
      · rw [q1 b', reach_ren] at hx'
        exact (hout c k hno hk b' k0' hk0' x).1 hx hx'
      · rw [q2 d hdl' hno'] at hx'
        exact r.apart c d k l hk hk' hne x hx hx'
  · rcases cases_ c k hck with ⟨b, k0, rfl, hk0, rfl⟩ | ⟨hno, hcl, hk⟩
    · rw [q1 b, foot_ren] at hx
      rcases nx.prov b k0 hk0 x hx with hge | ⟨b0, k1, hb0, hx0⟩
      · exact .inl hge
      · exact .inr ⟨σ b0, _, s.get b0 k1 hb0, by rw [foot_ren]; exact hx0⟩
    · rw [q2 c hcl hno] at hx
      exact .inr ⟨c, k, hk, hx⟩
  · rcases cases_ c k hck with ⟨b, k0, rfl, hk0, rfl⟩ | ⟨hno, hcl, hk⟩
    · rw [q1 b, reach_ren] at hx
      rcases nx.prow b k0 hk0 x hx with hge | ⟨b0, k1, hb0, hx0⟩
      · exact .inl hge
      · exact .inr ⟨σ b0, _, s.get b0 k1 hb0, by rw [reach_ren]; exact hx0⟩
    · rw [q2 c hcl hno] at hx
      exact .inr ⟨c, k, hk, hx⟩
  · unfold glue
    rw [List.length_append, setAll_length]
    omega

end
end Abs
end Go.Proofs.Ytekhadlpcdjlpaa
