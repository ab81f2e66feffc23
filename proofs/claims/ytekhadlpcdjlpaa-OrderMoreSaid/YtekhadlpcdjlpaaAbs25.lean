/- Structures opened and closed, in whatever heap; calls whose contract knows of some blocks alone. -/
import Derived.Test.YtekhadlpcdjlpaaAbs24
namespace Go.Proofs.Ytekhadlpcdjlpaa
namespace Abs
open Go
set_option linter.unusedVariables false
set_option linter.unusedSimpArgs false

mutual
theorem ren_id : ∀ v, ren (fun b => b) v = v
  | .pointer (some a) => by simp [ren, renA]
  | .slice (some a) _ _ => by simp [ren, renA]
  | .map (some r) => by simp [ren]
  | .chan (some r) => by simp [ren]
  | .func fn first captured => by simp [ren, renAr_id first, renAr_id captured]
  | .iface t v => by simp [ren, ren_id v]
  | .agg cs => by simp [ren, renAr_id cs]
  | .tuple cs => by simp [ren, renAr_id cs]
  | .pointer none => by simp [ren]
  | .slice none _ _ => by simp [ren]
  | .map none => by simp [ren]
  | .chan none => by simp [ren]
  | .bool b => by simp [ren]
  | .int k n => by simp [ren]
  | .float k n => by simp [ren]
  | .complex k a b => by simp [ren]
  | .string s => by simp [ren]
  | .nilFunc => by simp [ren]
  | .nilIface => by simp [ren]
theorem renAr_id : ∀ v, renAr (fun b => b) v = v
  | ⟨l⟩ => by simp [renAr, renL_id l]
theorem renL_id : ∀ v, renL (fun b => b) v = v
  | [] => by simp [renL]
  | v :: l => by simp [renL, ren_id v, renL_id l]
end

theorem renB_id (k : ABlk) : renB (fun b => b) k = k := by
  have e : ∀ l : List Value, l.map (ren fun b => b) = l := fun l => by
    conv => rhs; rw [← List.map_id l]
    exact List.map_congr_left fun v _ => ren_id v
  cases k with
  | cells vs e' o => simp only [renB, e]
  | row vs => simp only [renB, e]
  | map es c =>
    simp only [renB]
    congr 1
    conv => rhs; rw [← List.map_id es]
    exact List.map_congr_left fun x _ => by simp [ren_id]
  | _ => rfl

/-- A block in which no names stand. -/
def noNames : ABlk → Prop
  | .cells vs _ _ | .row vs => ∀ v ∈ vs, plain v = true
  | .map es _ => ∀ e ∈ es, plain e.key = true ∧ plain e.val = true
  | _ => True

theorem renB_noNames {k : ABlk} (h : noNames k) (σ : Nat → Nat) : renB σ k = k := by
  have e : ∀ l : List Value, (∀ v ∈ l, plain v = true) → l.map (ren σ) = l := fun l hl => by
    conv => rhs; rw [← List.map_id l]
    exact List.map_congr_left fun v hv => ren_plain σ v (hl v hv)
  cases k with
  | cells vs e' o => simp only [renB, e vs h]
  | row vs => simp only [renB, e vs h]
  | map es c =>
    simp only [renB]
    congr 1
    conv => rhs; rw [← List.map_id es]
    exact List.map_congr_left fun x hx => by simp [ren_plain σ _ (h x hx).1, ren_plain σ _ (h x hx).2]
  | _ => rfl

theorem scp_noNames {k : ABlk} (h : noNames k) (L : Nat → Bool) : k.scp L := by
  have e : ∀ v, plain v = true → scp L v = true := fun v hv => scp_mono (fun b hb => by cases hb) v hv
  cases k with
  | cells vs e' o => exact fun v hv => e v (h v hv)
  | row vs => exact fun v hv => e v (h v hv)
  | map es c => exact fun x hx => ⟨e _ (h x hx).1, e _ (h x hx).2⟩
  | _ => trivial

section
variable {P : Program} {f : FuncId} {args : List Value} {h : AH} {K K' : Value → AH → Prop}

theorem AC.known (hc : AC P f args h (fun v h' => AOK h' → scp (live h') v = true → h.length ≤ h'.length → K v h')) : AC P f args h K := by
  refine ⟨hc.1, fun ρ w us r hs ha => (hc.2 ρ w us r hs ha).mono ?_⟩
  rintro e w' ⟨v, u, h', ρ', he, vr, hp, r', nx, hle⟩
  exact ⟨v, u, h', ρ', he, vr, hp r'.scope vr.1 hle, r', nx, hle⟩

/-- A heap, and a value, seen as others: names below m stay. -/
def Sees (m : Nat) (h' : AH) (v : Value) (K : Value → AH → Prop) : Prop := ∃ v2 h2 σ us, View σ h2 h' us ∧ AOK h2 ∧ scp (live h2) v2 = true ∧ v = ren σ v2 ∧ (∀ b, b < m → σ b = b) ∧ (∀ b, b < m → live h' b = true → live h2 b = true) ∧ m ≤ h2.length ∧ K v2 h2

theorem AC.sees (hc : AC P f args h (fun v h' => Sees h.length h' v K)) : AC P f args h K := AC.view hc

theorem Sees.self {m : Nat} {h' : AH} {v : Value} (ok : AOK h') (hv : scp (live h') v = true) (hm : m ≤ h'.length) (hk : K v h') : Sees m h' v K := by
  refine ⟨v, h', fun b => b, fun b => [b], ⟨fun b k hb => .keep (by rw [renB_id]; exact hb), fun b c _ _ hne x hx hx' => ?_⟩, ok, hv, (ren_id v).symm, fun _ _ => rfl, fun _ _ h => h, hm, hk⟩
  simp at hx hx'
  exact hne (hx ▸ hx')

theorem Sees.mono {m : Nat} {h' : AH} {v : Value} (hs : Sees m h' v K) (hk : ∀ v h, K v h → K' v h) : Sees m h' v K' := by
  obtain ⟨v2, h2, σ, us, a1, a2, a3, a4, a5, a6, a7, a8⟩ := hs
  exact ⟨v2, h2, σ, us, a1, a2, a3, a4, a5, a6, a7, hk _ _ a8⟩

/-- The opened structure. -/
def opnR (H : AH) (b : Nat) (j : Nat) : Nat := if j = 0 then b else H.length + (j - 1)
def opn (H : AH) (b : Nat) (g : AH) : AH := match g with
  | [] => H
  | k :: g' => H.set b (renB (opnR H b) k) ++ g'.map (renB (opnR H b))

theorem opn_get {H : AH} {b : Nat} {g : AH} (hb : b < H.length) (hg : 0 < g.length) {c : Nat} {k : ABlk} (hc : (opn H b g)[c]? = some k) :
    (∃ (j : Nat) (k0 : ABlk), g[j]? = some k0 ∧ c = opnR H b j ∧ k = renB (opnR H b) k0) ∨ (c ≠ b ∧ c < H.length ∧ H[c]? = some k) := by
  cases g with
  | nil => simp at hg
  | cons k1 g' =>
    simp only [opn] at hc
    by_cases hcl : c < H.length
    · rw [List.getElem?_append_left (by simpa using hcl)] at hc
      by_cases e : c = b
      · subst e
        rw [List.getElem?_set_self hcl] at hc
        injection hc with hc
        exact .inl ⟨0, k1, rfl, by simp [opnR], hc.symm⟩
      · rw [List.getElem?_set_ne (fun h => e h.symm)] at hc
        exact .inr ⟨e, hcl, hc⟩
    · rw [List.getElem?_append_right (by simpa using hcl)] at hc
      simp only [List.length_set, List.getElem?_map] at hc
      cases hx : g'[c - H.length]? with
      | none => rw [hx] at hc; cases hc
      | some k0 =>
        rw [hx] at hc
        injection hc with hc
        refine .inl ⟨c - H.length + 1, k0, by simpa using hx, ?_, hc.symm⟩
        simp [opnR]
        omega

theorem opn_at {H : AH} {b : Nat} {g : AH} (hb : b < H.length) {j : Nat} {k : ABlk} (hj : g[j]? = some k) : (opn H b g)[opnR H b j]? = some (renB (opnR H b) k) := by
  cases g with
  | nil => simp at hj
  | cons k1 g' =>
    simp only [opn]
    cases j with
    | zero =>
      simp at hj
      subst hj
      rw [show opnR H b 0 = b from rfl, List.getElem?_append_left (by simpa using hb), List.getElem?_set_self hb]
    | succ j =>
      simp at hj
      rw [show opnR H b (j + 1) = H.length + j by simp [opnR], List.getElem?_append_right (by simp), List.length_set, Nat.add_sub_cancel_left, List.getElem?_map, hj]
      rfl

theorem opn_other {H : AH} {b : Nat} {g : AH} {c : Nat} (hc : c < H.length) (hne : c ≠ b) : (opn H b g)[c]? = H[c]? := by
  cases g with
  | nil => rfl
  | cons k1 g' =>
    simp only [opn]
    rw [List.getElem?_append_left (by simpa using hc), List.getElem?_set_ne (fun h => hne h.symm)]

theorem opn_length {H : AH} {b : Nat} {g : AH} (hg : 0 < g.length) : (opn H b g).length = H.length + (g.length - 1) := by
  cases g with
  | nil => simp at hg
  | cons k1 g' => simp [opn]

/-- A STRUCTURE IS OPENED, in whatever heap. -/
theorem AC.open {S : Type} {heaps : S → AH → Prop} {s : S} {H : AH} {b : Nat} (hb : H[b]? = some (.adt (mkADT S heaps) s)) (hent : enterB P f = true)
    (ho : ∀ g, heaps s g → own g → live g 0 = true → AC P f args (opn H b g) (fun v h' => Sees H.length h' v K)) : AC P f args H K := by
  refine ⟨hent, fun ρ w us r hs ha => ?_⟩
  obtain ⟨h0, h1, ρi, g, hg, hown, ri, hal, hlive, hF⟩ := r.holds b _ hb
  have hgl : 0 < g.length := live_lt hlive
  have hbl : b < H.length := (List.getElem?_eq_some_iff.1 hb).1
  have hal0 : (ρi 0).al = (ρ b).al := by rw [hal]; simp only [CB.al, h0, h1]
  -- the names of the opened heap
  obtain ⟨ρ2, hρ2⟩ : ∃ ρ2 : Ren, ρ2 = fun c => if c = b then ρi 0 else if c < H.length then ρ c else ρi (c - H.length + 1) := ⟨_, rfl⟩
  have q1 : ∀ j, ρ2 (opnR H b j) = ρi j := by
    intro j
    subst hρ2
    unfold opnR
    by_cases hj : j = 0
    · simp [hj]
    · have e1 : ¬ (H.length + (j - 1) = b) := by omega
      have e2 : H.length + (j - 1) - H.length + 1 = j := by omega
      have e3 : ¬ (H.length + (j - 1) < H.length) := by omega
      have e4 : j - 1 + 1 = j := by omega
      simp [hj, e1, e2, e3, e4]
  have q2 : ∀ c, c ≠ b → c < H.length → ρ2 c = ρ c := fun c h1 h2 => by subst hρ2; simp [h1, h2]
  have q3 : ∀ c, c < H.length → (ρ2 c).al = (ρ c).al := by
    intro c hc
    by_cases e : c = b
    · subst e
      have := q1 0
      rw [show opnR H c 0 = c from rfl] at this
      rw [this, hal0]
    · rw [q2 c e hc]
  have hconc : (fun c => ρ2 (opnR H b c)) = ρi := funext q1
  have feetIn : ∀ (c : Nat) (k : ABlk), (opn H b g)[c]? = some k → ∀ x, x ∈ k.foot (ρ2 c) → ∃ (c0 : Nat) (k0 : ABlk), H[c0]? = some k0 ∧ x ∈ k0.foot (ρ c0) := by
    intro c k hc x hx
    rcases opn_get hbl hgl hc with ⟨j, k0, hj, rfl, rfl⟩ | ⟨hne, hcl, hk⟩
    · rw [foot_ren, q1] at hx
      exact ⟨b, _, hb, (hF x).2 ⟨j, k0, hj, hx⟩⟩
    · rw [q2 c hne hcl] at hx
      exact ⟨c, k, hk, hx⟩
  have reachIn : ∀ (c : Nat) (k : ABlk), (opn H b g)[c]? = some k → ∀ x, x ∈ k.reach (ρ2 c) → ∃ (c0 : Nat) (k0 : ABlk), H[c0]? = some k0 ∧ x ∈ k0.reach (ρ c0) := by
    intro c k hc x hx
    rcases opn_get hbl hgl hc with ⟨j, k0, hj, rfl, rfl⟩ | ⟨hne, hcl, hk⟩
    · rw [reach_ren, q1, hown j k0 hj] at hx
      exact ⟨b, _, hb, (hF x).2 ⟨j, k0, hj, hx⟩⟩
    · rw [q2 c hne hcl] at hx
      exact ⟨c, k, hk, hx⟩
  have feetOut : ∀ (c0 : Nat) (k0 : ABlk), H[c0]? = some k0 → ∀ x, x ∈ k0.foot (ρ c0) → ∃ (c : Nat) (k : ABlk), (opn H b g)[c]? = some k ∧ x ∈ k.foot (ρ2 c) := by
    intro c0 k0 hc x hx
    by_cases e : c0 = b
    · subst e
      rw [hb] at hc
      injection hc with hc
      subst hc
      obtain ⟨j, k, hj, hx⟩ := (hF x).1 hx
      exact ⟨_, _, opn_at hbl hj, by rw [foot_ren, q1]; exact hx⟩
    · have hcl := (List.getElem?_eq_some_iff.1 hc).1
      exact ⟨c0, k0, by rw [opn_other hcl e]; exact hc, by rw [q2 c0 e hcl]; exact hx⟩
  have hlv : ∀ c, live H c = true → live (opn H b g) c = true := by
    intro c hl
    by_cases e : c = b
    · subst e
      have hg0 : ∃ k0, g[0]? = some k0 := ⟨_, List.getElem?_eq_getElem hgl⟩
      obtain ⟨k0, hk0⟩ := hg0
      have := opn_at (b := c) hbl hk0
      rw [show opnR H c 0 = c from rfl] at this
      refine live_of this ?_
      intro h
      have h2 := hole_ren h
      subst h2
      unfold live at hlive
      rw [hk0] at hlive
      cases hlive
    · have hcl := live_lt hl
      unfold live at hl ⊢
      rw [opn_other hcl e]
      exact hl
  have hlvg : ∀ j, live g j = true → live (opn H b g) (opnR H b j) = true := by
    intro j hl
    obtain ⟨k0, hk0⟩ : ∃ k0, g[j]? = some k0 := ⟨_, List.getElem?_eq_getElem (live_lt hl)⟩
    refine live_of (opn_at hbl hk0) ?_
    intro h
    have h2 := hole_ren h
    subst h2
    unfold live at hl
    rw [hk0] at hl
    cases hl
  have r2 : Rel ρ2 (opn H b g) w := by
    refine ⟨fun c k hc => ?_, fun c k hc => ?_, fun c d k l hc hd hne x hx hx' => ?_⟩
    · rcases opn_get hbl hgl hc with ⟨j, k0, hj, rfl, rfl⟩ | ⟨hne, hcl, hk⟩
      · rw [holds_ren, hconc, q1]
        exact ri.holds j k0 hj
      · rw [q2 c hne hcl]
        refine (r.holds c k hk).congr (r.scope c k hk) fun d hd => q3 d (live_lt hd)
    · rcases opn_get hbl hgl hc with ⟨j, k0, hj, rfl, rfl⟩ | ⟨hne, hcl, hk⟩
      · exact scpB_ren hlvg (ri.scope j k0 hj)
      · exact ABlk.scp_mono hlv (r.scope c k hk)
    · rcases opn_get hbl hgl hc with ⟨j, k0, hj, rfl, rfl⟩ | ⟨hne1, hcl1, hk1⟩
      · rw [foot_ren, q1] at hx
        rcases opn_get hbl hgl hd with ⟨j', k0', hj', rfl, rfl⟩ | ⟨hne2, hcl2, hk2⟩
        · rw [reach_ren, q1] at hx'
          refine ri.apart j j' _ _ hj hj' (fun e => hne (by rw [e])) x hx hx'
        · rw [q2 d hne2 hcl2] at hx'
          exact r.apart b d _ _ hb hk2 (fun e => hne2 e.symm) x ((hF x).2 ⟨j, k0, hj, hx⟩) hx'
      · rw [q2 c hne1 hcl1] at hx
        rcases opn_get hbl hgl hd with ⟨j', k0', hj', rfl, rfl⟩ | ⟨hne2, hcl2, hk2⟩
        · rw [reach_ren, q1, hown j' k0' hj'] at hx'
          exact r.apart c b _ _ hk1 hb hne1 x hx ((hF x).2 ⟨j', k0', hj', hx'⟩)
        · rw [q2 d hne2 hcl2] at hx'
          exact r.apart c d _ _ hk1 hk2 hne x hx hx'
  refine ((ho g hg hown hlive).2 ρ2 w us r2 hs fun i v hv => ?_).mono ?_
  · obtain ⟨u, hu, vr⟩ := ha i v hv
    exact ⟨u, hu, vr.mono hlv fun c hc => q3 c (live_lt hc)⟩
  rintro e w' ⟨v, u, h', ρ', he, vr, ⟨v2, h2, σ, us2, hv, ok, hsc, rfl, hσ, hl, hlen, hp⟩, r', nx, hle⟩
  obtain ⟨ρ3, r3, hal3, nx3⟩ := hv.next ok r' hσ hl
  have hol : H.length ≤ (opn H b g).length := by rw [opn_length hgl]; omega
  have nx4 := (nx.less hol).trans nx3
  refine ⟨v2, u, h2, ρ3, he, ⟨hsc, ?_⟩, hp, r3, ⟨fun c hc => (nx4.ext c hc).trans (q3 c hc), fun c hc hlc => nx4.lives c hc (hlv c hlc), nx4.os, nx4.tape, nx4.output, nx4.size, fun x hx hn => nx4.keep x hx fun c k hc hx' => ?_, fun c k hc x hx => ?_, fun c k hc x hx => ?_⟩, hlen⟩
  · rw [vr.2, conc_ren]
    exact (conc_congr (fun b _ => hal3 b) v2 hsc).symm
  · obtain ⟨c0, k0, h3, h4⟩ := feetIn c k hc x hx'
    exact hn c0 k0 h3 h4
  · rcases nx4.prov c k hc x hx with h3 | ⟨b0, k0, h3, h4⟩
    · exact .inl h3
    · exact .inr (feetIn b0 k0 h3 x h4)
  · rcases nx4.prow c k hc x hx with h3 | ⟨b0, k0, h3, h4⟩
    · exact .inl h3
    · exact .inr (reachIn b0 k0 h3 x h4)

/-- A method of a structure that stands alone. -/
theorem AC.method2 {S : Type} {heaps : S → AH → Prop} {s : S} (hent : enterB P f = true)
    (ho : ∀ g, heaps s g → own g → live g 0 = true → AC P f args g (fun v h' => Sees 1 h' v K)) : AC P f args [.adt (mkADT S heaps) s] K := by
  refine AC.open (b := 0) rfl hent fun g hg hown hlive => ?_
  have e : opn [.adt (mkADT S heaps) s] 0 g = g := by
    cases g with
    | nil => simp [live] at hlive
    | cons k g' =>
      have e1 : opnR [ABlk.adt (mkADT S heaps) s] 0 = fun b => b := by
        funext j
        unfold opnR
        by_cases hj : j = 0
        · simp [hj]
        · simp [hj]; omega
      simp only [opn, e1, List.set_cons_zero, renB_id]
      simp only [List.cons_append, List.nil_append]
      congr 1
      conv => rhs; rw [← List.map_id g']
      exact List.map_congr_left fun k _ => renB_id k
  rw [e]
  exact ho g hg hown hlive

/-- What a heap is to be seen as, block by block: each with the names that it stands for. -/
abbrev Spec := List (ABlk × List Nat)
def Spec.σ (l : Spec) (b : Nat) : Nat := match l[b]? with
  | some (_, i :: _) => i
  | _ => b

def subL (ι : Nat → Nat) (h : AH) : Nat → AH → Prop
  | _, [] => True
  | j, k :: g => h[ι j]? = some (renB ι k) ∧ subL ι h (j + 1) g
theorem subL_get {ι : Nat → Nat} {h : AH} : ∀ {g : AH} {j0 : Nat}, subL ι h j0 g → ∀ (j : Nat) (k : ABlk), g[j]? = some k → h[ι (j0 + j)]? = some (renB ι k) := by
  intro g
  induction g with
  | nil => intro j0 _ j k hj; simp at hj
  | cons k1 g ih =>
    intro j0 hs j k hj
    obtain ⟨h1, h2⟩ := hs
    cases j with
    | zero => simp at hj; subst hj; exact h1
    | succ j =>
      simp at hj
      have := ih h2 j k hj
      rwa [show j0 + 1 + j = j0 + (j + 1) by omega] at this

/-- Names of a list. -/
def nth (is : List Nat) (j : Nat) : Nat := match is, j with
  | [], _ => 0
  | i :: _, 0 => i
  | _ :: is, j + 1 => nth is j
theorem nth_get : ∀ (is : List Nat) (j : Nat), j < is.length → is[j]? = some (nth is j)
  | [], j, h => by simp at h
  | i :: is, 0, _ => by simp [nth]
  | i :: is, j + 1, h => by simp [nth]; simpa using nth_get is j (by simpa using h)
theorem nth_0 (i : Nat) (is : List Nat) : nth (i :: is) 0 = i := rfl
theorem nth_s (i : Nat) (is : List Nat) (j : Nat) : nth (i :: is) (j + 1) = nth is j := rfl

/-- One block of the seen heap. -/
def okBlk (l : Spec) (h : AH) (b : Nat) (k : ABlk) (is : List Nat) : Prop := VB h l.σ b k is

theorem okBlk_keep {l : Spec} {h : AH} {b i : Nat} {k : ABlk} (hσ : l.σ b = i) (hk : h[i]? = some (renB l.σ k)) : okBlk l h b k [i] := by
  subst hσ
  exact .keep hk

theorem okBlk_close {l : Spec} {h : AH} {b : Nat} {S : Type} {heaps : S → AH → Prop} {s : S} {is : List Nat} (g : AH) (hg : heaps s g) (ho : own g) (ok : AOK g) (hc : ∃ vs e, g[0]? = some (.cells vs e none)) (hσ : nth is 0 = l.σ b) (hnd : is.Nodup) (hl : is.length = g.length) (hs : subL (nth is) h 0 g) : okBlk l h b (.adt (mkADT S heaps) s) is := by
  have hsub : Sub (nth is) g h := by
    refine ⟨fun j k hj => ?_, fun i j hi hj e => ?_⟩
    · have := subL_get hs j k hj
      rwa [Nat.zero_add] at this
    · have h1 := nth_get is i (by omega)
      have h2 := nth_get is j (by omega)
      rw [e, ← h2] at h1
      exact ((List.getElem?_inj (by omega) hnd).1 h1)
  have := VB.clos (σ := l.σ) (b := b) hg ho ok hc hσ hsub
  have e : (List.range g.length).map (nth is) = is := by
    refine List.ext_getElem? fun j => ?_
    rw [List.getElem?_map]
    by_cases hj : j < g.length
    · rw [List.getElem?_range hj, nth_get is j (by omega)]
      rfl
    · rw [List.getElem?_eq_none (by simpa using hj), List.getElem?_eq_none (by omega)]
      rfl
  rw [e] at this
  exact this

/-- No name stands for two blocks. -/
def disL : Spec → Prop
  | [] => True
  | x :: l => (∀ y ∈ l, ∀ i ∈ x.2, i ∉ y.2) ∧ disL l
theorem disL_get : ∀ {l : Spec}, disL l → ∀ (b c : Nat) (x y : ABlk × List Nat), l[b]? = some x → l[c]? = some y → b < c → ∀ i ∈ x.2, i ∉ y.2
  | [], _, b, _, x, _, hx, _, _ => by simp at hx
  | z :: l, hd, 0, c + 1, x, y, hx, hy, _ => by
    simp at hx hy
    subst hx
    exact hd.1 y (List.mem_of_getElem? hy)
  | z :: l, hd, b + 1, c + 1, x, y, hx, hy, hlt => by
    simp at hx hy
    exact disL_get hd.2 b c x y hx hy (by omega)

theorem Sees.mk {m : Nat} {h' : AH} {v : Value} (l : Spec) (v2 : Value) (hb : ∀ (b : Nat) k is, l[b]? = some (k, is) → okBlk l h' b k is) (hd : disL l) (ok : AOK (l.map (·.1))) (hs : scp (live (l.map (·.1))) v2 = true) (hv : v = ren l.σ v2)
    (h1 : ∀ b, b < m → l.σ b = b) (h2 : ∀ b, b < m → live (l.map (·.1)) b = true) (hm : m ≤ l.length) (hk : K v2 (l.map (·.1))) : Sees m h' v K := by
  refine ⟨v2, l.map (·.1), l.σ, fun b => match l[b]? with | some x => x.2 | none => [], ⟨fun b k hk => ?_, fun b c hbl hcl hne x hx hx' => ?_⟩, ok, hs, hv, h1, fun b hb _ => h2 b hb, by simpa using hm, hk⟩
  · rw [List.getElem?_map] at hk
    cases hx : l[b]? with
    | none => rw [hx] at hk; cases hk
    | some y =>
      rw [hx] at hk
      injection hk with hk
      subst hk
      exact hb b y.1 y.2 hx
  · simp only [List.length_map] at hbl hcl
    have e1 := List.getElem?_eq_getElem hbl
    have e2 := List.getElem?_eq_getElem hcl
    rw [e1] at hx
    rw [e2] at hx'
    simp only at hx hx'
    by_cases hlt : b < c
    · exact disL_get hd b c _ _ e1 e2 hlt x hx hx'
    · exact disL_get hd c b _ _ e2 e1 (by omega) x hx' hx

/-- A call whose contract knows of no block. -/
theorem AC.at0 {args0 : List Value} {r : Value} {E : AH} (hc : AC P f args0 [] (fun v h' => v = r ∧ h' = E)) (hE : ∀ k ∈ E, noNames k) {H : AH} (ha : scpL nil args0 = true) (he : args = args0) (hK : K (ren (fun j => H.length + j) r) (H ++ E)) : AC P f args H K := by
  have sb : Sub (fun b => b) [] H := ⟨fun j k hj => by simp at hj, fun i j hi => by simp at hi⟩
  have := AC.frame sb (fun b k hb => by simp at hb) (by refine scpL_mono ?_ _ ha; intro b hb; cases hb) hc
  have e : args0.map (ren fun b => b) = args0 := by
    conv => rhs; rw [← List.map_id args0]
    exact List.map_congr_left fun v _ => ren_id v
  rw [e] at this
  subst he
  refine this.mono ?_
  rintro v H' ⟨v0, h', ⟨rfl, rfl⟩, _, rfl, rfl⟩
  have e1 : extN (fun b => b) ([] : AH).length H.length = fun j => H.length + j := by
    funext j
    simp [extN]
  have e2 : glue (fun b => b) ([] : AH).length H h' = H ++ h' := by
    unfold glue
    rw [e1]
    simp only [List.length_nil, List.take_zero, List.drop_zero, setAll]
    congr 1
    conv => rhs; rw [← List.map_id h']
    exact List.map_congr_left fun k hk => renB_noNames (hE k hk) _
  rw [e1, e2]
  exact hK

/-- A call whose contract knows of one block. -/
theorem AC.at1 {args0 : List Value} {r : Value} {k0 k1 : ABlk} {E : AH} (hc : AC P f args0 [k0] (fun v h' => v = r ∧ h' = k1 :: E)) (n0 : noNames k0) (n1 : noNames k1) (hE : ∀ k ∈ E, noNames k) {H : AH} {b : Nat} (hb : H[b]? = some k0) (ha : scpL (live [k0]) args0 = true) (he : args = args0.map (ren fun _ => b))
    (hK : K (ren (opnR H b) r) (H.set b k1 ++ E)) : AC P f args H K := by
  have sb : Sub (fun _ => b) [k0] H := by
    refine ⟨fun j k hj => ?_, fun i j hi hj _ => ?_⟩
    · match j with
      | 0 => injection hj with hj; subst hj; rw [renB_noNames n0]; exact hb
      | n + 1 => simp at hj
    · simp at hi hj; omega
  have ok : AOK [k0] := by
    intro c k hc
    match c with
    | 0 => injection hc with hc; subst hc; exact scp_noNames n0 _
    | n + 1 => simp at hc
  have := AC.frame sb ok ha hc
  rw [← he] at this
  refine this.mono ?_
  rintro v H' ⟨v0, h', ⟨rfl, rfl⟩, _, rfl, rfl⟩
  have e1 : extN (fun _ => b) ([k0] : AH).length H.length = opnR H b := by
    funext j
    unfold extN opnR
    simp only [List.length_singleton]
    by_cases hj : j = 0
    · simp [hj]
    · rw [if_neg (by omega), if_neg hj]
  have e2 : glue (fun _ => b) ([k0] : AH).length H (k1 :: E) = H.set b k1 ++ E := by
    unfold glue
    rw [e1]
    simp only [List.length_singleton, List.take_succ_cons, List.take_zero, List.drop_succ_cons, List.drop_zero, setAll, renB_noNames n1]
    congr 1
    conv => rhs; rw [← List.map_id E]
    exact List.map_congr_left fun k hk => renB_noNames (hE k hk) _
  rw [e1, e2]
  exact hK

/-- A call whose contract knows of two blocks. -/
theorem AC.at2 {args0 : List Value} {r : Value} {k0 k1 k0' k1' : ABlk} {E : AH} (hc : AC P f args0 [k0, k1] (fun v h' => v = r ∧ h' = k0' :: k1' :: E)) (n0 : noNames k0) (n1 : noNames k1) (n0' : noNames k0') (n1' : noNames k1') (hE : ∀ k ∈ E, noNames k) {H : AH} {b c : Nat} (hb : H[b]? = some k0) (hc1 : H[c]? = some k1) (hne : b ≠ c)
    (ha : scpL (live [k0, k1]) args0 = true) (he : args = args0.map (ren fun j => if j = 0 then b else c))
    (hK : K (ren (fun j => if j = 0 then b else if j = 1 then c else H.length + (j - 2)) r) ((H.set b k0').set c k1' ++ E)) : AC P f args H K := by
  have sb : Sub (fun j => if j = 0 then b else c) [k0, k1] H := by
    refine ⟨fun j k hj => ?_, fun i j hi hj e => ?_⟩
    · match j with
      | 0 => injection hj with hj; subst hj; rw [renB_noNames n0]; exact hb
      | 1 => injection hj with hj; subst hj; rw [renB_noNames n1]; exact hc1
      | n + 2 => simp at hj
    · simp at hi hj
      have : i = 0 ∨ i = 1 := by omega
      have : j = 0 ∨ j = 1 := by omega
      rcases ‹i = 0 ∨ i = 1› with rfl | rfl <;> rcases ‹j = 0 ∨ j = 1› with rfl | rfl <;> simp at e ⊢
      · exact hne e
      · exact hne e.symm
  have ok : AOK [k0, k1] := by
    intro d k hd
    match d with
    | 0 => injection hd with hd; subst hd; exact scp_noNames n0 _
    | 1 => injection hd with hd; subst hd; exact scp_noNames n1 _
    | n + 2 => simp at hd
  have := AC.frame sb ok ha hc
  rw [← he] at this
  refine this.mono ?_
  rintro v H' ⟨v0, h', ⟨rfl, rfl⟩, _, rfl, rfl⟩
  have e1 : extN (fun j => if j = 0 then b else c) ([k0, k1] : AH).length H.length = fun j => if j = 0 then b else if j = 1 then c else H.length + (j - 2) := by
    funext j
    unfold extN
    simp only [List.length_cons, List.length_nil]
    by_cases h0 : j = 0
    · simp [h0]
    · by_cases h1 : j = 1
      · simp [h1]
      · rw [if_neg (by omega), if_neg h0, if_neg h1]
  have e2 : glue (fun j => if j = 0 then b else c) ([k0, k1] : AH).length H (k0' :: k1' :: E) = (H.set b k0').set c k1' ++ E := by
    unfold glue
    rw [e1]
    simp only [List.length_cons, List.length_nil, List.take_succ_cons, List.take_zero, List.drop_succ_cons, List.drop_zero, setAll, renB_noNames n0', renB_noNames n1']
    simp only [if_true, Nat.zero_add, show ((1 : Nat) = 0) = False by simp, if_false]
    congr 1
    conv => rhs; rw [← List.map_id E]
    exact List.map_congr_left fun k hk => renB_noNames (hE k hk) _
  rw [e1, e2]
  exact hK

/-- Some of what is known behind a call is let go: the newest names. -/
theorem AC.cut (hc : AC P f args h (fun v h' => ∃ g : AH, g = h'.take g.length ∧ AOK g ∧ scp (live g) v = true ∧ h.length ≤ g.length ∧ (∀ b, b < h.length → live g b = true) ∧ K v g)) : AC P f args h K := by
  refine AC.sees (hc.mono ?_)
  rintro v h' ⟨g, hg, ok, hv, hl, hlv, hk⟩
  refine ⟨v, g, fun b => b, fun b => [b], ⟨fun b k hb => .keep ?_, fun b c _ _ hne x hx hx' => ?_⟩, ok, hv, (ren_id v).symm, fun _ _ => rfl, fun b hb _ => hlv b hb, hl, hk⟩
  · rw [renB_id]
    rw [hg, List.getElem?_take] at hb
    split at hb
    · exact hb
    · cases hb
  · simp at hx hx'
    exact hne (hx ▸ hx')

end

section
variable {P : Program} {m : Nat} {t : T} {h : AH} {Q : AExit → T → AH → Prop}

/-- What is known at a loop's head is there, under other names. -/
def atHeadV (m n : Nat) (tv : List (Nat × Value)) (g : AH) (t : T) (h : AH) : Prop :=
  ∃ l : Spec, g = l.map (·.1) ∧ (∀ (b : Nat) k is, l[b]? = some (k, is) → okBlk l h b k is) ∧ disL l ∧ AOK g ∧ (∀ b, b < m → l.σ b = b ∧ live g b = true) ∧ m ≤ g.length ∧ t.length = n ∧ ∀ x ∈ tv, getT t x.1 = some (ren l.σ x.2) ∧ scp (live g) x.2 = true

theorem awp_headV {c : Code} {n : Nat} {tv : List (Nat × Value)} {g : AH} (ha : atHeadV m n tv g t h) (hw : AWp P m c Q (mkT n tv) g) : AWp P m c Q t h := by
  obtain ⟨l, rfl, hb, hd, ok, h1, hm, hn, hx⟩ := ha
  have hv : View l.σ (l.map (·.1)) h (fun b => match l[b]? with | some x => x.2 | none => []) := by
    refine ⟨fun b k hk => ?_, fun b c hbl hcl hne x hx hx' => ?_⟩
    · rw [List.getElem?_map] at hk
      cases hx : l[b]? with
      | none => rw [hx] at hk; cases hk
      | some y =>
        rw [hx] at hk
        injection hk with hk
        subst hk
        exact hb b y.1 y.2 hx
    · simp only [List.length_map] at hbl hcl
      have e1 := List.getElem?_eq_getElem hbl
      have e2 := List.getElem?_eq_getElem hcl
      rw [e1] at hx
      rw [e2] at hx'
      simp only at hx hx'
      by_cases hlt : b < c
      · exact disL_get hd b c _ _ e1 e2 hlt x hx hx'
      · exact disL_get hd c b _ _ e2 e1 (by omega) x hx' hx
  refine awp_view hv ok (fun b hb => (h1 b hb).1) (fun b hb _ => (h1 b hb).2) hm (by rw [mkT_length, hn]) (fun i v2 hi => ?_) hw
  have hm2 := mkT_get hi
  obtain ⟨e, e2⟩ := hx _ hm2
  refine ⟨?_, e2⟩
  rw [getT_eq] at e
  cases hx : t[i]? with
  | none => simp only [hx] at e; cases e
  | some o => simp only [hx, Option.join_some] at e; rw [e]

def loopQ3 {σ : Type} (m n : Nat) (I : σ → Prop) (μ : σ → Nat) (tv : σ → List (Nat × Value)) (hv : σ → AH) (s : σ) (Q : AExit → T → AH → Prop) : AExit → T → AH → Prop
  | .normal, t, h => ∃ s', μ s' < μ s ∧ I s' ∧ atHeadV m n (tv s') (hv s') t h
  | e, t, h => Q e t h
/-- A round is over: the next one's state. -/
def nextS {σ : Type} (m n : Nat) (I : σ → Prop) (μ : σ → Nat) (tv : σ → List (Nat × Value)) (hv : σ → AH) (s : σ) (t : T) (h : AH) : Prop := ∃ s', μ s' < μ s ∧ I s' ∧ atHeadV m n (tv s') (hv s') t h
theorem loopQ3_normal {σ : Type} (n : Nat) (I : σ → Prop) (μ : σ → Nat) (tv : σ → List (Nat × Value)) (hv : σ → AH) (s : σ) : loopQ3 m n I μ tv hv s Q .normal t h = nextS m n I μ tv hv s t h := rfl
theorem nextS.intro {σ : Type} {n : Nat} {I : σ → Prop} {μ : σ → Nat} {tv : σ → List (Nat × Value)} {hv : σ → AH} {s : σ} (s' : σ) (h1 : μ s' < μ s) (h2 : I s') (h3 : atHeadV m n (tv s') (hv s') t h) : nextS m n I μ tv hv s t h := ⟨s', h1, h2, h3⟩
theorem loopQ3_exit {σ : Type} (n : Nat) (I : σ → Prop) (μ : σ → Nat) (tv : σ → List (Nat × Value)) (hv : σ → AH) (s : σ) (i : Nat) : loopQ3 m n I μ tv hv s Q (.exit i) t h = Q (.exit i) t h := rfl
theorem loopQ3_ret {σ : Type} (n : Nat) (I : σ → Prop) (μ : σ → Nat) (tv : σ → List (Nat × Value)) (hv : σ → AH) (s : σ) : loopQ3 m n I μ tv hv s Q .ret t h = Q .ret t h := rfl

/-- THE LOOP's RULE: at its head some temporaries and blocks are known, as the round's state says; the names may turn from round to round. -/
theorem loop3 (hmix : P.follows .mixedOrders = true) {ac : ACode} {σ : Type} (n : Nat) (I : σ → Prop) (μ : σ → Nat) (tv : σ → List (Nat × Value)) (hv : σ → AH) (s0 : σ) (hI : I s0) (h0 : atHeadV m n (tv s0) (hv s0) t h)
    (hr : ∀ s, I s → begin_ P m (mkT n (tv s)) ac (hv s) (loopQ3 m n I μ tv hv s Q)) : ALoop P m ac t h Q := by
  have key : ∀ N s, μ s = N → I s → ∀ c, cCode P c = some ac → ARounds P m c Q (N + 1) (mkT n (tv s)) (hv s) := by
    intro N
    induction N using Nat.strongRecOn with
    | _ N ih =>
      intro s hs hI c hc
      have hb := hr s hI
      unfold begin_ run at hb
      have hw := W_sound (holds := fun p => p) hmix (fun h => h) (fun _ _ _ _ h => h) (fun c ac t h K hc hl => hl c hc) c ac _ _ _ hc hb
      refine AWp.mono hw fun e t' h' hq => ?_
      unfold resK resume at hq
      cases e with
      | normal =>
        obtain ⟨s', hlt, hI', ha⟩ := hq
        have hrec := ih (μ s') (by omega) s' rfl hI' c hc
        have hrec2 := ARounds.more (μ s' + 1) N _ _ (by omega) hrec
        cases N with
        | zero => exact absurd hlt (by omega)
        | succ N => exact awp_headV ha hrec2
      | exit id => exact hq
      | ret => exact hq
  intro c hc
  exact awp_headV h0 (awp_rounds _ (key _ s0 rfl hI c hc))

attribute [irreducible] nextS

/-- Each block of the head's heap is there, as it is. -/
def keepsF (σ : Nat → Nat) (h : AH) : AH → List Nat → Prop
  | [], [] => True
  | k :: g, i :: is => h[i]? = some (renB σ k) ∧ keepsF σ h g is
  | _, _ => False
theorem keepsF_get {σ : Nat → Nat} {h : AH} : ∀ {g : AH} {is : List Nat}, keepsF σ h g is → g.length = is.length ∧ ∀ (b : Nat) (k : ABlk), g[b]? = some k → h[nth is b]? = some (renB σ k)
  | [], [], _ => ⟨rfl, fun b k hb => by simp at hb⟩
  | k :: g, i :: is, hs => by
    obtain ⟨h1, h2⟩ := hs
    obtain ⟨e, ih⟩ := keepsF_get h2
    refine ⟨by simp [e], fun b k' hb => ?_⟩
    cases b with
    | zero => simp at hb; subst hb; exact h1
    | succ b => simp at hb; exact ih b k' hb
  | [], _ :: _, hs => hs.elim
  | _ :: _, [], hs => hs.elim

def pairUp : AH → List Nat → Spec
  | k :: g, i :: is => (k, [i]) :: pairUp g is
  | _, _ => []
theorem pairUp_get : ∀ {g : AH} {is : List Nat}, g.length = is.length → ∀ (b : Nat), (pairUp g is)[b]? = match g[b]? with | some k => some (k, [nth is b]) | none => none
  | [], [], _, b => by simp [pairUp]
  | k :: g, i :: is, hl, 0 => by simp [pairUp, nth]
  | k :: g, i :: is, hl, b + 1 => by
    simp only [pairUp, List.getElem?_cons_succ, nth]
    exact pairUp_get (by simpa using hl) b
  | [], _ :: _, hl, _ => by simp at hl
  | _ :: _, [], hl, _ => by simp at hl
theorem pairUp_map : ∀ {g : AH} {is : List Nat}, g.length = is.length → (pairUp g is).map (·.1) = g
  | [], [], _ => rfl
  | k :: g, i :: is, hl => by simp [pairUp]; exact pairUp_map (by simpa using hl)
  | [], _ :: _, hl => by simp at hl
  | _ :: _, [], hl => by simp at hl
theorem pairUp_mem : ∀ {g : AH} {is : List Nat} {x : ABlk × List Nat}, x ∈ pairUp g is → ∃ i, i ∈ is ∧ x.2 = [i]
  | k :: g, i :: is, x, hx => by
    simp only [pairUp, List.mem_cons] at hx
    rcases hx with rfl | hx
    · exact ⟨i, by simp, rfl⟩
    · obtain ⟨j, hj, e⟩ := pairUp_mem hx
      exact ⟨j, by simp [hj], e⟩
  | [], _, x, hx => by simp [pairUp] at hx
  | _ :: _, [], x, hx => by simp [pairUp] at hx
theorem pairUp_dis : ∀ {g : AH} {is : List Nat}, is.Nodup → disL (pairUp g is)
  | k :: g, i :: is, hd => by
    refine ⟨fun y hy j hj => ?_, pairUp_dis (List.nodup_cons.1 hd).2⟩
    obtain ⟨j', hj', e⟩ := pairUp_mem hy
    simp only [List.mem_singleton] at hj
    subst hj
    rw [e, List.mem_singleton]
    rintro rfl
    exact (List.nodup_cons.1 hd).1 hj'
  | [], _, _ => trivial
  | _ :: _, [], _ => trivial

/-- Names that are not listed stand for themselves. -/
def nthD (is : List Nat) (b : Nat) : Nat := if b < is.length then nth is b else b
theorem pairUp_σ {g : AH} {is : List Nat} (hl : g.length = is.length) : (pairUp g is).σ = nthD is := by
  funext b
  unfold Spec.σ nthD
  rw [pairUp_get hl]
  by_cases hb : b < is.length
  · rw [if_pos hb, List.getElem?_eq_getElem (by omega)]
  · rw [if_neg hb, List.getElem?_eq_none (by omega)]

/-- At a loop's head, where all blocks are as they are. -/
theorem headK {n : Nat} {tv : List (Nat × Value)} {g : AH} (is : List Nat) (h1 : keepsF (nthD is) h g is) (h2 : is.Nodup) (h3 : AOK g) (h4 : ∀ b, b < m → nthD is b = b ∧ live g b = true) (h5 : m ≤ g.length) (h6 : t.length = n) (h7 : ∀ x ∈ tv, getT t x.1 = some (ren (nthD is) x.2) ∧ scp (live g) x.2 = true) : atHeadV m n tv g t h := by
  obtain ⟨hl, hk⟩ := keepsF_get h1
  have hσ := pairUp_σ hl
  refine ⟨pairUp g is, (pairUp_map hl).symm, fun b k js hb => ?_, pairUp_dis h2, h3, fun b hb => by rw [hσ]; exact h4 b hb, h5, h6, by rw [hσ]; exact h7⟩
  rw [pairUp_get hl] at hb
  cases hx : g[b]? with
  | none => rw [hx] at hb; cases hb
  | some k' =>
    rw [hx] at hb
    injection hb with hb
    injection hb with q1 q2
    subst q1 q2
    have hbl := (List.getElem?_eq_some_iff.1 hx).1
    refine okBlk_keep ?_ (by rw [hσ]; exact hk b k' hx)
    rw [hσ]
    simp [nthD, ← hl, hbl]

end

def aokL (L : Nat → Bool) : AH → Prop
  | [] => True
  | k :: g => k.scp L ∧ aokL L g
theorem aokL_get {L : Nat → Bool} : ∀ {g : AH}, aokL L g → ∀ (b : Nat) (k : ABlk), g[b]? = some k → k.scp L
  | k0 :: g, hs, 0, k, hb => by simp at hb; subst hb; exact hs.1
  | k0 :: g, hs, b + 1, k, hb => aokL_get hs.2 b k (by simpa using hb)
  | [], _, b, k, hb => by simp at hb
theorem AOK.of {g : AH} (h : aokL (live g) g) : AOK g := aokL_get h

section
variable {P : Program} {f : FuncId} {args : List Value} {h : AH} {K K' : Value → AH → Prop}

/-- A structure's method is over: nothing new stands beside it. -/
theorem Sees.m0 {S : Type} {heaps : S → AH → Prop} {s : S} {h' : AH} {v : Value} {is : List Nat} (g : AH) (hg : heaps s g) (ho : own g) (ok : AOK g) (hc : ∃ vs e, g[0]? = some (.cells vs e none)) (h0 : nth is 0 = 0) (hnd : is.Nodup) (hl : is.length = g.length) (hs : subL (nth is) h' 0 g)
    (hv : plain v = true) (hK : K v [.adt (mkADT S heaps) s]) : Sees 1 h' v K := by
  have hne : ∃ is', is = 0 :: is' := by
    obtain ⟨vs, e, hc⟩ := hc
    have := (List.getElem?_eq_some_iff.1 hc).1
    cases is with
    | nil => simp at hl; omega
    | cons i is' => rw [nth_0] at h0; subst h0; exact ⟨is', rfl⟩
  obtain ⟨is', rfl⟩ := hne
  have hσ : Spec.σ [(ABlk.adt (mkADT S heaps) s, 0 :: is')] = fun b => b := by
    funext b
    unfold Spec.σ
    cases b with
    | zero => rfl
    | succ b => simp
  refine Sees.mk [(.adt (mkADT S heaps) s, 0 :: is')] v (fun b k js hb => ?_) ⟨by simp, trivial⟩ ?_ (scp_mono (fun b hb => by cases hb) v hv) (by rw [ren_plain _ v hv]) (fun b hb => by rw [hσ]) (fun b hb => ?_) (by simp) hK
  · match b with
    | 0 =>
      simp at hb
      obtain ⟨rfl, rfl⟩ := hb
      exact okBlk_close g hg ho ok hc (by rw [hσ]; rfl) hnd hl hs
    | n + 1 => simp at hb
  · exact AOK.of ⟨trivial, trivial⟩
  · obtain rfl : b = 0 := by omega
    rfl

/-- A structure's method is over: one new block stands beside it. -/
theorem Sees.m1 {S : Type} {heaps : S → AH → Prop} {s : S} {h' : AH} {v : Value} {is : List Nat} {e : Nat} (g : AH) (hg : heaps s g) (ho : own g) (ok : AOK g) (hc : ∃ vs e, g[0]? = some (.cells vs e none)) (h0 : nth is 0 = 0) (hnd : is.Nodup) (hl : is.length = g.length) (hs : subL (nth is) h' 0 g)
    (k : ABlk) (he : e ∉ is) (hk : h'[e]? = some k) (nk : noNames k) (nh : k ≠ .hole) (v2 : Value) (hv : v = ren (fun b => if b = 0 then 0 else if b = 1 then e else b) v2) (hsc : scp (live [.adt (mkADT S heaps) s, k]) v2 = true) (hK : K v2 [.adt (mkADT S heaps) s, k]) : Sees 1 h' v K := by
  have hne : ∃ is', is = 0 :: is' := by
    obtain ⟨vs, e, hc⟩ := hc
    have := (List.getElem?_eq_some_iff.1 hc).1
    cases is with
    | nil => simp at hl; omega
    | cons i is' => rw [nth_0] at h0; subst h0; exact ⟨is', rfl⟩
  obtain ⟨is', rfl⟩ := hne
  have hσ : Spec.σ [(ABlk.adt (mkADT S heaps) s, 0 :: is'), (k, [e])] = fun b => if b = 0 then 0 else if b = 1 then e else b := by
    funext b
    unfold Spec.σ
    match b with
    | 0 => rfl
    | 1 => rfl
    | n + 2 => simp
  refine Sees.mk [(.adt (mkADT S heaps) s, 0 :: is'), (k, [e])] v2 (fun b k' js hb => ?_) ⟨?_, ?_, trivial⟩ ?_ hsc (by rw [hσ]; exact hv) (fun b hb => ?_) (fun b hb => ?_) (by simp) hK
  · match b with
    | 0 =>
      simp at hb
      obtain ⟨rfl, rfl⟩ := hb
      exact okBlk_close g hg ho ok hc (by rw [hσ]; rfl) hnd hl hs
    | 1 =>
      simp at hb
      obtain ⟨rfl, rfl⟩ := hb
      exact okBlk_keep (by rw [hσ]; rfl) (by rw [renB_noNames nk]; exact hk)
    | n + 2 => simp at hb
  · intro y hy i hi
    simp only [List.mem_singleton] at hy
    subst hy
    simp only [List.mem_singleton]
    rintro rfl
    exact he hi
  · intro y hy; cases hy
  · exact AOK.of ⟨trivial, scp_noNames nk _, trivial⟩
  · obtain rfl : b = 0 := by omega
    rw [hσ]; rfl
  · obtain rfl : b = 0 := by omega
    rfl

/-- A call whose contract knows of one block, and tells of what comes how it is. -/
theorem AC.at1Q {args0 : List Value} {k0 : ABlk} (R : Value → ABlk → AH → Prop) (hc : AC P f args0 [k0] (fun v h' => ∃ k1 E, h' = k1 :: E ∧ noNames k1 ∧ (∀ k ∈ E, noNames k) ∧ R v k1 E)) (n0 : noNames k0) {H : AH} {b : Nat} (hb : H[b]? = some k0) (ha : scpL (live [k0]) args0 = true) (he : args = args0.map (ren fun _ => b))
    (hK : ∀ v k1 E, R v k1 E → K (ren (opnR H b) v) (H.set b k1 ++ E)) : AC P f args H K := by
  have sb : Sub (fun _ => b) [k0] H := by
    refine ⟨fun j k hj => ?_, fun i j hi hj _ => ?_⟩
    · match j with
      | 0 => injection hj with hj; subst hj; rw [renB_noNames n0]; exact hb
      | n + 1 => simp at hj
    · simp at hi hj; omega
  have ok : AOK [k0] := by
    intro c k hc
    match c with
    | 0 => injection hc with hc; subst hc; exact scp_noNames n0 _
    | n + 1 => simp at hc
  have := AC.frame sb ok ha hc
  rw [← he] at this
  refine this.mono ?_
  rintro v H' ⟨v0, h', ⟨k1, E, rfl, n1, hE, hR⟩, _, rfl, rfl⟩
  have e1 : extN (fun _ => b) ([k0] : AH).length H.length = opnR H b := by
    funext j
    unfold extN opnR
    simp only [List.length_singleton]
    by_cases hj : j = 0
    · simp [hj]
    · rw [if_neg (by omega), if_neg hj]
  have e2 : glue (fun _ => b) ([k0] : AH).length H (k1 :: E) = H.set b k1 ++ E := by
    unfold glue
    rw [e1]
    simp only [List.length_singleton, List.take_succ_cons, List.take_zero, List.drop_succ_cons, List.drop_zero, setAll, renB_noNames n1]
    congr 1
    conv => rhs; rw [← List.map_id E]
    exact List.map_congr_left fun k hk => renB_noNames (hE k hk) _
  rw [e1, e2]
  exact hK v0 k1 E hR

theorem set_same {H : AH} {b : Nat} {k : ABlk} (hb : H[b]? = some k) : H.set b k = H := by
  refine List.ext_getElem? fun c => ?_
  rw [List.getElem?_set]
  split
  · rename_i e
    subst e
    rw [if_pos (List.getElem?_eq_some_iff.1 hb).1, hb]
  · rfl
end

end Abs
end Go.Proofs.Ytekhadlpcdjlpaa
