/- One heap seen as another: names turned, blocks let go, blocks taken together as a structure. -/
import Derived.Test.YtekhadlpcdjlpaaAbs20
namespace Go.Proofs.Ytekhadlpcdjlpaa
namespace Abs
open Go
set_option linter.unusedVariables false
set_option linter.unusedSimpArgs false

def renA (σ : Nat → Nat) (a : Addr) : Addr := ⟨σ a.block, a.off, a.spot⟩

mutual
def ren (σ : Nat → Nat) : Value → Value
  | .pointer (some a) => .pointer (some (renA σ a))
  | .slice (some a) len cap => .slice (some (renA σ a)) len cap
  | .map (some r) => .map (some (σ r))
  | .chan (some r) => .chan (some (σ r))
  | .func fn first captured => .func fn (renAr σ first) (renAr σ captured)
  | .iface t v => .iface t (ren σ v)
  | .agg cs => .agg (renAr σ cs)
  | .tuple cs => .tuple (renAr σ cs)
  | .pointer none => .pointer none
  | .slice none len cap => .slice none len cap
  | .map none => .map none
  | .chan none => .chan none
  | .bool b => .bool b
  | .int k n => .int k n
  | .float k n => .float k n
  | .complex k a b => .complex k a b
  | .string s => .string s
  | .nilFunc => .nilFunc
  | .nilIface => .nilIface
def renAr (σ : Nat → Nat) : Array Value → Array Value
  | ⟨l⟩ => ⟨renL σ l⟩
def renL (σ : Nat → Nat) : List Value → List Value
  | [] => []
  | v :: l => ren σ v :: renL σ l
end

theorem renL_map (σ : Nat → Nat) : ∀ l, renL σ l = l.map (ren σ)
  | [] => by simp [renL]
  | v :: l => by simp [renL, renL_map σ l]

mutual
theorem conc_ren (ρ : Ren) (σ : Nat → Nat) : ∀ v, conc ρ (ren σ v) = conc (fun b => ρ (σ b)) v
  | .pointer (some a) => by simp only [ren, conc, cAddr, renA]
  | .slice (some a) len cap => by simp only [ren, conc, cAddr, cCap, renA]
  | .map (some r) => by simp only [ren, conc]
  | .chan (some r) => by simp only [ren, conc]
  | .func fn first captured => by simp only [ren, conc, concA_ren ρ σ first, concA_ren ρ σ captured]
  | .iface t v => by simp only [ren, conc, conc_ren ρ σ v]
  | .agg cs => by simp only [ren, conc, concA_ren ρ σ cs]
  | .tuple cs => by simp only [ren, conc, concA_ren ρ σ cs]
  | .pointer none => by simp only [ren, conc]
  | .slice none len cap => by simp only [ren, conc]
  | .map none => by simp only [ren, conc]
  | .chan none => by simp only [ren, conc]
  | .bool b => by simp only [ren, conc]
  | .int k n => by simp only [ren, conc]
  | .float k n => by simp only [ren, conc]
  | .complex k a b => by simp only [ren, conc]
  | .string s => by simp only [ren, conc]
  | .nilFunc => by simp only [ren, conc]
  | .nilIface => by simp only [ren, conc]
theorem concA_ren (ρ : Ren) (σ : Nat → Nat) : ∀ v, concA ρ (renAr σ v) = concA (fun b => ρ (σ b)) v
  | ⟨l⟩ => by simp only [renAr, concA, concL_ren ρ σ l]
theorem concL_ren (ρ : Ren) (σ : Nat → Nat) : ∀ v, concL ρ (renL σ v) = concL (fun b => ρ (σ b)) v
  | [] => by simp only [renL, concL]
  | v :: l => by simp only [renL, concL, conc_ren ρ σ v, concL_ren ρ σ l]
end

mutual
theorem ren_plain (σ : Nat → Nat) : ∀ v, plain v = true → ren σ v = v
  | .pointer (some a), hs => by simp [plain, scp, nil] at hs
  | .slice (some a) _ _, hs => by simp [plain, scp, nil] at hs
  | .map (some r), hs => by simp [plain, scp, nil] at hs
  | .chan (some r), hs => by simp [plain, scp, nil] at hs
  | .func fn first captured, hs => by
    simp only [plain, scp, Bool.and_eq_true] at hs
    simp only [ren, renAr_plain σ first hs.1, renAr_plain σ captured hs.2]
  | .iface t v, hs => by simp only [plain, scp] at hs; simp only [ren, ren_plain σ v hs]
  | .agg cs, hs => by simp only [plain, scp] at hs; simp only [ren, renAr_plain σ cs hs]
  | .tuple cs, hs => by simp only [plain, scp] at hs; simp only [ren, renAr_plain σ cs hs]
  | .pointer none, _ => by simp only [ren]
  | .slice none _ _, _ => by simp only [ren]
  | .map none, _ => by simp only [ren]
  | .chan none, _ => by simp only [ren]
  | .bool b, _ => by simp only [ren]
  | .int k n, _ => by simp only [ren]
  | .float k n, _ => by simp only [ren]
  | .complex k a b, _ => by simp only [ren]
  | .string s, _ => by simp only [ren]
  | .nilFunc, _ => by simp only [ren]
  | .nilIface, _ => by simp only [ren]
theorem renAr_plain (σ : Nat → Nat) : ∀ v, scpA nil v = true → renAr σ v = v
  | ⟨l⟩, hs => by simp only [scpA] at hs; simp only [renAr, renL_plain σ l hs]
theorem renL_plain (σ : Nat → Nat) : ∀ v, scpL nil v = true → renL σ v = v
  | [], _ => by simp only [renL]
  | v :: l, hs => by
    simp only [scpL, Bool.and_eq_true] at hs
    simp only [renL, ren_plain σ v hs.1, renL_plain σ l hs.2]
end

def renB (σ : Nat → Nat) : ABlk → ABlk
  | .cells vs e opn => .cells (vs.map (ren σ)) e opn
  | .row vs => .row (vs.map (ren σ))
  | .map es c => .map (es.map fun e => ⟨ren σ e.key, ren σ e.val, e.born⟩) c
  | k => k

theorem holds_ren {ρ : Ren} {σ : Nat → Nat} {cb : CB} {w : World} {k : ABlk} : Holds ρ cb w (renB σ k) ↔ Holds (fun b => ρ (σ b)) cb w k := by
  have e1 : ∀ v, conc ρ (ren σ v) = conc (fun b => ρ (σ b)) v := conc_ren ρ σ
  cases k with
  | cells vs e opn => simp only [renB, Holds, List.map_map, Function.comp_def, e1]
  | row vs =>
    simp only [renB, Holds]
    constructor
    · intro h i v hv
      rw [← e1]
      exact h i _ (by rw [List.getElem?_map, hv]; rfl)
    · intro h i v hv
      rw [List.getElem?_map] at hv
      cases hx : vs[i]? with
      | none => rw [hx] at hv; cases hv
      | some x =>
        rw [hx] at hv
        injection hv with hv
        subst hv
        rw [e1]
        exact h i x hx
  | map es c =>
    simp only [renB, Holds, List.map_map, Function.comp_def, concEntry, e1]
    exact Iff.rfl
  | iter s pos => exact Iff.rfl
  | adt D s => exact Iff.rfl
  | dead => exact Iff.rfl
  | hole => exact Iff.rfl

theorem foot_ren (σ : Nat → Nat) (cb : CB) (k : ABlk) : (renB σ k).foot cb = k.foot cb := by cases k <;> rfl
theorem reach_ren (σ : Nat → Nat) (cb : CB) (k : ABlk) : (renB σ k).reach cb = k.reach cb := by
  cases k with
  | row vs => cases vs <;> rfl
  | _ => rfl
theorem hole_ren {σ : Nat → Nat} {k : ABlk} (h : renB σ k = .hole) : k = .hole := by cases k <;> simp_all [renB]

/-- Blocks that are taken together: none of them is somebody else's. -/
def own (g : AH) : Prop := ∀ (b : Nat) (k : ABlk), g[b]? = some k → ∀ cb, k.reach cb = k.foot cb

/-- A structure, by the heaps that it may be. -/
def mkADT (S : Type) (heaps : S → AH → Prop) : ADT where
  S := S
  rep s p F w := ∃ ρ g, heaps s g ∧ own g ∧ Rel ρ g w ∧ (ρ 0).al = (p, 0, 0) ∧ live g 0 = true ∧ ∀ x, x ∈ F ↔ ∃ (b : Nat) (k : ABlk), g[b]? = some k ∧ x ∈ k.foot (ρ b)
  lt := by
    rintro s p F w ⟨ρ, g, _, _, r, _, _, hF⟩ x hx
    obtain ⟨b, k, hb, hx⟩ := (hF x).1 hx
    exact r.reach_lt hb x (foot_reach hx)
  keep := by
    rintro s p F w w' ⟨ρ, g, h1, h2, r, h3, h4, hF⟩ hk
    refine ⟨ρ, g, h1, h2, ⟨fun b k hb => (r.holds b k hb).keep fun x hx => hk x ((hF x).2 ⟨b, k, hb, ?_⟩), r.scope, r.apart⟩, h3, h4, hF⟩
    rw [h2 b k hb] at hx
    exact hx

/-- The blocks of h, under names ι, are those of g. -/
structure Sub (ι : Nat → Nat) (g h : AH) : Prop where
  get : ∀ (j : Nat) (k : ABlk), g[j]? = some k → h[ι j]? = some (renB ι k)
  inj : ∀ i j, i < g.length → j < g.length → ι i = ι j → i = j

section
variable {P : Program} {ρ : Ren} {g h : AH} {w : World} {ι : Nat → Nat}

theorem Sub.rel (s : Sub ι g h) (ok : AOK g) (r : Rel ρ h w) : Rel (fun b => ρ (ι b)) g w := by
  refine ⟨fun b k hb => holds_ren.1 (r.holds _ _ (s.get b k hb)), ok, fun b c k l hb hc hne x hx => ?_⟩
  have hbl := (List.getElem?_eq_some_iff.1 hb).1
  have hcl := (List.getElem?_eq_some_iff.1 hc).1
  have := r.apart (ι b) (ι c) _ _ (s.get b k hb) (s.get c l hc) (fun e => hne (s.inj b c hbl hcl e)) x (by rw [foot_ren]; exact hx)
  rw [reach_ren] at this
  exact this

/-- What a structure's call comes to: it ends as the structure, turned. -/
def Closes {S : Type} (heaps : S → AH → Prop) (s : S) (h' : AH) : Prop := ∃ g ι, heaps s g ∧ own g ∧ AOK g ∧ live g 0 = true ∧ ι 0 = 0 ∧ Sub ι g h'

/-- The blocks that a heap's names stand for. -/
def feet (ρ : Ren) (g : AH) : List Nat := (List.range g.length).flatMap fun b => match g[b]? with
  | some k => k.foot (ρ b)
  | none => []

theorem mem_feet {ρ : Ren} {g : AH} {x : Nat} : x ∈ feet ρ g ↔ ∃ (b : Nat) (k : ABlk), g[b]? = some k ∧ x ∈ k.foot (ρ b) := by
  unfold feet
  rw [List.mem_flatMap]
  constructor
  · rintro ⟨b, hb, hx⟩
    cases hg : g[b]? with
    | none => rw [hg] at hx; cases hx
    | some k => rw [hg] at hx; exact ⟨b, k, hg, hx⟩
  · rintro ⟨b, k, hb, hx⟩
    refine ⟨b, List.mem_range.2 (List.getElem?_eq_some_iff.1 hb).1, ?_⟩
    rw [hb]
    exact hx

/-- A METHOD, by what it does to the blocks. -/
theorem AC.method {S : Type} {heaps : S → AH → Prop} {s : S} {f : FuncId} {args : List Value} {Post : Value → S → Prop} (hent : enterB P f = true)
    (H : ∀ g, heaps s g → own g → AC P f args g (fun v h' => plain v = true ∧ ∃ s', Post v s' ∧ Closes heaps s' h')) :
    AC P f args [.adt (mkADT S heaps) s] (fun v h' => ∃ s', h' = [.adt (mkADT S heaps) s'] ∧ Post v s') := by
  refine ⟨hent, fun ρ w us r hs ha => ?_⟩
  obtain ⟨h0, h1, ρi, g, hg, hown, ri, hal, hlive, hF⟩ := r.holds 0 _ rfl
  have hgl : 0 < g.length := live_lt hlive
  have only : ∀ b, live [ABlk.adt (mkADT S heaps) s] b = true → b = 0 := fun b hb => by
    have := live_lt hb
    simp at this
    omega
  have hal0 : (ρi 0).al = (ρ 0).al := by rw [hal]; simp only [CB.al, h0, h1]
  refine ((H g hg hown).2 ρi w us ri hs fun i v hv => ?_).mono ?_
  · obtain ⟨u, hu, vr⟩ := ha i v hv
    exact ⟨u, hu, vr.mono (fun b hb => by rw [only b hb]; exact hlive) (fun b hb => by rw [only b hb]; exact hal0)⟩
  · rintro e w' ⟨v, u, h', ρ', he, vr, ⟨hpl, s', hp, g', ι, hg', hown', ok', hlive', hι, sub⟩, r', nx, hle⟩
    have r2 := sub.rel ok' r'
    have hal2 : (ρ' (ι 0)).al = ((ρ 0).blk, 0, 0) := by
      rw [hι, nx.ext 0 hgl, hal]
    obtain ⟨ρ2, hρ2⟩ : ∃ ρ2 : Ren, ρ2 = fun _ => ⟨(ρ 0).blk, 0, 0, feet (fun b => ρ' (ι b)) g'⟩ := ⟨_, rfl⟩
    have hfoot : ∀ x, x ∈ feet (fun b => ρ' (ι b)) g' → w.heap.size ≤ x ∨ x ∈ (ρ 0).foot := by
      intro x hx
      obtain ⟨b, k, hb, hx⟩ := mem_feet.1 hx
      rcases nx.prov (ι b) _ (sub.get b k hb) x (by rw [foot_ren]; exact hx) with h2 | ⟨b0, k0, hb0, hx0⟩
      · exact .inl h2
      · exact .inr ((hF x).2 ⟨b0, k0, hb0, hx0⟩)
    have one : ∀ (b : Nat) (k : ABlk), ([ABlk.adt (mkADT S heaps) s'] : AH)[b]? = some k → b = 0 ∧ k = .adt (mkADT S heaps) s' := by
      intro b k hb
      have := (List.getElem?_eq_some_iff.1 hb).1
      simp at this
      subst this
      simp at hb
      exact ⟨rfl, hb.symm⟩
    refine ⟨v, u, [.adt (mkADT S heaps) s'], ρ2, he, ?_, ⟨s', rfl, hp⟩, ?_, ?_, by simp⟩
    · have := VR.plain (ρ := ρ2) (n := live [ABlk.adt (mkADT S heaps) s']) hpl
      rw [vr.2, conc_zero ρ' v hpl]
      exact this
    · refine ⟨fun b k hb => ?_, fun b k hb => ?_, fun b c k l hb hc hne => ?_⟩
      · obtain ⟨rfl, rfl⟩ := one b k hb
        subst hρ2
        exact ⟨rfl, rfl, _, g', hg', hown', r2, hal2, hlive', fun x => mem_feet⟩
      · obtain ⟨rfl, rfl⟩ := one b k hb
        trivial
      · obtain ⟨rfl, rfl⟩ := one b k hb
        obtain ⟨rfl, rfl⟩ := one c l hc
        exact absurd rfl hne
    · subst hρ2
      refine ⟨fun b hb => ?_, fun b hb hl => ?_, nx.os, nx.tape, nx.output, nx.size, fun x hx hn => nx.keep x hx (fun b k hb hx' => hn 0 _ rfl ((hF x).2 ⟨b, k, hb, hx'⟩)), fun b k hb x hx => ?_, fun b k hb x hx => ?_⟩
      · obtain rfl : b = 0 := by simp at hb; exact hb
        simp only [CB.al, h0, h1]
      · rw [only b hl]
        rfl
      · obtain ⟨rfl, rfl⟩ := one b k hb
        rcases hfoot x hx with h2 | h2
        · exact .inl h2
        · exact .inr ⟨0, _, rfl, h2⟩
      · obtain ⟨rfl, rfl⟩ := one b k hb
        rcases hfoot x hx with h2 | h2
        · exact .inl h2
        · exact .inr ⟨0, _, rfl, h2⟩

end
end Abs
end Go.Proofs.Ytekhadlpcdjlpaa
