/- One heap seen as another, in code and behind calls; a call whose contract knows less of the heap. -/
import Derived.Test.YtekhadlpcdjlpaaAbs21
namespace Go.Proofs.Ytekhadlpcdjlpaa
namespace Abs
open Go
set_option linter.unusedVariables false
set_option linter.unusedSimpArgs false

/-- A block of the one heap, by blocks of the other one. -/
inductive VB (h : AH) (σ : Nat → Nat) (b : Nat) : ABlk → List Nat → Prop
  | keep {k : ABlk} (hk : h[σ b]? = some (renB σ k)) : VB h σ b k [σ b]
  | clos {S : Type} {heaps : S → AH → Prop} {s : S} {g : AH} {ι : Nat → Nat} (h1 : heaps s g) (h2 : own g) (h3 : AOK g) (h4 : ∃ vs e, g[0]? = some (.cells vs e none)) (h5 : ι 0 = σ b) (h6 : Sub ι g h) : VB h σ b (.adt (mkADT S heaps) s) ((List.range g.length).map ι)
  | nul : VB h σ b (.row []) []

structure View (σ : Nat → Nat) (h2 h : AH) (us : Nat → List Nat) : Prop where
  blk : ∀ (b : Nat) (k : ABlk), h2[b]? = some k → VB h σ b k (us b)
  dis : ∀ b c, b < h2.length → c < h2.length → b ≠ c → ∀ x, x ∈ us b → x ∉ us c

section
variable {P : Program} {ρ : Ren} {h h2 : AH} {w : World} {σ : Nat → Nat} {us : Nat → List Nat}

theorem VB.cb (r : Rel ρ h w) {b : Nat} {k : ABlk} {u : List Nat} (v : VB h σ b k u) : ∃ cb : CB, cb.al = (ρ (σ b)).al ∧ Holds (fun c => ρ (σ c)) cb w k ∧ (∀ x, x ∈ k.foot cb → ∃ n, n ∈ u ∧ ∃ kk : ABlk, h[n]? = some kk ∧ x ∈ kk.foot (ρ n)) ∧ (∀ x, x ∈ k.reach cb → ∃ n, n ∈ u ∧ ∃ kk : ABlk, h[n]? = some kk ∧ x ∈ kk.reach (ρ n)) := by
  cases v with
  | nul => exact ⟨ρ (σ b), rfl, (fun i v hv => by simp at hv), (fun x hx => by simp [ABlk.foot] at hx), (fun x hx => by simp [ABlk.reach] at hx)⟩
  | keep hk =>
    refine ⟨ρ (σ b), rfl, holds_ren.1 (r.holds _ _ hk), fun x hx => ⟨σ b, List.mem_cons_self .., _, hk, by rw [foot_ren]; exact hx⟩, fun x hx => ⟨σ b, List.mem_cons_self .., _, hk, by rw [reach_ren]; exact hx⟩⟩
  | @clos S heaps s g ι h1 h2 h3 h4 h5 h6 =>
    obtain ⟨vs, e, hg0⟩ := h4
    have r2 := h6.rel h3 r
    have hl0 : live g 0 = true := live_of hg0 (by simp)
    obtain ⟨pre, ex, _, _, _, hz⟩ := r2.holds 0 _ hg0
    obtain ⟨z1, z2⟩ := hz rfl
    have hal : (ρ (ι 0)).al = ((ρ (ι 0)).blk, 0, 0) := by simp only [CB.al, z1, z2]
    have sub : ∀ x, x ∈ feet (fun c => ρ (ι c)) g → ∃ n, n ∈ (List.range g.length).map ι ∧ ∃ kk : ABlk, h[n]? = some kk ∧ x ∈ kk.foot (ρ n) := by
      intro x hx
      obtain ⟨j, k, hj, hx⟩ := mem_feet.1 hx
      exact ⟨ι j, List.mem_map.2 ⟨j, List.mem_range.2 (List.getElem?_eq_some_iff.1 hj).1, rfl⟩, _, h6.get j k hj, by rw [foot_ren]; exact hx⟩
    refine ⟨⟨(ρ (ι 0)).blk, 0, 0, feet (fun c => ρ (ι c)) g⟩, by rw [← h5, hal]; rfl, ⟨rfl, rfl, _, g, h1, h2, r2, hal, hl0, fun x => mem_feet⟩, sub, fun x hx => ?_⟩
    obtain ⟨n, hn, kk, hk, hx⟩ := sub x hx
    exact ⟨n, hn, kk, hk, foot_reach hx⟩

theorem View.rel (v : View σ h2 h us) (ok : AOK h2) (r : Rel ρ h w) : ∃ ρ2 : Ren, Rel ρ2 h2 w ∧ (∀ b, (ρ2 b).al = (ρ (σ b)).al) ∧
    (∀ (b : Nat) (k : ABlk), h2[b]? = some k → ∀ x, x ∈ k.foot (ρ2 b) → ∃ (n : Nat) (kk : ABlk), h[n]? = some kk ∧ x ∈ kk.foot (ρ n)) ∧ (∀ (b : Nat) (k : ABlk), h2[b]? = some k → ∀ x, x ∈ k.reach (ρ2 b) → ∃ (n : Nat) (kk : ABlk), h[n]? = some kk ∧ x ∈ kk.reach (ρ n)) := by
  have each : ∀ b, ∃ cb : CB, cb.al = (ρ (σ b)).al ∧ ∀ k, h2[b]? = some k → Holds (fun c => ρ (σ c)) cb w k ∧ (∀ x, x ∈ k.foot cb → ∃ n, n ∈ us b ∧ ∃ kk : ABlk, h[n]? = some kk ∧ x ∈ kk.foot (ρ n)) ∧ (∀ x, x ∈ k.reach cb → ∃ n, n ∈ us b ∧ ∃ kk : ABlk, h[n]? = some kk ∧ x ∈ kk.reach (ρ n)) := by
    intro b
    cases hb : h2[b]? with
    | none => exact ⟨ρ (σ b), rfl, fun k hk => by cases hk⟩
    | some k =>
      obtain ⟨cb, q1, q2⟩ := (v.blk b k hb).cb r
      exact ⟨cb, q1, fun k' hk' => by injection hk' with hk'; subst hk'; exact q2⟩
  obtain ⟨ρ2, hρ2⟩ := Classical.axiomOfChoice each
  have hal : ∀ b, (ρ2 b).al = (ρ (σ b)).al := fun b => (hρ2 b).1
  refine ⟨ρ2, ⟨fun b k hb => ((hρ2 b).2 k hb).1.congr (ok b k hb) (fun c _ => hal c), ok, fun b c k l hb hc hne x hx hx' => ?_⟩, hal, fun b k hb x hx => ?_, fun b k hb x hx => ?_⟩
  · obtain ⟨n, hn, kk, hk, hxn⟩ := ((hρ2 b).2 k hb).2.1 x hx
    obtain ⟨n', hn', kk', hk', hxn'⟩ := ((hρ2 c).2 l hc).2.2 x hx'
    have hnn : n ≠ n' := fun e => v.dis b c (List.getElem?_eq_some_iff.1 hb).1 (List.getElem?_eq_some_iff.1 hc).1 hne n hn (e ▸ hn')
    exact r.apart n n' kk kk' hk hk' hnn x hxn hxn'
  · obtain ⟨n, _, kk, hk, hx⟩ := ((hρ2 b).2 k hb).2.1 x hx
    exact ⟨n, kk, hk, hx⟩
  · obtain ⟨n, _, kk, hk, hx⟩ := ((hρ2 b).2 k hb).2.2 x hx
    exact ⟨n, kk, hk, hx⟩

theorem View.next (v : View σ h2 h us) (ok : AOK h2) (r : Rel ρ h w) {m : Nat} (hσ : ∀ b, b < m → σ b = b) (hl : ∀ b, b < m → live h b = true → live h2 b = true) : ∃ ρ2 : Ren, Rel ρ2 h2 w ∧ (∀ b, (ρ2 b).al = (ρ (σ b)).al) ∧ Next m ρ h w ρ2 h2 w := by
  obtain ⟨ρ2, r2, hal, hf, hr⟩ := v.rel ok r
  exact ⟨ρ2, r2, hal, fun b hb => by rw [hal, hσ b hb], hl, rfl, rfl, rfl, Nat.le_refl _, fun _ _ _ => rfl, fun b k hb x hx => .inr (hf b k hb x hx), fun b k hb x hx => .inr (hr b k hb x hx)⟩

/-- Behind a call. -/
theorem AC.view {f : FuncId} {args : List Value} {Post : Value → AH → Prop} (hc : AC P f args h (fun v h' => ∃ v2 h2 σ us, View σ h2 h' us ∧ AOK h2 ∧ scp (live h2) v2 = true ∧ v = ren σ v2 ∧ (∀ b, b < h.length → σ b = b) ∧ (∀ b, b < h.length → live h' b = true → live h2 b = true) ∧ h.length ≤ h2.length ∧ Post v2 h2)) : AC P f args h Post := by
  refine ⟨hc.1, fun ρ w us r hs ha => (hc.2 ρ w us r hs ha).mono ?_⟩
  rintro e w' ⟨v, u, h', ρ', he, vr, ⟨v2, h2, σ, us2, hv, ok, hsc, rfl, hσ, hl, hlen, hp⟩, r', nx, _⟩
  obtain ⟨ρ2, r2, hal, nx2⟩ := hv.next ok r' hσ hl
  refine ⟨v2, u, h2, ρ2, he, ⟨hsc, ?_⟩, hp, r2, nx.trans nx2, hlen⟩
  rw [vr.2, conc_ren]
  exact (conc_congr (fun b _ => hal b) v2 hsc).symm

/-- Ahead of code. -/
theorem awp_view {m : Nat} {c : Code} {Q : AExit → T → AH → Prop} {t t2 : T} (hv : View σ h2 h us) (ok : AOK h2) (hσ : ∀ b, b < m → σ b = b) (hl : ∀ b, b < m → live h b = true → live h2 b = true) (hm : m ≤ h2.length) (htl : t2.length = t.length)
    (ht : ∀ (i : Nat) v2, t2[i]? = some (some v2) → t[i]? = some (some (ren σ v2)) ∧ scp (live h2) v2 = true) (hw : AWp P m c Q t2 h2) : AWp P m c Q t h := by
  intro ρ w a r tr hm'
  obtain ⟨ρ2, r2, hal, nx2⟩ := hv.next ok r hσ hl
  have tr2 : TRel ρ2 (live h2) t2 a := ⟨tr.defers, by rw [htl]; exact tr.size, fun i v2 hi => by
    obtain ⟨h1, h3⟩ := ht i v2 hi
    obtain ⟨u, hu, vr⟩ := tr.val i _ h1
    refine ⟨u, hu, h3, ?_⟩
    rw [vr.2, conc_ren]
    exact (conc_congr (fun b _ => hal b) v2 h3).symm⟩
  exact wp_mono (hw ρ2 w a r2 tr2 hm) fun e a' w' hb => Beh.trans nx2 hb

end
end Abs
end Go.Proofs.Ytekhadlpcdjlpaa
