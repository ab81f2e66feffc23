/- pool: PoolPlays, in memory. -/
import Derived.Test.YtekhadlpcdjlpaaPp11
import Derived.Test.YtekhadlpcdjlpaaBr0
namespace Go.Proofs.Ytekhadlpcdjlpaa
open Go Abs Px
set_option linter.unusedVariables false
set_option linter.unusedSimpArgs false

abbrev opSh : Sh := .pair .bool (.pair (.int .i64) (.pair (.int .i64) (.pair (.int .u32) .unit)))
def opOf (x : opSh.Val) : OpL := ⟨x.1, x.2.1, x.2.2.1, (x.2.2.2.1 : Int).toNat⟩

theorem rowQ_cell : ∀ (l : List OpL) (i : Nat) (v : Value), (rowQ l)[i]? = some v → ∃ (k : Nat) (x : OpL) (j : Nat), l[k]? = some x ∧ i = k * 4 + j ∧ x.vs[j]? = some v := by
  intro l
  induction l with
  | nil => intro i v hv; simp [rowQ] at hv
  | cons y l ih =>
    intro i v hv
    match i with
    | 0 => exact ⟨0, y, 0, rfl, rfl, hv⟩
    | 1 => exact ⟨0, y, 1, rfl, rfl, hv⟩
    | 2 => exact ⟨0, y, 2, rfl, rfl, hv⟩
    | 3 => exact ⟨0, y, 3, rfl, rfl, hv⟩
    | i + 4 =>
      obtain ⟨k, x, j, h1, h2, h3⟩ := ih i v hv
      exact ⟨k + 1, x, j, h1, by omega, h3⟩

theorem u32_wf {n : Int} (h : (Lit.int .u32 n).wf = true) : 0 ≤ n ∧ n < 4294967296 := by
  simp [Lit.wf] at h
  first | exact h | (simp [IntKind.min, IntKind.max, IntKind.bits, IntKind.signed] at h; omega) | (revert h; unfold IntKind.min IntKind.max; simp; omega)

theorem rowQ_plain (l : List OpL) : ∀ v ∈ rowQ l, plain v = true := by
  intro v hv
  obtain ⟨o, _, ho⟩ := List.mem_flatMap.1 hv
  simp [OpL.vs] at ho
  rcases ho with rfl | rfl | rfl | rfl <;> rfl

theorem rowQ_arg {w : World} {l : List opSh.Val} {v : Value} (h : Sh.Arg w (.row opSh) l v) : ∃ (ρ : Ren) (A : Option Addr) (cap : Nat), v = conc ρ (.slice A l.length cap) ∧ Rel ρ [.row (rowQ (l.map opOf))] w ∧ (l.length = 0 ∨ A = some ⟨0, 0, none⟩) ∧ scp (live [ABlk.row (rowQ (l.map opOf))]) (.slice A l.length cap) = true ∧ ∀ o ∈ l.map opOf, o.h < 4294967296 := by
  obtain ⟨a, cap, hv, hl, hc, hn, hr⟩ := h
  simp only [List.cons.injEq, and_true] at hv
  subst hv
  have hcap : cap < OPEN := Nat.lt_of_le_of_lt hc (by unfold OPEN; decide)
  have hrel : ∀ (cb : CB), (∀ (i : Nat) v, (rowQ (l.map opOf))[i]? = some v → w.cell? ⟨cb.blk, cb.off + i, none⟩ = some (conc (fun _ => cb) v)) → Rel (fun _ => cb) [.row (rowQ (l.map opOf))] w := by
    intro cb hcb
    refine ⟨fun b k hb => ?_, fun b k hb => ?_, fun b c k k' hb hc hne => ?_⟩
    · match b with
      | 0 => injection hb with hb; subst hb; exact hcb
      | n + 1 => simp at hb
    · match b with
      | 0 => injection hb with hb; subst hb; exact fun v hv => scp_mono (fun b hb => by cases hb) v (rowQ_plain _ v hv)
      | n + 1 => simp at hb
    · have h1 := (List.getElem?_eq_some_iff.1 hb).1
      have h2 := (List.getElem?_eq_some_iff.1 hc).1
      simp at h1 h2
      omega
  rcases hr with hr | ⟨b, o, rfl, hr⟩
  · have hl0 : l = [] := hr
    subst hl0
    cases a with
    | none =>
      refine ⟨fun _ => ⟨0, 0, 0, []⟩, none, cap, by simp [conc], hrel _ (fun i v hv => by simp [rowQ] at hv), .inl rfl, rfl, by simp⟩
    | some ad =>
      obtain ⟨b, o, sp⟩ := ad
      cases sp with
      | none => exact ⟨fun _ => ⟨b, o, 0, []⟩, some ⟨0, 0, none⟩, cap, by simp [conc, cAddr, cCap, hcap], hrel _ (fun i v hv => by simp [rowQ] at hv), .inr rfl, by simp [scp, live], by simp⟩
      | some d =>
        refine ⟨fun _ => ⟨b, o, 0, []⟩, some ⟨0, 0, some (2 * d + 1)⟩, cap, ?_, hrel _ (fun i v hv => by simp [rowQ] at hv), .inl rfl, by simp [scp, live], by simp⟩
        have k1 : (2 * d + 1) % 2 = 1 := by omega
        have k2 : (2 * d + 1) / 2 = d := by omega
        simp [conc, cAddr, cCap, hcap, k1, k2]
  · refine ⟨fun _ => ⟨b, o, 0, []⟩, some ⟨0, 0, none⟩, cap, by simp [conc, cAddr, cCap, hcap], hrel _ (fun i v hv => ?_), .inr rfl, by simp [scp, live], fun y hy => ?_⟩
    · obtain ⟨k, x, j, h1, rfl, h3⟩ := rowQ_cell _ i v hv
      rw [List.getElem?_map] at h1
      cases hk : l[k]? with
      | none => rw [hk] at h1; cases h1
      | some y =>
        rw [hk] at h1
        injection h1 with h1
        subst h1
        obtain ⟨r, hr1, hr2, hr3⟩ := hr k y hk
        obtain ⟨c1, c2, rfl, rfl, d1, d2, rfl, ⟨rfl, _⟩, f1, f2, rfl, ⟨rfl, _⟩, g1, g2, rfl, ⟨rfl, hw⟩, rfl⟩ := hr1
        have hw := u32_wf hw
        have e : (((opOf y).h : Nat) : Int) = y.2.2.2.1 := Int.toNat_of_nonneg hw.1
        have := hr3 j v (by simp only [OpL.vs, e] at h3; simpa [opOf] using h3)
        have hp : conc (fun _ => (⟨b, o, 0, []⟩ : CB)) v = v := by
          have := rowQ_plain _ v (List.mem_of_getElem? hv)
          exact conc_zero _ _ this
        rw [hp, ← this]
        simp [Sh.size, Nat.add_assoc]
    · obtain ⟨z, hz, rfl⟩ := List.mem_map.1 hy
      obtain ⟨k, hk, e⟩ := List.mem_iff_getElem.1 hz
      have hkz : l[k]? = some z := by rw [List.getElem?_eq_getElem hk, e]
      obtain ⟨r, hr1, _, _⟩ := hr k z hkz
      obtain ⟨c1, c2, rfl, rfl, d1, d2, rfl, ⟨rfl, _⟩, f1, f2, rfl, ⟨rfl, _⟩, g1, g2, rfl, ⟨rfl, hw⟩, rfl⟩ := hr1
      have hw := u32_wf hw
      exact (Int.toNat_lt hw.1).2 hw.2

set_option maxHeartbeats 2000000 in
set_option maxRecDepth 100000 in
theorem law_PoolPlays (w : World) (v0 v1 v2 : Value) (x0 x1 : Int) (x2 : List opSh.Val) (h0 : Sh.Arg w (.int .i64) x0 v0) (h1 : Sh.Arg w (.int .i64) x1 v1) (h2 : Sh.Arg w (.row opSh) x2 v2) :
    Calls Try.prog 13 #[v0, v1, v2] w fun e w' => e = .returned (.bool true) ∧ Mod [] w w' := by
  obtain ⟨rfl, _⟩ := h0
  obtain ⟨rfl, _⟩ := h1
  obtain ⟨ρ, A, cap, rfl, r, hA, hsc, hlt⟩ := rowQ_arg h2
  have hb := plays_ x0 x1 (x2.map opOf) A x2.length cap (by rw [List.length_map]) hlt hA
  have hargs : ∀ (i : Nat) (v : Value), ([.int .i64 x0, .int .i64 x1, .slice A x2.length cap] : List Value)[i]? = some v → ∃ u, (#[.int .i64 x0, .int .i64 x1, conc ρ (.slice A x2.length cap)] : Array Value)[i]? = some u ∧ VR ρ (live [ABlk.row (rowQ (x2.map opOf))]) v u := by
    intro i v hv
    match i with
    | 0 => injection hv with hv; subst hv; exact ⟨_, rfl, VR.plain rfl⟩
    | 1 => injection hv with hv; subst hv; exact ⟨_, rfl, VR.plain rfl⟩
    | 2 => injection hv with hv; subst hv; exact ⟨_, rfl, hsc, rfl⟩
    | n + 3 => simp at hv
  have hc := hb.2 ρ w #[.int .i64 x0, .int .i64 x1, conc ρ (.slice A x2.length cap)] r rfl hargs
  clear hb hargs
  refine Calls.mono hc ?_
  rintro e w' ⟨v, u, h', ρ', rfl, vr, rfl, r', nx, _⟩
  refine ⟨?_, ⟨nx.os, nx.tape, nx.output, nx.size, fun k hk _ => nx.keep k hk fun b kk hb => ?_⟩⟩
  · rw [vr.2]; rfl
  · match b with
    | 0 => injection hb with hb; subst hb; simp [ABlk.foot]
    | n + 1 => simp at hb

end Go.Proofs.Ytekhadlpcdjlpaa
