/- order: OrderMore, in memory. -/
import Derived.Test.YtekhadlpcdjlpaaOr10
import Derived.Test.YtekhadlpcdjlpaaBr0
import Derived.Test.YtekhadlpcdjlpaaHeap
import Derived.Test.YtekhadlpcdjlpaaRead
namespace Go.Proofs.Ytekhadlpcdjlpaa
open Go Abs Ox
set_option linter.unusedVariables false
set_option linter.unusedSimpArgs false

abbrev enSh : Sh := .pair (.int .i64) (.pair (.int .i64) (.pair (.int .i64) .unit))
def enOf (x : enSh.Val) : En := ⟨x.1, x.2.1, x.2.2.1⟩

theorem rowOf_cell : ∀ (l : List En) (i : Nat) (v : Value), (rowOf l)[i]? = some v → ∃ (k : Nat) (x : En) (j : Nat), l[k]? = some x ∧ i = k * 3 + j ∧ ([Value.int .i64 x.k, .int .i64 x.t, .int .i64 x.now] : List Value)[j]? = some v := by
  intro l
  induction l with
  | nil => intro i v hv; simp [rowOf] at hv
  | cons y l ih =>
    intro i v hv
    match i with
    | 0 => exact ⟨0, y, 0, rfl, rfl, hv⟩
    | 1 => exact ⟨0, y, 1, rfl, rfl, hv⟩
    | 2 => exact ⟨0, y, 2, rfl, rfl, hv⟩
    | i + 3 =>
      obtain ⟨k, x, j, h1, h2, h3⟩ := ih i v hv
      exact ⟨k + 1, x, j, h1, by omega, h3⟩

/-- A row of entries that came in, as the one block that is known. -/
theorem row_arg {w : World} {l : List enSh.Val} {v : Value} (h : Sh.Arg w (.row enSh) l v) : ∃ (ρ : Ren) (A : Option Addr) (cap : Nat), v = conc ρ (.slice A l.length cap) ∧ Rel ρ [.row (rowOf (l.map enOf))] w ∧ l.length ≤ cap ∧ cap < OPEN ∧
    ((l.map enOf = [] ∧ cap = 0 ∧ A = none) ∨ (∃ d, l.map enOf = [] ∧ A = some ⟨0, 0, some d⟩) ∨ A = some ⟨0, 0, none⟩) := by
  obtain ⟨a, cap, hv, hl, hc, hn, hr⟩ := h
  simp only [List.cons.injEq, and_true] at hv
  subst hv
  have hcap : cap < OPEN := Nat.lt_of_le_of_lt hc (by unfold OPEN; decide)
  have hrel : ∀ (cb : CB), (∀ (i : Nat) v, (rowOf (l.map enOf))[i]? = some v → w.cell? ⟨cb.blk, cb.off + i, none⟩ = some (conc (fun _ => cb) v)) → Rel (fun _ => cb) [.row (rowOf (l.map enOf))] w := by
    intro cb hcb
    refine ⟨fun b k hb => ?_, fun b k hb => ?_, fun b c k k' hb hc hne => ?_⟩
    · match b with
      | 0 => injection hb with hb; subst hb; exact hcb
      | n + 1 => simp at hb
    · match b with
      | 0 => injection hb with hb; subst hb; exact fun v hv => scp_mono (fun b hb => by cases hb) v (rowOf_plain _ v hv)
      | n + 1 => simp at hb
    · have h1 := (List.getElem?_eq_some_iff.1 hb).1
      have h2 := (List.getElem?_eq_some_iff.1 hc).1
      simp at h1 h2
      omega
  rcases hr with hr | ⟨b, o, rfl, hr⟩
  · have hl0 : l = [] := hr
    subst hl0
    cases a with
    | none =>
      refine ⟨fun _ => ⟨0, 0, 0, []⟩, none, cap, by simp [conc], hrel _ (fun i v hv => by simp [rowOf] at hv), hl, hcap, .inl ⟨rfl, hn rfl, rfl⟩⟩
    | some ad =>
      obtain ⟨b, o, sp⟩ := ad
      cases sp with
      | none => exact ⟨fun _ => ⟨b, o, 0, []⟩, some ⟨0, 0, none⟩, cap, by simp [conc, cAddr, cCap, hcap], hrel _ (fun i v hv => by simp [rowOf] at hv), hl, hcap, .inr (.inr rfl)⟩
      | some d =>
        refine ⟨fun _ => ⟨b, o, 0, []⟩, some ⟨0, 0, some (2 * d + 1)⟩, cap, ?_, hrel _ (fun i v hv => by simp [rowOf] at hv), hl, hcap, .inr (.inl ⟨_, rfl, rfl⟩)⟩
        have k1 : (2 * d + 1) % 2 = 1 := by omega
        have k2 : (2 * d + 1) / 2 = d := by omega
        simp [conc, cAddr, cCap, hcap, k1, k2]
  · refine ⟨fun _ => ⟨b, o, 0, []⟩, some ⟨0, 0, none⟩, cap, by simp [conc, cAddr, cCap, hcap], hrel _ (fun i v hv => ?_), hl, hcap, .inr (.inr rfl)⟩
    obtain ⟨k, x, j, h1, rfl, h3⟩ := rowOf_cell _ i v hv
    rw [List.getElem?_map] at h1
    cases hk : l[k]? with
    | none => rw [hk] at h1; cases h1
    | some y =>
      rw [hk] at h1
      injection h1 with h1
      subst h1
      obtain ⟨r, hr1, hr2, hr3⟩ := hr k y hk
      obtain ⟨c1, c2, rfl, ⟨rfl, _⟩, d1, d2, rfl, ⟨rfl, _⟩, f1, f2, rfl, ⟨rfl, _⟩, rfl⟩ := hr1
      have := hr3 j v (by simpa [enOf] using h3)
      have hp : conc (fun _ => (⟨b, o, 0, []⟩ : CB)) v = v := by
        have := rowOf_plain _ v (List.mem_of_getElem? hv)
        exact conc_zero _ _ this
      rw [hp, ← this]
      simp [Sh.size, Nat.add_assoc]

set_option maxHeartbeats 2000000 in
set_option maxRecDepth 100000 in
theorem law_OrderMore (w : World) (v0 v1 : Value) (x0 : List enSh.Val) (x1 : Int) (h0 : Sh.Arg w (.row enSh) x0 v0) (h1 : Sh.Arg w (.int .u8) x1 v1) :
    Calls Try.prog 6 #[v0, v1] w fun e w' => e = .returned (.bool true) ∧ Mod [] w w' := by
  obtain ⟨rfl, hu⟩ := u8_range h1
  obtain ⟨ρ, A, cap, rfl, r, hl, hcap, hA⟩ := row_arg h0
  have hb := more_ (x0.map enOf) A cap x1 (by simpa using hl) hcap hu.1 hu.2 hA
  rw [List.length_map] at hb
  have hargs : ∀ (i : Nat) (v : Value), ([.slice A x0.length cap, .int .u8 x1] : List Value)[i]? = some v → ∃ u, (#[conc ρ (.slice A x0.length cap), .int .u8 x1] : Array Value)[i]? = some u ∧ VR ρ (live [ABlk.row (rowOf (x0.map enOf))]) v u := by
    intro i v hv
    match i with
    | 0 =>
      injection hv with hv
      subst hv
      refine ⟨_, rfl, ?_, rfl⟩
      rcases hA with ⟨_, _, rfl⟩ | ⟨d, _, rfl⟩ | rfl <;> simp [scp, live]
    | 1 => injection hv with hv; subst hv; exact ⟨_, rfl, VR.plain rfl⟩
    | n + 2 => simp at hv
  have hc := hb.2 ρ w #[conc ρ (.slice A x0.length cap), .int .u8 x1] r rfl hargs
  clear hb hargs
  refine Calls.mono hc ?_
  rintro e w' ⟨v, u, h', ρ', rfl, vr, rfl, r', nx, _⟩
  refine ⟨?_, ⟨nx.os, nx.tape, nx.output, nx.size, fun k hk _ => nx.keep k hk fun b kk hb => ?_⟩⟩
  · rw [vr.2]; rfl
  · match b with
    | 0 => injection hb with hb; subst hb; simp [ABlk.foot]
    | n + 1 => simp at hb

end Go.Proofs.Ytekhadlpcdjlpaa
