/- Structures whose blocks stay where they are. -/
import Derived.Test.YtekhadlpcdjlpaaAbs27
namespace Go.Proofs.Ytekhadlpcdjlpaa
namespace Abs
open Go
set_option linter.unusedVariables false
set_option linter.unusedSimpArgs false

mutual
theorem ren_scope {L : Nat → Bool} {σ : Nat → Nat} (h : ∀ b, L b = true → σ b = b) : ∀ v, scp L v = true → ren σ v = v
  | .pointer (some a), hs => by simp only [scp] at hs; simp only [ren, renA, h _ hs]
  | .slice (some a) _ _, hs => by simp only [scp] at hs; simp only [ren, renA, h _ hs]
  | .map (some r), hs => by simp only [scp] at hs; simp only [ren, h _ hs]
  | .chan (some r), hs => by simp only [scp] at hs; simp only [ren, h _ hs]
  | .func fn first captured, hs => by
    simp only [scp, Bool.and_eq_true] at hs
    simp only [ren, renAr_scope h first hs.1, renAr_scope h captured hs.2]
  | .iface t v, hs => by simp only [scp] at hs; simp only [ren, ren_scope h v hs]
  | .agg cs, hs => by simp only [scp] at hs; simp only [ren, renAr_scope h cs hs]
  | .tuple cs, hs => by simp only [scp] at hs; simp only [ren, renAr_scope h cs hs]
  | .pointer none, _ => by simp only [ren]
  | .slice none _ _, _ => by simp only [ren]
  | .map none, _ => by simp only [ren]
  | .chan none, _ => by simp only [ren]
  | .bool b, _ => by simp only [ren]
  | .int k n, _ => by simp only [ren]
  | .float k n, _ => by simp only [ren]
  | .complex k a b, _ => by simp only [ren]
  | .string s, _ => by simp only [ren]
  | .nilFunc, _ => by simp only [ren]
  | .nilIface, _ => by simp only [ren]
theorem renAr_scope {L : Nat → Bool} {σ : Nat → Nat} (h : ∀ b, L b = true → σ b = b) : ∀ v, scpA L v = true → renAr σ v = v
  | ⟨l⟩, hs => by simp only [scpA] at hs; simp only [renAr, renL_scope h l hs]
theorem renL_scope {L : Nat → Bool} {σ : Nat → Nat} (h : ∀ b, L b = true → σ b = b) : ∀ v, scpL L v = true → renL σ v = v
  | [], _ => by simp only [renL]
  | v :: l, hs => by
    simp only [scpL, Bool.and_eq_true] at hs
    simp only [renL, ren_scope h v hs.1, renL_scope h l hs.2]
end

theorem renB_scope {L : Nat → Bool} {σ : Nat → Nat} (h : ∀ b, L b = true → σ b = b) {k : ABlk} (hk : k.scp L) : renB σ k = k := by
  have e : ∀ l : List Value, (∀ v ∈ l, scp L v = true) → l.map (ren σ) = l := fun l hl => by
    conv => rhs; rw [← List.map_id l]
    exact List.map_congr_left fun v hv => ren_scope h v (hl v hv)
  cases k with
  | cells vs e' o => simp only [renB, e vs hk]
  | row vs => simp only [renB, e vs hk]
  | map es c =>
    simp only [renB]
    congr 1
    conv => rhs; rw [← List.map_id es]
    exact List.map_congr_left fun x hx => by simp [ren_scope h _ (hk x hx).1, ren_scope h _ (hk x hx).2]
  | _ => rfl

theorem subL_of {ι : Nat → Nat} {h : AH} : ∀ {g : AH} {j0 : Nat}, (∀ (j : Nat) (k : ABlk), g[j]? = some k → h[ι (j0 + j)]? = some (renB ι k)) → subL ι h j0 g
  | [], _, _ => trivial
  | k :: g, j0, H => ⟨H 0 k rfl, subL_of (g := g) (j0 := j0 + 1) fun j k' hj => by
    have := H (j + 1) k' (by simpa using hj)
    rwa [show j0 + (j + 1) = j0 + 1 + j by omega] at this⟩

theorem nthR {n b : Nat} (h : b < n) : nth (List.range n) b = b := by
  rw [List.range_eq_range', nth_range _ _ _ h]
  omega

theorem subL_same {g h : AH} (ok : AOK g) (hp : ∀ (b : Nat) (k : ABlk), g[b]? = some k → h[b]? = some k) : subL (nth (List.range g.length)) h 0 g := by
  refine subL_of fun j k hj => ?_
  have hjl := (List.getElem?_eq_some_iff.1 hj).1
  rw [Nat.zero_add, nthR hjl, renB_scope (L := live g) (fun b hb => nthR (live_lt hb)) (ok j k hj)]
  exact hp j k hj

/-- A method is over, and the structure's blocks are the first ones, under their names. -/
theorem Sees.pre {S : Type} {heaps : S → AH → Prop} {s : S} {h' : AH} {v : Value} {K : Value → AH → Prop} (g : AH) (hg : heaps s g) (ho : own g) (ok : AOK g) (hc : ∃ vs e, g[0]? = some (.cells vs e none)) (hp : ∀ (b : Nat) (k : ABlk), g[b]? = some k → h'[b]? = some k) (hv : plain v = true) (hK : K v [.adt (mkADT S heaps) s]) : Sees 1 h' v K := by
  have hpos : 0 < g.length := by
    obtain ⟨vs, e, hc⟩ := hc
    exact (List.getElem?_eq_some_iff.1 hc).1
  exact Sees.m0 (is := List.range g.length) g hg ho ok hc (nthR hpos) List.nodup_range (by simp) (subL_same ok hp) hv hK

end Abs
end Go.Proofs.Ytekhadlpcdjlpaa
