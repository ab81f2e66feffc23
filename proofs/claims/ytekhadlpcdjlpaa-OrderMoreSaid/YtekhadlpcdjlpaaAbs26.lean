/- Structures that are made. -/
import Derived.Test.YtekhadlpcdjlpaaAbs25
namespace Go.Proofs.Ytekhadlpcdjlpaa
namespace Abs
open Go
set_option linter.unusedVariables false
set_option linter.unusedSimpArgs false

/-- A structure was made, where nothing else was known. -/
theorem Sees.new {S : Type} {heaps : S → AH → Prop} {s : S} {h' : AH} {v : Value} {K : Value → AH → Prop} {i : Nat} {is : List Nat} (g : AH) (hg : heaps s g) (ho : own g) (ok : AOK g) (hc : ∃ vs e, g[0]? = some (.cells vs e none)) (hnd : (i :: is).Nodup) (hl : (i :: is).length = g.length) (hs : subL (nth (i :: is)) h' 0 g)
    (v2 : Value) (hv : v = ren (fun b => if b = 0 then i else b) v2) (hsc : scp (live [.adt (mkADT S heaps) s]) v2 = true) (hK : K v2 [.adt (mkADT S heaps) s]) : Sees 0 h' v K := by
  have hσ : Spec.σ [(ABlk.adt (mkADT S heaps) s, i :: is)] = fun b => if b = 0 then i else b := by
    funext b
    unfold Spec.σ
    cases b with
    | zero => rfl
    | succ b => simp
  refine Sees.mk [(.adt (mkADT S heaps) s, i :: is)] v2 (fun b k js hb => ?_) ⟨by simp, trivial⟩ ?_ hsc (by rw [hσ]; exact hv) (fun b hb => by omega) (fun b hb => by omega) (by simp) hK
  · match b with
    | 0 =>
      simp at hb
      obtain ⟨rfl, rfl⟩ := hb
      exact okBlk_close g hg ho ok hc (by rw [hσ]; rfl) hnd hl hs
    | n + 1 => simp at hb
  · exact AOK.of ⟨trivial, trivial⟩

theorem nth_range : ∀ (n a b : Nat), b < n → nth (List.range' a n) b = a + b
  | 0, a, b, h => by omega
  | n + 1, a, 0, h => by simp [List.range'_succ, nth]
  | n + 1, a, b + 1, h => by
    rw [List.range'_succ, nth_s, nth_range n (a + 1) b (by omega)]
    omega

/-- At a loop's head, where the first blocks are as they were, under their names. -/
theorem headId {m n : Nat} {tv : List (Nat × Value)} {g : AH} {t : T} {h : AH} (hp : ∀ (b : Nat) (k : ABlk), g[b]? = some k → h[b]? = some k) (ok : AOK g) (hl : ∀ b, b < m → live g b = true) (hm : m ≤ g.length) (hn : t.length = n) (ht : ∀ x ∈ tv, getT t x.1 = some x.2 ∧ scp (live g) x.2 = true) : atHeadV m n tv g t h := by
  have hlen : g.length = (List.range g.length).length := by simp
  have hσ : (pairUp g (List.range g.length)).σ = fun b => b := by
    rw [pairUp_σ hlen]
    funext b
    unfold nthD
    split
    · rename_i hb
      rw [List.range_eq_range', nth_range _ _ _ (by simpa using hb)]
      omega
    · rfl
  refine ⟨pairUp g (List.range g.length), (pairUp_map hlen).symm, fun b k is hb => ?_, pairUp_dis List.nodup_range, ok, fun b hb => ⟨by rw [hσ], hl b hb⟩, hm, hn, fun x hx => by rw [hσ, ren_id]; exact ht x hx⟩
  rw [pairUp_get hlen] at hb
  cases hx : g[b]? with
  | none => rw [hx] at hb; cases hb
  | some k' =>
    rw [hx] at hb
    injection hb with hb
    injection hb with q1 q2
    subst q1 q2
    have hbl := (List.getElem?_eq_some_iff.1 hx).1
    have e : nth (List.range g.length) b = b := by
      rw [List.range_eq_range', nth_range _ _ _ (by simpa using hbl)]
      omega
    rw [e]
    refine okBlk_keep (by rw [hσ]) ?_
    rw [hσ, renB_id]
    exact hp b k' hx

end Abs
end Go.Proofs.Ytekhadlpcdjlpaa
