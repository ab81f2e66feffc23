/- pool: PoolPlays, both pools through a round. -/
import Derived.Test.YtekhadlpcdjlpaaPp8
namespace Go.Proofs.Ytekhadlpcdjlpaa
namespace Px
open Go Abs Code
set_option linter.unusedVariables false
set_option linter.unusedSimpArgs false
set_option maxRecDepth 100000

theorem J13.names {R g p x ns vh had} (J : J13 R g p x ns vh had) : ∀ c, (c = 0 ∨ c = 1 ∨ c ∈ ns ∨ c ∈ nm vh) → c < g.length := by
  rintro c (rfl | rfl | h | h)
  · exact lt_get J.row
  · exact lt_get J.pool
  · exact J.rep.lt c h
  · exact J.vec.lt c h

theorem J13.keepAll {R g g' p x ns vh had} (J : J13 R g p x ns vh had) (h : ∀ c, c < g.length → g'[c]? = g[c]?) : J13 R g' p x ns vh had :=
  ⟨by rw [h 0 (lt_get J.row)]; exact J.row, by rw [h 1 (lt_get J.pool)]; exact J.pool, J.rep.keep fun c hc => h c (J.rep.lt c hc), J.n0, J.n1, J.vec.keep fun c _ hc => h c hc, J.hn, J.ok, J.sim, J.lts⟩
theorem J13.app {R g p x ns vh had} (J : J13 R g p x ns vh had) (tl : AH) : J13 R (g ++ tl) p x ns vh had := J.keepAll fun c hc => List.getElem?_append_left hc

/-- The program's pool turns, then the document's. -/
theorem J13.turn {R g p x ns vh had} (J : J13 R g p x ns vh had) {p' : PS} {x' : XS} {ns' : List Nat} {g' : AH} (r : RepP g' 2 ns' x') (u : Upd ns (g.set 1 (poolB p')) ns' g') (ok : OkP p') (sim : Sim p' x') : J13 R g' p' x' ns' vh had := by
  have len : (g.set 1 (poolB p')).length = g.length := by simp
  have keep : ∀ c, c < g.length → c ≠ 1 → c ∉ ns → g'[c]? = g[c]? := fun c hc h1 hn => by
    rw [u.keep c (by rw [len]; exact hc) hn, List.getElem?_set_ne (fun e => h1 e.symm)]
  have new : ∀ c ∈ ns', c ∈ ns ∨ g.length ≤ c := fun c hc => (u.new c hc).imp id (fun h => by rw [len] at h; exact h.1)
  have l0 := lt_get J.row
  have l1 := lt_get J.pool
  refine ⟨by rw [keep 0 l0 (by omega) J.n0]; exact J.row, ?_, r, fun h => ?_, fun h => ?_, J.vec.keep fun c hc hl => keep c hl (J.hn c hc).2.2 (J.hn c hc).1, fun c hc => ⟨fun h => ?_, (J.hn c hc).2⟩, ok, sim, J.lts⟩
  · rw [u.keep 1 (by rw [len]; exact l1) J.n1, List.getElem?_set_self l1]
  · exact (new 0 h).elim J.n0 (by omega)
  · exact (new 1 h).elim J.n1 (by omega)
  · have := J.vec.lt c hc
    exact (new c h).elim (J.hn c hc).1 (by omega)

theorem J13.push {R g p x ns vh had} (J : J13 R g p x ns vh had) (h : Nat) (hh : h < 4294967296) {g' : AH} {n m : Nat} (o : Own g' 1 [(.slice (some ⟨g.length + 1, 0, none⟩) n m, words (nats had) ++ [.int .u32 (h : Int)], 35)]) (k : ∀ c, c < g.length → c ∉ nm vh → g'[c]? = g[c]?) : J13 R g' p x ns (.slice (some ⟨g.length + 1, 0, none⟩) n m) (had ++ [h]) := by
  refine ⟨by rw [k 0 (lt_get J.row) (fun hm => (J.hn 0 hm).2.1 rfl)]; exact J.row, by rw [k 1 (lt_get J.pool) (fun hm => (J.hn 1 hm).2.2 rfl)]; exact J.pool, J.rep.keep fun c hc => k c (J.rep.lt c hc) (fun hm => (J.hn c hm).1 hc), J.n0, J.n1, ?_, fun c hc => ?_, J.ok, J.sim, fun y hy => ?_⟩
  · have := o.vec _ (List.mem_singleton_self _)
    simp only at this
    have e : words (nats (had ++ [h])) = words (nats had) ++ [.int .u32 (h : Int)] := by simp [words, nats]
    rw [e]
    exact this
  · simp [nm] at hc
    subst hc
    have := lt_get J.pool
    exact ⟨fun hm => by have := J.rep.lt _ hm; omega, by omega, by omega⟩
  · rcases List.mem_append.1 hy with hy | hy
    · exact J.lts y hy
    · simp at hy; omega

theorem own_eq {p : PS} {x : XS} (s : Sim p x) (h : Nat) : ownB p h = decide (1 ≤ h % 4096 ∧ h % 4096 ≤ x.out.length) := by
  unfold ownB
  rw [s.ol]
  congr 1
  apply propext
  constructor
  · rintro ⟨a, b, c⟩
    exact ⟨b, by omega⟩
  · rintro ⟨b, c⟩
    refine ⟨fun e => ?_, b, by omega⟩
    rw [e] at c
    simp at c
    omega

theorem takeS_out (p : PS) (t : Int) : (takeS p t).out.length ≤ p.out.length + 1 := by
  unfold takeS
  split
  · omega
  · split <;> simp
theorem freeS_out (p : PS) (h : Nat) : (freeS p h).out.length ≤ p.out.length := by
  unfold freeS
  split
  · omega
  · exact List.length_filter_le _ _
theorem takeR_lt {x : XS} (ok : OkX x) (t : Int) : takeR x t < 4294967296 := by
  unfold takeR
  split
  · omega
  · split
    · rename_i n _ hq
      have hn := (ok.nodes _ _ hq).2 n List.mem_cons_self
      have := ok.small
      have := ok.lens
      unfold XS.han hOf
      cases hg : x.gen[n - 1]? with
      | none => simp; omega
      | some g =>
        have := ok.gens g (List.mem_of_getElem? hg)
        simp
        omega
    · omega

theorem rowQ_length (l : List OpL) : (rowQ l).length = l.length * 4 := by
  induction l with
  | nil => rfl
  | cons o l ih => simp [rowQ, OpL.vs] at ih ⊢; omega
theorem rowQ_at {l : List OpL} {i : Nat} {o : OpL} (h : l[i]? = some o) : ((rowQ l).drop (i * 4)).take 4 = o.vs := by
  induction l generalizing i with
  | nil => simp at h
  | cons y l ih =>
    cases i with
    | zero => simp at h; subst h; simp [rowQ, OpL.vs]
    | succ i =>
      simp at h
      rw [show (i + 1) * 4 = i * 4 + 1 + 1 + 1 + 1 by omega]
      simp only [rowQ, OpL.vs, List.flatMap_cons, List.cons_append, List.nil_append, List.drop_succ_cons]
      exact ih h

theorem VecV.len {g : AH} {v : Value} {l : List Value} {e : TypeId} (h : VecV g v l e) : ∃ A C, v = .slice A l.length C ∧ (l ≠ [] → ∃ b, A = some ⟨b, 0, none⟩ ∧ g[b]? = some (.cells l e (some 1))) := by
  cases h with
  | nil h1 h2 => subst h1; exact ⟨none, 0, h2, fun h => absurd rfl h⟩
  | row b h1 h2 h3 => exact ⟨_, _, h2, fun _ => ⟨b, rfl, h3⟩⟩

end Px
end Go.Proofs.Ytekhadlpcdjlpaa
