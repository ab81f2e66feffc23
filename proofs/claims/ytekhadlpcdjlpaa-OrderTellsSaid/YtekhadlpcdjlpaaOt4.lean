/- order, in plain Lean: who is ahead, counted two ways. -/
import Derived.Test.YtekhadlpcdjlpaaOt2
namespace Go.Proofs.Ytekhadlpcdjlpaa
namespace Ox
open Go Abs
set_option linter.unusedVariables false
set_option linter.unusedSimpArgs false

theorem mem_putL {m : List (Int × Int)} {t k0 u k : Int} : (u, k) ∈ putL m t k0 ↔ (u = t ∧ k = k0) ∨ (u ≠ t ∧ (u, k) ∈ m) := by
  unfold putL
  split
  · rename_i h
    obtain ⟨y, hy, hyt⟩ := List.any_eq_true.1 h
    have hyt : y.1 = t := by simpa using hyt
    constructor
    · intro hm
      obtain ⟨z, hz, e⟩ := List.mem_map.1 hm
      split at e
      · injection e with e1 e2
        exact .inl ⟨e1.symm, e2.symm⟩
      · rename_i hne
        subst e
        exact .inr ⟨hne, hz⟩
    · rintro (⟨rfl, rfl⟩ | ⟨hne, hm⟩)
      · exact List.mem_map.2 ⟨y, hy, by rw [if_pos hyt]⟩
      · exact List.mem_map.2 ⟨(u, k), hm, by rw [if_neg hne]⟩
  · rename_i h
    have hno : ∀ y ∈ m, y.1 ≠ t := fun y hy e => h (List.any_eq_true.2 ⟨y, hy, by simp [e]⟩)
    rw [List.mem_append]
    constructor
    · rintro (hm | hm)
      · exact .inr ⟨hno _ hm, hm⟩
      · simp at hm
        exact .inl hm
    · rintro (⟨rfl, rfl⟩ | ⟨_, hm⟩)
      · exact .inr (by simp)
      · exact .inl hm

def InvL (m : List (Int × Int)) (st : Int → Int) : Prop := (∀ u k, (u, k) ∈ m → st u = if k = 2 ∨ k = 3 then k else 0) ∧ ∀ u, u ∉ m.map (·.1) → st u = 0

theorem invL_step {m : List (Int × Int)} {st : Int → Int} (x : En) (h : InvL m st) : InvL (if bearing x.k then putL m x.t x.k else m) (fun u => stStep u (st u) x) := by
  obtain ⟨h1, h2⟩ := h
  by_cases hb : bearing x.k = true
  · rw [if_pos hb]
    have hk : x.k = 2 ∨ x.k = 3 ∨ x.k = 4 ∨ x.k = 9 := by simpa [bearing] using hb
    have hself : ∀ s, stStep x.t s x = if x.k = 2 ∨ x.k = 3 then x.k else 0 := by
      intro s
      unfold stStep
      rw [if_pos rfl]
      by_cases c : x.k = 2 ∨ x.k = 3
      · rw [if_pos c, if_pos c]
      · rw [if_neg c, if_neg c, if_pos]
        rcases hk with h | h | h | h
        · exact absurd (.inl h) c
        · exact absurd (.inr h) c
        · exact .inl h
        · exact .inr h
    refine ⟨fun u k hm => ?_, fun u hu => ?_⟩
    · rcases mem_putL.1 hm with ⟨rfl, rfl⟩ | ⟨hne, hm⟩
      · exact hself _
      · simp only [stStep, if_neg (fun e : x.t = u => hne e.symm)]
        exact h1 u k hm
    · have hne : u ≠ x.t := by
        rintro rfl
        exact hu (List.mem_map.2 ⟨(x.t, x.k), mem_putL.2 (.inl ⟨rfl, rfl⟩), rfl⟩)
      simp only [stStep, if_neg (fun e : x.t = u => hne e.symm)]
      refine h2 u fun hm => hu ?_
      obtain ⟨y, hy, e⟩ := List.mem_map.1 hm
      refine List.mem_map.2 ⟨y, ?_, e⟩
      obtain ⟨a, b⟩ := y
      exact mem_putL.2 (.inr ⟨by rw [show a = u from e]; exact hne, hy⟩)
  · rw [if_neg hb]
    have hk : ¬ (x.k = 2 ∨ x.k = 3 ∨ x.k = 4 ∨ x.k = 9) := by simpa [bearing] using hb
    have hs : ∀ u s, stStep u s x = s := by
      intro u s
      unfold stStep
      split
      · rw [if_neg (fun h => hk (h.elim .inl (fun h => .inr (.inl h)))), if_neg (fun h => hk (h.elim (fun h => .inr (.inr (.inl h))) (fun h => .inr (.inr (.inr h)))))]
      · rfl
    simp only [hs]
    exact ⟨h1, h2⟩

theorem lasts_inv (l : List En) : InvL (lasts l) (stateT l) := by
  have key : ∀ (l : List En) (m : List (Int × Int)) (st : Int → Int), InvL m st → InvL (l.foldl (fun m x => if bearing x.k then putL m x.t x.k else m) m) (fun u => l.foldl (stStep u) (st u)) := by
    intro l
    induction l with
    | nil => intro m st h; exact h
    | cons x l ih =>
      intro m st h
      exact ih _ _ (invL_step x h)
  exact key l [] (fun _ => 0) ⟨fun u k h => by simp at h, fun _ _ => rfl⟩

/-- The threads, in the order of their first entries. -/
def firsts : List En → List Int
  | [] => []
  | x :: l => x.t :: (firsts l).filter (· != x.t)
theorem mem_firsts : ∀ {l : List En} {u : Int}, u ∈ firsts l ↔ ∃ x ∈ l, x.t = u
  | [], u => by simp [firsts]
  | x :: l, u => by
    simp only [firsts, List.mem_cons, List.mem_filter, mem_firsts, exists_eq_or_imp]
    constructor
    · rintro (rfl | ⟨h, _⟩)
      · exact .inl rfl
      · exact .inr h
    · rintro (h | h)
      · exact .inl h.symm
      · by_cases e : u = x.t
        · exact .inl e
        · exact .inr ⟨h, by simpa using e⟩
theorem firsts_nodup : ∀ l : List En, (firsts l).Nodup
  | [] => List.nodup_nil
  | x :: l => by
    simp only [firsts, List.nodup_cons]
    exact ⟨by simp, (firsts_nodup l).filter _⟩

theorem state_zero {l : List En} {u : Int} (h : ∀ x ∈ l, x.t ≠ u) : stateT l u = 0 := by
  unfold stateT
  have : ∀ (l : List En) (s : Int), (∀ x ∈ l, x.t ≠ u) → l.foldl (stStep u) s = s := by
    intro l
    induction l with
    | nil => intro s _; rfl
    | cons x l ih =>
      intro s h
      rw [List.foldl_cons]
      have e : stStep u s x = s := by unfold stStep; rw [if_neg (h x List.mem_cons_self)]
      rw [e]
      exact ih s fun y hy => h y (List.mem_cons_of_mem _ hy)
  exact this l 0 h

/-- Who is ahead, by the threads' first entries. -/
theorem aheadL_firsts (l : List En) (t : Int) : aheadL l t = (firsts l).countP fun u => decide (u ≠ t ∧ 0 < stateT l u) := by
  obtain ⟨h1, h2⟩ := lasts_inv l
  have e1 : aheadL l t = ((lasts l).map (·.1)).countP fun u => decide (u ≠ t ∧ 0 < stateT l u) := by
    unfold aheadL
    rw [List.countP_map]
    refine List.countP_congr fun y hy => ?_
    obtain ⟨u, k⟩ := y
    have := h1 u k hy
    simp only [Function.comp, decide_eq_true_eq, this]
    by_cases c : k = 2 ∨ k = 3
    · rw [if_pos c]
      constructor
      · rintro ⟨a, _⟩; exact ⟨a, by rcases c with rfl | rfl <;> decide⟩
      · rintro ⟨a, _⟩; exact ⟨a, c⟩
    · rw [if_neg c]
      constructor
      · rintro ⟨_, b⟩; exact absurd b c
      · rintro ⟨_, b⟩; exact absurd b (by decide)
  rw [e1, List.countP_eq_length_filter, List.countP_eq_length_filter]
  refine List.Perm.length_eq ((List.perm_ext_iff_of_nodup ((lasts_keys l).filter _) ((firsts_nodup l).filter _)).2 fun u => ?_)
  simp only [List.mem_filter, decide_eq_true_eq]
  constructor
  · rintro ⟨_, a, b⟩
    refine ⟨?_, a, b⟩
    by_cases hx : ∃ x ∈ l, x.t = u
    · exact mem_firsts.2 hx
    · exfalso
      have := state_zero (l := l) (u := u) fun x hx' e => hx ⟨x, hx', e⟩
      omega
  · rintro ⟨_, a, b⟩
    refine ⟨?_, a, b⟩
    by_cases hm : u ∈ (lasts l).map (·.1)
    · exact hm
    · exfalso
      have := h2 u hm
      omega

end Ox
end Go.Proofs.Ytekhadlpcdjlpaa
