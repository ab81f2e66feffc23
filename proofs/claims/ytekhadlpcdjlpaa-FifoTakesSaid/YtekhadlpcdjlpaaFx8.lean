/- fifo, in plain Lean: what holds of a lock at all times. -/
import Derived.Test.YtekhadlpcdjlpaaFx1
namespace Go.Proofs.Ytekhadlpcdjlpaa
namespace Fx
open Go Abs
set_option linter.unusedVariables false
set_option linter.unusedSimpArgs false

/-- Who owns it, who is queued. -/
structure GoodL (s : LS) : Prop where
  nodup : s.q.Nodup
  inq : ∀ t : Int, t ∈ s.q ↔ (0 ≤ t ∧ s.st[t.toNat]? = some 2)
  own : ∀ t : Nat, (∃ v, s.st[t]? = some v ∧ (v = 3 ∨ v = 4 ∨ v = 6)) ↔ s.own = t
  ownr : s.own = -1 ∨ 0 ≤ s.own

theorem newL_good (n : Int) : GoodL (newL n) := by
  refine ⟨by simp [newL], fun t => ?_, fun t => ?_, .inl rfl⟩
  · simp only [newL, List.not_mem_nil, false_iff, List.getElem?_replicate]
    rintro ⟨_, h⟩
    split at h <;> simp at h
  · simp only [newL, List.getElem?_replicate]
    constructor
    · rintro ⟨v, h, hv⟩
      split at h
      · injection h with h; subst h; omega
      · cases h
    · intro h; omega

theorem wayOf_cases (k : Int) (h : (wayOf k).2.2 = true) : (k = 1 ∧ wayOf k = (0, 1, true)) ∨ (k = 2 ∧ wayOf k = (1, 2, true)) ∨ (k = 3 ∧ wayOf k = (2, 3, true)) ∨ (k = 4 ∧ wayOf k = (2, 5, true)) ∨ (k = 5 ∧ wayOf k = (3, 4, true)) ∨ (k = 6 ∧ wayOf k = (5, 0, true)) ∨ (k = 7 ∧ wayOf k = (1, 0, true)) ∨ (k = 8 ∧ wayOf k = (4, 6, true)) ∨ (k = 9 ∧ wayOf k = (6, 7, true)) ∨ (k = 10 ∧ wayOf k = (7, 0, true)) := by
  have e : ∀ c : Int, c = k → wayOf k = wayOf c := fun c h => by rw [h]
  by_cases h1 : k = 1; · exact .inl ⟨h1, by rw [h1]; rfl⟩
  by_cases h2 : k = 2; · exact .inr (.inl ⟨h2, by rw [h2]; rfl⟩)
  by_cases h3 : k = 3; · exact .inr (.inr (.inl ⟨h3, by rw [h3]; rfl⟩))
  by_cases h4 : k = 4; · exact .inr (.inr (.inr (.inl ⟨h4, by rw [h4]; rfl⟩)))
  by_cases h5 : k = 5; · exact .inr (.inr (.inr (.inr (.inl ⟨h5, by rw [h5]; rfl⟩))))
  by_cases h6 : k = 6; · exact .inr (.inr (.inr (.inr (.inr (.inl ⟨h6, by rw [h6]; rfl⟩)))))
  by_cases h7 : k = 7; · exact .inr (.inr (.inr (.inr (.inr (.inr (.inl ⟨h7, by rw [h7]; rfl⟩))))))
  by_cases h8 : k = 8; · exact .inr (.inr (.inr (.inr (.inr (.inr (.inr (.inl ⟨h8, by rw [h8]; rfl⟩)))))))
  by_cases h9 : k = 9; · exact .inr (.inr (.inr (.inr (.inr (.inr (.inr (.inr (.inl ⟨h9, by rw [h9]; rfl⟩))))))))
  by_cases h10 : k = 10; · exact .inr (.inr (.inr (.inr (.inr (.inr (.inr (.inr (.inr ⟨h10, by rw [h10]; rfl⟩))))))))
  simp [wayOf, h1, h2, h3, h4, h5, h6, h7, h8, h9, h10] at h

/-- A lock's entry that fits: what it does. -/
theorem takeL_good {s : LS} {x : En} (g : GoodL s) (hf : fitsL s x = true) : GoodL (takeL s x) := by
  obtain ⟨h1, h2, h3, h4, h5, h6⟩ := fitsL_parts hf
  obtain ⟨i, hi⟩ : ∃ i : Nat, x.t = i := ⟨x.t.toNat, by omega⟩
  have hin : x.t.toNat = i := by omega
  have hlt : i < s.st.length := by omega
  rw [hin] at h5
  -- the states behind it
  have hst : (takeL s x).st = s.st.set i (wayOf x.k).2.1 := by simp [takeL, hf, hin]
  have self : (takeL s x).st[i]? = some (wayOf x.k).2.1 := by rw [hst]; exact List.getElem?_set_self hlt
  have other : ∀ j : Nat, j ≠ i → (takeL s x).st[j]? = s.st[j]? := fun j hj => by rw [hst]; exact List.getElem?_set_ne (fun e => hj e.symm)
  have inq_i : (x.t ∈ s.q) ↔ (wayOf x.k).1 = 2 := by
    rw [g.inq, hin, h5]
    constructor
    · rintro ⟨_, h⟩; injection h
    · intro h; exact ⟨by omega, by rw [h]⟩
  have own_i : (s.own = (i : Int)) ↔ ((wayOf x.k).1 = 3 ∨ (wayOf x.k).1 = 4 ∨ (wayOf x.k).1 = 6) := by
    rw [← g.own i]
    constructor
    · rintro ⟨v, hv, h⟩
      rw [h5] at hv
      injection hv with hv
      rw [hv]
      exact h
    · intro h; exact ⟨_, h5, h⟩
  have inqO : ∀ t : Int, t ≠ x.t → 0 ≤ t → ((takeL s x).st[t.toNat]? = some 2 ↔ t ∈ s.q) := fun t ht h0 => by
    rw [other t.toNat (by omega), g.inq]
    exact ⟨fun h => ⟨h0, h⟩, fun h => h.2⟩
  have ownO : ∀ j : Nat, j ≠ i → ((∃ v, (takeL s x).st[j]? = some v ∧ (v = 3 ∨ v = 4 ∨ v = 6)) ↔ s.own = (j : Int)) := fun j hj => by
    rw [other j hj]
    exact g.own j
  -- what it comes to for the queue and the owner
  have fin : ∀ (q' : List Int) (o' : Int), (takeL s x).q = q' → (takeL s x).own = o' → q'.Nodup → (x.t ∈ q' ↔ (wayOf x.k).2.1 = 2) → (∀ t, t ≠ x.t → (t ∈ q' ↔ t ∈ s.q)) → (o' = (i : Int) ↔ ((wayOf x.k).2.1 = 3 ∨ (wayOf x.k).2.1 = 4 ∨ (wayOf x.k).2.1 = 6)) → (∀ j : Nat, j ≠ i → (o' = (j : Int) ↔ s.own = (j : Int))) → (o' = -1 ∨ 0 ≤ o') → GoodL (takeL s x) := by
    intro q' o' eq eo a1 a2 a3 a4 a5 a6
    refine ⟨by rw [eq]; exact a1, fun t => ?_, fun j => ?_, by rw [eo]; exact a6⟩
    · rw [eq]
      by_cases ht : t = x.t
      · subst ht
        rw [a2, hin, self]
        constructor
        · intro h; exact ⟨h2, by rw [h]⟩
        · rintro ⟨_, h⟩; injection h
      · rw [a3 t ht]
        by_cases h0 : 0 ≤ t
        · rw [← inqO t ht h0]
          exact ⟨fun h => ⟨h0, h⟩, fun h => h.2⟩
        · constructor
          · intro h; exact absurd (g.inq t |>.1 h).1 h0
          · intro h; exact absurd h.1 h0
    · rw [eo]
      by_cases hj : j = i
      · subst hj
        rw [a4, self]
        constructor
        · rintro ⟨v, hv, h⟩
          injection hv with hv
          rw [hv]
          exact h
        · intro h; exact ⟨_, rfl, h⟩
      · rw [a5 j hj]
        exact ownO j hj
  have hq0 : ∀ q', q' = (if x.k = 2 then s.q ++ [x.t] else if x.k = 3 ∨ x.k = 4 then s.q.filter (· != x.t) else s.q) → (takeL s x).q = q' := fun q' e => by rw [e]; simp [takeL, hf]
  have ho0 : ∀ o', o' = (if x.k = 3 then x.t else if x.k = 9 then -1 else s.own) → (takeL s x).own = o' := fun o' e => by rw [e]; simp [takeL, hf]
  have same : (wayOf x.k).1 ≠ 2 → (wayOf x.k).2.1 ≠ 2 → (x.t ∈ s.q ↔ (wayOf x.k).2.1 = 2) := fun n1 n2 => by rw [inq_i]; exact ⟨fun h => absurd h n1, fun h => absurd h n2⟩
  have filt : ∀ t, t ≠ x.t → (t ∈ s.q.filter (· != x.t) ↔ t ∈ s.q) := fun t ht => by simp [List.mem_filter, ht]
  have nofilt : x.t ∉ s.q.filter (· != x.t) := by simp [List.mem_filter]
  have ond := g.ownr
  rcases wayOf_cases x.k h1 with ⟨hk, hw⟩ | ⟨hk, hw⟩ | ⟨hk, hw⟩ | ⟨hk, hw⟩ | ⟨hk, hw⟩ | ⟨hk, hw⟩ | ⟨hk, hw⟩ | ⟨hk, hw⟩ | ⟨hk, hw⟩ | ⟨hk, hw⟩ <;> simp only [hw] at fin inq_i own_i same
  case inr.inl =>
    refine fin (s.q ++ [x.t]) s.own (hq0 _ (by simp [hk])) (ho0 _ (by simp [hk])) ?_ (by simp) (fun t ht => by simp [ht]) (by rw [own_i]; simp) (fun _ _ => Iff.rfl) ond
    rw [List.nodup_append]
    refine ⟨g.nodup, by simp, fun a ha b hb => ?_⟩
    simp only [List.mem_singleton] at hb
    subst hb
    intro e
    rw [e] at ha
    exact absurd (inq_i.1 ha) (by simp)
  case inr.inr.inl =>
    have ho : s.own = -1 := by
      rcases h6 with h | h
      · exact absurd hk h
      · exact h.1
    refine fin (s.q.filter (· != x.t)) x.t (hq0 _ (by simp [hk])) (ho0 _ (by simp [hk])) (g.nodup.filter _) ⟨fun h => absurd h nofilt, fun h => by simp at h⟩ filt (by rw [hi]; simp) (fun j hj => ?_) (.inr h2)
    rw [ho, hi]
    omega
  case inr.inr.inr.inl =>
    refine fin (s.q.filter (· != x.t)) s.own (hq0 _ (by simp [hk])) (ho0 _ (by simp [hk])) (g.nodup.filter _) ⟨fun h => absurd h nofilt, fun h => by simp at h⟩ filt (by rw [own_i]; simp) (fun _ _ => Iff.rfl) ond
  case inr.inr.inr.inr.inr.inr.inr.inr.inl =>
    have ho : s.own = (i : Int) := own_i.2 (by simp)
    refine fin s.q (-1) (hq0 _ (by simp [hk])) (ho0 _ (by simp [hk])) g.nodup (same (by simp) (by simp)) (fun _ _ => Iff.rfl) ⟨fun h => by omega, fun h => by simp at h⟩ (fun j hj => by rw [ho]; omega) (.inl rfl)
  all_goals exact fin s.q s.own (hq0 _ (by simp [hk])) (ho0 _ (by simp [hk])) g.nodup (same (by simp) (by simp)) (fun _ _ => Iff.rfl) (by rw [own_i]; simp) (fun _ _ => Iff.rfl) ond

/-- The lock behind the first entries. -/
def afterL (s : LS) (l : List En) : LS := l.foldl takeL s
theorem afterL_snoc (s : LS) (l : List En) (x : En) : afterL s (l ++ [x]) = takeL (afterL s l) x := by simp [afterL]

theorem takeL_no {s : LS} {x : En} (h : fitsL s x = false) : takeL s x = s := by simp [takeL, h]
theorem takeL_good' {s : LS} {x : En} (g : GoodL s) : GoodL (takeL s x) := by
  by_cases hf : fitsL s x = true
  · exact takeL_good g hf
  · rw [takeL_no (by simpa using hf)]; exact g
theorem afterL_good {s : LS} (g : GoodL s) (l : List En) : GoodL (afterL s l) := by
  induction l generalizing s with
  | nil => exact g
  | cons x l ih => exact ih (takeL_good' g)
theorem afterL_ok {s : LS} (g : OkL s) (l : List En) : OkL (afterL s l) := by
  induction l generalizing s with
  | nil => exact g
  | cons x l ih => exact ih (takeL_ok g)

/-- Those that are counted fit. -/
theorem countL_fits {s : LS} {l : List En} {i : Nat} (h : i < countL s l) {x : En} (hx : l[i]? = some x) : fitsL (afterL s (l.take i)) x = true := by
  induction l generalizing s i with
  | nil => simp at hx
  | cons y l ih =>
    simp only [countL] at h
    split at h
    · rename_i hf
      cases i with
      | zero => simp at hx; subst hx; exact hf
      | succ i =>
        simp at hx
        exact ih (by omega) hx
    · omega

end Fx
end Go.Proofs.Ytekhadlpcdjlpaa
