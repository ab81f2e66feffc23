/- fifo, in plain Lean: the document's answer, by the entries ahead. -/
import Derived.Test.YtekhadlpcdjlpaaFx8
namespace Go.Proofs.Ytekhadlpcdjlpaa
namespace Fx
open Go Abs
set_option linter.unusedVariables false
set_option linter.unusedSimpArgs false

def lastL (l : List En) (t : Int) : Int := l.foldl (fun k x => if x.t = t then x.k else k) 0
theorem lastL_snoc (l : List En) (x : En) (t : Int) : lastL (l ++ [x]) t = if x.t = t then x.k else lastL l t := by simp [lastL]
def stK (k : Int) : Int := if k = 1 then 1 else if k = 2 then 2 else if k = 3 then 3 else if k = 4 then 5 else if k = 5 then 4 else if k = 8 then 6 else if k = 9 then 7 else 0
def stateR (l : List En) (t : Int) : Int := stK (lastL l t)

/-- Those of l that are queued, where l stands behind others and all is in full. -/
def queueF (full : List En) : List En → List Int
  | [] => []
  | x :: l => if x.k = 2 ∧ lastL full x.t = 2 ∧ lastL l x.t = 0 then x.t :: queueF full l else queueF full l
def queueR (l : List En) : List Int := queueF l l

def ownS (y : Int) : Bool := decide (y = 3 ∨ y = 4 ∨ y = 6)
/-- The last of l that owns, where all is in full. -/
def ownerF (full : List En) (l : List En) : Int := l.foldl (fun o x => if ownS (stateR full x.t) then x.t else o) (-1)
def ownerR (l : List En) : Int := ownerF l l

def fitsR (n : Int) (l : List En) (x : En) : Bool :=
  if x.t < 0 ∨ n ≤ x.t ∨ x.now < 0 ∨ (∃ y, l.getLast? = some y ∧ x.now < y.now) then false
  else if x.k = 1 then decide (lastL l x.t = 0 ∨ lastL l x.t = 6 ∨ lastL l x.t = 7 ∨ lastL l x.t = 10)
  else if x.k = 2 ∨ x.k = 7 then decide (lastL l x.t = 1)
  else if x.k = 3 then decide (lastL l x.t = 2 ∧ (queueR l).head? = some x.t ∧ ownerR l = -1)
  else if x.k = 4 then decide (lastL l x.t = 2)
  else if x.k = 5 then decide (lastL l x.t = 3)
  else if x.k = 6 then decide (lastL l x.t = 4)
  else if x.k = 8 then decide (lastL l x.t = 5)
  else if x.k = 9 then decide (lastL l x.t = 8)
  else if x.k = 10 then decide (lastL l x.t = 9)
  else false

/-- What the lock is, and what the document says, are the same. -/
structure SameR (n : Nat) (s : LS) (l : List En) : Prop where
  good : GoodL s
  len : s.st.length = n
  st : ∀ t : Nat, t < n → s.st[t]? = some (stateR l t)
  q : s.q = queueR l
  kinds : ∀ t, lastL l t = 0 ∨ (1 ≤ lastL l t ∧ lastL l t ≤ 10)
  thr : ∀ x ∈ l, 0 ≤ x.t ∧ x.t < n
  now : s.now = match l.getLast? with | some y => y.now | none => 0
  now0 : 0 ≤ s.now

theorem lastL_mem {l : List En} {t : Int} (h : lastL l t ≠ 0) : ∃ x ∈ l, x.t = t := by
  have : ∀ (l : List En) (k : Int), (l.foldl (fun k x => if x.t = t then x.k else k) k) ≠ k → ∃ x ∈ l, x.t = t := by
    intro l
    induction l with
    | nil => intro k h; exact absurd rfl h
    | cons y l ih =>
      intro k h
      by_cases e : y.t = t
      · exact ⟨y, List.mem_cons_self, e⟩
      · simp only [List.foldl_cons, if_neg e] at h
        obtain ⟨x, hx, hxt⟩ := ih k h
        exact ⟨x, List.mem_cons_of_mem _ hx, hxt⟩
  exact this l 0 h

theorem ownerF_spec (full : List En) (l : List En) : (ownerF full l = -1 ∧ ∀ x ∈ l, ownS (stateR full x.t) = false) ∨ ∃ x ∈ l, ownerF full l = x.t ∧ ownS (stateR full x.t) = true := by
  have : ∀ (l : List En) (o : Int), (l.foldl (fun o x => if ownS (stateR full x.t) then x.t else o) o = o ∧ ∀ x ∈ l, ownS (stateR full x.t) = false) ∨ ∃ x ∈ l, l.foldl (fun o x => if ownS (stateR full x.t) then x.t else o) o = x.t ∧ ownS (stateR full x.t) = true := by
    intro l
    induction l with
    | nil => intro o; exact .inl ⟨rfl, by simp⟩
    | cons y l ih =>
      intro o
      by_cases e : ownS (stateR full y.t) = true
      · simp only [List.foldl_cons, e, if_true]
        rcases ih y.t with ⟨h1, h2⟩ | ⟨x, hx, h1, h2⟩
        · exact .inr ⟨y, List.mem_cons_self, h1, e⟩
        · exact .inr ⟨x, List.mem_cons_of_mem _ hx, h1, h2⟩
      · simp only [List.foldl_cons, e, Bool.false_eq_true, if_false]
        rcases ih o with ⟨h1, h2⟩ | ⟨x, hx, h1, h2⟩
        · refine .inl ⟨h1, fun x hx => ?_⟩
          rcases List.mem_cons.1 hx with rfl | hx
          · simpa using e
          · exact h2 x hx
        · exact .inr ⟨x, List.mem_cons_of_mem _ hx, h1, h2⟩
  exact this l (-1)

theorem stK_own {k : Int} (h : ownS (stK k) = true) : k ≠ 0 := by
  rintro rfl
  simp [stK, ownS] at h

theorem SameR.own {n : Nat} {s : LS} {l : List En} (r : SameR n s l) : s.own = ownerR l := by
  have key : ∀ t : Nat, t < n → (ownS (stateR l t) = true ↔ s.own = (t : Int)) := by
    intro t ht
    rw [← r.good.own t, r.st t ht]
    simp [ownS]
  rcases ownerF_spec l l with ⟨h1, h2⟩ | ⟨x, hx, h1, h2⟩
  · rcases r.good.ownr with h | h
    · rw [h]; exact h1.symm
    · exfalso
      obtain ⟨t, ht⟩ : ∃ t : Nat, s.own = t := ⟨s.own.toNat, by omega⟩
      obtain ⟨v, hv, hv2⟩ := (r.good.own t).2 ht
      have htl : t < n := by rw [← r.len]; exact (List.getElem?_eq_some_iff.1 hv).1
      have h3 := (key t htl).2 ht
      obtain ⟨x, hx, hxt⟩ := lastL_mem (stK_own h3)
      have := h2 x hx
      rw [hxt, h3] at this
      cases this
  · obtain ⟨h3, h4⟩ := r.thr x hx
    obtain ⟨t, ht⟩ : ∃ t : Nat, x.t = t := ⟨x.t.toNat, by omega⟩
    rw [ht] at h2
    have := (key t (by omega)).1 h2
    rw [this]
    exact (h1.trans ht).symm

theorem stK_iff {k : Int} (h : k = 0 ∨ (1 ≤ k ∧ k ≤ 10)) : (stK k = 0 ↔ (k = 0 ∨ k = 6 ∨ k = 7 ∨ k = 10)) ∧ (stK k = 1 ↔ k = 1) ∧ (stK k = 2 ↔ k = 2) ∧ (stK k = 3 ↔ k = 3) ∧ (stK k = 5 ↔ k = 4) ∧ (stK k = 4 ↔ k = 5) ∧ (stK k = 6 ↔ k = 8) ∧ (stK k = 7 ↔ k = 9) := by
  have : k = 0 ∨ k = 1 ∨ k = 2 ∨ k = 3 ∨ k = 4 ∨ k = 5 ∨ k = 6 ∨ k = 7 ∨ k = 8 ∨ k = 9 ∨ k = 10 := by omega
  rcases this with rfl | rfl | rfl | rfl | rfl | rfl | rfl | rfl | rfl | rfl | rfl <;> simp [stK]

theorem SameR.fits {n : Nat} {s : LS} {l : List En} (r : SameR n s l) (x : En) : fitsR n l x = fitsL s x := by
  by_cases c1 : x.t < 0
  · simp [fitsR, fitsL, c1, show ¬ 0 ≤ x.t by omega]
  by_cases c2 : (n : Int) ≤ x.t
  · have := r.len
    simp [fitsR, fitsL, c2, show ¬ x.t < (s.st.length : Int) by omega]
  obtain ⟨t, ht⟩ : ∃ t : Nat, x.t = t := ⟨x.t.toNat, by omega⟩
  have htn : t < n := by omega
  have hnow : (x.now < 0 ∨ (∃ y, l.getLast? = some y ∧ x.now < y.now)) ↔ ¬ s.now ≤ x.now := by
    have h1 := r.now
    have h2 := r.now0
    cases hl : l.getLast? with
    | none =>
      rw [hl] at h1
      simp only at h1
      constructor
      · rintro (h | ⟨y, h, _⟩)
        · omega
        · cases h
      · intro h; left; omega
    | some y =>
      rw [hl] at h1
      simp only at h1
      constructor
      · rintro (h | ⟨z, h, hz⟩)
        · omega
        · injection h with h; subst h; omega
      · intro h; right; exact ⟨y, rfl, by omega⟩
  by_cases c3 : s.now ≤ x.now
  case neg =>
    have := hnow.2 c3
    simp [fitsR, fitsL, c1, c2, c3, this]
  have c3' : ¬ (x.now < 0 ∨ (∃ y, l.getLast? = some y ∧ x.now < y.now)) := fun h => (hnow.1 h) c3
  have hcond : ¬ (x.t < 0 ∨ (n : Int) ≤ x.t ∨ x.now < 0 ∨ (∃ y, l.getLast? = some y ∧ x.now < y.now)) := by
    rintro (h | h | h)
    · exact c1 h
    · exact c2 h
    · exact c3' h
  have hst := r.st t htn
  have hlen := r.len
  have e1 : (decide (0 ≤ x.t) && decide (x.t < (s.st.length : Int)) && decide (s.now ≤ x.now)) = true := by simp [c3]; omega
  obtain ⟨i1, i2, i3, i4, i5, i6, i7, i8⟩ := stK_iff (r.kinds x.t)
  have hget : s.st[x.t.toNat]? = some (stK (lastL l x.t)) := by rw [show x.t.toNat = t by omega, hst, stateR, ht]
  have efit : fitsL s x = ((wayOf x.k).2.2 && decide (stK (lastL l x.t) = (wayOf x.k).1) && (decide (x.k ≠ 3) || (decide (s.own = -1) && decide (s.q.head? = some x.t)))) := by
    unfold fitsL
    rw [hget]
    have a1 : decide (0 ≤ x.t) = true := by simp; omega
    have a2 : decide (x.t < (s.st.length : Int)) = true := by simp; omega
    have a3 : decide (s.now ≤ x.now) = true := by simp [c3]
    rw [a1, a2, a3]
    simp
  rw [efit]
  unfold fitsR
  rw [if_neg hcond]
  by_cases h1 : x.k = 1
  · rw [h1]; simp [wayOf, i1]
  by_cases h2 : x.k = 2
  · rw [h2]; simp [wayOf, i2]
  by_cases h3 : x.k = 3
  · rw [h3, ← r.q, ← r.own]
    simp [wayOf, i3]
    rw [Bool.eq_iff_iff]
    simp
    intro _
    exact And.comm
  by_cases h4 : x.k = 4
  · rw [h4]; simp [wayOf, i3]
  by_cases h5 : x.k = 5
  · rw [h5]; simp [wayOf, i4]
  by_cases h6 : x.k = 6
  · rw [h6]; simp [wayOf, i5]
  by_cases h7 : x.k = 7
  · rw [h7]; simp [wayOf, i2]
  by_cases h8 : x.k = 8
  · rw [h8]; simp [wayOf, i6]
  by_cases h9 : x.k = 9
  · rw [h9]; simp [wayOf, i7]
  by_cases h10 : x.k = 10
  · rw [h10]; simp [wayOf, i8]
  simp [wayOf, h1, h2, h3, h4, h5, h6, h7, h8, h9, h10]

theorem queueF_snoc (full : List En) (x : En) (hk : x.k ≠ 0) : ∀ l : List En, queueF (full ++ [x]) (l ++ [x]) = (queueF full l).filter (· != x.t) ++ (if x.k = 2 then [x.t] else []) := by
  intro l
  induction l with
  | nil =>
    simp only [List.nil_append, queueF, lastL_snoc]
    by_cases h : x.k = 2 <;> simp [h, lastL]
  | cons y l ih =>
    simp only [List.cons_append, queueF, lastL_snoc, ih]
    by_cases e : x.t = y.t
    · rw [if_pos e, if_pos e, if_neg (by rintro ⟨_, _, h⟩; exact hk h)]
      by_cases hc : y.k = 2 ∧ lastL full y.t = 2 ∧ lastL l y.t = 0
      · rw [if_pos hc, List.filter_cons_of_neg (by simp [e])]
      · rw [if_neg hc]
    · rw [if_neg e, if_neg e]
      by_cases hc : y.k = 2 ∧ lastL full y.t = 2 ∧ lastL l y.t = 0
      · rw [if_pos hc, if_pos hc, List.filter_cons_of_pos (by simp; exact fun h => e h.symm)]
        rfl
      · rw [if_neg hc, if_neg hc]

theorem sameR_new (n : Nat) : SameR n (newL n) [] := by
  refine ⟨newL_good _, by simp [newL], fun t ht => by simp [newL, stateR, lastL, stK, List.getElem?_replicate, ht], rfl, fun t => .inl rfl, by simp, rfl, by simp [newL]⟩

theorem SameR.step {n : Nat} {s : LS} {l : List En} (r : SameR n s l) {x : En} (hf : fitsL s x = true) : SameR n (takeL s x) (l ++ [x]) := by
  obtain ⟨h1, h2, h3, h4, h5, h6⟩ := fitsL_parts hf
  have hlen := r.len
  have hcases := wayOf_cases x.k h1
  have hk10 : 1 ≤ x.k ∧ x.k ≤ 10 := by
    rcases hcases with ⟨h, _⟩ | ⟨h, _⟩ | ⟨h, _⟩ | ⟨h, _⟩ | ⟨h, _⟩ | ⟨h, _⟩ | ⟨h, _⟩ | ⟨h, _⟩ | ⟨h, _⟩ | ⟨h, _⟩ <;> omega
  have hway : stK x.k = (wayOf x.k).2.1 := by
    rcases hcases with ⟨h, e⟩ | ⟨h, e⟩ | ⟨h, e⟩ | ⟨h, e⟩ | ⟨h, e⟩ | ⟨h, e⟩ | ⟨h, e⟩ | ⟨h, e⟩ | ⟨h, e⟩ | ⟨h, e⟩ <;> rw [e, h] <;> rfl
  have hst' : (takeL s x).st = s.st.set x.t.toNat (wayOf x.k).2.1 := by simp [takeL, hf]
  refine ⟨takeL_good r.good hf, by rw [hst']; simpa using r.len, fun t ht => ?_, ?_, fun t => ?_, fun y hy => ?_, ?_, ?_⟩
  · rw [hst', stateR, lastL_snoc]
    by_cases e : x.t = t
    · rw [if_pos e, show x.t.toNat = t by omega, List.getElem?_set_self (by omega), hway]
    · rw [if_neg e, List.getElem?_set_ne (by omega), r.st t ht, stateR]
  · have hq : (takeL s x).q = if x.k = 2 then s.q ++ [x.t] else if x.k = 3 ∨ x.k = 4 then s.q.filter (· != x.t) else s.q := by simp [takeL, hf]
    have hno : (wayOf x.k).1 ≠ 2 → s.q.filter (· != x.t) = s.q := by
      intro hne
      rw [List.filter_eq_self]
      intro a ha
      simp only [bne_iff_ne, ne_eq]
      rintro rfl
      have := (r.good.inq x.t).1 ha
      rw [h5] at this
      have h7 := this.2
      injection h7 with h7
      exact hne h7
    rw [hq, queueR, queueF_snoc l x (by omega), ← queueR, ← r.q]
    by_cases hw : (wayOf x.k).1 = 2
    · have h34 : x.k = 3 ∨ x.k = 4 := by
        rcases hcases with ⟨h, e⟩ | ⟨h, e⟩ | ⟨h, e⟩ | ⟨h, e⟩ | ⟨h, e⟩ | ⟨h, e⟩ | ⟨h, e⟩ | ⟨h, e⟩ | ⟨h, e⟩ | ⟨h, e⟩ <;> rw [e] at hw <;> simp at hw
        · exact .inl h
        · exact .inr h
      have hne : ¬ x.k = 2 := by omega
      simp [hne, h34]
    · rw [hno hw]
      by_cases h34 : x.k = 3 ∨ x.k = 4
      · exfalso
        rcases h34 with h | h <;> (rw [h] at hw; exact hw rfl)
      · by_cases h2 : x.k = 2 <;> simp [h2, h34]
  · rw [lastL_snoc]
    split
    · exact .inr hk10
    · exact r.kinds t
  · rcases List.mem_append.1 hy with hy | hy
    · exact r.thr y hy
    · simp at hy
      subst hy
      omega
  · simp [takeL, hf]
  · have : (takeL s x).now = x.now := by simp [takeL, hf]
    rw [this]
    have := r.now0
    omega

end Fx
end Go.Proofs.Ytekhadlpcdjlpaa
