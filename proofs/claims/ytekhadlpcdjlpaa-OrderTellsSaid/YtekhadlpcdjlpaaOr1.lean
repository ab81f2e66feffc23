/- order: rows of entries; a map of numbers. -/
import Derived.Test.YtekhadlpcdjlpaaOr0
import Derived.Test.YtekhadlpcdjlpaaAbsD
import Derived.IntWalk
namespace Go.Proofs.Ytekhadlpcdjlpaa
namespace Ox
open Go Abs
set_option linter.unusedVariables false
set_option linter.unusedSimpArgs false

def rowOf : List En → List Value
  | [] => []
  | x :: l => .int .i64 x.k :: .int .i64 x.t :: .int .i64 x.now :: rowOf l

theorem rowOf_length (l : List En) : (rowOf l).length = l.length * 3 := by
  induction l with
  | nil => rfl
  | cons x l ih => simp [rowOf, ih]; omega

theorem rowOf_plain (l : List En) : ∀ v ∈ rowOf l, plain v = true := by
  induction l with
  | nil => intro v hv; cases hv
  | cons x l ih =>
    intro v hv
    simp [rowOf] at hv
    rcases hv with rfl | rfl | rfl | hv
    · rfl
    · rfl
    · rfl
    · exact ih v hv
theorem rowOf_noNames (l : List En) : noNames (.row (rowOf l)) := rowOf_plain l

theorem rowOf_at {l : List En} {i : Nat} {x : En} (h : l[i]? = some x) : ((rowOf l).drop (i * 3)).take 3 = [.int .i64 x.k, .int .i64 x.t, .int .i64 x.now] := by
  induction l generalizing i with
  | nil => simp at h
  | cons y l ih =>
    cases i with
    | zero => simp at h; subst h; simp [rowOf]
    | succ i =>
      simp at h
      rw [show (i + 1) * 3 = i * 3 + 1 + 1 + 1 by omega]
      simp only [rowOf, List.drop_succ_cons]
      exact ih h

theorem rowOf_drop (l : List En) : ∀ i, (rowOf l).drop (i * 3) = rowOf (l.drop i) := by
  induction l with
  | nil => intro i; simp [rowOf]
  | cons y l ih =>
    intro i
    cases i with
    | zero => simp
    | succ i =>
      rw [show (i + 1) * 3 = i * 3 + 1 + 1 + 1 by omega]
      simp only [rowOf, List.drop_succ_cons]
      exact ih i
theorem rowOf_take (l : List En) : ∀ i, (rowOf l).take (i * 3) = rowOf (l.take i) := by
  induction l with
  | nil => intro i; simp [rowOf]
  | cons y l ih =>
    intro i
    cases i with
    | zero => simp [rowOf]
    | succ i =>
      rw [show (i + 1) * 3 = i * 3 + 1 + 1 + 1 by omega]
      simp only [rowOf, List.take_succ_cons]
      rw [ih i]

theorem splice_many (vs : List Value) (o : Nat) (a b : Value) (l : List Value) : splice vs o (a :: b :: l) = vs.take o ++ (a :: b :: l) ++ vs.drop (o + (a :: b :: l).length) := rfl

theorem rowOne_scp {l : List En} {n cap : Nat} {A : Option Addr} (hA : RowOne n A) (tl : AH) : Abs.scp (live (.row (rowOf l) :: tl)) (.slice A n cap) = true := by
  rcases hA with ⟨_, rfl | ⟨sp, rfl⟩⟩ | rfl <;> simp [Abs.scp, live]

theorem aok1 (l : List En) : AOK [.row (rowOf l)] := AOK.of ⟨scp_noNames (rowOf_noNames l) _, trivial⟩

theorem rowHead {nt : Nat} {l : List En} {tv : List (Nat × Value)} {t' : T} {h' : AH} (h0 : h'[0]? = some (.row (rowOf l))) (e1 : t'.length = nt) (e2 : ∀ y ∈ tv, getT t' y.1 = some y.2 ∧ Abs.scp (live [.row (rowOf l)]) y.2 = true) : atHeadV 1 nt tv [.row (rowOf l)] t' h' := by
  refine headId (fun b k hb => ?_) (aok1 l) (fun b hb => ?_) (by simp) e1 e2
  · match b with
    | 0 => injection hb with hb; subst hb; exact h0
    | m + 1 => simp at hb
  · obtain rfl : b = 0 := by omega
    rfl

/-! A map of numbers. -/

def entsI (es : List MapEntry) (m : List (Int × Int)) : Prop := es.map (fun e => (e.key, e.val)) = m.map fun y => (Value.int .i64 y.1, Value.int .i64 y.2)

def putL (m : List (Int × Int)) (t k : Int) : List (Int × Int) := if m.any (fun y => y.1 == t) then m.map (fun y => if y.1 = t then (t, k) else y) else m ++ [(t, k)]

theorem find_entsI : ∀ {es : List MapEntry} {m : List (Int × Int)} (t : Int) (i : Nat), entsI es m → (m.any (fun y => y.1 == t) = false ∧ findA false (.int .i64 t) es i = some none) ∨ ∃ j v, m[j]? = some (t, v) ∧ (∀ j', j' < j → ∀ y, m[j']? = some y → y.1 ≠ t) ∧ findA false (.int .i64 t) es i = some (some (i + j, .int .i64 v))
  | [], [], t, i, h => .inl ⟨rfl, rfl⟩
  | [], x :: m, t, i, h => by simp [entsI] at h
  | e :: es, [], t, i, h => by simp [entsI] at h
  | e :: es, x :: m, t, i, h => by
    simp only [entsI, List.map_cons, List.cons.injEq, Prod.mk.injEq] at h
    obtain ⟨⟨h1, h2⟩, h3⟩ := h
    have ih := find_entsI t (i + 1) (show entsI es m from h3)
    by_cases hk : x.1 = t
    · refine .inr ⟨0, x.2, by simp [← hk], fun j' hj => by omega, ?_⟩
      simp [findA, h1, h2, keyEq, hk]
    · have hb : (t == x.1) = false := by simp; exact fun e => hk e.symm
      have hb2 : (x.1 == t) = false := by simp [hk]
      rcases ih with ⟨g1, g2⟩ | ⟨j, v, g1, g2, g3⟩
      · refine .inl ⟨by simp [g1, hk], ?_⟩
        simp only [findA, h1, keyEq, hb, g2, if_true, and_self]
        all_goals simp
      · refine .inr ⟨j + 1, v, by simpa using g1, fun j' hj y hy => ?_, ?_⟩
        · cases j' with
          | zero => simp at hy; subst hy; exact hk
          | succ j' => exact g2 j' (by omega) y (by simpa using hy)
        · simp only [findA, h1, keyEq, hb, g3, if_true, and_self]
          simp
          try omega

theorem put_ents {es : List MapEntry} {m : List (Int × Int)} {c : Nat} (t k : Int) (h : entsI es m) (hn : (m.map (·.1)).Nodup) (hg : goodM es c) : ∃ es' c', mapPut false es c (.int .i64 t) (.int .i64 k) = some (es', c') ∧ entsI es' (putL m t k) ∧ goodM es' c' := by
  rcases find_entsI t 0 h with ⟨g1, g2⟩ | ⟨j, v, g1, g2, g3⟩
  · refine ⟨es ++ [⟨.int .i64 t, .int .i64 k, c⟩], c + 1, by unfold mapPut; rw [g2], ?_, ?_⟩
    · unfold putL entsI at *
      rw [if_neg (by simp [g1]), List.map_append, List.map_append, h]
      rfl
    · refine ⟨fun e he => ?_, ?_⟩
      · rcases List.mem_append.1 he with he | he
        · have := hg.1 e he
          exact ⟨this.1, this.2.1, by omega⟩
        · simp at he
          subst he
          exact ⟨rfl, rfl, by simp⟩
      · rw [List.map_append, List.nodup_append]
        refine ⟨hg.2, by simp, fun a ha b hb => ?_⟩
        simp at hb
        subst hb
        obtain ⟨e, he, rfl⟩ := List.mem_map.1 ha
        have := (hg.1 e he).2.2
        omega
  · rw [Nat.zero_add] at g3
    refine ⟨es.modify j fun e => { e with key := .int .i64 t, val := .int .i64 k }, c, by unfold mapPut; rw [g3], ?_, ?_⟩
    · have hany : m.any (fun y => y.1 == t) = true := List.any_eq_true.2 ⟨(t, v), List.mem_of_getElem? g1, by simp⟩
      unfold putL entsI at *
      rw [if_pos hany]
      refine List.ext_getElem? fun i => ?_
      have hi := congrArg (fun l => l[i]?) h
      simp only [List.getElem?_map] at hi ⊢
      rw [List.getElem?_modify]
      by_cases hij : j = i
      · subst hij
        rw [g1] at hi ⊢
        cases hes : es[j]? with
        | none => rw [hes] at hi; cases hi
        | some e => simp
      · cases hm : m[i]? with
        | none =>
          rw [hm] at hi
          cases hes : es[i]? with
          | none => simp
          | some e => rw [hes] at hi; cases hi
        | some y =>
          have hy : y.1 ≠ t := by
            rintro rfl
            have h1 : (m.map (·.1))[i]? = some y.1 := by rw [List.getElem?_map, hm]; rfl
            have h2 : (m.map (·.1))[j]? = some y.1 := by rw [List.getElem?_map, g1]; rfl
            have hil := (List.getElem?_eq_some_iff.1 h2).1
            exact hij ((List.getElem?_inj hil hn).1 (by rw [h1, h2]))
          rw [hm] at hi
          cases hes : es[i]? with
          | none => rw [hes] at hi; cases hi
          | some e =>
            rw [hes] at hi
            simp only [Option.map_some, Option.some.injEq] at hi
            simp [hij, hy, hi]
    · refine ⟨fun e he => ?_, ?_⟩
      · obtain ⟨i, hi⟩ := List.getElem?_of_mem he
        rw [List.getElem?_modify] at hi
        cases hes : es[i]? with
        | none => rw [hes] at hi; cases hi
        | some e0 =>
          have := hg.1 e0 (List.mem_of_getElem? hes)
          rw [hes] at hi
          by_cases hij : j = i
          · simp [hij] at hi
            subst hi
            exact ⟨rfl, rfl, this.2.2⟩
          · simp [hij] at hi
            subst hi
            exact this
      · have : (es.modify j fun e => { e with key := .int .i64 t, val := .int .i64 k }).map (·.born) = es.map (·.born) := by
          refine List.ext_getElem? fun i => ?_
          rw [List.getElem?_map, List.getElem?_map, List.getElem?_modify]
          cases es[i]? with
          | none => rfl
          | some e => by_cases hij : j = i <;> simp [hij]
        rw [this]
        exact hg.2

theorem put_keys {m : List (Int × Int)} (t k : Int) (hn : (m.map (·.1)).Nodup) : ((putL m t k).map (·.1)).Nodup := by
  unfold putL
  split
  · have : (m.map (fun y => if y.1 = t then (t, k) else y)).map (·.1) = m.map (·.1) := by
      rw [List.map_map]
      refine List.map_congr_left fun y _ => ?_
      simp only [Function.comp]
      split
      · rename_i h; exact h.symm
      · rfl
    rw [this]
    exact hn
  · rename_i h
    rw [List.map_append, List.nodup_append]
    refine ⟨hn, by simp, fun a ha b hb => ?_⟩
    simp at hb
    subst hb
    rintro rfl
    obtain ⟨y, hy, e⟩ := List.mem_map.1 ha
    exact h (List.any_eq_true.2 ⟨y, hy, by simp [e]⟩)

theorem lasts_keys (l : List En) : ((lasts l).map (·.1)).Nodup := by
  unfold lasts
  have key : ∀ (l : List En) (m : List (Int × Int)), (m.map (·.1)).Nodup → ((l.foldl (fun m x => if bearing x.k then putL m x.t x.k else m) m).map (·.1)).Nodup := by
    intro l
    induction l with
    | nil => intro m h; exact h
    | cons x l ih =>
      intro m h
      rw [List.foldl_cons]
      refine ih _ ?_
      split
      · exact put_keys _ _ h
      · exact h
  exact key l [] (by simp)

theorem lasts_snoc (l : List En) (x : En) : lasts (l ++ [x]) = if bearing x.k then putL (lasts l) x.t x.k else lasts l := by
  unfold lasts
  rw [List.foldl_append]
  rfl

/-! Going over a map, whatever the order. -/

theorem left_snoc (s : MIS) (b : Nat) : MIS.left { s with seen := s.seen ++ [b] } = s.left.filter fun e => e.born != b := by
  unfold MIS.left
  rw [List.filter_filter]
  refine List.filter_congr fun e _ => ?_
  by_cases h : e.born = b
  · simp [h]
  · by_cases h2 : e.born ∈ s.seen <;> simp [h, h2]

theorem count_less {p : MapEntry → Bool} : ∀ {l : List MapEntry} {e : MapEntry}, (l.map (·.born)).Nodup → e ∈ l → l.countP p = (l.filter fun x => x.born != e.born).countP p + (if p e then 1 else 0)
  | x :: l, e, hn, he => by
    simp only [List.map_cons, List.nodup_cons] at hn
    rcases List.mem_cons.1 he with rfl | he
    · have : l.filter (fun y => y.born != e.born) = l := by
        rw [List.filter_eq_self]
        intro y hy
        simp only [bne_iff_ne, ne_eq]
        intro h
        exact hn.1 (h ▸ List.mem_map.2 ⟨y, hy, rfl⟩)
      rw [List.filter_cons_of_neg (by simp), this, List.countP_cons]
    · have hne : x.born ≠ e.born := fun h => hn.1 (h ▸ List.mem_map.2 ⟨e, he, rfl⟩)
      rw [List.filter_cons_of_pos (by simp [hne]), List.countP_cons, List.countP_cons, count_less hn.2 he]
      omega

theorem left_nodup {s : MIS} (h : (s.es.map (·.born)).Nodup) : (s.left.map (·.born)).Nodup := by
  unfold MIS.left
  exact List.Nodup.sublist (List.Sublist.map _ List.filter_sublist) h

theorem left_lt {s : MIS} {e : MapEntry} (he : e ∈ s.left) : (s.left.filter fun x => x.born != e.born).length < s.left.length :=
  List.length_filter_lt_length_iff_exists.2 ⟨e, he, by simp⟩

end Ox
end Go.Proofs.Ytekhadlpcdjlpaa
