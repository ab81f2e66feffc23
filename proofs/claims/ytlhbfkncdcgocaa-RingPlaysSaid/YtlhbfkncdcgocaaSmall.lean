/- Strings within what a row reads are no longer than the row's reach. -/
import Derived.Test.YtlhbfkncdcgocaaRead
import Derived.SizedLaws
namespace Go.Proofs.Ytlhbfkncdcgocaa
open Go.RowKit
namespace Sh
set_option linter.unusedVariables false
set_option linter.unusedSimpArgs false

def Small : (s : Sh) → s.Val → Prop
  | int _, _ => True
  | bool, _ => True
  | str, s => ByteArray.size s ≤ reachBytes
  | row e, l => ∀ (i : Nat) (x : e.Val), nth (α := e.Val) l i = some x → Small e x
  | unit, _ => True
  | pair a b, (x, y) => Small a x ∧ Small b y

section
variable {H : Type} {enc : TypeId × Value → H} {P : Program} {w : World} {base : Nat} {spare : Nat → Bool} {held : Bool}

theorem reads_len : (s : Sh) → (v : s.Val) → (cs : List Value) → Reads w s v cs → cs.length = s.size
  | int _, _, _, h => by rw [h.1]; rfl
  | bool, _, _, h => by have h' : _ = _ := h; rw [h']; rfl
  | str, _, _, h => by rw [h.1]; rfl
  | row _, _, _, h => by obtain ⟨_, _, h, _⟩ := h; rw [h]; rfl
  | unit, _, _, h => by have h' : _ = _ := h; rw [h']; rfl
  | pair a b, (x, y), _, h => by
    obtain ⟨c1, c2, h, h1, h2⟩ := h
    rw [h, List.length_append, reads_len a x c1 h1, reads_len b y c2 h2]
    rfl

def SGoal (enc : TypeId × Value → H) (P : Program) (w : World) (base : Nat) (spare : Nat → Bool) (held : Bool) (s : Sh) : TypeId ⊕ (List Field × Nat) → Prop
  | .inl t => ∀ fuel cs x (v : s.Val), DataW.trod enc P w base spare held fuel t cs = some x → Reads w s v cs → (∀ m ∈ x.1.weights P t, m ≤ reachBytes) → Small s v
  | .inr (fs, off) => ∀ n (full : List Value) (xs : List (DataW H × List MemPlace)) (v : s.Val), xs.length = fs.length →
      (∀ (i : Nat) f, fs[i]? = some f → DataW.trod enc P w base spare held n f.type ((full.drop f.offset).take (P.cellsOf f.type)) = xs[i]?) → Reads w s v (full.drop off) →
      (∀ m ∈ DataW.weightsEach P (fs.map (·.type)) (xs.map (·.1)), m ≤ reachBytes) → Small s v

theorem sgoal_pair {a b : Sh} {f : Field} {fs : List Field} {off : Nat} (ho : f.offset = off) (hs : P.cellsOf f.type = a.size)
    (ha : SGoal enc P w base spare held a (.inl f.type)) (hb : SGoal enc P w base spare held b (.inr (fs, off + a.size))) :
    SGoal enc P w base spare held (.pair a b) (.inr (f :: fs, off)) := by
  intro n full xs v hl hf hr hw
  obtain ⟨x, y⟩ := v
  obtain ⟨c1, c2, hc, h1, h2⟩ := hr
  have hlen := reads_len _ _ _ h1
  cases xs with
  | nil => simp at hl
  | cons x0 xs =>
    have h0 := hf 0 f rfl
    rw [ho, hs, hc, ← hlen, List.take_left] at h0
    simp only [List.map_cons, DataW.weightsEach, List.mem_append] at hw
    refine ⟨ha n c1 x0 x (by simpa using h0) h1 (fun m hm => hw m (.inl hm)), hb n full xs y (by simpa using hl) (fun i g hg => by simpa using hf (i + 1) g (by simpa using hg)) ?_ (fun m hm => hw m (.inr hm))⟩
    rw [← List.drop_drop, hc, ← hlen, List.drop_left]
    exact h2

theorem all_mem {e : TypeId} : ∀ {l : List (DataW H)} {i : Nat} {d : DataW H}, l[i]? = some d → ∀ m ∈ d.weights P e, m ∈ DataW.weightsAll P e l
  | d0 :: l, 0, d, h, m, hm => by
    simp only [List.getElem?_cons_zero, Option.some.injEq] at h
    subst h
    simp only [DataW.weightsAll, List.mem_append]
    exact .inl hm
  | d0 :: l, i + 1, d, h, m, hm => by
    simp only [List.getElem?_cons_succ] at h
    simp only [DataW.weightsAll, List.mem_append]
    exact .inr (all_mem h m hm)
  | [], _, _, h, _, _ => by simp at h

theorem small_of : (s : Sh) → (q : TypeId ⊕ (List Field × Nat)) → fits P s q = true → SGoal enc P w base spare held s q := by
  intro s
  induction s with
  | int k =>
    intro q hf
    cases q with
    | inl t => intro fuel cs x v _ _ _; trivial
    | inr q => simp [fits] at hf
  | bool =>
    intro q hf
    cases q with
    | inl t => intro fuel cs x v _ _ _; trivial
    | inr q => simp [fits] at hf
  | str =>
    intro q hf
    cases q with
    | inr q => simp [fits] at hf
    | inl t =>
      simp only [fits] at hf
      split at hf
      · rename_i ht
        intro fuel cs x v hx hr hw
        obtain ⟨n, rfl, rfl, _⟩ := DataW.trod_string ht hx
        obtain ⟨h1, _⟩ := hr
        injection h1 with h1 _
        injection h1 with h1
        subst h1
        have := hw n.data.toList.length (by simp [DataW.weights])
        show ByteArray.size n ≤ reachBytes
        simpa using this
      · cases hf
  | unit =>
    intro q hf
    cases q with
    | inl q => simp [fits] at hf
    | inr q =>
      obtain ⟨fs, off⟩ := q
      intro n full xs v _ _ _ _
      trivial
  | row e ih =>
    intro q hf
    cases q with
    | inr q => simp [fits] at hf
    | inl t =>
      simp only [fits] at hf
      split at hf
      · rename_i te ht
        simp only [Bool.and_eq_true, beq_iff_eq, Nat.blt_eq] at hf
        obtain ⟨⟨hs, hp⟩, hfe⟩ := hf
        have ih := ih (.inl te) hfe
        intro fuel cs x v hx hr hw i z hz
        obtain ⟨a, cap, hcs, hl, hm, hn, hr⟩ := hr
        rcases hr with hr | ⟨b, o, rfl, hr⟩
        · rw [hr] at hz; simp [nth] at hz
        obtain ⟨r, h1, h2, h3⟩ := hr i z hz
        rcases DataW.trod_slice ht hx with ⟨h, _⟩ | ⟨a, len, cap', elems, rest, n, _, h, rfl, _, _, _, hlen, hel, _, _⟩
        · rw [hcs] at h; simp at h
        rw [hcs] at h
        simp only [List.cons.injEq, Value.slice.injEq, Option.some.injEq, and_true] at h
        obtain ⟨rfl, hlv, _⟩ := h
        have hil : i < len := by
          have := (List.getElem?_eq_some_iff.1 hz).1
          omega
        have h4 := hel i hil
        rw [show elems[i]? = some elems[i] from by simp] at h4
        obtain ⟨r', hr', hr2⟩ := Option.bind_eq_some_iff.1 h4
        obtain ⟨_, hcl, hc⟩ := World.cells?_some hr'
        have hrr : r' = r := by
          apply List.ext_getElem?
          intro j
          by_cases hj : j < P.cellsOf te
          · have h5 := hc j hj
            have hjr : j < r.length := by omega
            have h6 := h3 j r[j] (by simp [hjr])
            rw [addr_add_add, Go.WideShapes.add_plain, hs, ← Nat.add_assoc] at h5
            rw [h6] at h5
            rw [← h5]; simp [hjr]
          · rw [List.getElem?_eq_none (by omega), List.getElem?_eq_none (by omega)]
        subst hrr
        refine ih n r' _ z hr2 h1 (fun m hm => hw m ?_)
        simp only [DataW.weights, ht, List.mem_cons, List.mem_append]
        exact .inr (.inl (all_mem (i := i) (d := elems[i].1) (by rw [List.getElem?_map, show elems[i]? = some elems[i] from by simp]; rfl) m hm))
      · cases hf
  | pair a b iha ihb =>
    intro q hf
    cases q with
    | inr q =>
      obtain ⟨fs, off⟩ := q
      cases fs with
      | nil => simp [fits] at hf
      | cons f fs =>
        simp only [fits, Bool.and_eq_true, beq_iff_eq] at hf
        obtain ⟨⟨⟨h1, h2⟩, h3⟩, h4⟩ := hf
        exact sgoal_pair h1 h2 (iha _ h3) (ihb _ h4)
    | inl t =>
      simp only [fits] at hf
      split at hf
      · rename_i fs ht
        simp only [Bool.and_eq_true, beq_iff_eq] at hf
        obtain ⟨hsz, hf⟩ := hf
        split at hf
        · rename_i f rest hfs
          simp only [Bool.and_eq_true, beq_iff_eq] at hf
          obtain ⟨⟨⟨h1, h2⟩, h3⟩, h4⟩ := hf
          have hg := sgoal_pair (enc := enc) (w := w) (base := base) (spare := spare) (held := held) h1 h2 (iha _ h3) (by rw [Nat.zero_add]; exact ihb _ h4)
          intro fuel cs x v hx hr hw
          obtain ⟨xs, n, _, rfl, hcl, hxs, hall⟩ := DataW.trod_struct ht hx
          refine hg n cs xs v (by rw [hxs, ← hfs]; simp) (fun i g hgm => hall i g (by rw [← Array.getElem?_toList, hfs]; exact hgm)) (by simpa using hr) (fun m hm => hw m ?_)
          simp only [DataW.weights, ht, hfs]
          exact hm
        · cases hf
      · cases hf

/-- Of an argument. -/
theorem arg_small {s : Sh} {t : TypeId} (hf : fits P (.row s) (.inl t) = true) {v : Value} {d : DataW H} {ps : List MemPlace} (h : DataW.Trod enc P w base spare held t v d ps) {l : List s.Val} (ha : Arg w (.row s) l v)
    (hw : ∀ m ∈ d.weights P t, m ≤ reachBytes) : ∀ x ∈ l, Small s x := by
  obtain ⟨fuel, hx⟩ := h
  have ha' : Reads w (.row s) l [v] := ha
  have hv : v.cells.toList = [v] := by
    obtain ⟨a, cap, hv, _⟩ := ha'
    simp only [List.cons.injEq, and_true] at hv
    subst hv
    rfl
  have := small_of (enc := enc) (w := w) (base := base) (spare := spare) (held := held) (.row s) (.inl t) hf fuel _ _ l hx (by rw [hv]; exact ha') hw
  intro x hm
  obtain ⟨i, hi⟩ := List.getElem?_of_mem hm
  exact this i x hi
end
end Sh
end Go.Proofs.Ytlhbfkncdcgocaa
