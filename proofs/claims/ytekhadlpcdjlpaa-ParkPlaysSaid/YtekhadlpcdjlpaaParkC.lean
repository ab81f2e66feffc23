/- The statement ParkPlays: each call of the program beside the answer's call. -/
import Derived.Test.YtekhadlpcdjlpaaParkB
namespace Go.Proofs.Ytekhadlpcdjlpaa
namespace ParkPlays
open Go.RowKit Park Ref11
set_option linter.unusedVariables false
set_option linter.unusedSimpArgs false

/-- What the program's call leaves. -/
def P1 (K : Pk) (w : World) (sl : List (Int × Int)) (bs : List Bool) (v : Value) (e : Ending) (w1 : World) : Prop :=
  e = .returned v ∧ K.W w1 sl bs ∧ ∃ S : List Nat, (∀ x, x ∈ S → x ∈ K.g :: K.cs) ∧ Mod S w w1
/-- What the answer's call leaves. -/
def R1 (K : Pk) (w : World) (lo sp ad : List Int) (bs : List Bool) (v : Value) (e : Ending) (w1 : World) : Prop :=
  e = .returned v ∧ K.R w1 lo sp ad bs ∧ ∃ S : List Nat, (∀ x, x ∈ S → K.ref x) ∧ Mod S w w1

theorem set_same {α : Type} {l : List α} {t : Nat} {x : α} (h : l[t]? = some x) : l.set t x = l := by
  apply List.ext_getElem?
  intro q
  by_cases hq : t = q
  · subst hq
    rw [List.getElem?_set_self (List.getElem?_eq_some_iff.1 h).1, h]
  · rw [List.getElem?_set_ne hq]
theorem nums_same {bs : List Bool} {t : Nat} (h : bs[t]? = some false) : (nums bs).set t 0 = nums bs := by
  have := nums_set bs t false
  rw [set_same h] at this
  exact this

/-- What the two calls answer with. -/
structure Two (K : Pk) (w : World) (lo sp ad : List Int) (bs : List Bool) (fp fr : Nat) (ap ar : Array Value) (r : Bool) (v : Int) (sl' : List (Int × Int)) (bs' : List Bool) (lo' sp' ad' : List Int) : Prop where
  num : num r = v
  prog : Calls Try.prog fp ap w (P1 K w sl' bs' (.bool r))
  ref : ∀ w1, K.R w1 lo sp ad bs → Calls Try.prog fr ar w1 (R1 K w1 lo' sp' ad' bs' (.int .i64 v))
  rel : Rel sl' bs' lo' sp' ad'
  n : sl'.length = K.n

section
variable {K : Pk} {w0 w w' w1 w2 : World} {sl sl' : List (Int × Int)} {bs bs' : List Bool} {lo sp ad lo' sp' ad' : List Int} {mid top : Nat}

/-- After both calls. -/
theorem Both.next (hs : Sep K w0.heap.size mid top) (h : Both K w0 w sl bs lo sp ad) {v v' : Value} {e e' : Ending} (h1 : P1 K w sl' bs' v e w1) (h2 : R1 K w1 lo' sp' ad' bs' v' e' w2) (hr : Rel sl' bs' lo' sp' ad') (hn : sl'.length = K.n) :
    Both K w0 w2 sl' bs' lo' sp' ad' ∧ w.heap.size ≤ w2.heap.size := by
  obtain ⟨_, hW, S, hS, m1⟩ := h1
  obtain ⟨_, hR, S', hS', m2⟩ := h2
  exact ⟨⟨W_ref hs hW m2 hS', hR, hr, hn, mod_ref hs (mod_prog hs h.mod m1 hS) m2 hS'⟩, Nat.le_trans m1.size m2.size⟩

theorem Both.mod0 (h : Both K w0 w sl bs lo sp ad) (m : Mod [] w w') : Both K w0 w' sl bs lo sp ad := ⟨h.st.mod0 m, h.rf.mod0 m, h.rel, h.n, h.mod.trans m⟩

/-- The operation's block lies above. -/
theorem op_known (hs : Sep K w0.heap.size mid top) (hm : mid ≤ top) {ob : Nat} (ho : top ≤ ob) {v1 v2 : Value} (h : Known [(⟨ob, 1, none⟩, v1), (⟨ob, 2, none⟩, v2)] w) {S : List Nat} (hS : ∀ x, x ∈ S → x ∈ K.g :: K.cs) (m : Mod S w w') : Known [(⟨ob, 1, none⟩, v1), (⟨ob, 2, none⟩, v2)] w' :=
  known_prog hs h m hS (fun x hx => by simp at hx; rcases hx with rfl | rfl <;> exact ho) hm

theorem Both.at_ (h : Both K w0 w sl bs lo sp ad) {t : Nat} (ht : t < K.n) : ∃ (l a : Int) (b : Bool) (s ra : Int), sl[t]? = some (l, a) ∧ bs[t]? = some b ∧ lo[t]? = some l ∧ sp[t]? = some s ∧ ad[t]? = some ra ∧ (nums bs)[t]? = some (num b) ∧ Same l a b s ra ∧ 0 ≤ l ∧ l < (K.spin : Int) := by
  have hn := h.n
  obtain ⟨x, hx⟩ : ∃ x, sl[t]? = some x := ⟨_, List.getElem?_eq_getElem (by omega)⟩
  obtain ⟨l, a⟩ := x
  obtain ⟨b, hb⟩ : ∃ b, bs[t]? = some b := ⟨_, List.getElem?_eq_getElem (by have := h.rel.len; omega)⟩
  obtain ⟨q1, s, ra, q2, q3, q4⟩ := h.rel.each t l a b hx hb
  have hl := h.st.looks t _ hx
  exact ⟨l, a, b, s, ra, hx, hb, q1, q2, q3, nums_get hb, q4, hl.1, hl.2⟩

theorem two_look (h : Both K w0 w sl bs lo sp ad) (t : Nat) (ht : t < K.n) (l s ra : Int) (b : Bool) (hl : sl[t]? = some (l, -1)) (hb : bs[t]? = some b) (h1 : lo[t]? = some l) (h2 : sp[t]? = some s) (h3 : ad[t]? = some ra) (h4 : (nums bs)[t]? = some (num b)) (hsame : Same l (-1) b s ra) (hl0 : 0 ≤ l) (hl1 : l < (K.spin : Int)) (A : Int) (hA : 0 ≤ A) (hsp : K.spin ≤ 1000) :
    ∃ (r : Bool) (v : Int) (sl' : List (Int × Int)) (lo' sp' ad' : List Int), Two K w lo sp ad bs 52 63 #[.pointer (some ⟨K.p, 0, none⟩), .int .i64 t, .int .i64 A] #[.pointer (some ⟨K.q, 0, none⟩), .int .i64 t, .int .i64 A] r v sl' bs lo' sp' ad' := by
  have hs : s = 0 ∧ b = false := by
    rcases hsame with q | q
    · exact ⟨q.2.1, q.2.2⟩
    · exact absurd rfl q.1
  obtain ⟨rfl, rfl⟩ := hs
  have hn := h.n
  by_cases hlt : l + 1 < (K.spin : Int)
  · refine ⟨false, 0, sl.set t (l + 1, -1), lo.set t (l + 1), sp, ad, rfl, ?_, ?_, ?_, by simp [hn]⟩
    · exact (Park.look_no h.st t (l, -1) hl A hlt).mono fun e w1 ⟨q1, q2, q3⟩ => ⟨q1, q2, [K.g], by simp, q3⟩
    · exact fun w1 hR => (Ref11.look_no hR t l h1 A hl0 hlt hsp).mono fun e w2 ⟨q1, q2, q3⟩ => ⟨q1, q2, [K.b1], by simp [Pk.ref], q3⟩
    · have := h.rel.put t (l + 1) (-1) false 0 ra (by omega) (.inl ⟨rfl, rfl, rfl⟩)
      rw [set_same hb, set_same h2, set_same h3] at this
      exact this
  · refine ⟨true, 1, sl.set t (0, A), lo.set t 0, sp.set t 1, ad.set t A, rfl, ?_, ?_, ?_, by simp [hn]⟩
    · exact (Park.look_yes h.st t (l, -1) hl A (by simp; omega)).mono fun e w1 ⟨q1, q2, q3⟩ => ⟨q1, q2, [K.g], by simp, q3⟩
    · refine fun w1 hR => (Ref11.look_yes hR t l 0 ra (num false) h1 h2 h3 h4 A hl0 (by omega) (by omega)).mono fun e w2 ⟨q1, q2, q3⟩ => ⟨q1, ?_, [K.b1, K.b2, K.b3, K.b4], by simp [Pk.ref], q3⟩
      rw [nums_same hb] at q2
      exact q2
    · have := h.rel.put t 0 A false 1 A (by omega) (.inr ⟨by omega, hA, rfl, rfl⟩)
      rw [set_same hb] at this
      exact this

theorem two_wake (h : Both K w0 w sl bs lo sp ad) (t : Nat) (ht : t < K.n) (l a s ra : Int) (b : Bool) (hl : sl[t]? = some (l, a)) (hb : bs[t]? = some b) (h1 : lo[t]? = some l) (h2 : sp[t]? = some s) (h3 : ad[t]? = some ra) (h4 : (nums bs)[t]? = some (num b)) (hsame : Same l a b s ra) :
    ∃ (r : Bool) (v : Int) (bs' : List Bool), Two K w lo sp ad bs 66 67 #[.pointer (some ⟨K.p, 0, none⟩), .int .i64 t] #[.pointer (some ⟨K.q, 0, none⟩), .int .i64 t] r v sl bs' lo sp ad := by
  have hn := h.n
  rcases hsame with ⟨rfl, rfl, rfl⟩ | ⟨q1, q2, rfl, rfl⟩
  · refine ⟨false, 0, bs, rfl, ?_, ?_, h.rel, hn⟩
    · exact (Park.wake_awake h.st t l hl).mono fun e w1 ⟨q1, q2⟩ => ⟨q1, q2 ▸ h.st, [], by simp, q2 ▸ Mod.refl _ _⟩
    · exact fun w1 hR => (Ref11.wake_no hR t l 0 ra _ h1 h2 h3 h4 (.inl rfl)).mono fun e w2 ⟨q1, q2⟩ => ⟨q1, q2 ▸ hR, [], by simp, q2 ▸ Mod.refl _ _⟩
  · cases b with
    | true =>
      refine ⟨false, 0, bs, rfl, ?_, ?_, h.rel, hn⟩
      · refine (Park.wake_asleep h.st t l ra hl q1 true hb).mono fun e w1 ⟨q1, q2, q3⟩ => ⟨q1, ?_, K.cs, fun x hx => List.mem_cons_of_mem _ hx, q3⟩
        rw [set_same hb] at q2
        exact q2
      · exact fun w1 hR => (Ref11.wake_no hR t l 1 ra _ h1 h2 h3 h4 (.inr rfl)).mono fun e w2 ⟨q1, q2⟩ => ⟨q1, q2 ▸ hR, [], by simp, q2 ▸ Mod.refl _ _⟩
    | false =>
      refine ⟨true, 1, bs.set t true, rfl, ?_, ?_, ?_, hn⟩
      · exact (Park.wake_asleep h.st t l ra hl q1 false hb).mono fun e w1 ⟨q1, q2, q3⟩ => ⟨q1, q2, K.cs, fun x hx => List.mem_cons_of_mem _ hx, q3⟩
      · refine fun w1 hR => (Ref11.wake_yes hR t l ra h1 h2 h3 h4).mono fun e w2 ⟨q1, q2, q3⟩ => ⟨q1, ?_, [K.b4], by simp [Pk.ref], q3⟩
        have e1 := nums_set bs t true
        rw [show num true = 1 from rfl] at e1
        rw [e1] at q2
        exact q2
      · have := h.rel.put t l ra true 1 ra (by omega) (.inr ⟨q1, q2, rfl, rfl⟩)
        rw [set_same hl, set_same h1, set_same h2, set_same h3] at this
        exact this

theorem two_resume (h : Both K w0 w sl bs lo sp ad) (t : Nat) (ht : t < K.n) (l a s ra : Int) (b : Bool) (hl : sl[t]? = some (l, a)) (hb : bs[t]? = some b) (h1 : lo[t]? = some l) (h2 : sp[t]? = some s) (h3 : ad[t]? = some ra) (h4 : (nums bs)[t]? = some (num b)) (hsame : Same l a b s ra) :
    ∃ (r : Bool) (v : Int) (sl' : List (Int × Int)) (bs' : List Bool) (lo' sp' : List Int), Two K w lo sp ad bs 55 68 #[.pointer (some ⟨K.p, 0, none⟩), .int .i64 t] #[.pointer (some ⟨K.q, 0, none⟩), .int .i64 t] r v sl' bs' lo' sp' ad := by
  have hn := h.n
  rcases hsame with ⟨rfl, rfl, rfl⟩ | ⟨q1, q2, rfl, rfl⟩
  · refine ⟨true, 1, sl, bs, lo, sp, rfl, ?_, ?_, h.rel, hn⟩
    · exact (Park.resume_awake h.st t l hl).mono fun e w1 ⟨q1, q2⟩ => ⟨q1, q2 ▸ h.st, [], by simp, q2 ▸ Mod.refl _ _⟩
    · exact fun w1 hR => (Ref11.resume_awake hR t h2).mono fun e w2 ⟨q1, q2⟩ => ⟨q1, q2 ▸ hR, [], by simp, q2 ▸ Mod.refl _ _⟩
  · cases b with
    | false =>
      refine ⟨false, 0, sl, bs, lo, sp, rfl, ?_, ?_, h.rel, hn⟩
      · exact (Park.resume_no h.st t l ra hl q1 hb).mono fun e w1 ⟨q1, q2, q3⟩ => ⟨q1, q2, K.cs, fun x hx => List.mem_cons_of_mem _ hx, q3⟩
      · exact fun w1 hR => (Ref11.resume_no hR t h2 h4).mono fun e w2 ⟨q1, q2⟩ => ⟨q1, q2 ▸ hR, [], by simp, q2 ▸ Mod.refl _ _⟩
    | true =>
      refine ⟨true, 1, sl.set t (0, -1), bs.set t false, lo.set t 0, sp.set t 0, rfl, ?_, ?_, ?_, by simp [hn]⟩
      · exact (Park.resume_yes h.st t l ra hl q1 hb).mono fun e w1 ⟨q1, q2, q3⟩ => ⟨q1, q2, K.g :: K.cs, fun x hx => hx, q3⟩
      · refine fun w1 hR => (Ref11.resume_yes hR t h2 h4 l h1 ra h3).mono fun e w2 ⟨q1, q2, q3⟩ => ⟨q1, ?_, [K.b1, K.b2, K.b4], by simp [Pk.ref], q3⟩
        have e1 := nums_set bs t false
        rw [show num false = 0 from rfl] at e1
        rw [e1] at q2
        exact q2
      · have := h.rel.put t 0 (-1) false 0 ra (by omega) (.inl ⟨rfl, rfl, rfl⟩)
        rw [set_same h3] at this
        exact this

/-- What both say of a thread after a call. -/
theorem two_parked (h : Both K w0 w sl bs lo sp ad) (t : Nat) (ht : t < K.n) : ∃ (v r l : Int) (b : Bool),
    Calls Try.prog 54 #[.pointer (some ⟨K.p, 0, none⟩), .int .i64 t] w (fun e w' => e = .returned (.tuple #[.int .i64 v, .bool b]) ∧ w = w') ∧
    Calls Try.prog 69 #[.pointer (some ⟨K.q, 0, none⟩), .int .i64 t] w (fun e w' => e = .returned (.int .i64 r) ∧ w = w') ∧
    (∀ w', K.W w' sl bs → Calls Try.prog 70 #[.pointer (some ⟨K.p, 0, none⟩), .int .i64 t] w' (fun e w2 => e = .returned (.int .i64 l) ∧ w' = w2)) ∧ lo[t]? = some l ∧ ((r = -1 ∧ v = 0 ∧ b = false) ∨ (∃ rn : Nat, r = rn ∧ v = rn ∧ b = true)) := by
  obtain ⟨l, a, b, s, ra, hl, hb, h1, h2, h3, h4, hsame, _, _⟩ := h.at_ ht
  rcases hsame with ⟨rfl, rfl, rfl⟩ | ⟨q1, q2, rfl, rfl⟩
  · exact ⟨0, -1, l, false, Park.parked_awake h.st t l hl, Ref11.parked_ h.rf t l 0 ra _ h1 h2 h3 h4 (-1) (if_pos (.inl rfl)).symm, fun w' hW => Park.looks_ hW t _ hl, h1, .inl ⟨rfl, rfl, rfl⟩⟩
  · cases b with
    | true => exact ⟨0, -1, l, false, Park.parked_asleep h.st t l ra hl q1 true hb, Ref11.parked_ h.rf t l 1 ra _ h1 h2 h3 h4 (-1) (if_pos (.inr rfl)).symm, fun w' hW => Park.looks_ hW t _ hl, h1, .inl ⟨rfl, rfl, rfl⟩⟩
    | false => exact ⟨ra, ra, l, true, Park.parked_asleep h.st t l ra hl q1 false hb, Ref11.parked_ h.rf t l 1 ra _ h1 h2 h3 h4 ra (by simp [num]), fun w' hW => Park.looks_ hW t _ hl, h1, .inr ⟨ra.toNat, by omega, by omega, rfl⟩⟩

/-- Moved. -/
theorem Both.moved (hs : Sep K w0.heap.size mid top) (h : Both K w0 w sl bs lo sp ad) (t : Nat) (ht : t < K.n) (l : Int) (b : Bool) (s ra : Int) (hl : sl[t]? = some (l, -1)) (hb : bs[t]? = some b) (h2 : sp[t]? = some s) (h3 : ad[t]? = some ra) (hsame : Same l (-1) b s ra) (hW : K.W w1 (sl.set t (0, -1)) bs) (m1 : Mod [K.g] w w1) (nq : Nat) :
    Both K w0 ((w1.drewN nq).setCell ⟨K.b1, t, none⟩ (.int .i64 0)) (sl.set t (0, -1)) bs (lo.set t 0) sp ad ∧ w.heap.size ≤ ((w1.drewN nq).setCell ⟨K.b1, t, none⟩ (.int .i64 0)).heap.size := by
  have md : Mod [] w1 (w1.drewN nq) := (Mod.refl _ _).drewN _
  have hR : K.R (w1.drewN nq) lo sp ad bs := (R_prog hs h.rf m1 (by simp)).mod0 md
  have m2 : Mod [K.b1] w1 ((w1.drewN nq).setCell ⟨K.b1, t, none⟩ (.int .i64 0)) := ((Mod.refl _ _).drewN _).setCell (by simp) _
  have hn := h.n
  refine ⟨⟨W_ref hs hW m2 (by simp [Pk.ref]), hR.set1 t 0, ?_, by simp [hn], mod_ref hs (mod_prog hs h.mod m1 (by simp)) m2 (by simp [Pk.ref])⟩, Nat.le_trans m1.size m2.size⟩
  have hq : s = 0 ∧ b = false := by
    rcases hsame with q | q
    · exact ⟨q.2.1, q.2.2⟩
    · exact absurd rfl q.1
  obtain ⟨rfl, rfl⟩ := hq
  have := h.rel.put t 0 (-1) false 0 ra (by omega) (.inl ⟨rfl, rfl, rfl⟩)
  rw [set_same hb, set_same h2, set_same h3] at this
  exact this
end
end ParkPlays
end Go.Proofs.Ytekhadlpcdjlpaa
