/- A region: two operations that may come in either order. -/
import Derived.Test.YtekhadlpcdjlpaaAbs14
namespace Go.Proofs.Ytekhadlpcdjlpaa
namespace Abs
open Go
set_option linter.unusedVariables false
set_option linter.unusedSimpArgs false

/-- May the second one of the two come first? -/
def compat (chk : Bool) (kj ki : Nat) : Bool :=
  kj == 0 || ki == 0 || (kj == 1 && (ki == 1 || ki == 2 || chk)) || (kj == 2 && ki == 2) || ((kj == 3 || kj == 4) && ki == 2)

section
variable {P : Program} {aos : Nat → AOper} {hn : Nat → Nat} {chk : Nat → Nat → Bool} {K : T → AH → Prop} {t : T} {h : AH}

theorem stepQ_put {x : AOper} {d : Option Tmp} {v u : Value} (hd : ∀ i, d = some i → i ∉ looks x) : stepQ P (t.put d v) x u ↔ stepQ P t x u := by
  obtain ⟨h1, h2⟩ := looks_put (t := t) (v := v) hd
  unfold stepQ
  rw [h2, evP_congr h1]

theorem stepQ_fun {x : AOper} {v u : Value} (h1 : stepQ P t x v) (h2 : stepQ P t x u) : v = u := by
  rcases h1 with ⟨a1, b1⟩ | ⟨a1, b1⟩ <;> rcases h2 with ⟨a2, b2⟩ | ⟨a2, b2⟩
  · rw [b1, b2]
  · rw [a1] at a2; cases a2
  · rw [a1] at a2; cases a2
  · rw [b1] at b2; injection b2

theorem LA_reads : ∀ (rem : List Nat) (D D' : Reads) (t : T) (h : AH), (∀ d ∈ D', d ∈ D) → LA P aos hn chk K rem D t h → LA P aos hn chk K rem D' t h := by
  intro rem
  induction rem with
  | nil => intro D D' t h _ hl; exact hl
  | cons i rem ih =>
    intro D D' t h hD hl
    have hok : ∀ {h'}, okD chk i D h' → okD chk i D' h' := fun ho d hd hc => ho d (hD d hd) hc
    unfold LA Stp at hl ⊢
    rcases hl with ⟨v, hv, hl⟩ | ⟨hw, hl⟩
    · exact .inl ⟨v, hv, ih _ _ _ _ hD hl⟩
    · refine .inr ⟨hw, ?_⟩
      rcases hl with ⟨v, hv, hl⟩ | ⟨v, k, hv, hh, hl⟩ | ⟨v, h', hv, ho, hl⟩ | ⟨f, args, hv, hc⟩
      · refine .inl ⟨v, hv, ih _ _ _ _ (fun d hd => ?_) hl⟩
        rcases List.mem_cons.1 hd with rfl | hd
        · exact List.mem_cons_self ..
        · exact List.mem_cons_of_mem _ (hD d hd)
      · exact .inr (.inl ⟨v, k, hv, hh, ih _ _ _ _ hD hl⟩)
      · exact .inr (.inr (.inl ⟨v, h', hv, hok ho, ih _ _ _ _ hD hl⟩))
      · exact .inr (.inr (.inr ⟨f, args, hv, hc.mono fun v h' ⟨h1, h2, h3⟩ => ⟨hok h1, h2, ih _ _ _ _ hD h3⟩⟩))

theorem LA_swap {i j : Nat} {r : List Nat} {D : Reads} {ops : Nat → Oper} (hoi : cOp P (ops i).op = some (aos i).op) (hoj : cOp P (ops j).op = some (aos j).op) (ap : ApartA (aos i) (aos j)) (hc : compat (chk i j) (kd (aos j).op) (kd (aos i).op) = true)
    (hne : kd (aos i).op = 2 → kd (aos j).op = 2 → hn i ≠ hn j) (hinj : ∀ x ∈ r, kd (aos x).op = 2 → kd (aos i).op = 2 → hn x ≠ hn i) (iv : Inv aos hn (j :: i :: r) D t h) (hl : LA P aos hn chk K (j :: i :: r) D t h) : LA P aos hn chk K (i :: j :: r) D t h := by
  obtain ⟨rel, tk, holes, reads⟩ := iv
  have ok : AOK h := let ⟨_, _, r⟩ := rel; r.ok
  have pc : ∀ (v u : Value), (t.put (aos j).dst v).put (aos i).dst u = (t.put (aos i).dst u).put (aos j).dst v := fun v u => (T.put_comm (fun d hd => ap.h2 d hd)).symm
  -- what i looks at is not what j leaves, and the other way round
  have li := fun (v : Value) => looks_put (t := t) (v := v) (d := (aos j).dst) (x := aos i) ap.h3
  have lj := fun (u : Value) => looks_put (t := t) (v := u) (d := (aos i).dst) (x := aos j) ap.h1
  have dj : ∀ u, (fun h => evR (t.put (aos i).dst u) h (aos j).op) = fun h => evR t h (aos j).op := fun u => funext fun h => evR_congr (lj u).1 h
  have di : ∀ v, (fun h => evR (t.put (aos j).dst v) h (aos i).op) = fun h => evR t h (aos i).op := fun v => funext fun h => evR_congr (li v).1 h
  unfold LA at hl ⊢
  rcases hl with ⟨v, hv, hl⟩ | ⟨hwj, ⟨v, hv, hl⟩ | ⟨v, k, hv, hh, hl⟩ | ⟨v, h1, hv, ho, hl⟩ | ⟨f, args, hv, hcall⟩⟩
  · -- j quiet
    unfold LA at hl
    rcases hl with ⟨u, hu, hl⟩ | ⟨hwi, ⟨u, hu, hl⟩ | ⟨u, k2, hu, hh2, hl⟩ | ⟨u, h2, hu, ho2, hl⟩ | ⟨f2, args2, hu, hcall2⟩⟩
    · refine .inl ⟨u, (stepQ_put ap.h3).1 hu, ?_⟩
      unfold LA
      exact .inl ⟨v, (stepQ_put ap.h1).2 hv, by rw [← pc]; exact hl⟩
    · rw [(li v).2] at hwi
      rw [evR_congr (li v).1] at hu
      refine .inr ⟨hwi, .inl ⟨u, hu, ?_⟩⟩
      unfold LA
      refine .inl ⟨v, (stepQ_put ap.h1).2 hv, ?_⟩
      rw [← pc, ← di v]
      exact hl
    · rw [(li v).2] at hwi
      rw [evF_congr (li v).1] at hu
      refine .inr ⟨hwi, .inr (.inl ⟨u, k2, hu, hh2, ?_⟩)⟩
      unfold LA
      exact .inl ⟨v, (stepQ_put ap.h1).2 hv, by rw [← pc]; exact hl⟩
    · rw [(li v).2] at hwi
      rw [evL_congr (li v).1] at hu
      refine .inr ⟨hwi, .inr (.inr (.inl ⟨u, h2, hu, ho2, ?_⟩))⟩
      unfold LA
      exact .inl ⟨v, (stepQ_put ap.h1).2 hv, by rw [← pc]; exact hl⟩
    · rw [(li v).2] at hwi
      rw [evC_congr (li v).1] at hu
      have hki := evC_kd hu
      refine .inr ⟨hwi, .inr (.inr (.inr ⟨f2, args2, hu, hcall2.mono fun u h' ⟨g1, g2, g3⟩ => ⟨g1, ?_, ?_⟩⟩))⟩
      · intro x hx h2
        rcases List.mem_cons.1 hx with rfl | hx
        · rw [h2, hki] at hc
          simp [compat] at hc
        · exact g2 x hx h2
      · unfold LA
        exact .inl ⟨v, (stepQ_put ap.h1).2 hv, by rw [← pc]; exact g3⟩
  · -- j reads
    have hkj := evR_kd hv
    unfold LA at hl
    rcases hl with ⟨u, hu, hl⟩ | ⟨hwi, ⟨u, hu, hl⟩ | ⟨u, k2, hu, hh2, hl⟩ | ⟨u, h2, hu, ho2, hl⟩ | ⟨f2, args2, hu, hcall2⟩⟩
    · refine .inl ⟨u, (stepQ_put ap.h3).1 hu, ?_⟩
      unfold LA
      refine .inr ⟨by rw [(lj u).2]; exact hwj, .inl ⟨v, by rw [evR_congr (lj u).1]; exact hv, ?_⟩⟩
      rw [← pc, dj u]
      exact hl
    · rw [(li v).2] at hwi
      rw [evR_congr (li v).1] at hu
      refine .inr ⟨hwi, .inl ⟨u, hu, ?_⟩⟩
      unfold LA
      refine .inr ⟨by rw [(lj u).2]; exact hwj, .inl ⟨v, by rw [evR_congr (lj u).1]; exact hv, ?_⟩⟩
      rw [← pc, dj u]
      refine LA_reads _ _ _ _ _ (fun d hd => ?_) hl
      rw [di v]
      simp only [List.mem_cons] at hd ⊢
      rcases hd with rfl | rfl | hd
      · exact .inr (.inl rfl)
      · exact .inl rfl
      · exact .inr (.inr hd)
    · rw [(li v).2] at hwi
      rw [evF_congr (li v).1] at hu
      refine .inr ⟨hwi, .inr (.inl ⟨u, k2, hu, hh2, ?_⟩)⟩
      unfold LA
      refine .inr ⟨by rw [(lj u).2]; exact hwj, .inl ⟨v, by rw [evR_congr (lj u).1]; exact evR_fill hh2 hv, ?_⟩⟩
      rw [← pc, dj u]
      exact hl
    · have hki := evL_kd hu
      have hchk : chk i j = true := by rw [hkj, hki] at hc; simpa [compat] using hc
      rw [(li v).2] at hwi
      rw [evL_congr (li v).1] at hu
      refine .inr ⟨hwi, .inr (.inr (.inl ⟨u, h2, hu, fun d hd => ho2 d (List.mem_cons_of_mem _ hd), ?_⟩))⟩
      unfold LA
      refine .inr ⟨by rw [(lj u).2]; exact hwj, .inl ⟨v, by rw [evR_congr (lj u).1]; exact ho2 _ (List.mem_cons_self ..) hchk, ?_⟩⟩
      rw [← pc, dj u]
      exact hl
    · have hki := evC_kd hu
      have hchk : chk i j = true := by rw [hkj, hki] at hc; simpa [compat] using hc
      rw [(li v).2] at hwi
      rw [evC_congr (li v).1] at hu
      refine .inr ⟨hwi, .inr (.inr (.inr ⟨f2, args2, hu, hcall2.mono fun u h' ⟨g1, g2, g3⟩ => ⟨fun d hd => g1 d (List.mem_cons_of_mem _ hd), ?_, ?_⟩⟩))⟩
      · intro x hx h2
        rcases List.mem_cons.1 hx with rfl | hx
        · rw [hkj] at h2; cases h2
        · exact g2 x hx h2
      · unfold LA
        refine .inr ⟨by rw [(lj u).2]; exact hwj, .inl ⟨v, by rw [evR_congr (lj u).1]; exact g1 _ (List.mem_cons_self ..) hchk, ?_⟩⟩
        rw [← pc, dj u]
        exact g3
  · -- j makes a block
    have hkj := evF_kd hv
    unfold LA at hl
    rcases hl with ⟨u, hu, hl⟩ | ⟨hwi, ⟨u, hu, hl⟩ | ⟨u, k2, hu, hh2, hl⟩ | ⟨u, h2, hu, ho2, hl⟩ | ⟨f2, args2, hu, hcall2⟩⟩
    · refine .inl ⟨u, (stepQ_put ap.h3).1 hu, ?_⟩
      unfold LA
      refine .inr ⟨by rw [(lj u).2]; exact hwj, .inr (.inl ⟨v, k, by rw [evF_congr (lj u).1]; exact hv, hh, ?_⟩)⟩
      rw [← pc]
      exact hl
    · exfalso; rw [hkj, evR_kd hu] at hc; simp [compat] at hc
    · have hki := evF_kd hu
      have hnij := hne hki hkj
      rw [(li v).2] at hwi
      rw [evF_congr (li v).1] at hu
      have hh3 : h[hn i]? = some .hole := by
        rw [List.getElem?_set_ne (fun e => hnij e.symm)] at hh2
        exact hh2
      refine .inr ⟨hwi, .inr (.inl ⟨u, k2, hu, hh3, ?_⟩)⟩
      unfold LA
      refine .inr ⟨by rw [(lj u).2]; exact hwj, .inr (.inl ⟨v, k, by rw [evF_congr (lj u).1]; exact hv, by rw [List.getElem?_set_ne hnij]; exact hh, ?_⟩)⟩
      rw [← pc, List.set_comm _ _ hnij]
      exact hl
    · exfalso; rw [hkj, evL_kd hu] at hc; simp [compat] at hc
    · exfalso; rw [hkj, evC_kd hu] at hc; simp [compat] at hc
  · -- j writes
    have hkj := evL_kd hv
    unfold LA at hl
    rcases hl with ⟨u, hu, hl⟩ | ⟨hwi, ⟨u, hu, hl⟩ | ⟨u, k2, hu, hh2, hl⟩ | ⟨u, h2, hu, ho2, hl⟩ | ⟨f2, args2, hu, hcall2⟩⟩
    · refine .inl ⟨u, (stepQ_put ap.h3).1 hu, ?_⟩
      unfold LA
      refine .inr ⟨by rw [(lj u).2]; exact hwj, .inr (.inr (.inl ⟨v, h1, by rw [evL_congr (lj u).1]; exact hv, ho, ?_⟩))⟩
      rw [← pc]
      exact hl
    · exfalso; rw [hkj, evR_kd hu] at hc; simp [compat] at hc
    · have hki := evF_kd hu
      rw [(li v).2] at hwi
      rw [evF_congr (li v).1] at hu
      have hh3 : h[hn i]? = some .hole := holes i (by simp) hki
      obtain ⟨g1, g2⟩ := evL_fill (kb := k2) hh3 hv
      refine .inr ⟨hwi, .inr (.inl ⟨u, k2, hu, hh3, ?_⟩)⟩
      unfold LA
      refine .inr ⟨by rw [(lj u).2]; exact hwj, .inr (.inr (.inl ⟨v, h1.set (hn i) k2, by rw [evL_congr (lj u).1]; exact g1, fun d hd hdc => reads d hd _ _ _ _ g2 (ho d hd hdc), ?_⟩))⟩
      rw [← pc]
      exact hl
    · exfalso; rw [hkj, evL_kd hu] at hc; simp [compat] at hc
    · exfalso; rw [hkj, evC_kd hu] at hc; simp [compat] at hc
  · -- j calls
    have hkj := evC_kd hv
    have hargs := evC_scp tk hv
    obtain ⟨v0, h0, _, _, hl0⟩ := hcall.outcome rel hargs
    unfold LA at hl0
    rcases hl0 with ⟨u, hu, _⟩ | ⟨hwi, ⟨u, hu, _⟩ | ⟨u, k2, hu, hh2, _⟩ | ⟨u, h2, hu, _, _⟩ | ⟨f2, args2, hu, _⟩⟩
    · have hu' := (stepQ_put ap.h3).1 hu
      refine .inl ⟨u, hu', ?_⟩
      unfold LA
      refine .inr ⟨by rw [(lj u).2]; exact hwj, .inr (.inr (.inr ⟨f, args, by rw [evC_congr (lj u).1]; exact hv, hcall.mono fun v h' ⟨g1, g2, g3⟩ => ⟨g1, fun x hx => g2 x (List.mem_cons_of_mem _ hx), ?_⟩⟩))⟩
      unfold LA at g3
      rcases g3 with ⟨u', hu2, hl⟩ | ⟨hwi, ⟨u', hu2, _⟩ | ⟨u', k2', hu2, _, _⟩ | ⟨u', h2', hu2, _, _⟩ | ⟨f2', args2', hu2, _⟩⟩
      · have := stepQ_fun ((stepQ_put ap.h3).1 hu2) hu'
        subst this
        rw [← pc]
        exact hl
      · exfalso; rw [(li v).2] at hwi
        rcases hu' with ⟨q, _⟩ | ⟨q, q2⟩
        · rw [q] at hwi; cases hwi
        · have := (evR_kd hu2).symm.trans (evP_kd q2); cases this
      · exfalso; rw [(li v).2] at hwi
        rcases hu' with ⟨q, _⟩ | ⟨q, q2⟩
        · rw [q] at hwi; cases hwi
        · have := (evF_kd hu2).symm.trans (evP_kd q2); cases this
      · exfalso; rw [(li v).2] at hwi
        rcases hu' with ⟨q, _⟩ | ⟨q, q2⟩
        · rw [q] at hwi; cases hwi
        · have := (evL_kd hu2).symm.trans (evP_kd q2); cases this
      · exfalso; rw [(li v).2] at hwi
        rcases hu' with ⟨q, _⟩ | ⟨q, q2⟩
        · rw [q] at hwi; cases hwi
        · have := (evC_kd hu2).symm.trans (evP_kd q2); cases this
    · exfalso; rw [hkj, evR_kd hu] at hc; simp [compat] at hc
    · have hki := evF_kd hu
      rw [(li v0).2] at hwi
      rw [evF_congr (li v0).1] at hu
      have hh3 : h[hn i]? = some .hole := holes i (by simp) hki
      have hk2 := evF_block hu
      refine .inr ⟨hwi, .inr (.inl ⟨u, k2, hu, hh3, ?_⟩)⟩
      unfold LA
      have hfill := hcall.fill hh3 hk2 ok hargs (fun v h' ⟨_, g2, _⟩ => g2 i (List.mem_cons_self ..) hki)
      refine .inr ⟨by rw [(lj u).2]; exact hwj, .inr (.inr (.inr ⟨f, args, by rw [evC_congr (lj u).1]; exact hv, hfill.mono fun v h'' ⟨h', ⟨g1, g2, g3⟩, he⟩ => ?_⟩))⟩
      subst he
      have hh' : h'[hn i]? = some .hole := g2 i (List.mem_cons_self ..) hki
      refine ⟨fun d hd hdc => reads d hd _ _ _ _ hh' (g1 d hd hdc), fun x hx h2 => ?_, ?_⟩
      · rw [List.getElem?_set_ne (fun e => hinj x hx h2 hki e.symm)]
        exact g2 x (List.mem_cons_of_mem _ hx) h2
      · unfold LA at g3
        rcases g3 with ⟨u', hu2, hl⟩ | ⟨hwi', ⟨u', hu2, _⟩ | ⟨u', k2', hu2, _, hl⟩ | ⟨u', h2', hu2, _, _⟩ | ⟨f2', args2', hu2, _⟩⟩
        · exfalso
          rcases (stepQ_put ap.h3).1 hu2 with ⟨q, _⟩ | ⟨q, q2⟩
          · rw [q] at hwi; cases hwi
          · have := (evP_kd q2).symm.trans hki; cases this
        · exfalso; have := (evR_kd hu2).symm.trans hki; cases this
        · rw [evF_congr (li v).1, hu] at hu2
          injection hu2 with hu2
          injection hu2 with q1 q2
          subst q1 q2
          rw [← pc]
          exact hl
        · exfalso; have := (evL_kd hu2).symm.trans hki; cases this
        · exfalso; have := (evC_kd hu2).symm.trans hki; cases this
    · exfalso; rw [hkj, evL_kd hu] at hc; simp [compat] at hc
    · exfalso; rw [hkj, evC_kd hu] at hc; simp [compat] at hc

/-- An operation that may come up ahead of all that stand before it comes to the front. -/
theorem LA_front {all : List Nat} {ops : Nat → Oper} (hops : ∀ i, i ∈ all → cOp P (ops i).op = some (aos i).op) (hinj : ∀ x ∈ all, ∀ y ∈ all, x ≠ y → kd (aos x).op = 2 → kd (aos y).op = 2 → hn x ≠ hn y) {i : Nat} : ∀ (rem : List Nat), (∀ x ∈ rem, x ∈ all) → rem.Nodup → i ∈ rem →
    (∀ l1 l2, rem = l1 ++ i :: l2 → ∀ j ∈ l1, ApartA (aos i) (aos j) ∧ compat (chk i j) (kd (aos j).op) (kd (aos i).op) = true) →
    ∀ (D : Reads) (t : T) (h : AH), Inv aos hn rem D t h → LA P aos hn chk K rem D t h → LA P aos hn chk K (i :: rem.erase i) D t h := by
  intro rem
  induction rem with
  | nil => intro _ _ h; cases h
  | cons j rem ih =>
    intro hall hnd hm hcomp D t h iv hl
    by_cases hji : j = i
    · subst hji
      simpa using hl
    · have hm' : i ∈ rem := by
        rcases List.mem_cons.1 hm with e | e
        · exact absurd e.symm hji
        · exact e
      have hnd' := (List.nodup_cons.1 hnd).2
      have hj := (List.nodup_cons.1 hnd).1
      obtain ⟨l1, l2, e⟩ := List.append_of_mem hm'
      obtain ⟨hap, hc⟩ := hcomp (j :: l1) l2 (by rw [e]; rfl) j (List.mem_cons_self ..)
      have hall' : ∀ x ∈ rem, x ∈ all := fun x hx => hall x (List.mem_cons_of_mem _ hx)
      have step := Stp.mono (k := LA P aos hn chk K rem) (k' := LA P aos hn chk K (i :: rem.erase i)) (rem' := i :: rem.erase i) (hops j (hall j (List.mem_cons_self ..)))
        (fun x hx => by
          by_cases ex : x = i
          · rw [ex]; exact List.mem_cons_self ..
          · exact List.mem_cons_of_mem _ ((List.mem_erase_of_ne ex).2 hx))
        (fun x hx => by
          rcases List.mem_cons.1 hx with rfl | hx
          · exact hm'
          · exact List.mem_of_mem_erase hx)
        (fun x hx h2 => by
          by_cases hk : kd (aos j).op = 2
          · left
            exact hinj x (hall' x hx) j (hall j (List.mem_cons_self ..)) (fun ex => hj (ex ▸ hx)) h2 hk
          · exact .inr hk)
        iv (fun D t h iv' hl' => ih hall' hnd' hm' (fun l1 l2 e' j' hj' => hcomp (j :: l1) l2 (by rw [e']; rfl) j' (List.mem_cons_of_mem _ hj')) D t h iv' hl') hl
      rw [List.erase_cons_tail (by simpa using hji)]
      refine LA_swap (hops i (hall i hm)) (hops j (hall j (List.mem_cons_self ..))) hap hc ?_ ?_ ⟨iv.rel, iv.tk, ?_, iv.reads⟩ step
      · intro h2 hj2
        exact hinj i (hall i hm) j (hall j (List.mem_cons_self ..)) (fun e => hji e.symm) h2 hj2
      · intro x hx h2 hi2
        have hxr : x ∈ rem := List.mem_of_mem_erase hx
        exact hinj x (hall' x hxr) i (hall i hm) (fun ex => by
          subst ex
          exact (List.Nodup.mem_erase_iff hnd').1 hx |>.1 rfl) h2 hi2
      · intro x hx h2
        refine iv.holes x ?_ h2
        simp only [List.mem_cons] at hx ⊢
        rcases hx with rfl | rfl | hx
        · exact .inl rfl
        · exact .inr hm'
        · exact .inr (List.mem_of_mem_erase hx)

end
end Abs
end Go.Proofs.Ytekhadlpcdjlpaa
