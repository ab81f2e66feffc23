/- Writing operations and calls beside a block that is made at the same time. -/
import Derived.Test.YtekhadlpcdjlpaaAbs12
namespace Go.Proofs.Ytekhadlpcdjlpaa
namespace Abs
open Go
set_option linter.unusedVariables false
set_option linter.unusedSimpArgs false

section
variable {P : Program} {ρ : Ren} {t : T} {h h' : AH} {w : World} {L : Nat → Bool}

theorem AOK.set (ok : AOK h) {b : Nat} {k : ABlk} (hk : k ≠ .hole) (hs : k.scp (live h)) : AOK (h.set b k) := by
  intro c l hc
  refine ABlk.scp_mono (live_set hk) ?_
  rcases get_set hc with ⟨rfl, rfl⟩ | ⟨_, hc⟩
  · exact hs
  · exact ok c l hc

theorem AOK.push (ok : AOK h) {k : ABlk} (hs : k.scp (live h)) : AOK (h ++ [k]) := by
  intro c l hc
  refine ABlk.scp_mono (fun b hb => live_push b hb) ?_
  by_cases hl : c < h.length
  · rw [List.getElem?_append_left hl] at hc
    exact ok c l hc
  · rw [List.getElem?_append_right (by omega)] at hc
    have := List.mem_of_getElem? hc
    simp at this
    subst this
    exact hs

theorem wrCells_inv {b o : Nat} {l : List Value} (hw : wrCells h b o l = some h') : ∃ vs e opn, h[b]? = some (.cells vs e opn) ∧ o + l.length ≤ vs.length ∧ h' = h.set b (.cells (splice vs o l) e opn) := by
  unfold wrCells at hw
  split at hw
  case h_2 => cases hw
  rename_i vs e opn hb
  split at hw
  case isFalse => cases hw
  rename_i hc
  injection hw with hw
  exact ⟨vs, e, opn, hb, hc.1, hw.symm⟩

theorem wrCells_ok (ok : AOK h) {b o : Nat} {l : List Value} (hs : scpL (live h) l = true) (hw : wrCells h b o l = some h') : AOK h' ∧ live h' = live h ∧ h'.length = h.length := by
  obtain ⟨vs, e, opn, hb, hle, rfl⟩ := wrCells_inv hw
  refine ⟨ok.set (by simp) (fun v hv => ?_), live_upd hb (by simp) (by simp), by simp⟩
  rcases splice_mem hle hv with hv | hv
  · exact ok b _ hb v hv
  · exact scpL_iff.1 hs v hv

theorem newsOf_scp (ok : AOK h) {es m : Nat} {x : Operand} {news : List Value} (hn : newsOf t h es x = some (m, news)) : scpL (live h) news = true := by
  unfold newsOf at hn
  split at hn
  · injection hn with hn
    injection hn with _ q
    subst q
    rfl
  · split at hn
    case h_2 => cases hn
    rename_i l hl
    split at hn
    case isFalse => cases hn
    injection hn with hn
    injection hn with _ q
    subst q
    exact rdCells_scp ok hl
  · cases hn

/-- What a writing operation leaves. -/
structure LOK (h : AH) (v : Value) (h' : AH) : Prop where
  ok : AOK h'
  val : scp (live h') v = true
  lives : ∀ b, live h b = true → live h' b = true
  len : h.length ≤ h'.length

theorem evL_ok (ok : AOK h) (tk : TOK (live h) t) {ao : AOp} {v : Value} (hv : evL t h ao = some (v, h')) : LOK h v h' := by
  cases ao <;> try (simp only [evL] at hv; cases hv; done)
  case st n x y =>
    simp only [evL, evSt] at hv
    split at hv
    case h_2 => cases hv
    rename_i b off z hx hy
    split at hv
    case isFalse => cases hv
    split at hv
    case h_2 => cases hv
    rename_i h2 hw
    injection hv with hv
    injection hv with q1 q2
    subst q1 q2
    obtain ⟨g1, g2, g3⟩ := wrCells_ok ok (scp_cells (evalO_scp tk hy)) hw
    exact ⟨g1, rfl, fun b hb => by rw [g2]; exact hb, by omega⟩
  case clear zero x =>
    simp only [evL, evClr] at hv
    split at hv
    case h_2 => cases hv
    rename_i ad n c z hx
    split at hv
    · injection hv with hv
      injection hv with q1 q2
      subst q1 q2
      exact ⟨ok, rfl, fun b hb => hb, Nat.le_refl _⟩
    · split at hv
      case h_2 => cases hv
      rename_i b off
      split at hv
      case isFalse => cases hv
      rename_i hz
      split at hv
      case h_2 => cases hv
      rename_i h2 hw
      injection hv with hv
      injection hv with q1 q2
      subst q1 q2
      obtain ⟨g1, g2, g3⟩ := wrCells_ok ok (scpL_iff.2 fun u hu => by rw [List.eq_of_mem_replicate hu]; exact scp_mono (fun b hb => by cases hb) z hz) hw
      exact ⟨g1, rfl, fun b hb => by rw [g2]; exact hb, by omega⟩
  case mupd str m k x =>
    simp only [evL, evMupd] at hv
    split at hv
    case h_2 => cases hv
    rename_i b kv vv hm hkv hvv
    split at hv
    case h_2 => cases hv
    rename_i es c hes
    split at hv
    case h_2 => cases hv
    rename_i es' c' hp
    injection hv with hv
    injection hv with q1 q2
    subst q1 q2
    have hb : h[b]? = some (.map es c) := by
      unfold mapAt at hes
      split at hes
      · rename_i es0 c0 hb; injection hes with hes; injection hes with e1 e2; subst e1 e2; exact hb
      · cases hes
    have hl : live (h.set b (.map es' c')) = live h := live_upd hb (by simp) (by simp)
    exact ⟨ok.set (by simp) (mapPut_scp hp (evalO_scp tk hkv) (evalO_scp tk hvv) (ok b _ hb)), rfl, fun c hc => by rw [hl]; exact hc, by simp⟩
  case del str m k =>
    simp only [evL, evDel] at hv
    split at hv
    case h_2 => cases hv
    rename_i b kv hm hkv
    split at hv
    case h_2 => cases hv
    rename_i es c hes
    split at hv
    case h_2 => cases hv
    rename_i es' hp
    injection hv with hv
    injection hv with q1 q2
    subst q1 q2
    have hb : h[b]? = some (.map es c) := by
      unfold mapAt at hes
      split at hes
      · rename_i es0 c0 hb; injection hes with hes; injection hes with e1 e2; subst e1 e2; exact hb
      · cases hes
    have hl : live (h.set b (.map es' c)) = live h := live_upd hb (by simp) (by simp)
    exact ⟨ok.set (by simp) (mapDel_scp hp (ok b _ hb)), rfl, fun c hc => by rw [hl]; exact hc, by simp⟩
  case app e es bytes s x =>
    simp only [evL, evApp] at hv
    split at hv
    · rename_i m news hs hn
      have hsc := newsOf_scp ok hn
      split at hv
      · injection hv with hv
        injection hv with q1 q2
        subst q1 q2
        exact ⟨ok, rfl, fun b hb => hb, Nat.le_refl _⟩
      · split at hv
        case isFalse => cases hv
        injection hv with hv
        injection hv with q1 q2
        subst q1 q2
        exact ⟨ok.push (scpL_iff.1 hsc), push_live (by simp), fun b hb => live_push b hb, by simp⟩
    · rename_i b off len cap m news hs hn
      have hsc := newsOf_scp ok hn
      have hb : live h b = true := by simpa [scp] using evalO_scp tk hs
      split at hv
      · split at hv
        case isFalse => cases hv
        injection hv with hv
        injection hv with q1 q2
        subst q1 q2
        exact ⟨ok, by simpa [scp] using hb, fun b hb => hb, Nat.le_refl _⟩
      split at hv
      · split at hv
        case h_2 => cases hv
        rename_i h2 hw
        injection hv with hv
        injection hv with q1 q2
        subst q1 q2
        obtain ⟨g1, g2, g3⟩ := wrCells_ok ok hsc hw
        exact ⟨g1, by rw [g2]; simpa [scp] using hb, fun b hb => by rw [g2]; exact hb, by omega⟩
      · split at hv
        case isFalse => cases hv
        split at hv
        · split at hv
          case h_2 => cases hv
          rename_i olds hol
          injection hv with hv
          injection hv with q1 q2
          subst q1 q2
          exact ⟨ok.push (scpL_iff.1 (by rw [scpL_append, rdCells_scp ok hol, hsc]; rfl)), push_live (by simp), fun b hb => live_push b hb, by simp⟩
        · split at hv
          case h_2 => cases hv
          rename_i vs e' es' hbb
          split at hv
          case isFalse => cases hv
          injection hv with hv
          injection hv with q1 q2
          subst q1 q2
          have ok0 : AOK (h.set b .dead) := ok.set (by simp) trivial
          have hl0 : live (h.set b .dead) = live h := live_upd hbb (by simp) (by simp)
          refine ⟨ok0.push (scpL_iff.1 ?_), ?_, fun c hc => live_push c (by rw [hl0]; exact hc), by simp⟩
          · rw [hl0, scpL_append, hsc, Bool.and_true]
            exact scpL_iff.2 fun v hv => ok b _ hbb v (List.mem_of_mem_drop (List.mem_of_mem_take hv))
          · have : (h.set b ABlk.dead).length = h.length := by simp
            simp only [scp]
            rw [← this]
            exact push_live (by simp)
    · rename_i b off d cap m news hs hn
      have hsc := newsOf_scp ok hn
      have hb : live h b = true := by simpa [scp] using evalO_scp tk hs
      split at hv
      · injection hv with hv
        injection hv with q1 q2
        subst q1 q2
        exact ⟨ok, by simpa [scp] using hb, fun b hb => hb, Nat.le_refl _⟩
      · split at hv
        case isFalse => cases hv
        split at hv
        case h_2 => cases hv
        rename_i vs e' es' hbb
        split at hv
        case isFalse => cases hv
        injection hv with hv
        injection hv with q1 q2
        subst q1 q2
        have ok0 : AOK (h.set b .dead) := ok.set (by simp) trivial
        have hl0 : live (h.set b .dead) = live h := live_upd hbb (by simp) (by simp)
        refine ⟨ok0.push (scpL_iff.1 ?_), ?_, fun c hc => live_push c (by rw [hl0]; exact hc), by simp⟩
        · rw [hl0, hsc]
        · have : (h.set b ABlk.dead).length = h.length := by simp
          simp only [scp]
          rw [← this]
          exact push_live (by simp)
    · cases hv

theorem rdRow_fill {n : Nat} {k : ABlk} (hn : h[n]? = some .hole) {b : Nat} {vs : List Value} (hb : rdRow h b = some vs) : rdRow (h.set n k) b = some vs := by
  have hne : n ≠ b := by
    rintro rfl
    unfold rdRow at hb
    rw [hn] at hb
    cases hb
  unfold rdRow at *
  rw [List.getElem?_set_ne hne]
  exact hb

theorem rdCells_fill {n : Nat} {k : ABlk} (hn : h[n]? = some .hole) {b o m : Nat} {l : List Value} (hl : rdCells h b o m = some l) : rdCells (h.set n k) b o m = some l := by
  unfold rdCells at *
  split at hl
  case h_2 => cases hl
  rename_i vs hb
  rw [rdRow_fill hn hb]
  exact hl

theorem mapAt_fill {n : Nat} {k : ABlk} (hn : h[n]? = some .hole) {b : Nat} {x : List MapEntry × Nat} (hb : mapAt h b = some x) : mapAt (h.set n k) b = some x := by
  have hne : n ≠ b := by
    rintro rfl
    unfold mapAt at hb
    rw [hn] at hb
    cases hb
  unfold mapAt at *
  rw [List.getElem?_set_ne hne]
  exact hb

theorem evR_fill {n : Nat} {k : ABlk} (hn : h[n]? = some .hole) {ao : AOp} {v : Value} (hv : evR t h ao = some v) : evR t (h.set n k) ao = some v := by
  cases ao <;> try (simp only [evR] at hv; cases hv; done)
  case ld ag x =>
    cases ag with
    | none =>
      simp only [evR] at hv ⊢
      split at hv
      · split at hv
        · rename_i vs hb; simp only [rdRow_fill hn hb]; exact hv
        · cases hv
      · cases hv
    | some m =>
      simp only [evR] at hv ⊢
      split at hv
      · split at hv
        · rename_i l hl; simp only [rdCells_fill hn hl]; exact hv
        · cases hv
      · cases hv
  case look str z m kk ok =>
    simp only [evR] at hv ⊢
    split at hv
    · exact hv
    · split at hv
      · rename_i es c hes; simp only [mapAt_fill hn hes]; exact hv
      · cases hv
    · cases hv
  case mlen x =>
    simp only [evR] at hv ⊢
    split at hv
    · exact hv
    · split at hv
      · rename_i es c hes; simp only [mapAt_fill hn hes]; exact hv
      · cases hv
    · cases hv

theorem wrCells_fill {n : Nat} {k : ABlk} (hn : h[n]? = some .hole) {b o : Nat} {l : List Value} (hw : wrCells h b o l = some h') : wrCells (h.set n k) b o l = some (h'.set n k) ∧ h'[n]? = some .hole := by
  obtain ⟨vs, e, opn, hb, hle, hh⟩ := wrCells_inv hw
  have hne : n ≠ b := by
    rintro rfl
    rw [hn] at hb
    cases hb
  subst hh
  refine ⟨?_, by rw [List.getElem?_set_ne (fun e => hne e.symm)]; exact hn⟩
  unfold wrCells at hw ⊢
  rw [hb] at hw
  rw [List.getElem?_set_ne hne, hb]
  simp only at hw ⊢
  split at hw
  · rename_i hc
    rw [if_pos hc]
    congr 1
    exact List.set_comm _ _ hne
  · cases hw

theorem set_append {n : Nat} {k : ABlk} {l : AH} (hn : n < h.length) : (h.set n k) ++ l = (h ++ l).set n k := by
  rw [List.set_append_left _ _ hn]

theorem newsOf_fill {n : Nat} {k : ABlk} (hn : h[n]? = some .hole) {es : Nat} {x : Operand} {r : Nat × List Value} (hr : newsOf t h es x = some r) : newsOf t (h.set n k) es x = some r := by
  unfold newsOf at *
  split at hr
  · exact hr
  · split at hr
    case h_2 => cases hr
    rename_i l hl
    simp only [rdCells_fill hn hl]
    exact hr
  · cases hr

theorem evL_fill {n : Nat} {kb : ABlk} (hn : h[n]? = some .hole) {ao : AOp} {v : Value} (hv : evL t h ao = some (v, h')) : evL t (h.set n kb) ao = some (v, h'.set n kb) ∧ h'[n]? = some .hole := by
  have hlt : n < h.length := (List.getElem?_eq_some_iff.1 hn).1
  cases ao <;> try (simp only [evL] at hv; cases hv; done)
  case st m x y =>
    simp only [evL, evSt] at hv ⊢
    split at hv
    case h_2 => cases hv
    rename_i b off z hx hy
    split at hv
    case isFalse => cases hv
    rename_i hsz
    split at hv
    case h_2 => cases hv
    rename_i h2 hw
    injection hv with hv
    injection hv with q1 q2
    subst q1 q2
    obtain ⟨g1, g2⟩ := wrCells_fill hn hw
    simp only [hx, hy, if_pos hsz]
    rw [g1]
    exact ⟨rfl, g2⟩
  case clear zero x =>
    simp only [evL, evClr] at hv ⊢
    split at hv
    case h_2 => cases hv
    rename_i ad m c z hx
    split at hv
    · rename_i hm
      injection hv with hv
      injection hv with q1 q2
      subst q1 q2

      rw [if_pos hm]
      exact ⟨rfl, hn⟩
    · rename_i hm
      rw [if_neg hm]
      split at hv
      case h_2 => cases hv
      rename_i b off
      split at hv
      case isFalse => cases hv
      rename_i hz
      split at hv
      case h_2 => cases hv
      rename_i h2 hw
      injection hv with hv
      injection hv with q1 q2
      subst q1 q2
      obtain ⟨g1, g2⟩ := wrCells_fill hn hw
      simp only [if_pos hz]
      rw [g1]
      exact ⟨rfl, g2⟩
  case mupd str m k x =>
    simp only [evL, evMupd] at hv ⊢
    split at hv
    case h_2 => cases hv
    rename_i b kv vv hm hkv hvv
    split at hv
    case h_2 => cases hv
    rename_i es c hes
    split at hv
    case h_2 => cases hv
    rename_i es' c' hp
    injection hv with hv
    injection hv with q1 q2
    subst q1 q2
    have hb : h[b]? = some (.map es c) := by
      unfold mapAt at hes
      split at hes
      · rename_i es0 c0 hb; injection hes with hes; injection hes with e1 e2; subst e1 e2; exact hb
      · cases hes
    have hne : n ≠ b := by
      rintro rfl
      rw [hn] at hb
      cases hb
    have hes' : mapAt (h.set n kb) b = some (es, c) := by
      unfold mapAt
      rw [List.getElem?_set_ne hne, hb]
    simp only [hm, hkv, hvv, hes', hp]
    exact ⟨by rw [List.set_comm _ _ hne], by rw [List.getElem?_set_ne (fun e => hne e.symm)]; exact hn⟩
  case del str m k =>
    simp only [evL, evDel] at hv ⊢
    split at hv
    case h_2 => cases hv
    rename_i b kv hm hkv
    split at hv
    case h_2 => cases hv
    rename_i es c hes
    split at hv
    case h_2 => cases hv
    rename_i es' hp
    injection hv with hv
    injection hv with q1 q2
    subst q1 q2
    have hb : h[b]? = some (.map es c) := by
      unfold mapAt at hes
      split at hes
      · rename_i es0 c0 hb; injection hes with hes; injection hes with e1 e2; subst e1 e2; exact hb
      · cases hes
    have hne : n ≠ b := by
      rintro rfl
      rw [hn] at hb
      cases hb
    have hes' : mapAt (h.set n kb) b = some (es, c) := by
      unfold mapAt
      rw [List.getElem?_set_ne hne, hb]
    simp only [hm, hkv, hes', hp]
    exact ⟨by rw [List.set_comm _ _ hne], by rw [List.getElem?_set_ne (fun e => hne e.symm)]; exact hn⟩
  case app e es bytes s x =>
    simp only [evL, evApp] at hv ⊢
    split at hv
    · rename_i m news hs hnw
      simp only [hs, newsOf_fill hn hnw, List.length_set]
      split at hv
      · rename_i hm
        injection hv with hv
        injection hv with q1 q2
        subst q1 q2
        rw [if_pos hm]
        exact ⟨rfl, hn⟩
      · rename_i hm
        rw [if_neg hm]
        split at hv
        case isFalse => cases hv
        rename_i hf
        rw [if_pos hf]
        injection hv with hv
        injection hv with q1 q2
        subst q1 q2
        rw [set_append hlt, List.getElem?_append_left hlt]
        exact ⟨rfl, hn⟩
    · rename_i b off len cap m news hs hnw
      simp only [hs, newsOf_fill hn hnw, List.length_set]
      split at hv
      · rename_i hm
        rw [if_pos hm]
        split at hv
        case isFalse => cases hv
        rename_i hlc
        injection hv with hv
        injection hv with q1 q2
        subst q1 q2
        rw [if_pos hlc]
        exact ⟨rfl, hn⟩
      rename_i hm
      rw [if_neg hm]
      split at hv
      · rename_i hroom
        rw [if_pos hroom]
        split at hv
        case h_2 => cases hv
        rename_i h2 hw
        injection hv with hv
        injection hv with q1 q2
        subst q1 q2
        obtain ⟨g1, g2⟩ := wrCells_fill hn hw
        rw [g1]
        exact ⟨rfl, g2⟩
      · rename_i hroom
        rw [if_neg hroom]
        split at hv
        case isFalse => cases hv
        rename_i hf
        rw [if_pos hf]
        split at hv
        · rename_i hcap
          rw [if_pos hcap]
          split at hv
          case h_2 => cases hv
          rename_i olds hol
          injection hv with hv
          injection hv with q1 q2
          subst q1 q2
          simp only [rdCells_fill hn hol]
          rw [set_append hlt, List.getElem?_append_left hlt]
          exact ⟨rfl, hn⟩
        · rename_i hcap
          rw [if_neg hcap]
          split at hv
          case h_2 => cases hv
          rename_i vs e' es' hbb
          split at hv
          case isFalse => cases hv
          rename_i hcond
          injection hv with hv
          injection hv with q1 q2
          subst q1 q2
          have hne : n ≠ b := by
            rintro rfl
            rw [hn] at hbb
            cases hbb
          rw [List.getElem?_set_ne hne, hbb]
          simp only [if_pos hcond]
          refine ⟨?_, by rw [List.getElem?_append_left (by simpa using hlt), List.getElem?_set_ne (fun e => hne e.symm)]; exact hn⟩
          rw [List.set_comm _ _ hne, set_append (by simpa using hlt)]
    · rename_i b off d cap m news hs hnw
      simp only [hs, newsOf_fill hn hnw, List.length_set]
      split at hv
      · rename_i hm
        rw [if_pos hm]
        injection hv with hv
        injection hv with q1 q2
        subst q1 q2
        exact ⟨rfl, hn⟩
      · rename_i hm
        rw [if_neg hm]
        split at hv
        case isFalse => cases hv
        rename_i hf
        rw [if_pos hf]
        split at hv
        case h_2 => cases hv
        rename_i vs e' es' hbb
        split at hv
        case isFalse => cases hv
        rename_i hcond
        injection hv with hv
        injection hv with q1 q2
        subst q1 q2
        have hne : n ≠ b := by
          rintro rfl
          rw [hn] at hbb
          cases hbb
        rw [List.getElem?_set_ne hne, hbb]
        simp only [if_pos hcond]
        refine ⟨?_, by rw [List.getElem?_append_left (by simpa using hlt), List.getElem?_set_ne (fun e => hne e.symm)]; exact hn⟩
        rw [List.set_comm _ _ hne, set_append (by simpa using hlt)]
    · cases hv

/-- A call leaves all in scope. -/
theorem AC.ok {f : FuncId} {args : List Value} {Post : Value → AH → Prop} (hc : AC P f args h Post) : AC P f args h (fun v h' => Post v h' ∧ LOK h v h') :=
  ⟨hc.1, fun ρ w us r hs ha => (hc.2 ρ w us r hs ha).mono fun e w' ⟨v, u, h', ρ', h1, h2, h3, h4, h5, h6⟩ =>
    ⟨v, u, h', ρ', h1, h2, ⟨h3, h4.ok, h2.1, fun b hb => h5.lives b (live_lt hb) hb, h6⟩, h4, h5, h6⟩⟩

theorem live_fill {n : Nat} {k : ABlk} (hn : h[n]? = some .hole) (hk : k ≠ .hole) (b : Nat) : live (h.set n k) b = true ↔ b = n ∨ live h b = true := by
  constructor
  · intro hb
    by_cases e : b = n
    · exact .inl e
    · right
      unfold live at *
      rw [List.getElem?_set_ne (fun x => e x.symm)] at hb
      exact hb
  · rintro (rfl | hb)
    · exact live_of (List.getElem?_set_self (List.getElem?_eq_some_iff.1 hn).1) hk
    · exact live_set hk b hb

/-- A call beside a block that it does not know. -/
theorem AC.fill {f : FuncId} {args : List Value} {Post : Value → AH → Prop} (hc : AC P f args h Post) {n : Nat} {k : ABlk} (hn : h[n]? = some .hole) (hk : k ≠ .hole) (ok : AOK h) (ha : scpL (live h) args = true) (hp : ∀ v h', Post v h' → h'[n]? = some .hole) :
    AC P f args (h.set n k) (fun v h'' => ∃ h', Post v h' ∧ h'' = h'.set n k) := by
  refine ⟨hc.1, fun ρ w us r hs hus => ?_⟩
  have hnl : ∀ b, live h b = true → b ≠ n := by
    rintro b hb rfl
    unfold live at hb
    rw [hn] at hb
    cases hb
  have hlt : n < h.length := (List.getElem?_eq_some_iff.1 hn).1
  have old : ∀ (b : Nat) (l : ABlk), h[b]? = some l → b ≠ n → (h.set n k)[b]? = some l := fun b l hb hne => by rw [List.getElem?_set_ne (fun e => hne e.symm)]; exact hb
  have hkn : (h.set n k)[n]? = some k := List.getElem?_set_self hlt
  have r0 : Rel ρ h w := by
    refine ⟨fun b l hb => ?_, ok, fun b c l o hb hc hne x hx => ?_⟩
    · by_cases e : b = n
      · subst e
        rw [hn] at hb
        injection hb with hb
        subst hb
        trivial
      · exact r.holds b l (old b l hb e)
    · by_cases e : b = n
      · subst e
        rw [hn] at hb
        injection hb with hb
        subst hb
        cases hx
      · by_cases e' : c = n
        · subst e'
          rw [hn] at hc
          injection hc with hc
          subst hc
          intro h; cases h
        · exact r.apart b c l o (old b l hb e) (old c o hc e') hne x hx
  refine (hc.2 ρ w us r0 hs fun i v hv => ?_).mono ?_
  · obtain ⟨u, h1, h2⟩ := hus i v hv
    exact ⟨u, h1, scpL_iff.1 ha v (List.mem_of_getElem? hv), h2.2⟩
  · rintro e w' ⟨v, u, h', ρ', he, vr, hpost, r', nx, hlen⟩
    have hn' := hp v h' hpost
    have hal : ∀ b, (upd ρ' n (ρ n) b).al = (ρ' b).al := fun b => by
      by_cases e : b = n
      · subst e; rw [upd_self]; exact (nx.ext b hlt).symm
      · exact upd_al b e
    have hρn : upd ρ' n (ρ n) n = ρ n := upd_self _ _ _
    have hρo : ∀ b, b ≠ n → upd ρ' n (ρ n) b = ρ' b := fun b hb => upd_ne b hb
    have lives : ∀ b, live (h.set n k) b = true → live (h'.set n k) b = true := by
      intro b hb
      rcases (live_fill hn hk b).1 hb with rfl | hb
      · exact (live_fill hn' hk _).2 (.inl rfl)
      · exact (live_fill hn' hk b).2 (.inr (nx.lives b (live_lt hb) hb))
    have hρ : ∀ b, live (h.set n k) b = true → (upd ρ' n (ρ n) b).al = (ρ b).al := fun b hb => (hal b).trans (nx.ext b (by
      have := live_lt hb
      simpa using this))
    -- the block that the call does not know stays as it is
    have hfoot : ∀ (b : Nat) (l : ABlk), h[b]? = some l → ∀ x, x ∈ k.reach (ρ n) → x ∉ l.foot (ρ b) := by
      intro b l hb x hx hx'
      by_cases e : b = n
      · subst e
        rw [hn] at hb
        injection hb with hb
        subst hb
        cases hx'
      · exact r.apart b n l k (old b l hb e) hkn e x hx' hx
    have hkeep : ∀ x, x ∈ k.reach (ρ n) → w'.heap[x]? = w.heap[x]? := fun x hx => nx.keep x (r.reach_lt hkn x hx) (fun b l hb => hfoot b l hb x hx)
    have back : ∀ (b : Nat) (l : ABlk), (h'.set n k)[b]? = some l → (b = n ∧ l = k) ∨ (b ≠ n ∧ h'[b]? = some l) := fun b l hb => get_set hb
    have r'' : Rel (upd ρ' n (ρ n)) (h'.set n k) w' := by
      refine ⟨fun b l hb => ?_, fun b l hb => ?_, fun b c l o hb hc hne x hx => ?_⟩
      · rcases back b l hb with ⟨rfl, rfl⟩ | ⟨hbn, hb⟩
        · rw [hρn]
          exact ((r.holds b l hkn).keep hkeep).congr (r.scope b l hkn) hρ
        · rw [hρo b hbn]
          exact (r'.holds b l hb).congr (r'.scope b l hb) (fun c _ => hal c)
      · rcases back b l hb with ⟨rfl, rfl⟩ | ⟨_, hb⟩
        · exact ABlk.scp_mono lives (r.scope b l hkn)
        · exact ABlk.scp_mono (fun c hc => live_set hk c hc) (r'.scope b l hb)
      · rcases back b l hb with ⟨rfl, rfl⟩ | ⟨hbn, hb2⟩
        · rcases back c o hc with ⟨rfl, rfl⟩ | ⟨hcn, hc2⟩
          · exact absurd rfl hne
          · rw [hρn] at hx
            rw [hρo c hcn]
            intro hx'
            rcases nx.prow c o hc2 x hx' with hge | ⟨b0, k0, hb0, hx0⟩
            · have := r.reach_lt hkn x (foot_reach hx)
              omega
            · by_cases e : b0 = b
              · subst e
                rw [hn] at hb0
                injection hb0 with hb0
                subst hb0
                cases hx0
              · exact r.apart b b0 l k0 hkn (old b0 k0 hb0 e) (fun q => e q.symm) x hx hx0
        · rcases back c o hc with ⟨rfl, rfl⟩ | ⟨hcn, hc2⟩
          · rw [hρn]
            rw [hρo b hbn] at hx
            intro hx'
            rcases nx.prov b l hb2 x hx with hge | ⟨b0, k0, hb0, hx0⟩
            · have := r.reach_lt hkn x hx'
              omega
            · exact hfoot b0 k0 hb0 x hx' hx0
          · rw [hρo b hbn] at hx
            rw [hρo c hcn]
            exact r'.apart b c l o hb2 hc2 hne x hx
    refine ⟨v, u, h'.set n k, upd ρ' n (ρ n), he, ⟨scp_mono (fun b hb => live_set hk b hb) v vr.1, by rw [conc_congr (fun c _ => hal c) v vr.1]; exact vr.2⟩, ⟨h', hpost, rfl⟩, r'', ?_, by simpa using hlen⟩
    refine ⟨fun b hb => (hal b).trans (nx.ext b (by simpa using hb)), fun b _ hb => lives b hb, nx.os, nx.tape, nx.output, nx.size, fun x hx hx' => nx.keep x hx (fun b l hb hx'' => ?_), fun b l hb x hx => ?_, fun b l hb x hx => ?_⟩
    · by_cases e : b = n
      · subst e
        rw [hn] at hb
        injection hb with hb
        subst hb
        cases hx''
      · exact hx' b l (old b l hb e) hx''
    · rcases back b l hb with ⟨rfl, rfl⟩ | ⟨hbn, hb⟩
      · rw [hρn] at hx
        exact .inr ⟨b, l, hkn, hx⟩
      · rw [hρo b hbn] at hx
        rcases nx.prov b l hb x hx with hge | ⟨b0, k0, hb0, hx0⟩
        · exact .inl hge
        · refine .inr ⟨b0, k0, old b0 k0 hb0 ?_, hx0⟩
          rintro rfl
          rw [hn] at hb0
          injection hb0 with hb0
          subst hb0
          cases hx0
    · rcases back b l hb with ⟨rfl, rfl⟩ | ⟨hbn, hb⟩
      · rw [hρn] at hx
        exact .inr ⟨b, l, hkn, hx⟩
      · rw [hρo b hbn] at hx
        rcases nx.prow b l hb x hx with hge | ⟨b0, k0, hb0, hx0⟩
        · exact .inl hge
        · refine .inr ⟨b0, k0, old b0 k0 hb0 ?_, hx0⟩
          rintro rfl
          rw [hn] at hb0
          injection hb0 with hb0
          subst hb0
          cases hx0

end
end Abs
end Go.Proofs.Ytekhadlpcdjlpaa
