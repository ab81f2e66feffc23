/- More operations that neither read nor write: they are sound. -/
import Derived.Test.YtekhadlpcdjlpaaAbs4
namespace Go.Proofs.Ytekhadlpcdjlpaa
namespace Abs
open Go
set_option linter.unusedVariables false
set_option linter.unusedSimpArgs false

section
variable {P : Program} {ρ : Ren} {L : Nat → Bool} {t : T} {a : Act}

theorem s_idx {o : Oper} {ty : TypeId} {x i : Operand} {ao : AOp} {v : Value} (ho : o.op = .indexAddr ty x i) (hc : cIdx P ty x i = some ao) (tr : TRel ρ L t a) (hv : evP P t ao = some v) : ∃ u, VR ρ L v u ∧ Yields0 P a o u := by
  unfold cIdx at hc
  split at hc
  · rename_i e hu
    split at hc
    · rename_i n hn
      injection hc with hc
      subst hc
      simp only [evP] at hv
      split at hv
      · rename_i b off len cap j i hx hi
        split at hv
        · rename_i hb
          injection hv with hv
          subst hv
          have h1 := evalO_VR tr hx
          have e1 : a.eval x = .slice (some (cAddr ρ ⟨b, off, none⟩)) len (cCap ρ b cap) := h1.2
          have e2 := (evalO_VR tr hi).2
          simp only [conc] at e2
          refine ⟨.pointer (some ((cAddr ρ ⟨b, off, none⟩).add (i.toNat * n))), ⟨?_, ?_⟩, fun w => ?_⟩
          · have := h1.1
            simpa [scp] using this
          · simp [conc, cAddr_none, add_none, Nat.add_assoc]
          · unfold execOp
            simp only [ho, e1, e2]
            refine run_val ?_
            simp [Instr.indexAt, asIntOf, run_underlying hu, hb, run_sizeOf hn]
        · cases hv
      · cases hv
    · cases hc
  · rename_i len e hu
    split at hc
    · rename_i n hn
      injection hc with hc
      subst hc
      simp only [evP] at hv
      split at hv
      · rename_i b off j i hx hi
        split at hv
        · rename_i hb
          injection hv with hv
          subst hv
          have h1 := evalO_VR tr hx
          have e1 : a.eval x = .pointer (some (cAddr ρ ⟨b, off, none⟩)) := h1.2
          have e2 := (evalO_VR tr hi).2
          simp only [conc] at e2
          refine ⟨.pointer (some ((cAddr ρ ⟨b, off, none⟩).add (i.toNat * n))), ⟨?_, ?_⟩, fun w => ?_⟩
          · have := h1.1
            simpa [scp] using this
          · simp [conc, cAddr_none, add_none, Nat.add_assoc]
          · unfold execOp
            simp only [ho, e1, e2]
            refine run_val ?_
            simp [Instr.indexAt, asIntOf, run_underlying hu, hb, run_sizeOf hn, Instr.sureAddr]
        · cases hv
      · cases hv
    · cases hc
  · cases hc

theorem scpA_get {L : Nat → Bool} {cs : Array Value} {i : Nat} {v : Value} (h : scpA L cs = true) (hv : cs[i]? = some v) : scp L v = true := by
  rw [scpA_all, List.all_eq_true] at h
  exact h v (by have := Array.mem_of_getElem? hv; simpa using this)

theorem s_ext {o : Oper} {x : Operand} {n : Nat} {v : Value} (ho : o.op = .extract x n) (tr : TRel ρ L t a) (hv : evP P t (.ext n x) = some v) : ∃ u, VR ρ L v u ∧ Yields0 P a o u := by
  simp only [evP] at hv
  split at hv
  · rename_i vs hx
    have h1 := evalO_VR tr hx
    have e1 : a.eval x = .tuple (concA ρ vs) := h1.2
    refine ⟨conc ρ v, ⟨?_, rfl⟩, fun w => ?_⟩
    · have := h1.1
      simp only [scp] at this
      exact scpA_get this hv
    · unfold execOp
      simp only [ho, e1]
      refine run_val ?_
      simp [Instr.extract, concA_map, hv]
  · cases hv

theorem scpA_extract {L : Nat → Bool} {cs : Array Value} (i j : Nat) (h : scpA L cs = true) : scpA L (cs.extract i j) = true := by
  rw [scpA_all, List.all_eq_true] at h ⊢
  intro v hv
  refine h v ?_
  rw [Array.toList_extract] at hv
  exact List.mem_of_mem_drop (List.mem_of_mem_take hv)

theorem aggOf_run {ty : TypeId} {r : Option Nat} (h : aggOf P ty = some r) (w : World) : (isAgg ty).run P w = .ok r.isSome w ∧ ∀ n, r = some n → (sizeOf ty).run P w = .ok n w := by
  unfold aggOf at h
  split at h
  · rename_i fs i hu hi
    injection h with h
    subst h
    exact ⟨by simp [isAgg, run_underlying hu], fun n hn => by injection hn with hn; subst hn; simp [sizeOf, typeInfo, hi]⟩
  · rename_i k e i hu hi
    injection h with h
    subst h
    exact ⟨by simp [isAgg, run_underlying hu], fun n hn => by injection hn with hn; subst hn; simp [sizeOf, typeInfo, hi]⟩
  · rename_i d i hn1 hn2 hu hi
    injection h with h
    subst h
    refine ⟨?_, fun n hn => by cases hn⟩
    simp only [isAgg, Sem.run_bind, run_underlying hu, Result.andThen_ok]
    cases d <;> first | rfl | exact absurd rfl (hn1 _ _ rfl) | exact absurd rfl (hn2 _ _ _ rfl) | exact absurd hu (hn1 _ _ hu) | skip
    all_goals simp_all
  · cases h

theorem s_part {o : Oper} {s : TypeId} {f : Nat} {x : Operand} {ao : AOp} {v : Value} (ho : o.op = .field s x f) (hc : cPart P s x f = some ao) (tr : TRel ρ L t a) (hv : evP P t ao = some v) : ∃ u, VR ρ L v u ∧ Yields0 P a o u := by
  unfold cPart at hc
  split at hc
  · rename_i fl hf
    split at hc
    · rename_i r hr
      injection hc with hc
      subst hc
      unfold cField at hf
      split at hf
      · rename_i fs hu
        have hag := fun w => aggOf_run hr w
        cases r with
        | none =>
          simp only [evP] at hv
          split at hv
          · rename_i cs hx
            have h1 := evalO_VR tr hx
            have e1 : a.eval x = .agg (concA ρ cs) := h1.2
            refine ⟨conc ρ v, ⟨?_, rfl⟩, fun w => ?_⟩
            · have := h1.1
              simp only [scp] at this
              exact scpA_get this hv
            · unfold execOp
              simp only [ho, e1]
              refine run_val ?_
              simp [Instr.field, run_underlying hu, hf, asAgg, part, (hag w).1, concA_map, hv]
          · cases hv
        | some n =>
          simp only [evP] at hv
          split at hv
          · rename_i cs hx
            injection hv with hv
            subst hv
            have h1 := evalO_VR tr hx
            have e1 : a.eval x = .agg (concA ρ cs) := h1.2
            refine ⟨_, ⟨?_, rfl⟩, fun w => ?_⟩
            · have := h1.1
              simp only [scp] at this ⊢
              exact scpA_extract _ _ this
            · unfold execOp
              simp only [ho, e1]
              refine run_val ?_
              simp [Instr.field, run_underlying hu, hf, asAgg, part, (hag w).1, (hag w).2 n rfl, conc, concA_map]
          · cases hv
      · cases hf
    · cases hc
  · cases hc

theorem s_partI {o : Oper} {ty : TypeId} {x i : Operand} {ao : AOp} {v : Value} (ho : o.op = .index ty x i) (hc : cPartI P ty x i = some ao) (tr : TRel ρ L t a) (hv : evP P t ao = some v) : ∃ u, VR ρ L v u ∧ Yields0 P a o u := by
  unfold cPartI at hc
  split at hc
  · rename_i len e hu
    split at hc
    · rename_i hr
      split at hc
      · rename_i n hn
        injection hc with hc
        subst hc
        simp only [evP] at hv
        split at hv
        · rename_i cs j i hx hi
          split at hv
          · rename_i hb
            have h1 := evalO_VR tr hx
            have e1 : a.eval x = .agg (concA ρ cs) := h1.2
            have e2 := (evalO_VR tr hi).2
            simp only [conc] at e2
            have hag := fun w => aggOf_run hr w
            simp only [Bool.false_eq_true, if_false] at hv
            refine ⟨_, ⟨?_, rfl⟩, fun w => ?_⟩
            · have := h1.1
              simp only [scp] at this ⊢
              exact scpA_get this hv
            · unfold execOp
              simp only [ho, e1, e2]
              refine run_val ?_
              simp [Instr.index, asIntOf, run_underlying hu, hb, part, (hag w).1, run_sizeOf hn, conc, concA_map, hv]
          · cases hv
        · cases hv
      · cases hc
    · rename_i n hr
      injection hc with hc
      subst hc
      simp only [evP] at hv
      split at hv
      · rename_i cs j i hx hi
        split at hv
        · rename_i hb
          have h1 := evalO_VR tr hx
          have e1 : a.eval x = .agg (concA ρ cs) := h1.2
          have e2 := (evalO_VR tr hi).2
          simp only [conc] at e2
          have hag := fun w => aggOf_run hr w
          simp only [if_true] at hv
          injection hv with hv
          subst hv
          refine ⟨_, ⟨?_, rfl⟩, fun w => ?_⟩
          · have := h1.1
            simp only [scp] at this ⊢
            exact scpA_extract _ _ this
          · unfold execOp
            simp only [ho, e1, e2]
            refine run_val ?_
            simp [Instr.index, asIntOf, run_underlying hu, hb, part, (hag w).1, (hag w).2 n rfl, conc, concA_map]
        · cases hv
      · cases hv
    · cases hc
  · rename_i hu
    injection hc with hc
    subst hc
    simp only [evP] at hv
    split at hv
    · rename_i s j i hx hi
      split at hv
      · rename_i hb
        split at hv
        · rename_i b hs
          injection hv with hv
          subst hv
          have e1 := (evalO_VR tr hx).2
          have e2 := (evalO_VR tr hi).2
          simp only [conc] at e1 e2
          refine ⟨_, VR.plain rfl, fun w => ?_⟩
          unfold execOp
          simp only [ho, e1, e2]
          refine run_val ?_
          have hs2 : s[i.toNat]? = some b := by
            have hlt : i.toNat < s.data.size := (Array.getElem?_eq_some_iff.1 hs).1
            have := (Array.getElem?_eq_some_iff.1 hs).2
            rw [getElem?_pos s i.toNat hlt]
            exact congrArg some this
          simp [Instr.index, asIntOf, run_underlying hu, hb, hs2]
        · cases hv
      · cases hv
    · cases hv
  · cases hc


theorem optI_run {x : Option Operand} {r : Option Int} (tr : TRel ρ L t a) (h : optI t x = some r) : (x = none ∧ r = none) ∨ ∃ z j n, x = some z ∧ r = some n ∧ a.eval z = .int j n := by
  unfold optI at h
  split at h
  · injection h with h
    exact .inl ⟨rfl, h.symm⟩
  · rename_i z
    split at h
    · rename_i j n hz
      injection h with h
      exact .inr ⟨z, j, n, rfl, h.symm, (evalO_VR tr hz).2⟩
    · cases h

theorem sliceBound_run {j : IntKind} {i : Int} {y : Nat} {c : BoundsCode} (h : 0 ≤ i ∧ i ≤ y) (w : World) : (Instr.sliceBound (.int j i) y c).run P w = .ok i.toNat w := by
  simp [Instr.sliceBound, asIntOf, h]

theorem bnd_inv {v : Option Int} {d y r : Nat} (h : bnd v d y = some r) : (v = none ∧ r = d) ∨ ∃ z, v = some z ∧ (0 ≤ z ∧ z ≤ y) ∧ r = z.toNat := by
  unfold bnd at h
  split at h
  · split at h
    · rename_i z hz
      injection h with h
      exact .inr ⟨z, rfl, hz, h.symm⟩
    · cases h
  · injection h with h
    exact .inl ⟨rfl, h.symm⟩

theorem evBounds_inv {len cap : Nat} {lo hi mx : Option Int} {l h m : Nat} (hb : evBounds len cap lo hi mx = some (l, h, m)) : bnd mx cap cap = some m ∧ ¬ (hi = none ∧ mx ≠ none) ∧ bnd hi len m = some h ∧ bnd lo 0 h = some l := by
  unfold evBounds at hb
  split at hb
  · cases hb
  · rename_i m' hm
    split at hb
    · cases hb
    · rename_i hn
      split at hb
      · cases hb
      · rename_i h' hh
        split at hb
        · cases hb
        · rename_i l' hl
          injection hb with hb
          injection hb with q1 hb
          injection hb with q2 q3
          subst q1 q2 q3
          exact ⟨hm, hn, hh, hl⟩

theorem evBounds_le {len cap : Nat} {lo hi mx : Option Int} {l h m : Nat} (hb : evBounds len cap lo hi mx = some (l, h, m)) (hl : len ≤ cap) : l ≤ h ∧ h ≤ m ∧ m ≤ cap ∧ (mx = none → m = cap) := by
  obtain ⟨h1, hn, h2, h3⟩ := evBounds_inv hb
  rcases bnd_inv h1 with ⟨rfl, rfl⟩ | ⟨z1, rfl, q1, rfl⟩
  · rcases bnd_inv h2 with ⟨rfl, rfl⟩ | ⟨z2, rfl, q2, rfl⟩ <;> rcases bnd_inv h3 with ⟨rfl, rfl⟩ | ⟨z3, rfl, q3, rfl⟩ <;> simp <;> omega
  · rcases bnd_inv h2 with ⟨rfl, rfl⟩ | ⟨z2, rfl, q2, rfl⟩
    · exact absurd ⟨rfl, by simp⟩ hn
    · rcases bnd_inv h3 with ⟨rfl, rfl⟩ | ⟨z3, rfl, q3, rfl⟩ <;> simp <;> omega

theorem evBounds_m {len cap : Nat} {lo hi mx : Option Int} {l h m : Nat} (hb : evBounds len cap lo hi mx = some (l, h, m)) : m ≤ cap := by
  obtain ⟨g1, _⟩ := evBounds_inv hb
  rcases bnd_inv g1 with ⟨_, rfl⟩ | ⟨z, _, q, rfl⟩ <;> omega

theorem evBounds_more {len c c' : Nat} {lo hi : Option Int} {z : Int} {x : Nat × Nat × Nat} (hb : evBounds len c lo hi (some z) = some x) (hc : c ≤ c') : evBounds len c' lo hi (some z) = some x := by
  obtain ⟨l, h, m⟩ := x
  obtain ⟨g1, gn, g2, g3⟩ := evBounds_inv hb
  have g1' : bnd (some z) c' c' = some m := by
    rcases bnd_inv g1 with ⟨h, _⟩ | ⟨z, h, q, rfl⟩
    · cases h
    · injection h with h
      subst h
      simp only [bnd]
      rw [if_pos (by omega)]
  have : hi ≠ none := fun e => gn ⟨e, by simp⟩
  unfold evBounds
  simp [g1', g2, g3, this]

/-- The bounds in the model. -/
theorem bounds_run {isS : Bool} {len cap : Nat} {lo hi mx : Option Operand} {rl rh rm : Option Int} {l h m : Nat} (tr : TRel ρ L t a) (h1 : optI t lo = some rl) (h2 : optI t hi = some rh) (h3 : optI t mx = some rm)
    (hb : evBounds len cap rl rh rm = some (l, h, m)) (w : World) : (Instr.sliceBounds isS len cap (lo.map a.eval) (hi.map a.eval) (mx.map a.eval)).run P w = .ok (l, h, m) w := by
  obtain ⟨g1, hn, g2, g3⟩ := evBounds_inv hb
  rcases optI_run tr h3 with ⟨rfl, rfl⟩ | ⟨z3, j3, n3, rfl, rfl, e3⟩ <;> rcases bnd_inv g1 with ⟨u1, rfl⟩ | ⟨z1, u1, q1, rfl⟩ <;> (try cases u1) <;>
  rcases optI_run tr h2 with ⟨rfl, rfl⟩ | ⟨z2, j2, n2, rfl, rfl, e2⟩ <;> rcases bnd_inv g2 with ⟨u2, rfl⟩ | ⟨z1, u2, q2, rfl⟩ <;> (try cases u2) <;>
  rcases optI_run tr h1 with ⟨rfl, rfl⟩ | ⟨z1, j1, n1, rfl, rfl, e1⟩ <;> rcases bnd_inv g3 with ⟨u3, rfl⟩ | ⟨z1, u3, q3, rfl⟩ <;> (try cases u3)
  all_goals first
    | (simp [Instr.sliceBounds]; done)
    | (simp [Instr.sliceBounds, e1, sliceBound_run q3]; done)
    | (simp [Instr.sliceBounds, e2, sliceBound_run q2]; done)
    | (simp [Instr.sliceBounds, e1, e2, sliceBound_run q2, sliceBound_run q3]; done)
    | (simp [Instr.sliceBounds, e2, e3, sliceBound_run q1, sliceBound_run q2]; done)
    | (simp [Instr.sliceBounds, e1, e2, e3, sliceBound_run q1, sliceBound_run q2, sliceBound_run q3]; done)
    | (exfalso; apply hn; simp; done)

theorem sliceAt_slice {ty e : TypeId} {n : Nat} (hu : P.underlying ty = some (.slice e)) (hn : szOf P e = some n) {ad : Option Addr} {len cap : Nat} {lo hi mx : Option Value} {l h m : Nat} {w : World} (hb : (Instr.sliceBounds true len cap lo hi mx).run P w = .ok (l, h, m) w) :
    (Instr.sliceAt ty (.slice ad len cap) lo hi mx).run P w = .ok (.slice (if m = l then ad else ad.map (·.add (l * n))) (h - l) (m - l)) w := by
  simp [Instr.sliceAt, Instr.slice, run_underlying hu, hb, run_sizeOf hn]



theorem s_sub {o : Oper} {ty e : TypeId} {n : Nat} {x : Operand} {lo hi mx : Option Operand} {v : Value} (ho : o.op = .slice ty x lo hi mx) (hu : P.underlying ty = some (.slice e)) (hn : szOf P e = some n) (tr : TRel ρ L t a) (hv : evP P t (.sub n x lo hi mx) = some v) : ∃ u, VR ρ L v u ∧ Yields0 P a o u := by
  have run : ∀ {ad : Option Addr} {len cap l h m : Nat}, a.eval x = .slice ad len cap → (∀ w, (Instr.sliceBounds true len cap (lo.map a.eval) (hi.map a.eval) (mx.map a.eval)).run P w = .ok (l, h, m) w) → Yields0 P a o (.slice (if m = l then ad else ad.map (·.add (l * n))) (h - l) (m - l)) := by
    intro ad len cap l h m hx hb w
    unfold execOp
    simp only [ho, hx]
    exact run_val (sliceAt_slice hu hn (hb w))
  simp only [evP] at hv
  split at hv
  · rename_i b off len cap rl rh rm hx h1 h2 h3
    have vr := evalO_VR tr hx
    have hL : L b = true := by simpa [scp] using vr.1
    have e1 : a.eval x = .slice (some ⟨(ρ b).blk, (ρ b).off + off, none⟩) len (cCap ρ b cap) := vr.2
    split at hv
    · rename_i hcap
      split at hv
      · rename_i l h m hb
        injection hv with hv
        subst hv
        have hc : cCap ρ b cap = cap := by simp [cCap, hcap]
        rw [hc] at e1
        have hm : m ≤ cap := by
          obtain ⟨g1, _⟩ := evBounds_inv hb
          rcases bnd_inv g1 with ⟨_, rfl⟩ | ⟨z, _, q, rfl⟩ <;> omega
        refine ⟨_, ⟨by simpa [scp] using hL, ?_⟩, run e1 (fun w => bounds_run tr h1 h2 h3 hb w)⟩
        have hc2 : cCap ρ b (m - l) = m - l := by simp [cCap]; omega
        simp only [conc, hc2, cAddr_none]
        split
        · rfl
        · simp [add_none, Nat.add_assoc]
      · cases hv
    · rename_i hcap
      split at hv
      · rename_i hlen
        split at hv
        · rename_i rm' _
          split at hv
          · rename_i l h m hb
            injection hv with hv
            subst hv
            have hc : cCap ρ b cap = cap - OPEN + (ρ b).slack := by simp [cCap, hcap]
            have hle := evBounds_le hb (Nat.le_refl _)
            have hb' : evBounds len (cCap ρ b cap) rl rh none = some (l, h, cCap ρ b cap) := by
              obtain ⟨g1, gn, g2, g3⟩ := evBounds_inv hb
              have g1' : bnd none (cCap ρ b cap) (cCap ρ b cap) = some (cCap ρ b cap) := rfl
              have g2' : bnd rh len (cCap ρ b cap) = some h := by
                rcases bnd_inv g2 with ⟨rfl, rfl⟩ | ⟨z, rfl, q, rfl⟩
                · rfl
                · have : m = len := hle.2.2.2 rfl
                  simp only [bnd]
                  rw [if_pos (by omega)]
              unfold evBounds
              simp [g1', g2', g3]
            have hmx : mx = none := by
              rcases optI_run tr h3 with ⟨q, _⟩ | ⟨_, _, _, _, q, _⟩
              · exact q
              · cases q
            refine ⟨_, ⟨?_, ?_⟩, run e1 (fun w => bounds_run tr h1 h2 h3 hb' w)⟩
            · split <;> simpa [scp] using hL
            · have hc2 : cCap ρ b (cap - l) = cCap ρ b cap - l := by
                rw [hc]
                simp only [cCap]
                rw [if_neg (by omega)]
                omega
              have hm : m = len := hle.2.2.2 rfl
              by_cases hlt : l < cap - OPEN
              · have h5 : ¬ cCap ρ b cap = l := by omega
                simp only [if_pos hlt, if_neg h5, conc, hc2, cAddr_none, Option.map_some, add_none, Nat.add_assoc]
              · have k1 : ¬ (2 * (l * n)) % 2 = 1 := by omega
                have k2 : 2 * (l * n) / 2 = l * n := by omega
                by_cases hs : (ρ b).slack = 0
                · have h5 : cCap ρ b cap = l := by omega
                  simp only [if_neg hlt, if_pos h5, conc, hc2, cAddr, hs, k1, k2, ↓reduceIte, Nat.add_zero]
                · have h5 : ¬ cCap ρ b cap = l := by omega
                  simp only [if_neg hlt, if_neg h5, conc, hc2, cAddr, hs, k1, k2, ↓reduceIte, Option.map_some, add_none, Nat.add_assoc]
          · cases hv
        · rename_i rm' zm
          split at hv
          · rename_i l h m hb
            split at hv
            case isFalse => cases hv
            rename_i hmo
            injection hv with hv
            subst hv
            have hc : cCap ρ b cap = cap - OPEN + (ρ b).slack := by simp [cCap, hcap]
            have hm : m ≤ cap - OPEN := evBounds_m hb
            have hb' : evBounds len (cCap ρ b cap) rl rh (some zm) = some (l, h, m) := evBounds_more hb (by rw [hc]; exact Nat.le_add_right _ _)
            refine ⟨_, ⟨by simpa [scp] using hL, ?_⟩, run e1 (fun w => bounds_run tr h1 h2 h3 hb' w)⟩
            have hc2 : cCap ρ b (m - l) = m - l := by simp [cCap]; omega
            simp only [conc, hc2, cAddr_none]
            split
            · rfl
            · simp [add_none, Nat.add_assoc]
          · cases hv
      · cases hv
  · rename_i len cap rl rh rm hx h1 h2 h3
    have vr := evalO_VR tr hx
    have e1 : a.eval x = .slice none len cap := vr.2
    split at hv
    · split at hv
      · rename_i l h m hb
        injection hv with hv
        subst hv
        refine ⟨_, ⟨by simp [scp], ?_⟩, run e1 (fun w => bounds_run tr h1 h2 h3 hb w)⟩
        simp [conc]
      · cases hv
    · cases hv
  · rename_i b off d len cap rl rh rm hx h1 h2 h3
    have vr := evalO_VR tr hx
    split at hv
    case isFalse => cases hv
    rename_i hcap
    have e0 : ∀ k c, c < OPEN → conc ρ (.slice (some ⟨b, off, some d⟩) k c) = .slice (some (cAddr ρ ⟨b, off, some d⟩)) k c := fun k c hc => by simp [conc, cCap, hc]
    have e1 : a.eval x = .slice (some (cAddr ρ ⟨b, off, some d⟩)) len cap := vr.2.trans (e0 _ _ hcap)
    have hL : L b = true := by simpa [scp] using vr.1
    split at hv
    · rename_i l h m hb
      split at hv
      case isFalse => cases hv
      rename_i hl
      injection hv with hv
      subst hv
      subst hl
      have hm : m ≤ cap := by
        obtain ⟨g1, _⟩ := evBounds_inv hb
        rcases bnd_inv g1 with ⟨_, rfl⟩ | ⟨z, _, q, rfl⟩ <;> omega
      refine ⟨_, ⟨by simpa [scp] using hL, ?_⟩, run e1 (fun w => bounds_run tr h1 h2 h3 hb w)⟩
      rw [e0 _ _ (by omega)]
      split
      · simp
      · simp [Addr.add]
    · cases hv
  · cases hv


theorem s_subA {o : Oper} {ty e : TypeId} {len n : Nat} {x : Operand} {lo hi mx : Option Operand} {v : Value} (ho : o.op = .slice ty x lo hi mx) (hu : P.underlying ty = some (.array len e)) (hn : szOf P e = some n) (tr : TRel ρ L t a) (hv : evP P t (.subA len n x lo hi mx) = some v) : ∃ u, VR ρ L v u ∧ Yields0 P a o u := by
  simp only [evP] at hv
  split at hv
  · rename_i b off rl rh rm hx h1 h2 h3
    split at hv
    · rename_i hlen
      split at hv
      · rename_i l h m hb
        injection hv with hv
        subst hv
        have vr := evalO_VR tr hx
        have e1 : a.eval x = .pointer (some ⟨(ρ b).blk, (ρ b).off + off, none⟩) := vr.2
        have hm : m ≤ len := (evBounds_le hb (Nat.le_refl _)).2.2.1
        refine ⟨.slice (some (if m = l then ⟨(ρ b).blk, (ρ b).off + off, none⟩ else (⟨(ρ b).blk, (ρ b).off + off, none⟩ : Addr).add (l * n))) (h - l) (m - l), ⟨by simpa [scp] using vr.1, ?_⟩, fun w => ?_⟩
        · have hc2 : cCap ρ b (m - l) = m - l := by simp [cCap]; omega
          simp only [conc, hc2, cAddr_none]
          split
          · rfl
          · simp [add_none, Nat.add_assoc]
        · unfold execOp
          simp only [ho, e1]
          refine run_val ?_
          simp [Instr.sliceAt, run_underlying hu, Instr.sureAddr, bounds_run tr h1 h2 h3 hb, run_sizeOf hn]
      · cases hv
    · cases hv
  · cases hv

theorem s_subS {o : Oper} {ty : TypeId} {x : Operand} {lo hi : Option Operand} {v : Value} (ho : o.op = .slice ty x lo hi none) (hu : P.underlying ty = some .string) (tr : TRel ρ L t a) (hv : evP P t (.subS x lo hi) = some v) : ∃ u, VR ρ L v u ∧ Yields0 P a o u := by
  simp only [evP] at hv
  split at hv
  · rename_i s rl rh hx h1 h2
    split at hv
    · rename_i l h m hb
      injection hv with hv
      subst hv
      have vr := evalO_VR tr hx
      have e1 : a.eval x = .string s := vr.2
      refine ⟨_, VR.plain rfl, fun w => ?_⟩
      unfold execOp
      simp only [ho, e1]
      refine run_val ?_
      have := bounds_run (P := P) (isS := false) tr h1 h2 (mx := none) (rm := none) rfl hb w
      simp at this
      simp [Instr.sliceAt, Instr.slice, run_underlying hu, this]
    · cases hv
  · cases hv

theorem s_nilck {o : Oper} {x : Operand} {v : Value} (ho : o.op = .nilCheck x) (tr : TRel ρ L t a) (hv : evP P t (.nilck x) = some v) : ∃ u, VR ρ L v u ∧ Yields0 P a o u := by
  simp only [evP] at hv
  split at hv
  · rename_i ad hx
    injection hv with hv
    subst hv
    have vr := evalO_VR tr hx
    have e1 : a.eval x = .pointer (some (cAddr ρ ad)) := vr.2
    refine ⟨_, vr, fun w => ?_⟩
    unfold execOp
    simp only [ho, e1]
    rfl
  · cases hv

theorem evalL_VR {l : List Operand} {vs : List Value} (tr : TRel ρ L t a) (h : evalL t l = some vs) : l.map a.eval = vs.map (conc ρ) ∧ scpL L vs = true := by
  induction l generalizing vs with
  | nil =>
    simp only [evalL] at h
    injection h with h
    subst h
    exact ⟨rfl, rfl⟩
  | cons x l ih =>
    simp only [evalL] at h
    split at h
    · rename_i v us hx hl
      injection h with h
      subst h
      have h1 := evalO_VR tr hx
      obtain ⟨h2, h3⟩ := ih hl
      exact ⟨by simp [h1.2, h2], by simp [scpL, h1.1, h3]⟩
    · cases h

theorem s_fn {o : Oper} {f : Fn} {first captured : Array Operand} {v : Value} (ho : o.op = .makeFunc f first captured) (tr : TRel ρ L t a) (hv : evP P t (.fn f first.toList captured.toList) = some v) : ∃ u, VR ρ L v u ∧ Yields0 P a o u := by
  simp only [evP] at hv
  split at hv
  · rename_i vs us h1 h2
    injection hv with hv
    subst hv
    obtain ⟨q1, q2⟩ := evalL_VR tr h1
    obtain ⟨q3, q4⟩ := evalL_VR tr h2
    refine ⟨.func f (first.map a.eval) (captured.map a.eval), ⟨by simp [scp, scpA, q2, q4], ?_⟩, fun w => ?_⟩
    · have e1 : first.map a.eval = (vs.map (conc ρ)).toArray := by rw [← q1, ← List.map_toArray]
      have e2 : captured.map a.eval = (us.map (conc ρ)).toArray := by rw [← q3, ← List.map_toArray]
      rw [e1, e2]
      simp [conc, concA, concL_map]
    · unfold execOp
      simp only [ho]
      exact run_val rfl
  · cases hv

theorem exec_builtin {o : Oper} {b : Builtin} {args : Array Operand} {tys : Array TypeId} (ho : o.op = .call { callee := .builtin b, args := args, argTypes := tys }) :
    execOp a.eval o = builtin b tys o.type (args.map fun | .const _ => true | _ => false) (args.map a.eval) := by
  unfold execOp
  simp only [ho, resolve, invoke]
  rfl

theorem s_len {o : Oper} {ty : TypeId} {x : Operand} {e : TypeId} {v : Value} (ho : o.op = .call { callee := .builtin .len, args := #[x], argTypes := #[ty] }) (hu : P.underlying ty = some (.slice e)) (tr : TRel ρ L t a) (hv : evP P t (.len x) = some v) : ∃ u, VR ρ L v u ∧ Yields0 P a o u := by
  simp only [evP] at hv
  split at hv
  · rename_i ad n c hx
    injection hv with hv
    subst hv
    have vr := evalO_VR tr hx
    obtain ⟨ad', c', e1⟩ : ∃ ad' c', a.eval x = .slice ad' n c' := by
      rw [vr.2]
      cases ad
      · exact ⟨none, c, rfl⟩
      · exact ⟨_, _, rfl⟩
    refine ⟨_, VR.plain rfl, fun w => ?_⟩
    rw [exec_builtin ho]
    simp [builtin, e1, Builtin.len_, run_underlying hu, goInt]
  · cases hv

theorem s_lenS {o : Oper} {ty : TypeId} {x : Operand} {v : Value} (ho : o.op = .call { callee := .builtin .len, args := #[x], argTypes := #[ty] }) (hu : P.underlying ty = some .string) (tr : TRel ρ L t a) (hv : evP P t (.lenS x) = some v) : ∃ u, VR ρ L v u ∧ Yields0 P a o u := by
  simp only [evP] at hv
  split at hv
  · rename_i s hx
    injection hv with hv
    subst hv
    have e1 : a.eval x = .string s := (evalO_VR tr hx).2
    refine ⟨_, VR.plain rfl, fun w => ?_⟩
    rw [exec_builtin ho]
    simp [builtin, e1, Builtin.len_, run_underlying hu, goInt]
  · cases hv

theorem s_alen {o : Oper} {ty e : TypeId} {n : Nat} {x : Operand} {v : Value} (ho : o.op = .call { callee := .builtin .len, args := #[x], argTypes := #[ty] }) (hu : P.underlying ty = some (.array n e)) (hv : evP P t (.alen n) = some v) : ∃ u, VR ρ L v u ∧ Yields0 P a o u := by
  simp only [evP] at hv
  injection hv with hv
  subst hv
  refine ⟨_, VR.plain rfl, fun w => ?_⟩
  rw [exec_builtin ho]
  simp [builtin, Builtin.len_, run_underlying hu, goInt]

theorem mm_run {mx : Bool} : ∀ (l : List Value) (k : IntKind) (n : Int) (v : Value), evMmL mx k n l = some v → scpL nil l = true ∧ plain v = true ∧ ∀ w, (l.foldlM (if mx then Builtin.max2 else Builtin.min2) (.int k n)).run P w = .ok v w := by
  intro l
  induction l with
  | nil =>
    intro k n v h
    simp only [evMmL] at h
    injection h with h
    subst h
    exact ⟨rfl, rfl, fun w => rfl⟩
  | cons x l ih =>
    intro k n v h
    cases x with
    | int j b =>
      simp only [evMmL] at h
      obtain ⟨h1, h2, h3⟩ := ih _ _ _ h
      refine ⟨by simp [scpL, scp, h1], h2, fun w => ?_⟩
      rw [List.foldlM_cons]
      have := h3 w
      cases mx <;> simp_all [Builtin.max2, Builtin.min2]
    | _ => simp [evMmL] at h

theorem s_mm {o : Oper} {mx : Bool} {args : Array Operand} {tys : Array TypeId} {v : Value} (ho : o.op = .call { callee := .builtin (if mx then .max else .min), args := args, argTypes := tys }) (tr : TRel ρ L t a) (hv : evP P t (.mm mx args.toList) = some v) : ∃ u, VR ρ L v u ∧ Yields0 P a o u := by
  simp only [evP] at hv
  split at hv
  · rename_i vs hl
    obtain ⟨q1, q2⟩ := evalL_VR tr hl
    unfold evMm at hv
    split at hv
    · rename_i k n rest
      obtain ⟨h1, h2, h3⟩ := mm_run (P := P) rest k n v hv
      refine ⟨v, VR.plain h2, fun w => ?_⟩
      rw [exec_builtin ho]
      have e1 : args.map a.eval = (Value.int k n :: rest).toArray := by
        have : args.toList.map a.eval = Value.int k n :: rest := by
          rw [q1]
          simp only [List.map_cons, conc, List.cons.injEq, true_and]
          have key : ∀ l : List Value, scpL nil l = true → l.map (conc ρ) = l := fun l => by
            induction l with
            | nil => intro _; rfl
            | cons x l ih => intro h; simp only [scpL, Bool.and_eq_true] at h; simp [conc_zero ρ x h.1, ih h.2]
          exact key rest h1
        rw [← this, ← List.map_toArray]
      rw [e1]
      have := h3 w
      cases mx <;> simp_all [builtin, Builtin.max_, Builtin.min_]
    · cases hv
  · cases hv

end
end Abs
end Go.Proofs.Ytekhadlpcdjlpaa
