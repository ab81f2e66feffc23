/- a lock at work: New: copies, walked. -/
import Derived.Test.YtongllppbifiaaaEx15
namespace Go.Proofs.Ytongllppbifiaaa
namespace Ex
open Go Abs Code
open Px (natV natV_length natV_get VecV nm u32w i64w PS poolB outG)
attribute [local simp] DN5 HA DN NB begT atHead kd wantedA evP evR evF evL evC evI evBin evUn evEq evSt evRes plain scp scpA scpL rdRow_eq RV rdCells veq veqA veqL isHole Value.cells evalL optI evBounds evFill evFillR evApp newsOf wrCells one1 fitsApp evClr undef onB_bool List.getElem?_concat_length List.getElem?_cons_zero List.getElem?_cons_succ List.getElem?_toArray List.getElem?_nil List.set_cons_zero List.set_cons_succ List.cons_append List.nil_append
set_option linter.unusedVariables false
set_option linter.unusedSimpArgs false
set_option maxRecDepth 100000

/-- All of a row behind an empty slice of its own. -/
theorem clone_app {H : AH} {b es n cap : Nat} {l : List Value} (hr : rdRow H b = some l) (hl : l.length = n * es) (hone : l.all one1 = true) (h0 : 0 < n) (he : 0 < es) {bytes : Nat} (hf : n ≤ 4294967296) (hf2 : n * bytes ≤ 140737488355328) (e e0 : TypeId) :
    ∀ (t : T) (s x : Operand), evalO t s = some (.slice (some ⟨H.length, 0, none⟩) 0 0) → evalO t x = some (.slice (some ⟨b, 0, none⟩) n cap) → evApp t (H ++ [.cells [] e0 none]) e es bytes s x = some (.slice (some ⟨H.length + 1, 0, none⟩) n (OPEN + n), H ++ [.cells [] e0 none, .cells l e (some es)]) := by
  intro t s x hs hx
  have a0 : (H ++ [ABlk.cells [] e0 none])[b]? = H[b]? := by
    have hb : b < H.length := by
      unfold rdRow at hr
      cases h : H[b]? with
      | none => rw [h] at hr; cases hr
      | some k => exact lt_get h
    exact List.getElem?_append_left hb
  have a1 : rdCells (H ++ [ABlk.cells [] e0 none]) b 0 (n * es) = some l := by
    have : rdRow (H ++ [ABlk.cells [] e0 none]) b = some l := by
      unfold rdRow at hr ⊢
      rw [a0]
      exact hr
    unfold rdCells
    rw [this]
    simp only [Nat.zero_add, List.drop_zero]
    rw [if_pos (by omega), List.take_of_length_le (by omega)]
  have a2 : rdCells (H ++ [ABlk.cells [] e0 none]) H.length 0 0 = some [] := by simp [rdCells, rdRow]
  have a3 : (0 : Nat) < OPEN := by unfold OPEN; omega
  have a4 : ¬ n = 0 := by omega
  have a5 : newsOf t (H ++ [.cells [] e0 none]) es x = some (n, l) := by
    unfold newsOf
    rw [hx]
    simp only [a1, hone, if_true]
  unfold evApp
  rw [hs, a5]
  simp only [capLow, a3, if_true, a4, if_false, Nat.zero_add, Nat.zero_mul]
  rw [if_neg (by omega), if_pos ⟨by omega, by simp [fitsApp, he, hf, hf2]⟩]
  simp [a2]

set_option maxHeartbeats 2000000 in
theorem iclone_ {H : AH} {b n : Nat} {cap : Nat} {l : List Value} (hn : l.length = n) (h0 : 0 < n) (hf : n ≤ 4294967296) (hone : l.all one1 = true) (hb : rdRow H b = some l) {K : Value → AH → Prop} (hK : K (.slice (some ⟨H.length + 1, 0, none⟩) n (OPEN + n)) (H ++ [.cells [] 3 none, .cells l 3 (some 1)])) : AC Try.prog 47 [.slice (some ⟨b, 0, none⟩) n cap] H K := by
  refine entry hmix cf47 ?_
  have a1 := clone_app (cap := cap) (es := 1) (bytes := 8) hb (by omega) hone h0 (by omega) hf (by omega) 3 3
  simp (maxSteps := 2000000) (implicitDefEqProofs := false) [-getElem?_pos, -getElem?_neg, -evApp, -newsOf, a1]
  exact hK

set_option maxHeartbeats 2000000 in
theorem iclone0_ {H : AH} {K : Value → AH → Prop} (hK : K (.slice none 0 0) H) : AC Try.prog 47 [.slice none 0 0] H K := by
  refine entry hmix cf47 ?_
  simp (maxSteps := 2000000) (implicitDefEqProofs := false) [-getElem?_pos, -getElem?_neg]
  exact hK

set_option maxHeartbeats 2000000 in
theorem lclone_ {H : AH} {b n : Nat} {cap : Nat} {l : List Value} (hn : l.length = n * 8) (h0 : 0 < n) (hf : n ≤ 4294967296) (hone : l.all one1 = true) (hb : rdRow H b = some l) {K : Value → AH → Prop} (hK : K (.slice (some ⟨H.length + 1, 0, none⟩) n (OPEN + n)) (H ++ [.cells [] 55 none, .cells l 55 (some 8)])) : AC Try.prog 53 [.slice (some ⟨b, 0, none⟩) n cap] H K := by
  refine entry hmix cf53 ?_
  have a1 := clone_app (cap := cap) (es := 8) (bytes := 64) hb hn hone h0 (by omega) hf (by omega) 55 55
  simp (maxSteps := 2000000) (implicitDefEqProofs := false) [-getElem?_pos, -getElem?_neg, -evApp, -newsOf, a1]
  exact hK

theorem rdRow_app {H : AH} {b : Nat} {l : List Value} (h : rdRow H b = some l) (tl : AH) : rdRow (H ++ tl) b = some l := by
  have hb : b < H.length := by
    unfold rdRow at h
    cases e : H[b]? with
    | none => rw [e] at h; cases h
    | some k => exact lt_get e
  unfold rdRow at h ⊢
  rw [List.getElem?_append_left hb]
  exact h

set_option maxHeartbeats 2000000 in
theorem copy_ {H : AH} {b n : Nat} {cap : Nat} {l : List Value} (hn : l.length = n * 8) (h0 : 0 < n) (hf : n ≤ 4294967296) (hone : l.all one1 = true) (hb : rdRow H b = some l) (lk uk : Int) {K : Value → AH → Prop} (hK : ∀ tl, (H ++ tl)[H.length + 3]? = some (.cells l 55 (some 8)) → K (.agg #[.slice (some ⟨H.length + 3, 0, none⟩) n (OPEN + n), .int .i64 lk, .int .i64 uk]) (H ++ tl)) : AC Try.prog 25 [.agg #[.slice (some ⟨b, 0, none⟩) n cap, .int .i64 lk, .int .i64 uk]] H K := by
  refine entry hmix cf25 ?_
  simp (maxSteps := 2000000) (implicitDefEqProofs := false) [-getElem?_pos, -getElem?_neg]
  refine lclone_ hn h0 hf hone (rdRow_app hb _) ?_
  have fin : ∀ X Y Z, K (.agg #[.slice (some ⟨H.length + 3, 0, none⟩) n (OPEN + n), .int .i64 lk, .int .i64 uk]) (H ++ [X, Y, Z, .cells l 55 (some 8)]) := fun X Y Z => hK _ (by rw [HA.1]; rfl)
  simp (maxSteps := 2000000) (implicitDefEqProofs := false) [-getElem?_pos, -getElem?_neg, splice_more, List.length_append, List.append_assoc, List.length_cons, List.length_nil]
  exact fin _ _ _

/-- A row that was handed in. -/
inductive ArgRow (H : AH) (v : Value) (l : List Value) (n : Nat) : Prop
  | none : l = [] → n = 0 → (v = .slice none 0 0 ∨ ∃ b cap d, v = .slice (some ⟨b, 0, some d⟩) 0 cap) → ArgRow H v l n
  | row (b cap : Nat) (X : ABlk) : v = .slice (some ⟨b, 0, none⟩) n cap → H[b]? = some X → rowVs X = some l → ArgRow H v l n

theorem ArgRow.form {H : AH} {v : Value} {l : List Value} {n : Nat} (r : ArgRow H v l n) : ∃ A C, v = .slice A n C := by
  cases r with
  | none h1 h2 h3 =>
    rcases h3 with h3 | ⟨b, cap, d, h3⟩
    · exact ⟨Option.none, 0, by rw [h2]; exact h3⟩
    · exact ⟨_, _, by rw [h2]; exact h3⟩
  | row b cap X h1 h2 h3 => exact ⟨_, _, h1⟩

set_option maxHeartbeats 2000000 in
theorem iclone1_ {H : AH} {b cap : Nat} (hb : rdRow H b = some []) {K : Value → AH → Prop} (hK : K (.slice (some ⟨H.length, 0, none⟩) 0 0) (H ++ [.cells [] 3 none])) : AC Try.prog 47 [.slice (some ⟨b, 0, none⟩) 0 cap] H K := by
  refine entry hmix cf47 ?_
  have a1 : ∀ (t : T) (s x : Operand), evalO t s = some (.slice (some ⟨H.length, 0, none⟩) 0 0) → evalO t x = some (.slice (some ⟨b, 0, none⟩) 0 cap) → evApp t (H ++ [.cells [] 3 none]) 3 1 8 s x = some (.slice (some ⟨H.length, 0, none⟩) 0 0, H ++ [.cells [] 3 none]) := by
    intro t s x hs hx
    have a0 := rdRow_app hb [ABlk.cells [] 3 none]
    have a5 : newsOf t (H ++ [.cells [] 3 none]) 1 x = some (0, []) := by
      unfold newsOf
      rw [hx]
      simp [-rdRow_eq, rdCells, a0]
    unfold evApp
    rw [hs, a5]
    simp [capLow]
  simp (maxSteps := 2000000) (implicitDefEqProofs := false) [-getElem?_pos, -getElem?_neg, -evApp, -newsOf, a1]
  exact hK

set_option maxHeartbeats 2000000 in
theorem iclone2_ {H : AH} {b cap d : Nat} {K : Value → AH → Prop} (hK : K (.slice (some ⟨H.length, 0, none⟩) 0 0) (H ++ [.cells [] 3 none])) : AC Try.prog 47 [.slice (some ⟨b, 0, some d⟩) 0 cap] H K := by
  refine entry hmix cf47 ?_
  have a1 : ∀ (t : T) (s x : Operand), evalO t s = some (.slice (some ⟨H.length, 0, none⟩) 0 0) → evalO t x = some (.slice (some ⟨b, 0, some d⟩) 0 cap) → evApp t (H ++ [.cells [] 3 none]) 3 1 8 s x = some (.slice (some ⟨H.length, 0, none⟩) 0 0, H ++ [.cells [] 3 none]) := by
    intro t s x hs hx
    have a5 : newsOf t (H ++ [.cells [] 3 none]) 1 x = some (0, []) := by
      unfold newsOf
      rw [hx]
      rfl
    unfold evApp
    rw [hs, a5]
    simp [capLow]
  simp (maxSteps := 2000000) (implicitDefEqProofs := false) [-getElem?_pos, -getElem?_neg, -evApp, -newsOf, a1]
  exact hK

theorem iclone {H : AH} {v : Value} {l : List Value} (r : ArgRow H v l l.length) (hone : l.all one1 = true) (hf : l.length ≤ 4294967296) {K : Value → AH → Prop} (hK : ∀ g vs, Ext H g → SlV g vs l 3 → (∀ c ∈ nm vs, H.length ≤ c) → K vs g) : AC Try.prog 47 [v] H K := by
  cases r with
  | none h1 _ h2 =>
    subst h1
    rcases h2 with rfl | ⟨b, cap, d, rfl⟩
    · exact iclone0_ (hK _ _ (Ext.refl H) (.vec (.nil rfl rfl)) (fun c hc => by cases hc))
    · refine iclone2_ (hK _ _ (Ext.app _ _) (.zero H.length (.cells [] 3 none) rfl rfl ?_) fun c hc => ?_)
      · rw [HA.2.1]; rfl
      · simp [nm] at hc; omega
  | row b cap X h1 h2 h3 =>
    subst h1
    have h2 : rdRow H b = some l := by rw [rdRow_eq, h2]; exact h3
    by_cases h0 : 0 < l.length
    · refine iclone_ rfl h0 hf hone h2 (hK _ _ (Ext.app _ _) (.vec (.row (H.length + 1) (fun h => by rw [h] at h0; cases h0) rfl ?_)) fun c hc => ?_)
      · rw [HA.1]; rfl
      · simp [nm] at hc; omega
    · have e : l = [] := List.eq_nil_of_length_eq_zero (by omega)
      subst e
      refine iclone1_ h2 (hK _ _ (Ext.app _ _) (.zero H.length (.cells [] 3 none) rfl rfl ?_) fun c hc => ?_)
      · rw [HA.2.1]; rfl
      · simp [nm] at hc; omega

end Ex
end Go.Proofs.Ytongllppbifiaaa
