/- fifo: the lock as a structure; New; Check. -/
import Derived.Test.YtekhadlpcdjlpaaFx4
namespace Go.Proofs.Ytekhadlpcdjlpaa
namespace Fx
open Go Abs Code
set_option linter.unusedVariables false
set_option linter.unusedSimpArgs false
set_option maxRecDepth 100000

theorem take_ (s : LS) (hql : s.q.length ≤ 900) (x : En) : AC Try.prog 76 [.pointer (some ⟨0, 0, none⟩), x.v] [.adt (mkADT LS heapL) s] (fun v h' => ∃ s', h' = [.adt (mkADT LS heapL) s'] ∧ (v = .bool (fitsL s x) ∧ s' = takeL s x)) := by
  refine AC.method (Post := fun v s' => v = .bool (fitsL s x) ∧ s' = takeL s x) (by kernel_rfl) fun g hg hown => ?_
  have post : ∀ v h', v = .bool (fitsL s x) ∧ Closes heapL (takeL s x) h' → plain v = true ∧ ∃ s', (v = .bool (fitsL s x) ∧ s' = takeL s x) ∧ Closes heapL s' h' := by
    rintro v h' ⟨rfl, hc⟩
    exact ⟨rfl, _, ⟨rfl, rfl⟩, hc⟩
  obtain ⟨ok, ⟨hq, rfl⟩ | ⟨stale, rfl⟩⟩ := hg
  · exact (take0_ s ok hq x).mono post
  · exact (take1_ s ok stale hql x).mono post

/-- Take, of a lock that stands second. -/
theorem takeAt_ (s : LS) (hql : s.q.length ≤ 900) (x : En) (k0 : ABlk) (tl : AH) (K : Value → AH → Prop) (hK : K (.bool (fitsL s x)) (k0 :: .adt (mkADT LS heapL) (takeL s x) :: tl)) :
    AC Try.prog 76 [.pointer (some ⟨1, 0, none⟩), x.v] (k0 :: .adt (mkADT LS heapL) s :: tl) K := by
  have sb : Sub (fun _ => 1) [.adt (mkADT LS heapL) s] (k0 :: .adt (mkADT LS heapL) s :: tl) := by
    refine ⟨fun j k hj => ?_, fun i j hi hj _ => ?_⟩
    · match j with
      | 0 => injection hj with hj; subst hj; rfl
      | n + 1 => simp at hj
    · simp at hi hj; omega
  have ok : AOK [ABlk.adt (mkADT LS heapL) s] := by
    intro b k hb
    match b with
    | 0 => injection hb with hb; subst hb; trivial
    | n + 1 => simp at hb
  have := AC.frame sb ok (by simp [En.v, scpL, scp, scpA, live]) (take_ s hql x)
  have e : [Value.pointer (some ⟨0, 0, none⟩), x.v].map (ren fun _ => 1) = [.pointer (some ⟨1, 0, none⟩), x.v] := by simp [En.v, ren, renA, renAr, renL]
  rw [e] at this
  refine this.mono ?_
  rintro v H' ⟨v0, h', ⟨s', rfl, rfl, rfl⟩, _, rfl, rfl⟩
  have e2 : glue (fun _ => 1) [ABlk.adt (mkADT LS heapL) s].length (k0 :: .adt (mkADT LS heapL) s :: tl) [.adt (mkADT LS heapL) (takeL s x)] = k0 :: .adt (mkADT LS heapL) (takeL s x) :: tl := by
    simp [glue, setAll, extN, renB]
  rw [e2]
  simpa [ren] using hK

theorem reps_ints (m : Nat) : reps [.int .i64 0] m = ints (List.replicate m 0) := by
  induction m with
  | zero => rfl
  | succ m ih => rw [reps, ih]; simp [ints, List.replicate_succ]

def NewP (vs : List Value) (n : Int) (v : Value) (h' : AH) : Prop := ∃ v2 h2 σ us, View σ h2 h' us ∧ AOK h2 ∧ scp (live h2) v2 = true ∧ v = ren σ v2 ∧ (∀ b, b < [ABlk.row vs].length → σ b = b) ∧ (∀ b, b < [ABlk.row vs].length → live h' b = true → live h2 b = true) ∧ [ABlk.row vs].length ≤ h2.length ∧
  (v2 = .tuple #[.pointer (some ⟨1, 0, none⟩), .int .i64 0] ∧ h2 = [.row vs, .adt (mkADT LS heapL) (newL n)])

theorem new_ (n : Int) (vs : List Value) (hvs : ∀ v ∈ vs, plain v = true) (h1 : 1 ≤ n) (h2 : n ≤ 64) : AC Try.prog 74 [.int .i64 n] [.row vs] (fun v h' => v = .tuple #[.pointer (some ⟨1, 0, none⟩), .int .i64 0] ∧ h' = [.row vs, .adt (mkADT LS heapL) (newL n)]) := by
  refine AC.view (show AC Try.prog 74 [.int .i64 n] [.row vs] (NewP vs n) from ?_)
  refine entry hmix cf74 ?_
  have a1 : ¬ n < 1 := by omega
  have a2 : ¬ 64 < n := by omega
  have a3 : 0 ≤ n := by omega
  have a4 : 8 * n ≤ 281474976710656 := by omega
  have a5 : n ≤ 281474976710656 := by omega
  simp (maxSteps := 2000000) (implicitDefEqProofs := false) [DN, NB, begT, atHead, kd, wantedA, evP, evR, evF, evL, evC, evBin, evUn, evEq, evSt, evRes, plain, scp, scpA, scpL, rdRow, rdCells, veq, veqA, veqL, isHole, Value.cells, evalL, optI, evBounds, evFill, evFillR, evApp, newsOf, wrCells, one1, fitsApp, evClr, undef, onB_bool, List.getElem?_concat_length, List.getElem?_cons_zero, List.getElem?_cons_succ, List.getElem?_toArray, List.getElem?_nil, List.set_cons_zero, List.set_cons_succ, List.cons_append, List.nil_append, -getElem?_pos, -getElem?_neg, a1, a2, a3, a4, a5, reps_ints]
  have hh : heapL (newL n) [boxL (newL n) (.slice none 0 0), .cells (ints (newL n).st) 3 none] := ⟨newL_ok h1 h2, .inl ⟨rfl, rfl⟩⟩
  refine ⟨_, _, fun b => if b = 1 then 2 else b, fun b => if b = 0 then [0] else [2, 1], ⟨fun b k hb => ?_, fun b c hb hc hne y hy => ?_⟩, ?_, ?_, ?_, ?_, ?_, ?_, rfl, rfl⟩
  · match b with
    | 0 =>
      injection hb with hb
      subst hb
      refine .keep ?_
      have : vs.map (ren fun b => if b = 1 then 2 else b) = vs := by
        conv => rhs; rw [← List.map_id vs]
        exact List.map_congr_left fun v hv => ren_plain _ v (hvs v hv)
      simp [renB, this]
    | 1 =>
      injection hb with hb
      subst hb
      refine VB.clos (ι := fun j => if j = 0 then 2 else 1) hh (ownL hh) (okL hh) ⟨_, _, rfl⟩ rfl ⟨fun j k hj => ?_, fun i j hi hj e => ?_⟩
      · match j with
        | 0 => injection hj with hj; subst hj; simp [boxL, renB, ren, renA, newL]
        | 1 => injection hj with hj; subst hj; simp [renB, ints_ren, newL]
        | m + 2 => simp at hj
      · simp at hi hj
        split at e <;> split at e <;> omega
    | m + 2 => simp at hb
  · simp at hb hc
    have : (b = 0 ∧ c = 1) ∨ (b = 1 ∧ c = 0) := by omega
    rcases this with ⟨rfl, rfl⟩ | ⟨rfl, rfl⟩ <;> simp at hy ⊢ <;> omega
  · intro b k hb
    match b with
    | 0 => injection hb with hb; subst hb; exact fun v hv => scp_mono (fun b hb => by cases hb) v (hvs v hv)
    | 1 => injection hb with hb; subst hb; trivial
    | m + 2 => simp at hb
  · simp [scp, scpA, scpL, live]
  · simp [ren, renA, renAr, renL]
  · intro b hb; simp at hb; subst hb; rfl
  · intro b hb _; simp at hb; subst hb; rfl
  · simp

theorem newK (n : Int) (vs : List Value) (hvs : ∀ v ∈ vs, plain v = true) (h1 : 1 ≤ n) (h2 : n ≤ 64) (K : Value → AH → Prop) (hK : K (.tuple #[.pointer (some ⟨1, 0, none⟩), .int .i64 0]) [.row vs, .adt (mkADT LS heapL) (newL n)]) : AC Try.prog 74 [.int .i64 n] [.row vs] K := by
  refine (new_ n vs hvs h1 h2).mono ?_
  rintro _ _ ⟨rfl, rfl⟩
  exact hK

end Fx
end Go.Proofs.Ytekhadlpcdjlpaa
