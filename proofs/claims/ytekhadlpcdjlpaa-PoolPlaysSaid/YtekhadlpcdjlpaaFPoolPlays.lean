/- PROVED: 'PoolPlays' (ropeline/ropelinelaw05.PoolPlays) returns true for every input that the row speaks of, and every argument reads afterwards as it read before. Conditions: those of the given row, no others. -/
import Derived.Test.YtekhadlpcdjlpaaRows
import Derived.Test.YtekhadlpcdjlpaaRead
import Derived.Test.YtekhadlpcdjlpaaPoolPlays
import Derived.ProofKit
import Derived.OpenShut
import Derived.ChangeOld
namespace Go.Proofs.Ytekhadlpcdjlpaa.poolPlays
open Go.ChangeShapes Go.WideShapes Go.ChangeAt Go.RowKit
set_option linter.unusedVariables false

theorem own : ownKnob Try.prog.godebug = none := by kernel_rfl
theorem laidOut : laidOutB Try.prog = true := by kernel_rfl

set_option maxRecDepth 100000 in
theorem lifted (os : Os) (started : os.Started) (H : Type) (enc : TypeId × Value → H) :
    ReturnsInHanded {} Try.checked os 13 .any (Rows.poolPlaysSpec.pre6 enc Try.prog Try.f13 Rows.poolPlaysRow.domain false) (Rows.poolPlaysSpec.post enc Try.prog Try.f13 false true false false) := by
  refine returnsInHanded_of_change (C := Try.checked) own started (by kernel_rfl) Try.func13
    (ChangeSpec.witness6 (enc := enc) (C := Try.checked) false ⟨#[], #[.int .i64 0, .int .i64 0, .slice none 0 0], []⟩ 8 (by kernel_rfl) (by kernel_rfl) (by kernel_rfl) (by kernel_rfl)) ?_
  intro W base args ds gs before hval0 hW hcnd _
  have hval : ∀ (j : Nat) t v, Try.f13.params[j]? = some t → args[j]? = some v → Value.okWide Try.prog W .any base t v := hval0
  have hW' := hW
  obtain ⟨p, q, hA0, hV, rfl, hfz, hnd⟩ := hW
  have hA : DataW.TrodAll enc Try.prog W 0 (fun _ => true) true Try.f13.params.toList args.toList ds p := hA0
  rw [Try.params13] at hA hval
  obtain ⟨v0, vs0, d0, ds0, p0, q0, hargs, rfl, rfl, h0, r0⟩ := trodAll_cons hA
  obtain ⟨v1, vs1, d1, ds1, p1, q1, rfl, rfl, rfl, h1, r1⟩ := trodAll_cons r0
  obtain ⟨v2, vs2, d2, ds2, p2, q2, rfl, rfl, rfl, h2, r2⟩ := trodAll_cons r1
  obtain ⟨rfl, rfl, rfl⟩ := trodAll_nil r2
  obtain rfl : args = #[v0, v1, v2] := by cases args; simp_all
  obtain ⟨rfl, rfl⟩ := trodVars_none hV
  obtain ⟨x0, a0⟩ := Sh.arg_of (s := Sh.int .i64) (t := 3) (by kernel_rfl) (hval 0 3 v0 rfl rfl) h0
  obtain ⟨x1, a1⟩ := Sh.arg_of (s := Sh.int .i64) (t := 3) (by kernel_rfl) (hval 1 3 v1 rfl rfl) h1
  obtain ⟨x2, a2⟩ := Sh.arg_of (s := (.row opSh)) (t := 93) (by kernel_rfl) (hval 2 93 v2 rfl rfl) h2
  clear hA0 hval0
  refine (law_PoolPlays W v0 v1 v2 x0 x1 x2 a0 a1 a2).mono fun e W' ⟨he, md⟩ => ?_
  have bel : Below W.heap.size W W' := md.below (by simp)
  subst he
  exact ⟨_, rfl, _, _, _, [], _, [], hW', trodAll_mk1 (shut_bool Try.underlying4 _), (trodAll_cons_mk (Sh.trod_kept laidOut (by kernel_rfl) (of_decide_eq_true (by kernel_rfl)) h0 bel) (trodAll_cons_mk (Sh.trod_kept laidOut (by kernel_rfl) (of_decide_eq_true (by kernel_rfl)) h1 bel) (trodAll_cons_mk (Sh.trod_kept laidOut (by kernel_rfl) (of_decide_eq_true (by kernel_rfl)) h2 bel) trodAll_mk0))), rfl, bel.frame _, fun h => by cases h⟩

theorem over : Rows.poolPlaysRow.holds Try.pinned (OpenSpec.ofChange Rows.poolPlaysSpec) :=
  OpenClaim.holds_of_wide 13 Try.f13 rfl rfl rfl rfl rfl rfl rfl ⟨rfl, rfl, rfl, rfl, rfl⟩ rfl rfl rfl rfl rfl (by kernel_rfl) Try.func13 (by kernel_rfl)
    (of_decide_eq_true (by kernel_rfl)) (by unfold Func.isWrapper; first | (rw [if_pos (by decide +kernel)]; kernel_rfl) | (rw [if_neg (by decide +kernel)]; exact ⟨rfl, rfl⟩))
    (fun os started H enc _ => lifted os started H enc)

/-- THE STATEMENT. -/
theorem proved : Rows.PoolPlaysSaid := over
#print axioms proved
end Go.Proofs.Ytekhadlpcdjlpaa.poolPlays
