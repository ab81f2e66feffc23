/- order: two waits of the document's are compared. -/
import Derived.Test.YtekhadlpcdjlpaaOrE
namespace Go.Proofs.Ytekhadlpcdjlpaa
namespace Ox
open Go Abs
set_option maxRecDepth 100000
def r0 : Field := ⟨"Thread", 3, 0, false, "", "", 0⟩
def r1 : Field := ⟨"Ahead", 3, 1, false, "", "", 8⟩
def r2 : Field := ⟨"Grants", 3, 2, false, "", "", 16⟩
theorem u69 : Try.prog.underlying 69 = some (.struct #[r0, r1, r2]) := by kernel_rfl
theorem st69 : Try.prog.stoodInHeld 69 = false := by kernel_rfl
theorem g69 : Try.prog.eqGuardType Try.prog.depth 69 = false := by kernel_rfl

theorem eqStruct69 (d : Nat) (a1 a2 a3 b1 b2 b3 : Int) : pureVal Try.prog (Op.equalIn (d + 1 + 1) 69 (.agg #[.int .i64 a1, .int .i64 a2, .int .i64 a3]) (.agg #[.int .i64 b1, .int .i64 b2, .int .i64 b3])) = some (a1 == b1 && (a2 == b2 && a3 == b3)) := by
  unfold Op.equalIn
  simp only [bind]
  rw [bind_pure_val _ _ (und u69)]
  simp only
  rw [bind_pure_val (a := Try.prog) _ _ rfl]
  simp only [st69, Bool.false_eq_true, if_false]
  rw [← Array.forIn_toList]
  simp only [List.forIn_cons, List.forIn_nil, bind]
  have n0 : r0.name ≠ "_" := by decide
  have n1 : r1.name ≠ "_" := by decide
  have n2 : r2.name ≠ "_" := by decide
  have key : ∀ (f : Field) (x y : Int) (xs ys : Array Value) (k : ForInStep (Option Bool × Unit) → Sem (Option Bool × Unit)), f.name ≠ "_" → f.type = 3 → xs[f.offset]? = some (.int .i64 x) → ys[f.offset]? = some (.int .i64 y) →
      pureVal Try.prog (Sem.bind (if f.name ≠ "_" then
              (part f.type xs f.offset).bind fun __do_lift =>
                (part f.type ys f.offset).bind fun __do_lift_1 =>
                  (Op.equalIn (d + 1) f.type __do_lift __do_lift_1).bind fun __do_lift =>
                    if (!__do_lift) = true then pure (ForInStep.done (some false, ()))
                    else pure (ForInStep.yield (none, ()))
            else pure (ForInStep.yield (none, ()))) k) = pureVal Try.prog (k (if (x == y) = true then ForInStep.yield (none, ()) else ForInStep.done (some false, ()))) := by
    intro f x y xs ys k hn ht hx hy
    refine bind_pure_val _ _ ?_
    rw [if_pos hn, ht, bind_pure_val _ _ (part_ _ _ _ hx), bind_pure_val _ _ (part_ _ _ _ hy), bind_pure_val _ _ (eqInt d x y)]
    cases (x == y) <;> rfl
  refine (bind_pure_val (a := (if (a1 == b1 && (a2 == b2 && a3 == b3)) = true then (none, ()) else (some false, ()))) _ _ ?_).trans ?_
  · rw [key r0 a1 b1 _ _ _ n0 rfl rfl rfl]
    cases (a1 == b1)
    · rfl
    simp only [if_true]
    rw [key r1 a2 b2 _ _ _ n1 rfl rfl rfl]
    cases (a2 == b2)
    · rfl
    simp only [if_true]
    rw [key r2 a3 b3 _ _ _ n2 rfl rfl rfl]
    cases (a3 == b3) <;> rfl
  · cases (a1 == b1) <;> cases (a2 == b2) <;> cases (a3 == b3) <;> rfl

/-- Two waits are compared. -/
theorem geqR (x y : Operand) (a1 a2 a3 b1 b2 b3 : Int) : (pureVal Try.prog do
    eqGuard .eql 69 x y (.agg #[.int .i64 a1, .int .i64 a2, .int .i64 a3]) (.agg #[.int .i64 b1, .int .i64 b2, .int .i64 b3])
    binOp .eql 69 (.agg #[.int .i64 a1, .int .i64 a2, .int .i64 a3]) (.agg #[.int .i64 b1, .int .i64 b2, .int .i64 b3])) = some (.bool (a1 == b1 && (a2 == b2 && a3 == b3))) := by
  simp only [bind]
  rw [bind_pure_val (a := ()) _ _ ?_]
  · show pureVal Try.prog (Sem.bind (Op.equal 69 _ _) fun r => pure (Value.bool r)) = _
    rw [bind_pure_val (Op.equal 69 _ _) _ (show pureVal Try.prog (Op.equal 69 _ _) = _ from eqStruct69 9998 a1 a2 a3 b1 b2 b3)]
    rfl
  · unfold eqGuard
    simp only [bind]
    rw [if_neg (by decide)]
    rw [bind_pure_val (a := Try.prog) _ _ rfl, bind_pure_val (a := Try.prog) _ _ rfl]
    simp only [g69]
    rfl

theorem gneR (x y : Operand) (a1 a2 a3 b1 b2 b3 : Int) : (pureVal Try.prog do
    eqGuard .neq 69 x y (.agg #[.int .i64 a1, .int .i64 a2, .int .i64 a3]) (.agg #[.int .i64 b1, .int .i64 b2, .int .i64 b3])
    binOp .neq 69 (.agg #[.int .i64 a1, .int .i64 a2, .int .i64 a3]) (.agg #[.int .i64 b1, .int .i64 b2, .int .i64 b3])) = some (.bool (!(a1 == b1 && (a2 == b2 && a3 == b3)))) := by
  simp only [bind]
  rw [bind_pure_val (a := ()) _ _ ?_]
  · show pureVal Try.prog (Sem.bind (Op.equal 69 _ _) fun r => pure (Value.bool (!r))) = _
    rw [bind_pure_val (Op.equal 69 _ _) _ (show pureVal Try.prog (Op.equal 69 _ _) = _ from eqStruct69 9998 a1 a2 a3 b1 b2 b3)]
    rfl
  · unfold eqGuard
    simp only [bind]
    rw [if_neg (by decide)]
    rw [bind_pure_val (a := Try.prog) _ _ rfl, bind_pure_val (a := Try.prog) _ _ rfl]
    simp only [g69]
    rfl

end Ox
end Go.Proofs.Ytekhadlpcdjlpaa
