/-
  No cell of these rows narrows 'for every input' (looked for: loops, veiled, ifaces, maps, wideKeys, modest, calm, conditions, laid).
  DERIVED. THE GIVEN ROWS OF THIS SEAT. 2 by the template 'for every input the law returns true; each argument reads behind the call as it read before'; 0 by the template 'total and deterministic' (their statements: YtongllppbifiaaaTotals.lean).
  GIVEN WITH THE SEED: the statements are not yours to turn. If you find one false, say at which input.
  Laid BY PROGRAM, IN A SANDBOX (cutbox-rows.mjs): the forced cells as the released guide's own fill.sh prints them over the translation c205e9dd6cf26ab9… (all of the seat's roots in one cut). By AI agents, Wed Nov 11 2026. No macro, syntax, notation, axiom, sorry.
-/
import Derived.Test.YtongllppbifiaaaChecked
import GoSem.Claim
import GoSem.ClaimJoined
import GoSem.ClaimMapViews
import Derived.JoinedTies
import Derived.KernelRfl
namespace Go.Proofs.Ytongllppbifiaaa
/- THE CELL 'sum', in the pinned program and in every row, IS THE sha256 OF THE DUMP (.gsa) THAT YtongllppbifiaaaProg.lean LOADS. Nothing in Lean hashes anything: it is a label: what it is worth is what the hold of that sum in a sandbox is worth. -/
noncomputable def Try.pinned : Pinned := { name := "ytongllppbifiaaa", sum := "c205e9dd6cf26ab9adce5c1f7d86d1594cb779b25f36a230ae284a78c015359d", checked := Try.checked }
namespace Rows
def none {H : Type} : Left H := { results := [], args := [] }

/-- 'ropelinelaw10.ExecStays': WHATEVER THE INPUT: true; the input reads as it did. -/
def execStaysSpec : ChangeSpec := { name := "execStays", fn := fun _ => fun
  | [d1, d2] => { results := [.lit (.bool true)], args := [d1, d2] }
  | _ => none }
def execStaysRow : OpenClaim := { program := "ytongllppbifiaaa", sum := "c205e9dd6cf26ab9adce5c1f7d86d1594cb779b25f36a230ae284a78c015359d", func := "ropeline/ropelinelaw10.ExecStays", spec := "execStays", inPlace := ["sync/atomic.StoreUint32", "sync/atomic.LoadUint32", "sync/atomic.SwapUint32", "sync/atomic.CompareAndSwapUint32", "sync/atomic.AddUint32"], unfollowed := true, recurses := true, apart := false }
def ExecStaysSaid : Prop := execStaysRow.holds Try.pinned (OpenSpec.ofChange execStaysSpec)

/-- ITS FALSE NEIGHBOUR: 'it returns false'. Refute it at one input. -/
def execStaysWrong : ChangeSpec := { name := "execStays", fn := fun _ => fun
  | [d1, d2] => { results := [.lit (.bool false)], args := [d1, d2] }
  | _ => none }
def ExecStaysWrongFalsely : Prop := execStaysRow.holds Try.pinned (OpenSpec.ofChange execStaysWrong)

/-- 'ropelinelaw10.ExecOwn': WHATEVER THE INPUT: true; the input reads as it did. -/
def execOwnSpec : ChangeSpec := { name := "execOwn", fn := fun _ => fun
  | [d1, d2] => { results := [.lit (.bool true)], args := [d1, d2] }
  | _ => none }
def execOwnRow : OpenClaim := { program := "ytongllppbifiaaa", sum := "c205e9dd6cf26ab9adce5c1f7d86d1594cb779b25f36a230ae284a78c015359d", func := "ropeline/ropelinelaw10.ExecOwn", spec := "execOwn", inPlace := ["sync/atomic.StoreUint32", "sync/atomic.LoadUint32", "sync/atomic.SwapUint32", "sync/atomic.CompareAndSwapUint32", "sync/atomic.AddUint32"], unfollowed := true, recurses := true, apart := false }
def ExecOwnSaid : Prop := execOwnRow.holds Try.pinned (OpenSpec.ofChange execOwnSpec)

/-- ITS FALSE NEIGHBOUR: 'it returns false'. Refute it at one input. -/
def execOwnWrong : ChangeSpec := { name := "execOwn", fn := fun _ => fun
  | [d1, d2] => { results := [.lit (.bool false)], args := [d1, d2] }
  | _ => none }
def ExecOwnWrongFalsely : Prop := execOwnRow.holds Try.pinned (OpenSpec.ofChange execOwnWrong)

/- THE SECOND FORM. 'bulk': how many values and letters a reading holds, each counted each time it is reached (what is shared counts as often as it is met; a slice's spare places count too). A statement '..UptoSaid' is the law's where the arguments, and the package variables that the reading takes, are together of bulk at most 1048576: NARROWER than '..Said'. Prove '..Said' where nothing that the law and all that it calls make is longer than what came in: it says more and counts as full. Else prove '..UptoSaid'. A law counts once. -/
mutual
def uptoBulk {H : Type} : DataW H → Nat
  | .lit (.string bytes) => bytes.length + 1
  | .lit _ => 1
  | .nil => 1
  | .ptr d => uptoBulk d + 1
  | .slice elems spare => uptoBulkAll elems + uptoBulkAll spare + 1
  | .agg parts => uptoBulkAll parts + 1
  | .iface _ d => uptoBulk d + 1
  | .map entries => uptoBulkEntries entries + 1
  | .held _ => 1
def uptoBulkAll {H : Type} : List (DataW H) → Nat
  | [] => 0
  | d :: r => uptoBulk d + uptoBulkAll r
def uptoBulkEntries {H : Type} : List (Lit × DataW H) → Nat
  | [] => 0
  | x :: r => uptoBulkEntry x + uptoBulkEntries r
def uptoBulkEntry {H : Type} : Lit × DataW H → Nat
  | (.string bytes, d) => bytes.length + uptoBulk d + 1
  | (_, d) => uptoBulk d + 1
 end
def uptoSmall : (H : Type) → List (DataW H) → Bool := fun _ ds => decide (uptoBulkAll ds ≤ 1048576)
def OpenSpec.upto (s : _root_.Go.ChangeSpec) : _root_.Go.OpenSpec := { _root_.Go.OpenSpec.ofChange s with cond := some uptoSmall }

/-- 'ropelinelaw10.ExecStays', WHERE WHAT IT READS IS OF BULK AT MOST 1048576: true; the input reads as it did. -/
def execStaysUptoRow : OpenClaim := { program := "ytongllppbifiaaa", sum := "c205e9dd6cf26ab9adce5c1f7d86d1594cb779b25f36a230ae284a78c015359d", func := "ropeline/ropelinelaw10.ExecStays", spec := "execStays", inPlace := ["sync/atomic.StoreUint32", "sync/atomic.LoadUint32", "sync/atomic.SwapUint32", "sync/atomic.CompareAndSwapUint32", "sync/atomic.AddUint32"], unfollowed := true, recurses := true, apart := false, narrowed := true }
def ExecStaysUptoSaid : Prop := execStaysUptoRow.holds Try.pinned (OpenSpec.upto execStaysSpec)

/-- 'ropelinelaw10.ExecOwn', WHERE WHAT IT READS IS OF BULK AT MOST 1048576: true; the input reads as it did. -/
def execOwnUptoRow : OpenClaim := { program := "ytongllppbifiaaa", sum := "c205e9dd6cf26ab9adce5c1f7d86d1594cb779b25f36a230ae284a78c015359d", func := "ropeline/ropelinelaw10.ExecOwn", spec := "execOwn", inPlace := ["sync/atomic.StoreUint32", "sync/atomic.LoadUint32", "sync/atomic.SwapUint32", "sync/atomic.CompareAndSwapUint32", "sync/atomic.AddUint32"], unfollowed := true, recurses := true, apart := false, narrowed := true }
def ExecOwnUptoSaid : Prop := execOwnUptoRow.holds Try.pinned (OpenSpec.upto execOwnSpec)

end Rows
end Go.Proofs.Ytongllppbifiaaa
