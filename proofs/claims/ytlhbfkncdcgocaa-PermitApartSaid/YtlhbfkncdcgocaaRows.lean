/-
  No cell of these rows narrows 'for every input' (looked for: loops, veiled, ifaces, maps, wideKeys, modest, calm, conditions, laid).
  DERIVED. THE GIVEN ROWS OF THIS SEAT. 13 by the template 'for every input the law returns true; each argument reads behind the call as it read before'; 0 by the template 'total and deterministic' (their statements: YtlhbfkncdcgocaaTotals.lean).
  GIVEN WITH THE SEED: the statements are not yours to turn. If you find one false, say at which input.
  Laid BY PROGRAM, IN A SANDBOX (cutbox-rows.mjs): the forced cells as the released guide's own fill.sh prints them over the translation 32c2e83c71c2e41d… (all of the seat's roots in one cut). By AI agents, Wed Nov 11 2026. No macro, syntax, notation, axiom, sorry.
-/
import Derived.Test.YtlhbfkncdcgocaaChecked
import GoSem.Claim
import GoSem.ClaimJoined
import GoSem.ClaimMapViews
import Derived.JoinedTies
import Derived.KernelRfl
namespace Go.Proofs.Ytlhbfkncdcgocaa
/- THE CELL 'sum', in the pinned program and in every row, IS THE sha256 OF THE DUMP (.gsa) THAT YtlhbfkncdcgocaaProg.lean LOADS. Nothing in Lean hashes anything: it is a label: what it is worth is what the hold of that sum in a sandbox is worth. -/
noncomputable def Try.pinned : Pinned := { name := "ytlhbfkncdcgocaa", sum := "32c2e83c71c2e41d305208f7abe32a6339ff00839158262632429246c7fa54b7", checked := Try.checked }
namespace Rows
def none {H : Type} : Left H := { results := [], args := [] }

/-- 'ropelinelaw02.CellSums': WHATEVER THE INPUT: true; the input reads as it did. -/
def cellSumsSpec : ChangeSpec := { name := "cellSums", fn := fun _ => fun
  | [d1, d2, d3] => { results := [.lit (.bool true)], args := [d1, d2, d3] }
  | _ => none }
def cellSumsRow : OpenClaim := { program := "ytlhbfkncdcgocaa", sum := "32c2e83c71c2e41d305208f7abe32a6339ff00839158262632429246c7fa54b7", func := "ropeline/ropelinelaw02.CellSums", spec := "cellSums", inPlace := ["sync/atomic.StoreUint32", "sync/atomic.AddUint32", "sync/atomic.LoadUint32", "sync/atomic.CompareAndSwapUint32", "sync/atomic.SwapUint32"], apart := false }
def CellSumsSaid : Prop := cellSumsRow.holds Try.pinned (OpenSpec.ofChange cellSumsSpec)

/-- ITS FALSE NEIGHBOUR: 'it returns false'. Refute it at one input. -/
def cellSumsWrong : ChangeSpec := { name := "cellSums", fn := fun _ => fun
  | [d1, d2, d3] => { results := [.lit (.bool false)], args := [d1, d2, d3] }
  | _ => none }
def CellSumsWrongFalsely : Prop := cellSumsRow.holds Try.pinned (OpenSpec.ofChange cellSumsWrong)

/-- 'ropelinelaw03.RingTypes': WHATEVER THE INPUT: true; the input reads as it did. -/
def ringTypesSpec : ChangeSpec := { name := "ringTypes", fn := fun _ => fun
  | [d1, d2] => { results := [.lit (.bool true)], args := [d1, d2] }
  | _ => none }
def ringTypesRow : OpenClaim := { program := "ytlhbfkncdcgocaa", sum := "32c2e83c71c2e41d305208f7abe32a6339ff00839158262632429246c7fa54b7", func := "ropeline/ropelinelaw03.RingTypes", spec := "ringTypes", apart := false }
def RingTypesSaid : Prop := ringTypesRow.holds Try.pinned (OpenSpec.ofChange ringTypesSpec)

/-- ITS FALSE NEIGHBOUR: 'it returns false'. Refute it at one input. -/
def ringTypesWrong : ChangeSpec := { name := "ringTypes", fn := fun _ => fun
  | [d1, d2] => { results := [.lit (.bool false)], args := [d1, d2] }
  | _ => none }
def RingTypesWrongFalsely : Prop := ringTypesRow.holds Try.pinned (OpenSpec.ofChange ringTypesWrong)

/-- 'ropelinelaw03.RingOrder': WHATEVER THE INPUT: true; the input reads as it did. -/
def ringOrderSpec : ChangeSpec := { name := "ringOrder", fn := fun _ => fun
  | [d1, d2] => { results := [.lit (.bool true)], args := [d1, d2] }
  | _ => none }
def ringOrderRow : OpenClaim := { program := "ytlhbfkncdcgocaa", sum := "32c2e83c71c2e41d305208f7abe32a6339ff00839158262632429246c7fa54b7", func := "ropeline/ropelinelaw03.RingOrder", spec := "ringOrder", apart := false }
def RingOrderSaid : Prop := ringOrderRow.holds Try.pinned (OpenSpec.ofChange ringOrderSpec)

/-- ITS FALSE NEIGHBOUR: 'it returns false'. Refute it at one input. -/
def ringOrderWrong : ChangeSpec := { name := "ringOrder", fn := fun _ => fun
  | [d1, d2] => { results := [.lit (.bool false)], args := [d1, d2] }
  | _ => none }
def RingOrderWrongFalsely : Prop := ringOrderRow.holds Try.pinned (OpenSpec.ofChange ringOrderWrong)

/-- 'ropelinelaw26.RoundTurns': WHATEVER THE INPUT: true; the input reads as it did. -/
def roundTurnsSpec : ChangeSpec := { name := "roundTurns", fn := fun _ => fun
  | [d1, d2] => { results := [.lit (.bool true)], args := [d1, d2] }
  | _ => none }
def roundTurnsRow : OpenClaim := { program := "ytlhbfkncdcgocaa", sum := "32c2e83c71c2e41d305208f7abe32a6339ff00839158262632429246c7fa54b7", func := "ropeline/ropelinelaw26.RoundTurns", spec := "roundTurns", apart := false }
def RoundTurnsSaid : Prop := roundTurnsRow.holds Try.pinned (OpenSpec.ofChange roundTurnsSpec)

/-- ITS FALSE NEIGHBOUR: 'it returns false'. Refute it at one input. -/
def roundTurnsWrong : ChangeSpec := { name := "roundTurns", fn := fun _ => fun
  | [d1, d2] => { results := [.lit (.bool false)], args := [d1, d2] }
  | _ => none }
def RoundTurnsWrongFalsely : Prop := roundTurnsRow.holds Try.pinned (OpenSpec.ofChange roundTurnsWrong)

/-- 'ropelinelaw26.RoundNever': WHATEVER THE INPUT: true; the input reads as it did. -/
def roundNeverSpec : ChangeSpec := { name := "roundNever", fn := fun _ => fun
  | [d1, d2] => { results := [.lit (.bool true)], args := [d1, d2] }
  | _ => none }
def roundNeverRow : OpenClaim := { program := "ytlhbfkncdcgocaa", sum := "32c2e83c71c2e41d305208f7abe32a6339ff00839158262632429246c7fa54b7", func := "ropeline/ropelinelaw26.RoundNever", spec := "roundNever", apart := false }
def RoundNeverSaid : Prop := roundNeverRow.holds Try.pinned (OpenSpec.ofChange roundNeverSpec)

/-- ITS FALSE NEIGHBOUR: 'it returns false'. Refute it at one input. -/
def roundNeverWrong : ChangeSpec := { name := "roundNever", fn := fun _ => fun
  | [d1, d2] => { results := [.lit (.bool false)], args := [d1, d2] }
  | _ => none }
def RoundNeverWrongFalsely : Prop := roundNeverRow.holds Try.pinned (OpenSpec.ofChange roundNeverWrong)

/-- 'ropelinelaw02.CellApart': WHATEVER THE INPUT: true; the input reads as it did. -/
def cellApartSpec : ChangeSpec := { name := "cellApart", fn := fun _ => fun
  | [d1, d2] => { results := [.lit (.bool true)], args := [d1, d2] }
  | _ => none }
def cellApartRow : OpenClaim := { program := "ytlhbfkncdcgocaa", sum := "32c2e83c71c2e41d305208f7abe32a6339ff00839158262632429246c7fa54b7", func := "ropeline/ropelinelaw02.CellApart", spec := "cellApart", inPlace := ["sync/atomic.StoreUint32", "sync/atomic.AddUint32", "sync/atomic.LoadUint32", "sync/atomic.SwapUint32", "sync/atomic.CompareAndSwapUint32"], apart := false }
def CellApartSaid : Prop := cellApartRow.holds Try.pinned (OpenSpec.ofChange cellApartSpec)

/-- ITS FALSE NEIGHBOUR: 'it returns false'. Refute it at one input. -/
def cellApartWrong : ChangeSpec := { name := "cellApart", fn := fun _ => fun
  | [d1, d2] => { results := [.lit (.bool false)], args := [d1, d2] }
  | _ => none }
def CellApartWrongFalsely : Prop := cellApartRow.holds Try.pinned (OpenSpec.ofChange cellApartWrong)

/-- 'ropelinelaw02.CellPlays': WHATEVER THE INPUT: true; the input reads as it did. -/
def cellPlaysSpec : ChangeSpec := { name := "cellPlays", fn := fun _ => fun
  | [d1, d2] => { results := [.lit (.bool true)], args := [d1, d2] }
  | _ => none }
def cellPlaysRow : OpenClaim := { program := "ytlhbfkncdcgocaa", sum := "32c2e83c71c2e41d305208f7abe32a6339ff00839158262632429246c7fa54b7", func := "ropeline/ropelinelaw02.CellPlays", spec := "cellPlays", inPlace := ["sync/atomic.StoreUint32", "sync/atomic.AddUint32", "sync/atomic.LoadUint32", "sync/atomic.SwapUint32", "sync/atomic.CompareAndSwapUint32"], apart := false }
def CellPlaysSaid : Prop := cellPlaysRow.holds Try.pinned (OpenSpec.ofChange cellPlaysSpec)

/-- ITS FALSE NEIGHBOUR: 'it returns false'. Refute it at one input. -/
def cellPlaysWrong : ChangeSpec := { name := "cellPlays", fn := fun _ => fun
  | [d1, d2] => { results := [.lit (.bool false)], args := [d1, d2] }
  | _ => none }
def CellPlaysWrongFalsely : Prop := cellPlaysRow.holds Try.pinned (OpenSpec.ofChange cellPlaysWrong)

/-- 'ropelinelaw03.RingPlays': WHATEVER THE INPUT: true; the input reads as it did. -/
def ringPlaysSpec : ChangeSpec := { name := "ringPlays", fn := fun _ => fun
  | [d1, d2] => { results := [.lit (.bool true)], args := [d1, d2] }
  | _ => none }
def ringPlaysRow : OpenClaim := { program := "ytlhbfkncdcgocaa", sum := "32c2e83c71c2e41d305208f7abe32a6339ff00839158262632429246c7fa54b7", func := "ropeline/ropelinelaw03.RingPlays", spec := "ringPlays", apart := false }
def RingPlaysSaid : Prop := ringPlaysRow.holds Try.pinned (OpenSpec.ofChange ringPlaysSpec)

/-- ITS FALSE NEIGHBOUR: 'it returns false'. Refute it at one input. -/
def ringPlaysWrong : ChangeSpec := { name := "ringPlays", fn := fun _ => fun
  | [d1, d2] => { results := [.lit (.bool false)], args := [d1, d2] }
  | _ => none }
def RingPlaysWrongFalsely : Prop := ringPlaysRow.holds Try.pinned (OpenSpec.ofChange ringPlaysWrong)

/-- 'ropelinelaw26.RoundPlays': WHATEVER THE INPUT: true; the input reads as it did. -/
def roundPlaysSpec : ChangeSpec := { name := "roundPlays", fn := fun _ => fun
  | [d1, d2] => { results := [.lit (.bool true)], args := [d1, d2] }
  | _ => none }
def roundPlaysRow : OpenClaim := { program := "ytlhbfkncdcgocaa", sum := "32c2e83c71c2e41d305208f7abe32a6339ff00839158262632429246c7fa54b7", func := "ropeline/ropelinelaw26.RoundPlays", spec := "roundPlays", apart := false }
def RoundPlaysSaid : Prop := roundPlaysRow.holds Try.pinned (OpenSpec.ofChange roundPlaysSpec)

/-- ITS FALSE NEIGHBOUR: 'it returns false'. Refute it at one input. -/
def roundPlaysWrong : ChangeSpec := { name := "roundPlays", fn := fun _ => fun
  | [d1, d2] => { results := [.lit (.bool false)], args := [d1, d2] }
  | _ => none }
def RoundPlaysWrongFalsely : Prop := roundPlaysRow.holds Try.pinned (OpenSpec.ofChange roundPlaysWrong)

/-- 'ropelinelaw26.RoundOwed': WHATEVER THE INPUT: true; the input reads as it did. -/
def roundOwedSpec : ChangeSpec := { name := "roundOwed", fn := fun _ => fun
  | [d] => { results := [.lit (.bool true)], args := [d] }
  | _ => none }
def roundOwedRow : OpenClaim := { program := "ytlhbfkncdcgocaa", sum := "32c2e83c71c2e41d305208f7abe32a6339ff00839158262632429246c7fa54b7", func := "ropeline/ropelinelaw26.RoundOwed", spec := "roundOwed", apart := false }
def RoundOwedSaid : Prop := roundOwedRow.holds Try.pinned (OpenSpec.ofChange roundOwedSpec)

/-- ITS FALSE NEIGHBOUR: 'it returns false'. Refute it at one input. -/
def roundOwedWrong : ChangeSpec := { name := "roundOwed", fn := fun _ => fun
  | [d] => { results := [.lit (.bool false)], args := [d] }
  | _ => none }
def RoundOwedWrongFalsely : Prop := roundOwedRow.holds Try.pinned (OpenSpec.ofChange roundOwedWrong)

/-- 'ropelinelaw04.PermitOnce': WHATEVER THE INPUT: true; the input reads as it did. -/
def permitOnceSpec : ChangeSpec := { name := "permitOnce", fn := fun _ => fun
  | [d1, d2, d3] => { results := [.lit (.bool true)], args := [d1, d2, d3] }
  | _ => none }
def permitOnceRow : OpenClaim := { program := "ytlhbfkncdcgocaa", sum := "32c2e83c71c2e41d305208f7abe32a6339ff00839158262632429246c7fa54b7", func := "ropeline/ropelinelaw04.PermitOnce", spec := "permitOnce", apart := false }
def PermitOnceSaid : Prop := permitOnceRow.holds Try.pinned (OpenSpec.ofChange permitOnceSpec)

/-- ITS FALSE NEIGHBOUR: 'it returns false'. Refute it at one input. -/
def permitOnceWrong : ChangeSpec := { name := "permitOnce", fn := fun _ => fun
  | [d1, d2, d3] => { results := [.lit (.bool false)], args := [d1, d2, d3] }
  | _ => none }
def PermitOnceWrongFalsely : Prop := permitOnceRow.holds Try.pinned (OpenSpec.ofChange permitOnceWrong)

/-- 'ropelinelaw04.PermitPlays': WHATEVER THE INPUT: true; the input reads as it did. -/
def permitPlaysSpec : ChangeSpec := { name := "permitPlays", fn := fun _ => fun
  | [d1, d2] => { results := [.lit (.bool true)], args := [d1, d2] }
  | _ => none }
def permitPlaysRow : OpenClaim := { program := "ytlhbfkncdcgocaa", sum := "32c2e83c71c2e41d305208f7abe32a6339ff00839158262632429246c7fa54b7", func := "ropeline/ropelinelaw04.PermitPlays", spec := "permitPlays", apart := false }
def PermitPlaysSaid : Prop := permitPlaysRow.holds Try.pinned (OpenSpec.ofChange permitPlaysSpec)

/-- ITS FALSE NEIGHBOUR: 'it returns false'. Refute it at one input. -/
def permitPlaysWrong : ChangeSpec := { name := "permitPlays", fn := fun _ => fun
  | [d1, d2] => { results := [.lit (.bool false)], args := [d1, d2] }
  | _ => none }
def PermitPlaysWrongFalsely : Prop := permitPlaysRow.holds Try.pinned (OpenSpec.ofChange permitPlaysWrong)

/-- 'ropelinelaw04.PermitApart': WHATEVER THE INPUT: true; the input reads as it did. -/
def permitApartSpec : ChangeSpec := { name := "permitApart", fn := fun _ => fun
  | [d1, d2] => { results := [.lit (.bool true)], args := [d1, d2] }
  | _ => none }
def permitApartRow : OpenClaim := { program := "ytlhbfkncdcgocaa", sum := "32c2e83c71c2e41d305208f7abe32a6339ff00839158262632429246c7fa54b7", func := "ropeline/ropelinelaw04.PermitApart", spec := "permitApart", apart := false }
def PermitApartSaid : Prop := permitApartRow.holds Try.pinned (OpenSpec.ofChange permitApartSpec)

/-- ITS FALSE NEIGHBOUR: 'it returns false'. Refute it at one input. -/
def permitApartWrong : ChangeSpec := { name := "permitApart", fn := fun _ => fun
  | [d1, d2] => { results := [.lit (.bool false)], args := [d1, d2] }
  | _ => none }
def PermitApartWrongFalsely : Prop := permitApartRow.holds Try.pinned (OpenSpec.ofChange permitApartWrong)

/- THE SECOND FORM. 'bulk': how many values and letters a reading holds, each counted each time it is reached (what is shared counts as often as it is met; a slice's spare places count too). A statement '..UptoSaid' is the law's where the arguments, and the package variables that the reading takes, are together of bulk at most 1048576: NARROWER than '..Said'. Prove '..Said' where nothing that the law and all that it calls make is longer than what came in: it says more and counts as full. Else prove '..UptoSaid'. A law counts once. -/
mutual
def uptoBulk {H : Type} : DataW H → Nat
  | .lit (.string bytes) => bytes.length + 1
  | .lit _ => 1
  | .nil => 1
  | .ptr d => uptoBulk d + 1
  | .slice elems spare => uptoBulkAll elems + uptoBulkAll spare + 1
  | .agg parts => uptoBulkAll parts + 1
  | .iface _ d => uptoBulk d + 1
  | .map entries => uptoBulkEntries entries + 1
  | .held _ => 1
def uptoBulkAll {H : Type} : List (DataW H) → Nat
  | [] => 0
  | d :: r => uptoBulk d + uptoBulkAll r
def uptoBulkEntries {H : Type} : List (Lit × DataW H) → Nat
  | [] => 0
  | x :: r => uptoBulkEntry x + uptoBulkEntries r
def uptoBulkEntry {H : Type} : Lit × DataW H → Nat
  | (.string bytes, d) => bytes.length + uptoBulk d + 1
  | (_, d) => uptoBulk d + 1
 end
def uptoSmall : (H : Type) → List (DataW H) → Bool := fun _ ds => decide (uptoBulkAll ds ≤ 1048576)
def OpenSpec.upto (s : _root_.Go.ChangeSpec) : _root_.Go.OpenSpec := { _root_.Go.OpenSpec.ofChange s with cond := some uptoSmall }

/-- 'ropelinelaw02.CellSums', WHERE WHAT IT READS IS OF BULK AT MOST 1048576: true; the input reads as it did. -/
def cellSumsUptoRow : OpenClaim := { program := "ytlhbfkncdcgocaa", sum := "32c2e83c71c2e41d305208f7abe32a6339ff00839158262632429246c7fa54b7", func := "ropeline/ropelinelaw02.CellSums", spec := "cellSums", inPlace := ["sync/atomic.StoreUint32", "sync/atomic.AddUint32", "sync/atomic.LoadUint32", "sync/atomic.CompareAndSwapUint32", "sync/atomic.SwapUint32"], apart := false, narrowed := true }
def CellSumsUptoSaid : Prop := cellSumsUptoRow.holds Try.pinned (OpenSpec.upto cellSumsSpec)

/-- 'ropelinelaw03.RingTypes', WHERE WHAT IT READS IS OF BULK AT MOST 1048576: true; the input reads as it did. -/
def ringTypesUptoRow : OpenClaim := { program := "ytlhbfkncdcgocaa", sum := "32c2e83c71c2e41d305208f7abe32a6339ff00839158262632429246c7fa54b7", func := "ropeline/ropelinelaw03.RingTypes", spec := "ringTypes", apart := false, narrowed := true }
def RingTypesUptoSaid : Prop := ringTypesUptoRow.holds Try.pinned (OpenSpec.upto ringTypesSpec)

/-- 'ropelinelaw03.RingOrder', WHERE WHAT IT READS IS OF BULK AT MOST 1048576: true; the input reads as it did. -/
def ringOrderUptoRow : OpenClaim := { program := "ytlhbfkncdcgocaa", sum := "32c2e83c71c2e41d305208f7abe32a6339ff00839158262632429246c7fa54b7", func := "ropeline/ropelinelaw03.RingOrder", spec := "ringOrder", apart := false, narrowed := true }
def RingOrderUptoSaid : Prop := ringOrderUptoRow.holds Try.pinned (OpenSpec.upto ringOrderSpec)

/-- 'ropelinelaw26.RoundTurns', WHERE WHAT IT READS IS OF BULK AT MOST 1048576: true; the input reads as it did. -/
def roundTurnsUptoRow : OpenClaim := { program := "ytlhbfkncdcgocaa", sum := "32c2e83c71c2e41d305208f7abe32a6339ff00839158262632429246c7fa54b7", func := "ropeline/ropelinelaw26.RoundTurns", spec := "roundTurns", apart := false, narrowed := true }
def RoundTurnsUptoSaid : Prop := roundTurnsUptoRow.holds Try.pinned (OpenSpec.upto roundTurnsSpec)

/-- 'ropelinelaw26.RoundNever', WHERE WHAT IT READS IS OF BULK AT MOST 1048576: true; the input reads as it did. -/
def roundNeverUptoRow : OpenClaim := { program := "ytlhbfkncdcgocaa", sum := "32c2e83c71c2e41d305208f7abe32a6339ff00839158262632429246c7fa54b7", func := "ropeline/ropelinelaw26.RoundNever", spec := "roundNever", apart := false, narrowed := true }
def RoundNeverUptoSaid : Prop := roundNeverUptoRow.holds Try.pinned (OpenSpec.upto roundNeverSpec)

/-- 'ropelinelaw02.CellApart', WHERE WHAT IT READS IS OF BULK AT MOST 1048576: true; the input reads as it did. -/
def cellApartUptoRow : OpenClaim := { program := "ytlhbfkncdcgocaa", sum := "32c2e83c71c2e41d305208f7abe32a6339ff00839158262632429246c7fa54b7", func := "ropeline/ropelinelaw02.CellApart", spec := "cellApart", inPlace := ["sync/atomic.StoreUint32", "sync/atomic.AddUint32", "sync/atomic.LoadUint32", "sync/atomic.SwapUint32", "sync/atomic.CompareAndSwapUint32"], apart := false, narrowed := true }
def CellApartUptoSaid : Prop := cellApartUptoRow.holds Try.pinned (OpenSpec.upto cellApartSpec)

/-- 'ropelinelaw02.CellPlays', WHERE WHAT IT READS IS OF BULK AT MOST 1048576: true; the input reads as it did. -/
def cellPlaysUptoRow : OpenClaim := { program := "ytlhbfkncdcgocaa", sum := "32c2e83c71c2e41d305208f7abe32a6339ff00839158262632429246c7fa54b7", func := "ropeline/ropelinelaw02.CellPlays", spec := "cellPlays", inPlace := ["sync/atomic.StoreUint32", "sync/atomic.AddUint32", "sync/atomic.LoadUint32", "sync/atomic.SwapUint32", "sync/atomic.CompareAndSwapUint32"], apart := false, narrowed := true }
def CellPlaysUptoSaid : Prop := cellPlaysUptoRow.holds Try.pinned (OpenSpec.upto cellPlaysSpec)

/-- 'ropelinelaw03.RingPlays', WHERE WHAT IT READS IS OF BULK AT MOST 1048576: true; the input reads as it did. -/
def ringPlaysUptoRow : OpenClaim := { program := "ytlhbfkncdcgocaa", sum := "32c2e83c71c2e41d305208f7abe32a6339ff00839158262632429246c7fa54b7", func := "ropeline/ropelinelaw03.RingPlays", spec := "ringPlays", apart := false, narrowed := true }
def RingPlaysUptoSaid : Prop := ringPlaysUptoRow.holds Try.pinned (OpenSpec.upto ringPlaysSpec)

/-- 'ropelinelaw26.RoundPlays', WHERE WHAT IT READS IS OF BULK AT MOST 1048576: true; the input reads as it did. -/
def roundPlaysUptoRow : OpenClaim := { program := "ytlhbfkncdcgocaa", sum := "32c2e83c71c2e41d305208f7abe32a6339ff00839158262632429246c7fa54b7", func := "ropeline/ropelinelaw26.RoundPlays", spec := "roundPlays", apart := false, narrowed := true }
def RoundPlaysUptoSaid : Prop := roundPlaysUptoRow.holds Try.pinned (OpenSpec.upto roundPlaysSpec)

/-- 'ropelinelaw26.RoundOwed', WHERE WHAT IT READS IS OF BULK AT MOST 1048576: true; the input reads as it did. -/
def roundOwedUptoRow : OpenClaim := { program := "ytlhbfkncdcgocaa", sum := "32c2e83c71c2e41d305208f7abe32a6339ff00839158262632429246c7fa54b7", func := "ropeline/ropelinelaw26.RoundOwed", spec := "roundOwed", apart := false, narrowed := true }
def RoundOwedUptoSaid : Prop := roundOwedUptoRow.holds Try.pinned (OpenSpec.upto roundOwedSpec)

/-- 'ropelinelaw04.PermitOnce', WHERE WHAT IT READS IS OF BULK AT MOST 1048576: true; the input reads as it did. -/
def permitOnceUptoRow : OpenClaim := { program := "ytlhbfkncdcgocaa", sum := "32c2e83c71c2e41d305208f7abe32a6339ff00839158262632429246c7fa54b7", func := "ropeline/ropelinelaw04.PermitOnce", spec := "permitOnce", apart := false, narrowed := true }
def PermitOnceUptoSaid : Prop := permitOnceUptoRow.holds Try.pinned (OpenSpec.upto permitOnceSpec)

/-- 'ropelinelaw04.PermitPlays', WHERE WHAT IT READS IS OF BULK AT MOST 1048576: true; the input reads as it did. -/
def permitPlaysUptoRow : OpenClaim := { program := "ytlhbfkncdcgocaa", sum := "32c2e83c71c2e41d305208f7abe32a6339ff00839158262632429246c7fa54b7", func := "ropeline/ropelinelaw04.PermitPlays", spec := "permitPlays", apart := false, narrowed := true }
def PermitPlaysUptoSaid : Prop := permitPlaysUptoRow.holds Try.pinned (OpenSpec.upto permitPlaysSpec)

/-- 'ropelinelaw04.PermitApart', WHERE WHAT IT READS IS OF BULK AT MOST 1048576: true; the input reads as it did. -/
def permitApartUptoRow : OpenClaim := { program := "ytlhbfkncdcgocaa", sum := "32c2e83c71c2e41d305208f7abe32a6339ff00839158262632429246c7fa54b7", func := "ropeline/ropelinelaw04.PermitApart", spec := "permitApart", apart := false, narrowed := true }
def PermitApartUptoSaid : Prop := permitApartUptoRow.holds Try.pinned (OpenSpec.upto permitApartSpec)

end Rows
end Go.Proofs.Ytlhbfkncdcgocaa
