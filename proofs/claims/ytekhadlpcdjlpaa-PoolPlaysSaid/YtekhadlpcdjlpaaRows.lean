/-
  No cell of these rows narrows 'for every input' (looked for: loops, veiled, ifaces, maps, wideKeys, modest, calm, conditions, laid).
  DERIVED. THE GIVEN ROWS OF THIS SEAT. 18 by the template 'for every input the law returns true; each argument reads behind the call as it read before'; 0 by the template 'total and deterministic' (their statements: YtekhadlpcdjlpaaTotals.lean).
  GIVEN WITH THE SEED: the statements are not yours to turn. If you find one false, say at which input.
  Laid BY PROGRAM, IN A SANDBOX (cutbox-rows.mjs): the forced cells as the released guide's own fill.sh prints them over the translation 8951e360cbd4a8b7… (all of the seat's roots in one cut). By AI agents, Wed Nov 11 2026. No macro, syntax, notation, axiom, sorry.
-/
import Derived.Test.YtekhadlpcdjlpaaChecked
import GoSem.Claim
import GoSem.ClaimJoined
import GoSem.ClaimMapViews
import Derived.JoinedTies
import Derived.KernelRfl
namespace Go.Proofs.Ytekhadlpcdjlpaa
/- THE CELL 'sum', in the pinned program and in every row, IS THE sha256 OF THE DUMP (.gsa) THAT YtekhadlpcdjlpaaProg.lean LOADS. Nothing in Lean hashes anything: it is a label: what it is worth is what the hold of that sum in a sandbox is worth. -/
noncomputable def Try.pinned : Pinned := { name := "ytekhadlpcdjlpaa", sum := "8951e360cbd4a8b70a8560b45b2ee150788e3e504a7671962842813115aa5b88", checked := Try.checked }
namespace Rows
def none {H : Type} : Left H := { results := [], args := [] }

/-- 'ropelinelaw09.MemOwn': WHATEVER THE INPUT: true; the input reads as it did. -/
def memOwnSpec : ChangeSpec := { name := "memOwn", fn := fun _ => fun
  | [d] => { results := [.lit (.bool true)], args := [d] }
  | _ => none }
def memOwnRow : OpenClaim := { program := "ytekhadlpcdjlpaa", sum := "8951e360cbd4a8b70a8560b45b2ee150788e3e504a7671962842813115aa5b88", func := "ropeline/ropelinelaw09.MemOwn", spec := "memOwn", inPlace := ["sync/atomic.StoreUint32", "sync/atomic.LoadUint32"], apart := false }
def MemOwnSaid : Prop := memOwnRow.holds Try.pinned (OpenSpec.ofChange memOwnSpec)

/-- ITS FALSE NEIGHBOUR: 'it returns false'. Refute it at one input. -/
def memOwnWrong : ChangeSpec := { name := "memOwn", fn := fun _ => fun
  | [d] => { results := [.lit (.bool false)], args := [d] }
  | _ => none }
def MemOwnWrongFalsely : Prop := memOwnRow.holds Try.pinned (OpenSpec.ofChange memOwnWrong)

/-- 'ropelinelaw09.MemAddress': WHATEVER THE INPUT: true; the input reads as it did. -/
def memAddressSpec : ChangeSpec := { name := "memAddress", fn := fun _ => fun
  | [d] => { results := [.lit (.bool true)], args := [d] }
  | _ => none }
def memAddressRow : OpenClaim := { program := "ytekhadlpcdjlpaa", sum := "8951e360cbd4a8b70a8560b45b2ee150788e3e504a7671962842813115aa5b88", func := "ropeline/ropelinelaw09.MemAddress", spec := "memAddress", inPlace := ["sync/atomic.StoreUint32", "sync/atomic.LoadUint32"], apart := false }
def MemAddressSaid : Prop := memAddressRow.holds Try.pinned (OpenSpec.ofChange memAddressSpec)

/-- ITS FALSE NEIGHBOUR: 'it returns false'. Refute it at one input. -/
def memAddressWrong : ChangeSpec := { name := "memAddress", fn := fun _ => fun
  | [d] => { results := [.lit (.bool false)], args := [d] }
  | _ => none }
def MemAddressWrongFalsely : Prop := memAddressRow.holds Try.pinned (OpenSpec.ofChange memAddressWrong)

/-- 'ropelinelaw09.MemMakes': WHATEVER THE INPUT: true; the input reads as it did. -/
def memMakesSpec : ChangeSpec := { name := "memMakes", fn := fun _ => fun
  | [d1, d2, d3] => { results := [.lit (.bool true)], args := [d1, d2, d3] }
  | _ => none }
def memMakesRow : OpenClaim := { program := "ytekhadlpcdjlpaa", sum := "8951e360cbd4a8b70a8560b45b2ee150788e3e504a7671962842813115aa5b88", func := "ropeline/ropelinelaw09.MemMakes", spec := "memMakes", inPlace := ["sync/atomic.StoreUint32", "sync/atomic.LoadUint32"], apart := false }
def MemMakesSaid : Prop := memMakesRow.holds Try.pinned (OpenSpec.ofChange memMakesSpec)

/-- ITS FALSE NEIGHBOUR: 'it returns false'. Refute it at one input. -/
def memMakesWrong : ChangeSpec := { name := "memMakes", fn := fun _ => fun
  | [d1, d2, d3] => { results := [.lit (.bool false)], args := [d1, d2, d3] }
  | _ => none }
def MemMakesWrongFalsely : Prop := memMakesRow.holds Try.pinned (OpenSpec.ofChange memMakesWrong)

/-- 'ropelinelaw25.OrderMore': WHATEVER THE INPUT: true; the input reads as it did. -/
def orderMoreSpec : ChangeSpec := { name := "orderMore", fn := fun _ => fun
  | [d1, d2] => { results := [.lit (.bool true)], args := [d1, d2] }
  | _ => none }
def orderMoreRow : OpenClaim := { program := "ytekhadlpcdjlpaa", sum := "8951e360cbd4a8b70a8560b45b2ee150788e3e504a7671962842813115aa5b88", func := "ropeline/ropelinelaw25.OrderMore", spec := "orderMore", apart := false }
def OrderMoreSaid : Prop := orderMoreRow.holds Try.pinned (OpenSpec.ofChange orderMoreSpec)

/-- ITS FALSE NEIGHBOUR: 'it returns false'. Refute it at one input. -/
def orderMoreWrong : ChangeSpec := { name := "orderMore", fn := fun _ => fun
  | [d1, d2] => { results := [.lit (.bool false)], args := [d1, d2] }
  | _ => none }
def OrderMoreWrongFalsely : Prop := orderMoreRow.holds Try.pinned (OpenSpec.ofChange orderMoreWrong)

/-- 'ropelinelaw09.MemApart': WHATEVER THE INPUT: true; the input reads as it did. -/
def memApartSpec : ChangeSpec := { name := "memApart", fn := fun _ => fun
  | [d] => { results := [.lit (.bool true)], args := [d] }
  | _ => none }
def memApartRow : OpenClaim := { program := "ytekhadlpcdjlpaa", sum := "8951e360cbd4a8b70a8560b45b2ee150788e3e504a7671962842813115aa5b88", func := "ropeline/ropelinelaw09.MemApart", spec := "memApart", inPlace := ["sync/atomic.StoreUint32", "sync/atomic.LoadUint32"], apart := false }
def MemApartSaid : Prop := memApartRow.holds Try.pinned (OpenSpec.ofChange memApartSpec)

/-- ITS FALSE NEIGHBOUR: 'it returns false'. Refute it at one input. -/
def memApartWrong : ChangeSpec := { name := "memApart", fn := fun _ => fun
  | [d] => { results := [.lit (.bool false)], args := [d] }
  | _ => none }
def MemApartWrongFalsely : Prop := memApartRow.holds Try.pinned (OpenSpec.ofChange memApartWrong)

/-- 'ropelinelaw25.OrderTells': WHATEVER THE INPUT: true; the input reads as it did. -/
def orderTellsSpec : ChangeSpec := { name := "orderTells", fn := fun _ => fun
  | [d] => { results := [.lit (.bool true)], args := [d] }
  | _ => none }
def orderTellsRow : OpenClaim := { program := "ytekhadlpcdjlpaa", sum := "8951e360cbd4a8b70a8560b45b2ee150788e3e504a7671962842813115aa5b88", func := "ropeline/ropelinelaw25.OrderTells", spec := "orderTells", apart := false }
def OrderTellsSaid : Prop := orderTellsRow.holds Try.pinned (OpenSpec.ofChange orderTellsSpec)

/-- ITS FALSE NEIGHBOUR: 'it returns false'. Refute it at one input. -/
def orderTellsWrong : ChangeSpec := { name := "orderTells", fn := fun _ => fun
  | [d] => { results := [.lit (.bool false)], args := [d] }
  | _ => none }
def OrderTellsWrongFalsely : Prop := orderTellsRow.holds Try.pinned (OpenSpec.ofChange orderTellsWrong)

/-- 'ropelinelaw05.PoolOrder': WHATEVER THE INPUT: true; the input reads as it did. -/
def poolOrderSpec : ChangeSpec := { name := "poolOrder", fn := fun _ => fun
  | [d1, d2] => { results := [.lit (.bool true)], args := [d1, d2] }
  | _ => none }
def poolOrderRow : OpenClaim := { program := "ytekhadlpcdjlpaa", sum := "8951e360cbd4a8b70a8560b45b2ee150788e3e504a7671962842813115aa5b88", func := "ropeline/ropelinelaw05.PoolOrder", spec := "poolOrder", apart := false }
def PoolOrderSaid : Prop := poolOrderRow.holds Try.pinned (OpenSpec.ofChange poolOrderSpec)

/-- ITS FALSE NEIGHBOUR: 'it returns false'. Refute it at one input. -/
def poolOrderWrong : ChangeSpec := { name := "poolOrder", fn := fun _ => fun
  | [d1, d2] => { results := [.lit (.bool false)], args := [d1, d2] }
  | _ => none }
def PoolOrderWrongFalsely : Prop := poolOrderRow.holds Try.pinned (OpenSpec.ofChange poolOrderWrong)

/-- 'ropelinelaw05.PoolStale': WHATEVER THE INPUT: true; the input reads as it did. -/
def poolStaleSpec : ChangeSpec := { name := "poolStale", fn := fun _ => fun
  | [d1, d2] => { results := [.lit (.bool true)], args := [d1, d2] }
  | _ => none }
def poolStaleRow : OpenClaim := { program := "ytekhadlpcdjlpaa", sum := "8951e360cbd4a8b70a8560b45b2ee150788e3e504a7671962842813115aa5b88", func := "ropeline/ropelinelaw05.PoolStale", spec := "poolStale", apart := false }
def PoolStaleSaid : Prop := poolStaleRow.holds Try.pinned (OpenSpec.ofChange poolStaleSpec)

/-- ITS FALSE NEIGHBOUR: 'it returns false'. Refute it at one input. -/
def poolStaleWrong : ChangeSpec := { name := "poolStale", fn := fun _ => fun
  | [d1, d2] => { results := [.lit (.bool false)], args := [d1, d2] }
  | _ => none }
def PoolStaleWrongFalsely : Prop := poolStaleRow.holds Try.pinned (OpenSpec.ofChange poolStaleWrong)

/-- 'ropelinelaw05.PoolWhole': WHATEVER THE INPUT: true; the input reads as it did. -/
def poolWholeSpec : ChangeSpec := { name := "poolWhole", fn := fun _ => fun
  | [d1, d2] => { results := [.lit (.bool true)], args := [d1, d2] }
  | _ => none }
def poolWholeRow : OpenClaim := { program := "ytekhadlpcdjlpaa", sum := "8951e360cbd4a8b70a8560b45b2ee150788e3e504a7671962842813115aa5b88", func := "ropeline/ropelinelaw05.PoolWhole", spec := "poolWhole", apart := false }
def PoolWholeSaid : Prop := poolWholeRow.holds Try.pinned (OpenSpec.ofChange poolWholeSpec)

/-- ITS FALSE NEIGHBOUR: 'it returns false'. Refute it at one input. -/
def poolWholeWrong : ChangeSpec := { name := "poolWhole", fn := fun _ => fun
  | [d1, d2] => { results := [.lit (.bool false)], args := [d1, d2] }
  | _ => none }
def PoolWholeWrongFalsely : Prop := poolWholeRow.holds Try.pinned (OpenSpec.ofChange poolWholeWrong)

/-- 'ropelinelaw11.ParkAll': WHATEVER THE INPUT: true; the input reads as it did. -/
def parkAllSpec : ChangeSpec := { name := "parkAll", fn := fun _ => fun
  | [d1, d2] => { results := [.lit (.bool true)], args := [d1, d2] }
  | _ => none }
def parkAllRow : OpenClaim := { program := "ytekhadlpcdjlpaa", sum := "8951e360cbd4a8b70a8560b45b2ee150788e3e504a7671962842813115aa5b88", func := "ropeline/ropelinelaw11.ParkAll", spec := "parkAll", apart := false }
def ParkAllSaid : Prop := parkAllRow.holds Try.pinned (OpenSpec.ofChange parkAllSpec)

/-- ITS FALSE NEIGHBOUR: 'it returns false'. Refute it at one input. -/
def parkAllWrong : ChangeSpec := { name := "parkAll", fn := fun _ => fun
  | [d1, d2] => { results := [.lit (.bool false)], args := [d1, d2] }
  | _ => none }
def ParkAllWrongFalsely : Prop := parkAllRow.holds Try.pinned (OpenSpec.ofChange parkAllWrong)

/-- 'ropelinelaw05.PoolPlays': WHATEVER THE INPUT: true; the input reads as it did. -/
def poolPlaysSpec : ChangeSpec := { name := "poolPlays", fn := fun _ => fun
  | [d1, d2, d3] => { results := [.lit (.bool true)], args := [d1, d2, d3] }
  | _ => none }
def poolPlaysRow : OpenClaim := { program := "ytekhadlpcdjlpaa", sum := "8951e360cbd4a8b70a8560b45b2ee150788e3e504a7671962842813115aa5b88", func := "ropeline/ropelinelaw05.PoolPlays", spec := "poolPlays", apart := false }
def PoolPlaysSaid : Prop := poolPlaysRow.holds Try.pinned (OpenSpec.ofChange poolPlaysSpec)

/-- ITS FALSE NEIGHBOUR: 'it returns false'. Refute it at one input. -/
def poolPlaysWrong : ChangeSpec := { name := "poolPlays", fn := fun _ => fun
  | [d1, d2, d3] => { results := [.lit (.bool false)], args := [d1, d2, d3] }
  | _ => none }
def PoolPlaysWrongFalsely : Prop := poolPlaysRow.holds Try.pinned (OpenSpec.ofChange poolPlaysWrong)

/-- 'ropelinelaw11.ParkPlays': WHATEVER THE INPUT: true; the input reads as it did. -/
def parkPlaysSpec : ChangeSpec := { name := "parkPlays", fn := fun _ => fun
  | [d1, d2, d3] => { results := [.lit (.bool true)], args := [d1, d2, d3] }
  | _ => none }
def parkPlaysRow : OpenClaim := { program := "ytekhadlpcdjlpaa", sum := "8951e360cbd4a8b70a8560b45b2ee150788e3e504a7671962842813115aa5b88", func := "ropeline/ropelinelaw11.ParkPlays", spec := "parkPlays", apart := false }
def ParkPlaysSaid : Prop := parkPlaysRow.holds Try.pinned (OpenSpec.ofChange parkPlaysSpec)

/-- ITS FALSE NEIGHBOUR: 'it returns false'. Refute it at one input. -/
def parkPlaysWrong : ChangeSpec := { name := "parkPlays", fn := fun _ => fun
  | [d1, d2, d3] => { results := [.lit (.bool false)], args := [d1, d2, d3] }
  | _ => none }
def ParkPlaysWrongFalsely : Prop := parkPlaysRow.holds Try.pinned (OpenSpec.ofChange parkPlaysWrong)

/-- 'ropelinelaw11.ParkBudget': WHATEVER THE INPUT: true; the input reads as it did. -/
def parkBudgetSpec : ChangeSpec := { name := "parkBudget", fn := fun _ => fun
  | [d1, d2, d3] => { results := [.lit (.bool true)], args := [d1, d2, d3] }
  | _ => none }
def parkBudgetRow : OpenClaim := { program := "ytekhadlpcdjlpaa", sum := "8951e360cbd4a8b70a8560b45b2ee150788e3e504a7671962842813115aa5b88", func := "ropeline/ropelinelaw11.ParkBudget", spec := "parkBudget", apart := false }
def ParkBudgetSaid : Prop := parkBudgetRow.holds Try.pinned (OpenSpec.ofChange parkBudgetSpec)

/-- ITS FALSE NEIGHBOUR: 'it returns false'. Refute it at one input. -/
def parkBudgetWrong : ChangeSpec := { name := "parkBudget", fn := fun _ => fun
  | [d1, d2, d3] => { results := [.lit (.bool false)], args := [d1, d2, d3] }
  | _ => none }
def ParkBudgetWrongFalsely : Prop := parkBudgetRow.holds Try.pinned (OpenSpec.ofChange parkBudgetWrong)

/-- 'ropelinelaw13.FifoChecks': WHATEVER THE INPUT: true; the input reads as it did. -/
def fifoChecksSpec : ChangeSpec := { name := "fifoChecks", fn := fun _ => fun
  | [d1, d2] => { results := [.lit (.bool true)], args := [d1, d2] }
  | _ => none }
def fifoChecksRow : OpenClaim := { program := "ytekhadlpcdjlpaa", sum := "8951e360cbd4a8b70a8560b45b2ee150788e3e504a7671962842813115aa5b88", func := "ropeline/ropelinelaw13.FifoChecks", spec := "fifoChecks", unfollowed := true, recurses := true, apart := false }
def FifoChecksSaid : Prop := fifoChecksRow.holds Try.pinned (OpenSpec.ofChange fifoChecksSpec)

/-- ITS FALSE NEIGHBOUR: 'it returns false'. Refute it at one input. -/
def fifoChecksWrong : ChangeSpec := { name := "fifoChecks", fn := fun _ => fun
  | [d1, d2] => { results := [.lit (.bool false)], args := [d1, d2] }
  | _ => none }
def FifoChecksWrongFalsely : Prop := fifoChecksRow.holds Try.pinned (OpenSpec.ofChange fifoChecksWrong)

/-- 'ropelinelaw13.FifoBegins': WHATEVER THE INPUT: true; the input reads as it did. -/
def fifoBeginsSpec : ChangeSpec := { name := "fifoBegins", fn := fun _ => fun
  | [d1, d2, d3] => { results := [.lit (.bool true)], args := [d1, d2, d3] }
  | _ => none }
def fifoBeginsRow : OpenClaim := { program := "ytekhadlpcdjlpaa", sum := "8951e360cbd4a8b70a8560b45b2ee150788e3e504a7671962842813115aa5b88", func := "ropeline/ropelinelaw13.FifoBegins", spec := "fifoBegins", unfollowed := true, recurses := true, apart := false }
def FifoBeginsSaid : Prop := fifoBeginsRow.holds Try.pinned (OpenSpec.ofChange fifoBeginsSpec)

/-- ITS FALSE NEIGHBOUR: 'it returns false'. Refute it at one input. -/
def fifoBeginsWrong : ChangeSpec := { name := "fifoBegins", fn := fun _ => fun
  | [d1, d2, d3] => { results := [.lit (.bool false)], args := [d1, d2, d3] }
  | _ => none }
def FifoBeginsWrongFalsely : Prop := fifoBeginsRow.holds Try.pinned (OpenSpec.ofChange fifoBeginsWrong)

/-- 'ropelinelaw13.FifoOne': WHATEVER THE INPUT: true; the input reads as it did. -/
def fifoOneSpec : ChangeSpec := { name := "fifoOne", fn := fun _ => fun
  | [d1, d2] => { results := [.lit (.bool true)], args := [d1, d2] }
  | _ => none }
def fifoOneRow : OpenClaim := { program := "ytekhadlpcdjlpaa", sum := "8951e360cbd4a8b70a8560b45b2ee150788e3e504a7671962842813115aa5b88", func := "ropeline/ropelinelaw13.FifoOne", spec := "fifoOne", unfollowed := true, recurses := true, apart := false }
def FifoOneSaid : Prop := fifoOneRow.holds Try.pinned (OpenSpec.ofChange fifoOneSpec)

/-- ITS FALSE NEIGHBOUR: 'it returns false'. Refute it at one input. -/
def fifoOneWrong : ChangeSpec := { name := "fifoOne", fn := fun _ => fun
  | [d1, d2] => { results := [.lit (.bool false)], args := [d1, d2] }
  | _ => none }
def FifoOneWrongFalsely : Prop := fifoOneRow.holds Try.pinned (OpenSpec.ofChange fifoOneWrong)

/-- 'ropelinelaw13.FifoTakes': WHATEVER THE INPUT: true; the input reads as it did. -/
def fifoTakesSpec : ChangeSpec := { name := "fifoTakes", fn := fun _ => fun
  | [d1, d2] => { results := [.lit (.bool true)], args := [d1, d2] }
  | _ => none }
def fifoTakesRow : OpenClaim := { program := "ytekhadlpcdjlpaa", sum := "8951e360cbd4a8b70a8560b45b2ee150788e3e504a7671962842813115aa5b88", func := "ropeline/ropelinelaw13.FifoTakes", spec := "fifoTakes", unfollowed := true, recurses := true, apart := false }
def FifoTakesSaid : Prop := fifoTakesRow.holds Try.pinned (OpenSpec.ofChange fifoTakesSpec)

/-- ITS FALSE NEIGHBOUR: 'it returns false'. Refute it at one input. -/
def fifoTakesWrong : ChangeSpec := { name := "fifoTakes", fn := fun _ => fun
  | [d1, d2] => { results := [.lit (.bool false)], args := [d1, d2] }
  | _ => none }
def FifoTakesWrongFalsely : Prop := fifoTakesRow.holds Try.pinned (OpenSpec.ofChange fifoTakesWrong)

/-- 'ropelinelaw13.FifoStates': WHATEVER THE INPUT: true; the input reads as it did. -/
def fifoStatesSpec : ChangeSpec := { name := "fifoStates", fn := fun _ => fun
  | [d1, d2] => { results := [.lit (.bool true)], args := [d1, d2] }
  | _ => none }
def fifoStatesRow : OpenClaim := { program := "ytekhadlpcdjlpaa", sum := "8951e360cbd4a8b70a8560b45b2ee150788e3e504a7671962842813115aa5b88", func := "ropeline/ropelinelaw13.FifoStates", spec := "fifoStates", unfollowed := true, recurses := true, apart := false }
def FifoStatesSaid : Prop := fifoStatesRow.holds Try.pinned (OpenSpec.ofChange fifoStatesSpec)

/-- ITS FALSE NEIGHBOUR: 'it returns false'. Refute it at one input. -/
def fifoStatesWrong : ChangeSpec := { name := "fifoStates", fn := fun _ => fun
  | [d1, d2] => { results := [.lit (.bool false)], args := [d1, d2] }
  | _ => none }
def FifoStatesWrongFalsely : Prop := fifoStatesRow.holds Try.pinned (OpenSpec.ofChange fifoStatesWrong)

/- THE SECOND FORM. 'bulk': how many values and letters a reading holds, each counted each time it is reached (what is shared counts as often as it is met; a slice's spare places count too). A statement '..UptoSaid' is the law's where the arguments, and the package variables that the reading takes, are together of bulk at most 1048576: NARROWER than '..Said'. Prove '..Said' where nothing that the law and all that it calls make is longer than what came in: it says more and counts as full. Else prove '..UptoSaid'. A law counts once. -/
mutual
def uptoBulk {H : Type} : DataW H → Nat
  | .lit (.string bytes) => bytes.length + 1
  | .lit _ => 1
  | .nil => 1
  | .ptr d => uptoBulk d + 1
  | .slice elems spare => uptoBulkAll elems + uptoBulkAll spare + 1
  | .agg parts => uptoBulkAll parts + 1
  | .iface _ d => uptoBulk d + 1
  | .map entries => uptoBulkEntries entries + 1
  | .held _ => 1
def uptoBulkAll {H : Type} : List (DataW H) → Nat
  | [] => 0
  | d :: r => uptoBulk d + uptoBulkAll r
def uptoBulkEntries {H : Type} : List (Lit × DataW H) → Nat
  | [] => 0
  | x :: r => uptoBulkEntry x + uptoBulkEntries r
def uptoBulkEntry {H : Type} : Lit × DataW H → Nat
  | (.string bytes, d) => bytes.length + uptoBulk d + 1
  | (_, d) => uptoBulk d + 1
 end
def uptoSmall : (H : Type) → List (DataW H) → Bool := fun _ ds => decide (uptoBulkAll ds ≤ 1048576)
def OpenSpec.upto (s : _root_.Go.ChangeSpec) : _root_.Go.OpenSpec := { _root_.Go.OpenSpec.ofChange s with cond := some uptoSmall }

/-- 'ropelinelaw09.MemOwn', WHERE WHAT IT READS IS OF BULK AT MOST 1048576: true; the input reads as it did. -/
def memOwnUptoRow : OpenClaim := { program := "ytekhadlpcdjlpaa", sum := "8951e360cbd4a8b70a8560b45b2ee150788e3e504a7671962842813115aa5b88", func := "ropeline/ropelinelaw09.MemOwn", spec := "memOwn", inPlace := ["sync/atomic.StoreUint32", "sync/atomic.LoadUint32"], apart := false, narrowed := true }
def MemOwnUptoSaid : Prop := memOwnUptoRow.holds Try.pinned (OpenSpec.upto memOwnSpec)

/-- 'ropelinelaw09.MemAddress', WHERE WHAT IT READS IS OF BULK AT MOST 1048576: true; the input reads as it did. -/
def memAddressUptoRow : OpenClaim := { program := "ytekhadlpcdjlpaa", sum := "8951e360cbd4a8b70a8560b45b2ee150788e3e504a7671962842813115aa5b88", func := "ropeline/ropelinelaw09.MemAddress", spec := "memAddress", inPlace := ["sync/atomic.StoreUint32", "sync/atomic.LoadUint32"], apart := false, narrowed := true }
def MemAddressUptoSaid : Prop := memAddressUptoRow.holds Try.pinned (OpenSpec.upto memAddressSpec)

/-- 'ropelinelaw09.MemMakes', WHERE WHAT IT READS IS OF BULK AT MOST 1048576: true; the input reads as it did. -/
def memMakesUptoRow : OpenClaim := { program := "ytekhadlpcdjlpaa", sum := "8951e360cbd4a8b70a8560b45b2ee150788e3e504a7671962842813115aa5b88", func := "ropeline/ropelinelaw09.MemMakes", spec := "memMakes", inPlace := ["sync/atomic.StoreUint32", "sync/atomic.LoadUint32"], apart := false, narrowed := true }
def MemMakesUptoSaid : Prop := memMakesUptoRow.holds Try.pinned (OpenSpec.upto memMakesSpec)

/-- 'ropelinelaw25.OrderMore', WHERE WHAT IT READS IS OF BULK AT MOST 1048576: true; the input reads as it did. -/
def orderMoreUptoRow : OpenClaim := { program := "ytekhadlpcdjlpaa", sum := "8951e360cbd4a8b70a8560b45b2ee150788e3e504a7671962842813115aa5b88", func := "ropeline/ropelinelaw25.OrderMore", spec := "orderMore", apart := false, narrowed := true }
def OrderMoreUptoSaid : Prop := orderMoreUptoRow.holds Try.pinned (OpenSpec.upto orderMoreSpec)

/-- 'ropelinelaw09.MemApart', WHERE WHAT IT READS IS OF BULK AT MOST 1048576: true; the input reads as it did. -/
def memApartUptoRow : OpenClaim := { program := "ytekhadlpcdjlpaa", sum := "8951e360cbd4a8b70a8560b45b2ee150788e3e504a7671962842813115aa5b88", func := "ropeline/ropelinelaw09.MemApart", spec := "memApart", inPlace := ["sync/atomic.StoreUint32", "sync/atomic.LoadUint32"], apart := false, narrowed := true }
def MemApartUptoSaid : Prop := memApartUptoRow.holds Try.pinned (OpenSpec.upto memApartSpec)

/-- 'ropelinelaw25.OrderTells', WHERE WHAT IT READS IS OF BULK AT MOST 1048576: true; the input reads as it did. -/
def orderTellsUptoRow : OpenClaim := { program := "ytekhadlpcdjlpaa", sum := "8951e360cbd4a8b70a8560b45b2ee150788e3e504a7671962842813115aa5b88", func := "ropeline/ropelinelaw25.OrderTells", spec := "orderTells", apart := false, narrowed := true }
def OrderTellsUptoSaid : Prop := orderTellsUptoRow.holds Try.pinned (OpenSpec.upto orderTellsSpec)

/-- 'ropelinelaw05.PoolOrder', WHERE WHAT IT READS IS OF BULK AT MOST 1048576: true; the input reads as it did. -/
def poolOrderUptoRow : OpenClaim := { program := "ytekhadlpcdjlpaa", sum := "8951e360cbd4a8b70a8560b45b2ee150788e3e504a7671962842813115aa5b88", func := "ropeline/ropelinelaw05.PoolOrder", spec := "poolOrder", apart := false, narrowed := true }
def PoolOrderUptoSaid : Prop := poolOrderUptoRow.holds Try.pinned (OpenSpec.upto poolOrderSpec)

/-- 'ropelinelaw05.PoolStale', WHERE WHAT IT READS IS OF BULK AT MOST 1048576: true; the input reads as it did. -/
def poolStaleUptoRow : OpenClaim := { program := "ytekhadlpcdjlpaa", sum := "8951e360cbd4a8b70a8560b45b2ee150788e3e504a7671962842813115aa5b88", func := "ropeline/ropelinelaw05.PoolStale", spec := "poolStale", apart := false, narrowed := true }
def PoolStaleUptoSaid : Prop := poolStaleUptoRow.holds Try.pinned (OpenSpec.upto poolStaleSpec)

/-- 'ropelinelaw05.PoolWhole', WHERE WHAT IT READS IS OF BULK AT MOST 1048576: true; the input reads as it did. -/
def poolWholeUptoRow : OpenClaim := { program := "ytekhadlpcdjlpaa", sum := "8951e360cbd4a8b70a8560b45b2ee150788e3e504a7671962842813115aa5b88", func := "ropeline/ropelinelaw05.PoolWhole", spec := "poolWhole", apart := false, narrowed := true }
def PoolWholeUptoSaid : Prop := poolWholeUptoRow.holds Try.pinned (OpenSpec.upto poolWholeSpec)

/-- 'ropelinelaw11.ParkAll', WHERE WHAT IT READS IS OF BULK AT MOST 1048576: true; the input reads as it did. -/
def parkAllUptoRow : OpenClaim := { program := "ytekhadlpcdjlpaa", sum := "8951e360cbd4a8b70a8560b45b2ee150788e3e504a7671962842813115aa5b88", func := "ropeline/ropelinelaw11.ParkAll", spec := "parkAll", apart := false, narrowed := true }
def ParkAllUptoSaid : Prop := parkAllUptoRow.holds Try.pinned (OpenSpec.upto parkAllSpec)

/-- 'ropelinelaw05.PoolPlays', WHERE WHAT IT READS IS OF BULK AT MOST 1048576: true; the input reads as it did. -/
def poolPlaysUptoRow : OpenClaim := { program := "ytekhadlpcdjlpaa", sum := "8951e360cbd4a8b70a8560b45b2ee150788e3e504a7671962842813115aa5b88", func := "ropeline/ropelinelaw05.PoolPlays", spec := "poolPlays", apart := false, narrowed := true }
def PoolPlaysUptoSaid : Prop := poolPlaysUptoRow.holds Try.pinned (OpenSpec.upto poolPlaysSpec)

/-- 'ropelinelaw11.ParkPlays', WHERE WHAT IT READS IS OF BULK AT MOST 1048576: true; the input reads as it did. -/
def parkPlaysUptoRow : OpenClaim := { program := "ytekhadlpcdjlpaa", sum := "8951e360cbd4a8b70a8560b45b2ee150788e3e504a7671962842813115aa5b88", func := "ropeline/ropelinelaw11.ParkPlays", spec := "parkPlays", apart := false, narrowed := true }
def ParkPlaysUptoSaid : Prop := parkPlaysUptoRow.holds Try.pinned (OpenSpec.upto parkPlaysSpec)

/-- 'ropelinelaw11.ParkBudget', WHERE WHAT IT READS IS OF BULK AT MOST 1048576: true; the input reads as it did. -/
def parkBudgetUptoRow : OpenClaim := { program := "ytekhadlpcdjlpaa", sum := "8951e360cbd4a8b70a8560b45b2ee150788e3e504a7671962842813115aa5b88", func := "ropeline/ropelinelaw11.ParkBudget", spec := "parkBudget", apart := false, narrowed := true }
def ParkBudgetUptoSaid : Prop := parkBudgetUptoRow.holds Try.pinned (OpenSpec.upto parkBudgetSpec)

/-- 'ropelinelaw13.FifoChecks', WHERE WHAT IT READS IS OF BULK AT MOST 1048576: true; the input reads as it did. -/
def fifoChecksUptoRow : OpenClaim := { program := "ytekhadlpcdjlpaa", sum := "8951e360cbd4a8b70a8560b45b2ee150788e3e504a7671962842813115aa5b88", func := "ropeline/ropelinelaw13.FifoChecks", spec := "fifoChecks", unfollowed := true, recurses := true, apart := false, narrowed := true }
def FifoChecksUptoSaid : Prop := fifoChecksUptoRow.holds Try.pinned (OpenSpec.upto fifoChecksSpec)

/-- 'ropelinelaw13.FifoBegins', WHERE WHAT IT READS IS OF BULK AT MOST 1048576: true; the input reads as it did. -/
def fifoBeginsUptoRow : OpenClaim := { program := "ytekhadlpcdjlpaa", sum := "8951e360cbd4a8b70a8560b45b2ee150788e3e504a7671962842813115aa5b88", func := "ropeline/ropelinelaw13.FifoBegins", spec := "fifoBegins", unfollowed := true, recurses := true, apart := false, narrowed := true }
def FifoBeginsUptoSaid : Prop := fifoBeginsUptoRow.holds Try.pinned (OpenSpec.upto fifoBeginsSpec)

/-- 'ropelinelaw13.FifoOne', WHERE WHAT IT READS IS OF BULK AT MOST 1048576: true; the input reads as it did. -/
def fifoOneUptoRow : OpenClaim := { program := "ytekhadlpcdjlpaa", sum := "8951e360cbd4a8b70a8560b45b2ee150788e3e504a7671962842813115aa5b88", func := "ropeline/ropelinelaw13.FifoOne", spec := "fifoOne", unfollowed := true, recurses := true, apart := false, narrowed := true }
def FifoOneUptoSaid : Prop := fifoOneUptoRow.holds Try.pinned (OpenSpec.upto fifoOneSpec)

/-- 'ropelinelaw13.FifoTakes', WHERE WHAT IT READS IS OF BULK AT MOST 1048576: true; the input reads as it did. -/
def fifoTakesUptoRow : OpenClaim := { program := "ytekhadlpcdjlpaa", sum := "8951e360cbd4a8b70a8560b45b2ee150788e3e504a7671962842813115aa5b88", func := "ropeline/ropelinelaw13.FifoTakes", spec := "fifoTakes", unfollowed := true, recurses := true, apart := false, narrowed := true }
def FifoTakesUptoSaid : Prop := fifoTakesUptoRow.holds Try.pinned (OpenSpec.upto fifoTakesSpec)

/-- 'ropelinelaw13.FifoStates', WHERE WHAT IT READS IS OF BULK AT MOST 1048576: true; the input reads as it did. -/
def fifoStatesUptoRow : OpenClaim := { program := "ytekhadlpcdjlpaa", sum := "8951e360cbd4a8b70a8560b45b2ee150788e3e504a7671962842813115aa5b88", func := "ropeline/ropelinelaw13.FifoStates", spec := "fifoStates", unfollowed := true, recurses := true, apart := false, narrowed := true }
def FifoStatesUptoSaid : Prop := fifoStatesUptoRow.holds Try.pinned (OpenSpec.upto fifoStatesSpec)

end Rows
end Go.Proofs.Ytekhadlpcdjlpaa
