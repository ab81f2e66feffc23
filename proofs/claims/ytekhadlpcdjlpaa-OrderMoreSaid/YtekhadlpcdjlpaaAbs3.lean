/- Operations that neither read nor write memory: what they give, of what is known. -/
import Derived.Test.YtekhadlpcdjlpaaAbs2
namespace Go.Proofs.Ytekhadlpcdjlpaa
namespace Abs
open Go
set_option linter.unusedVariables false
set_option linter.unusedSimpArgs false

inductive EK where
  | bool | ptr | slc | map | fn
  deriving DecidableEq

/-- Operations, all that they need of the types at hand. -/
inductive AOp where
  | mv (x : Operand)
  | pick (c a b : Operand)
  | bin (op : BinOp) (x y : Operand)
  | eq (k : EK) (neg : Bool) (x y : Operand)
  | geq (op : BinOp) (t : TypeId) (x y : Operand)
  | un (op : UnOp) (x : Operand)
  | cvt (k : IntKind) (x : Operand)
  | off (n : Nat) (x : Operand)
  | idx (es : Nat) (x i : Operand)
  | idxA (len es : Nat) (x i : Operand)
  | ext (n : Nat) (x : Operand)
  | part (off : Nat) (agg : Option Nat) (x : Operand)
  | partI (len es : Nat) (agg : Bool) (x i : Operand)
  | sIdx (x i : Operand)
  | sub (es : Nat) (x : Operand) (lo hi mx : Option Operand)
  | subA (len es : Nat) (x : Operand) (lo hi mx : Option Operand)
  | subS (x : Operand) (lo hi : Option Operand)
  | nilck (x : Operand)
  | fn (f : Fn) (first captured : List Operand)
  | agg (zero : List Value) (parts : List (Nat × Nat × Operand))
  | len (x : Operand)
  | lenS (x : Operand)
  | alen (n : Nat)
  | mm (mx : Bool) (args : List Operand)
  -- these read
  | ld (agg : Option Nat) (x : Operand)
  | look (str : Bool) (zero : Value) (m k : Operand) (ok : Bool)
  | mlen (x : Operand)
  -- these make a new block
  | box (e : TypeId) (x : Operand)
  | alloc (e : TypeId) (zero : List Value)
  | mkS (e : TypeId) (es bytes : Nat) (zero : List Value) (len cap : Operand)
  | mkM
  | row (e : TypeId) (len : Nat) (es : Nat) (zero : List Value) (parts : List (Nat × Operand))
  -- these write
  | st (n : Nat) (x v : Operand)
  | app (e : TypeId) (es bytes : Nat) (s x : Operand)
  | copy (es : Nat) (d s : Operand)
  | clear (zero : List Value) (x : Operand)
  | del (str : Bool) (m k : Operand)
  | mupd (str : Bool) (m k v : Operand)
  | ment (str : Bool) (zero : Value) (m k : Operand)
  | mest (m s v : Operand)
  | range (x : Operand)
  | next (x : Operand)
  | entry (x : Operand)
  | call (f : Operand) (args : List Operand)

structure AOper where
  dst : Option Tmp
  op : AOp
  guard : Option (Tmp × Bool)

def evBin (op : BinOp) : Value → Value → Option Value
  | .int k a, .int k' b => match op with
    | .shl => if b < 0 then none else some (.int k (k.wrap (a * 2 ^ min b.toNat k.bits)))
    | .shr => if b < 0 then none else some (.int k (a.fdiv (2 ^ min b.toNat k.bits)))
    | op => if k = k' then match op with
        | .add => some (.int k (k.wrap (a + b)))
        | .sub => some (.int k (k.wrap (a - b)))
        | .mul => some (.int k (k.wrap (a * b)))
        | .quo => if b = 0 then none else some (.int k (k.wrap (a.tdiv b)))
        | .rem => if b = 0 then none else some (.int k (a.tmod b))
        | .and => some (.int k (k.wrap (BitVec.ofInt k.bits a &&& BitVec.ofInt k.bits b).toNat))
        | .or => some (.int k (k.wrap (BitVec.ofInt k.bits a ||| BitVec.ofInt k.bits b).toNat))
        | .xor => some (.int k (k.wrap (BitVec.ofInt k.bits a ^^^ BitVec.ofInt k.bits b).toNat))
        | .andNot => some (.int k (k.wrap (BitVec.ofInt k.bits a &&& ~~~BitVec.ofInt k.bits b).toNat))
        | .eql => some (.bool (a == b))
        | .neq => some (.bool (a != b))
        | .lss => some (.bool (a < b))
        | .leq => some (.bool (a ≤ b))
        | .gtr => some (.bool (a > b))
        | .geq => some (.bool (a ≥ b))
        | _ => none
      else none
  | .string a, .string b => match op with
    | .add => if ((a.size + b.size : Nat) : Int) > IntKind.i64.max then none else some (.string (a ++ b))
    | .eql => some (.bool (a.data.toList == b.data.toList))
    | .neq => some (.bool !(a.data.toList == b.data.toList))
    | .lss => some (.bool (Op.bytesLess a.data.toList b.data.toList))
    | .geq => some (.bool !(Op.bytesLess a.data.toList b.data.toList))
    | _ => none
  | _, _ => none

def evEq (k : EK) (neg : Bool) (x y : Value) : Option Value :=
  match k, x, y with
  | .bool, .bool a, .bool b => some (.bool ((a == b) != neg))
  | .ptr, .pointer none, .pointer b => some (.bool (b.isNone != neg))
  | .ptr, .pointer (some _), .pointer none => some (.bool (false != neg))
  | .slc, .slice none _ _, .slice b _ _ => some (.bool (b.isNone != neg))
  | .slc, .slice (some _) _ _, .slice none _ _ => some (.bool (false != neg))
  | .map, .map none, .map b => some (.bool (b.isNone != neg))
  | .map, .map (some _), .map none => some (.bool (false != neg))
  | .fn, .nilFunc, .nilFunc => some (.bool (true != neg))
  | .fn, .nilFunc, .func .. => some (.bool (false != neg))
  | .fn, .func .., .nilFunc => some (.bool (false != neg))
  | _, _, _ => none

def evUn (op : UnOp) : Value → Option Value
  | .int k n => match op with
    | .neg => some (.int k (k.wrap (0 - n)))
    | .xor => some (.int k (k.wrap (BitVec.ofInt k.bits (if k.signed then -1 else k.max) ^^^ BitVec.ofInt k.bits n).toNat))
    | _ => none
  | .bool b => match op with
    | .not => some (.bool !b)
    | _ => none
  | _ => none

/-- A computation that asks nothing of the world. -/
def pureVal (P : Program) {α : Type} : Sem α → Option α
  | .pure a => some a
  | .program k => pureVal P (k P)
  | _ => none

theorem pureVal_run {P : Program} {α : Type} {a : α} : ∀ (s : Sem α), pureVal P s = some a → ∀ w, s.run P w = .ok a w
  | .pure b, h, w => by simp only [pureVal] at h; injection h with h; subst h; rfl
  | .program k, h, w => by simp only [pureVal] at h; exact pureVal_run (k P) h w
  | .load .., h, _ | .store .., h, _ | .new .., h, _ | .shape .., h, _ | .freeze .., h, _ | .frozen .., h, _ | .getObj .., h, _ | .setObj .., h, _ | .choose .., h, _ | .sys .., h, _ | .mark .., h, _ | .halt .., h, _ => by simp [pureVal] at h

def asI : Value → Option Int
  | .int _ n => some n
  | _ => none

/-- A bound that may be left out. -/
def bnd (v : Option Int) (d y : Nat) : Option Nat := match v with
  | some v => if 0 ≤ v ∧ v ≤ y then some v.toNat else none
  | none => some d

/-- Bounds of a slice. -/
def evBounds (len cap : Nat) (lo hi mx : Option Int) : Option (Nat × Nat × Nat) := match bnd mx cap cap with
  | none => none
  | some m => if hi = none ∧ mx ≠ none then none else match bnd hi len m with
    | none => none
    | some h => match bnd lo 0 h with
      | none => none
      | some l => some (l, h, m)

def optI (t : T) : Option Operand → Option (Option Int)
  | none => some none
  | some x => match evalO t x with
    | some (.int _ n) => some (some n)
    | _ => none

def evalL (t : T) : List Operand → Option (List Value)
  | [] => some []
  | x :: l => match evalO t x, evalL t l with
    | some v, some vs => some (v :: vs)
    | _, _ => none

/-- The parts of a struct laid into its cells. -/
def evFill (t : T) : List (Nat × Nat × Operand) → List Value → Option (List Value)
  | [], cs => some cs
  | (off, n, x) :: rest, cs => match evalO t x with
    | some v => if v.cells.size = n ∧ off + n ≤ cs.length then evFill t rest (cs.take off ++ v.cells.toList ++ cs.drop (off + n)) else none
    | none => none

def evMmL (mx : Bool) : IntKind → Int → List Value → Option Value
  | k, n, [] => some (.int k n)
  | k, n, .int _ b :: l => evMmL mx k (if mx then (if b > n then b else n) else (if b < n then b else n)) l
  | _, _, _ => none

def evMm (mx : Bool) : List Value → Option Value
  | .int k a :: rest => evMmL mx k a rest
  | _ => none

/-- By a truth that is known. -/
def onB {R : Type} (o : Option Value) (a b bot : R) : R := match o with
  | some (.bool true) => a
  | some (.bool false) => b
  | _ => bot

theorem onB_bool {R : Type} (x : Bool) (a b bot : R) : onB (some (.bool x)) a b bot = if x = true then a else b := by cases x <;> rfl

/-- What an operation gives that neither reads nor writes. -/
def evP (P : Program) (t : T) : AOp → Option Value
  | .mv x => evalO t x
  | .pick c a b => onB (evalO t c) (evalO t a) (evalO t b) none
  | .bin op x y => match evalO t x, evalO t y with
    | some a, some b => evBin op a b
    | _, _ => none
  | .eq k neg x y => match evalO t x, evalO t y with
    | some a, some b => evEq k neg a b
    | _, _ => none
  | .geq op ty x y => match evalO t x, evalO t y with
    | some a, some b => if plain a && plain b then match pureVal P (do eqGuard op ty x y a b; binOp op ty a b) with
        | some v => if plain v then some v else none
        | none => none
      else none
    | _, _ => none
  | .un op x => match evalO t x with
    | some a => evUn op a
    | none => none
  | .cvt k x => match evalO t x with
    | some (.int _ n) => some (.int k (k.wrap n))
    | _ => none
  | .off n x => match evalO t x with
    | some (.pointer (some ⟨b, o, none⟩)) => some (.pointer (some ⟨b, o + n, none⟩))
    | _ => none
  | .idx es x i => match evalO t x, evalO t i with
    | some (.slice (some ⟨b, o, none⟩) len _), some (.int _ i) => if 0 ≤ i ∧ i < len then some (.pointer (some ⟨b, o + i.toNat * es, none⟩)) else none
    | _, _ => none
  | .idxA len es x i => match evalO t x, evalO t i with
    | some (.pointer (some ⟨b, o, none⟩)), some (.int _ i) => if 0 ≤ i ∧ i < len then some (.pointer (some ⟨b, o + i.toNat * es, none⟩)) else none
    | _, _ => none
  | .ext n x => match evalO t x with
    | some (.tuple vs) => vs[n]?
    | _ => none
  | .part off none x => match evalO t x with
    | some (.agg cs) => cs[off]?
    | _ => none
  | .part off (some n) x => match evalO t x with
    | some (.agg cs) => some (.agg (cs.extract off (off + n)))
    | _ => none
  | .partI len es ag x i => match evalO t x, evalO t i with
    | some (.agg cs), some (.int _ i) => if 0 ≤ i ∧ i < len then (if ag then some (.agg (cs.extract (i.toNat * es) (i.toNat * es + es))) else cs[i.toNat * es]?) else none
    | _, _ => none
  | .sIdx x i => match evalO t x, evalO t i with
    | some (.string s), some (.int _ i) => if 0 ≤ i then match s.data[i.toNat]? with
        | some b => some (.int .u8 b.toNat)
        | none => none
      else none
    | _, _ => none
  | .sub es x lo hi mx => match evalO t x, optI t lo, optI t hi, optI t mx with
    | some (.slice (some ⟨b, o, none⟩) len cap), some lo, some hi, some mx => if cap < OPEN then
          match evBounds len cap lo hi mx with
          | some (l, h, m) => some (.slice (some ⟨b, if m = l then o else o + l * es, none⟩) (h - l) (m - l))
          | none => none
        else if len ≤ cap - OPEN then match mx with
          | none => match evBounds len len lo hi none with
            | some (l, h, _) => some (.slice (some (if l < cap - OPEN then ⟨b, o + l * es, none⟩ else ⟨b, o, some (2 * (l * es))⟩)) (h - l) (cap - l))
            | none => none
          | some mx => match evBounds len (cap - OPEN) lo hi (some mx) with
            | some (l, h, m) => if m < OPEN then some (.slice (some ⟨b, if m = l then o else o + l * es, none⟩) (h - l) (m - l)) else none
            | none => none
        else none
    | some (.slice none len cap), some lo, some hi, some mx => if cap < OPEN then
          match evBounds len cap lo hi mx with
          | some (l, h, m) => some (.slice none (h - l) (m - l))
          | none => none
        else none
    | some (.slice (some ⟨b, o, some d⟩) len cap), some lo, some hi, some mx => if cap < OPEN then match evBounds len cap lo hi mx with
          | some (l, h, m) => if l = 0 then some (.slice (some ⟨b, o, some d⟩) h m) else none
          | none => none
        else none
    | _, _, _, _ => none
  | .subA n es x lo hi mx => match evalO t x, optI t lo, optI t hi, optI t mx with
    | some (.pointer (some ⟨b, o, none⟩)), some lo, some hi, some mx => if n < OPEN then match evBounds n n lo hi mx with
        | some (l, h, m) => some (.slice (some ⟨b, if m = l then o else o + l * es, none⟩) (h - l) (m - l))
        | none => none
      else none
    | _, _, _, _ => none
  | .subS x lo hi => match evalO t x, optI t lo, optI t hi with
    | some (.string s), some lo, some hi => match evBounds s.size s.size lo hi none with
      | some (l, h, _) => some (.string (s.extract l h))
      | none => none
    | _, _, _ => none
  | .nilck x => match evalO t x with
    | some (.pointer (some a)) => some (.pointer (some a))
    | _ => none
  | .fn f first captured => match evalL t first, evalL t captured with
    | some vs, some us => some (.func f vs.toArray us.toArray)
    | _, _ => none
  | .agg zero parts => match evFill t parts zero with
    | some cs => some (.agg cs.toArray)
    | none => none
  | .len x => match evalO t x with
    | some (.slice _ n _) => some (.int .i64 n)
    | _ => none
  | .lenS x => match evalO t x with
    | some (.string s) => some (.int .i64 s.size)
    | _ => none
  | .alen n => some (.int .i64 n)
  | .mm mx args => match evalL t args with
    | some vs => evMm mx vs
    | none => none
  | _ => none

end Abs
end Go.Proofs.Ytekhadlpcdjlpaa
