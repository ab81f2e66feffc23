/- Code, its types resolved; what it comes to, computed. -/
import Derived.Test.YtekhadlpcdjlpaaAbs16
namespace Go.Proofs.Ytekhadlpcdjlpaa
namespace Abs
open Go
set_option linter.unusedVariables false
set_option linter.unusedSimpArgs false

/-- An operation of a region that draws: its number, the number of its new block, the reads that have to give the same behind it. -/
structure DOper where
  i : Nat
  fi : Nat
  chk : List Nat
  x : AOper

inductive ACode where
  | skip
  | ops (l : List AOper)
  | drawn (nh : Nat) (l : List DOper)
  | seq (a b : ACode)
  | cond (c : Operand) (a b : ACode)
  | block (id : Nat) (a : ACode)
  | loop (a : ACode)
  | exit (id : Nat)
  | ret

mutual
def veq : Value → Value → Bool
  | .bool a, .bool b => a == b
  | .int j a, .int k b => j == k && a == b
  | .string a, .string b => a.data.toList == b.data.toList
  | .pointer a, .pointer b => a == b
  | .slice a m c, .slice b n d => a == b && m == n && c == d
  | .map a, .map b => a == b
  | .chan a, .chan b => a == b
  | .nilFunc, .nilFunc => true
  | .nilIface, .nilIface => true
  | .agg a, .agg b => veqA a b
  | .tuple a, .tuple b => veqA a b
  | _, _ => false
def veqA : Array Value → Array Value → Bool
  | ⟨a⟩, ⟨b⟩ => veqL a b
def veqL : List Value → List Value → Bool
  | [], [] => true
  | x :: a, y :: b => veq x y && veqL a b
  | _, _ => false
end

theorem bytes_ext {a b : ByteArray} (h : a.data.toList = b.data.toList) : a = b := by
  cases a; cases b
  simp only at h
  congr
  exact Array.ext' h

mutual
theorem veq_eq : ∀ (x y : Value), veq x y = true → x = y
  | .bool a, y, h => by cases y <;> simp_all [veq]
  | .int j a, y, h => by cases y <;> simp_all [veq]
  | .string a, y, h => by
    cases y <;> first
      | (simp only [veq, beq_iff_eq] at h; rw [bytes_ext h]; done)
      | (simp [veq] at h; done)
  | .pointer a, y, h => by cases y <;> simp_all [veq]
  | .slice a m c, y, h => by cases y <;> simp_all [veq]
  | .map a, y, h => by cases y <;> simp_all [veq]
  | .chan a, y, h => by cases y <;> simp_all [veq]
  | .nilFunc, y, h => by cases y <;> simp_all [veq]
  | .nilIface, y, h => by cases y <;> simp_all [veq]
  | .agg a, y, h => by
    cases y <;> first
      | (simp only [veq] at h; rw [veqA_eq a _ h]; done)
      | (simp [veq] at h; done)
  | .tuple a, y, h => by
    cases y <;> first
      | (simp only [veq] at h; rw [veqA_eq a _ h]; done)
      | (simp [veq] at h; done)
  | .float _ _, y, h => by simp [veq] at h
  | .complex _ _ _, y, h => by simp [veq] at h
  | .func _ _ _, y, h => by simp [veq] at h
  | .iface _ _, y, h => by simp [veq] at h
theorem veqA_eq : ∀ (x y : Array Value), veqA x y = true → x = y
  | ⟨a⟩, ⟨b⟩, h => by simp only [veqA] at h; rw [veqL_eq a b h]
theorem veqL_eq : ∀ (x y : List Value), veqL x y = true → x = y
  | [], [], _ => rfl
  | x :: a, y :: b, h => by
    simp only [veqL, Bool.and_eq_true] at h
    rw [veq_eq x y h.1, veqL_eq a b h.2]
  | [], _ :: _, h => by simp [veqL] at h
  | _ :: _, [], h => by simp [veqL] at h
end

def isHole (h : AH) (n : Nat) : Bool := match h[n]? with
  | some .hole => true
  | _ => false

theorem isHole_eq {h : AH} {n : Nat} (hh : isHole h n = true) : h[n]? = some .hole := by
  unfold isHole at hh
  split at hh
  · assumption
  · cases hh

/-- Do the reads that are listed give the same? -/
def chkD (l : List Nat) (D : Reads) (h : AH) : Bool := D.all fun d => !l.contains d.1 || (match d.2.1 h with | some v => veq v d.2.2 | none => false)

/-- By whether an operation is to be carried out. -/
def onW {R : Type} (o : Option Bool) (bot f y : R) : R := match o with
  | none => bot
  | some false => f
  | some true => y

theorem onW_some {R : Type} (x : Bool) (bot f y : R) : onW (some x) bot f y = if x = true then y else f := by cases x <;> rfl

section
variable {R : Type} (P : Program) (bot : R) (C : FuncId → List Value → AH → (Value → AH → R) → R) (Lp : ACode → T → AH → (AExit → T → AH → R) → R)

def wOps : List AOper → T → AH → (T → AH → R) → R
  | [], t, h, K => K t h
  | x :: l, t, h, K => onW (wantedA t x.guard) bot (wOps l (t.put x.dst undef) h K) (match kd x.op with
      | 0 => match evP P t x.op with
        | some v => wOps l (t.put x.dst v) h K
        | none => bot
      | 1 => match evR t h x.op with
        | some v => wOps l (t.put x.dst v) h K
        | none => bot
      | 2 => match evF t h.length x.op with
        | some (v, k) => wOps l (t.put x.dst v) (h ++ [k]) K
        | none => bot
      | 3 => match evL t h x.op with
        | some (v, h') => wOps l (t.put x.dst v) h' K
        | none => bot
      | 5 => match evI t x.op with
        | some (f, args) => C f args h (fun v h' => wOps l (t.put x.dst v) h' K)
        | none => bot
      | _ => match evC t x.op with
        | some (f, args) => C f args h (fun v h' => wOps l (t.put x.dst v) h' K)
        | none => bot)

def wDrawn (base : Nat) : List DOper → Reads → T → AH → (T → AH → R) → R
  | [], _, t, h, K => K t h
  | d :: l, D, t, h, K => onW (wantedA t d.x.guard) bot (wDrawn base l D (t.put d.x.dst undef) h K) (match kd d.x.op with
      | 0 => match evP P t d.x.op with
        | some v => wDrawn base l D (t.put d.x.dst v) h K
        | none => bot
      | 1 => match evR t h d.x.op with
        | some v => wDrawn base l ((d.i, fun h => evR t h d.x.op, v) :: D) (t.put d.x.dst v) h K
        | none => bot
      | 2 => match evF t (base + d.fi) d.x.op with
        | some (v, k) => if isHole h (base + d.fi) then wDrawn base l D (t.put d.x.dst v) (h.set (base + d.fi) k) K else bot
        | none => bot
      | 3 => match evL t h d.x.op with
        | some (v, h') => if chkD d.chk D h' then wDrawn base l D (t.put d.x.dst v) h' K else bot
        | none => bot
      | _ => match evC t d.x.op with
        | some (f, args) => C f args h (fun v h' => if chkD d.chk D h' && l.all (fun e => kd e.x.op != 2 || isHole h' (base + e.fi)) then wDrawn base l D (t.put d.x.dst v) h' K else bot)
        | none => bot)

/-- What code comes to. -/
def W : ACode → T → AH → (AExit → T → AH → R) → R
  | .skip, t, h, K => K .normal t h
  | .ops l, t, h, K => wOps P bot C l t h (K .normal)
  | .drawn nh l, t, h, K => wDrawn P bot C h.length l [] t (h ++ List.replicate nh .hole) (K .normal)
  | .seq a b, t, h, K => W a t h (fun e t h => match e with
    | .normal => W b t h K
    | e => K e t h)
  | .cond c a b, t, h, K => onB (evalO t c) (W a t h K) (W b t h K) bot
  | .block id a, t, h, K => W a t h (fun e t h => match e with
    | .exit i => if i = id then K .normal t h else K (.exit i) t h
    | e => K e t h)
  | .loop a, t, h, K => Lp a t h K
  | .exit id, t, h, K => K (.exit id) t h
  | .ret, t, h, K => K .ret t h
end

end Abs
end Go.Proofs.Ytekhadlpcdjlpaa
