/- The evaluator's laws for simp: what comes next is looked at only when it is known where it starts. -/
import Derived.Test.YtekhadlpcdjlpaaAbs23
import Lean
namespace Go.Proofs.Ytekhadlpcdjlpaa
namespace Abs
open Go
set_option linter.unusedVariables false
set_option linter.unusedSimpArgs false

section
variable {R α : Type _}

def bindO (o : Option α) (bot : R) (f : α → R) : R := match o with
  | some v => f v
  | none => bot
theorem bindO_congr {o o' : Option α} (h : Unit → o = o') (bot : R) (f : α → R) : bindO o bot f = bindO o' bot f := by rw [h ()]
theorem bindO_some (v : α) (bot : R) (f : α → R) : bindO (some v) bot f = f v := rfl
theorem bindO_none (bot : R) (f : α → R) : bindO none bot f = bot := rfl
theorem bindO_ite (c : Prop) [Decidable c] (a b : Option α) (bot : R) (f : α → R) : bindO (if c then a else b) bot f = if c then bindO a bot f else bindO b bot f := by split <;> rfl

def letK (x : α) (f : α → R) : R := f x
theorem letK_congr {x y : α} (h : Unit → x = y) (f : α → R) : letK x f = letK y f := by rw [h ()]
theorem letK_def (x : α) (f : α → R) : letK x f = f x := rfl

def sel (n : Nat) (a b c d e : R) : R := match n with
  | 0 => a
  | 1 => b
  | 2 => c
  | 3 => d
  | _ => e
theorem sel_congr {n m : Nat} (h : Unit → n = m) (a b c d e : R) : sel n a b c d e = sel m a b c d e := by rw [h ()]
theorem sel_0 (a b c d e : R) : sel 0 a b c d e = a := rfl
theorem sel_1 (a b c d e : R) : sel 1 a b c d e = b := rfl
theorem sel_2 (a b c d e : R) : sel 2 a b c d e = c := rfl
theorem sel_3 (a b c d e : R) : sel 3 a b c d e = d := rfl
theorem sel_4 (a b c d e : R) : sel 4 a b c d e = e := rfl

theorem onW_congr {o o' : Option Bool} (h : Unit → o = o') (bot f y : R) : onW o bot f y = onW o' bot f y := by rw [h ()]
theorem onW_true (bot f y : R) : onW (some true) bot f y = y := rfl
theorem onW_false (bot f y : R) : onW (some false) bot f y = f := rfl
theorem onB_congr {o o' : Option Value} (h : Unit → o = o') (a b bot : R) : onB o a b bot = onB o' a b bot := by rw [h ()]
theorem onB_true (a b bot : R) : onB (some (.bool true)) a b bot = a := rfl
theorem onB_false (a b bot : R) : onB (some (.bool false)) a b bot = b := rfl

def thenB (c : Bool) (a b : R) : R := if c then a else b
theorem thenB_congr {c c' : Bool} (h : Unit → c = c') (a b : R) : thenB c a b = thenB c' a b := by rw [h ()]
theorem thenB_true (a b : R) : thenB true a b = a := rfl
theorem thenB_false (a b : R) : thenB false a b = b := rfl
end

def orN (b x : Bool) : Bool := !b || x
theorem orN_congr {b b' : Bool} (h : Unit → b = b') (x : Bool) : orN b x = orN b' x := by rw [h ()]
theorem orN_true (x : Bool) : orN true x = x := rfl
theorem orN_false (x : Bool) : orN false x = true := rfl

def sameO (o : Option Value) (v : Value) : Bool := match o with
  | some u => veq u v
  | none => false
theorem chkD_nil (l : List Nat) (h : AH) : chkD l [] h = true := rfl
theorem chkD_cons (l : List Nat) (i : Nat) (f : AH → Option Value) (v : Value) (D : Reads) (h : AH) : chkD l ((i, f, v) :: D) h = (orN (l.contains i) (sameO (f h) v) && chkD l D h) := by
  simp only [chkD, List.all_cons, orN, sameO]
  rfl

section
variable {R : Type} {P : Program} {bot : R} {C : FuncId → List Value → AH → (Value → AH → R) → R} {Lp : ACode → T → AH → (AExit → T → AH → R) → R}

theorem wOps_nil (t : T) (h : AH) (K : T → AH → R) : wOps P bot C [] t h K = K t h := rfl
theorem wOps_cons (x : AOper) (l : List AOper) (t : T) (h : AH) (K : T → AH → R) : wOps P bot C (x :: l) t h K =
    onW (wantedA t x.guard) bot (letK (t.put x.dst undef) fun t => wOps P bot C l t h K) (sel (kd x.op)
      (bindO (evP P t x.op) bot fun v => letK (t.put x.dst v) fun t => wOps P bot C l t h K)
      (bindO (evR t h x.op) bot fun v => letK (t.put x.dst v) fun t => wOps P bot C l t h K)
      (bindO (evF t h.length x.op) bot fun vk => letK vk.1 fun v => letK vk.2 fun k => letK (t.put x.dst v) fun t => letK (h ++ [k]) fun h => wOps P bot C l t h K)
      (bindO (evL t h x.op) bot fun vh => letK vh.1 fun v => letK vh.2 fun h => letK (t.put x.dst v) fun t => wOps P bot C l t h K)
      (bindO (evC t x.op) bot fun fa => letK fa.1 fun f => letK fa.2 fun args => C f args h (fun v h' => letK (t.put x.dst v) fun t => letK h' fun h' => wOps P bot C l t h' K))) := by
  simp only [wOps, letK]
  congr 1
  generalize evP P t x.op = o1
  generalize evR t h x.op = o2
  generalize evF t h.length x.op = o3
  generalize evL t h x.op = o4
  generalize evC t x.op = o5
  generalize kd x.op = n
  rcases n with _ | _ | _ | _ | n
  · cases o1 <;> rfl
  · cases o2 <;> rfl
  · cases o3 <;> rfl
  · cases o4 <;> rfl
  · cases o5 <;> rfl

theorem wDrawn_nil (base : Nat) (D : Reads) (t : T) (h : AH) (K : T → AH → R) : wDrawn P bot C base [] D t h K = K t h := rfl
theorem wDrawn_cons (base : Nat) (d : DOper) (l : List DOper) (D : Reads) (t : T) (h : AH) (K : T → AH → R) : wDrawn P bot C base (d :: l) D t h K =
    onW (wantedA t d.x.guard) bot (letK (t.put d.x.dst undef) fun t => wDrawn P bot C base l D t h K) (sel (kd d.x.op)
      (bindO (evP P t d.x.op) bot fun v => letK (t.put d.x.dst v) fun t => wDrawn P bot C base l D t h K)
      (bindO (evR t h d.x.op) bot fun v => letK (t.put d.x.dst v) fun t' => wDrawn P bot C base l ((d.i, fun h => evR t h d.x.op, v) :: D) t' h K)
      (bindO (evF t (base + d.fi) d.x.op) bot fun vk => thenB (isHole h (base + d.fi)) (letK vk.1 fun v => letK vk.2 fun k => letK (t.put d.x.dst v) fun t => letK (h.set (base + d.fi) k) fun h => wDrawn P bot C base l D t h K) bot)
      (bindO (evL t h d.x.op) bot fun vh => letK vh.1 fun v => letK vh.2 fun h => thenB (chkD d.chk D h) (letK (t.put d.x.dst v) fun t => wDrawn P bot C base l D t h K) bot)
      (bindO (evC t d.x.op) bot fun fa => letK fa.1 fun f => letK fa.2 fun args => C f args h (fun v h' => letK h' fun h' => thenB (chkD d.chk D h' && l.all (fun e => kd e.x.op != 2 || isHole h' (base + e.fi))) (letK (t.put d.x.dst v) fun t => wDrawn P bot C base l D t h' K) bot))) := by
  simp only [wDrawn, letK]
  congr 1
  generalize ho2 : evR t h d.x.op = o2
  generalize evP P t d.x.op = o1
  generalize evF t (base + d.fi) d.x.op = o3
  generalize evL t h d.x.op = o4
  generalize evC t d.x.op = o5
  generalize kd d.x.op = n
  rcases n with _ | _ | _ | _ | n
  · cases o1 <;> rfl
  · cases o2 <;> rfl
  · cases o3 <;> rfl
  · cases o4 <;> rfl
  · cases o5 <;> rfl

theorem W_skip (t : T) (h : AH) (K : AExit → T → AH → R) : W P bot C Lp .skip t h K = K .normal t h := rfl
theorem W_ops (l : List AOper) (t : T) (h : AH) (K : AExit → T → AH → R) : W P bot C Lp (.ops l) t h K = wOps P bot C l t h (K .normal) := rfl
theorem W_drawn (nh : Nat) (l : List DOper) (t : T) (h : AH) (K : AExit → T → AH → R) : W P bot C Lp (.drawn nh l) t h K = letK h.length fun b => letK (h ++ List.replicate nh .hole) fun h => wDrawn P bot C b l [] t h (K .normal) := rfl
def seqK (P : Program) (bot : R) (C : FuncId → List Value → AH → (Value → AH → R) → R) (Lp : ACode → T → AH → (AExit → T → AH → R) → R) (b : ACode) (K : AExit → T → AH → R) (e : AExit) (t : T) (h : AH) : R := match e with
  | .normal => W P bot C Lp b t h K
  | e => K e t h
theorem W_seq (a b : ACode) (t : T) (h : AH) (K : AExit → T → AH → R) : W P bot C Lp (.seq a b) t h K = W P bot C Lp a t h (seqK P bot C Lp b K) := rfl
theorem seqK_normal (b : ACode) (K : AExit → T → AH → R) (t : T) (h : AH) : seqK P bot C Lp b K .normal t h = W P bot C Lp b t h K := rfl
theorem seqK_exit (b : ACode) (K : AExit → T → AH → R) (i : Nat) (t : T) (h : AH) : seqK P bot C Lp b K (.exit i) t h = K (.exit i) t h := rfl
theorem seqK_ret (b : ACode) (K : AExit → T → AH → R) (t : T) (h : AH) : seqK P bot C Lp b K .ret t h = K .ret t h := rfl
theorem W_cond (c : Operand) (a b : ACode) (t : T) (h : AH) (K : AExit → T → AH → R) : W P bot C Lp (.cond c a b) t h K = onB (evalO t c) (W P bot C Lp a t h K) (W P bot C Lp b t h K) bot := rfl
def blockK (id : Nat) (K : AExit → T → AH → R) (e : AExit) (t : T) (h : AH) : R := match e with
  | .exit i => if i = id then K .normal t h else K (.exit i) t h
  | e => K e t h
theorem W_block (id : Nat) (a : ACode) (t : T) (h : AH) (K : AExit → T → AH → R) : W P bot C Lp (.block id a) t h K = W P bot C Lp a t h (blockK id K) := rfl
theorem blockK_normal (id : Nat) (K : AExit → T → AH → R) (t : T) (h : AH) : blockK id K .normal t h = K .normal t h := rfl
theorem blockK_ret (id : Nat) (K : AExit → T → AH → R) (t : T) (h : AH) : blockK id K .ret t h = K .ret t h := rfl
theorem blockK_self (id : Nat) (K : AExit → T → AH → R) (t : T) (h : AH) : blockK id K (.exit id) t h = K .normal t h := by simp [blockK]
theorem blockK_ne (i id : Nat) (hi : i ≠ id) (K : AExit → T → AH → R) (t : T) (h : AH) : blockK id K (.exit i) t h = K (.exit i) t h := by simp [blockK, hi]
theorem W_loop (a : ACode) (t : T) (h : AH) (K : AExit → T → AH → R) : W P bot C Lp (.loop a) t h K = Lp a t h K := rfl
theorem W_exit (id : Nat) (t : T) (h : AH) (K : AExit → T → AH → R) : W P bot C Lp (.exit id) t h K = K (.exit id) t h := rfl
theorem W_ret (t : T) (h : AH) (K : AExit → T → AH → R) : W P bot C Lp .ret t h K = K .ret t h := rfl

def finK (bot : R) (res : List ARes) (K : Value → AH → R) (e : AExit) (t : T) (h : AH) : R := match e with
  | .exit _ => bot
  | _ => bindO (evRes t h res) bot fun vs => letK (oneOf vs) fun v => K v h
theorem finK_normal (bot : R) (res : List ARes) (K : Value → AH → R) (t : T) (h : AH) : finK bot res K .normal t h = bindO (evRes t h res) bot fun vs => letK (oneOf vs) fun v => K v h := rfl
theorem finK_ret (bot : R) (res : List ARes) (K : Value → AH → R) (t : T) (h : AH) : finK bot res K .ret t h = bindO (evRes t h res) bot fun vs => letK (oneOf vs) fun v => K v h := rfl

theorem wFunc_eq (n : Nat) (res : List ARes) (body : ACode) (args : List Value) (h : AH) (K : Value → AH → R) : wFunc P bot C Lp ⟨n, res, body⟩ args h K =
    letK (initT n args) fun t => W P bot C Lp body t h (finK bot res K) := by
  simp only [wFunc, letK]
  congr
  funext e t h
  cases e <;> first | rfl | (cases hv : evRes t h res <;> simp [finK, bindO, hv, letK])
end

theorem AC_congr {P : Program} {f g : FuncId} {args args' : List Value} {h h' : AH} (e0 : f = g) (e1 : args = args') (e2 : h = h') (K : Value → AH → Prop) : AC P f args h K = AC P g args' h' K := by rw [e0, e1, e2]
theorem ALoop_congr {P : Program} {m m' : Nat} {t t' : T} {h h' : AH} (e0 : m = m') (e1 : t = t') (e2 : h = h') (c : ACode) (K : AExit → T → AH → Prop) : ALoop P m c t h K = ALoop P m' c t' h' K := by rw [e0, e1, e2]
theorem thenQ_normal (K : T → AH → Prop) (Q : AExit → T → AH → Prop) (t : T) (h : AH) : thenQ K Q .normal t h = K t h := rfl
theorem thenQ_ret (K : T → AH → Prop) (Q : AExit → T → AH → Prop) (t : T) (h : AH) : thenQ K Q .ret t h = Q .ret t h := rfl
theorem thenQ_exit (K : T → AH → Prop) (Q : AExit → T → AH → Prop) (i : Nat) (t : T) (h : AH) : thenQ K Q (.exit i) t h = Q (.exit i) t h := rfl


theorem reps_zero (z : List Value) : reps z 0 = [] := rfl
theorem reps_succ (z : List Value) (n : Nat) : reps z (n + 1) = z ++ reps z n := rfl

theorem splice_one (vs : List Value) (o : Nat) (v : Value) : splice vs o [v] = vs.set o v := rfl

theorem letK_step {R α : Type _} {x y : α} (f : α → R) (h : x = y) : letK x f = f y := by rw [h]; rfl

open Lean Meta Simp in
def proofOf (x : Lean.Expr) (r : Simp.Result) : MetaM Lean.Expr := do
  let p ← match r.proof? with
    | some p => pure p
    | none => mkEqRefl r.expr
  mkExpectedTypeHint p (← mkEq x r.expr)

open Lean Meta Simp in
/-- The one argument that tells how to go on. -/
def headArg (back : Nat) (e : Lean.Expr) : SimpM Simp.Step := do
  let args := e.getAppArgs
  if args.size < back then return .continue
  let i := args.size - back
  let x := args[i]!
  let r ← Simp.simp x
  if r.expr == x then return .done { expr := e }
  let e' := mkAppN e.getAppFn (args.set! i r.expr)
  let p ← proofOf x r
  let lam ← withLocalDeclD `z (← inferType x) fun z => mkLambdaFVars #[z] (mkAppN e.getAppFn (args.set! i z))
  return .visit { expr := e', proof? := some (← mkCongrArg lam p) }

open Lean Meta Simp in
def letArg (e : Lean.Expr) : SimpM Simp.Step := do
  let args := e.getAppArgs
  unless args.size == 4 do return .continue
  let x := args[args.size - 2]!
  let f := args[args.size - 1]!
  let r ← Simp.simp x
  let e' := (mkApp f r.expr).headBeta
  let p ← proofOf x r
  return .visit { expr := e', proof? := some (mkAppN (mkConst ``letK_step e.getAppFn.constLevels!) #[args[0]!, args[1]!, x, r.expr, f, p]) }

open Lean Meta Simp in
def doneRfl (e r : Lean.Expr) : SimpM Simp.Step := do
  return .done { expr := r, proof? := some (← mkExpectedTypeHint (← mkEqRefl r) (← mkEq e r)) }

open Lean Meta Simp in
/-- The elements of a list that is told whole. -/
partial def elems? (e : Lean.Expr) (acc : Array Lean.Expr := #[]) : Option (Array Lean.Expr) :=
  if e.isAppOfArity ``List.cons 3 then elems? (e.getArg! 2) (acc.push (e.getArg! 1))
  else if e.isAppOfArity ``List.nil 1 then some acc
  else none

/-- An element of a list that is told so far. -/
partial def nth? (e : Lean.Expr) (i : Nat) : Option (Option Lean.Expr) :=
  if e.isAppOfArity ``List.cons 3 then (if i = 0 then some (some (e.getArg! 1)) else nth? (e.getArg! 2) (i - 1))
  else if e.isAppOfArity ``List.nil 1 then some none
  else none

open Lean Meta Simp in
def natOf? (e : Lean.Expr) : MetaM (Option Nat) := do
  let e ← instantiateMVars e
  match e.rawNatLit? with
  | some n => return some n
  | none => Meta.getNatValue? e

open Lean Meta Simp in
simproc_decl evTmp (evalO _ _) := fun e => do
  let args := e.getAppArgs
  unless args.size == 2 do return .continue
  let x := args[1]!
  if x.isAppOfArity ``Operand.tmp 1 then
    let some i ← natOf? (x.getArg! 0) | return .continue
    let some l := elems? args[0]! | return .continue
    if h : i < l.size then return ← doneRfl e l[i]
  return .continue

open Lean Meta Simp in
simproc_decl evSet (List.set _ _ _) := fun e => do
  let args := e.getAppArgs
  unless args.size == 4 do return .continue
  let some i ← natOf? args[2]! | return .continue
  let some l := elems? args[1]! | return .continue
  let l := l.setIfInBounds i args[3]!
  let ty := args[0]!
  let lev := e.getAppFn.constLevels!
  let r := l.foldr (fun x r => mkApp3 (mkConst ``List.cons lev) ty x r) (mkApp (mkConst ``List.nil lev) ty)
  doneRfl e r

open Lean Meta Simp in
simproc_decl evGet (getElem? _ _) := fun e => do
  let args := e.getAppArgs
  unless args.size == 7 do return .continue
  let some i ← natOf? args[6]! | return .continue
  let lev := (← getLevel args[2]!)
  let some lev := lev.dec | return .continue
  match nth? args[5]! i with
  | some (some x) => doneRfl e (mkApp2 (mkConst ``Option.some [lev]) args[2]! x)
  | some none => doneRfl e (mkApp (mkConst ``Option.none [lev]) args[2]!)
  | none => return .continue

simproc_decl evBindO (bindO _ _ _) := headArg 3
simproc_decl evLetK (letK _ _) := letArg
simproc_decl evSel (sel _ _ _ _ _ _) := headArg 6
simproc_decl evOnW (onW _ _ _ _) := headArg 4
simproc_decl evOnB (onB _ _ _ _) := headArg 4
simproc_decl evThenB (thenB _ _ _) := headArg 3
simproc_decl evOrN (orN _ _) := headArg 2
simproc_decl stopAC (AC _ _ _ _ _) := fun e => return .done { expr := e }
simproc_decl stopLoop (ALoop _ _ _ _ _ _) := fun e => return .done { expr := e }

open Lean.Parser.Tactic in
/-- Evaluates. -/
macro "absw" "[" ls:simpLemma,* "]" : tactic => `(tactic| simp (maxSteps := 2000000) (implicitDefEqProofs := false) [↓wOps_nil, ↓wOps_cons, ↓wDrawn_nil, ↓wDrawn_cons, ↓W_skip, ↓W_ops, ↓W_drawn, ↓W_seq, ↓W_cond, ↓W_block, ↓W_loop, ↓W_exit, ↓W_ret, ↓wFunc_eq, ↓thenQ_normal, ↓thenQ_ret, ↓thenQ_exit, ↓stopAC, ↓stopLoop,
  ↓evTmp, ↓evSet, evSet, evGet, ↓evBindO, ↓evLetK, ↓evSel, ↓evOnW, ↓evOnB, ↓evThenB, ↓evOrN,
  ↓bindO_some, ↓bindO_none, ↓bindO_ite, ↓sel_0, ↓sel_1, ↓sel_2, ↓sel_3, ↓sel_4, ↓onW_true, ↓onW_false, ↓onW_some, ↓onB_true, ↓onB_false, ↓onB_bool, ↓seqK_normal, ↓seqK_exit, ↓seqK_ret, ↓blockK_normal, ↓blockK_ret, ↓blockK_self, ↓blockK_ne, ↓thenB_true, ↓thenB_false, ↓orN_true, ↓orN_false, ↓finK_normal, ↓finK_ret, chkD_nil, chkD_cons, sameO,
  kd, wantedA, evP, evR, evF, evL, evC, evalO, initT, List.replicate, T.put, evBin, evUn, evEq, evSt, evRes, oneOf, plain, scp, scpA, scpL, rdRow, rdCells, veq, veqA, veqL, isHole, Value.cells, evalL, evF, optI, evBounds, evFill, evFillR, reps_zero, reps_succ, evApp, newsOf, wrCells, splice_one, one1, fitsApp, evClr, undef, List.getElem?_concat_length, -getElem?_pos, -getElem?_neg, $ls,*])

end Abs
end Go.Proofs.Ytekhadlpcdjlpaa
