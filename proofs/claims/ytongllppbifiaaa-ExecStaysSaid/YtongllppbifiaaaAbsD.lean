/- The evaluator for simp: what is still to be done stands in a stack, as data; so each step is a plain rewriting. -/
import Derived.Test.YtongllppbifiaaaAbsC
namespace Go.Proofs.Ytongllppbifiaaa
namespace Abs
open Go
set_option linter.unusedVariables false
set_option linter.unusedSimpArgs false

/-- What stands behind: code, or the end of a block. -/
inductive Frm where
  | code (c : ACode)
  | blk (id : Nat)

/-- What comes behind code, by how it ends. -/
def resume (P : Program) (m : Nat) : List Frm → AExit → T → AH → (AExit → T → AH → Prop) → Prop
  | [], e, t, h, Q => Q e t h
  | .code c :: s, .normal, t, h, Q => W P False (AC2 P) (ALoop P m) c t h (fun e t h => resume P m s e t h Q)
  | .code _ :: s, .exit i, t, h, Q => resume P m s (.exit i) t h Q
  | .code _ :: s, .ret, t, h, Q => resume P m s .ret t h Q
  | .blk id :: s, .exit i, t, h, Q => if i = id then resume P m s .normal t h Q else resume P m s (.exit i) t h Q
  | .blk _ :: s, .normal, t, h, Q => resume P m s .normal t h Q
  | .blk _ :: s, .ret, t, h, Q => resume P m s .ret t h Q

def resK (P : Program) (m : Nat) (s : List Frm) (Q : AExit → T → AH → Prop) : AExit → T → AH → Prop := fun e t h => resume P m s e t h Q

/-- Code, then the stack. -/
def run (P : Program) (m : Nat) (c : ACode) (s : List Frm) (t : T) (h : AH) (Q : AExit → T → AH → Prop) : Prop := W P False (AC2 P) (ALoop P m) c t h (resK P m s Q)
/-- Operations in a row, then the stack. -/
def runO (P : Program) (m : Nat) (l : List AOper) (s : List Frm) (t : T) (h : AH) (Q : AExit → T → AH → Prop) : Prop := wOps P False (AC2 P) l t h (resK P m s Q .normal)
/-- Operations of a region that draws, then the stack. -/
def runD (P : Program) (m base : Nat) (l : List DOper) (D : Reads) (s : List Frm) (t : T) (h : AH) (Q : AExit → T → AH → Prop) : Prop := wDrawn P False (AC2 P) base l D t h (resK P m s Q .normal)

variable {P : Program} {m : Nat} {s : List Frm} {t : T} {h : AH} {Q : AExit → T → AH → Prop}

theorem resK_eq (e : AExit) : resK P m s Q e t h = resume P m s e t h Q := rfl
theorem resume_nil (e : AExit) : resume P m [] e t h Q = Q e t h := by cases e <;> rfl
theorem resume_code (c : ACode) : resume P m (.code c :: s) .normal t h Q = run P m c s t h Q := rfl
theorem resume_code_exit (c : ACode) (i : Nat) : resume P m (.code c :: s) (.exit i) t h Q = resume P m s (.exit i) t h Q := rfl
theorem resume_code_ret (c : ACode) : resume P m (.code c :: s) .ret t h Q = resume P m s .ret t h Q := rfl
theorem resume_blk_self (i : Nat) : resume P m (.blk i :: s) (.exit i) t h Q = resume P m s .normal t h Q := by simp [resume]
theorem resume_blk_ne (i j : Nat) (hij : i ≠ j) : resume P m (.blk j :: s) (.exit i) t h Q = resume P m s (.exit i) t h Q := by simp [resume, hij]
theorem resume_blk (i : Nat) : resume P m (.blk i :: s) .normal t h Q = resume P m s .normal t h Q := rfl
theorem resume_blk_ret (i : Nat) : resume P m (.blk i :: s) .ret t h Q = resume P m s .ret t h Q := rfl

theorem run_skip : run P m .skip s t h Q = resume P m s .normal t h Q := rfl
theorem run_exit (i : Nat) : run P m (.exit i) s t h Q = resume P m s (.exit i) t h Q := rfl
theorem run_ret : run P m .ret s t h Q = resume P m s .ret t h Q := rfl
theorem run_ops (l : List AOper) : run P m (.ops l) s t h Q = runO P m l s t h Q := rfl
theorem run_seq (a b : ACode) : run P m (.seq a b) s t h Q = run P m a (.code b :: s) t h Q := by
  unfold run
  simp only [W]
  congr 1
  funext e t h
  cases e <;> rfl
theorem run_block (i : Nat) (a : ACode) : run P m (.block i a) s t h Q = run P m a (.blk i :: s) t h Q := by
  unfold run
  simp only [W]
  congr 1
  funext e t h
  cases e <;> rfl
theorem run_loop (a : ACode) : run P m (.loop a) s t h Q = ALoop P m a t h (resK P m s Q) := rfl

/-- By a truth that was computed. -/
def condK (P : Program) (m : Nat) (o : Option Value) (a b : ACode) (s : List Frm) (t : T) (h : AH) (Q : AExit → T → AH → Prop) : Prop := onB o (run P m a s t h Q) (run P m b s t h Q) False
theorem run_cond (c : Operand) (a b : ACode) : run P m (.cond c a b) s t h Q = condK P m (evalO t c) a b s t h Q := rfl
theorem condK_true (a b : ACode) : condK P m (some (.bool true)) a b s t h Q = run P m a s t h Q := rfl
theorem condK_false (a b : ACode) : condK P m (some (.bool false)) a b s t h Q = run P m b s t h Q := rfl
theorem condK_bool (x : Bool) (a b : ACode) : condK P m (some (.bool x)) a b s t h Q = if x = true then run P m a s t h Q else run P m b s t h Q := by cases x <;> rfl

/-- A temporary is laid down. -/
def goT (P : Program) (m : Nat) (t : T) (l : List AOper) (s : List Frm) (h : AH) (Q : AExit → T → AH → Prop) : Prop := runO P m l s t h Q
theorem goT_eq (l : List AOper) : goT P m t l s h Q = runO P m l s t h Q := rfl

def stepP (P : Program) (m : Nat) (o : Option Value) (d : Option Tmp) (l : List AOper) (s : List Frm) (t : T) (h : AH) (Q : AExit → T → AH → Prop) : Prop := match o with
  | some v => goT P m (t.put d v) l s h Q
  | none => False
theorem stepP_some (v : Value) (d : Option Tmp) (l : List AOper) : stepP P m (some v) d l s t h Q = goT P m (t.put d v) l s h Q := rfl
theorem stepP_none (d : Option Tmp) (l : List AOper) : stepP P m none d l s t h Q = False := rfl
theorem stepP_ite (c : Prop) [Decidable c] (a b : Option Value) (d : Option Tmp) (l : List AOper) : stepP P m (if c then a else b) d l s t h Q = if c then stepP P m a d l s t h Q else stepP P m b d l s t h Q := by split <;> rfl

def stepF (P : Program) (m : Nat) (o : Option (Value × ABlk)) (d : Option Tmp) (l : List AOper) (s : List Frm) (t : T) (h : AH) (Q : AExit → T → AH → Prop) : Prop := match o with
  | some (v, k) => goT P m (t.put d v) l s (h ++ [k]) Q
  | none => False
theorem stepF_some (v : Value) (k : ABlk) (d : Option Tmp) (l : List AOper) : stepF P m (some (v, k)) d l s t h Q = goT P m (t.put d v) l s (h ++ [k]) Q := rfl
theorem stepF_none (d : Option Tmp) (l : List AOper) : stepF P m none d l s t h Q = False := rfl
theorem stepF_ite (c : Prop) [Decidable c] (a b : Option (Value × ABlk)) (d : Option Tmp) (l : List AOper) : stepF P m (if c then a else b) d l s t h Q = if c then stepF P m a d l s t h Q else stepF P m b d l s t h Q := by split <;> rfl

def stepL (P : Program) (m : Nat) (o : Option (Value × AH)) (d : Option Tmp) (l : List AOper) (s : List Frm) (t : T) (Q : AExit → T → AH → Prop) : Prop := match o with
  | some (v, h) => goT P m (t.put d v) l s h Q
  | none => False
theorem stepL_some (v : Value) (h : AH) (d : Option Tmp) (l : List AOper) : stepL P m (some (v, h)) d l s t Q = goT P m (t.put d v) l s h Q := rfl
theorem stepL_none (d : Option Tmp) (l : List AOper) : stepL P m none d l s t Q = False := rfl
theorem stepL_ite (c : Prop) [Decidable c] (a b : Option (Value × AH)) (d : Option Tmp) (l : List AOper) : stepL P m (if c then a else b) d l s t Q = if c then stepL P m a d l s t Q else stepL P m b d l s t Q := by split <;> rfl

/-- What stands behind a call. -/
def callK (P : Program) (m : Nat) (d : Option Tmp) (l : List AOper) (s : List Frm) (t : T) (Q : AExit → T → AH → Prop) : Value → AH → Prop := fun v h => goT P m (t.put d v) l s h Q
theorem callK_eq (v : Value) (h : AH) (d : Option Tmp) (l : List AOper) : callK P m d l s t Q v h = goT P m (t.put d v) l s h Q := rfl

def stepC (P : Program) (m : Nat) (o : Option (FuncId × List Value)) (d : Option Tmp) (l : List AOper) (s : List Frm) (t : T) (h : AH) (Q : AExit → T → AH → Prop) : Prop := match o with
  | some (f, args) => AC P f args h (callK P m d l s t Q)
  | none => False
theorem stepC_some (f : FuncId) (args : List Value) (d : Option Tmp) (l : List AOper) : stepC P m (some (f, args)) d l s t h Q = AC P f args h (callK P m d l s t Q) := rfl
theorem stepC_none (d : Option Tmp) (l : List AOper) : stepC P m none d l s t h Q = False := rfl

def stepI (P : Program) (m : Nat) (o : Option (FuncId × List Value)) (d : Option Tmp) (l : List AOper) (s : List Frm) (t : T) (h : AH) (Q : AExit → T → AH → Prop) : Prop := match o with
  | some (f, args) => IC P f args h (callK P m d l s t Q)
  | none => False
theorem stepI_some (f : FuncId) (args : List Value) (d : Option Tmp) (l : List AOper) : stepI P m (some (f, args)) d l s t h Q = IC P f args h (callK P m d l s t Q) := rfl
theorem stepI_none (d : Option Tmp) (l : List AOper) : stepI P m none d l s t h Q = False := rfl

/-- An operation that is to be carried out, by its kind. -/
def step (P : Program) (m : Nat) (kd : Nat) (x : AOper) (l : List AOper) (s : List Frm) (t : T) (h : AH) (Q : AExit → T → AH → Prop) : Prop := match kd with
  | 0 => stepP P m (evP P t x.op) x.dst l s t h Q
  | 1 => stepP P m (evR t h x.op) x.dst l s t h Q
  | 2 => stepF P m (evF t h.length x.op) x.dst l s t h Q
  | 3 => stepL P m (evL t h x.op) x.dst l s t Q
  | 5 => stepI P m (evI t x.op) x.dst l s t h Q
  | _ => stepC P m (evC t x.op) x.dst l s t h Q
theorem step_0 (x : AOper) (l : List AOper) : step P m 0 x l s t h Q = stepP P m (evP P t x.op) x.dst l s t h Q := rfl
theorem step_1 (x : AOper) (l : List AOper) : step P m 1 x l s t h Q = stepP P m (evR t h x.op) x.dst l s t h Q := rfl
theorem step_2 (x : AOper) (l : List AOper) : step P m 2 x l s t h Q = stepF P m (evF t h.length x.op) x.dst l s t h Q := rfl
theorem step_3 (x : AOper) (l : List AOper) : step P m 3 x l s t h Q = stepL P m (evL t h x.op) x.dst l s t Q := rfl
theorem step_5 (x : AOper) (l : List AOper) : step P m 5 x l s t h Q = stepI P m (evI t x.op) x.dst l s t h Q := rfl
theorem step_4 (x : AOper) (l : List AOper) : step P m 4 x l s t h Q = stepC P m (evC t x.op) x.dst l s t h Q := rfl

/-- By whether an operation is to be carried out. -/
def wantK (P : Program) (m : Nat) (o : Option Bool) (x : AOper) (l : List AOper) (s : List Frm) (t : T) (h : AH) (Q : AExit → T → AH → Prop) : Prop := match o with
  | some true => step P m (kd x.op) x l s t h Q
  | some false => goT P m (t.put x.dst undef) l s h Q
  | none => False
theorem wantK_true (x : AOper) (l : List AOper) : wantK P m (some true) x l s t h Q = step P m (kd x.op) x l s t h Q := rfl
theorem wantK_false (x : AOper) (l : List AOper) : wantK P m (some false) x l s t h Q = goT P m (t.put x.dst undef) l s h Q := rfl
theorem wantK_none (x : AOper) (l : List AOper) : wantK P m none x l s t h Q = False := rfl
theorem wantK_some (b : Bool) (x : AOper) (l : List AOper) : wantK P m (some b) x l s t h Q = if b = true then step P m (kd x.op) x l s t h Q else goT P m (t.put x.dst undef) l s h Q := by cases b <;> rfl

theorem runO_nil : runO P m [] s t h Q = resume P m s .normal t h Q := rfl
theorem runO_plain (d : Option Tmp) (op : AOp) (l : List AOper) : runO P m (⟨d, op, none⟩ :: l) s t h Q = step P m (kd op) ⟨d, op, none⟩ l s t h Q := by
  unfold runO step stepP stepF stepL stepC stepI goT
  simp only [wOps, wantedA, onW]
  have h5 := @evC_lt t op
  have h6 := @evI_ge t op
  generalize evP P t op = o1
  generalize evR t h op = o2
  generalize evF t h.length op = o3
  generalize evL t h op = o4
  generalize evC t op = o5 at h5 ⊢
  generalize evI t op = o6 at h6 ⊢
  generalize kd op = n
  rcases n with _ | _ | _ | _ | _ | _ | n
  · cases o1 <;> rfl
  · cases o2 <;> rfl
  · cases o3 <;> rfl
  · cases o4 <;> rfl
  · cases o5 with
    | none => rfl
    | some x => obtain ⟨f, args⟩ := x; exact AC2_lt (h5 rfl)
  · cases o6 with
    | none => rfl
    | some x => obtain ⟨f, args⟩ := x; exact AC2_ge (h6 rfl).1
  · cases o5 with
    | none => rfl
    | some x => obtain ⟨f, args⟩ := x; exact AC2_lt (h5 rfl)
theorem runO_cons (x : AOper) (l : List AOper) : runO P m (x :: l) s t h Q = wantK P m (wantedA t x.guard) x l s t h Q := by
  unfold runO wantK step stepP stepF stepL stepC stepI goT
  simp only [wOps, onW]
  have h5 := @evC_lt t x.op
  have h6 := @evI_ge t x.op
  generalize evP P t x.op = o1
  generalize evR t h x.op = o2
  generalize evF t h.length x.op = o3
  generalize evL t h x.op = o4
  generalize evC t x.op = o5 at h5 ⊢
  generalize evI t x.op = o6 at h6 ⊢
  generalize kd x.op = n
  cases wantedA t x.guard with
  | none => rfl
  | some b =>
    cases b with
    | false => rfl
    | true =>
      rcases n with _ | _ | _ | _ | _ | _ | n
      · cases o1 <;> rfl
      · cases o2 <;> rfl
      · cases o3 <;> rfl
      · cases o4 <;> rfl
      · cases o5 with
        | none => rfl
        | some x => obtain ⟨f, args⟩ := x; exact AC2_lt (h5 rfl)
      · cases o6 with
        | none => rfl
        | some x => obtain ⟨f, args⟩ := x; exact AC2_ge (h6 rfl).1
      · cases o5 with
        | none => rfl
        | some x => obtain ⟨f, args⟩ := x; exact AC2_lt (h5 rfl)

/-- A temporary. -/
def getT : T → Nat → Option Value
  | [], _ => none
  | x :: _, 0 => x
  | _ :: l, n + 1 => getT l n
theorem getT_eq : ∀ (t : T) (i : Nat), getT t i = t[i]?.join
  | [], i => by simp [getT]
  | x :: l, 0 => by simp [getT]
  | x :: l, n + 1 => by simp [getT, getT_eq l n]
theorem evO_tmp (t : T) (i : Nat) : evalO t (.tmp i) = getT t i := (getT_eq t i).symm
theorem evO_const (t : T) (v : Value) : evalO t (.const v) = if plain v then some v else none := rfl
theorem evO_func (t : T) (f : FuncId) : evalO t (.func f) = some (.func (.func f) #[] #[]) := rfl
theorem evO_global (t : T) (g : Nat) : evalO t (.global g) = none := rfl
theorem getT_0 (x : Option Value) (l : T) : getT (x :: l) 0 = x := rfl
theorem getT_1 (a x : Option Value) (l : T) : getT (a :: x :: l) 1 = x := rfl
theorem getT_2 (a b x : Option Value) (l : T) : getT (a :: b :: x :: l) 2 = x := rfl
theorem getT_3 (a b c x : Option Value) (l : T) : getT (a :: b :: c :: x :: l) 3 = x := rfl
theorem getT_s4 (a b c d : Option Value) (l : T) (n : Nat) : getT (a :: b :: c :: d :: l) (n + 4) = getT l n := rfl
theorem getT_s16 (a b c d a1 b1 c1 d1 a2 b2 c2 d2 a3 b3 c3 d3 : Option Value) (l : T) (n : Nat) : getT (a :: b :: c :: d :: a1 :: b1 :: c1 :: d1 :: a2 :: b2 :: c2 :: d2 :: a3 :: b3 :: c3 :: d3 :: l) (n + 16) = getT l n := rfl

/-- A temporary turns. -/
def setT : T → Nat → Option Value → T
  | [], _, _ => []
  | _ :: l, 0, v => v :: l
  | x :: l, n + 1, v => x :: setT l n v
theorem setT_eq : ∀ (t : T) (i : Nat) (v : Option Value), t.set i v = setT t i v
  | [], i, v => by simp [setT]
  | x :: l, 0, v => by simp [setT]
  | x :: l, n + 1, v => by simp [setT, setT_eq l n]
theorem put_some (t : T) (d : Tmp) (v : Value) : T.put t (some d) v = setT t d (some v) := setT_eq t d (some v)
theorem put_none (t : T) (v : Value) : T.put t none v = t := rfl
theorem setT_0 (x v : Option Value) (l : T) : setT (x :: l) 0 v = v :: l := rfl
theorem setT_1 (a x v : Option Value) (l : T) : setT (a :: x :: l) 1 v = a :: v :: l := rfl
theorem setT_2 (a b x v : Option Value) (l : T) : setT (a :: b :: x :: l) 2 v = a :: b :: v :: l := rfl
theorem setT_3 (a b c x v : Option Value) (l : T) : setT (a :: b :: c :: x :: l) 3 v = a :: b :: c :: v :: l := rfl
theorem setT_s4 (a b c d v : Option Value) (l : T) (n : Nat) : setT (a :: b :: c :: d :: l) (n + 4) v = a :: b :: c :: d :: setT l n v := rfl
theorem setT_s16 (a b c d a1 b1 c1 d1 a2 b2 c2 d2 a3 b3 c3 d3 v : Option Value) (l : T) (n : Nat) : setT (a :: b :: c :: d :: a1 :: b1 :: c1 :: d1 :: a2 :: b2 :: c2 :: d2 :: a3 :: b3 :: c3 :: d3 :: l) (n + 16) v = a :: b :: c :: d :: a1 :: b1 :: c1 :: d1 :: a2 :: b2 :: c2 :: d2 :: a3 :: b3 :: c3 :: d3 :: setT l n v := rfl

/-- A read, to be asked again. -/
def rdF (t : T) (op : AOp) : AH → Option Value := fun h => evR t h op
theorem rdF_eq (op : AOp) : rdF t op h = evR t h op := rfl

def sameO (o : Option Value) (v : Value) : Bool := match o with
  | some u => veq u v
  | none => false
theorem sameO_some (u v : Value) : sameO (some u) v = veq u v := rfl
theorem sameO_none (v : Value) : sameO none v = false := rfl

/-- Do the reads that are listed give the same? -/
def askD (l : List Nat) (D : Reads) (h : AH) : Bool := chkD l D h
theorem askD_nil (l : List Nat) : askD l [] h = true := rfl
theorem askD_none (D : Reads) : askD [] D h = true := by
  unfold askD chkD
  induction D with
  | nil => rfl
  | cons d D ih => simp
theorem askD_cons (l : List Nat) (i : Nat) (f : AH → Option Value) (v : Value) (D : Reads) : askD l ((i, f, v) :: D) h = ((!(l.contains i) || sameO (f h) v) && askD l D h) := by
  simp only [askD, chkD, List.all_cons, sameO]
  rfl

/-- Are the places of the blocks to come still free? -/
def holesB (base : Nat) (l : List DOper) (h : AH) : Bool := l.all (fun e => kd e.x.op != 2 || isHole h (base + e.fi))
theorem holesB_nil (base : Nat) : holesB base [] h = true := rfl
theorem holesB_cons (base : Nat) (e : DOper) (l : List DOper) : holesB base (e :: l) h = ((kd e.x.op != 2 || isHole h (base + e.fi)) && holesB base l h) := rfl

def goD (P : Program) (m base : Nat) (t : T) (h : AH) (l : List DOper) (D : Reads) (s : List Frm) (Q : AExit → T → AH → Prop) : Prop := runD P m base l D s t h Q
theorem goD_eq (base : Nat) (l : List DOper) (D : Reads) : goD P m base t h l D s Q = runD P m base l D s t h Q := rfl
def gateD (P : Program) (m base : Nat) (b : Bool) (t : T) (h : AH) (l : List DOper) (D : Reads) (s : List Frm) (Q : AExit → T → AH → Prop) : Prop := if b then goD P m base t h l D s Q else False
theorem gateD_true (base : Nat) (l : List DOper) (D : Reads) : gateD P m base true t h l D s Q = goD P m base t h l D s Q := rfl
theorem gateD_false (base : Nat) (l : List DOper) (D : Reads) : gateD P m base false t h l D s Q = False := rfl

def stepDP (P : Program) (m base : Nat) (o : Option Value) (d : Option Tmp) (l : List DOper) (D : Reads) (s : List Frm) (t : T) (h : AH) (Q : AExit → T → AH → Prop) : Prop := match o with
  | some v => goD P m base (t.put d v) h l D s Q
  | none => False
theorem stepDP_some (base : Nat) (v : Value) (d : Option Tmp) (l : List DOper) (D : Reads) : stepDP P m base (some v) d l D s t h Q = goD P m base (t.put d v) h l D s Q := rfl
theorem stepDP_none (base : Nat) (d : Option Tmp) (l : List DOper) (D : Reads) : stepDP P m base none d l D s t h Q = False := rfl
theorem stepDP_ite (base : Nat) (c : Prop) [Decidable c] (a b : Option Value) (d : Option Tmp) (l : List DOper) (D : Reads) : stepDP P m base (if c then a else b) d l D s t h Q = if c then stepDP P m base a d l D s t h Q else stepDP P m base b d l D s t h Q := by split <;> rfl

def stepDR (P : Program) (m base i : Nat) (o : Option Value) (op : AOp) (d : Option Tmp) (l : List DOper) (D : Reads) (s : List Frm) (t : T) (h : AH) (Q : AExit → T → AH → Prop) : Prop := match o with
  | some v => goD P m base (t.put d v) h l ((i, rdF t op, v) :: D) s Q
  | none => False
theorem stepDR_some (base i : Nat) (v : Value) (op : AOp) (d : Option Tmp) (l : List DOper) (D : Reads) : stepDR P m base i (some v) op d l D s t h Q = goD P m base (t.put d v) h l ((i, rdF t op, v) :: D) s Q := rfl
theorem stepDR_none (base i : Nat) (op : AOp) (d : Option Tmp) (l : List DOper) (D : Reads) : stepDR P m base i none op d l D s t h Q = False := rfl
theorem stepDR_ite (base i : Nat) (c : Prop) [Decidable c] (a b : Option Value) (op : AOp) (d : Option Tmp) (l : List DOper) (D : Reads) : stepDR P m base i (if c then a else b) op d l D s t h Q = if c then stepDR P m base i a op d l D s t h Q else stepDR P m base i b op d l D s t h Q := by split <;> rfl

def stepDF (P : Program) (m base n : Nat) (o : Option (Value × ABlk)) (d : Option Tmp) (l : List DOper) (D : Reads) (s : List Frm) (t : T) (h : AH) (Q : AExit → T → AH → Prop) : Prop := match o with
  | some (v, k) => gateD P m base (isHole h n) (t.put d v) (h.set n k) l D s Q
  | none => False
theorem stepDF_some (base n : Nat) (v : Value) (k : ABlk) (d : Option Tmp) (l : List DOper) (D : Reads) : stepDF P m base n (some (v, k)) d l D s t h Q = gateD P m base (isHole h n) (t.put d v) (h.set n k) l D s Q := rfl
theorem stepDF_none (base n : Nat) (d : Option Tmp) (l : List DOper) (D : Reads) : stepDF P m base n none d l D s t h Q = False := rfl
theorem stepDF_ite (base n : Nat) (c : Prop) [Decidable c] (a b : Option (Value × ABlk)) (d : Option Tmp) (l : List DOper) (D : Reads) : stepDF P m base n (if c then a else b) d l D s t h Q = if c then stepDF P m base n a d l D s t h Q else stepDF P m base n b d l D s t h Q := by split <;> rfl

def stepDL (P : Program) (m base : Nat) (o : Option (Value × AH)) (ck : List Nat) (d : Option Tmp) (l : List DOper) (D : Reads) (s : List Frm) (t : T) (Q : AExit → T → AH → Prop) : Prop := match o with
  | some (v, h) => gateD P m base (askD ck D h) (t.put d v) h l D s Q
  | none => False
theorem stepDL_some (base : Nat) (v : Value) (h : AH) (ck : List Nat) (d : Option Tmp) (l : List DOper) (D : Reads) : stepDL P m base (some (v, h)) ck d l D s t Q = gateD P m base (askD ck D h) (t.put d v) h l D s Q := rfl
theorem stepDL_none (base : Nat) (ck : List Nat) (d : Option Tmp) (l : List DOper) (D : Reads) : stepDL P m base none ck d l D s t Q = False := rfl
theorem stepDL_ite (base : Nat) (c : Prop) [Decidable c] (a b : Option (Value × AH)) (ck : List Nat) (d : Option Tmp) (l : List DOper) (D : Reads) : stepDL P m base (if c then a else b) ck d l D s t Q = if c then stepDL P m base a ck d l D s t Q else stepDL P m base b ck d l D s t Q := by split <;> rfl

def callD (P : Program) (m base : Nat) (ck : List Nat) (d : Option Tmp) (l : List DOper) (D : Reads) (s : List Frm) (t : T) (Q : AExit → T → AH → Prop) : Value → AH → Prop := fun v h => gateD P m base (askD ck D h && holesB base l h) (t.put d v) h l D s Q
theorem callD_eq (base : Nat) (v : Value) (h : AH) (ck : List Nat) (d : Option Tmp) (l : List DOper) (D : Reads) : callD P m base ck d l D s t Q v h = gateD P m base (askD ck D h && holesB base l h) (t.put d v) h l D s Q := rfl
def stepDC (P : Program) (m base : Nat) (o : Option (FuncId × List Value)) (ck : List Nat) (d : Option Tmp) (l : List DOper) (D : Reads) (s : List Frm) (t : T) (h : AH) (Q : AExit → T → AH → Prop) : Prop := match o with
  | some (f, args) => AC P f args h (callD P m base ck d l D s t Q)
  | none => False
theorem stepDC_some (base : Nat) (f : FuncId) (args : List Value) (ck : List Nat) (d : Option Tmp) (l : List DOper) (D : Reads) : stepDC P m base (some (f, args)) ck d l D s t h Q = AC P f args h (callD P m base ck d l D s t Q) := rfl
theorem stepDC_none (base : Nat) (ck : List Nat) (d : Option Tmp) (l : List DOper) (D : Reads) : stepDC P m base none ck d l D s t h Q = False := rfl

def stepD (P : Program) (m base kd : Nat) (x : DOper) (l : List DOper) (D : Reads) (s : List Frm) (t : T) (h : AH) (Q : AExit → T → AH → Prop) : Prop := match kd with
  | 0 => stepDP P m base (evP P t x.x.op) x.x.dst l D s t h Q
  | 1 => stepDR P m base x.i (evR t h x.x.op) x.x.op x.x.dst l D s t h Q
  | 2 => stepDF P m base (base + x.fi) (evF t (base + x.fi) x.x.op) x.x.dst l D s t h Q
  | 3 => stepDL P m base (evL t h x.x.op) x.chk x.x.dst l D s t Q
  | _ => stepDC P m base (evC t x.x.op) x.chk x.x.dst l D s t h Q
theorem stepD_0 (base : Nat) (x : DOper) (l : List DOper) (D : Reads) : stepD P m base 0 x l D s t h Q = stepDP P m base (evP P t x.x.op) x.x.dst l D s t h Q := rfl
theorem stepD_1 (base : Nat) (x : DOper) (l : List DOper) (D : Reads) : stepD P m base 1 x l D s t h Q = stepDR P m base x.i (evR t h x.x.op) x.x.op x.x.dst l D s t h Q := rfl
theorem stepD_2 (base : Nat) (x : DOper) (l : List DOper) (D : Reads) : stepD P m base 2 x l D s t h Q = stepDF P m base (base + x.fi) (evF t (base + x.fi) x.x.op) x.x.dst l D s t h Q := rfl
theorem stepD_3 (base : Nat) (x : DOper) (l : List DOper) (D : Reads) : stepD P m base 3 x l D s t h Q = stepDL P m base (evL t h x.x.op) x.chk x.x.dst l D s t Q := rfl
theorem stepD_4 (base : Nat) (x : DOper) (l : List DOper) (D : Reads) : stepD P m base 4 x l D s t h Q = stepDC P m base (evC t x.x.op) x.chk x.x.dst l D s t h Q := rfl

def wantD (P : Program) (m base : Nat) (o : Option Bool) (x : DOper) (l : List DOper) (D : Reads) (s : List Frm) (t : T) (h : AH) (Q : AExit → T → AH → Prop) : Prop := match o with
  | some true => stepD P m base (kd x.x.op) x l D s t h Q
  | some false => goD P m base (t.put x.x.dst undef) h l D s Q
  | none => False
theorem wantD_true (base : Nat) (x : DOper) (l : List DOper) (D : Reads) : wantD P m base (some true) x l D s t h Q = stepD P m base (kd x.x.op) x l D s t h Q := rfl
theorem wantD_false (base : Nat) (x : DOper) (l : List DOper) (D : Reads) : wantD P m base (some false) x l D s t h Q = goD P m base (t.put x.x.dst undef) h l D s Q := rfl
theorem wantD_none (base : Nat) (x : DOper) (l : List DOper) (D : Reads) : wantD P m base none x l D s t h Q = False := rfl
theorem wantD_some (base : Nat) (b : Bool) (x : DOper) (l : List DOper) (D : Reads) : wantD P m base (some b) x l D s t h Q = if b = true then stepD P m base (kd x.x.op) x l D s t h Q else goD P m base (t.put x.x.dst undef) h l D s Q := by cases b <;> rfl

theorem runD_nil (base : Nat) (D : Reads) : runD P m base [] D s t h Q = resume P m s .normal t h Q := rfl
theorem runD_cons (base : Nat) (x : DOper) (l : List DOper) (D : Reads) : runD P m base (x :: l) D s t h Q = wantD P m base (wantedA t x.x.guard) x l D s t h Q := by
  unfold runD wantD stepD stepDP stepDR stepDF stepDL stepDC gateD goD
  simp only [wDrawn, onW]
  have h5 := @evC_lt t x.x.op
  generalize evP P t x.x.op = o1
  generalize evR t h x.x.op = o2
  generalize evF t (base + x.fi) x.x.op = o3
  generalize evL t h x.x.op = o4
  generalize evC t x.x.op = o5 at h5 ⊢
  generalize kd x.x.op = n
  cases wantedA t x.x.guard with
  | none => rfl
  | some b =>
    cases b with
    | false => rfl
    | true =>
      rcases n with _ | _ | _ | _ | n
      · cases o1 <;> rfl
      · cases o2 <;> rfl
      · cases o3 <;> rfl
      · cases o4 <;> rfl
      · cases o5 with
        | none => rfl
        | some x => obtain ⟨f, args⟩ := x; exact AC2_lt (h5 rfl)

/-- A region that draws begins: places are kept for its new blocks. -/
def openD (P : Program) (m base : Nat) (h : AH) (l : List DOper) (s : List Frm) (t : T) (Q : AExit → T → AH → Prop) : Prop := runD P m base l [] s t h Q
theorem openD_eq (base : Nat) (l : List DOper) : openD P m base h l s t Q = runD P m base l [] s t h Q := rfl
def holes : Nat → AH
  | 0 => []
  | n + 1 => .hole :: holes n
theorem holes_eq : ∀ n, holes n = List.replicate n .hole
  | 0 => rfl
  | n + 1 => by simp [holes, List.replicate_succ, holes_eq n]
theorem holes_0 : holes 0 = [] := rfl
theorem holes_s (n : Nat) : holes (n + 1) = .hole :: holes n := rfl
theorem run_drawn (nh : Nat) (l : List DOper) : run P m (.drawn nh l) s t h Q = openD P m h.length (h ++ holes nh) l s t Q := by rw [holes_eq]; rfl

/-- A function ends. -/
def finQ (res : List ARes) (K : Value → AH → Prop) : AExit → T → AH → Prop := fun e t h => match e with
  | .exit _ => False
  | _ => match evRes t h res with
    | some vs => K (oneOf vs) h
    | none => False
def finV (o : Option (List Value)) (h : AH) (K : Value → AH → Prop) : Prop := match o with
  | some vs => K (oneOf vs) h
  | none => False
theorem finQ_normal (res : List ARes) (K : Value → AH → Prop) : finQ res K .normal t h = finV (evRes t h res) h K := rfl
theorem finQ_ret (res : List ARes) (K : Value → AH → Prop) : finQ res K .ret t h = finV (evRes t h res) h K := rfl
theorem finV_some (vs : List Value) (K : Value → AH → Prop) : finV (some vs) h K = K (oneOf vs) h := rfl
theorem finV_none (K : Value → AH → Prop) : finV none h K = False := rfl
theorem oneOf_one (v : Value) : oneOf [v] = v := rfl
theorem oneOf_nil : oneOf [] = .tuple #[] := rfl
theorem oneOf_more (v u : Value) (l : List Value) : oneOf (v :: u :: l) = .tuple (v :: u :: l).toArray := rfl

/-- Temporaries at first. -/
def nones : Nat → T
  | 0 => []
  | n + 1 => none :: nones n
theorem nones_eq : ∀ n, nones n = List.replicate n none
  | 0 => rfl
  | n + 1 => by simp [nones, List.replicate_succ, nones_eq n]
theorem nones_0 : nones 0 = [] := rfl
theorem nones_1 : nones 1 = [none] := rfl
theorem nones_2 : nones 2 = [none, none] := rfl
theorem nones_3 : nones 3 = [none, none, none] := rfl
theorem nones_s4 (n : Nat) : nones (n + 4) = none :: none :: none :: none :: nones n := rfl
def begT (args : List Value) (n : Nat) : T := args.map some ++ nones (n - args.length)
def begin_ (P : Program) (m : Nat) (t : T) (c : ACode) (h : AH) (Q : AExit → T → AH → Prop) : Prop := run P m c [] t h Q
theorem begin_eq (c : ACode) : begin_ P m t c h Q = run P m c [] t h Q := rfl

/-- A function's contract: what its text comes to. -/
theorem entry (hmix : P.follows .mixedOrders = true) {f : FuncId} {n : Nat} {res : List ARes} {body : ACode} (hf : cFunc P f = some ⟨n, res, body⟩) {args : List Value} {K : Value → AH → Prop} (hw : begin_ P h.length (begT args n) body h (finQ res K)) : AC P f args h K := by
  refine contract hmix hf ?_
  unfold begin_ begT run at hw
  rw [nones_eq] at hw
  unfold wFunc initT
  have e : resK P h.length [] (finQ res K) = fun e t h => match e with
    | .exit _ => False
    | _ => match evRes t h res with
      | some vs => K (oneOf vs) h
      | none => False := by
    funext e t h
    cases e <;> rfl
  rw [e] at hw
  exact hw

def loopQ {σ : Type} (I : σ → T → AH → Prop) (μ : σ → Nat) (s : σ) (Q : AExit → T → AH → Prop) : AExit → T → AH → Prop
  | .normal, t, h => ∃ s', μ s' < μ s ∧ I s' t h
  | e, t, h => Q e t h
theorem loopQ_normal {σ : Type} (I : σ → T → AH → Prop) (μ : σ → Nat) (s : σ) : loopQ I μ s Q .normal t h = ∃ s', μ s' < μ s ∧ I s' t h := rfl
theorem loopQ_exit {σ : Type} (I : σ → T → AH → Prop) (μ : σ → Nat) (s : σ) (i : Nat) : loopQ I μ s Q (.exit i) t h = Q (.exit i) t h := rfl
theorem loopQ_ret {σ : Type} (I : σ → T → AH → Prop) (μ : σ → Nat) (s : σ) : loopQ I μ s Q .ret t h = Q .ret t h := rfl

/-- A loop, by what holds at the head of each round. -/
theorem loop_inv (hmix : P.follows .mixedOrders = true) {ac : ACode} {σ : Type} (I : σ → T → AH → Prop) (μ : σ → Nat) (s0 : σ) (h0 : I s0 t h)
    (hr : ∀ s t h, I s t h → begin_ P m t ac h (loopQ I μ s Q)) : ALoop P m ac t h Q := by
  refine aloop hmix (fun n t h => ∃ s, μ s = n ∧ I s t h) (μ s0) ⟨s0, rfl, h0⟩ ?_
  rintro n t h ⟨s, rfl, hI⟩
  have := hr s t h hI
  unfold begin_ run at this
  have e : thenQ (fun t h => ∃ n', n' < μ s ∧ ∃ s', μ s' = n' ∧ I s' t h) Q = resK P m [] (loopQ I μ s Q) := by
    funext e t h
    cases e with
    | normal =>
      refine propext ⟨fun ⟨n', hn, s', hs, hI⟩ => ⟨s', by omega, hI⟩, fun ⟨s', hs, hI⟩ => ⟨_, hs, s', rfl, hI⟩⟩
    | exit i => rfl
    | ret => rfl
  rw [e]
  exact this

/-- Some of what is known is let go: temporaries, and the newest names. -/
theorem aloop_less {ac : ACode} {t2 : T} {h2 : AH} (ht : t2.length = t.length) (hv : ∀ (i : Nat) v, t2[i]? = some (some v) → t[i]? = some (some v) ∧ scp (live h2) v = true) (hp : h2 = h.take h2.length) (hs : AOK h2) (hm2 : m ≤ h2.length) (hw : ALoop P m ac t2 h2 Q) : ALoop P m ac t h Q :=
  fun c hc => awp_less ht hv hp hs hm2 (hw c hc)

/-- Temporaries, of which those that are listed are known. -/
def mkT : Nat → List (Nat × Value) → T
  | n, [] => nones n
  | n, (i, v) :: l => setT (mkT n l) i (some v)
theorem mkT_nil (n : Nat) : mkT n [] = nones n := rfl
theorem mkT_cons (n i : Nat) (v : Value) (l : List (Nat × Value)) : mkT n ((i, v) :: l) = setT (mkT n l) i (some v) := rfl
theorem mkT_length (n : Nat) (l : List (Nat × Value)) : (mkT n l).length = n := by
  induction l with
  | nil => simp [mkT, nones_eq]
  | cons x l ih => obtain ⟨i, v⟩ := x; rw [mkT_cons, ← setT_eq]; simpa using ih
theorem mkT_get {n : Nat} {l : List (Nat × Value)} {i : Nat} {v : Value} (h : (mkT n l)[i]? = some (some v)) : (i, v) ∈ l := by
  induction l with
  | nil => simp [mkT, nones_eq, List.getElem?_replicate] at h
  | cons x l ih =>
    obtain ⟨j, u⟩ := x
    rw [mkT_cons, ← setT_eq, List.getElem?_set] at h
    split at h
    · rename_i e
      split at h
      · injection h with h
        injection h with h
        subst e h
        exact List.mem_cons_self
      · cases h
    · exact List.mem_cons_of_mem _ (ih h)

/-- What is known at a loop's head is there. -/
def atHead (m n : Nat) (l : List (Nat × Value)) (g : AH) (t : T) (h : AH) : Prop :=
  t.length = n ∧ (∀ x ∈ l, getT t x.1 = some x.2) ∧ (∀ x ∈ l, scp (live g) x.2 = true) ∧ g = h.take g.length ∧ AOK g ∧ m ≤ g.length

theorem atHead_less {ac : ACode} {n : Nat} {l : List (Nat × Value)} {g : AH} (ha : atHead m n l g t h) (hw : ALoop P m ac (mkT n l) g Q) : ALoop P m ac t h Q := by
  obtain ⟨h1, h2, h3, h4, h5, h6⟩ := ha
  refine aloop_less (by rw [mkT_length, h1]) (fun i v hi => ?_) h4 h5 h6 hw
  have hm := mkT_get hi
  have e := h2 _ hm
  refine ⟨?_, h3 _ hm⟩
  rw [getT_eq] at e
  cases hx : t[i]? with
  | none => simp only [hx] at e; cases e
  | some o => simp only [hx, Option.join_some] at e; rw [e]

/-- The loop's rule: at its head stand n temporaries, of which some are known, and these blocks; what else there is, is let go. -/
def loopQ2 {σ : Type} (m n : Nat) (I : σ → Prop) (μ : σ → Nat) (tv : σ → List (Nat × Value)) (hv : σ → AH) (s : σ) (Q : AExit → T → AH → Prop) : AExit → T → AH → Prop
  | .normal, t, h => ∃ s', μ s' < μ s ∧ I s' ∧ atHead m n (tv s') (hv s') t h
  | e, t, h => Q e t h
theorem loopQ2_normal {σ : Type} (n : Nat) (I : σ → Prop) (μ : σ → Nat) (tv : σ → List (Nat × Value)) (hv : σ → AH) (s : σ) : loopQ2 m n I μ tv hv s Q .normal t h = ∃ s', μ s' < μ s ∧ I s' ∧ atHead m n (tv s') (hv s') t h := rfl
theorem loopQ2_exit {σ : Type} (n : Nat) (I : σ → Prop) (μ : σ → Nat) (tv : σ → List (Nat × Value)) (hv : σ → AH) (s : σ) (i : Nat) : loopQ2 m n I μ tv hv s Q (.exit i) t h = Q (.exit i) t h := rfl
theorem loopQ2_ret {σ : Type} (n : Nat) (I : σ → Prop) (μ : σ → Nat) (tv : σ → List (Nat × Value)) (hv : σ → AH) (s : σ) : loopQ2 m n I μ tv hv s Q .ret t h = Q .ret t h := rfl

theorem loop2 (hmix : P.follows .mixedOrders = true) {ac : ACode} {σ : Type} (n : Nat) (I : σ → Prop) (μ : σ → Nat) (tv : σ → List (Nat × Value)) (hv : σ → AH) (s0 : σ) (h0 : I s0 ∧ atHead m n (tv s0) (hv s0) t h)
    (hr : ∀ s, I s → begin_ P m (mkT n (tv s)) ac (hv s) (loopQ2 m n I μ tv hv s Q)) : ALoop P m ac t h Q := by
  have key : ∀ N s, μ s = N → I s → ∀ c, cCode P c = some ac → ARounds P m c Q (N + 1) (mkT n (tv s)) (hv s) := by
    intro N
    induction N using Nat.strongRecOn with
    | _ N ih =>
      intro s hs hI c hc
      have hb := hr s hI
      unfold begin_ run at hb
      have hw := W_sound (holds := fun p => p) hmix (fun h => h) (fun _ _ _ _ h => h) (fun c ac t h K hc hl => hl c hc) c ac _ _ _ hc hb
      refine AWp.mono hw fun e t' h' hq => ?_
      cases e with
      | normal =>
        obtain ⟨s', hlt, hI', ha⟩ := hq
        obtain ⟨h1, h2, h3, h4, h5, h6⟩ := ha
        have hrec := ih (μ s') (by omega) s' rfl hI' c hc
        have hrec2 := ARounds.more (μ s' + 1) N _ _ (by omega) hrec
        cases N with
        | zero => exact hrec2
        | succ N =>
          show AWp P m c _ t' h'
          refine awp_less (by rw [mkT_length, h1]) (fun i v hi => ?_) h4 h5 h6 hrec2
          have hm := mkT_get hi
          have e := h2 _ hm
          refine ⟨?_, h3 _ hm⟩
          rw [getT_eq] at e
          cases hx : t'[i]? with
          | none => simp only [hx] at e; cases e
          | some o => simp only [hx, Option.join_some] at e; rw [e]
      | exit id => exact hq
      | ret => exact hq
  refine atHead_less h0.2 fun c hc => ?_
  exact awp_rounds _ (key _ s0 rfl h0.1 c hc)
theorem reps_zero (z : List Value) : reps z 0 = [] := rfl
theorem reps_succ (z : List Value) (n : Nat) : reps z (n + 1) = z ++ reps z n := rfl
theorem splice_one (vs : List Value) (o : Nat) (v : Value) : splice vs o [v] = vs.set o v := rfl

theorem onB_true {R : Type _} (a b bot : R) : onB (some (.bool true)) a b bot = a := rfl
theorem onB_false {R : Type _} (a b bot : R) : onB (some (.bool false)) a b bot = b := rfl

theorem evMm_max (k k' : IntKind) (a b : Int) : evMm true [.int k a, .int k' b] = some (.int k (max a b)) := by
  simp only [evMm, evMmL, if_true]
  congr 2
  split <;> omega
theorem evMm_min (k k' : IntKind) (a b : Int) : evMm false [.int k a, .int k' b] = some (.int k (min a b)) := by
  simp only [evMm, evMmL, Bool.false_eq_true, if_false]
  congr 2
  split <;> omega

theorem nsl (n : Nat) : (n + 1 ≤ n) = False := by simp
attribute [irreducible] run runO runD resK resume condK goT stepP stepF stepL stepC callK step wantK goD gateD stepDP stepDR stepDF stepDL stepDC callD stepD wantD openD finQ finV begin_ begT mkT nones holes getT setT askD holesB rdF

end Abs
end Go.Proofs.Ytongllppbifiaaa

/- Structures opened and closed, in whatever heap; calls whose contract knows of some blocks alone. -/
namespace Go.Proofs.Ytongllppbifiaaa
namespace Abs
open Go
set_option linter.unusedVariables false
set_option linter.unusedSimpArgs false

mutual
theorem ren_id : ∀ v, ren (fun b => b) v = v
  | .pointer (some a) => by simp [ren, renA]
  | .slice (some a) _ _ => by simp [ren, renA]
  | .map (some r) => by simp [ren]
  | .chan (some r) => by simp [ren]
  | .func fn first captured => by simp [ren, renAr_id first, renAr_id captured]
  | .iface t v => by simp [ren, ren_id v]
  | .agg cs => by simp [ren, renAr_id cs]
  | .tuple cs => by simp [ren, renAr_id cs]
  | .pointer none => by simp [ren]
  | .slice none _ _ => by simp [ren]
  | .map none => by simp [ren]
  | .chan none => by simp [ren]
  | .bool b => by simp [ren]
  | .int k n => by simp [ren]
  | .float k n => by simp [ren]
  | .complex k a b => by simp [ren]
  | .string s => by simp [ren]
  | .nilFunc => by simp [ren]
  | .nilIface => by simp [ren]
theorem renAr_id : ∀ v, renAr (fun b => b) v = v
  | ⟨l⟩ => by simp [renAr, renL_id l]
theorem renL_id : ∀ v, renL (fun b => b) v = v
  | [] => by simp [renL]
  | v :: l => by simp [renL, ren_id v, renL_id l]
end

theorem renB_id (k : ABlk) : renB (fun b => b) k = k := by
  have e : ∀ l : List Value, l.map (ren fun b => b) = l := fun l => by
    conv => rhs; rw [← List.map_id l]
    exact List.map_congr_left fun v _ => ren_id v
  cases k with
  | cells vs e' o => simp only [renB, e]
  | row vs => simp only [renB, e]
  | glob g vs => simp only [renB, e]
  | map es c =>
    simp only [renB]
    congr 1
    conv => rhs; rw [← List.map_id es]
    exact List.map_congr_left fun x _ => by simp [ren_id]
  | _ => rfl

/-- A block in which no names stand. -/
def noNames : ABlk → Prop
  | .cells vs _ _ | .row vs | .glob _ vs => ∀ v ∈ vs, plain v = true
  | .map es _ => ∀ e ∈ es, plain e.key = true ∧ plain e.val = true
  | _ => True

theorem renB_noNames {k : ABlk} (h : noNames k) (σ : Nat → Nat) : renB σ k = k := by
  have e : ∀ l : List Value, (∀ v ∈ l, plain v = true) → l.map (ren σ) = l := fun l hl => by
    conv => rhs; rw [← List.map_id l]
    exact List.map_congr_left fun v hv => ren_plain σ v (hl v hv)
  cases k with
  | cells vs e' o => simp only [renB, e vs h]
  | row vs => simp only [renB, e vs h]
  | glob g vs => simp only [renB, e vs h]
  | map es c =>
    simp only [renB]
    congr 1
    conv => rhs; rw [← List.map_id es]
    exact List.map_congr_left fun x hx => by simp [ren_plain σ _ (h x hx).1, ren_plain σ _ (h x hx).2]
  | _ => rfl

theorem scp_noNames {k : ABlk} (h : noNames k) (L : Nat → Bool) : k.scp L := by
  have e : ∀ v, plain v = true → scp L v = true := fun v hv => scp_mono (fun b hb => by cases hb) v hv
  cases k with
  | cells vs e' o => exact fun v hv => e v (h v hv)
  | row vs => exact fun v hv => e v (h v hv)
  | glob g vs => exact fun v hv => e v (h v hv)
  | map es c => exact fun x hx => ⟨e _ (h x hx).1, e _ (h x hx).2⟩
  | _ => trivial

section
variable {P : Program} {f : FuncId} {args : List Value} {h : AH} {K K' : Value → AH → Prop}

theorem AC.known (hc : AC P f args h (fun v h' => AOK h' → scp (live h') v = true → h.length ≤ h'.length → K v h')) : AC P f args h K := by
  refine ⟨hc.1, fun ρ w us r hs ha => (hc.2 ρ w us r hs ha).mono ?_⟩
  rintro e w' ⟨v, u, h', ρ', he, vr, hp, r', nx, hle⟩
  exact ⟨v, u, h', ρ', he, vr, hp r'.scope vr.1 hle, r', nx, hle⟩

/-- A heap, and a value, seen as others: names below m stay. -/
def Sees (m : Nat) (h' : AH) (v : Value) (K : Value → AH → Prop) : Prop := ∃ v2 h2 σ us, View σ h2 h' us ∧ AOK h2 ∧ scp (live h2) v2 = true ∧ v = ren σ v2 ∧ (∀ b, b < m → σ b = b) ∧ (∀ b, b < m → live h' b = true → live h2 b = true) ∧ m ≤ h2.length ∧ K v2 h2

theorem AC.sees (hc : AC P f args h (fun v h' => Sees h.length h' v K)) : AC P f args h K := AC.view hc

theorem Sees.self {m : Nat} {h' : AH} {v : Value} (ok : AOK h') (hv : scp (live h') v = true) (hm : m ≤ h'.length) (hk : K v h') : Sees m h' v K := by
  refine ⟨v, h', fun b => b, fun b => [b], ⟨fun b k hb => .keep (by rw [renB_id]; exact hb), fun b c _ _ hne x hx hx' => ?_⟩, ok, hv, (ren_id v).symm, fun _ _ => rfl, fun _ _ h => h, hm, hk⟩
  simp at hx hx'
  exact hne (hx ▸ hx')

theorem Sees.mono {m : Nat} {h' : AH} {v : Value} (hs : Sees m h' v K) (hk : ∀ v h, K v h → K' v h) : Sees m h' v K' := by
  obtain ⟨v2, h2, σ, us, a1, a2, a3, a4, a5, a6, a7, a8⟩ := hs
  exact ⟨v2, h2, σ, us, a1, a2, a3, a4, a5, a6, a7, hk _ _ a8⟩

/-- The opened structure. -/
def opnR (H : AH) (b : Nat) (j : Nat) : Nat := if j = 0 then b else H.length + (j - 1)
def opn (H : AH) (b : Nat) (g : AH) : AH := match g with
  | [] => H
  | k :: g' => H.set b (renB (opnR H b) k) ++ g'.map (renB (opnR H b))

theorem opn_get {H : AH} {b : Nat} {g : AH} (hb : b < H.length) (hg : 0 < g.length) {c : Nat} {k : ABlk} (hc : (opn H b g)[c]? = some k) :
    (∃ (j : Nat) (k0 : ABlk), g[j]? = some k0 ∧ c = opnR H b j ∧ k = renB (opnR H b) k0) ∨ (c ≠ b ∧ c < H.length ∧ H[c]? = some k) := by
  cases g with
  | nil => simp at hg
  | cons k1 g' =>
    simp only [opn] at hc
    by_cases hcl : c < H.length
    · rw [List.getElem?_append_left (by simpa using hcl)] at hc
      by_cases e : c = b
      · subst e
        rw [List.getElem?_set_self hcl] at hc
        injection hc with hc
        exact .inl ⟨0, k1, rfl, by simp [opnR], hc.symm⟩
      · rw [List.getElem?_set_ne (fun h => e h.symm)] at hc
        exact .inr ⟨e, hcl, hc⟩
    · rw [List.getElem?_append_right (by simpa using hcl)] at hc
      simp only [List.length_set, List.getElem?_map] at hc
      cases hx : g'[c - H.length]? with
      | none => rw [hx] at hc; cases hc
      | some k0 =>
        rw [hx] at hc
        injection hc with hc
        refine .inl ⟨c - H.length + 1, k0, by simpa using hx, ?_, hc.symm⟩
        simp [opnR]
        omega

theorem opn_at {H : AH} {b : Nat} {g : AH} (hb : b < H.length) {j : Nat} {k : ABlk} (hj : g[j]? = some k) : (opn H b g)[opnR H b j]? = some (renB (opnR H b) k) := by
  cases g with
  | nil => simp at hj
  | cons k1 g' =>
    simp only [opn]
    cases j with
    | zero =>
      simp at hj
      subst hj
      rw [show opnR H b 0 = b from rfl, List.getElem?_append_left (by simpa using hb), List.getElem?_set_self hb]
    | succ j =>
      simp at hj
      rw [show opnR H b (j + 1) = H.length + j by simp [opnR], List.getElem?_append_right (by simp), List.length_set, Nat.add_sub_cancel_left, List.getElem?_map, hj]
      rfl

theorem opn_other {H : AH} {b : Nat} {g : AH} {c : Nat} (hc : c < H.length) (hne : c ≠ b) : (opn H b g)[c]? = H[c]? := by
  cases g with
  | nil => rfl
  | cons k1 g' =>
    simp only [opn]
    rw [List.getElem?_append_left (by simpa using hc), List.getElem?_set_ne (fun h => hne h.symm)]

theorem opn_length {H : AH} {b : Nat} {g : AH} (hg : 0 < g.length) : (opn H b g).length = H.length + (g.length - 1) := by
  cases g with
  | nil => simp at hg
  | cons k1 g' => simp [opn]

/-- A STRUCTURE IS OPENED, in whatever heap. -/
theorem AC.open {S : Type} {heaps : S → AH → Prop} {s : S} {H : AH} {b : Nat} (hb : H[b]? = some (.adt (mkADT S heaps) s)) (hent : enterB P f = true)
    (ho : ∀ g, heaps s g → own g → live g 0 = true → AC P f args (opn H b g) (fun v h' => Sees H.length h' v K)) : AC P f args H K := by
  refine ⟨hent, fun ρ w us r hs ha => ?_⟩
  obtain ⟨h0, h1, ρi, g, hg, hown, ri, hal, hlive, hF⟩ := r.holds b _ hb
  have hgl : 0 < g.length := live_lt hlive
  have hbl : b < H.length := (List.getElem?_eq_some_iff.1 hb).1
  have hal0 : (ρi 0).al = (ρ b).al := by rw [hal]; simp only [CB.al, h0, h1]
  -- the names of the opened heap
  obtain ⟨ρ2, hρ2⟩ : ∃ ρ2 : Ren, ρ2 = fun c => if c = b then ρi 0 else if c < H.length then ρ c else ρi (c - H.length + 1) := ⟨_, rfl⟩
  have q1 : ∀ j, ρ2 (opnR H b j) = ρi j := by
    intro j
    subst hρ2
    unfold opnR
    by_cases hj : j = 0
    · simp [hj]
    · have e1 : ¬ (H.length + (j - 1) = b) := by omega
      have e2 : H.length + (j - 1) - H.length + 1 = j := by omega
      have e3 : ¬ (H.length + (j - 1) < H.length) := by omega
      have e4 : j - 1 + 1 = j := by omega
      simp [hj, e1, e2, e3, e4]
  have q2 : ∀ c, c ≠ b → c < H.length → ρ2 c = ρ c := fun c h1 h2 => by subst hρ2; simp [h1, h2]
  have q3 : ∀ c, c < H.length → (ρ2 c).al = (ρ c).al := by
    intro c hc
    by_cases e : c = b
    · subst e
      have := q1 0
      rw [show opnR H c 0 = c from rfl] at this
      rw [this, hal0]
    · rw [q2 c e hc]
  have hconc : (fun c => ρ2 (opnR H b c)) = ρi := funext q1
  have feetIn : ∀ (c : Nat) (k : ABlk), (opn H b g)[c]? = some k → ∀ x, x ∈ k.foot (ρ2 c) → ∃ (c0 : Nat) (k0 : ABlk), H[c0]? = some k0 ∧ x ∈ k0.foot (ρ c0) := by
    intro c k hc x hx
    rcases opn_get hbl hgl hc with ⟨j, k0, hj, rfl, rfl⟩ | ⟨hne, hcl, hk⟩
    · rw [foot_ren, q1] at hx
      exact ⟨b, _, hb, (hF x).2 ⟨j, k0, hj, hx⟩⟩
    · rw [q2 c hne hcl] at hx
      exact ⟨c, k, hk, hx⟩
  have reachIn : ∀ (c : Nat) (k : ABlk), (opn H b g)[c]? = some k → ∀ x, x ∈ k.reach (ρ2 c) → ∃ (c0 : Nat) (k0 : ABlk), H[c0]? = some k0 ∧ x ∈ k0.reach (ρ c0) := by
    intro c k hc x hx
    rcases opn_get hbl hgl hc with ⟨j, k0, hj, rfl, rfl⟩ | ⟨hne, hcl, hk⟩
    · rw [reach_ren, q1, hown j k0 hj] at hx
      exact ⟨b, _, hb, (hF x).2 ⟨j, k0, hj, hx⟩⟩
    · rw [q2 c hne hcl] at hx
      exact ⟨c, k, hk, hx⟩
  have feetOut : ∀ (c0 : Nat) (k0 : ABlk), H[c0]? = some k0 → ∀ x, x ∈ k0.foot (ρ c0) → ∃ (c : Nat) (k : ABlk), (opn H b g)[c]? = some k ∧ x ∈ k.foot (ρ2 c) := by
    intro c0 k0 hc x hx
    by_cases e : c0 = b
    · subst e
      rw [hb] at hc
      injection hc with hc
      subst hc
      obtain ⟨j, k, hj, hx⟩ := (hF x).1 hx
      exact ⟨_, _, opn_at hbl hj, by rw [foot_ren, q1]; exact hx⟩
    · have hcl := (List.getElem?_eq_some_iff.1 hc).1
      exact ⟨c0, k0, by rw [opn_other hcl e]; exact hc, by rw [q2 c0 e hcl]; exact hx⟩
  have hlv : ∀ c, live H c = true → live (opn H b g) c = true := by
    intro c hl
    by_cases e : c = b
    · subst e
      have hg0 : ∃ k0, g[0]? = some k0 := ⟨_, List.getElem?_eq_getElem hgl⟩
      obtain ⟨k0, hk0⟩ := hg0
      have := opn_at (b := c) hbl hk0
      rw [show opnR H c 0 = c from rfl] at this
      refine live_of this ?_
      intro h
      have h2 := hole_ren h
      subst h2
      unfold live at hlive
      rw [hk0] at hlive
      cases hlive
    · have hcl := live_lt hl
      unfold live at hl ⊢
      rw [opn_other hcl e]
      exact hl
  have hlvg : ∀ j, live g j = true → live (opn H b g) (opnR H b j) = true := by
    intro j hl
    obtain ⟨k0, hk0⟩ : ∃ k0, g[j]? = some k0 := ⟨_, List.getElem?_eq_getElem (live_lt hl)⟩
    refine live_of (opn_at hbl hk0) ?_
    intro h
    have h2 := hole_ren h
    subst h2
    unfold live at hl
    rw [hk0] at hl
    cases hl
  have r2 : Rel ρ2 (opn H b g) w := by
    refine ⟨fun c k hc => ?_, fun c k hc => ?_, fun c d k l hc hd hne x hx hx' => ?_⟩
    · rcases opn_get hbl hgl hc with ⟨j, k0, hj, rfl, rfl⟩ | ⟨hne, hcl, hk⟩
      · rw [holds_ren, hconc, q1]
        exact ri.holds j k0 hj
      · rw [q2 c hne hcl]
        refine (r.holds c k hk).congr (r.scope c k hk) fun d hd => q3 d (live_lt hd)
    · rcases opn_get hbl hgl hc with ⟨j, k0, hj, rfl, rfl⟩ | ⟨hne, hcl, hk⟩
      · exact scpB_ren hlvg (ri.scope j k0 hj)
      · exact ABlk.scp_mono hlv (r.scope c k hk)
    · rcases opn_get hbl hgl hc with ⟨j, k0, hj, rfl, rfl⟩ | ⟨hne1, hcl1, hk1⟩
      · rw [foot_ren, q1] at hx
        rcases opn_get hbl hgl hd with ⟨j', k0', hj', rfl, rfl⟩ | ⟨hne2, hcl2, hk2⟩
        · rw [reach_ren, q1] at hx'
          refine ri.apart j j' _ _ hj hj' (fun e => hne (by rw [e])) x hx hx'
        · rw [q2 d hne2 hcl2] at hx'
          exact r.apart b d _ _ hb hk2 (fun e => hne2 e.symm) x ((hF x).2 ⟨j, k0, hj, hx⟩) hx'
      · rw [q2 c hne1 hcl1] at hx
        rcases opn_get hbl hgl hd with ⟨j', k0', hj', rfl, rfl⟩ | ⟨hne2, hcl2, hk2⟩
        · rw [reach_ren, q1, hown j' k0' hj'] at hx'
          exact r.apart c b _ _ hk1 hb hne1 x hx ((hF x).2 ⟨j', k0', hj', hx'⟩)
        · rw [q2 d hne2 hcl2] at hx'
          exact r.apart c d _ _ hk1 hk2 hne x hx hx'
  refine ((ho g hg hown hlive).2 ρ2 w us r2 hs fun i v hv => ?_).mono ?_
  · obtain ⟨u, hu, vr⟩ := ha i v hv
    exact ⟨u, hu, vr.mono hlv fun c hc => q3 c (live_lt hc)⟩
  rintro e w' ⟨v, u, h', ρ', he, vr, ⟨v2, h2, σ, us2, hv, ok, hsc, rfl, hσ, hl, hlen, hp⟩, r', nx, hle⟩
  obtain ⟨ρ3, r3, hal3, nx3⟩ := hv.next ok r' hσ hl
  have hol : H.length ≤ (opn H b g).length := by rw [opn_length hgl]; omega
  have nx4 := (nx.less hol).trans nx3
  refine ⟨v2, u, h2, ρ3, he, ⟨hsc, ?_⟩, hp, r3, ⟨fun c hc => (nx4.ext c hc).trans (q3 c hc), fun c hc hlc => nx4.lives c hc (hlv c hlc), nx4.os, nx4.tape, nx4.output, nx4.size, fun x hx hn => nx4.keep x hx fun c k hc hx' => ?_, fun c k hc x hx => ?_, fun c k hc x hx => ?_⟩, hlen⟩
  · rw [vr.2, conc_ren]
    exact (conc_congr (fun b _ => hal3 b) v2 hsc).symm
  · obtain ⟨c0, k0, h3, h4⟩ := feetIn c k hc x hx'
    exact hn c0 k0 h3 h4
  · rcases nx4.prov c k hc x hx with h3 | ⟨b0, k0, h3, h4⟩
    · exact .inl h3
    · exact .inr (feetIn b0 k0 h3 x h4)
  · rcases nx4.prow c k hc x hx with h3 | ⟨b0, k0, h3, h4⟩
    · exact .inl h3
    · exact .inr (reachIn b0 k0 h3 x h4)

/-- A method of a structure that stands alone. -/
theorem AC.method2 {S : Type} {heaps : S → AH → Prop} {s : S} (hent : enterB P f = true)
    (ho : ∀ g, heaps s g → own g → live g 0 = true → AC P f args g (fun v h' => Sees 1 h' v K)) : AC P f args [.adt (mkADT S heaps) s] K := by
  refine AC.open (b := 0) rfl hent fun g hg hown hlive => ?_
  have e : opn [.adt (mkADT S heaps) s] 0 g = g := by
    cases g with
    | nil => simp [live] at hlive
    | cons k g' =>
      have e1 : opnR [ABlk.adt (mkADT S heaps) s] 0 = fun b => b := by
        funext j
        unfold opnR
        by_cases hj : j = 0
        · simp [hj]
        · simp [hj]; omega
      simp only [opn, e1, List.set_cons_zero, renB_id]
      simp only [List.cons_append, List.nil_append]
      congr 1
      conv => rhs; rw [← List.map_id g']
      exact List.map_congr_left fun k _ => renB_id k
  rw [e]
  exact ho g hg hown hlive

/-- What a heap is to be seen as, block by block: each with the names that it stands for. -/
abbrev Spec := List (ABlk × List Nat)
def Spec.σ (l : Spec) (b : Nat) : Nat := match l[b]? with
  | some (_, i :: _) => i
  | _ => b

def subL (ι : Nat → Nat) (h : AH) : Nat → AH → Prop
  | _, [] => True
  | j, k :: g => h[ι j]? = some (renB ι k) ∧ subL ι h (j + 1) g
theorem subL_get {ι : Nat → Nat} {h : AH} : ∀ {g : AH} {j0 : Nat}, subL ι h j0 g → ∀ (j : Nat) (k : ABlk), g[j]? = some k → h[ι (j0 + j)]? = some (renB ι k) := by
  intro g
  induction g with
  | nil => intro j0 _ j k hj; simp at hj
  | cons k1 g ih =>
    intro j0 hs j k hj
    obtain ⟨h1, h2⟩ := hs
    cases j with
    | zero => simp at hj; subst hj; exact h1
    | succ j =>
      simp at hj
      have := ih h2 j k hj
      rwa [show j0 + 1 + j = j0 + (j + 1) by omega] at this

/-- Names of a list. -/
def nth (is : List Nat) (j : Nat) : Nat := match is, j with
  | [], _ => 0
  | i :: _, 0 => i
  | _ :: is, j + 1 => nth is j
theorem nth_get : ∀ (is : List Nat) (j : Nat), j < is.length → is[j]? = some (nth is j)
  | [], j, h => by simp at h
  | i :: is, 0, _ => by simp [nth]
  | i :: is, j + 1, h => by simp [nth]; simpa using nth_get is j (by simpa using h)
theorem nth_0 (i : Nat) (is : List Nat) : nth (i :: is) 0 = i := rfl
theorem nth_s (i : Nat) (is : List Nat) (j : Nat) : nth (i :: is) (j + 1) = nth is j := rfl

/-- One block of the seen heap. -/
def okBlk (l : Spec) (h : AH) (b : Nat) (k : ABlk) (is : List Nat) : Prop := VB h l.σ b k is

theorem okBlk_keep {l : Spec} {h : AH} {b i : Nat} {k : ABlk} (hσ : l.σ b = i) (hk : h[i]? = some (renB l.σ k)) : okBlk l h b k [i] := by
  subst hσ
  exact .keep hk

theorem okBlk_close {l : Spec} {h : AH} {b : Nat} {S : Type} {heaps : S → AH → Prop} {s : S} {is : List Nat} (g : AH) (hg : heaps s g) (ho : own g) (ok : AOK g) (hc : ∃ vs e, g[0]? = some (.cells vs e none)) (hσ : nth is 0 = l.σ b) (hnd : is.Nodup) (hl : is.length = g.length) (hs : subL (nth is) h 0 g) : okBlk l h b (.adt (mkADT S heaps) s) is := by
  have hsub : Sub (nth is) g h := by
    refine ⟨fun j k hj => ?_, fun i j hi hj e => ?_⟩
    · have := subL_get hs j k hj
      rwa [Nat.zero_add] at this
    · have h1 := nth_get is i (by omega)
      have h2 := nth_get is j (by omega)
      rw [e, ← h2] at h1
      exact ((List.getElem?_inj (by omega) hnd).1 h1)
  have := VB.clos (σ := l.σ) (b := b) hg ho ok hc hσ hsub
  have e : (List.range g.length).map (nth is) = is := by
    refine List.ext_getElem? fun j => ?_
    rw [List.getElem?_map]
    by_cases hj : j < g.length
    · rw [List.getElem?_range hj, nth_get is j (by omega)]
      rfl
    · rw [List.getElem?_eq_none (by simpa using hj), List.getElem?_eq_none (by omega)]
      rfl
  rw [e] at this
  exact this

/-- No name stands for two blocks. -/
def disL : Spec → Prop
  | [] => True
  | x :: l => (∀ y ∈ l, ∀ i ∈ x.2, i ∉ y.2) ∧ disL l
theorem disL_get : ∀ {l : Spec}, disL l → ∀ (b c : Nat) (x y : ABlk × List Nat), l[b]? = some x → l[c]? = some y → b < c → ∀ i ∈ x.2, i ∉ y.2
  | [], _, b, _, x, _, hx, _, _ => by simp at hx
  | z :: l, hd, 0, c + 1, x, y, hx, hy, _ => by
    simp at hx hy
    subst hx
    exact hd.1 y (List.mem_of_getElem? hy)
  | z :: l, hd, b + 1, c + 1, x, y, hx, hy, hlt => by
    simp at hx hy
    exact disL_get hd.2 b c x y hx hy (by omega)

theorem Sees.mk {m : Nat} {h' : AH} {v : Value} (l : Spec) (v2 : Value) (hb : ∀ (b : Nat) k is, l[b]? = some (k, is) → okBlk l h' b k is) (hd : disL l) (ok : AOK (l.map (·.1))) (hs : scp (live (l.map (·.1))) v2 = true) (hv : v = ren l.σ v2)
    (h1 : ∀ b, b < m → l.σ b = b) (h2 : ∀ b, b < m → live (l.map (·.1)) b = true) (hm : m ≤ l.length) (hk : K v2 (l.map (·.1))) : Sees m h' v K := by
  refine ⟨v2, l.map (·.1), l.σ, fun b => match l[b]? with | some x => x.2 | none => [], ⟨fun b k hk => ?_, fun b c hbl hcl hne x hx hx' => ?_⟩, ok, hs, hv, h1, fun b hb _ => h2 b hb, by simpa using hm, hk⟩
  · rw [List.getElem?_map] at hk
    cases hx : l[b]? with
    | none => rw [hx] at hk; cases hk
    | some y =>
      rw [hx] at hk
      injection hk with hk
      subst hk
      exact hb b y.1 y.2 hx
  · simp only [List.length_map] at hbl hcl
    have e1 := List.getElem?_eq_getElem hbl
    have e2 := List.getElem?_eq_getElem hcl
    rw [e1] at hx
    rw [e2] at hx'
    simp only at hx hx'
    by_cases hlt : b < c
    · exact disL_get hd b c _ _ e1 e2 hlt x hx hx'
    · exact disL_get hd c b _ _ e2 e1 (by omega) x hx' hx

/-- A call whose contract knows of no block. -/
theorem AC.at0 {args0 : List Value} {r : Value} {E : AH} (hc : AC P f args0 [] (fun v h' => v = r ∧ h' = E)) (hE : ∀ k ∈ E, noNames k) {H : AH} (ha : scpL nil args0 = true) (he : args = args0) (hK : K (ren (fun j => H.length + j) r) (H ++ E)) : AC P f args H K := by
  have sb : Sub (fun b => b) [] H := ⟨fun j k hj => by simp at hj, fun i j hi => by simp at hi⟩
  have := AC.frame sb (fun b k hb => by simp at hb) (by refine scpL_mono ?_ _ ha; intro b hb; cases hb) hc
  have e : args0.map (ren fun b => b) = args0 := by
    conv => rhs; rw [← List.map_id args0]
    exact List.map_congr_left fun v _ => ren_id v
  rw [e] at this
  subst he
  refine this.mono ?_
  rintro v H' ⟨v0, h', ⟨rfl, rfl⟩, _, rfl, rfl⟩
  have e1 : extN (fun b => b) ([] : AH).length H.length = fun j => H.length + j := by
    funext j
    simp [extN]
  have e2 : glue (fun b => b) ([] : AH).length H h' = H ++ h' := by
    unfold glue
    rw [e1]
    simp only [List.length_nil, List.take_zero, List.drop_zero, setAll]
    congr 1
    conv => rhs; rw [← List.map_id h']
    exact List.map_congr_left fun k hk => renB_noNames (hE k hk) _
  rw [e1, e2]
  exact hK

/-- A call whose contract knows of one block. -/
theorem AC.at1 {args0 : List Value} {r : Value} {k0 k1 : ABlk} {E : AH} (hc : AC P f args0 [k0] (fun v h' => v = r ∧ h' = k1 :: E)) (n0 : noNames k0) (n1 : noNames k1) (hE : ∀ k ∈ E, noNames k) {H : AH} {b : Nat} (hb : H[b]? = some k0) (ha : scpL (live [k0]) args0 = true) (he : args = args0.map (ren fun _ => b))
    (hK : K (ren (opnR H b) r) (H.set b k1 ++ E)) : AC P f args H K := by
  have sb : Sub (fun _ => b) [k0] H := by
    refine ⟨fun j k hj => ?_, fun i j hi hj _ => ?_⟩
    · match j with
      | 0 => injection hj with hj; subst hj; rw [renB_noNames n0]; exact hb
      | n + 1 => simp at hj
    · simp at hi hj; omega
  have ok : AOK [k0] := by
    intro c k hc
    match c with
    | 0 => injection hc with hc; subst hc; exact scp_noNames n0 _
    | n + 1 => simp at hc
  have := AC.frame sb ok ha hc
  rw [← he] at this
  refine this.mono ?_
  rintro v H' ⟨v0, h', ⟨rfl, rfl⟩, _, rfl, rfl⟩
  have e1 : extN (fun _ => b) ([k0] : AH).length H.length = opnR H b := by
    funext j
    unfold extN opnR
    simp only [List.length_singleton]
    by_cases hj : j = 0
    · simp [hj]
    · rw [if_neg (by omega), if_neg hj]
  have e2 : glue (fun _ => b) ([k0] : AH).length H (k1 :: E) = H.set b k1 ++ E := by
    unfold glue
    rw [e1]
    simp only [List.length_singleton, List.take_succ_cons, List.take_zero, List.drop_succ_cons, List.drop_zero, setAll, renB_noNames n1]
    congr 1
    conv => rhs; rw [← List.map_id E]
    exact List.map_congr_left fun k hk => renB_noNames (hE k hk) _
  rw [e1, e2]
  exact hK

/-- A call whose contract knows of two blocks. -/
theorem AC.at2 {args0 : List Value} {r : Value} {k0 k1 k0' k1' : ABlk} {E : AH} (hc : AC P f args0 [k0, k1] (fun v h' => v = r ∧ h' = k0' :: k1' :: E)) (n0 : noNames k0) (n1 : noNames k1) (n0' : noNames k0') (n1' : noNames k1') (hE : ∀ k ∈ E, noNames k) {H : AH} {b c : Nat} (hb : H[b]? = some k0) (hc1 : H[c]? = some k1) (hne : b ≠ c)
    (ha : scpL (live [k0, k1]) args0 = true) (he : args = args0.map (ren fun j => if j = 0 then b else c))
    (hK : K (ren (fun j => if j = 0 then b else if j = 1 then c else H.length + (j - 2)) r) ((H.set b k0').set c k1' ++ E)) : AC P f args H K := by
  have sb : Sub (fun j => if j = 0 then b else c) [k0, k1] H := by
    refine ⟨fun j k hj => ?_, fun i j hi hj e => ?_⟩
    · match j with
      | 0 => injection hj with hj; subst hj; rw [renB_noNames n0]; exact hb
      | 1 => injection hj with hj; subst hj; rw [renB_noNames n1]; exact hc1
      | n + 2 => simp at hj
    · simp at hi hj
      have : i = 0 ∨ i = 1 := by omega
      have : j = 0 ∨ j = 1 := by omega
      rcases ‹i = 0 ∨ i = 1› with rfl | rfl <;> rcases ‹j = 0 ∨ j = 1› with rfl | rfl <;> simp at e ⊢
      · exact hne e
      · exact hne e.symm
  have ok : AOK [k0, k1] := by
    intro d k hd
    match d with
    | 0 => injection hd with hd; subst hd; exact scp_noNames n0 _
    | 1 => injection hd with hd; subst hd; exact scp_noNames n1 _
    | n + 2 => simp at hd
  have := AC.frame sb ok ha hc
  rw [← he] at this
  refine this.mono ?_
  rintro v H' ⟨v0, h', ⟨rfl, rfl⟩, _, rfl, rfl⟩
  have e1 : extN (fun j => if j = 0 then b else c) ([k0, k1] : AH).length H.length = fun j => if j = 0 then b else if j = 1 then c else H.length + (j - 2) := by
    funext j
    unfold extN
    simp only [List.length_cons, List.length_nil]
    by_cases h0 : j = 0
    · simp [h0]
    · by_cases h1 : j = 1
      · simp [h1]
      · rw [if_neg (by omega), if_neg h0, if_neg h1]
  have e2 : glue (fun j => if j = 0 then b else c) ([k0, k1] : AH).length H (k0' :: k1' :: E) = (H.set b k0').set c k1' ++ E := by
    unfold glue
    rw [e1]
    simp only [List.length_cons, List.length_nil, List.take_succ_cons, List.take_zero, List.drop_succ_cons, List.drop_zero, setAll, renB_noNames n0', renB_noNames n1']
    simp only [if_true, Nat.zero_add, show ((1 : Nat) = 0) = False by simp, if_false]
    congr 1
    conv => rhs; rw [← List.map_id E]
    exact List.map_congr_left fun k hk => renB_noNames (hE k hk) _
  rw [e1, e2]
  exact hK

/-- Some of what is known behind a call is let go: the newest names. -/
theorem AC.cut (hc : AC P f args h (fun v h' => ∃ g : AH, g = h'.take g.length ∧ AOK g ∧ scp (live g) v = true ∧ h.length ≤ g.length ∧ (∀ b, b < h.length → live g b = true) ∧ K v g)) : AC P f args h K := by
  refine AC.sees (hc.mono ?_)
  rintro v h' ⟨g, hg, ok, hv, hl, hlv, hk⟩
  refine ⟨v, g, fun b => b, fun b => [b], ⟨fun b k hb => .keep ?_, fun b c _ _ hne x hx hx' => ?_⟩, ok, hv, (ren_id v).symm, fun _ _ => rfl, fun b hb _ => hlv b hb, hl, hk⟩
  · rw [renB_id]
    rw [hg, List.getElem?_take] at hb
    split at hb
    · exact hb
    · cases hb
  · simp at hx hx'
    exact hne (hx ▸ hx')

end

section
variable {P : Program} {m : Nat} {t : T} {h : AH} {Q : AExit → T → AH → Prop}

/-- What is known at a loop's head is there, under other names. -/
def atHeadV (m n : Nat) (tv : List (Nat × Value)) (g : AH) (t : T) (h : AH) : Prop :=
  ∃ l : Spec, g = l.map (·.1) ∧ (∀ (b : Nat) k is, l[b]? = some (k, is) → okBlk l h b k is) ∧ disL l ∧ AOK g ∧ (∀ b, b < m → l.σ b = b ∧ live g b = true) ∧ m ≤ g.length ∧ t.length = n ∧ ∀ x ∈ tv, getT t x.1 = some (ren l.σ x.2) ∧ scp (live g) x.2 = true

theorem awp_headV {c : Code} {n : Nat} {tv : List (Nat × Value)} {g : AH} (ha : atHeadV m n tv g t h) (hw : AWp P m c Q (mkT n tv) g) : AWp P m c Q t h := by
  obtain ⟨l, rfl, hb, hd, ok, h1, hm, hn, hx⟩ := ha
  have hv : View l.σ (l.map (·.1)) h (fun b => match l[b]? with | some x => x.2 | none => []) := by
    refine ⟨fun b k hk => ?_, fun b c hbl hcl hne x hx hx' => ?_⟩
    · rw [List.getElem?_map] at hk
      cases hx : l[b]? with
      | none => rw [hx] at hk; cases hk
      | some y =>
        rw [hx] at hk
        injection hk with hk
        subst hk
        exact hb b y.1 y.2 hx
    · simp only [List.length_map] at hbl hcl
      have e1 := List.getElem?_eq_getElem hbl
      have e2 := List.getElem?_eq_getElem hcl
      rw [e1] at hx
      rw [e2] at hx'
      simp only at hx hx'
      by_cases hlt : b < c
      · exact disL_get hd b c _ _ e1 e2 hlt x hx hx'
      · exact disL_get hd c b _ _ e2 e1 (by omega) x hx' hx
  refine awp_view hv ok (fun b hb => (h1 b hb).1) (fun b hb _ => (h1 b hb).2) hm (by rw [mkT_length, hn]) (fun i v2 hi => ?_) hw
  have hm2 := mkT_get hi
  obtain ⟨e, e2⟩ := hx _ hm2
  refine ⟨?_, e2⟩
  rw [getT_eq] at e
  cases hx : t[i]? with
  | none => simp only [hx] at e; cases e
  | some o => simp only [hx, Option.join_some] at e; rw [e]

def loopQ3 {σ : Type} (m n : Nat) (I : σ → Prop) (μ : σ → Nat) (tv : σ → List (Nat × Value)) (hv : σ → AH) (s : σ) (Q : AExit → T → AH → Prop) : AExit → T → AH → Prop
  | .normal, t, h => ∃ s', μ s' < μ s ∧ I s' ∧ atHeadV m n (tv s') (hv s') t h
  | e, t, h => Q e t h
/-- A round is over: the next one's state. -/
def nextS {σ : Type} (m n : Nat) (I : σ → Prop) (μ : σ → Nat) (tv : σ → List (Nat × Value)) (hv : σ → AH) (s : σ) (t : T) (h : AH) : Prop := ∃ s', μ s' < μ s ∧ I s' ∧ atHeadV m n (tv s') (hv s') t h
theorem loopQ3_normal {σ : Type} (n : Nat) (I : σ → Prop) (μ : σ → Nat) (tv : σ → List (Nat × Value)) (hv : σ → AH) (s : σ) : loopQ3 m n I μ tv hv s Q .normal t h = nextS m n I μ tv hv s t h := rfl
theorem nextS.intro {σ : Type} {n : Nat} {I : σ → Prop} {μ : σ → Nat} {tv : σ → List (Nat × Value)} {hv : σ → AH} {s : σ} (s' : σ) (h1 : μ s' < μ s) (h2 : I s') (h3 : atHeadV m n (tv s') (hv s') t h) : nextS m n I μ tv hv s t h := ⟨s', h1, h2, h3⟩
theorem loopQ3_exit {σ : Type} (n : Nat) (I : σ → Prop) (μ : σ → Nat) (tv : σ → List (Nat × Value)) (hv : σ → AH) (s : σ) (i : Nat) : loopQ3 m n I μ tv hv s Q (.exit i) t h = Q (.exit i) t h := rfl
theorem loopQ3_ret {σ : Type} (n : Nat) (I : σ → Prop) (μ : σ → Nat) (tv : σ → List (Nat × Value)) (hv : σ → AH) (s : σ) : loopQ3 m n I μ tv hv s Q .ret t h = Q .ret t h := rfl

/-- THE LOOP's RULE: at its head some temporaries and blocks are known, as the round's state says; the names may turn from round to round. -/
theorem loop3 (hmix : P.follows .mixedOrders = true) {ac : ACode} {σ : Type} (n : Nat) (I : σ → Prop) (μ : σ → Nat) (tv : σ → List (Nat × Value)) (hv : σ → AH) (s0 : σ) (hI : I s0) (h0 : atHeadV m n (tv s0) (hv s0) t h)
    (hr : ∀ s, I s → begin_ P m (mkT n (tv s)) ac (hv s) (loopQ3 m n I μ tv hv s Q)) : ALoop P m ac t h Q := by
  have key : ∀ N s, μ s = N → I s → ∀ c, cCode P c = some ac → ARounds P m c Q (N + 1) (mkT n (tv s)) (hv s) := by
    intro N
    induction N using Nat.strongRecOn with
    | _ N ih =>
      intro s hs hI c hc
      have hb := hr s hI
      unfold begin_ run at hb
      have hw := W_sound (holds := fun p => p) hmix (fun h => h) (fun _ _ _ _ h => h) (fun c ac t h K hc hl => hl c hc) c ac _ _ _ hc hb
      refine AWp.mono hw fun e t' h' hq => ?_
      unfold resK resume at hq
      cases e with
      | normal =>
        obtain ⟨s', hlt, hI', ha⟩ := hq
        have hrec := ih (μ s') (by omega) s' rfl hI' c hc
        have hrec2 := ARounds.more (μ s' + 1) N _ _ (by omega) hrec
        cases N with
        | zero => exact absurd hlt (by omega)
        | succ N => exact awp_headV ha hrec2
      | exit id => exact hq
      | ret => exact hq
  intro c hc
  exact awp_headV h0 (awp_rounds _ (key _ s0 rfl hI c hc))

attribute [irreducible] nextS

/-- Each block of the head's heap is there, as it is. -/
def keepsF (σ : Nat → Nat) (h : AH) : AH → List Nat → Prop
  | [], [] => True
  | k :: g, i :: is => h[i]? = some (renB σ k) ∧ keepsF σ h g is
  | _, _ => False
theorem keepsF_get {σ : Nat → Nat} {h : AH} : ∀ {g : AH} {is : List Nat}, keepsF σ h g is → g.length = is.length ∧ ∀ (b : Nat) (k : ABlk), g[b]? = some k → h[nth is b]? = some (renB σ k)
  | [], [], _ => ⟨rfl, fun b k hb => by simp at hb⟩
  | k :: g, i :: is, hs => by
    obtain ⟨h1, h2⟩ := hs
    obtain ⟨e, ih⟩ := keepsF_get h2
    refine ⟨by simp [e], fun b k' hb => ?_⟩
    cases b with
    | zero => simp at hb; subst hb; exact h1
    | succ b => simp at hb; exact ih b k' hb
  | [], _ :: _, hs => hs.elim
  | _ :: _, [], hs => hs.elim

def pairUp : AH → List Nat → Spec
  | k :: g, i :: is => (k, [i]) :: pairUp g is
  | _, _ => []
theorem pairUp_get : ∀ {g : AH} {is : List Nat}, g.length = is.length → ∀ (b : Nat), (pairUp g is)[b]? = match g[b]? with | some k => some (k, [nth is b]) | none => none
  | [], [], _, b => by simp [pairUp]
  | k :: g, i :: is, hl, 0 => by simp [pairUp, nth]
  | k :: g, i :: is, hl, b + 1 => by
    simp only [pairUp, List.getElem?_cons_succ, nth]
    exact pairUp_get (by simpa using hl) b
  | [], _ :: _, hl, _ => by simp at hl
  | _ :: _, [], hl, _ => by simp at hl
theorem pairUp_map : ∀ {g : AH} {is : List Nat}, g.length = is.length → (pairUp g is).map (·.1) = g
  | [], [], _ => rfl
  | k :: g, i :: is, hl => by simp [pairUp]; exact pairUp_map (by simpa using hl)
  | [], _ :: _, hl => by simp at hl
  | _ :: _, [], hl => by simp at hl
theorem pairUp_mem : ∀ {g : AH} {is : List Nat} {x : ABlk × List Nat}, x ∈ pairUp g is → ∃ i, i ∈ is ∧ x.2 = [i]
  | k :: g, i :: is, x, hx => by
    simp only [pairUp, List.mem_cons] at hx
    rcases hx with rfl | hx
    · exact ⟨i, by simp, rfl⟩
    · obtain ⟨j, hj, e⟩ := pairUp_mem hx
      exact ⟨j, by simp [hj], e⟩
  | [], _, x, hx => by simp [pairUp] at hx
  | _ :: _, [], x, hx => by simp [pairUp] at hx
theorem pairUp_dis : ∀ {g : AH} {is : List Nat}, is.Nodup → disL (pairUp g is)
  | k :: g, i :: is, hd => by
    refine ⟨fun y hy j hj => ?_, pairUp_dis (List.nodup_cons.1 hd).2⟩
    obtain ⟨j', hj', e⟩ := pairUp_mem hy
    simp only [List.mem_singleton] at hj
    subst hj
    rw [e, List.mem_singleton]
    rintro rfl
    exact (List.nodup_cons.1 hd).1 hj'
  | [], _, _ => trivial
  | _ :: _, [], _ => trivial

/-- Names that are not listed stand for themselves. -/
def nthD (is : List Nat) (b : Nat) : Nat := if b < is.length then nth is b else b
theorem pairUp_σ {g : AH} {is : List Nat} (hl : g.length = is.length) : (pairUp g is).σ = nthD is := by
  funext b
  unfold Spec.σ nthD
  rw [pairUp_get hl]
  by_cases hb : b < is.length
  · rw [if_pos hb, List.getElem?_eq_getElem (by omega)]
  · rw [if_neg hb, List.getElem?_eq_none (by omega)]

/-- At a loop's head, where all blocks are as they are. -/
theorem headK {n : Nat} {tv : List (Nat × Value)} {g : AH} (is : List Nat) (h1 : keepsF (nthD is) h g is) (h2 : is.Nodup) (h3 : AOK g) (h4 : ∀ b, b < m → nthD is b = b ∧ live g b = true) (h5 : m ≤ g.length) (h6 : t.length = n) (h7 : ∀ x ∈ tv, getT t x.1 = some (ren (nthD is) x.2) ∧ scp (live g) x.2 = true) : atHeadV m n tv g t h := by
  obtain ⟨hl, hk⟩ := keepsF_get h1
  have hσ := pairUp_σ hl
  refine ⟨pairUp g is, (pairUp_map hl).symm, fun b k js hb => ?_, pairUp_dis h2, h3, fun b hb => by rw [hσ]; exact h4 b hb, h5, h6, by rw [hσ]; exact h7⟩
  rw [pairUp_get hl] at hb
  cases hx : g[b]? with
  | none => rw [hx] at hb; cases hb
  | some k' =>
    rw [hx] at hb
    injection hb with hb
    injection hb with q1 q2
    subst q1 q2
    have hbl := (List.getElem?_eq_some_iff.1 hx).1
    refine okBlk_keep ?_ (by rw [hσ]; exact hk b k' hx)
    rw [hσ]
    simp [nthD, ← hl, hbl]

end

def aokL (L : Nat → Bool) : AH → Prop
  | [] => True
  | k :: g => k.scp L ∧ aokL L g
theorem aokL_get {L : Nat → Bool} : ∀ {g : AH}, aokL L g → ∀ (b : Nat) (k : ABlk), g[b]? = some k → k.scp L
  | k0 :: g, hs, 0, k, hb => by simp at hb; subst hb; exact hs.1
  | k0 :: g, hs, b + 1, k, hb => aokL_get hs.2 b k (by simpa using hb)
  | [], _, b, k, hb => by simp at hb
theorem AOK.of {g : AH} (h : aokL (live g) g) : AOK g := aokL_get h

section
variable {P : Program} {f : FuncId} {args : List Value} {h : AH} {K K' : Value → AH → Prop}

/-- A structure's method is over: nothing new stands beside it. -/
theorem Sees.m0 {S : Type} {heaps : S → AH → Prop} {s : S} {h' : AH} {v : Value} {is : List Nat} (g : AH) (hg : heaps s g) (ho : own g) (ok : AOK g) (hc : ∃ vs e, g[0]? = some (.cells vs e none)) (h0 : nth is 0 = 0) (hnd : is.Nodup) (hl : is.length = g.length) (hs : subL (nth is) h' 0 g)
    (hv : plain v = true) (hK : K v [.adt (mkADT S heaps) s]) : Sees 1 h' v K := by
  have hne : ∃ is', is = 0 :: is' := by
    obtain ⟨vs, e, hc⟩ := hc
    have := (List.getElem?_eq_some_iff.1 hc).1
    cases is with
    | nil => simp at hl; omega
    | cons i is' => rw [nth_0] at h0; subst h0; exact ⟨is', rfl⟩
  obtain ⟨is', rfl⟩ := hne
  have hσ : Spec.σ [(ABlk.adt (mkADT S heaps) s, 0 :: is')] = fun b => b := by
    funext b
    unfold Spec.σ
    cases b with
    | zero => rfl
    | succ b => simp
  refine Sees.mk [(.adt (mkADT S heaps) s, 0 :: is')] v (fun b k js hb => ?_) ⟨by simp, trivial⟩ ?_ (scp_mono (fun b hb => by cases hb) v hv) (by rw [ren_plain _ v hv]) (fun b hb => by rw [hσ]) (fun b hb => ?_) (by simp) hK
  · match b with
    | 0 =>
      simp at hb
      obtain ⟨rfl, rfl⟩ := hb
      exact okBlk_close g hg ho ok hc (by rw [hσ]; rfl) hnd hl hs
    | n + 1 => simp at hb
  · exact AOK.of ⟨trivial, trivial⟩
  · obtain rfl : b = 0 := by omega
    rfl

/-- A structure's method is over: one new block stands beside it. -/
theorem Sees.m1 {S : Type} {heaps : S → AH → Prop} {s : S} {h' : AH} {v : Value} {is : List Nat} {e : Nat} (g : AH) (hg : heaps s g) (ho : own g) (ok : AOK g) (hc : ∃ vs e, g[0]? = some (.cells vs e none)) (h0 : nth is 0 = 0) (hnd : is.Nodup) (hl : is.length = g.length) (hs : subL (nth is) h' 0 g)
    (k : ABlk) (he : e ∉ is) (hk : h'[e]? = some k) (nk : noNames k) (nh : k ≠ .hole) (v2 : Value) (hv : v = ren (fun b => if b = 0 then 0 else if b = 1 then e else b) v2) (hsc : scp (live [.adt (mkADT S heaps) s, k]) v2 = true) (hK : K v2 [.adt (mkADT S heaps) s, k]) : Sees 1 h' v K := by
  have hne : ∃ is', is = 0 :: is' := by
    obtain ⟨vs, e, hc⟩ := hc
    have := (List.getElem?_eq_some_iff.1 hc).1
    cases is with
    | nil => simp at hl; omega
    | cons i is' => rw [nth_0] at h0; subst h0; exact ⟨is', rfl⟩
  obtain ⟨is', rfl⟩ := hne
  have hσ : Spec.σ [(ABlk.adt (mkADT S heaps) s, 0 :: is'), (k, [e])] = fun b => if b = 0 then 0 else if b = 1 then e else b := by
    funext b
    unfold Spec.σ
    match b with
    | 0 => rfl
    | 1 => rfl
    | n + 2 => simp
  refine Sees.mk [(.adt (mkADT S heaps) s, 0 :: is'), (k, [e])] v2 (fun b k' js hb => ?_) ⟨?_, ?_, trivial⟩ ?_ hsc (by rw [hσ]; exact hv) (fun b hb => ?_) (fun b hb => ?_) (by simp) hK
  · match b with
    | 0 =>
      simp at hb
      obtain ⟨rfl, rfl⟩ := hb
      exact okBlk_close g hg ho ok hc (by rw [hσ]; rfl) hnd hl hs
    | 1 =>
      simp at hb
      obtain ⟨rfl, rfl⟩ := hb
      exact okBlk_keep (by rw [hσ]; rfl) (by rw [renB_noNames nk]; exact hk)
    | n + 2 => simp at hb
  · intro y hy i hi
    simp only [List.mem_singleton] at hy
    subst hy
    simp only [List.mem_singleton]
    rintro rfl
    exact he hi
  · intro y hy; cases hy
  · exact AOK.of ⟨trivial, scp_noNames nk _, trivial⟩
  · obtain rfl : b = 0 := by omega
    rw [hσ]; rfl
  · obtain rfl : b = 0 := by omega
    rfl

/-- A call whose contract knows of one block, and tells of what comes how it is. -/
theorem AC.at1Q {args0 : List Value} {k0 : ABlk} (R : Value → ABlk → AH → Prop) (hc : AC P f args0 [k0] (fun v h' => ∃ k1 E, h' = k1 :: E ∧ noNames k1 ∧ (∀ k ∈ E, noNames k) ∧ R v k1 E)) (n0 : noNames k0) {H : AH} {b : Nat} (hb : H[b]? = some k0) (ha : scpL (live [k0]) args0 = true) (he : args = args0.map (ren fun _ => b))
    (hK : ∀ v k1 E, R v k1 E → K (ren (opnR H b) v) (H.set b k1 ++ E)) : AC P f args H K := by
  have sb : Sub (fun _ => b) [k0] H := by
    refine ⟨fun j k hj => ?_, fun i j hi hj _ => ?_⟩
    · match j with
      | 0 => injection hj with hj; subst hj; rw [renB_noNames n0]; exact hb
      | n + 1 => simp at hj
    · simp at hi hj; omega
  have ok : AOK [k0] := by
    intro c k hc
    match c with
    | 0 => injection hc with hc; subst hc; exact scp_noNames n0 _
    | n + 1 => simp at hc
  have := AC.frame sb ok ha hc
  rw [← he] at this
  refine this.mono ?_
  rintro v H' ⟨v0, h', ⟨k1, E, rfl, n1, hE, hR⟩, _, rfl, rfl⟩
  have e1 : extN (fun _ => b) ([k0] : AH).length H.length = opnR H b := by
    funext j
    unfold extN opnR
    simp only [List.length_singleton]
    by_cases hj : j = 0
    · simp [hj]
    · rw [if_neg (by omega), if_neg hj]
  have e2 : glue (fun _ => b) ([k0] : AH).length H (k1 :: E) = H.set b k1 ++ E := by
    unfold glue
    rw [e1]
    simp only [List.length_singleton, List.take_succ_cons, List.take_zero, List.drop_succ_cons, List.drop_zero, setAll, renB_noNames n1]
    congr 1
    conv => rhs; rw [← List.map_id E]
    exact List.map_congr_left fun k hk => renB_noNames (hE k hk) _
  rw [e1, e2]
  exact hK v0 k1 E hR

theorem set_same {H : AH} {b : Nat} {k : ABlk} (hb : H[b]? = some k) : H.set b k = H := by
  refine List.ext_getElem? fun c => ?_
  rw [List.getElem?_set]
  split
  · rename_i e
    subst e
    rw [if_pos (List.getElem?_eq_some_iff.1 hb).1, hb]
  · rfl
end

end Abs
end Go.Proofs.Ytongllppbifiaaa

/- MADE BY PROGRAM (bundle.py): the evaluator's laws, as bundles. -/
namespace Go.Proofs.Ytongllppbifiaaa
namespace Abs
open Go
set_option linter.unusedVariables false
set_option linter.unusedSimpArgs false

theorem DN : (((((∀ (P : Program) (m : Nat) (s : List Frm) (t : T) (h : AH) (Q : AExit → T → AH → Prop), run P m .skip s t h Q = resume P m s .normal t h Q) ∧ (∀ (P : Program) (m : Nat) (s : List Frm) (t : T) (h : AH) (Q : AExit → T → AH → Prop) (i : Nat), run P m (.exit i) s t h Q = resume P m s (.exit i) t h Q)) ∧ ((∀ (P : Program) (m : Nat) (s : List Frm) (t : T) (h : AH) (Q : AExit → T → AH → Prop), run P m .ret s t h Q = resume P m s .ret t h Q) ∧ ((∀ (P : Program) (m : Nat) (s : List Frm) (t : T) (h : AH) (Q : AExit → T → AH → Prop) (l : List AOper), run P m (.ops l) s t h Q = runO P m l s t h Q) ∧ (∀ (P : Program) (m : Nat) (s : List Frm) (t : T) (h : AH) (Q : AExit → T → AH → Prop) (a b : ACode), run P m (.seq a b) s t h Q = run P m a (.code b :: s) t h Q)))) ∧ (((∀ (P : Program) (m : Nat) (s : List Frm) (t : T) (h : AH) (Q : AExit → T → AH → Prop) (i : Nat) (a : ACode), run P m (.block i a) s t h Q = run P m a (.blk i :: s) t h Q) ∧ ((∀ (P : Program) (m : Nat) (s : List Frm) (t : T) (h : AH) (Q : AExit → T → AH → Prop) (a : ACode), run P m (.loop a) s t h Q = ALoop P m a t h (resK P m s Q)) ∧ (∀ (P : Program) (m : Nat) (s : List Frm) (t : T) (h : AH) (Q : AExit → T → AH → Prop) (c : Operand) (a b : ACode), run P m (.cond c a b) s t h Q = condK P m (evalO t c) a b s t h Q))) ∧ ((∀ (P : Program) (m : Nat) (s : List Frm) (t : T) (h : AH) (Q : AExit → T → AH → Prop) (nh : Nat) (l : List DOper), run P m (.drawn nh l) s t h Q = openD P m h.length (h ++ holes nh) l s t Q) ∧ ((∀ (P : Program) (m : Nat) (s : List Frm) (t : T) (h : AH) (Q : AExit → T → AH → Prop), runO P m [] s t h Q = resume P m s .normal t h Q) ∧ (∀ (P : Program) (m : Nat) (s : List Frm) (t : T) (h : AH) (Q : AExit → T → AH → Prop) (d : Option Tmp) (op : AOp) (l : List AOper), runO P m (⟨d, op, none⟩ :: l) s t h Q = step P m (kd op) ⟨d, op, none⟩ l s t h Q))))) ∧ ((((∀ (P : Program) (m : Nat) (s : List Frm) (t : T) (h : AH) (Q : AExit → T → AH → Prop) (x : AOper) (l : List AOper), runO P m (x :: l) s t h Q = wantK P m (wantedA t x.guard) x l s t h Q) ∧ ((∀ (P : Program) (m : Nat) (s : List Frm) (t : T) (h : AH) (Q : AExit → T → AH → Prop) (base : Nat) (D : Reads), runD P m base [] D s t h Q = resume P m s .normal t h Q) ∧ (∀ (P : Program) (m : Nat) (s : List Frm) (t : T) (h : AH) (Q : AExit → T → AH → Prop) (base : Nat) (x : DOper) (l : List DOper) (D : Reads), runD P m base (x :: l) D s t h Q = wantD P m base (wantedA t x.x.guard) x l D s t h Q))) ∧ ((∀ (P : Program) (m : Nat) (s : List Frm) (t : T) (h : AH) (Q : AExit → T → AH → Prop) (e : AExit), resK P m s Q e t h = resume P m s e t h Q) ∧ ((∀ (P : Program) (m : Nat) (t : T) (h : AH) (Q : AExit → T → AH → Prop) (e : AExit), resume P m [] e t h Q = Q e t h) ∧ (∀ (P : Program) (m : Nat) (s : List Frm) (t : T) (h : AH) (Q : AExit → T → AH → Prop) (c : ACode), resume P m (.code c :: s) .normal t h Q = run P m c s t h Q)))) ∧ (((∀ (P : Program) (m : Nat) (s : List Frm) (t : T) (h : AH) (Q : AExit → T → AH → Prop) (c : ACode) (i : Nat), resume P m (.code c :: s) (.exit i) t h Q = resume P m s (.exit i) t h Q) ∧ ((∀ (P : Program) (m : Nat) (s : List Frm) (t : T) (h : AH) (Q : AExit → T → AH → Prop) (c : ACode), resume P m (.code c :: s) .ret t h Q = resume P m s .ret t h Q) ∧ (∀ (P : Program) (m : Nat) (s : List Frm) (t : T) (h : AH) (Q : AExit → T → AH → Prop) (i : Nat), resume P m (.blk i :: s) (.exit i) t h Q = resume P m s .normal t h Q))) ∧ ((∀ (P : Program) (m : Nat) (s : List Frm) (t : T) (h : AH) (Q : AExit → T → AH → Prop) (i j : Nat) (hij : i ≠ j), resume P m (.blk j :: s) (.exit i) t h Q = resume P m s (.exit i) t h Q) ∧ ((∀ (P : Program) (m : Nat) (s : List Frm) (t : T) (h : AH) (Q : AExit → T → AH → Prop) (i : Nat), resume P m (.blk i :: s) .normal t h Q = resume P m s .normal t h Q) ∧ (∀ (P : Program) (m : Nat) (s : List Frm) (t : T) (h : AH) (Q : AExit → T → AH → Prop) (i : Nat), resume P m (.blk i :: s) .ret t h Q = resume P m s .ret t h Q)))))) :=
  ⟨⟨⟨⟨(by intros; first | (apply run_skip; done) | (apply run_skip <;> assumption) | rfl), (by intros; first | (apply run_exit; done) | (apply run_exit <;> assumption) | rfl)⟩, ⟨(by intros; first | (apply run_ret; done) | (apply run_ret <;> assumption) | rfl), ⟨(by intros; first | (apply run_ops; done) | (apply run_ops <;> assumption) | rfl), (by intros; first | (apply run_seq; done) | (apply run_seq <;> assumption) | rfl)⟩⟩⟩, ⟨⟨(by intros; first | (apply run_block; done) | (apply run_block <;> assumption) | rfl), ⟨(by intros; first | (apply run_loop; done) | (apply run_loop <;> assumption) | rfl), (by intros; first | (apply run_cond; done) | (apply run_cond <;> assumption) | rfl)⟩⟩, ⟨(by intros; first | (apply run_drawn; done) | (apply run_drawn <;> assumption) | rfl), ⟨(by intros; first | (apply runO_nil; done) | (apply runO_nil <;> assumption) | rfl), (by intros; first | (apply runO_plain; done) | (apply runO_plain <;> assumption) | rfl)⟩⟩⟩⟩, ⟨⟨⟨(by intros; first | (apply runO_cons; done) | (apply runO_cons <;> assumption) | rfl), ⟨(by intros; first | (apply runD_nil; done) | (apply runD_nil <;> assumption) | rfl), (by intros; first | (apply runD_cons; done) | (apply runD_cons <;> assumption) | rfl)⟩⟩, ⟨(by intros; first | (apply resK_eq; done) | (apply resK_eq <;> assumption) | rfl), ⟨(by intros; first | (apply resume_nil; done) | (apply resume_nil <;> assumption) | rfl), (by intros; first | (apply resume_code; done) | (apply resume_code <;> assumption) | rfl)⟩⟩⟩, ⟨⟨(by intros; first | (apply resume_code_exit; done) | (apply resume_code_exit <;> assumption) | rfl), ⟨(by intros; first | (apply resume_code_ret; done) | (apply resume_code_ret <;> assumption) | rfl), (by intros; first | (apply resume_blk_self; done) | (apply resume_blk_self <;> assumption) | rfl)⟩⟩, ⟨(by intros; first | (apply resume_blk_ne; done) | (apply resume_blk_ne <;> assumption) | rfl), ⟨(by intros; first | (apply resume_blk; done) | (apply resume_blk <;> assumption) | rfl), (by intros; first | (apply resume_blk_ret; done) | (apply resume_blk_ret <;> assumption) | rfl)⟩⟩⟩⟩⟩

theorem NB : (((((((∀ (P : Program) (m : Nat) (t : T) (h : AH) (Q : AExit → T → AH → Prop) (c : ACode), begin_ P m t c h Q = run P m c [] t h Q) ∧ ((nones 0 = []) ∧ (nones 1 = [none]))) ∧ (((nones 2 = [none, none]) ∧ (nones 3 = [none, none, none])) ∧ ((∀ (n : Nat), nones (n + 4) = none :: none :: none :: none :: nones n) ∧ (∀ (P : Program) (m : Nat) (s : List Frm) (t : T) (h : AH) (Q : AExit → T → AH → Prop) (base : Nat) (l : List DOper), openD P m base h l s t Q = runD P m base l [] s t h Q)))) ∧ (((holes 0 = []) ∧ ((∀ (n : Nat), holes (n + 1) = .hole :: holes n) ∧ (∀ (P : Program) (m : Nat) (s : List Frm) (t : T) (h : AH) (Q : AExit → T → AH → Prop) (a b : ACode), condK P m (some (.bool true)) a b s t h Q = run P m a s t h Q))) ∧ (((∀ (P : Program) (m : Nat) (s : List Frm) (t : T) (h : AH) (Q : AExit → T → AH → Prop) (a b : ACode), condK P m (some (.bool false)) a b s t h Q = run P m b s t h Q) ∧ (∀ (P : Program) (m : Nat) (s : List Frm) (t : T) (h : AH) (Q : AExit → T → AH → Prop) (x : Bool) (a b : ACode), condK P m (some (.bool x)) a b s t h Q = if x = true then run P m a s t h Q else run P m b s t h Q)) ∧ ((∀ (P : Program) (m : Nat) (s : List Frm) (t : T) (h : AH) (Q : AExit → T → AH → Prop) (l : List AOper), goT P m t l s h Q = runO P m l s t h Q) ∧ (∀ (P : Program) (m : Nat) (s : List Frm) (t : T) (h : AH) (Q : AExit → T → AH → Prop) (v : Value) (d : Option Tmp) (l : List AOper), stepP P m (some v) d l s t h Q = goT P m (t.put d v) l s h Q))))) ∧ ((((∀ (P : Program) (m : Nat) (s : List Frm) (t : T) (h : AH) (Q : AExit → T → AH → Prop) (d : Option Tmp) (l : List AOper), stepP P m none d l s t h Q = False) ∧ ((∀ (P : Program) (m : Nat) (s : List Frm) (t : T) (h : AH) (Q : AExit → T → AH → Prop) (c : Prop) [Decidable c] (a b : Option Value) (d : Option Tmp) (l : List AOper), stepP P m (if c then a else b) d l s t h Q = if c then stepP P m a d l s t h Q else stepP P m b d l s t h Q) ∧ (∀ (P : Program) (m : Nat) (s : List Frm) (t : T) (h : AH) (Q : AExit → T → AH → Prop) (v : Value) (k : ABlk) (d : Option Tmp) (l : List AOper), stepF P m (some (v, k)) d l s t h Q = goT P m (t.put d v) l s (h ++ [k]) Q))) ∧ (((∀ (P : Program) (m : Nat) (s : List Frm) (t : T) (h : AH) (Q : AExit → T → AH → Prop) (d : Option Tmp) (l : List AOper), stepF P m none d l s t h Q = False) ∧ (∀ (P : Program) (m : Nat) (s : List Frm) (t : T) (h : AH) (Q : AExit → T → AH → Prop) (c : Prop) [Decidable c] (a b : Option (Value × ABlk)) (d : Option Tmp) (l : List AOper), stepF P m (if c then a else b) d l s t h Q = if c then stepF P m a d l s t h Q else stepF P m b d l s t h Q)) ∧ ((∀ (P : Program) (m : Nat) (s : List Frm) (t : T) (Q : AExit → T → AH → Prop) (v : Value) (h : AH) (d : Option Tmp) (l : List AOper), stepL P m (some (v, h)) d l s t Q = goT P m (t.put d v) l s h Q) ∧ (∀ (P : Program) (m : Nat) (s : List Frm) (t : T) (Q : AExit → T → AH → Prop) (d : Option Tmp) (l : List AOper), stepL P m none d l s t Q = False)))) ∧ ((((∀ (P : Program) (m : Nat) (s : List Frm) (t : T) (Q : AExit → T → AH → Prop) (c : Prop) [Decidable c] (a b : Option (Value × AH)) (d : Option Tmp) (l : List AOper), stepL P m (if c then a else b) d l s t Q = if c then stepL P m a d l s t Q else stepL P m b d l s t Q) ∧ (∀ (P : Program) (m : Nat) (s : List Frm) (t : T) (Q : AExit → T → AH → Prop) (v : Value) (h : AH) (d : Option Tmp) (l : List AOper), callK P m d l s t Q v h = goT P m (t.put d v) l s h Q)) ∧ ((∀ (P : Program) (m : Nat) (s : List Frm) (t : T) (h : AH) (Q : AExit → T → AH → Prop) (f : FuncId) (args : List Value) (d : Option Tmp) (l : List AOper), stepC P m (some (f, args)) d l s t h Q = AC P f args h (callK P m d l s t Q)) ∧ (∀ (P : Program) (m : Nat) (s : List Frm) (t : T) (h : AH) (Q : AExit → T → AH → Prop) (d : Option Tmp) (l : List AOper), stepC P m none d l s t h Q = False))) ∧ (((∀ (P : Program) (m : Nat) (s : List Frm) (t : T) (h : AH) (Q : AExit → T → AH → Prop) (x : AOper) (l : List AOper), step P m 0 x l s t h Q = stepP P m (evP P t x.op) x.dst l s t h Q) ∧ (∀ (P : Program) (m : Nat) (s : List Frm) (t : T) (h : AH) (Q : AExit → T → AH → Prop) (x : AOper) (l : List AOper), step P m 1 x l s t h Q = stepP P m (evR t h x.op) x.dst l s t h Q)) ∧ ((∀ (P : Program) (m : Nat) (s : List Frm) (t : T) (h : AH) (Q : AExit → T → AH → Prop) (x : AOper) (l : List AOper), step P m 2 x l s t h Q = stepF P m (evF t h.length x.op) x.dst l s t h Q) ∧ (∀ (P : Program) (m : Nat) (s : List Frm) (t : T) (h : AH) (Q : AExit → T → AH → Prop) (x : AOper) (l : List AOper), step P m 3 x l s t h Q = stepL P m (evL t h x.op) x.dst l s t Q)))))) ∧ (((((∀ (P : Program) (m : Nat) (s : List Frm) (t : T) (h : AH) (Q : AExit → T → AH → Prop) (x : AOper) (l : List AOper), step P m 4 x l s t h Q = stepC P m (evC t x.op) x.dst l s t h Q) ∧ ((∀ (P : Program) (m : Nat) (s : List Frm) (t : T) (h : AH) (Q : AExit → T → AH → Prop) (x : AOper) (l : List AOper), step P m 5 x l s t h Q = stepI P m (evI t x.op) x.dst l s t h Q) ∧ (∀ (P : Program) (m : Nat) (s : List Frm) (t : T) (h : AH) (Q : AExit → T → AH → Prop) (f : FuncId) (args : List Value) (d : Option Tmp) (l : List AOper), stepI P m (some (f, args)) d l s t h Q = IC P f args h (callK P m d l s t Q)))) ∧ (((∀ (P : Program) (m : Nat) (s : List Frm) (t : T) (h : AH) (Q : AExit → T → AH → Prop) (d : Option Tmp) (l : List AOper), stepI P m none d l s t h Q = False) ∧ (∀ (P : Program) (m : Nat) (s : List Frm) (t : T) (h : AH) (Q : AExit → T → AH → Prop) (x : AOper) (l : List AOper), wantK P m (some true) x l s t h Q = step P m (kd x.op) x l s t h Q)) ∧ ((∀ (P : Program) (m : Nat) (s : List Frm) (t : T) (h : AH) (Q : AExit → T → AH → Prop) (x : AOper) (l : List AOper), wantK P m (some false) x l s t h Q = goT P m (t.put x.dst undef) l s h Q) ∧ (∀ (P : Program) (m : Nat) (s : List Frm) (t : T) (h : AH) (Q : AExit → T → AH → Prop) (x : AOper) (l : List AOper), wantK P m none x l s t h Q = False)))) ∧ (((∀ (P : Program) (m : Nat) (s : List Frm) (t : T) (h : AH) (Q : AExit → T → AH → Prop) (b : Bool) (x : AOper) (l : List AOper), wantK P m (some b) x l s t h Q = if b = true then step P m (kd x.op) x l s t h Q else goT P m (t.put x.dst undef) l s h Q) ∧ ((∀ (P : Program) (m : Nat) (s : List Frm) (t : T) (h : AH) (Q : AExit → T → AH → Prop) (base : Nat) (l : List DOper) (D : Reads), goD P m base t h l D s Q = runD P m base l D s t h Q) ∧ (∀ (P : Program) (m : Nat) (s : List Frm) (t : T) (h : AH) (Q : AExit → T → AH → Prop) (base : Nat) (l : List DOper) (D : Reads), gateD P m base true t h l D s Q = goD P m base t h l D s Q))) ∧ (((∀ (P : Program) (m : Nat) (s : List Frm) (t : T) (h : AH) (Q : AExit → T → AH → Prop) (base : Nat) (l : List DOper) (D : Reads), gateD P m base false t h l D s Q = False) ∧ (∀ (P : Program) (m : Nat) (s : List Frm) (t : T) (h : AH) (Q : AExit → T → AH → Prop) (base : Nat) (v : Value) (d : Option Tmp) (l : List DOper) (D : Reads), stepDP P m base (some v) d l D s t h Q = goD P m base (t.put d v) h l D s Q)) ∧ ((∀ (P : Program) (m : Nat) (s : List Frm) (t : T) (h : AH) (Q : AExit → T → AH → Prop) (base : Nat) (d : Option Tmp) (l : List DOper) (D : Reads), stepDP P m base none d l D s t h Q = False) ∧ (∀ (P : Program) (m : Nat) (s : List Frm) (t : T) (h : AH) (Q : AExit → T → AH → Prop) (base : Nat) (c : Prop) [Decidable c] (a b : Option Value) (d : Option Tmp) (l : List DOper) (D : Reads), stepDP P m base (if c then a else b) d l D s t h Q = if c then stepDP P m base a d l D s t h Q else stepDP P m base b d l D s t h Q))))) ∧ ((((∀ (P : Program) (m : Nat) (s : List Frm) (t : T) (h : AH) (Q : AExit → T → AH → Prop) (base i : Nat) (v : Value) (op : AOp) (d : Option Tmp) (l : List DOper) (D : Reads), stepDR P m base i (some v) op d l D s t h Q = goD P m base (t.put d v) h l ((i, rdF t op, v) :: D) s Q) ∧ ((∀ (P : Program) (m : Nat) (s : List Frm) (t : T) (h : AH) (Q : AExit → T → AH → Prop) (base i : Nat) (op : AOp) (d : Option Tmp) (l : List DOper) (D : Reads), stepDR P m base i none op d l D s t h Q = False) ∧ (∀ (P : Program) (m : Nat) (s : List Frm) (t : T) (h : AH) (Q : AExit → T → AH → Prop) (base i : Nat) (c : Prop) [Decidable c] (a b : Option Value) (op : AOp) (d : Option Tmp) (l : List DOper) (D : Reads), stepDR P m base i (if c then a else b) op d l D s t h Q = if c then stepDR P m base i a op d l D s t h Q else stepDR P m base i b op d l D s t h Q))) ∧ (((∀ (P : Program) (m : Nat) (s : List Frm) (t : T) (h : AH) (Q : AExit → T → AH → Prop) (base n : Nat) (v : Value) (k : ABlk) (d : Option Tmp) (l : List DOper) (D : Reads), stepDF P m base n (some (v, k)) d l D s t h Q = gateD P m base (isHole h n) (t.put d v) (h.set n k) l D s Q) ∧ (∀ (P : Program) (m : Nat) (s : List Frm) (t : T) (h : AH) (Q : AExit → T → AH → Prop) (base n : Nat) (d : Option Tmp) (l : List DOper) (D : Reads), stepDF P m base n none d l D s t h Q = False)) ∧ ((∀ (P : Program) (m : Nat) (s : List Frm) (t : T) (h : AH) (Q : AExit → T → AH → Prop) (base n : Nat) (c : Prop) [Decidable c] (a b : Option (Value × ABlk)) (d : Option Tmp) (l : List DOper) (D : Reads), stepDF P m base n (if c then a else b) d l D s t h Q = if c then stepDF P m base n a d l D s t h Q else stepDF P m base n b d l D s t h Q) ∧ (∀ (P : Program) (m : Nat) (s : List Frm) (t : T) (Q : AExit → T → AH → Prop) (base : Nat) (v : Value) (h : AH) (ck : List Nat) (d : Option Tmp) (l : List DOper) (D : Reads), stepDL P m base (some (v, h)) ck d l D s t Q = gateD P m base (askD ck D h) (t.put d v) h l D s Q)))) ∧ ((((∀ (P : Program) (m : Nat) (s : List Frm) (t : T) (Q : AExit → T → AH → Prop) (base : Nat) (ck : List Nat) (d : Option Tmp) (l : List DOper) (D : Reads), stepDL P m base none ck d l D s t Q = False) ∧ (∀ (P : Program) (m : Nat) (s : List Frm) (t : T) (Q : AExit → T → AH → Prop) (base : Nat) (c : Prop) [Decidable c] (a b : Option (Value × AH)) (ck : List Nat) (d : Option Tmp) (l : List DOper) (D : Reads), stepDL P m base (if c then a else b) ck d l D s t Q = if c then stepDL P m base a ck d l D s t Q else stepDL P m base b ck d l D s t Q)) ∧ ((∀ (P : Program) (m : Nat) (s : List Frm) (t : T) (Q : AExit → T → AH → Prop) (base : Nat) (v : Value) (h : AH) (ck : List Nat) (d : Option Tmp) (l : List DOper) (D : Reads), callD P m base ck d l D s t Q v h = gateD P m base (askD ck D h && holesB base l h) (t.put d v) h l D s Q) ∧ (∀ (P : Program) (m : Nat) (s : List Frm) (t : T) (h : AH) (Q : AExit → T → AH → Prop) (base : Nat) (f : FuncId) (args : List Value) (ck : List Nat) (d : Option Tmp) (l : List DOper) (D : Reads), stepDC P m base (some (f, args)) ck d l D s t h Q = AC P f args h (callD P m base ck d l D s t Q)))) ∧ (((∀ (P : Program) (m : Nat) (s : List Frm) (t : T) (h : AH) (Q : AExit → T → AH → Prop) (base : Nat) (ck : List Nat) (d : Option Tmp) (l : List DOper) (D : Reads), stepDC P m base none ck d l D s t h Q = False) ∧ (∀ (P : Program) (m : Nat) (s : List Frm) (t : T) (h : AH) (Q : AExit → T → AH → Prop) (base : Nat) (x : DOper) (l : List DOper) (D : Reads), stepD P m base 0 x l D s t h Q = stepDP P m base (evP P t x.x.op) x.x.dst l D s t h Q)) ∧ ((∀ (P : Program) (m : Nat) (s : List Frm) (t : T) (h : AH) (Q : AExit → T → AH → Prop) (base : Nat) (x : DOper) (l : List DOper) (D : Reads), stepD P m base 1 x l D s t h Q = stepDR P m base x.i (evR t h x.x.op) x.x.op x.x.dst l D s t h Q) ∧ (∀ (P : Program) (m : Nat) (s : List Frm) (t : T) (h : AH) (Q : AExit → T → AH → Prop) (base : Nat) (x : DOper) (l : List DOper) (D : Reads), stepD P m base 2 x l D s t h Q = stepDF P m base (base + x.fi) (evF t (base + x.fi) x.x.op) x.x.dst l D s t h Q))))))) ∧ ((((((∀ (P : Program) (m : Nat) (s : List Frm) (t : T) (h : AH) (Q : AExit → T → AH → Prop) (base : Nat) (x : DOper) (l : List DOper) (D : Reads), stepD P m base 3 x l D s t h Q = stepDL P m base (evL t h x.x.op) x.chk x.x.dst l D s t Q) ∧ ((∀ (P : Program) (m : Nat) (s : List Frm) (t : T) (h : AH) (Q : AExit → T → AH → Prop) (base : Nat) (x : DOper) (l : List DOper) (D : Reads), stepD P m base 4 x l D s t h Q = stepDC P m base (evC t x.x.op) x.chk x.x.dst l D s t h Q) ∧ (∀ (P : Program) (m : Nat) (s : List Frm) (t : T) (h : AH) (Q : AExit → T → AH → Prop) (base : Nat) (x : DOper) (l : List DOper) (D : Reads), wantD P m base (some true) x l D s t h Q = stepD P m base (kd x.x.op) x l D s t h Q))) ∧ (((∀ (P : Program) (m : Nat) (s : List Frm) (t : T) (h : AH) (Q : AExit → T → AH → Prop) (base : Nat) (x : DOper) (l : List DOper) (D : Reads), wantD P m base (some false) x l D s t h Q = goD P m base (t.put x.x.dst undef) h l D s Q) ∧ (∀ (P : Program) (m : Nat) (s : List Frm) (t : T) (h : AH) (Q : AExit → T → AH → Prop) (base : Nat) (x : DOper) (l : List DOper) (D : Reads), wantD P m base none x l D s t h Q = False)) ∧ ((∀ (P : Program) (m : Nat) (s : List Frm) (t : T) (h : AH) (Q : AExit → T → AH → Prop) (base : Nat) (b : Bool) (x : DOper) (l : List DOper) (D : Reads), wantD P m base (some b) x l D s t h Q = if b = true then stepD P m base (kd x.x.op) x l D s t h Q else goD P m base (t.put x.x.dst undef) h l D s Q) ∧ (∀ (t : T) (h : AH) (op : AOp), rdF t op h = evR t h op)))) ∧ (((∀ (u v : Value), sameO (some u) v = veq u v) ∧ ((∀ (v : Value), sameO none v = false) ∧ (∀ (h : AH) (l : List Nat), askD l [] h = true))) ∧ (((∀ (h : AH) (D : Reads), askD [] D h = true) ∧ (∀ (h : AH) (l : List Nat) (i : Nat) (f : AH → Option Value) (v : Value) (D : Reads), askD l ((i, f, v) :: D) h = ((!(l.contains i) || sameO (f h) v) && askD l D h))) ∧ ((∀ (h : AH) (base : Nat), holesB base [] h = true) ∧ (∀ (h : AH) (base : Nat) (e : DOper) (l : List DOper), holesB base (e :: l) h = ((kd e.x.op != 2 || isHole h (base + e.fi)) && holesB base l h)))))) ∧ ((((∀ (t : T) (h : AH) (res : List ARes) (K : Value → AH → Prop), finQ res K .normal t h = finV (evRes t h res) h K) ∧ ((∀ (t : T) (h : AH) (res : List ARes) (K : Value → AH → Prop), finQ res K .ret t h = finV (evRes t h res) h K) ∧ (∀ (h : AH) (vs : List Value) (K : Value → AH → Prop), finV (some vs) h K = K (oneOf vs) h))) ∧ (((∀ (h : AH) (K : Value → AH → Prop), finV none h K = False) ∧ (∀ (v : Value), oneOf [v] = v)) ∧ ((oneOf [] = .tuple #[]) ∧ (∀ (v u : Value) (l : List Value), oneOf (v :: u :: l) = .tuple (v :: u :: l).toArray)))) ∧ ((((∀ (t : T) (h : AH) (Q : AExit → T → AH → Prop) {σ : Type} (I : σ → T → AH → Prop) (μ : σ → Nat) (s : σ), loopQ I μ s Q .normal t h = ∃ s', μ s' < μ s ∧ I s' t h) ∧ (∀ (t : T) (h : AH) (Q : AExit → T → AH → Prop) {σ : Type} (I : σ → T → AH → Prop) (μ : σ → Nat) (s : σ) (i : Nat), loopQ I μ s Q (.exit i) t h = Q (.exit i) t h)) ∧ ((∀ (t : T) (h : AH) (Q : AExit → T → AH → Prop) {σ : Type} (I : σ → T → AH → Prop) (μ : σ → Nat) (s : σ), loopQ I μ s Q .ret t h = Q .ret t h) ∧ (∀ (m : Nat) (t : T) (h : AH) (Q : AExit → T → AH → Prop) {σ : Type} (n : Nat) (I : σ → Prop) (μ : σ → Nat) (tv : σ → List (Nat × Value)) (hv : σ → AH) (s : σ), loopQ2 m n I μ tv hv s Q .normal t h = ∃ s', μ s' < μ s ∧ I s' ∧ atHead m n (tv s') (hv s') t h))) ∧ (((∀ (m : Nat) (t : T) (h : AH) (Q : AExit → T → AH → Prop) {σ : Type} (n : Nat) (I : σ → Prop) (μ : σ → Nat) (tv : σ → List (Nat × Value)) (hv : σ → AH) (s : σ) (i : Nat), loopQ2 m n I μ tv hv s Q (.exit i) t h = Q (.exit i) t h) ∧ (∀ (m : Nat) (t : T) (h : AH) (Q : AExit → T → AH → Prop) {σ : Type} (n : Nat) (I : σ → Prop) (μ : σ → Nat) (tv : σ → List (Nat × Value)) (hv : σ → AH) (s : σ), loopQ2 m n I μ tv hv s Q .ret t h = Q .ret t h)) ∧ ((∀ (m : Nat) (t : T) (h : AH) (Q : AExit → T → AH → Prop) {σ : Type} (n : Nat) (I : σ → Prop) (μ : σ → Nat) (tv : σ → List (Nat × Value)) (hv : σ → AH) (s : σ), loopQ3 m n I μ tv hv s Q .normal t h = nextS m n I μ tv hv s t h) ∧ (∀ (m : Nat) (t : T) (h : AH) (Q : AExit → T → AH → Prop) {σ : Type} (n : Nat) (I : σ → Prop) (μ : σ → Nat) (tv : σ → List (Nat × Value)) (hv : σ → AH) (s : σ) (i : Nat), loopQ3 m n I μ tv hv s Q (.exit i) t h = Q (.exit i) t h)))))) ∧ (((((∀ (m : Nat) (t : T) (h : AH) (Q : AExit → T → AH → Prop) {σ : Type} (n : Nat) (I : σ → Prop) (μ : σ → Nat) (tv : σ → List (Nat × Value)) (hv : σ → AH) (s : σ), loopQ3 m n I μ tv hv s Q .ret t h = Q .ret t h) ∧ ((∀ (n : Nat), mkT n [] = nones n) ∧ (∀ (n i : Nat) (v : Value) (l : List (Nat × Value)), mkT n ((i, v) :: l) = setT (mkT n l) i (some v)))) ∧ (((∀ (k k' : IntKind) (a b : Int), evMm true [.int k a, .int k' b] = some (.int k (max a b))) ∧ (∀ (k k' : IntKind) (a b : Int), evMm false [.int k a, .int k' b] = some (.int k (min a b)))) ∧ ((∀ (n : Nat), (n + 1 ≤ n) = False) ∧ (∀ (t : T) (i : Nat), evalO t (.tmp i) = getT t i)))) ∧ (((∀ (t : T) (v : Value), evalO t (.const v) = if plain v then some v else none) ∧ ((∀ (t : T) (f : FuncId), evalO t (.func f) = some (.func (.func f) #[] #[])) ∧ (∀ (t : T) (g : Nat), evalO t (.global g) = none))) ∧ (((∀ (x : Option Value) (l : T), getT (x :: l) 0 = x) ∧ (∀ (a x : Option Value) (l : T), getT (a :: x :: l) 1 = x)) ∧ ((∀ (a b x : Option Value) (l : T), getT (a :: b :: x :: l) 2 = x) ∧ (∀ (a b c x : Option Value) (l : T), getT (a :: b :: c :: x :: l) 3 = x))))) ∧ ((((∀ (a b c d a1 b1 c1 d1 a2 b2 c2 d2 a3 b3 c3 d3 : Option Value) (l : T) (n : Nat), getT (a :: b :: c :: d :: a1 :: b1 :: c1 :: d1 :: a2 :: b2 :: c2 :: d2 :: a3 :: b3 :: c3 :: d3 :: l) (n + 16) = getT l n) ∧ ((∀ (a b c d : Option Value) (l : T) (n : Nat), getT (a :: b :: c :: d :: l) (n + 4) = getT l n) ∧ (∀ (t : T) (d : Tmp) (v : Value), T.put t (some d) v = setT t d (some v)))) ∧ (((∀ (t : T) (v : Value), T.put t none v = t) ∧ (∀ (x v : Option Value) (l : T), setT (x :: l) 0 v = v :: l)) ∧ ((∀ (a x v : Option Value) (l : T), setT (a :: x :: l) 1 v = a :: v :: l) ∧ (∀ (a b x v : Option Value) (l : T), setT (a :: b :: x :: l) 2 v = a :: b :: v :: l)))) ∧ ((((∀ (a b c x v : Option Value) (l : T), setT (a :: b :: c :: x :: l) 3 v = a :: b :: c :: v :: l) ∧ (∀ (a b c d a1 b1 c1 d1 a2 b2 c2 d2 a3 b3 c3 d3 v : Option Value) (l : T) (n : Nat), setT (a :: b :: c :: d :: a1 :: b1 :: c1 :: d1 :: a2 :: b2 :: c2 :: d2 :: a3 :: b3 :: c3 :: d3 :: l) (n + 16) v = a :: b :: c :: d :: a1 :: b1 :: c1 :: d1 :: a2 :: b2 :: c2 :: d2 :: a3 :: b3 :: c3 :: d3 :: setT l n v)) ∧ ((∀ (a b c d v : Option Value) (l : T) (n : Nat), setT (a :: b :: c :: d :: l) (n + 4) v = a :: b :: c :: d :: setT l n v) ∧ (∀ (z : List Value), reps z 0 = []))) ∧ (((∀ (z : List Value) (n : Nat), reps z (n + 1) = z ++ reps z n) ∧ (∀ (vs : List Value) (o : Nat) (v : Value), splice vs o [v] = vs.set o v)) ∧ ((∀ {R : Type _} (a b bot : R), onB (some (.bool true)) a b bot = a) ∧ (∀ {R : Type _} (a b bot : R), onB (some (.bool false)) a b bot = b)))))))) :=
  ⟨⟨⟨⟨⟨⟨(by intros; first | (apply begin_eq; done) | (apply begin_eq <;> assumption) | rfl), ⟨(by intros; first | (apply nones_0; done) | (apply nones_0 <;> assumption) | rfl), (by intros; first | (apply nones_1; done) | (apply nones_1 <;> assumption) | rfl)⟩⟩, ⟨⟨(by intros; first | (apply nones_2; done) | (apply nones_2 <;> assumption) | rfl), (by intros; first | (apply nones_3; done) | (apply nones_3 <;> assumption) | rfl)⟩, ⟨(by intros; first | (apply nones_s4; done) | (apply nones_s4 <;> assumption) | rfl), (by intros; first | (apply openD_eq; done) | (apply openD_eq <;> assumption) | rfl)⟩⟩⟩, ⟨⟨(by intros; first | (apply holes_0; done) | (apply holes_0 <;> assumption) | rfl), ⟨(by intros; first | (apply holes_s; done) | (apply holes_s <;> assumption) | rfl), (by intros; first | (apply condK_true; done) | (apply condK_true <;> assumption) | rfl)⟩⟩, ⟨⟨(by intros; first | (apply condK_false; done) | (apply condK_false <;> assumption) | rfl), (by intros; first | (apply condK_bool; done) | (apply condK_bool <;> assumption) | rfl)⟩, ⟨(by intros; first | (apply goT_eq; done) | (apply goT_eq <;> assumption) | rfl), (by intros; first | (apply stepP_some; done) | (apply stepP_some <;> assumption) | rfl)⟩⟩⟩⟩, ⟨⟨⟨(by intros; first | (apply stepP_none; done) | (apply stepP_none <;> assumption) | rfl), ⟨(by intros; first | (apply stepP_ite; done) | (apply stepP_ite <;> assumption) | rfl), (by intros; first | (apply stepF_some; done) | (apply stepF_some <;> assumption) | rfl)⟩⟩, ⟨⟨(by intros; first | (apply stepF_none; done) | (apply stepF_none <;> assumption) | rfl), (by intros; first | (apply stepF_ite; done) | (apply stepF_ite <;> assumption) | rfl)⟩, ⟨(by intros; first | (apply stepL_some; done) | (apply stepL_some <;> assumption) | rfl), (by intros; first | (apply stepL_none; done) | (apply stepL_none <;> assumption) | rfl)⟩⟩⟩, ⟨⟨⟨(by intros; first | (apply stepL_ite; done) | (apply stepL_ite <;> assumption) | rfl), (by intros; first | (apply callK_eq; done) | (apply callK_eq <;> assumption) | rfl)⟩, ⟨(by intros; first | (apply stepC_some; done) | (apply stepC_some <;> assumption) | rfl), (by intros; first | (apply stepC_none; done) | (apply stepC_none <;> assumption) | rfl)⟩⟩, ⟨⟨(by intros; first | (apply step_0; done) | (apply step_0 <;> assumption) | rfl), (by intros; first | (apply step_1; done) | (apply step_1 <;> assumption) | rfl)⟩, ⟨(by intros; first | (apply step_2; done) | (apply step_2 <;> assumption) | rfl), (by intros; first | (apply step_3; done) | (apply step_3 <;> assumption) | rfl)⟩⟩⟩⟩⟩, ⟨⟨⟨⟨(by intros; first | (apply step_4; done) | (apply step_4 <;> assumption) | rfl), ⟨(by intros; first | (apply step_5; done) | (apply step_5 <;> assumption) | rfl), (by intros; first | (apply stepI_some; done) | (apply stepI_some <;> assumption) | rfl)⟩⟩, ⟨⟨(by intros; first | (apply stepI_none; done) | (apply stepI_none <;> assumption) | rfl), (by intros; first | (apply wantK_true; done) | (apply wantK_true <;> assumption) | rfl)⟩, ⟨(by intros; first | (apply wantK_false; done) | (apply wantK_false <;> assumption) | rfl), (by intros; first | (apply wantK_none; done) | (apply wantK_none <;> assumption) | rfl)⟩⟩⟩, ⟨⟨(by intros; first | (apply wantK_some; done) | (apply wantK_some <;> assumption) | rfl), ⟨(by intros; first | (apply goD_eq; done) | (apply goD_eq <;> assumption) | rfl), (by intros; first | (apply gateD_true; done) | (apply gateD_true <;> assumption) | rfl)⟩⟩, ⟨⟨(by intros; first | (apply gateD_false; done) | (apply gateD_false <;> assumption) | rfl), (by intros; first | (apply stepDP_some; done) | (apply stepDP_some <;> assumption) | rfl)⟩, ⟨(by intros; first | (apply stepDP_none; done) | (apply stepDP_none <;> assumption) | rfl), (by intros; first | (apply stepDP_ite; done) | (apply stepDP_ite <;> assumption) | rfl)⟩⟩⟩⟩, ⟨⟨⟨(by intros; first | (apply stepDR_some; done) | (apply stepDR_some <;> assumption) | rfl), ⟨(by intros; first | (apply stepDR_none; done) | (apply stepDR_none <;> assumption) | rfl), (by intros; first | (apply stepDR_ite; done) | (apply stepDR_ite <;> assumption) | rfl)⟩⟩, ⟨⟨(by intros; first | (apply stepDF_some; done) | (apply stepDF_some <;> assumption) | rfl), (by intros; first | (apply stepDF_none; done) | (apply stepDF_none <;> assumption) | rfl)⟩, ⟨(by intros; first | (apply stepDF_ite; done) | (apply stepDF_ite <;> assumption) | rfl), (by intros; first | (apply stepDL_some; done) | (apply stepDL_some <;> assumption) | rfl)⟩⟩⟩, ⟨⟨⟨(by intros; first | (apply stepDL_none; done) | (apply stepDL_none <;> assumption) | rfl), (by intros; first | (apply stepDL_ite; done) | (apply stepDL_ite <;> assumption) | rfl)⟩, ⟨(by intros; first | (apply callD_eq; done) | (apply callD_eq <;> assumption) | rfl), (by intros; first | (apply stepDC_some; done) | (apply stepDC_some <;> assumption) | rfl)⟩⟩, ⟨⟨(by intros; first | (apply stepDC_none; done) | (apply stepDC_none <;> assumption) | rfl), (by intros; first | (apply stepD_0; done) | (apply stepD_0 <;> assumption) | rfl)⟩, ⟨(by intros; first | (apply stepD_1; done) | (apply stepD_1 <;> assumption) | rfl), (by intros; first | (apply stepD_2; done) | (apply stepD_2 <;> assumption) | rfl)⟩⟩⟩⟩⟩⟩, ⟨⟨⟨⟨⟨(by intros; first | (apply stepD_3; done) | (apply stepD_3 <;> assumption) | rfl), ⟨(by intros; first | (apply stepD_4; done) | (apply stepD_4 <;> assumption) | rfl), (by intros; first | (apply wantD_true; done) | (apply wantD_true <;> assumption) | rfl)⟩⟩, ⟨⟨(by intros; first | (apply wantD_false; done) | (apply wantD_false <;> assumption) | rfl), (by intros; first | (apply wantD_none; done) | (apply wantD_none <;> assumption) | rfl)⟩, ⟨(by intros; first | (apply wantD_some; done) | (apply wantD_some <;> assumption) | rfl), (by intros; first | (apply rdF_eq; done) | (apply rdF_eq <;> assumption) | rfl)⟩⟩⟩, ⟨⟨(by intros; first | (apply sameO_some; done) | (apply sameO_some <;> assumption) | rfl), ⟨(by intros; first | (apply sameO_none; done) | (apply sameO_none <;> assumption) | rfl), (by intros; first | (apply askD_nil; done) | (apply askD_nil <;> assumption) | rfl)⟩⟩, ⟨⟨(by intros; first | (apply askD_none; done) | (apply askD_none <;> assumption) | rfl), (by intros; first | (apply askD_cons; done) | (apply askD_cons <;> assumption) | rfl)⟩, ⟨(by intros; first | (apply holesB_nil; done) | (apply holesB_nil <;> assumption) | rfl), (by intros; first | (apply holesB_cons; done) | (apply holesB_cons <;> assumption) | rfl)⟩⟩⟩⟩, ⟨⟨⟨(by intros; first | (apply finQ_normal; done) | (apply finQ_normal <;> assumption) | rfl), ⟨(by intros; first | (apply finQ_ret; done) | (apply finQ_ret <;> assumption) | rfl), (by intros; first | (apply finV_some; done) | (apply finV_some <;> assumption) | rfl)⟩⟩, ⟨⟨(by intros; first | (apply finV_none; done) | (apply finV_none <;> assumption) | rfl), (by intros; first | (apply oneOf_one; done) | (apply oneOf_one <;> assumption) | rfl)⟩, ⟨(by intros; first | (apply oneOf_nil; done) | (apply oneOf_nil <;> assumption) | rfl), (by intros; first | (apply oneOf_more; done) | (apply oneOf_more <;> assumption) | rfl)⟩⟩⟩, ⟨⟨⟨(by intros; first | (apply loopQ_normal; done) | (apply loopQ_normal <;> assumption) | rfl), (by intros; first | (apply loopQ_exit; done) | (apply loopQ_exit <;> assumption) | rfl)⟩, ⟨(by intros; first | (apply loopQ_ret; done) | (apply loopQ_ret <;> assumption) | rfl), (by intros; first | (apply loopQ2_normal; done) | (apply loopQ2_normal <;> assumption) | rfl)⟩⟩, ⟨⟨(by intros; first | (apply loopQ2_exit; done) | (apply loopQ2_exit <;> assumption) | rfl), (by intros; first | (apply loopQ2_ret; done) | (apply loopQ2_ret <;> assumption) | rfl)⟩, ⟨(by intros; first | (apply loopQ3_normal; done) | (apply loopQ3_normal <;> assumption) | rfl), (by intros; first | (apply loopQ3_exit; done) | (apply loopQ3_exit <;> assumption) | rfl)⟩⟩⟩⟩⟩, ⟨⟨⟨⟨(by intros; first | (apply loopQ3_ret; done) | (apply loopQ3_ret <;> assumption) | rfl), ⟨(by intros; first | (apply mkT_nil; done) | (apply mkT_nil <;> assumption) | rfl), (by intros; first | (apply mkT_cons; done) | (apply mkT_cons <;> assumption) | rfl)⟩⟩, ⟨⟨(by intros; first | (apply evMm_max; done) | (apply evMm_max <;> assumption) | rfl), (by intros; first | (apply evMm_min; done) | (apply evMm_min <;> assumption) | rfl)⟩, ⟨(by intros; first | (apply nsl; done) | (apply nsl <;> assumption) | rfl), (by intros; first | (apply evO_tmp; done) | (apply evO_tmp <;> assumption) | rfl)⟩⟩⟩, ⟨⟨(by intros; first | (apply evO_const; done) | (apply evO_const <;> assumption) | rfl), ⟨(by intros; first | (apply evO_func; done) | (apply evO_func <;> assumption) | rfl), (by intros; first | (apply evO_global; done) | (apply evO_global <;> assumption) | rfl)⟩⟩, ⟨⟨(by intros; first | (apply getT_0; done) | (apply getT_0 <;> assumption) | rfl), (by intros; first | (apply getT_1; done) | (apply getT_1 <;> assumption) | rfl)⟩, ⟨(by intros; first | (apply getT_2; done) | (apply getT_2 <;> assumption) | rfl), (by intros; first | (apply getT_3; done) | (apply getT_3 <;> assumption) | rfl)⟩⟩⟩⟩, ⟨⟨⟨(by intros; first | (apply getT_s16; done) | (apply getT_s16 <;> assumption) | rfl), ⟨(by intros; first | (apply getT_s4; done) | (apply getT_s4 <;> assumption) | rfl), (by intros; first | (apply put_some; done) | (apply put_some <;> assumption) | rfl)⟩⟩, ⟨⟨(by intros; first | (apply put_none; done) | (apply put_none <;> assumption) | rfl), (by intros; first | (apply setT_0; done) | (apply setT_0 <;> assumption) | rfl)⟩, ⟨(by intros; first | (apply setT_1; done) | (apply setT_1 <;> assumption) | rfl), (by intros; first | (apply setT_2; done) | (apply setT_2 <;> assumption) | rfl)⟩⟩⟩, ⟨⟨⟨(by intros; first | (apply setT_3; done) | (apply setT_3 <;> assumption) | rfl), (by intros; first | (apply setT_s16; done) | (apply setT_s16 <;> assumption) | rfl)⟩, ⟨(by intros; first | (apply setT_s4; done) | (apply setT_s4 <;> assumption) | rfl), (by intros; first | (apply reps_zero; done) | (apply reps_zero <;> assumption) | rfl)⟩⟩, ⟨⟨(by intros; first | (apply reps_succ; done) | (apply reps_succ <;> assumption) | rfl), (by intros; first | (apply splice_one; done) | (apply splice_one <;> assumption) | rfl)⟩, ⟨(by intros; first | (apply onB_true; done) | (apply onB_true <;> assumption) | rfl), (by intros; first | (apply onB_false; done) | (apply onB_false <;> assumption) | rfl)⟩⟩⟩⟩⟩⟩⟩

theorem GB : (((((∀ (x : Option Value) (l : T), getT (x :: l) 0 = x) ∧ (∀ (a x : Option Value) (l : T), getT (a :: x :: l) 1 = x)) ∧ ((∀ (a b x : Option Value) (l : T), getT (a :: b :: x :: l) 2 = x) ∧ (∀ (a b c x : Option Value) (l : T), getT (a :: b :: c :: x :: l) 3 = x))) ∧ (((∀ (a b c d a1 b1 c1 d1 a2 b2 c2 d2 a3 b3 c3 d3 : Option Value) (l : T) (n : Nat), getT (a :: b :: c :: d :: a1 :: b1 :: c1 :: d1 :: a2 :: b2 :: c2 :: d2 :: a3 :: b3 :: c3 :: d3 :: l) (n + 16) = getT l n) ∧ (∀ (a b c d : Option Value) (l : T) (n : Nat), getT (a :: b :: c :: d :: l) (n + 4) = getT l n)) ∧ ((∀ (n : Nat), mkT n [] = nones n) ∧ ((∀ (n i : Nat) (v : Value) (l : List (Nat × Value)), mkT n ((i, v) :: l) = setT (mkT n l) i (some v)) ∧ (∀ (x v : Option Value) (l : T), setT (x :: l) 0 v = v :: l))))) ∧ ((((∀ (a x v : Option Value) (l : T), setT (a :: x :: l) 1 v = a :: v :: l) ∧ (∀ (a b x v : Option Value) (l : T), setT (a :: b :: x :: l) 2 v = a :: b :: v :: l)) ∧ ((∀ (a b c x v : Option Value) (l : T), setT (a :: b :: c :: x :: l) 3 v = a :: b :: c :: v :: l) ∧ ((∀ (a b c d a1 b1 c1 d1 a2 b2 c2 d2 a3 b3 c3 d3 v : Option Value) (l : T) (n : Nat), setT (a :: b :: c :: d :: a1 :: b1 :: c1 :: d1 :: a2 :: b2 :: c2 :: d2 :: a3 :: b3 :: c3 :: d3 :: l) (n + 16) v = a :: b :: c :: d :: a1 :: b1 :: c1 :: d1 :: a2 :: b2 :: c2 :: d2 :: a3 :: b3 :: c3 :: d3 :: setT l n v) ∧ (∀ (a b c d v : Option Value) (l : T) (n : Nat), setT (a :: b :: c :: d :: l) (n + 4) v = a :: b :: c :: d :: setT l n v)))) ∧ (((nones 0 = []) ∧ (nones 1 = [none])) ∧ ((nones 2 = [none, none]) ∧ ((nones 3 = [none, none, none]) ∧ (∀ (n : Nat), nones (n + 4) = none :: none :: none :: none :: nones n)))))) :=
  ⟨⟨⟨⟨(by intros; first | (apply getT_0; done) | (apply getT_0 <;> assumption) | rfl), (by intros; first | (apply getT_1; done) | (apply getT_1 <;> assumption) | rfl)⟩, ⟨(by intros; first | (apply getT_2; done) | (apply getT_2 <;> assumption) | rfl), (by intros; first | (apply getT_3; done) | (apply getT_3 <;> assumption) | rfl)⟩⟩, ⟨⟨(by intros; first | (apply getT_s16; done) | (apply getT_s16 <;> assumption) | rfl), (by intros; first | (apply getT_s4; done) | (apply getT_s4 <;> assumption) | rfl)⟩, ⟨(by intros; first | (apply mkT_nil; done) | (apply mkT_nil <;> assumption) | rfl), ⟨(by intros; first | (apply mkT_cons; done) | (apply mkT_cons <;> assumption) | rfl), (by intros; first | (apply setT_0; done) | (apply setT_0 <;> assumption) | rfl)⟩⟩⟩⟩, ⟨⟨⟨(by intros; first | (apply setT_1; done) | (apply setT_1 <;> assumption) | rfl), (by intros; first | (apply setT_2; done) | (apply setT_2 <;> assumption) | rfl)⟩, ⟨(by intros; first | (apply setT_3; done) | (apply setT_3 <;> assumption) | rfl), ⟨(by intros; first | (apply setT_s16; done) | (apply setT_s16 <;> assumption) | rfl), (by intros; first | (apply setT_s4; done) | (apply setT_s4 <;> assumption) | rfl)⟩⟩⟩, ⟨⟨(by intros; first | (apply nones_0; done) | (apply nones_0 <;> assumption) | rfl), (by intros; first | (apply nones_1; done) | (apply nones_1 <;> assumption) | rfl)⟩, ⟨(by intros; first | (apply nones_2; done) | (apply nones_2 <;> assumption) | rfl), ⟨(by intros; first | (apply nones_3; done) | (apply nones_3 <;> assumption) | rfl), (by intros; first | (apply nones_s4; done) | (apply nones_s4 <;> assumption) | rfl)⟩⟩⟩⟩⟩

end Abs
end Go.Proofs.Ytongllppbifiaaa

/- Structures that are made. -/
namespace Go.Proofs.Ytongllppbifiaaa
namespace Abs
open Go
set_option linter.unusedVariables false
set_option linter.unusedSimpArgs false

/-- A structure was made, where nothing else was known. -/
theorem Sees.new {S : Type} {heaps : S → AH → Prop} {s : S} {h' : AH} {v : Value} {K : Value → AH → Prop} {i : Nat} {is : List Nat} (g : AH) (hg : heaps s g) (ho : own g) (ok : AOK g) (hc : ∃ vs e, g[0]? = some (.cells vs e none)) (hnd : (i :: is).Nodup) (hl : (i :: is).length = g.length) (hs : subL (nth (i :: is)) h' 0 g)
    (v2 : Value) (hv : v = ren (fun b => if b = 0 then i else b) v2) (hsc : scp (live [.adt (mkADT S heaps) s]) v2 = true) (hK : K v2 [.adt (mkADT S heaps) s]) : Sees 0 h' v K := by
  have hσ : Spec.σ [(ABlk.adt (mkADT S heaps) s, i :: is)] = fun b => if b = 0 then i else b := by
    funext b
    unfold Spec.σ
    cases b with
    | zero => rfl
    | succ b => simp
  refine Sees.mk [(.adt (mkADT S heaps) s, i :: is)] v2 (fun b k js hb => ?_) ⟨by simp, trivial⟩ ?_ hsc (by rw [hσ]; exact hv) (fun b hb => by omega) (fun b hb => by omega) (by simp) hK
  · match b with
    | 0 =>
      simp at hb
      obtain ⟨rfl, rfl⟩ := hb
      exact okBlk_close g hg ho ok hc (by rw [hσ]; rfl) hnd hl hs
    | n + 1 => simp at hb
  · exact AOK.of ⟨trivial, trivial⟩

theorem nth_range : ∀ (n a b : Nat), b < n → nth (List.range' a n) b = a + b
  | 0, a, b, h => by omega
  | n + 1, a, 0, h => by simp [List.range'_succ, nth]
  | n + 1, a, b + 1, h => by
    rw [List.range'_succ, nth_s, nth_range n (a + 1) b (by omega)]
    omega

/-- At a loop's head, where the first blocks are as they were, under their names. -/
theorem headId {m n : Nat} {tv : List (Nat × Value)} {g : AH} {t : T} {h : AH} (hp : ∀ (b : Nat) (k : ABlk), g[b]? = some k → h[b]? = some k) (ok : AOK g) (hl : ∀ b, b < m → live g b = true) (hm : m ≤ g.length) (hn : t.length = n) (ht : ∀ x ∈ tv, getT t x.1 = some x.2 ∧ scp (live g) x.2 = true) : atHeadV m n tv g t h := by
  have hlen : g.length = (List.range g.length).length := by simp
  have hσ : (pairUp g (List.range g.length)).σ = fun b => b := by
    rw [pairUp_σ hlen]
    funext b
    unfold nthD
    split
    · rename_i hb
      rw [List.range_eq_range', nth_range _ _ _ (by simpa using hb)]
      omega
    · rfl
  refine ⟨pairUp g (List.range g.length), (pairUp_map hlen).symm, fun b k is hb => ?_, pairUp_dis List.nodup_range, ok, fun b hb => ⟨by rw [hσ], hl b hb⟩, hm, hn, fun x hx => by rw [hσ, ren_id]; exact ht x hx⟩
  rw [pairUp_get hlen] at hb
  cases hx : g[b]? with
  | none => rw [hx] at hb; cases hb
  | some k' =>
    rw [hx] at hb
    injection hb with hb
    injection hb with q1 q2
    subst q1 q2
    have hbl := (List.getElem?_eq_some_iff.1 hx).1
    have e : nth (List.range g.length) b = b := by
      rw [List.range_eq_range', nth_range _ _ _ (by simpa using hbl)]
      omega
    rw [e]
    refine okBlk_keep (by rw [hσ]) ?_
    rw [hσ, renB_id]
    exact hp b k' hx

end Abs
end Go.Proofs.Ytongllppbifiaaa

/- Calls that read rows which came in: they may be handed any rows of a greater heap, and leave it as it is. -/
namespace Go.Proofs.Ytongllppbifiaaa
namespace Abs
open Go
set_option linter.unusedVariables false
set_option linter.unusedSimpArgs false

/-- An argument of the small call, as it stands in the great heap: rows of the small one lie within blocks of the great one. -/
def shV (bs os : Nat → Nat) : Value → Value
  | .slice (some ⟨j, o, sp⟩) n c => .slice (some ⟨bs j, os j + o, sp⟩) n c
  | v => v

section
variable {P : Program} {f : FuncId} {K : Value → AH → Prop}

theorem Holds.noNames {ρ ρ' : Ren} {cb : CB} {w : World} {k : ABlk} (hn : Abs.noNames k) (h : Holds ρ cb w k) : Holds ρ' cb w k :=
  h.congr (n := nil) (scp_noNames hn nil) (fun b hb => by cases hb)

theorem AC.reads {rows : List (List Value)} {H : AH} (bs os : Nat → Nat) (hp : ∀ (j : Nat) R, rows[j]? = some R → (∀ v ∈ R, plain v = true) ∧ (R = [] ∨ ∃ vs, rdRow H (bs j) = some vs ∧ ∀ (i : Nat) v, R[i]? = some v → vs[os j + i]? = some v))
    {args0 args : List Value} (he : args = args0.map (shV bs os)) (ha : ∀ v ∈ args0, plain v = true ∨ ∃ j o sp n c, v = .slice (some ⟨j, o, sp⟩) n c ∧ j < rows.length)
    (Post : Value → AH → Prop) (hc : AC P f args0 (rows.map .row) (fun v h' => ∃ E, h' = rows.map .row ++ E ∧ (∀ k ∈ E, noNames k ∧ k ≠ .hole ∧ ∀ cb, k.reach cb = k.foot cb) ∧ scp (fun b => decide (rows.length ≤ b ∧ b < rows.length + E.length)) v = true ∧ Post v E))
    (hK : ∀ v E, Post v E → K (ren (fun j => H.length + (j - rows.length)) v) (H ++ E)) : AC P f args H K := by
  refine ⟨hc.1, fun ρ w us r hs hargs => ?_⟩
  obtain ⟨ρs, hρs⟩ : ∃ ρs : Ren, ρs = fun j => ⟨(ρ (bs j)).blk, (ρ (bs j)).off + os j, (ρ (bs j)).slack, []⟩ := ⟨_, rfl⟩
  have hget : ∀ (b : Nat) (k : ABlk), ((rows.map .row : AH))[b]? = some k → ∃ R, rows[b]? = some R ∧ k = .row R := by
    intro b k hb
    rw [List.getElem?_map] at hb
    cases hx : rows[b]? with
    | none => rw [hx] at hb; cases hb
    | some R => rw [hx] at hb; injection hb with hb; exact ⟨R, rfl, hb.symm⟩
  have rs : Rel ρs (rows.map .row) w := by
    refine ⟨fun b k hb => ?_, fun b k hb => ?_, fun b c k l hb hc hne x hx => ?_⟩
    · obtain ⟨R, hR, rfl⟩ := hget b k hb
      obtain ⟨h1, h3⟩ := hp b R hR
      intro i v hv
      rcases h3 with rfl | ⟨vs, h3, h4⟩
      · simp at hv
      · have hv2 := h4 i v hv
        have := (rdRow_cell r h3 hv2).1
        have hpl := h1 v (List.mem_of_getElem? hv)
        rw [conc_zero ρ v hpl] at this
        rw [conc_zero ρs v hpl, ← this]
        subst hρs
        simp [Nat.add_assoc]
    · obtain ⟨R, hR, rfl⟩ := hget b k hb
      exact scp_noNames (k := .row R) (hp b R hR).1 _
    · obtain ⟨R, hR, rfl⟩ := hget b k hb
      simp [ABlk.foot] at hx
  have hlive : ∀ j, j < rows.length → live (rows.map .row : AH) j = true := by
    intro j hj
    refine live_of (k := .row rows[j]) ?_ (by simp)
    rw [List.getElem?_map, List.getElem?_eq_getElem hj]
    rfl
  have hsl : us.size = args0.length := by rw [hs, he]; simp
  refine ((hc.2 ρs w us rs hsl fun i v hv => ?_)).mono ?_
  · obtain ⟨u, hu, vr⟩ := hargs i (shV bs os v) (by rw [he, List.getElem?_map, hv]; rfl)
    refine ⟨u, hu, ?_⟩
    rcases ha v (List.mem_of_getElem? hv) with hpl | ⟨j, o, sp, n, c, rfl, hj⟩
    · have e : shV bs os v = v := by
        unfold shV
        split
        · rename_i j o sp n c
          simp [plain, scp, nil] at hpl
        · rfl
      rw [e] at vr
      have h1 := VR.plain (ρ := ρs) (n := live (rows.map .row)) hpl
      rw [vr.2, conc_zero ρ v hpl]
      exact h1
    · refine ⟨by simpa [scp] using hlive j hj, ?_⟩
      rw [vr.2]
      subst hρs
      simp only [shV, conc, cAddr, cCap]
      simp only [Nat.add_assoc]
  · rintro e w' ⟨v, u, h', ρ', he', vr, ⟨E, rfl, hE, hv, hpost⟩, r', nx, hle⟩
    have hkeep : ∀ x, x < w.heap.size → w'.heap[x]? = w.heap[x]? := fun x hx => nx.keep x hx fun b k hb => by
      obtain ⟨R, hR, rfl⟩ := hget b k hb
      simp [ABlk.foot]
    obtain ⟨n, hn⟩ : ∃ n, rows.length = n := ⟨_, rfl⟩
    rw [hn] at hv
    have hEn : ∀ (c : Nat) (k : ABlk), E[c]? = some k → (rows.map ABlk.row ++ E)[n + c]? = some k := by
      intro c k hc
      rw [List.getElem?_append_right (by simp; omega)]
      simp only [List.length_map, hn, Nat.add_sub_cancel_left]
      exact hc
    obtain ⟨ρ2, hρ2⟩ : ∃ ρ2 : Ren, ρ2 = fun c => if c < H.length then ρ c else ρ' (n + (c - H.length)) := ⟨_, rfl⟩
    have q1 : ∀ c, c < H.length → ρ2 c = ρ c := fun c hc => by subst hρ2; simp [hc]
    have q2 : ∀ c, ρ2 (H.length + c) = ρ' (n + c) := fun c => by subst hρ2; simp [show ¬ (H.length + c < H.length) by omega]
    have getE : ∀ (b : Nat) (k : ABlk), (H ++ E)[b]? = some k → (b < H.length ∧ H[b]? = some k) ∨ ∃ c, b = H.length + c ∧ E[c]? = some k := by
      intro b k hb
      by_cases hbl : b < H.length
      · rw [List.getElem?_append_left hbl] at hb
        exact .inl ⟨hbl, hb⟩
      · rw [List.getElem?_append_right (by omega)] at hb
        exact .inr ⟨b - H.length, by omega, hb⟩
    have newF : ∀ (c : Nat) (k : ABlk), E[c]? = some k → ∀ x, x ∈ k.foot (ρ' (n + c)) → w.heap.size ≤ x := fun c k hc x hx => by
      rcases nx.prov (n + c) k (hEn c k hc) x hx with h | ⟨b0, k0, h1, h2⟩
      · exact h
      · obtain ⟨R, hR, rfl⟩ := hget b0 k0 h1
        simp [ABlk.foot] at h2
    have hal : ∀ c, live H c = true → (ρ2 c).al = (ρ c).al := fun c hc => by rw [q1 c (live_lt hc)]
    have r2 : Rel ρ2 (H ++ E) w' := by
      refine ⟨fun b k hb => ?_, fun b k hb => ?_, fun b c k l hb hc hne x hx => ?_⟩
      · rcases getE b k hb with ⟨hbl, hb⟩ | ⟨c, rfl, hc⟩
        · rw [q1 b hbl]
          exact ((r.holds b k hb).keep (fun x hx => hkeep x (r.reach_lt hb x hx))).congr (r.scope b k hb) hal
        · rw [q2]
          exact (r'.holds _ k (hEn c k hc)).noNames (hE k (List.mem_of_getElem? hc)).1
      · rcases getE b k hb with ⟨hbl, hb⟩ | ⟨c, rfl, hc⟩
        · exact ABlk.scp_mono (fun b hb => live_push b hb) (r.scope b k hb)
        · exact scp_noNames (hE k (List.mem_of_getElem? hc)).1 _
      · rcases getE b k hb with ⟨hbl, hb2⟩ | ⟨b', rfl, hb2⟩
        · rw [q1 b hbl] at hx
          rcases getE c l hc with ⟨hcl, hc2⟩ | ⟨c', rfl, hc2⟩
          · rw [q1 c hcl]
            exact r.apart b c k l hb2 hc2 hne x hx
          · rw [q2]
            intro hx'
            rw [(hE l (List.mem_of_getElem? hc2)).2.2] at hx'
            have h1 := newF c' l hc2 x hx'
            have := r.reach_lt hb2 x (foot_reach hx)
            omega
        · rw [q2] at hx
          have hge := newF b' k hb2 x hx
          rcases getE c l hc with ⟨hcl, hc2⟩ | ⟨c', rfl, hc2⟩
          · rw [q1 c hcl]
            intro hx'
            have := r.reach_lt hc2 x hx'
            omega
          · rw [q2]
            exact r'.apart (n + b') (n + c') k l (hEn b' k hb2) (hEn c' l hc2) (by omega) x hx
    refine ⟨ren (fun j => H.length + (j - n)) v, u, H ++ E, ρ2, he', ⟨?_, ?_⟩, by rw [← hn]; exact hK v E hpost, r2, ⟨fun b hb => by rw [q1 b hb], fun b hb hl => live_push b hl, nx.os, nx.tape, nx.output, nx.size, fun x hx _ => hkeep x hx, fun b k hb x hx => ?_, fun b k hb x hx => ?_⟩, by simp⟩
    · refine scp_ren (L := fun b => decide (n ≤ b ∧ b < n + E.length)) (fun b hb => ?_) v hv
      simp only [decide_eq_true_eq] at hb
      obtain ⟨k, hk⟩ : ∃ k, E[b - n]? = some k := ⟨_, List.getElem?_eq_getElem (by omega)⟩
      refine live_of (k := k) ?_ (hE k (List.mem_of_getElem? hk)).2.1
      rw [List.getElem?_append_right (by omega), Nat.add_sub_cancel_left]
      exact hk
    · rw [vr.2, conc_ren]
      refine conc_congr (n := fun b => decide (n ≤ b ∧ b < n + E.length)) (fun b hb => ?_) v hv
      simp only [decide_eq_true_eq] at hb
      rw [q2, show n + (b - n) = b by omega]
    · rcases getE b k hb with ⟨hbl, hb⟩ | ⟨c, rfl, hc⟩
      · rw [q1 b hbl] at hx
        exact .inr ⟨b, k, hb, hx⟩
      · rw [q2] at hx
        exact .inl (newF c k hc x hx)
    · rcases getE b k hb with ⟨hbl, hb⟩ | ⟨c, rfl, hc⟩
      · rw [q1 b hbl] at hx
        exact .inr ⟨b, k, hb, hx⟩
      · rw [q2, (hE k (List.mem_of_getElem? hc)).2.2] at hx
        exact .inl (newF c k hc x hx)

/-- Where n elements, their cells R, lie in the heap. -/
def RowAt (H : AH) (A : Option Addr) (n : Nat) (R : List Value) : Prop := (n = 0 ∧ R = [] ∧ A = none) ∨ ∃ b o sp, A = some ⟨b, o, sp⟩ ∧ ((n = 0 ∧ R = []) ∨ (sp = none ∧ ∃ vs, rdRow H b = some vs ∧ ∀ (i : Nat) v, R[i]? = some v → vs[o + i]? = some v))

/-- How a row stands where nothing else is known. -/
def RowOne (n : Nat) (A : Option Addr) : Prop := (n = 0 ∧ (A = none ∨ ∃ sp, A = some ⟨0, 0, sp⟩)) ∨ A = some ⟨0, 0, none⟩

/-- A call that reads one row, and hands back what bears no names. -/
theorem AC.rowG {pre rest : List Value} {n cap : Nat} {R : List Value} {r : Value} (hR : ∀ v ∈ R, plain v = true) (hpre : ∀ v ∈ pre, plain v = true) (hrest : ∀ v ∈ rest, plain v = true) (hr : plain r = true)
    (hc : ∀ A, RowOne n A → AC P f (pre ++ .slice A n cap :: rest) [.row R] (fun v h' => v = r ∧ h' = [.row R])) {H : AH} {A : Option Addr} (hA : RowAt H A n R) (hK : K r H) : AC P f (pre ++ .slice A n cap :: rest) H K := by
  have shp : ∀ bs os v, plain v = true → shV bs os v = v := by
    intro bs os v hv
    unfold shV
    split
    · simp [plain, scp, nil] at hv
    · rfl
  have mapp : ∀ bs os (l : List Value), (∀ v ∈ l, plain v = true) → l.map (shV bs os) = l := fun bs os l hl => by
    conv => rhs; rw [← List.map_id l]
    exact List.map_congr_left fun v hv => shp bs os v (hl v hv)
  have fin : ∀ (bs os : Nat → Nat) (A0 : Option Addr), RowOne n A0 → (∀ (j : Nat) R', ([R] : List (List Value))[j]? = some R' → (∀ v ∈ R', plain v = true) ∧ (R' = [] ∨ ∃ vs, rdRow H (bs j) = some vs ∧ ∀ (i : Nat) v, R'[i]? = some v → vs[os j + i]? = some v)) → shV bs os (.slice A0 n cap) = .slice A n cap → AC P f (pre ++ .slice A n cap :: rest) H K := by
    intro bs os A0 h1 h2 h3
    refine AC.reads (rows := [R]) bs os h2 (args0 := pre ++ .slice A0 n cap :: rest) (by rw [List.map_append, List.map_cons, mapp _ _ _ hpre, mapp _ _ _ hrest, h3]) ?_ (fun v E => v = r ∧ E = []) ((hc A0 h1).mono ?_) ?_
    · intro v hv
      rcases List.mem_append.1 hv with hv | hv
      · exact .inl (hpre v hv)
      · rcases List.mem_cons.1 hv with rfl | hv
        · rcases h1 with ⟨_, rfl | ⟨sp, rfl⟩⟩ | rfl
          · exact .inl rfl
          · exact .inr ⟨0, 0, sp, n, cap, rfl, by simp⟩
          · exact .inr ⟨0, 0, none, n, cap, rfl, by simp⟩
        · exact .inl (hrest v hv)
    · rintro v h' ⟨rfl, rfl⟩
      exact ⟨[], rfl, by simp, scp_mono (fun b hb => by cases hb) _ hr, rfl, rfl⟩
    · rintro v E ⟨rfl, rfl⟩
      rw [ren_plain _ _ hr, List.append_nil]
      exact hK
  rcases hA with ⟨rfl, rfl, rfl⟩ | ⟨b, o, sp, rfl, h⟩
  · refine fin (fun _ => 0) (fun _ => 0) none (.inl ⟨rfl, .inl rfl⟩) (fun j R' hj => ?_) rfl
    match j with
    | 0 => injection hj with hj; subst hj; exact ⟨by simp, .inl rfl⟩
    | j + 1 => simp at hj
  · refine fin (fun _ => b) (fun _ => o) (some ⟨0, 0, sp⟩) ?_ (fun j R' hj => ?_) rfl
    · rcases h with ⟨rfl, _⟩ | ⟨rfl, _⟩
      · exact .inl ⟨rfl, .inr ⟨sp, rfl⟩⟩
      · exact .inr rfl
    · match j with
      | 0 =>
        injection hj with hj
        subst hj
        refine ⟨hR, ?_⟩
        rcases h with ⟨_, rfl⟩ | ⟨_, vs, h1, h2⟩
        · exact .inl rfl
        · exact .inr ⟨vs, h1, h2⟩
      | j + 1 => simp at hj

/-- A call that reads one row, and hands back new blocks. -/
theorem AC.rowGE {pre rest : List Value} {n cap : Nat} {R : List Value} (Post : Value → AH → Prop) (hR : ∀ v ∈ R, plain v = true) (hpre : ∀ v ∈ pre, plain v = true) (hrest : ∀ v ∈ rest, plain v = true)
    (hc : ∀ A, RowOne n A → AC P f (pre ++ .slice A n cap :: rest) [.row R] (fun v h' => ∃ E, h' = .row R :: E ∧ (∀ k ∈ E, noNames k ∧ k ≠ .hole ∧ ∀ cb, k.reach cb = k.foot cb) ∧ scp (fun b => decide (1 ≤ b ∧ b < 1 + E.length)) v = true ∧ Post v E)) {H : AH} {A : Option Addr} (hA : RowAt H A n R) (hK : ∀ v E, Post v E → K (ren (fun j => H.length + (j - 1)) v) (H ++ E)) : AC P f (pre ++ .slice A n cap :: rest) H K := by
  have shp : ∀ bs os v, plain v = true → shV bs os v = v := by
    intro bs os v hv
    unfold shV
    split
    · simp [plain, scp, nil] at hv
    · rfl
  have mapp : ∀ bs os (l : List Value), (∀ v ∈ l, plain v = true) → l.map (shV bs os) = l := fun bs os l hl => by
    conv => rhs; rw [← List.map_id l]
    exact List.map_congr_left fun v hv => shp bs os v (hl v hv)
  have fin : ∀ (bs os : Nat → Nat) (A0 : Option Addr), RowOne n A0 → (∀ (j : Nat) R', ([R] : List (List Value))[j]? = some R' → (∀ v ∈ R', plain v = true) ∧ (R' = [] ∨ ∃ vs, rdRow H (bs j) = some vs ∧ ∀ (i : Nat) v, R'[i]? = some v → vs[os j + i]? = some v)) → shV bs os (.slice A0 n cap) = .slice A n cap → AC P f (pre ++ .slice A n cap :: rest) H K := by
    intro bs os A0 h1 h2 h3
    refine AC.reads (rows := [R]) bs os h2 (args0 := pre ++ .slice A0 n cap :: rest) (by rw [List.map_append, List.map_cons, mapp _ _ _ hpre, mapp _ _ _ hrest, h3]) ?_ Post ((hc A0 h1).mono ?_) ?_
    · intro v hv
      rcases List.mem_append.1 hv with hv | hv
      · exact .inl (hpre v hv)
      · rcases List.mem_cons.1 hv with rfl | hv
        · rcases h1 with ⟨_, rfl | ⟨sp, rfl⟩⟩ | rfl
          · exact .inl rfl
          · exact .inr ⟨0, 0, sp, n, cap, rfl, by simp⟩
          · exact .inr ⟨0, 0, none, n, cap, rfl, by simp⟩
        · exact .inl (hrest v hv)
    · rintro v h' ⟨E, rfl, hE, hv, hp⟩
      exact ⟨E, rfl, hE, hv, hp⟩
    · exact hK
  rcases hA with ⟨rfl, rfl, rfl⟩ | ⟨b, o, sp, rfl, h⟩
  · refine fin (fun _ => 0) (fun _ => 0) none (.inl ⟨rfl, .inl rfl⟩) (fun j R' hj => ?_) rfl
    match j with
    | 0 => injection hj with hj; subst hj; exact ⟨by simp, .inl rfl⟩
    | j + 1 => simp at hj
  · refine fin (fun _ => b) (fun _ => o) (some ⟨0, 0, sp⟩) ?_ (fun j R' hj => ?_) rfl
    · rcases h with ⟨rfl, _⟩ | ⟨rfl, _⟩
      · exact .inl ⟨rfl, .inr ⟨sp, rfl⟩⟩
      · exact .inr rfl
    · match j with
      | 0 =>
        injection hj with hj
        subst hj
        refine ⟨hR, ?_⟩
        rcases h with ⟨_, rfl⟩ | ⟨_, vs, h1, h2⟩
        · exact .inl rfl
        · exact .inr ⟨vs, h1, h2⟩
      | j + 1 => simp at hj
end

end Abs
end Go.Proofs.Ytongllppbifiaaa

/- Structures whose blocks stay where they are. -/
namespace Go.Proofs.Ytongllppbifiaaa
namespace Abs
open Go
set_option linter.unusedVariables false
set_option linter.unusedSimpArgs false

mutual
theorem ren_scope {L : Nat → Bool} {σ : Nat → Nat} (h : ∀ b, L b = true → σ b = b) : ∀ v, scp L v = true → ren σ v = v
  | .pointer (some a), hs => by simp only [scp] at hs; simp only [ren, renA, h _ hs]
  | .slice (some a) _ _, hs => by simp only [scp] at hs; simp only [ren, renA, h _ hs]
  | .map (some r), hs => by simp only [scp] at hs; simp only [ren, h _ hs]
  | .chan (some r), hs => by simp only [scp] at hs; simp only [ren, h _ hs]
  | .func fn first captured, hs => by
    simp only [scp, Bool.and_eq_true] at hs
    simp only [ren, renAr_scope h first hs.1, renAr_scope h captured hs.2]
  | .iface t v, hs => by simp only [scp] at hs; simp only [ren, ren_scope h v hs]
  | .agg cs, hs => by simp only [scp] at hs; simp only [ren, renAr_scope h cs hs]
  | .tuple cs, hs => by simp only [scp] at hs; simp only [ren, renAr_scope h cs hs]
  | .pointer none, _ => by simp only [ren]
  | .slice none _ _, _ => by simp only [ren]
  | .map none, _ => by simp only [ren]
  | .chan none, _ => by simp only [ren]
  | .bool b, _ => by simp only [ren]
  | .int k n, _ => by simp only [ren]
  | .float k n, _ => by simp only [ren]
  | .complex k a b, _ => by simp only [ren]
  | .string s, _ => by simp only [ren]
  | .nilFunc, _ => by simp only [ren]
  | .nilIface, _ => by simp only [ren]
theorem renAr_scope {L : Nat → Bool} {σ : Nat → Nat} (h : ∀ b, L b = true → σ b = b) : ∀ v, scpA L v = true → renAr σ v = v
  | ⟨l⟩, hs => by simp only [scpA] at hs; simp only [renAr, renL_scope h l hs]
theorem renL_scope {L : Nat → Bool} {σ : Nat → Nat} (h : ∀ b, L b = true → σ b = b) : ∀ v, scpL L v = true → renL σ v = v
  | [], _ => by simp only [renL]
  | v :: l, hs => by
    simp only [scpL, Bool.and_eq_true] at hs
    simp only [renL, ren_scope h v hs.1, renL_scope h l hs.2]
end

theorem renB_scope {L : Nat → Bool} {σ : Nat → Nat} (h : ∀ b, L b = true → σ b = b) {k : ABlk} (hk : k.scp L) : renB σ k = k := by
  have e : ∀ l : List Value, (∀ v ∈ l, scp L v = true) → l.map (ren σ) = l := fun l hl => by
    conv => rhs; rw [← List.map_id l]
    exact List.map_congr_left fun v hv => ren_scope h v (hl v hv)
  cases k with
  | cells vs e' o => simp only [renB, e vs hk]
  | row vs => simp only [renB, e vs hk]
  | glob g vs => simp only [renB, e vs hk]
  | map es c =>
    simp only [renB]
    congr 1
    conv => rhs; rw [← List.map_id es]
    exact List.map_congr_left fun x hx => by simp [ren_scope h _ (hk x hx).1, ren_scope h _ (hk x hx).2]
  | _ => rfl

theorem subL_of {ι : Nat → Nat} {h : AH} : ∀ {g : AH} {j0 : Nat}, (∀ (j : Nat) (k : ABlk), g[j]? = some k → h[ι (j0 + j)]? = some (renB ι k)) → subL ι h j0 g
  | [], _, _ => trivial
  | k :: g, j0, H => ⟨H 0 k rfl, subL_of (g := g) (j0 := j0 + 1) fun j k' hj => by
    have := H (j + 1) k' (by simpa using hj)
    rwa [show j0 + (j + 1) = j0 + 1 + j by omega] at this⟩

theorem nthR {n b : Nat} (h : b < n) : nth (List.range n) b = b := by
  rw [List.range_eq_range', nth_range _ _ _ h]
  omega

theorem subL_same {g h : AH} (ok : AOK g) (hp : ∀ (b : Nat) (k : ABlk), g[b]? = some k → h[b]? = some k) : subL (nth (List.range g.length)) h 0 g := by
  refine subL_of fun j k hj => ?_
  have hjl := (List.getElem?_eq_some_iff.1 hj).1
  rw [Nat.zero_add, nthR hjl, renB_scope (L := live g) (fun b hb => nthR (live_lt hb)) (ok j k hj)]
  exact hp j k hj

/-- A method is over, and the structure's blocks are the first ones, under their names. -/
theorem Sees.pre {S : Type} {heaps : S → AH → Prop} {s : S} {h' : AH} {v : Value} {K : Value → AH → Prop} (g : AH) (hg : heaps s g) (ho : own g) (ok : AOK g) (hc : ∃ vs e, g[0]? = some (.cells vs e none)) (hp : ∀ (b : Nat) (k : ABlk), g[b]? = some k → h'[b]? = some k) (hv : plain v = true) (hK : K v [.adt (mkADT S heaps) s]) : Sees 1 h' v K := by
  have hpos : 0 < g.length := by
    obtain ⟨vs, e, hc⟩ := hc
    exact (List.getElem?_eq_some_iff.1 hc).1
  exact Sees.m0 (is := List.range g.length) g hg ho ok hc (nthR hpos) List.nodup_range (by simp) (subL_same ok hp) hv hK

end Abs
end Go.Proofs.Ytongllppbifiaaa

/- Going over a map. -/
namespace Go.Proofs.Ytongllppbifiaaa
namespace Abs
open Go
set_option linter.unusedVariables false
set_option linter.unusedSimpArgs false

/-- A map that is gone over: its entries, its clock, which ones were had. -/
structure MIS where
  es : List MapEntry
  clock : Nat
  seen : List Nat

def goodM (es : List MapEntry) (clock : Nat) : Prop := (∀ e ∈ es, plain e.key = true ∧ plain e.val = true ∧ e.born < clock) ∧ (es.map (·.born)).Nodup

def MI : ADT where
  S := MIS
  rep s p F w := goodM s.es s.clock ∧ ∃ m, p ≠ m ∧ (∀ x, x ∈ F ↔ x = p ∨ x = m) ∧ w.heap[p]? = some (.mapIter (some m) s.clock s.seen.toArray s.clock) ∧ w.heap[m]? = some (.map s.es.toArray s.clock)
  lt := by
    rintro s p F w ⟨_, m, _, hF, h1, h2⟩ x hx
    rcases (hF x).1 hx with rfl | rfl
    · exact (Array.getElem?_eq_some_iff.1 h1).1
    · exact (Array.getElem?_eq_some_iff.1 h2).1
  keep := by
    rintro s p F w w' ⟨hg, m, hne, hF, h1, h2⟩ hk
    exact ⟨hg, m, hne, hF, by rw [hk p ((hF p).2 (.inl rfl))]; exact h1, by rw [hk m ((hF m).2 (.inr rfl))]; exact h2⟩

abbrev miB (s : MIS) : ABlk := .adt MI s

/-- Those that were not had yet. -/
def MIS.left (s : MIS) : List MapEntry := s.es.filter fun e => !s.seen.contains e.born

theorem conc_entries {ρ : Ren} {es : List MapEntry} (h : ∀ e ∈ es, plain e.key = true ∧ plain e.val = true) : es.map (concEntry ρ) = es := by
  conv => rhs; rw [← List.map_id es]
  refine List.map_congr_left fun e he => ?_
  obtain ⟨h1, h2⟩ := h e he
  have e1 : conc ρ e.key = e.key := (VR.plain (ρ := ρ) (n := nil) h1).2.symm
  have e2 : conc ρ e.val = e.val := (VR.plain (ρ := ρ) (n := nil) h2).2.symm
  unfold concEntry
  rw [e1, e2]
  rfl

variable {P : Program} {h : AH} {K : Value → AH → Prop}

theorem rangeK {b : Nat} {es : List MapEntry} {clock : Nat} (hb : h[b]? = some (.map es clock)) (hg : goodM es clock) (hK : K (.pointer (some ⟨h.length, 0, none⟩)) (h.set b .dead ++ [miB ⟨es, clock, []⟩])) : IC P 1000000000 [.map (some b)] h K := by
  intro ρ w v0 s ha hi r hs
  injection ha with ha _
  subst ha
  obtain ⟨_, ty, k, e, hu, rfl⟩ : (1000000000 : Nat) = 1000000000 ∧ ∃ ty k e, P.underlying ty = some (.map k e) ∧ s = Instr.range ty (conc ρ (.map (some b))) := by
    rcases hi with h | ⟨h, _⟩ | ⟨h, _⟩
    · exact h
    · exact absurd h (by decide)
    · exact absurd h (by decide)
  have hheap : w.heap[(ρ b).blk]? = some (.map es.toArray clock) := by
    have : w.heap[(ρ b).blk]? = some (.map (es.map (concEntry ρ)).toArray clock) := r.holds b _ hb
    rwa [conc_entries (fun e he => ⟨(hg.1 e he).1, (hg.1 e he).2.1⟩)] at this
  have hblt : (ρ b).blk < w.heap.size := (Array.getElem?_eq_some_iff.1 hheap).1
  have hrun : (Instr.range ty (conc ρ (.map (some b)))).run P w = .ok (.pointer (some ⟨w.heap.size, 0, none⟩)) (w.alloc (.mapIter (some (ρ b).blk) clock #[] clock)) := by
    simp [Instr.range, conc, run_underlying hu, run_getObj_map hheap, Result.andThen]
  have hl : (h.set b ABlk.dead).length = h.length := by simp
  let cb : CB := ⟨w.heap.size, 0, 0, [w.heap.size, (ρ b).blk]⟩
  have hole := (r.kill b).hole
  have hn : (h.set b ABlk.dead ++ [ABlk.hole])[h.length]? = some .hole := by
    rw [List.getElem?_append_right (by simp)]
    simp
  have heap : ∀ x, x < w.heap.size → (w.alloc (.mapIter (some (ρ b).blk) clock #[] clock)).heap[x]? = w.heap[x]? := fun x hx => alloc_old w _ hx
  have back : ∀ (c : Nat) (l : ABlk), (h.set b ABlk.dead ++ [ABlk.hole])[c]? = some l → l = .hole ∨ l = .dead ∨ (c ≠ b ∧ h[c]? = some l) := by
    intro c l hc
    by_cases hlt : c < h.length
    · rw [List.getElem?_append_left (by simpa using hlt)] at hc
      rcases get_set hc with ⟨_, rfl⟩ | h2
      · exact .inr (.inl rfl)
      · exact .inr (.inr h2)
    · rw [List.getElem?_append_right (by simp; omega)] at hc
      have := List.mem_of_getElem? hc
      simp at this
      exact .inl this
  have hpush : h.set b .dead ++ [miB ⟨es, clock, []⟩] = (h.set b .dead ++ [ABlk.hole]).set h.length (miB ⟨es, clock, []⟩) := by
    have := push_eq (h.set b .dead) (miB ⟨es, clock, []⟩)
    rwa [hl] at this
  have notb : ∀ (c : Nat) (l : ABlk), c ≠ b → h[c]? = some l → ∀ x, x ∈ l.reach (ρ c) → x ≠ (ρ b).blk := by
    rintro c l hne hc x hx rfl
    exact r.apart b c _ l hb hc (fun e => hne e.symm) (ρ b).blk (by simp [ABlk.foot]) hx
  have notb2 : ∀ (c : Nat) (l : ABlk), c ≠ b → h[c]? = some l → ∀ x, x ∈ l.foot (ρ c) → x ≠ (ρ b).blk := fun c l hne hc x hx => notb c l hne hc x (foot_reach hx)
  have hrel : Rel (upd ρ h.length cb) (h.set b .dead ++ [miB ⟨es, clock, []⟩]) (w.alloc (.mapIter (some (ρ b).blk) clock #[] clock)) := by
    rw [hpush]
    refine hole.fill hn (by simp) trivial ?_ ?_ ?_ ?_
    · refine ⟨rfl, rfl, hg, (ρ b).blk, by show w.heap.size ≠ _; omega, fun x => by simp [cb], ?_, ?_⟩
      · exact alloc_new w _
      · show (w.alloc _).heap[(ρ b).blk]? = _
        rw [heap _ hblt]
        exact hheap
    · exact fun c l hc x hx => heap x (hole.reach_lt hc x hx)
    · intro c l hc x hx hx'
      have hlt := hole.reach_lt hc x (foot_reach hx)
      have hx2 : x = w.heap.size ∨ x = (ρ b).blk := by simpa [ABlk.reach, cb] using hx'
      rcases hx2 with rfl | rfl
      · omega
      · rcases back c l hc with rfl | rfl | ⟨hne, hc⟩
        · cases hx
        · cases hx
        · exact notb2 c l hne hc _ hx rfl
    · intro c l hc x hx hx'
      have hlt := hole.reach_lt hc x hx
      have hx2 : x = w.heap.size ∨ x = (ρ b).blk := by simpa [ABlk.foot, cb] using hx'
      rcases hx2 with rfl | rfl
      · omega
      · rcases back c l hc with rfl | rfl | ⟨hne, hc⟩
        · cases hx
        · cases hx
        · exact notb c l hne hc _ hx rfl
  have back2 : ∀ (c : Nat) (l : ABlk), (h.set b .dead ++ [miB ⟨es, clock, []⟩])[c]? = some l → (c = h.length ∧ l = miB ⟨es, clock, []⟩) ∨ (c ≠ h.length ∧ (l = .dead ∨ h[c]? = some l)) := by
    intro c l hc
    rw [hpush] at hc
    rcases get_set hc with h1 | ⟨h1, h2⟩
    · exact .inl h1
    · right
      refine ⟨h1, ?_⟩
      have hlt := (List.getElem?_eq_some_iff.1 h2).1
      simp at hlt
      have hcl : c < h.length := by omega
      rw [List.getElem?_append_left (by simpa using hcl)] at h2
      rcases get_set h2 with ⟨_, rfl⟩ | ⟨_, h3⟩
      · exact .inl rfl
      · exact .inr h3
  refine ⟨_, _, .pointer (some ⟨h.length, 0, none⟩), _, upd ρ h.length cb, hrun, ⟨?_, by simp [conc, cAddr, upd_self, cb]⟩, hK, hrel, ?_, by simp⟩
  · refine live_of (k := miB ⟨es, clock, []⟩) ?_ (by simp)
    rw [List.getElem?_append_right (by simp)]
    simp
  · refine ⟨fun c hc => upd_al c (by omega), fun c hc hlv => live_push c (live_set (by simp) c hlv), rfl, rfl, rfl, by simp, fun x hx _ => heap x hx, ?_, ?_⟩
    · intro c l hc x hx
      rcases back2 c l hc with ⟨rfl, rfl⟩ | ⟨hne, rfl | h3⟩
      · rw [upd_self] at hx
        have hx2 : x = w.heap.size ∨ x = (ρ b).blk := by simpa [ABlk.foot, cb] using hx
        rcases hx2 with rfl | rfl
        · exact .inl (Nat.le_refl _)
        · exact .inr ⟨b, _, hb, by simp [ABlk.foot]⟩
      · cases hx
      · rw [upd_ne _ hne] at hx
        exact .inr ⟨c, l, h3, hx⟩
    · intro c l hc x hx
      rcases back2 c l hc with ⟨rfl, rfl⟩ | ⟨hne, rfl | h3⟩
      · rw [upd_self] at hx
        have hx2 : x = w.heap.size ∨ x = (ρ b).blk := by simpa [ABlk.reach, cb] using hx
        rcases hx2 with rfl | rfl
        · exact .inl (Nat.le_refl _)
        · exact .inr ⟨b, _, hb, by simp [ABlk.reach]⟩
      · cases hx
      · rw [upd_ne _ hne] at hx
        exact .inr ⟨c, l, h3, hx⟩

theorem choose_run (n : Nat) (w : World) : ∃ (i d : Nat), (n ≠ 0 → i < n) ∧ (choose (.mapNext n)).run P w = .ok i { w with drawn := d } := by
  by_cases hf : (Question.mapNext n).forced = true
  · refine ⟨0, w.drawn, fun h => by omega, ?_⟩
    simp [choose, Sem.run, hf]
  · refine ⟨(Question.mapNext n).cut (w.tape w.drawn (.mapNext n)), w.drawn + 1, fun h => Nat.mod_lt _ (by omega), ?_⟩
    simp [choose, Sem.run, hf]

theorem nextK {b : Nat} {s : MIS} (hb : h[b]? = some (miB s)) (h1 : ∀ e ∈ s.left, K (.tuple #[.bool true, e.key, e.val]) (h.set b (miB { s with seen := s.seen ++ [e.born] }))) (h2 : s.left = [] → K (.tuple #[.bool false]) h) : IC P 1000000001 [.pointer (some ⟨b, 0, none⟩)] h K := by
  intro ρ w v0 sm ha hi r hs
  injection ha with ha _
  subst ha
  obtain ⟨ty, rfl⟩ : ∃ ty, sm = Instr.next (conc ρ (.pointer (some ⟨b, 0, none⟩))) false ty := by
    rcases hi with ⟨h, _⟩ | ⟨_, h⟩ | ⟨h, _⟩
    · exact absurd h (by decide)
    · exact h
    · exact absurd h (by decide)
  obtain ⟨c0, c1, hg, m, hpm, hF, hp, hm⟩ := r.holds b _ hb
  have hc : conc ρ (.pointer (some ⟨b, 0, none⟩)) = .pointer (some ⟨(ρ b).blk, 0, none⟩) := by simp [conc, cAddr, c0]
  rw [hc]
  have hgp : (getObj (ρ b).blk).run P w = .ok (.mapIter (some m) s.clock s.seen.toArray s.clock) w := by simp [getObj, Sem.run, hp]
  have hgm : (getObj m).run P w = .ok (.map s.es.toArray s.clock) w := run_getObj_map hm
  have hall : ∀ e ∈ s.es, e.born < s.clock := fun e he => (hg.1 e he).2.2
  have hnone : (!s.seen.toArray.isEmpty && !s.es.toArray.isEmpty && s.es.toArray.all (fun e => decide (e.born ≥ s.clock))) = false := by
    cases hes : s.es with
    | nil => simp
    | cons e es =>
      have hlt := hall e (by rw [hes]; exact List.mem_cons_self)
      simp
      intro _ hle
      exact absurd hlt (by omega)
  have hleft : s.es.toArray.filter (fun e => !s.seen.toArray.contains e.born) = s.left.toArray := by simp [MIS.left]
  have hlm : ∀ e ∈ s.left, e ∈ s.es := fun e he => (List.mem_filter.1 he).1
  have hold : s.left.toArray.filter (fun e => decide (e.born < s.clock)) = s.left.toArray := by
    simp only [List.filter_toArray]
    congr 1
    rw [List.filter_eq_self]
    intro e he
    simpa using hall e (hlm e he)
  have hnew : s.left.toArray.filter (fun e => decide (e.born ≥ s.clock)) = #[] := by
    simp only [List.filter_toArray]
    congr 1
    rw [List.filter_eq_nil_iff]
    intro e he
    have := hall e (hlm e he)
    simp
    omega
  by_cases hl : s.left = []
  · obtain ⟨i, d, hi, hch⟩ := choose_run (P := P) 1 w
    have hi0 : i = 0 := by have := hi (by decide); omega
    subst hi0
    have hC : ((if (#[] : Array MapEntry).isEmpty = true then #[none] else #[]) ++ Array.map some (#[] ++ #[]) : Array (Option MapEntry)) = #[none] := by simp
    have hrun : (Instr.next (.pointer (some ⟨(ρ b).blk, 0, none⟩)) false ty).run P w = .ok (.tuple #[.bool false]) { w with drawn := d } := by
      unfold Instr.next
      simp only [Sem.run_bind, hgp, Result.andThen_ok, hgm, hnone, hleft, hold, hnew]
      simp only [hl]
      rw [if_neg (by decide), hC]
      simp only [Sem.run_bind, List.size_toArray, List.length_cons, List.length_nil, Nat.zero_add, hch, Result.andThen_ok]
      rfl
    refine ⟨_, _, .tuple #[.bool false], h, ρ, hrun, VR.plain rfl, h2 hl, r.heap rfl, (Next.refl _ _ _ _).drew rfl rfl rfl rfl, Nat.le_refl _⟩
  · obtain ⟨i, d, hi, hch⟩ := choose_run (P := P) s.left.length w
    have hne : s.left.length ≠ 0 := fun e => hl (List.length_eq_zero_iff.1 e)
    have hilt := hi hne
    obtain ⟨e, he⟩ : ∃ e, s.left[i]? = some e := ⟨_, List.getElem?_eq_getElem hilt⟩
    have hmem := List.mem_of_getElem? he
    have hemp : s.left.toArray.isEmpty = false := by
      cases hx : s.left with
      | nil => exact absurd hx hl
      | cons a l => rfl
    have hC : ((if s.left.toArray.isEmpty = true then #[none] else #[]) ++ Array.map some (s.left.toArray ++ #[]) : Array (Option MapEntry)) = (s.left.map some).toArray := by
      rw [hemp]
      simp
    obtain ⟨w1, hw1⟩ : ∃ w1 : World, w1 = { w with drawn := d } := ⟨_, rfl⟩
    have hsp : ∀ o, (setObj (ρ b).blk o).run P w1 = .ok () { w1 with heap := w1.heap.setIfInBounds (ρ b).blk o } := by
      intro o
      have : w1.heap[(ρ b).blk]? = some (Obj.mapIter (some m) s.clock s.seen.toArray s.clock) := by rw [hw1]; exact hp
      simp [setObj, Sem.run, this]
    rw [← hw1] at hch
    have hrun : (Instr.next (.pointer (some ⟨(ρ b).blk, 0, none⟩)) false ty).run P w = .ok (.tuple #[.bool true, e.key, e.val]) { w1 with heap := w1.heap.setIfInBounds (ρ b).blk (.mapIter (some m) s.clock (s.seen ++ [e.born]).toArray s.clock) } := by
      unfold Instr.next
      simp only [Sem.run_bind, hgp, Result.andThen_ok, hgm, hnone, hleft, hold, hnew]
      rw [if_neg (by decide), hC]
      simp only [Sem.run_bind, List.size_toArray, List.length_map, hch, Result.andThen_ok]
      have hget : (s.left.map some).toArray[i]? = some (some e) := by simp [he]
      rw [hget]
      simp only [Sem.run_bind, hsp, Result.andThen_ok, Sem.run_pure]
      simp
    have hpl := (hg.1 e (hlm e hmem))
    have hplt : (ρ b).blk < w.heap.size := (Array.getElem?_eq_some_iff.1 hp).1
    have hoth : ∀ x, x ∉ (miB s).foot (ρ b) → x < w.heap.size → (w1.heap.setIfInBounds (ρ b).blk (.mapIter (some m) s.clock (s.seen ++ [e.born]).toArray s.clock))[x]? = w.heap[x]? := by
      intro x hx _
      have hne : (ρ b).blk ≠ x := fun e => hx ((hF x).2 (.inl e.symm))
      rw [hw1]
      simp [Array.getElem?_setIfInBounds, hne]
    refine ⟨_, _, .tuple #[.bool true, e.key, e.val], _, ρ, hrun, VR.plain ?_, h1 e hmem, r.upd hb (by simp) (fun x hx => hx) (fun x hx => hx) trivial ?_ hoth, Next.upd hb (by simp) (fun x hx => hx) (fun x hx => hx) (by rw [hw1]) (by rw [hw1]) (by rw [hw1]) (by rw [hw1]; simp) hoth, by simp⟩
    · have q1 : scp nil e.key = true := hpl.1
      have q2 : scp nil e.val = true := hpl.2.1
      simp [plain, scp, scpA, scpL, q1, q2]
    · refine ⟨c0, c1, hg, m, hpm, hF, ?_, ?_⟩
      · rw [hw1]
        simp [Array.getElem?_setIfInBounds, hplt]
      · rw [hw1]
        simp only [Array.getElem?_setIfInBounds, if_neg hpm]
        exact hm

theorem entryK {b : Nat} {s : MIS} {sn : List Nat} {e : MapEntry} (hb : h[b]? = some (miB { s with seen := sn ++ [e.born] })) (he : e ∈ s.es) (hK : K (.tuple #[e.key, e.val]) h) : IC P 1000000002 [.pointer (some ⟨b, 0, none⟩)] h K := by
  intro ρ w v0 sm ha hi r hs
  injection ha with ha _
  subst ha
  obtain rfl : sm = Instr.entry (conc ρ (.pointer (some ⟨b, 0, none⟩))) := by
    rcases hi with ⟨h, _⟩ | ⟨h, _⟩ | ⟨_, h⟩
    · exact absurd h (by decide)
    · exact absurd h (by decide)
    · exact h
  obtain ⟨c0, c1, hg, m, hpm, hF, hp, hm⟩ := r.holds b _ hb
  have hc : conc ρ (.pointer (some ⟨b, 0, none⟩)) = .pointer (some ⟨(ρ b).blk, 0, none⟩) := by simp [conc, cAddr, c0]
  rw [hc]
  simp only at hg hp hm
  have hgp : (getObj (ρ b).blk).run P w = .ok (.mapIter (some m) s.clock (sn ++ [e.born]).toArray s.clock) w := by simp [getObj, Sem.run, hp]
  have hgm : (getObj m).run P w = .ok (.map s.es.toArray s.clock) w := run_getObj_map hm
  have hfind : s.es.toArray.find? (fun x => x.born == e.born) = some e := by
    simp only [List.find?_toArray]
    have key : ∀ l : List MapEntry, (l.map (·.born)).Nodup → e ∈ l → l.find? (fun x => x.born == e.born) = some e := by
      intro l
      induction l with
      | nil => intro _ h; cases h
      | cons x l ih =>
        intro hn hm
        simp only [List.map_cons, List.nodup_cons] at hn
        rcases List.mem_cons.1 hm with rfl | hm
        · simp
        · have hne : x.born ≠ e.born := fun h => hn.1 (h ▸ List.mem_map.2 ⟨e, hm, rfl⟩)
          rw [List.find?_cons_of_neg (by simpa using hne)]
          exact ih hn.2 hm
    exact key s.es hg.2 he
  have hpl := hg.1 e he
  have hrun : (Instr.entry (.pointer (some ⟨(ρ b).blk, 0, none⟩))).run P w = .ok (.tuple #[e.key, e.val]) w := by
    unfold Instr.entry
    simp only [Sem.run_bind, hgp, Result.andThen_ok]
    simp [hgm, hfind, Result.andThen]
  refine ⟨_, _, .tuple #[e.key, e.val], h, ρ, hrun, VR.plain ?_, hK, r, Next.refl _ _ _ _, Nat.le_refl _⟩
  have q1 : scp nil e.key = true := hpl.1
  have q2 : scp nil e.val = true := hpl.2.1
  simp [plain, scp, scpA, scpL, q1, q2]

end Abs
end Go.Proofs.Ytongllppbifiaaa
