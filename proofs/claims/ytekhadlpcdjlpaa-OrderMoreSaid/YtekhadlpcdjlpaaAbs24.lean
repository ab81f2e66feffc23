/- The evaluator for simp: what is still to be done stands in a stack, as data; so each step is a plain rewriting. -/
import Derived.Test.YtekhadlpcdjlpaaAbs23
namespace Go.Proofs.Ytekhadlpcdjlpaa
namespace Abs
open Go
set_option linter.unusedVariables false
set_option linter.unusedSimpArgs false

/-- What stands behind: code, or the end of a block. -/
inductive Frm where
  | code (c : ACode)
  | blk (id : Nat)

/-- What comes behind code, by how it ends. -/
def resume (P : Program) (m : Nat) : List Frm → AExit → T → AH → (AExit → T → AH → Prop) → Prop
  | [], e, t, h, Q => Q e t h
  | .code c :: s, .normal, t, h, Q => W P False (AC2 P) (ALoop P m) c t h (fun e t h => resume P m s e t h Q)
  | .code _ :: s, .exit i, t, h, Q => resume P m s (.exit i) t h Q
  | .code _ :: s, .ret, t, h, Q => resume P m s .ret t h Q
  | .blk id :: s, .exit i, t, h, Q => if i = id then resume P m s .normal t h Q else resume P m s (.exit i) t h Q
  | .blk _ :: s, .normal, t, h, Q => resume P m s .normal t h Q
  | .blk _ :: s, .ret, t, h, Q => resume P m s .ret t h Q

def resK (P : Program) (m : Nat) (s : List Frm) (Q : AExit → T → AH → Prop) : AExit → T → AH → Prop := fun e t h => resume P m s e t h Q

/-- Code, then the stack. -/
def run (P : Program) (m : Nat) (c : ACode) (s : List Frm) (t : T) (h : AH) (Q : AExit → T → AH → Prop) : Prop := W P False (AC2 P) (ALoop P m) c t h (resK P m s Q)
/-- Operations in a row, then the stack. -/
def runO (P : Program) (m : Nat) (l : List AOper) (s : List Frm) (t : T) (h : AH) (Q : AExit → T → AH → Prop) : Prop := wOps P False (AC2 P) l t h (resK P m s Q .normal)
/-- Operations of a region that draws, then the stack. -/
def runD (P : Program) (m base : Nat) (l : List DOper) (D : Reads) (s : List Frm) (t : T) (h : AH) (Q : AExit → T → AH → Prop) : Prop := wDrawn P False (AC2 P) base l D t h (resK P m s Q .normal)

variable {P : Program} {m : Nat} {s : List Frm} {t : T} {h : AH} {Q : AExit → T → AH → Prop}

theorem resK_eq (e : AExit) : resK P m s Q e t h = resume P m s e t h Q := rfl
theorem resume_nil (e : AExit) : resume P m [] e t h Q = Q e t h := by cases e <;> rfl
theorem resume_code (c : ACode) : resume P m (.code c :: s) .normal t h Q = run P m c s t h Q := rfl
theorem resume_code_exit (c : ACode) (i : Nat) : resume P m (.code c :: s) (.exit i) t h Q = resume P m s (.exit i) t h Q := rfl
theorem resume_code_ret (c : ACode) : resume P m (.code c :: s) .ret t h Q = resume P m s .ret t h Q := rfl
theorem resume_blk_self (i : Nat) : resume P m (.blk i :: s) (.exit i) t h Q = resume P m s .normal t h Q := by simp [resume]
theorem resume_blk_ne (i j : Nat) (hij : i ≠ j) : resume P m (.blk j :: s) (.exit i) t h Q = resume P m s (.exit i) t h Q := by simp [resume, hij]
theorem resume_blk (i : Nat) : resume P m (.blk i :: s) .normal t h Q = resume P m s .normal t h Q := rfl
theorem resume_blk_ret (i : Nat) : resume P m (.blk i :: s) .ret t h Q = resume P m s .ret t h Q := rfl

theorem run_skip : run P m .skip s t h Q = resume P m s .normal t h Q := rfl
theorem run_exit (i : Nat) : run P m (.exit i) s t h Q = resume P m s (.exit i) t h Q := rfl
theorem run_ret : run P m .ret s t h Q = resume P m s .ret t h Q := rfl
theorem run_ops (l : List AOper) : run P m (.ops l) s t h Q = runO P m l s t h Q := rfl
theorem run_seq (a b : ACode) : run P m (.seq a b) s t h Q = run P m a (.code b :: s) t h Q := by
  unfold run
  simp only [W]
  congr 1
  funext e t h
  cases e <;> rfl
theorem run_block (i : Nat) (a : ACode) : run P m (.block i a) s t h Q = run P m a (.blk i :: s) t h Q := by
  unfold run
  simp only [W]
  congr 1
  funext e t h
  cases e <;> rfl
theorem run_loop (a : ACode) : run P m (.loop a) s t h Q = ALoop P m a t h (resK P m s Q) := rfl

/-- By a truth that was computed. -/
def condK (P : Program) (m : Nat) (o : Option Value) (a b : ACode) (s : List Frm) (t : T) (h : AH) (Q : AExit → T → AH → Prop) : Prop := onB o (run P m a s t h Q) (run P m b s t h Q) False
theorem run_cond (c : Operand) (a b : ACode) : run P m (.cond c a b) s t h Q = condK P m (evalO t c) a b s t h Q := rfl
theorem condK_true (a b : ACode) : condK P m (some (.bool true)) a b s t h Q = run P m a s t h Q := rfl
theorem condK_false (a b : ACode) : condK P m (some (.bool false)) a b s t h Q = run P m b s t h Q := rfl
theorem condK_bool (x : Bool) (a b : ACode) : condK P m (some (.bool x)) a b s t h Q = if x = true then run P m a s t h Q else run P m b s t h Q := by cases x <;> rfl

/-- A temporary is laid down. -/
def goT (P : Program) (m : Nat) (t : T) (l : List AOper) (s : List Frm) (h : AH) (Q : AExit → T → AH → Prop) : Prop := runO P m l s t h Q
theorem goT_eq (l : List AOper) : goT P m t l s h Q = runO P m l s t h Q := rfl

def stepP (P : Program) (m : Nat) (o : Option Value) (d : Option Tmp) (l : List AOper) (s : List Frm) (t : T) (h : AH) (Q : AExit → T → AH → Prop) : Prop := match o with
  | some v => goT P m (t.put d v) l s h Q
  | none => False
theorem stepP_some (v : Value) (d : Option Tmp) (l : List AOper) : stepP P m (some v) d l s t h Q = goT P m (t.put d v) l s h Q := rfl
theorem stepP_none (d : Option Tmp) (l : List AOper) : stepP P m none d l s t h Q = False := rfl
theorem stepP_ite (c : Prop) [Decidable c] (a b : Option Value) (d : Option Tmp) (l : List AOper) : stepP P m (if c then a else b) d l s t h Q = if c then stepP P m a d l s t h Q else stepP P m b d l s t h Q := by split <;> rfl

def stepF (P : Program) (m : Nat) (o : Option (Value × ABlk)) (d : Option Tmp) (l : List AOper) (s : List Frm) (t : T) (h : AH) (Q : AExit → T → AH → Prop) : Prop := match o with
  | some (v, k) => goT P m (t.put d v) l s (h ++ [k]) Q
  | none => False
theorem stepF_some (v : Value) (k : ABlk) (d : Option Tmp) (l : List AOper) : stepF P m (some (v, k)) d l s t h Q = goT P m (t.put d v) l s (h ++ [k]) Q := rfl
theorem stepF_none (d : Option Tmp) (l : List AOper) : stepF P m none d l s t h Q = False := rfl
theorem stepF_ite (c : Prop) [Decidable c] (a b : Option (Value × ABlk)) (d : Option Tmp) (l : List AOper) : stepF P m (if c then a else b) d l s t h Q = if c then stepF P m a d l s t h Q else stepF P m b d l s t h Q := by split <;> rfl

def stepL (P : Program) (m : Nat) (o : Option (Value × AH)) (d : Option Tmp) (l : List AOper) (s : List Frm) (t : T) (Q : AExit → T → AH → Prop) : Prop := match o with
  | some (v, h) => goT P m (t.put d v) l s h Q
  | none => False
theorem stepL_some (v : Value) (h : AH) (d : Option Tmp) (l : List AOper) : stepL P m (some (v, h)) d l s t Q = goT P m (t.put d v) l s h Q := rfl
theorem stepL_none (d : Option Tmp) (l : List AOper) : stepL P m none d l s t Q = False := rfl
theorem stepL_ite (c : Prop) [Decidable c] (a b : Option (Value × AH)) (d : Option Tmp) (l : List AOper) : stepL P m (if c then a else b) d l s t Q = if c then stepL P m a d l s t Q else stepL P m b d l s t Q := by split <;> rfl

/-- What stands behind a call. -/
def callK (P : Program) (m : Nat) (d : Option Tmp) (l : List AOper) (s : List Frm) (t : T) (Q : AExit → T → AH → Prop) : Value → AH → Prop := fun v h => goT P m (t.put d v) l s h Q
theorem callK_eq (v : Value) (h : AH) (d : Option Tmp) (l : List AOper) : callK P m d l s t Q v h = goT P m (t.put d v) l s h Q := rfl

def stepC (P : Program) (m : Nat) (o : Option (FuncId × List Value)) (d : Option Tmp) (l : List AOper) (s : List Frm) (t : T) (h : AH) (Q : AExit → T → AH → Prop) : Prop := match o with
  | some (f, args) => AC P f args h (callK P m d l s t Q)
  | none => False
theorem stepC_some (f : FuncId) (args : List Value) (d : Option Tmp) (l : List AOper) : stepC P m (some (f, args)) d l s t h Q = AC P f args h (callK P m d l s t Q) := rfl
theorem stepC_none (d : Option Tmp) (l : List AOper) : stepC P m none d l s t h Q = False := rfl

def stepI (P : Program) (m : Nat) (o : Option (FuncId × List Value)) (d : Option Tmp) (l : List AOper) (s : List Frm) (t : T) (h : AH) (Q : AExit → T → AH → Prop) : Prop := match o with
  | some (f, args) => IC P f args h (callK P m d l s t Q)
  | none => False
theorem stepI_some (f : FuncId) (args : List Value) (d : Option Tmp) (l : List AOper) : stepI P m (some (f, args)) d l s t h Q = IC P f args h (callK P m d l s t Q) := rfl
theorem stepI_none (d : Option Tmp) (l : List AOper) : stepI P m none d l s t h Q = False := rfl

/-- An operation that is to be carried out, by its kind. -/
def step (P : Program) (m : Nat) (kd : Nat) (x : AOper) (l : List AOper) (s : List Frm) (t : T) (h : AH) (Q : AExit → T → AH → Prop) : Prop := match kd with
  | 0 => stepP P m (evP P t x.op) x.dst l s t h Q
  | 1 => stepP P m (evR t h x.op) x.dst l s t h Q
  | 2 => stepF P m (evF t h.length x.op) x.dst l s t h Q
  | 3 => stepL P m (evL t h x.op) x.dst l s t Q
  | 5 => stepI P m (evI t x.op) x.dst l s t h Q
  | _ => stepC P m (evC t x.op) x.dst l s t h Q
theorem step_0 (x : AOper) (l : List AOper) : step P m 0 x l s t h Q = stepP P m (evP P t x.op) x.dst l s t h Q := rfl
theorem step_1 (x : AOper) (l : List AOper) : step P m 1 x l s t h Q = stepP P m (evR t h x.op) x.dst l s t h Q := rfl
theorem step_2 (x : AOper) (l : List AOper) : step P m 2 x l s t h Q = stepF P m (evF t h.length x.op) x.dst l s t h Q := rfl
theorem step_3 (x : AOper) (l : List AOper) : step P m 3 x l s t h Q = stepL P m (evL t h x.op) x.dst l s t Q := rfl
theorem step_5 (x : AOper) (l : List AOper) : step P m 5 x l s t h Q = stepI P m (evI t x.op) x.dst l s t h Q := rfl
theorem step_4 (x : AOper) (l : List AOper) : step P m 4 x l s t h Q = stepC P m (evC t x.op) x.dst l s t h Q := rfl

/-- By whether an operation is to be carried out. -/
def wantK (P : Program) (m : Nat) (o : Option Bool) (x : AOper) (l : List AOper) (s : List Frm) (t : T) (h : AH) (Q : AExit → T → AH → Prop) : Prop := match o with
  | some true => step P m (kd x.op) x l s t h Q
  | some false => goT P m (t.put x.dst undef) l s h Q
  | none => False
theorem wantK_true (x : AOper) (l : List AOper) : wantK P m (some true) x l s t h Q = step P m (kd x.op) x l s t h Q := rfl
theorem wantK_false (x : AOper) (l : List AOper) : wantK P m (some false) x l s t h Q = goT P m (t.put x.dst undef) l s h Q := rfl
theorem wantK_none (x : AOper) (l : List AOper) : wantK P m none x l s t h Q = False := rfl
theorem wantK_some (b : Bool) (x : AOper) (l : List AOper) : wantK P m (some b) x l s t h Q = if b = true then step P m (kd x.op) x l s t h Q else goT P m (t.put x.dst undef) l s h Q := by cases b <;> rfl

theorem runO_nil : runO P m [] s t h Q = resume P m s .normal t h Q := rfl
theorem runO_plain (d : Option Tmp) (op : AOp) (l : List AOper) : runO P m (⟨d, op, none⟩ :: l) s t h Q = step P m (kd op) ⟨d, op, none⟩ l s t h Q := by
  unfold runO step stepP stepF stepL stepC stepI goT
  simp only [wOps, wantedA, onW]
  have h5 := @evC_lt t op
  have h6 := @evI_ge t op
  generalize evP P t op = o1
  generalize evR t h op = o2
  generalize evF t h.length op = o3
  generalize evL t h op = o4
  generalize evC t op = o5 at h5 ⊢
  generalize evI t op = o6 at h6 ⊢
  generalize kd op = n
  rcases n with _ | _ | _ | _ | _ | _ | n
  · cases o1 <;> rfl
  · cases o2 <;> rfl
  · cases o3 <;> rfl
  · cases o4 <;> rfl
  · cases o5 with
    | none => rfl
    | some x => obtain ⟨f, args⟩ := x; exact AC2_lt (h5 rfl)
  · cases o6 with
    | none => rfl
    | some x => obtain ⟨f, args⟩ := x; exact AC2_ge (h6 rfl).1
  · cases o5 with
    | none => rfl
    | some x => obtain ⟨f, args⟩ := x; exact AC2_lt (h5 rfl)
theorem runO_cons (x : AOper) (l : List AOper) : runO P m (x :: l) s t h Q = wantK P m (wantedA t x.guard) x l s t h Q := by
  unfold runO wantK step stepP stepF stepL stepC stepI goT
  simp only [wOps, onW]
  have h5 := @evC_lt t x.op
  have h6 := @evI_ge t x.op
  generalize evP P t x.op = o1
  generalize evR t h x.op = o2
  generalize evF t h.length x.op = o3
  generalize evL t h x.op = o4
  generalize evC t x.op = o5 at h5 ⊢
  generalize evI t x.op = o6 at h6 ⊢
  generalize kd x.op = n
  cases wantedA t x.guard with
  | none => rfl
  | some b =>
    cases b with
    | false => rfl
    | true =>
      rcases n with _ | _ | _ | _ | _ | _ | n
      · cases o1 <;> rfl
      · cases o2 <;> rfl
      · cases o3 <;> rfl
      · cases o4 <;> rfl
      · cases o5 with
        | none => rfl
        | some x => obtain ⟨f, args⟩ := x; exact AC2_lt (h5 rfl)
      · cases o6 with
        | none => rfl
        | some x => obtain ⟨f, args⟩ := x; exact AC2_ge (h6 rfl).1
      · cases o5 with
        | none => rfl
        | some x => obtain ⟨f, args⟩ := x; exact AC2_lt (h5 rfl)

/-- A temporary. -/
def getT : T → Nat → Option Value
  | [], _ => none
  | x :: _, 0 => x
  | _ :: l, n + 1 => getT l n
theorem getT_eq : ∀ (t : T) (i : Nat), getT t i = t[i]?.join
  | [], i => by simp [getT]
  | x :: l, 0 => by simp [getT]
  | x :: l, n + 1 => by simp [getT, getT_eq l n]
theorem evO_tmp (t : T) (i : Nat) : evalO t (.tmp i) = getT t i := (getT_eq t i).symm
theorem evO_const (t : T) (v : Value) : evalO t (.const v) = if plain v then some v else none := rfl
theorem evO_func (t : T) (f : FuncId) : evalO t (.func f) = some (.func (.func f) #[] #[]) := rfl
theorem evO_global (t : T) (g : Nat) : evalO t (.global g) = none := rfl
theorem getT_0 (x : Option Value) (l : T) : getT (x :: l) 0 = x := rfl
theorem getT_1 (a x : Option Value) (l : T) : getT (a :: x :: l) 1 = x := rfl
theorem getT_2 (a b x : Option Value) (l : T) : getT (a :: b :: x :: l) 2 = x := rfl
theorem getT_3 (a b c x : Option Value) (l : T) : getT (a :: b :: c :: x :: l) 3 = x := rfl
theorem getT_s4 (a b c d : Option Value) (l : T) (n : Nat) : getT (a :: b :: c :: d :: l) (n + 4) = getT l n := rfl
theorem getT_s16 (a b c d a1 b1 c1 d1 a2 b2 c2 d2 a3 b3 c3 d3 : Option Value) (l : T) (n : Nat) : getT (a :: b :: c :: d :: a1 :: b1 :: c1 :: d1 :: a2 :: b2 :: c2 :: d2 :: a3 :: b3 :: c3 :: d3 :: l) (n + 16) = getT l n := rfl

/-- A temporary turns. -/
def setT : T → Nat → Option Value → T
  | [], _, _ => []
  | _ :: l, 0, v => v :: l
  | x :: l, n + 1, v => x :: setT l n v
theorem setT_eq : ∀ (t : T) (i : Nat) (v : Option Value), t.set i v = setT t i v
  | [], i, v => by simp [setT]
  | x :: l, 0, v => by simp [setT]
  | x :: l, n + 1, v => by simp [setT, setT_eq l n]
theorem put_some (t : T) (d : Tmp) (v : Value) : T.put t (some d) v = setT t d (some v) := setT_eq t d (some v)
theorem put_none (t : T) (v : Value) : T.put t none v = t := rfl
theorem setT_0 (x v : Option Value) (l : T) : setT (x :: l) 0 v = v :: l := rfl
theorem setT_1 (a x v : Option Value) (l : T) : setT (a :: x :: l) 1 v = a :: v :: l := rfl
theorem setT_2 (a b x v : Option Value) (l : T) : setT (a :: b :: x :: l) 2 v = a :: b :: v :: l := rfl
theorem setT_3 (a b c x v : Option Value) (l : T) : setT (a :: b :: c :: x :: l) 3 v = a :: b :: c :: v :: l := rfl
theorem setT_s4 (a b c d v : Option Value) (l : T) (n : Nat) : setT (a :: b :: c :: d :: l) (n + 4) v = a :: b :: c :: d :: setT l n v := rfl
theorem setT_s16 (a b c d a1 b1 c1 d1 a2 b2 c2 d2 a3 b3 c3 d3 v : Option Value) (l : T) (n : Nat) : setT (a :: b :: c :: d :: a1 :: b1 :: c1 :: d1 :: a2 :: b2 :: c2 :: d2 :: a3 :: b3 :: c3 :: d3 :: l) (n + 16) v = a :: b :: c :: d :: a1 :: b1 :: c1 :: d1 :: a2 :: b2 :: c2 :: d2 :: a3 :: b3 :: c3 :: d3 :: setT l n v := rfl

/-- A read, to be asked again. -/
def rdF (t : T) (op : AOp) : AH → Option Value := fun h => evR t h op
theorem rdF_eq (op : AOp) : rdF t op h = evR t h op := rfl

def sameO (o : Option Value) (v : Value) : Bool := match o with
  | some u => veq u v
  | none => false
theorem sameO_some (u v : Value) : sameO (some u) v = veq u v := rfl
theorem sameO_none (v : Value) : sameO none v = false := rfl

/-- Do the reads that are listed give the same? -/
def askD (l : List Nat) (D : Reads) (h : AH) : Bool := chkD l D h
theorem askD_nil (l : List Nat) : askD l [] h = true := rfl
theorem askD_none (D : Reads) : askD [] D h = true := by
  unfold askD chkD
  induction D with
  | nil => rfl
  | cons d D ih => simp
theorem askD_cons (l : List Nat) (i : Nat) (f : AH → Option Value) (v : Value) (D : Reads) : askD l ((i, f, v) :: D) h = ((!(l.contains i) || sameO (f h) v) && askD l D h) := by
  simp only [askD, chkD, List.all_cons, sameO]
  rfl

/-- Are the places of the blocks to come still free? -/
def holesB (base : Nat) (l : List DOper) (h : AH) : Bool := l.all (fun e => kd e.x.op != 2 || isHole h (base + e.fi))
theorem holesB_nil (base : Nat) : holesB base [] h = true := rfl
theorem holesB_cons (base : Nat) (e : DOper) (l : List DOper) : holesB base (e :: l) h = ((kd e.x.op != 2 || isHole h (base + e.fi)) && holesB base l h) := rfl

def goD (P : Program) (m base : Nat) (t : T) (h : AH) (l : List DOper) (D : Reads) (s : List Frm) (Q : AExit → T → AH → Prop) : Prop := runD P m base l D s t h Q
theorem goD_eq (base : Nat) (l : List DOper) (D : Reads) : goD P m base t h l D s Q = runD P m base l D s t h Q := rfl
def gateD (P : Program) (m base : Nat) (b : Bool) (t : T) (h : AH) (l : List DOper) (D : Reads) (s : List Frm) (Q : AExit → T → AH → Prop) : Prop := if b then goD P m base t h l D s Q else False
theorem gateD_true (base : Nat) (l : List DOper) (D : Reads) : gateD P m base true t h l D s Q = goD P m base t h l D s Q := rfl
theorem gateD_false (base : Nat) (l : List DOper) (D : Reads) : gateD P m base false t h l D s Q = False := rfl

def stepDP (P : Program) (m base : Nat) (o : Option Value) (d : Option Tmp) (l : List DOper) (D : Reads) (s : List Frm) (t : T) (h : AH) (Q : AExit → T → AH → Prop) : Prop := match o with
  | some v => goD P m base (t.put d v) h l D s Q
  | none => False
theorem stepDP_some (base : Nat) (v : Value) (d : Option Tmp) (l : List DOper) (D : Reads) : stepDP P m base (some v) d l D s t h Q = goD P m base (t.put d v) h l D s Q := rfl
theorem stepDP_none (base : Nat) (d : Option Tmp) (l : List DOper) (D : Reads) : stepDP P m base none d l D s t h Q = False := rfl
theorem stepDP_ite (base : Nat) (c : Prop) [Decidable c] (a b : Option Value) (d : Option Tmp) (l : List DOper) (D : Reads) : stepDP P m base (if c then a else b) d l D s t h Q = if c then stepDP P m base a d l D s t h Q else stepDP P m base b d l D s t h Q := by split <;> rfl

def stepDR (P : Program) (m base i : Nat) (o : Option Value) (op : AOp) (d : Option Tmp) (l : List DOper) (D : Reads) (s : List Frm) (t : T) (h : AH) (Q : AExit → T → AH → Prop) : Prop := match o with
  | some v => goD P m base (t.put d v) h l ((i, rdF t op, v) :: D) s Q
  | none => False
theorem stepDR_some (base i : Nat) (v : Value) (op : AOp) (d : Option Tmp) (l : List DOper) (D : Reads) : stepDR P m base i (some v) op d l D s t h Q = goD P m base (t.put d v) h l ((i, rdF t op, v) :: D) s Q := rfl
theorem stepDR_none (base i : Nat) (op : AOp) (d : Option Tmp) (l : List DOper) (D : Reads) : stepDR P m base i none op d l D s t h Q = False := rfl
theorem stepDR_ite (base i : Nat) (c : Prop) [Decidable c] (a b : Option Value) (op : AOp) (d : Option Tmp) (l : List DOper) (D : Reads) : stepDR P m base i (if c then a else b) op d l D s t h Q = if c then stepDR P m base i a op d l D s t h Q else stepDR P m base i b op d l D s t h Q := by split <;> rfl

def stepDF (P : Program) (m base n : Nat) (o : Option (Value × ABlk)) (d : Option Tmp) (l : List DOper) (D : Reads) (s : List Frm) (t : T) (h : AH) (Q : AExit → T → AH → Prop) : Prop := match o with
  | some (v, k) => gateD P m base (isHole h n) (t.put d v) (h.set n k) l D s Q
  | none => False
theorem stepDF_some (base n : Nat) (v : Value) (k : ABlk) (d : Option Tmp) (l : List DOper) (D : Reads) : stepDF P m base n (some (v, k)) d l D s t h Q = gateD P m base (isHole h n) (t.put d v) (h.set n k) l D s Q := rfl
theorem stepDF_none (base n : Nat) (d : Option Tmp) (l : List DOper) (D : Reads) : stepDF P m base n none d l D s t h Q = False := rfl
theorem stepDF_ite (base n : Nat) (c : Prop) [Decidable c] (a b : Option (Value × ABlk)) (d : Option Tmp) (l : List DOper) (D : Reads) : stepDF P m base n (if c then a else b) d l D s t h Q = if c then stepDF P m base n a d l D s t h Q else stepDF P m base n b d l D s t h Q := by split <;> rfl

def stepDL (P : Program) (m base : Nat) (o : Option (Value × AH)) (ck : List Nat) (d : Option Tmp) (l : List DOper) (D : Reads) (s : List Frm) (t : T) (Q : AExit → T → AH → Prop) : Prop := match o with
  | some (v, h) => gateD P m base (askD ck D h) (t.put d v) h l D s Q
  | none => False
theorem stepDL_some (base : Nat) (v : Value) (h : AH) (ck : List Nat) (d : Option Tmp) (l : List DOper) (D : Reads) : stepDL P m base (some (v, h)) ck d l D s t Q = gateD P m base (askD ck D h) (t.put d v) h l D s Q := rfl
theorem stepDL_none (base : Nat) (ck : List Nat) (d : Option Tmp) (l : List DOper) (D : Reads) : stepDL P m base none ck d l D s t Q = False := rfl
theorem stepDL_ite (base : Nat) (c : Prop) [Decidable c] (a b : Option (Value × AH)) (ck : List Nat) (d : Option Tmp) (l : List DOper) (D : Reads) : stepDL P m base (if c then a else b) ck d l D s t Q = if c then stepDL P m base a ck d l D s t Q else stepDL P m base b ck d l D s t Q := by split <;> rfl

def callD (P : Program) (m base : Nat) (ck : List Nat) (d : Option Tmp) (l : List DOper) (D : Reads) (s : List Frm) (t : T) (Q : AExit → T → AH → Prop) : Value → AH → Prop := fun v h => gateD P m base (askD ck D h && holesB base l h) (t.put d v) h l D s Q
theorem callD_eq (base : Nat) (v : Value) (h : AH) (ck : List Nat) (d : Option Tmp) (l : List DOper) (D : Reads) : callD P m base ck d l D s t Q v h = gateD P m base (askD ck D h && holesB base l h) (t.put d v) h l D s Q := rfl
def stepDC (P : Program) (m base : Nat) (o : Option (FuncId × List Value)) (ck : List Nat) (d : Option Tmp) (l : List DOper) (D : Reads) (s : List Frm) (t : T) (h : AH) (Q : AExit → T → AH → Prop) : Prop := match o with
  | some (f, args) => AC P f args h (callD P m base ck d l D s t Q)
  | none => False
theorem stepDC_some (base : Nat) (f : FuncId) (args : List Value) (ck : List Nat) (d : Option Tmp) (l : List DOper) (D : Reads) : stepDC P m base (some (f, args)) ck d l D s t h Q = AC P f args h (callD P m base ck d l D s t Q) := rfl
theorem stepDC_none (base : Nat) (ck : List Nat) (d : Option Tmp) (l : List DOper) (D : Reads) : stepDC P m base none ck d l D s t h Q = False := rfl

def stepD (P : Program) (m base kd : Nat) (x : DOper) (l : List DOper) (D : Reads) (s : List Frm) (t : T) (h : AH) (Q : AExit → T → AH → Prop) : Prop := match kd with
  | 0 => stepDP P m base (evP P t x.x.op) x.x.dst l D s t h Q
  | 1 => stepDR P m base x.i (evR t h x.x.op) x.x.op x.x.dst l D s t h Q
  | 2 => stepDF P m base (base + x.fi) (evF t (base + x.fi) x.x.op) x.x.dst l D s t h Q
  | 3 => stepDL P m base (evL t h x.x.op) x.chk x.x.dst l D s t Q
  | _ => stepDC P m base (evC t x.x.op) x.chk x.x.dst l D s t h Q
theorem stepD_0 (base : Nat) (x : DOper) (l : List DOper) (D : Reads) : stepD P m base 0 x l D s t h Q = stepDP P m base (evP P t x.x.op) x.x.dst l D s t h Q := rfl
theorem stepD_1 (base : Nat) (x : DOper) (l : List DOper) (D : Reads) : stepD P m base 1 x l D s t h Q = stepDR P m base x.i (evR t h x.x.op) x.x.op x.x.dst l D s t h Q := rfl
theorem stepD_2 (base : Nat) (x : DOper) (l : List DOper) (D : Reads) : stepD P m base 2 x l D s t h Q = stepDF P m base (base + x.fi) (evF t (base + x.fi) x.x.op) x.x.dst l D s t h Q := rfl
theorem stepD_3 (base : Nat) (x : DOper) (l : List DOper) (D : Reads) : stepD P m base 3 x l D s t h Q = stepDL P m base (evL t h x.x.op) x.chk x.x.dst l D s t Q := rfl
theorem stepD_4 (base : Nat) (x : DOper) (l : List DOper) (D : Reads) : stepD P m base 4 x l D s t h Q = stepDC P m base (evC t x.x.op) x.chk x.x.dst l D s t h Q := rfl

def wantD (P : Program) (m base : Nat) (o : Option Bool) (x : DOper) (l : List DOper) (D : Reads) (s : List Frm) (t : T) (h : AH) (Q : AExit → T → AH → Prop) : Prop := match o with
  | some true => stepD P m base (kd x.x.op) x l D s t h Q
  | some false => goD P m base (t.put x.x.dst undef) h l D s Q
  | none => False
theorem wantD_true (base : Nat) (x : DOper) (l : List DOper) (D : Reads) : wantD P m base (some true) x l D s t h Q = stepD P m base (kd x.x.op) x l D s t h Q := rfl
theorem wantD_false (base : Nat) (x : DOper) (l : List DOper) (D : Reads) : wantD P m base (some false) x l D s t h Q = goD P m base (t.put x.x.dst undef) h l D s Q := rfl
theorem wantD_none (base : Nat) (x : DOper) (l : List DOper) (D : Reads) : wantD P m base none x l D s t h Q = False := rfl
theorem wantD_some (base : Nat) (b : Bool) (x : DOper) (l : List DOper) (D : Reads) : wantD P m base (some b) x l D s t h Q = if b = true then stepD P m base (kd x.x.op) x l D s t h Q else goD P m base (t.put x.x.dst undef) h l D s Q := by cases b <;> rfl

theorem runD_nil (base : Nat) (D : Reads) : runD P m base [] D s t h Q = resume P m s .normal t h Q := rfl
theorem runD_cons (base : Nat) (x : DOper) (l : List DOper) (D : Reads) : runD P m base (x :: l) D s t h Q = wantD P m base (wantedA t x.x.guard) x l D s t h Q := by
  unfold runD wantD stepD stepDP stepDR stepDF stepDL stepDC gateD goD
  simp only [wDrawn, onW]
  have h5 := @evC_lt t x.x.op
  generalize evP P t x.x.op = o1
  generalize evR t h x.x.op = o2
  generalize evF t (base + x.fi) x.x.op = o3
  generalize evL t h x.x.op = o4
  generalize evC t x.x.op = o5 at h5 ⊢
  generalize kd x.x.op = n
  cases wantedA t x.x.guard with
  | none => rfl
  | some b =>
    cases b with
    | false => rfl
    | true =>
      rcases n with _ | _ | _ | _ | n
      · cases o1 <;> rfl
      · cases o2 <;> rfl
      · cases o3 <;> rfl
      · cases o4 <;> rfl
      · cases o5 with
        | none => rfl
        | some x => obtain ⟨f, args⟩ := x; exact AC2_lt (h5 rfl)

/-- A region that draws begins: places are kept for its new blocks. -/
def openD (P : Program) (m base : Nat) (h : AH) (l : List DOper) (s : List Frm) (t : T) (Q : AExit → T → AH → Prop) : Prop := runD P m base l [] s t h Q
theorem openD_eq (base : Nat) (l : List DOper) : openD P m base h l s t Q = runD P m base l [] s t h Q := rfl
def holes : Nat → AH
  | 0 => []
  | n + 1 => .hole :: holes n
theorem holes_eq : ∀ n, holes n = List.replicate n .hole
  | 0 => rfl
  | n + 1 => by simp [holes, List.replicate_succ, holes_eq n]
theorem holes_0 : holes 0 = [] := rfl
theorem holes_s (n : Nat) : holes (n + 1) = .hole :: holes n := rfl
theorem run_drawn (nh : Nat) (l : List DOper) : run P m (.drawn nh l) s t h Q = openD P m h.length (h ++ holes nh) l s t Q := by rw [holes_eq]; rfl

/-- A function ends. -/
def finQ (res : List ARes) (K : Value → AH → Prop) : AExit → T → AH → Prop := fun e t h => match e with
  | .exit _ => False
  | _ => match evRes t h res with
    | some vs => K (oneOf vs) h
    | none => False
def finV (o : Option (List Value)) (h : AH) (K : Value → AH → Prop) : Prop := match o with
  | some vs => K (oneOf vs) h
  | none => False
theorem finQ_normal (res : List ARes) (K : Value → AH → Prop) : finQ res K .normal t h = finV (evRes t h res) h K := rfl
theorem finQ_ret (res : List ARes) (K : Value → AH → Prop) : finQ res K .ret t h = finV (evRes t h res) h K := rfl
theorem finV_some (vs : List Value) (K : Value → AH → Prop) : finV (some vs) h K = K (oneOf vs) h := rfl
theorem finV_none (K : Value → AH → Prop) : finV none h K = False := rfl
theorem oneOf_one (v : Value) : oneOf [v] = v := rfl
theorem oneOf_nil : oneOf [] = .tuple #[] := rfl
theorem oneOf_more (v u : Value) (l : List Value) : oneOf (v :: u :: l) = .tuple (v :: u :: l).toArray := rfl

/-- Temporaries at first. -/
def nones : Nat → T
  | 0 => []
  | n + 1 => none :: nones n
theorem nones_eq : ∀ n, nones n = List.replicate n none
  | 0 => rfl
  | n + 1 => by simp [nones, List.replicate_succ, nones_eq n]
theorem nones_0 : nones 0 = [] := rfl
theorem nones_1 : nones 1 = [none] := rfl
theorem nones_2 : nones 2 = [none, none] := rfl
theorem nones_3 : nones 3 = [none, none, none] := rfl
theorem nones_s4 (n : Nat) : nones (n + 4) = none :: none :: none :: none :: nones n := rfl
def begT (args : List Value) (n : Nat) : T := args.map some ++ nones (n - args.length)
def begin_ (P : Program) (m : Nat) (t : T) (c : ACode) (h : AH) (Q : AExit → T → AH → Prop) : Prop := run P m c [] t h Q
theorem begin_eq (c : ACode) : begin_ P m t c h Q = run P m c [] t h Q := rfl

/-- A function's contract: what its text comes to. -/
theorem entry (hmix : P.follows .mixedOrders = true) {f : FuncId} {n : Nat} {res : List ARes} {body : ACode} (hf : cFunc P f = some ⟨n, res, body⟩) {args : List Value} {K : Value → AH → Prop} (hw : begin_ P h.length (begT args n) body h (finQ res K)) : AC P f args h K := by
  refine contract hmix hf ?_
  unfold begin_ begT run at hw
  rw [nones_eq] at hw
  unfold wFunc initT
  have e : resK P h.length [] (finQ res K) = fun e t h => match e with
    | .exit _ => False
    | _ => match evRes t h res with
      | some vs => K (oneOf vs) h
      | none => False := by
    funext e t h
    cases e <;> rfl
  rw [e] at hw
  exact hw

def loopQ {σ : Type} (I : σ → T → AH → Prop) (μ : σ → Nat) (s : σ) (Q : AExit → T → AH → Prop) : AExit → T → AH → Prop
  | .normal, t, h => ∃ s', μ s' < μ s ∧ I s' t h
  | e, t, h => Q e t h
theorem loopQ_normal {σ : Type} (I : σ → T → AH → Prop) (μ : σ → Nat) (s : σ) : loopQ I μ s Q .normal t h = ∃ s', μ s' < μ s ∧ I s' t h := rfl
theorem loopQ_exit {σ : Type} (I : σ → T → AH → Prop) (μ : σ → Nat) (s : σ) (i : Nat) : loopQ I μ s Q (.exit i) t h = Q (.exit i) t h := rfl
theorem loopQ_ret {σ : Type} (I : σ → T → AH → Prop) (μ : σ → Nat) (s : σ) : loopQ I μ s Q .ret t h = Q .ret t h := rfl

/-- A loop, by what holds at the head of each round. -/
theorem loop_inv (hmix : P.follows .mixedOrders = true) {ac : ACode} {σ : Type} (I : σ → T → AH → Prop) (μ : σ → Nat) (s0 : σ) (h0 : I s0 t h)
    (hr : ∀ s t h, I s t h → begin_ P m t ac h (loopQ I μ s Q)) : ALoop P m ac t h Q := by
  refine aloop hmix (fun n t h => ∃ s, μ s = n ∧ I s t h) (μ s0) ⟨s0, rfl, h0⟩ ?_
  rintro n t h ⟨s, rfl, hI⟩
  have := hr s t h hI
  unfold begin_ run at this
  have e : thenQ (fun t h => ∃ n', n' < μ s ∧ ∃ s', μ s' = n' ∧ I s' t h) Q = resK P m [] (loopQ I μ s Q) := by
    funext e t h
    cases e with
    | normal =>
      refine propext ⟨fun ⟨n', hn, s', hs, hI⟩ => ⟨s', by omega, hI⟩, fun ⟨s', hs, hI⟩ => ⟨_, hs, s', rfl, hI⟩⟩
    | exit i => rfl
    | ret => rfl
  rw [e]
  exact this

/-- Some of what is known is let go: temporaries, and the newest names. -/
theorem aloop_less {ac : ACode} {t2 : T} {h2 : AH} (ht : t2.length = t.length) (hv : ∀ (i : Nat) v, t2[i]? = some (some v) → t[i]? = some (some v) ∧ scp (live h2) v = true) (hp : h2 = h.take h2.length) (hs : AOK h2) (hm2 : m ≤ h2.length) (hw : ALoop P m ac t2 h2 Q) : ALoop P m ac t h Q :=
  fun c hc => awp_less ht hv hp hs hm2 (hw c hc)

/-- Temporaries, of which those that are listed are known. -/
def mkT : Nat → List (Nat × Value) → T
  | n, [] => nones n
  | n, (i, v) :: l => setT (mkT n l) i (some v)
theorem mkT_nil (n : Nat) : mkT n [] = nones n := rfl
theorem mkT_cons (n i : Nat) (v : Value) (l : List (Nat × Value)) : mkT n ((i, v) :: l) = setT (mkT n l) i (some v) := rfl
theorem mkT_length (n : Nat) (l : List (Nat × Value)) : (mkT n l).length = n := by
  induction l with
  | nil => simp [mkT, nones_eq]
  | cons x l ih => obtain ⟨i, v⟩ := x; rw [mkT_cons, ← setT_eq]; simpa using ih
theorem mkT_get {n : Nat} {l : List (Nat × Value)} {i : Nat} {v : Value} (h : (mkT n l)[i]? = some (some v)) : (i, v) ∈ l := by
  induction l with
  | nil => simp [mkT, nones_eq, List.getElem?_replicate] at h
  | cons x l ih =>
    obtain ⟨j, u⟩ := x
    rw [mkT_cons, ← setT_eq, List.getElem?_set] at h
    split at h
    · rename_i e
      split at h
      · injection h with h
        injection h with h
        subst e h
        exact List.mem_cons_self
      · cases h
    · exact List.mem_cons_of_mem _ (ih h)

/-- What is known at a loop's head is there. -/
def atHead (m n : Nat) (l : List (Nat × Value)) (g : AH) (t : T) (h : AH) : Prop :=
  t.length = n ∧ (∀ x ∈ l, getT t x.1 = some x.2) ∧ (∀ x ∈ l, scp (live g) x.2 = true) ∧ g = h.take g.length ∧ AOK g ∧ m ≤ g.length

theorem atHead_less {ac : ACode} {n : Nat} {l : List (Nat × Value)} {g : AH} (ha : atHead m n l g t h) (hw : ALoop P m ac (mkT n l) g Q) : ALoop P m ac t h Q := by
  obtain ⟨h1, h2, h3, h4, h5, h6⟩ := ha
  refine aloop_less (by rw [mkT_length, h1]) (fun i v hi => ?_) h4 h5 h6 hw
  have hm := mkT_get hi
  have e := h2 _ hm
  refine ⟨?_, h3 _ hm⟩
  rw [getT_eq] at e
  cases hx : t[i]? with
  | none => simp only [hx] at e; cases e
  | some o => simp only [hx, Option.join_some] at e; rw [e]

/-- The loop's rule: at its head stand n temporaries, of which some are known, and these blocks; what else there is, is let go. -/
def loopQ2 {σ : Type} (m n : Nat) (I : σ → Prop) (μ : σ → Nat) (tv : σ → List (Nat × Value)) (hv : σ → AH) (s : σ) (Q : AExit → T → AH → Prop) : AExit → T → AH → Prop
  | .normal, t, h => ∃ s', μ s' < μ s ∧ I s' ∧ atHead m n (tv s') (hv s') t h
  | e, t, h => Q e t h
theorem loopQ2_normal {σ : Type} (n : Nat) (I : σ → Prop) (μ : σ → Nat) (tv : σ → List (Nat × Value)) (hv : σ → AH) (s : σ) : loopQ2 m n I μ tv hv s Q .normal t h = ∃ s', μ s' < μ s ∧ I s' ∧ atHead m n (tv s') (hv s') t h := rfl
theorem loopQ2_exit {σ : Type} (n : Nat) (I : σ → Prop) (μ : σ → Nat) (tv : σ → List (Nat × Value)) (hv : σ → AH) (s : σ) (i : Nat) : loopQ2 m n I μ tv hv s Q (.exit i) t h = Q (.exit i) t h := rfl
theorem loopQ2_ret {σ : Type} (n : Nat) (I : σ → Prop) (μ : σ → Nat) (tv : σ → List (Nat × Value)) (hv : σ → AH) (s : σ) : loopQ2 m n I μ tv hv s Q .ret t h = Q .ret t h := rfl

theorem loop2 (hmix : P.follows .mixedOrders = true) {ac : ACode} {σ : Type} (n : Nat) (I : σ → Prop) (μ : σ → Nat) (tv : σ → List (Nat × Value)) (hv : σ → AH) (s0 : σ) (h0 : I s0 ∧ atHead m n (tv s0) (hv s0) t h)
    (hr : ∀ s, I s → begin_ P m (mkT n (tv s)) ac (hv s) (loopQ2 m n I μ tv hv s Q)) : ALoop P m ac t h Q := by
  have key : ∀ N s, μ s = N → I s → ∀ c, cCode P c = some ac → ARounds P m c Q (N + 1) (mkT n (tv s)) (hv s) := by
    intro N
    induction N using Nat.strongRecOn with
    | _ N ih =>
      intro s hs hI c hc
      have hb := hr s hI
      unfold begin_ run at hb
      have hw := W_sound (holds := fun p => p) hmix (fun h => h) (fun _ _ _ _ h => h) (fun c ac t h K hc hl => hl c hc) c ac _ _ _ hc hb
      refine AWp.mono hw fun e t' h' hq => ?_
      cases e with
      | normal =>
        obtain ⟨s', hlt, hI', ha⟩ := hq
        obtain ⟨h1, h2, h3, h4, h5, h6⟩ := ha
        have hrec := ih (μ s') (by omega) s' rfl hI' c hc
        have hrec2 := ARounds.more (μ s' + 1) N _ _ (by omega) hrec
        cases N with
        | zero => exact hrec2
        | succ N =>
          show AWp P m c _ t' h'
          refine awp_less (by rw [mkT_length, h1]) (fun i v hi => ?_) h4 h5 h6 hrec2
          have hm := mkT_get hi
          have e := h2 _ hm
          refine ⟨?_, h3 _ hm⟩
          rw [getT_eq] at e
          cases hx : t'[i]? with
          | none => simp only [hx] at e; cases e
          | some o => simp only [hx, Option.join_some] at e; rw [e]
      | exit id => exact hq
      | ret => exact hq
  refine atHead_less h0.2 fun c hc => ?_
  exact awp_rounds _ (key _ s0 rfl h0.1 c hc)
theorem reps_zero (z : List Value) : reps z 0 = [] := rfl
theorem reps_succ (z : List Value) (n : Nat) : reps z (n + 1) = z ++ reps z n := rfl
theorem splice_one (vs : List Value) (o : Nat) (v : Value) : splice vs o [v] = vs.set o v := rfl

theorem onB_true {R : Type _} (a b bot : R) : onB (some (.bool true)) a b bot = a := rfl
theorem onB_false {R : Type _} (a b bot : R) : onB (some (.bool false)) a b bot = b := rfl

theorem evMm_max (k k' : IntKind) (a b : Int) : evMm true [.int k a, .int k' b] = some (.int k (max a b)) := by
  simp only [evMm, evMmL, if_true]
  congr 2
  split <;> omega
theorem evMm_min (k k' : IntKind) (a b : Int) : evMm false [.int k a, .int k' b] = some (.int k (min a b)) := by
  simp only [evMm, evMmL, Bool.false_eq_true, if_false]
  congr 2
  split <;> omega

theorem nsl (n : Nat) : (n + 1 ≤ n) = False := by simp
attribute [irreducible] run runO runD resK resume condK goT stepP stepF stepL stepC callK step wantK goD gateD stepDP stepDR stepDF stepDL stepDC callD stepD wantD openD finQ finV begin_ begT mkT nones holes getT setT askD holesB rdF

end Abs
end Go.Proofs.Ytekhadlpcdjlpaa
