import Derived.Test.YtongllppbifiaaaW2
namespace Go.Proofs.Ytongllppbifiaaa
namespace Abs
open Go
set_option linter.unusedVariables false
set_option linter.unusedSimpArgs false
inductive Frm where
 | code (c : ACode)
 | blk (id : Nat)
def resume (P : Program) (m : Nat) : List Frm → AExit → T → AH → (AExit → T → AH → Prop) → Prop
 | [],e,t,h,Q => Q e t h
 | .code c :: s,.normal,t,h,Q => W P False (AC2 P) (ALoop P m) c t h (fun e t h => resume P m s e t h Q)
 | .code _ :: s,.exit i,t,h,Q => resume P m s (.exit i) t h Q
 | .code _ :: s,.ret,t,h,Q => resume P m s .ret t h Q
 | .blk id :: s,.exit i,t,h,Q => if i = id then resume P m s .normal t h Q else resume P m s (.exit i) t h Q
 | .blk _ :: s,.normal,t,h,Q => resume P m s .normal t h Q
 | .blk _ :: s,.ret,t,h,Q => resume P m s .ret t h Q
def resK (P : Program) (m : Nat) (s : List Frm) (Q : AExit → T → AH → Prop) : AExit → T → AH → Prop := fun e t h => resume P m s e t h Q
def run (P : Program) (m : Nat) (c : ACode) (s : List Frm) (t : T) (h : AH) (Q : AExit → T → AH → Prop) : Prop := W P False (AC2 P) (ALoop P m) c t h (resK P m s Q)
def runO (P : Program) (m : Nat) (l : List AOper) (s : List Frm) (t : T) (h : AH) (Q : AExit → T → AH → Prop) : Prop := wOps P False (AC2 P) l t h (resK P m s Q .normal)
def runD (P : Program) (m base : Nat) (l : List DOper) (D : Reads) (s : List Frm) (t : T) (h : AH) (Q : AExit → T → AH → Prop) : Prop := wDrawn P False (AC2 P) base l D t h (resK P m s Q .normal)
variable {P : Program} {m : Nat} {s : List Frm} {t : T} {h : AH} {Q : AExit → T → AH → Prop}
theorem resK_eq (e : AExit) : resK P m s Q e t h = resume P m s e t h Q := rfl
theorem resume_nil (e : AExit) : resume P m [] e t h Q = Q e t h := by cases e <;> rfl
theorem resume_code (c : ACode) : resume P m (.code c :: s) .normal t h Q = run P m c s t h Q := rfl
theorem resume_code_exit (c : ACode) (i : Nat) : resume P m (.code c :: s) (.exit i) t h Q = resume P m s (.exit i) t h Q := rfl
theorem resume_code_ret (c : ACode) : resume P m (.code c :: s) .ret t h Q = resume P m s .ret t h Q := rfl
theorem resume_blk_self (i : Nat) : resume P m (.blk i :: s) (.exit i) t h Q = resume P m s .normal t h Q := by simp [resume]
theorem resume_blk_ne (i j : Nat) (hij : i ≠ j) : resume P m (.blk j :: s) (.exit i) t h Q = resume P m s (.exit i) t h Q := by simp [resume,hij]
theorem resume_blk (i : Nat) : resume P m (.blk i :: s) .normal t h Q = resume P m s .normal t h Q := rfl
theorem resume_blk_ret (i : Nat) : resume P m (.blk i :: s) .ret t h Q = resume P m s .ret t h Q := rfl
theorem run_skip : run P m .skip s t h Q = resume P m s .normal t h Q := rfl
theorem run_exit (i : Nat) : run P m (.exit i) s t h Q = resume P m s (.exit i) t h Q := rfl
theorem run_ret : run P m .ret s t h Q = resume P m s .ret t h Q := rfl
theorem run_ops (l : List AOper) : run P m (.ops l) s t h Q = runO P m l s t h Q := rfl
theorem run_seq (a b : ACode) : run P m (.seq a b) s t h Q = run P m a (.code b :: s) t h Q := by
 unfold run
 simp only [W]
 congr 1
 funext e t h
 cases e <;> rfl
theorem run_block (i : Nat) (a : ACode) : run P m (.block i a) s t h Q = run P m a (.blk i :: s) t h Q := by
 unfold run
 simp only [W]
 congr 1
 funext e t h
 cases e <;> rfl
theorem run_loop (a : ACode) : run P m (.loop a) s t h Q = ALoop P m a t h (resK P m s Q) := rfl
def condK (P : Program) (m : Nat) (o : Option Value) (a b : ACode) (s : List Frm) (t : T) (h : AH) (Q : AExit → T → AH → Prop) : Prop := onB o (run P m a s t h Q) (run P m b s t h Q) False
theorem run_cond (c : Operand) (a b : ACode) : run P m (.cond c a b) s t h Q = condK P m (evalO t c) a b s t h Q := rfl
theorem condK_true (a b : ACode) : condK P m (some (.bool true)) a b s t h Q = run P m a s t h Q := rfl
theorem condK_false (a b : ACode) : condK P m (some (.bool false)) a b s t h Q = run P m b s t h Q := rfl
theorem condK_bool (x : Bool) (a b : ACode) : condK P m (some (.bool x)) a b s t h Q = if x = true then run P m a s t h Q else run P m b s t h Q := by cases x <;> rfl
def goT (P : Program) (m : Nat) (t : T) (l : List AOper) (s : List Frm) (h : AH) (Q : AExit → T → AH → Prop) : Prop := runO P m l s t h Q
theorem goT_eq (l : List AOper) : goT P m t l s h Q = runO P m l s t h Q := rfl
def stepP (P : Program) (m : Nat) (o : Option Value) (d : Option Tmp) (l : List AOper) (s : List Frm) (t : T) (h : AH) (Q : AExit → T → AH → Prop) : Prop := match o with
 | some v => goT P m (t.put d v) l s h Q
 | none => False
theorem stepP_some (v : Value) (d : Option Tmp) (l : List AOper) : stepP P m (some v) d l s t h Q = goT P m (t.put d v) l s h Q := rfl
theorem stepP_none (d : Option Tmp) (l : List AOper) : stepP P m none d l s t h Q = False := rfl
theorem stepP_ite (c : Prop) [Decidable c] (a b : Option Value) (d : Option Tmp) (l : List AOper) : stepP P m (if c then a else b) d l s t h Q = if c then stepP P m a d l s t h Q else stepP P m b d l s t h Q := by split <;> rfl
def stepF (P : Program) (m : Nat) (o : Option (Value × ABlk)) (d : Option Tmp) (l : List AOper) (s : List Frm) (t : T) (h : AH) (Q : AExit → T → AH → Prop) : Prop := match o with
 | some (v,k) => goT P m (t.put d v) l s (h ++ [k]) Q
 | none => False
theorem stepF_some (v : Value) (k : ABlk) (d : Option Tmp) (l : List AOper) : stepF P m (some (v,k)) d l s t h Q = goT P m (t.put d v) l s (h ++ [k]) Q := rfl
theorem stepF_none (d : Option Tmp) (l : List AOper) : stepF P m none d l s t h Q = False := rfl
theorem stepF_ite (c : Prop) [Decidable c] (a b : Option (Value × ABlk)) (d : Option Tmp) (l : List AOper) : stepF P m (if c then a else b) d l s t h Q = if c then stepF P m a d l s t h Q else stepF P m b d l s t h Q := by split <;> rfl
def stepL (P : Program) (m : Nat) (o : Option (Value × AH)) (d : Option Tmp) (l : List AOper) (s : List Frm) (t : T) (Q : AExit → T → AH → Prop) : Prop := match o with
 | some (v,h) => goT P m (t.put d v) l s h Q
 | none => False
theorem stepL_some (v : Value) (h : AH) (d : Option Tmp) (l : List AOper) : stepL P m (some (v,h)) d l s t Q = goT P m (t.put d v) l s h Q := rfl
theorem stepL_none (d : Option Tmp) (l : List AOper) : stepL P m none d l s t Q = False := rfl
theorem stepL_ite (c : Prop) [Decidable c] (a b : Option (Value × AH)) (d : Option Tmp) (l : List AOper) : stepL P m (if c then a else b) d l s t Q = if c then stepL P m a d l s t Q else stepL P m b d l s t Q := by split <;> rfl
def callK (P : Program) (m : Nat) (d : Option Tmp) (l : List AOper) (s : List Frm) (t : T) (Q : AExit → T → AH → Prop) : Value → AH → Prop := fun v h => goT P m (t.put d v) l s h Q
theorem callK_eq (v : Value) (h : AH) (d : Option Tmp) (l : List AOper) : callK P m d l s t Q v h = goT P m (t.put d v) l s h Q := rfl
def stepC (P : Program) (m : Nat) (o : Option (FuncId × List Value)) (d : Option Tmp) (l : List AOper) (s : List Frm) (t : T) (h : AH) (Q : AExit → T → AH → Prop) : Prop := match o with
 | some (f,args) => AC P f args h (callK P m d l s t Q)
 | none => False
theorem stepC_some (f : FuncId) (args : List Value) (d : Option Tmp) (l : List AOper) : stepC P m (some (f,args)) d l s t h Q = AC P f args h (callK P m d l s t Q) := rfl
theorem stepC_none (d : Option Tmp) (l : List AOper) : stepC P m none d l s t h Q = False := rfl
def stepI (P : Program) (m : Nat) (o : Option (FuncId × List Value)) (d : Option Tmp) (l : List AOper) (s : List Frm) (t : T) (h : AH) (Q : AExit → T → AH → Prop) : Prop := match o with
 | some (f,args) => IC P f args h (callK P m d l s t Q)
 | none => False
theorem stepI_some (f : FuncId) (args : List Value) (d : Option Tmp) (l : List AOper) : stepI P m (some (f,args)) d l s t h Q = IC P f args h (callK P m d l s t Q) := rfl
theorem stepI_none (d : Option Tmp) (l : List AOper) : stepI P m none d l s t h Q = False := rfl
def step (P : Program) (m : Nat) (kd : Nat) (x : AOper) (l : List AOper) (s : List Frm) (t : T) (h : AH) (Q : AExit → T → AH → Prop) : Prop := match kd with
 | 0 => stepP P m (evP P t x.op) x.dst l s t h Q
 | 1 => stepP P m (evR t h x.op) x.dst l s t h Q
 | 2 => stepF P m (evF t h.length x.op) x.dst l s t h Q
 | 3 => stepL P m (evL t h x.op) x.dst l s t Q
 | 5 => stepI P m (evI t x.op) x.dst l s t h Q
 | _ => stepC P m (evC t x.op) x.dst l s t h Q
theorem step_0 (x : AOper) (l : List AOper) : step P m 0 x l s t h Q = stepP P m (evP P t x.op) x.dst l s t h Q := rfl
theorem step_1 (x : AOper) (l : List AOper) : step P m 1 x l s t h Q = stepP P m (evR t h x.op) x.dst l s t h Q := rfl
theorem step_2 (x : AOper) (l : List AOper) : step P m 2 x l s t h Q = stepF P m (evF t h.length x.op) x.dst l s t h Q := rfl
theorem step_3 (x : AOper) (l : List AOper) : step P m 3 x l s t h Q = stepL P m (evL t h x.op) x.dst l s t Q := rfl
theorem step_5 (x : AOper) (l : List AOper) : step P m 5 x l s t h Q = stepI P m (evI t x.op) x.dst l s t h Q := rfl
theorem step_4 (x : AOper) (l : List AOper) : step P m 4 x l s t h Q = stepC P m (evC t x.op) x.dst l s t h Q := rfl
def wantK (P : Program) (m : Nat) (o : Option Bool) (x : AOper) (l : List AOper) (s : List Frm) (t : T) (h : AH) (Q : AExit → T → AH → Prop) : Prop := match o with
 | some true => step P m (kd x.op) x l s t h Q
 | some false => goT P m (t.put x.dst undef) l s h Q
 | none => False
theorem wantK_true (x : AOper) (l : List AOper) : wantK P m (some true) x l s t h Q = step P m (kd x.op) x l s t h Q := rfl
theorem wantK_false (x : AOper) (l : List AOper) : wantK P m (some false) x l s t h Q = goT P m (t.put x.dst undef) l s h Q := rfl
theorem wantK_none (x : AOper) (l : List AOper) : wantK P m none x l s t h Q = False := rfl
theorem wantK_some (b : Bool) (x : AOper) (l : List AOper) : wantK P m (some b) x l s t h Q = if b = true then step P m (kd x.op) x l s t h Q else goT P m (t.put x.dst undef) l s h Q := by cases b <;> rfl
theorem runO_nil : runO P m [] s t h Q = resume P m s .normal t h Q := rfl
theorem runO_plain (d : Option Tmp) (op : AOp) (l : List AOper) : runO P m (⟨d,op,none⟩ :: l) s t h Q = step P m (kd op) ⟨d,op,none⟩ l s t h Q := by
 unfold runO step stepP stepF stepL stepC stepI goT
 simp only [wOps,wantedA,onW]
 have h5 := @evC_lt t op
 have h6 := @evI_ge t op
 generalize evP P t op = o1
 generalize evR t h op = o2
 generalize evF t h.length op = o3
 generalize evL t h op = o4
 generalize evC t op = o5 at h5 ⊢
 generalize evI t op = o6 at h6 ⊢
 generalize kd op = n
 rcases n with _ | _ | _ | _ | _ | _ | n
 ·cases o1 <;> rfl
 ·cases o2 <;> rfl
 ·cases o3 <;> rfl
 ·cases o4 <;> rfl
 ·cases o5 with
  | none => rfl
  | some x => obtain ⟨f,args⟩ := x; exact AC2_lt (h5 rfl)
 ·cases o6 with
  | none => rfl
  | some x => obtain ⟨f,args⟩ := x; exact AC2_ge (h6 rfl).1
 ·cases o5 with
  | none => rfl
  | some x => obtain ⟨f,args⟩ := x; exact AC2_lt (h5 rfl)
theorem runO_cons (x : AOper) (l : List AOper) : runO P m (x :: l) s t h Q = wantK P m (wantedA t x.guard) x l s t h Q := by
 unfold runO wantK step stepP stepF stepL stepC stepI goT
 simp only [wOps,onW]
 have h5 := @evC_lt t x.op
 have h6 := @evI_ge t x.op
 generalize evP P t x.op = o1
 generalize evR t h x.op = o2
 generalize evF t h.length x.op = o3
 generalize evL t h x.op = o4
 generalize evC t x.op = o5 at h5 ⊢
 generalize evI t x.op = o6 at h6 ⊢
 generalize kd x.op = n
 cases wantedA t x.guard with
 | none => rfl
 | some b =>
  cases b with
  | false => rfl
  | true =>
   rcases n with _ | _ | _ | _ | _ | _ | n
   ·cases o1 <;> rfl
   ·cases o2 <;> rfl
   ·cases o3 <;> rfl
   ·cases o4 <;> rfl
   ·cases o5 with
    | none => rfl
    | some x => obtain ⟨f,args⟩ := x; exact AC2_lt (h5 rfl)
   ·cases o6 with
    | none => rfl
    | some x => obtain ⟨f,args⟩ := x; exact AC2_ge (h6 rfl).1
   ·cases o5 with
    | none => rfl
    | some x => obtain ⟨f,args⟩ := x; exact AC2_lt (h5 rfl)
def getT : T → Nat → Option Value
 | [],_ => none
 | x :: _,0 => x
 | _ :: l,n + 1 => getT l n
theorem getT_eq : ∀ (t : T) (i : Nat),getT t i = t[i]?.join
 | [],i => by simp [getT]
 | x :: l,0 => by simp [getT]
 | x :: l,n + 1 => by simp [getT,getT_eq l n]
theorem evO_tmp (t : T) (i : Nat) : evalO t (.tmp i) = getT t i := (getT_eq t i).symm
theorem evO_const (t : T) (v : Value) : evalO t (.const v) = if plain v then some v else none := rfl
theorem evO_func (t : T) (f : FuncId) : evalO t (.func f) = some (.func (.func f) #[] #[]) := rfl
theorem evO_global (t : T) (g : Nat) : evalO t (.global g) = none := rfl
theorem getT_0 (x : Option Value) (l : T) : getT (x :: l) 0 = x := rfl
theorem getT_1 (a x : Option Value) (l : T) : getT (a :: x :: l) 1 = x := rfl
theorem getT_2 (a b x : Option Value) (l : T) : getT (a :: b :: x :: l) 2 = x := rfl
theorem getT_3 (a b c x : Option Value) (l : T) : getT (a :: b :: c :: x :: l) 3 = x := rfl
theorem getT_s4 (a b c d : Option Value) (l : T) (n : Nat) : getT (a :: b :: c :: d :: l) (n + 4) = getT l n := rfl
theorem getT_s16 (a b c d a1 b1 c1 d1 a2 b2 c2 d2 a3 b3 c3 d3 : Option Value) (l : T) (n : Nat) : getT (a :: b :: c :: d :: a1 :: b1 :: c1 :: d1 :: a2 :: b2 :: c2 :: d2 :: a3 :: b3 :: c3 :: d3 :: l) (n + 16) = getT l n := rfl
def setT : T → Nat → Option Value → T
 | [],_,_ => []
 | _ :: l,0,v => v :: l
 | x :: l,n + 1,v => x :: setT l n v
theorem setT_eq : ∀ (t : T) (i : Nat) (v : Option Value),t.set i v = setT t i v
 | [],i,v => by simp [setT]
 | x :: l,0,v => by simp [setT]
 | x :: l,n + 1,v => by simp [setT,setT_eq l n]
theorem put_some (t : T) (d : Tmp) (v : Value) : T.put t (some d) v = setT t d (some v) := setT_eq t d (some v)
theorem put_none (t : T) (v : Value) : T.put t none v = t := rfl
theorem setT_0 (x v : Option Value) (l : T) : setT (x :: l) 0 v = v :: l := rfl
theorem setT_1 (a x v : Option Value) (l : T) : setT (a :: x :: l) 1 v = a :: v :: l := rfl
theorem setT_2 (a b x v : Option Value) (l : T) : setT (a :: b :: x :: l) 2 v = a :: b :: v :: l := rfl
theorem setT_3 (a b c x v : Option Value) (l : T) : setT (a :: b :: c :: x :: l) 3 v = a :: b :: c :: v :: l := rfl
theorem setT_s4 (a b c d v : Option Value) (l : T) (n : Nat) : setT (a :: b :: c :: d :: l) (n + 4) v = a :: b :: c :: d :: setT l n v := rfl
theorem setT_s16 (a b c d a1 b1 c1 d1 a2 b2 c2 d2 a3 b3 c3 d3 v : Option Value) (l : T) (n : Nat) : setT (a :: b :: c :: d :: a1 :: b1 :: c1 :: d1 :: a2 :: b2 :: c2 :: d2 :: a3 :: b3 :: c3 :: d3 :: l) (n + 16) v = a :: b :: c :: d :: a1 :: b1 :: c1 :: d1 :: a2 :: b2 :: c2 :: d2 :: a3 :: b3 :: c3 :: d3 :: setT l n v := rfl
def rdF (t : T) (op : AOp) : AH → Option Value := fun h => evR t h op
theorem rdF_eq (op : AOp) : rdF t op h = evR t h op := rfl
def sameO (o : Option Value) (v : Value) : Bool := match o with
 | some u => veq u v
 | none => false
theorem sameO_some (u v : Value) : sameO (some u) v = veq u v := rfl
theorem sameO_none (v : Value) : sameO none v = false := rfl
def askD (l : List Nat) (D : Reads) (h : AH) : Bool := chkD l D h
theorem askD_nil (l : List Nat) : askD l [] h = true := rfl
theorem askD_none (D : Reads) : askD [] D h = true := by
 unfold askD chkD
 induction D with
 | nil => rfl
 | cons d D ih => simp
theorem askD_cons (l : List Nat) (i : Nat) (f : AH → Option Value) (v : Value) (D : Reads) : askD l ((i,f,v) :: D) h = ((!(l.contains i) || sameO (f h) v) && askD l D h) := by
 simp only [askD,chkD,List.all_cons,sameO]
 rfl
def holesB (base : Nat) (l : List DOper) (h : AH) : Bool := l.all (fun e => kd e.x.op != 2 || isHole h (base + e.fi))
theorem holesB_nil (base : Nat) : holesB base [] h = true := rfl
theorem holesB_cons (base : Nat) (e : DOper) (l : List DOper) : holesB base (e :: l) h = ((kd e.x.op != 2 || isHole h (base + e.fi)) && holesB base l h) := rfl
def goD (P : Program) (m base : Nat) (t : T) (h : AH) (l : List DOper) (D : Reads) (s : List Frm) (Q : AExit → T → AH → Prop) : Prop := runD P m base l D s t h Q
theorem goD_eq (base : Nat) (l : List DOper) (D : Reads) : goD P m base t h l D s Q = runD P m base l D s t h Q := rfl
def gateD (P : Program) (m base : Nat) (b : Bool) (t : T) (h : AH) (l : List DOper) (D : Reads) (s : List Frm) (Q : AExit → T → AH → Prop) : Prop := if b then goD P m base t h l D s Q else False
theorem gateD_true (base : Nat) (l : List DOper) (D : Reads) : gateD P m base true t h l D s Q = goD P m base t h l D s Q := rfl
theorem gateD_false (base : Nat) (l : List DOper) (D : Reads) : gateD P m base false t h l D s Q = False := rfl
def stepDP (P : Program) (m base : Nat) (o : Option Value) (d : Option Tmp) (l : List DOper) (D : Reads) (s : List Frm) (t : T) (h : AH) (Q : AExit → T → AH → Prop) : Prop := match o with
 | some v => goD P m base (t.put d v) h l D s Q
 | none => False
theorem stepDP_some (base : Nat) (v : Value) (d : Option Tmp) (l : List DOper) (D : Reads) : stepDP P m base (some v) d l D s t h Q = goD P m base (t.put d v) h l D s Q := rfl
theorem stepDP_none (base : Nat) (d : Option Tmp) (l : List DOper) (D : Reads) : stepDP P m base none d l D s t h Q = False := rfl
theorem stepDP_ite (base : Nat) (c : Prop) [Decidable c] (a b : Option Value) (d : Option Tmp) (l : List DOper) (D : Reads) : stepDP P m base (if c then a else b) d l D s t h Q = if c then stepDP P m base a d l D s t h Q else stepDP P m base b d l D s t h Q := by split <;> rfl
def stepDR (P : Program) (m base i : Nat) (o : Option Value) (op : AOp) (d : Option Tmp) (l : List DOper) (D : Reads) (s : List Frm) (t : T) (h : AH) (Q : AExit → T → AH → Prop) : Prop := match o with
 | some v => goD P m base (t.put d v) h l ((i,rdF t op,v) :: D) s Q
 | none => False
theorem stepDR_some (base i : Nat) (v : Value) (op : AOp) (d : Option Tmp) (l : List DOper) (D : Reads) : stepDR P m base i (some v) op d l D s t h Q = goD P m base (t.put d v) h l ((i,rdF t op,v) :: D) s Q := rfl
theorem stepDR_none (base i : Nat) (op : AOp) (d : Option Tmp) (l : List DOper) (D : Reads) : stepDR P m base i none op d l D s t h Q = False := rfl
theorem stepDR_ite (base i : Nat) (c : Prop) [Decidable c] (a b : Option Value) (op : AOp) (d : Option Tmp) (l : List DOper) (D : Reads) : stepDR P m base i (if c then a else b) op d l D s t h Q = if c then stepDR P m base i a op d l D s t h Q else stepDR P m base i b op d l D s t h Q := by split <;> rfl
def stepDF (P : Program) (m base n : Nat) (o : Option (Value × ABlk)) (d : Option Tmp) (l : List DOper) (D : Reads) (s : List Frm) (t : T) (h : AH) (Q : AExit → T → AH → Prop) : Prop := match o with
 | some (v,k) => gateD P m base (isHole h n) (t.put d v) (h.set n k) l D s Q
 | none => False
theorem stepDF_some (base n : Nat) (v : Value) (k : ABlk) (d : Option Tmp) (l : List DOper) (D : Reads) : stepDF P m base n (some (v,k)) d l D s t h Q = gateD P m base (isHole h n) (t.put d v) (h.set n k) l D s Q := rfl
theorem stepDF_none (base n : Nat) (d : Option Tmp) (l : List DOper) (D : Reads) : stepDF P m base n none d l D s t h Q = False := rfl
theorem stepDF_ite (base n : Nat) (c : Prop) [Decidable c] (a b : Option (Value × ABlk)) (d : Option Tmp) (l : List DOper) (D : Reads) : stepDF P m base n (if c then a else b) d l D s t h Q = if c then stepDF P m base n a d l D s t h Q else stepDF P m base n b d l D s t h Q := by split <;> rfl
def stepDL (P : Program) (m base : Nat) (o : Option (Value × AH)) (ck : List Nat) (d : Option Tmp) (l : List DOper) (D : Reads) (s : List Frm) (t : T) (Q : AExit → T → AH → Prop) : Prop := match o with
 | some (v,h) => gateD P m base (askD ck D h) (t.put d v) h l D s Q
 | none => False
theorem stepDL_some (base : Nat) (v : Value) (h : AH) (ck : List Nat) (d : Option Tmp) (l : List DOper) (D : Reads) : stepDL P m base (some (v,h)) ck d l D s t Q = gateD P m base (askD ck D h) (t.put d v) h l D s Q := rfl
theorem stepDL_none (base : Nat) (ck : List Nat) (d : Option Tmp) (l : List DOper) (D : Reads) : stepDL P m base none ck d l D s t Q = False := rfl
theorem stepDL_ite (base : Nat) (c : Prop) [Decidable c] (a b : Option (Value × AH)) (ck : List Nat) (d : Option Tmp) (l : List DOper) (D : Reads) : stepDL P m base (if c then a else b) ck d l D s t Q = if c then stepDL P m base a ck d l D s t Q else stepDL P m base b ck d l D s t Q := by split <;> rfl
def callD (P : Program) (m base : Nat) (ck : List Nat) (d : Option Tmp) (l : List DOper) (D : Reads) (s : List Frm) (t : T) (Q : AExit → T → AH → Prop) : Value → AH → Prop := fun v h => gateD P m base (askD ck D h && holesB base l h) (t.put d v) h l D s Q
theorem callD_eq (base : Nat) (v : Value) (h : AH) (ck : List Nat) (d : Option Tmp) (l : List DOper) (D : Reads) : callD P m base ck d l D s t Q v h = gateD P m base (askD ck D h && holesB base l h) (t.put d v) h l D s Q := rfl
def stepDC (P : Program) (m base : Nat) (o : Option (FuncId × List Value)) (ck : List Nat) (d : Option Tmp) (l : List DOper) (D : Reads) (s : List Frm) (t : T) (h : AH) (Q : AExit → T → AH → Prop) : Prop := match o with
 | some (f,args) => AC P f args h (callD P m base ck d l D s t Q)
 | none => False
theorem stepDC_some (base : Nat) (f : FuncId) (args : List Value) (ck : List Nat) (d : Option Tmp) (l : List DOper) (D : Reads) : stepDC P m base (some (f,args)) ck d l D s t h Q = AC P f args h (callD P m base ck d l D s t Q) := rfl
theorem stepDC_none (base : Nat) (ck : List Nat) (d : Option Tmp) (l : List DOper) (D : Reads) : stepDC P m base none ck d l D s t h Q = False := rfl
def stepD (P : Program) (m base kd : Nat) (x : DOper) (l : List DOper) (D : Reads) (s : List Frm) (t : T) (h : AH) (Q : AExit → T → AH → Prop) : Prop := match kd with
 | 0 => stepDP P m base (evP P t x.x.op) x.x.dst l D s t h Q
 | 1 => stepDR P m base x.i (evR t h x.x.op) x.x.op x.x.dst l D s t h Q
 | 2 => stepDF P m base (base + x.fi) (evF t (base + x.fi) x.x.op) x.x.dst l D s t h Q
 | 3 => stepDL P m base (evL t h x.x.op) x.chk x.x.dst l D s t Q
 | _ => stepDC P m base (evC t x.x.op) x.chk x.x.dst l D s t h Q
theorem stepD_0 (base : Nat) (x : DOper) (l : List DOper) (D : Reads) : stepD P m base 0 x l D s t h Q = stepDP P m base (evP P t x.x.op) x.x.dst l D s t h Q := rfl
theorem stepD_1 (base : Nat) (x : DOper) (l : List DOper) (D : Reads) : stepD P m base 1 x l D s t h Q = stepDR P m base x.i (evR t h x.x.op) x.x.op x.x.dst l D s t h Q := rfl
theorem stepD_2 (base : Nat) (x : DOper) (l : List DOper) (D : Reads) : stepD P m base 2 x l D s t h Q = stepDF P m base (base + x.fi) (evF t (base + x.fi) x.x.op) x.x.dst l D s t h Q := rfl
theorem stepD_3 (base : Nat) (x : DOper) (l : List DOper) (D : Reads) : stepD P m base 3 x l D s t h Q = stepDL P m base (evL t h x.x.op) x.chk x.x.dst l D s t Q := rfl
theorem stepD_4 (base : Nat) (x : DOper) (l : List DOper) (D : Reads) : stepD P m base 4 x l D s t h Q = stepDC P m base (evC t x.x.op) x.chk x.x.dst l D s t h Q := rfl
def wantD (P : Program) (m base : Nat) (o : Option Bool) (x : DOper) (l : List DOper) (D : Reads) (s : List Frm) (t : T) (h : AH) (Q : AExit → T → AH → Prop) : Prop := match o with
 | some true => stepD P m base (kd x.x.op) x l D s t h Q
 | some false => goD P m base (t.put x.x.dst undef) h l D s Q
 | none => False
theorem wantD_true (base : Nat) (x : DOper) (l : List DOper) (D : Reads) : wantD P m base (some true) x l D s t h Q = stepD P m base (kd x.x.op) x l D s t h Q := rfl
theorem wantD_false (base : Nat) (x : DOper) (l : List DOper) (D : Reads) : wantD P m base (some false) x l D s t h Q = goD P m base (t.put x.x.dst undef) h l D s Q := rfl
theorem wantD_none (base : Nat) (x : DOper) (l : List DOper) (D : Reads) : wantD P m base none x l D s t h Q = False := rfl
theorem wantD_some (base : Nat) (b : Bool) (x : DOper) (l : List DOper) (D : Reads) : wantD P m base (some b) x l D s t h Q = if b = true then stepD P m base (kd x.x.op) x l D s t h Q else goD P m base (t.put x.x.dst undef) h l D s Q := by cases b <;> rfl
theorem runD_nil (base : Nat) (D : Reads) : runD P m base [] D s t h Q = resume P m s .normal t h Q := rfl
theorem runD_cons (base : Nat) (x : DOper) (l : List DOper) (D : Reads) : runD P m base (x :: l) D s t h Q = wantD P m base (wantedA t x.x.guard) x l D s t h Q := by
 unfold runD wantD stepD stepDP stepDR stepDF stepDL stepDC gateD goD
 simp only [wDrawn,onW]
 have h5 := @evC_lt t x.x.op
 generalize evP P t x.x.op = o1
 generalize evR t h x.x.op = o2
 generalize evF t (base + x.fi) x.x.op = o3
 generalize evL t h x.x.op = o4
 generalize evC t x.x.op = o5 at h5 ⊢
 generalize kd x.x.op = n
 cases wantedA t x.x.guard with
 | none => rfl
 | some b =>
  cases b with
  | false => rfl
  | true =>
   rcases n with _ | _ | _ | _ | n
   ·cases o1 <;> rfl
   ·cases o2 <;> rfl
   ·cases o3 <;> rfl
   ·cases o4 <;> rfl
   ·cases o5 with
    | none => rfl
    | some x => obtain ⟨f,args⟩ := x; exact AC2_lt (h5 rfl)
def openD (P : Program) (m base : Nat) (h : AH) (l : List DOper) (s : List Frm) (t : T) (Q : AExit → T → AH → Prop) : Prop := runD P m base l [] s t h Q
theorem openD_eq (base : Nat) (l : List DOper) : openD P m base h l s t Q = runD P m base l [] s t h Q := rfl
def holes : Nat → AH
 | 0 => []
 | n + 1 => .hole :: holes n
theorem holes_eq : ∀ n,holes n = List.replicate n .hole
 | 0 => rfl
 | n + 1 => by simp [holes,List.replicate_succ,holes_eq n]
theorem holes_0 : holes 0 = [] := rfl
theorem holes_s (n : Nat) : holes (n + 1) = .hole :: holes n := rfl
theorem run_drawn (nh : Nat) (l : List DOper) : run P m (.drawn nh l) s t h Q = openD P m h.length (h ++ holes nh) l s t Q := by rw [holes_eq]; rfl
def finQ (res : List ARes) (K : Value → AH → Prop) : AExit → T → AH → Prop := fun e t h => match e with
 | .exit _ => False
 | _ => match evRes t h res with
  | some vs => K (oneOf vs) h
  | none => False
def finV (o : Option (List Value)) (h : AH) (K : Value → AH → Prop) : Prop := match o with
 | some vs => K (oneOf vs) h
 | none => False
theorem finQ_normal (res : List ARes) (K : Value → AH → Prop) : finQ res K .normal t h = finV (evRes t h res) h K := rfl
theorem finQ_ret (res : List ARes) (K : Value → AH → Prop) : finQ res K .ret t h = finV (evRes t h res) h K := rfl
theorem finV_some (vs : List Value) (K : Value → AH → Prop) : finV (some vs) h K = K (oneOf vs) h := rfl
theorem finV_none (K : Value → AH → Prop) : finV none h K = False := rfl
theorem oneOf_one (v : Value) : oneOf [v] = v := rfl
theorem oneOf_nil : oneOf [] = .tuple #[] := rfl
theorem oneOf_more (v u : Value) (l : List Value) : oneOf (v :: u :: l) = .tuple (v :: u :: l).toArray := rfl
def nones : Nat → T
 | 0 => []
 | n + 1 => none :: nones n
theorem nones_eq : ∀ n,nones n = List.replicate n none
 | 0 => rfl
 | n + 1 => by simp [nones,List.replicate_succ,nones_eq n]
theorem nones_0 : nones 0 = [] := rfl
theorem nones_1 : nones 1 = [none] := rfl
theorem nones_2 : nones 2 = [none,none] := rfl
theorem nones_3 : nones 3 = [none,none,none] := rfl
theorem nones_s4 (n : Nat) : nones (n + 4) = none :: none :: none :: none :: nones n := rfl
def begT (args : List Value) (n : Nat) : T := args.map some ++ nones (n - args.length)
def begin_ (P : Program) (m : Nat) (t : T) (c : ACode) (h : AH) (Q : AExit → T → AH → Prop) : Prop := run P m c [] t h Q
theorem begin_eq (c : ACode) : begin_ P m t c h Q = run P m c [] t h Q := rfl
theorem entry (hmix : P.follows .mixedOrders = true) {f : FuncId} {n : Nat} {res : List ARes} {body : ACode} (hf : cFunc P f = some ⟨n,res,body⟩) {args : List Value} {K : Value → AH → Prop} (hw : begin_ P h.length (begT args n) body h (finQ res K)) : AC P f args h K := by
 refine contract hmix hf ?_
 unfold begin_ begT run at hw
 rw [nones_eq] at hw
 unfold wFunc initT
 have e : resK P h.length [] (finQ res K) = fun e t h => match e with
  | .exit _ => False
  | _ => match evRes t h res with
   | some vs => K (oneOf vs) h
   | none => False := by
  funext e t h
  cases e <;> rfl
 rw [e] at hw
 exact hw
def loopQ {σ : Type} (I : σ → T → AH → Prop) (μ : σ → Nat) (s : σ) (Q : AExit → T → AH → Prop) : AExit → T → AH → Prop
 | .normal, t, h => ∃ s', μ s' < μ s ∧ I s' t h
 | e,t,h => Q e t h
theorem loopQ_normal {σ : Type} (I : σ → T → AH → Prop) (μ : σ → Nat) (s : σ) : loopQ I μ s Q .normal t h = ∃ s', μ s' < μ s ∧ I s' t h := rfl
theorem loopQ_exit {σ : Type} (I : σ → T → AH → Prop) (μ : σ → Nat) (s : σ) (i : Nat) : loopQ I μ s Q (.exit i) t h = Q (.exit i) t h := rfl
theorem loopQ_ret {σ : Type} (I : σ → T → AH → Prop) (μ : σ → Nat) (s : σ) : loopQ I μ s Q .ret t h = Q .ret t h := rfl
def mkT : Nat → List (Nat × Value) → T
 | n,[] => nones n
 | n,(i,v) :: l => setT (mkT n l) i (some v)
theorem mkT_nil (n : Nat) : mkT n [] = nones n := rfl
theorem mkT_cons (n i : Nat) (v : Value) (l : List (Nat × Value)) : mkT n ((i,v) :: l) = setT (mkT n l) i (some v) := rfl
theorem mkT_length (n : Nat) (l : List (Nat × Value)) : (mkT n l).length = n := by
 induction l with
 | nil => simp [mkT,nones_eq]
 | cons x l ih => obtain ⟨i,v⟩ := x; rw [mkT_cons,← setT_eq]; simpa using ih
theorem mkT_get {n : Nat} {l : List (Nat × Value)} {i : Nat} {v : Value} (h : (mkT n l)[i]? = some (some v)) : (i,v) ∈ l := by
 induction l with
 | nil => simp [mkT,nones_eq,List.getElem?_replicate] at h
 | cons x l ih =>
  obtain ⟨j,u⟩ := x
  rw [mkT_cons,← setT_eq,List.getElem?_set] at h
  split at h
  ·rename_i e
   split at h
   ·injection h with h
    injection h with h
    subst e h
    exact List.mem_cons_self
   ·cases h
  ·exact List.mem_cons_of_mem _ (ih h)
def atHead (m n : Nat) (l : List (Nat × Value)) (g : AH) (t : T) (h : AH) : Prop :=
 t.length = n ∧ (∀ x ∈ l,getT t x.1 = some x.2) ∧ (∀ x ∈ l,scp (live g) x.2 = true) ∧ g = h.take g.length ∧ AOK g ∧ m ≤ g.length
def loopQ2 {σ : Type} (m n : Nat) (I : σ → Prop) (μ : σ → Nat) (tv : σ → List (Nat × Value)) (hv : σ → AH) (s : σ) (Q : AExit → T → AH → Prop) : AExit → T → AH → Prop
 | .normal, t, h => ∃ s', μ s' < μ s ∧ I s' ∧ atHead m n (tv s') (hv s') t h
 | e,t,h => Q e t h
theorem loopQ2_normal {σ : Type} (n : Nat) (I : σ → Prop) (μ : σ → Nat) (tv : σ → List (Nat × Value)) (hv : σ → AH) (s : σ) : loopQ2 m n I μ tv hv s Q .normal t h = ∃ s', μ s' < μ s ∧ I s' ∧ atHead m n (tv s') (hv s') t h := rfl
theorem loopQ2_exit {σ : Type} (n : Nat) (I : σ → Prop) (μ : σ → Nat) (tv : σ → List (Nat × Value)) (hv : σ → AH) (s : σ) (i : Nat) : loopQ2 m n I μ tv hv s Q (.exit i) t h = Q (.exit i) t h := rfl
theorem loopQ2_ret {σ : Type} (n : Nat) (I : σ → Prop) (μ : σ → Nat) (tv : σ → List (Nat × Value)) (hv : σ → AH) (s : σ) : loopQ2 m n I μ tv hv s Q .ret t h = Q .ret t h := rfl
theorem reps_zero (z : List Value) : reps z 0 = [] := rfl
theorem reps_succ (z : List Value) (n : Nat) : reps z (n + 1) = z ++ reps z n := rfl
theorem splice_one (vs : List Value) (o : Nat) (v : Value) : splice vs o [v] = vs.set o v := rfl
theorem onB_true {R : Type _} (a b bot : R) : onB (some (.bool true)) a b bot = a := rfl
theorem onB_false {R : Type _} (a b bot : R) : onB (some (.bool false)) a b bot = b := rfl
theorem evMm_max (k k' : IntKind) (a b : Int) : evMm true [.int k a,.int k' b] = some (.int k (max a b)) := by
 simp only [evMm,evMmL,if_true]
 congr 2
 split <;> omega
theorem evMm_min (k k' : IntKind) (a b : Int) : evMm false [.int k a,.int k' b] = some (.int k (min a b)) := by
 simp only [evMm,evMmL,Bool.false_eq_true,if_false]
 congr 2
 split <;> omega
theorem nsl (n : Nat) : (n + 1 ≤ n) = False := by simp
attribute [irreducible] run runO runD resK resume condK goT stepP stepF stepL stepC callK step wantK goD gateD stepDP stepDR stepDF stepDL stepDC callD stepD wantD openD finQ finV begin_ begT mkT nones holes getT setT askD holesB rdF
end Abs
end Go.Proofs.Ytongllppbifiaaa
namespace Go.Proofs.Ytongllppbifiaaa
namespace Abs
open Go
set_option linter.unusedVariables false
set_option linter.unusedSimpArgs false
mutual
theorem ren_id : ∀ v,ren (fun b => b) v = v
 | .pointer (some a) => by simp [ren,renA]
 | .slice (some a) _ _ => by simp [ren,renA]
 | .map (some r) => by simp [ren]
 | .chan (some r) => by simp [ren]
 | .func fn first captured => by simp [ren,renAr_id first,renAr_id captured]
 | .iface t v => by simp [ren,ren_id v]
 | .agg cs => by simp [ren,renAr_id cs]
 | .tuple cs => by simp [ren,renAr_id cs]
 | .pointer none => by simp [ren]
 | .slice none _ _ => by simp [ren]
 | .map none => by simp [ren]
 | .chan none => by simp [ren]
 | .bool b => by simp [ren]
 | .int k n => by simp [ren]
 | .float k n => by simp [ren]
 | .complex k a b => by simp [ren]
 | .string s => by simp [ren]
 | .nilFunc => by simp [ren]
 | .nilIface => by simp [ren]
theorem renAr_id : ∀ v,renAr (fun b => b) v = v
 | ⟨l⟩ => by simp [renAr,renL_id l]
theorem renL_id : ∀ v,renL (fun b => b) v = v
 | [] => by simp [renL]
 | v :: l => by simp [renL,ren_id v,renL_id l]
end
theorem renB_id (k : ABlk) : renB (fun b => b) k = k := by
 have e : ∀ l : List Value,l.map (ren fun b => b) = l := fun l => by
  conv => rhs; rw [← List.map_id l]
  exact List.map_congr_left fun v _ => ren_id v
 cases k with
 | cells vs e' o => simp only [renB,e]
 | row vs => simp only [renB,e]
 | glob g vs => simp only [renB,e]
 | map es c =>
  simp only [renB]
  congr 1
  conv => rhs; rw [← List.map_id es]
  exact List.map_congr_left fun x _ => by simp [ren_id]
 | _ => rfl
def noNames : ABlk → Prop
 | .cells vs _ _ | .row vs | .glob _ vs => ∀ v ∈ vs,plain v = true
 | .map es _ => ∀ e ∈ es,plain e.key = true ∧ plain e.val = true
 | _ => True
theorem renB_noNames {k : ABlk} (h : noNames k) (σ : Nat → Nat) : renB σ k = k := by
 have e : ∀ l : List Value,(∀ v ∈ l,plain v = true) → l.map (ren σ) = l := fun l hl => by
  conv => rhs; rw [← List.map_id l]
  exact List.map_congr_left fun v hv => ren_plain σ v (hl v hv)
 cases k with
 | cells vs e' o => simp only [renB,e vs h]
 | row vs => simp only [renB,e vs h]
 | glob g vs => simp only [renB,e vs h]
 | map es c =>
  simp only [renB]
  congr 1
  conv => rhs; rw [← List.map_id es]
  exact List.map_congr_left fun x hx => by simp [ren_plain σ _ (h x hx).1,ren_plain σ _ (h x hx).2]
 | _ => rfl
theorem scp_noNames {k : ABlk} (h : noNames k) (L : Nat → Bool) : k.scp L := by
 have e : ∀ v,plain v = true → scp L v = true := fun v hv => scp_mono (fun b hb => by cases hb) v hv
 cases k with
 | cells vs e' o => exact fun v hv => e v (h v hv)
 | row vs => exact fun v hv => e v (h v hv)
 | glob g vs => exact fun v hv => e v (h v hv)
 | map es c => exact fun x hx => ⟨e _ (h x hx).1,e _ (h x hx).2⟩
 | _ => trivial
section
variable {P : Program} {f : FuncId} {args : List Value} {h : AH} {K K' : Value → AH → Prop}
def Sees (m : Nat) (h' : AH) (v : Value) (K : Value → AH → Prop) : Prop := ∃ v2 h2 σ us,View σ h2 h' us ∧ AOK h2 ∧ scp (live h2) v2 = true ∧ v = ren σ v2 ∧ (∀ b,b < m → σ b = b) ∧ (∀ b,b < m → live h' b = true → live h2 b = true) ∧ m ≤ h2.length ∧ K v2 h2
theorem AC.sees (hc : AC P f args h (fun v h' => Sees h.length h' v K)) : AC P f args h K := AC.view hc
def opnR (H : AH) (b : Nat) (j : Nat) : Nat := if j = 0 then b else H.length + (j - 1)
def opn (H : AH) (b : Nat) (g : AH) : AH := match g with
 | [] => H
 | k :: g' => H.set b (renB (opnR H b) k) ++ g'.map (renB (opnR H b))
theorem opn_get {H : AH} {b : Nat} {g : AH} (hb : b < H.length) (hg : 0 < g.length) {c : Nat} {k : ABlk} (hc : (opn H b g)[c]? = some k) :
  (∃ (j : Nat) (k0 : ABlk),g[j]? = some k0 ∧ c = opnR H b j ∧ k = renB (opnR H b) k0) ∨ (c ≠ b ∧ c < H.length ∧ H[c]? = some k) := by
 cases g with
 | nil => simp at hg
 | cons k1 g' =>
  simp only [opn] at hc
  by_cases hcl : c < H.length
  ·rw [List.getElem?_append_left (by simpa using hcl)] at hc
   by_cases e : c = b
   ·subst e
    rw [List.getElem?_set_self hcl] at hc
    injection hc with hc
    exact .inl ⟨0,k1,rfl,by simp [opnR],hc.symm⟩
   ·rw [List.getElem?_set_ne (fun h => e h.symm)] at hc
    exact .inr ⟨e,hcl,hc⟩
  ·rw [List.getElem?_append_right (by simpa using hcl)] at hc
   simp only [List.length_set,List.getElem?_map] at hc
   cases hx : g'[c - H.length]? with
   | none => rw [hx] at hc; cases hc
   | some k0 =>
    rw [hx] at hc
    injection hc with hc
    refine .inl ⟨c - H.length + 1,k0,by simpa using hx, ?_,hc.symm⟩
    simp [opnR]
    omega
theorem opn_at {H : AH} {b : Nat} {g : AH} (hb : b < H.length) {j : Nat} {k : ABlk} (hj : g[j]? = some k) : (opn H b g)[opnR H b j]? = some (renB (opnR H b) k) := by
 cases g with
 | nil => simp at hj
 | cons k1 g' =>
  simp only [opn]
  cases j with
  | zero =>
   simp at hj
   subst hj
   rw [show opnR H b 0 = b from rfl,List.getElem?_append_left (by simpa using hb),List.getElem?_set_self hb]
  | succ j =>
   simp at hj
   rw [show opnR H b (j + 1) = H.length + j by simp [opnR],List.getElem?_append_right (by simp),List.length_set,Nat.add_sub_cancel_left,List.getElem?_map,hj]
   rfl
theorem opn_other {H : AH} {b : Nat} {g : AH} {c : Nat} (hc : c < H.length) (hne : c ≠ b) : (opn H b g)[c]? = H[c]? := by
 cases g with
 | nil => rfl
 | cons k1 g' =>
  simp only [opn]
  rw [List.getElem?_append_left (by simpa using hc),List.getElem?_set_ne (fun h => hne h.symm)]
theorem opn_length {H : AH} {b : Nat} {g : AH} (hg : 0 < g.length) : (opn H b g).length = H.length + (g.length - 1) := by
 cases g with
 | nil => simp at hg
 | cons k1 g' => simp [opn]
theorem AC.open {S : Type} {heaps : S → AH → Prop} {s : S} {H : AH} {b : Nat} (hb : H[b]? = some (.adt (mkADT S heaps) s)) (hent : enterB P f = true)
  (ho : ∀ g,heaps s g → own g → live g 0 = true → AC P f args (opn H b g) (fun v h' => Sees H.length h' v K)) : AC P f args H K := by
 refine ⟨hent,fun ρ w us r hs ha => ?_⟩
 obtain ⟨h0,h1,ρi,g,hg,hown,ri,hal,hlive,hF⟩ := r.holds b _ hb
 have hgl : 0 < g.length := live_lt hlive
 have hbl : b < H.length := (List.getElem?_eq_some_iff.1 hb).1
 have hal0 : (ρi 0).al = (ρ b).al := by rw [hal]; simp only [CB.al,h0,h1]
 obtain ⟨ρ2,hρ2⟩ : ∃ ρ2 : Ren,ρ2 = fun c => if c = b then ρi 0 else if c < H.length then ρ c else ρi (c - H.length + 1) := ⟨_,rfl⟩
 have q1 : ∀ j,ρ2 (opnR H b j) = ρi j := by
  intro j
  subst hρ2
  unfold opnR
  by_cases hj : j = 0
  ·simp [hj]
  ·have e1 : ¬ (H.length + (j - 1) = b) := by omega
   have e2 : H.length + (j - 1) - H.length + 1 = j := by omega
   have e3 : ¬ (H.length + (j - 1) < H.length) := by omega
   have e4 : j - 1 + 1 = j := by omega
   simp [hj,e1,e2,e3,e4]
 have q2 : ∀ c,c ≠ b → c < H.length → ρ2 c = ρ c := fun c h1 h2 => by subst hρ2; simp [h1,h2]
 have q3 : ∀ c,c < H.length → (ρ2 c).al = (ρ c).al := by
  intro c hc
  by_cases e : c = b
  ·subst e
   have := q1 0
   rw [show opnR H c 0 = c from rfl] at this
   rw [this,hal0]
  ·rw [q2 c e hc]
 have hconc : (fun c => ρ2 (opnR H b c)) = ρi := funext q1
 have feetIn : ∀ (c : Nat) (k : ABlk),(opn H b g)[c]? = some k → ∀ x,x ∈ k.foot (ρ2 c) → ∃ (c0 : Nat) (k0 : ABlk),H[c0]? = some k0 ∧ x ∈ k0.foot (ρ c0) := by
  intro c k hc x hx
  rcases opn_get hbl hgl hc with ⟨j,k0,hj,rfl,rfl⟩ | ⟨hne,hcl,hk⟩
  ·rw [foot_ren,q1] at hx
   exact ⟨b,_,hb,(hF x).2 ⟨j,k0,hj,hx⟩⟩
  ·rw [q2 c hne hcl] at hx
   exact ⟨c,k,hk,hx⟩
 have reachIn : ∀ (c : Nat) (k : ABlk),(opn H b g)[c]? = some k → ∀ x,x ∈ k.reach (ρ2 c) → ∃ (c0 : Nat) (k0 : ABlk),H[c0]? = some k0 ∧ x ∈ k0.reach (ρ c0) := by
  intro c k hc x hx
  rcases opn_get hbl hgl hc with ⟨j,k0,hj,rfl,rfl⟩ | ⟨hne,hcl,hk⟩
  ·rw [reach_ren,q1,hown j k0 hj] at hx
   exact ⟨b,_,hb,(hF x).2 ⟨j,k0,hj,hx⟩⟩
  ·rw [q2 c hne hcl] at hx
   exact ⟨c,k,hk,hx⟩
 have feetOut : ∀ (c0 : Nat) (k0 : ABlk),H[c0]? = some k0 → ∀ x,x ∈ k0.foot (ρ c0) → ∃ (c : Nat) (k : ABlk),(opn H b g)[c]? = some k ∧ x ∈ k.foot (ρ2 c) := by
  intro c0 k0 hc x hx
  by_cases e : c0 = b
  ·subst e
   rw [hb] at hc
   injection hc with hc
   subst hc
   obtain ⟨j,k,hj,hx⟩ := (hF x).1 hx
   exact ⟨_,_,opn_at hbl hj,by rw [foot_ren,q1]; exact hx⟩
  ·have hcl := (List.getElem?_eq_some_iff.1 hc).1
   exact ⟨c0,k0,by rw [opn_other hcl e]; exact hc,by rw [q2 c0 e hcl]; exact hx⟩
 have hlv : ∀ c,live H c = true → live (opn H b g) c = true := by
  intro c hl
  by_cases e : c = b
  ·subst e
   have hg0 : ∃ k0,g[0]? = some k0 := ⟨_,List.getElem?_eq_getElem hgl⟩
   obtain ⟨k0,hk0⟩ := hg0
   have := opn_at (b := c) hbl hk0
   rw [show opnR H c 0 = c from rfl] at this
   refine live_of this ?_
   intro h
   have h2 := hole_ren h
   subst h2
   unfold live at hlive
   rw [hk0] at hlive
   cases hlive
  ·have hcl := live_lt hl
   unfold live at hl ⊢
   rw [opn_other hcl e]
   exact hl
 have hlvg : ∀ j,live g j = true → live (opn H b g) (opnR H b j) = true := by
  intro j hl
  obtain ⟨k0,hk0⟩ : ∃ k0,g[j]? = some k0 := ⟨_,List.getElem?_eq_getElem (live_lt hl)⟩
  refine live_of (opn_at hbl hk0) ?_
  intro h
  have h2 := hole_ren h
  subst h2
  unfold live at hl
  rw [hk0] at hl
  cases hl
 have r2 : Rel ρ2 (opn H b g) w := by
  refine ⟨fun c k hc => ?_,fun c k hc => ?_,fun c d k l hc hd hne x hx hx' => ?_⟩
  ·rcases opn_get hbl hgl hc with ⟨j,k0,hj,rfl,rfl⟩ | ⟨hne,hcl,hk⟩
   ·rw [holds_ren,hconc,q1]
    exact ri.holds j k0 hj
   ·rw [q2 c hne hcl]
    refine (r.holds c k hk).congr (r.scope c k hk) fun d hd => q3 d (live_lt hd)
  ·rcases opn_get hbl hgl hc with ⟨j,k0,hj,rfl,rfl⟩ | ⟨hne,hcl,hk⟩
   ·exact scpB_ren hlvg (ri.scope j k0 hj)
   ·exact ABlk.scp_mono hlv (r.scope c k hk)
  ·rcases opn_get hbl hgl hc with ⟨j,k0,hj,rfl,rfl⟩ | ⟨hne1,hcl1,hk1⟩
   ·rw [foot_ren,q1] at hx
    rcases opn_get hbl hgl hd with ⟨j', k0', hj', rfl, rfl⟩ | ⟨hne2, hcl2, hk2⟩
    ·rw [reach_ren,q1] at hx'
     refine ri.apart j j' _ _ hj hj' (fun e => hne (by rw [e])) x hx hx'
    ·rw [q2 d hne2 hcl2] at hx'
     exact r.apart b d _ _ hb hk2 (fun e => hne2 e.symm) x ((hF x).2 ⟨j,k0,hj,hx⟩) hx'
   ·rw [q2 c hne1 hcl1] at hx
    rcases opn_get hbl hgl hd with ⟨j', k0', hj', rfl, rfl⟩ | ⟨hne2, hcl2, hk2⟩
    ·rw [reach_ren,q1,hown j' k0' hj'] at hx'
     exact r.apart c b _ _ hk1 hb hne1 x hx ((hF x).2 ⟨j', k0', hj', hx'⟩)
    ·rw [q2 d hne2 hcl2] at hx'
     exact r.apart c d _ _ hk1 hk2 hne x hx hx'
 refine ((ho g hg hown hlive).2 ρ2 w us r2 hs fun i v hv => ?_).mono ?_
 ·obtain ⟨u,hu,vr⟩ := ha i v hv
  exact ⟨u,hu,vr.mono hlv fun c hc => q3 c (live_lt hc)⟩
 rintro e w' ⟨v, u, h', ρ', he, vr, ⟨v2, h2, σ, us2, hv, ok, hsc, rfl, hσ, hl, hlen, hp⟩, r', nx, hle⟩
 obtain ⟨ρ3,r3,hal3,nx3⟩ := hv.next ok r' hσ hl
 have hol : H.length ≤ (opn H b g).length := by rw [opn_length hgl]; omega
 have nx4 := (nx.less hol).trans nx3
 refine ⟨v2,u,h2,ρ3,he,⟨hsc, ?_⟩,hp,r3,⟨fun c hc => (nx4.ext c hc).trans (q3 c hc),fun c hc hlc => nx4.lives c hc (hlv c hlc),nx4.os,nx4.tape,nx4.output,nx4.size,fun x hx hn => nx4.keep x hx fun c k hc hx' => ?_,fun c k hc x hx => ?_,fun c k hc x hx => ?_⟩,hlen⟩
 ·rw [vr.2,conc_ren]
  exact (conc_congr (fun b _ => hal3 b) v2 hsc).symm
 ·obtain ⟨c0,k0,h3,h4⟩ := feetIn c k hc x hx'
  exact hn c0 k0 h3 h4
 ·rcases nx4.prov c k hc x hx with h3 | ⟨b0,k0,h3,h4⟩
  ·exact .inl h3
  ·exact .inr (feetIn b0 k0 h3 x h4)
 ·rcases nx4.prow c k hc x hx with h3 | ⟨b0,k0,h3,h4⟩
  ·exact .inl h3
  ·exact .inr (reachIn b0 k0 h3 x h4)
theorem AC.method2 {S : Type} {heaps : S → AH → Prop} {s : S} (hent : enterB P f = true)
  (ho : ∀ g,heaps s g → own g → live g 0 = true → AC P f args g (fun v h' => Sees 1 h' v K)) : AC P f args [.adt (mkADT S heaps) s] K := by
 refine AC.open (b := 0) rfl hent fun g hg hown hlive => ?_
 have e : opn [.adt (mkADT S heaps) s] 0 g = g := by
  cases g with
  | nil => simp [live] at hlive
  | cons k g' =>
   have e1 : opnR [ABlk.adt (mkADT S heaps) s] 0 = fun b => b := by
    funext j
    unfold opnR
    by_cases hj : j = 0
    ·simp [hj]
    ·simp [hj]; omega
   simp only [opn,e1,List.set_cons_zero,renB_id]
   simp only [List.cons_append,List.nil_append]
   congr 1
   conv => rhs; rw [← List.map_id g']
   exact List.map_congr_left fun k _ => renB_id k
 rw [e]
 exact ho g hg hown hlive
abbrev Spec := List (ABlk × List Nat)
def Spec.σ (l : Spec) (b : Nat) : Nat := match l[b]? with
 | some (_,i :: _) => i
 | _ => b
def subL (ι : Nat → Nat) (h : AH) : Nat → AH → Prop
 | _,[] => True
 | j,k :: g => h[ι j]? = some (renB ι k) ∧ subL ι h (j + 1) g
theorem subL_get {ι : Nat → Nat} {h : AH} : ∀ {g : AH} {j0 : Nat},subL ι h j0 g → ∀ (j : Nat) (k : ABlk),g[j]? = some k → h[ι (j0 + j)]? = some (renB ι k) := by
 intro g
 induction g with
 | nil => intro j0 _ j k hj; simp at hj
 | cons k1 g ih =>
  intro j0 hs j k hj
  obtain ⟨h1,h2⟩ := hs
  cases j with
  | zero => simp at hj; subst hj; exact h1
  | succ j =>
   simp at hj
   have := ih h2 j k hj
   rwa [show j0 + 1 + j = j0 + (j + 1) by omega] at this
def nth (is : List Nat) (j : Nat) : Nat := match is,j with
 | [],_ => 0
 | i :: _,0 => i
 | _ :: is,j + 1 => nth is j
theorem nth_get : ∀ (is : List Nat) (j : Nat),j < is.length → is[j]? = some (nth is j)
 | [],j,h => by simp at h
 | i :: is,0,_ => by simp [nth]
 | i :: is,j + 1,h => by simp [nth]; simpa using nth_get is j (by simpa using h)
theorem nth_0 (i : Nat) (is : List Nat) : nth (i :: is) 0 = i := rfl
theorem nth_s (i : Nat) (is : List Nat) (j : Nat) : nth (i :: is) (j + 1) = nth is j := rfl
def okBlk (l : Spec) (h : AH) (b : Nat) (k : ABlk) (is : List Nat) : Prop := VB h l.σ b k is
theorem okBlk_keep {l : Spec} {h : AH} {b i : Nat} {k : ABlk} (hσ : l.σ b = i) (hk : h[i]? = some (renB l.σ k)) : okBlk l h b k [i] := by
 subst hσ
 exact .keep hk
theorem okBlk_close {l : Spec} {h : AH} {b : Nat} {S : Type} {heaps : S → AH → Prop} {s : S} {is : List Nat} (g : AH) (hg : heaps s g) (ho : own g) (ok : AOK g) (hc : ∃ vs e,g[0]? = some (.cells vs e none)) (hσ : nth is 0 = l.σ b) (hnd : is.Nodup) (hl : is.length = g.length) (hs : subL (nth is) h 0 g) : okBlk l h b (.adt (mkADT S heaps) s) is := by
 have hsub : Sub (nth is) g h := by
  refine ⟨fun j k hj => ?_,fun i j hi hj e => ?_⟩
  ·have := subL_get hs j k hj
   rwa [Nat.zero_add] at this
  ·have h1 := nth_get is i (by omega)
   have h2 := nth_get is j (by omega)
   rw [e,← h2] at h1
   exact ((List.getElem?_inj (by omega) hnd).1 h1)
 have := VB.clos (σ := l.σ) (b := b) hg ho ok hc hσ hsub
 have e : (List.range g.length).map (nth is) = is := by
  refine List.ext_getElem? fun j => ?_
  rw [List.getElem?_map]
  by_cases hj : j < g.length
  ·rw [List.getElem?_range hj,nth_get is j (by omega)]
   rfl
  ·rw [List.getElem?_eq_none (by simpa using hj),List.getElem?_eq_none (by omega)]
   rfl
 rw [e] at this
 exact this
def disL : Spec → Prop
 | [] => True
 | x :: l => (∀ y ∈ l,∀ i ∈ x.2,i ∉ y.2) ∧ disL l
theorem disL_get : ∀ {l : Spec},disL l → ∀ (b c : Nat) (x y : ABlk × List Nat),l[b]? = some x → l[c]? = some y → b < c → ∀ i ∈ x.2,i ∉ y.2
 | [],_,b,_,x,_,hx,_,_ => by simp at hx
 | z :: l,hd,0,c + 1,x,y,hx,hy,_ => by
  simp at hx hy
  subst hx
  exact hd.1 y (List.mem_of_getElem? hy)
 | z :: l,hd,b + 1,c + 1,x,y,hx,hy,hlt => by
  simp at hx hy
  exact disL_get hd.2 b c x y hx hy (by omega)
theorem Sees.mk {m : Nat} {h' : AH} {v : Value} (l : Spec) (v2 : Value) (hb : ∀ (b : Nat) k is,l[b]? = some (k,is) → okBlk l h' b k is) (hd : disL l) (ok : AOK (l.map (·.1))) (hs : scp (live (l.map (·.1))) v2 = true) (hv : v = ren l.σ v2)
  (h1 : ∀ b,b < m → l.σ b = b) (h2 : ∀ b,b < m → live (l.map (·.1)) b = true) (hm : m ≤ l.length) (hk : K v2 (l.map (·.1))) : Sees m h' v K := by
 refine ⟨v2,l.map (·.1),l.σ,fun b => match l[b]? with | some x => x.2 | none => [],⟨fun b k hk => ?_,fun b c hbl hcl hne x hx hx' => ?_⟩,ok,hs,hv,h1,fun b hb _ => h2 b hb,by simpa using hm,hk⟩
 ·rw [List.getElem?_map] at hk
  cases hx : l[b]? with
  | none => rw [hx] at hk; cases hk
  | some y =>
   rw [hx] at hk
   injection hk with hk
   subst hk
   exact hb b y.1 y.2 hx
 ·simp only [List.length_map] at hbl hcl
  have e1 := List.getElem?_eq_getElem hbl
  have e2 := List.getElem?_eq_getElem hcl
  rw [e1] at hx
  rw [e2] at hx'
  simp only at hx hx'
  by_cases hlt : b < c
  ·exact disL_get hd b c _ _ e1 e2 hlt x hx hx'
  ·exact disL_get hd c b _ _ e2 e1 (by omega) x hx' hx
theorem AC.at0 {args0 : List Value} {r : Value} {E : AH} (hc : AC P f args0 [] (fun v h' => v = r ∧ h' = E)) (hE : ∀ k ∈ E,noNames k) {H : AH} (ha : scpL nil args0 = true) (he : args = args0) (hK : K (ren (fun j => H.length + j) r) (H ++ E)) : AC P f args H K := by
 have sb : Sub (fun b => b) [] H := ⟨fun j k hj => by simp at hj,fun i j hi => by simp at hi⟩
 have := AC.frame sb (fun b k hb => by simp at hb) (by refine scpL_mono ?_ _ ha; intro b hb; cases hb) hc
 have e : args0.map (ren fun b => b) = args0 := by
  conv => rhs; rw [← List.map_id args0]
  exact List.map_congr_left fun v _ => ren_id v
 rw [e] at this
 subst he
 refine this.mono ?_
 rintro v H' ⟨v0, h', ⟨rfl, rfl⟩, _, rfl, rfl⟩
 have e1 : extN (fun b => b) ([] : AH).length H.length = fun j => H.length + j := by
  funext j
  simp [extN]
 have e2 : glue (fun b => b) ([] : AH).length H h' = H ++ h' := by
  unfold glue
  rw [e1]
  simp only [List.length_nil,List.take_zero,List.drop_zero,setAll]
  congr 1
  conv => rhs; rw [← List.map_id h']
  exact List.map_congr_left fun k hk => renB_noNames (hE k hk) _
 rw [e1,e2]
 exact hK
theorem AC.at1 {args0 : List Value} {r : Value} {k0 k1 : ABlk} {E : AH} (hc : AC P f args0 [k0] (fun v h' => v = r ∧ h' = k1 :: E)) (n0 : noNames k0) (n1 : noNames k1) (hE : ∀ k ∈ E,noNames k) {H : AH} {b : Nat} (hb : H[b]? = some k0) (ha : scpL (live [k0]) args0 = true) (he : args = args0.map (ren fun _ => b))
  (hK : K (ren (opnR H b) r) (H.set b k1 ++ E)) : AC P f args H K := by
 have sb : Sub (fun _ => b) [k0] H := by
  refine ⟨fun j k hj => ?_,fun i j hi hj _ => ?_⟩
  ·match j with
   | 0 => injection hj with hj; subst hj; rw [renB_noNames n0]; exact hb
   | n + 1 => simp at hj
  ·simp at hi hj; omega
 have ok : AOK [k0] := by
  intro c k hc
  match c with
  | 0 => injection hc with hc; subst hc; exact scp_noNames n0 _
  | n + 1 => simp at hc
 have := AC.frame sb ok ha hc
 rw [← he] at this
 refine this.mono ?_
 rintro v H' ⟨v0, h', ⟨rfl, rfl⟩, _, rfl, rfl⟩
 have e1 : extN (fun _ => b) ([k0] : AH).length H.length = opnR H b := by
  funext j
  unfold extN opnR
  simp only [List.length_singleton]
  by_cases hj : j = 0
  ·simp [hj]
  ·rw [if_neg (by omega),if_neg hj]
 have e2 : glue (fun _ => b) ([k0] : AH).length H (k1 :: E) = H.set b k1 ++ E := by
  unfold glue
  rw [e1]
  simp only [List.length_singleton,List.take_succ_cons,List.take_zero,List.drop_succ_cons,List.drop_zero,setAll,renB_noNames n1]
  congr 1
  conv => rhs; rw [← List.map_id E]
  exact List.map_congr_left fun k hk => renB_noNames (hE k hk) _
 rw [e1,e2]
 exact hK
end
section
variable {P : Program} {m : Nat} {t : T} {h : AH} {Q : AExit → T → AH → Prop}
def atHeadV (m n : Nat) (tv : List (Nat × Value)) (g : AH) (t : T) (h : AH) : Prop :=
 ∃ l : Spec,g = l.map (·.1) ∧ (∀ (b : Nat) k is,l[b]? = some (k,is) → okBlk l h b k is) ∧ disL l ∧ AOK g ∧ (∀ b,b < m → l.σ b = b ∧ live g b = true) ∧ m ≤ g.length ∧ t.length = n ∧ ∀ x ∈ tv,getT t x.1 = some (ren l.σ x.2) ∧ scp (live g) x.2 = true
theorem awp_headV {c : Code} {n : Nat} {tv : List (Nat × Value)} {g : AH} (ha : atHeadV m n tv g t h) (hw : AWp P m c Q (mkT n tv) g) : AWp P m c Q t h := by
 obtain ⟨l,rfl,hb,hd,ok,h1,hm,hn,hx⟩ := ha
 have hv : View l.σ (l.map (·.1)) h (fun b => match l[b]? with | some x => x.2 | none => []) := by
  refine ⟨fun b k hk => ?_,fun b c hbl hcl hne x hx hx' => ?_⟩
  ·rw [List.getElem?_map] at hk
   cases hx : l[b]? with
   | none => rw [hx] at hk; cases hk
   | some y =>
    rw [hx] at hk
    injection hk with hk
    subst hk
    exact hb b y.1 y.2 hx
  ·simp only [List.length_map] at hbl hcl
   have e1 := List.getElem?_eq_getElem hbl
   have e2 := List.getElem?_eq_getElem hcl
   rw [e1] at hx
   rw [e2] at hx'
   simp only at hx hx'
   by_cases hlt : b < c
   ·exact disL_get hd b c _ _ e1 e2 hlt x hx hx'
   ·exact disL_get hd c b _ _ e2 e1 (by omega) x hx' hx
 refine awp_view hv ok (fun b hb => (h1 b hb).1) (fun b hb _ => (h1 b hb).2) hm (by rw [mkT_length,hn]) (fun i v2 hi => ?_) hw
 have hm2 := mkT_get hi
 obtain ⟨e,e2⟩ := hx _ hm2
 refine ⟨?_,e2⟩
 rw [getT_eq] at e
 cases hx : t[i]? with
 | none => simp only [hx] at e; cases e
 | some o => simp only [hx,Option.join_some] at e; rw [e]
def loopQ3 {σ : Type} (m n : Nat) (I : σ → Prop) (μ : σ → Nat) (tv : σ → List (Nat × Value)) (hv : σ → AH) (s : σ) (Q : AExit → T → AH → Prop) : AExit → T → AH → Prop
 | .normal, t, h => ∃ s', μ s' < μ s ∧ I s' ∧ atHeadV m n (tv s') (hv s') t h
 | e,t,h => Q e t h
def nextS {σ : Type} (m n : Nat) (I : σ → Prop) (μ : σ → Nat) (tv : σ → List (Nat × Value)) (hv : σ → AH) (s : σ) (t : T) (h : AH) : Prop := ∃ s', μ s' < μ s ∧ I s' ∧ atHeadV m n (tv s') (hv s') t h
theorem loopQ3_normal {σ : Type} (n : Nat) (I : σ → Prop) (μ : σ → Nat) (tv : σ → List (Nat × Value)) (hv : σ → AH) (s : σ) : loopQ3 m n I μ tv hv s Q .normal t h = nextS m n I μ tv hv s t h := rfl
theorem nextS.intro {σ : Type} {n : Nat} {I : σ → Prop} {μ : σ → Nat} {tv : σ → List (Nat × Value)} {hv : σ → AH} {s : σ} (s' : σ) (h1 : μ s' < μ s) (h2 : I s') (h3 : atHeadV m n (tv s') (hv s') t h) : nextS m n I μ tv hv s t h := ⟨s', h1, h2, h3⟩
theorem loopQ3_exit {σ : Type} (n : Nat) (I : σ → Prop) (μ : σ → Nat) (tv : σ → List (Nat × Value)) (hv : σ → AH) (s : σ) (i : Nat) : loopQ3 m n I μ tv hv s Q (.exit i) t h = Q (.exit i) t h := rfl
theorem loopQ3_ret {σ : Type} (n : Nat) (I : σ → Prop) (μ : σ → Nat) (tv : σ → List (Nat × Value)) (hv : σ → AH) (s : σ) : loopQ3 m n I μ tv hv s Q .ret t h = Q .ret t h := rfl
theorem loop3 (hmix : P.follows .mixedOrders = true) {ac : ACode} {σ : Type} (n : Nat) (I : σ → Prop) (μ : σ → Nat) (tv : σ → List (Nat × Value)) (hv : σ → AH) (s0 : σ) (hI : I s0) (h0 : atHeadV m n (tv s0) (hv s0) t h)
  (hr : ∀ s,I s → begin_ P m (mkT n (tv s)) ac (hv s) (loopQ3 m n I μ tv hv s Q)) : ALoop P m ac t h Q := by
 have key : ∀ N s,μ s = N → I s → ∀ c,cCode P c = some ac → ARounds P m c Q (N + 1) (mkT n (tv s)) (hv s) := by
  intro N
  induction N using Nat.strongRecOn with
  | _ N ih =>
   intro s hs hI c hc
   have hb := hr s hI
   unfold begin_ run at hb
   have hw := W_sound (holds := fun p => p) hmix (fun h => h) (fun _ _ _ _ h => h) (fun c ac t h K hc hl => hl c hc) c ac _ _ _ hc hb
   refine AWp.mono hw fun e t' h' hq => ?_
   unfold resK resume at hq
   cases e with
   | normal =>
    obtain ⟨s', hlt, hI', ha⟩ := hq
    have hrec := ih (μ s') (by omega) s' rfl hI' c hc
    have hrec2 := ARounds.more (μ s' + 1) N _ _ (by omega) hrec
    cases N with
    | zero => exact absurd hlt (by omega)
    | succ N => exact awp_headV ha hrec2
   | exit id => exact hq
   | ret => exact hq
 intro c hc
 exact awp_headV h0 (awp_rounds _ (key _ s0 rfl hI c hc))
attribute [irreducible] nextS
def keepsF (σ : Nat → Nat) (h : AH) : AH → List Nat → Prop
 | [],[] => True
 | k :: g,i :: is => h[i]? = some (renB σ k) ∧ keepsF σ h g is
 | _,_ => False
theorem keepsF_get {σ : Nat → Nat} {h : AH} : ∀ {g : AH} {is : List Nat},keepsF σ h g is → g.length = is.length ∧ ∀ (b : Nat) (k : ABlk),g[b]? = some k → h[nth is b]? = some (renB σ k)
 | [],[],_ => ⟨rfl,fun b k hb => by simp at hb⟩
 | k :: g,i :: is,hs => by
  obtain ⟨h1,h2⟩ := hs
  obtain ⟨e,ih⟩ := keepsF_get h2
  refine ⟨by simp [e],fun b k' hb => ?_⟩
  cases b with
  | zero => simp at hb; subst hb; exact h1
  | succ b => simp at hb; exact ih b k' hb
 | [],_ :: _,hs => hs.elim
 | _ :: _,[],hs => hs.elim
def pairUp : AH → List Nat → Spec
 | k :: g,i :: is => (k,[i]) :: pairUp g is
 | _,_ => []
theorem pairUp_get : ∀ {g : AH} {is : List Nat},g.length = is.length → ∀ (b : Nat),(pairUp g is)[b]? = match g[b]? with | some k => some (k,[nth is b]) | none => none
 | [],[],_,b => by simp [pairUp]
 | k :: g,i :: is,hl,0 => by simp [pairUp,nth]
 | k :: g,i :: is,hl,b + 1 => by
  simp only [pairUp,List.getElem?_cons_succ,nth]
  exact pairUp_get (by simpa using hl) b
 | [],_ :: _,hl,_ => by simp at hl
 | _ :: _,[],hl,_ => by simp at hl
theorem pairUp_map : ∀ {g : AH} {is : List Nat},g.length = is.length → (pairUp g is).map (·.1) = g
 | [],[],_ => rfl
 | k :: g,i :: is,hl => by simp [pairUp]; exact pairUp_map (by simpa using hl)
 | [],_ :: _,hl => by simp at hl
 | _ :: _,[],hl => by simp at hl
theorem pairUp_mem : ∀ {g : AH} {is : List Nat} {x : ABlk × List Nat},x ∈ pairUp g is → ∃ i,i ∈ is ∧ x.2 = [i]
 | k :: g,i :: is,x,hx => by
  simp only [pairUp,List.mem_cons] at hx
  rcases hx with rfl | hx
  ·exact ⟨i,by simp,rfl⟩
  ·obtain ⟨j,hj,e⟩ := pairUp_mem hx
   exact ⟨j,by simp [hj],e⟩
 | [],_,x,hx => by simp [pairUp] at hx
 | _ :: _,[],x,hx => by simp [pairUp] at hx
theorem pairUp_dis : ∀ {g : AH} {is : List Nat},is.Nodup → disL (pairUp g is)
 | k :: g,i :: is,hd => by
  refine ⟨fun y hy j hj => ?_,pairUp_dis (List.nodup_cons.1 hd).2⟩
  obtain ⟨j', hj', e⟩ := pairUp_mem hy
  simp only [List.mem_singleton] at hj
  subst hj
  rw [e,List.mem_singleton]
  rintro rfl
  exact (List.nodup_cons.1 hd).1 hj'
 | [],_,_ => trivial
 | _ :: _,[],_ => trivial
def nthD (is : List Nat) (b : Nat) : Nat := if b < is.length then nth is b else b
theorem pairUp_σ {g : AH} {is : List Nat} (hl : g.length = is.length) : (pairUp g is).σ = nthD is := by
 funext b
 unfold Spec.σ nthD
 rw [pairUp_get hl]
 by_cases hb : b < is.length
 ·rw [if_pos hb,List.getElem?_eq_getElem (by omega)]
 ·rw [if_neg hb,List.getElem?_eq_none (by omega)]
theorem headK {n : Nat} {tv : List (Nat × Value)} {g : AH} (is : List Nat) (h1 : keepsF (nthD is) h g is) (h2 : is.Nodup) (h3 : AOK g) (h4 : ∀ b,b < m → nthD is b = b ∧ live g b = true) (h5 : m ≤ g.length) (h6 : t.length = n) (h7 : ∀ x ∈ tv,getT t x.1 = some (ren (nthD is) x.2) ∧ scp (live g) x.2 = true) : atHeadV m n tv g t h := by
 obtain ⟨hl,hk⟩ := keepsF_get h1
 have hσ := pairUp_σ hl
 refine ⟨pairUp g is,(pairUp_map hl).symm,fun b k js hb => ?_,pairUp_dis h2,h3,fun b hb => by rw [hσ]; exact h4 b hb,h5,h6,by rw [hσ]; exact h7⟩
 rw [pairUp_get hl] at hb
 cases hx : g[b]? with
 | none => rw [hx] at hb; cases hb
 | some k' =>
  rw [hx] at hb
  injection hb with hb
  injection hb with q1 q2
  subst q1 q2
  have hbl := (List.getElem?_eq_some_iff.1 hx).1
  refine okBlk_keep ?_ (by rw [hσ]; exact hk b k' hx)
  rw [hσ]
  simp [nthD,← hl,hbl]
end
def aokL (L : Nat → Bool) : AH → Prop
 | [] => True
 | k :: g => k.scp L ∧ aokL L g
theorem aokL_get {L : Nat → Bool} : ∀ {g : AH},aokL L g → ∀ (b : Nat) (k : ABlk),g[b]? = some k → k.scp L
 | k0 :: g,hs,0,k,hb => by simp at hb; subst hb; exact hs.1
 | k0 :: g,hs,b + 1,k,hb => aokL_get hs.2 b k (by simpa using hb)
 | [],_,b,k,hb => by simp at hb
theorem AOK.of {g : AH} (h : aokL (live g) g) : AOK g := aokL_get h
section
variable {P : Program} {f : FuncId} {args : List Value} {h : AH} {K K' : Value → AH → Prop}
theorem Sees.m0 {S : Type} {heaps : S → AH → Prop} {s : S} {h' : AH} {v : Value} {is : List Nat} (g : AH) (hg : heaps s g) (ho : own g) (ok : AOK g) (hc : ∃ vs e,g[0]? = some (.cells vs e none)) (h0 : nth is 0 = 0) (hnd : is.Nodup) (hl : is.length = g.length) (hs : subL (nth is) h' 0 g)
  (hv : plain v = true) (hK : K v [.adt (mkADT S heaps) s]) : Sees 1 h' v K := by
 have hne : ∃ is', is = 0 :: is' := by
  obtain ⟨vs,e,hc⟩ := hc
  have := (List.getElem?_eq_some_iff.1 hc).1
  cases is with
  | nil => simp at hl; omega
  | cons i is' => rw [nth_0] at h0; subst h0; exact ⟨is', rfl⟩
 obtain ⟨is', rfl⟩ := hne
 have hσ : Spec.σ [(ABlk.adt (mkADT S heaps) s,0 :: is')] = fun b => b := by
  funext b
  unfold Spec.σ
  cases b with
  | zero => rfl
  | succ b => simp
 refine Sees.mk [(.adt (mkADT S heaps) s,0 :: is')] v (fun b k js hb => ?_) ⟨by simp,trivial⟩ ?_ (scp_mono (fun b hb => by cases hb) v hv) (by rw [ren_plain _ v hv]) (fun b hb => by rw [hσ]) (fun b hb => ?_) (by simp) hK
 ·match b with
  | 0 =>
   simp at hb
   obtain ⟨rfl,rfl⟩ := hb
   exact okBlk_close g hg ho ok hc (by rw [hσ]; rfl) hnd hl hs
  | n + 1 => simp at hb
 ·exact AOK.of ⟨trivial,trivial⟩
 ·obtain rfl : b = 0 := by omega
  rfl
theorem set_same {H : AH} {b : Nat} {k : ABlk} (hb : H[b]? = some k) : H.set b k = H := by
 refine List.ext_getElem? fun c => ?_
 rw [List.getElem?_set]
 split
 ·rename_i e
  subst e
  rw [if_pos (List.getElem?_eq_some_iff.1 hb).1,hb]
 ·rfl
end
end Abs
end Go.Proofs.Ytongllppbifiaaa
namespace Go.Proofs.Ytongllppbifiaaa
namespace Abs
open Go
set_option linter.unusedVariables false
set_option linter.unusedSimpArgs false
theorem DN : (((((∀ (P : Program) (m : Nat) (s : List Frm) (t : T) (h : AH) (Q : AExit → T → AH → Prop),run P m .skip s t h Q = resume P m s .normal t h Q) ∧ (∀ (P : Program) (m : Nat) (s : List Frm) (t : T) (h : AH) (Q : AExit → T → AH → Prop) (i : Nat),run P m (.exit i) s t h Q = resume P m s (.exit i) t h Q)) ∧ ((∀ (P : Program) (m : Nat) (s : List Frm) (t : T) (h : AH) (Q : AExit → T → AH → Prop),run P m .ret s t h Q = resume P m s .ret t h Q) ∧ ((∀ (P : Program) (m : Nat) (s : List Frm) (t : T) (h : AH) (Q : AExit → T → AH → Prop) (l : List AOper),run P m (.ops l) s t h Q = runO P m l s t h Q) ∧ (∀ (P : Program) (m : Nat) (s : List Frm) (t : T) (h : AH) (Q : AExit → T → AH → Prop) (a b : ACode),run P m (.seq a b) s t h Q = run P m a (.code b :: s) t h Q)))) ∧ (((∀ (P : Program) (m : Nat) (s : List Frm) (t : T) (h : AH) (Q : AExit → T → AH → Prop) (i : Nat) (a : ACode),run P m (.block i a) s t h Q = run P m a (.blk i :: s) t h Q) ∧ ((∀ (P : Program) (m : Nat) (s : List Frm) (t : T) (h : AH) (Q : AExit → T → AH → Prop) (a : ACode),run P m (.loop a) s t h Q = ALoop P m a t h (resK P m s Q)) ∧ (∀ (P : Program) (m : Nat) (s : List Frm) (t : T) (h : AH) (Q : AExit → T → AH → Prop) (c : Operand) (a b : ACode),run P m (.cond c a b) s t h Q = condK P m (evalO t c) a b s t h Q))) ∧ ((∀ (P : Program) (m : Nat) (s : List Frm) (t : T) (h : AH) (Q : AExit → T → AH → Prop) (nh : Nat) (l : List DOper),run P m (.drawn nh l) s t h Q = openD P m h.length (h ++ holes nh) l s t Q) ∧ ((∀ (P : Program) (m : Nat) (s : List Frm) (t : T) (h : AH) (Q : AExit → T → AH → Prop),runO P m [] s t h Q = resume P m s .normal t h Q) ∧ (∀ (P : Program) (m : Nat) (s : List Frm) (t : T) (h : AH) (Q : AExit → T → AH → Prop) (d : Option Tmp) (op : AOp) (l : List AOper),runO P m (⟨d,op,none⟩ :: l) s t h Q = step P m (kd op) ⟨d,op,none⟩ l s t h Q))))) ∧ ((((∀ (P : Program) (m : Nat) (s : List Frm) (t : T) (h : AH) (Q : AExit → T → AH → Prop) (x : AOper) (l : List AOper),runO P m (x :: l) s t h Q = wantK P m (wantedA t x.guard) x l s t h Q) ∧ ((∀ (P : Program) (m : Nat) (s : List Frm) (t : T) (h : AH) (Q : AExit → T → AH → Prop) (base : Nat) (D : Reads),runD P m base [] D s t h Q = resume P m s .normal t h Q) ∧ (∀ (P : Program) (m : Nat) (s : List Frm) (t : T) (h : AH) (Q : AExit → T → AH → Prop) (base : Nat) (x : DOper) (l : List DOper) (D : Reads),runD P m base (x :: l) D s t h Q = wantD P m base (wantedA t x.x.guard) x l D s t h Q))) ∧ ((∀ (P : Program) (m : Nat) (s : List Frm) (t : T) (h : AH) (Q : AExit → T → AH → Prop) (e : AExit),resK P m s Q e t h = resume P m s e t h Q) ∧ ((∀ (P : Program) (m : Nat) (t : T) (h : AH) (Q : AExit → T → AH → Prop) (e : AExit),resume P m [] e t h Q = Q e t h) ∧ (∀ (P : Program) (m : Nat) (s : List Frm) (t : T) (h : AH) (Q : AExit → T → AH → Prop) (c : ACode),resume P m (.code c :: s) .normal t h Q = run P m c s t h Q)))) ∧ (((∀ (P : Program) (m : Nat) (s : List Frm) (t : T) (h : AH) (Q : AExit → T → AH → Prop) (c : ACode) (i : Nat),resume P m (.code c :: s) (.exit i) t h Q = resume P m s (.exit i) t h Q) ∧ ((∀ (P : Program) (m : Nat) (s : List Frm) (t : T) (h : AH) (Q : AExit → T → AH → Prop) (c : ACode),resume P m (.code c :: s) .ret t h Q = resume P m s .ret t h Q) ∧ (∀ (P : Program) (m : Nat) (s : List Frm) (t : T) (h : AH) (Q : AExit → T → AH → Prop) (i : Nat),resume P m (.blk i :: s) (.exit i) t h Q = resume P m s .normal t h Q))) ∧ ((∀ (P : Program) (m : Nat) (s : List Frm) (t : T) (h : AH) (Q : AExit → T → AH → Prop) (i j : Nat) (hij : i ≠ j),resume P m (.blk j :: s) (.exit i) t h Q = resume P m s (.exit i) t h Q) ∧ ((∀ (P : Program) (m : Nat) (s : List Frm) (t : T) (h : AH) (Q : AExit → T → AH → Prop) (i : Nat),resume P m (.blk i :: s) .normal t h Q = resume P m s .normal t h Q) ∧ (∀ (P : Program) (m : Nat) (s : List Frm) (t : T) (h : AH) (Q : AExit → T → AH → Prop) (i : Nat),resume P m (.blk i :: s) .ret t h Q = resume P m s .ret t h Q)))))) :=
 ⟨⟨⟨⟨(by intros; first | (apply run_skip; done) | (apply run_skip <;> assumption) | rfl),(by intros; first | (apply run_exit; done) | (apply run_exit <;> assumption) | rfl)⟩,⟨(by intros; first | (apply run_ret; done) | (apply run_ret <;> assumption) | rfl),⟨(by intros; first | (apply run_ops; done) | (apply run_ops <;> assumption) | rfl),(by intros; first | (apply run_seq; done) | (apply run_seq <;> assumption) | rfl)⟩⟩⟩,⟨⟨(by intros; first | (apply run_block; done) | (apply run_block <;> assumption) | rfl),⟨(by intros; first | (apply run_loop; done) | (apply run_loop <;> assumption) | rfl),(by intros; first | (apply run_cond; done) | (apply run_cond <;> assumption) | rfl)⟩⟩,⟨(by intros; first | (apply run_drawn; done) | (apply run_drawn <;> assumption) | rfl),⟨(by intros; first | (apply runO_nil; done) | (apply runO_nil <;> assumption) | rfl),(by intros; first | (apply runO_plain; done) | (apply runO_plain <;> assumption) | rfl)⟩⟩⟩⟩,⟨⟨⟨(by intros; first | (apply runO_cons; done) | (apply runO_cons <;> assumption) | rfl),⟨(by intros; first | (apply runD_nil; done) | (apply runD_nil <;> assumption) | rfl),(by intros; first | (apply runD_cons; done) | (apply runD_cons <;> assumption) | rfl)⟩⟩,⟨(by intros; first | (apply resK_eq; done) | (apply resK_eq <;> assumption) | rfl),⟨(by intros; first | (apply resume_nil; done) | (apply resume_nil <;> assumption) | rfl),(by intros; first | (apply resume_code; done) | (apply resume_code <;> assumption) | rfl)⟩⟩⟩,⟨⟨(by intros; first | (apply resume_code_exit; done) | (apply resume_code_exit <;> assumption) | rfl),⟨(by intros; first | (apply resume_code_ret; done) | (apply resume_code_ret <;> assumption) | rfl),(by intros; first | (apply resume_blk_self; done) | (apply resume_blk_self <;> assumption) | rfl)⟩⟩,⟨(by intros; first | (apply resume_blk_ne; done) | (apply resume_blk_ne <;> assumption) | rfl),⟨(by intros; first | (apply resume_blk; done) | (apply resume_blk <;> assumption) | rfl),(by intros; first | (apply resume_blk_ret; done) | (apply resume_blk_ret <;> assumption) | rfl)⟩⟩⟩⟩⟩
theorem NB : (((((((∀ (P : Program) (m : Nat) (t : T) (h : AH) (Q : AExit → T → AH → Prop) (c : ACode), begin_ P m t c h Q = run P m c [] t h Q) ∧ ((nones 0 = []) ∧ (nones 1 = [none]))) ∧ (((nones 2 = [none, none]) ∧ (nones 3 = [none, none, none])) ∧ ((∀ (n : Nat), nones (n + 4) = none :: none :: none :: none :: nones n) ∧ (∀ (P : Program) (m : Nat) (s : List Frm) (t : T) (h : AH) (Q : AExit → T → AH → Prop) (base : Nat) (l : List DOper), openD P m base h l s t Q = runD P m base l [] s t h Q)))) ∧ (((holes 0 = []) ∧ ((∀ (n : Nat), holes (n + 1) = .hole :: holes n) ∧ (∀ (P : Program) (m : Nat) (s : List Frm) (t : T) (h : AH) (Q : AExit → T → AH → Prop) (a b : ACode), condK P m (some (.bool true)) a b s t h Q = run P m a s t h Q))) ∧ (((∀ (P : Program) (m : Nat) (s : List Frm) (t : T) (h : AH) (Q : AExit → T → AH → Prop) (a b : ACode), condK P m (some (.bool false)) a b s t h Q = run P m b s t h Q) ∧ (∀ (P : Program) (m : Nat) (s : List Frm) (t : T) (h : AH) (Q : AExit → T → AH → Prop) (x : Bool) (a b : ACode), condK P m (some (.bool x)) a b s t h Q = if x = true then run P m a s t h Q else run P m b s t h Q)) ∧ ((∀ (P : Program) (m : Nat) (s : List Frm) (t : T) (h : AH) (Q : AExit → T → AH → Prop) (l : List AOper), goT P m t l s h Q = runO P m l s t h Q) ∧ (∀ (P : Program) (m : Nat) (s : List Frm) (t : T) (h : AH) (Q : AExit → T → AH → Prop) (v : Value) (d : Option Tmp) (l : List AOper), stepP P m (some v) d l s t h Q = goT P m (t.put d v) l s h Q))))) ∧ ((((∀ (P : Program) (m : Nat) (s : List Frm) (t : T) (h : AH) (Q : AExit → T → AH → Prop) (d : Option Tmp) (l : List AOper), stepP P m none d l s t h Q = False) ∧ ((∀ (P : Program) (m : Nat) (s : List Frm) (t : T) (h : AH) (Q : AExit → T → AH → Prop) (c : Prop) [Decidable c] (a b : Option Value) (d : Option Tmp) (l : List AOper), stepP P m (if c then a else b) d l s t h Q = if c then stepP P m a d l s t h Q else stepP P m b d l s t h Q) ∧ (∀ (P : Program) (m : Nat) (s : List Frm) (t : T) (h : AH) (Q : AExit → T → AH → Prop) (v : Value) (k : ABlk) (d : Option Tmp) (l : List AOper), stepF P m (some (v, k)) d l s t h Q = goT P m (t.put d v) l s (h ++ [k]) Q))) ∧ (((∀ (P : Program) (m : Nat) (s : List Frm) (t : T) (h : AH) (Q : AExit → T → AH → Prop) (d : Option Tmp) (l : List AOper), stepF P m none d l s t h Q = False) ∧ (∀ (P : Program) (m : Nat) (s : List Frm) (t : T) (h : AH) (Q : AExit → T → AH → Prop) (c : Prop) [Decidable c] (a b : Option (Value × ABlk)) (d : Option Tmp) (l : List AOper), stepF P m (if c then a else b) d l s t h Q = if c then stepF P m a d l s t h Q else stepF P m b d l s t h Q)) ∧ ((∀ (P : Program) (m : Nat) (s : List Frm) (t : T) (Q : AExit → T → AH → Prop) (v : Value) (h : AH) (d : Option Tmp) (l : List AOper), stepL P m (some (v, h)) d l s t Q = goT P m (t.put d v) l s h Q) ∧ (∀ (P : Program) (m : Nat) (s : List Frm) (t : T) (Q : AExit → T → AH → Prop) (d : Option Tmp) (l : List AOper), stepL P m none d l s t Q = False)))) ∧ ((((∀ (P : Program) (m : Nat) (s : List Frm) (t : T) (Q : AExit → T → AH → Prop) (c : Prop) [Decidable c] (a b : Option (Value × AH)) (d : Option Tmp) (l : List AOper), stepL P m (if c then a else b) d l s t Q = if c then stepL P m a d l s t Q else stepL P m b d l s t Q) ∧ (∀ (P : Program) (m : Nat) (s : List Frm) (t : T) (Q : AExit → T → AH → Prop) (v : Value) (h : AH) (d : Option Tmp) (l : List AOper), callK P m d l s t Q v h = goT P m (t.put d v) l s h Q)) ∧ ((∀ (P : Program) (m : Nat) (s : List Frm) (t : T) (h : AH) (Q : AExit → T → AH → Prop) (f : FuncId) (args : List Value) (d : Option Tmp) (l : List AOper), stepC P m (some (f, args)) d l s t h Q = AC P f args h (callK P m d l s t Q)) ∧ (∀ (P : Program) (m : Nat) (s : List Frm) (t : T) (h : AH) (Q : AExit → T → AH → Prop) (d : Option Tmp) (l : List AOper), stepC P m none d l s t h Q = False))) ∧ (((∀ (P : Program) (m : Nat) (s : List Frm) (t : T) (h : AH) (Q : AExit → T → AH → Prop) (x : AOper) (l : List AOper), step P m 0 x l s t h Q = stepP P m (evP P t x.op) x.dst l s t h Q) ∧ (∀ (P : Program) (m : Nat) (s : List Frm) (t : T) (h : AH) (Q : AExit → T → AH → Prop) (x : AOper) (l : List AOper), step P m 1 x l s t h Q = stepP P m (evR t h x.op) x.dst l s t h Q)) ∧ ((∀ (P : Program) (m : Nat) (s : List Frm) (t : T) (h : AH) (Q : AExit → T → AH → Prop) (x : AOper) (l : List AOper), step P m 2 x l s t h Q = stepF P m (evF t h.length x.op) x.dst l s t h Q) ∧ (∀ (P : Program) (m : Nat) (s : List Frm) (t : T) (h : AH) (Q : AExit → T → AH → Prop) (x : AOper) (l : List AOper), step P m 3 x l s t h Q = stepL P m (evL t h x.op) x.dst l s t Q)))))) ∧ (((((∀ (P : Program) (m : Nat) (s : List Frm) (t : T) (h : AH) (Q : AExit → T → AH → Prop) (x : AOper) (l : List AOper), step P m 4 x l s t h Q = stepC P m (evC t x.op) x.dst l s t h Q) ∧ ((∀ (P : Program) (m : Nat) (s : List Frm) (t : T) (h : AH) (Q : AExit → T → AH → Prop) (x : AOper) (l : List AOper), step P m 5 x l s t h Q = stepI P m (evI t x.op) x.dst l s t h Q) ∧ (∀ (P : Program) (m : Nat) (s : List Frm) (t : T) (h : AH) (Q : AExit → T → AH → Prop) (f : FuncId) (args : List Value) (d : Option Tmp) (l : List AOper), stepI P m (some (f, args)) d l s t h Q = IC P f args h (callK P m d l s t Q)))) ∧ (((∀ (P : Program) (m : Nat) (s : List Frm) (t : T) (h : AH) (Q : AExit → T → AH → Prop) (d : Option Tmp) (l : List AOper), stepI P m none d l s t h Q = False) ∧ (∀ (P : Program) (m : Nat) (s : List Frm) (t : T) (h : AH) (Q : AExit → T → AH → Prop) (x : AOper) (l : List AOper), wantK P m (some true) x l s t h Q = step P m (kd x.op) x l s t h Q)) ∧ ((∀ (P : Program) (m : Nat) (s : List Frm) (t : T) (h : AH) (Q : AExit → T → AH → Prop) (x : AOper) (l : List AOper), wantK P m (some false) x l s t h Q = goT P m (t.put x.dst undef) l s h Q) ∧ (∀ (P : Program) (m : Nat) (s : List Frm) (t : T) (h : AH) (Q : AExit → T → AH → Prop) (x : AOper) (l : List AOper), wantK P m none x l s t h Q = False)))) ∧ (((∀ (P : Program) (m : Nat) (s : List Frm) (t : T) (h : AH) (Q : AExit → T → AH → Prop) (b : Bool) (x : AOper) (l : List AOper), wantK P m (some b) x l s t h Q = if b = true then step P m (kd x.op) x l s t h Q else goT P m (t.put x.dst undef) l s h Q) ∧ ((∀ (P : Program) (m : Nat) (s : List Frm) (t : T) (h : AH) (Q : AExit → T → AH → Prop) (base : Nat) (l : List DOper) (D : Reads), goD P m base t h l D s Q = runD P m base l D s t h Q) ∧ (∀ (P : Program) (m : Nat) (s : List Frm) (t : T) (h : AH) (Q : AExit → T → AH → Prop) (base : Nat) (l : List DOper) (D : Reads), gateD P m base true t h l D s Q = goD P m base t h l D s Q))) ∧ (((∀ (P : Program) (m : Nat) (s : List Frm) (t : T) (h : AH) (Q : AExit → T → AH → Prop) (base : Nat) (l : List DOper) (D : Reads), gateD P m base false t h l D s Q = False) ∧ (∀ (P : Program) (m : Nat) (s : List Frm) (t : T) (h : AH) (Q : AExit → T → AH → Prop) (base : Nat) (v : Value) (d : Option Tmp) (l : List DOper) (D : Reads), stepDP P m base (some v) d l D s t h Q = goD P m base (t.put d v) h l D s Q)) ∧ ((∀ (P : Program) (m : Nat) (s : List Frm) (t : T) (h : AH) (Q : AExit → T → AH → Prop) (base : Nat) (d : Option Tmp) (l : List DOper) (D : Reads), stepDP P m base none d l D s t h Q = False) ∧ (∀ (P : Program) (m : Nat) (s : List Frm) (t : T) (h : AH) (Q : AExit → T → AH → Prop) (base : Nat) (c : Prop) [Decidable c] (a b : Option Value) (d : Option Tmp) (l : List DOper) (D : Reads), stepDP P m base (if c then a else b) d l D s t h Q = if c then stepDP P m base a d l D s t h Q else stepDP P m base b d l D s t h Q))))) ∧ ((((∀ (P : Program) (m : Nat) (s : List Frm) (t : T) (h : AH) (Q : AExit → T → AH → Prop) (base i : Nat) (v : Value) (op : AOp) (d : Option Tmp) (l : List DOper) (D : Reads), stepDR P m base i (some v) op d l D s t h Q = goD P m base (t.put d v) h l ((i, rdF t op, v) :: D) s Q) ∧ ((∀ (P : Program) (m : Nat) (s : List Frm) (t : T) (h : AH) (Q : AExit → T → AH → Prop) (base i : Nat) (op : AOp) (d : Option Tmp) (l : List DOper) (D : Reads), stepDR P m base i none op d l D s t h Q = False) ∧ (∀ (P : Program) (m : Nat) (s : List Frm) (t : T) (h : AH) (Q : AExit → T → AH → Prop) (base i : Nat) (c : Prop) [Decidable c] (a b : Option Value) (op : AOp) (d : Option Tmp) (l : List DOper) (D : Reads), stepDR P m base i (if c then a else b) op d l D s t h Q = if c then stepDR P m base i a op d l D s t h Q else stepDR P m base i b op d l D s t h Q))) ∧ (((∀ (P : Program) (m : Nat) (s : List Frm) (t : T) (h : AH) (Q : AExit → T → AH → Prop) (base n : Nat) (v : Value) (k : ABlk) (d : Option Tmp) (l : List DOper) (D : Reads), stepDF P m base n (some (v, k)) d l D s t h Q = gateD P m base (isHole h n) (t.put d v) (h.set n k) l D s Q) ∧ (∀ (P : Program) (m : Nat) (s : List Frm) (t : T) (h : AH) (Q : AExit → T → AH → Prop) (base n : Nat) (d : Option Tmp) (l : List DOper) (D : Reads), stepDF P m base n none d l D s t h Q = False)) ∧ ((∀ (P : Program) (m : Nat) (s : List Frm) (t : T) (h : AH) (Q : AExit → T → AH → Prop) (base n : Nat) (c : Prop) [Decidable c] (a b : Option (Value × ABlk)) (d : Option Tmp) (l : List DOper) (D : Reads), stepDF P m base n (if c then a else b) d l D s t h Q = if c then stepDF P m base n a d l D s t h Q else stepDF P m base n b d l D s t h Q) ∧ (∀ (P : Program) (m : Nat) (s : List Frm) (t : T) (Q : AExit → T → AH → Prop) (base : Nat) (v : Value) (h : AH) (ck : List Nat) (d : Option Tmp) (l : List DOper) (D : Reads), stepDL P m base (some (v, h)) ck d l D s t Q = gateD P m base (askD ck D h) (t.put d v) h l D s Q)))) ∧ ((((∀ (P : Program) (m : Nat) (s : List Frm) (t : T) (Q : AExit → T → AH → Prop) (base : Nat) (ck : List Nat) (d : Option Tmp) (l : List DOper) (D : Reads), stepDL P m base none ck d l D s t Q = False) ∧ (∀ (P : Program) (m : Nat) (s : List Frm) (t : T) (Q : AExit → T → AH → Prop) (base : Nat) (c : Prop) [Decidable c] (a b : Option (Value × AH)) (ck : List Nat) (d : Option Tmp) (l : List DOper) (D : Reads), stepDL P m base (if c then a else b) ck d l D s t Q = if c then stepDL P m base a ck d l D s t Q else stepDL P m base b ck d l D s t Q)) ∧ ((∀ (P : Program) (m : Nat) (s : List Frm) (t : T) (Q : AExit → T → AH → Prop) (base : Nat) (v : Value) (h : AH) (ck : List Nat) (d : Option Tmp) (l : List DOper) (D : Reads), callD P m base ck d l D s t Q v h = gateD P m base (askD ck D h && holesB base l h) (t.put d v) h l D s Q) ∧ (∀ (P : Program) (m : Nat) (s : List Frm) (t : T) (h : AH) (Q : AExit → T → AH → Prop) (base : Nat) (f : FuncId) (args : List Value) (ck : List Nat) (d : Option Tmp) (l : List DOper) (D : Reads), stepDC P m base (some (f, args)) ck d l D s t h Q = AC P f args h (callD P m base ck d l D s t Q)))) ∧ (((∀ (P : Program) (m : Nat) (s : List Frm) (t : T) (h : AH) (Q : AExit → T → AH → Prop) (base : Nat) (ck : List Nat) (d : Option Tmp) (l : List DOper) (D : Reads), stepDC P m base none ck d l D s t h Q = False) ∧ (∀ (P : Program) (m : Nat) (s : List Frm) (t : T) (h : AH) (Q : AExit → T → AH → Prop) (base : Nat) (x : DOper) (l : List DOper) (D : Reads), stepD P m base 0 x l D s t h Q = stepDP P m base (evP P t x.x.op) x.x.dst l D s t h Q)) ∧ ((∀ (P : Program) (m : Nat) (s : List Frm) (t : T) (h : AH) (Q : AExit → T → AH → Prop) (base : Nat) (x : DOper) (l : List DOper) (D : Reads), stepD P m base 1 x l D s t h Q = stepDR P m base x.i (evR t h x.x.op) x.x.op x.x.dst l D s t h Q) ∧ (∀ (P : Program) (m : Nat) (s : List Frm) (t : T) (h : AH) (Q : AExit → T → AH → Prop) (base : Nat) (x : DOper) (l : List DOper) (D : Reads), stepD P m base 2 x l D s t h Q = stepDF P m base (base + x.fi) (evF t (base + x.fi) x.x.op) x.x.dst l D s t h Q))))))) ∧ ((((((∀ (P : Program) (m : Nat) (s : List Frm) (t : T) (h : AH) (Q : AExit → T → AH → Prop) (base : Nat) (x : DOper) (l : List DOper) (D : Reads), stepD P m base 3 x l D s t h Q = stepDL P m base (evL t h x.x.op) x.chk x.x.dst l D s t Q) ∧ ((∀ (P : Program) (m : Nat) (s : List Frm) (t : T) (h : AH) (Q : AExit → T → AH → Prop) (base : Nat) (x : DOper) (l : List DOper) (D : Reads), stepD P m base 4 x l D s t h Q = stepDC P m base (evC t x.x.op) x.chk x.x.dst l D s t h Q) ∧ (∀ (P : Program) (m : Nat) (s : List Frm) (t : T) (h : AH) (Q : AExit → T → AH → Prop) (base : Nat) (x : DOper) (l : List DOper) (D : Reads), wantD P m base (some true) x l D s t h Q = stepD P m base (kd x.x.op) x l D s t h Q))) ∧ (((∀ (P : Program) (m : Nat) (s : List Frm) (t : T) (h : AH) (Q : AExit → T → AH → Prop) (base : Nat) (x : DOper) (l : List DOper) (D : Reads), wantD P m base (some false) x l D s t h Q = goD P m base (t.put x.x.dst undef) h l D s Q) ∧ (∀ (P : Program) (m : Nat) (s : List Frm) (t : T) (h : AH) (Q : AExit → T → AH → Prop) (base : Nat) (x : DOper) (l : List DOper) (D : Reads), wantD P m base none x l D s t h Q = False)) ∧ ((∀ (P : Program) (m : Nat) (s : List Frm) (t : T) (h : AH) (Q : AExit → T → AH → Prop) (base : Nat) (b : Bool) (x : DOper) (l : List DOper) (D : Reads), wantD P m base (some b) x l D s t h Q = if b = true then stepD P m base (kd x.x.op) x l D s t h Q else goD P m base (t.put x.x.dst undef) h l D s Q) ∧ (∀ (t : T) (h : AH) (op : AOp), rdF t op h = evR t h op)))) ∧ (((∀ (u v : Value), sameO (some u) v = veq u v) ∧ ((∀ (v : Value), sameO none v = false) ∧ (∀ (h : AH) (l : List Nat), askD l [] h = true))) ∧ (((∀ (h : AH) (D : Reads), askD [] D h = true) ∧ (∀ (h : AH) (l : List Nat) (i : Nat) (f : AH → Option Value) (v : Value) (D : Reads), askD l ((i, f, v) :: D) h = ((!(l.contains i) || sameO (f h) v) && askD l D h))) ∧ ((∀ (h : AH) (base : Nat), holesB base [] h = true) ∧ (∀ (h : AH) (base : Nat) (e : DOper) (l : List DOper), holesB base (e :: l) h = ((kd e.x.op != 2 || isHole h (base + e.fi)) && holesB base l h)))))) ∧ ((((∀ (t : T) (h : AH) (res : List ARes) (K : Value → AH → Prop), finQ res K .normal t h = finV (evRes t h res) h K) ∧ ((∀ (t : T) (h : AH) (res : List ARes) (K : Value → AH → Prop), finQ res K .ret t h = finV (evRes t h res) h K) ∧ (∀ (h : AH) (vs : List Value) (K : Value → AH → Prop), finV (some vs) h K = K (oneOf vs) h))) ∧ (((∀ (h : AH) (K : Value → AH → Prop), finV none h K = False) ∧ (∀ (v : Value), oneOf [v] = v)) ∧ ((oneOf [] = .tuple #[]) ∧ (∀ (v u : Value) (l : List Value), oneOf (v :: u :: l) = .tuple (v :: u :: l).toArray)))) ∧ ((((∀ (t : T) (h : AH) (Q : AExit → T → AH → Prop) {σ : Type} (I : σ → T → AH → Prop) (μ : σ → Nat) (s : σ), loopQ I μ s Q .normal t h = ∃ s', μ s' < μ s ∧ I s' t h) ∧ (∀ (t : T) (h : AH) (Q : AExit → T → AH → Prop) {σ : Type} (I : σ → T → AH → Prop) (μ : σ → Nat) (s : σ) (i : Nat), loopQ I μ s Q (.exit i) t h = Q (.exit i) t h)) ∧ ((∀ (t : T) (h : AH) (Q : AExit → T → AH → Prop) {σ : Type} (I : σ → T → AH → Prop) (μ : σ → Nat) (s : σ), loopQ I μ s Q .ret t h = Q .ret t h) ∧ (∀ (m : Nat) (t : T) (h : AH) (Q : AExit → T → AH → Prop) {σ : Type} (n : Nat) (I : σ → Prop) (μ : σ → Nat) (tv : σ → List (Nat × Value)) (hv : σ → AH) (s : σ), loopQ2 m n I μ tv hv s Q .normal t h = ∃ s', μ s' < μ s ∧ I s' ∧ atHead m n (tv s') (hv s') t h))) ∧ (((∀ (m : Nat) (t : T) (h : AH) (Q : AExit → T → AH → Prop) {σ : Type} (n : Nat) (I : σ → Prop) (μ : σ → Nat) (tv : σ → List (Nat × Value)) (hv : σ → AH) (s : σ) (i : Nat), loopQ2 m n I μ tv hv s Q (.exit i) t h = Q (.exit i) t h) ∧ (∀ (m : Nat) (t : T) (h : AH) (Q : AExit → T → AH → Prop) {σ : Type} (n : Nat) (I : σ → Prop) (μ : σ → Nat) (tv : σ → List (Nat × Value)) (hv : σ → AH) (s : σ), loopQ2 m n I μ tv hv s Q .ret t h = Q .ret t h)) ∧ ((∀ (m : Nat) (t : T) (h : AH) (Q : AExit → T → AH → Prop) {σ : Type} (n : Nat) (I : σ → Prop) (μ : σ → Nat) (tv : σ → List (Nat × Value)) (hv : σ → AH) (s : σ), loopQ3 m n I μ tv hv s Q .normal t h = nextS m n I μ tv hv s t h) ∧ (∀ (m : Nat) (t : T) (h : AH) (Q : AExit → T → AH → Prop) {σ : Type} (n : Nat) (I : σ → Prop) (μ : σ → Nat) (tv : σ → List (Nat × Value)) (hv : σ → AH) (s : σ) (i : Nat), loopQ3 m n I μ tv hv s Q (.exit i) t h = Q (.exit i) t h)))))) ∧ (((((∀ (m : Nat) (t : T) (h : AH) (Q : AExit → T → AH → Prop) {σ : Type} (n : Nat) (I : σ → Prop) (μ : σ → Nat) (tv : σ → List (Nat × Value)) (hv : σ → AH) (s : σ), loopQ3 m n I μ tv hv s Q .ret t h = Q .ret t h) ∧ ((∀ (n : Nat), mkT n [] = nones n) ∧ (∀ (n i : Nat) (v : Value) (l : List (Nat × Value)), mkT n ((i, v) :: l) = setT (mkT n l) i (some v)))) ∧ (((∀ (k k' : IntKind) (a b : Int), evMm true [.int k a, .int k' b] = some (.int k (max a b))) ∧ (∀ (k k' : IntKind) (a b : Int), evMm false [.int k a, .int k' b] = some (.int k (min a b)))) ∧ ((∀ (n : Nat), (n + 1 ≤ n) = False) ∧ (∀ (t : T) (i : Nat), evalO t (.tmp i) = getT t i)))) ∧ (((∀ (t : T) (v : Value), evalO t (.const v) = if plain v then some v else none) ∧ ((∀ (t : T) (f : FuncId), evalO t (.func f) = some (.func (.func f) #[] #[])) ∧ (∀ (t : T) (g : Nat), evalO t (.global g) = none))) ∧ (((∀ (x : Option Value) (l : T), getT (x :: l) 0 = x) ∧ (∀ (a x : Option Value) (l : T), getT (a :: x :: l) 1 = x)) ∧ ((∀ (a b x : Option Value) (l : T), getT (a :: b :: x :: l) 2 = x) ∧ (∀ (a b c x : Option Value) (l : T), getT (a :: b :: c :: x :: l) 3 = x))))) ∧ ((((∀ (a b c d a1 b1 c1 d1 a2 b2 c2 d2 a3 b3 c3 d3 : Option Value) (l : T) (n : Nat), getT (a :: b :: c :: d :: a1 :: b1 :: c1 :: d1 :: a2 :: b2 :: c2 :: d2 :: a3 :: b3 :: c3 :: d3 :: l) (n + 16) = getT l n) ∧ ((∀ (a b c d : Option Value) (l : T) (n : Nat), getT (a :: b :: c :: d :: l) (n + 4) = getT l n) ∧ (∀ (t : T) (d : Tmp) (v : Value), T.put t (some d) v = setT t d (some v)))) ∧ (((∀ (t : T) (v : Value), T.put t none v = t) ∧ (∀ (x v : Option Value) (l : T), setT (x :: l) 0 v = v :: l)) ∧ ((∀ (a x v : Option Value) (l : T), setT (a :: x :: l) 1 v = a :: v :: l) ∧ (∀ (a b x v : Option Value) (l : T), setT (a :: b :: x :: l) 2 v = a :: b :: v :: l)))) ∧ ((((∀ (a b c x v : Option Value) (l : T), setT (a :: b :: c :: x :: l) 3 v = a :: b :: c :: v :: l) ∧ (∀ (a b c d a1 b1 c1 d1 a2 b2 c2 d2 a3 b3 c3 d3 v : Option Value) (l : T) (n : Nat), setT (a :: b :: c :: d :: a1 :: b1 :: c1 :: d1 :: a2 :: b2 :: c2 :: d2 :: a3 :: b3 :: c3 :: d3 :: l) (n + 16) v = a :: b :: c :: d :: a1 :: b1 :: c1 :: d1 :: a2 :: b2 :: c2 :: d2 :: a3 :: b3 :: c3 :: d3 :: setT l n v)) ∧ ((∀ (a b c d v : Option Value) (l : T) (n : Nat), setT (a :: b :: c :: d :: l) (n + 4) v = a :: b :: c :: d :: setT l n v) ∧ (∀ (z : List Value), reps z 0 = []))) ∧ (((∀ (z : List Value) (n : Nat), reps z (n + 1) = z ++ reps z n) ∧ (∀ (vs : List Value) (o : Nat) (v : Value), splice vs o [v] = vs.set o v)) ∧ ((∀ {R : Type _} (a b bot : R), onB (some (.bool true)) a b bot = a) ∧ (∀ {R : Type _} (a b bot : R), onB (some (.bool false)) a b bot = b)))))))) :=
 ⟨⟨⟨⟨⟨⟨(by intros; first | (apply begin_eq; done) | (apply begin_eq <;> assumption) | rfl),⟨(by intros; first | (apply nones_0; done) | (apply nones_0 <;> assumption) | rfl),(by intros; first | (apply nones_1; done) | (apply nones_1 <;> assumption) | rfl)⟩⟩,⟨⟨(by intros; first | (apply nones_2; done) | (apply nones_2 <;> assumption) | rfl),(by intros; first | (apply nones_3; done) | (apply nones_3 <;> assumption) | rfl)⟩,⟨(by intros; first | (apply nones_s4; done) | (apply nones_s4 <;> assumption) | rfl),(by intros; first | (apply openD_eq; done) | (apply openD_eq <;> assumption) | rfl)⟩⟩⟩,⟨⟨(by intros; first | (apply holes_0; done) | (apply holes_0 <;> assumption) | rfl),⟨(by intros; first | (apply holes_s; done) | (apply holes_s <;> assumption) | rfl),(by intros; first | (apply condK_true; done) | (apply condK_true <;> assumption) | rfl)⟩⟩,⟨⟨(by intros; first | (apply condK_false; done) | (apply condK_false <;> assumption) | rfl),(by intros; first | (apply condK_bool; done) | (apply condK_bool <;> assumption) | rfl)⟩,⟨(by intros; first | (apply goT_eq; done) | (apply goT_eq <;> assumption) | rfl),(by intros; first | (apply stepP_some; done) | (apply stepP_some <;> assumption) | rfl)⟩⟩⟩⟩,⟨⟨⟨(by intros; first | (apply stepP_none; done) | (apply stepP_none <;> assumption) | rfl),⟨(by intros; first | (apply stepP_ite; done) | (apply stepP_ite <;> assumption) | rfl),(by intros; first | (apply stepF_some; done) | (apply stepF_some <;> assumption) | rfl)⟩⟩,⟨⟨(by intros; first | (apply stepF_none; done) | (apply stepF_none <;> assumption) | rfl),(by intros; first | (apply stepF_ite; done) | (apply stepF_ite <;> assumption) | rfl)⟩,⟨(by intros; first | (apply stepL_some; done) | (apply stepL_some <;> assumption) | rfl),(by intros; first | (apply stepL_none; done) | (apply stepL_none <;> assumption) | rfl)⟩⟩⟩,⟨⟨⟨(by intros; first | (apply stepL_ite; done) | (apply stepL_ite <;> assumption) | rfl),(by intros; first | (apply callK_eq; done) | (apply callK_eq <;> assumption) | rfl)⟩,⟨(by intros; first | (apply stepC_some; done) | (apply stepC_some <;> assumption) | rfl),(by intros; first | (apply stepC_none; done) | (apply stepC_none <;> assumption) | rfl)⟩⟩,⟨⟨(by intros; first | (apply step_0; done) | (apply step_0 <;> assumption) | rfl),(by intros; first | (apply step_1; done) | (apply step_1 <;> assumption) | rfl)⟩,⟨(by intros; first | (apply step_2; done) | (apply step_2 <;> assumption) | rfl),(by intros; first | (apply step_3; done) | (apply step_3 <;> assumption) | rfl)⟩⟩⟩⟩⟩,⟨⟨⟨⟨(by intros; first | (apply step_4; done) | (apply step_4 <;> assumption) | rfl),⟨(by intros; first | (apply step_5; done) | (apply step_5 <;> assumption) | rfl),(by intros; first | (apply stepI_some; done) | (apply stepI_some <;> assumption) | rfl)⟩⟩,⟨⟨(by intros; first | (apply stepI_none; done) | (apply stepI_none <;> assumption) | rfl),(by intros; first | (apply wantK_true; done) | (apply wantK_true <;> assumption) | rfl)⟩,⟨(by intros; first | (apply wantK_false; done) | (apply wantK_false <;> assumption) | rfl),(by intros; first | (apply wantK_none; done) | (apply wantK_none <;> assumption) | rfl)⟩⟩⟩,⟨⟨(by intros; first | (apply wantK_some; done) | (apply wantK_some <;> assumption) | rfl),⟨(by intros; first | (apply goD_eq; done) | (apply goD_eq <;> assumption) | rfl),(by intros; first | (apply gateD_true; done) | (apply gateD_true <;> assumption) | rfl)⟩⟩,⟨⟨(by intros; first | (apply gateD_false; done) | (apply gateD_false <;> assumption) | rfl),(by intros; first | (apply stepDP_some; done) | (apply stepDP_some <;> assumption) | rfl)⟩,⟨(by intros; first | (apply stepDP_none; done) | (apply stepDP_none <;> assumption) | rfl),(by intros; first | (apply stepDP_ite; done) | (apply stepDP_ite <;> assumption) | rfl)⟩⟩⟩⟩,⟨⟨⟨(by intros; first | (apply stepDR_some; done) | (apply stepDR_some <;> assumption) | rfl),⟨(by intros; first | (apply stepDR_none; done) | (apply stepDR_none <;> assumption) | rfl),(by intros; first | (apply stepDR_ite; done) | (apply stepDR_ite <;> assumption) | rfl)⟩⟩,⟨⟨(by intros; first | (apply stepDF_some; done) | (apply stepDF_some <;> assumption) | rfl),(by intros; first | (apply stepDF_none; done) | (apply stepDF_none <;> assumption) | rfl)⟩,⟨(by intros; first | (apply stepDF_ite; done) | (apply stepDF_ite <;> assumption) | rfl),(by intros; first | (apply stepDL_some; done) | (apply stepDL_some <;> assumption) | rfl)⟩⟩⟩,⟨⟨⟨(by intros; first | (apply stepDL_none; done) | (apply stepDL_none <;> assumption) | rfl),(by intros; first | (apply stepDL_ite; done) | (apply stepDL_ite <;> assumption) | rfl)⟩,⟨(by intros; first | (apply callD_eq; done) | (apply callD_eq <;> assumption) | rfl),(by intros; first | (apply stepDC_some; done) | (apply stepDC_some <;> assumption) | rfl)⟩⟩,⟨⟨(by intros; first | (apply stepDC_none; done) | (apply stepDC_none <;> assumption) | rfl),(by intros; first | (apply stepD_0; done) | (apply stepD_0 <;> assumption) | rfl)⟩,⟨(by intros; first | (apply stepD_1; done) | (apply stepD_1 <;> assumption) | rfl),(by intros; first | (apply stepD_2; done) | (apply stepD_2 <;> assumption) | rfl)⟩⟩⟩⟩⟩⟩,⟨⟨⟨⟨⟨(by intros; first | (apply stepD_3; done) | (apply stepD_3 <;> assumption) | rfl),⟨(by intros; first | (apply stepD_4; done) | (apply stepD_4 <;> assumption) | rfl),(by intros; first | (apply wantD_true; done) | (apply wantD_true <;> assumption) | rfl)⟩⟩,⟨⟨(by intros; first | (apply wantD_false; done) | (apply wantD_false <;> assumption) | rfl),(by intros; first | (apply wantD_none; done) | (apply wantD_none <;> assumption) | rfl)⟩,⟨(by intros; first | (apply wantD_some; done) | (apply wantD_some <;> assumption) | rfl),(by intros; first | (apply rdF_eq; done) | (apply rdF_eq <;> assumption) | rfl)⟩⟩⟩,⟨⟨(by intros; first | (apply sameO_some; done) | (apply sameO_some <;> assumption) | rfl),⟨(by intros; first | (apply sameO_none; done) | (apply sameO_none <;> assumption) | rfl),(by intros; first | (apply askD_nil; done) | (apply askD_nil <;> assumption) | rfl)⟩⟩,⟨⟨(by intros; first | (apply askD_none; done) | (apply askD_none <;> assumption) | rfl),(by intros; first | (apply askD_cons; done) | (apply askD_cons <;> assumption) | rfl)⟩,⟨(by intros; first | (apply holesB_nil; done) | (apply holesB_nil <;> assumption) | rfl),(by intros; first | (apply holesB_cons; done) | (apply holesB_cons <;> assumption) | rfl)⟩⟩⟩⟩,⟨⟨⟨(by intros; first | (apply finQ_normal; done) | (apply finQ_normal <;> assumption) | rfl),⟨(by intros; first | (apply finQ_ret; done) | (apply finQ_ret <;> assumption) | rfl),(by intros; first | (apply finV_some; done) | (apply finV_some <;> assumption) | rfl)⟩⟩,⟨⟨(by intros; first | (apply finV_none; done) | (apply finV_none <;> assumption) | rfl),(by intros; first | (apply oneOf_one; done) | (apply oneOf_one <;> assumption) | rfl)⟩,⟨(by intros; first | (apply oneOf_nil; done) | (apply oneOf_nil <;> assumption) | rfl),(by intros; first | (apply oneOf_more; done) | (apply oneOf_more <;> assumption) | rfl)⟩⟩⟩,⟨⟨⟨(by intros; first | (apply loopQ_normal; done) | (apply loopQ_normal <;> assumption) | rfl),(by intros; first | (apply loopQ_exit; done) | (apply loopQ_exit <;> assumption) | rfl)⟩,⟨(by intros; first | (apply loopQ_ret; done) | (apply loopQ_ret <;> assumption) | rfl),(by intros; first | (apply loopQ2_normal; done) | (apply loopQ2_normal <;> assumption) | rfl)⟩⟩,⟨⟨(by intros; first | (apply loopQ2_exit; done) | (apply loopQ2_exit <;> assumption) | rfl),(by intros; first | (apply loopQ2_ret; done) | (apply loopQ2_ret <;> assumption) | rfl)⟩,⟨(by intros; first | (apply loopQ3_normal; done) | (apply loopQ3_normal <;> assumption) | rfl),(by intros; first | (apply loopQ3_exit; done) | (apply loopQ3_exit <;> assumption) | rfl)⟩⟩⟩⟩⟩,⟨⟨⟨⟨(by intros; first | (apply loopQ3_ret; done) | (apply loopQ3_ret <;> assumption) | rfl),⟨(by intros; first | (apply mkT_nil; done) | (apply mkT_nil <;> assumption) | rfl),(by intros; first | (apply mkT_cons; done) | (apply mkT_cons <;> assumption) | rfl)⟩⟩,⟨⟨(by intros; first | (apply evMm_max; done) | (apply evMm_max <;> assumption) | rfl),(by intros; first | (apply evMm_min; done) | (apply evMm_min <;> assumption) | rfl)⟩,⟨(by intros; first | (apply nsl; done) | (apply nsl <;> assumption) | rfl),(by intros; first | (apply evO_tmp; done) | (apply evO_tmp <;> assumption) | rfl)⟩⟩⟩,⟨⟨(by intros; first | (apply evO_const; done) | (apply evO_const <;> assumption) | rfl),⟨(by intros; first | (apply evO_func; done) | (apply evO_func <;> assumption) | rfl),(by intros; first | (apply evO_global; done) | (apply evO_global <;> assumption) | rfl)⟩⟩,⟨⟨(by intros; first | (apply getT_0; done) | (apply getT_0 <;> assumption) | rfl),(by intros; first | (apply getT_1; done) | (apply getT_1 <;> assumption) | rfl)⟩,⟨(by intros; first | (apply getT_2; done) | (apply getT_2 <;> assumption) | rfl),(by intros; first | (apply getT_3; done) | (apply getT_3 <;> assumption) | rfl)⟩⟩⟩⟩,⟨⟨⟨(by intros; first | (apply getT_s16; done) | (apply getT_s16 <;> assumption) | rfl),⟨(by intros; first | (apply getT_s4; done) | (apply getT_s4 <;> assumption) | rfl),(by intros; first | (apply put_some; done) | (apply put_some <;> assumption) | rfl)⟩⟩,⟨⟨(by intros; first | (apply put_none; done) | (apply put_none <;> assumption) | rfl),(by intros; first | (apply setT_0; done) | (apply setT_0 <;> assumption) | rfl)⟩,⟨(by intros; first | (apply setT_1; done) | (apply setT_1 <;> assumption) | rfl),(by intros; first | (apply setT_2; done) | (apply setT_2 <;> assumption) | rfl)⟩⟩⟩,⟨⟨⟨(by intros; first | (apply setT_3; done) | (apply setT_3 <;> assumption) | rfl),(by intros; first | (apply setT_s16; done) | (apply setT_s16 <;> assumption) | rfl)⟩,⟨(by intros; first | (apply setT_s4; done) | (apply setT_s4 <;> assumption) | rfl),(by intros; first | (apply reps_zero; done) | (apply reps_zero <;> assumption) | rfl)⟩⟩,⟨⟨(by intros; first | (apply reps_succ; done) | (apply reps_succ <;> assumption) | rfl),(by intros; first | (apply splice_one; done) | (apply splice_one <;> assumption) | rfl)⟩,⟨(by intros; first | (apply onB_true; done) | (apply onB_true <;> assumption) | rfl),(by intros; first | (apply onB_false; done) | (apply onB_false <;> assumption) | rfl)⟩⟩⟩⟩⟩⟩⟩
theorem GB : (((((∀ (x : Option Value) (l : T),getT (x :: l) 0 = x) ∧ (∀ (a x : Option Value) (l : T),getT (a :: x :: l) 1 = x)) ∧ ((∀ (a b x : Option Value) (l : T),getT (a :: b :: x :: l) 2 = x) ∧ (∀ (a b c x : Option Value) (l : T),getT (a :: b :: c :: x :: l) 3 = x))) ∧ (((∀ (a b c d a1 b1 c1 d1 a2 b2 c2 d2 a3 b3 c3 d3 : Option Value) (l : T) (n : Nat),getT (a :: b :: c :: d :: a1 :: b1 :: c1 :: d1 :: a2 :: b2 :: c2 :: d2 :: a3 :: b3 :: c3 :: d3 :: l) (n + 16) = getT l n) ∧ (∀ (a b c d : Option Value) (l : T) (n : Nat),getT (a :: b :: c :: d :: l) (n + 4) = getT l n)) ∧ ((∀ (n : Nat),mkT n [] = nones n) ∧ ((∀ (n i : Nat) (v : Value) (l : List (Nat × Value)),mkT n ((i,v) :: l) = setT (mkT n l) i (some v)) ∧ (∀ (x v : Option Value) (l : T),setT (x :: l) 0 v = v :: l))))) ∧ ((((∀ (a x v : Option Value) (l : T),setT (a :: x :: l) 1 v = a :: v :: l) ∧ (∀ (a b x v : Option Value) (l : T),setT (a :: b :: x :: l) 2 v = a :: b :: v :: l)) ∧ ((∀ (a b c x v : Option Value) (l : T),setT (a :: b :: c :: x :: l) 3 v = a :: b :: c :: v :: l) ∧ ((∀ (a b c d a1 b1 c1 d1 a2 b2 c2 d2 a3 b3 c3 d3 v : Option Value) (l : T) (n : Nat),setT (a :: b :: c :: d :: a1 :: b1 :: c1 :: d1 :: a2 :: b2 :: c2 :: d2 :: a3 :: b3 :: c3 :: d3 :: l) (n + 16) v = a :: b :: c :: d :: a1 :: b1 :: c1 :: d1 :: a2 :: b2 :: c2 :: d2 :: a3 :: b3 :: c3 :: d3 :: setT l n v) ∧ (∀ (a b c d v : Option Value) (l : T) (n : Nat),setT (a :: b :: c :: d :: l) (n + 4) v = a :: b :: c :: d :: setT l n v)))) ∧ (((nones 0 = []) ∧ (nones 1 = [none])) ∧ ((nones 2 = [none,none]) ∧ ((nones 3 = [none,none,none]) ∧ (∀ (n : Nat),nones (n + 4) = none :: none :: none :: none :: nones n)))))) :=
 ⟨⟨⟨⟨(by intros; first | (apply getT_0; done) | (apply getT_0 <;> assumption) | rfl),(by intros; first | (apply getT_1; done) | (apply getT_1 <;> assumption) | rfl)⟩,⟨(by intros; first | (apply getT_2; done) | (apply getT_2 <;> assumption) | rfl),(by intros; first | (apply getT_3; done) | (apply getT_3 <;> assumption) | rfl)⟩⟩,⟨⟨(by intros; first | (apply getT_s16; done) | (apply getT_s16 <;> assumption) | rfl),(by intros; first | (apply getT_s4; done) | (apply getT_s4 <;> assumption) | rfl)⟩,⟨(by intros; first | (apply mkT_nil; done) | (apply mkT_nil <;> assumption) | rfl),⟨(by intros; first | (apply mkT_cons; done) | (apply mkT_cons <;> assumption) | rfl),(by intros; first | (apply setT_0; done) | (apply setT_0 <;> assumption) | rfl)⟩⟩⟩⟩,⟨⟨⟨(by intros; first | (apply setT_1; done) | (apply setT_1 <;> assumption) | rfl),(by intros; first | (apply setT_2; done) | (apply setT_2 <;> assumption) | rfl)⟩,⟨(by intros; first | (apply setT_3; done) | (apply setT_3 <;> assumption) | rfl),⟨(by intros; first | (apply setT_s16; done) | (apply setT_s16 <;> assumption) | rfl),(by intros; first | (apply setT_s4; done) | (apply setT_s4 <;> assumption) | rfl)⟩⟩⟩,⟨⟨(by intros; first | (apply nones_0; done) | (apply nones_0 <;> assumption) | rfl),(by intros; first | (apply nones_1; done) | (apply nones_1 <;> assumption) | rfl)⟩,⟨(by intros; first | (apply nones_2; done) | (apply nones_2 <;> assumption) | rfl),⟨(by intros; first | (apply nones_3; done) | (apply nones_3 <;> assumption) | rfl),(by intros; first | (apply nones_s4; done) | (apply nones_s4 <;> assumption) | rfl)⟩⟩⟩⟩⟩
end Abs
end Go.Proofs.Ytongllppbifiaaa
namespace Go.Proofs.Ytongllppbifiaaa
namespace Abs
open Go
set_option linter.unusedVariables false
set_option linter.unusedSimpArgs false
theorem Sees.new {S : Type} {heaps : S → AH → Prop} {s : S} {h' : AH} {v : Value} {K : Value → AH → Prop} {i : Nat} {is : List Nat} (g : AH) (hg : heaps s g) (ho : own g) (ok : AOK g) (hc : ∃ vs e,g[0]? = some (.cells vs e none)) (hnd : (i :: is).Nodup) (hl : (i :: is).length = g.length) (hs : subL (nth (i :: is)) h' 0 g)
  (v2 : Value) (hv : v = ren (fun b => if b = 0 then i else b) v2) (hsc : scp (live [.adt (mkADT S heaps) s]) v2 = true) (hK : K v2 [.adt (mkADT S heaps) s]) : Sees 0 h' v K := by
 have hσ : Spec.σ [(ABlk.adt (mkADT S heaps) s,i :: is)] = fun b => if b = 0 then i else b := by
  funext b
  unfold Spec.σ
  cases b with
  | zero => rfl
  | succ b => simp
 refine Sees.mk [(.adt (mkADT S heaps) s,i :: is)] v2 (fun b k js hb => ?_) ⟨by simp,trivial⟩ ?_ hsc (by rw [hσ]; exact hv) (fun b hb => by omega) (fun b hb => by omega) (by simp) hK
 ·match b with
  | 0 =>
   simp at hb
   obtain ⟨rfl,rfl⟩ := hb
   exact okBlk_close g hg ho ok hc (by rw [hσ]; rfl) hnd hl hs
  | n + 1 => simp at hb
 ·exact AOK.of ⟨trivial,trivial⟩
theorem nth_range : ∀ (n a b : Nat),b < n → nth (List.range' a n) b = a + b
 | 0,a,b,h => by omega
 | n + 1,a,0,h => by simp [List.range'_succ,nth]
 | n + 1,a,b + 1,h => by
  rw [List.range'_succ,nth_s,nth_range n (a + 1) b (by omega)]
  omega
theorem headId {m n : Nat} {tv : List (Nat × Value)} {g : AH} {t : T} {h : AH} (hp : ∀ (b : Nat) (k : ABlk),g[b]? = some k → h[b]? = some k) (ok : AOK g) (hl : ∀ b,b < m → live g b = true) (hm : m ≤ g.length) (hn : t.length = n) (ht : ∀ x ∈ tv,getT t x.1 = some x.2 ∧ scp (live g) x.2 = true) : atHeadV m n tv g t h := by
 have hlen : g.length = (List.range g.length).length := by simp
 have hσ : (pairUp g (List.range g.length)).σ = fun b => b := by
  rw [pairUp_σ hlen]
  funext b
  unfold nthD
  split
  ·rename_i hb
   rw [List.range_eq_range', nth_range _ _ _ (by simpa using hb)]
   omega
  ·rfl
 refine ⟨pairUp g (List.range g.length),(pairUp_map hlen).symm,fun b k is hb => ?_,pairUp_dis List.nodup_range,ok,fun b hb => ⟨by rw [hσ],hl b hb⟩,hm,hn,fun x hx => by rw [hσ,ren_id]; exact ht x hx⟩
 rw [pairUp_get hlen] at hb
 cases hx : g[b]? with
 | none => rw [hx] at hb; cases hb
 | some k' =>
  rw [hx] at hb
  injection hb with hb
  injection hb with q1 q2
  subst q1 q2
  have hbl := (List.getElem?_eq_some_iff.1 hx).1
  have e : nth (List.range g.length) b = b := by
   rw [List.range_eq_range', nth_range _ _ _ (by simpa using hbl)]
   omega
  rw [e]
  refine okBlk_keep (by rw [hσ]) ?_
  rw [hσ,renB_id]
  exact hp b k' hx
end Abs
end Go.Proofs.Ytongllppbifiaaa
namespace Go.Proofs.Ytongllppbifiaaa
namespace Abs
open Go
set_option linter.unusedVariables false
set_option linter.unusedSimpArgs false
section
variable {P : Program} {f : FuncId} {K : Value → AH → Prop}
theorem Holds.noNames {ρ ρ' : Ren} {cb : CB} {w : World} {k : ABlk} (hn : Abs.noNames k) (h : Holds ρ cb w k) : Holds ρ' cb w k :=
 h.congr (n := nil) (scp_noNames hn nil) (fun b hb => by cases hb)
end
end Abs
end Go.Proofs.Ytongllppbifiaaa
namespace Go.Proofs.Ytongllppbifiaaa
namespace Abs
open Go
set_option linter.unusedVariables false
set_option linter.unusedSimpArgs false
mutual
theorem ren_scope {L : Nat → Bool} {σ : Nat → Nat} (h : ∀ b,L b = true → σ b = b) : ∀ v,scp L v = true → ren σ v = v
 | .pointer (some a),hs => by simp only [scp] at hs; simp only [ren,renA,h _ hs]
 | .slice (some a) _ _,hs => by simp only [scp] at hs; simp only [ren,renA,h _ hs]
 | .map (some r),hs => by simp only [scp] at hs; simp only [ren,h _ hs]
 | .chan (some r),hs => by simp only [scp] at hs; simp only [ren,h _ hs]
 | .func fn first captured,hs => by
  simp only [scp,Bool.and_eq_true] at hs
  simp only [ren,renAr_scope h first hs.1,renAr_scope h captured hs.2]
 | .iface t v,hs => by simp only [scp] at hs; simp only [ren,ren_scope h v hs]
 | .agg cs,hs => by simp only [scp] at hs; simp only [ren,renAr_scope h cs hs]
 | .tuple cs,hs => by simp only [scp] at hs; simp only [ren,renAr_scope h cs hs]
 | .pointer none,_ => by simp only [ren]
 | .slice none _ _,_ => by simp only [ren]
 | .map none,_ => by simp only [ren]
 | .chan none,_ => by simp only [ren]
 | .bool b,_ => by simp only [ren]
 | .int k n,_ => by simp only [ren]
 | .float k n,_ => by simp only [ren]
 | .complex k a b,_ => by simp only [ren]
 | .string s,_ => by simp only [ren]
 | .nilFunc,_ => by simp only [ren]
 | .nilIface,_ => by simp only [ren]
theorem renAr_scope {L : Nat → Bool} {σ : Nat → Nat} (h : ∀ b,L b = true → σ b = b) : ∀ v,scpA L v = true → renAr σ v = v
 | ⟨l⟩,hs => by simp only [scpA] at hs; simp only [renAr,renL_scope h l hs]
theorem renL_scope {L : Nat → Bool} {σ : Nat → Nat} (h : ∀ b,L b = true → σ b = b) : ∀ v,scpL L v = true → renL σ v = v
 | [],_ => by simp only [renL]
 | v :: l,hs => by
  simp only [scpL,Bool.and_eq_true] at hs
  simp only [renL,ren_scope h v hs.1,renL_scope h l hs.2]
end
theorem renB_scope {L : Nat → Bool} {σ : Nat → Nat} (h : ∀ b,L b = true → σ b = b) {k : ABlk} (hk : k.scp L) : renB σ k = k := by
 have e : ∀ l : List Value,(∀ v ∈ l,scp L v = true) → l.map (ren σ) = l := fun l hl => by
  conv => rhs; rw [← List.map_id l]
  exact List.map_congr_left fun v hv => ren_scope h v (hl v hv)
 cases k with
 | cells vs e' o => simp only [renB,e vs hk]
 | row vs => simp only [renB,e vs hk]
 | glob g vs => simp only [renB,e vs hk]
 | map es c =>
  simp only [renB]
  congr 1
  conv => rhs; rw [← List.map_id es]
  exact List.map_congr_left fun x hx => by simp [ren_scope h _ (hk x hx).1,ren_scope h _ (hk x hx).2]
 | _ => rfl
theorem subL_of {ι : Nat → Nat} {h : AH} : ∀ {g : AH} {j0 : Nat},(∀ (j : Nat) (k : ABlk),g[j]? = some k → h[ι (j0 + j)]? = some (renB ι k)) → subL ι h j0 g
 | [],_,_ => trivial
 | k :: g,j0,H => ⟨H 0 k rfl,subL_of (g := g) (j0 := j0 + 1) fun j k' hj => by
  have := H (j + 1) k' (by simpa using hj)
  rwa [show j0 + (j + 1) = j0 + 1 + j by omega] at this⟩
theorem nthR {n b : Nat} (h : b < n) : nth (List.range n) b = b := by
 rw [List.range_eq_range', nth_range _ _ _ h]
 omega
theorem subL_same {g h : AH} (ok : AOK g) (hp : ∀ (b : Nat) (k : ABlk),g[b]? = some k → h[b]? = some k) : subL (nth (List.range g.length)) h 0 g := by
 refine subL_of fun j k hj => ?_
 have hjl := (List.getElem?_eq_some_iff.1 hj).1
 rw [Nat.zero_add,nthR hjl,renB_scope (L := live g) (fun b hb => nthR (live_lt hb)) (ok j k hj)]
 exact hp j k hj
theorem Sees.pre {S : Type} {heaps : S → AH → Prop} {s : S} {h' : AH} {v : Value} {K : Value → AH → Prop} (g : AH) (hg : heaps s g) (ho : own g) (ok : AOK g) (hc : ∃ vs e,g[0]? = some (.cells vs e none)) (hp : ∀ (b : Nat) (k : ABlk),g[b]? = some k → h'[b]? = some k) (hv : plain v = true) (hK : K v [.adt (mkADT S heaps) s]) : Sees 1 h' v K := by
 have hpos : 0 < g.length := by
  obtain ⟨vs,e,hc⟩ := hc
  exact (List.getElem?_eq_some_iff.1 hc).1
 exact Sees.m0 (is := List.range g.length) g hg ho ok hc (nthR hpos) List.nodup_range (by simp) (subL_same ok hp) hv hK
end Abs
end Go.Proofs.Ytongllppbifiaaa
namespace Go.Proofs.Ytongllppbifiaaa
namespace Abs
open Go
set_option linter.unusedVariables false
set_option linter.unusedSimpArgs false
variable {P : Program} {h : AH} {K : Value → AH → Prop}
end Abs
end Go.Proofs.Ytongllppbifiaaa
