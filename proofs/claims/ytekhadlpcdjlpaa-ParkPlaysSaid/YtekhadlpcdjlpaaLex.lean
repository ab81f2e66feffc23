/- A region that draws its order, walked once in the order of the text: operations that neither read nor write memory may come at any time; reading operations and calls come ahead of all writing ones; the writing ones come in a forced order. -/
import Derived.Deep.Quiet
import Derived.StillTail
import Derived.BigQuiet
import Derived.Deep.QuietTactic
import Derived.WalkKit
import Derived.Test.YtekhadlpcdjlpaaHeap
namespace Go.Proofs.Ytekhadlpcdjlpaa
namespace Lex
open Go

inductive Kd where
  | pure | head | loud
  deriving DecidableEq

/-- Operations that hand back a value and enter no function. -/
def plainB : Op → Bool
  | .move _ | .assign _ | .pick .. | .nilCheck _ | .fieldAddr .. | .indexAddr .. | .binOp .. | .unOp .. | .load .. | .extract .. | .build .. | .convert .. | .field .. | .index .. | .slice .. | .lookup .. | .makeInterface .. => true
  | .call c => match c.callee with | .builtin .len | .builtin .cap | .builtin .min | .builtin .max => true | _ => false
  | _ => false

section
variable {P : Program} {ops : Array Oper} {md : Region.Mode} {S : World → Prop} {Q : Exit → Act → World → Prop}

def plainAt (P : Program) (o : Oper) (a : Act) (w : World) (v : Value) : Prop := (execOp a.eval o).run P w = .ok (.value v) w

/-- In every world of S the operation hands back v and leaves the world as it is. -/
def YieldsPure (P : Program) (ops : Array Oper) (S : World → Prop) (o : Oper) (v : Value) (a : Act) : Prop :=
  (Region.wanted o (yielded ops a.tmps) = true ∧ ∀ w, S w → plainAt P o a w v) ∨ (Region.wanted o (yielded ops a.tmps) = false ∧ v = undef)

def sureUpon (P : Program) (o : Oper) (a : Act) (K : Act → World → Prop) : Result Next → Prop
  | .ok (.value v) w' => K (a.put o.dst v) w'
  | .ok .skip w' => K (a.put o.dst undef) w'
  | .ok (.enter f args) w' => Calls P f args w' (fun e w'' => ∃ v, e = .returned v ∧ K (a.put o.dst v) w'')
  | .ok (.row row args) w' => Rows P row args w' (fun v w'' => K (a.put o.dst v) w'')
  | _ => False

def loudAt (P : Program) (ops : Array Oper) (o : Oper) (a : Act) (w : World) (K : Act → World → Prop) : Prop :=
  if Region.wanted o (yielded ops a.tmps) then sureUpon P o a K ((execOp a.eval o).run P w) else K (a.put o.dst undef) w

/-- The walk in the order of the list. -/
def LW (P : Program) (ops : Array Oper) (S : World → Prop) (Q : Exit → Act → World → Prop) (kd : Nat → Kd) : List Nat → (World → Prop) → Act → Prop
  | [], D, a => ∀ w, D w → Q .normal a w
  | i :: rem, D, a => match ops[i]? with
    | none => LW P ops S Q kd rem D a
    | some o => match kd i with
      | .pure => ∃ v, YieldsPure P ops S o v a ∧ LW P ops S Q kd rem D (a.put o.dst v)
      | .head => ∃ v, YieldsIn P ops D o v a ∧ LW P ops S Q kd rem D (a.put o.dst v)
      | .loud => ∀ w, D w → loudAt P ops o a w (fun a' w' => S w' ∧ LW P ops S Q kd rem (fun x => x = w') a')

theorem sureUpon_mono {o : Oper} {a : Act} {K K' : Act → World → Prop} (h : ∀ u w, K (a.put o.dst u) w → K' (a.put o.dst u) w) {r : Result Next} (hr : sureUpon P o a K r) : sureUpon P o a K' r := by
  cases r with
  | ok n w' =>
    cases n <;> simp only [sureUpon] at hr ⊢
    case value v => exact h _ _ hr
    case skip => exact h _ _ hr
    case enter f args => exact hr.mono fun e w'' ⟨v, he, hk⟩ => ⟨v, he, h _ _ hk⟩
    case row row args => exact hr.mono fun v w'' hk => h _ _ hk
  | halt x w' => simp only [sureUpon] at hr

theorem loudAt_mono {o : Oper} {a : Act} {w : World} {K K' : Act → World → Prop} (h : ∀ u w, K (a.put o.dst u) w → K' (a.put o.dst u) w) (hr : loudAt P ops o a w K) : loudAt P ops o a w K' := by
  unfold loudAt at *
  split
  · rename_i hw; rw [if_pos hw] at hr; exact sureUpon_mono h hr
  · rename_i hw; rw [if_neg hw] at hr; exact h _ _ hr

/-- What is sure comes to some end. -/
theorem loudAt_some {o : Oper} {a : Act} {w : World} {K : Act → World → Prop} (hr : loudAt P ops o a w K) : ∃ u w', K (a.put o.dst u) w' := by
  unfold loudAt at hr
  split at hr
  · generalize (execOp a.eval o).run P w = r at hr
    cases r with
    | ok n w' =>
      cases n <;> simp only [sureUpon] at hr
      case value v => exact ⟨v, w', hr⟩
      case skip => exact ⟨undef, w', hr⟩
      case enter f args =>
        obtain ⟨e, w'', fr, ⟨v, _, hk⟩, _⟩ := hr []
        exact ⟨v, w'', hk⟩
      case row row args =>
        obtain ⟨v, w'', hk, _⟩ := hr default []
        exact ⟨v, w'', hk⟩
    | halt x w' => simp only [sureUpon] at hr
  · exact ⟨undef, w, hr⟩

/-- Two operations that share no temporary. -/
structure Apart (ops : Array Oper) (x y : Oper) : Prop where
  h1 : ∀ d, x.dst = some d → d ∉ y.looksAt ops
  h2 : ∀ d, x.dst = some d → y.dst ≠ some d
  h3 : ∀ d, y.dst = some d → d ∉ x.looksAt ops
  sx : ∀ cs b, x.op ≠ .select cs b
  sy : ∀ cs b, y.op ≠ .select cs b

theorem Apart.symm {x y : Oper} (h : Apart ops x y) : Apart ops y x :=
  ⟨h.h3, fun d hd he => h.h2 d he hd, h.h1, h.sy, h.sx⟩

theorem YieldsPure.put {x y : Oper} (h : Apart ops x y) {v u : Value} {a : Act} : YieldsPure P ops S x v (a.put y.dst u) ↔ YieldsPure P ops S x v a := by
  unfold YieldsPure plainAt
  rw [execOp_put x h.sx a y.dst u h.h3, wanted_put x a y.dst u h.h3]

theorem YieldsIn.put {D : World → Prop} {x y : Oper} (h : Apart ops x y) {v u : Value} {a : Act} : YieldsIn P ops D x v (a.put y.dst u) ↔ YieldsIn P ops D x v a := by
  unfold YieldsIn Oper.quietAt
  rw [execOp_put x h.sx a y.dst u h.h3, wanted_put x a y.dst u h.h3]

theorem loudAt.put {x y : Oper} (h : Apart ops x y) {u : Value} {a : Act} {w : World} {K : Act → World → Prop} :
    loudAt P ops x (a.put y.dst u) w K ↔ loudAt P ops x a w (fun a' w' => K (a'.put y.dst u) w') := by
  unfold loudAt
  rw [execOp_put x h.sx a y.dst u h.h3, wanted_put x a y.dst u h.h3]
  have e : ∀ v, (a.put y.dst u).put x.dst v = (a.put x.dst v).put y.dst u := fun v => (Act.put_comm a v u h.h2).symm
  split
  · generalize (execOp a.eval x).run P w = r
    cases r with
    | ok n w' => cases n <;> simp only [sureUpon, e]
    | halt z w' => simp only [sureUpon]
  · rw [e]

theorem YieldsPure.unique {o : Oper} {v u : Value} {a : Act} {w : World} (hw : S w) (h1 : YieldsPure P ops S o v a) (h2 : YieldsPure P ops S o u a) : v = u := by
  rcases h1 with ⟨a1, b1⟩ | ⟨a1, b1⟩ <;> rcases h2 with ⟨a2, b2⟩ | ⟨a2, b2⟩
  · have e1 := b1 w hw
    have e2 := b2 w hw
    unfold plainAt at e1 e2
    rw [e1] at e2
    injection e2 with e3 e4
    injection e3
  · rw [a1] at a2; cases a2
  · rw [a1] at a2; cases a2
  · rw [b1, b2]

variable {kd : Nat → Kd}

theorem LW_cons {j : Nat} {r r' : List Nat} (h : ∀ D a, (∀ w, D w → S w) → (∃ w, D w) → LW P ops S Q kd r D a → LW P ops S Q kd r' D a) {D : World → Prop} {a : Act} (hS : ∀ w, D w → S w) (hne : ∃ w, D w)
    (hl : LW P ops S Q kd (j :: r) D a) : LW P ops S Q kd (j :: r') D a := by
  unfold LW at hl ⊢
  cases ho : ops[j]? with
  | none => simp only [ho] at hl ⊢; exact h D a hS hne hl
  | some o =>
    simp only [ho] at hl ⊢
    cases hk : kd j with
    | pure =>
      simp only [hk] at hl ⊢
      obtain ⟨v, hv, hl⟩ := hl
      exact ⟨v, hv, h _ _ hS hne hl⟩
    | head =>
      simp only [hk] at hl ⊢
      obtain ⟨v, hv, hl⟩ := hl
      exact ⟨v, hv, h _ _ hS hne hl⟩
    | loud =>
      simp only [hk] at hl ⊢
      intro w hw
      exact loudAt_mono (fun u w' ⟨hs, hl⟩ => ⟨hs, h _ _ (fun x hx => hx ▸ hs) ⟨w', rfl⟩ hl⟩) (hl w hw)

def compat (a b : Kd) : Bool := a == .pure || b == .pure || (a == .head && b == .head)

set_option linter.unusedVariables false in
theorem LW_swap {i j : Nat} {oi oj : Oper} {r : List Nat} (hi : ops[i]? = some oi) (hj : ops[j]? = some oj) (hap : Apart ops oi oj) (hc : compat (kd j) (kd i) = true) {D : World → Prop} {a : Act} (hS : ∀ w, D w → S w) (hne : ∃ w, D w)
    (hl : LW P ops S Q kd (j :: i :: r) D a) : LW P ops S Q kd (i :: j :: r) D a := by
  have hpc : ∀ (v u : Value), (a.put oj.dst v).put oi.dst u = (a.put oi.dst u).put oj.dst v := fun v u => (Act.put_comm a u v hap.h2).symm
  simp only [LW, hi, hj] at hl ⊢
  cases hkj : kd j with
  | pure =>
    simp only [hkj] at hl ⊢
    obtain ⟨v, hv, hl⟩ := hl
    cases hki : kd i with
    | pure =>
      simp only [hki] at hl ⊢
      obtain ⟨u, hu, hl⟩ := hl
      exact ⟨u, (YieldsPure.put hap).1 hu, v, (YieldsPure.put hap.symm).2 hv, by rw [← hpc]; exact hl⟩
    | head =>
      simp only [hki] at hl ⊢
      obtain ⟨u, hu, hl⟩ := hl
      exact ⟨u, (YieldsIn.put hap).1 hu, v, (YieldsPure.put hap.symm).2 hv, by rw [← hpc]; exact hl⟩
    | loud =>
      simp only [hki] at hl ⊢
      intro w hw
      have h1 := (loudAt.put hap).1 (hl w hw)
      exact loudAt_mono (fun u w' ⟨hs, hl⟩ => ⟨hs, v, (YieldsPure.put hap.symm).2 hv, hl⟩) h1
  | head =>
    simp only [hkj] at hl ⊢
    obtain ⟨v, hv, hl⟩ := hl
    cases hki : kd i with
    | pure =>
      simp only [hki] at hl ⊢
      obtain ⟨u, hu, hl⟩ := hl
      exact ⟨u, (YieldsPure.put hap).1 hu, v, (YieldsIn.put hap.symm).2 hv, by rw [← hpc]; exact hl⟩
    | head =>
      simp only [hki] at hl ⊢
      obtain ⟨u, hu, hl⟩ := hl
      exact ⟨u, (YieldsIn.put hap).1 hu, v, (YieldsIn.put hap.symm).2 hv, by rw [← hpc]; exact hl⟩
    | loud => rw [hkj, hki] at hc; cases hc
  | loud =>
    simp only [hkj] at hl ⊢
    cases hki : kd i with
    | pure =>
      simp only [hki] at hl ⊢
      obtain ⟨w0, hw0⟩ := hne
      obtain ⟨u0, w1, _, v0, hv0, _⟩ := loudAt_some (hl w0 hw0)
      have hv := (YieldsPure.put hap).1 hv0
      refine ⟨v0, hv, fun w hw => ?_⟩
      refine (loudAt.put hap.symm).2 (loudAt_mono (fun u w' ⟨hs, v1, hv1, hl⟩ => ⟨hs, ?_⟩) (hl w hw))
      have e : v1 = v0 := ((YieldsPure.put hap).1 hv1).unique hs hv
      subst e
      exact hl
    | head => rw [hkj, hki] at hc; cases hc
    | loud => rw [hkj, hki] at hc; cases hc

/-- An operation that is compatible with all that stand ahead of it may come first. -/
theorem LW_front {i : Nat} {oi : Oper} (hi : ops[i]? = some oi) : ∀ (rem : List Nat), i ∈ rem → rem.Nodup →
    (∀ l1 l2, rem = l1 ++ i :: l2 → ∀ j ∈ l1, ∃ oj, ops[j]? = some oj ∧ Apart ops oi oj ∧ compat (kd j) (kd i) = true) →
    ∀ (D : World → Prop) (a : Act), (∀ w, D w → S w) → (∃ w, D w) → LW P ops S Q kd rem D a → LW P ops S Q kd (i :: rem.erase i) D a := by
  intro rem
  induction rem with
  | nil => intro h; cases h
  | cons j rem ih =>
    intro hm hnd hcomp D a hS hne hl
    by_cases hji : j = i
    · subst hji
      simpa using hl
    · have hm' : i ∈ rem := by
        rcases List.mem_cons.1 hm with h | h
        · exact absurd h.symm hji
        · exact h
      have hnd' := (List.nodup_cons.1 hnd).2
      have h1 := LW_cons (P := P) (ops := ops) (S := S) (Q := Q) (kd := kd) (j := j) (r := rem) (r' := i :: rem.erase i) (fun D a hS hne hl =>
        ih hm' hnd' (fun l1 l2 e j' hj' => hcomp (j :: l1) l2 (by rw [e]; rfl) j' (List.mem_cons_of_mem _ hj')) D a hS hne hl) hS hne hl
      obtain ⟨l1, l2, e⟩ := List.append_of_mem hm'
      obtain ⟨oj, hoj, hap, hc⟩ := hcomp (j :: l1) l2 (by rw [e]; rfl) j (List.mem_cons_self ..)
      rw [List.erase_cons_tail (by simpa using hji)]
      exact LW_swap hi hoj hap hc hS hne h1

/-- What is known of the operations that have come up, and of those that are left. -/
structure Left (md : Region.Mode) (ops : Array Oper) (listed : Array Bool) (rem : List Nat) : Prop where
  size : listed.size = ops.size
  sorted : rem.Pairwise (· < ·)
  mem : ∀ k, k ∈ rem ↔ k < ops.size ∧ listed.getD k true = false
  closed : ∀ j oj, ops[j]? = some oj → listed.getD j false = true → ∀ e ∈ oj.after, Region.binds md e = true → listed.getD e.on false = true

def apartB (ops : Array Oper) (x y : Oper) : Bool := x.apart ops y

/-- anc: of each operation which ones it surely waits for, as bits. -/
def ancB (md : Region.Mode) (ops : Array Oper) (anc : Array Nat) : Bool :=
  (List.range ops.size).all fun j => match ops[j]? with
    | none => false
    | some o => (o.after.all fun e => !Region.binds md e || decide (e.on < j)) &&
      ((List.range j).all fun i => !(anc.getD j 0).testBit i || o.after.any fun e => Region.binds md e && (e.on == i || (decide (i < e.on) && (anc.getD e.on 0).testBit i)))

def pairsB (ops : Array Oper) (anc : Array Nat) (kd : Nat → Kd) : Bool :=
  (List.range ops.size).all fun i => (List.range i).all fun j => (anc.getD i 0).testBit j ||
    (match ops[i]?, ops[j]? with
      | some oi, some oj => oi.apart ops oj && compat (kd j) (kd i)
      | _, _ => false)

def plainsB (ops : Array Oper) (kd : Nat → Kd) : Bool :=
  (List.range ops.size).all fun i => kd i != .pure || (match ops[i]? with | some o => plainB o.op | none => true)

def okB (md : Region.Mode) (ops : Array Oper) (anc : Array Nat) (kd : Nat → Kd) : Bool :=
  Region.noSelect ops && ancB md ops anc && pairsB ops anc kd

/-- The bits, reckoned. -/
def ancs (md : Region.Mode) (ops : Array Oper) : Array Nat :=
  ops.foldl (fun acc o => acc.push (o.after.foldl (fun s e => if Region.binds md e then s ||| 2 ^ e.on ||| acc.getD e.on 0 else s) 0)) #[]

theorem anc_listed {anc : Array Nat} (hB : ancB md ops anc = true) {listed : Array Bool} (hcl : ∀ j oj, ops[j]? = some oj → listed.getD j false = true → ∀ e ∈ oj.after, Region.binds md e = true → listed.getD e.on false = true) :
    ∀ (j : Nat) (oj : Oper), ops[j]? = some oj → (∀ e ∈ oj.after, Region.binds md e = true → listed.getD e.on false = true) → ∀ i, i < j → (anc.getD j 0).testBit i = true → listed.getD i false = true := by
  intro j
  induction j using Nat.strongRecOn with
  | _ j ih =>
    intro oj hoj hp i hij hbit
    have hjs : j < ops.size := (Array.getElem?_eq_some_iff.1 hoj).1
    have h1 := List.all_eq_true.1 hB j (List.mem_range.2 hjs)
    simp only [hoj, Bool.and_eq_true] at h1
    have h2 := List.all_eq_true.1 h1.2 i (List.mem_range.2 hij)
    simp only [hbit, Bool.not_true, Bool.false_or] at h2
    obtain ⟨e, he, h3⟩ := Array.any_eq_true'.1 h2
    simp only [Bool.and_eq_true, Bool.or_eq_true, beq_iff_eq, decide_eq_true_eq] at h3
    obtain ⟨hb, h4⟩ := h3
    have hon := hp e he hb
    rcases h4 with h4 | ⟨hie, h4⟩
    · rw [← h4]; exact hon
    · have hlt : e.on < j := by
        have := Array.all_eq_true'.1 h1.1 e he
        simpa [hb] using this
      have hes : e.on < ops.size := by omega
      obtain ⟨oe, hoe⟩ : ∃ oe, ops[e.on]? = some oe := ⟨_, Array.getElem?_eq_getElem hes⟩
      exact ih e.on hlt oe hoe (hcl e.on oe hoe hon) i hie h4

theorem getD_tf {l : Array Bool} {i : Nat} (h : l.getD i true = false) : l.getD i false = false := by
  rcases Nat.lt_or_ge i l.size with h' | h'
  · simp [h'] at h ⊢; exact h
  · simp [Array.getElem?_eq_none h'] at h

theorem getD_ft {l : Array Bool} {i : Nat} (hi : i < l.size) (h : l.getD i true ≠ false) : l.getD i false = true := by
  simp [hi] at h ⊢; exact h

theorem Left.next {listed : Array Bool} {rem : List Nat} (h : Left md ops listed rem) {i : Nat} (hr : i ∈ Region.ready md ops listed) : Left md ops (listed.setIfInBounds i true) (rem.erase i) := by
  obtain ⟨hun, oi, hoi, hall⟩ := mem_ready.1 hr
  have hnd : rem.Nodup := h.sorted.imp (fun h => Nat.ne_of_lt h)
  refine ⟨by simp [h.size], h.sorted.sublist List.erase_sublist, fun k => ?_, fun j oj hj hl e he hb => ?_⟩
  · rw [hnd.mem_erase_iff, h.mem k]
    by_cases hki : k = i
    · subst hki
      have hks : k < listed.size := by rw [h.size]; exact (Array.getElem?_eq_some_iff.1 hoi).1
      simp [hks]
    · rw [getD_set_ne true (fun e => hki e.symm)]
      simp [hki]
  · by_cases hij : i = j
    · subst hij
      obtain rfl : oj = oi := Option.some.inj (hj.symm.trans hoi)
      exact getD_set_true (hall e he hb)
    · rw [getD_set_ne false hij] at hl
      exact getD_set_true (h.closed j oj hj hl e he hb)

theorem LW_sound {anc : Array Nat} (hB : okB md ops anc kd = true) : ∀ (n : Nat) (rem : List Nat) (listed : Array Bool) (D : World → Prop) (a : Act) (w : World), rem.length = n → Left md ops listed rem →
    (∀ w, D w → S w) → D w → LW P ops S Q kd rem D a → wpAny P md ops Q n listed a w := by
  simp only [okB, Bool.and_eq_true] at hB
  obtain ⟨⟨hsel, hanc⟩, hpairs⟩ := hB
  intro n
  induction n with
  | zero =>
    intro rem listed D a w hn hL hS hw hl
    have : rem = [] := List.length_eq_zero_iff.1 hn
    subst this
    refine ⟨?_, hl w hw⟩
    cases hr : Region.ready md ops listed with
    | nil => rfl
    | cons i _ =>
      have hi : i ∈ Region.ready md ops listed := by rw [hr]; exact List.mem_cons_self ..
      obtain ⟨hun, oi, hoi, _⟩ := mem_ready.1 hi
      have := (hL.mem i).2 ⟨(Array.getElem?_eq_some_iff.1 hoi).1, hun⟩
      cases this
  | succ n ih =>
    intro rem listed D a w hn hL hS hw hl
    have hnd : rem.Nodup := hL.sorted.imp (fun h => Nat.ne_of_lt h)
    refine ⟨fun h0 => ?_, fun i hi => ?_⟩
    · exfalso
      cases rem with
      | nil => cases hn
      | cons j rem =>
        have hj := (hL.mem j).1 (List.mem_cons_self ..)
        obtain ⟨oj, hoj⟩ : ∃ oj, ops[j]? = some oj := ⟨_, Array.getElem?_eq_getElem hj.1⟩
        have : j ∈ Region.ready md ops listed := by
          refine mem_ready.2 ⟨hj.2, oj, hoj, fun e he hb => ?_⟩
          have h1 := List.all_eq_true.1 hanc j (List.mem_range.2 hj.1)
          simp only [hoj, Bool.and_eq_true] at h1
          have hlt : e.on < j := by
            have := Array.all_eq_true'.1 h1.1 e he
            simpa [hb] using this
          apply getD_ft (by rw [hL.size]; omega)
          intro hf
          have hm := (hL.mem e.on).2 ⟨by omega, hf⟩
          rcases List.mem_cons.1 hm with h | h
          · omega
          · have := (List.pairwise_cons.1 hL.sorted).1 _ h
            omega
        rw [h0] at this
        cases this
    · obtain ⟨hun, oi, hoi, hall⟩ := mem_ready.1 hi
      have his := (Array.getElem?_eq_some_iff.1 hoi).1
      have him : i ∈ rem := (hL.mem i).2 ⟨his, hun⟩
      have hcomp : ∀ l1 l2, rem = l1 ++ i :: l2 → ∀ j ∈ l1, ∃ oj, ops[j]? = some oj ∧ Apart ops oi oj ∧ compat (kd j) (kd i) = true := by
        intro l1 l2 e j hj
        have hjm : j ∈ rem := by rw [e]; exact List.mem_append_left _ hj
        have hji : j < i := by
          have := hL.sorted
          rw [e] at this
          exact (List.pairwise_append.1 this).2.2 j hj i (List.mem_cons_self ..)
        have hj2 := (hL.mem j).1 hjm
        obtain ⟨oj, hoj⟩ : ∃ oj, ops[j]? = some oj := ⟨_, Array.getElem?_eq_getElem hj2.1⟩
        have h1 := List.all_eq_true.1 hpairs i (List.mem_range.2 his)
        have h2 := List.all_eq_true.1 h1 j (List.mem_range.2 hji)
        simp only [hoi, hoj, Bool.or_eq_true, Bool.and_eq_true] at h2
        rcases h2 with h2 | ⟨h2, h3⟩
        · have := anc_listed hanc hL.closed i oi hoi hall j hji h2
          rw [getD_tf hj2.2] at this
          cases this
        · obtain ⟨q1, q2, q3⟩ := Oper.apart_spec h2
          exact ⟨oj, hoj, ⟨q1, q2, q3, fun cs b => Region.noSelect_spec hsel i oi cs b hoi, fun cs b => Region.noSelect_spec hsel j oj cs b hoj⟩, h3⟩
      have hf := LW_front (P := P) (S := S) (Q := Q) (kd := kd) hoi rem him hnd hcomp D a hS ⟨w, hw⟩ hl
      have hlen : (rem.erase i).length = n := by rw [List.length_erase_of_mem him, hn]; rfl
      have hL' := hL.next hi
      simp only [LW, hoi] at hf
      unfold wpOp
      simp only [hoi]
      cases hk : kd i with
      | pure =>
        simp only [hk] at hf
        obtain ⟨v, hv, hl'⟩ := hf
        have hgo := ih _ _ D _ w hlen hL' hS hw hl'
        rcases hv with ⟨hwt, hp⟩ | ⟨hwt, rfl⟩
        · rw [if_pos hwt]
          left
          have := hp w (hS w hw)
          unfold plainAt at this
          unfold Oper.wp
          rw [this]
          exact hgo
        · rw [if_neg (by rw [hwt]; exact Bool.false_ne_true)]
          exact hgo
      | head =>
        simp only [hk] at hf
        obtain ⟨v, hv, hl'⟩ := hf
        have hq : qOp P ops D i (fun a' => LW P ops S Q kd (rem.erase i) D a') a := hv.qOp hoi hl'
        have := wpOp_of_qOp (Q' := Q) (K' := wpAny P md ops Q n (listed.setIfInBounds i true)) hw (fun a' w' hw' hk' => ih _ _ D a' w' hlen hL' hS hw' hk') hq
        unfold wpOp at this
        simpa only [hoi] using this
      | loud =>
        simp only [hk] at hf
        have h1 := hf w hw
        unfold loudAt at h1
        split
        · rename_i hwt
          rw [if_pos hwt] at h1
          left
          unfold Oper.wp
          generalize (execOp a.eval oi).run P w = r at h1 ⊢
          cases r with
          | ok m w' =>
            cases m <;> simp only [sureUpon] at h1 <;> simp only [Oper.upon]
            case value v => exact ih _ _ (fun x => x = w') _ w' hlen hL' (fun x hx => hx ▸ h1.1) rfl h1.2
            case skip => exact ih _ _ (fun x => x = w') _ w' hlen hL' (fun x hx => hx ▸ h1.1) rfl h1.2
            case enter f args =>
              refine h1.mono fun e w'' ⟨v, he, hs, hl'⟩ => ?_
              subst he
              exact ih _ _ (fun x => x = w'') _ w'' hlen hL' (fun x hx => hx ▸ hs) rfl hl'
            case row row args =>
              refine h1.mono fun v w'' ⟨hs, hl'⟩ => ?_
              exact ih _ _ (fun x => x = w'') _ w'' hlen hL' (fun x hx => hx ▸ hs) rfl hl'
          | halt x w' => simp only [sureUpon] at h1
        · rename_i hwt
          rw [if_neg hwt] at h1
          exact ih _ _ (fun x => x = w) _ w hlen hL' (fun x hx => hx ▸ h1.1) rfl h1.2

theorem region_ix {id : Nat} {a : Act} {w : World} {l : List Oper} (S : World → Prop) (kd : Nat → Kd) (hm : P.follows .mixedOrders = true) (hB : okB .any l.toArray (ancs .any l.toArray) kd = true) (hS : ∀ m, S (w.drewN m))
    (h : LW P l.toArray S Q kd (List.range l.length) (fun w' => ∃ m, w' = w.drewN m) a) : (Code.region id l.toArray true).wp P Q a w := by
  refine wp_region_any hm ?_
  have h2 := LW_sound (P := P) (S := S) (Q := Q) hB l.length (List.range l.length) (Array.replicate l.toArray.size false) (fun w' => ∃ m, w' = w.drewN m) a { w with drawn := w.drawn + 1 } (by simp)
    ⟨by simp, List.pairwise_lt_range, fun k => by by_cases hk : k < l.length <;> simp [hk], fun j oj _ hl => by rw [getD_replicate_false] at hl; cases hl⟩ (fun x ⟨m, hx⟩ => hx ▸ hS m) ⟨1, rfl⟩ h
  simpa using h2

/-- The walk over the operations themselves; k: the number of the first one. -/
def L (P : Program) (ops : Array Oper) (S : World → Prop) (Q : Exit → Act → World → Prop) (kd : Nat → Kd) : Nat → List Oper → (World → Prop) → Act → Prop
  | _, [], D, a => ∀ w, D w → Q .normal a w
  | k, o :: l, D, a => match kd k with
    | .pure => ∃ v, YieldsPure P ops S o v a ∧ L P ops S Q kd (k + 1) l D (a.put o.dst v)
    | .head => ∃ v, YieldsIn P ops D o v a ∧ L P ops S Q kd (k + 1) l D (a.put o.dst v)
    | .loud => ∀ w, D w → loudAt P ops o a w (fun a' w' => S w' ∧ L P ops S Q kd (k + 1) l (fun x => x = w') a')

theorem LW_of_L : ∀ (l : List Oper) (k : Nat) (D : World → Prop) (a : Act), (∀ j, j < l.length → l[j]? = ops[k + j]?) → L P ops S Q kd k l D a → LW P ops S Q kd (List.range' k l.length) D a := by
  intro l
  induction l with
  | nil => intro k D a _ h; exact h
  | cons o l ih =>
    intro k D a hl h
    have h0 : ops[k]? = some o := by simpa using (hl 0 (by simp)).symm
    have hl' : ∀ j, j < l.length → l[j]? = ops[k + 1 + j]? := fun j hj => by
      have := hl (j + 1) (by simp <;> omega)
      simpa [Nat.add_assoc, Nat.add_comm 1 j] using this
    rw [List.length_cons, List.range'_succ]
    unfold L at h
    unfold LW
    simp only [h0]
    cases hk : kd k with
    | pure =>
      simp only [hk] at h ⊢
      obtain ⟨v, hv, h⟩ := h
      exact ⟨v, hv, ih _ _ _ hl' h⟩
    | head =>
      simp only [hk] at h ⊢
      obtain ⟨v, hv, h⟩ := h
      exact ⟨v, hv, ih _ _ _ hl' h⟩
    | loud =>
      simp only [hk] at h ⊢
      exact fun w hw => loudAt_mono (fun u w' ⟨hs, h⟩ => ⟨hs, ih _ _ _ hl' h⟩) (h w hw)

/-- THE REGION. -/
theorem region {id : Nat} {a : Act} {w : World} {l : List Oper} (S : World → Prop) (ks : List Kd) (hm : P.follows .mixedOrders = true) (hB : okB .any l.toArray (ancs .any l.toArray) (fun k => ks.getD k .loud) = true) (hS : ∀ m, S (w.drewN m))
    (h : L P l.toArray S Q (fun k => ks.getD k .loud) 0 l (fun w' => ∃ m, w' = w.drewN m) a) : (Code.region id l.toArray true).wp P Q a w := by
  refine region_ix S (fun k => ks.getD k .loud) hm hB hS ?_
  have := LW_of_L l 0 _ a (fun j hj => by simp) h
  rwa [List.range_eq_range']

/-- Whatever it hands back is a value. -/
def OnlyValue (s : Sem Next) : Prop := ∀ (P : Program) (w : World) (n : Next) (w' : World), s.run P w = .ok n w' → ∃ v, n = .value v

theorem ov_pure (v : Value) : OnlyValue (pure (.value v)) := by
  intro P w n w' h
  simp only [Sem.run_pure] at h
  injection h with h1 h2
  exact ⟨v, h1.symm⟩

theorem ov_bind {α : Type} (x : Sem α) (f : α → Sem Next) (h : ∀ a, OnlyValue (f a)) : OnlyValue (x >>= f) := by
  intro P w n w' hr
  simp only [Sem.run_bind] at hr
  cases hx : x.run P w with
  | ok a w1 => rw [hx] at hr; exact h a P w1 n w' hr
  | halt e w1 => rw [hx] at hr; cases hr

theorem ov_pure_bind {α : Type} (x : α) (f : α → Sem Next) (h : OnlyValue (f x)) : OnlyValue (pure x >>= f) := by
  intro P w n w' hr
  simp only [Sem.run_bind, Sem.run_pure, Result.andThen_ok] at hr
  exact h P w n w' hr

theorem ov_halt (e : Halt) : OnlyValue (.halt e) := by
  intro P w n w' h
  simp [Sem.run] at h

theorem ov_runtimePanic (e : RuntimeError) : OnlyValue (runtimePanic e) := by
  unfold runtimePanic
  refine ov_bind _ _ fun p => ?_
  cases e <;> dsimp only
  all_goals repeat' (first | exact ov_halt _ | (refine ov_bind _ _ fun _ => ?_))

theorem plain_of_ov {o : Oper} {a : Act} {w : World} {v : Value} (hv : OnlyValue (execOp a.eval o)) (h : Oper.quietAt P o a S w v) : plainAt P o a w v := by
  unfold Oper.quietAt at h
  unfold plainAt
  cases hr : (execOp a.eval o).run P w with
  | ok n w' =>
    obtain ⟨u, rfl⟩ := hv P w n w' hr
    rw [hr] at h
    simp only [Oper.quietUpon] at h
    rw [h.1, h.2]
  | halt x w' =>
    rw [hr] at h
    simp only [Oper.quietUpon] at h

theorem ov_plain (ρ : Operand → Value) (o : Oper) (hp : plainB o.op = true) : OnlyValue (execOp ρ o) := by
  unfold execOp
  cases ho : o.op <;> rw [ho] at hp <;> simp only [plainB, Bool.false_eq_true] at hp <;> dsimp only
  all_goals first
    | exact ov_pure _
    | exact ov_bind _ _ fun _ => ov_pure _
    | skip
  case call c =>
    cases hc : c.callee with
    | value f => rw [hc] at hp; cases hp
    | invoke r n => rw [hc] at hp; cases hp
    | builtin b =>
      rw [hc] at hp
      unfold resolve
      simp only [hc]
      refine ov_pure_bind _ _ ?_
      unfold invoke builtin
      cases b <;> first | (cases hp; done) | exact ov_bind _ _ fun _ => ov_pure _
  case nilCheck x =>
    repeat' (first | exact ov_pure _ | exact ov_runtimePanic _ | exact ov_halt _ | (refine ov_bind _ _ fun _ => ?_) | split)

theorem plain_of_quiet {o : Oper} {a : Act} {w : World} {v : Value} (hp : plainB o.op = true) (h : Oper.quietAt P o a S w v) : plainAt P o a w v :=
  plain_of_ov (ov_plain _ _ hp) h

theorem step_nil {k : Nat} {D : World → Prop} {a : Act} (h : ∀ w, D w → Q .normal a w) : L P ops S Q kd k [] D a := h

theorem step_pure {k : Nat} {o : Oper} {l : List Oper} {D : World → Prop} {a : Act} (hk : kd k = .pure) (hp : plainB o.op = true) (h : wpQuiet P ops S (fun a' => L P ops S Q kd (k + 1) l D a') [o] a) : L P ops S Q kd k (o :: l) D a := by
  unfold L
  simp only [hk]
  unfold wpQuiet at h
  split at h
  · rename_i hw
    obtain ⟨v, h1, h2⟩ := h
    exact ⟨v, .inl ⟨hw, fun w hs => plain_of_quiet hp (h1 w hs)⟩, h2⟩
  · rename_i hw
    exact ⟨undef, .inr ⟨by simpa using hw, rfl⟩, h⟩

theorem step_head {k : Nat} {o : Oper} {l : List Oper} {D : World → Prop} {a : Act} (hk : kd k = .head) (h : wpQuiet P ops D (fun a' => L P ops S Q kd (k + 1) l D a') [o] a) : L P ops S Q kd k (o :: l) D a := by
  unfold L
  simp only [hk]
  unfold wpQuiet at h
  split at h
  · rename_i hw
    obtain ⟨v, h1, h2⟩ := h
    exact ⟨v, .inl ⟨hw, h1⟩, h2⟩
  · rename_i hw
    exact ⟨undef, .inr ⟨by simpa using hw, rfl⟩, h⟩

/-- What is asked behind a writing operation. -/
def After (a : Act) (K : Act → World → Prop) (e : Exit) (a' : Act) (w' : World) : Prop := e = .normal ∧ a'.defers = a.defers ∧ K a' w'

theorem step_loud {k : Nat} {o : Oper} {l : List Oper} {D : World → Prop} {a : Act} (hk : kd k = .loud)
    (h : ∀ w, D w → wpList P ops (After a fun a' w' => S w' ∧ L P ops S Q kd (k + 1) l (fun x => x = w') a') [o] a w) : L P ops S Q kd k (o :: l) D a := by
  unfold L
  simp only [hk]
  intro w hw
  have h1 := h w hw
  unfold wpList at h1
  unfold loudAt
  split
  · rename_i hwt
    rw [if_pos hwt] at h1
    have hno : ∀ {K : Act → World → Prop}, ¬ LetsOut (After a K) := by
      rintro K ⟨a', w', h2, _⟩
      cases h2
    rcases h1 with h1 | ⟨_, h1⟩
    · unfold Oper.wp at h1
      generalize (execOp a.eval o).run P w = r at h1 ⊢
      cases r with
      | ok m w' =>
        cases m <;> simp only [Oper.upon] at h1 <;> simp only [sureUpon]
        case value v => exact h1.2.2
        case skip => exact h1.2.2
        case enter f args =>
          refine h1.mono fun e w'' he => ?_
          cases e with
          | returned v => exact ⟨v, rfl, he.2.2⟩
          | panicked c => cases he.1
          | outgrown => exact absurd he hno
        case row row args => exact h1.mono fun v w'' hk => hk.2.2
        case defer d =>
          have h2 := h1.2.1
          cases hd : o.dst with
          | none => rw [hd] at h2; simp [Act.put] at h2
          | some t => rw [hd] at h2; simp [Act.put] at h2
      | halt x w' =>
        cases x <;> simp only [Oper.upon] at h1
        cases h1.1
    · exact absurd h1 hno
  · rename_i hwt
    rw [if_neg hwt] at h1
    exact h1.2.2
end
end Lex

/-- Cells that are known. -/
def Known (l : List (Addr × Value)) (w : World) : Prop := ∀ x ∈ l, w.cell? x.1 = some x.2
theorem Known.mod {l : List (Addr × Value)} {w w' : World} {S : List Nat} (h : Known l w) (m : Mod S w w') (hS : ∀ x ∈ l, x.1.block ∉ S) : Known l w' :=
  fun x hx => m.cell (h x hx) (hS x hx)
theorem Known.drewN {l : List (Addr × Value)} {w : World} (h : Known l w) (n : Nat) : Known l (w.drewN n) := h
theorem Known.alloc {l : List (Addr × Value)} {w : World} (h : Known l w) (o : Obj) : Known l (w.alloc o) := h.mod ((Mod.refl [] w).alloc o) (by simp)
theorem Known.setCell {l : List (Addr × Value)} {w : World} (h : Known l w) (a : Addr) (v : Value) (ha : ∀ x ∈ l, x.1.block ≠ a.block) : Known l (w.setCell a v) :=
  h.mod ((Mod.refl [a.block] w).setCell (by simp) v) (by simpa using ha)

end Go.Proofs.Ytekhadlpcdjlpaa
