/- A region that draws its order, walked once in the order of the text: five kinds of operations. pure: neither reads nor writes memory, at any time. read: reads cells that S tells; no writing operation that breaks S comes ahead of it. head: reads, ahead of all writing ones. loud: writes, keeps S. fin: writes, and may break S: all that read are surely behind. -/
import Derived.Test.YtekhadlpcdjlpaaLex
namespace Go.Proofs.Ytekhadlpcdjlpaa
namespace Lex2
open Go Lex

inductive Kd where
  | pure | read | head | loud | fin
  deriving DecidableEq

section
variable {P : Program} {ops : Array Oper} {md : Region.Mode} {S : World → Prop} {Q : Exit → Act → World → Prop}

/-- What is known where an operation of the kind comes up. -/
def At (S : World → Prop) : Kd → World → Prop
  | .read => S
  | _ => fun _ => True

/-- What is asked behind it. -/
def Kept (S : World → Prop) : Kd → World → Prop
  | .loud => S
  | _ => fun _ => True

def quietK : Kd → Bool
  | .pure | .read => true
  | _ => false

/-- The walk in the order of the list. -/
def LW (P : Program) (ops : Array Oper) (S : World → Prop) (Q : Exit → Act → World → Prop) (kd : Nat → Kd) : List Nat → (World → Prop) → Act → Prop
  | [], D, a => ∀ w, D w → Q .normal a w
  | i :: rem, D, a => match ops[i]? with
    | none => LW P ops S Q kd rem D a
    | some o => if quietK (kd i) then ∃ v, YieldsPure P ops (At S (kd i)) o v a ∧ LW P ops S Q kd rem D (a.put o.dst v)
      else if kd i = .head then ∃ v, YieldsIn P ops D o v a ∧ LW P ops S Q kd rem D (a.put o.dst v)
      else ∀ w, D w → loudAt P ops o a w (fun a' w' => Kept S (kd i) w' ∧ LW P ops S Q kd rem (fun x => x = w') a')

variable {kd : Nat → Kd}

theorem LW_cons {j : Nat} {r r' : List Nat} (h : ∀ D a, (∃ w, D w) → LW P ops S Q kd r D a → LW P ops S Q kd r' D a) {D : World → Prop} {a : Act} (hne : ∃ w, D w)
    (hl : LW P ops S Q kd (j :: r) D a) : LW P ops S Q kd (j :: r') D a := by
  unfold LW at hl ⊢
  cases ho : ops[j]? with
  | none => simp only [ho] at hl ⊢; exact h D a hne hl
  | some o =>
    simp only [ho] at hl ⊢
    split
    · rename_i hk
      rw [if_pos hk] at hl
      obtain ⟨v, hv, hl⟩ := hl
      exact ⟨v, hv, h _ _ hne hl⟩
    · rename_i hk
      rw [if_neg hk] at hl
      split
      · rename_i hk2
        rw [if_pos hk2] at hl
        obtain ⟨v, hv, hl⟩ := hl
        exact ⟨v, hv, h _ _ hne hl⟩
      · rename_i hk2
        rw [if_neg hk2] at hl
        intro w hw
        exact loudAt_mono (fun u w' ⟨hs, hl⟩ => ⟨hs, h _ _ ⟨w', rfl⟩ hl⟩) (hl w hw)

/-- May the two come in either order? -/
def compat (a b : Kd) : Bool :=
  a == .pure || b == .pure || (a == .read && b != .fin) || (b == .read && a != .fin) || (a == .head && b == .head)

theorem LW_swap {i j : Nat} {oi oj : Oper} {r : List Nat} (hi : ops[i]? = some oi) (hj : ops[j]? = some oj) (hap : Apart ops oi oj) (hc : compat (kd j) (kd i) = true) {D : World → Prop} {a : Act} (hne : ∃ w, D w)
    (hl : LW P ops S Q kd (j :: i :: r) D a) : LW P ops S Q kd (i :: j :: r) D a := by
  have hpc : ∀ (v u : Value), (a.put oj.dst v).put oi.dst u = (a.put oi.dst u).put oj.dst v := fun v u => (Act.put_comm a u v hap.h2).symm
  simp only [LW, hi, hj] at hl ⊢
  by_cases qj : quietK (kd j) = true
  · rw [if_pos qj] at hl
    simp only [qj, if_true] at hl ⊢
    obtain ⟨v, hv, hl⟩ := hl
    by_cases qi : quietK (kd i) = true
    · simp only [qi, if_true] at hl ⊢
      obtain ⟨u, hu, hl⟩ := hl
      exact ⟨u, (YieldsPure.put hap).1 hu, v, (YieldsPure.put hap.symm).2 hv, by rw [← hpc]; exact hl⟩
    · simp only [qi, if_false, Bool.false_eq_true] at hl ⊢
      by_cases hh : kd i = .head
      · simp only [hh, if_true] at hl ⊢
        obtain ⟨u, hu, hl⟩ := hl
        exact ⟨u, (YieldsIn.put hap).1 hu, v, (YieldsPure.put hap.symm).2 hv, by rw [← hpc]; exact hl⟩
      · simp only [hh, if_false] at hl ⊢
        intro w hw
        have h1 := (loudAt.put hap).1 (hl w hw)
        exact loudAt_mono (fun u w' ⟨hs, hl⟩ => ⟨hs, v, (YieldsPure.put hap.symm).2 hv, hl⟩) h1
  · simp only [qj, if_false, Bool.false_eq_true] at hl ⊢
    by_cases hjh : kd j = .head
    · simp only [hjh, if_true] at hl ⊢
      obtain ⟨v, hv, hl⟩ := hl
      by_cases qi : quietK (kd i) = true
      · simp only [qi, if_true] at hl ⊢
        obtain ⟨u, hu, hl⟩ := hl
        exact ⟨u, (YieldsPure.put hap).1 hu, v, (YieldsIn.put hap.symm).2 hv, by rw [← hpc]; exact hl⟩
      · simp only [qi, if_false, Bool.false_eq_true] at hl ⊢
        by_cases hh : kd i = .head
        · simp only [hh, if_true] at hl ⊢
          obtain ⟨u, hu, hl⟩ := hl
          exact ⟨u, (YieldsIn.put hap).1 hu, v, (YieldsIn.put hap.symm).2 hv, by rw [← hpc]; exact hl⟩
        · rw [hjh] at hc
          cases hk : kd i <;> rw [hk] at hc qi hh <;> first | (cases hc; done) | exact absurd rfl hh | exact absurd rfl qi
    · simp only [hjh, if_false] at hl ⊢
      by_cases qi : quietK (kd i) = true
      · simp only [qi, if_true] at hl ⊢
        obtain ⟨w0, hw0⟩ := hne
        obtain ⟨u0, w1, _, v0, hv0, _⟩ := loudAt_some (hl w0 hw0)
        have hv := (YieldsPure.put hap).1 hv0
        refine ⟨v0, hv, fun w hw => ?_⟩
        refine (loudAt.put hap.symm).2 (loudAt_mono (fun u w' ⟨hs, v1, hv1, hl⟩ => ⟨hs, ?_⟩) (hl w hw))
        have hat : At S (kd i) w' := by
          cases hk : kd i <;> rw [hk] at hc qi <;> first | exact trivial | skip
          cases hk2 : kd j <;> rw [hk2] at hc hs qj hjh <;> first | exact hs | (cases hc; done) | exact absurd rfl hjh | exact absurd rfl qj
        have e : v1 = v0 := ((YieldsPure.put hap).1 hv1).unique hat hv
        subst e
        exact hl
      · exfalso
        cases hk : kd i <;> rw [hk] at hc qi <;> cases hk2 : kd j <;> rw [hk2] at hc qj hjh <;> first | (cases hc; done) | exact qi rfl | exact qj rfl | exact hjh rfl

/-- An operation that is compatible with all that stand ahead of it may come first. -/
theorem LW_front {i : Nat} {oi : Oper} (hi : ops[i]? = some oi) : ∀ (rem : List Nat), i ∈ rem → rem.Nodup →
    (∀ l1 l2, rem = l1 ++ i :: l2 → ∀ j ∈ l1, ∃ oj, ops[j]? = some oj ∧ Apart ops oi oj ∧ compat (kd j) (kd i) = true) →
    ∀ (D : World → Prop) (a : Act), (∃ w, D w) → LW P ops S Q kd rem D a → LW P ops S Q kd (i :: rem.erase i) D a := by
  intro rem
  induction rem with
  | nil => intro h; cases h
  | cons j rem ih =>
    intro hm hnd hcomp D a hne hl
    by_cases hji : j = i
    · subst hji
      simpa using hl
    · have hm' : i ∈ rem := by
        rcases List.mem_cons.1 hm with h | h
        · exact absurd h.symm hji
        · exact h
      have hnd' := (List.nodup_cons.1 hnd).2
      have h1 := LW_cons (P := P) (ops := ops) (S := S) (Q := Q) (kd := kd) (j := j) (r := rem) (r' := i :: rem.erase i) (fun D a hne hl =>
        ih hm' hnd' (fun l1 l2 e j' hj' => hcomp (j :: l1) l2 (by rw [e]; rfl) j' (List.mem_cons_of_mem _ hj')) D a hne hl) hne hl
      obtain ⟨l1, l2, e⟩ := List.append_of_mem hm'
      obtain ⟨oj, hoj, hap, hc⟩ := hcomp (j :: l1) l2 (by rw [e]; rfl) j (List.mem_cons_self ..)
      rw [List.erase_cons_tail (by simpa using hji)]
      exact LW_swap hi hoj hap hc hne h1

def pairsB (ops : Array Oper) (anc : Array Nat) (kd : Nat → Kd) : Bool :=
  (List.range ops.size).all fun i => (List.range i).all fun j => (anc.getD i 0).testBit j ||
    (match ops[i]?, ops[j]? with
      | some oi, some oj => oi.apart ops oj && compat (kd j) (kd i)
      | _, _ => false)

/-- Behind one that may break S no one reads. -/
def finB (ops : Array Oper) (anc : Array Nat) (kd : Nat → Kd) : Bool :=
  (List.range ops.size).all fun i => kd i != .fin || (List.range ops.size).all fun j => kd j != .read || (decide (j < i) && (anc.getD i 0).testBit j)

def okB (md : Region.Mode) (ops : Array Oper) (anc : Array Nat) (kd : Nat → Kd) : Bool :=
  Region.noSelect ops && ancB md ops anc && pairsB ops anc kd && finB ops anc kd

theorem LW_sound {anc : Array Nat} (hB : okB md ops anc kd = true) : ∀ (n : Nat) (rem : List Nat) (listed : Array Bool) (D : World → Prop) (a : Act) (w : World), rem.length = n → Lex.Left md ops listed rem →
    (∀ i ∈ rem, kd i = .read → ∀ w, D w → S w) → D w → LW P ops S Q kd rem D a → wpAny P md ops Q n listed a w := by
  simp only [okB, Bool.and_eq_true] at hB
  obtain ⟨⟨⟨hsel, hanc⟩, hpairs⟩, hfin⟩ := hB
  intro n
  induction n with
  | zero =>
    intro rem listed D a w hn hL hS hw hl
    have : rem = [] := List.length_eq_zero_iff.1 hn
    subst this
    refine ⟨?_, hl w hw⟩
    cases hr : Region.ready md ops listed with
    | nil => rfl
    | cons i _ =>
      have hi : i ∈ Region.ready md ops listed := by rw [hr]; exact List.mem_cons_self ..
      obtain ⟨hun, oi, hoi, _⟩ := mem_ready.1 hi
      have := (hL.mem i).2 ⟨(Array.getElem?_eq_some_iff.1 hoi).1, hun⟩
      cases this
  | succ n ih =>
    intro rem listed D a w hn hL hS hw hl
    have hnd : rem.Nodup := hL.sorted.imp (fun h => Nat.ne_of_lt h)
    refine ⟨fun h0 => ?_, fun i hi => ?_⟩
    · exfalso
      cases rem with
      | nil => cases hn
      | cons j rem =>
        have hj := (hL.mem j).1 (List.mem_cons_self ..)
        obtain ⟨oj, hoj⟩ : ∃ oj, ops[j]? = some oj := ⟨_, Array.getElem?_eq_getElem hj.1⟩
        have : j ∈ Region.ready md ops listed := by
          refine mem_ready.2 ⟨hj.2, oj, hoj, fun e he hb => ?_⟩
          have h1 := List.all_eq_true.1 hanc j (List.mem_range.2 hj.1)
          simp only [hoj, Bool.and_eq_true] at h1
          have hlt : e.on < j := by
            have := Array.all_eq_true'.1 h1.1 e he
            simpa [hb] using this
          apply getD_ft (by rw [hL.size]; omega)
          intro hf
          have hm := (hL.mem e.on).2 ⟨by omega, hf⟩
          rcases List.mem_cons.1 hm with h | h
          · omega
          · have := (List.pairwise_cons.1 hL.sorted).1 _ h
            omega
        rw [h0] at this
        cases this
    · obtain ⟨hun, oi, hoi, hall⟩ := mem_ready.1 hi
      have his := (Array.getElem?_eq_some_iff.1 hoi).1
      have him : i ∈ rem := (hL.mem i).2 ⟨his, hun⟩
      have hcomp : ∀ l1 l2, rem = l1 ++ i :: l2 → ∀ j ∈ l1, ∃ oj, ops[j]? = some oj ∧ Apart ops oi oj ∧ compat (kd j) (kd i) = true := by
        intro l1 l2 e j hj
        have hjm : j ∈ rem := by rw [e]; exact List.mem_append_left _ hj
        have hji : j < i := by
          have := hL.sorted
          rw [e] at this
          exact (List.pairwise_append.1 this).2.2 j hj i (List.mem_cons_self ..)
        have hj2 := (hL.mem j).1 hjm
        obtain ⟨oj, hoj⟩ : ∃ oj, ops[j]? = some oj := ⟨_, Array.getElem?_eq_getElem hj2.1⟩
        have h1 := List.all_eq_true.1 hpairs i (List.mem_range.2 his)
        have h2 := List.all_eq_true.1 h1 j (List.mem_range.2 hji)
        simp only [hoi, hoj, Bool.or_eq_true, Bool.and_eq_true] at h2
        rcases h2 with h2 | ⟨h2, h3⟩
        · have := anc_listed hanc hL.closed i oi hoi hall j hji h2
          rw [getD_tf hj2.2] at this
          cases this
        · obtain ⟨q1, q2, q3⟩ := Oper.apart_spec h2
          exact ⟨oj, hoj, ⟨q1, q2, q3, fun cs b => Region.noSelect_spec hsel i oi cs b hoi, fun cs b => Region.noSelect_spec hsel j oj cs b hoj⟩, h3⟩
      have hf := LW_front (P := P) (S := S) (Q := Q) (kd := kd) hoi rem him hnd hcomp D a ⟨w, hw⟩ hl
      have hlen : (rem.erase i).length = n := by rw [List.length_erase_of_mem him, hn]; rfl
      have hL' := hL.next hi
      have hS' : ∀ j ∈ rem.erase i, kd j = .read → ∀ w, D w → S w := fun j hj => hS j (List.mem_of_mem_erase hj)
      simp only [LW, hoi] at hf
      unfold wpOp
      simp only [hoi]
      by_cases qi : quietK (kd i) = true
      · rw [if_pos qi] at hf
        obtain ⟨v, hv, hl'⟩ := hf
        have hgo := ih _ _ D _ w hlen hL' hS' hw hl'
        rcases hv with ⟨hwt, hp⟩ | ⟨hwt, rfl⟩
        · rw [if_pos hwt]
          left
          have := hp w (by
            cases hk : kd i <;> first | exact trivial | skip
            exact hS i him hk w hw)
          unfold plainAt at this
          unfold Oper.wp
          rw [this]
          exact hgo
        · rw [if_neg (by rw [hwt]; exact Bool.false_ne_true)]
          exact hgo
      · rw [if_neg qi] at hf
        by_cases hh : kd i = .head
        · rw [if_pos hh] at hf
          obtain ⟨v, hv, hl'⟩ := hf
          have hq : qOp P ops D i (fun a' => LW P ops S Q kd (rem.erase i) D a') a := hv.qOp hoi hl'
          have := wpOp_of_qOp (Q' := Q) (K' := wpAny P md ops Q n (listed.setIfInBounds i true)) hw (fun a' w' hw' hk' => ih _ _ D a' w' hlen hL' hS' hw' hk') hq
          unfold wpOp at this
          simpa only [hoi] using this
        · rw [if_neg hh] at hf
          have h1 := hf w hw
          have hS2 : ∀ w', Kept S (kd i) w' → ∀ j ∈ rem.erase i, kd j = .read → ∀ x, x = w' → S x := by
            intro w' hk' j hj hjr x hx
            subst hx
            cases hk : kd i <;> rw [hk] at qi hh hk' <;> first | exact absurd rfl qi | exact absurd rfl hh | exact hk' | skip
            exfalso
            have hjm := List.mem_of_mem_erase hj
            have hj2 := (hL.mem j).1 hjm
            have h3 := List.all_eq_true.1 hfin i (List.mem_range.2 his)
            simp only [hk, bne_self_eq_false, Bool.false_or] at h3
            have h4 := List.all_eq_true.1 h3 j (List.mem_range.2 hj2.1)
            simp only [hjr, bne_self_eq_false, Bool.false_or, Bool.and_eq_true, decide_eq_true_eq] at h4
            have := anc_listed hanc hL.closed i oi hoi hall j h4.1 h4.2
            rw [getD_tf hj2.2] at this
            cases this
          unfold loudAt at h1
          split
          · rename_i hwt
            rw [if_pos hwt] at h1
            left
            unfold Oper.wp
            generalize (execOp a.eval oi).run P w = r at h1 ⊢
            cases r with
            | ok m w' =>
              cases m <;> simp only [sureUpon] at h1 <;> simp only [Oper.upon]
              case value v => exact ih _ _ (fun x => x = w') _ w' hlen hL' (hS2 w' h1.1) rfl h1.2
              case skip => exact ih _ _ (fun x => x = w') _ w' hlen hL' (hS2 w' h1.1) rfl h1.2
              case enter f args =>
                refine h1.mono fun e w'' ⟨v, he, hs, hl'⟩ => ?_
                subst he
                exact ih _ _ (fun x => x = w'') _ w'' hlen hL' (hS2 w'' hs) rfl hl'
              case row row args =>
                refine h1.mono fun v w'' ⟨hs, hl'⟩ => ?_
                exact ih _ _ (fun x => x = w'') _ w'' hlen hL' (hS2 w'' hs) rfl hl'
            | halt x w' => simp only [sureUpon] at h1
          · rename_i hwt
            rw [if_neg hwt] at h1
            exact ih _ _ (fun x => x = w) _ w hlen hL' (hS2 w h1.1) rfl h1.2

theorem region_ix {id : Nat} {a : Act} {w : World} {l : List Oper} (S : World → Prop) (kd : Nat → Kd) (hm : P.follows .mixedOrders = true) (hB : okB .any l.toArray (ancs .any l.toArray) kd = true) (hS : ∀ m, S (w.drewN m))
    (h : LW P l.toArray S Q kd (List.range l.length) (fun w' => ∃ m, w' = w.drewN m) a) : (Code.region id l.toArray true).wp P Q a w := by
  refine wp_region_any hm ?_
  have h2 := LW_sound (P := P) (S := S) (Q := Q) hB l.length (List.range l.length) (Array.replicate l.toArray.size false) (fun w' => ∃ m, w' = w.drewN m) a { w with drawn := w.drawn + 1 } (by simp)
    ⟨by simp, List.pairwise_lt_range, fun k => by by_cases hk : k < l.length <;> simp [hk], fun j oj _ hl => by rw [getD_replicate_false] at hl; cases hl⟩ (fun _ _ _ x ⟨m, hx⟩ => hx ▸ hS m) ⟨1, rfl⟩ h
  simpa using h2

/-- The walk over the operations themselves; k: the number of the first one. -/
def L (P : Program) (ops : Array Oper) (S : World → Prop) (Q : Exit → Act → World → Prop) (kd : Nat → Kd) : Nat → List Oper → (World → Prop) → Act → Prop
  | _, [], D, a => ∀ w, D w → Q .normal a w
  | k, o :: l, D, a => if quietK (kd k) then ∃ v, YieldsPure P ops (At S (kd k)) o v a ∧ L P ops S Q kd (k + 1) l D (a.put o.dst v)
      else if kd k = .head then ∃ v, YieldsIn P ops D o v a ∧ L P ops S Q kd (k + 1) l D (a.put o.dst v)
      else ∀ w, D w → loudAt P ops o a w (fun a' w' => Kept S (kd k) w' ∧ L P ops S Q kd (k + 1) l (fun x => x = w') a')

theorem LW_of_L : ∀ (l : List Oper) (k : Nat) (D : World → Prop) (a : Act), (∀ j, j < l.length → l[j]? = ops[k + j]?) → L P ops S Q kd k l D a → LW P ops S Q kd (List.range' k l.length) D a := by
  intro l
  induction l with
  | nil => intro k D a _ h; exact h
  | cons o l ih =>
    intro k D a hl h
    have h0 : ops[k]? = some o := by simpa using (hl 0 (by simp)).symm
    have hl' : ∀ j, j < l.length → l[j]? = ops[k + 1 + j]? := fun j hj => by
      have := hl (j + 1) (by simp <;> omega)
      simpa [Nat.add_assoc, Nat.add_comm 1 j] using this
    rw [List.length_cons, List.range'_succ]
    unfold L at h
    unfold LW
    simp only [h0]
    by_cases qk : quietK (kd k) = true
    · rw [if_pos qk] at h ⊢
      obtain ⟨v, hv, h⟩ := h
      exact ⟨v, hv, ih _ _ _ hl' h⟩
    · rw [if_neg qk] at h ⊢
      by_cases hh : kd k = .head
      · rw [if_pos hh] at h ⊢
        obtain ⟨v, hv, h⟩ := h
        exact ⟨v, hv, ih _ _ _ hl' h⟩
      · rw [if_neg hh] at h ⊢
        exact fun w hw => loudAt_mono (fun u w' ⟨hs, h⟩ => ⟨hs, ih _ _ _ hl' h⟩) (h w hw)

/-- THE REGION. -/
theorem region {id : Nat} {a : Act} {w : World} {l : List Oper} (S : World → Prop) (ks : List Kd) (hm : P.follows .mixedOrders = true) (hB : okB .any l.toArray (ancs .any l.toArray) (fun k => ks.getD k .fin) = true) (hS : ∀ m, S (w.drewN m))
    (h : L P l.toArray S Q (fun k => ks.getD k .fin) 0 l (fun w' => ∃ m, w' = w.drewN m) a) : (Code.region id l.toArray true).wp P Q a w := by
  refine region_ix S (fun k => ks.getD k .fin) hm hB hS ?_
  have := LW_of_L l 0 _ a (fun j hj => by simp) h
  rwa [List.range_eq_range']

theorem step_nil {k : Nat} {D : World → Prop} {a : Act} (h : ∀ w, D w → Q .normal a w) : L P ops S Q kd k [] D a := h

theorem yields_one {S' : World → Prop} {o : Oper} {a : Act} {K : Act → Prop} (hp : plainB o.op = true) (h : wpQuiet P ops S' K [o] a) : ∃ v, YieldsPure P ops S' o v a ∧ K (a.put o.dst v) := by
  unfold wpQuiet at h
  split at h
  · rename_i hw
    obtain ⟨v, h1, h2⟩ := h
    exact ⟨v, .inl ⟨hw, fun w hs => plain_of_quiet hp (h1 w hs)⟩, h2⟩
  · rename_i hw
    exact ⟨undef, .inr ⟨by simpa using hw, rfl⟩, h⟩

theorem step_pure {k : Nat} {o : Oper} {l : List Oper} {D : World → Prop} {a : Act} (hk : kd k = .pure) (hp : plainB o.op = true) (h : wpQuiet P ops (fun _ => True) (fun a' => L P ops S Q kd (k + 1) l D a') [o] a) : L P ops S Q kd k (o :: l) D a := by
  unfold L
  rw [hk, if_pos (show quietK .pure = true from rfl)]
  exact yields_one (S' := At S .pure) hp h

theorem step_read {k : Nat} {o : Oper} {l : List Oper} {D : World → Prop} {a : Act} (hk : kd k = .read) (hp : plainB o.op = true) (h : wpQuiet P ops S (fun a' => L P ops S Q kd (k + 1) l D a') [o] a) : L P ops S Q kd k (o :: l) D a := by
  unfold L
  rw [hk, if_pos (show quietK .read = true from rfl)]
  exact yields_one (S' := At S .read) hp h

theorem step_head {k : Nat} {o : Oper} {l : List Oper} {D : World → Prop} {a : Act} (hk : kd k = .head) (h : wpQuiet P ops D (fun a' => L P ops S Q kd (k + 1) l D a') [o] a) : L P ops S Q kd k (o :: l) D a := by
  unfold L
  rw [hk, if_neg (show ¬ quietK .head = true by decide), if_pos rfl]
  unfold wpQuiet at h
  split at h
  · rename_i hw
    obtain ⟨v, h1, h2⟩ := h
    exact ⟨v, .inl ⟨hw, h1⟩, h2⟩
  · rename_i hw
    exact ⟨undef, .inr ⟨by simpa using hw, rfl⟩, h⟩

theorem loud_of_list {o : Oper} {a : Act} {w : World} {K : Act → World → Prop} (h1 : wpList P ops (After a K) [o] a w) : loudAt P ops o a w K := by
  unfold wpList at h1
  unfold loudAt
  split
  · rename_i hwt
    rw [if_pos hwt] at h1
    have hno : ∀ {K : Act → World → Prop}, ¬ LetsOut (After a K) := by
      rintro K ⟨a', w', h2, _⟩
      cases h2
    rcases h1 with h1 | ⟨_, h1⟩
    · unfold Oper.wp at h1
      generalize (execOp a.eval o).run P w = r at h1 ⊢
      cases r with
      | ok m w' =>
        cases m <;> simp only [Oper.upon] at h1 <;> simp only [sureUpon]
        case value v => exact h1.2.2
        case skip => exact h1.2.2
        case enter f args =>
          refine h1.mono fun e w'' he => ?_
          cases e with
          | returned v => exact ⟨v, rfl, he.2.2⟩
          | panicked c => cases he.1
          | outgrown => exact absurd he hno
        case row row args => exact h1.mono fun v w'' hk => hk.2.2
        case defer d =>
          have h2 := h1.2.1
          cases hd : o.dst with
          | none => rw [hd] at h2; simp [Act.put] at h2
          | some t => rw [hd] at h2; simp [Act.put] at h2
      | halt x w' =>
        cases x <;> simp only [Oper.upon] at h1
        cases h1.1
    · exact absurd h1 hno
  · rename_i hwt
    rw [if_neg hwt] at h1
    exact h1.2.2

theorem step_loud {k : Nat} {o : Oper} {l : List Oper} {D : World → Prop} {a : Act} (hk : kd k = .loud)
    (h : ∀ w, D w → wpList P ops (After a fun a' w' => S w' ∧ L P ops S Q kd (k + 1) l (fun x => x = w') a') [o] a w) : L P ops S Q kd k (o :: l) D a := by
  unfold L
  rw [hk, if_neg (show ¬ quietK .loud = true by decide), if_neg (show ¬ Kd.loud = .head by decide)]
  exact fun w hw => loud_of_list (h w hw)

theorem step_fin {k : Nat} {o : Oper} {l : List Oper} {D : World → Prop} {a : Act} (hk : kd k = .fin)
    (h : ∀ w, D w → wpList P ops (After a fun a' w' => L P ops S Q kd (k + 1) l (fun x => x = w') a') [o] a w) : L P ops S Q kd k (o :: l) D a := by
  unfold L
  rw [hk, if_neg (show ¬ quietK .fin = true by decide), if_neg (show ¬ Kd.fin = .head by decide)]
  exact fun w hw => loudAt_mono (fun u w' hl => ⟨trivial, hl⟩) (loud_of_list (h w hw))
end
end Lex2
end Go.Proofs.Ytekhadlpcdjlpaa
