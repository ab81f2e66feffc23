/- A region that draws its order, some of whose writing operations come in an open order too: one walk for each of the orders that these may take. -/
import Derived.Test.YtekhadlpcdjlpaaLex2
namespace Go.Proofs.Ytekhadlpcdjlpaa
namespace Lex3
open Go Lex Lex2

section
variable {P : Program} {ops : Array Oper} {md : Region.Mode} {S : World → Prop} {Q : Exit → Act → World → Prop} {kd : Nat → Lex2.Kd}

def loudK : Lex2.Kd → Bool
  | .loud | .fin => true
  | _ => false

def louds (kd : Nat → Lex2.Kd) (c : List Nat) : List Nat := c.filter fun i => loudK (kd i)

/-- Those that begin with i, without it. -/
def begun (i : Nat) (cs : List (List Nat)) : List (List Nat) := cs.filterMap fun c => match c with
  | x :: t => if x = i then some t else none
  | [] => none

/-- Whichever writing operation comes next, there is a walk that begins so. -/
def cover (anc : Array Nat) : Nat → List (List Nat) → Bool
  | 0, _ => true
  | n + 1, cs => match cs with
    | [] => false
    | c0 :: _ => c0.all fun i => (c0.any fun j => decide (j < i) && (anc.getD i 0).testBit j) || (!(begun i cs).isEmpty && cover anc n (begun i cs))

def pairsB (ops : Array Oper) (anc : Array Nat) (kd : Nat → Lex2.Kd) : Bool :=
  (List.range ops.size).all fun i => (List.range i).all fun j => (anc.getD i 0).testBit j ||
    (match ops[i]?, ops[j]? with
      | some oi, some oj => oi.apart ops oj && (compat (kd j) (kd i) || (loudK (kd i) && loudK (kd j)))
      | _, _ => false)

def validB (anc : Array Nat) : List Nat → Bool
  | [] => true
  | a :: c => (c.all fun b => !(decide (b < a) && (anc.getD a 0).testBit b)) && validB anc c

def sameB (n : Nat) (c : List Nat) : Bool := decide c.Nodup && c.length == n && ((List.range n).all fun i => c.contains i) && c.all fun i => decide (i < n)

/-- Writing operations that come to an end by themselves. -/
def stillB : Op → Bool
  | .store .. | .makeSlice .. | .alloc _ | .box .. | .buildSlice .. | .makeChan .. | .makeMap .. | .mapUpdate .. => true
  | .call c => match c.callee with | .builtin .append => true | _ => false
  | _ => false

def OnlyStill (s : Sem Next) : Prop := ∀ (P : Program) (w : World) (n : Next) (w' : World), s.run P w = .ok n w' → (∃ v, n = .value v) ∨ n = .skip

theorem os_bind {α : Type} (x : Sem α) (f : α → Sem Next) (h : ∀ a, OnlyStill (f a)) : OnlyStill (x >>= f) := by
  intro P w n w' hr
  simp only [Sem.run_bind] at hr
  cases hx : x.run P w with
  | ok a w1 => rw [hx] at hr; exact h a P w1 n w' hr
  | halt e w1 => rw [hx] at hr; cases hr
theorem os_pure_bind {α : Type} (x : α) (f : α → Sem Next) (h : OnlyStill (f x)) : OnlyStill (pure x >>= f) := by
  intro P w n w' hr
  simp only [Sem.run_bind, Sem.run_pure, Result.andThen_ok] at hr
  exact h P w n w' hr
theorem os_value (v : Value) : OnlyStill (pure (.value v)) := by
  intro P w n w' h
  simp only [Sem.run_pure] at h
  injection h with h1 h2
  exact .inl ⟨v, h1.symm⟩
theorem os_skip : OnlyStill (pure .skip) := by
  intro P w n w' h
  simp only [Sem.run_pure] at h
  injection h with h1 h2
  exact .inr h1.symm

theorem os_still (ρ : Operand → Value) (o : Oper) (hp : stillB o.op = true) : OnlyStill (execOp ρ o) := by
  unfold execOp
  cases ho : o.op <;> rw [ho] at hp <;> simp only [stillB, Bool.false_eq_true] at hp <;> dsimp only
  all_goals first
    | exact os_bind _ _ fun _ => os_value _
    | exact os_bind _ _ fun _ => os_skip
    | skip
  case call c =>
    cases hc : c.callee with
    | value f => rw [hc] at hp; cases hp
    | invoke r n => rw [hc] at hp; cases hp
    | builtin b =>
      rw [hc] at hp
      unfold resolve
      simp only [hc]
      refine os_pure_bind _ _ ?_
      unfold invoke builtin
      cases b <;> first | (cases hp; done) | exact os_bind _ _ fun _ => os_value _

theorem loudAt_all {α : Type} {o : Oper} {a : Act} {w : World} {K : α → Act → World → Prop} (hp : stillB o.op = true) {l : List α} {c0 : α} (h0 : c0 ∈ l) (h : ∀ c ∈ l, loudAt P ops o a w (K c)) : loudAt P ops o a w (fun a' w' => ∀ c ∈ l, K c a' w') := by
  have h1 := h c0 h0
  unfold loudAt at h h1 ⊢
  split
  · rename_i hw
    simp only [hw, if_true] at h h1
    have ho := os_still a.eval o hp P w
    generalize (execOp a.eval o).run P w = r at h h1 ho ⊢
    cases r with
    | ok n w' =>
      rcases ho n w' rfl with ⟨v, rfl⟩ | rfl
      · exact fun c hc => h c hc
      · exact fun c hc => h c hc
    | halt x w' => simp only [sureUpon] at h1
  · rename_i hw
    simp only [hw, if_false, Bool.false_eq_true] at h
    exact fun c hc => h c hc

/-- No calls, of whatever kind. -/
def plainK (ops : Array Oper) (kd : Nat → Lex2.Kd) : Bool :=
  (List.range ops.size).all fun i => match ops[i]? with
    | some o => (kd i != .head) && (!loudK (kd i) || stillB o.op)
    | none => false

def okB (md : Region.Mode) (ops : Array Oper) (anc : Array Nat) (kd : Nat → Lex2.Kd) (orders : List (List Nat)) : Bool :=
  Region.noSelect ops && ancB md ops anc && pairsB ops anc kd && finB ops anc kd && plainK ops kd && !orders.isEmpty && (orders.all fun c => validB anc c && sameB ops.size c) && cover anc (louds kd (List.range ops.size)).length (orders.map (louds kd))

theorem compat_symm {a b : Lex2.Kd} (h : compat a b = true) : compat b a = true := by cases a <;> cases b <;> first | rfl | (cases h; done)

theorem validB_pairwise {anc : Array Nat} : ∀ (c : List Nat), validB anc c = true → c.Pairwise fun a b => b < a → (anc.getD a 0).testBit b = false
  | [], _ => .nil
  | a :: c, h => by
    simp only [validB, Bool.and_eq_true] at h
    refine .cons (fun b hb => ?_) (validB_pairwise c h.2)
    have := List.all_eq_true.1 h.1 b hb
    intro hlt
    simpa [hlt] using this

theorem nodup_of_same {n : Nat} {c : List Nat} (h : sameB n c = true) : c.Nodup ∧ ∀ k, k ∈ c ↔ k < n := by
  simp only [sameB, Bool.and_eq_true, decide_eq_true_eq, List.all_eq_true, List.mem_range, List.contains_iff_mem] at h
  exact ⟨h.1.1.1, fun k => ⟨fun hk => h.2 k hk, fun hk => h.1.2 k hk⟩⟩

/-- What is known of a walk that is still open. -/
structure Cand (P : Program) (ops : Array Oper) (S : World → Prop) (Q : Exit → Act → World → Prop) (kd : Nat → Lex2.Kd) (anc : Array Nat) (listed : Array Bool) (D : World → Prop) (a : Act) (c : List Nat) : Prop where
  nodup : c.Nodup
  mem : ∀ k, k ∈ c ↔ k < ops.size ∧ listed.getD k true = false
  valid : c.Pairwise fun x y => y < x → (anc.getD x 0).testBit y = false
  walk : Lex2.LW P ops S Q kd c D a

theorem sound {anc : Array Nat} (hsel : Region.noSelect ops = true) (hanc : ancB md ops anc = true) (hpairs : pairsB ops anc kd = true) (hfin : finB ops anc kd = true) (hpl : plainK ops kd = true) :
    ∀ (n : Nat) (cands : List (List Nat)) (listed : Array Bool) (D : World → Prop) (a : Act) (w : World), listed.size = ops.size →
    (∀ j oj, ops[j]? = some oj → listed.getD j false = true → ∀ e ∈ oj.after, Region.binds md e = true → listed.getD e.on false = true) →
    cands ≠ [] → (∀ c ∈ cands, c.length = n ∧ Cand P ops S Q kd anc listed D a c) → (∀ c ∈ cands, cover anc (louds kd c).length (cands.map (louds kd)) = true) →
    (∀ c ∈ cands, ∀ i ∈ c, kd i = .read → ∀ w, D w → S w) → D w → wpAny P md ops Q n listed a w := by
  intro n
  induction n with
  | zero =>
    intro cands listed D a w hsz hcl hne hc hcov hS hw
    obtain ⟨c, cs, rfl⟩ := List.exists_cons_of_ne_nil hne
    obtain ⟨hn, hC⟩ := hc c (List.mem_cons_self ..)
    have : c = [] := List.length_eq_zero_iff.1 hn
    subst this
    refine ⟨?_, hC.walk w hw⟩
    cases hr : Region.ready md ops listed with
    | nil => rfl
    | cons i _ =>
      have hi : i ∈ Region.ready md ops listed := by rw [hr]; exact List.mem_cons_self ..
      obtain ⟨hun, oi, hoi, _⟩ := mem_ready.1 hi
      have := (hC.mem i).2 ⟨(Array.getElem?_eq_some_iff.1 hoi).1, hun⟩
      cases this
  | succ n ih =>
    intro cands listed D a w hsz hcl hne hc hcov hS hw
    refine ⟨fun h0 => ?_, fun i hi => ?_⟩
    · exfalso
      obtain ⟨c, cs, rfl⟩ := List.exists_cons_of_ne_nil hne
      obtain ⟨hn, hC⟩ := hc c (List.mem_cons_self ..)
      -- the least of what is left is ready
      have hex : ∃ j, j ∈ c ∧ ∀ k, k ∈ c → j ≤ k := by
        clear hcov hc hC ih hne hS
        induction c with
        | nil => simp at hn
        | cons x c ihc =>
          cases c with
          | nil => exact ⟨x, by simp, by simp⟩
          | cons y c =>
            have : ∀ (l : List Nat), l ≠ [] → ∃ j, j ∈ l ∧ ∀ k, k ∈ l → j ≤ k := by
              intro l
              induction l with
              | nil => intro h; exact absurd rfl h
              | cons z l ihl =>
                intro _
                cases l with
                | nil => exact ⟨z, by simp, by simp⟩
                | cons u l =>
                  obtain ⟨j, hj, hmin⟩ := ihl (by simp)
                  by_cases hzj : z ≤ j
                  · exact ⟨z, by simp, fun k hk => by rcases List.mem_cons.1 hk with h | h; omega; have := hmin k h; omega⟩
                  · exact ⟨j, List.mem_cons_of_mem _ hj, fun k hk => by rcases List.mem_cons.1 hk with h | h; omega; exact hmin k h⟩
            exact this _ (by simp)
      obtain ⟨j, hj, hmin⟩ := hex
      have hj2 := (hC.mem j).1 hj
      obtain ⟨oj, hoj⟩ : ∃ oj, ops[j]? = some oj := ⟨_, Array.getElem?_eq_getElem hj2.1⟩
      have : j ∈ Region.ready md ops listed := by
        refine mem_ready.2 ⟨hj2.2, oj, hoj, fun e he hb => ?_⟩
        have h1 := List.all_eq_true.1 hanc j (List.mem_range.2 hj2.1)
        simp only [hoj, Bool.and_eq_true] at h1
        have hlt : e.on < j := by
          have := Array.all_eq_true'.1 h1.1 e he
          simpa [hb] using this
        apply getD_ft (by rw [hsz]; omega)
        intro hf
        have hm := (hC.mem e.on).2 ⟨by omega, hf⟩
        have := hmin _ hm
        omega
      rw [h0] at this
      cases this
    · obtain ⟨hun, oi, hoi, hall⟩ := mem_ready.1 hi
      have his := (Array.getElem?_eq_some_iff.1 hoi).1
      have him : ∀ c ∈ cands, i ∈ c := fun c hcm => ((hc c hcm).2.mem i).2 ⟨his, hun⟩
      -- ahead of i stands nothing that it waits for, and nothing that waits for it
      have hcomp : ∀ c ∈ cands, (∀ l1 l2, c = l1 ++ i :: l2 → loudK (kd i) = true → ∀ j ∈ l1, loudK (kd j) = false) → ∀ l1 l2, c = l1 ++ i :: l2 → ∀ j ∈ l1, ∃ oj, ops[j]? = some oj ∧ Apart ops oi oj ∧ compat (kd j) (kd i) = true := by
        intro c hcm hl l1 l2 e j hj
        have hC := (hc c hcm).2
        have hjm : j ∈ c := by rw [e]; exact List.mem_append_left _ hj
        have hj2 := (hC.mem j).1 hjm
        obtain ⟨oj, hoj⟩ : ∃ oj, ops[j]? = some oj := ⟨_, Array.getElem?_eq_getElem hj2.1⟩
        have hnl : ¬ (loudK (kd i) = true ∧ loudK (kd j) = true) := fun h => by have := hl l1 l2 e h.1 j hj; rw [h.2] at this; cases this
        have hji : j ≠ i := by
          intro h
          subst h
          have := hC.nodup
          rw [e] at this
          exact (List.nodup_append.1 this).2.2 j hj j (List.mem_cons_self ..) rfl
        rcases Nat.lt_or_ge j i with hlt | hge
        · have h1 := List.all_eq_true.1 hpairs i (List.mem_range.2 his)
          have h2 := List.all_eq_true.1 h1 j (List.mem_range.2 hlt)
          simp only [hoi, hoj, Bool.or_eq_true, Bool.and_eq_true] at h2
          rcases h2 with h2 | ⟨h2, h3⟩
          · have := anc_listed hanc hcl i oi hoi hall j hlt h2
            rw [getD_tf hj2.2] at this
            cases this
          · obtain ⟨q1, q2, q3⟩ := Oper.apart_spec h2
            exact ⟨oj, hoj, ⟨q1, q2, q3, fun cs b => Region.noSelect_spec hsel i oi cs b hoi, fun cs b => Region.noSelect_spec hsel j oj cs b hoj⟩, h3.resolve_right hnl⟩
        · have hlt : i < j := by omega
          have h1 := List.all_eq_true.1 hpairs j (List.mem_range.2 hj2.1)
          have h2 := List.all_eq_true.1 h1 i (List.mem_range.2 hlt)
          simp only [hoi, hoj, Bool.or_eq_true, Bool.and_eq_true] at h2
          rcases h2 with h2 | ⟨h2, h3⟩
          · have := hC.valid
            rw [e] at this
            have := (List.pairwise_append.1 this).2.2 j hj i (List.mem_cons_self ..) hlt
            rw [h2] at this
            cases this
          · obtain ⟨q1, q2, q3⟩ := Oper.apart_spec h2
            have hap : Apart ops oj oi := ⟨q1, q2, q3, fun cs b => Region.noSelect_spec hsel j oj cs b hoj, fun cs b => Region.noSelect_spec hsel i oi cs b hoi⟩
            exact ⟨oj, hoj, hap.symm, compat_symm (h3.resolve_right (fun h => hnl ⟨h.2, h.1⟩))⟩
      have hcl' : ∀ j oj, ops[j]? = some oj → (listed.setIfInBounds i true).getD j false = true → ∀ e ∈ oj.after, Region.binds md e = true → (listed.setIfInBounds i true).getD e.on false = true := by
        intro j oj hj hl e he hb
        by_cases hij : i = j
        · subst hij
          obtain rfl : oj = oi := Option.some.inj (hj.symm.trans hoi)
          exact getD_set_true (hall e he hb)
        · rw [getD_set_ne false hij] at hl
          exact getD_set_true (hcl j oj hj hl e he hb)
      have hsz' : (listed.setIfInBounds i true).size = ops.size := by simp [hsz]
      have hmem' : ∀ c, c ∈ cands → ∀ k, k ∈ c.erase i ↔ k < ops.size ∧ (listed.setIfInBounds i true).getD k true = false := by
        intro c hcm k
        have hC := (hc c hcm).2
        rw [hC.nodup.mem_erase_iff, hC.mem k]
        by_cases hki : k = i
        · subst hki
          have hks : k < listed.size := by rw [hsz]; exact his
          simp [hks]
        · rw [getD_set_ne true (fun e => hki e.symm)]
          simp [hki]
      have hlen' : ∀ c ∈ cands, (c.erase i).length = n := fun c hcm => by rw [List.length_erase_of_mem (him c hcm), (hc c hcm).1]; rfl
      by_cases hlk : loudK (kd i) = true
      · -- a writing operation: the walks that begin with it
        obtain ⟨c0, cs0, hcs⟩ := List.exists_cons_of_ne_nil hne
        have hc0 : c0 ∈ cands := by rw [hcs]; exact List.mem_cons_self ..
        have hcv := hcov c0 hc0
        have hil0 : i ∈ louds kd c0 := by simp [louds, him c0 hc0, hlk]
        obtain ⟨m, hm⟩ : ∃ m, (louds kd c0).length = m + 1 := ⟨(louds kd c0).length - 1, by have := List.length_pos_of_mem hil0; omega⟩
        rw [hm, hcs, List.map_cons] at hcv
        simp only [cover] at hcv
        have h1 := List.all_eq_true.1 hcv i hil0
        simp only [Bool.or_eq_true, Bool.and_eq_true, Bool.not_eq_true'] at h1
        have h2 := h1.resolve_left (fun h => by
          obtain ⟨j, hj, hb⟩ := List.any_eq_true.1 h
          simp only [Bool.and_eq_true, decide_eq_true_eq] at hb
          have hjc : j ∈ c0 := (List.mem_filter.1 hj).1
          have hj2 := ((hc c0 hc0).2.mem j).1 hjc
          have := anc_listed hanc hcl i oi hoi hall j hb.1 hb.2
          rw [getD_tf hj2.2] at this
          cases this)
        -- the walks that are kept
        obtain ⟨keep, hkeep⟩ : ∃ keep, cands.filter (fun c => (louds kd c).head? == some i) = keep := ⟨_, rfl⟩
        have hk1 : ∀ c ∈ keep, c ∈ cands ∧ ∃ t, louds kd c = i :: t := by
          intro c hcm
          rw [← hkeep] at hcm
          obtain ⟨h1, h2⟩ := List.mem_filter.1 hcm
          refine ⟨h1, ?_⟩
          cases hl : louds kd c with
          | nil => rw [hl] at h2; cases h2
          | cons x t => rw [hl] at h2; simp at h2; subst h2; exact ⟨t, rfl⟩
        have hfront : ∀ c ∈ keep, ∀ l1 l2, c = l1 ++ i :: l2 → loudK (kd i) = true → ∀ j ∈ l1, loudK (kd j) = false := by
          intro c hcm l1 l2 e _ j hj
          obtain ⟨h1, t, h3⟩ := hk1 c hcm
          cases hlj : loudK (kd j) with
          | false => rfl
          | true =>
            exfalso
            have hnd := (hc c h1).2.nodup
            rw [e] at h3 hnd
            have h4 : louds kd (l1 ++ i :: l2) = louds kd l1 ++ louds kd (i :: l2) := by simp [louds]
            rw [h4] at h3
            have hjl : j ∈ louds kd l1 := by simp [louds, hj, hlj]
            obtain ⟨y, ys, hy⟩ := List.exists_cons_of_ne_nil (List.ne_nil_of_mem hjl)
            rw [hy, List.cons_append] at h3
            injection h3 with h5 h6
            subst h5
            have hyl : y ∈ l1 := (List.mem_filter.1 (show y ∈ louds kd l1 by rw [hy]; exact List.mem_cons_self ..)).1
            exact (List.nodup_append.1 hnd).2.2 y hyl y (List.mem_cons_self ..) rfl
        have hle : ∀ c ∈ keep, ∀ t, louds kd c = i :: t → louds kd (c.erase i) = t := by
          intro c hcm t ht
          obtain ⟨h1, _⟩ := hk1 c hcm
          have hnd := (hc c h1).2.nodup
          have : louds kd (c.erase i) = (louds kd c).erase i := by
            unfold louds
            rw [List.erase_filter]
          rw [this, ht]
          simp
        have hbeg : begun i (cands.map (louds kd)) = (keep.map fun c => c.erase i).map (louds kd) := by
          rw [← hkeep]
          clear hkeep hk1 hfront hcov h2 hcs hc0 hil0 hm hcv h1 hle
          have hnds : ∀ c ∈ cands, c.Nodup := fun c hcm => (hc c hcm).2.nodup
          clear hc him hcomp hmem' hlen' hS hne
          induction cands with
          | nil => rfl
          | cons c cs ihc =>
            have ih2 := ihc (fun c hcm => hnds c (List.mem_cons_of_mem _ hcm))
            simp only [List.map_cons, begun, List.filterMap_cons] at ih2 ⊢
            have hnd := hnds c (List.mem_cons_self ..)
            have he : louds kd (c.erase i) = (louds kd c).erase i := by
              unfold louds
              rw [List.erase_filter]
            cases hl : louds kd c with
            | nil => simp [hl, ih2]
            | cons x t =>
              by_cases hxi : x = i
              · subst hxi
                simp [hl, ih2, he]
              · simp [hl, hxi, ih2]
        have hne2 : (keep.map fun c => c.erase i) ≠ [] := by
          intro h
          have := h2.1
          rw [← List.map_cons, ← hcs, hbeg, h] at this
          simp at this
        have hcv2 : cover anc m ((keep.map fun c => c.erase i).map (louds kd)) = true := by
          have := h2.2
          rwa [← List.map_cons, ← hcs, hbeg] at this
        have hlm : ∀ c ∈ keep, (louds kd (c.erase i)).length = m := by
          intro c hcm
          obtain ⟨h1, t, ht⟩ := hk1 c hcm
          rw [hle c hcm t ht]
          have hsame : (louds kd c).length = (louds kd c0).length := by
            have hp : c.Perm c0 := (List.perm_ext_iff_of_nodup (hc c h1).2.nodup (hc c0 hc0).2.nodup).2 (fun x => by rw [(hc c h1).2.mem x, (hc c0 hc0).2.mem x])
            exact (hp.filter _).length_eq
          rw [ht, hm] at hsame
          simpa using hsame
        unfold wpOp
        simp only [hoi]
        have hwalk : ∀ c ∈ keep, ∀ w, D w → loudAt P ops oi a w (fun a' w' => Kept S (kd i) w' ∧ Lex2.LW P ops S Q kd (c.erase i) (fun x => x = w') a') := by
          intro c hcm
          obtain ⟨h1, _⟩ := hk1 c hcm
          have hf := LW_front (P := P) (S := S) (Q := Q) (kd := kd) hoi c (him c h1) (hc c h1).2.nodup (hcomp c h1 (hfront c hcm)) D a ⟨w, hw⟩ (hc c h1).2.walk
          simp only [Lex2.LW, hoi] at hf
          have qi : ¬ quietK (kd i) = true := by cases hk : kd i <;> rw [hk] at hlk <;> first | (cases hlk; done) | decide
          have hh : ¬ kd i = .head := by cases hk : kd i <;> rw [hk] at hlk <;> first | (cases hlk; done) | decide
          rw [if_neg qi, if_neg hh] at hf
          exact hf
        have hvalid : ∀ c ∈ keep, (c.erase i).Pairwise fun x y => y < x → (anc.getD x 0).testBit y = false := fun c hcm => (hc c (hk1 c hcm).1).2.valid.sublist List.erase_sublist
        have hnod : ∀ c ∈ keep, (c.erase i).Nodup := fun c hcm => (hc c (hk1 c hcm).1).2.nodup.sublist List.erase_sublist
        have hread : ∀ w', Kept S (kd i) w' → ∀ c ∈ keep, ∀ j ∈ c.erase i, kd j = .read → S w' := by
          intro w' hk' c hcm j hj hjr
          cases hk : kd i <;> rw [hk] at hlk hk' <;> first | (cases hlk; done) | exact hk' | skip
          exfalso
          have hj2 := ((hc c (hk1 c hcm).1).2.mem j).1 (List.mem_of_mem_erase hj)
          have h3 := List.all_eq_true.1 hfin i (List.mem_range.2 his)
          simp only [hk, bne_self_eq_false, Bool.false_or] at h3
          have h4 := List.all_eq_true.1 h3 j (List.mem_range.2 hj2.1)
          simp only [hjr, bne_self_eq_false, Bool.false_or, Bool.and_eq_true, decide_eq_true_eq] at h4
          have := anc_listed hanc hcl i oi hoi hall j h4.1 h4.2
          rw [getD_tf hj2.2] at this
          cases this
        obtain ⟨k0, ks0, hk0⟩ := List.exists_cons_of_ne_nil (show keep ≠ [] from fun h => hne2 (by rw [h]; rfl))
        have hk0m : k0 ∈ keep := by rw [hk0]; exact List.mem_cons_self ..
        -- all walks go through one and the same end of the operation
        have hgo : ∀ a' w', (∀ c ∈ keep, Kept S (kd i) w' ∧ Lex2.LW P ops S Q kd (c.erase i) (fun x => x = w') a') → wpAny P md ops Q n (listed.setIfInBounds i true) a' w' := by
          intro a' w' hall'
          refine ih (keep.map fun c => c.erase i) _ (fun x => x = w') a' w' hsz' hcl' hne2 ?_ ?_ ?_ rfl
          · intro c' hc'
            obtain ⟨c, hcm, rfl⟩ := List.mem_map.1 hc'
            exact ⟨hlen' c (hk1 c hcm).1, ⟨hnod c hcm, hmem' c (hk1 c hcm).1, hvalid c hcm, (hall' c hcm).2⟩⟩
          · intro c' hc'
            obtain ⟨c, hcm, rfl⟩ := List.mem_map.1 hc'
            rw [hlm c hcm]
            exact hcv2
          · intro c' hc' j hj hjr x hx
            obtain ⟨c, hcm, rfl⟩ := List.mem_map.1 hc'
            subst hx
            exact hread _ (hall' c hcm).1 c hcm j hj hjr
        have hst : stillB oi.op = true := by
          have h3 := List.all_eq_true.1 hpl i (List.mem_range.2 his)
          simp only [hoi, Bool.and_eq_true, Bool.or_eq_true, hlk, Bool.not_true, Bool.false_eq_true, false_or] at h3
          exact h3.2
        have h1' := loudAt_all hst hk0m (fun c hcm => hwalk c hcm w hw)
        unfold loudAt at h1'
        split
        · rename_i hwt
          rw [if_pos hwt] at h1'
          left
          unfold Oper.wp
          generalize (execOp a.eval oi).run P w = r at h1' ⊢
          cases r with
          | ok m w' =>
            cases m <;> simp only [sureUpon] at h1' <;> simp only [Oper.upon]
            case value v => exact hgo _ _ h1'
            case skip => exact hgo _ _ h1'
            case enter f args =>
              refine h1'.mono fun e w'' ⟨v, he, hk⟩ => ?_
              subst he
              exact hgo _ _ hk
            case row row args => exact h1'.mono fun v w'' hk => hgo _ _ hk
          | halt x w' => simp only [sureUpon] at h1'
        · rename_i hwt
          rw [if_neg hwt] at h1'
          exact hgo _ _ h1'
      · -- any other: all walks
        have hgo : ∀ (a' : Act), (∀ c ∈ cands, Lex2.LW P ops S Q kd (c.erase i) D a') → ∀ w, D w → wpAny P md ops Q n (listed.setIfInBounds i true) a' w := by
          intro a' hall' w hw
          refine ih (cands.map fun c => c.erase i) _ D a' w hsz' hcl' (fun h => hne (by simpa using h)) ?_ ?_ ?_ hw
          · intro c' hc'
            obtain ⟨c, hcm, rfl⟩ := List.mem_map.1 hc'
            exact ⟨hlen' c hcm, ⟨(hc c hcm).2.nodup.sublist List.erase_sublist, hmem' c hcm, (hc c hcm).2.valid.sublist List.erase_sublist, hall' c hcm⟩⟩
          · have he : ∀ c, louds kd (c.erase i) = louds kd c := by
              intro c
              unfold louds
              rw [← List.erase_filter, List.erase_of_not_mem]
              simp [hlk]
            intro c' hc'
            obtain ⟨c, hcm, rfl⟩ := List.mem_map.1 hc'
            have := hcov c hcm
            rw [List.map_map, he]
            rw [show (louds kd ∘ fun c => c.erase i) = louds kd from funext he]
            exact this
          · intro c' hc' j hj hjr
            obtain ⟨c, hcm, rfl⟩ := List.mem_map.1 hc'
            exact hS c hcm j (List.mem_of_mem_erase hj) hjr
        have hwalk : ∀ c ∈ cands, ∃ v, YieldsPure P ops (At S (kd i)) oi v a ∧ Lex2.LW P ops S Q kd (c.erase i) D (a.put oi.dst v) := by
          intro c hcm
          have hf := LW_front (P := P) (S := S) (Q := Q) (kd := kd) hoi c (him c hcm) (hc c hcm).2.nodup (hcomp c hcm (fun _ _ _ h => absurd h hlk)) D a ⟨w, hw⟩ (hc c hcm).2.walk
          simp only [Lex2.LW, hoi] at hf
          have h3 := List.all_eq_true.1 hpl i (List.mem_range.2 his)
          simp only [hoi, Bool.and_eq_true, bne_iff_ne, ne_eq] at h3
          have qi : quietK (kd i) = true := by
            cases hk : kd i <;> rw [hk] at hlk h3 <;> first | rfl | exact absurd rfl h3.1 | exact absurd rfl hlk
          rw [if_pos qi] at hf
          exact hf
        obtain ⟨c0, cs0, hcs⟩ := List.exists_cons_of_ne_nil hne
        have hc0 : c0 ∈ cands := by rw [hcs]; exact List.mem_cons_self ..
        obtain ⟨v0, hv0, _⟩ := hwalk c0 hc0
        have hat : At S (kd i) w := by
          cases hk : kd i <;> first | exact trivial | skip
          exact hS c0 hc0 i (him c0 hc0) hk w hw
        have hall2 : ∀ c ∈ cands, Lex2.LW P ops S Q kd (c.erase i) D (a.put oi.dst v0) := by
          intro c hcm
          obtain ⟨v, hv, hl⟩ := hwalk c hcm
          rw [hv0.unique hat hv]
          exact hl
        have hfin2 := hgo _ hall2 w hw
        unfold wpOp
        simp only [hoi]
        rcases hv0 with ⟨hwt, hp⟩ | ⟨hwt, rfl⟩
        · rw [if_pos hwt]
          left
          have := hp w hat
          unfold plainAt at this
          unfold Oper.wp
          rw [this]
          exact hfin2
        · rw [if_neg (by rw [hwt]; exact Bool.false_ne_true)]
          exact hfin2

/-- All walks. -/
def All (P : Program) (ops : Array Oper) (S : World → Prop) (Q : Exit → Act → World → Prop) (kd : Nat → Lex2.Kd) (D : World → Prop) (a : Act) : List (List Nat) → Prop
  | [] => True
  | c :: cs => Lex2.LW P ops S Q kd c D a ∧ All P ops S Q kd D a cs
theorem all_mem {D : World → Prop} {a : Act} : ∀ (cs : List (List Nat)), All P ops S Q kd D a cs → ∀ c ∈ cs, Lex2.LW P ops S Q kd c D a
  | [], _, c, h => by cases h
  | x :: cs, ⟨h1, h2⟩, c, h => by
    rcases List.mem_cons.1 h with h | h
    · subst h; exact h1
    · exact all_mem cs h2 c h

theorem all_nil {D : World → Prop} {a : Act} : All P ops S Q kd D a [] := trivial
theorem all_cons {D : World → Prop} {a : Act} {c : List Nat} {cs : List (List Nat)} (h1 : Lex2.LW P ops S Q kd c D a) (h2 : All P ops S Q kd D a cs) : All P ops S Q kd D a (c :: cs) := ⟨h1, h2⟩

/-- THE REGION. -/
theorem region {id : Nat} {a : Act} {w : World} {l : List Oper} (S : World → Prop) (ks : List Lex2.Kd) (orders : List (List Nat)) (hm : P.follows .mixedOrders = true) (hB : okB .any l.toArray (ancs .any l.toArray) (fun k => ks.getD k .fin) orders = true) (hS : ∀ m, S (w.drewN m))
    (h : All P l.toArray S Q (fun k => ks.getD k .fin) (fun w' => ∃ m, w' = w.drewN m) a orders) : (Code.region id l.toArray true).wp P Q a w := by
  simp only [okB, Bool.and_eq_true, Bool.not_eq_true', List.isEmpty_eq_false_iff] at hB
  obtain ⟨⟨⟨⟨⟨⟨⟨hsel, hanc⟩, hpairs⟩, hfin⟩, hpl⟩, hne⟩, hord⟩, hcov⟩ := hB
  have hord' := List.all_eq_true.1 hord
  refine wp_region_any hm ?_
  have hsame : ∀ c ∈ orders, c.Nodup ∧ ∀ k, k ∈ c ↔ k < l.toArray.size := fun c hc => by
    have := hord' c hc
    simp only [Bool.and_eq_true] at this
    exact nodup_of_same this.2
  have hlen : ∀ c ∈ orders, c.length = l.length := fun c hc => by
    have := hord' c hc
    simp only [Bool.and_eq_true, sameB, beq_iff_eq] at this
    simpa using this.2.1.1.2
  have h2 := sound (P := P) (S := S) (Q := Q) hsel hanc hpairs hfin hpl l.length orders (Array.replicate l.toArray.size false) (fun w' => ∃ m, w' = w.drewN m) a { w with drawn := w.drawn + 1 } (by simp)
    (fun j oj _ hl => by rw [getD_replicate_false] at hl; cases hl) hne
    (fun c hc => ⟨hlen c hc, ⟨(hsame c hc).1, fun k => by rw [(hsame c hc).2 k]; by_cases hk : k < l.length <;> simp [hk], validB_pairwise c (by have := hord' c hc; simp only [Bool.and_eq_true] at this; exact this.1), all_mem orders h c hc⟩⟩)
    (fun c hc => by
      have hp : c.Perm (List.range l.toArray.size) := (List.perm_ext_iff_of_nodup (hsame c hc).1 List.nodup_range).2 (fun x => by rw [(hsame c hc).2 x]; simp)
      rw [show (louds (fun k => ks.getD k .fin) c).length = (louds (fun k => ks.getD k .fin) (List.range l.toArray.size)).length from (hp.filter _).length_eq]
      exact hcov)
    (fun _ _ _ _ _ x ⟨m, hx⟩ => hx ▸ hS m) ⟨1, rfl⟩
  simpa using h2

theorem step_nil {D : World → Prop} {a : Act} (h : ∀ w, D w → Q .normal a w) : Lex2.LW P ops S Q kd [] D a := h

theorem step_pure {i : Nat} {o : Oper} {rem : List Nat} {D : World → Prop} {a : Act} (ho : ops[i]? = some o) (hk : kd i = .pure) (hp : plainB o.op = true) (h : wpQuiet P ops (fun _ => True) (fun a' => Lex2.LW P ops S Q kd rem D a') [o] a) : Lex2.LW P ops S Q kd (i :: rem) D a := by
  unfold Lex2.LW
  simp only [ho]
  rw [hk, if_pos (show quietK .pure = true from rfl)]
  exact yields_one (S' := At S .pure) hp h

theorem step_read {i : Nat} {o : Oper} {rem : List Nat} {D : World → Prop} {a : Act} (ho : ops[i]? = some o) (hk : kd i = .read) (hp : plainB o.op = true) (h : wpQuiet P ops S (fun a' => Lex2.LW P ops S Q kd rem D a') [o] a) : Lex2.LW P ops S Q kd (i :: rem) D a := by
  unfold Lex2.LW
  simp only [ho]
  rw [hk, if_pos (show quietK .read = true from rfl)]
  exact yields_one (S' := At S .read) hp h

theorem step_loud {i : Nat} {o : Oper} {rem : List Nat} {D : World → Prop} {a : Act} (ho : ops[i]? = some o) (hk : kd i = .loud)
    (h : ∀ w, D w → wpList P ops (After a fun a' w' => S w' ∧ Lex2.LW P ops S Q kd rem (fun x => x = w') a') [o] a w) : Lex2.LW P ops S Q kd (i :: rem) D a := by
  unfold Lex2.LW
  simp only [ho]
  rw [hk, if_neg (show ¬ quietK .loud = true by decide), if_neg (show ¬ Lex2.Kd.loud = .head by decide)]
  exact fun w hw => loud_of_list (h w hw)

theorem step_fin {i : Nat} {o : Oper} {rem : List Nat} {D : World → Prop} {a : Act} (ho : ops[i]? = some o) (hk : kd i = .fin)
    (h : ∀ w, D w → wpList P ops (After a fun a' w' => Lex2.LW P ops S Q kd rem (fun x => x = w') a') [o] a w) : Lex2.LW P ops S Q kd (i :: rem) D a := by
  unfold Lex2.LW
  simp only [ho]
  rw [hk, if_neg (show ¬ quietK .fin = true by decide), if_neg (show ¬ Lex2.Kd.fin = .head by decide)]
  exact fun w hw => loudAt_mono (fun u w' hl => ⟨trivial, hl⟩) (loud_of_list (h w hw))
end
end Lex3
end Go.Proofs.Ytekhadlpcdjlpaa
