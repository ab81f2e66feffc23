/- A body that communicates alone: a select of one case and a default, as one operation of the walk; channels of one place. -/
import Derived.Test.YtekhadlpcdjlpaaHeap
import Derived.Conc.LoneCalls
import Derived.Conc.LoneSelect
import Derived.Conc.LoneSelectN
import Derived.WalkKit
namespace Go.Proofs.Ytekhadlpcdjlpaa
open Go Go.RowKit Go.Conc

/-- The walk of a piece of code in a frame that is no initialiser's. -/
def wpN (P : Program) (c : Code) (Q : Exit → Act → World → Prop) (a : Act) (w : World) : Prop :=
  ∀ (b : Frame) (k : List Item) (cs : List Frame), b.kind ≠ .early → ∃ e a' w', Q e a' w' ∧ Arrives P (lone (b.at a (.code c :: k)) cs w) b k cs e a' w'

section
variable {P : Program} {Q : Exit → Act → World → Prop} {a : Act} {w : World}

theorem wpN_of {c : Code} (h : c.wp P Q a w) : wpN P c Q a w := fun b k cs _ => h b k cs

/-- First a piece that does not communicate. -/
theorem wpN_seq {x y : Code} (h : ∀ K : Act → World → Prop, (∀ a w, wpN P y Q a w → K a w) → x.wp P (Exit.then K Q) a w) : wpN P (Code.seq x y) Q a w := by
  intro b k cs hb
  obtain ⟨e, a₁, w₁, hq, harr⟩ := h (fun a w => wpN P y Q a w) (fun _ _ h => h) b (.code y :: k) cs
  cases e with
  | normal =>
    obtain ⟨e₂, a₂, w₂, hq₂, harr₂⟩ := hq b k cs hb
    exact ⟨e₂, a₂, w₂, hq₂, .of_steps (.head step_seq harr) harr₂⟩
  | exit id => exact ⟨_, a₁, w₁, hq, .of_steps (.one step_seq) (.pass (x := .code y) rfl (fun _ _ => .inl (by simp)) harr)⟩
  | goto l => exact ⟨_, a₁, w₁, hq, .of_steps (.one step_seq) (.pass (x := .code y) rfl (fun _ _ => .inl (by simp)) harr)⟩
  | ret => exact ⟨_, a₁, w₁, hq, .of_steps (.one step_seq) (.pass (x := .code y) rfl (fun _ _ => .inl (by simp)) harr)⟩
  | panic ch => exact ⟨_, a₁, w₁, hq, .of_steps (.one step_seq) (.pass (x := .code y) rfl (fun _ _ => .inl (by simp)) harr)⟩
  | outgrown => exact ⟨_, a₁, w₁, hq, .of_steps (.one step_seq) (.pass (x := .code y) rfl (fun _ _ => .inl (by simp)) harr)⟩

/-- First a piece that communicates. -/
theorem wpN_seq' {x y : Code} (h : ∀ K : Act → World → Prop, (∀ a w, y.wp P Q a w → K a w) → wpN P x (Exit.then K Q) a w) : wpN P (Code.seq x y) Q a w := by
  intro b k cs hb
  obtain ⟨e, a₁, w₁, hq, harr⟩ := h (fun a w => y.wp P Q a w) (fun _ _ h => h) b (.code y :: k) cs hb
  cases e with
  | normal =>
    obtain ⟨e₂, a₂, w₂, hq₂, harr₂⟩ := hq b k cs
    exact ⟨e₂, a₂, w₂, hq₂, .of_steps (.head step_seq harr) harr₂⟩
  | exit id => exact ⟨_, a₁, w₁, hq, .of_steps (.one step_seq) (.pass (x := .code y) rfl (fun _ _ => .inl (by simp)) harr)⟩
  | goto l => exact ⟨_, a₁, w₁, hq, .of_steps (.one step_seq) (.pass (x := .code y) rfl (fun _ _ => .inl (by simp)) harr)⟩
  | ret => exact ⟨_, a₁, w₁, hq, .of_steps (.one step_seq) (.pass (x := .code y) rfl (fun _ _ => .inl (by simp)) harr)⟩
  | panic ch => exact ⟨_, a₁, w₁, hq, .of_steps (.one step_seq) (.pass (x := .code y) rfl (fun _ _ => .inl (by simp)) harr)⟩
  | outgrown => exact ⟨_, a₁, w₁, hq, .of_steps (.one step_seq) (.pass (x := .code y) rfl (fun _ _ => .inl (by simp)) harr)⟩

theorem calls_of_wpN {f : FuncId} {fn : Func} {c : Code} {args : Array Value} {R : Ending → World → Prop}
    (hf : P.funcs[f]? = some fn) (hb : fn.body = some c)
    (h : wpN P c (bodyPost P fn R) { tmps := args ++ Array.replicate (fn.ntmps - args.size) undef, defers := [] } w) :
    Calls P f args w R := by
  intro cs
  let b : Frame := { (default : Frame) with fn := f, kind := .normal }
  have henter : Frame.enter P f args .normal =
      b.at { tmps := args ++ Array.replicate (fn.ntmps - args.size) undef, defers := [] } [.code c] := by
    simp [Frame.enter, Frame.at, hf, hb, b]
  obtain ⟨e, a', w', hq, harr⟩ := h b [] cs (by simp [b])
  rw [← henter] at harr
  cases e with
  | normal =>
    obtain ⟨hd, v, hr, hR⟩ := hq
    exact ⟨.returned v, w', _, hR, Steps.trans harr (.one step_end), rfl, rfl, hd, rfl, fn, hf, hr⟩
  | ret =>
    obtain ⟨hd, v, hr, hR⟩ := hq
    obtain ⟨todo, hs⟩ := harr
    exact ⟨.returned v, w', _, hR, hs, rfl, rfl, hd, rfl, fn, hf, hr⟩
  | panic chain =>
    obtain ⟨hd, hR⟩ := hq
    obtain ⟨todo, hs⟩ := harr
    exact ⟨.panicked chain, w', _, hR, hs, rfl, rfl, hd, fn, hf⟩
  | exit id => exact hq.elim
  | goto l => exact hq.elim
  | outgrown => exact ⟨.outgrown, w', b, hq, harr.resolve_left (by simp [b]), rfl, trivial⟩

/-- A region whose first operation communicates, in one step of the machine. -/
theorem wpN_comm {id : Nat} {o : Oper} {l : List Oper} {cases : Array CommCase} {w1 w2 : World} {v : Value}
    (hg : o.guard = none) (hrun : (execOp a.eval o).run P w = .ok (.comm cases false .select) w1)
    (hstep : ∀ (fr : Frame) (cs : List Frame) (es : Array Event), stepG P true (G fr cs) w = .comm (G fr cs) cases false .select w1 es → step P (solo (G fr cs) w) = .next (solo (G (fr.finish v) cs) w2))
    (h : wpList P (o :: l).toArray Q l (a.put o.dst v) w2) : wpN P (Code.region id (o :: l).toArray false) Q a w := by
  intro b k cs hb
  have hl : List.range (o :: l).toArray.size = 0 :: List.range' 1 l.length := by
    rw [List.range_eq_range']
    simp [List.range'_succ]
  have h1 : step P (lone (b.at a (.code (.region id (o :: l).toArray false) :: k)) cs w) = .next (lone (b.at a (.inRegion (o :: l).toArray (0 :: List.range' 1 l.length) :: k)) cs w) := by
    rw [step_region, hl]
  have hw : Region.wanted o (yielded (o :: l).toArray a.tmps) = true := by simp [Region.wanted, hg]
  have h2 := hstep (b.at a (.inRegion (o :: l).toArray (0 :: List.range' 1 l.length) :: k)) cs _ (stepG_comm (main := true) (i := 0) (by simp) hw hb hrun)
  rw [Frame.finish_at] at h2
  have e : wpOps P (o :: l).toArray Q (List.range' 1 l.length) = wpList P (o :: l).toArray Q l := wpOps_eq_wpList l 1 (fun j => by simp [Nat.add_comm 1 j])
  rw [← e] at h
  obtain ⟨x, a', w', hq, harr⟩ := wp_ops _ _ _ h b k cs
  refine ⟨x, a', w', hq, .of_steps (.head h1 (.one ?_)) harr⟩
  simp only [List.getElem?_toArray, List.getElem?_cons_zero, Option.bind_some] at h2
  exact h2
end

/-- A channel's block. -/
def Ch (w : World) (c : Nat) (buf : List Value) : Prop := ∃ s r, w.heap[c]? = some (.chan 1 buf.toArray false s r false)

theorem Ch.lt {w : World} {c : Nat} {buf : List Value} (h : Ch w c buf) : c < w.heap.size := by
  obtain ⟨s, r, h⟩ := h
  exact heap_lt h
theorem Ch.mod {w w' : World} {c : Nat} {buf : List Value} {S : List Nat} (h : Ch w c buf) (m : Mod S w w') (hc : c ∉ S) : Ch w' c buf := by
  obtain ⟨s, r, h⟩ := h
  exact ⟨s, r, m.heap h hc⟩
theorem Mod.setChan {S : List Nat} {w w1 : World} (h : Mod S w w1) {c : Nat} (hc : c < w.heap.size → c ∈ S) (cap : Nat) (buf : Array Value) (cl : Bool) (s r : Nat) (tm : Bool) : Mod S w (w1.setChan c cap buf cl s r tm) :=
  ⟨h.os, h.tape, h.output, by have := h.size; simp [World.setChan]; omega, fun k hk hn => by
    have hne : c ≠ k := by intro e; subst e; exact hn (hc hk)
    simp only [World.setChan]
    rw [Array.getElem?_setIfInBounds_ne hne]
    exact h.block k hk hn⟩
theorem Ch.new (w : World) : Ch (w.alloc (.chan 1 #[] false 0 0 false)) w.heap.size [] := ⟨0, 0, by
  show (w.heap.push _)[w.heap.size]? = _
  simp⟩

end Go.Proofs.Ytekhadlpcdjlpaa
