/- The abstract heap: what a call knows of the memory, block by block, under names of its own; the concrete values that abstract ones stand for. -/
import Derived.WalkKit
import Derived.Deep.Draws
namespace Go.Proofs.Ytekhadlpcdjlpaa
namespace Abs
open Go
set_option linter.unusedVariables false
set_option linter.unusedSimpArgs false

/-- Where a named block lies: its number, where in it, how many elements more its array may have, and all blocks that belong to it. -/
structure CB where
  blk : Nat
  off : Nat
  slack : Nat
  foot : List Nat

/-- What of it an address shows. -/
def CB.al (c : CB) : Nat × Nat × Nat := (c.blk, c.off, c.slack)

abbrev Ren := Nat → CB

/-- From this number on a slice's cap is known from below alone. -/
def OPEN : Nat := 18446744073709551616

/-- A spot 2 * d: an address that lies further behind if the block has slack; 2 * d + 1: an address with the spot d. -/
def cAddr (ρ : Ren) (a : Addr) : Addr := ⟨(ρ a.block).blk, (ρ a.block).off + a.off + (match a.spot with | some d => if d % 2 = 1 then 0 else if (ρ a.block).slack = 0 then 0 else d / 2 | none => 0), (match a.spot with | some d => if d % 2 = 1 then some (d / 2) else none | none => none)⟩
def cCap (ρ : Ren) (b cap : Nat) : Nat := if cap < OPEN then cap else cap - OPEN + (ρ b).slack

mutual
/-- The value in memory. -/
def conc (ρ : Ren) : Value → Value
  | .pointer (some a) => .pointer (some (cAddr ρ a))
  | .slice (some a) len cap => .slice (some (cAddr ρ a)) len (cCap ρ a.block cap)
  | .map (some r) => .map (some (ρ r).blk)
  | .chan (some r) => .chan (some (ρ r).blk)
  | .func fn first captured => .func fn (concA ρ first) (concA ρ captured)
  | .iface t v => .iface t (conc ρ v)
  | .agg cs => .agg (concA ρ cs)
  | .tuple cs => .tuple (concA ρ cs)
  | .pointer none => .pointer none
  | .slice none len cap => .slice none len cap
  | .map none => .map none
  | .chan none => .chan none
  | .bool b => .bool b
  | .int k n => .int k n
  | .float k n => .float k n
  | .complex k a b => .complex k a b
  | .string s => .string s
  | .nilFunc => .nilFunc
  | .nilIface => .nilIface
def concA (ρ : Ren) : Array Value → Array Value
  | ⟨l⟩ => ⟨concL ρ l⟩
def concL (ρ : Ren) : List Value → List Value
  | [] => []
  | v :: l => conc ρ v :: concL ρ l
end

mutual
/-- All names in it are of L. -/
def scp (L : Nat → Bool) : Value → Bool
  | .pointer (some a) => L a.block
  | .slice (some a) _ _ => L a.block
  | .map (some r) => L r
  | .chan (some r) => L r
  | .func _ first captured => scpA L first && scpA L captured
  | .iface _ v => scp L v
  | .agg cs => scpA L cs
  | .tuple cs => scpA L cs
  | _ => true
def scpA (L : Nat → Bool) : Array Value → Bool
  | ⟨l⟩ => scpL L l
def scpL (L : Nat → Bool) : List Value → Bool
  | [] => true
  | v :: l => scp L v && scpL L l
end

theorem concL_map (ρ : Ren) : ∀ l, concL ρ l = l.map (conc ρ)
  | [] => by simp [concL]
  | v :: l => by simp [concL, concL_map ρ l]
theorem concA_map (ρ : Ren) : ∀ a, concA ρ a = a.map (conc ρ)
  | ⟨l⟩ => by simp [concA, concL_map]
theorem scpL_all (n : Nat → Bool) : ∀ l, scpL n l = l.all (scp n)
  | [] => by simp [scpL]
  | v :: l => by simp [scpL, scpL_all n l]
theorem scpA_all (n : Nat → Bool) : ∀ a : Array Value, scpA n a = a.toList.all (scp n)
  | ⟨l⟩ => by simp [scpA, scpL_all]

mutual
theorem conc_congr {ρ ρ' : Ren} {n : Nat → Bool} (h : ∀ b, n b = true → (ρ' b).al = (ρ b).al) : ∀ v, scp n v = true → conc ρ' v = conc ρ v
  | .pointer (some a), hs => by simp only [scp] at hs; have e := h _ hs; simp only [CB.al, Prod.mk.injEq] at e; simp only [conc, cAddr, e.1, e.2.1, e.2.2]
  | .slice (some a) _ _, hs => by simp only [scp] at hs; have e := h _ hs; simp only [CB.al, Prod.mk.injEq] at e; simp only [conc, cAddr, cCap, e.1, e.2.1, e.2.2]
  | .map (some r), hs => by simp only [scp] at hs; have e := h _ hs; simp only [CB.al, Prod.mk.injEq] at e; simp only [conc, e.1]
  | .chan (some r), hs => by simp only [scp] at hs; have e := h _ hs; simp only [CB.al, Prod.mk.injEq] at e; simp only [conc, e.1]
  | .func fn first captured, hs => by
    simp only [scp, Bool.and_eq_true] at hs
    simp only [conc, concA_congr h first hs.1, concA_congr h captured hs.2]
  | .iface t v, hs => by simp only [scp] at hs; simp only [conc, conc_congr h v hs]
  | .agg cs, hs => by simp only [scp] at hs; simp only [conc, concA_congr h cs hs]
  | .tuple cs, hs => by simp only [scp] at hs; simp only [conc, concA_congr h cs hs]
  | .pointer none, _ => by simp only [conc]
  | .slice none _ _, _ => by simp only [conc]
  | .map none, _ => by simp only [conc]
  | .chan none, _ => by simp only [conc]
  | .bool b, _ => by simp only [conc]
  | .int k n, _ => by simp only [conc]
  | .float k n, _ => by simp only [conc]
  | .complex k a b, _ => by simp only [conc]
  | .string s, _ => by simp only [conc]
  | .nilFunc, _ => by simp only [conc]
  | .nilIface, _ => by simp only [conc]
theorem concA_congr {ρ ρ' : Ren} {n : Nat → Bool} (h : ∀ b, n b = true → (ρ' b).al = (ρ b).al) : ∀ v, scpA n v = true → concA ρ' v = concA ρ v
  | ⟨l⟩, hs => by simp only [scpA] at hs; simp only [concA, concL_congr h l hs]
theorem concL_congr {ρ ρ' : Ren} {n : Nat → Bool} (h : ∀ b, n b = true → (ρ' b).al = (ρ b).al) : ∀ v, scpL n v = true → concL ρ' v = concL ρ v
  | [], _ => by simp only [concL]
  | v :: l, hs => by
    simp only [scpL, Bool.and_eq_true] at hs
    simp only [concL, conc_congr h v hs.1, concL_congr h l hs.2]
end

mutual
theorem scp_mono {n m : Nat → Bool} (h : ∀ b, n b = true → m b = true) : ∀ v, scp n v = true → scp m v = true
  | .pointer (some a), hs => by simp only [scp] at hs ⊢; exact h _ hs
  | .slice (some a) _ _, hs => by simp only [scp] at hs ⊢; exact h _ hs
  | .map (some r), hs => by simp only [scp] at hs ⊢; exact h _ hs
  | .chan (some r), hs => by simp only [scp] at hs ⊢; exact h _ hs
  | .func fn first captured, hs => by
    simp only [scp, Bool.and_eq_true] at hs ⊢
    exact ⟨scpA_mono h first hs.1, scpA_mono h captured hs.2⟩
  | .iface t v, hs => by simp only [scp] at hs ⊢; exact scp_mono h v hs
  | .agg cs, hs => by simp only [scp] at hs ⊢; exact scpA_mono h cs hs
  | .tuple cs, hs => by simp only [scp] at hs ⊢; exact scpA_mono h cs hs
  | .pointer none, _ => by simp only [scp]
  | .slice none _ _, _ => by simp only [scp]
  | .map none, _ => by simp only [scp]
  | .chan none, _ => by simp only [scp]
  | .bool b, _ => by simp only [scp]
  | .int k n, _ => by simp only [scp]
  | .float k n, _ => by simp only [scp]
  | .complex k a b, _ => by simp only [scp]
  | .string s, _ => by simp only [scp]
  | .nilFunc, _ => by simp only [scp]
  | .nilIface, _ => by simp only [scp]
theorem scpA_mono {n m : Nat → Bool} (h : ∀ b, n b = true → m b = true) : ∀ v, scpA n v = true → scpA m v = true
  | ⟨l⟩, hs => by simp only [scpA] at hs ⊢; exact scpL_mono h l hs
theorem scpL_mono {n m : Nat → Bool} (h : ∀ b, n b = true → m b = true) : ∀ v, scpL n v = true → scpL m v = true
  | [], _ => by simp only [scpL]
  | v :: l, hs => by
    simp only [scpL, Bool.and_eq_true] at hs ⊢
    exact ⟨scp_mono h v hs.1, scpL_mono h l hs.2⟩
end

/-- A value of the call stands for a value in memory. -/
def VR (ρ : Ren) (n : Nat → Bool) (v u : Value) : Prop := scp n v = true ∧ u = conc ρ v

theorem VR.mono {ρ ρ' : Ren} {n m : Nat → Bool} {v u : Value} (h : VR ρ n v u) (hn : ∀ b, n b = true → m b = true) (he : ∀ b, n b = true → (ρ' b).al = (ρ b).al) : VR ρ' m v u :=
  ⟨scp_mono hn v h.1, by rw [conc_congr he v h.1]; exact h.2⟩

theorem conc_oneCell (ρ : Ren) (v : Value) : (conc ρ v).oneCell' = v.oneCell' := by
  cases v with
  | pointer a => cases a <;> rfl
  | slice a _ _ => cases a <;> rfl
  | map a => cases a <;> rfl
  | chan a => cases a <;> rfl
  | _ => rfl

theorem conc_cells (ρ : Ren) (v : Value) : (conc ρ v).cells = v.cells.map (conc ρ) := by
  cases v with
  | pointer a => cases a <;> simp [conc, Value.cells]
  | slice a _ _ => cases a <;> simp [conc, Value.cells]
  | map a => cases a <;> simp [conc, Value.cells]
  | chan a => cases a <;> simp [conc, Value.cells]
  | agg cs => simp [conc, Value.cells, concA_map]
  | _ => simp [conc, Value.cells]

/-- A structure with a state and blocks of its own. -/
structure ADT where
  S : Type
  rep : S → Nat → List Nat → World → Prop
  lt : ∀ {s p F w}, rep s p F w → ∀ x, x ∈ F → x < w.heap.size
  keep : ∀ {s p F w w'}, rep s p F w → (∀ x, x ∈ F → w'.heap[x]? = w.heap[x]?) → rep s p F w'

def concEntry (ρ : Ren) (e : MapEntry) : MapEntry := ⟨conc ρ e.key, conc ρ e.val, e.born⟩

/-- What is known of a block. cells: all of it, to be read and written (some s: elements of s cells may stand behind, as far as nobody knows). row: some cells in a row, to be read. map: a map. text: a text that is ranged over. adt: a structure. dead: nothing. hole: a name that stands for nothing so far. -/
inductive ABlk : Type 1 where
  | cells (vs : List Value) (e : TypeId) (opn : Option Nat)
  | row (vs : List Value)
  | map (es : List MapEntry) (clock : Nat)
  | iter (s : ByteArray) (pos : Nat)
  | adt (D : ADT) (s : D.S)
  | dead
  | hole

abbrev AH := List ABlk

def ABlk.foot (cb : CB) : ABlk → List Nat
  | .cells .. | .map .. | .iter .. => [cb.blk]
  | .adt .. => cb.foot
  | .row _ | .dead | .hole => []

def ABlk.reach (cb : CB) : ABlk → List Nat
  | .cells .. | .map .. | .iter .. => [cb.blk]
  | .adt .. => cb.foot
  | .row [] => []
  | .row _ => [cb.blk]
  | .dead | .hole => []

def ABlk.scp (n : Nat → Bool) : ABlk → Prop
  | .cells vs _ _ | .row vs => ∀ v, v ∈ vs → Abs.scp n v = true
  | .map es _ => ∀ e, e ∈ es → Abs.scp n e.key = true ∧ Abs.scp n e.val = true
  | _ => True

def Holds (ρ : Ren) (cb : CB) (w : World) : ABlk → Prop
  | .cells vs e opn => ∃ pre ex, w.heap[cb.blk]? = some (.cells (pre ++ vs.map (conc ρ) ++ ex).toArray e (0, 0)) ∧ pre.length = cb.off ∧ ex.length = cb.slack * opn.getD 0 ∧ (opn = none → cb.slack = 0 ∧ cb.off = 0)
  | .row vs => ∀ (i : Nat) v, vs[i]? = some v → w.cell? ⟨cb.blk, cb.off + i, none⟩ = some (conc ρ v)
  | .map es clock => w.heap[cb.blk]? = some (.map (es.map (concEntry ρ)).toArray clock)
  | .iter s pos => w.heap[cb.blk]? = some (.stringIter s pos)
  | .adt D s => cb.off = 0 ∧ cb.slack = 0 ∧ D.rep s cb.blk cb.foot w
  | .dead | .hole => True

theorem cell_block {w w' : World} {a : Addr} (h : w'.heap[a.block]? = w.heap[a.block]?) : w'.cell? a = w.cell? a := by
  unfold World.cell?
  rw [h]

theorem Holds.keep {ρ : Ren} {cb : CB} {w w' : World} {k : ABlk} (h : Holds ρ cb w k) (hk : ∀ x, x ∈ k.reach cb → w'.heap[x]? = w.heap[x]?) : Holds ρ cb w' k := by
  cases k with
  | cells vs e opn =>
    obtain ⟨pre, ex, h1, h2⟩ := h
    exact ⟨pre, ex, by rw [hk _ (by simp [ABlk.reach])]; exact h1, h2⟩
  | row vs =>
    intro i v hv
    rw [← h i v hv]
    refine cell_block (hk _ ?_)
    cases vs with
    | nil => simp at hv
    | cons => simp [ABlk.reach]
  | map es clock => show _ = _; rw [hk _ (by simp [ABlk.reach])]; exact h
  | iter s pos => show _ = _; rw [hk _ (by simp [ABlk.reach])]; exact h
  | adt D s => exact ⟨h.1, h.2.1, D.keep h.2.2 (fun x hx => hk x hx)⟩
  | dead => trivial
  | hole => trivial

theorem foot_reach {cb : CB} {k : ABlk} {x : Nat} (h : x ∈ k.foot cb) : x ∈ k.reach cb := by
  cases k <;> first | exact h | cases h

theorem Holds.lt {ρ : Ren} {cb : CB} {w : World} {k : ABlk} (h : Holds ρ cb w k) : ∀ x, x ∈ k.reach cb → x < w.heap.size := by
  intro x hx
  have lt : ∀ {b : Nat} {o : Obj}, w.heap[b]? = some o → b < w.heap.size := fun h => (Array.getElem?_eq_some_iff.1 h).1
  cases k with
  | cells vs e opn =>
    obtain ⟨pre, ex, h1, h2⟩ := h
    simp only [ABlk.reach, List.mem_singleton] at hx
    subst hx
    exact lt h1
  | row vs =>
    cases vs with
    | nil => cases hx
    | cons v vs =>
      simp only [ABlk.reach, List.mem_singleton] at hx
      subst hx
      have := h 0 v rfl
      unfold World.cell? at this
      split at this
      · rename_i h1; exact lt h1
      · cases this
  | map es clock => simp only [ABlk.reach, List.mem_singleton] at hx; subst hx; exact lt h
  | iter s pos => simp only [ABlk.reach, List.mem_singleton] at hx; subst hx; exact lt h
  | adt D s => exact D.lt h.2.2 x hx
  | dead => cases hx
  | hole => cases hx

theorem Holds.congr {ρ ρ' : Ren} {cb : CB} {w : World} {k : ABlk} {n : Nat → Bool} (h : Holds ρ cb w k) (hs : k.scp n) (he : ∀ b, n b = true → (ρ' b).al = (ρ b).al) : Holds ρ' cb w k := by
  cases k with
  | cells vs e opn =>
    obtain ⟨pre, ex, h1, h2⟩ := h
    refine ⟨pre, ex, ?_, h2⟩
    rw [h1]
    have : vs.map (conc ρ') = vs.map (conc ρ) := List.map_congr_left fun v hv => conc_congr he v (hs v hv)
    rw [this]
  | row vs =>
    intro i v hv
    rw [h i v hv, conc_congr he v (hs v (List.mem_of_getElem? hv))]
  | map es clock =>
    show _ = _
    rw [h]
    have : es.map (concEntry ρ') = es.map (concEntry ρ) := List.map_congr_left fun e he' => by
      unfold concEntry
      rw [conc_congr he _ (hs e he').1, conc_congr he _ (hs e he').2]
    rw [this]
  | iter s pos => exact h
  | adt D s => exact h
  | dead => trivial
  | hole => trivial

theorem ABlk.scp_mono {n m : Nat → Bool} (h : ∀ b, n b = true → m b = true) {k : ABlk} (hs : k.scp n) : k.scp m := by
  cases k with
  | cells vs e opn => exact fun v hv => Abs.scp_mono h v (hs v hv)
  | row vs => exact fun v hv => Abs.scp_mono h v (hs v hv)
  | map es clock => exact fun e he => ⟨Abs.scp_mono h _ (hs e he).1, Abs.scp_mono h _ (hs e he).2⟩
  | _ => trivial

/-- May the name stand in a value? -/
def live (h : AH) (b : Nat) : Bool := match h[b]? with
  | none | some .hole => false
  | _ => true

theorem live_lt {h : AH} {b : Nat} (hl : live h b = true) : b < h.length := by
  unfold live at hl
  cases hb : h[b]? with
  | none => rw [hb] at hl; cases hl
  | some k => exact (List.getElem?_eq_some_iff.1 hb).1

theorem live_of {h : AH} {b : Nat} {k : ABlk} (hb : h[b]? = some k) (hk : k ≠ .hole) : live h b = true := by
  unfold live
  rw [hb]
  cases k <;> first | rfl | exact absurd rfl hk

theorem live_set {h : AH} {b : Nat} {k : ABlk} (hk : k ≠ .hole) (c : Nat) (hl : live h c = true) : live (h.set b k) c = true := by
  by_cases e : b = c
  · subst e
    exact live_of (List.getElem?_set_self (live_lt hl)) hk
  · unfold live at *
    rw [List.getElem?_set_ne e]
    exact hl

theorem live_set_iff {h : AH} {b : Nat} {k k0 : ABlk} (hb : h[b]? = some k0) (hk0 : k0 ≠ .hole) (hk : k ≠ .hole) (c : Nat) : live (h.set b k) c = live h c := by
  by_cases e : b = c
  · subst e
    rw [live_of (List.getElem?_set_self (List.getElem?_eq_some_iff.1 hb).1) hk, live_of hb hk0]
  · unfold live
    rw [List.getElem?_set_ne e]

theorem live_push {h : AH} {l : AH} (c : Nat) (hl : live h c = true) : live (h ++ l) c = true := by
  have := live_lt hl
  unfold live at *
  rw [List.getElem?_append_left this]
  exact hl

/-- The abstract heap stands for the memory. -/
structure Rel (ρ : Ren) (h : AH) (w : World) : Prop where
  holds : ∀ (b : Nat) (k : ABlk), h[b]? = some k → Holds ρ (ρ b) w k
  scope : ∀ (b : Nat) (k : ABlk), h[b]? = some k → k.scp (live h)
  apart : ∀ (b c : Nat) (k l : ABlk), h[b]? = some k → h[c]? = some l → b ≠ c → ∀ x, x ∈ k.foot (ρ b) → x ∉ l.reach (ρ c)

def upd (ρ : Ren) (n : Nat) (cb : CB) : Ren := fun b => if b = n then cb else ρ b
theorem upd_ne {ρ : Ren} {n : Nat} {cb : CB} (b : Nat) (h : b ≠ n) : upd ρ n cb b = ρ b := by simp [upd, h]
theorem upd_al {ρ : Ren} {n : Nat} {cb : CB} (b : Nat) (h : b ≠ n) : (upd ρ n cb b).al = (ρ b).al := by rw [upd_ne b h]
theorem upd_self (ρ : Ren) (n : Nat) (cb : CB) : upd ρ n cb n = cb := by simp [upd]

theorem Rel.reach_lt {ρ : Ren} {h : AH} {w : World} (r : Rel ρ h w) {b : Nat} {k : ABlk} (hb : h[b]? = some k) : ∀ x, x ∈ k.reach (ρ b) → x < w.heap.size := (r.holds b k hb).lt

/-- Draws change nothing. -/
theorem Rel.heap {ρ : Ren} {h : AH} {w w' : World} (r : Rel ρ h w) (hw : w'.heap = w.heap) : Rel ρ h w' :=
  ⟨fun b k hb => (r.holds b k hb).keep (fun x _ => by rw [hw]), r.scope, r.apart⟩

theorem get_set {h : AH} {b : Nat} {k : ABlk} {c : Nat} {l : ABlk} (hc : (h.set b k)[c]? = some l) : (c = b ∧ l = k) ∨ (c ≠ b ∧ h[c]? = some l) := by
  by_cases e : c = b
  · subst e
    have := (List.getElem?_eq_some_iff.1 hc).1
    rw [List.getElem?_set_self (by simpa using this)] at hc
    exact .inl ⟨rfl, by injection hc with hc; exact hc.symm⟩
  · rw [List.getElem?_set_ne (fun h => e h.symm)] at hc
    exact .inr ⟨e, hc⟩

/-- One block turns, in place. -/
theorem Rel.upd {ρ : Ren} {h : AH} {w w' : World} (r : Rel ρ h w) {b : Nat} {k k' : ABlk} (hb : h[b]? = some k) (hk' : k' ≠ .hole) (hf : ∀ x, x ∈ k'.foot (ρ b) → x ∈ k.foot (ρ b)) (hr : ∀ x, x ∈ k'.reach (ρ b) → x ∈ k.reach (ρ b)) (hs : k'.scp (live h))
    (hh : Holds ρ (ρ b) w' k') (hw : ∀ x, x ∉ k.foot (ρ b) → x < w.heap.size → w'.heap[x]? = w.heap[x]?) : Rel ρ (h.set b k') w' := by
  refine ⟨fun c l hc => ?_, fun c l hc => ?_, fun c d l o hc hd hne x hx => ?_⟩
  · rcases get_set hc with ⟨rfl, rfl⟩ | ⟨e, hc⟩
    · exact hh
    · exact (r.holds c l hc).keep (fun x hx => hw x (fun hx' => r.apart b c k l hb hc (fun h => e h.symm) x hx' hx) (r.reach_lt hc x hx))
  · refine ABlk.scp_mono (live_set hk') ?_
    rcases get_set hc with ⟨rfl, rfl⟩ | ⟨e, hc⟩
    · exact hs
    · exact r.scope c l hc
  · rcases get_set hc with ⟨rfl, rfl⟩ | ⟨e, hc2⟩
    · rcases get_set hd with ⟨rfl, rfl⟩ | ⟨e', hd2⟩
      · exact absurd rfl hne
      · exact r.apart c d k o hb hd2 hne x (hf x hx)
    · rcases get_set hd with ⟨rfl, rfl⟩ | ⟨e', hd2⟩
      · exact fun hx' => r.apart c d l k hc2 hb hne x hx (hr x hx')
      · exact r.apart c d l o hc2 hd2 hne x hx

/-- A block is forgotten. -/
theorem Rel.kill {ρ : Ren} {h : AH} {w : World} (r : Rel ρ h w) (b : Nat) : Rel ρ (h.set b .dead) w := by
  refine ⟨fun c l hc => ?_, fun c l hc => ?_, fun c d l o hc hd hne x hx => ?_⟩
  · rcases get_set hc with ⟨rfl, rfl⟩ | ⟨_, hc⟩
    · trivial
    · exact r.holds c l hc
  · refine ABlk.scp_mono (live_set (by intro h; cases h)) ?_
    rcases get_set hc with ⟨rfl, rfl⟩ | ⟨_, hc⟩
    · trivial
    · exact r.scope c l hc
  · rcases get_set hc with ⟨rfl, rfl⟩ | ⟨_, hc⟩
    · cases hx
    · rcases get_set hd with ⟨rfl, rfl⟩ | ⟨_, hd⟩
      · intro h; cases h
      · exact r.apart c d l o hc hd hne x hx

/-- A hole is filled. -/
theorem Rel.fill {ρ : Ren} {h : AH} {w w' : World} (r : Rel ρ h w) {n : Nat} {k : ABlk} {cb : CB} (hn : h[n]? = some .hole) (hk : k ≠ .hole) (hs : k.scp (live (h.set n k))) (hh : Holds (Abs.upd ρ n cb) cb w' k)
    (hw : ∀ (b : Nat) (l : ABlk), h[b]? = some l → ∀ x, x ∈ l.reach (ρ b) → w'.heap[x]? = w.heap[x]?)
    (h1 : ∀ (b : Nat) (l : ABlk), h[b]? = some l → ∀ x, x ∈ l.foot (ρ b) → x ∉ k.reach cb) (h2 : ∀ (b : Nat) (l : ABlk), h[b]? = some l → ∀ x, x ∈ l.reach (ρ b) → x ∉ k.foot cb) : Rel (Abs.upd ρ n cb) (h.set n k) w' := by
  have hnl : ∀ b, live h b = true → b ≠ n := by
    rintro b hb rfl
    unfold live at hb
    rw [hn] at hb
    cases hb
  refine ⟨fun c l hc => ?_, fun c l hc => ?_, fun c d l o hc hd hne x hx => ?_⟩
  · rcases get_set hc with ⟨rfl, rfl⟩ | ⟨e, hc⟩
    · rw [upd_self]; exact hh
    · rw [upd_ne _ e]
      exact ((r.holds c l hc).keep (hw c l hc)).congr (r.scope c l hc) (fun b hb => upd_al b (hnl b hb))
  · rcases get_set hc with ⟨rfl, rfl⟩ | ⟨e, hc⟩
    · exact hs
    · exact ABlk.scp_mono (live_set hk) (r.scope c l hc)
  · rcases get_set hc with ⟨rfl, rfl⟩ | ⟨e, hc2⟩
    · rcases get_set hd with ⟨rfl, rfl⟩ | ⟨e', hd2⟩
      · exact absurd rfl hne
      · rw [upd_self] at hx
        rw [upd_ne _ e']
        exact fun hx' => h2 d o hd2 x hx' hx
    · rw [upd_ne _ e] at hx
      rcases get_set hd with ⟨rfl, rfl⟩ | ⟨e', hd2⟩
      · rw [upd_self]
        exact h1 c l hc2 x hx
      · rw [upd_ne _ e']
        exact r.apart c d l o hc2 hd2 hne x hx

/-- A new hole. -/
theorem Rel.hole {ρ : Ren} {h : AH} {w : World} (r : Rel ρ h w) : Rel ρ (h ++ [ABlk.hole]) w := by
  have get : ∀ (c : Nat) (l : ABlk), (h ++ [ABlk.hole])[c]? = some l → l = ABlk.hole ∨ h[c]? = some l := by
    intro c l hc
    by_cases e : c < h.length
    · rw [List.getElem?_append_left e] at hc
      exact .inr hc
    · rw [List.getElem?_append_right (by omega)] at hc
      have := List.mem_of_getElem? hc
      simp at this
      exact .inl this
  refine ⟨fun c l hc => ?_, fun c l hc => ?_, fun c d l o hc hd hne x hx => ?_⟩
  · rcases get c l hc with rfl | hc
    · trivial
    · exact r.holds c l hc
  · rcases get c l hc with rfl | hc
    · trivial
    · exact ABlk.scp_mono (fun b hb => live_push b hb) (r.scope c l hc)
  · rcases get c l hc with rfl | hc
    · cases hx
    · rcases get d o hd with rfl | hd
      · intro h; cases h
      · exact r.apart c d l o hc hd hne x hx

theorem push_eq (h : AH) (k : ABlk) : h ++ [k] = (h ++ [ABlk.hole]).set h.length k := by
  rw [List.set_append_right _ _ (Nat.le_refl _)]
  simp

/-- What a stretch of code may have done: names below m stay; nothing else in memory has turned. -/
structure Next (m : Nat) (ρ : Ren) (h : AH) (w : World) (ρ' : Ren) (h' : AH) (w' : World) : Prop where
  ext : ∀ b, b < m → (ρ' b).al = (ρ b).al
  lives : ∀ b, b < m → live h b = true → live h' b = true
  os : w'.os = w.os
  tape : w'.tape = w.tape
  output : w'.output = w.output
  size : w.heap.size ≤ w'.heap.size
  keep : ∀ x, x < w.heap.size → (∀ (b : Nat) (k : ABlk), h[b]? = some k → x ∉ k.foot (ρ b)) → w'.heap[x]? = w.heap[x]?
  prov : ∀ (b : Nat) (k : ABlk), h'[b]? = some k → ∀ x, x ∈ k.foot (ρ' b) → w.heap.size ≤ x ∨ ∃ (b0 : Nat) (k0 : ABlk), h[b0]? = some k0 ∧ x ∈ k0.foot (ρ b0)
  prow : ∀ (b : Nat) (k : ABlk), h'[b]? = some k → ∀ x, x ∈ k.reach (ρ' b) → w.heap.size ≤ x ∨ ∃ (b0 : Nat) (k0 : ABlk), h[b0]? = some k0 ∧ x ∈ k0.reach (ρ b0)

theorem Next.refl (m : Nat) (ρ : Ren) (h : AH) (w : World) : Next m ρ h w ρ h w :=
  ⟨fun _ _ => rfl, fun _ _ h => h, rfl, rfl, rfl, Nat.le_refl _, fun _ _ _ => rfl, fun b k hb x hx => .inr ⟨b, k, hb, hx⟩, fun b k hb x hx => .inr ⟨b, k, hb, hx⟩⟩

theorem Next.drew {m : Nat} {ρ ρ' : Ren} {h h' : AH} {w w' w2 : World} (n : Next m ρ h w ρ' h' w') (h1 : w2.heap = w'.heap) (h2 : w2.os = w'.os) (h3 : w2.tape = w'.tape) (h4 : w2.output = w'.output) : Next m ρ h w ρ' h' w2 :=
  ⟨n.ext, n.lives, h2.trans n.os, h3.trans n.tape, h4.trans n.output, by rw [h1]; exact n.size, fun x hx hn => by rw [h1]; exact n.keep x hx hn, n.prov, n.prow⟩

theorem Next.trans {m : Nat} {ρ ρ1 ρ2 : Ren} {h h1 h2 : AH} {w w1 w2 : World} (a : Next m ρ h w ρ1 h1 w1) (b : Next m ρ1 h1 w1 ρ2 h2 w2) : Next m ρ h w ρ2 h2 w2 where
  ext := fun c hc => (b.ext c hc).trans (a.ext c hc)
  lives := fun c hc hl => b.lives c hc (a.lives c hc hl)
  os := b.os.trans a.os
  tape := b.tape.trans a.tape
  output := b.output.trans a.output
  size := Nat.le_trans a.size b.size
  keep := fun x hx hn => (b.keep x (Nat.lt_of_lt_of_le hx a.size) (fun c k hc hx' => by
    rcases a.prov c k hc x hx' with h | ⟨b0, k0, hb0, hx0⟩
    · omega
    · exact hn b0 k0 hb0 hx0)).trans (a.keep x hx hn)
  prov := fun c k hc x hx => by
    rcases b.prov c k hc x hx with h | ⟨b0, k0, hb0, hx0⟩
    · exact .inl (Nat.le_trans a.size h)
    · exact a.prov b0 k0 hb0 x hx0
  prow := fun c k hc x hx => by
    rcases b.prow c k hc x hx with h | ⟨b0, k0, hb0, hx0⟩
    · exact .inl (Nat.le_trans a.size h)
    · exact a.prow b0 k0 hb0 x hx0

theorem Next.less {m n : Nat} {ρ ρ1 : Ren} {h h1 : AH} {w w1 : World} (a : Next m ρ h w ρ1 h1 w1) (hn : n ≤ m) : Next n ρ h w ρ1 h1 w1 :=
  { a with ext := fun b hb => a.ext b (Nat.lt_of_lt_of_le hb hn), lives := fun b hb => a.lives b (Nat.lt_of_lt_of_le hb hn) }

end Abs
end Go.Proofs.Ytekhadlpcdjlpaa
