/- Plain lemmas on heaps, block by block: what a block holds, behind stores, new blocks and draws; which blocks a call may have changed. -/
import Derived.WalkKit
import Derived.Deep.Draws

namespace Go.Proofs.Ytongllppbifiaaa
open Go.RowKit

/-- A block of cells known whole, nothing of it frozen. -/
def Blk (w : World) (b : Nat) (t : TypeId) (l : List Value) : Prop := w.heap[b]? = some (.cells l.toArray t (0, 0))

theorem heap_lt {w : World} {b : Nat} {o : Obj} (h : w.heap[b]? = some o) : b < w.heap.size := (Array.getElem?_eq_some_iff.1 h).1

namespace Blk
variable {w : World} {b : Nat} {t : TypeId} {l : List Value}

theorem lt (h : Blk w b t l) : b < w.heap.size := heap_lt h
theorem cell (h : Blk w b t l) {i : Nat} {v : Value} (hv : l[i]? = some v) : w.cell? ⟨b, i, none⟩ = some v := by
  unfold Blk at h
  simp [World.cell?, h, hv]
theorem free (h : Blk w b t l) (i : Nat) : w.frozen? ⟨b, i, none⟩ = false := by
  unfold Blk at h
  simp [World.frozen?, h]
theorem set (h : Blk w b t l) (i : Nat) (v : Value) : Blk (w.setCell ⟨b, i, none⟩ v) b t (l.set i v) := by
  unfold Blk at *
  simp [World.setCell, Array.getElem?_modify, h]
theorem set_ne (h : Blk w b t l) {a : Addr} (hne : a.block ≠ b) (v : Value) : Blk (w.setCell a v) b t l := by
  unfold Blk at *
  simp [World.setCell, Array.getElem?_modify, h, hne]
theorem alloc (h : Blk w b t l) (o : Obj) : Blk (w.alloc o) b t l := by
  have := h.lt
  unfold Blk at *
  show (w.heap.push o)[b]? = _
  rw [Array.getElem?_push, if_neg (by omega), h]
theorem drew (h : Blk w b t l) : Blk w.drew b t l := h
theorem drewN (h : Blk w b t l) (n : Nat) : Blk (w.drewN n) b t l := h
end Blk

theorem Blk.new (w : World) (t : TypeId) (l : List Value) : Blk (w.alloc (.cells l.toArray t (0, 0))) w.heap.size t l := by
  unfold Blk
  show (w.heap.push _)[w.heap.size]? = _
  simp

/-- The world w' is w with new blocks, and with changes in the blocks of S alone. -/
structure Mod (S : List Nat) (w w' : World) : Prop where
  os : w'.os = w.os
  tape : w'.tape = w.tape
  output : w'.output = w.output
  size : w.heap.size ≤ w'.heap.size
  block : ∀ k, k < w.heap.size → k ∉ S → w'.heap[k]? = w.heap[k]?

namespace Mod
variable {S T : List Nat} {w w1 w2 : World}
theorem refl (S : List Nat) (w : World) : Mod S w w := ⟨rfl, rfl, rfl, Nat.le_refl _, fun _ _ _ => rfl⟩
theorem mono (h : Mod S w w1) (hs : ∀ k, k ∈ S → k < w.heap.size → k ∈ T) : Mod T w w1 :=
  ⟨h.os, h.tape, h.output, h.size, fun k hk hn => h.block k hk (fun e => hn (hs k e hk))⟩
theorem trans (h : Mod S w w1) (k : Mod S w1 w2) : Mod S w w2 :=
  ⟨k.os.trans h.os, k.tape.trans h.tape, k.output.trans h.output, Nat.le_trans h.size k.size, fun i hi hn => (k.block i (Nat.lt_of_lt_of_le hi h.size) hn).trans (h.block i hi hn)⟩
/-- One more step, which changes blocks of S or new ones. -/
theorem step (h : Mod S w w1) (k : Mod T w1 w2) (hs : ∀ x, x ∈ T → x < w.heap.size → x ∈ S) : Mod S w w2 :=
  ⟨k.os.trans h.os, k.tape.trans h.tape, k.output.trans h.output, Nat.le_trans h.size k.size,
    fun i hi hn => (k.block i (Nat.lt_of_lt_of_le hi h.size) (fun e => hn (hs i e hi))).trans (h.block i hi hn)⟩
theorem drew (h : Mod S w w1) : Mod S w w1.drew := ⟨h.os, h.tape, h.output, h.size, h.block⟩
theorem drewN (h : Mod S w w1) (n : Nat) : Mod S w (w1.drewN n) := ⟨h.os, h.tape, h.output, h.size, h.block⟩
theorem alloc (h : Mod S w w1) (o : Obj) : Mod S w (w1.alloc o) :=
  ⟨h.os, h.tape, h.output, by have := h.size; simp; omega, fun k hk hn => by
    have := h.size
    rw [Below.heap_alloc _ _ _ (by omega)]; exact h.block k hk hn⟩
theorem setCell (h : Mod S w w1) {a : Addr} (ha : a.block < w.heap.size → a.block ∈ S) (v : Value) : Mod S w (w1.setCell a v) :=
  ⟨h.os, h.tape, h.output, by have := h.size; simp [World.setCell]; omega, fun k hk hn => by
    have hne : k ≠ a.block := by
      intro e
      subst e
      exact hn (ha hk)
    rw [Below.heap_setCell _ _ _ _ hne]; exact h.block k hk hn⟩
theorem heap (h : Mod S w w1) {b : Nat} {o : Obj} (hb : w.heap[b]? = some o) (hn : b ∉ S) : w1.heap[b]? = some o :=
  (h.block b (heap_lt hb) hn).trans hb
theorem blk (h : Mod S w w1) {b : Nat} {t : TypeId} {l : List Value} (hb : Blk w b t l) (hn : b ∉ S) : Blk w1 b t l := h.heap hb hn
theorem cell (h : Mod S w w1) {a : Addr} {v : Value} (hb : w.cell? a = some v) (hn : a.block ∉ S) : w1.cell? a = some v := by
  have hlt : a.block < w.heap.size := by
    unfold World.cell? at hb
    split at hb
    · rename_i h1; exact heap_lt h1
    · cases hb
  rw [World.cell?_of_block (w := w) (h.block a.block hlt hn)]
  exact hb
theorem of_below (h : Below w.heap.size w w1) : Mod [] w w1 := ⟨h.os, h.tape, h.output, h.size, fun k hk _ => h.block k hk⟩
theorem below (h : Mod S w w1) (hs : ∀ k, k ∈ S → w.heap.size ≤ k) : Below w.heap.size w w1 :=
  ⟨h.os, h.tape, h.output, h.size, fun k hk => h.block k hk (fun e => by have := hs k e; omega)⟩
theorem belowB (h : Mod S w w1) {B : Nat} (hB : B ≤ w.heap.size) (hs : ∀ k, k ∈ S → B ≤ k) : Below B w w1 :=
  ⟨h.os, h.tape, h.output, h.size, fun k hk => h.block k (by omega) (fun e => by have := hs k e; omega)⟩
end Mod

theorem cell_lt {w : World} {a : Addr} {v : Value} (hb : w.cell? a = some v) : a.block < w.heap.size := by
  unfold World.cell? at hb
  split at hb
  · rename_i h1; exact heap_lt h1
  · cases hb

/-- A row that is filled from its head on: the cell that comes next, and the row behind its filling. -/
theorem fill_at {α : Type} (f : α → Value) (z0 : Value) (ws : List α) (n k : Nat) (hn : ws.length = n) (hk : k < n) : ((ws.take k).map f ++ List.replicate (n - k) z0)[k]? = some z0 := by
  have hlen : ((ws.take k).map f).length = k := by simp; omega
  rw [List.getElem?_append_right (by omega), hlen, show n - k = (n - (k + 1)) + 1 by omega, List.replicate_succ]
  simp

theorem fill_step {α : Type} (f : α → Value) (z0 : Value) (ws : List α) (n k : Nat) (z : α) (hn : ws.length = n) (hz : ws[k]? = some z) :
    ((ws.take k).map f ++ List.replicate (n - k) z0).set k (f z) = (ws.take (k + 1)).map f ++ List.replicate (n - (k + 1)) z0 := by
  have hk : k < ws.length := (List.getElem?_eq_some_iff.1 hz).1
  have hlen : ((ws.take k).map f).length = k := by simp; omega
  have e : ws.take (k + 1) = ws.take k ++ [z] := by rw [List.take_add_one, hz]; rfl
  rw [List.set_append_right _ _ (by omega), hlen, show n - k = (n - (k + 1)) + 1 by omega, List.replicate_succ, Nat.sub_self, List.set_cons_zero, e, List.map_append]
  simp

theorem hid {p : Prop} (h : p) : Hid p := h
theorem ret_int {k : IntKind} {a b : Int} (h : a = b) : Ending.returned (.int k a) = .returned (.int k b) := by rw [h]
theorem ret_bool {a b : Bool} (h : a = b) : Ending.returned (.bool a) = .returned (.bool b) := by rw [h]

/-- What the walk is told of a slice of integers that came in: nil; or a row of 'cap' cells. -/
def IsRow (k : IntKind) (w : World) (a : Option Addr) (len cap : Nat) (zs : List Int) : Prop :=
  (a = none ∧ len = 0 ∧ cap = 0 ∧ zs = []) ∨
  ∃ x, a = some x ∧ len ≤ cap ∧ cap ≤ maxLen ∧ zs.length = cap ∧ (∀ i, i < zs.length → w.cell? (x.add i) = some (.int k (zs.getD i 0))) ∧ ∀ n ∈ zs, (Lit.int k n).wf = true

/-- n cells that hold z. -/
def zeros (n : Nat) (z : Value) : Array Value := (List.replicate n z).toArray
theorem zeros_toList (n : Nat) (z : Value) : zeros n z = (List.replicate n z).toArray := rfl

/-- make([]E, n), the elements of one cell. -/
theorem make_zeros {P : Program} (t e : TypeId) (i : TypeInfo) (z' z : Value) (bytes : Nat) (ht : P.underlying t = some (.slice e)) (hi : P.info? e = some i) (hz : i.zero = some z') (hs : i.size = 1) (hb : i.bytes = bytes)
    (hzc : z'.cells = #[z]) (n : Nat) (hn : bytes * n ≤ 281474976710656) (h63 : n ≤ 281474976710656) (w : World) :
    (Instr.makeSlice t (.int .i64 n) (.int .i64 n)).run P w = .ok (.slice (some ⟨w.heap.size, 0, none⟩) n n) (w.alloc (.cells (zeros n z) e (0, 0))) := by
  have hr := run_make (P := P) w t e i z' ht hi hz .i64 .i64 n n (by omega) (Int.le_refl _) (by rw [hb]; omega) (by omega)
  rw [hr, hzc, hs]
  have e1 : madeCells #[z] ((n : Int).toNat * 1) = zeros n z := by
    rw [zeros, ← toList_madeCells_one]
    simp
  rw [e1]
  simp

/-- The same, the size spelled otherwise. -/
theorem make_zerosI {P : Program} (t e : TypeId) (i : TypeInfo) (z' z : Value) (bytes : Nat) (ht : P.underlying t = some (.slice e)) (hi : P.info? e = some i) (hz : i.zero = some z') (hs : i.size = 1) (hb : i.bytes = bytes)
    (hzc : z'.cells = #[z]) (n : Nat) (x : Int) (hx : x = n) (hn : bytes * n ≤ 281474976710656) (h63 : n ≤ 281474976710656) (w : World) :
    (Instr.makeSlice t (.int .i64 x) (.int .i64 x)).run P w = .ok (.slice (some ⟨w.heap.size, 0, none⟩) n n) (w.alloc (.cells (zeros n z) e (0, 0))) := by
  subst hx
  exact make_zeros t e i z' z bytes ht hi hz hs hb hzc n hn h63 w

end Go.Proofs.Ytongllppbifiaaa
