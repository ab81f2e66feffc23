/- Contracts of the document's answer for layer 11: ropelineref11. -/
import Derived.Test.YtekhadlpcdjlpaaChecked
import Derived.Test.YtekhadlpcdjlpaaHeap
import Derived.Test.YtekhadlpcdjlpaaRegion
import Derived.Test.YtekhadlpcdjlpaaApp
import Derived.Test.YtekhadlpcdjlpaaLex3
import Derived.Test.YtekhadlpcdjlpaaPermit
import Derived.BigQuiet
import Derived.Deep.QuietTactic
import Derived.Deep.DeepCutAuto
namespace Go.Proofs.Ytekhadlpcdjlpaa
namespace Ref11
open Go.RowKit
set_option linter.unusedVariables false
set_option linter.unusedSimpArgs false

def ints (l : List Int) : List Value := l.map (Value.int .i64)
theorem ints_set (l : List Int) (t : Nat) (v : Int) : (ints l).set t (.int .i64 v) = ints (l.set t v) := by simp [ints, List.map_set]
theorem ints_get {l : List Int} {t : Nat} {v : Int} (h : l[t]? = some v) : (ints l)[t]? = some (.int .i64 v) := by simp [ints, h]
theorem info_int : (Try.prog.info? 3).map (fun i => (i.zero, i.size, i.bytes)) = some (some (.int .i64 0), 1, 8) := by kernel_rfl

/-- The waits of the document's answer: the struct's block q; the rows of looks, sleeps, addresses, permits. -/
structure R (w : World) (q b1 b2 b3 b4 n spin : Nat) (lo sp ad pe : List Int) : Prop where
  box : Blk w q 110 [.int .i64 spin, .slice (some ⟨b1, 0, none⟩) n n, .slice (some ⟨b2, 0, none⟩) n n, .slice (some ⟨b3, 0, none⟩) n n, .slice (some ⟨b4, 0, none⟩) n n]
  r1 : Blk w b1 3 (ints lo)
  r2 : Blk w b2 3 (ints sp)
  r3 : Blk w b3 3 (ints ad)
  r4 : Blk w b4 3 (ints pe)
  len : lo.length = n ∧ sp.length = n ∧ ad.length = n ∧ pe.length = n
  ne : q ≠ b1 ∧ q ≠ b2 ∧ q ≠ b3 ∧ q ≠ b4 ∧ b1 ≠ b2 ∧ b1 ≠ b3 ∧ b1 ≠ b4 ∧ b2 ≠ b3 ∧ b2 ≠ b4 ∧ b3 ≠ b4
  most : n ≤ 64

section
variable {w w' : World} {q b1 b2 b3 b4 n spin : Nat} {lo sp ad pe : List Int}
theorem R.mod {S : List Nat} (h : R w q b1 b2 b3 b4 n spin lo sp ad pe) (m : Mod S w w') (hS : ∀ x, x = q ∨ x = b1 ∨ x = b2 ∨ x = b3 ∨ x = b4 → x ∉ S) : R w' q b1 b2 b3 b4 n spin lo sp ad pe :=
  ⟨m.blk h.box (hS _ (.inl rfl)), m.blk h.r1 (hS _ (.inr (.inl rfl))), m.blk h.r2 (hS _ (.inr (.inr (.inl rfl)))), m.blk h.r3 (hS _ (.inr (.inr (.inr (.inl rfl))))), m.blk h.r4 (hS _ (.inr (.inr (.inr (.inr rfl))))), h.len, h.ne, h.most⟩
theorem R.mod0 (h : R w q b1 b2 b3 b4 n spin lo sp ad pe) (m : Mod [] w w') : R w' q b1 b2 b3 b4 n spin lo sp ad pe := h.mod m (by simp)
theorem R.set1 (h : R w q b1 b2 b3 b4 n spin lo sp ad pe) (t : Nat) (v : Int) : R (w.setCell ⟨b1, t, none⟩ (.int .i64 v)) q b1 b2 b3 b4 n spin (lo.set t v) sp ad pe := by
  obtain ⟨n1, n2, n3, n4, n5, n6, n7, n8, n9, n10⟩ := h.ne
  exact ⟨h.box.set_ne (fun e => n1 e.symm) _, by rw [← ints_set]; exact h.r1.set t _, h.r2.set_ne n5 _, h.r3.set_ne n6 _, h.r4.set_ne n7 _, by simpa using h.len, h.ne, h.most⟩
theorem R.set2 (h : R w q b1 b2 b3 b4 n spin lo sp ad pe) (t : Nat) (v : Int) : R (w.setCell ⟨b2, t, none⟩ (.int .i64 v)) q b1 b2 b3 b4 n spin lo (sp.set t v) ad pe := by
  obtain ⟨n1, n2, n3, n4, n5, n6, n7, n8, n9, n10⟩ := h.ne
  exact ⟨h.box.set_ne (fun e => n2 e.symm) _, h.r1.set_ne (fun e => n5 e.symm) _, by rw [← ints_set]; exact h.r2.set t _, h.r3.set_ne n8 _, h.r4.set_ne n9 _, by simpa using h.len, h.ne, h.most⟩
theorem R.set3 (h : R w q b1 b2 b3 b4 n spin lo sp ad pe) (t : Nat) (v : Int) : R (w.setCell ⟨b3, t, none⟩ (.int .i64 v)) q b1 b2 b3 b4 n spin lo sp (ad.set t v) pe := by
  obtain ⟨n1, n2, n3, n4, n5, n6, n7, n8, n9, n10⟩ := h.ne
  exact ⟨h.box.set_ne (fun e => n3 e.symm) _, h.r1.set_ne (fun e => n6 e.symm) _, h.r2.set_ne (fun e => n8 e.symm) _, by rw [← ints_set]; exact h.r3.set t _, h.r4.set_ne n10 _, by simpa using h.len, h.ne, h.most⟩
theorem R.set4 (h : R w q b1 b2 b3 b4 n spin lo sp ad pe) (t : Nat) (v : Int) : R (w.setCell ⟨b4, t, none⟩ (.int .i64 v)) q b1 b2 b3 b4 n spin lo sp ad (pe.set t v) := by
  obtain ⟨n1, n2, n3, n4, n5, n6, n7, n8, n9, n10⟩ := h.ne
  exact ⟨h.box.set_ne (fun e => n4 e.symm) _, h.r1.set_ne (fun e => n7 e.symm) _, h.r2.set_ne (fun e => n9 e.symm) _, h.r3.set_ne (fun e => n10 e.symm) _, by rw [← ints_set]; exact h.r4.set t _, by simpa using h.len, h.ne, h.most⟩
end

theorem four (w : World) (zs : List Value) : ∀ i, i < 4 → Blk ((((w.alloc (.cells zs.toArray 3 (0, 0))).alloc (.cells zs.toArray 3 (0, 0))).alloc (.cells zs.toArray 3 (0, 0))).alloc (.cells zs.toArray 3 (0, 0))) (w.heap.size + i) 3 zs := by
  intro i hi
  have h0 := Blk.new w 3 zs
  have h1 := Blk.new (w.alloc (.cells zs.toArray 3 (0, 0))) 3 zs
  have h2 := Blk.new ((w.alloc (.cells zs.toArray 3 (0, 0))).alloc (.cells zs.toArray 3 (0, 0))) 3 zs
  have h3 := Blk.new (((w.alloc (.cells zs.toArray 3 (0, 0))).alloc (.cells zs.toArray 3 (0, 0))).alloc (.cells zs.toArray 3 (0, 0))) 3 zs
  simp only [World.size_alloc] at h1 h2 h3
  match i with
  | 0 => exact ((h0.alloc _).alloc _).alloc _
  | 1 => exact (h1.alloc _).alloc _
  | 2 => exact h2.alloc _
  | 3 => exact h3

def Made (w : World) (n spin : Nat) (e : Ending) (w' : World) : Prop :=
  ∃ q b1 b2 b3 b4, e = .returned (.pointer (some ⟨q, 0, none⟩)) ∧ R w' q b1 b2 b3 b4 n spin (List.replicate n 0) (List.replicate n 0) (List.replicate n 0) (List.replicate n 0) ∧ (∀ x, x = q ∨ x = b1 ∨ x = b2 ∨ x = b3 ∨ x = b4 → w.heap.size ≤ x) ∧ Mod [] w w'

theorem made_end (w : World) (nq n spin : Nat) (h64 : n ≤ 64) (i1 i2 i3 i4 : Nat) (hd : (i1 < 4 ∧ i2 < 4 ∧ i3 < 4 ∧ i4 < 4) ∧ i1 ≠ i2 ∧ i1 ≠ i3 ∧ i1 ≠ i4 ∧ i2 ≠ i3 ∧ i2 ≠ i4 ∧ i3 ≠ i4) :
    Made w n spin (.returned (.pointer (some ⟨w.heap.size + 4, 0, none⟩))) ((((((w.drewN nq).alloc (.cells (zeros n (.int .i64 0)) 3 (0, 0))).alloc (.cells (zeros n (.int .i64 0)) 3 (0, 0))).alloc (.cells (zeros n (.int .i64 0)) 3 (0, 0))).alloc (.cells (zeros n (.int .i64 0)) 3 (0, 0))).alloc (.cells #[.int .i64 spin, .slice (some ⟨w.heap.size + i1, 0, none⟩) n n, .slice (some ⟨w.heap.size + i2, 0, none⟩) n n, .slice (some ⟨w.heap.size + i3, 0, none⟩) n n, .slice (some ⟨w.heap.size + i4, 0, none⟩) n n] 110 (0, 0))) := by
  have hf := four (w.drewN nq) (List.replicate n (.int .i64 0))
  have mF := ((((((Mod.refl [] w).drewN nq).alloc (.cells (zeros n (.int .i64 0)) 3 (0, 0))).alloc (.cells (zeros n (.int .i64 0)) 3 (0, 0))).alloc (.cells (zeros n (.int .i64 0)) 3 (0, 0))).alloc (.cells (zeros n (.int .i64 0)) 3 (0, 0)))
  have e0 : ints (List.replicate n 0) = List.replicate n (.int .i64 0) := by simp [ints]
  have hs : (w.drewN nq).heap.size = w.heap.size := rfl
  rw [hs] at hf
  have hN := Blk.new (((((w.drewN nq).alloc (.cells (zeros n (.int .i64 0)) 3 (0, 0))).alloc (.cells (zeros n (.int .i64 0)) 3 (0, 0))).alloc (.cells (zeros n (.int .i64 0)) 3 (0, 0))).alloc (.cells (zeros n (.int .i64 0)) 3 (0, 0))) 110 [.int .i64 spin, .slice (some ⟨w.heap.size + i1, 0, none⟩) n n, .slice (some ⟨w.heap.size + i2, 0, none⟩) n n, .slice (some ⟨w.heap.size + i3, 0, none⟩) n n, .slice (some ⟨w.heap.size + i4, 0, none⟩) n n]
  simp only [World.size_alloc] at hN
  refine ⟨w.heap.size + 4, _, _, _, _, rfl, ⟨hN, ?_, ?_, ?_, ?_, by simp, by omega, h64⟩, fun x hx => by omega, mF.alloc _⟩
  · rw [e0]; exact (hf i1 hd.1.1).alloc _
  · rw [e0]; exact (hf i2 hd.1.2.1).alloc _
  · rw [e0]; exact (hf i3 hd.1.2.2.1).alloc _
  · rw [e0]; exact (hf i4 hd.1.2.2.2).alloc _

end Ref11
end Go.Proofs.Ytekhadlpcdjlpaa
