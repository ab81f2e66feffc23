/- Layer 2 (cell), more: all words; an access told; the document's access. -/
import Derived.Test.YtlhbfkncdcgocaaCell
import Derived.Test.YtlhbfkncdcgocaaApp
import Derived.Test.YtlhbfkncdcgocaaRead
namespace Go.Proofs.Ytlhbfkncdcgocaa
open Go.RowKit
set_option linter.unusedVariables false

theorem info_w32 : (Try.prog.info? 23).map (fun i => (i.zero, i.size, i.bytes)) = some (some (.int .u32 0), 1, 4) := by kernel_rfl

set_option maxRecDepth 100000 in
theorem cells_words (p d : Nat) (ws : List Int) (w : World) (h : CellsAt w p d ws) (hm : ws.length ≤ 8192) :
    Calls Try.prog 38 #[.pointer (some ⟨p, 0, none⟩)] w fun e w' => ∃ g, e = .returned (.slice (some ⟨g, 0, none⟩) ws.length ws.length) ∧ w.heap.size ≤ g ∧ Blk w' g 23 (ws.map (Value.int .u32)) ∧ Mod [] w w' := by
  have hb0 : w.cell? ⟨p, 0, none⟩ = _ := h.box.cell rfl
  have hp : p < w.heap.size := h.box.lt
  have hd : d < w.heap.size := h.row.lt
  obtain ⟨n, hn⟩ : ∃ n, ws.length = n := ⟨_, rfl⟩
  rw [hn] at hb0 hm ⊢
  obtain ⟨i0, hi, hz0, hz1, hz2⟩ := info_parts info_w32
  have hmk := make_zeros (P := Try.prog) 22 23 i0 _ (.int .u32 0) 4 Try.underlying22 hi hz0 hz1 hz2 rfl n (by omega) (by omega) w
  clear hi hz0 hz1 hz2
  have HN := hid hn
  clear hn
  have hblk : Blk (w.alloc (.cells (zeros n (.int .u32 0)) 23 (0, 0))) w.heap.size 23 (List.replicate n (.int .u32 0)) := by
    have := Blk.new w 23 (List.replicate n (.int .u32 0))
    simpa [zeros] using this
  have hmod : Mod [] w (w.alloc (.cells (zeros n (.int .u32 0)) 23 (0, 0))) := (Mod.refl _ _).alloc _
  go_enter Try.func38, Try.ntmps38
  go_wp2_with fail
  obtain ⟨g, hg⟩ : ∃ g, w.heap.size = g := ⟨_, rfl⟩
  rw [hg] at hblk hp hd ⊢
  have hgle : w.heap.size ≤ g := by omega
  clear hmk hg
  go_loopw [16] (fun i wr => ∃ k : Nat, k ≤ n ∧ i = .int .i64 k ∧ Blk wr g 23 ((ws.take k).map (Value.int .u32) ++ List.replicate (n - k) (.int .u32 0)) ∧ Mod [] w wr) (fun i _ => n - (intOf i).toNat)
  case atStart => exact ⟨0, by omega, rfl, by simpa using hblk, hmod⟩
  case round =>
    clear hblk hmod
    obtain ⟨k, hk, rfl, hb, hmd⟩ := hrel
    by_cases hlt : k < n
    · obtain ⟨z, hz⟩ : ∃ z, ws[k]? = some z := ⟨ws[k]'(by rw [HN.out]; exact hlt), by simp [HN.out, hlt]⟩
      have hcp := hmd.cell hb0 (by simp)
      have hcd := hmd.cell (h.cell hz) (by simp)
      have hcg : wr.cell? ⟨g, k, none⟩ = some (.int .u32 0) := hb.cell (fill_at _ _ ws n k HN.out hlt)
      have hf := hb.free k
      have hb' := hb.set k (.int .u32 z)
      have hmd' := hmd.setCell (a := ⟨g, k, none⟩) (by simp; omega) (.int .u32 z)
      have HE : Hid (((ws.take k).map (Value.int .u32) ++ List.replicate (n - k) (Value.int .u32 0)).set k (Value.int .u32 z) = (ws.take (k + 1)).map (Value.int .u32) ++ List.replicate (n - (k + 1)) (Value.int .u32 0)) :=
        fill_step _ _ ws n k z HN.out hz
      clear hb hmd hz
      go_wp2_with (go_at_call 62; refine (load32_any _ _ _ _ hcd).mono ?_; rintro e w' ⟨rfl, rfl⟩)
      go_roundw
      case rel => exact ⟨k + 1, by omega, by go_num, by rw [← HE.out]; exact hb', hmd'⟩
      case measure => simp [intOf]; omega
    · have hkn : k = n := by omega
      subst hkn
      rw [Nat.sub_self, List.replicate_zero, List.append_nil, List.take_of_length_le (by rw [HN.out]; omega)] at hb
      go_wp2
      go_ret
      exact ⟨g, rfl, hgle, hb, hmd⟩

def U32 (x : Int) : Prop := 0 ≤ x ∧ x < 4294967296

/-- The document's access. -/
def acc (ws : List Int) (kind : Int) (i : Nat) (x old v : Int) : List Int × Int :=
  if kind = 1 then (ws, x) else if kind = 2 then (ws.set i v, 0) else if kind = 3 then (ws.set i v, x)
  else if kind = 4 then (if x = old then (ws.set i v, 1) else (ws, 0)) else (ws.set i (IntKind.u32.wrap (x + v)), x)

theorem told_any (p d i : Nat) (ws : List Int) (kind x old v : Int) (w : World) (h : CellsAt w p d ws) (hx : ws[i]? = some x) (hx1 : U32 x) (hm : ws.length ≤ 40) (hk : 1 ≤ kind ∧ kind ≤ 5) :
    Calls Try.prog 39 #[.pointer (some ⟨p, 0, none⟩), .agg #[.int .i64 kind, .int .i64 i, .int .u32 old, .int .u32 v]] w fun e w' =>
      e = .returned (.int .u32 (acc ws kind i x old v).2) ∧ CellsAt w' p d (acc ws kind i x old v).1 ∧ Mod [d] w w' := by
  have hi := lt_of_some hx
  have hp : p < w.heap.size := h.box.lt
  have hd : d < w.heap.size := h.row.lt
  have HX := hid hx
  clear hx
  have hk' : kind = 1 ∨ kind = 2 ∨ kind = 3 ∨ kind = 4 ∨ kind = 5 := by omega
  obtain ⟨hx0, hx2⟩ := hx1
  have hal := h.mod ((Mod.refl [] w).alloc (.cells #[.int .i64 kind, .int .i64 i, .int .u32 old, .int .u32 v] 58 (0, 0))) (by simp) (by simp)
  have hma : Mod [d] w (w.alloc (.cells #[.int .i64 kind, .int .i64 i, .int .u32 old, .int .u32 v] 58 (0, 0))) := (Mod.refl _ w).alloc _
  rcases hk' with rfl | rfl | rfl | rfl | rfl
  · go_enter Try.func39, Try.ntmps39
    go_wp2_with fail
    refine (cells_load p d i ws x _ hal HX.out (by omega)).mono ?_
    rintro e w2 ⟨rfl, rfl⟩
    go_wp2
    go_ret
    exact ⟨rfl, hal, hma⟩
  · go_enter Try.func39, Try.ntmps39
    go_wp2_with fail
    refine (cells_store p d i ws x v _ hal HX.out (by omega)).mono ?_
    rintro e w2 ⟨rfl, h2, m2⟩
    go_wp2
    go_ret
    exact ⟨rfl, h2, hma.trans m2⟩
  · go_enter Try.func39, Try.ntmps39
    go_wp2_with fail
    refine (cells_swap p d i ws x v _ hal HX.out (by omega)).mono ?_
    rintro e w2 ⟨rfl, h2, m2⟩
    go_wp2
    go_ret
    exact ⟨rfl, h2, hma.trans m2⟩
  · by_cases hxo : x = old
    · subst hxo
      go_enter Try.func39, Try.ntmps39
      go_wp2_with fail
      refine (cells_cas p d i ws x x v _ hal HX.out (by omega)).mono ?_
      rintro e w2 ⟨rfl, h2, m2⟩
      rw [if_pos rfl] at h2
      go_wp2
      go_ret
      exact ⟨by simp [acc], by simpa [acc] using h2, hma.trans m2⟩
    · have hxo2 : decide (x = old) = false := by simp [hxo]
      go_enter Try.func39, Try.ntmps39
      go_wp2_with fail
      refine (cells_cas p d i ws x old v _ hal HX.out (by omega)).mono ?_
      rintro e w2 ⟨rfl, h2, m2⟩
      rw [if_neg hxo] at h2
      go_wp2
      go_ret
      exact ⟨by simp [acc, hxo], by simpa [acc, hxo] using h2, hma.trans m2⟩
  · go_enter Try.func39, Try.ntmps39
    go_wp2_with fail
    refine (cells_add p d i ws x v _ hal HX.out (by omega) hx0 hx2).mono ?_
    rintro e w2 ⟨rfl, h2, m2⟩
    go_wp2
    go_ret
    exact ⟨rfl, h2, hma.trans m2⟩

end Go.Proofs.Ytlhbfkncdcgocaa
