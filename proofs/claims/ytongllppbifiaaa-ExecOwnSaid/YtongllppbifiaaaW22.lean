import Derived.Test.YtongllppbifiaaaChecked
import Derived.Test.YtongllppbifiaaaW4
import Derived.Laws.LoneSync
namespace Go.Proofs.Ytongllppbifiaaa
open Go.RowKit
set_option linter.unusedVariables false
theorem add32_any (b o : Nat) (x y : Int) (w : World) (h0 : w.cell? ⟨b,o,none⟩ = some (.int .u32 x)) (f0 : w.frozen? ⟨b,o,none⟩ = false) :
  Calls Try.prog 85 #[.pointer (some ⟨b,o,none⟩),.int .u32 y] w fun e w' => e = .returned (.int .u32 (IntKind.u32.wrap (x + y))) ∧ w.setCell ⟨b,o,none⟩ (.int .u32 (IntKind.u32.wrap (x + y))) = w' := by
 have hadd := run_call_add (P := Try.prog) Try.func92 (by kernel_rfl) (by kernel_rfl) (by kernel_rfl) .u32 (by kernel_rfl) (y := y) h0 f0 (by rfl)
 go_enter Try.func85,Try.ntmps85
 go_wp2
 go_ret
 exact ⟨rfl,rfl⟩
theorem load32_any (b o : Nat) (x : Int) (w : World) (h0 : w.cell? ⟨b,o,none⟩ = some (.int .u32 x)) :
  Calls Try.prog 55 #[.pointer (some ⟨b,o,none⟩)] w fun e w' => e = .returned (.int .u32 x) ∧ w = w' := by
 have hadd := run_call_load (P := Try.prog) Try.func81 (by kernel_rfl) (by kernel_rfl) (by kernel_rfl) .u32 (by kernel_rfl) h0
 go_enter Try.func55,Try.ntmps55
 go_wp2
 go_ret
 exact ⟨rfl,rfl⟩
theorem store32_any (b o : Nat) (x y : Int) (w : World) (h0 : w.cell? ⟨b,o,none⟩ = some (.int .u32 x)) (f0 : w.frozen? ⟨b,o,none⟩ = false) :
  Calls Try.prog 75 #[.pointer (some ⟨b,o,none⟩),.int .u32 y] w fun e w' => e = .returned (.tuple #[]) ∧ w.setCell ⟨b,o,none⟩ (.int .u32 y) = w' := by
 have hadd := run_call_store (P := Try.prog) Try.func88 (by kernel_rfl) (by kernel_rfl) (by kernel_rfl) (k := .u32) (y := y) (by kernel_rfl) h0 f0
 go_enter Try.func75,Try.ntmps75
 go_wp2
 go_end0
 exact ⟨rfl,rfl⟩
theorem cas32_hit (b o : Nat) (x y : Int) (w : World) (h0 : w.cell? ⟨b,o,none⟩ = some (.int .u32 x)) (f0 : w.frozen? ⟨b,o,none⟩ = false) :
  Calls Try.prog 84 #[.pointer (some ⟨b,o,none⟩),.int .u32 x,.int .u32 y] w fun e w' => e = .returned (.bool true) ∧ w.setCell ⟨b,o,none⟩ (.int .u32 y) = w' := by
 have hadd := run_call_cas_hit (P := Try.prog) Try.func91 (by kernel_rfl) (by kernel_rfl) (by kernel_rfl) .u32 (y := y) (by kernel_rfl) h0 f0
 go_enter Try.func84,Try.ntmps84
 go_wp2
 go_ret
 exact ⟨rfl,rfl⟩
theorem cas32_miss (b o : Nat) (x z y : Int) (w : World) (h0 : w.cell? ⟨b,o,none⟩ = some (.int .u32 x)) (f0 : w.frozen? ⟨b,o,none⟩ = false) (hne : ¬ x = z) :
  Calls Try.prog 84 #[.pointer (some ⟨b,o,none⟩),.int .u32 z,.int .u32 y] w fun e w' => e = .returned (.bool false) ∧ w = w' := by
 have hadd := run_call_cas_miss (P := Try.prog) Try.func91 (by kernel_rfl) (by kernel_rfl) (by kernel_rfl) .u32 (y := y) (by kernel_rfl) h0 f0 hne
 go_enter Try.func84,Try.ntmps84
 go_wp2
 go_ret
 exact ⟨rfl,rfl⟩
theorem run_call_swap {P : Program} {f : FuncId} {fn : Func} (hf : P.funcs[f]? = some fn) (hname : (fn.name == "runtime.NumGoroutine") = false) (hb : fn.body.isNone = true) (hn : Extern.findNext fn = none) (k : IntKind)
    (he : Extern.find fn = some (Extern.Atomic.swapT (.int k))) {a : Addr} {x y : Int} {w : World} (hc : w.cell? a = some (.int k x)) (hz : w.frozen? a = false) :
    (callFunc f #[.pointer (some a),.int k y]).run P w = .ok (.value (.int k x)) (w.setCell a (.int k y)) := by
  rw [run_callFunc_extern hf hname hb hn he]
  change (Sem.run P (do
    let a' ← asAddr (.pointer (some a))
    let old ← Extern.Atomic.read (.int k) a'
    store a' (.int k y) .atomic
    pure old) w).andThen _ = _
  simp [Extern.Atomic.read,asAddr,hc,hz,run_store P w a (.int k y) .atomic rfl,Result.andThen]
theorem swap32_any (b o : Nat) (x y : Int) (w : World) (h0 : w.cell? ⟨b,o,none⟩ = some (.int .u32 x)) (f0 : w.frozen? ⟨b,o,none⟩ = false) :
  Calls Try.prog 83 #[.pointer (some ⟨b,o,none⟩),.int .u32 y] w fun e w' => e = .returned (.int .u32 x) ∧ w.setCell ⟨b,o,none⟩ (.int .u32 y) = w' := by
 have hadd := run_call_swap (P := Try.prog) Try.func90 (by kernel_rfl) (by kernel_rfl) (by kernel_rfl) .u32 (y := y) (by kernel_rfl) h0 f0
 go_enter Try.func83,Try.ntmps83
 go_wp2
 go_ret
 exact ⟨rfl,rfl⟩
structure CellsAt (w : World) (p d : Nat) (ws : List Int) : Prop where
 box : Blk w p 133 [.slice (some ⟨d,0,none⟩) ws.length ws.length]
 row : Blk w d 137 (ws.map (Value.int .u32))
 ne : p ≠ d
theorem lt_of_some {α : Type} {l : List α} {i : Nat} {x : α} (h : l[i]? = some x) : i < l.length := (List.getElem?_eq_some_iff.1 h).1
namespace CellsAt
variable {w : World} {p d : Nat} {ws : List Int}
theorem cell (h : CellsAt w p d ws) {i : Nat} {x : Int} (hx : ws[i]? = some x) : w.cell? ⟨d,i,none⟩ = some (.int .u32 x) :=
 h.row.cell (by simp [hx])
theorem set (h : CellsAt w p d ws) (i : Nat) (v : Int) : CellsAt (w.setCell ⟨d,i,none⟩ (.int .u32 v)) p d (ws.set i v) :=
 ⟨by simpa using h.box.set_ne (a := ⟨d,i,none⟩) (fun e => h.ne e.symm) _,by have := h.row.set i (.int .u32 v); simpa [List.map_set] using this,h.ne⟩
end CellsAt
theorem mod_set (w : World) (d i : Nat) (v : Value) : Mod [d] w (w.setCell ⟨d,i,none⟩ v) := (Mod.refl _ _).setCell (by simp) _
theorem cells_load (p d i : Nat) (ws : List Int) (x : Int) (w : World) (h : CellsAt w p d ws) (hx : ws[i]? = some x) (hm : ws.length ≤ 100000) :
  Calls Try.prog 60 #[.pointer (some ⟨p,0,none⟩),.int .i64 i] w fun e w' => e = .returned (.int .u32 x) ∧ w = w' := by
 have hb : w.cell? ⟨p,0,none⟩ = _ := h.box.cell rfl
 have hc := h.cell hx
 have hi := lt_of_some hx
 clear h hx
 go_enter Try.func60,Try.ntmps60
 go_wp2_with (go_at_call 55; refine (load32_any _ _ _ _ hc).mono ?_; rintro e w' ⟨rfl,rfl⟩)
 go_ret
 exact ⟨rfl,rfl⟩
theorem cells_store (p d i : Nat) (ws : List Int) (x v : Int) (w : World) (h : CellsAt w p d ws) (hx : ws[i]? = some x) (hm : ws.length ≤ 100000) :
  Calls Try.prog 49 #[.pointer (some ⟨p,0,none⟩),.int .i64 i,.int .u32 v] w fun e w' => e = .returned (.tuple #[]) ∧ CellsAt w' p d (ws.set i v) ∧ Mod [d] w w' := by
 have hs := h.set i v
 have hb : w.cell? ⟨p,0,none⟩ = _ := h.box.cell rfl
 have hc := h.cell hx
 have hf := h.row.free i
 have hi := lt_of_some hx
 clear h hx
 go_enter Try.func49,Try.ntmps49
 go_wp2_with (go_at_call 75; refine (store32_any _ _ _ _ _ hc hf).mono ?_; rintro e w' ⟨rfl,rfl⟩)
 go_end0
 exact ⟨rfl,hs,mod_set _ _ _ _⟩
theorem cells_swap (p d i : Nat) (ws : List Int) (x v : Int) (w : World) (h : CellsAt w p d ws) (hx : ws[i]? = some x) (hm : ws.length ≤ 100000) :
  Calls Try.prog 61 #[.pointer (some ⟨p,0,none⟩),.int .i64 i,.int .u32 v] w fun e w' => e = .returned (.int .u32 x) ∧ CellsAt w' p d (ws.set i v) ∧ Mod [d] w w' := by
 have hs := h.set i v
 have hb : w.cell? ⟨p,0,none⟩ = _ := h.box.cell rfl
 have hc := h.cell hx
 have hf := h.row.free i
 have hi := lt_of_some hx
 clear h hx
 go_enter Try.func61,Try.ntmps61
 go_wp2_with (go_at_call 83; refine (swap32_any _ _ _ _ _ hc hf).mono ?_; rintro e w' ⟨rfl,rfl⟩)
 go_ret
 exact ⟨rfl,hs,mod_set _ _ _ _⟩
theorem cells_cas (p d i : Nat) (ws : List Int) (x z v : Int) (w : World) (h : CellsAt w p d ws) (hx : ws[i]? = some x) (hm : ws.length ≤ 100000) :
  Calls Try.prog 62 #[.pointer (some ⟨p,0,none⟩),.int .i64 i,.int .u32 z,.int .u32 v] w fun e w' => e = .returned (.bool (decide (x = z))) ∧ CellsAt w' p d (if x = z then ws.set i v else ws) ∧ Mod [d] w w' := by
 have hs := h.set i v
 have h' := h
 have hb : w.cell? ⟨p,0,none⟩ = _ := h.box.cell rfl
 have hc := h.cell hx
 have hf := h.row.free i
 have hi := lt_of_some hx
 clear h hx
 go_enter Try.func62,Try.ntmps62
 by_cases hxz : x = z
 ·subst hxz
  go_wp2_with (go_at_call 84; refine (cas32_hit _ _ _ _ _ hc hf).mono ?_; rintro e w' ⟨rfl,rfl⟩)
  go_ret
  exact ⟨by simp,hs,mod_set _ _ _ _⟩
 ·go_wp2_with (go_at_call 84; refine (cas32_miss _ _ _ _ _ _ hc hf hxz).mono ?_; rintro e w' ⟨rfl,rfl⟩)
  go_ret
  exact ⟨by simp, h', Mod.refl _ _⟩
theorem cells_add (p d i : Nat) (ws : List Int) (x k : Int) (w : World) (h : CellsAt w p d ws) (hx : ws[i]? = some x) (hm : ws.length ≤ 100000) (h0 : 0 ≤ x) (h1 : x < 4294967296) :
  Calls Try.prog 63 #[.pointer (some ⟨p,0,none⟩),.int .i64 i,.int .u32 k] w fun e w' => e = .returned (.int .u32 x) ∧ CellsAt w' p d (ws.set i (IntKind.u32.wrap (x + k))) ∧ Mod [d] w w' := by
 have hs := h.set i (IntKind.u32.wrap (x + k))
 have hb : w.cell? ⟨p,0,none⟩ = _ := h.box.cell rfl
 have hc := h.cell hx
 have hf := h.row.free i
 have hi := lt_of_some hx
 clear h hx
 go_enter Try.func63,Try.ntmps63
 go_wp2_with (go_at_call 85; refine (add32_any _ _ _ _ _ hc hf).mono ?_; rintro e w' ⟨rfl,rfl⟩)
 go_ret
 refine ⟨ret_int ?_,hs,mod_set _ _ _ _⟩
 omega
theorem cellsAt_new (w : World) (n : Nat) :
  CellsAt ((w.alloc (.cells (zeros n (.int .u32 0)) 137 (0,0))).alloc (.cells #[.slice (some ⟨w.heap.size,0,none⟩) n n] 133 (0,0))) (w.heap.size + 1) w.heap.size (List.replicate n 0) := by
 refine ⟨?_, ?_,by omega⟩
 ·have := Blk.new (w.alloc (.cells (zeros n (.int .u32 0)) 137 (0,0))) 133 [.slice (some ⟨w.heap.size,0,none⟩) n n]
  simpa using this
 ·have := (Blk.new w 137 (List.replicate n (.int .u32 0))).alloc (.cells #[.slice (some ⟨w.heap.size,0,none⟩) n n] 133 (0,0))
  simpa [zeros] using this
theorem info_u32 : (Try.prog.info? 137).map (fun i => (i.zero,i.size,i.bytes)) = some (some (.agg #[.int .u32 0]),1,4) := by kernel_rfl
set_option maxRecDepth 100000 in
theorem cells_new (n : Nat) (hn : n ≤ 8192) (w : World) :
  Calls Try.prog 48 #[.int .i64 n] w fun e w' => ∃ p d,e = .returned (.tuple #[.pointer (some ⟨p,0,none⟩),.int .i64 0]) ∧ CellsAt w' p d (List.replicate n 0) ∧ w.heap.size ≤ p ∧ w.heap.size ≤ d ∧ Mod [] w w' := by
 have hnew := cellsAt_new w n
 obtain ⟨i0,hi,hz0,hz1,hz2⟩ := info_parts info_u32
 have hmk := make_zeros (P := Try.prog) 131 137 i0 _ (.int .u32 0) 4 Try.underlying131 hi hz0 hz1 hz2 rfl n (by omega) (by omega) w
 go_enter Try.func48,Try.ntmps48
 go_wp2
 go_ret2
 exact ⟨_,_,rfl,hnew,by omega,by omega,((Mod.refl _ _).alloc _).alloc _⟩
theorem info_w32 : (Try.prog.info? 49).map (fun i => (i.zero,i.size,i.bytes)) = some (some (.int .u32 0),1,4) := by kernel_rfl
set_option maxRecDepth 100000 in
theorem cells_words (p d : Nat) (ws : List Int) (w : World) (h : CellsAt w p d ws) (hm : ws.length ≤ 8192) :
  Calls Try.prog 27 #[.pointer (some ⟨p,0,none⟩)] w fun e w' => ∃ g,e = .returned (.slice (some ⟨g,0,none⟩) ws.length ws.length) ∧ w.heap.size ≤ g ∧ Blk w' g 49 (ws.map (Value.int .u32)) ∧ Mod [] w w' := by
 have hb0 : w.cell? ⟨p,0,none⟩ = _ := h.box.cell rfl
 have hp : p < w.heap.size := h.box.lt
 have hd : d < w.heap.size := h.row.lt
 obtain ⟨n,hn⟩ : ∃ n,ws.length = n := ⟨_,rfl⟩
 rw [hn] at hb0 hm ⊢
 obtain ⟨i0,hi,hz0,hz1,hz2⟩ := info_parts info_w32
 have hmk := make_zeros (P := Try.prog) 26 49 i0 _ (.int .u32 0) 4 Try.underlying26 hi hz0 hz1 hz2 rfl n (by omega) (by omega) w
 clear hi hz0 hz1 hz2
 have HN := hid hn
 clear hn
 have hblk : Blk (w.alloc (.cells (zeros n (.int .u32 0)) 49 (0,0))) w.heap.size 49 (List.replicate n (.int .u32 0)) := by
  have := Blk.new w 49 (List.replicate n (.int .u32 0))
  simpa [zeros] using this
 have hmod : Mod [] w (w.alloc (.cells (zeros n (.int .u32 0)) 49 (0,0))) := (Mod.refl _ _).alloc _
 go_enter Try.func27,Try.ntmps27
 go_wp2_with fail
 obtain ⟨g,hg⟩ : ∃ g,w.heap.size = g := ⟨_,rfl⟩
 rw [hg] at hblk hp hd ⊢
 have hgle : w.heap.size ≤ g := by omega
 clear hmk hg
 go_loopw [16] (fun i wr => ∃ k : Nat,k ≤ n ∧ i = .int .i64 k ∧ Blk wr g 49 ((ws.take k).map (Value.int .u32) ++ List.replicate (n - k) (.int .u32 0)) ∧ Mod [] w wr) (fun i _ => n - (intOf i).toNat)
 case atStart => exact ⟨0,by omega,rfl,by simpa using hblk,hmod⟩
 case round =>
  clear hblk hmod
  obtain ⟨k,hk,rfl,hb,hmd⟩ := hrel
  by_cases hlt : k < n
  ·obtain ⟨z,hz⟩ : ∃ z,ws[k]? = some z := ⟨ws[k]'(by rw [HN.out]; exact hlt),by simp [HN.out,hlt]⟩
   have hcp := hmd.cell hb0 (by simp)
   have hcd := hmd.cell (h.cell hz) (by simp)
   have hcg : wr.cell? ⟨g,k,none⟩ = some (.int .u32 0) := hb.cell (fill_at _ _ ws n k HN.out hlt)
   have hf := hb.free k
   have hb' := hb.set k (.int .u32 z)
   have hmd' := hmd.setCell (a := ⟨g,k,none⟩) (by simp <;> omega) (.int .u32 z)
   have HE : Hid (((ws.take k).map (Value.int .u32) ++ List.replicate (n - k) (Value.int .u32 0)).set k (Value.int .u32 z) = (ws.take (k + 1)).map (Value.int .u32) ++ List.replicate (n - (k + 1)) (Value.int .u32 0)) :=
    fill_step _ _ ws n k z HN.out hz
   clear hb hmd hz
   go_wp2_with (go_at_call 55; refine (load32_any _ _ _ _ hcd).mono ?_; rintro e w' ⟨rfl,rfl⟩)
   go_roundw
   case rel => exact ⟨k + 1, by omega, by go_num, by rw [← HE.out]; exact hb', hmd'⟩
   case measure => simp [intOf]; omega
  ·have hkn : k = n := by omega
   subst hkn
   rw [Nat.sub_self,List.replicate_zero,List.append_nil,List.take_of_length_le (by rw [HN.out]; omega)] at hb
   go_wp2
   go_ret
   exact ⟨g,rfl,hgle,hb,hmd⟩
theorem cells_new_bad (n : Int) (hn : 8192 < n) (w : World) :
  Calls Try.prog 48 #[.int .i64 n] w fun e w' => e = .returned (.tuple #[.pointer none,.int .i64 1]) ∧ w = w' := by
 go_enter Try.func48,Try.ntmps48
 go_wp2
 go_ret2
 exact ⟨rfl,rfl⟩
end Go.Proofs.Ytongllppbifiaaa
