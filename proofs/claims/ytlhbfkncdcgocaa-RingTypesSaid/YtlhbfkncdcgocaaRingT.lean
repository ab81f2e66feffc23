/- Contracts of layer 3 (ring), for rings of [2]int. -/
import Derived.Test.YtlhbfkncdcgocaaChecked
import Derived.Test.YtlhbfkncdcgocaaHeap
import Derived.Test.YtlhbfkncdcgocaaRegion
import Derived.Test.YtlhbfkncdcgocaaLex
import Derived.Test.YtlhbfkncdcgocaaRingP
import Derived.Test.YtlhbfkncdcgocaaFlat2
import Derived.Laws.ResultCell
import Derived.BigQuiet
import Derived.Deep.QuietTactic
import Derived.Deep.RegionWith
import Derived.Deep.DeepCutAuto
namespace Go.Proofs.Ytlhbfkncdcgocaa
namespace RingT
open Go.RowKit
set_option linter.unusedVariables false

theorem at_ (p d f cap i : Nat) (w : World) (hb0 : w.cell? ⟨p, 0, none⟩ = some (.slice (some ⟨d, 0, none⟩) cap cap)) (hb1 : w.cell? ⟨p, 1, none⟩ = some (.int .i64 f))
    (hcap : cap ≤ 4096) (hpos : 0 < cap) (hf : f < cap) (hi : i ≤ cap) (j : Nat) (hj : (f + i) % cap = j) :
    Calls Try.prog 64 #[.pointer (some ⟨p, 0, none⟩), .int .i64 i] w fun e w' => e = .returned (.int .i64 j) ∧ ∃ nq, w.drewN nq = w' := by
  have HJ := hid hj
  clear hj
  go_enter Try.func64, Try.ntmps64
  go_wp2
  go_quiet (fail)
  go_wp2
  go_ret
  exact ⟨ret_int (by rw [← HJ.out]; simp), nq, rfl⟩

/-- A ring: the struct's block p; the row's block d holds arr; f: the place of the first value, n: how many there are. -/
structure C (w : World) (p d : Nat) (arr : List (Int × Int)) (f n : Nat) : Prop where
  box : Blk w p 116 [.slice (some ⟨d, 0, none⟩) arr.length arr.length, .int .i64 f, .int .i64 n]
  row : Blk w d 36 (flat2 arr)
  ne : p ≠ d
  le : n ≤ arr.length
  first : f < arr.length ∨ (arr.length = 0 ∧ f = 0)
  most : arr.length ≤ 4096

theorem C.mod {w w' : World} {p d : Nat} {arr : List (Int × Int)} {f n : Nat} {S : List Nat} (h : C w p d arr f n) (m : Mod S w w') (hp : p ∉ S) (hd : d ∉ S) : C w' p d arr f n :=
  ⟨m.blk h.box hp, m.blk h.row hd, h.ne, h.le, h.first, h.most⟩
theorem C.drewN {w : World} {p d : Nat} {arr : List (Int × Int)} {f n : Nat} (h : C w p d arr f n) (k : Nat) : C (w.drewN k) p d arr f n :=
  ⟨h.box, h.row, h.ne, h.le, h.first, h.most⟩

theorem roomC (p d f n : Nat) (arr : List (Int × Int)) (w : World) (h : C w p d arr f n) (r : Nat) (hr : arr.length - n = r) :
    Calls Try.prog 25 #[.pointer (some ⟨p, 0, none⟩)] w fun e w' => e = .returned (.int .i64 r) ∧ ∃ nq, w.drewN nq = w' := by
  obtain ⟨h0, _, _, hle, _, hm⟩ := h
  have hb0 : w.cell? ⟨p, 0, none⟩ = _ := h0.cell rfl
  have hb2 : w.cell? ⟨p, 2, none⟩ = _ := h0.cell rfl
  have HR := hid hr
  clear h0 hr
  go_enter Try.func25, Try.ntmps25
  go_wp2
  go_quiet (fail)
  go_wp2
  go_ret
  exact ⟨ret_int (by have := HR.out; omega), nq, rfl⟩

theorem lenC (p d f n : Nat) (arr : List (Int × Int)) (w : World) (h : C w p d arr f n) :
    Calls Try.prog 27 #[.pointer (some ⟨p, 0, none⟩)] w fun e w' => e = .returned (.int .i64 n) ∧ w = w' := by
  obtain ⟨h0, _, _, hle, _, hm⟩ := h
  have hb2 : w.cell? ⟨p, 2, none⟩ = _ := h0.cell rfl
  clear h0
  go_enter Try.func27, Try.ntmps27
  go_wp2
  go_ret
  exact ⟨rfl, rfl⟩


theorem put_full (p d f n : Nat) (u v : Int) (arr : List (Int × Int)) (w : World) (h : C w p d arr f n) (hlt : n = arr.length) :
    Calls Try.prog 24 #[.pointer (some ⟨p, 0, none⟩), .agg #[.int .i64 u, .int .i64 v]] w fun e w' => e = .returned (.bool false) ∧ Mod [] w w' := by
  have hC := h.mod ((Mod.refl [] w).alloc (.cells #[.int .i64 u, .int .i64 v] 36 (0, 0))) (by simp) (by simp)
  have hroom := roomC p d f n arr _ hC 0 (by omega)
  clear hlt h hC
  go_enter Try.func24, Try.ntmps24
  go_wp2_with fail
  refine hroom.mono ?_
  rintro e w1 ⟨rfl, nq, rfl⟩
  go_wp2
  go_ret
  exact ⟨rfl, ((Mod.refl [] w).alloc _).drewN nq⟩

theorem put_room (p d f n : Nat) (u v : Int) (arr : List (Int × Int)) (w : World) (h : C w p d arr f n) (hlt : n < arr.length) :
    Calls Try.prog 24 #[.pointer (some ⟨p, 0, none⟩), .agg #[.int .i64 u, .int .i64 v]] w fun e w' => e = .returned (.bool true) ∧ C w' p d (arr.set ((f + n) % arr.length) (u, v)) f (n + 1) ∧ Mod [p, d] w w' := by
  have mA := (Mod.refl [p, d] w).alloc (.cells #[.int .i64 u, .int .i64 v] 36 (0, 0))
  have hC := h.mod ((Mod.refl [] w).alloc (.cells #[.int .i64 u, .int .i64 v] 36 (0, 0))) (by simp) (by simp)
  have hBA := Blk.new w 36 [.int .i64 u, .int .i64 v]
  obtain ⟨r, hr⟩ : ∃ r, arr.length - n = r + 1 := ⟨arr.length - n - 1, by omega⟩
  have hroom := roomC p d f n arr _ hC (r + 1) hr
  have hpl := Blk.lt h.box
  have hdl := Blk.lt h.row
  clear hr h
  obtain ⟨h0, h1, hne, hle, hf, hm⟩ := hC
  have hd : (f + n) % arr.length < arr.length := Nat.mod_lt _ (by omega)
  obtain ⟨j, hj⟩ : ∃ j, (f + n) % arr.length = j := ⟨_, rfl⟩
  rw [hj] at hd ⊢
  have HJ := hid hj
  clear hj
  obtain ⟨⟨o1, o2⟩, hold⟩ : ∃ x, arr[j]? = some x := ⟨_, List.getElem?_eq_getElem hd⟩
  have hg := flat2_get arr j _ hold
  have hpos : 0 < arr.length := by omega
  have hff : f < arr.length := by omega
  go_enter Try.func24, Try.ntmps24
  go_wp2_with fail
  refine hroom.mono ?_
  rintro e w1 ⟨rfl, nq, rfl⟩
  clear hroom
  generalize w.alloc (.cells #[.int .i64 u, .int .i64 v] 36 (0, 0)) = WA at *
  have hb0 : WA.cell? ⟨p, 0, none⟩ = _ := h0.cell rfl
  have hb1 : WA.cell? ⟨p, 1, none⟩ = _ := h0.cell rfl
  have hb2 : WA.cell? ⟨p, 2, none⟩ = _ := h0.cell rfl
  have hfr := h0.free 2
  have hc1 := h1.cell hg.1
  have hc2 := h1.cell hg.2
  have hf1 := h1.free (j * 2)
  have hf2 := h1.free (j * 2 + 1)
  have hx0 := Blk.cell hBA (i := 0) rfl
  have hx1 := Blk.cell hBA (i := 1) rfl
  clear hg hold
  go_wp2_with fail
  refine wp_region_quiet_tail 12 (by kernel_rfl) (by kernel_rfl) ?_
  simp only [List.take_succ_cons, List.take_zero, List.drop_succ_cons, List.drop_zero]
  repeat (go_big_quiet_step ((go_at_call 64; first | exact calls_quiet (at_ p d f arr.length n _ (by exact hb0) (by exact hb1) hm hpos hff hle j HJ.out) | exact calls_quiet2 (at_ p d f arr.length n _ (by exact hb0) (by exact hb1) hm hpos hff hle j HJ.out))))
  refine wpQuiet_nil ?_
  intro _ hw'
  obtain ⟨nq, hw''⟩ := hw'
  subst hw''
  go_wp2
  go_ret
  refine ⟨rfl, ⟨?_, ?_, hne, by simp; omega, by simp; omega, by simpa using hm⟩, ?_⟩
  · have t1 := fun k => ((((h0.drewN k).set_ne (a := ⟨d, j * 2, none⟩) (fun e => hne e.symm) (.int .i64 u)).set_ne (a := ⟨d, j * 2 + 1, none⟩) (fun e => hne e.symm) (.int .i64 v)).set 2 (.int .i64 ((n : Int) + 1)))
    simpa using t1 _
  · have t1 := fun k => ((((h1.drewN k).set (j * 2) (.int .i64 u)).set (j * 2 + 1) (.int .i64 v)).set_ne (a := ⟨p, 2, none⟩) hne (.int .i64 ((n : Int) + 1)))
    rw [flat2_set, if_pos hd]
    simpa using t1 _
  · exact (((mA.drewN _).setCell (by simp) _).setCell (by simp) _).setCell (by simp) _

theorem new_blocks (w : World) (n : Nat) (hn : n ≤ 4096) :
    C ((w.alloc (.cells (flat2 (List.replicate n (0, 0))).toArray 36 (0, 0))).alloc (.cells #[.slice (some ⟨w.heap.size, 0, none⟩) n n, .int .i64 0, .int .i64 0] 116 (0, 0))) (w.heap.size + 1) w.heap.size (List.replicate n (0, 0)) 0 0 := by
  refine ⟨?_, ?_, by omega, by omega, by simp; omega, by simpa using hn⟩
  · have := Blk.new (w.alloc (.cells (flat2 (List.replicate n (0, 0))).toArray 36 (0, 0))) 116 [.slice (some ⟨w.heap.size, 0, none⟩) n n, .int .i64 0, .int .i64 0]
    simpa using this
  · exact (Blk.new w 36 (flat2 (List.replicate n (0, 0)))).alloc (.cells #[.slice (some ⟨w.heap.size, 0, none⟩) n n, .int .i64 0, .int .i64 0] 116 (0, 0))

theorem info : (Try.prog.info? 36).map (fun i => (i.zero, i.size, i.bytes)) = some (some (.agg #[.int .i64 0, .int .i64 0]), 2, 16) := by kernel_rfl

theorem make_pairs {P : Program} (t e : TypeId) (i : TypeInfo) (ht : P.underlying t = some (.slice e)) (hi : P.info? e = some i) (hz : i.zero = some (.agg #[.int .i64 0, .int .i64 0])) (hs : i.size = 2) (hb : i.bytes = 16)
    (n : Nat) (x : Int) (hx : x = n) (hn : n ≤ 4096) (w : World) :
    (Instr.makeSlice t (.int .i64 x) (.int .i64 x)).run P w = .ok (.slice (some ⟨w.heap.size, 0, none⟩) n n) (w.alloc (.cells (flat2 (List.replicate n (0, 0))).toArray e (0, 0))) := by
  subst hx
  have hr := run_make (P := P) w t e i _ ht hi hz .i64 .i64 n n (by omega) (Int.le_refl _) (by rw [hb]; omega) (by omega)
  rw [hr, hs]
  have e1 : madeCells (Value.agg #[.int .i64 0, .int .i64 0]).cells ((n : Int).toNat * 2) = (flat2 (List.replicate n (0, 0))).toArray := by
    rw [← made_pairs]
    simp [Value.cells]
  rw [e1]
  simp

/-- As a ring holds it. -/
def holds (room : Int) : Nat := (min (max room 0) 4096).toNat

def Made (w : World) (n : Nat) (e : Ending) (w' : World) : Prop :=
  ∃ p d, e = .returned (.pointer (some ⟨p, 0, none⟩)) ∧ C w' p d (List.replicate n (0, 0)) 0 0 ∧ w.heap.size ≤ p ∧ w.heap.size ≤ d ∧ Mod [] w w'

set_option maxRecDepth 100000 in
theorem newC (room : Int) (w : World) :
    Calls Try.prog 22 #[.int .i64 room] w (Made w (holds room)) := by
  obtain ⟨n, hn⟩ : ∃ n : Nat, holds room = n := ⟨_, rfl⟩
  rw [hn]
  have hn1 : n ≤ 4096 := by unfold holds at hn; omega
  have hnew := new_blocks w n hn1
  obtain ⟨i0, hi, hz0, hz1, hz2⟩ := info_parts info
  have hmk := fun x (hx : x = (n : Int)) => make_pairs (P := Try.prog) 114 36 i0 Try.underlying114 hi hz0 hz1 hz2 n x hx hn1 w
  by_cases h0 : room < 0
  · have hm := hmk 0 (by unfold holds at hn; omega)
    clear hmk hn
    go_enter Try.func22, Try.ntmps22
    go_wp2
    go_ret
    exact ⟨_, _, rfl, hnew, by omega, by omega, ((Mod.refl _ _).alloc _).alloc _⟩
  · by_cases h1 : room ≤ 4096
    · have hm := hmk room (by unfold holds at hn; omega)
      clear hmk hn
      go_enter Try.func22, Try.ntmps22
      go_wp2
      go_ret
      exact ⟨_, _, rfl, hnew, by omega, by omega, ((Mod.refl _ _).alloc _).alloc _⟩
    · have hm := hmk 4096 (by unfold holds at hn; omega)
      clear hmk hn
      go_enter Try.func22, Try.ntmps22
      go_wp2
      go_ret
      exact ⟨_, _, rfl, hnew, by omega, by omega, ((Mod.refl _ _).alloc _).alloc _⟩

theorem take_none (p d f : Nat) (arr : List (Int × Int)) (w : World) (h : C w p d arr f 0) :
    Calls Try.prog 26 #[.pointer (some ⟨p, 0, none⟩)] w fun e w' => e = .returned (.tuple #[.agg #[.int .i64 0, .int .i64 0], .bool false]) ∧ Mod [] w w' := by
  have hb2 : w.cell? ⟨p, 2, none⟩ = _ := h.box.cell rfl
  have hpl := Blk.lt h.box
  clear h
  go_enter Try.func26, Try.ntmps26
  go_wp2
  have hB : Blk ((w.alloc (.cells #[.int .i64 0, .int .i64 0] 36 (0, 0))).alloc (.cells #[.int .i64 0, .int .i64 0] 36 (0, 0))) w.heap.size 36 [.int .i64 0, .int .i64 0] := Blk.alloc (Blk.new w _ [.int .i64 0, .int .i64 0]) _
  have mW := ((Mod.refl [] w).alloc (.cells #[.int .i64 0, .int .i64 0] 36 (0, 0))).alloc (.cells #[.int .i64 0, .int .i64 0] 36 (0, 0))
  generalize ((w.alloc (.cells #[.int .i64 0, .int .i64 0] 36 (0, 0))).alloc (.cells #[.int .i64 0, .int .i64 0] 36 (0, 0))) = W at *
  have hd0 := Blk.cell hB (i := 0) rfl
  have hd1 := Blk.cell hB (i := 1) rfl
  refine bodyPost_ret (v := .tuple #[.agg #[.int .i64 0, .int .i64 0], .bool false]) (by rw [results_cell_tmp rfl]; simp [asAddr, Result.andThen, hd0, hd1, go_sem]) rfl ?_
  exact ⟨rfl, mW⟩

set_option maxRecDepth 100000 in
set_option maxHeartbeats 1000000 in
theorem take_some (p d f n : Nat) (u v : Int) (arr : List (Int × Int)) (w : World) (h : C w p d arr f (n + 1)) (hv : arr[f]? = some (u, v)) :
    Calls Try.prog 26 #[.pointer (some ⟨p, 0, none⟩)] w fun e w' => e = .returned (.tuple #[.agg #[.int .i64 u, .int .i64 v], .bool true]) ∧ C w' p d (arr.set f (0, 0)) ((f + 1) % arr.length) n ∧ Mod [p, d] w w' := by
  have mA := ((Mod.refl [] w).alloc (.cells #[.int .i64 0, .int .i64 0] 36 (0, 0))).alloc (.cells #[.int .i64 0, .int .i64 0] 36 (0, 0))
  have hB1 : Blk ((w.alloc (.cells #[.int .i64 0, .int .i64 0] 36 (0, 0))).alloc (.cells #[.int .i64 0, .int .i64 0] 36 (0, 0))) w.heap.size 36 [.int .i64 0, .int .i64 0] := Blk.alloc (Blk.new w _ [.int .i64 0, .int .i64 0]) _
  have hB2 : Blk ((w.alloc (.cells #[.int .i64 0, .int .i64 0] 36 (0, 0))).alloc (.cells #[.int .i64 0, .int .i64 0] 36 (0, 0))) (w.heap.size + 1) 36 [.int .i64 0, .int .i64 0] := by
    have := Blk.new (w.alloc (.cells #[.int .i64 0, .int .i64 0] 36 (0, 0))) 36 [.int .i64 0, .int .i64 0]
    simpa using this
  have hsz : ((w.alloc (.cells #[.int .i64 0, .int .i64 0] 36 (0, 0))).alloc (.cells #[.int .i64 0, .int .i64 0] 36 (0, 0))).heap.size = w.heap.size + 2 := by simp
  have hpl := Blk.lt h.box
  have hdl := Blk.lt h.row
  have hC := h.mod mA (by simp) (by simp)
  clear h
  obtain ⟨h0, h1, hne, hle, hf, hm⟩ := hC
  have hff : f < arr.length := by omega
  obtain ⟨j, hj⟩ : ∃ j, (f + 1) % arr.length = j := ⟨_, rfl⟩
  have hd : j < arr.length := by rw [← hj]; exact Nat.mod_lt _ (by omega)
  rw [hj]
  have HJ := hid hj
  clear hj
  have hg := flat2_get arr f _ hv
  have hpos : 0 < arr.length := by omega
  have hone : 1 ≤ arr.length := hpos
  clear hv
  go_enter Try.func26, Try.ntmps26
  go_upto_region 2 with (fail)
  generalize ((w.alloc (.cells #[.int .i64 0, .int .i64 0] 36 (0, 0))).alloc (.cells #[.int .i64 0, .int .i64 0] 36 (0, 0))) = WA at *
  have hb0 : WA.cell? ⟨p, 0, none⟩ = _ := h0.cell rfl
  have hb1 : WA.cell? ⟨p, 1, none⟩ = _ := h0.cell rfl
  have hb2 : WA.cell? ⟨p, 2, none⟩ = _ := h0.cell rfl
  have hc1 := h1.cell hg.1
  have hc2 := h1.cell hg.2
  go_wp2_with fail
  have hK : Known [(⟨p, 0, none⟩, .slice (some ⟨d, 0, none⟩) arr.length arr.length), (⟨p, 1, none⟩, .int .i64 f), (⟨d, f * 2, none⟩, .int .i64 u), (⟨d, f * 2 + 1, none⟩, .int .i64 v)] WA := by simp [Known, hb0, hb1, hc1, hc2]
  refine Lex.region (Known [(⟨p, 0, none⟩, .slice (some ⟨d, 0, none⟩) arr.length arr.length), (⟨p, 1, none⟩, .int .i64 f), (⟨d, f * 2, none⟩, .int .i64 u), (⟨d, f * 2 + 1, none⟩, .int .i64 v)]) [.pure, .pure, .pure, .pure, .pure, .pure, .pure, .pure, .pure, .pure, .loud, .loud] (by kernel_rfl) (by kernel_rfl) ?_ ?_
  · exact hK.drewN
  repeat ((refine Lex.step_pure rfl rfl ?_; go_big_quiet_step ((intro hwS; first | rfl | (simp [Known] at hwS; simp [hwS]; done) | (simp [Known] at hwS; simp [hwS]; rfl))); refine wpQuiet_nil ?_))
  refine Lex.step_loud rfl (fun wl hwl => ?_)
  obtain ⟨nq, rfl⟩ := hwl
  go_wp2_with fail
  refine ⟨rfl, rfl, (hK.drewN _).alloc _, ?_⟩
  refine Lex.step_loud rfl (fun wl hwl => ?_)
  replace hwl := hwl.symm
  subst hwl
  go_wp2_with fail
  refine ⟨rfl, rfl, (hK.drewN _).alloc _, ?_⟩
  refine Lex.step_nil (fun wl hwl => ?_)
  replace hwl := hwl.symm
  subst hwl
  have mB := (mA.drewN nq).alloc (.cells #[.int .i64 u, .int .i64 v] 36 (0, 0))
  have h0B := (h0.drewN nq).alloc (.cells #[.int .i64 u, .int .i64 v] 36 (0, 0))
  have h1B := (h1.drewN nq).alloc (.cells #[.int .i64 u, .int .i64 v] 36 (0, 0))
  have hB1B := (hB1.drewN nq).alloc (.cells #[.int .i64 u, .int .i64 v] 36 (0, 0))
  have hB2B := (hB2.drewN nq).alloc (.cells #[.int .i64 u, .int .i64 v] 36 (0, 0))
  have hB3B : Blk ((WA.drewN nq).alloc (.cells #[.int .i64 u, .int .i64 v] 36 (0, 0))) (w.heap.size + 2) 36 [.int .i64 u, .int .i64 v] := by
    have := Blk.new (WA.drewN nq) 36 [.int .i64 u, .int .i64 v]
    simpa [hsz] using this
  clear hb0 hb1 hb2 hc1 hc2 hK hsz hB1 hB2 h0 h1 mA
  generalize ((WA.drewN nq).alloc (.cells #[.int .i64 u, .int .i64 v] 36 (0, 0))) = WB at *
  have hb0 : WB.cell? ⟨p, 0, none⟩ = _ := h0B.cell rfl
  have hb1 : WB.cell? ⟨p, 1, none⟩ = _ := h0B.cell rfl
  have hb2 : WB.cell? ⟨p, 2, none⟩ = _ := h0B.cell rfl
  have hc1 := h1B.cell hg.1
  have hc2 := h1B.cell hg.2
  have hz1 : WB.cell? ⟨w.heap.size + 1, 0, none⟩ = _ := hB2B.cell rfl
  have hz2 : WB.cell? ⟨w.heap.size + 1, 1, none⟩ = _ := hB2B.cell rfl
  have hf1 := h1B.free (f * 2)
  have hf2 := h1B.free (f * 2 + 1)
  go_wp2_with fail
  refine wp_region_quiet_tail 10 (by kernel_rfl) (by kernel_rfl) ?_
  simp only [List.take_succ_cons, List.take_zero, List.drop_succ_cons, List.drop_zero]
  repeat (go_big_quiet_step ((fail)))
  refine wpQuiet_nil ?_
  intro _ hw'
  obtain ⟨nq, hw''⟩ := hw'
  subst hw''
  go_wp2_with fail
  refine wp_world (fun w2 => C w2 p d (arr.set f (0, 0)) f (n + 1) ∧ Mod [p, d] w w2 ∧ Blk w2 w.heap.size 36 [.int .i64 0, .int .i64 0] ∧ Blk w2 (w.heap.size + 2) 36 [.int .i64 u, .int .i64 v]) ⟨⟨?_, ?_, hne, by simpa using hle, by simpa using hf, by simpa using hm⟩, ?_, ?_, ?_⟩ ?_
  · simp only [List.length_set]
    exact ((h0B.drewN _).set_ne (a := ⟨d, f * 2, none⟩) (fun e => hne e.symm) _).set_ne (a := ⟨d, f * 2 + 1, none⟩) (fun e => hne e.symm) _
  · rw [flat2_set, if_pos hff]
    exact ((h1B.drewN _).set (f * 2) _).set (f * 2 + 1) _
  · exact (((mB.mono (by simp)).drewN _).setCell (by simp) _).setCell (by simp) _
  · exact ((hB1B.drewN _).set_ne (a := ⟨d, f * 2, none⟩) (by simp; omega) _).set_ne (a := ⟨d, f * 2 + 1, none⟩) (by simp; omega) _
  · exact ((hB3B.drewN _).set_ne (a := ⟨d, f * 2, none⟩) (by simp; omega) _).set_ne (a := ⟨d, f * 2 + 1, none⟩) (by simp; omega) _
  rintro w2 ⟨⟨g0, g1, _, _, _, _⟩, hmod, gz, gv⟩
  simp only [List.length_set] at g0
  clear hb0 hb1 hb2 hc1 hc2 hz1 hz2 hf1 hf2 hB1B hB2B hB3B h0B h1B mB
  have hb0 : w2.cell? ⟨p, 0, none⟩ = _ := g0.cell rfl
  have hb1 : w2.cell? ⟨p, 1, none⟩ = _ := g0.cell rfl
  have hb2 : w2.cell? ⟨p, 2, none⟩ = _ := g0.cell rfl
  have hf1 := g0.free 1
  have hf2 := g0.free 2
  have hwr : IntKind.i64.wrap (n : Int) = n := IntWalk.i64_in _ (by omega)
  go_wp2_with fail
  refine Lex.region (fun _ => True) [.pure, .pure, .pure, .head, .pure, .pure, .pure, .head, .pure, .pure, .pure, .loud, .pure, .pure, .loud] (by kernel_rfl) (by kernel_rfl) (fun _ => trivial) ?_
  repeat (refine Lex.step_pure rfl rfl ?_; go_big_quiet_step (fail); refine wpQuiet_nil ?_)
  refine Lex.step_head rfl ?_
  go_big_quiet_step ((go_at_call 64; first | exact calls_quiet (at_ p d f arr.length 1 _ (by exact hb0) (by exact hb1) hm hpos hff hone j HJ.out) | exact calls_quiet2 (at_ p d f arr.length 1 _ (by exact hb0) (by exact hb1) hm hpos hff hone j HJ.out)))
  refine wpQuiet_nil ?_
  repeat (refine Lex.step_pure rfl rfl ?_; go_big_quiet_step (fail); refine wpQuiet_nil ?_)
  refine Lex.step_head rfl ?_
  go_big_quiet_step ((fail))
  refine wpQuiet_nil ?_
  repeat (refine Lex.step_pure rfl rfl ?_; go_big_quiet_step (fail); refine wpQuiet_nil ?_)
  refine Lex.step_loud rfl (fun wl hwl => ?_)
  obtain ⟨nq, rfl⟩ := hwl
  go_wp2_with fail
  refine ⟨rfl, rfl, trivial, ?_⟩
  repeat (refine Lex.step_pure rfl rfl ?_; go_big_quiet_step (fail); refine wpQuiet_nil ?_)
  refine Lex.step_loud rfl (fun wl hwl => ?_)
  replace hwl := hwl.symm
  subst hwl
  go_wp2_with fail
  refine ⟨rfl, rfl, trivial, ?_⟩
  refine Lex.step_nil (fun wl hwl => ?_)
  replace hwl := hwl.symm
  subst hwl
  refine any_world (fun w3 => C w3 p d (arr.set f (0, 0)) j n ∧ Mod [p, d] w w3 ∧ Blk w3 w.heap.size 36 [.int .i64 0, .int .i64 0] ∧ Blk w3 (w.heap.size + 2) 36 [.int .i64 u, .int .i64 v]) ⟨⟨?_, ?_, hne, by simp; omega, by simp; omega, by simpa using hm⟩, ?_, ?_, ?_⟩ ?_
  · simp only [List.length_set]
    exact ((g0.drewN _).set 1 (.int .i64 j)).set 2 (.int .i64 n)
  · exact ((g1.drewN _).set_ne (a := ⟨p, 1, none⟩) hne _).set_ne (a := ⟨p, 2, none⟩) hne _
  · exact ((hmod.drewN _).setCell (by simp) _).setCell (by simp) _
  · exact ((gz.drewN _).set_ne (a := ⟨p, 1, none⟩) (by simp; omega) _).set_ne (a := ⟨p, 2, none⟩) (by simp; omega) _
  · exact ((gv.drewN _).set_ne (a := ⟨p, 1, none⟩) (by simp; omega) _).set_ne (a := ⟨p, 2, none⟩) (by simp; omega) _
  rintro w3 ⟨hC3, hmod3, gz3, gv3⟩
  clear hb0 hb1 hb2 hf1 hf2 hwr g0 g1 gz gv hmod
  have hr0 := gz3.cell (i := 0) rfl
  have hr1 := gz3.cell (i := 1) rfl
  have hv0 := gv3.cell (i := 0) rfl
  have hv1 := gv3.cell (i := 1) rfl
  have hq0 := gz3.free 0
  have hq1 := gz3.free 1
  go_wp2_with fail
  have hres : Blk ((w3.setCell ⟨w.heap.size, 0, none⟩ (.int .i64 u)).setCell ⟨w.heap.size, 1, none⟩ (.int .i64 v)) w.heap.size 36 [.int .i64 u, .int .i64 v] := (gz3.set 0 _).set 1 _
  have hCE := hC3.mod (((Mod.refl [w.heap.size] w3).setCell (a := ⟨w.heap.size, 0, none⟩) (by simp) (.int .i64 u)).setCell (a := ⟨w.heap.size, 1, none⟩) (by simp) (.int .i64 v)) (by simp; omega) (by simp; omega)
  have hmE := (hmod3.setCell (a := ⟨w.heap.size, 0, none⟩) (by simp) (.int .i64 u)).setCell (a := ⟨w.heap.size, 1, none⟩) (by simp) (.int .i64 v)
  clear hr0 hr1 hq0 hq1 gz3 gv3 hC3 hmod3
  generalize ((w3.setCell ⟨w.heap.size, 0, none⟩ (.int .i64 u)).setCell ⟨w.heap.size, 1, none⟩ (.int .i64 v)) = WE at *
  have hd0 := Blk.cell hres (i := 0) rfl
  have hd1 := Blk.cell hres (i := 1) rfl
  refine bodyPost_ret (v := .tuple #[.agg #[.int .i64 u, .int .i64 v], .bool true]) (by rw [results_cell_tmp rfl]; simp [asAddr, Result.andThen, hd0, hd1, go_sem]) rfl ?_
  exact ⟨rfl, hCE, hmE⟩

/-- A ring of room cap that holds l. -/
def At (w : World) (p d cap : Nat) (l : List (Int × Int)) : Prop := ∃ arr f, C w p d arr f l.length ∧ arr.length = cap ∧ live arr f l.length = l

theorem At.mod {w w' : World} {p d cap : Nat} {l : List (Int × Int)} {S : List Nat} (h : At w p d cap l) (m : Mod S w w') (hp : p ∉ S) (hd : d ∉ S) : At w' p d cap l := by
  obtain ⟨arr, f, hc, h1, h2⟩ := h
  exact ⟨arr, f, hc.mod m hp hd, h1, h2⟩

theorem At.le {w : World} {p d cap : Nat} {l : List (Int × Int)} (h : At w p d cap l) : l.length ≤ cap ∧ cap ≤ 4096 := by
  obtain ⟨arr, f, hc, h1, h2⟩ := h
  subst h1
  exact ⟨hc.le, hc.most⟩

theorem mod_drawn (w : World) (S : List Nat) (n : Nat) : Mod S w (w.drewN n) := (Mod.refl _ _).drewN _

theorem new_ (room : Int) (w : World) :
    Calls Try.prog 22 #[.int .i64 room] w fun e w' => ∃ p d, e = .returned (.pointer (some ⟨p, 0, none⟩)) ∧ At w' p d (holds room) [] ∧ w.heap.size ≤ p ∧ w.heap.size ≤ d ∧ Mod [] w w' :=
  (newC room w).mono fun e w' ⟨p, d, he, hc, h1, h2, hm⟩ => ⟨p, d, he, ⟨_, _, hc, by simp, by simp [live]⟩, h1, h2, hm⟩

theorem len_ (p d cap : Nat) (l : List (Int × Int)) (w : World) (h : At w p d cap l) (n : Nat) (hn : l.length = n) :
    Calls Try.prog 27 #[.pointer (some ⟨p, 0, none⟩)] w fun e w' => e = .returned (.int .i64 n) ∧ w = w' := by
  obtain ⟨arr, f, hc, h1, h2⟩ := h
  subst hn
  exact lenC p d f _ arr w hc

theorem room_ (p d cap : Nat) (l : List (Int × Int)) (w : World) (h : At w p d cap l) (r : Nat) (hr : cap - l.length = r) :
    Calls Try.prog 25 #[.pointer (some ⟨p, 0, none⟩)] w fun e w' => e = .returned (.int .i64 r) ∧ ∃ nq, w.drewN nq = w' := by
  obtain ⟨arr, f, hc, h1, h2⟩ := h
  exact roomC p d f _ arr w hc r (by rw [h1]; exact hr)

theorem put_yes (p d cap : Nat) (l : List (Int × Int)) (v : Int × Int) (w : World) (h : At w p d cap l) (hlt : l.length < cap) :
    Calls Try.prog 24 #[.pointer (some ⟨p, 0, none⟩), Value.agg #[.int .i64 v.1, .int .i64 v.2]] w fun e w' => e = .returned (.bool true) ∧ At w' p d cap (l ++ [v]) ∧ Mod [p, d] w w' := by
  obtain ⟨arr, f, hc, h1, h2⟩ := h
  subst h1
  have hf : f < arr.length := by have := hc.first; omega
  refine (put_room p d f _ v.1 v.2 arr w hc hlt).mono fun e w' ⟨he, hc', hm⟩ => ⟨he, ⟨_, f, by simpa using hc', by simp, ?_⟩, hm⟩
  have := live_put arr f l.length v hlt hf
  rw [h2] at this
  simpa using this

theorem put_no (p d cap : Nat) (l : List (Int × Int)) (v : Int × Int) (w : World) (h : At w p d cap l) (hlt : l.length = cap) :
    Calls Try.prog 24 #[.pointer (some ⟨p, 0, none⟩), Value.agg #[.int .i64 v.1, .int .i64 v.2]] w fun e w' => e = .returned (.bool false) ∧ At w' p d cap l ∧ Mod [] w w' := by
  have h' := h
  obtain ⟨arr, f, hc, h1, h2⟩ := h
  subst h1
  exact (put_full p d f _ v.1 v.2 arr w hc hlt).mono fun e w' ⟨he, hm⟩ => ⟨he, h'.mod hm (by simp) (by simp), hm⟩

theorem take_empty (p d cap : Nat) (w : World) (h : At w p d cap []) :
    Calls Try.prog 26 #[.pointer (some ⟨p, 0, none⟩)] w fun e w' => e = .returned (.tuple #[Value.agg #[.int .i64 0, .int .i64 0], .bool false]) ∧ At w' p d cap [] ∧ Mod [] w w' := by
  have h' := h
  obtain ⟨arr, f, hc, h1, h2⟩ := h
  exact (take_none p d f arr w hc).mono fun e w' ⟨he, hm⟩ => ⟨he, h'.mod hm (by simp) (by simp), hm⟩

theorem take_cons (p d cap : Nat) (v : Int × Int) (l : List (Int × Int)) (w : World) (h : At w p d cap (v :: l)) :
    Calls Try.prog 26 #[.pointer (some ⟨p, 0, none⟩)] w fun e w' => e = .returned (.tuple #[Value.agg #[.int .i64 v.1, .int .i64 v.2], .bool true]) ∧ At w' p d cap l ∧ Mod [p, d] w w' := by
  obtain ⟨arr, f, hc, h1, h2⟩ := h
  subst h1
  have hle := hc.le
  have hf : f < arr.length := by have := hc.first; simp at hle; omega
  have h3 := live_take arr f l.length (0, 0) (by simpa using hle) hf
  rw [show (v :: l).length = l.length + 1 from rfl] at h2
  rw [h2] at h3
  have h4 : v = arr.getD f default := (List.cons.inj h3).1
  have h5 := (List.cons.inj h3).2
  refine (take_some p d f l.length v.1 v.2 arr w hc (by rw [h4]; simp [hf])).mono fun e w' ⟨he, hc', hm⟩ => ⟨he, ⟨_, _, hc', by simp, h5.symm⟩, hm⟩

end RingT
end Go.Proofs.Ytlhbfkncdcgocaa
