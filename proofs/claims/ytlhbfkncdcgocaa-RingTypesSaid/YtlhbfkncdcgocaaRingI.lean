/- Contracts of layer 3 (ring), for rings of int. -/
import Derived.Test.YtlhbfkncdcgocaaChecked
import Derived.Test.YtlhbfkncdcgocaaHeap
import Derived.Test.YtlhbfkncdcgocaaRegion
import Derived.Test.YtlhbfkncdcgocaaRingP
import Derived.BigQuiet
import Derived.Deep.QuietTactic
import Derived.Deep.RegionWith
namespace Go.Proofs.Ytlhbfkncdcgocaa
namespace RingI
open Go.RowKit
set_option linter.unusedVariables false

theorem at_ (p d f cap i : Nat) (w : World) (hb0 : w.cell? ⟨p, 0, none⟩ = some (.slice (some ⟨d, 0, none⟩) cap cap)) (hb1 : w.cell? ⟨p, 1, none⟩ = some (.int .i64 f))
    (hcap : cap ≤ 4096) (hpos : 0 < cap) (hf : f < cap) (hi : i ≤ cap) (j : Nat) (hj : (f + i) % cap = j) :
    Calls Try.prog 65 #[.pointer (some ⟨p, 0, none⟩), .int .i64 i] w fun e w' => e = .returned (.int .i64 j) ∧ ∃ nq, w.drewN nq = w' := by
  have HJ := hid hj
  clear hj
  go_enter Try.func65, Try.ntmps65
  go_wp2
  go_quiet (fail)
  go_wp2
  go_ret
  exact ⟨ret_int (by rw [← HJ.out]; simp), nq, rfl⟩

/-- A ring: the struct's block p; the row's block d holds arr; f: the place of the first value, n: how many there are. -/
structure C (w : World) (p d : Nat) (arr : List Int) (f n : Nat) : Prop where
  box : Blk w p 118 [.slice (some ⟨d, 0, none⟩) arr.length arr.length, .int .i64 f, .int .i64 n]
  row : Blk w d 3 (arr.map (Value.int .i64))
  ne : p ≠ d
  le : n ≤ arr.length
  first : f < arr.length ∨ (arr.length = 0 ∧ f = 0)
  most : arr.length ≤ 4096

theorem C.mod {w w' : World} {p d : Nat} {arr : List Int} {f n : Nat} {S : List Nat} (h : C w p d arr f n) (m : Mod S w w') (hp : p ∉ S) (hd : d ∉ S) : C w' p d arr f n :=
  ⟨m.blk h.box hp, m.blk h.row hd, h.ne, h.le, h.first, h.most⟩
theorem C.drewN {w : World} {p d : Nat} {arr : List Int} {f n : Nat} (h : C w p d arr f n) (k : Nat) : C (w.drewN k) p d arr f n :=
  ⟨h.box, h.row, h.ne, h.le, h.first, h.most⟩

theorem roomC (p d f n : Nat) (arr : List Int) (w : World) (h : C w p d arr f n) (r : Nat) (hr : arr.length - n = r) :
    Calls Try.prog 32 #[.pointer (some ⟨p, 0, none⟩)] w fun e w' => e = .returned (.int .i64 r) ∧ ∃ nq, w.drewN nq = w' := by
  obtain ⟨h0, _, _, hle, _, hm⟩ := h
  have hb0 : w.cell? ⟨p, 0, none⟩ = _ := h0.cell rfl
  have hb2 : w.cell? ⟨p, 2, none⟩ = _ := h0.cell rfl
  have HR := hid hr
  clear h0 hr
  go_enter Try.func32, Try.ntmps32
  go_wp2
  go_quiet (fail)
  go_wp2
  go_ret
  exact ⟨ret_int (by have := HR.out; omega), nq, rfl⟩

theorem lenC (p d f n : Nat) (arr : List Int) (w : World) (h : C w p d arr f n) :
    Calls Try.prog 31 #[.pointer (some ⟨p, 0, none⟩)] w fun e w' => e = .returned (.int .i64 n) ∧ w = w' := by
  obtain ⟨h0, _, _, hle, _, hm⟩ := h
  have hb2 : w.cell? ⟨p, 2, none⟩ = _ := h0.cell rfl
  clear h0
  go_enter Try.func31, Try.ntmps31
  go_wp2
  go_ret
  exact ⟨rfl, rfl⟩

theorem put_full (p d f n : Nat) (v : Int) (arr : List Int) (w : World) (h : C w p d arr f n) (hlt : n = arr.length) :
    Calls Try.prog 29 #[.pointer (some ⟨p, 0, none⟩), Value.int .i64 v] w fun e w' => e = .returned (.bool false) ∧ ∃ nq, w.drewN nq = w' := by
  have hroom := roomC p d f n arr w h 0 (by omega)
  clear hlt h
  go_enter Try.func29, Try.ntmps29
  go_wp2_with fail
  refine hroom.mono ?_
  rintro e w1 ⟨rfl, nq, rfl⟩
  go_wp2
  go_ret
  exact ⟨rfl, nq, rfl⟩

theorem put_room (p d f n : Nat) (v : Int) (arr : List Int) (w : World) (h : C w p d arr f n) (hlt : n < arr.length) :
    Calls Try.prog 29 #[.pointer (some ⟨p, 0, none⟩), Value.int .i64 v] w fun e w' => e = .returned (.bool true) ∧ C w' p d (arr.set ((f + n) % arr.length) v) f (n + 1) ∧ Mod [p, d] w w' := by
  obtain ⟨r, hr⟩ : ∃ r, arr.length - n = r + 1 := ⟨arr.length - n - 1, by omega⟩
  have hroom := roomC p d f n arr w h (r + 1) hr
  clear hr
  have hC := h
  obtain ⟨h0, h1, hne, hle, hf, hm⟩ := h
  have hb0 : w.cell? ⟨p, 0, none⟩ = _ := h0.cell rfl
  have hb1 : w.cell? ⟨p, 1, none⟩ = _ := h0.cell rfl
  have hb2 : w.cell? ⟨p, 2, none⟩ = _ := h0.cell rfl
  have hfr := h0.free 2
  have hd : (f + n) % arr.length < arr.length := Nat.mod_lt _ (by omega)
  obtain ⟨j, hj⟩ : ∃ j, (f + n) % arr.length = j := ⟨_, rfl⟩
  rw [hj] at hd ⊢
  have HJ := hid hj
  clear hj
  obtain ⟨old, hold⟩ : ∃ v, w.cell? ⟨d, j, none⟩ = some v := ⟨_, h1.cell (List.getElem?_eq_getElem (by simpa using hd))⟩
  have hfd := h1.free j
  have hpos : 0 < arr.length := by omega
  have hff : f < arr.length := by omega
  go_enter Try.func29, Try.ntmps29
  go_wp2_with fail
  refine hroom.mono ?_
  rintro e w1 ⟨rfl, nq, rfl⟩
  go_wp2_with fail
  refine wp_region_quiet_tail 11 (by kernel_rfl) (by kernel_rfl) ?_
  simp only [List.take_succ_cons, List.take_zero, List.drop_succ_cons, List.drop_zero]
  repeat (go_big_quiet_step ((go_at_call 65; first | exact calls_quiet (at_ p d f arr.length n _ (by exact hb0) (by exact hb1) hm hpos hff hle j HJ.out) | exact calls_quiet2 (at_ p d f arr.length n _ (by exact hb0) (by exact hb1) hm hpos hff hle j HJ.out))))
  refine wpQuiet_nil ?_
  intro _ hw'
  obtain ⟨nq, hw''⟩ := hw'
  subst hw''
  go_wp2
  go_ret
  refine ⟨rfl, ⟨?_, ?_, hne, by simp; omega, by simp; omega, by simpa using hm⟩, ?_⟩
  · have t1 := fun k => (((h0.drewN k).set_ne (a := ⟨d, j, none⟩) (fun e => hne e.symm) (Value.int .i64 v)).set 2 (.int .i64 ((n : Int) + 1)))
    simpa using t1 _
  · have t1 := fun k => (((h1.drewN k).set j (Value.int .i64 v)).set_ne (a := ⟨p, 2, none⟩) hne (.int .i64 ((n : Int) + 1)))
    simpa [List.map_set] using t1 _
  · exact (((Mod.refl _ w).drewN _).setCell (by simp) _).setCell (by simp) _

theorem take_none (p d f : Nat) (arr : List Int) (w : World) (h : C w p d arr f 0) :
    Calls Try.prog 30 #[.pointer (some ⟨p, 0, none⟩)] w fun e w' => e = .returned (.tuple #[(Value.int .i64) 0, .bool false]) ∧ Mod [] w w' := by
  obtain ⟨h0, h1, hne, hle, hf, hm⟩ := h
  have hb2 : w.cell? ⟨p, 2, none⟩ = _ := h0.cell rfl
  clear h0 h1
  go_enter Try.func30, Try.ntmps30
  go_wp2
  go_ret2
  exact ⟨rfl, Mod.refl _ _⟩

set_option maxHeartbeats 1000000 in
theorem take_some (p d f n : Nat) (v : Int) (arr : List Int) (w : World) (h : C w p d arr f (n + 1)) (hv : arr[f]? = some v) :
    Calls Try.prog 30 #[.pointer (some ⟨p, 0, none⟩)] w fun e w' => e = .returned (.tuple #[Value.int .i64 v, .bool true]) ∧ C w' p d (arr.set f 0) ((f + 1) % arr.length) n ∧ Mod [p, d] w w' := by
  obtain ⟨h0, h1, hne, hle, hf, hm⟩ := h
  have hff : f < arr.length := by omega
  have hb0 : w.cell? ⟨p, 0, none⟩ = _ := h0.cell rfl
  have hb1 : w.cell? ⟨p, 1, none⟩ = _ := h0.cell rfl
  have hb2 : w.cell? ⟨p, 2, none⟩ = _ := h0.cell rfl
  have hf1 := h0.free 1
  have hf2 := h0.free 2
  obtain ⟨j, hj⟩ : ∃ j, (f + 1) % arr.length = j := ⟨_, rfl⟩
  have hd : j < arr.length := by rw [← hj]; exact Nat.mod_lt _ (by omega)
  rw [hj]
  have HJ := hid hj
  clear hj
  have hold : w.cell? ⟨d, f, none⟩ = some (Value.int .i64 v) := h1.cell (by simp [hv])
  have hfd := h1.free f
  have hpos : 0 < arr.length := by omega
  have hone : 1 ≤ arr.length := hpos
  clear hv
  go_enter Try.func30, Try.ntmps30
  go_wp2
  go_quiet (fail)
  go_wp2
  refine wp_region_quiet_tail 9 (by kernel_rfl) (by kernel_rfl) ?_
  simp only [List.take_succ_cons, List.take_zero, List.drop_succ_cons, List.drop_zero]
  repeat (go_big_quiet_step ((fail)))
  refine wpQuiet_nil ?_
  intro _ hw'
  obtain ⟨nq, hw''⟩ := hw'
  subst hw''
  go_wp2
  refine wp_world (fun w2 => C w2 p d (arr.set f 0) f (n + 1) ∧ Mod [p, d] w w2) ⟨⟨?_, ?_, hne, by simpa using hle, by simpa using hf, by simpa using hm⟩, ?_⟩ ?_
  · have t1 := fun k => (h0.drewN k).set_ne (a := ⟨d, f, none⟩) (fun e => hne e.symm) ((Value.int .i64) 0)
    simpa using t1 _
  · have t1 := fun k => (h1.drewN k).set f ((Value.int .i64) 0)
    simpa [List.map_set] using t1 _
  · exact ((Mod.refl _ w).drewN _).setCell (by simp) _
  rintro w2 ⟨⟨g0, g1, _, _, _, _⟩, hmod⟩
  simp only [List.length_set] at g0
  clear hb0 hb1 hb2 hf1 hf2 hold hfd
  have hb0 : w2.cell? ⟨p, 0, none⟩ = _ := g0.cell rfl
  have hb1 : w2.cell? ⟨p, 1, none⟩ = _ := g0.cell rfl
  have hb2 : w2.cell? ⟨p, 2, none⟩ = _ := g0.cell rfl
  have hf1 := g0.free 1
  have hf2 := g0.free 2
  have hwr : IntKind.i64.wrap (n : Int) = n := IntWalk.i64_in _ (by omega)
  go_region_with (go_at_call 65; refine (at_ p d f arr.length 1 _ (by exact hb0) (by exact hb1) hm hpos hff hone j HJ.out).mono ?_; rintro e w2 ⟨rfl, nq2, rfl⟩)
  all_goals clear hwr
  all_goals go_wp2
  all_goals go_ret2
  all_goals refine ⟨rfl, ⟨?_, ?_, hne, by simp; omega, by simp; omega, by simpa using hm⟩, ?_⟩
  all_goals first
    | (refine Mod.setCell (Mod.setCell (hmod.drewN _) ?_ _) ?_ _ <;> simp; done)
    | (have t1 := fun k => ((g0.drewN k).set 1 (.int .i64 j)).set 2 (.int .i64 n); simpa using t1 _)
    | (have t1 := fun k => ((g1.drewN k).set_ne (a := ⟨p, 1, none⟩) hne (.int .i64 j)).set_ne (a := ⟨p, 2, none⟩) hne (.int .i64 n); simpa using t1 _)

theorem new_blocks (w : World) (n : Nat) (hn : n ≤ 4096) :
    C ((w.alloc (.cells (zeros n ((Value.int .i64) 0)) 3 (0, 0))).alloc (.cells #[.slice (some ⟨w.heap.size, 0, none⟩) n n, .int .i64 0, .int .i64 0] 118 (0, 0))) (w.heap.size + 1) w.heap.size (List.replicate n 0) 0 0 := by
  refine ⟨?_, ?_, by omega, by omega, by simp; omega, by simpa using hn⟩
  · have := Blk.new (w.alloc (.cells (zeros n ((Value.int .i64) 0)) 3 (0, 0))) 118 [.slice (some ⟨w.heap.size, 0, none⟩) n n, .int .i64 0, .int .i64 0]
    simpa using this
  · have := (Blk.new w 3 (List.replicate n ((Value.int .i64) 0))).alloc (.cells #[.slice (some ⟨w.heap.size, 0, none⟩) n n, .int .i64 0, .int .i64 0] 118 (0, 0))
    simpa [zeros] using this

theorem info : (Try.prog.info? 3).map (fun i => (i.zero, i.size, i.bytes)) = some (some ((Value.int .i64) 0), 1, 8) := by kernel_rfl

/-- As a ring holds it. -/
def holds (room : Int) : Nat := (min (max room 0) 4096).toNat

def Made (w : World) (n : Nat) (e : Ending) (w' : World) : Prop :=
  ∃ p d, e = .returned (.pointer (some ⟨p, 0, none⟩)) ∧ C w' p d (List.replicate n 0) 0 0 ∧ w.heap.size ≤ p ∧ w.heap.size ≤ d ∧ Mod [] w w'

set_option maxRecDepth 100000 in
theorem newC (room : Int) (w : World) :
    Calls Try.prog 28 #[.int .i64 room] w (Made w (holds room)) := by
  obtain ⟨n, hn⟩ : ∃ n : Nat, holds room = n := ⟨_, rfl⟩
  rw [hn]
  have hn1 : n ≤ 4096 := by unfold holds at hn; omega
  have hnew := new_blocks w n hn1
  obtain ⟨i0, hi, hz0, hz1, hz2⟩ := info_parts info
  have hmk := fun x hx => make_zerosI (P := Try.prog) 33 3 i0 _ ((Value.int .i64) 0) 8 Try.underlying33 hi hz0 hz1 hz2 rfl n x hx (by omega) (by omega) w
  by_cases h0 : room < 0
  · have hm := hmk 0 (by unfold holds at hn; omega)
    clear hmk hn
    go_enter Try.func28, Try.ntmps28
    go_wp2
    go_ret
    exact ⟨_, _, rfl, hnew, by omega, by omega, ((Mod.refl _ _).alloc _).alloc _⟩
  · by_cases h1 : room ≤ 4096
    · have hm := hmk room (by unfold holds at hn; omega)
      clear hmk hn
      go_enter Try.func28, Try.ntmps28
      go_wp2
      go_ret
      exact ⟨_, _, rfl, hnew, by omega, by omega, ((Mod.refl _ _).alloc _).alloc _⟩
    · have hm := hmk 4096 (by unfold holds at hn; omega)
      clear hmk hn
      go_enter Try.func28, Try.ntmps28
      go_wp2
      go_ret
      exact ⟨_, _, rfl, hnew, by omega, by omega, ((Mod.refl _ _).alloc _).alloc _⟩

/-- A ring of room cap that holds l. -/
def At (w : World) (p d cap : Nat) (l : List Int) : Prop := ∃ arr f, C w p d arr f l.length ∧ arr.length = cap ∧ live arr f l.length = l

theorem At.mod {w w' : World} {p d cap : Nat} {l : List Int} {S : List Nat} (h : At w p d cap l) (m : Mod S w w') (hp : p ∉ S) (hd : d ∉ S) : At w' p d cap l := by
  obtain ⟨arr, f, hc, h1, h2⟩ := h
  exact ⟨arr, f, hc.mod m hp hd, h1, h2⟩

theorem At.le {w : World} {p d cap : Nat} {l : List Int} (h : At w p d cap l) : l.length ≤ cap ∧ cap ≤ 4096 := by
  obtain ⟨arr, f, hc, h1, h2⟩ := h
  subst h1
  exact ⟨hc.le, hc.most⟩

theorem mod_drawn (w : World) (S : List Nat) (n : Nat) : Mod S w (w.drewN n) := (Mod.refl _ _).drewN _

theorem new_ (room : Int) (w : World) :
    Calls Try.prog 28 #[.int .i64 room] w fun e w' => ∃ p d, e = .returned (.pointer (some ⟨p, 0, none⟩)) ∧ At w' p d (holds room) [] ∧ w.heap.size ≤ p ∧ w.heap.size ≤ d ∧ Mod [] w w' :=
  (newC room w).mono fun e w' ⟨p, d, he, hc, h1, h2, hm⟩ => ⟨p, d, he, ⟨_, _, hc, by simp, by simp [live]⟩, h1, h2, hm⟩

theorem len_ (p d cap : Nat) (l : List Int) (w : World) (h : At w p d cap l) (n : Nat) (hn : l.length = n) :
    Calls Try.prog 31 #[.pointer (some ⟨p, 0, none⟩)] w fun e w' => e = .returned (.int .i64 n) ∧ w = w' := by
  obtain ⟨arr, f, hc, h1, h2⟩ := h
  subst hn
  exact lenC p d f _ arr w hc

theorem room_ (p d cap : Nat) (l : List Int) (w : World) (h : At w p d cap l) (r : Nat) (hr : cap - l.length = r) :
    Calls Try.prog 32 #[.pointer (some ⟨p, 0, none⟩)] w fun e w' => e = .returned (.int .i64 r) ∧ ∃ nq, w.drewN nq = w' := by
  obtain ⟨arr, f, hc, h1, h2⟩ := h
  exact roomC p d f _ arr w hc r (by rw [h1]; exact hr)

theorem put_yes (p d cap : Nat) (l : List Int) (v : Int) (w : World) (h : At w p d cap l) (hlt : l.length < cap) :
    Calls Try.prog 29 #[.pointer (some ⟨p, 0, none⟩), Value.int .i64 v] w fun e w' => e = .returned (.bool true) ∧ At w' p d cap (l ++ [v]) ∧ Mod [p, d] w w' := by
  obtain ⟨arr, f, hc, h1, h2⟩ := h
  subst h1
  have hf : f < arr.length := by have := hc.first; omega
  refine (put_room p d f _ v arr w hc hlt).mono fun e w' ⟨he, hc', hm⟩ => ⟨he, ⟨_, f, by simpa using hc', by simp, ?_⟩, hm⟩
  have := live_put arr f l.length v hlt hf
  rw [h2] at this
  simpa using this

theorem put_no (p d cap : Nat) (l : List Int) (v : Int) (w : World) (h : At w p d cap l) (hlt : l.length = cap) :
    Calls Try.prog 29 #[.pointer (some ⟨p, 0, none⟩), Value.int .i64 v] w fun e w' => e = .returned (.bool false) ∧ At w' p d cap l ∧ Mod [] w w' := by
  have h' := h
  obtain ⟨arr, f, hc, h1, h2⟩ := h
  subst h1
  exact (put_full p d f _ v arr w hc hlt).mono fun e w' ⟨he, nq, hw⟩ => by
    subst hw
    exact ⟨he, h'.mod (mod_drawn w [] nq) (by simp) (by simp), mod_drawn _ _ _⟩

theorem take_empty (p d cap : Nat) (w : World) (h : At w p d cap []) :
    Calls Try.prog 30 #[.pointer (some ⟨p, 0, none⟩)] w fun e w' => e = .returned (.tuple #[(Value.int .i64) 0, .bool false]) ∧ At w' p d cap [] ∧ Mod [] w w' := by
  have h' := h
  obtain ⟨arr, f, hc, h1, h2⟩ := h
  exact (take_none p d f arr w hc).mono fun e w' ⟨he, hm⟩ => ⟨he, h'.mod hm (by simp) (by simp), hm⟩

theorem take_cons (p d cap : Nat) (v : Int) (l : List Int) (w : World) (h : At w p d cap (v :: l)) :
    Calls Try.prog 30 #[.pointer (some ⟨p, 0, none⟩)] w fun e w' => e = .returned (.tuple #[Value.int .i64 v, .bool true]) ∧ At w' p d cap l ∧ Mod [p, d] w w' := by
  obtain ⟨arr, f, hc, h1, h2⟩ := h
  subst h1
  have hle := hc.le
  have hf : f < arr.length := by have := hc.first; simp at hle; omega
  have h3 := live_take arr f l.length 0 (by simpa using hle) hf
  rw [show (v :: l).length = l.length + 1 from rfl] at h2
  rw [h2] at h3
  have h4 : v = arr.getD f default := (List.cons.inj h3).1
  have h5 := (List.cons.inj h3).2
  refine (take_some p d f l.length v arr w hc (by rw [h4]; simp [hf])).mono fun e w' ⟨he, hc', hm⟩ => ⟨he, ⟨_, _, hc', by simp, h5.symm⟩, hm⟩

end RingI
end Go.Proofs.Ytlhbfkncdcgocaa
