/- The walk of the statement CellApart: an access of one cell leaves all others; what is told of all cells is a list of its own. -/
import Derived.Test.YtlhbfkncdcgocaaCellW
import Derived.Deep.DeepCutAuto
namespace Go.Proofs.Ytlhbfkncdcgocaa
open Go.RowKit
set_option linter.unusedVariables false

abbrev opSh : Sh := .pair (.int .i64) (.pair (.int .i64) (.pair (.int .u32) (.pair (.int .u32) .unit)))

theorem arg_op {w : World} {x : Int × Int × Int × Int × Unit} {v : Value} (h : Sh.Arg w opSh x v) :
    v = .agg #[.int .i64 x.1, .int .i64 x.2.1, .int .u32 x.2.2.1, .int .u32 x.2.2.2.1] ∧ (Lit.int .i64 x.1).wf = true ∧ (Lit.int .i64 x.2.1).wf = true ∧ (Lit.int .u32 x.2.2.1).wf = true ∧ (Lit.int .u32 x.2.2.2.1).wf = true := by
  obtain ⟨a, b, c, d, u⟩ := x
  obtain ⟨cs, rfl, c1, c2, e, ⟨rfl, h1⟩, c3, c4, rfl, ⟨rfl, h2⟩, c5, c6, rfl, ⟨rfl, h3⟩, c7, c8, rfl, ⟨rfl, h4⟩, h5⟩ := h
  have h6 : c8 = [] := h5
  subst h6
  refine ⟨?_, h1, h2, h3, h4⟩
  congr 1
  apply Array.ext'
  simpa using e

theorem apart_many (a : Option Addr) (zs : List Int) (cap : Nat) (k A o v : Int) (w : World) (h40 : 40 < zs.length) (hm : zs.length ≤ maxLen) :
    Calls Try.prog 8 #[.slice a zs.length cap, .agg #[.int .i64 k, .int .i64 A, .int .u32 o, .int .u32 v]] w fun e w' => e = .returned (.bool true) ∧ Mod [] w w' := by
  unfold maxLen at hm
  have m0 := (Mod.refl [] w).alloc (.cells #[.int .i64 k, .int .i64 A, .int .u32 o, .int .u32 v] 58 (0, 0))
  go_enter Try.func8, Try.ntmps8
  go_wp2_with fail
  refine (cells_new 40 (by omega) _).mono ?_
  rintro e w1 ⟨p, d, rfl, h1, hp, hd, m1⟩
  go_wp2_with fail
  refine (awake02 _).mono ?_
  rintro e w2 ⟨rfl, m2⟩
  go_wp2
  go_ret
  exact ⟨rfl, (m0.trans m1).trans m2⟩

set_option maxHeartbeats 2000000 in
theorem apart_few (a : Option Addr) (zs : List Int) (cap : Nat) (k A o v : Int) (w : World) (hz : RowAt .u32 w a zs) (h40 : zs.length ≤ 40)
    (hk : -9223372036854775808 ≤ k ∧ k ≤ 9223372036854775807) (hA : -9223372036854775808 ≤ A ∧ A ≤ 9223372036854775807) :
    Calls Try.prog 8 #[.slice a zs.length cap, .agg #[.int .i64 k, .int .i64 A, .int .u32 o, .int .u32 v]] w fun e w' => e = .returned (.bool true) ∧ Mod [] w w' := by
  have m0 := (Mod.refl [] w).alloc (.cells #[.int .i64 k, .int .i64 A, .int .u32 o, .int .u32 v] 58 (0, 0))
  have hB := Blk.new w 58 [.int .i64 k, .int .i64 A, .int .u32 o, .int .u32 v]
  have hB' : Blk (w.alloc (.cells #[.int .i64 k, .int .i64 A, .int .u32 o, .int .u32 v] 58 (0, 0))) w.heap.size 58 [.int .i64 k, .int .i64 A, .int .u32 o, .int .u32 v] := hB
  clear hB
  have hb0 : w.heap.size < (w.alloc (.cells #[.int .i64 k, .int .i64 A, .int .u32 o, .int .u32 v] 58 (0, 0))).heap.size := hB'.lt
  go_enter Try.func8, Try.ntmps8
  go_wp2_with fail
  revert m0 hB' hb0
  generalize w.alloc (.cells #[.int .i64 k, .int .i64 A, .int .u32 o, .int .u32 v] 58 (0, 0)) = w0
  intro m0 hB' hb0
  obtain ⟨bo, hbo⟩ : ∃ bo, w.heap.size = bo := ⟨_, rfl⟩
  rw [hbo] at hB' hb0 ⊢
  refine (cells_new zs.length (by omega) _).mono ?_
  rintro e w1 ⟨p, d, rfl, h1, hp, hd, m1⟩
  have hbp : bo ≠ p := by omega
  have hbd : bo ≠ d := by omega
  have hwp : w.heap.size ≤ p := by omega
  have hwd : w.heap.size ≤ d := by omega
  have m1' := m0.trans m1
  have hB1 := m1.blk hB' (by simp)
  clear m1 m0 hp hd hB' hb0
  go_wp2_with fail
  go_loopw [42] (fun i wr => ∃ j : Nat, j ≤ zs.length ∧ i = .int .i64 j ∧ CellsAt wr p d (zs.take j ++ List.replicate (zs.length - j) 0) ∧ Blk wr bo 58 [.int .i64 k, .int .i64 A, .int .u32 o, .int .u32 v] ∧ Mod [] w wr) (fun i _ => zs.length - (intOf i).toNat)
  case atStart => exact ⟨0, by omega, rfl, by simpa using h1, hB1, m1'⟩
  case round =>
    clear h1 hB1 m1'
    obtain ⟨j, hj, rfl, hC, hB, hm⟩ := hrel
    by_cases hlt : j < zs.length
    · obtain ⟨z, hzk⟩ : ∃ z, zs[j]? = some z := ⟨zs[j], by simp [hlt]⟩
      obtain ⟨hrow, hwf⟩ := hz
      rcases hrow with rfl | ⟨b, off, rfl, hcell⟩
      · simp at hlt
      have hck := hm.cell (hcell j z hzk) (by simp)
      have hat : (zs.take j ++ List.replicate (zs.length - j) 0)[j]? = some 0 := by
        rw [List.getElem?_append_right (by simp <;> omega), show zs.length - j = (zs.length - (j + 1)) + 1 by omega, List.replicate_succ]
        simp [Nat.min_eq_left hj]
      have HE : Hid ((zs.take j ++ List.replicate (zs.length - j) 0).set j z = zs.take (j + 1) ++ List.replicate (zs.length - (j + 1)) 0) := by
        have := fill_step (fun x : Int => Value.int .u32 x) (.int .u32 0) zs zs.length j z rfl hzk
        show _ = _
        rw [List.set_append_right _ _ (by simp <;> omega), show zs.length - j = (zs.length - (j + 1)) + 1 by omega, List.replicate_succ, List.length_take, Nat.min_eq_left hj, Nat.sub_self, List.set_cons_zero, List.take_add_one, hzk]
        simp
      have hl2 : (zs.take j ++ List.replicate (zs.length - j) (0 : Int)).length ≤ 100000 := by simp; omega
      have HAT := hid hat
      clear hcell hwf hzk hat
      go_wp2_with fail
      refine (cells_store p d j _ 0 z _ hC HAT.out hl2).mono ?_
      rintro e w2 ⟨rfl, h2, m2⟩
      rw [HE.out] at h2
      go_wp2
      go_roundw
      case rel => exact ⟨j + 1, by omega, by go_num, h2, m2.blk hB (by simp <;> omega), hm.step m2 (by simp <;> omega)⟩
      case measure => simp [intOf]; omega
    · have hj' : j = zs.length := by omega
      subst hj'
      rw [Nat.sub_self, List.replicate_zero, List.append_nil, List.take_length] at hC
      go_wp2_with fail
      refine (cells_words p d zs _ hC (by omega)).mono ?_
      rintro e w2 ⟨g, rfl, hg, h2, m2⟩
      have hpg : p < g := Nat.lt_of_lt_of_le hC.box.lt hg
      have hdg : d < g := Nat.lt_of_lt_of_le hC.row.lt hg
      have hbg : bo < g := Nat.lt_of_lt_of_le hB.lt hg
      have hC2 := hC.mod m2 (by simp) (by simp)
      have hB2 := m2.blk hB (by simp)
      have hm2 := hm.trans m2
      clear hC hB hm m2 hg
      go_wp2_with fail
      go_loopw [56] (fun i wr => ∃ (j : Nat) (xs : List Int), j ≤ zs.length ∧ i = .int .i64 j ∧ xs.length = zs.length ∧ Blk wr g 23 (xs.map (Value.int .u32)) ∧ CellsAt wr p d zs ∧ Blk wr bo 58 [.int .i64 k, .int .i64 A, .int .u32 o, .int .u32 v] ∧ Mod [] w wr) (fun i _ => zs.length - (intOf i).toNat)
      case atStart => exact ⟨0, zs, by omega, rfl, rfl, h2, hC2, hB2, hm2⟩
      case round =>
        clear h2 hC2 hB2 hm2
        obtain ⟨j, xs, hj, rfl, hxl, hG, hC, hB, hm⟩ := hrel
        have HXL := hid hxl
        clear hxl
        by_cases hlt : j < zs.length
        · obtain ⟨x, hx⟩ : ∃ x, xs[j]? = some x := ⟨xs[j]'(by rw [HXL.out]; exact hlt), by simp [HXL.out, hlt]⟩
          have hcg : wr.cell? ⟨g, j, none⟩ = some (.int .u32 x) := hG.cell (by simp [hx])
          have hf := hG.free j
          have hG' := hG.set j (.int .u32 (IntKind.u32.wrap (x + 1)))
          have hC' := CellsAt.mod hC (w' := wr.setCell ⟨g, j, none⟩ (.int .u32 (IntKind.u32.wrap (x + 1)))) (mod_set wr g j _) (by simp <;> omega) (by simp <;> omega)
          have hB' := hB.set_ne (a := ⟨g, j, none⟩) (by simp <;> omega) (.int .u32 (IntKind.u32.wrap (x + 1)))
          have hm' := hm.setCell (a := ⟨g, j, none⟩) (by simp <;> omega) (.int .u32 (IntKind.u32.wrap (x + 1)))
          clear hx hG hC hB hm
          rw [IntKind.wrap_u32] at hG' hC' hB' hm'
          go_wp2
          go_roundw
          case rel => exact ⟨j + 1, xs.set j ((x + 1) % 4294967296), by omega, by go_num, by simp [HXL.out], by simpa [List.map_set] using hG', hC', hB', hm'⟩
          case measure => simp [intOf]; omega
        · clear hG HXL
          have hb0 : wr.cell? ⟨bo, 0, none⟩ = _ := hB.cell rfl
          have hb1 : wr.cell? ⟨bo, 1, none⟩ = _ := hB.cell rfl
          have hb2 : wr.cell? ⟨bo, 2, none⟩ = _ := hB.cell rfl
          have hb3 : wr.cell? ⟨bo, 3, none⟩ = _ := hB.cell rfl
          have hcase : (1 ≤ k ∧ k ≤ 5 ∧ 0 ≤ A ∧ A < zs.length) ∨ k < 1 ∨ (1 ≤ k ∧ 5 < k) ∨ (1 ≤ k ∧ k ≤ 5 ∧ A < 0) ∨ (1 ≤ k ∧ k ≤ 5 ∧ 0 ≤ A ∧ zs.length ≤ A) := by omega
          rcases hcase with ⟨c1, c2, c3, c4⟩ | c1 | ⟨c1, c2⟩ | ⟨c1, c2, c3⟩ | ⟨c1, c2, c3, c4⟩
          · obtain ⟨q, rfl⟩ : ∃ q : Nat, A = q := ⟨A.toNat, by omega⟩
            obtain ⟨x, hx⟩ : ∃ x, zs[q]? = some x := ⟨zs[q]'(by omega), List.getElem?_eq_getElem (by omega)⟩
            have hx1 : U32 x := by
              have := bounds_u32 (hz.2 x (List.mem_of_getElem? hx))
              exact ⟨by omega, by omega⟩
            have hacc : ∀ t : Nat, (t : Int) ≠ q → (acc zs k q x o v).1[t]? = zs[t]? := by
              intro t ht
              have ht' : q ≠ t := by omega
              unfold acc
              (repeat' split) <;> simp [ht']
            have hal : (acc zs k q x o v).1.length = zs.length := by
              unfold acc
              (repeat' split) <;> simp
            have HX0 := hid hx
            clear hx
            go_wp2_with fail
            refine (told_any p d q zs k x o v _ hC HX0.out hx1 h40 ⟨c1, c2⟩).mono ?_
            rintro e w3 ⟨rfl, hC3, m3⟩
            have hm3 := hm.step m3 (by simp <;> omega)
            have HW := hid hacc
            have hl3 : (acc zs k q x o v).1.length ≤ 40 := by omega
            clear hacc hal
            have hb1' := m3.cell hb1 (by simp <;> omega)
            clear hC hm m3 hb0 hb1 hb2 hb3 hB
            revert hC3 HW hl3
            generalize (acc zs k q x o v).1 = ws3
            intro hC3 HW0 hl3
            have HW : ∀ t : Nat, (t : Int) ≠ q → ws3[t]? = zs[t]? := HW0.out
            have HWH := hid HW
            clear HW HW0 c1 c2 c3 c4
            go_wp2_with fail
            go_loop [91] (fun i => ∃ j2 : Nat, j2 ≤ zs.length ∧ i = .int .i64 j2) (fun i => zs.length - (intOf i).toNat)
            case atStart => exact ⟨0, by omega, rfl⟩
            case round =>
              obtain ⟨j2, hj2, rfl⟩ := hrel
              by_cases hlt2 : j2 < zs.length
              · obtain ⟨z, hzk⟩ : ∃ z, zs[j2]? = some z := ⟨zs[j2], by simp [hlt2]⟩
                obtain ⟨hrow, hwf⟩ := hz
                rcases hrow with rfl | ⟨b, off, rfl, hcell⟩
                · simp at hlt2
                have hck := hm3.cell (hcell j2 z hzk) (by simp)
                by_cases hjA : (j2 : Int) = q
                · obtain rfl : j2 = q := by omega
                  clear hcell hwf hzk
                  go_wp2
                  go_round
                  case rel => exact ⟨j2 + 1, by omega, by go_num⟩
                  case measure => simp [intOf]; omega
                · have HX := hid ((HWH.out j2 hjA).trans hzk)
                  have hne1 : ((j2 : Int) == q) = false := by simpa using hjA
                  have hne2 : ((j2 : Int) != q) = true := by simpa using hjA
                  clear hcell hwf hzk hjA
                  go_wp2_with fail
                  refine (cells_load p d j2 ws3 z _ hC3 HX.out (by omega)).mono ?_
                  rintro e w5 ⟨rfl, rfl⟩
                  go_wp2
                  go_round
                  case rel => exact ⟨j2 + 1, by omega, by go_num⟩
                  case measure => simp [intOf]; omega
              · have hj3 : j2 = zs.length := by omega
                subst hj3
                go_wp2_with fail
                refine (awake02 _).mono ?_
                rintro e w6 ⟨rfl, m6⟩
                go_wp2
                go_ret
                exact ⟨rfl, hm3.trans m6⟩
          all_goals
            have hst : ∃ ws3, CellsAt wr p d ws3 ∧ ws3.length ≤ 40 ∧ (∀ t : Nat, (t : Int) ≠ A → ws3[t]? = zs[t]?) := ⟨zs, hC, h40, fun _ _ => rfl⟩
            obtain ⟨ws3, hC3, hl3, HW⟩ := hst
            have HWH := hid HW
            have hm3 := hm
            clear hm hC HW
            go_wp2_with fail
            go_loop [91] (fun i => ∃ j2 : Nat, j2 ≤ zs.length ∧ i = .int .i64 j2) (fun i => zs.length - (intOf i).toNat)
            case atStart => exact ⟨0, by omega, rfl⟩
            case round =>
              obtain ⟨j2, hj2, rfl⟩ := hrel
              by_cases hlt2 : j2 < zs.length
              · obtain ⟨z, hzk⟩ : ∃ z, zs[j2]? = some z := ⟨zs[j2], by simp [hlt2]⟩
                obtain ⟨hrow, hwf⟩ := hz
                rcases hrow with rfl | ⟨b, off, rfl, hcell⟩
                · simp at hlt2
                have hck := hm3.cell (hcell j2 z hzk) (by simp)
                by_cases hjA : (j2 : Int) = A
                · first
                    | (exfalso; omega)
                    | (have hn1 : ((j2 : Int) != A) = false := by simpa using hjA
                       clear hjA hcell hwf hzk
                       go_wp2
                       go_round
                       case rel => exact ⟨j2 + 1, by omega, by go_num⟩
                       case measure => simp [intOf]; omega)
                · have HX := hid ((HWH.out j2 hjA).trans hzk)
                  have hne1 : ((j2 : Int) == A) = false := by simpa using hjA
                  have hne2 : ((j2 : Int) != A) = true := by simpa using hjA
                  clear hcell hwf hzk hjA
                  go_wp2_with fail
                  refine (cells_load p d j2 ws3 z _ hC3 HX.out (by omega)).mono ?_
                  rintro e w5 ⟨rfl, rfl⟩
                  go_wp2
                  go_round
                  case rel => exact ⟨j2 + 1, by omega, by go_num⟩
                  case measure => simp [intOf]; omega
              · have hj3 : j2 = zs.length := by omega
                subst hj3
                go_wp2_with fail
                refine (awake02 _).mono ?_
                rintro e w6 ⟨rfl, m6⟩
                go_wp2
                go_ret
                exact ⟨rfl, hm3.trans m6⟩

theorem law_CellApart (w : World) (v0 v1 : Value) (x0 : List Int) (x1 : Int × Int × Int × Int × Unit) (h0 : Sh.Arg w (.row (.int .u32)) x0 v0) (h1 : Sh.Arg w opSh x1 v1) :
    Calls Try.prog 8 #[v0, v1] w fun e w' => e = .returned (.bool true) ∧ Mod [] w w' := by
  obtain ⟨a, cap, rfl, hr, hl, hm⟩ := arg_ints h0
  obtain ⟨rfl, hk, hA, _, _⟩ := arg_op h1
  by_cases h40 : 40 < x0.length
  · exact apart_many a x0 cap _ _ _ _ w h40 (by omega)
  · exact apart_few a x0 cap _ _ _ _ w hr (by omega) (bounds_i64 hk) (bounds_i64 hA)

end Go.Proofs.Ytlhbfkncdcgocaa
