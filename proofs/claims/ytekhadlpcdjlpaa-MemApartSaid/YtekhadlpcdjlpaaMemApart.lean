/- The walk of the statement MemApart. -/
import Derived.Test.YtekhadlpcdjlpaaMemMakes
namespace Go.Proofs.Ytekhadlpcdjlpaa
namespace Mem
open Go.RowKit
set_option linter.unusedVariables false

abbrev putSh : Sh := .pair (.row (.int .i64)) (.pair (.int .i64) (.pair (.int .u32) (.pair (.int .u32) .unit)))

theorem arg_put {w : World} {x : putSh.Val} {v : Value} (h : Sh.Arg w putSh x v) :
    ∃ a cap, v = .agg #[.slice a (List.length x.1) cap, .int .i64 x.2.1, .int .u32 x.2.2.1, .int .u32 x.2.2.2.1] ∧ RowV w a (ints x.1) ∧ (a = none → List.length x.1 = 0) ∧ List.length x.1 ≤ maxLen ∧
      (Lit.int .i64 x.2.1).wf = true ∧ (Lit.int .u32 x.2.2.1).wf = true ∧ (Lit.int .u32 x.2.2.2.1).wf = true := by
  obtain ⟨cs, rfl, c1, c2, hcs, hr, c3, c4, rfl, ⟨rfl, h2⟩, c5, c6, rfl, ⟨rfl, h3⟩, c7, c8, rfl, ⟨rfl, h4⟩, h5⟩ := h
  obtain ⟨a, cap, rfl, h6, h7, h8, h9⟩ := row_of hr
  have h10 : c8 = [] := h5
  subst h10
  refine ⟨a, cap, ?_, h6, h7, Nat.le_trans h8 h9, h2, h3, h4⟩
  congr 1
  exact Array.ext' (by rw [hcs]; rfl)

set_option maxRecDepth 100000 in
set_option maxHeartbeats 1000000 in
theorem apart_ (a : Option Addr) (sizes : List Int) (ns : List Nat) (cap : Nat) (area : Int) (v : Nat) (x : Int) (w : World) (hz : RowV w a (ints sizes)) (h0 : a = none → sizes.length = 0) (hl : sizes.length ≤ maxLen) (hf : Fine sizes ns)
    (hv : v < 4294967296) (ha : -9223372036854775808 ≤ area ∧ area ≤ 9223372036854775807) (hx : 0 ≤ x ∧ x < 4294967296) :
    Calls Try.prog 7 #[.agg #[.slice a sizes.length cap, .int .i64 area, .int .u32 v, .int .u32 x]] w fun e w' => e = .returned (.bool true) ∧ Mod [] w w' := by
  have hcells : ∀ w1, Mod [] w w1 → Calls Try.prog 21 #[.slice a sizes.length cap] w1 (CellsIs w1 sizes ns) := by
    intro w1 m1
    by_cases h8 : sizes.length ≤ 8
    · exact refcells_few a sizes ns cap w1 (hz.mod0 m1) hf h8
    · exact refcells_many a sizes ns cap w1 (by omega) hl
  unfold maxLen at hl
  go_enter Try.func7, Try.ntmps7
  go_wp2_with fail
  go_quiet (fail)
  refine any_world (fun w1 => Mod [] w w1) (((Mod.refl [] w).alloc _).drewN _) ?_
  intro w1 m1
  go_wp2_with fail
  refine (hcells w1 m1).mono ?_
  rintro e w2 ⟨m2, hres⟩
  have m12 := m1.trans m2
  clear hcells
  have HA := hid h0
  clear h0
  by_cases hc : sizes.length = ns.length ∧ sizes.length ≤ 8
  · rw [if_pos hc] at hres
    obtain ⟨vl, rfl, hown⟩ := hres
    obtain ⟨al, cl, rfl, hle, hlm, _⟩ := ownsRow_form hown
    have hsum : ns.sum ≤ 32768 := by have := hf.sum_le hc.2 ns.length; rwa [List.take_length] at this
    obtain ⟨hg1, hg2⟩ := hc
    have HG1 := hid hg1
    clear hown hg1
    by_cases h300 : 300 < ns.sum
    · by_cases hs : ns.sum ≤ 8192
      · go_wp2_with fail
        refine (awake09 _).mono ?_
        rintro e w3 ⟨rfl, m3⟩
        go_wp2
        go_ret
        exact ⟨rfl, m12.trans m3⟩
      · go_wp2_with fail
        refine (awake09 _).mono ?_
        rintro e w3 ⟨rfl, m3⟩
        go_wp2
        go_ret
        exact ⟨rfl, m12.trans m3⟩
    · have hs : ns.sum ≤ 300 := by omega
      have hs2 : ns.sum ≤ 8192 := by omega
      obtain ⟨i0, hi, hz0, hz1, hz2⟩ := info_parts info_u
      have hmk := make_zeros (P := Try.prog) 27 35 i0 (.int .u32 0) (.int .u32 0) 4 Try.underlying27 hi hz0 hz1 hz2 rfl ns.sum (by omega) (by omega) w2
      have hnew := memnew_few a (some ⟨w2.heap.size, 0, none⟩) sizes ns cap ns.sum ns.sum (List.replicate ns.sum 0) _ ((hz.mod0 m12).mod0 ((Mod.refl [] w2).alloc _)) HA.out hf hg2 (by simp) (by omega) (zeros_row (w := w2) ns.sum)
      clear hi hz0 hz1 hz2 hz
      go_wp2_with fail
      refine hnew.mono ?_
      rintro e w3 ⟨m3, hres⟩
      rw [if_pos ⟨HG1.out, by have := HG1.out; omega, hs2, by simp⟩] at hres
      obtain ⟨p, pc, dc, vs, vb, rfl, hM⟩ := hres
      have m13 := (m12.alloc _).trans m3
      clear hnew hmk m3
      have hp0 : w3.cell? ⟨p, 0, none⟩ = _ := hM.box.cell rfl
      by_cases hin : ∃ k n i : Nat, area = k ∧ ns[k]? = some n ∧ v % 4096 = i ∧ i < n
      · obtain ⟨k, n, i, rfl, hk, hi, hin⟩ := hin
        obtain ⟨A, hA⟩ : ∃ A, (ns.take k).sum + i = A := ⟨_, rfl⟩
        have hcA := cells_at ns k n i hk hin
        have hAl : A < ns.sum := by have := sum_le_all hk; omega
        have haddr := addr_in _ p pc dc vs vb ns _ w3 hM k n v i hk hv hi hin
        rw [hA] at hcA haddr
        have hi2 : (v : Int) % 4096 = (i : Int) := by omega
        have HCA := hid hcA
        clear hA hk hi hin hcA
        go_wp2_with fail
        refine haddr.mono ?_
        rintro e w4 ⟨rfl, m4⟩
        have hM4 := hM.mod (S := []) m4 (by simp)
        clear haddr hp0
        have hp0 : w4.cell? ⟨p, 0, none⟩ = _ := hM4.box.cell rfl
        go_wp2_with fail
        refine (cells_store pc dc A _ 0 x w4 hM4.cells (by simp [hAl]) (by simp; omega)).mono ?_
        rintro e w5 ⟨rfl, hC5, m5⟩
        have hM5 := hM4.store hC5 (by simp) m5
        clear hp0
        have hp0 : w5.cell? ⟨p, 0, none⟩ = _ := hM5.box.cell rfl
        go_wp2_with fail
        refine (cells_words pc dc _ w5 hM5.cells (by simp; omega)).mono ?_
        rintro e w6 ⟨g, rfl, hg6, hB, m6⟩
        simp only [List.length_set, List.length_replicate]
        have hM6 := hM5.mod (S := []) m6 (by simp)
        have mAll := ((m13.trans m4).step m5 (fun y hy hlt => by have h1 := hM4.hp; simp only [World.size_alloc] at h1; have h2 := m12.size; simp at hy; omega)).trans m6
        clear hp0
        go_wp2_with fail
        go_loop [88] (fun i => ∃ j : Nat, j ≤ ns.sum ∧ i = .int .i64 j) (fun i => ns.sum - (intOf i).toNat)
        case atStart => exact ⟨0, by omega, rfl⟩
        case round =>
          obtain ⟨j, hj, rfl⟩ := hrel
          by_cases hlt : j < ns.sum
          · by_cases hjA : j = A
            · have hcj : w6.cell? ⟨g, j, none⟩ = some (.int .u32 x) := hB.cell (by simp [hjA, hAl])
              have d1 : ((j : Int) == (A : Int)) = true := by simp [hjA]
              have d2 : ((j : Int) != (A : Int)) = false := by simp [hjA]
              clear hjA
              go_wp2_with fail
              go_round
              case rel => exact ⟨j + 1, by omega, by go_num⟩
              case measure => simp [intOf]; omega
            · have hcj : w6.cell? ⟨g, j, none⟩ = some (.int .u32 0) := hB.cell (by rw [List.getElem?_map, List.getElem?_set_ne (fun e => hjA e.symm)]; simp [hlt])
              have d1 : ((j : Int) == (A : Int)) = false := by simp; omega
              have d2 : ((j : Int) != (A : Int)) = true := by simp; omega
              clear hjA
              go_wp2_with fail
              go_round
              case rel => exact ⟨j + 1, by omega, by go_num⟩
              case measure => simp [intOf]; omega
          · have hA1 : -9223372036854775808 ≤ (A : Int) ∧ (A : Int) ≤ 9223372036854775807 := by omega
            go_wp2_with fail
            refine (area_ _ p pc dc vs vb ns _ _ hM6 A hA1).mono ?_
            rintro e w7 ⟨hare, rfl⟩
            have hfin : e = .returned (.tuple #[.int .i64 k, .int .i64 i, .bool true]) := by
              rcases hare with ⟨k2, n2, i2, hk2, hi2, hxe, he⟩ | ⟨hxo, _⟩
              · have hc2 := cells_at ns k2 n2 i2 hk2 hi2
                rw [← show A = (ns.take k2).sum + i2 by omega, HCA.out] at hc2
                injection hc2 with hc2
                have e1 := congrArg Prod.fst hc2
                have e2 := congrArg Prod.snd hc2
                simp only at e1 e2
                rw [he, ← e1, ← e2]
              · omega
            subst hfin
            clear hare
            go_wp2_with fail
            refine (awake09 _).mono ?_
            rintro e w8 ⟨rfl, m8⟩
            go_wp2
            go_ret
            exact ⟨rfl, mAll.trans m8⟩
      · have haddr := addr_out _ p pc dc vs vb ns _ w3 hM area v hv (by
          by_cases h1 : area < 0
          · exact .inl h1
          · by_cases h2 : (ns.length : Int) ≤ area
            · exact .inr (.inl h2)
            · obtain ⟨k, rfl⟩ : ∃ k : Nat, area = k := ⟨area.toNat, by omega⟩
              obtain ⟨n, hn⟩ : ∃ n, ns[k]? = some n := ⟨_, List.getElem?_eq_getElem (by omega)⟩
              refine .inr (.inr ⟨k, n, rfl, hn, ?_⟩)
              by_cases h3 : n ≤ v % 4096
              · exact h3
              · exact absurd ⟨k, n, _, rfl, hn, rfl, by omega⟩ hin)
        clear hin
        go_wp2_with fail
        refine haddr.mono ?_
        rintro e w4 ⟨rfl, m4⟩
        clear haddr
        go_wp2_with fail
        refine (awake09 _).mono ?_
        rintro e w5 ⟨rfl, m5⟩
        go_wp2
        go_ret
        exact ⟨rfl, (m13.trans m4).trans m5⟩
  · rw [if_neg hc] at hres
    subst hres
    clear hc
    by_cases h8 : 8 < sizes.length
    · go_wp2_with fail
      refine (awake09 _).mono ?_
      rintro e w3 ⟨rfl, m3⟩
      go_wp2
      go_ret
      exact ⟨rfl, m12.trans m3⟩
    · go_wp2_with fail
      refine (awake09 _).mono ?_
      rintro e w3 ⟨rfl, m3⟩
      go_wp2
      go_ret
      exact ⟨rfl, m12.trans m3⟩

end Mem

theorem law_MemApart (w : World) (v0 : Value) (x0 : Mem.putSh.Val) (h0 : Sh.Arg w Mem.putSh x0 v0) :
    Calls Try.prog 7 #[v0] w fun e w' => e = .returned (.bool true) ∧ Mod [] w w' := by
  obtain ⟨a, cap, hv, hr, hn, hm, h1, h2, h3⟩ := Mem.arg_put h0
  have b1 := bounds_i64 h1
  have b2 := bounds_u32 h2
  have b3 := bounds_u32 h3
  obtain ⟨sizes, area, v, x, u⟩ := x0
  dsimp only at hv hr hn hm b1 b2 b3
  subst hv
  obtain ⟨ns, hf⟩ := Mem.fine_of sizes
  obtain ⟨vn, hvn⟩ : ∃ vn : Nat, v = (vn : Int) := ⟨Int.toNat v, (Int.toNat_of_nonneg b2.1).symm⟩
  subst hvn
  exact Mem.apart_ a sizes ns cap area vn x w hr hn hm hf (by omega) b1 ⟨b3.1, by omega⟩

end Go.Proofs.Ytekhadlpcdjlpaa
