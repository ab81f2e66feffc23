/- The walk of the statement MemMakes. -/
import Derived.Test.YtekhadlpcdjlpaaMemAddress
namespace Go.Proofs.Ytekhadlpcdjlpaa
namespace Mem
open Go.RowKit
set_option linter.unusedVariables false

theorem makes_many (a : Option Addr) (len cap : Nat) (x m : Int) (w : World) (hl : 20 < len) (hm : len ≤ maxLen) :
    Calls Try.prog 5 #[.slice a len cap, .int .u32 x, .int .u8 m] w fun e w' => e = .returned (.bool true) ∧ Mod [] w w' := by
  unfold maxLen at hm
  go_enter Try.func5, Try.ntmps5
  go_wp2_with fail
  refine (awake09 _).mono ?_
  rintro e w2 ⟨rfl, m2⟩
  go_wp2
  go_ret
  exact ⟨rfl, m2⟩

theorem words_get (x n i : Nat) (h : i < n) : (words x n)[i]? = some (((x : Int) + (i : Int)) % 4294967296) := by simp [words, h]

theorem zeros_row {w : World} (n : Nat) : RowV (w.alloc (.cells (zeros n (.int .u32 0)) 35 (0, 0))) (some ⟨w.heap.size, 0, none⟩) (u32s (List.replicate n 0)) := by
  have := Blk.new w 35 (List.replicate n (.int .u32 0))
  have h := rowV_blk this
  simpa [u32s, zeros] using h

set_option maxRecDepth 100000 in
set_option maxHeartbeats 1000000 in
theorem makes_few (a : Option Addr) (sizes : List Int) (ns : List Nat) (cap x : Nat) (m : Int) (w : World) (hz : RowV w a (ints sizes)) (h0 : a = none → sizes.length = 0) (hl : sizes.length ≤ 20) (hf : Fine sizes ns)
    (hx : x < 4294967296) (hm : 0 ≤ m ∧ m ≤ 255) :
    Calls Try.prog 5 #[.slice a sizes.length cap, .int .u32 x, .int .u8 m] w fun e w' => e = .returned (.bool true) ∧ Mod [] w w' := by
  have HA := hid h0
  go_enter Try.func5, Try.ntmps5
  go_wp2_with fail
  refine (made_ a sizes ns cap x w hz h0 hf (by simp [maxLen]; omega) hx).mono ?_
  rintro e w1 ⟨m1, hres⟩
  clear h0
  rcases hres with ⟨hg, p, pc, dc, vs, vb, vl, rfl, hM, hown⟩ | ⟨hg, vl, rfl⟩
  · obtain ⟨al, cl, rfl, hle, hlm, _⟩ := ownsRow_form hown
    obtain ⟨hg1, hg2, hs⟩ := hg
    have hp0 : w1.cell? ⟨p, 0, none⟩ = _ := hM.box.cell rfl
    have hlen := cells_len pc dc _ w1 hM.cells
    rw [words_length] at hlen
    have hare := areas_ _ p pc dc vs vb ns _ w1 hM
    rw [← hg1] at hare
    have HG1 := hid hg1
    clear hg1 hown
    go_wp2_with fail
    refine hare.mono ?_
    rintro e w2 ⟨rfl, rfl⟩
    go_wp2_with fail
    refine hlen.mono ?_
    rintro e w2 ⟨rfl, rfl⟩
    clear hare hlen
    go_wp2_with fail
    refine (cells_words pc dc _ w1 hM.cells (by rw [words_length]; exact hs)).mono ?_
    rintro e w3 ⟨g, rfl, hg3, hB, m3⟩
    rw [words_length]
    go_wp2_with fail
    go_loop [76] (fun i => ∃ j : Nat, j ≤ ns.sum ∧ i = .int .i64 j) (fun i => ns.sum - (intOf i).toNat)
    case atStart => exact ⟨0, by omega, rfl⟩
    case round =>
      obtain ⟨j, hj, rfl⟩ := hrel
      by_cases hlt : j < ns.sum
      · have hcj : w3.cell? ⟨g, j, none⟩ = some (.int .u32 (((x : Int) + (j : Int)) % 4294967296)) := hB.cell (by simp [words_get, hlt])
        have hjm : (j : Int) % 4294967296 = (j : Int) := by omega
        go_wp2_with fail
        go_round
        case rel => exact ⟨j + 1, by omega, by go_num⟩
        case measure => simp [intOf]; omega
      · have hj' : j = ns.sum := by omega
        subst hj'
        obtain ⟨i0, hi, hz0, hz1, hz2⟩ := info_parts info_u
        have hmk := fun (n : Nat) (z : Int) (hz : z = (n : Int)) (hn : n ≤ 10000) => make_zerosI (P := Try.prog) 27 35 i0 (.int .u32 0) (.int .u32 0) 4 Try.underlying27 hi hz0 hz1 hz2 rfl n z hz (by omega) (by omega) w3
        have hzw := hz.mod0 (m1.trans m3)
        have hnew := fun (n : Nat) (hn : n ≤ 10000) => memnew_few a (some ⟨w3.heap.size, 0, none⟩) sizes ns cap n n (List.replicate n 0) _ (hzw.mod0 ((Mod.refl [] w3).alloc _)) HA.out hf hg2 (by simp) (by omega) (zeros_row (w := w3) n)
        have m13 := m1.trans m3
        clear hi hz0 hz1 hz2 hz hp0 hB hlt hj hzw
        obtain ⟨q, hq⟩ : ∃ q : Int, (ns.sum : Int) + m % 5 - 2 = q := ⟨_, rfl⟩
        have hq1 : q ≤ 8194 := by omega
        have hq2 : -2 ≤ q := by omega
        have hm5 : m % 5 ≤ 4 ∧ 0 ≤ m % 5 := by omega
        obtain ⟨K, hK⟩ : ∃ K : Nat, (if q < 0 then 0 else q) = (K : Int) := ⟨(if q < 0 then 0 else q).toNat, by split <;> omega⟩
        have hKl : K ≤ 10000 := by split at hK <;> omega
        have hnewK := hnew K hKl
        clear hnew
        by_cases hqn : q < 0
        · rw [if_pos hqn] at hK
          have hK0 : K = 0 := by omega
          subst hK0
          have hmk0 := hmk 0 0 rfl (by decide)
          clear hmk hK
          by_cases hKs : 0 = ns.sum
          · have hb : ((0 : Int) == (ns.sum : Int)) = true := by simp; omega
            have HK := hid hKs
            clear hKs
            go_wp2_with fail
            refine hnewK.mono ?_
            rintro e w4 ⟨m4, hres⟩
            rw [if_pos ⟨HG1.out, by have := HG1.out; omega, hs, by simpa using HK.out⟩] at hres
            obtain ⟨p2, pc2, dc2, vs2, vb2, rfl, _⟩ := hres
            clear hnewK
            go_wp2_with fail
            refine (awake09 _).mono ?_
            rintro e w5 ⟨rfl, m5⟩
            go_wp2
            go_ret
            exact ⟨rfl, ((m13.alloc _).trans m4).trans m5⟩
          · have hb : ((0 : Int) == (ns.sum : Int)) = false := by simp; omega
            have HK := hid hKs
            clear hKs
            go_wp2_with fail
            refine hnewK.mono ?_
            rintro e w4 ⟨m4, hres⟩
            rw [if_neg (fun h => HK.out (by simpa using h.2.2.2))] at hres
            subst hres
            clear hnewK
            go_wp2_with fail
            refine (awake09 _).mono ?_
            rintro e w5 ⟨rfl, m5⟩
            go_wp2
            go_ret
            exact ⟨rfl, ((m13.alloc _).trans m4).trans m5⟩
        · rw [if_neg hqn] at hK
          subst hK
          have hmkK := hmk K K rfl hKl
          clear hmk
          by_cases hKs : K = ns.sum
          · have hb : ((K : Int) == (ns.sum : Int)) = true := by simp; omega
            have HK := hid hKs
            clear hKs
            go_wp2_with fail
            refine hnewK.mono ?_
            rintro e w4 ⟨m4, hres⟩
            rw [if_pos ⟨HG1.out, by have := HG1.out; omega, hs, by simpa using HK.out⟩] at hres
            obtain ⟨p2, pc2, dc2, vs2, vb2, rfl, _⟩ := hres
            clear hnewK
            go_wp2_with fail
            refine (awake09 _).mono ?_
            rintro e w5 ⟨rfl, m5⟩
            go_wp2
            go_ret
            exact ⟨rfl, ((m13.alloc _).trans m4).trans m5⟩
          · have hb : ((K : Int) == (ns.sum : Int)) = false := by simp; omega
            have HK := hid hKs
            clear hKs
            go_wp2_with fail
            refine hnewK.mono ?_
            rintro e w4 ⟨m4, hres⟩
            rw [if_neg (fun h => HK.out (by simpa using h.2.2.2))] at hres
            subst hres
            clear hnewK
            go_wp2_with fail
            refine (awake09 _).mono ?_
            rintro e w5 ⟨rfl, m5⟩
            go_wp2
            go_ret
            exact ⟨rfl, ((m13.alloc _).trans m4).trans m5⟩
  · go_wp2_with fail
    refine (awake09 _).mono ?_
    rintro e w3 ⟨rfl, m3⟩
    go_wp2
    go_ret
    exact ⟨rfl, m1.trans m3⟩

end Mem

theorem law_MemMakes (w : World) (v0 v1 v2 : Value) (x0 : List Int) (x1 x2 : Int) (h0 : Sh.Arg w (.row (.int .i64)) x0 v0) (h1 : Sh.Arg w (.int .u32) x1 v1) (h2 : Sh.Arg w (.int .u8) x2 v2) :
    Calls Try.prog 5 #[v0, v1, v2] w fun e w' => e = .returned (.bool true) ∧ Mod [] w w' := by
  obtain ⟨a, cap, hv, hr, hn, hl, hm⟩ := Mem.row_of h0
  simp only [List.cons.injEq, and_true] at hv
  subst hv
  obtain ⟨rfl, hw1⟩ := h1
  obtain ⟨rfl, hw2⟩ := h2
  have b1 := bounds_u32 hw1
  have b2 := bounds_u8 hw2
  by_cases h : 20 < x0.length
  · exact Mem.makes_many a _ cap x1 x2 w h (by omega)
  · obtain ⟨ns, hf⟩ := Mem.fine_of x0
    obtain ⟨vn, rfl⟩ : ∃ vn : Nat, x1 = (vn : Int) := ⟨x1.toNat, by omega⟩
    exact Mem.makes_few a x0 ns cap vn x2 w hr hn (by omega) hf (by omega) b2

end Go.Proofs.Ytekhadlpcdjlpaa
