/- Contracts of layer 9 (mem): what the statements make. -/
import Derived.Test.YtekhadlpcdjlpaaMem2
namespace Go.Proofs.Ytekhadlpcdjlpaa
namespace Mem
open Go.RowKit
set_option linter.unusedVariables false

/-- The words that are numbered from a word on. -/
def words (x n : Nat) : List Int := (List.range n).map fun (i : Nat) => ((x : Int) + (i : Int)) % 4294967296
theorem words_length (x n : Nat) : (words x n).length = n := by simp [words]
theorem words_succ (x n : Nat) : words x (n + 1) = words x n ++ [((x : Int) + (n : Int)) % 4294967296] := by simp [words, List.range_succ]

def Good (sizes : List Int) (ns : List Nat) : Prop := sizes.length = ns.length ∧ sizes.length ≤ 8 ∧ ns.sum ≤ 8192

def MadeIs (w : World) (sizes : List Int) (ns : List Nat) (x : Nat) (e : Ending) (w' : World) : Prop :=
  Mod [] w w' ∧ ((Good sizes ns ∧ ∃ p pc dc vs vb vl, e = .returned (.tuple #[.pointer (some ⟨p, 0, none⟩), .int .i64 0, vl, .bool true]) ∧ MemAt w' w.heap.size p pc dc vs vb ns (words x ns.sum) ∧ w'.ownsRow w.heap.size 37 2 vl ns.sum (flat2 (cells ns))) ∨
    (¬ Good sizes ns ∧ ∃ vl, e = .returned (.tuple #[.pointer none, .int .i64 1, vl, .bool false])))

theorem info_u : (Try.prog.info? 35).map (fun i => (i.zero, i.size, i.bytes)) = some (some (.int .u32 0), 1, 4) := by kernel_rfl

set_option maxRecDepth 100000 in
set_option maxHeartbeats 1000000 in
theorem made_ (a : Option Addr) (sizes : List Int) (ns : List Nat) (cap x : Nat) (w : World) (hz : RowV w a (ints sizes)) (h0 : a = none → sizes.length = 0) (hf : Fine sizes ns) (hm : sizes.length ≤ maxLen) (hx : x < 4294967296) :
    Calls Try.prog 26 #[.slice a sizes.length cap, .int .u32 x] w (MadeIs w sizes ns x) := by
  have hcells : Calls Try.prog 21 #[.slice a sizes.length cap] w (CellsIs w sizes ns) := by
    by_cases h8 : sizes.length ≤ 8
    · exact refcells_few a sizes ns cap w hz hf h8
    · exact refcells_many a sizes ns cap w (by omega) hm
  go_enter Try.func26, Try.ntmps26
  go_wp2_with fail
  refine hcells.mono ?_
  rintro e w1 ⟨m1, hres⟩
  clear hcells
  by_cases hc : sizes.length = ns.length ∧ sizes.length ≤ 8
  · rw [if_pos hc] at hres
    obtain ⟨vl, rfl, hown⟩ := hres
    obtain ⟨al, cl, rfl, hle, hlm, _⟩ := ownsRow_form hown
    have hsum : ns.sum ≤ 32768 := by have := hf.sum_le hc.2 ns.length; rwa [List.take_length] at this
    have HO := hid hown
    have HC := hid hc
    have hw1 := m1.size
    clear hown hc
    go_wp2_with fail
    go_loopw [21, 10] (fun i v wr => ∃ (j : Nat), j ≤ ns.sum ∧ i = .int .i64 j ∧ Owns wr w1.heap.size 35 v (u32s (words x j)) ∧ Mod [] w1 wr) (fun i _ _ => ns.sum - (intOf i).toNat)
    case atStart => exact ⟨0, by omega, rfl, by simpa [words, u32s] using Owns.nil w1 w1.heap.size 35, Mod.refl _ _⟩
    case round =>
      obtain ⟨j, hj, rfl, hown, hmj⟩ := hrel
      have hwl : (u32s (words x j)).length = j := by simp [u32s, words]
      by_cases hlt : j < ns.sum
      · obtain ⟨i0, hi, hz0, hz1, hz2⟩ := info_parts info_u
        obtain ⟨a', c', wA, hrun, hown', hmA, _⟩ := append_one2 (P := Try.prog) wr w1.heap.size 27 27 35 i0 (.int .u32 0) 4 Try.underlying27 hi hz0 hz1 hz2 rfl hown (.int .u32 (((x : Int) + (j : Int)) % 4294967296)) rfl (by rw [hwl]; simp [maxLen]; omega) (by rw [hwl]; omega) hmj.size
        have hm' := hmA _ _ hmj (Nat.le_refl _)
        rw [hwl] at hrun hown'
        have hjm : (j : Int) % 4294967296 = (j : Int) := by omega
        clear hi hz0 hz1 hz2 hmA hwl
        go_wp2_with (at_builtin; refine wpList_append_run rfl _ _ _ _ rfl _ _ rfl rfl _ _ hrun ?_)
        go_round
        case rel => exact ⟨j + 1, by omega, by go_num, by rw [words_succ]; simpa [u32s] using hown', hm'⟩
        case measure => simp [intOf]; omega
      · have hj' : j = ns.sum := by omega
        subst hj'
        obtain ⟨ai, ci, hv, hri, _⟩ := hown.row
        rw [hwl] at hv
        subst hv
        have h8 := HC.out.2
        have hnew := memnew_few a ai sizes ns cap ns.sum ci (words x ns.sum) wr (hz.mod0 (m1.trans hmj)) h0 hf h8 (words_length x ns.sum) (by omega) hri
        have HI := hid h0
        have HW := hid hwl
        clear h0 hf hz hwl
        go_wp2_with fail
        refine hnew.mono ?_
        rintro e w3 ⟨m3, hres⟩
        clear hnew
        have hwr := hmj.size
        by_cases hs : ns.sum ≤ 8192
        · rw [if_pos ⟨HC.out.1, by have := HC.out; omega, hs, words_length _ _⟩] at hres
          obtain ⟨p, pc, dc, vs, vb, rfl, hM⟩ := hres
          go_wp2_with fail
          refine bodyPost_ret (v := .tuple #[.pointer (some ⟨p, 0, none⟩), .int .i64 0, .slice al ns.sum cl, .bool true]) (by simp [results, Try.results26, go_sem]) rfl ?_
          refine ⟨(m1.trans hmj).trans m3, .inl ⟨⟨HC.out.1, HC.out.2, hs⟩, p, pc, dc, vs, vb, _, rfl, hM.base (by omega), ownsRow_mod HO.out (hmj.trans m3) (by simp)⟩⟩
        · rw [if_neg (fun h => hs h.2.2.1)] at hres
          subst hres
          go_wp2_with fail
          refine bodyPost_ret (v := .tuple #[.pointer none, .int .i64 1, .slice al ns.sum cl, .bool false]) (by simp [results, Try.results26, go_sem]) rfl ?_
          refine ⟨(m1.trans hmj).trans m3, .inr ⟨fun h => hs h.2.2, _, rfl⟩⟩
  · rw [if_neg hc] at hres
    subst hres
    have HC := hid hc
    clear hc
    have hnew : Calls Try.prog 23 #[.slice a sizes.length cap, .slice none 0 0] w1 (NewIs w1 sizes ns []) := by
      by_cases h8 : sizes.length ≤ 8
      · exact memnew_few a none sizes ns cap 0 0 [] w1 (hz.mod0 m1) h0 hf h8 rfl (by omega) (.inl rfl)
      · exact memnew_many a none sizes ns cap 0 0 [] w1 (by omega) hm
    clear h0 hf hz
    go_wp2_with fail
    go_loop [21, 10] (fun i v => i = .int .i64 0 ∧ v = .slice none 0 0) (fun _ _ => 0)
    case atStart => exact ⟨rfl, rfl⟩
    case round =>
      obtain ⟨rfl, rfl⟩ := hrel
      go_wp2_with fail
      refine hnew.mono ?_
      rintro e w3 ⟨m3, hres⟩
      clear hnew
      rw [if_neg (fun h => HC.out ⟨h.1, by omega⟩)] at hres
      subst hres
      go_wp2_with fail
      refine bodyPost_ret (v := .tuple #[.pointer none, .int .i64 1, .slice none 0 0, .bool false]) (by simp [results, Try.results26, go_sem]) rfl ?_
      exact ⟨m1.trans m3, .inr ⟨fun h => HC.out ⟨h.1, h.2.1⟩, _, rfl⟩⟩

end Mem
end Go.Proofs.Ytekhadlpcdjlpaa
