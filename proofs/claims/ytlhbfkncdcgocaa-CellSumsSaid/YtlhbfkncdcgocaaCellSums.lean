/- The walk of the statement CellSums: it returns true for every list and every two words; nothing that was there is changed. -/
import Derived.Test.YtlhbfkncdcgocaaCell
import Derived.Test.YtlhbfkncdcgocaaRead
import Derived.OpenShut
namespace Go.Proofs.Ytlhbfkncdcgocaa
open Go.RowKit
set_option linter.unusedVariables false

theorem sums_many (a : Option Addr) (zs : List Int) (cap : Nat) (o v : Int) (w : World) (hz : RowAt .u32 w a zs) (h60 : 60 < zs.length) (hm : zs.length ≤ maxLen) :
    Calls Try.prog 3 #[.slice a zs.length cap, .int .u32 o, .int .u32 v] w fun e w' => e = .returned (.bool true) ∧ Mod [] w w' := by
  unfold maxLen at hm
  go_enter Try.func3, Try.ntmps3
  go_wp2_with fail
  refine (cells_new 1 (by omega) _).mono ?_
  rintro e w1 ⟨p, d, rfl, h1, hp, hd, m1⟩
  go_wp2_with fail
  refine (awake02 _).mono ?_
  rintro e w2 ⟨rfl, m2⟩
  go_wp2
  go_ret
  exact ⟨rfl, m1.trans m2⟩

theorem sums_few (a : Option Addr) (zs : List Int) (cap : Nat) (o v : Int) (w : World) (hz : RowAt .u32 w a zs) (h60 : zs.length ≤ 60) :
    Calls Try.prog 3 #[.slice a zs.length cap, .int .u32 o, .int .u32 v] w fun e w' => e = .returned (.bool true) ∧ Mod [] w w' := by
  go_enter Try.func3, Try.ntmps3
  go_wp2_with fail
  refine (cells_new 1 (by omega) _).mono ?_
  rintro e w1 ⟨p, d, rfl, h1, hp, hd, m1⟩
  go_wp2_with fail
  go_loopw [38, 9] (fun i s wr => ∃ (k : Nat) (q : Int), k ≤ zs.length ∧ i = .int .i64 k ∧ s = .int .u32 q ∧ 0 ≤ q ∧ q < 4294967296 ∧ CellsAt wr p d [q] ∧ Mod [] w wr) (fun i _ _ => zs.length - (intOf i).toNat)
  case atStart => exact ⟨0, 0, by omega, rfl, rfl, by omega, by omega, h1, m1⟩
  case round =>
    obtain ⟨k, q, hk, rfl, rfl, hq0, hq1, hc, hm⟩ := hrel
    by_cases hlt : k < zs.length
    · obtain ⟨z, hzk⟩ : ∃ z, zs[k]? = some z := ⟨zs[k], by simp [hlt]⟩
      obtain ⟨hrow, hwf⟩ := hz
      have hb := bounds_u32 (hwf z (List.mem_of_getElem? hzk))
      rcases hrow with rfl | ⟨b, off, rfl, hcell⟩
      · simp at hlt
      have hck := hm.cell (hcell k z hzk) (by simp)
      clear hcell hwf
      go_wp2_with fail
      refine (cells_add p d 0 _ q z _ hc rfl (by simp) hq0 hq1).mono ?_
      rintro e w2 ⟨rfl, h2, m2⟩
      go_wp2
      go_roundw
      case rel => exact ⟨k + 1, (q + z) % 4294967296, by omega, by go_num, rfl, by omega, by omega, by simpa [IntKind.wrap_u32] using h2, hm.step m2 (by simp; omega)⟩
      case measure => simp [intOf]; omega
    · have hk' : k = zs.length := by omega
      subst hk'
      by_cases hqo : q = o
      · subst hqo
        go_wp2_with fail
        refine (cells_cas p d 0 _ q q v _ hc rfl (by simp)).mono ?_
        rintro e w2 ⟨rfl, h2, m2⟩
        rw [if_pos rfl] at h2
        go_wp2_with fail
        refine (cells_load p d 0 _ v _ h2 rfl (by simp)).mono ?_
        rintro e w3 ⟨rfl, rfl⟩
        go_wp2_with fail
        refine (cells_swap p d 0 _ v q _ h2 rfl (by simp)).mono ?_
        rintro e w4 ⟨rfl, h4, m4⟩
        go_wp2_with fail
        refine (cells_load p d 0 _ q _ h4 rfl (by simp)).mono ?_
        rintro e w5 ⟨rfl, rfl⟩
        go_wp2_with fail
        refine (awake02 _).mono ?_
        rintro e w6 ⟨rfl, m6⟩
        go_wp2
        go_ret
        exact ⟨rfl, ((hm.step m2 (by simp; omega)).step m4 (by simp; omega)).step m6 (by simp)⟩
      · have hoq : ¬ o = q := fun e => hqo e.symm
        go_wp2_with fail
        refine (cells_cas p d 0 _ q o v _ hc rfl (by simp)).mono ?_
        rintro e w2 ⟨rfl, h2, m2⟩
        rw [if_neg hqo] at h2
        go_wp2_with fail
        refine (cells_load p d 0 _ q _ h2 rfl (by simp)).mono ?_
        rintro e w3 ⟨rfl, rfl⟩
        go_wp2_with fail
        refine (cells_swap p d 0 _ q o _ h2 rfl (by simp)).mono ?_
        rintro e w4 ⟨rfl, h4, m4⟩
        go_wp2_with fail
        refine (cells_load p d 0 _ o _ h4 rfl (by simp)).mono ?_
        rintro e w5 ⟨rfl, rfl⟩
        go_wp2_with fail
        refine (awake02 _).mono ?_
        rintro e w6 ⟨rfl, m6⟩
        go_wp2
        go_ret
        exact ⟨rfl, ((hm.step m2 (by simp; omega)).step m4 (by simp; omega)).step m6 (by simp)⟩

theorem law_CellSums (w : World) (v0 v1 v2 : Value) (x0 : List Int) (x1 x2 : Int) (h0 : Sh.Arg w (.row (.int .u32)) x0 v0) (h1 : Sh.Arg w (.int .u32) x1 v1) (h2 : Sh.Arg w (.int .u32) x2 v2) :
    Calls Try.prog 3 #[v0, v1, v2] w fun e w' => e = .returned (.bool true) ∧ Mod [] w w' := by
  obtain ⟨a, cap, rfl, hr, hl, hm⟩ := arg_ints h0
  obtain ⟨rfl, _⟩ := h1
  obtain ⟨rfl, _⟩ := h2
  by_cases h60 : 60 < x0.length
  · exact sums_many a x0 cap x1 x2 w hr h60 (by omega)
  · exact sums_few a x0 cap x1 x2 w hr (by omega)

end Go.Proofs.Ytlhbfkncdcgocaa
