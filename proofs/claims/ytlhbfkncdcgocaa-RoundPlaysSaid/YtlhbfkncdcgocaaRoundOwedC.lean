/- The contract of Rounds.Owed. -/
import Derived.Test.YtlhbfkncdcgocaaRound
import Derived.Test.YtlhbfkncdcgocaaApp
namespace Go.Proofs.Ytlhbfkncdcgocaa
namespace Round
open Go.RowKit
set_option linter.unusedVariables false

/-- Who is owed, of the first n. -/
def owedL (owed n : Nat) : List Nat := (List.range n).filter (fun t => owed.testBit t)

theorem owedL_succ (owed n : Nat) : owedL owed (n + 1) = if owed.testBit n then owedL owed n ++ [n] else owedL owed n := by
  unfold owedL
  rw [List.range_succ, List.filter_append]
  cases h : owed.testBit n <;> simp [h]

def ints (l : List Nat) : List Value := l.map fun (t : Nat) => .int .i64 (t : Int)

theorem owedL_len (owed n : Nat) : (owedL owed n).length ≤ n := by
  have := List.length_filter_le (fun t => owed.testBit t) (List.range n)
  simpa [owedL] using this

theorem info_int_r : (Try.prog.info? 3).map (fun i => (i.zero, i.size, i.bytes)) = some (some (.int .i64 0), 1, 8) := by kernel_rfl

theorem bit_at (m k : Nat) (hm : m < 18446744073709551616) : bits .and .u64 ((m : Int) / 2 ^ k) 1 = if m.testBit k then 1 else 0 := by
  have e : (m : Int) / 2 ^ k = ((m / 2 ^ k : Nat) : Int) := by simp
  have hd : m / 2 ^ k < 18446744073709551616 := Nat.lt_of_le_of_lt (Nat.div_le_self _ _) hm
  have h := u64_and_nat (m / 2 ^ k) 1 hd (by omega)
  rw [e]
  have h1 : ((1 : Nat) : Int) = 1 := rfl
  rw [h1] at h
  rw [h, Nat.and_one_is_mod, Nat.testBit_eq_decide_div_mod_eq]
  by_cases q : m / 2 ^ k % 2 = 1
  · simp [q]
  · have : m / 2 ^ k % 2 = 0 := by omega
    simp [this]

def OwedIs (w : World) (owed n : Nat) (e : Ending) (w' : World) : Prop :=
  ∃ v, e = .returned v ∧ Owns w' w.heap.size 3 v (ints (owedL owed n)) ∧ Mod [] w w'

set_option maxRecDepth 100000 in
theorem owed_ (p n count : Nat) (under : Bool) (owed : Nat) (w : World) (h : At w p n count under owed) (hn : n ≤ 64) (ho : owed < 18446744073709551616) :
    Calls Try.prog 52 #[.pointer (some ⟨p, 0, none⟩)] w (OwedIs w owed n) := by
  have hb0 : w.cell? ⟨p, 0, none⟩ = _ := Blk.cell h rfl
  have hpl := Blk.lt h
  go_enter Try.func52, Try.ntmps52
  go_wp2
  clear hb0
  go_loopw [9, 3] (fun i v wr => ∃ k : Nat, k ≤ n ∧ i = .int .i64 k ∧ At wr p n count under owed ∧ Owns wr w.heap.size 3 v (ints (owedL owed k)) ∧ Mod [] w wr) (fun i _ _ => n - (intOf i).toNat)
  case atStart => exact ⟨0, by omega, rfl, h, by simpa [owedL, ints] using Owns.nil w w.heap.size 3, Mod.refl _ _⟩
  case round =>
    clear h
    obtain ⟨k, hk, rfl, hR, hown, hm⟩ := hrel
    by_cases hlt : k < n
    · have hb3 : wr.cell? ⟨p, 3, none⟩ = _ := Blk.cell hR rfl
      have hbit := bit_at owed k ho
      by_cases hb : owed.testBit k
      · rw [if_pos hb] at hbit
        have hlen := owedL_len owed k
        obtain ⟨i0, hi, hz0, hz1, hz2⟩ := info_parts info_int_r
        obtain ⟨v', wA, hrun, hown', hmA, hbA⟩ := append_one (P := Try.prog) wr w.heap.size 33 33 3 i0 (.int .i64 0) 8 Try.underlying33 hi hz0 hz1 hz2 rfl hown (.int .i64 k) rfl (by simp [ints, maxLen]; omega) (by simp [ints]; omega) hm.size
        have hmB := hmA _ _ hm (Nat.le_refl _)
        have hRB : At wA p n count under owed := hbA _ _ _ hR hpl
        clear hi hz0 hz1 hz2 hmA hbA
        go_wp2_with (at_builtin; refine wpList_append_run rfl _ _ _ _ rfl _ _ rfl rfl _ _ hrun ?_)
        go_round
        case rel => exact ⟨k + 1, by omega, by go_num, hRB, by rw [owedL_succ, if_pos hb]; simpa [ints] using hown', hmB⟩
        case measure => simp [intOf]; omega
      · rw [if_neg hb] at hbit
        go_wp2
        go_round
        case rel => exact ⟨k + 1, by omega, by go_num, hR, by rw [owedL_succ, if_neg hb]; exact hown, hm⟩
        case measure => simp [intOf]; omega
    · have : k = n := by omega
      subst this
      go_wp2
      go_ret
      exact ⟨_, rfl, hown, hm⟩
end Round
end Go.Proofs.Ytlhbfkncdcgocaa
