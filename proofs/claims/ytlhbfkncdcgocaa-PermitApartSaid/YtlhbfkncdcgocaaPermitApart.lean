/- The walk of the statement PermitApart. -/
import Derived.Test.YtlhbfkncdcgocaaPermitSet
import Derived.Test.YtlhbfkncdcgocaaRead
import Derived.Deep.DeepCutAuto
import Derived.Laws.Bits64
import Derived.BigQuiet
import Derived.Deep.QuietTactic
namespace Go.Proofs.Ytlhbfkncdcgocaa
open Go.RowKit
set_option linter.unusedVariables false
namespace Permit

theorem bit_at (m k : Nat) (hm : m < 18446744073709551616) : bits .and .u64 ((m : Int) / 2 ^ k) 1 = if m.testBit k then 1 else 0 := by
  have e : (m : Int) / 2 ^ k = ((m / 2 ^ k : Nat) : Int) := by simp
  have hd : m / 2 ^ k < 18446744073709551616 := Nat.lt_of_le_of_lt (Nat.div_le_self _ _) hm
  have h := u64_and_nat (m / 2 ^ k) 1 hd (by omega)
  rw [e]
  have h1 : ((1 : Nat) : Int) = 1 := rfl
  rw [h1] at h
  rw [h, Nat.and_one_is_mod, Nat.testBit_eq_decide_div_mod_eq]
  by_cases q : m / 2 ^ k % 2 = 1
  · simp [q]
  · have : m / 2 ^ k % 2 = 0 := by omega
    simp [this]

/-- Who has one behind the first k bits. -/
def bsOf (g k : Nat) : List Bool := (List.range 64).map fun j => decide (j < k) && g.testBit j
theorem bsOf_len (g k : Nat) : (bsOf g k).length = 64 := by simp [bsOf]
theorem bsOf_get (g k j : Nat) (h : j < 64) : (bsOf g k)[j]? = some (decide (j < k) && g.testBit j) := by simp [bsOf, h]
theorem bsOf_zero (g : Nat) : bsOf g 0 = List.replicate 64 false := by
  unfold bsOf
  simp only [Nat.not_lt_zero, decide_false, Bool.false_and]
  rfl
theorem bsOf_succ (g k : Nat) (h : k < 64) : bsOf g (k + 1) = (bsOf g k).set k (g.testBit k) := by
  apply List.ext_getElem?
  intro j
  by_cases hj : j < 64
  · rw [bsOf_get g (k + 1) j hj]
    by_cases hjk : k = j
    · subst hjk
      simp [bsOf_len, h]
    · rw [List.getElem?_set_ne hjk, bsOf_get g k j hj]
      congr 2
      rw [decide_eq_decide]
      omega
  · rw [List.getElem?_eq_none (by simp [bsOf]; omega), List.getElem?_eq_none (by simp [bsOf]; omega)]
theorem many_set (l : List Bool) (i : Nat) (b c : Bool) (h : l[i]? = some b) : many (l.set i c) + (if b then 1 else 0) = many l + (if c then 1 else 0) := by
  unfold many
  induction l generalizing i with
  | nil => simp at h
  | cons x l ih =>
    cases i with
    | zero =>
      simp at h
      subst h
      cases x <;> cases c <;> simp
    | succ i =>
      have := ih i (by simpa using h)
      rw [List.set_cons_succ]
      cases x <;> simp <;> omega

set_option maxRecDepth 100000 in
set_option maxHeartbeats 1000000 in
theorem apart_ (g t : Int) (w : World) (hg : 0 ≤ g ∧ g ≤ 18446744073709551615) (ht : 0 ≤ t ∧ t ≤ 255) :
    Calls Try.prog 15 #[.int .u64 g, .int .u8 t] w fun e w' => e = .returned (.bool true) ∧ Mod [] w w' := by
  obtain ⟨gn, rfl⟩ : ∃ q : Nat, g = q := ⟨g.toNat, by omega⟩
  have hgn : gn < 18446744073709551616 := by omega
  obtain ⟨kk, hkk, hk64⟩ : ∃ q : Nat, t % 64 = q ∧ q < 64 := ⟨(t % 64).toNat, by omega, by omega⟩
  go_enter Try.func15, Try.ntmps15
  go_wp2_with fail
  refine (new_ 64 _ (by decide) (by decide)).mono ?_
  rintro e w1 ⟨p, d, cap, cs, rfl, hC, hl, hb, m1⟩
  have hx : ∀ x, x ∈ cs → x < w.heap.size → x ∈ ([] : List Nat) := fun x hx hlt => by have := hb x (.inr (.inr hx)); omega
  have HX := hid hx
  clear hx
  rw [← bsOf_zero gn] at hC
  go_wp2_with fail
  go_loopw [21, 7] (fun i m wr => ∃ (k : Nat), k ≤ 64 ∧ i = .int .i64 k ∧ m = .int .i64 (many (bsOf gn k)) ∧ C wr p d cap cs (bsOf gn k) ∧ Mod [] w wr) (fun i _ _ => 64 - (intOf i).toNat)
  case atStart => exact ⟨0, by omega, rfl, by rw [bsOf_zero]; rfl, hC, m1⟩
  case round =>
    clear hC m1
    obtain ⟨k, hk, rfl, rfl, hC, hm⟩ := hrel
    have hml := many_le (bsOf gn k) 64
    rw [List.take_of_length_le (by rw [bsOf_len]; omega)] at hml
    by_cases hlt : k < 64
    · have hbit := bit_at gn k hgn
      have hs := bsOf_succ gn k hlt
      have hat : (bsOf gn k)[k]? = some false := by rw [bsOf_get gn k k hlt]; simp
      have hms := many_set (bsOf gn k) k false (gn.testBit k) hat
      rw [← hs] at hms
      have hgive := give_in p d cap cs _ _ hC k (by omega) false hat
      have HM := hid hms
      have HS := hid hs
      have hc2 : gn.testBit k = false → C wr p d cap cs (bsOf gn (k + 1)) := fun h => by rw [HS.out, h, set_same hat]; exact hC
      clear hat hms hs
      cases hbt : gn.testBit k with
      | true =>
        have hbit2 : (bits BinOp.and IntKind.u64 ((gn : Int) / 2 ^ k) 1 == 1) = true := by rw [hbit, hbt]; rfl
        rw [← hbt, ← HS.out] at hgive
        have hm3 : (many (bsOf gn k) : Int) + 1 = (many (bsOf gn (k + 1)) : Int) := by have := HM.out; rw [hbt] at this; simp at this; omega
        have HM3 := hid hm3
        clear hbit hc2 hbt hm3
        go_wp2_with fail
        refine hgive.mono ?_
        rintro e w2 ⟨rfl, hC2, m2⟩
        go_wp2
        go_roundw
        case rel => exact ⟨k + 1, by omega, by go_num, by rw [HM3.out], hC2, hm.step m2 HX.out⟩
        case measure => simp [intOf]; omega
      | false =>
        have hbit2 : (bits BinOp.and IntKind.u64 ((gn : Int) / 2 ^ k) 1 == 1) = false := by rw [hbit, hbt]; rfl
        have hm3 : (many (bsOf gn k) : Int) = (many (bsOf gn (k + 1)) : Int) := by have := HM.out; rw [hbt] at this; simp at this; omega
        have HM3 := hid hm3
        have hC2 := hc2 hbt
        clear hbit hc2 hbt hgive hm3
        go_wp2
        go_roundw
        case rel => exact ⟨k + 1, by omega, by go_num, by rw [HM3.out], hC2, hm⟩
        case measure => simp [intOf]; omega
    · have hk' : k = 64 := by omega
      subst hk'
      have hatk : (bsOf gn 64)[kk]? = some (gn.testBit kk) := by rw [bsOf_get gn 64 kk hk64]; simp [hk64]
      have hms := many_set (bsOf gn 64) kk (gn.testBit kk) false hatk
      have htake := take_in p d cap cs _ _ hC kk (by omega) _ hatk
      obtain ⟨fin, hfin⟩ : ∃ fin, (bsOf gn 64).set kk false = fin := ⟨_, rfl⟩
      rw [hfin] at hms htake
      have hget : ∀ j, j < 64 → fin[j]? = some (gn.testBit j && decide (j ≠ kk)) := by
        intro j hj
        rw [← hfin]
        by_cases hjk : kk = j
        · subst hjk
          simp [bsOf_len, hj]
        · rw [List.getElem?_set_ne hjk, bsOf_get gn 64 j hj]
          simp [hj]
          intro _ e
          exact absurd e.symm hjk
      have HG := hid hget
      have HM := hid hms
      clear hatk hms hfin hget
      go_wp2_with fail
      rw [hkk]
      refine htake.mono ?_
      rintro e w2 ⟨rfl, hC2, m2⟩
      have mW := hm.step m2 HX.out
      clear hC htake
      go_wp2_with fail
      go_loopw [41] (fun i wx => ∃ (j : Nat), j ≤ 64 ∧ i = .int .i64 j ∧ C wx p d cap cs fin ∧ Mod [] w wx) (fun i _ => 64 - (intOf i).toNat)
      case atStart => exact ⟨0, by omega, rfl, hC2, mW⟩
      case round =>
        clear hC2 m2 mW
        obtain ⟨j, hj, rfl, hC, hm⟩ := hrel
        by_cases hlt : j < 64
        · have hbit := bit_at gn j hgn
          have hat := HG.out j hlt
          have hCn : ∀ n, C (wr.drewN n) p d cap cs fin := fun n => hC.mod ((Mod.refl [] _).drewN n) (by simp) (by simp) (by simp)
          cases hbt : gn.testBit j with
          | true =>
            have hbit2 : (bits BinOp.and IntKind.u64 ((gn : Int) / 2 ^ j) 1 == 1) = true := by rw [hbit, hbt]; rfl
            by_cases hjk : j = kk
            · have hat2 : fin[j]? = some false := by rw [hat, hbt, hjk]; simp
              have hne : ((j : Int) != (kk : Int)) = false := by simp [hjk]
              clear hbit hat hbt hjk
              go_wp2_with fail
              go_quiet ((go_at_call 59; exact calls_same (has_in p d cap cs _ _ (hCn _) j (by omega) false hat2)))
              go_wp2_with fail
              go_roundw
              case rel => exact ⟨j + 1, by omega, by go_num, hCn _, hm.drewN _⟩
              case measure => simp [intOf]; omega
            · have hat2 : fin[j]? = some true := by rw [hat, hbt]; simp [hjk]
              have hne : ((j : Int) != (kk : Int)) = true := by simp; omega
              clear hbit hat hbt hjk
              go_wp2_with fail
              go_quiet ((go_at_call 59; exact calls_same (has_in p d cap cs _ _ (hCn _) j (by omega) true hat2)))
              go_wp2_with fail
              go_roundw
              case rel => exact ⟨j + 1, by omega, by go_num, hCn _, hm.drewN _⟩
              case measure => simp [intOf]; omega
          | false =>
            have hbit2 : (bits BinOp.and IntKind.u64 ((gn : Int) / 2 ^ j) 1 == 1) = false := by rw [hbit, hbt]; rfl
            have hat2 : fin[j]? = some false := by rw [hat, hbt]; simp
            clear hbit hat hbt
            go_wp2_with fail
            go_quiet ((go_at_call 59; exact calls_same (has_in p d cap cs _ _ (hCn _) j (by omega) false hat2)))
            go_wp2_with fail
            go_roundw
            case rel => exact ⟨j + 1, by omega, by go_num, hCn _, hm.drewN _⟩
            case measure => simp [intOf]; omega
        · have hlen := len_ p d cap cs fin _ hC
          have hbit := bit_at gn kk hgn
          cases hbt : gn.testBit kk with
          | true =>
            have hbit2 : (bits BinOp.and IntKind.u64 ((gn : Int) / 2 ^ kk) 1 == 1) = true := by rw [hbit, hbt]; rfl
            have hmf : (many (bsOf gn 64) : Int) - 1 = (many fin : Int) := by have := HM.out; rw [hbt] at this; simp at this; omega
            clear hbit hbt
            go_wp2_with fail
            refine hlen.mono ?_
            rintro e w5 ⟨rfl, rfl⟩
            go_wp2_with fail
            refine (awake04 _).mono ?_
            rintro e w6 ⟨rfl, m6⟩
            go_wp2
            go_ret
            exact ⟨rfl, hm.trans m6⟩
          | false =>
            have hbit2 : (bits BinOp.and IntKind.u64 ((gn : Int) / 2 ^ kk) 1 == 1) = false := by rw [hbit, hbt]; rfl
            have hmf : (many (bsOf gn 64) : Int) = (many fin : Int) := by have := HM.out; rw [hbt] at this; simp at this; omega
            clear hbit hbt
            go_wp2_with fail
            refine hlen.mono ?_
            rintro e w5 ⟨rfl, rfl⟩
            go_wp2_with fail
            refine (awake04 _).mono ?_
            rintro e w6 ⟨rfl, m6⟩
            go_wp2
            go_ret
            exact ⟨rfl, hm.trans m6⟩
end Permit

theorem law_PermitApart (w : World) (v0 v1 : Value) (x0 x1 : Int) (h0 : Sh.Arg w (.int .u64) x0 v0) (h1 : Sh.Arg w (.int .u8) x1 v1) :
    Calls Try.prog 15 #[v0, v1] w fun e w' => e = .returned (.bool true) ∧ Mod [] w w' := by
  obtain ⟨rfl, hw0⟩ := h0
  obtain ⟨rfl, hw1⟩ := h1
  exact Permit.apart_ x0 x1 w (bounds_u64 hw0) (bounds_u8 hw1)

end Go.Proofs.Ytlhbfkncdcgocaa
