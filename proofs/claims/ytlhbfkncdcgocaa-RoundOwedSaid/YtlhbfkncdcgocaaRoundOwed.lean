/- The walk of the statement RoundOwed. -/
import Derived.Test.YtlhbfkncdcgocaaRoundOwedC
import Derived.Test.YtlhbfkncdcgocaaToldRead
namespace Go.Proofs.Ytlhbfkncdcgocaa
open Go.RowKit
set_option linter.unusedVariables false
set_option linter.unusedSimpArgs false

namespace Owed
/-- One call that was told: the row's address, who was busy, its room, who was picked. -/
structure S where
  a : Option Addr
  l : List Bool
  c : Nat
  p : Int

def cells2 (ss : List S) : List Value := ss.flatMap fun x => [.slice x.a x.l.length x.c, .int .i64 x.p]

theorem cells2_len (ss : List S) : (cells2 ss).length = ss.length * 2 := by
  induction ss with
  | nil => rfl
  | cons x ss ih => simp only [cells2, List.flatMap_cons, List.length_append, List.length_cons, List.length_nil] at ih ⊢; omega

theorem cells2_get : ∀ (ss : List S) (k : Nat) (x : S), ss[k]? = some x → (cells2 ss)[k * 2]? = some (.slice x.a x.l.length x.c) ∧ (cells2 ss)[k * 2 + 1]? = some (.int .i64 x.p) := by
  intro ss
  induction ss with
  | nil => intro k x h; simp at h
  | cons y ss ih =>
    intro k x h
    cases k with
    | zero => simp at h; subst h; simp [cells2]
    | succ k =>
      have := ih k x (by simpa using h)
      have e : (k + 1) * 2 = k * 2 + 1 + 1 := by omega
      rw [e]
      simpa [cells2] using this

/-- Who is owed was busy, and was not picked, at each call since the round began. -/
def Since (under : Bool) (owed : Nat) (ss : List S) : Prop :=
  (under = false → ss = []) ∧ (under = true → ∀ t, owed.testBit t = true → ss ≠ [] ∧ ∀ x ∈ ss, x.l[t]? = some true ∧ x.p ≠ (t : Int))

theorem since_start : Since false 0 [] := ⟨fun _ => rfl, fun h => by cases h⟩

theorem since_step (n : Nat) (under : Bool) (owed : Nat) (ss : List S) (x : S) (hn : n ≤ 64) (h : Since under owed ss) (o2 : Nat) (ho : Round.next x.l n under owed x.p = o2) :
    Since (decide (o2 ≠ 0)) o2 (if o2 = 0 then [] else ss ++ [x]) := by
  by_cases h0 : o2 = 0
  · subst h0
    exact ⟨fun _ => by simp, fun h => by simp at h⟩
  · refine ⟨fun h => by simp [h0] at h, fun _ t ht => ?_⟩
    rw [if_neg h0]
    rw [← ho, Round.next_testBit x.l n under owed x.p hn t] at ht
    simp only [Bool.and_eq_true, decide_eq_true_eq] at ht
    obtain ⟨⟨h1, h2⟩, h3⟩ := ht
    refine ⟨by simp, fun y hy => ?_⟩
    rcases List.mem_append.1 hy with hy | hy
    · cases under with
      | false => rw [h.1 rfl] at hy; cases hy
      | true => exact (h.2 rfl t (by simpa using h1)).2 y hy
    · simp at hy; subst hy; exact ⟨h2.2, h3⟩
end Owed

theorem info_told : (Try.prog.info? 55).map (fun i => (i.zero, i.size, i.bytes)) = some (some (.agg #[.slice none 0 0, .int .i64 0]), 2, 32) := by kernel_rfl

theorem owed_many (a : Option Addr) (len cap : Nat) (w : World) (h100 : 100 < len) (hm : len ≤ maxLen) :
    Calls Try.prog 12 #[.slice a len cap] w fun e w' => e = .returned (.bool true) ∧ Mod [] w w' := by
  unfold maxLen at hm
  go_enter Try.func12, Try.ntmps12
  go_wp2_with fail
  refine (Round.new_ 64 _ 64 (by omega)).mono ?_
  rintro e w1 ⟨p, rfl, h1, hp, m1⟩
  go_wp2_with fail
  refine (Round.awake26 _).mono ?_
  rintro e w2 ⟨rfl, m2⟩
  go_wp2
  go_ret
  exact ⟨rfl, m1.trans m2⟩

open Owed in
set_option maxRecDepth 100000 in
set_option maxHeartbeats 2000000 in
theorem owed_few (a : Option Addr) (l : List (List Bool × Int × Unit)) (cap : Nat) (w : World) (hz : RowTold w a l) (h100 : l.length ≤ 100) :
    Calls Try.prog 12 #[.slice a l.length cap] w fun e w' => e = .returned (.bool true) ∧ Mod [] w w' := by
  go_enter Try.func12, Try.ntmps12
  go_wp2_with fail
  refine (Round.new_ 64 _ 64 (by omega)).mono ?_
  rintro e w1 ⟨p, rfl, h1, hp, m1⟩
  have hpl := Blk.lt h1
  have hs1 := m1.size
  go_wp2_with fail
  go_loopw [26, 4] (fun i v wr => ∃ (k : Nat) (under : Bool) (owed count : Nat) (ss : List S), k ≤ l.length ∧ i = .int .i64 k ∧ owed < 18446744073709551616 ∧ count ≤ k ∧ ss.length ≤ k ∧ Since under owed ss ∧ Round.At wr p 64 count under owed ∧
    (∀ x ∈ ss, RowB w x.a x.l ∧ x.l.length ≤ x.c ∧ x.c ≤ maxLen) ∧ wr.ownsRow w1.heap.size 55 2 v ss.length (cells2 ss) ∧ w1.heap.size ≤ wr.heap.size ∧ Mod [] w wr) (fun i _ _ => l.length - (intOf i).toNat)
  case atStart => exact ⟨0, false, 0, 0, [], by omega, rfl, by omega, by omega, by simp, since_start, h1, by simp, World.ownsRow_nil _ _ _ 2, Nat.le_refl _, m1⟩
  case round =>
    clear h1 m1
    obtain ⟨k, under, owed, count, ss, hk, rfl, howed, hcnt, hsl, hsince, hR, hrows, hown, hsz, hm⟩ := hrel
    by_cases hlt : k < l.length
    · obtain ⟨⟨lb, pick, u⟩, hzk⟩ : ∃ z, l[k]? = some z := ⟨l[k], by simp [hlt]⟩
      rcases hz with rfl | ⟨b, off, rfl, hcell⟩
      · simp at hlt
      obtain ⟨ab, cb, q0, hrow, hle, hcm, q1, r1⟩ := hcell k _ hzk
      dsimp only at q0 hrow hle q1 r1
      have bp := bounds_i64 r1
      have c0 := hm.cell q0 (by simp)
      have c1 := hm.cell q1 (by simp)
      clear q0 q1 r1 hcell hzk
      obtain ⟨o2, ho2⟩ : ∃ o2, Round.next lb 64 under owed pick = o2 := ⟨_, rfl⟩
      have hlt2 : o2 < 18446744073709551616 := by rw [← ho2]; exact Round.next_lt _ _ _ _ _ (by omega)
      have hst := since_step 64 under owed ss ⟨ab, lb, cb, pick⟩ (by omega) hsince o2 ho2
      obtain ⟨i0, hi, hz0, hz1, hz2⟩ := info_parts info_told
      have mA := (Mod.refl [] wr).alloc (.cells #[.slice ab lb.length cb, .int .i64 pick] 55 (0, 0))
      have hBA := Blk.new wr 55 [.slice ab lb.length cb, .int .i64 pick]
      have hmA := hm.alloc (.cells #[.slice ab lb.length cb, .int .i64 pick] 55 (0, 0))
      have hRA := hR.mod mA (by simp)
      have hrowsA : ∀ x ∈ ss ++ [⟨ab, lb, cb, pick⟩], RowB w x.a x.l ∧ x.l.length ≤ x.c ∧ x.c ≤ maxLen := fun x hx => by
        rcases List.mem_append.1 hx with hx | hx
        · exact hrows x hx
        · simp at hx; subst hx; exact ⟨hrow, hle, hcm⟩
      have hvn := World.ownsRow.lt hown
      have hownA := ownsRow_mod hown mA (by simp)
      have hszA : w1.heap.size ≤ (wr.alloc (.cells #[.slice ab lb.length cb, .int .i64 pick] 55 (0, 0))).heap.size := by simp; omega
      have hnb : w1.heap.size ≤ wr.heap.size := hsz
      have hnb2 : wr.heap.size < (wr.alloc (.cells #[.slice ab lb.length cb, .int .i64 pick] 55 (0, 0))).heap.size := by simp
      clear mA
      go_upto_region 8 with (fail)
      clear hR hrows hown hm hsz c0 c1
      have hcB0 := Blk.cell hBA (i := 0) rfl
      have hcB1 := Blk.cell hBA (i := 1) rfl
      generalize wr.alloc (.cells #[.slice ab lb.length cb, .int .i64 pick] 55 (0, 0)) = WA at *
      generalize wr.heap.size = nb at *
      obtain ⟨v', wB, hrun, hown', hmF, hbF, hmV⟩ := append_elem (P := Try.prog) WA w1.heap.size 53 53 55 i0 (.agg #[.slice none 0 0, .int .i64 0]) 2 32 Try.underlying53 hi hz0 hz1 hz2 rfl (by omega) hownA [.slice ab lb.length cb, .int .i64 pick] rfl (fun u hu => by simp at hu; rcases hu with rfl | rfl <;> rfl) (by simp [maxLen]; omega) (by omega) hszA
      have hmB := hmF _ _ hmA hs1
      have hRB : Round.At wB p 64 count under owed := hbF _ _ _ hRA hpl
      have hBB := hmV.blk hBA (fun hm => by have := (hvn nb (by simpa using hm)).2; omega)
      clear hi hz0 hz1 hz2 hmF hbF hmV hcB0 hcB1
      have hcB0 := Blk.cell hBA (i := 0) rfl
      have hcB1 := Blk.cell hBA (i := 1) rfl
      have hdB0 := Blk.cell hBB (i := 0) rfl
      have hdB1 := Blk.cell hBB (i := 1) rfl
      have hrowB := hrow.mod0 hmB
      go_wp2_with (at_builtin; refine wpList_append_run rfl _ _ _ _ rfl _ _ rfl rfl _ _ hrun ?_)
      refine (Round.take_bits ab lb cb p 64 count under owed pick _ hRB hrowB (Nat.le_trans hle hcm) ⟨by omega, by omega⟩ howed (by omega) (by omega) o2 ho2).mono ?_
      rintro e wC ⟨rfl, hRC, mC⟩
      have hmC := hmB.step mC (by simp <;> omega)
      have hownC := ownsRow_mod hown' mC (by simp <;> omega)
      have hszC : w1.heap.size ≤ wC.heap.size := by
        have := mC.size
        have := hBB.lt
        omega
      clear hRA hownA hszA hBA hrun hown' hRB hBB hcB0 hcB1 hdB0 hdB1 hmA hmB hrowB mC hsince
      obtain ⟨count2, hcount2, hcnt2⟩ : ∃ count2, (if o2 = 0 then count + 1 else count) = count2 ∧ count2 ≤ k + 1 := ⟨_, rfl, by split <;> omega⟩
      rw [hcount2] at hRC
      obtain ⟨ss2, hss2, hsl2⟩ : ∃ ss2, (if o2 = 0 then [] else ss ++ [⟨ab, lb, cb, pick⟩] : List S) = ss2 ∧ ss2.length ≤ k + 1 := ⟨_, rfl, by split <;> simp <;> omega⟩
      rw [hss2] at hst
      have hrows2 : ∀ x ∈ ss2, RowB w x.a x.l ∧ x.l.length ≤ x.c ∧ x.c ≤ maxLen := fun x hx => by
        rw [← hss2] at hx
        split at hx
        · cases hx
        · exact hrowsA x hx
      clear hrowsA hcount2 hcnt
      go_upto_if 43 with (fail)
      go_cut [4] (fun v w2 => w2.ownsRow w1.heap.size 55 2 v ss2.length (cells2 ss2) ∧ Round.At w2 p 64 count2 (decide (o2 ≠ 0)) o2 ∧ w1.heap.size ≤ w2.heap.size ∧ Mod [] w w2)
      case first =>
        by_cases h0 : o2 = 0
        · rw [if_pos h0] at hss2
          have hd : decide (o2 = 0) = true := by simp [h0]
          rw [hd]
          go_wp2
          go_meet
          case rel =>
            subst hss2
            exact ⟨World.ownsRow_nil _ _ _ 2, hRC, hszC, hmC⟩
        · rw [if_neg h0] at hss2
          have hd : decide (o2 = 0) = false := by simp [h0]
          rw [hd]
          go_wp2
          go_meet
          case rel =>
            subst hss2
            exact ⟨by simpa [cells2] using hownC, hRC, hszC, hmC⟩
      case rest =>
        obtain ⟨hownS, hRS, hszS, hmS⟩ := hcut
        clear hownC hRC hszC hmC hss2 hrow ho2
        obtain ⟨a2, c2, rfl, hle2, hcm2, hcell2⟩ := ownsRow_form hownS
        go_wp2_with fail
        refine (Round.owed_ p 64 count2 _ o2 _ hRS (by omega) hlt2).mono ?_
        rintro e wD ⟨vo, rfl, hownO, mD⟩
        have hownD := ownsRow_mod hownS mD (by simp)
        have hRD := hRS.mod mD (by simp)
        have hmD := hmS.trans mD
        have hszD : w1.heap.size ≤ wD.heap.size := Nat.le_trans hszS mD.size
        obtain ⟨a3, c3, rfl, hrow3, hle3, hcm3, _⟩ := hownO.row
        have hlen3 : (Round.ints (Round.owedL o2 64)).length = (Round.owedL o2 64).length := by simp [Round.ints]
        rw [hlen3] at *
        have hT := Round.owedL_len o2 64
        have hmem : ∀ t, t ∈ Round.owedL o2 64 → o2.testBit t = true := fun t ht => by simp [Round.owedL] at ht; exact ht.2
        have hcell4 : ss2.length = 0 ∨ ∃ g, a2 = some ⟨g, 0, none⟩ ∧ ∀ (j : Nat) x, (cells2 ss2)[j]? = some x → wD.cell? ⟨g, j, none⟩ = some x := by
          rcases hcell2 with q | ⟨g, q1, q2⟩
          · exact .inl q
          · exact .inr ⟨g, q1, fun j x hx => mD.cell (q2 j x hx) (by simp)⟩
        clear hownO hownS hRS hszS hmS mD hlen3 hcell2
        have hcell3 := fun (m : Nat) (x : S) (hx : ss2[m]? = some x) => cells2_get ss2 m x hx
        go_wp2_with fail
        go_loopw [47] (fun i wr => ∃ j : Nat, j ≤ (Round.owedL o2 64).length ∧ i = .int .i64 j ∧ Mod [] wD wr) (fun i _ => (Round.owedL o2 64).length - (intOf i).toNat)
        case atStart => exact ⟨0, by omega, rfl, Mod.refl _ _⟩
        case round =>
          obtain ⟨j, hj, rfl, m2⟩ := hrel
          by_cases hjlt : j < (Round.owedL o2 64).length
          · obtain ⟨t, ht⟩ : ∃ t, (Round.owedL o2 64)[j]? = some t := ⟨(Round.owedL o2 64)[j], by simp [hjlt]⟩
            rcases hrow3 with h0 | ⟨b3, o3, rfl, hc3⟩
            · have : (Round.ints (Round.owedL o2 64)).length = 0 := by rw [h0]; rfl
              simp [Round.ints] at this
              rw [this] at hjlt
              simp at hjlt
            have ct := m2.cell (hc3 j (.int .i64 t) (by simp [Round.ints, ht])) (by simp)
            have htb := hmem t (List.mem_of_getElem? ht)
            have hon : o2 ≠ 0 := fun e => by rw [e] at htb; simp at htb
            obtain ⟨hne, hall⟩ := hst.2 (by simp [hon]) t htb
            have hpos : 0 < ss2.length := List.length_pos_iff.2 hne
            have ht64 : t < 64 := by
              have := List.mem_of_getElem? ht
              simp [Round.owedL] at this
              exact this.1
            clear hc3 ht htb hon hne
            have hl0 : ((ss2.length : Int) == 0) = false := by simp; intro h; rw [h] at hpos; simp at hpos
            go_wp2
            clear hl0
            go_loopw [60] (fun i wr => ∃ m : Nat, m ≤ ss2.length ∧ i = .int .i64 m ∧ Mod [] wD wr) (fun i _ => ss2.length - (intOf i).toNat)
            case atStart => exact ⟨0, by omega, rfl, m2⟩
            case round =>
              clear ct
              obtain ⟨m, hm, rfl, m3⟩ := hrel
              by_cases hmlt : m < ss2.length
              · obtain ⟨⟨xa, xl, xc, xp⟩, hx⟩ : ∃ x, ss2[m]? = some x := ⟨ss2[m], by simp [hmlt]⟩
                rcases hcell4 with h0 | ⟨g, rfl, hc4⟩
                · omega
                have e0 := m3.cell (hc4 _ _ (hcell3 m _ hx).1) (by simp)
                have e1 := m3.cell (hc4 _ _ (hcell3 m _ hx).2) (by simp)
                have hxm := List.mem_of_getElem? hx
                obtain ⟨hxl, hxp⟩ := hall _ hxm
                obtain ⟨hrx, hlx, hcx⟩ := hrows2 _ hxm
                dsimp only at e0 e1 hxl hxp hrx hlx hcx
                rcases hrx with hr0 | ⟨b5, o5, rfl, hc5⟩
                · rw [hr0] at hxl; simp at hxl
                have htl : t < xl.length := (List.getElem?_eq_some_iff.1 hxl).1
                have m4 := m3.alloc (.cells #[.slice (some ⟨b5, o5, none⟩) xl.length xc, .int .i64 xp] 55 (0, 0))
                have ex := (hmD.trans m4).cell (hc5 t true hxl) (by simp)
                have hp1 : (xp == (t : Int)) = false := by simp [hxp]
                clear hc4 hx hxm hc5 hxl
                go_wp2
                go_round
                case rel => exact ⟨m + 1, by omega, by go_num, m4⟩
                case measure => simp [intOf]; omega
              · go_wp2
                go_round
                case rel => exact ⟨j + 1, by omega, by go_num, m3⟩
                case measure => simp [intOf]; omega
          · go_wp2
            go_round
            case rel => exact ⟨k + 1, decide (o2 ≠ 0), o2, count2, ss2, by omega, by go_num, hlt2, hcnt2, hsl2, hst, hRD.mod m2 (by simp), hrows2, ownsRow_mod hownD m2 (by simp), Nat.le_trans hszD m2.size, hmD.trans m2⟩
            case measure => simp [intOf]; omega
    · go_wp2_with fail
      refine (Round.awake26 _).mono ?_
      rintro e w3 ⟨rfl, m3⟩
      go_wp2
      go_ret
      exact ⟨rfl, hm.trans m3⟩

theorem law_RoundOwed (w : World) (v0 : Value) (x0 : List (List Bool × Int × Unit)) (h0 : Sh.Arg w (.row toldSh) x0 v0) :
    Calls Try.prog 12 #[v0] w fun e w' => e = .returned (.bool true) ∧ Mod [] w w' := by
  obtain ⟨a, cap, rfl, hz, hle, hcm⟩ := arg_told h0
  by_cases h100 : x0.length ≤ 100
  · exact owed_few a x0 cap w hz h100
  · exact owed_many a x0.length cap w (by omega) (by omega)

end Go.Proofs.Ytlhbfkncdcgocaa
