/- The walk of the statement ParkAll. -/
import Derived.Test.YtekhadlpcdjlpaaPark3
import Derived.Test.YtekhadlpcdjlpaaRead
namespace Go.Proofs.Ytekhadlpcdjlpaa
namespace Park
open Go.RowKit
set_option linter.unusedVariables false
set_option linter.unusedSimpArgs false

/-- Where each thread is parked, behind the first k looks. -/
def slOf (at_ : List Int) (n k : Nat) : List (Int × Int) := (List.range n).map fun j => if j < k ∧ j < at_.length then (0, (at_.getD j 0) % 4) else (0, -1)
theorem slOf_len (at_ : List Int) (n k : Nat) : (slOf at_ n k).length = n := by simp [slOf]
theorem slOf_get (at_ : List Int) (n k j : Nat) (h : j < n) : (slOf at_ n k)[j]? = some (if j < k ∧ j < at_.length then (0, (at_.getD j 0) % 4) else (0, -1)) := by simp [slOf, h]
theorem slOf_zero (at_ : List Int) (n : Nat) : slOf at_ n 0 = List.replicate n (0, -1) := by
  apply List.ext_getElem?
  intro j
  by_cases h : j < n
  · rw [slOf_get _ _ _ _ h]
    simp [List.getElem?_replicate, h]
  · rw [List.getElem?_eq_none (by simp [slOf]; omega), List.getElem?_eq_none (by simp; omega)]
theorem slOf_succ (at_ : List Int) (n k : Nat) (h : k < n) (hk : k < at_.length) : (slOf at_ n k).set k (0, (at_.getD k 0) % 4) = slOf at_ n (k + 1) := by
  apply List.ext_getElem?
  intro j
  by_cases hj : j < n
  · rw [slOf_get _ _ _ _ hj]
    by_cases hkj : k = j
    · subst hkj
      rw [List.getElem?_set_self (by rw [slOf_len]; exact h)]
      simp [hk]
    · rw [List.getElem?_set_ne hkj, slOf_get _ _ _ _ hj]
      congr 1
      by_cases q : j < k ∧ j < at_.length
      · rw [if_pos q, if_pos ⟨by omega, q.2⟩]
      · rw [if_neg q, if_neg (by omega)]
  · rw [List.getElem?_eq_none (by rw [List.length_set, slOf_len]; omega), List.getElem?_eq_none (by rw [slOf_len]; omega)]

/-- How many of the first k are at ad. -/
def cnt (at_ : List Int) (ad : Int) (k : Nat) : Nat := ((at_.take k).filter (fun a => decide (a % 4 = ad))).length
theorem cnt_succ (at_ : List Int) (ad : Int) (k : Nat) (a : Int) (h : at_[k]? = some a) : cnt at_ ad (k + 1) = cnt at_ ad k + if a % 4 = ad then 1 else 0 := by
  unfold cnt
  rw [List.take_add_one, h, List.filter_append]
  by_cases q : a % 4 = ad <;> simp [q]
theorem cnt_le (at_ : List Int) (ad : Int) (k : Nat) : cnt at_ ad k ≤ k := by
  unfold cnt
  have := List.length_filter_le (fun a : Int => decide (a % 4 = ad)) (at_.take k)
  simp at this
  omega

theorem wokenB_at (at_ : List Int) (n : Nat) (ad : Int) (ha : ad ≠ -1) (k : Nat) (hk : k < n) : wokenB (slOf at_ n n) (List.replicate n false) ad (-1) k = if k < at_.length then decide ((at_.getD k 0) % 4 = ad) else false := by
  unfold wokenB
  rw [slOf_get _ _ _ _ hk]
  by_cases hkl : k < at_.length
  · have h1 : ((k : Int) ≠ -1) := by omega
    simp [hkl, ha, hk, List.getElem?_replicate, h1]
  · simp [hkl, show ¬ (-1 = ad) from fun e => ha e.symm]

theorem woken_cnt (at_ : List Int) (n : Nat) (ad : Int) (ha : ad ≠ -1) : ∀ k, k ≤ n → (woken (slOf at_ n n) (List.replicate n false) ad (-1) k).length = cnt at_ ad (min k at_.length) := by
  intro k
  induction k with
  | zero => intro _; simp [woken, cnt]
  | succ k ih =>
    intro hk
    have h1 := ih (by omega)
    rw [woken_succ, wokenB_at at_ n ad ha k (by omega)]
    by_cases hkl : k < at_.length
    · obtain ⟨a, haa⟩ : ∃ a, at_[k]? = some a := ⟨_, List.getElem?_eq_getElem hkl⟩
      have hgd : at_.getD k 0 = a := by simp [haa]
      rw [show min (k + 1) at_.length = k + 1 by omega, cnt_succ _ _ _ _ haa, if_pos hkl, hgd]
      rw [show min k at_.length = k by omega] at h1
      by_cases q : a % 4 = ad
      · simp [q, h1]
      · simp [q, h1]
    · rw [if_neg hkl, show min (k + 1) at_.length = min k at_.length by omega]
      simpa using h1

/-- Behind a write nobody is woken by a second one. -/
theorem woken_again (sl : List (Int × Int)) (bs : List Bool) (ad by_ : Int) (hl : bs.length = sl.length) : ∀ k, woken sl (after sl bs ad by_ sl.length) ad by_ k = [] ∧ ∀ j, wokenB sl (after sl bs ad by_ sl.length) ad by_ j = false := by
  have hB : ∀ j, wokenB sl (after sl bs ad by_ sl.length) ad by_ j = false := by
    intro j
    by_cases hj : j < sl.length
    · obtain ⟨b, hb⟩ : ∃ b, bs[j]? = some b := ⟨_, List.getElem?_eq_getElem (by omega)⟩
      have h1 := after_get sl bs ad by_ sl.length j b hb
      cases hw : wokenB sl bs ad by_ j with
      | true =>
        rw [hw] at h1
        simp [hj] at h1
        unfold wokenB
        rw [h1]
        simp
      | false =>
        rw [hw] at h1
        simp at h1
        have : wokenB sl (after sl bs ad by_ sl.length) ad by_ j = wokenB sl bs ad by_ j := by
          unfold wokenB
          rw [h1, hb]
        rw [this, hw]
    · unfold wokenB
      rw [List.getElem?_eq_none (by omega)]
      simp
  intro k
  refine ⟨?_, hB⟩
  unfold woken
  rw [List.filter_eq_nil_iff]
  intro j _
  rw [hB j]
  simp

theorem after_again (sl : List (Int × Int)) (bs : List Bool) (ad by_ : Int) (hl : bs.length = sl.length) (k : Nat) : after sl (after sl bs ad by_ sl.length) ad by_ k = after sl bs ad by_ sl.length := by
  induction k with
  | zero => exact after_zero _ _ _ _
  | succ k ih => rw [after_succ, ((woken_again sl bs ad by_ hl) 0).2 k]; simpa using ih

set_option maxRecDepth 100000 in
theorem all_many (a : Option Addr) (len cap : Nat) (ad : Int) (w : World) (hl : 64 < len) (hm : len ≤ maxLen) :
    Calls Try.prog 12 #[.slice a len cap, .int .u8 ad] w fun e w' => e = .returned (.bool true) ∧ Mod [] w w' := by
  unfold maxLen at hm
  have d1 : 1 ≤ (len : Int) := by omega
  have d2 : ¬ ((len : Int) ≤ 64) := by omega
  go_enter Try.func12, Try.ntmps12
  go_wp2_with fail
  refine (new_ 64 1 _ (by decide) (by decide) (by decide) (by decide)).mono ?_
  rintro e w1 ⟨p, g, gc, pp, pd, pcap, cs, rfl, hA, m1⟩
  go_wp2_with fail
  refine (awake11 _).mono ?_
  rintro e w2 ⟨rfl, m2⟩
  go_wp2
  go_ret
  exact ⟨rfl, m1.trans m2⟩


set_option maxRecDepth 100000 in
set_option maxHeartbeats 1000000 in
theorem all_none (a : Option Addr) (cap : Nat) (ad : Int) (w : World) (had : 0 ≤ ad ∧ ad ≤ 255) :
    Calls Try.prog 12 #[.slice a 0 cap, .int .u8 ad] w fun e w' => e = .returned (.bool true) ∧ Mod [] w w' := by
  obtain ⟨z, hz, hz1, hz2⟩ : ∃ z : Int, ad % 4 = z ∧ 0 ≤ z ∧ z ≤ 3 := ⟨ad % 4, rfl, by omega, by omega⟩
  have hzn : z ≠ -1 := by omega
  have HZ := hid hzn
  have hcnt : (woken (slOf [] 1 1) (List.replicate 1 false) z (-1) 1).length = 0 := by rw [woken_cnt [] 1 z hzn 1 (by omega)]; rfl
  have hsl : slOf [] 1 1 = [((0 : Int), (-1 : Int))] := rfl
  rw [hsl] at hcnt
  have HC := hid hcnt
  clear hcnt hsl hzn
  go_enter Try.func12, Try.ntmps12
  go_wp2_with fail
  refine (new_ 1 1 _ (by decide) (by decide) (by decide) (by decide)).mono ?_
  rintro e w1 ⟨p, g, gc, pp, pd, pcap, cs, rfl, hA, m1⟩
  go_wp2_with fail
  go_loop [48, 8] (fun i m => i = .int .i64 0 ∧ m = .int .i64 0) (fun _ _ => 0)
  case atStart => exact ⟨rfl, rfl⟩
  case round =>
    obtain ⟨rfl, rfl⟩ := hrel
    go_wp2_with fail
    refine (wrote_ hA.st z (-1)).mono ?_
    rintro e w2 ⟨v, rfl, hown, hW2, m2⟩
    have n2 := hA.step (S := cs) (fun x hx => List.mem_cons_of_mem _ hx) m1 m2
    obtain ⟨a2, c2, hv, _⟩ := nats_row hown
    rw [show (woken (List.replicate 1 ((0 : Int), (-1 : Int))) (List.replicate 1 false) z (-1) (List.replicate 1 ((0 : Int), (-1 : Int))).length).length = 0 from HC.out] at hv
    subst hv
    clear hown m2
    go_wp2_with fail
    refine (wrote_ hW2 z (-1)).mono ?_
    rintro e w3 ⟨v, rfl, hown, hW3, m3⟩
    have n3 := (hA.of hW2).step (S := cs) (fun x hx => List.mem_cons_of_mem _ hx) n2 m3
    obtain ⟨a3, c3, hv, _⟩ := nats_row hown
    rw [((woken_again _ _ z (-1) (by rfl)) _).1, List.length_nil] at hv
    subst hv
    clear hown m3
    go_wp2_with fail
    go_loop [88] (fun i => i = .int .i64 0) (fun _ => 0)
    case atStart => rfl
    case round =>
      subst hrel
      go_wp2_with fail
      refine (awake11 _).mono ?_
      rintro e w4 ⟨rfl, m4⟩
      go_wp2
      go_ret
      exact ⟨rfl, n3.trans m4⟩

set_option maxRecDepth 100000 in
set_option maxHeartbeats 1000000 in
theorem all_some (a : Option Addr) (at_ : List Int) (cap : Nat) (ad : Int) (w : World) (hr : RowAt .u8 w a at_) (had : 0 ≤ ad ∧ ad ≤ 255) (h1 : 1 ≤ at_.length) (h64 : at_.length ≤ 64) :
    Calls Try.prog 12 #[.slice a at_.length cap, .int .u8 ad] w fun e w' => e = .returned (.bool true) ∧ Mod [] w w' := by
  obtain ⟨z, hz, hz1, hz2⟩ : ∃ z : Int, ad % 4 = z ∧ 0 ≤ z ∧ z ≤ 3 := ⟨ad % 4, rfl, by omega, by omega⟩
  have hzn : z ≠ -1 := by omega
  have HZ := hid hzn
  obtain ⟨hr, hwf⟩ := hr
  rcases hr with h0 | ⟨b0, o0, rfl, hcell⟩
  · subst h0; simp at h1
  have HCE := hid hcell
  have HWF := hid hwf
  have d1 : 1 ≤ (at_.length : Int) := by omega
  have d2 : (at_.length : Int) ≤ 64 := by omega
  clear hcell hwf hzn
  go_enter Try.func12, Try.ntmps12
  go_wp2_with fail
  refine (new_ at_.length 1 _ h1 h64 (by decide) (by decide)).mono ?_
  rintro e w1 ⟨p, g, gc, pp, pd, pcap, cs, rfl, hA, m1⟩
  have hW1 := hA.st
  rw [← slOf_zero at_] at hW1
  go_wp2_with fail
  go_loopw [48, 8] (fun i m wr => ∃ k : Nat, k ≤ at_.length ∧ i = .int .i64 k ∧ m = .int .i64 (cnt at_ z k) ∧ W wr p g gc pp pd pcap cs 1 (slOf at_ at_.length k) (List.replicate at_.length false) ∧ Mod [] w wr) (fun i _ _ => at_.length - (intOf i).toNat)
  case atStart => exact ⟨0, by omega, rfl, rfl, hW1, m1⟩
  case round =>
    clear hW1 m1
    obtain ⟨k, hk, rfl, rfl, hW, hmd⟩ := hrel
    have hcl := cnt_le at_ z k
    by_cases hlt : k < at_.length
    · obtain ⟨x, hx⟩ : ∃ x, at_[k]? = some x := ⟨_, List.getElem?_eq_getElem hlt⟩
      have hb := bounds_u8 (HWF.out x (List.mem_of_getElem? hx))
      have hck := hmd.cell (HCE.out k x hx) (by simp)
      have hgd : at_.getD k 0 = x := by simp [hx]
      have hcs := cnt_succ at_ z k x hx
      have hsl := slOf_succ at_ at_.length k hlt hlt
      rw [hgd] at hsl
      obtain ⟨y, hy, hy1, hy2⟩ : ∃ y : Int, x % 4 = y ∧ 0 ≤ y ∧ y ≤ 3 := ⟨x % 4, rfl, by omega, by omega⟩
      rw [hy] at hsl hcs
      have hlook := look_yes hW k (0, -1) (by rw [slOf_get _ _ _ _ hlt]; simp) y (by decide)
      rw [hsl] at hlook
      have HCS := hid hcs
      clear hgd hx hcs hsl
      by_cases hyz : y = z
      · have dd : (y == z) = true := by simpa using hyz
        have HY := hid hyz
        clear hyz
        go_wp2_with fail
        refine hlook.mono ?_
        rintro e w2 ⟨rfl, hW2, m2⟩
        go_wp2
        go_roundw
        case rel => exact ⟨k + 1, by omega, by go_num, by rw [HCS.out, if_pos HY.out]; go_num, hW2, (hA.of hW).step (S := [g]) (by simp) hmd m2⟩
        case measure => simp [intOf]; omega
      · have dd : (y == z) = false := by simpa using hyz
        have HY := hid hyz
        clear hyz
        go_wp2_with fail
        refine hlook.mono ?_
        rintro e w2 ⟨rfl, hW2, m2⟩
        go_wp2
        go_roundw
        case rel => exact ⟨k + 1, by omega, by go_num, by rw [HCS.out, if_neg HY.out]; go_num, hW2, (hA.of hW).step (S := [g]) (by simp) hmd m2⟩
        case measure => simp [intOf]; omega
    · have hk' : k = at_.length := by omega
      subst hk'
      have hcnt := woken_cnt at_ at_.length z HZ.out at_.length (Nat.le_refl _)
      rw [Nat.min_self] at hcnt
      have HC := hid hcnt
      clear hcnt
      go_wp2_with fail
      refine (wrote_ hW z (-1)).mono ?_
      rintro e w2 ⟨v, rfl, hown, hW2, m2⟩
      have n2 := (hA.of hW).step (S := cs) (fun x hx => List.mem_cons_of_mem _ hx) hmd m2
      obtain ⟨a2, c2, hv, _⟩ := nats_row hown
      rw [slOf_len] at hv hW2
      rw [HC.out] at hv
      subst hv
      clear hown m2
      go_wp2_with fail
      have hagain := (woken_again (slOf at_ at_.length at_.length) (List.replicate at_.length false) z (-1) (by simp [slOf_len]) at_.length).1
      have hagain2 := after_again (slOf at_ at_.length at_.length) (List.replicate at_.length false) z (-1) (by simp [slOf_len]) at_.length
      rw [slOf_len] at hagain hagain2
      refine (wrote_ hW2 z (-1)).mono ?_
      rintro e w3 ⟨v, rfl, hown, hW3, m3⟩
      have n3 := (hA.of hW2).step (S := cs) (fun x hx => List.mem_cons_of_mem _ hx) n2 m3
      obtain ⟨a3, c3, hv, _⟩ := nats_row hown
      rw [slOf_len, hagain, List.length_nil] at hv
      rw [slOf_len, hagain2] at hW3
      subst hv
      clear hown m3 hagain hagain2
      have hfinal : ∀ t, 0 ≤ t → t < at_.length → (slOf at_ at_.length at_.length)[t]? = some (0, (at_.getD t 0) % 4) ∧ (after (slOf at_ at_.length at_.length) (List.replicate at_.length false) z (-1) at_.length)[t]? = some (decide ((at_.getD t 0) % 4 = z)) := by
        intro t _ ht
        refine ⟨by rw [slOf_get _ _ _ _ ht, if_pos ⟨ht, ht⟩], ?_⟩
        rw [after_get _ _ _ _ _ _ false (by simp [List.getElem?_replicate, ht]), wokenB_at _ _ _ HZ.out t ht]
        simp [ht]
      have HF := hid hfinal
      clear hfinal
      go_wp2_with fail
      go_loopw [88] (fun i wx => ∃ (j : Nat) (sl : List (Int × Int)) (bs : List Bool), j ≤ at_.length ∧ i = .int .i64 j ∧ W wx p g gc pp pd pcap cs 1 sl bs ∧ (∀ t, j ≤ t → t < at_.length → sl[t]? = some (0, (at_.getD t 0) % 4) ∧ bs[t]? = some (decide ((at_.getD t 0) % 4 = z))) ∧ Mod [] w wx) (fun i _ => at_.length - (intOf i).toNat)
      case atStart => exact ⟨0, _, _, by omega, rfl, hW3, HF.out, n3⟩
      case round =>
        clear hW hW2 hW3 n2 n3 hmd
        obtain ⟨j, sl, bs, hj, rfl, hW, hst, hmd⟩ := hrel
        by_cases hlt2 : j < at_.length
        · obtain ⟨x, hx⟩ : ∃ x, at_[j]? = some x := ⟨_, List.getElem?_eq_getElem hlt2⟩
          have hb := bounds_u8 (HWF.out x (List.mem_of_getElem? hx))
          have hck := hmd.cell (HCE.out j x hx) (by simp)
          have hgd : at_.getD j 0 = x := by simp [hx]
          obtain ⟨y, hy, hy1, hy2⟩ : ∃ y : Int, x % 4 = y ∧ 0 ≤ y ∧ y ≤ 3 := ⟨x % 4, rfl, by omega, by omega⟩
          obtain ⟨hs1, hs2⟩ := hst j (Nat.le_refl _) hlt2
          rw [hgd, hy] at hs1 hs2
          have hyn : y ≠ -1 := by omega
          have HST := hid hst
          have HS1 := hid hs1
          have HYN := hid hyn
          clear hst hgd hx hs1 hyn
          by_cases hyz : y = z
          · have dd : (y == z) = true := by simpa using hyz
            rw [decide_eq_true hyz] at hs2
            have HS2 := hid hs2
            clear hyz hs2
            go_wp2_with fail
            refine (parked_asleep hW j 0 y HS1.out HYN.out true HS2.out).mono ?_
            rintro e w4 ⟨rfl, rfl⟩
            go_wp2_with fail
            refine (resume_yes hW j 0 y HS1.out HYN.out HS2.out).mono ?_
            rintro e w5 ⟨rfl, hW5, m5⟩
            go_wp2_with fail
            go_roundw
            case rel =>
              refine ⟨j + 1, _, _, by omega, by go_num, hW5, fun t ht ht2 => ?_, (hA.of hW).step (S := g :: cs) (fun x hx => hx) hmd m5⟩
              rw [List.getElem?_set_ne (by omega), List.getElem?_set_ne (by omega)]
              exact HST.out t (by omega) ht2
            case measure => simp [intOf]; omega
          · have dd : (y == z) = false := by simpa using hyz
            rw [decide_eq_false hyz] at hs2
            have HS2 := hid hs2
            clear hyz hs2
            go_wp2_with fail
            refine (parked_asleep hW j 0 y HS1.out HYN.out false HS2.out).mono ?_
            rintro e w4 ⟨rfl, rfl⟩
            go_wp2_with fail
            refine (resume_no hW j 0 y HS1.out HYN.out HS2.out).mono ?_
            rintro e w5 ⟨rfl, hW5, m5⟩
            go_wp2_with fail
            go_roundw
            case rel => exact ⟨j + 1, _, _, by omega, by go_num, hW5, fun t ht ht2 => HST.out t (by omega) ht2, (hA.of hW).step (S := cs) (fun x hx => List.mem_cons_of_mem _ hx) hmd m5⟩
            case measure => simp [intOf]; omega
        · go_wp2_with fail
          refine (awake11 _).mono ?_
          rintro e w4 ⟨rfl, m4⟩
          go_wp2
          go_ret
          exact ⟨rfl, hmd.trans m4⟩
end Park

theorem law_ParkAll (w : World) (v0 v1 : Value) (x0 : List Int) (x1 : Int) (h0 : Sh.Arg w (.row (.int .u8)) x0 v0) (h1 : Sh.Arg w (.int .u8) x1 v1) :
    Calls Try.prog 12 #[v0, v1] w fun e w' => e = .returned (.bool true) ∧ Mod [] w w' := by
  obtain ⟨rfl, hw⟩ := h1
  have hb := bounds_u8 hw
  obtain ⟨a, cap, rfl, hr, hl, hm⟩ := arg_ints h0
  by_cases h : 64 < x0.length
  · exact Park.all_many a _ cap x1 w h (by omega)
  · by_cases h1 : 1 ≤ x0.length
    · exact Park.all_some a x0 cap x1 w hr hb h1 (by omega)
    · have : x0 = [] := List.length_eq_zero_iff.1 (by omega)
      subst this
      exact Park.all_none a cap x1 w hb

end Go.Proofs.Ytekhadlpcdjlpaa
