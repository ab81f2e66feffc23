/- Contracts of layer 11 (park), more: New, Wrote, the example. -/
import Derived.Test.YtekhadlpcdjlpaaPark
import Derived.Test.YtekhadlpcdjlpaaApp
namespace Go.Proofs.Ytekhadlpcdjlpaa
namespace Park
open Go.RowKit
set_option linter.unusedVariables false

def nats (l : List Nat) : List Value := l.map fun (n : Nat) => Value.int .i64 (n : Int)
theorem nats_length (l : List Nat) : (nats l).length = l.length := by simp [nats]
theorem info_int : (Try.prog.info? 3).map (fun i => (i.zero, i.size, i.bytes)) = some (some (.int .i64 0), 1, 8) := by kernel_rfl
theorem info_sleeper : (Try.prog.info? 166).map (fun i => (i.zero, i.size, i.bytes)) = some (some (.agg #[.int .i64 0, .int .i64 0]), 2, 16) := by kernel_rfl

/-- Is a thread woken by a write? -/
def wokenB (sl : List (Int × Int)) (bs : List Bool) (ad by_ : Int) (t : Nat) : Bool :=
  decide (ad ≠ -1) && (match sl[t]? with | some x => decide (x.2 = ad) | none => false) && decide ((t : Int) ≠ by_) && decide (bs[t]? = some false)
/-- Who of the first k is woken. -/
def woken (sl : List (Int × Int)) (bs : List Bool) (ad by_ : Int) (k : Nat) : List Nat := (List.range k).filter (wokenB sl bs ad by_)
/-- Who has a permit behind the first k. -/
def after (sl : List (Int × Int)) (bs : List Bool) (ad by_ : Int) (k : Nat) : List Bool := (List.range bs.length).map fun j => bs.getD j false || (decide (j < k) && wokenB sl bs ad by_ j)

theorem after_length (sl : List (Int × Int)) (bs : List Bool) (ad by_ : Int) (k : Nat) : (after sl bs ad by_ k).length = bs.length := by simp [after]
theorem after_zero (sl : List (Int × Int)) (bs : List Bool) (ad by_ : Int) : after sl bs ad by_ 0 = bs := by
  apply List.ext_getElem?
  intro j
  by_cases h : j < bs.length
  · simp [after, h]
  · rw [List.getElem?_eq_none (by simp [after]; omega), List.getElem?_eq_none (by omega)]
theorem after_get (sl : List (Int × Int)) (bs : List Bool) (ad by_ : Int) (k j : Nat) (b : Bool) (hb : bs[j]? = some b) : (after sl bs ad by_ k)[j]? = some (b || (decide (j < k) && wokenB sl bs ad by_ j)) := by
  have h : j < bs.length := (List.getElem?_eq_some_iff.1 hb).1
  have hbj : bs[j] = b := by rw [List.getElem?_eq_getElem h] at hb; injection hb
  simp [after, h, hbj]
theorem after_succ (sl : List (Int × Int)) (bs : List Bool) (ad by_ : Int) (k : Nat) : after sl bs ad by_ (k + 1) = if wokenB sl bs ad by_ k then (after sl bs ad by_ k).set k true else after sl bs ad by_ k := by
  apply List.ext_getElem?
  intro j
  by_cases h : j < bs.length
  · obtain ⟨b, hb⟩ : ∃ b, bs[j]? = some b := ⟨_, List.getElem?_eq_getElem h⟩
    rw [after_get _ _ _ _ _ _ b hb]
    split
    · rename_i hw
      by_cases hkj : k = j
      · subst hkj
        rw [List.getElem?_set_self (by rw [after_length]; exact h)]
        simp [hw]
      · rw [List.getElem?_set_ne hkj, after_get _ _ _ _ _ _ b hb]
        congr 3
        rw [decide_eq_decide]
        omega
    · rename_i hw
      rw [after_get _ _ _ _ _ _ b hb]
      by_cases hkj : j = k
      · subst hkj
        simp [hw]
      · congr 3
        rw [decide_eq_decide]
        omega
  · rw [List.getElem?_eq_none (by rw [after_length]; omega)]
    split
    · rw [List.getElem?_eq_none (by rw [List.length_set, after_length]; omega)]
    · rw [List.getElem?_eq_none (by rw [after_length]; omega)]
theorem woken_succ (sl : List (Int × Int)) (bs : List Bool) (ad by_ : Int) (k : Nat) : woken sl bs ad by_ (k + 1) = if wokenB sl bs ad by_ k then woken sl bs ad by_ k ++ [k] else woken sl bs ad by_ k := by
  unfold woken
  rw [List.range_succ, List.filter_append]
  split
  · rename_i h; simp [h]
  · rename_i h; simp [h]
theorem woken_le (sl : List (Int × Int)) (bs : List Bool) (ad by_ : Int) (k : Nat) : (woken sl bs ad by_ k).length ≤ k := by
  have := List.length_filter_le (wokenB sl bs ad by_) (List.range k)
  simpa [woken] using this

def WroteIs (w : World) (p g gc pp pd pcap : Nat) (cs : List Nat) (spin : Nat) (sl : List (Int × Int)) (bs : List Bool) (ad by_ : Int) (e : Ending) (w' : World) : Prop :=
  ∃ v, e = .returned v ∧ Owns w' w.heap.size 3 v (nats (woken sl bs ad by_ sl.length)) ∧ W w' p g gc pp pd pcap cs spin sl (after sl bs ad by_ sl.length) ∧ Mod cs w w'

section
variable {w : World} {p g gc pp pd pcap : Nat} {cs : List Nat} {spin : Nat} {sl : List (Int × Int)} {bs : List Bool}

/-- Half way. -/
structure Half (w wr : World) (p g gc pp pd pcap : Nat) (cs : List Nat) (spin : Nat) (sl : List (Int × Int)) (bs : List Bool) (ad by_ : Int) (k : Nat) (v : Value) : Prop where
  st : W wr p g gc pp pd pcap cs spin sl (after sl bs ad by_ k)
  own : Owns wr w.heap.size 3 v (nats (woken sl bs ad by_ k))
  mod : Mod cs w wr

set_option maxHeartbeats 1000000 in
theorem wrote_ (h : W w p g gc pp pd pcap cs spin sl bs) (ad by_ : Int) :
    Calls Try.prog 53 #[.pointer (some ⟨p, 0, none⟩), .int .i64 ad, .int .i64 by_] w (WroteIs w p g gc pp pd pcap cs spin sl bs ad by_) := by
  have hb1 : w.cell? ⟨p, 1, none⟩ = _ := h.box.cell rfl
  have hm := h.most.1
  have hbl := h.len
  have hlc : ∀ c ∈ cs, c < w.heap.size := fun c hc => by obtain ⟨i, hi⟩ := List.getElem?_of_mem hc; exact (h.perm.chan i c hi).lt
  have H0 : Half w w p g gc pp pd pcap cs spin sl bs ad by_ 0 (.slice none 0 0) := ⟨by rw [after_zero]; exact h, by simpa [woken, nats] using Owns.nil w w.heap.size 3, Mod.refl _ _⟩
  have hpl : ∀ x, x = p ∨ x = g ∨ x = pp ∨ (x = pd ∧ sl.length ≠ 0) ∨ x ∈ cs → x < w.heap.size := by
    rintro x (rfl | rfl | rfl | ⟨rfl, h0⟩ | hx)
    · exact h.box.lt
    · obtain ⟨sp, hr⟩ := h.row
      exact hr.lt
    · exact h.perm.box.lt
    · obtain ⟨c, hc⟩ : ∃ c, cs[0]? = some c := ⟨_, List.getElem?_eq_getElem (by have := h.most.2; omega)⟩
      exact cell_lt (h.perm.row 0 c hc)
    · exact hlc x hx
  have HLC := hid hpl
  clear h hlc hpl
  go_enter Try.func53, Try.ntmps53
  go_wp2_with fail
  go_loopw [15, 7] (fun i v wr => ∃ k : Nat, k ≤ sl.length ∧ i = .int .i64 k ∧ Half w wr p g gc pp pd pcap cs spin sl bs ad by_ k v) (fun i _ _ => sl.length - (intOf i).toNat)
  case atStart => exact ⟨0, by omega, rfl, H0⟩
  case round =>
    clear H0 hb1
    obtain ⟨k, hk, rfl, hH⟩ := hrel
    by_cases hlt : k < sl.length
    · obtain ⟨⟨lk, a1⟩, hx⟩ : ∃ x, sl[k]? = some x := ⟨_, List.getElem?_eq_getElem hlt⟩
      obtain ⟨b, hb⟩ : ∃ b, bs[k]? = some b := ⟨_, List.getElem?_eq_getElem (by omega)⟩
      have hwl := woken_le sl bs ad by_ k
      have hs1 := woken_succ sl bs ad by_ k
      have hs2 := after_succ sl bs ad by_ k
      have hbk := after_get sl bs ad by_ k k b hb
      simp only [Nat.lt_irrefl, decide_false, Bool.false_and, Bool.or_false] at hbk
      have hwB : wokenB sl bs ad by_ k = (decide (ad ≠ -1) && decide (a1 = ad) && decide ((k : Int) ≠ by_) && decide (b = false)) := by
        unfold wokenB
        rw [hx, hb]
        simp
      obtain ⟨c1, c2, _, _⟩ := hH.st.cells hx
      have mA := (Mod.refl [] wr).alloc (.cells #[.int .i64 lk, .int .i64 a1] 166 (0, 0))
      have hWA := hH.st.mod0 mA
      have hoA := hH.own.mod0 mA
      have hmA := hH.mod.trans (mA.mono (by simp))
      have hszA := hH.mod.size
      have H1 := hid hs1
      have H2 := hid hs2
      have HX := hid hx
      have HBK := hid hbk
      have HWB := hid hwB
      clear hs1 hs2 hx hb hbk hwB
      -- the ways on which nobody is woken
      have hno : wokenB sl bs ad by_ k = false → Half w (wr.alloc (.cells #[.int .i64 lk, .int .i64 a1] 166 (0, 0))) p g gc pp pd pcap cs spin sl bs ad by_ (k + 1) u7 := fun hf =>
        ⟨by rw [H2.out, hf]; exact hWA, by rw [H1.out, hf]; exact hoA, hmA⟩
      have HNO := hid hno
      clear hno hH
      by_cases h1 : a1 = ad
      · subst h1
        by_cases h2 : a1 = -1
        · subst h2
          go_wp2_with fail
          go_roundw
          case rel => exact ⟨k + 1, by omega, by go_num, HNO.out (by rw [HWB.out]; simp)⟩
          case measure => simp [intOf]; omega
        · have d2 : (a1 != -1) = true := by simpa using h2
          by_cases h3 : (k : Int) = by_
          · have d3 : ((k : Int) != by_) = false := by simpa using h3
            have H3 := hid h3
            clear h3
            go_wp2_with fail
            go_roundw
            case rel => exact ⟨k + 1, by omega, by go_num, HNO.out (by rw [HWB.out]; simp [H3.out])⟩
            case measure => simp [intOf]; omega
          · have d3 : ((k : Int) != by_) = true := by simpa using h3
            have hwake := wake_asleep hWA k lk a1 HX.out h2 b HBK.out
            have H23 : Hid (a1 ≠ -1 ∧ (k : Int) ≠ by_) := hid ⟨h2, h3⟩
            clear h2 h3
            cases b with
            | true =>
              rw [Permit.set_same HBK.out] at hwake
              go_wp2_with fail
              refine hwake.mono ?_
              rintro e w1 ⟨rfl, hW1, m1⟩
              go_wp2_with fail
              go_roundw
              case rel =>
                have hf : wokenB sl bs a1 by_ k = false := by rw [HWB.out]; simp
                refine ⟨k + 1, by omega, by go_num, ⟨by rw [H2.out, hf]; exact hW1, by rw [H1.out, hf]; exact hoA.mod m1 (fun c hc e => Permit.not_chan hoA ((hWA.perm.chan _ c (List.getElem?_of_mem hc).choose_spec)) e), hmA.trans m1⟩⟩
              case measure => simp [intOf]; omega
            | false =>
              have hwl2 : (nats (woken sl bs a1 by_ k)).length = (woken sl bs a1 by_ k).length := nats_length _
              go_wp2_with fail
              refine hwake.mono ?_
              rintro e w1 ⟨rfl, hW1, m1⟩
              have ho1 := hoA.mod m1 (fun c hc e => Permit.not_chan hoA ((hWA.perm.chan _ c (List.getElem?_of_mem hc).choose_spec)) e)
              have hm1 := hmA.trans m1
              obtain ⟨i0, hi, hz0, hz1, hz2⟩ := info_parts info_int
              obtain ⟨a', c', wB, hrun, hown', hmB, hvB⟩ := append_one2 (P := Try.prog) w1 w.heap.size 22 22 3 i0 (.int .i64 0) 8 Try.underlying22 hi hz0 hz1 hz2 rfl ho1 (.int .i64 k) rfl (by rw [hwl2]; simp [maxLen]; omega) (by rw [hwl2]; omega) hm1.size
              have hmF := hmB _ _ hm1 (Nat.le_refl _)
              have hWF : W wB p g gc pp pd pcap cs spin sl ((after sl bs a1 by_ k).set k true) := by
                have hv : ∀ x, x < w.heap.size → x ∉ u7.ownBlock.toList := fun x hx hm => by have := (hoA.lt (b := x) (by simpa using hm)).1; omega
                refine hW1.mod hvB (hv p (HLC.out p (.inl rfl))) (hv g (HLC.out g (.inr (.inl rfl)))) ?_
                rintro x (rfl | rfl | hx)
                · exact hv _ (HLC.out _ (.inr (.inr (.inl rfl))))
                · exact hv _ (HLC.out _ (.inr (.inr (.inr (.inl ⟨rfl, by omega⟩)))))
                · exact hv _ (HLC.out _ (.inr (.inr (.inr (.inr hx)))))
              clear hi hz0 hz1 hz2 hmB hvB
              go_wp2_with (at_builtin; refine wpList_append_run rfl _ _ _ _ rfl _ _ rfl rfl _ _ hrun ?_)
              go_roundw
              case rel =>
                have hf : wokenB sl bs a1 by_ k = true := by rw [HWB.out]; simp [H23.out.1, H23.out.2]
                refine ⟨k + 1, by omega, by go_num, ⟨by rw [H2.out, hf]; exact hWF, ?_, hmF⟩⟩
                rw [H1.out, hf]
                simpa [nats] using hown'
              case measure => simp [intOf]; omega
      · have d1 : (a1 == ad) = false := by simpa using h1
        have HH := hid h1
        clear h1
        go_wp2_with fail
        go_roundw
        case rel => exact ⟨k + 1, by omega, by go_num, HNO.out (by rw [HWB.out]; simp [HH.out])⟩
        case measure => simp [intOf]; omega
    · have hk' : k = sl.length := by omega
      subst hk'
      go_wp2
      go_ret
      exact ⟨_, rfl, hH.own, hH.st, hH.mod⟩
end

theorem new_bad1 (n spin : Int) (w : World) (hn : n < 1 ∨ 64 < n) :
    Calls Try.prog 50 #[.int .i64 n, .int .i64 spin] w fun e w' => e = .returned (.tuple #[.pointer none, .int .i64 1]) ∧ w = w' := by
  have hnew := Permit.new_out n w hn
  clear hn
  go_enter Try.func50, Try.ntmps50
  go_wp2_with fail
  refine hnew.mono ?_
  rintro e w1 ⟨rfl, rfl⟩
  go_wp2
  go_ret2
  exact ⟨rfl, rfl⟩

theorem new_bad2 (n : Nat) (spin : Int) (w : World) (h1 : 1 ≤ n) (h64 : n ≤ 64) (hs : spin < 1 ∨ 1000 < spin) :
    Calls Try.prog 50 #[.int .i64 n, .int .i64 spin] w fun e w' => e = .returned (.tuple #[.pointer none, .int .i64 1]) ∧ Mod [] w w' := by
  have hnew := Permit.new_in n w h1 h64
  by_cases h2 : spin < 1
  · clear hs
    go_enter Try.func50, Try.ntmps50
    go_wp2_with fail
    refine hnew.mono ?_
    rintro e w1 ⟨pp, pd, pcap, cs, rfl, hC, hp, hd, hc, m1⟩
    go_wp2
    go_ret2
    exact ⟨rfl, m1⟩
  · have h3 : 1000 < spin := by omega
    clear hs
    go_enter Try.func50, Try.ntmps50
    go_wp2_with fail
    refine hnew.mono ?_
    rintro e w1 ⟨pp, pd, pcap, cs, rfl, hC, hp, hd, hc, m1⟩
    go_wp2
    go_ret2
    exact ⟨rfl, m1⟩

def Made (w : World) (n spin : Nat) (e : Ending) (w' : World) : Prop :=
  ∃ p g gc pp pd pcap cs, e = .returned (.tuple #[.pointer (some ⟨p, 0, none⟩), .int .i64 0]) ∧ W w' p g gc pp pd pcap cs spin (List.replicate n (0, -1)) (List.replicate n false) ∧
    (∀ x, x = p ∨ x = g ∨ x = pp ∨ x = pd ∨ x ∈ cs → w.heap.size ≤ x) ∧ Mod [] w w'

theorem flat2_append (l m : List (Int × Int)) : flat2 (l ++ m) = flat2 l ++ flat2 m := by simp [flat2]

/-- Half made. -/
structure HalfN (w w1 wr : World) (pp pd pcap : Nat) (cs : List Nat) (n spin k : Nat) (v : Value) : Prop where
  box : Blk wr w1.heap.size 164 [.int .i64 spin, v, .pointer (some ⟨pp, 0, none⟩)]
  own : wr.ownsRow (w1.heap.size + 1) 166 2 v k (flat2 (List.replicate k (0, -1)))
  perm : Permit.C wr pp pd pcap cs (List.replicate n false)
  mod : Mod [] w wr

set_option maxHeartbeats 1000000 in
theorem new_in (n spin : Nat) (w : World) (h1 : 1 ≤ n) (h64 : n ≤ 64) (hs1 : 1 ≤ spin) (hs2 : spin ≤ 1000) :
    Calls Try.prog 50 #[.int .i64 n, .int .i64 spin] w (Made w n spin) := by
  have hnew := Permit.new_in n w h1 h64
  go_enter Try.func50, Try.ntmps50
  go_wp2_with fail
  refine hnew.mono ?_
  rintro e w1 ⟨pp, pd, pcap, cs, rfl, hC, hp, hd, hc, m1⟩
  clear hnew
  have hsz := m1.size
  have hlen : cs.length = n := by have := hC.len; simpa using this.symm
  have hlow : ∀ x, x = pp ∨ x = pd ∨ x ∈ cs → x < w1.heap.size := by
    rintro x (rfl | rfl | hx)
    · exact hC.box.lt
    · obtain ⟨c, hc0⟩ : ∃ c, cs[0]? = some c := ⟨_, List.getElem?_eq_getElem (by omega)⟩
      exact cell_lt (hC.row 0 c hc0)
    · obtain ⟨i, hi⟩ := List.getElem?_of_mem hx
      exact (hC.chan i x hi).lt
  have HLO := hid hlow
  have HP : Hid (∀ x, x = pp ∨ x = pd ∨ x ∈ cs → w.heap.size ≤ x) := hid (by
    rintro x (rfl | rfl | hx)
    · exact hp
    · exact hd
    · exact hc x hx)
  have hB0 := Blk.new w1 164 [.int .i64 spin, .slice none 0 0, .pointer (some ⟨pp, 0, none⟩)]
  have m0 := (Mod.refl [] w1).alloc (.cells #[.int .i64 spin, .slice none 0 0, .pointer (some ⟨pp, 0, none⟩)] 164 (0, 0))
  have hC0 := hC.mod m0 (by simp) (by simp) (by simp)
  have mm := m1.trans m0
  clear hlow hC m0 m1 hp hd hc hlen
  go_wp2_with fail
  go_loopw [29] (fun i wr => ∃ (k : Nat) (v : Value), k ≤ n ∧ i = .int .i64 k ∧ HalfN w w1 wr pp pd pcap cs n spin k v) (fun i _ => n - (intOf i).toNat)
  case atStart => exact ⟨0, _, by omega, rfl, ⟨hB0, by simpa [flat2] using World.ownsRow_nil _ _ _ _, hC0, mm⟩⟩
  case round =>
    clear hB0 hC0 mm
    obtain ⟨k, v, hk, rfl, hH⟩ := hrel
    by_cases hlt : k < n
    · have hb1 : wr.cell? ⟨w1.heap.size, 1, none⟩ = _ := hH.box.cell rfl
      have hf1 := hH.box.free 1
      have hbl := hH.box.lt
      obtain ⟨i0, hi, hz0, hz1, hz2⟩ := info_parts info_sleeper
      obtain ⟨v', wA, hrun, hown', hmA, hbA, hvA⟩ := append_elem (P := Try.prog) wr (w1.heap.size + 1) 162 162 166 i0 (.agg #[.int .i64 0, .int .i64 0]) 2 16 Try.underlying162 hi hz0 hz1 hz2 rfl (by decide)
        hH.own [.int .i64 0, .int .i64 (-1)] rfl (by simp [Value.oneCell']) (by simp [maxLen]; omega) (by omega) (by omega)
      have hvn : ∀ x, x ≤ w1.heap.size → x ∉ v.ownBlock.toList := fun x hx hm => by have := (World.ownsRow.lt hH.own x (by simpa using hm)).1; omega
      have hBA := hvA.blk hH.box (hvn _ (Nat.le_refl _))
      have hCA := hH.perm.mod hvA (hvn _ (by have := HLO.out pp (.inl rfl); omega)) (hvn _ (by have := HLO.out pd (.inr (.inl rfl)); omega)) (fun c hc => hvn _ (by have := HLO.out c (.inr (.inr hc)); omega))
      have hmB := hmA _ _ hH.mod (by omega)
      obtain ⟨a', c', hv', _⟩ := ownsRow_form hown'
      subst hv'
      have hb2 : wA.cell? ⟨w1.heap.size, 1, none⟩ = _ := hBA.cell rfl
      have hf2 := hBA.free 1
      clear hi hz0 hz1 hz2 hmA hbA hvA hf1
      go_wp2_with (at_builtin; refine wpList_append_run rfl _ _ _ _ rfl _ _ rfl rfl _ _ hrun ?_)
      go_roundw
      case rel =>
        have mS : Mod [w1.heap.size] wA (wA.setCell ⟨w1.heap.size, 1, none⟩ (.slice a' (k + 1) c')) := (Mod.refl _ _).setCell (by simp) _
        refine ⟨k + 1, .slice a' (k + 1) c', by omega, by go_num, ⟨hBA.set 1 _, ?_, hCA.mod mS ?_ ?_ ?_, hmB.setCell (by simp; omega) _⟩⟩
        · rw [List.replicate_succ', flat2_append]
          exact ownsRow_mod hown' mS (by simp)
        · have := HLO.out pp (.inl rfl); simp; omega
        · have := HLO.out pd (.inr (.inl rfl)); simp; omega
        · intro c hc
          have := HLO.out c (.inr (.inr hc))
          simp; omega
      case measure => simp [intOf]; omega
    · have hk' : k = n := by omega
      subst hk'
      go_wp2
      go_ret2
      obtain ⟨_, hown⟩ := hH.own
      rcases hown with ⟨_, h0⟩ | ⟨g, cap, cur, hv, hbg, hg, hn, hcm, hs, ht⟩
      · omega
      rw [hv] at hH
      refine ⟨w1.heap.size, g, cap, pp, pd, pcap, cs, rfl, ⟨by rw [List.length_replicate]; exact hH.box, ⟨cur.toList.drop (k * 2), ?_⟩, hH.perm, by simp, by omega, fun x hx => by have := HLO.out x hx; omega, ⟨hs1, hs2⟩, ?_⟩, ?_, hH.mod⟩
      · rw [← ht, List.take_append_drop]
        exact hg
      · intro t x hx
        rw [List.getElem?_replicate] at hx
        split at hx
        · injection hx with hx
          subst hx
          simp; omega
        · cases hx
      · rintro x (rfl | rfl | hx)
        · exact hsz
        · omega
        · exact HP.out x hx
end Park
end Go.Proofs.Ytekhadlpcdjlpaa
