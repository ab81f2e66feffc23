/- The document's answer for layer 11 beside the program's waits: what each knows; Wrote. -/
import Derived.Test.YtekhadlpcdjlpaaRef11b
import Derived.Test.YtekhadlpcdjlpaaPark2
namespace Go.Proofs.Ytekhadlpcdjlpaa
namespace Ref11
open Go.RowKit Park
set_option linter.unusedVariables false
set_option linter.unusedSimpArgs false

def num (b : Bool) : Int := if b then 1 else 0
def nums (bs : List Bool) : List Int := bs.map num
theorem nums_get {bs : List Bool} {t : Nat} {b : Bool} (h : bs[t]? = some b) : (nums bs)[t]? = some (num b) := by simp [nums, h]
theorem nums_set (bs : List Bool) (t : Nat) (b : Bool) : (nums bs).set t (num b) = nums (bs.set t b) := by simp [nums, List.map_set]

/-- What both say of thread t. -/
def Same (l a : Int) (b : Bool) (s ra : Int) : Prop := (a = -1 ∧ s = 0 ∧ b = false) ∨ (a ≠ -1 ∧ 0 ≤ a ∧ s = 1 ∧ ra = a)

/-- The sleepers sl and permits bs are told by the rows lo, sp, ad. -/
structure Rel (sl : List (Int × Int)) (bs : List Bool) (lo sp ad : List Int) : Prop where
  len : bs.length = sl.length ∧ lo.length = sl.length ∧ sp.length = sl.length ∧ ad.length = sl.length
  each : ∀ (t : Nat) (l a : Int) (b : Bool), sl[t]? = some (l, a) → bs[t]? = some b → lo[t]? = some l ∧ ∃ s ra, sp[t]? = some s ∧ ad[t]? = some ra ∧ Same l a b s ra

theorem Rel.put {sl : List (Int × Int)} {bs : List Bool} {lo sp ad : List Int} (h : Rel sl bs lo sp ad) (t : Nat) (l a : Int) (b : Bool) (s ra : Int) (ht : t < sl.length) (hs : Same l a b s ra) :
    Rel (sl.set t (l, a)) (bs.set t b) (lo.set t l) (sp.set t s) (ad.set t ra) := by
  obtain ⟨h1, h2, h3, h4⟩ := h.len
  refine ⟨by simp [h1, h2, h3, h4], fun q l' a' b' hl hb => ?_⟩
  by_cases hq : t = q
  · subst hq
    rw [List.getElem?_set_self ht] at hl
    rw [List.getElem?_set_self (by omega)] at hb
    injection hl with hl
    injection hl with e1 e2
    injection hb with e3
    subst e1 e2 e3
    exact ⟨List.getElem?_set_self (by omega), s, ra, List.getElem?_set_self (by omega), List.getElem?_set_self (by omega), hs⟩
  · rw [List.getElem?_set_ne hq] at hl hb
    obtain ⟨q1, s', ra', q2, q3, q4⟩ := h.each q l' a' b' hl hb
    exact ⟨by rw [List.getElem?_set_ne hq]; exact q1, s', ra', by rw [List.getElem?_set_ne hq]; exact q2, by rw [List.getElem?_set_ne hq]; exact q3, q4⟩

/-- Another one's permit. -/
theorem Rel.permit {sl : List (Int × Int)} {bs : List Bool} {lo sp ad : List Int} (h : Rel sl bs lo sp ad) (bs' : List Bool) (hl : bs'.length = bs.length)
    (hb : ∀ (t : Nat) (l : Int) (b : Bool), sl[t]? = some (l, -1) → bs'[t]? = some b → b = false) : Rel sl bs' lo sp ad := by
  obtain ⟨h1, h2, h3, h4⟩ := h.len
  refine ⟨⟨by omega, h2, h3, h4⟩, fun q l a b hq hb' => ?_⟩
  obtain ⟨b0, hb0⟩ : ∃ b0, bs[q]? = some b0 := ⟨_, List.getElem?_eq_getElem (by have := (List.getElem?_eq_some_iff.1 hb').1; omega)⟩
  obtain ⟨q1, s, ra, q2, q3, q4⟩ := h.each q l a b0 hq hb0
  refine ⟨q1, s, ra, q2, q3, ?_⟩
  rcases q4 with ⟨r1, r2, r3⟩ | r
  · subst r1
    exact .inl ⟨rfl, r2, hb q l b hq hb'⟩
  · exact .inr r

theorem Rel.after {sl : List (Int × Int)} {bs : List Bool} {lo sp ad : List Int} (h : Rel sl bs lo sp ad) (x by_ : Int) (k : Nat) : Rel sl (after sl bs x by_ k) lo sp ad := by
  refine h.permit _ (after_length _ _ _ _ _) (fun t l b hs hb => ?_)
  obtain ⟨b0, hb0⟩ : ∃ b0, bs[t]? = some b0 := ⟨_, List.getElem?_eq_getElem (by have := (List.getElem?_eq_some_iff.1 hs).1; have := h.len; omega)⟩
  rw [after_get _ _ _ _ _ _ b0 hb0] at hb
  injection hb with hb
  obtain ⟨_, s, ra, _, _, q⟩ := h.each t l (-1) b0 hs hb0
  have hb1 : b0 = false := by
    rcases q with q | q
    · exact q.2.2
    · exact absurd rfl q.1
  have hw : wokenB sl bs x by_ t = false := by
    unfold wokenB
    rw [hs]
    by_cases hx : x = -1
    · simp [hx]
    · simp [show ¬ (-1 = x) from fun e => hx e.symm]
  rw [← hb, hb1, hw]
  simp

def WroteIs (w : World) (q b1 b2 b3 b4 n spin : Nat) (lo sp ad : List Int) (sl : List (Int × Int)) (bs : List Bool) (x by_ : Int) (e : Ending) (w' : World) : Prop :=
  ∃ v, e = .returned v ∧ Owns w' w.heap.size 3 v (nats (woken sl bs x by_ sl.length)) ∧ R w' q b1 b2 b3 b4 n spin lo sp ad (nums (after sl bs x by_ sl.length)) ∧ Mod [b4] w w'

/-- Half way. -/
structure HalfR (w wr : World) (q b1 b2 b3 b4 n spin : Nat) (lo sp ad : List Int) (sl : List (Int × Int)) (bs : List Bool) (x by_ : Int) (k : Nat) (v : Value) : Prop where
  st : R wr q b1 b2 b3 b4 n spin lo sp ad (nums (after sl bs x by_ k))
  own : Owns wr w.heap.size 3 v (nats (woken sl bs x by_ k))
  mod : Mod [b4] w wr

section
variable {w : World} {q b1 b2 b3 b4 n spin : Nat} {lo sp ad : List Int} {sl : List (Int × Int)} {bs : List Bool}

set_option maxRecDepth 100000 in
set_option maxHeartbeats 1000000 in
theorem wrote_ (h : R w q b1 b2 b3 b4 n spin lo sp ad (nums bs)) (hr : Rel sl bs lo sp ad) (x by_ : Int) (hx : 0 ≤ x) :
    Calls Try.prog 65 #[.pointer (some ⟨q, 0, none⟩), .int .i64 x, .int .i64 by_] w (WroteIs w q b1 b2 b3 b4 n spin lo sp ad sl bs x by_) := by
  have c0 : w.cell? ⟨q, 2, none⟩ = _ := h.box.cell rfl
  have hm := h.most
  have hn : sl.length = n := by have := h.len; have := hr.len; omega
  have hbl : bs.length = n := by have := hr.len; omega
  have H0 : HalfR w w q b1 b2 b3 b4 n spin lo sp ad sl bs x by_ 0 (.slice none 0 0) := ⟨by rw [after_zero]; exact h, by simpa [woken, nats] using Owns.nil w w.heap.size 3, Mod.refl _ _⟩
  have hlow : ∀ y, y = q ∨ y = b1 ∨ y = b2 ∨ y = b3 ∨ y = b4 → y < w.heap.size := by
    rintro y (rfl | rfl | rfl | rfl | rfl)
    · exact h.box.lt
    · exact h.r1.lt
    · exact h.r2.lt
    · exact h.r3.lt
    · exact h.r4.lt
  have HLO := hid hlow
  have hne4 := h.ne
  clear h hlow
  go_enter Try.func65, Try.ntmps65
  go_wp2_with fail
  go_loopw [14, 7] (fun i v wr => ∃ k : Nat, k ≤ n ∧ i = .int .i64 k ∧ HalfR w wr q b1 b2 b3 b4 n spin lo sp ad sl bs x by_ k v) (fun i _ _ => n - (intOf i).toNat)
  case atStart => exact ⟨0, by omega, rfl, H0⟩
  case round =>
    clear H0 c0
    obtain ⟨k, hk, rfl, hH⟩ := hrel
    by_cases hlt : k < n
    · obtain ⟨⟨l, a⟩, hxs⟩ : ∃ y, sl[k]? = some y := ⟨_, List.getElem?_eq_getElem (by omega)⟩
      obtain ⟨b, hb⟩ : ∃ b, bs[k]? = some b := ⟨_, List.getElem?_eq_getElem (by omega)⟩
      obtain ⟨q1, s, ra, q2, q3, hsame⟩ := hr.each k l a b hxs hb
      have hwl := woken_le sl bs x by_ k
      have hs1 := woken_succ sl bs x by_ k
      have hs2 := after_succ sl bs x by_ k
      have hbk := after_get sl bs x by_ k k b hb
      simp only [Nat.lt_irrefl, decide_false, Bool.false_and, Bool.or_false] at hbk
      have hpe := nums_get hbk
      have hwB : wokenB sl bs x by_ k = (decide (x ≠ -1) && decide (a = x) && decide ((k : Int) ≠ by_) && decide (b = false)) := by
        unfold wokenB
        rw [hxs, hb]
        simp
      have c2 : wr.cell? ⟨q, 2, none⟩ = _ := hH.st.box.cell rfl
      have c3 : wr.cell? ⟨q, 3, none⟩ = _ := hH.st.box.cell rfl
      obtain ⟨d1, d2, d3, d4, _⟩ := hH.st.cells q1 q2 q3 hpe
      have H1 := hid hs1
      have H2 := hid hs2
      have HWB := hid hwB
      have HQ : Hid (lo[k]? = some l ∧ sp[k]? = some s ∧ ad[k]? = some ra ∧ (nums (after sl bs x by_ k))[k]? = some (num b) ∧ (after sl bs x by_ k)[k]? = some b) := hid ⟨q1, q2, q3, hpe, hbk⟩
      clear hs1 hs2 hxs hb hbk hwB q1 q2 q3 hpe
      have hno : wokenB sl bs x by_ k = false → HalfR w wr q b1 b2 b3 b4 n spin lo sp ad sl bs x by_ (k + 1) u7 := fun hf =>
        ⟨by rw [H2.out, hf]; exact hH.st, by rw [H1.out, hf]; exact hH.own, hH.mod⟩
      have HNO := hid hno
      clear hno
      rcases hsame with ⟨rfl, rfl, rfl⟩ | ⟨ha, ha0, rfl, rfl⟩
      · have hne : ¬ ((-1 : Int) = x) := by omega
        go_wp2_with fail
        go_roundw
        case rel => exact ⟨k + 1, by omega, by go_num, HNO.out (by rw [HWB.out]; simp [hne])⟩
        case measure => simp [intOf]; omega
      · by_cases h1 : ra = x
        · subst h1
          have hxm : ra ≠ -1 := ha
          have HXM := hid hxm
          clear ha hxm
          by_cases h3 : (k : Int) = by_
          · have d3 : ((k : Int) != by_) = false := by simpa using h3
            have H3 := hid h3
            clear h3
            go_wp2_with fail
            go_roundw
            case rel => exact ⟨k + 1, by omega, by go_num, HNO.out (by rw [HWB.out]; simp [H3.out])⟩
            case measure => simp [intOf]; omega
          · have d3 : ((k : Int) != by_) = true := by simpa using h3
            have H3 := hid h3
            clear h3
            cases b with
            | true =>
              have hwake := wake_no hH.st k l 1 ra 1 HQ.out.1 HQ.out.2.1 HQ.out.2.2.1 HQ.out.2.2.2.1 (.inr rfl)
              go_wp2_with fail
              refine hwake.mono ?_
              rintro e w1 ⟨rfl, rfl⟩
              go_wp2_with fail
              go_roundw
              case rel => exact ⟨k + 1, by omega, by go_num, HNO.out (by rw [HWB.out]; simp)⟩
              case measure => simp [intOf]; omega
            | false =>
              have hwake := wake_yes hH.st k l ra HQ.out.1 HQ.out.2.1 HQ.out.2.2.1 HQ.out.2.2.2.1
              have hwl2 : (nats (woken sl bs ra by_ k)).length = (woken sl bs ra by_ k).length := nats_length _
              go_wp2_with fail
              refine hwake.mono ?_
              rintro e w1 ⟨rfl, hR1, m1⟩
              have ho1 := hH.own.mod m1 (fun c hc e => by have := (hH.own.lt e).1; have := HLO.out b4 (.inr (.inr (.inr (.inr rfl)))); simp at hc; omega)
              have hm1 := hH.mod.trans m1
              obtain ⟨i0, hi, hz0, hz1, hz2⟩ := info_parts Ref11.info_int
              obtain ⟨a', c', wB, hrun, hown', hmB, hvB⟩ := append_one2 (P := Try.prog) w1 w.heap.size 22 22 3 i0 (.int .i64 0) 8 Try.underlying22 hi hz0 hz1 hz2 rfl ho1 (.int .i64 k) rfl (by rw [hwl2]; simp [maxLen]; omega) (by rw [hwl2]; omega) hm1.size
              have hmF := hmB _ _ hm1 (Nat.le_refl _)
              have hRF := hR1.mod hvB (fun y hy hm => by have := (ho1.lt (b := y) (by simpa using hm)).1; have := HLO.out y hy; omega)
              have hset : (nums (after sl bs ra by_ k)).set k 1 = nums ((after sl bs ra by_ k).set k true) := nums_set _ _ true
              rw [hset] at hRF
              clear hi hz0 hz1 hz2 hmB hvB hset
              go_wp2_with (at_builtin; refine wpList_append_run rfl _ _ _ _ rfl _ _ rfl rfl _ _ hrun ?_)
              go_roundw
              case rel =>
                have hf : wokenB sl bs ra by_ k = true := by rw [HWB.out]; simp [HXM.out, H3.out]
                refine ⟨k + 1, by omega, by go_num, ⟨by rw [H2.out, hf]; exact hRF, ?_, hmF⟩⟩
                rw [H1.out, hf]
                simpa [nats] using hown'
              case measure => simp [intOf]; omega
        · have e1 : (ra == x) = false := by simpa using h1
          have HH := hid h1
          clear h1
          go_wp2_with fail
          go_roundw
          case rel => exact ⟨k + 1, by omega, by go_num, HNO.out (by rw [HWB.out]; simp [HH.out])⟩
          case measure => simp [intOf]; omega
    · have hk' : k = n := by omega
      subst hk'
      go_wp2
      go_ret
      rw [← hn] at hH
      exact ⟨_, rfl, hH.own, by rw [hn] at hH ⊢; exact hH.st, hH.mod⟩
end
end Ref11
end Go.Proofs.Ytekhadlpcdjlpaa
