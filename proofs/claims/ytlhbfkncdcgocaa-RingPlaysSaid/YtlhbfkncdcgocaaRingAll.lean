/- The contract of Ring[string].All, and of the document's answer for layer 3. -/
import Derived.Test.YtlhbfkncdcgocaaRingS
import Derived.Test.YtlhbfkncdcgocaaApp
import Derived.Test.YtlhbfkncdcgocaaLex
namespace Go.Proofs.Ytlhbfkncdcgocaa
namespace RingS
open Go.RowKit
set_option linter.unusedVariables false
set_option linter.unusedSimpArgs false

def strs (l : List ByteArray) : List Value := l.map Value.string

theorem live_succ (arr : List ByteArray) (f n : Nat) : live arr f (n + 1) = live arr f n ++ [arr.getD ((f + n) % arr.length) default] := by
  unfold live
  rw [List.range_succ, List.map_append]
  rfl

def AllIs (w : World) (l : List ByteArray) (e : Ending) (w' : World) : Prop :=
  ∃ v, e = .returned v ∧ Owns w' w.heap.size 9 v (strs l) ∧ Mod [] w w'

set_option maxRecDepth 100000 in
theorem allC (p d f n : Nat) (arr : List ByteArray) (w : World) (h : C w p d arr f n) :
    Calls Try.prog 47 #[.pointer (some ⟨p, 0, none⟩)] w (AllIs w (live arr f n)) := by
  have hb2 : w.cell? ⟨p, 2, none⟩ = _ := h.box.cell rfl
  have hpl := Blk.lt h.box
  have hle := h.le
  have hmost := h.most
  go_enter Try.func47, Try.ntmps47
  go_wp2
  clear hb2
  go_loopw [9, 3] (fun i v wr => ∃ k : Nat, k ≤ n ∧ i = .int .i64 k ∧ Owns wr w.heap.size 9 v (strs (live arr f k)) ∧ Mod [] w wr) (fun i _ _ => n - (intOf i).toNat)
  case atStart => exact ⟨0, by omega, rfl, by simpa [strs, live] using Owns.nil w w.heap.size 9, Mod.refl _ _⟩
  case round =>
    obtain ⟨k, hk, rfl, hown, hm⟩ := hrel
    by_cases hlt : k < n
    · have hC := h.mod hm (by simp) (by simp)
      have hb0 : wr.cell? ⟨p, 0, none⟩ = _ := hC.box.cell rfl
      have hb1 : wr.cell? ⟨p, 1, none⟩ = _ := hC.box.cell rfl
      have hpos : 0 < arr.length := by omega
      have hff : f < arr.length := by have := h.first; omega
      obtain ⟨j, hj⟩ : ∃ j, (f + k) % arr.length = j := ⟨_, rfl⟩
      have hjl : j < arr.length := by rw [← hj]; exact Nat.mod_lt _ hpos
      obtain ⟨s, hs⟩ : ∃ s, arr.getD j default = s := ⟨_, rfl⟩
      have hcs : wr.cell? ⟨d, j, none⟩ = some (.string s) := hC.row.cell (by rw [← hs]; simp [hjl])
      have hlive : live arr f (k + 1) = live arr f k ++ [s] := by rw [live_succ, hj, hs]
      have HL := hid hlive
      have HJ := hid hj
      have hlen : (strs (live arr f k)).length = k := by simp [strs, live_length]
      have HLEN := hid hlen
      clear hlive hs hj hlen
      have hkle : k ≤ arr.length := by omega
      go_wp2
      refine Lex.region (fun _ => True) [.pure, .pure, .pure, .pure, .head, .pure, .pure, .head, .pure, .head, .loud, .loud, .pure] (by kernel_rfl) (by kernel_rfl) (fun _ => trivial) ?_
      repeat (refine Lex.step_pure rfl rfl ?_; go_big_quiet_step (fail); refine wpQuiet_nil ?_)
      refine Lex.step_head rfl ?_
      go_big_quiet_step ((fail))
      refine wpQuiet_nil ?_
      repeat (refine Lex.step_pure rfl rfl ?_; go_big_quiet_step (fail); refine wpQuiet_nil ?_)
      refine Lex.step_head rfl ?_
      go_big_quiet_step ((go_at_call 67; first | exact calls_quiet (at_ p d f arr.length k _ (by exact hb0) (by exact hb1) hmost hpos hff hkle j HJ.out) | exact calls_quiet2 (at_ p d f arr.length k _ (by exact hb0) (by exact hb1) hmost hpos hff hkle j HJ.out)))
      refine wpQuiet_nil ?_
      repeat (refine Lex.step_pure rfl rfl ?_; go_big_quiet_step (fail); refine wpQuiet_nil ?_)
      refine Lex.step_head rfl ?_
      go_big_quiet_step ((fail))
      refine wpQuiet_nil ?_
      refine Lex.step_loud rfl (fun wl hwl => ?_)
      obtain ⟨nq, rfl⟩ := hwl
      obtain ⟨i0, hi, hz0, hz1, hz2⟩ := info_parts info
      obtain ⟨v', wA, hrun, hown', hmA, hbA⟩ := append_one (P := Try.prog) (wr.drewN nq) w.heap.size 70 70 9 i0 (.string ⟨#[]⟩) 16 Try.underlying70 hi hz0 hz1 hz2 rfl (hown.mod0 ((Mod.refl [] wr).drewN nq)) (.string s) rfl (by rw [HLEN.out]; simp [maxLen]; omega) (by rw [HLEN.out]; omega) hm.size
      rw [show (wr.drewN nq).heap.size = wr.heap.size from by simp] at hrun
      have hmB := hmA _ _ (hm.drewN nq) (Nat.le_refl _)
      clear hi hz0 hz1 hz2 hmA hbA
      go_wp2_with fail
      refine ⟨rfl, rfl, trivial, ?_⟩
      refine Lex.step_loud rfl (fun wl hwl => ?_)
      replace hwl := hwl.symm
      subst hwl
      go_wp2_with (at_builtin; go_loud (refine wpList_append_run rfl _ _ _ _ rfl _ _ rfl rfl _ _ hrun ?_))
      refine ⟨rfl, rfl, ?_⟩
      repeat (refine Lex.step_pure rfl rfl ?_; go_big_quiet_step (fail); refine wpQuiet_nil ?_)
      refine Lex.step_nil (fun wl hwl => ?_)
      replace hwl := hwl.symm
      subst hwl
      go_wp2
      go_round
      case rel => exact ⟨k + 1, by omega, by go_num, by rw [HL.out]; simpa [strs] using hown', hmB⟩
      case measure => simp [intOf]; omega
    · have : k = n := by omega
      subst this
      go_wp2
      go_ret
      exact ⟨_, rfl, hown, hm⟩

/-- A row of strings, in blocks from base on. -/
def RowS (w : World) (base : Nat) (a : Option Addr) (L : List ByteArray) : Prop :=
  L = [] ∨ ∃ b o, a = some ⟨b, o, none⟩ ∧ base ≤ b ∧ ∀ (i : Nat) s, L[i]? = some s → w.cell? ⟨b, o + i, none⟩ = some (.string s)

theorem lt_of_cell {w : World} {a : Addr} {v : Value} (h : w.cell? a = some v) : a.block < w.heap.size := by
  by_cases hn : w.heap[a.block]? = none
  · simp [World.cell?, hn] at h
  · obtain ⟨x, hx⟩ := Option.ne_none_iff_exists'.1 hn
    exact heap_lt hx

theorem RowS.mod {w w' : World} {base : Nat} {a : Option Addr} {L : List ByteArray} {S : List Nat} (h : RowS w base a L) (m : Mod S w w') (hS : ∀ b, b ∈ S → b < base ∨ w.heap.size ≤ b) : RowS w' base a L := by
  rcases h with h | ⟨b, o, rfl, hb, h⟩
  · exact .inl h
  · exact .inr ⟨b, o, rfl, hb, fun i s hs => m.cell (h i s hs) (fun hm => by
      have h1 := lt_of_cell (h i s hs)
      have h2 := hS b hm
      simp at h1
      omega)⟩

theorem RowS.rowV {w : World} {base : Nat} {a : Option Addr} {L : List ByteArray} (h : RowS w base a L) : RowV w a (strs L) := by
  rcases h with rfl | ⟨b, o, rfl, hb, h⟩
  · exact .inl rfl
  · exact .inr ⟨b, o, rfl, fun i x hx => by
      rw [strs, List.getElem?_map] at hx
      cases hz : L[i]? with
      | none => rw [hz] at hx; cases hx
      | some z => rw [hz] at hx; cases hx; exact h i z hz⟩

theorem owns_strs {w : World} {base : Nat} {e : TypeId} {v : Value} {L : List ByteArray} (h : Owns w base e v (strs L)) : ∃ a cap, v = .slice a L.length cap ∧ RowS w base a L ∧ L.length ≤ cap ∧ cap ≤ maxLen := by
  obtain ⟨a, cap, hv, h1, h2, h3, h4⟩ := h.row
  have e : (strs L).length = L.length := by simp [strs]
  rw [e] at hv h2
  refine ⟨a, cap, hv, ?_, h2, h3⟩
  rcases h1 with h1 | ⟨b, o, rfl, h1⟩
  · exact .inl (by simpa [strs] using h1)
  · exact .inr ⟨b, o, rfl, h4 b o rfl, fun i s hs => h1 i _ (by simp [strs, hs])⟩

theorem refRoom (room : Int) (w : World) (h0 : -9223372036854775808 ≤ room) (h1 : room ≤ 9223372036854775807) (n : Nat) (hn : holds room = n) :
    Calls Try.prog 50 #[.int .i64 room] w fun e w' => e = .returned (.int .i64 n) ∧ w = w' := by
  unfold holds at hn
  by_cases a1 : room < 0
  · have : n = 0 := by omega
    subst this
    clear hn
    go_enter Try.func50, Try.ntmps50
    go_wp2
    go_ret
    exact ⟨rfl, rfl⟩
  · by_cases a2 : room ≤ 4096
    · have : room = n := by omega
      subst this
      clear hn
      go_enter Try.func50, Try.ntmps50
      go_wp2
      go_ret
      exact ⟨rfl, rfl⟩
    · have : n = 4096 := by omega
      subst this
      clear hn
      go_enter Try.func50, Try.ntmps50
      go_wp2
      go_ret
      exact ⟨rfl, rfl⟩

theorem refTake_nil (a : Option Addr) (cap : Nat) (w : World) :
    Calls Try.prog 43 #[.slice a 0 cap] w fun e w' => e = .returned (.tuple #[.slice a 0 cap, .string ⟨#[]⟩, .bool false]) ∧ w = w' := by
  go_enter Try.func43, Try.ntmps43
  go_wp2
  go_ret3
  exact ⟨rfl, rfl⟩

def TakeIs (w : World) (base : Nat) (s : ByteArray) (L : List ByteArray) (e : Ending) (w' : World) : Prop :=
  ∃ a c, e = .returned (.tuple #[.slice a L.length c, .string s, .bool true]) ∧ RowS w' base a L ∧ L.length ≤ c ∧ c ≤ maxLen ∧ ∃ nq, w.drewN nq = w'

theorem refTake_cons (a : Option Addr) (n cap base : Nat) (s : ByteArray) (L : List ByteArray) (w : World) (h : RowS w base a (s :: L)) (hn : L.length + 1 = n) (hc : n ≤ cap) (hm : cap ≤ maxLen) :
    Calls Try.prog 43 #[.slice a n cap] w (TakeIs w base s L) := by
  unfold maxLen at hm
  rcases h with h | ⟨b, o, rfl, hb, h⟩
  · cases h
  have h0 := h 0 s rfl
  have h0' : w.cell? ⟨b, o, none⟩ = some (.string s) := by simpa using h0
  have hpos : 1 ≤ n := by omega
  have hnz : ((n : Int) == 0) = false := by simp; omega
  have hsl : ∃ a', sliced (some ⟨b, o, none⟩) 1 n cap 1 = .slice a' (n - 1) (cap - 1) ∧ RowS w base a' L := by
    refine ⟨_, rfl, ?_⟩
    by_cases hL : L = []
    · exact .inl hL
    · have : 0 < L.length := List.length_pos_iff.2 hL
      refine .inr ⟨b, o + 1, ?_, hb, fun i t ht => ?_⟩
      · rw [if_neg (by omega)]; simp [Addr.add]
      · have := h (i + 1) t (by simpa using ht)
        rw [show o + 1 + i = o + (i + 1) by omega]
        exact this
  obtain ⟨a', hsl1, hsl2⟩ := hsl
  have HN := hid hn
  clear h h0 hn
  go_enter Try.func43, Try.ntmps43
  go_wp2
  refine wp_region_quiet_lit (by kernel_rfl) (by kernel_rfl) ?_
  repeat (go_big_quiet_step ((fail)))
  refine wpQuiet_nil ?_
  intro _ hw'
  obtain ⟨nq, hw''⟩ := hw'
  subst hw''
  go_wp2
  · go_ret3
    have e := HN.out
    exact ⟨some ⟨b, o, none⟩, 0, by simp; omega, .inl (List.length_eq_zero_iff.1 (by omega)), by omega, by decide, nq, rfl⟩
  · have hc1 : ¬ cap = 1 := h
    have hsl3 : a' = some ⟨b, o + 1, none⟩ := by simpa [sliced, Addr.add, hc1, eq_comm] using hsl1
    subst hsl3
    go_ret3
    have e := HN.out
    exact ⟨_, cap - 1, by simp; omega, hsl2.mod ((Mod.refl [] w).drewN nq) (by simp), by omega, by unfold maxLen; omega, nq, rfl⟩

theorem refPut_full (a : Option Addr) (n cap : Nat) (room : Int) (s : ByteArray) (w : World) (h0 : -9223372036854775808 ≤ room) (h1 : room ≤ 9223372036854775807) (r : Nat) (hr : holds room = r) (hf : r ≤ n) (hm : n ≤ 5000) :
    Calls Try.prog 45 #[.slice a n cap, .int .i64 room, .string s] w fun e w' => e = .returned (.tuple #[.slice a n cap, .bool false]) ∧ w = w' := by
  have hroom := fun w => refRoom room w h0 h1 r hr
  clear hr
  go_enter Try.func45, Try.ntmps45
  go_wp2_with fail
  refine (hroom _).mono ?_
  rintro e w1 ⟨rfl, rfl⟩
  go_wp2
  go_ret2
  exact ⟨rfl, rfl⟩

def PutIs (w : World) (L : List ByteArray) (s : ByteArray) (e : Ending) (w' : World) : Prop :=
  ∃ v, e = .returned (.tuple #[v, .bool true]) ∧ Owns w' w.heap.size 9 v (strs (L ++ [s])) ∧ Mod [] w w'

set_option maxRecDepth 100000 in
theorem refPut_room (a : Option Addr) (L : List ByteArray) (n cap base : Nat) (room : Int) (s : ByteArray) (w : World) (hL : RowS w base a L) (hn : L.length = n) (h0 : -9223372036854775808 ≤ room) (h1 : room ≤ 9223372036854775807) (r : Nat) (hr : holds room = r) (hf : n < r) (hm : n ≤ 5000) :
    Calls Try.prog 45 #[.slice a n cap, .int .i64 room, .string s] w (PutIs w L s) := by
  have hroom := fun w => refRoom room w h0 h1 r hr
  clear hr
  obtain ⟨i0, hi, hz0, hz1, hz2⟩ := info_parts info
  have hlen : (strs L).length = n := by simpa [strs] using hn
  obtain ⟨v1, w1, hrun1, hown1, hg1⟩ := run_append_row (P := Try.prog) w w.heap.size 70 70 9 i0 (.string ⟨#[]⟩) 16 Try.underlying70 hi hz0 hz1 hz2 rfl _ _ (Owns.nil w w.heap.size 9) a (strs L) n cap hlen hL.rowV (fun u hu => by obtain ⟨z, _, rfl⟩ := List.mem_map.1 hu; rfl) (by simp [maxLen]; omega) (by simp; omega) (Nat.le_refl _)
  have m1 : Mod [] w w1 := (Mod.refl [] w).grown hg1 (fun k hk _ => by simp [Value.ownBlock] at hk)
  obtain ⟨v2, w2, hrun2, hown2, hm2, _⟩ := append_one (P := Try.prog) w1 w.heap.size 70 70 9 i0 (.string ⟨#[]⟩) 16 Try.underlying70 hi hz0 hz1 hz2 rfl hown1 (.string s) rfl (by simp [hlen, maxLen]; omega) (by simp [hlen]; omega) m1.size
  have m2 := hm2 _ _ m1 (Nat.le_refl _)
  clear hi hz0 hz1 hz2 hm2 hlen hn hL
  go_enter Try.func45, Try.ntmps45
  go_wp2_with fail
  refine (hroom _).mono ?_
  rintro e wz ⟨rfl, rfl⟩
  go_wp2_with (at_builtin; first | refine wpList_append_run rfl _ _ _ _ rfl _ _ rfl rfl _ _ hrun1 ?_ | refine wpList_append_run rfl _ _ _ _ rfl _ _ rfl rfl _ _ hrun2 ?_)
  go_ret2
  exact ⟨v2, rfl, by simpa [strs] using hown2, m2⟩

theorem all_ (p d cap : Nat) (l : List ByteArray) (w : World) (h : At w p d cap l) :
    Calls Try.prog 47 #[.pointer (some ⟨p, 0, none⟩)] w (AllIs w l) := by
  obtain ⟨arr, f, hc, h1, h2⟩ := h
  have := allC p d f _ arr w hc
  rw [h2] at this
  exact this

end RingS
end Go.Proofs.Ytlhbfkncdcgocaa
