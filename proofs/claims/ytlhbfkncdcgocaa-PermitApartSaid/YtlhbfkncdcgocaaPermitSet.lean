/- The example of layer 4, and the document's answer Set. -/
import Derived.Test.YtlhbfkncdcgocaaPermit
import Derived.Test.YtlhbfkncdcgocaaRead
namespace Go.Proofs.Ytlhbfkncdcgocaa
open Go.RowKit
set_option linter.unusedVariables false
namespace Permit

theorem new_ (n : Nat) (w : World) (h1 : 1 ≤ n) (h64 : n ≤ 64) :
    Calls Try.prog 53 #[.int .i64 n] w fun e w' => ∃ p d cap cs, e = .returned (.tuple #[.pointer (some ⟨p, 0, none⟩), .int .i64 0]) ∧ C w' p d cap cs (List.replicate n false) ∧ cs.length = n ∧ (∀ x, x = p ∨ x = d ∨ x ∈ cs → w.heap.size ≤ x) ∧ Mod [] w w' :=
  (new_in n w h1 h64).mono fun e w' ⟨p, d, cap, cs, he, hC, h2, h3, h4, hm⟩ => ⟨p, d, cap, cs, he, hC, by have := hC.len; simpa using this.symm, by
    rintro x (rfl | rfl | hx)
    · exact h2
    · exact h3
    · exact h4 x hx, hm⟩

theorem awake04 (w : World) : Calls Try.prog 57 #[] w fun e w' => e = .returned (.bool true) ∧ Mod [] w w' := by
  go_enter Try.func57, Try.ntmps57
  go_wp2_with fail
  refine (new_ 1 _ (by decide) (by decide)).mono ?_
  rintro e w1 ⟨p, d, cap, cs, rfl, hC, hl, hb, m1⟩
  go_wp2_with fail
  refine (give_in p d cap cs _ _ hC 0 (by omega) false rfl).mono ?_
  rintro e w2 ⟨rfl, hC2, m2⟩
  go_wp2_with fail
  refine (give_in p d cap cs _ _ hC2 0 (by omega) true rfl).mono ?_
  rintro e w3 ⟨rfl, hC3, m3⟩
  go_wp2_with fail
  refine (take_in p d cap cs _ _ hC3 0 (by omega) true rfl).mono ?_
  rintro e w4 ⟨rfl, hC4, m4⟩
  go_wp2_with fail
  refine (take_in p d cap cs _ _ hC4 0 (by omega) false rfl).mono ?_
  rintro e w5 ⟨rfl, hC5, m5⟩
  go_wp2
  go_ret
  have hx : ∀ x, x ∈ cs → x < w.heap.size → x ∈ ([] : List Nat) := fun x hx hlt => by have := hb x (.inr (.inr hx)); omega
  exact ⟨rfl, (((m1.step m2 hx).step m3 hx).step m4 hx).step m5 hx⟩

def ints (l : List Int) : List Value := l.map (Value.int .i64)

theorem info_int : (Try.prog.info? 3).map (fun i => (i.zero, i.size, i.bytes)) = some (some (.int .i64 0), 1, 8) := by kernel_rfl

def SetIs (w : World) (l : List Int) (t : Nat) (to z : Int) (e : Ending) (w' : World) : Prop :=
  ∃ v', e = .returned (.tuple #[v', .int .i64 z, .bool true]) ∧ Owns w' w.heap.size 3 v' (ints (l.set t to)) ∧ Mod [] w w'

theorem set_out (a : Option Addr) (n cap : Nat) (t to : Int) (w : World) (hn : n ≤ 1000) (h : t < 0 ∨ n ≤ t) :
    Calls Try.prog 58 #[.slice a n cap, .int .i64 t, .int .i64 to] w fun e w' => e = .returned (.tuple #[.slice a n cap, .int .i64 0, .bool false]) ∧ w = w' := by
  by_cases h0 : t < 0
  · clear h
    go_enter Try.func58, Try.ntmps58
    go_wp2
    go_ret3
    exact ⟨rfl, rfl⟩
  · have h1 : 0 ≤ t := by omega
    have h2 : (n : Int) ≤ t := by omega
    clear h h0
    go_enter Try.func58, Try.ntmps58
    go_wp2
    go_ret3
    exact ⟨rfl, rfl⟩

set_option maxRecDepth 100000 in
theorem set_in (base : Nat) (v : Value) (l : List Int) (t : Nat) (to : Int) (w : World) (hn : l.length ≤ 1000) (z : Int) (hz : l[t]? = some z) (hown : Owns w base 3 v (ints l)) :
    Calls Try.prog 58 #[v, .int .i64 t, .int .i64 to] w (SetIs w l t to z) := by
  have ht : t < l.length := (List.getElem?_eq_some_iff.1 hz).1
  have hil : (ints l).length = l.length := by simp [ints]
  obtain ⟨a, cap, hv, hrow, hle, hcm, _⟩ := hown.row
  rw [hil] at hv hle
  obtain ⟨i0, hi, hz0, hz1, hz2⟩ := info_parts info_int
  obtain ⟨v', wA, hrun, hown', hgr⟩ := run_append_row (P := Try.prog) w w.heap.size 33 33 3 i0 (.int .i64 0) 8 Try.underlying33 hi hz0 hz1 hz2 rfl (.slice none 0 0) [] (Owns.nil _ _ _) a (ints l) l.length cap hil hrow
    (fun u hu => by obtain ⟨z, _, rfl⟩ := List.mem_map.1 hu; rfl) (by simp [maxLen]; omega) (by simp; omega) (Nat.le_refl _)
  have hmA : Mod [] w wA := (Mod.refl [] w).grown hgr (by simp [Value.ownBlock])
  simp only [List.nil_append] at hown'
  have hrowA := hrow.mod0 hmA
  rcases hown'.form with ⟨_, h0⟩ | ⟨g, c2, hv2, hbg, hgl, hle2, hcm2, hcells, hfree⟩
  · have h3 : l = [] := by simpa [ints] using h0
    rw [h3] at ht
    simp at ht
  rw [hil] at hv2 hle2
  rcases hrow with h0 | ⟨b, o, rfl, hcell⟩
  · have h3 : l = [] := by simpa [ints] using h0
    rw [h3] at ht
    simp at ht
  subst hv
  subst hv2
  have hold : w.cell? ⟨b, o + t, none⟩ = some (.int .i64 z) := hcell t _ (by simp [ints, hz])
  have hblt : b < w.heap.size := cell_lt hold
  have holdA := hmA.cell hold (by simp)
  have hne : b ≠ g := by omega
  have hft := hfree t
  have hct := hcells t (.int .i64 z) (by simp [ints, hz])
  have hownS := hown'.set t (.int .i64 to)
  rw [← show ints (l.set t to) = (ints l).set t (.int .i64 to) by simp [ints, List.map_set]] at hownS
  have mS := hmA.setCell (a := ⟨g, t, none⟩) (by simp; omega) (.int .i64 to)
  clear hz hcells hfree hcell hil hi hz0 hz1 hz2
  go_enter Try.func58, Try.ntmps58
  go_wp2_with (at_builtin; refine wpList_append_run rfl _ _ _ _ rfl _ _ rfl rfl _ _ hrun ?_)
  go_quiet (fail)
  go_wp2
  go_ret3
  exact ⟨_, rfl, hownS.mod0 ((Mod.refl [] _).drewN _), mS.drewN _⟩

end Permit
end Go.Proofs.Ytlhbfkncdcgocaa
