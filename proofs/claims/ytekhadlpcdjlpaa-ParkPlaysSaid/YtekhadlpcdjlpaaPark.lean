/- Contracts of layer 11 (park). -/
import Derived.Test.YtekhadlpcdjlpaaPermit
import Derived.Test.YtekhadlpcdjlpaaFlat2
import Derived.Deep.DeepCutAuto
namespace Go.Proofs.Ytekhadlpcdjlpaa
namespace Park
open Go.RowKit
set_option linter.unusedVariables false

/-- Waits: the struct's block p; the sleepers' block g; the permits. -/
structure W (w : World) (p g gc pp pd pcap : Nat) (cs : List Nat) (spin : Nat) (sl : List (Int × Int)) (bs : List Bool) : Prop where
  box : Blk w p 164 [.int .i64 spin, .slice (some ⟨g, 0, none⟩) sl.length gc, .pointer (some ⟨pp, 0, none⟩)]
  row : ∃ sp, Blk w g 166 (flat2 sl ++ sp)
  perm : Permit.C w pp pd pcap cs bs
  len : bs.length = sl.length
  ne : p ≠ g
  out : ∀ x, x = pp ∨ x = pd ∨ x ∈ cs → x ≠ p ∧ x ≠ g
  budget : 1 ≤ spin ∧ spin ≤ 1000
  looks : ∀ (t : Nat) x, sl[t]? = some x → 0 ≤ x.1 ∧ x.1 < (spin : Int)

section
variable {w w' : World} {p g gc pp pd pcap : Nat} {cs : List Nat} {spin : Nat} {sl : List (Int × Int)} {bs : List Bool}

theorem W.most (h : W w p g gc pp pd pcap cs spin sl bs) : sl.length ≤ 64 ∧ sl.length = cs.length := by
  have h1 := h.perm.most
  have h2 := h.perm.len
  have h3 := h.len
  omega

theorem W.mod {S : List Nat} (h : W w p g gc pp pd pcap cs spin sl bs) (m : Mod S w w') (hp : p ∉ S) (hg : g ∉ S) (hS : ∀ x, x = pp ∨ x = pd ∨ x ∈ cs → x ∉ S) : W w' p g gc pp pd pcap cs spin sl bs :=
  ⟨m.blk h.box hp, by obtain ⟨sp, hr⟩ := h.row; exact ⟨sp, m.blk hr hg⟩, h.perm.mod m (hS _ (.inl rfl)) (hS _ (.inr (.inl rfl))) (fun c hc => hS _ (.inr (.inr hc))), h.len, h.ne, h.out, h.budget, h.looks⟩

theorem W.mod0 (h : W w p g gc pp pd pcap cs spin sl bs) (m : Mod [] w w') : W w' p g gc pp pd pcap cs spin sl bs := h.mod m (by simp) (by simp) (by simp)

/-- A change of the permits alone. -/
theorem W.perms (h : W w p g gc pp pd pcap cs spin sl bs) {bs' : List Bool} (hc : Permit.C w' pp pd pcap cs bs') (hl : bs'.length = bs.length) (m : Mod cs w w') : W w' p g gc pp pd pcap cs spin sl bs' :=
  ⟨m.blk h.box (fun hm => (h.out p (.inr (.inr hm))).1 rfl), by obtain ⟨sp, hr⟩ := h.row; exact ⟨sp, m.blk hr (fun hm => (h.out g (.inr (.inr hm))).2 rfl)⟩, hc, by rw [hl]; exact h.len, h.ne, h.out, h.budget, h.looks⟩

/-- A sleeper's cells. -/
theorem W.cells (h : W w p g gc pp pd pcap cs spin sl bs) {t : Nat} {x : Int × Int} (hx : sl[t]? = some x) :
    w.cell? ⟨g, t * 2, none⟩ = some (.int .i64 x.1) ∧ w.cell? ⟨g, t * 2 + 1, none⟩ = some (.int .i64 x.2) ∧ w.frozen? ⟨g, t * 2, none⟩ = false ∧ w.frozen? ⟨g, t * 2 + 1, none⟩ = false := by
  obtain ⟨sp, hr⟩ := h.row
  obtain ⟨h1, h2⟩ := flat2_get sl t x hx
  have e : ∀ i v, (flat2 sl)[i]? = some v → (flat2 sl ++ sp)[i]? = some v := fun i v hv => by
    rw [List.getElem?_append_left ((List.getElem?_eq_some_iff.1 hv).1)]; exact hv
  exact ⟨hr.cell (e _ _ h1), hr.cell (e _ _ h2), hr.free _, hr.free _⟩

/-- A change of one sleeper. -/
theorem W.put (h : W w p g gc pp pd pcap cs spin sl bs) {t : Nat} (ht : t < sl.length) (x : Int × Int) (hx : 0 ≤ x.1 ∧ x.1 < (spin : Int)) :
    W ((w.setCell ⟨g, t * 2, none⟩ (.int .i64 x.1)).setCell ⟨g, t * 2 + 1, none⟩ (.int .i64 x.2)) p g gc pp pd pcap cs spin (sl.set t x) bs := by
  have m : Mod [g] w ((w.setCell ⟨g, t * 2, none⟩ (.int .i64 x.1)).setCell ⟨g, t * 2 + 1, none⟩ (.int .i64 x.2)) := ((Mod.refl _ _).setCell (by simp) _).setCell (by simp) _
  refine ⟨?_, ?_, h.perm.mod m ?_ ?_ ?_, by simpa using h.len, h.ne, h.out, h.budget, fun q y hy => ?_⟩
  · rw [List.length_set]
    exact m.blk h.box (by simpa using h.ne)
  · obtain ⟨sp, hr⟩ := h.row
    refine ⟨sp, ?_⟩
    have h1 := (hr.set (t * 2) (.int .i64 x.1)).set (t * 2 + 1) (.int .i64 x.2)
    have hl : (flat2 sl).length = sl.length * 2 := flat2_len sl
    rw [List.set_append_left _ _ (by omega), List.set_append_left _ _ (by rw [List.length_set]; omega)] at h1
    rw [flat2_set, if_pos ht]
    exact h1
  · have := (h.out pp (.inl rfl)).2
    simpa using this
  · have := (h.out pd (.inr (.inl rfl))).2
    simpa using this
  · intro c hc
    have := (h.out c (.inr (.inr hc))).2
    simpa using this
  · by_cases hq : t = q
    · subst hq
      simp [ht] at hy
      subst hy
      exact hx
    · rw [List.getElem?_set_ne hq] at hy
      exact h.looks q y hy

theorem flat2_fst (l : List (Int × Int)) (t : Nat) (x : Int × Int) (v : Int) (hx : l[t]? = some x) : (flat2 l).set (t * 2) (.int .i64 v) = flat2 (l.set t (v, x.2)) := by
  have ht : t < l.length := (List.getElem?_eq_some_iff.1 hx).1
  rw [flat2_set, if_pos ht]
  refine (Permit.set_same ?_).symm
  rw [List.getElem?_set_ne (by omega)]
  exact (flat2_get l t x hx).2

/-- A change of one sleeper's looks. -/
theorem W.put1 (h : W w p g gc pp pd pcap cs spin sl bs) {t : Nat} {x : Int × Int} (hx : sl[t]? = some x) (v : Int) (hv : 0 ≤ v ∧ v < (spin : Int)) :
    W (w.setCell ⟨g, t * 2, none⟩ (.int .i64 v)) p g gc pp pd pcap cs spin (sl.set t (v, x.2)) bs := by
  have ht : t < sl.length := (List.getElem?_eq_some_iff.1 hx).1
  have h1 := h.put ht (v, x.2) hv
  have m : Mod [g] w (w.setCell ⟨g, t * 2, none⟩ (.int .i64 v)) := (Mod.refl _ _).setCell (by simp) _
  refine ⟨?_, ?_, h.perm.mod m (by simpa using (h.out pp (.inl rfl)).2) (by simpa using (h.out pd (.inr (.inl rfl))).2) (fun c hc => by simpa using (h.out c (.inr (.inr hc))).2), h1.len, h.ne, h.out, h.budget, h1.looks⟩
  · rw [List.length_set]
    exact m.blk h.box (by simpa using h.ne)
  · obtain ⟨sp, hr⟩ := h.row
    refine ⟨sp, ?_⟩
    have h2 := hr.set (t * 2) (.int .i64 v)
    rw [List.set_append_left _ _ (by rw [flat2_len]; omega), flat2_fst sl t x v hx] at h2
    exact h2
end

section
variable {w : World} {p g gc pp pd pcap : Nat} {cs : List Nat} {spin : Nat} {sl : List (Int × Int)} {bs : List Bool}

theorem looks_ (h : W w p g gc pp pd pcap cs spin sl bs) (t : Nat) (x : Int × Int) (hx : sl[t]? = some x) :
    Calls Try.prog 70 #[.pointer (some ⟨p, 0, none⟩), .int .i64 t] w fun e w' => e = .returned (.int .i64 x.1) ∧ w = w' := by
  have hb1 : w.cell? ⟨p, 1, none⟩ = _ := h.box.cell rfl
  have hm := h.most.1
  have ht : t < sl.length := (List.getElem?_eq_some_iff.1 hx).1
  obtain ⟨c1, c2, _, _⟩ := h.cells hx
  clear h hx
  go_enter Try.func70, Try.ntmps70
  go_wp2
  go_ret
  exact ⟨rfl, rfl⟩

theorem moved_ (h : W w p g gc pp pd pcap cs spin sl bs) (t : Nat) (x : Int × Int) (hx : sl[t]? = some x) :
    Calls Try.prog 64 #[.pointer (some ⟨p, 0, none⟩), .int .i64 t] w fun e w' => e = .returned (.tuple #[]) ∧ W w' p g gc pp pd pcap cs spin (sl.set t (0, x.2)) bs ∧ Mod [g] w w' := by
  have hb1 : w.cell? ⟨p, 1, none⟩ = _ := h.box.cell rfl
  have hm := h.most.1
  have ht : t < sl.length := (List.getElem?_eq_some_iff.1 hx).1
  obtain ⟨c1, c2, f1, f2⟩ := h.cells hx
  have hput := h.put1 hx 0 (by have := h.budget; omega)
  clear h hx
  go_enter Try.func64, Try.ntmps64
  go_wp2
  go_end0
  exact ⟨rfl, hput, (Mod.refl _ _).setCell (by simp) _⟩

theorem look_no (h : W w p g gc pp pd pcap cs spin sl bs) (t : Nat) (x : Int × Int) (hx : sl[t]? = some x) (ad : Int) (hlt : x.1 + 1 < (spin : Int)) :
    Calls Try.prog 52 #[.pointer (some ⟨p, 0, none⟩), .int .i64 t, .int .i64 ad] w fun e w' => e = .returned (.bool false) ∧ W w' p g gc pp pd pcap cs spin (sl.set t (x.1 + 1, x.2)) bs ∧ Mod [g] w w' := by
  have hb0 : w.cell? ⟨p, 0, none⟩ = _ := h.box.cell rfl
  have hb1 : w.cell? ⟨p, 1, none⟩ = _ := h.box.cell rfl
  have hm := h.most.1
  have hs := h.budget
  have hx0 := h.looks t x hx
  have hne := h.ne
  have ht : t < sl.length := (List.getElem?_eq_some_iff.1 hx).1
  obtain ⟨c1, c2, f1, f2⟩ := h.cells hx
  have hput := h.put1 hx (x.1 + 1) (by omega)
  have HP := hid hput
  clear h hx hput
  go_enter Try.func52, Try.ntmps52
  go_wp2_with fail
  go_quiet (fail)
  go_wp2_with fail
  go_ret
  exact ⟨rfl, HP.out.mod0 ((Mod.refl [] _).drewN _), ((Mod.refl _ _).setCell (by simp) _).drewN _⟩

theorem look_yes (h : W w p g gc pp pd pcap cs spin sl bs) (t : Nat) (x : Int × Int) (hx : sl[t]? = some x) (ad : Int) (hlt : (spin : Int) ≤ x.1 + 1) :
    Calls Try.prog 52 #[.pointer (some ⟨p, 0, none⟩), .int .i64 t, .int .i64 ad] w fun e w' => e = .returned (.bool true) ∧ W w' p g gc pp pd pcap cs spin (sl.set t (0, ad)) bs ∧ Mod [g] w w' := by
  have hb0 : w.cell? ⟨p, 0, none⟩ = _ := h.box.cell rfl
  have hb1 : w.cell? ⟨p, 1, none⟩ = _ := h.box.cell rfl
  have hm := h.most.1
  have hs := h.budget
  have hx0 := h.looks t x hx
  have hne := h.ne
  have ht : t < sl.length := (List.getElem?_eq_some_iff.1 hx).1
  obtain ⟨c1, c2, f1, f2⟩ := h.cells hx
  have HP := hid h
  clear h hx
  go_enter Try.func52, Try.ntmps52
  go_wp2_with fail
  go_quiet (fail)
  go_wp2_with fail
  go_ret
  have hput := HP.out.put ht (0, ad) (by omega)
  obtain ⟨sp, hr⟩ := HP.out.row
  refine ⟨rfl, ?_, ((((Mod.refl _ _).setCell (by simp) _).drewN _).setCell (by simp) _).setCell (by simp) _⟩
  have m1 : Mod [g] w (((w.setCell ⟨g, t * 2, none⟩ (.int .i64 (x.1 + 1))).drewN nq).setCell ⟨g, t * 2, none⟩ (.int .i64 0)) := (((Mod.refl _ _).setCell (by simp) _).drewN _).setCell (by simp) _
  have m2 := m1.setCell (a := ⟨g, t * 2 + 1, none⟩) (by simp) (.int .i64 ad)
  refine ⟨?_, ⟨sp, ?_⟩, HP.out.perm.mod m2 (by simpa using (HP.out.out pp (.inl rfl)).2) (by simpa using (HP.out.out pd (.inr (.inl rfl))).2) (fun c hc => by simpa using (HP.out.out c (.inr (.inr hc))).2), hput.len, hne, HP.out.out, hs, hput.looks⟩
  · rw [List.length_set]
    exact m2.blk HP.out.box (by simpa using hne)
  · have h1 := (((hr.set (t * 2) (.int .i64 (x.1 + 1))).drewN nq).set (t * 2) (.int .i64 0)).set (t * 2 + 1) (.int .i64 ad)
    rw [List.set_set] at h1
    have hl : (flat2 sl).length = sl.length * 2 := flat2_len sl
    rw [List.set_append_left _ _ (by omega), List.set_append_left _ _ (by rw [List.length_set]; omega)] at h1
    rw [flat2_set, if_pos ht]
    exact h1

theorem wake_awake (h : W w p g gc pp pd pcap cs spin sl bs) (t : Nat) (lk : Int) (hx : sl[t]? = some (lk, -1)) :
    Calls Try.prog 66 #[.pointer (some ⟨p, 0, none⟩), .int .i64 t] w fun e w' => e = .returned (.bool false) ∧ w = w' := by
  have hb1 : w.cell? ⟨p, 1, none⟩ = _ := h.box.cell rfl
  have hm := h.most.1
  have ht : t < sl.length := (List.getElem?_eq_some_iff.1 hx).1
  obtain ⟨c1, c2, _, _⟩ := h.cells hx
  clear h hx
  go_enter Try.func66, Try.ntmps66
  go_wp2
  go_ret
  exact ⟨rfl, rfl⟩

theorem wake_asleep (h : W w p g gc pp pd pcap cs spin sl bs) (t : Nat) (lk ad : Int) (hx : sl[t]? = some (lk, ad)) (had : ad ≠ -1) (b : Bool) (hb : bs[t]? = some b) :
    Calls Try.prog 66 #[.pointer (some ⟨p, 0, none⟩), .int .i64 t] w fun e w' => e = .returned (.bool (!b)) ∧ W w' p g gc pp pd pcap cs spin sl (bs.set t true) ∧ Mod cs w w' := by
  have hb1 : w.cell? ⟨p, 1, none⟩ = _ := h.box.cell rfl
  have hb2 : w.cell? ⟨p, 2, none⟩ = _ := h.box.cell rfl
  have hm := h.most
  have ht : t < sl.length := (List.getElem?_eq_some_iff.1 hx).1
  obtain ⟨c1, c2, _, _⟩ := h.cells hx
  have hgive := Permit.give_in pp pd pcap cs bs w h.perm t (by omega) b hb
  have d1 : (ad == -1) = false := by simpa using had
  have HP := hid h
  clear h hx had hb
  go_enter Try.func66, Try.ntmps66
  go_wp2_with fail
  refine hgive.mono ?_
  rintro e w1 ⟨rfl, hC, m1⟩
  go_wp2
  go_ret
  exact ⟨rfl, HP.out.perms hC (by simp) m1, m1⟩

theorem resume_awake (h : W w p g gc pp pd pcap cs spin sl bs) (t : Nat) (lk : Int) (hx : sl[t]? = some (lk, -1)) :
    Calls Try.prog 55 #[.pointer (some ⟨p, 0, none⟩), .int .i64 t] w fun e w' => e = .returned (.bool true) ∧ w = w' := by
  have hb1 : w.cell? ⟨p, 1, none⟩ = _ := h.box.cell rfl
  have hm := h.most.1
  have ht : t < sl.length := (List.getElem?_eq_some_iff.1 hx).1
  obtain ⟨c1, c2, _, _⟩ := h.cells hx
  clear h hx
  go_enter Try.func55, Try.ntmps55
  go_wp2
  go_ret
  exact ⟨rfl, rfl⟩

theorem resume_no (h : W w p g gc pp pd pcap cs spin sl bs) (t : Nat) (lk ad : Int) (hx : sl[t]? = some (lk, ad)) (had : ad ≠ -1) (hb : bs[t]? = some false) :
    Calls Try.prog 55 #[.pointer (some ⟨p, 0, none⟩), .int .i64 t] w fun e w' => e = .returned (.bool false) ∧ W w' p g gc pp pd pcap cs spin sl bs ∧ Mod cs w w' := by
  have hb1 : w.cell? ⟨p, 1, none⟩ = _ := h.box.cell rfl
  have hb2 : w.cell? ⟨p, 2, none⟩ = _ := h.box.cell rfl
  have hm := h.most
  have ht : t < sl.length := (List.getElem?_eq_some_iff.1 hx).1
  obtain ⟨c1, c2, _, _⟩ := h.cells hx
  have htake := Permit.take_in pp pd pcap cs bs w h.perm t (by omega) false hb
  rw [Permit.set_same hb] at htake
  have d1 : (ad == -1) = false := by simpa using had
  have HP := hid h
  clear h hx had hb
  go_enter Try.func55, Try.ntmps55
  go_wp2_with fail
  refine htake.mono ?_
  rintro e w1 ⟨rfl, hC, m1⟩
  go_wp2
  go_ret
  exact ⟨rfl, HP.out.perms hC rfl m1, m1⟩

theorem resume_yes (h : W w p g gc pp pd pcap cs spin sl bs) (t : Nat) (lk ad : Int) (hx : sl[t]? = some (lk, ad)) (had : ad ≠ -1) (hb : bs[t]? = some true) :
    Calls Try.prog 55 #[.pointer (some ⟨p, 0, none⟩), .int .i64 t] w fun e w' => e = .returned (.bool true) ∧ W w' p g gc pp pd pcap cs spin (sl.set t (0, -1)) (bs.set t false) ∧ Mod (g :: cs) w w' := by
  have hb1 : w.cell? ⟨p, 1, none⟩ = _ := h.box.cell rfl
  have hb2 : w.cell? ⟨p, 2, none⟩ = _ := h.box.cell rfl
  have hm := h.most
  have ht : t < sl.length := (List.getElem?_eq_some_iff.1 hx).1
  obtain ⟨c1, c2, _, _⟩ := h.cells hx
  have htake := Permit.take_in pp pd pcap cs bs w h.perm t (by omega) true hb
  have d1 : (ad == -1) = false := by simpa using had
  have HX := hid hx
  have HP := hid h
  clear h hx had hb
  go_enter Try.func55, Try.ntmps55
  go_wp2_with fail
  refine htake.mono ?_
  rintro e w1 ⟨rfl, hC, m1⟩
  have hW1 := HP.out.perms hC (by simp) m1
  clear hb1 hb2 c1 c2
  have hb1 : w1.cell? ⟨p, 1, none⟩ = _ := hW1.box.cell rfl
  obtain ⟨c1, c2, f1, f2⟩ := hW1.cells HX.out
  have hput := hW1.put ht (0, -1) (by have := hW1.budget; simp; omega)
  have HW := hid hput
  clear hput
  go_wp2
  go_ret
  exact ⟨rfl, HW.out, ((m1.mono (T := g :: cs) (fun k hk _ => List.mem_cons_of_mem _ hk)).setCell (by simp) _).setCell (by simp) _⟩

theorem parked_awake (h : W w p g gc pp pd pcap cs spin sl bs) (t : Nat) (lk : Int) (hx : sl[t]? = some (lk, -1)) :
    Calls Try.prog 54 #[.pointer (some ⟨p, 0, none⟩), .int .i64 t] w fun e w' => e = .returned (.tuple #[.int .i64 0, .bool false]) ∧ w = w' := by
  have hb1 : w.cell? ⟨p, 1, none⟩ = _ := h.box.cell rfl
  have hm := h.most.1
  have ht : t < sl.length := (List.getElem?_eq_some_iff.1 hx).1
  obtain ⟨c1, c2, _, _⟩ := h.cells hx
  clear h hx
  go_enter Try.func54, Try.ntmps54
  go_wp2
  go_ret2
  exact ⟨rfl, rfl⟩

theorem parked_asleep (h : W w p g gc pp pd pcap cs spin sl bs) (t : Nat) (lk ad : Int) (hx : sl[t]? = some (lk, ad)) (had : ad ≠ -1) (b : Bool) (hb : bs[t]? = some b) :
    Calls Try.prog 54 #[.pointer (some ⟨p, 0, none⟩), .int .i64 t] w fun e w' => e = .returned (.tuple #[.int .i64 (if b then 0 else ad), .bool (!b)]) ∧ w = w' := by
  have hb1 : w.cell? ⟨p, 1, none⟩ = _ := h.box.cell rfl
  have hb2 : w.cell? ⟨p, 2, none⟩ = _ := h.box.cell rfl
  have hm := h.most
  have ht : t < sl.length := (List.getElem?_eq_some_iff.1 hx).1
  obtain ⟨c1, c2, _, _⟩ := h.cells hx
  have hhas := Permit.has_in pp pd pcap cs bs w h.perm t (by omega) b hb
  have d1 : (ad == -1) = false := by simpa using had
  clear h hx had hb
  cases b with
  | true =>
    go_enter Try.func54, Try.ntmps54
    go_wp2_with fail
    refine hhas.mono ?_
    rintro e w1 ⟨rfl, rfl⟩
    go_wp2
    go_ret2
    exact ⟨rfl, rfl⟩
  | false =>
    go_enter Try.func54, Try.ntmps54
    go_wp2_with fail
    refine hhas.mono ?_
    rintro e w1 ⟨rfl, rfl⟩
    go_wp2
    go_ret2
    exact ⟨rfl, rfl⟩
end
end Park
end Go.Proofs.Ytekhadlpcdjlpaa
