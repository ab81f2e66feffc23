/- Contracts of the document's answer for layer 11, more. -/
import Derived.Test.YtekhadlpcdjlpaaRef11
namespace Go.Proofs.Ytekhadlpcdjlpaa
namespace Ref11
open Go.RowKit
set_option linter.unusedVariables false
set_option linter.unusedSimpArgs false

section
variable {w : World} {q b1 b2 b3 b4 n spin : Nat} {lo sp ad pe : List Int}

/-- The cells of thread t. -/
theorem R.cells (h : R w q b1 b2 b3 b4 n spin lo sp ad pe) {t : Nat} {l s a p : Int} (h1 : lo[t]? = some l) (h2 : sp[t]? = some s) (h3 : ad[t]? = some a) (h4 : pe[t]? = some p) :
    w.cell? ⟨b1, t, none⟩ = some (.int .i64 l) ∧ w.cell? ⟨b2, t, none⟩ = some (.int .i64 s) ∧ w.cell? ⟨b3, t, none⟩ = some (.int .i64 a) ∧ w.cell? ⟨b4, t, none⟩ = some (.int .i64 p) ∧
      w.frozen? ⟨b1, t, none⟩ = false ∧ w.frozen? ⟨b2, t, none⟩ = false ∧ w.frozen? ⟨b3, t, none⟩ = false ∧ w.frozen? ⟨b4, t, none⟩ = false :=
  ⟨h.r1.cell (ints_get h1), h.r2.cell (ints_get h2), h.r3.cell (ints_get h3), h.r4.cell (ints_get h4), h.r1.free _, h.r2.free _, h.r3.free _, h.r4.free _⟩

theorem parked_ (h : R w q b1 b2 b3 b4 n spin lo sp ad pe) (t : Nat) (l s a p : Int) (h1 : lo[t]? = some l) (h2 : sp[t]? = some s) (h3 : ad[t]? = some a) (h4 : pe[t]? = some p) (r : Int) (hr : r = if s = 0 ∨ p = 1 then -1 else a) :
    Calls Try.prog 69 #[.pointer (some ⟨q, 0, none⟩), .int .i64 t] w fun e w' => e = .returned (.int .i64 r) ∧ w = w' := by
  have c0 : w.cell? ⟨q, 2, none⟩ = _ := h.box.cell rfl
  have c1 : w.cell? ⟨q, 3, none⟩ = _ := h.box.cell rfl
  have c2 : w.cell? ⟨q, 4, none⟩ = _ := h.box.cell rfl
  obtain ⟨d1, d2, d3, d4, _⟩ := h.cells h1 h2 h3 h4
  have ht : t < n := by have := (List.getElem?_eq_some_iff.1 h1).1; have := h.len; omega
  have hm := h.most
  clear h h1 h2 h3 h4
  by_cases hs : s = 0
  · subst hs
    rw [if_pos (.inl rfl)] at hr
    subst hr
    go_enter Try.func69, Try.ntmps69
    go_wp2
    go_ret
    exact ⟨rfl, rfl⟩
  · have e1 : (s == 0) = false := by simpa using hs
    by_cases hp : p = 1
    · subst hp
      rw [if_pos (.inr rfl)] at hr
      subst hr
      clear hs
      go_enter Try.func69, Try.ntmps69
      go_wp2
      go_ret
      exact ⟨rfl, rfl⟩
    · have e2 : (p == 1) = false := by simpa using hp
      rw [if_neg (by simp [hs, hp])] at hr
      subst hr
      clear hs hp
      go_enter Try.func69, Try.ntmps69
      go_wp2
      go_ret
      exact ⟨rfl, rfl⟩

theorem wake_no (h : R w q b1 b2 b3 b4 n spin lo sp ad pe) (t : Nat) (l s a p : Int) (h1 : lo[t]? = some l) (h2 : sp[t]? = some s) (h3 : ad[t]? = some a) (h4 : pe[t]? = some p) (hn : s = 0 ∨ p = 1) :
    Calls Try.prog 67 #[.pointer (some ⟨q, 0, none⟩), .int .i64 t] w fun e w' => e = .returned (.int .i64 0) ∧ w = w' := by
  have c0 : w.cell? ⟨q, 2, none⟩ = _ := h.box.cell rfl
  have c2 : w.cell? ⟨q, 4, none⟩ = _ := h.box.cell rfl
  obtain ⟨d1, d2, d3, d4, _⟩ := h.cells h1 h2 h3 h4
  have ht : t < n := by have := (List.getElem?_eq_some_iff.1 h1).1; have := h.len; omega
  have hm := h.most
  clear h h1 h2 h3 h4
  by_cases hs : s = 0
  · subst hs
    clear hn
    go_enter Try.func67, Try.ntmps67
    go_wp2
    go_ret
    exact ⟨rfl, rfl⟩
  · have e1 : (s == 0) = false := by simpa using hs
    obtain rfl : p = 1 := by omega
    clear hs hn
    go_enter Try.func67, Try.ntmps67
    go_wp2
    go_ret
    exact ⟨rfl, rfl⟩

theorem wake_yes (h : R w q b1 b2 b3 b4 n spin lo sp ad pe) (t : Nat) (l a : Int) (h1 : lo[t]? = some l) (h2 : sp[t]? = some 1) (h3 : ad[t]? = some a) (h4 : pe[t]? = some 0) :
    Calls Try.prog 67 #[.pointer (some ⟨q, 0, none⟩), .int .i64 t] w fun e w' => e = .returned (.int .i64 1) ∧ R w' q b1 b2 b3 b4 n spin lo sp ad (pe.set t 1) ∧ Mod [b4] w w' := by
  have c0 : w.cell? ⟨q, 2, none⟩ = _ := h.box.cell rfl
  have c2 : w.cell? ⟨q, 4, none⟩ = _ := h.box.cell rfl
  obtain ⟨d1, d2, d3, d4, _, _, _, f4⟩ := h.cells h1 h2 h3 h4
  have ht : t < n := by have := (List.getElem?_eq_some_iff.1 h1).1; have := h.len; omega
  have hm := h.most
  have hs := h.set4 t 1
  clear h h1 h2 h3 h4
  go_enter Try.func67, Try.ntmps67
  go_wp2
  go_ret
  exact ⟨rfl, hs, (Mod.refl _ _).setCell (by simp) _⟩

theorem resume_awake (h : R w q b1 b2 b3 b4 n spin lo sp ad pe) (t : Nat) (h2 : sp[t]? = some 0) :
    Calls Try.prog 68 #[.pointer (some ⟨q, 0, none⟩), .int .i64 t] w fun e w' => e = .returned (.int .i64 1) ∧ w = w' := by
  have c0 : w.cell? ⟨q, 2, none⟩ = _ := h.box.cell rfl
  have d2 := h.r2.cell (ints_get h2)
  have ht : t < n := by have := (List.getElem?_eq_some_iff.1 h2).1; have := h.len; omega
  have hm := h.most
  clear h h2
  go_enter Try.func68, Try.ntmps68
  go_wp2
  go_ret
  exact ⟨rfl, rfl⟩

theorem resume_no (h : R w q b1 b2 b3 b4 n spin lo sp ad pe) (t : Nat) (h2 : sp[t]? = some 1) (h4 : pe[t]? = some 0) :
    Calls Try.prog 68 #[.pointer (some ⟨q, 0, none⟩), .int .i64 t] w fun e w' => e = .returned (.int .i64 0) ∧ w = w' := by
  have c0 : w.cell? ⟨q, 2, none⟩ = _ := h.box.cell rfl
  have c2 : w.cell? ⟨q, 4, none⟩ = _ := h.box.cell rfl
  have d2 := h.r2.cell (ints_get h2)
  have d4 := h.r4.cell (ints_get h4)
  have ht : t < n := by have := (List.getElem?_eq_some_iff.1 h2).1; have := h.len; omega
  have hm := h.most
  clear h h2 h4
  go_enter Try.func68, Try.ntmps68
  go_wp2
  go_ret
  exact ⟨rfl, rfl⟩

set_option maxRecDepth 100000 in
theorem resume_yes (h : R w q b1 b2 b3 b4 n spin lo sp ad pe) (t : Nat) (h2 : sp[t]? = some 1) (h4 : pe[t]? = some 1) (l : Int) (h1 : lo[t]? = some l) (a : Int) (h3 : ad[t]? = some a) :
    Calls Try.prog 68 #[.pointer (some ⟨q, 0, none⟩), .int .i64 t] w fun e w' => e = .returned (.int .i64 1) ∧ R w' q b1 b2 b3 b4 n spin (lo.set t 0) (sp.set t 0) ad (pe.set t 0) ∧ Mod [b1, b2, b4] w w' := by
  have c1 : w.cell? ⟨q, 1, none⟩ = _ := h.box.cell rfl
  have c0 : w.cell? ⟨q, 2, none⟩ = _ := h.box.cell rfl
  have c2 : w.cell? ⟨q, 4, none⟩ = _ := h.box.cell rfl
  obtain ⟨d1, d2, d3, d4, f1, f2, f3, f4⟩ := h.cells h1 h2 h3 h4
  have ht : t < n := by have := (List.getElem?_eq_some_iff.1 h1).1; have := h.len; omega
  have hm := h.most
  obtain ⟨n1, n2, n3, n4, n5, n6, n7, n8, n9, n10⟩ := h.ne
  have hs := fun k => (((h.mod0 (w' := w.drewN k) ((Mod.refl [] w).drewN k)).set1 t 0).set2 t 0).set4 t 0
  have HS := hid hs
  clear h h1 h2 h3 h4 hs
  go_enter Try.func68, Try.ntmps68
  go_upto_region 5 with (fail)
  refine Lex2.region (fun _ => True) [.pure, .pure, .pure, .head, .pure, .pure, .pure, .pure, .head, .pure, .pure, .pure, .pure, .head, .pure, .pure, .fin, .pure, .fin, .pure, .fin] (by kernel_rfl) (by kernel_rfl) (fun _ => trivial) ?_
  repeat (first | ((refine Lex2.step_pure rfl rfl ?_; go_big_quiet_step (fail)); refine wpQuiet_nil ?_) | ((refine Lex2.step_read rfl rfl ?_; go_big_quiet_step ((intro hwS; first | rfl | (simp [Known] at hwS; simp [hwS]; done) | (simp [Known] at hwS; simp [hwS]; rfl)))); refine wpQuiet_nil ?_))
  refine Lex2.step_head rfl ?_
  go_big_quiet_step ((fail))
  refine wpQuiet_nil ?_
  repeat (first | ((refine Lex2.step_pure rfl rfl ?_; go_big_quiet_step (fail)); refine wpQuiet_nil ?_) | ((refine Lex2.step_read rfl rfl ?_; go_big_quiet_step ((intro hwS; first | rfl | (simp [Known] at hwS; simp [hwS]; done) | (simp [Known] at hwS; simp [hwS]; rfl)))); refine wpQuiet_nil ?_))
  refine Lex2.step_head rfl ?_
  go_big_quiet_step ((fail))
  refine wpQuiet_nil ?_
  repeat (first | ((refine Lex2.step_pure rfl rfl ?_; go_big_quiet_step (fail)); refine wpQuiet_nil ?_) | ((refine Lex2.step_read rfl rfl ?_; go_big_quiet_step ((intro hwS; first | rfl | (simp [Known] at hwS; simp [hwS]; done) | (simp [Known] at hwS; simp [hwS]; rfl)))); refine wpQuiet_nil ?_))
  refine Lex2.step_head rfl ?_
  go_big_quiet_step ((fail))
  refine wpQuiet_nil ?_
  repeat (first | ((refine Lex2.step_pure rfl rfl ?_; go_big_quiet_step (fail)); refine wpQuiet_nil ?_) | ((refine Lex2.step_read rfl rfl ?_; go_big_quiet_step ((intro hwS; first | rfl | (simp [Known] at hwS; simp [hwS]; done) | (simp [Known] at hwS; simp [hwS]; rfl)))); refine wpQuiet_nil ?_))
  refine Lex2.step_fin rfl (fun wl hwl => ?_)
  first | (obtain ⟨nq, rfl⟩ := hwl) | (replace hwl := hwl.symm; subst hwl)
  go_wp2_with fail
  refine ⟨rfl, rfl, ?_⟩
  repeat (first | ((refine Lex2.step_pure rfl rfl ?_; go_big_quiet_step (fail)); refine wpQuiet_nil ?_) | ((refine Lex2.step_read rfl rfl ?_; go_big_quiet_step ((intro hwS; first | rfl | (simp [Known] at hwS; simp [hwS]; done) | (simp [Known] at hwS; simp [hwS]; rfl)))); refine wpQuiet_nil ?_))
  refine Lex2.step_fin rfl (fun wl hwl => ?_)
  first | (obtain ⟨nq, rfl⟩ := hwl) | (replace hwl := hwl.symm; subst hwl)
  go_wp2_with fail
  refine ⟨rfl, rfl, ?_⟩
  repeat (first | ((refine Lex2.step_pure rfl rfl ?_; go_big_quiet_step (fail)); refine wpQuiet_nil ?_) | ((refine Lex2.step_read rfl rfl ?_; go_big_quiet_step ((intro hwS; first | rfl | (simp [Known] at hwS; simp [hwS]; done) | (simp [Known] at hwS; simp [hwS]; rfl)))); refine wpQuiet_nil ?_))
  refine Lex2.step_fin rfl (fun wl hwl => ?_)
  first | (obtain ⟨nq, rfl⟩ := hwl) | (replace hwl := hwl.symm; subst hwl)
  go_wp2_with fail
  refine ⟨rfl, rfl, ?_⟩
  refine Lex2.step_nil (fun wl hwl => ?_)
  first | (obtain ⟨nq, rfl⟩ := hwl) | (replace hwl := hwl.symm; subst hwl)
  go_wp2_with fail
  go_ret
  exact ⟨rfl, HS.out _, ((((Mod.refl _ _).drewN _).setCell (by simp) _).setCell (by simp) _).setCell (by simp) _⟩

set_option maxRecDepth 100000 in
theorem look_no (h : R w q b1 b2 b3 b4 n spin lo sp ad pe) (t : Nat) (l : Int) (h1 : lo[t]? = some l) (x : Int) (hl : 0 ≤ l) (hlt : l + 1 < (spin : Int)) (hsp : spin ≤ 1000) :
    Calls Try.prog 63 #[.pointer (some ⟨q, 0, none⟩), .int .i64 t, .int .i64 x] w fun e w' => e = .returned (.int .i64 0) ∧ R w' q b1 b2 b3 b4 n spin (lo.set t (l + 1)) sp ad pe ∧ Mod [b1] w w' := by
  have c0 : w.cell? ⟨q, 0, none⟩ = _ := h.box.cell rfl
  have c1 : w.cell? ⟨q, 1, none⟩ = _ := h.box.cell rfl
  have d1 := h.r1.cell (ints_get h1)
  have f1 := h.r1.free t
  have ht : t < n := by have := (List.getElem?_eq_some_iff.1 h1).1; have := h.len; omega
  have hm := h.most
  obtain ⟨n1, n2, n3, n4, n5, n6, n7, n8, n9, n10⟩ := h.ne
  have hs := (h.set1 t (l + 1))
  have HS := hid hs
  clear h h1 hs
  go_enter Try.func63, Try.ntmps63
  go_wp2_with fail
  go_quiet (fail)
  go_wp2_with fail
  go_ret
  exact ⟨rfl, HS.out.mod0 ((Mod.refl [] _).drewN _), ((Mod.refl _ _).setCell (by simp) _).drewN _⟩

set_option maxRecDepth 100000 in
set_option maxHeartbeats 1000000 in
theorem look_yes (h : R w q b1 b2 b3 b4 n spin lo sp ad pe) (t : Nat) (l s a p : Int) (h1 : lo[t]? = some l) (h2 : sp[t]? = some s) (h3 : ad[t]? = some a) (h4 : pe[t]? = some p) (x : Int) (hl : 0 ≤ l) (hl2 : l ≤ 1000) (hlt : (spin : Int) ≤ l + 1) :
    Calls Try.prog 63 #[.pointer (some ⟨q, 0, none⟩), .int .i64 t, .int .i64 x] w fun e w' => e = .returned (.int .i64 1) ∧ R w' q b1 b2 b3 b4 n spin (lo.set t 0) (sp.set t 1) (ad.set t x) (pe.set t 0) ∧ Mod [b1, b2, b3, b4] w w' := by
  have hs := h.set1 t (l + 1)
  obtain ⟨n1, n2, n3, n4, n5, n6, n7, n8, n9, n10⟩ := h.ne
  have ht : t < n := by have := (List.getElem?_eq_some_iff.1 h1).1; have := h.len; omega
  have hm := h.most
  have c0 : w.cell? ⟨q, 0, none⟩ = _ := h.box.cell rfl
  have c1 : w.cell? ⟨q, 1, none⟩ = _ := h.box.cell rfl
  have d1 := h.r1.cell (ints_get h1)
  have f1 := h.r1.free t
  have htl : t < lo.length := (List.getElem?_eq_some_iff.1 h1).1
  clear h
  go_enter Try.func63, Try.ntmps63
  have HH : Hid (lo[t]? = some l ∧ sp[t]? = some s ∧ ad[t]? = some a ∧ pe[t]? = some p) := hid ⟨h1, h2, h3, h4⟩
  have HS := hid hs
  clear h1 h2 h3 h4 hs
  go_wp2_with fail
  go_quiet (fail)
  refine any_world (fun w1 => R w1 q b1 b2 b3 b4 n spin (lo.set t (l + 1)) sp ad pe ∧ Mod [b1] w w1) ⟨HS.out.mod0 ((Mod.refl [] _).drewN _), ((Mod.refl _ _).setCell (by simp) _).drewN _⟩ ?_
  rintro w1 ⟨hR, m1⟩
  clear c0 c1 d1 f1 HS
  have c0 : w1.cell? ⟨q, 1, none⟩ = _ := hR.box.cell rfl
  have c1 : w1.cell? ⟨q, 2, none⟩ = _ := hR.box.cell rfl
  have c2 : w1.cell? ⟨q, 3, none⟩ = _ := hR.box.cell rfl
  have c3 : w1.cell? ⟨q, 4, none⟩ = _ := hR.box.cell rfl
  obtain ⟨d1, d2, d3, d4, f1, f2, f3, f4⟩ := hR.cells (t := t) (l := l + 1) (by simp [htl]) HH.out.2.1 HH.out.2.2.1 HH.out.2.2.2
  have hs := fun k => ((((hR.mod0 (w' := w1.drewN k) ((Mod.refl [] w1).drewN k)).set1 t 0).set2 t 1).set3 t x).set4 t 0
  have HS := hid hs
  clear hs hR
  go_wp2_with fail
  refine Lex2.region (fun _ => True) [.pure, .pure, .pure, .head, .pure, .pure, .pure, .pure, .head, .pure, .pure, .pure, .pure, .head, .pure, .pure, .pure, .pure, .head, .pure, .pure, .pure, .fin, .pure, .fin, .pure, .fin, .pure, .fin] (by kernel_rfl) (by kernel_rfl) (fun _ => trivial) ?_
  repeat (first | ((refine Lex2.step_pure rfl rfl ?_; go_big_quiet_step (fail)); refine wpQuiet_nil ?_) | ((refine Lex2.step_read rfl rfl ?_; go_big_quiet_step ((intro hwS; first | rfl | (simp [Known] at hwS; simp [hwS]; done) | (simp [Known] at hwS; simp [hwS]; rfl)))); refine wpQuiet_nil ?_))
  refine Lex2.step_head rfl ?_
  go_big_quiet_step ((fail))
  refine wpQuiet_nil ?_
  repeat (first | ((refine Lex2.step_pure rfl rfl ?_; go_big_quiet_step (fail)); refine wpQuiet_nil ?_) | ((refine Lex2.step_read rfl rfl ?_; go_big_quiet_step ((intro hwS; first | rfl | (simp [Known] at hwS; simp [hwS]; done) | (simp [Known] at hwS; simp [hwS]; rfl)))); refine wpQuiet_nil ?_))
  refine Lex2.step_head rfl ?_
  go_big_quiet_step ((fail))
  refine wpQuiet_nil ?_
  repeat (first | ((refine Lex2.step_pure rfl rfl ?_; go_big_quiet_step (fail)); refine wpQuiet_nil ?_) | ((refine Lex2.step_read rfl rfl ?_; go_big_quiet_step ((intro hwS; first | rfl | (simp [Known] at hwS; simp [hwS]; done) | (simp [Known] at hwS; simp [hwS]; rfl)))); refine wpQuiet_nil ?_))
  refine Lex2.step_head rfl ?_
  go_big_quiet_step ((fail))
  refine wpQuiet_nil ?_
  repeat (first | ((refine Lex2.step_pure rfl rfl ?_; go_big_quiet_step (fail)); refine wpQuiet_nil ?_) | ((refine Lex2.step_read rfl rfl ?_; go_big_quiet_step ((intro hwS; first | rfl | (simp [Known] at hwS; simp [hwS]; done) | (simp [Known] at hwS; simp [hwS]; rfl)))); refine wpQuiet_nil ?_))
  refine Lex2.step_head rfl ?_
  go_big_quiet_step ((fail))
  refine wpQuiet_nil ?_
  repeat (first | ((refine Lex2.step_pure rfl rfl ?_; go_big_quiet_step (fail)); refine wpQuiet_nil ?_) | ((refine Lex2.step_read rfl rfl ?_; go_big_quiet_step ((intro hwS; first | rfl | (simp [Known] at hwS; simp [hwS]; done) | (simp [Known] at hwS; simp [hwS]; rfl)))); refine wpQuiet_nil ?_))
  refine Lex2.step_fin rfl (fun wl hwl => ?_)
  first | (obtain ⟨nq, rfl⟩ := hwl) | (replace hwl := hwl.symm; subst hwl)
  go_wp2_with fail
  refine ⟨rfl, rfl, ?_⟩
  repeat (first | ((refine Lex2.step_pure rfl rfl ?_; go_big_quiet_step (fail)); refine wpQuiet_nil ?_) | ((refine Lex2.step_read rfl rfl ?_; go_big_quiet_step ((intro hwS; first | rfl | (simp [Known] at hwS; simp [hwS]; done) | (simp [Known] at hwS; simp [hwS]; rfl)))); refine wpQuiet_nil ?_))
  refine Lex2.step_fin rfl (fun wl hwl => ?_)
  first | (obtain ⟨nq, rfl⟩ := hwl) | (replace hwl := hwl.symm; subst hwl)
  go_wp2_with fail
  refine ⟨rfl, rfl, ?_⟩
  repeat (first | ((refine Lex2.step_pure rfl rfl ?_; go_big_quiet_step (fail)); refine wpQuiet_nil ?_) | ((refine Lex2.step_read rfl rfl ?_; go_big_quiet_step ((intro hwS; first | rfl | (simp [Known] at hwS; simp [hwS]; done) | (simp [Known] at hwS; simp [hwS]; rfl)))); refine wpQuiet_nil ?_))
  refine Lex2.step_fin rfl (fun wl hwl => ?_)
  first | (obtain ⟨nq, rfl⟩ := hwl) | (replace hwl := hwl.symm; subst hwl)
  go_wp2_with fail
  refine ⟨rfl, rfl, ?_⟩
  repeat (first | ((refine Lex2.step_pure rfl rfl ?_; go_big_quiet_step (fail)); refine wpQuiet_nil ?_) | ((refine Lex2.step_read rfl rfl ?_; go_big_quiet_step ((intro hwS; first | rfl | (simp [Known] at hwS; simp [hwS]; done) | (simp [Known] at hwS; simp [hwS]; rfl)))); refine wpQuiet_nil ?_))
  refine Lex2.step_fin rfl (fun wl hwl => ?_)
  first | (obtain ⟨nq, rfl⟩ := hwl) | (replace hwl := hwl.symm; subst hwl)
  go_wp2_with fail
  refine ⟨rfl, rfl, ?_⟩
  refine Lex2.step_nil (fun wl hwl => ?_)
  first | (obtain ⟨nq, rfl⟩ := hwl) | (replace hwl := hwl.symm; subst hwl)
  go_wp2_with fail
  go_ret
  have hf := HS.out nq
  rw [List.set_set] at hf
  exact ⟨rfl, hf, (((((m1.mono (T := [b1, b2, b3, b4]) (by simp)).drewN _).setCell (by simp) _).setCell (by simp) _).setCell (by simp) _).setCell (by simp) _⟩
end
end Ref11
end Go.Proofs.Ytekhadlpcdjlpaa
