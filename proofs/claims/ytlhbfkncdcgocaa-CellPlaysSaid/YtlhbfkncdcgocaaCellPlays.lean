/- The walk of the statement CellPlays: whatever accesses there are, each answer, and all cells, are what the document says. -/
import Derived.Test.YtlhbfkncdcgocaaCellW
import Derived.Test.YtlhbfkncdcgocaaOpRead
import Derived.Deep.DeepCutAuto
import Derived.BigQuiet
import Derived.Deep.QuietTactic
namespace Go.Proofs.Ytlhbfkncdcgocaa
open Go.RowKit
set_option linter.unusedVariables false

theorem acc_length (ws : List Int) (kind : Int) (i : Nat) (x old v : Int) : (acc ws kind i x old v).1.length = ws.length := by
  unfold acc
  (repeat' split) <;> simp

theorem acc_u32 (ws : List Int) (kind : Int) (i : Nat) (x old v : Int) (hw : ∀ y ∈ ws, U32 y) (hv : U32 v) : ∀ y ∈ (acc ws kind i x old v).1, U32 y := by
  have hs : ∀ z, U32 z → ∀ y ∈ ws.set i z, U32 y := fun z hz y hy => by
    rcases List.mem_or_eq_of_mem_set hy with h | h
    · exact hw y h
    · subst h; exact hz
  have hwr : U32 (IntKind.u32.wrap (x + v)) := by rw [IntKind.wrap_u32]; unfold U32; omega
  unfold acc
  (repeat' split) <;> first | exact hw | exact hs _ hv | exact hs _ hwr

def Done (w : World) (r : List Int × Int) (e : Ending) (w' : World) : Prop :=
  ∃ v', e = .returned (.tuple #[v', .int .u32 r.2]) ∧ Owns w' w.heap.size 23 v' (r.1.map (Value.int .u32)) ∧ Mod [] w w'

set_option maxRecDepth 100000 in
/-- The document's access, on a slice: a list of its own. -/
theorem do_any (v : Value) (l : List Int) (i : Nat) (kind x old u : Int) (w : World) (h : Owns w 0 23 v (l.map (Value.int .u32))) (hx : l[i]? = some x) (hx1 : U32 x) (hm : l.length ≤ 40) (hk : 1 ≤ kind ∧ kind ≤ 5) :
    Calls Try.prog 41 #[v, .int .i64 kind, .int .i64 i, .int .u32 old, .int .u32 u] w fun e w' =>
      Done w (acc l kind i x old u) e w' := by
  have hi := lt_of_some hx
  have HX := hid hx
  clear hx
  rcases h.form with ⟨_, h0⟩ | ⟨g, cap, rfl, _, hg, hcap, hcm, hcell, _⟩
  · exfalso
    have : l = [] := by simpa using h0
    subst this
    simp at hi
  rw [List.length_map] at hcap ⊢
  obtain ⟨i0, hi0, hz0, hz1, hz2⟩ := info_parts info_w32
  obtain ⟨v1, w1, hrun, hown, hgrow, _⟩ := run_append_own (P := Try.prog) w w.heap.size 22 22 23 i0 _ 1 4 Try.underlying22 hi0 hz0 hz1 hz2 rfl (by decide) (.slice none 0 0) 0 [] (World.ownsRow_nil w w.heap.size 23 1)
    ⟨g, 0, none⟩ l.length cap (l.map (Value.int .u32)) (by simp) (fun j z hz => by rw [Go.WideShapes.add_plain, Nat.zero_add]; exact hcell j z hz) (fun z hz => by obtain ⟨q, _, rfl⟩ := List.mem_map.1 hz; rfl) (by unfold maxLen; omega) (by omega) (Nat.le_refl _)
  rw [Nat.zero_add, List.nil_append] at hown
  have hown' : Owns w1 w.heap.size 23 v1 (l.map (Value.int .u32)) := by unfold Owns; rw [List.length_map]; exact hown
  have hmod : Mod [] w w1 := (Mod.refl [] w).grown hgrow (by simp [Value.ownBlock])
  clear hown hgrow hi0 hz0 hz1 hz2 hcell hcap hcm
  rcases hown'.form with ⟨_, h0⟩ | ⟨g1, cap1, rfl, hb1, hg1, hcap1, hcm1, hcell1, hfr1⟩
  · exfalso
    have : l = [] := by simpa using h0
    subst this
    simp at hi
  rw [List.length_map] at hcap1 hrun hown'
  have hc1 : w1.cell? ⟨g1, i, none⟩ = some (.int .u32 x) := hcell1 i _ (by simp [HX.out])
  have hf1 := hfr1 i
  have HS : ∀ y, Hid (Owns (w1.setCell ⟨g1, i, none⟩ (.int .u32 y)) w.heap.size 23 (.slice (some ⟨g1, 0, none⟩) l.length cap1) ((l.set i y).map (Value.int .u32))) := fun y => by
    have := hown'.set i (.int .u32 y)
    rw [List.map_set]
    exact this
  have HM : ∀ y, Hid (Mod [] w (w1.setCell ⟨g1, i, none⟩ (.int .u32 y))) := fun y => hmod.setCell (a := ⟨g1, i, none⟩) (by simp <;> omega) (.int .u32 y)
  have HO := hid hown'
  have HMOD := hid hmod
  clear hown' hfr1 hcell1 hmod
  have hk' : kind = 1 ∨ kind = 2 ∨ kind = 3 ∨ kind = 4 ∨ kind = 5 := by omega
  rcases hk' with rfl | rfl | rfl | rfl | rfl
  · clear HS HM
    go_enter Try.func41, Try.ntmps41
    go_wp2_with (at_builtin; refine wpList_append_run rfl _ _ _ _ rfl _ _ rfl rfl _ _ hrun ?_)
    go_ret2
    exact ⟨_, rfl, HO.out, HMOD.out⟩
  · have hs := HS u
    have hm := HM u
    clear HS HM
    go_enter Try.func41, Try.ntmps41
    go_wp2_with (at_builtin; refine wpList_append_run rfl _ _ _ _ rfl _ _ rfl rfl _ _ hrun ?_)
    go_ret2
    exact ⟨_, rfl, hs.out, hm.out⟩
  · have hs := HS u
    have hm := HM u
    clear HS HM
    go_enter Try.func41, Try.ntmps41
    go_wp2_with (at_builtin; refine wpList_append_run rfl _ _ _ _ rfl _ _ rfl rfl _ _ hrun ?_)
    go_ret2
    exact ⟨_, rfl, hs.out, hm.out⟩
  · have hs := HS u
    have hm := HM u
    clear HS HM
    by_cases hxo : x = old
    · subst hxo
      go_enter Try.func41, Try.ntmps41
      go_wp2_with (at_builtin; refine wpList_append_run rfl _ _ _ _ rfl _ _ rfl rfl _ _ hrun ?_)
      go_ret2
      exact ⟨.slice (some ⟨g1, 0, none⟩) l.length cap1, by simp [acc], by simpa [acc] using hs.out, hm.out⟩
    · have hne1 : (x == old) = false := by simpa using hxo
      have hne2 : (x != old) = true := by simpa using hxo
      have HNE := hid hxo
      clear hxo
      go_enter Try.func41, Try.ntmps41
      go_wp2_with (at_builtin; refine wpList_append_run rfl _ _ _ _ rfl _ _ rfl rfl _ _ hrun ?_)
      go_ret2
      have := HNE.out
      exact ⟨.slice (some ⟨g1, 0, none⟩) l.length cap1, by simp [acc, this], by simpa [acc, this] using HO.out, HMOD.out⟩
  · have hs := HS (IntKind.u32.wrap (x + u))
    have hm := HM (IntKind.u32.wrap (x + u))
    clear HS HM
    go_enter Try.func41, Try.ntmps41
    go_wp2_with (at_builtin; refine wpList_append_run rfl _ _ _ _ rfl _ _ rfl rfl _ _ hrun ?_)
    go_ret2
    exact ⟨_, rfl, by simpa [acc, IntKind.wrap_u32] using hs.out, by simpa [IntKind.wrap_u32] using hm.out⟩

theorem cells_bad (n : Int) (hn : n < 0 ∨ 8192 < n) (w : World) :
    Calls Try.prog 16 #[.int .i64 n] w fun e w' => e = .returned (.tuple #[.pointer none, .int .i64 1]) ∧ w = w' := by
  rcases hn with hn | hn
  · go_enter Try.func16, Try.ntmps16
    go_wp2
    go_ret2
    exact ⟨rfl, rfl⟩
  · have h0 : ¬ n < 0 := by omega
    go_enter Try.func16, Try.ntmps16
    go_wp2
    go_ret2
    exact ⟨rfl, rfl⟩

theorem plays_long (n : Int) (a : Option Addr) (len cap : Nat) (w : World) (h : 100 < len) (hm : len ≤ maxLen) :
    Calls Try.prog 9 #[.int .i64 n, .slice a len cap] w fun e w' => e = .returned (.bool true) ∧ Mod [] w w' := by
  unfold maxLen at hm
  go_enter Try.func9, Try.ntmps9
  go_wp2_with fail
  refine (awake02 _).mono ?_
  rintro e w1 ⟨rfl, m1⟩
  go_wp2
  go_ret
  exact ⟨rfl, m1⟩

theorem plays_bad (n : Int) (a : Option Addr) (len cap : Nat) (w : World) (h : len ≤ 100) (hn : n < 0 ∨ 8192 < n) :
    Calls Try.prog 9 #[.int .i64 n, .slice a len cap] w fun e w' => e = .returned (.bool true) ∧ Mod [] w w' := by
  have hn' := hn
  rcases hn with hn | hn
  · go_enter Try.func9, Try.ntmps9
    go_wp2_with fail
    refine (cells_bad n hn' _).mono ?_
    rintro e w1 ⟨rfl, rfl⟩
    go_wp2_with fail
    refine (awake02 _).mono ?_
    rintro e w1 ⟨rfl, m1⟩
    go_wp2
    go_ret
    exact ⟨rfl, m1⟩
  · have h0 : ¬ n < 0 := by omega
    go_enter Try.func9, Try.ntmps9
    go_wp2_with fail
    refine (cells_bad n hn' _).mono ?_
    rintro e w1 ⟨rfl, rfl⟩
    go_wp2_with fail
    refine (awake02 _).mono ?_
    rintro e w1 ⟨rfl, m1⟩
    go_wp2
    go_ret
    exact ⟨rfl, m1⟩

set_option maxRecDepth 100000 in
theorem plays_wide (n : Nat) (a : Option Addr) (len cap : Nat) (w : World) (h : len ≤ 100) (hn : 40 < n ∧ n ≤ 8192) :
    Calls Try.prog 9 #[.int .i64 n, .slice a len cap] w fun e w' => e = .returned (.bool true) ∧ Mod [] w w' := by
  go_enter Try.func9, Try.ntmps9
  go_wp2_with fail
  refine (cells_new n hn.2 _).mono ?_
  rintro e w1 ⟨p, d, rfl, h1, hp, hd, m1⟩
  go_wp2_with fail
  refine (cells_len p d _ _ h1).mono ?_
  rintro e w2 ⟨rfl, rfl⟩
  rw [List.length_replicate]
  go_wp2_with fail
  refine (awake02 _).mono ?_
  rintro e w3 ⟨rfl, m3⟩
  go_wp2
  go_ret
  exact ⟨rfl, m1.trans m3⟩

set_option maxHeartbeats 4000000 in
set_option maxRecDepth 100000 in
theorem plays_few (n : Nat) (a : Option Addr) (l : List (Int × Int × Int × Int × Unit)) (cap : Nat) (w : World) (hz : RowOps w a l) (h : l.length ≤ 100) (hn : n ≤ 40) :
    Calls Try.prog 9 #[.int .i64 n, .slice a l.length cap] w fun e w' => e = .returned (.bool true) ∧ Mod [] w w' := by
  obtain ⟨i0, hi0, hz0, hz1, hz2⟩ := info_parts info_w32
  have hmk := fun w => make_zeros (P := Try.prog) 22 23 i0 _ (.int .u32 0) 4 Try.underlying22 hi0 hz0 hz1 hz2 rfl n (by omega) (by omega) w
  clear hi0 hz0 hz1 hz2
  go_enter Try.func9, Try.ntmps9
  go_wp2_with fail
  refine (cells_new n (by omega) _).mono ?_
  rintro e w1 ⟨p, d, rfl, h1, hp, hd, m1⟩
  go_wp2_with fail
  refine (cells_len p d _ _ h1).mono ?_
  rintro e w2 ⟨rfl, rfl⟩
  rw [List.length_replicate]
  go_wp2_with fail
  clear hmk
  have hpl := h1.box.lt
  have hdl := h1.row.lt
  have h1' := h1.mod ((Mod.refl [] w1).alloc (.cells (zeros n (.int .u32 0)) 23 (0, 0))) (by simp) (by simp)
  have hO : Owns (w1.alloc (.cells (zeros n (.int .u32 0)) 23 (0, 0))) 0 23 (.slice (some ⟨w1.heap.size, 0, none⟩) n n) ((List.replicate n (0 : Int)).map (Value.int .u32)) := by
    have := Owns.of_blk (Blk.new w1 23 (List.replicate n (.int .u32 0))) (by simp; unfold maxLen; omega) (base := 0) (by omega)
    simpa [zeros] using this
  have m1' := m1.alloc (.cells (zeros n (.int .u32 0)) 23 (0, 0))
  go_loopw [57, 7] (fun i v wr => ∃ (k : Nat) (ws : List Int), k ≤ l.length ∧ i = .int .i64 k ∧ ws.length = n ∧ (∀ x ∈ ws, U32 x) ∧ Owns wr 0 23 v (ws.map (Value.int .u32)) ∧ CellsAt wr p d ws ∧ v.ownBlock ≠ some p ∧ v.ownBlock ≠ some d ∧ Mod [] w wr) (fun i _ _ => l.length - (intOf i).toNat)
  case atStart => exact ⟨0, List.replicate n 0, by omega, rfl, by simp, fun x hx => by rw [List.eq_of_mem_replicate hx]; exact ⟨by omega, by omega⟩, hO, h1', by simp [Value.ownBlock]; omega, by simp [Value.ownBlock]; omega, m1'⟩
  case round =>
    clear h1 h1' hO m1 m1'
    obtain ⟨k, ws, hk, rfl, hwl, hwu, hO, hC, hvp, hvd, hm⟩ := hrel
    by_cases hlt : k < l.length
    · obtain ⟨⟨kind, A, old, v, u⟩, hzk⟩ : ∃ z, l[k]? = some z := ⟨l[k], by simp [hlt]⟩
      rcases hz with rfl | ⟨b, off, rfl, hcell⟩
      · simp at hlt
      obtain ⟨q0, q1, q2, q3, r0, r1, r2, r3⟩ := hcell k _ hzk
      have bk := bounds_i64 r0
      have bA := bounds_i64 r1
      have c0 := hm.cell q0 (by simp)
      have c1 := hm.cell q1 (by simp)
      have c2 := hm.cell q2 (by simp)
      have c3 := hm.cell q3 (by simp)
      dsimp only at c0 c1 c2 c3 bk bA
      have uv : U32 v := by have := bounds_u32 r3; dsimp only at this; exact ⟨by omega, by omega⟩
      clear q0 q1 q2 q3 r0 r1 r2 r3 hcell hzk
      have hcase : (1 ≤ kind ∧ kind ≤ 5 ∧ 0 ≤ A ∧ A < n) ∨ kind < 1 ∨ (1 ≤ kind ∧ 5 < kind) ∨ (1 ≤ kind ∧ kind ≤ 5 ∧ A < 0) ∨ (1 ≤ kind ∧ kind ≤ 5 ∧ 0 ≤ A ∧ (n : Int) ≤ A) := by omega
      have U4 : Hid (U32 v) := uv
      have HWL := hid hwl
      have HWU := hid hwu
      have hmA := hm.alloc (.cells #[.int .i64 kind, .int .i64 A, .int .u32 old, .int .u32 v] 58 (0, 0))
      have hOA := hO.mod0 ((Mod.refl [] wr).alloc (.cells #[.int .i64 kind, .int .i64 A, .int .u32 old, .int .u32 v] 58 (0, 0)))
      have hCA := hC.mod ((Mod.refl [] wr).alloc (.cells #[.int .i64 kind, .int .i64 A, .int .u32 old, .int .u32 v] 58 (0, 0))) (by simp) (by simp)
      clear hwl hwu uv hO hC hm
      rcases hcase with ⟨d1, d2, d3, d4⟩ | d1 | ⟨d1, d2⟩ | ⟨d1, d2, d3⟩ | ⟨d1, d2, d3, d4⟩
      · obtain ⟨q, rfl⟩ : ∃ q : Nat, A = q := ⟨A.toNat, by omega⟩
        have hql : q < ws.length := by rw [HWL.out]; omega
        obtain ⟨x, hx⟩ : ∃ x, ws[q]? = some x := ⟨ws[q], List.getElem?_eq_getElem hql⟩
        have hx1 : U32 x := HWU.out x (List.mem_of_getElem? hx)
        have HX := hid hx
        have HX1 := hid hx1
        have hl40 : ws.length ≤ 40 := by rw [HWL.out]; exact hn
        have hBx : Blk (wr.alloc (.cells #[.int .i64 kind, .int .i64 q, .int .u32 old, .int .u32 v] 58 (0, 0))) wr.heap.size 58 [.int .i64 kind, .int .i64 q, .int .u32 old, .int .u32 v] := Blk.new wr _ [.int .i64 kind, .int .i64 q, .int .u32 old, .int .u32 v]
        clear hx hx1
        go_wp2_with fail
        refine (do_any u7 ws q kind x old v _ hOA HX.out HX1.out hl40 ⟨d1, d2⟩).mono ?_
        rintro e w2 ⟨v2, rfl, hO2, m2⟩
        have hC2 := hCA.mod m2 (by simp) (by simp)
        have hB2 := m2.blk hBx (by simp)
        have hm2 := hmA.trans m2
        have b0 := hB2.cell (i := 0) rfl
        have b1 := hB2.cell (i := 1) rfl
        have b2 := hB2.cell (i := 2) rfl
        have b3 := hB2.cell (i := 3) rfl
        have hpA := hCA.box.lt
        have hdA := hCA.row.lt
        have hv2p : v2.ownBlock ≠ some p := fun e => by have := (hO2.lt e).1; omega
        have hv2d : v2.ownBlock ≠ some d := fun e => by have := (hO2.lt e).1; omega
        have HV := hid (And.intro hv2p hv2d)
        clear hOA hCA hBx hmA m2 hB2 hv2p hv2d
        go_wp2_with fail
        refine (told_any p d q ws kind x old v _ hC2 HX.out HX1.out hl40 ⟨d1, d2⟩).mono ?_
        rintro e w3 ⟨rfl, hC3, m3⟩
        have hO3 := (hO2.base (Nat.zero_le _)).mod m3 (fun b hb => by simp only [List.mem_singleton] at hb; subst hb; exact HV.out.2)
        have hm3 := hm2.step m3 (by simp <;> omega)
        go_wp2
        go_roundw
        case rel => exact ⟨k + 1, (acc ws kind q x old v).1, by omega, by go_num, by rw [acc_length]; exact HWL.out, acc_u32 _ _ _ _ _ _ HWU.out U4.out, hO3, hC3, HV.out.1, HV.out.2, hm3⟩
        case measure => simp [intOf]; omega
      all_goals
        go_wp2
        go_roundw
        case rel => exact ⟨k + 1, ws, by omega, by go_num, HWL.out, HWU.out, hOA, hCA, hvp, hvd, hmA⟩
        case measure => simp [intOf]; omega
    · have hkl : k = l.length := by omega
      subst hkl
      have hl40 : ws.length ≤ 8192 := by rw [hwl]; omega
      go_wp2_with fail
      refine (cells_words p d ws _ hC hl40).mono ?_
      rintro e w2 ⟨g, rfl, hg, hG, m2⟩
      have hO2 := hO.mod0 m2
      have hm2 := hm.trans m2
      rw [hwl]
      have HWL := hid hwl
      clear hO hm m2 hC hwl hwu hl40 hg
      rcases hO2.form with ⟨rfl, h0⟩ | ⟨g7, cap7, rfl, _, hg7, hcap7, _, hcell7, _⟩
      · clear h0 HWL hO2 hG
        go_wp2_with fail
        go_loop [108] (fun i => i = .int .i64 0) (fun _ => 0)
        case atStart => rfl
        case round =>
          obtain rfl := hrel
          go_wp2_with fail
          refine (awake02 _).mono ?_
          rintro e w4 ⟨rfl, m4⟩
          go_wp2
          go_ret
          exact ⟨rfl, hm2.trans m4⟩
      · rw [List.length_map] at hcap7 hO2 ⊢
        rw [HWL.out] at hcap7 hO2 ⊢
        have HC7 := hid hcell7
        clear hO2 hcell7
        go_wp2_with fail
        go_loopw [108] (fun i wr => ∃ j : Nat, j ≤ n ∧ i = .int .i64 j ∧ Mod [] w2 wr) (fun i _ => n - (intOf i).toNat)
        case atStart => exact ⟨0, by omega, rfl, Mod.refl _ _⟩
        case round =>
          obtain ⟨j, hj, rfl, hmr⟩ := hrel
          by_cases hjn : j < n
          · obtain ⟨x, hx⟩ : ∃ x, ws[j]? = some x := ⟨ws[j]'(by rw [HWL.out]; exact hjn), List.getElem?_eq_getElem (by rw [HWL.out]; exact hjn)⟩
            have e1 : wr.cell? ⟨g, j, none⟩ = some (.int .u32 x) := hmr.cell (hG.cell (by simp [hx])) (by simp)
            have e2 : wr.cell? ⟨g7, j, none⟩ = some (.int .u32 x) := hmr.cell (HC7.out j _ (by simp [hx])) (by simp)
            clear hx
            go_wp2
            go_quiet (fail)
            go_wp2
            go_roundw
            case rel => exact ⟨j + 1, by omega, by go_num, hmr.drewN _⟩
            case measure => simp [intOf]; omega
          · go_wp2_with fail
            refine (awake02 _).mono ?_
            rintro e w4 ⟨rfl, m4⟩
            go_wp2
            go_ret
            exact ⟨rfl, (hm2.trans hmr).trans m4⟩

theorem law_CellPlays (w : World) (v0 v1 : Value) (x0 : Int) (x1 : List (Int × Int × Int × Int × Unit)) (h0 : Sh.Arg w (.int .i64) x0 v0) (h1 : Sh.Arg w (.row opSh) x1 v1) :
    Calls Try.prog 9 #[v0, v1] w fun e w' => e = .returned (.bool true) ∧ Mod [] w w' := by
  obtain ⟨rfl, _⟩ := h0
  obtain ⟨a, cap, rfl, hr, hl, hm⟩ := arg_ops h1
  by_cases h100 : 100 < x1.length
  · exact plays_long x0 a x1.length cap w h100 (by omega)
  · by_cases hb : x0 < 0 ∨ 8192 < x0
    · exact plays_bad x0 a x1.length cap w (by omega) hb
    · obtain ⟨n, rfl⟩ : ∃ n : Nat, x0 = n := ⟨x0.toNat, by omega⟩
      by_cases h40 : 40 < n
      · exact plays_wide n a x1.length cap w (by omega) ⟨h40, by omega⟩
      · exact plays_few n a x1 cap w hr (by omega) (by omega)

end Go.Proofs.Ytlhbfkncdcgocaa
