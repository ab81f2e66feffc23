/- The walk of the statement MemOwn. -/
import Derived.Test.YtekhadlpcdjlpaaMemMakes
import Derived.Test.YtekhadlpcdjlpaaLex3
namespace Go.Proofs.Ytekhadlpcdjlpaa
namespace Mem
open Go.RowKit
set_option linter.unusedVariables false
set_option linter.unusedSimpArgs false

/-- Copies of what was handed in, and a row of zeros. -/
def Copies (w2 : World) (sizes : List Int) (n : Nat) (s i : Value) (w' : World) : Prop :=
  Owns w' w2.heap.size 3 s (ints sizes) ∧ (∃ g, i = .slice (some ⟨g, 0, none⟩) n n ∧ Blk w' g 35 (u32s (List.replicate n 0)) ∧ w2.heap.size ≤ g) ∧ Mod [] w2 w'

theorem own_ne_blk {w : World} {base : Nat} {e t : TypeId} {v : Value} {xs l : List Value} {g : Nat} (h : Owns w base e v xs) (hb : Blk w g t l) (hne : e ≠ t) : v.ownBlock ≠ some g := by
  obtain ⟨_, h⟩ := h
  rcases h with ⟨rfl, _⟩ | ⟨b, cap, cur, rfl, _, hg, _⟩
  · simp [Value.ownBlock]
  · intro he
    simp only [Value.ownBlock, Option.some.injEq] at he
    subst he
    unfold Blk at hb
    rw [hg] at hb
    injection hb with hb
    injection hb with h1 h2 h3
    exact hne h2

theorem own_blk {w : World} {base : Nat} {e : TypeId} {a : Option Addr} {n c : Nat} {xs : List Value} (h : Owns w base e (.slice a n c) xs) :
    xs = [] ∨ ∃ g L, a = some ⟨g, 0, none⟩ ∧ Blk w g e L ∧ ∀ (q : Nat) (x : Value), xs[q]? = some x → L[q]? = some x := by
  obtain ⟨_, h⟩ := h
  rcases h with ⟨_, h0⟩ | ⟨g, cap, cur, hv, _, hg, _, _, hs, ht⟩
  · exact .inl (List.length_eq_zero_iff.1 h0)
  · injection hv with h1 h2 h3
    refine .inr ⟨g, cur.toList, h1, hg, fun q x hx => ?_⟩
    have hq : q < xs.length := (List.getElem?_eq_some_iff.1 hx).1
    rw [← ht, List.getElem?_take, if_pos (by omega)] at hx
    exact hx

theorem blk_zeros (w : World) (n : Nat) : Blk (w.alloc (.cells (zeros n (.int .u32 0)) 35 (0, 0))) w.heap.size 35 (u32s (List.replicate n 0)) := by
  have := Blk.new w 35 (List.replicate n (.int .u32 0))
  simpa [u32s, zeros] using this

/-- The copy, wherever it is made. -/
theorem copy_run (w2 X : World) (a : Option Addr) (sizes : List Int) (cap b : Nat) (hz : RowV w2 a (ints sizes)) (h8 : sizes.length ≤ 8) (m : Mod [] w2 X) (hB : Blk X b 3 []) (hb : w2.heap.size ≤ b) :
    ∃ a' c' X', (Builtin.append_ #[22, 22] 22 #[.slice (some ⟨b, 0, none⟩) 0 0, .slice a sizes.length cap]).run Try.prog X = .ok (.slice a' sizes.length c') X' ∧ Owns X' w2.heap.size 3 (.slice a' sizes.length c') (ints sizes) ∧ Mod [] w2 X' ∧ Mod [b] X X' := by
  have hown := Owns.of_blk hB (by decide) hb
  obtain ⟨i0, hi, hz0, hz1, hz3⟩ := info_parts info_int
  obtain ⟨v', X', hrun, hown', hgr⟩ := run_append_row (P := Try.prog) X w2.heap.size 22 22 3 i0 (.int .i64 0) 8 Try.underlying22 hi hz0 hz1 hz3 rfl _ _ hown a (ints sizes) sizes.length cap (by simp [ints]) (hz.mod0 m)
    (fun u hu => by obtain ⟨z, _, rfl⟩ := List.mem_map.1 hu; rfl) (by simp [maxLen]; omega) (by simp; omega) m.size
  obtain ⟨a', c', hv, _⟩ := hown'.row
  rw [List.nil_append] at hown' hv
  rw [show (ints sizes).length = sizes.length by simp [ints]] at hv
  subst hv
  exact ⟨a', c', X', hrun, hown', m.grown hgr (fun k hk hlt => by simp [Value.ownBlock] at hk; omega), (Mod.refl _ _).grown hgr (fun k hk _ => by simp [Value.ownBlock] at hk; simp [hk])⟩

set_option maxRecDepth 100000 in
set_option maxHeartbeats 1000000 in
theorem own_ (a : Option Addr) (sizes : List Int) (ns : List Nat) (cap : Nat) (w : World) (hz : RowV w a (ints sizes)) (h0 : a = none → sizes.length = 0) (hl : sizes.length ≤ maxLen) (hf : Fine sizes ns) :
    Calls Try.prog 3 #[.slice a sizes.length cap] w fun e w' => e = .returned (.bool true) ∧ Mod [] w w' := by
  have hcells : Calls Try.prog 21 #[.slice a sizes.length cap] w (CellsIs w sizes ns) := by
    by_cases h8 : sizes.length ≤ 8
    · exact refcells_few a sizes ns cap w hz hf h8
    · exact refcells_many a sizes ns cap w (by omega) hl
  unfold maxLen at hl
  go_enter Try.func3, Try.ntmps3
  go_wp2_with fail
  refine hcells.mono ?_
  rintro e w2 ⟨m2, hres⟩
  clear hcells
  have HA := hid h0
  clear h0
  by_cases hc : sizes.length = ns.length ∧ sizes.length ≤ 8
  · rw [if_pos hc] at hres
    obtain ⟨vl, rfl, hown⟩ := hres
    obtain ⟨al, cl, rfl, hle, hlm, hrow⟩ := ownsRow_form hown
    have hsum : ns.sum ≤ 32768 := by have := hf.sum_le hc.2 ns.length; rwa [List.take_length] at this
    obtain ⟨hg1, hg2⟩ := hc
    have HG1 := hid hg1
    have HR := hid hrow
    clear hown hg1 hrow
    by_cases h300 : 300 < ns.sum
    · by_cases hs : ns.sum ≤ 8192
      · go_wp2_with fail
        refine (awake09 _).mono ?_
        rintro e w3 ⟨rfl, m3⟩
        go_wp2
        go_ret
        exact ⟨rfl, m2.trans m3⟩
      · go_wp2_with fail
        refine (awake09 _).mono ?_
        rintro e w3 ⟨rfl, m3⟩
        go_wp2
        go_ret
        exact ⟨rfl, m2.trans m3⟩
    · have hs : ns.sum ≤ 300 := by omega
      have hs2 : ns.sum ≤ 8192 := by omega
      have hz2 := hz.mod0 m2
      obtain ⟨i0, hi, hz0, hz1, hz3⟩ := info_parts info_u
      have hmk := fun w' => make_zeros (P := Try.prog) 27 35 i0 (.int .u32 0) (.int .u32 0) 4 Try.underlying27 hi hz0 hz1 hz3 rfl ns.sum (by omega) (by omega) w'
      clear hi hz0 hz1 hz3
      go_upto_region 4 with (fail)
      go_cut [5, 6] (fun s i w' => Copies w2 sizes ns.sum s i w')
      case first =>
        refine Lex3.region (fun _ => True) [.loud, .pure, .loud, .pure, .pure, .loud, .pure, .pure] [[0, 1, 2, 3, 4, 5, 6, 7], [0, 1, 3, 4, 5, 2, 6, 7], [3, 4, 5, 0, 1, 2, 6, 7]] (by kernel_rfl) (by kernel_rfl) (fun _ => trivial) ?_
        refine ⟨?_, ?_, ?_, trivial⟩
        ·
          repeat (first | ((refine Lex3.step_pure rfl rfl rfl ?_; simp only [List.getElem_toArray, List.getElem_cons_succ, List.getElem_cons_zero]; go_big_quiet_step (fail)); refine wpQuiet_nil ?_) | ((refine Lex3.step_read rfl rfl rfl ?_; simp only [List.getElem_toArray, List.getElem_cons_succ, List.getElem_cons_zero]; go_big_quiet_step ((intro hwS; first | rfl | (simp [Known] at hwS; simp [hwS]; done) | (simp [Known] at hwS; simp [hwS]; rfl)))); refine wpQuiet_nil ?_))
          refine Lex3.step_loud rfl rfl (fun wl hwl => ?_)
          first | (obtain ⟨nq, rfl⟩ := hwl) | (replace hwl := hwl.symm; subst hwl)
          simp only [List.getElem_toArray, List.getElem_cons_succ, List.getElem_cons_zero]
          have hB : Blk ((w2.drewN nq).alloc (.cells #[] 3 (0, 0))) w2.heap.size 3 [] := Blk.new (w2.drewN nq) 3 []
          obtain ⟨a', c', X', hrun, hownX, mX, _⟩ := copy_run w2 _ a sizes cap _ hz2 hg2 (((Mod.refl [] w2).drewN nq).alloc _) hB (Nat.le_refl _)
          go_wp2_with fail
          first | refine ⟨rfl, rfl, trivial, ?_⟩ | refine ⟨rfl, rfl, ?_⟩
          repeat (first | ((refine Lex3.step_pure rfl rfl rfl ?_; simp only [List.getElem_toArray, List.getElem_cons_succ, List.getElem_cons_zero]; go_big_quiet_step (fail)); refine wpQuiet_nil ?_) | ((refine Lex3.step_read rfl rfl rfl ?_; simp only [List.getElem_toArray, List.getElem_cons_succ, List.getElem_cons_zero]; go_big_quiet_step ((intro hwS; first | rfl | (simp [Known] at hwS; simp [hwS]; done) | (simp [Known] at hwS; simp [hwS]; rfl)))); refine wpQuiet_nil ?_))
          refine Lex3.step_loud rfl rfl (fun wl hwl => ?_)
          first | (obtain ⟨nq, rfl⟩ := hwl) | (replace hwl := hwl.symm; subst hwl)
          simp only [List.getElem_toArray, List.getElem_cons_succ, List.getElem_cons_zero]
          go_wp2_with (at_builtin; refine wpList_append_run rfl _ _ _ _ rfl _ _ rfl rfl _ _ hrun ?_)
          first | refine ⟨rfl, rfl, trivial, ?_⟩ | refine ⟨rfl, rfl, ?_⟩
          repeat (first | ((refine Lex3.step_pure rfl rfl rfl ?_; simp only [List.getElem_toArray, List.getElem_cons_succ, List.getElem_cons_zero]; go_big_quiet_step (fail)); refine wpQuiet_nil ?_) | ((refine Lex3.step_read rfl rfl rfl ?_; simp only [List.getElem_toArray, List.getElem_cons_succ, List.getElem_cons_zero]; go_big_quiet_step ((intro hwS; first | rfl | (simp [Known] at hwS; simp [hwS]; done) | (simp [Known] at hwS; simp [hwS]; rfl)))); refine wpQuiet_nil ?_))
          refine Lex3.step_loud rfl rfl (fun wl hwl => ?_)
          first | (obtain ⟨nq, rfl⟩ := hwl) | (replace hwl := hwl.symm; subst hwl)
          simp only [List.getElem_toArray, List.getElem_cons_succ, List.getElem_cons_zero]
          go_wp2_with fail
          first | refine ⟨rfl, rfl, trivial, ?_⟩ | refine ⟨rfl, rfl, ?_⟩
          repeat (first | ((refine Lex3.step_pure rfl rfl rfl ?_; simp only [List.getElem_toArray, List.getElem_cons_succ, List.getElem_cons_zero]; go_big_quiet_step (fail)); refine wpQuiet_nil ?_) | ((refine Lex3.step_read rfl rfl rfl ?_; simp only [List.getElem_toArray, List.getElem_cons_succ, List.getElem_cons_zero]; go_big_quiet_step ((intro hwS; first | rfl | (simp [Known] at hwS; simp [hwS]; done) | (simp [Known] at hwS; simp [hwS]; rfl)))); refine wpQuiet_nil ?_))
          refine Lex3.step_nil (fun wl hwl => ?_)
          first | (obtain ⟨nq, rfl⟩ := hwl) | (replace hwl := hwl.symm; subst hwl)
          go_wp2_with fail
          go_meet
          case rel => exact ⟨hownX.mod0 ((Mod.refl [] X').alloc _), ⟨_, rfl, blk_zeros _ _, mX.size⟩, mX.alloc _⟩
        ·
          repeat (first | ((refine Lex3.step_pure rfl rfl rfl ?_; simp only [List.getElem_toArray, List.getElem_cons_succ, List.getElem_cons_zero]; go_big_quiet_step (fail)); refine wpQuiet_nil ?_) | ((refine Lex3.step_read rfl rfl rfl ?_; simp only [List.getElem_toArray, List.getElem_cons_succ, List.getElem_cons_zero]; go_big_quiet_step ((intro hwS; first | rfl | (simp [Known] at hwS; simp [hwS]; done) | (simp [Known] at hwS; simp [hwS]; rfl)))); refine wpQuiet_nil ?_))
          refine Lex3.step_loud rfl rfl (fun wl hwl => ?_)
          first | (obtain ⟨nq, rfl⟩ := hwl) | (replace hwl := hwl.symm; subst hwl)
          simp only [List.getElem_toArray, List.getElem_cons_succ, List.getElem_cons_zero]
          have hB : Blk ((w2.drewN nq).alloc (.cells #[] 3 (0, 0))) w2.heap.size 3 [] := Blk.new (w2.drewN nq) 3 []
          have mA : Mod [] w2 ((w2.drewN nq).alloc (.cells #[] 3 (0, 0))) := ((Mod.refl [] w2).drewN nq).alloc _
          go_wp2_with fail
          first | refine ⟨rfl, rfl, trivial, ?_⟩ | refine ⟨rfl, rfl, ?_⟩
          repeat (first | ((refine Lex3.step_pure rfl rfl rfl ?_; simp only [List.getElem_toArray, List.getElem_cons_succ, List.getElem_cons_zero]; go_big_quiet_step (fail)); refine wpQuiet_nil ?_) | ((refine Lex3.step_read rfl rfl rfl ?_; simp only [List.getElem_toArray, List.getElem_cons_succ, List.getElem_cons_zero]; go_big_quiet_step ((intro hwS; first | rfl | (simp [Known] at hwS; simp [hwS]; done) | (simp [Known] at hwS; simp [hwS]; rfl)))); refine wpQuiet_nil ?_))
          refine Lex3.step_loud rfl rfl (fun wl hwl => ?_)
          first | (obtain ⟨nq, rfl⟩ := hwl) | (replace hwl := hwl.symm; subst hwl)
          simp only [List.getElem_toArray, List.getElem_cons_succ, List.getElem_cons_zero]
          have hG := blk_zeros ((w2.drewN nq).alloc (.cells #[] 3 (0, 0))) ns.sum
          obtain ⟨a', c', X', hrun, hownX, mX, mX2⟩ := copy_run w2 _ a sizes cap _ hz2 hg2 (mA.alloc (.cells (zeros ns.sum (.int .u32 0)) 35 (0, 0))) (hB.alloc _) (Nat.le_refl _)
          have hGX := mX2.blk hG (by simp)
          go_wp2_with fail
          first | refine ⟨rfl, rfl, trivial, ?_⟩ | refine ⟨rfl, rfl, ?_⟩
          repeat (first | ((refine Lex3.step_pure rfl rfl rfl ?_; simp only [List.getElem_toArray, List.getElem_cons_succ, List.getElem_cons_zero]; go_big_quiet_step (fail)); refine wpQuiet_nil ?_) | ((refine Lex3.step_read rfl rfl rfl ?_; simp only [List.getElem_toArray, List.getElem_cons_succ, List.getElem_cons_zero]; go_big_quiet_step ((intro hwS; first | rfl | (simp [Known] at hwS; simp [hwS]; done) | (simp [Known] at hwS; simp [hwS]; rfl)))); refine wpQuiet_nil ?_))
          refine Lex3.step_loud rfl rfl (fun wl hwl => ?_)
          first | (obtain ⟨nq, rfl⟩ := hwl) | (replace hwl := hwl.symm; subst hwl)
          simp only [List.getElem_toArray, List.getElem_cons_succ, List.getElem_cons_zero]
          go_wp2_with (at_builtin; refine wpList_append_run rfl _ _ _ _ rfl _ _ rfl rfl _ _ hrun ?_)
          first | refine ⟨rfl, rfl, trivial, ?_⟩ | refine ⟨rfl, rfl, ?_⟩
          repeat (first | ((refine Lex3.step_pure rfl rfl rfl ?_; simp only [List.getElem_toArray, List.getElem_cons_succ, List.getElem_cons_zero]; go_big_quiet_step (fail)); refine wpQuiet_nil ?_) | ((refine Lex3.step_read rfl rfl rfl ?_; simp only [List.getElem_toArray, List.getElem_cons_succ, List.getElem_cons_zero]; go_big_quiet_step ((intro hwS; first | rfl | (simp [Known] at hwS; simp [hwS]; done) | (simp [Known] at hwS; simp [hwS]; rfl)))); refine wpQuiet_nil ?_))
          refine Lex3.step_nil (fun wl hwl => ?_)
          first | (obtain ⟨nq, rfl⟩ := hwl) | (replace hwl := hwl.symm; subst hwl)
          go_wp2_with fail
          go_meet
          case rel => exact ⟨hownX, ⟨_, by simp; rfl, by simpa using hGX, by simp⟩, mX⟩
        ·
          repeat (first | ((refine Lex3.step_pure rfl rfl rfl ?_; simp only [List.getElem_toArray, List.getElem_cons_succ, List.getElem_cons_zero]; go_big_quiet_step (fail)); refine wpQuiet_nil ?_) | ((refine Lex3.step_read rfl rfl rfl ?_; simp only [List.getElem_toArray, List.getElem_cons_succ, List.getElem_cons_zero]; go_big_quiet_step ((intro hwS; first | rfl | (simp [Known] at hwS; simp [hwS]; done) | (simp [Known] at hwS; simp [hwS]; rfl)))); refine wpQuiet_nil ?_))
          refine Lex3.step_loud rfl rfl (fun wl hwl => ?_)
          first | (obtain ⟨nq, rfl⟩ := hwl) | (replace hwl := hwl.symm; subst hwl)
          simp only [List.getElem_toArray, List.getElem_cons_succ, List.getElem_cons_zero]
          have hG := blk_zeros (w2.drewN nq) ns.sum
          have mA : Mod [] w2 ((w2.drewN nq).alloc (.cells (zeros ns.sum (.int .u32 0)) 35 (0, 0))) := ((Mod.refl [] w2).drewN nq).alloc _
          go_wp2_with fail
          first | refine ⟨rfl, rfl, trivial, ?_⟩ | refine ⟨rfl, rfl, ?_⟩
          repeat (first | ((refine Lex3.step_pure rfl rfl rfl ?_; simp only [List.getElem_toArray, List.getElem_cons_succ, List.getElem_cons_zero]; go_big_quiet_step (fail)); refine wpQuiet_nil ?_) | ((refine Lex3.step_read rfl rfl rfl ?_; simp only [List.getElem_toArray, List.getElem_cons_succ, List.getElem_cons_zero]; go_big_quiet_step ((intro hwS; first | rfl | (simp [Known] at hwS; simp [hwS]; done) | (simp [Known] at hwS; simp [hwS]; rfl)))); refine wpQuiet_nil ?_))
          refine Lex3.step_loud rfl rfl (fun wl hwl => ?_)
          first | (obtain ⟨nq, rfl⟩ := hwl) | (replace hwl := hwl.symm; subst hwl)
          simp only [List.getElem_toArray, List.getElem_cons_succ, List.getElem_cons_zero]
          have hB : Blk (((w2.drewN nq).alloc (.cells (zeros ns.sum (.int .u32 0)) 35 (0, 0))).alloc (.cells #[] 3 (0, 0))) (w2.heap.size + 1) 3 [] := by
            have := Blk.new ((w2.drewN nq).alloc (.cells (zeros ns.sum (.int .u32 0)) 35 (0, 0))) 3 []
            simpa using this
          obtain ⟨a', c', X', hrun, hownX, mX, mX2⟩ := copy_run w2 _ a sizes cap _ hz2 hg2 (mA.alloc _) hB (by omega)
          have hGX := mX2.blk (hG.alloc _) (by simp)
          go_wp2_with fail
          first | refine ⟨rfl, rfl, trivial, ?_⟩ | refine ⟨rfl, rfl, ?_⟩
          repeat (first | ((refine Lex3.step_pure rfl rfl rfl ?_; simp only [List.getElem_toArray, List.getElem_cons_succ, List.getElem_cons_zero]; go_big_quiet_step (fail)); refine wpQuiet_nil ?_) | ((refine Lex3.step_read rfl rfl rfl ?_; simp only [List.getElem_toArray, List.getElem_cons_succ, List.getElem_cons_zero]; go_big_quiet_step ((intro hwS; first | rfl | (simp [Known] at hwS; simp [hwS]; done) | (simp [Known] at hwS; simp [hwS]; rfl)))); refine wpQuiet_nil ?_))
          refine Lex3.step_loud rfl rfl (fun wl hwl => ?_)
          first | (obtain ⟨nq, rfl⟩ := hwl) | (replace hwl := hwl.symm; subst hwl)
          simp only [List.getElem_toArray, List.getElem_cons_succ, List.getElem_cons_zero]
          go_wp2_with (at_builtin; refine wpList_append_run rfl _ _ _ _ rfl _ _ rfl rfl _ _ hrun ?_)
          first | refine ⟨rfl, rfl, trivial, ?_⟩ | refine ⟨rfl, rfl, ?_⟩
          repeat (first | ((refine Lex3.step_pure rfl rfl rfl ?_; simp only [List.getElem_toArray, List.getElem_cons_succ, List.getElem_cons_zero]; go_big_quiet_step (fail)); refine wpQuiet_nil ?_) | ((refine Lex3.step_read rfl rfl rfl ?_; simp only [List.getElem_toArray, List.getElem_cons_succ, List.getElem_cons_zero]; go_big_quiet_step ((intro hwS; first | rfl | (simp [Known] at hwS; simp [hwS]; done) | (simp [Known] at hwS; simp [hwS]; rfl)))); refine wpQuiet_nil ?_))
          refine Lex3.step_nil (fun wl hwl => ?_)
          first | (obtain ⟨nq, rfl⟩ := hwl) | (replace hwl := hwl.symm; subst hwl)
          go_wp2_with fail
          go_meet
          case rel => exact ⟨hownX, ⟨_, by simp; rfl, by simpa using hGX, by simp⟩, mX⟩
      case rest =>
        obtain ⟨hoS, ⟨gi, rfl, hBi, hgi⟩, mC⟩ := hcut
        obtain ⟨a5, c5, hv5, hr5, _, _, hb5⟩ := hoS.row
        rw [show (ints sizes).length = sizes.length by simp [ints]] at hv5
        subst hv5
        have hng := own_ne_blk hoS hBi (by decide)
        have ha5 : a5 = none → sizes.length = 0 := fun h => by
          subst h
          rcases hoS.form with ⟨_, h1⟩ | ⟨g, c, h1, _⟩
          · simpa [ints] using congrArg List.length h1
          · cases h1
        have hnew := memnew_few a5 (some ⟨gi, 0, none⟩) sizes ns c5 ns.sum ns.sum (List.replicate ns.sum 0) wc hr5 ha5 hf hg2 (by simp) (by omega) (rowV_blk hBi)
        have hwc := mC.size
        clear hmk hz hz2
        go_wp2_with fail
        refine hnew.mono ?_
        rintro e w3 ⟨m3, hres⟩
        rw [if_pos ⟨HG1.out, by have := HG1.out; omega, hs2, by simp⟩] at hres
        obtain ⟨p, pc, dc, vs, vb, rfl, hM⟩ := hres
        clear hnew
        have hoS3 := hoS.mod0 m3
        have hBi3 := m3.blk hBi (by simp)
        have m13 := (m2.trans mC).trans m3
        have n13 := mC.trans m3
        have hsl := (hoS.lt (b := 0))
        have hsb : ∀ b, (Value.slice a5 sizes.length c5).ownBlock = some b → w2.heap.size ≤ b ∧ b < wc.heap.size := fun b hb => hoS.lt hb
        have hil := hBi.lt
        have hp0 : w3.cell? ⟨p, 0, none⟩ = _ := hM.box.cell rfl
        have HSB := hid hsb
        clear hoS hBi hr5 hb5 hsl hsb
        have hfine : ∀ (q : Nat) (z : Int), sizes[q]? = some z → 0 ≤ z ∧ z ≤ 4096 := fun q z hq => by
          have hql : q < sizes.length := (List.getElem?_eq_some_iff.1 hq).1
          obtain ⟨n, hn⟩ : ∃ n, ns[q]? = some n := ⟨_, List.getElem?_eq_getElem (by have := HG1.out; omega)⟩
          obtain ⟨h1, h2⟩ := hf.get q n hn
          rw [hq] at h1
          injection h1 with h1
          omega
        have HF := hid hfine
        have hb0 := own_blk hoS3
        have hng' : gi ∉ (Value.slice a5 sizes.length c5).ownBlock.toList := fun hm => hng (by simpa using hm)
        clear hfine hf ha5 hoS3 hng
        go_wp2_with fail
        go_loopw [60] (fun i wr => ∃ (j : Nat), j ≤ sizes.length ∧ i = .int .i64 j ∧ Mod (Value.slice a5 sizes.length c5).ownBlock.toList w3 wr ∧
          (ints sizes = [] ∨ ∃ g L, a5 = some ⟨g, 0, none⟩ ∧ Blk wr g 3 L ∧ ∀ (q : Nat) (x : Value), j ≤ q → (ints sizes)[q]? = some x → L[q]? = some x)) (fun i _ => sizes.length - (intOf i).toNat)
        case atStart =>
          refine ⟨0, by omega, rfl, Mod.refl _ _, ?_⟩
          rcases hb0 with h | ⟨g, L, h1, h2, h3⟩
          · exact .inl h
          · exact .inr ⟨g, L, h1, h2, fun q x _ hx => h3 q x hx⟩
        case round =>
          clear hb0
          obtain ⟨j, hj, rfl, hmj, hbj⟩ := hrel
          by_cases hlt : j < sizes.length
          · obtain ⟨z, hzj⟩ : ∃ z, sizes[j]? = some z := ⟨_, List.getElem?_eq_getElem hlt⟩
            have hz1 := HF.out j z hzj
            rcases hbj with h | ⟨g, L, rfl, hBg, hL⟩
            · have := congrArg List.length h
              simp only [ints, List.length_map, List.length_nil] at this
              omega
            have hcj := hBg.cell (hL j (.int .i64 z) (Nat.le_refl _) (by simp [ints, hzj]))
            have hfj := hBg.free j
            have HL := hid hL
            clear hL hzj
            go_wp2_with fail
            go_roundw
            case rel =>
              refine ⟨j + 1, by omega, by go_num, hmj.setCell (by simp [Value.ownBlock]) _, .inr ⟨g, _, rfl, hBg.set j _, fun q x hq hx => ?_⟩⟩
              rw [List.getElem?_set_ne (by omega)]
              exact HL.out q x (by omega) hx
            case measure => simp [intOf]; omega
          · have hBi4 := hmj.blk hBi3 (by simpa using hng')
            have hM4 := hM.mod hmj (fun b hb => (HSB.out b (by simpa using hb)).2)
            have m14 := m13.step hmj (fun b hb hlt => by have := (HSB.out b (by simpa using hb)).1; have := m2.size; omega)
            have n14 := n13.step hmj (fun b hb hlt => by have := (HSB.out b (by simpa using hb)).1; omega)
            clear hBi3 hM hp0 hbj hmj
            go_wp2_with fail
            go_loopw [72] (fun i wx => ∃ (j : Nat) (L : List Value), j ≤ ns.sum ∧ i = .int .i64 j ∧ L.length = ns.sum ∧ Blk wx gi 35 L ∧ Mod [gi] wr wx) (fun i _ => ns.sum - (intOf i).toNat)
            case atStart => exact ⟨0, _, by omega, rfl, by simp [u32s], hBi4, Mod.refl _ _⟩
            case round =>
              clear hBi4
              obtain ⟨q, L, hq, rfl, hLl, hBg, hmq⟩ := hrel
              by_cases hqs : q < ns.sum
              · obtain ⟨z, hzq⟩ : ∃ z, L[q]? = some z := ⟨_, List.getElem?_eq_getElem (by omega)⟩
                have hcq := hBg.cell hzq
                have hfq := hBg.free q
                have HLL := hid hLl
                clear hzq hLl
                go_wp2_with fail
                go_roundw
                case rel => exact ⟨q + 1, _, by omega, by go_num, by simpa using HLL.out, hBg.set q _, hmq.setCell (by simp) _⟩
                case measure => simp [intOf]; omega
              · have hM5 := hM4.mod hmq (fun b hb => by simp at hb; omega)
                have m15 := m14.step hmq (fun b hb hlt => by simp at hb; have := m2.size; omega)
                have n15 := n14.step hmq (fun b hb hlt => by simp at hb; omega)
                clear hBg hmq hLl hM4 m14 n14
                go_wp2_with fail
                go_loopw [81] (fun i wx => ∃ (A : Nat), A ≤ ns.sum ∧ i = .int .i64 A ∧ Mod [] wr wx) (fun i _ => ns.sum - (intOf i).toNat)
                case atStart => exact ⟨0, by omega, rfl, Mod.refl _ _⟩
                case round =>
                  skip
                  obtain ⟨A, hA, rfl, hmA⟩ := hrel
                  have hM6 := hM5.mod hmA (by simp)
                  by_cases hAs : A < ns.sum
                  · obtain ⟨c, hcA⟩ : ∃ c, (cells ns)[A]? = some c := ⟨_, List.getElem?_eq_getElem (by rw [cells_length]; exact hAs)⟩
                    have hg2 := flat2_get _ _ _ hcA
                    obtain ⟨k, n, i, hk, hi, rfl, hAe⟩ := cells_get ns A c hcA
                    have hn4 := hM5.small k n hk
                    have q : ∃ g, al = some ⟨g, 0, none⟩ ∧ wr.cell? ⟨g, A * 2, none⟩ = some (.int .i64 k) ∧ wr.cell? ⟨g, A * 2 + 1, none⟩ = some (.int .i64 i) := by
                      rcases HR.out with h | ⟨g, hal, hce⟩
                      · omega
                      · exact ⟨g, hal, hmA.cell (n15.cell (hce _ _ hg2.1) (by simp)) (by simp), hmA.cell (n15.cell (hce _ _ hg2.2) (by simp)) (by simp)⟩
                    obtain ⟨g, rfl, q1, q2⟩ := q
                    have im : (i : Int) % 4294967296 = (i : Int) := by omega
                    have mB := (Mod.refl [] wr).alloc (.cells #[.int .i64 k, .int .i64 i] 37 (0, 0))
                    have hM7 := hM6.mod mB (by simp)
                    have haddr := addr_in _ p pc dc vs vb ns _ _ hM7 k n i i hk (by omega) (by omega) hi
                    rw [← hAe] at haddr
                    clear hcA hg2 hk hAe
                    go_wp2_with fail
                    refine haddr.mono ?_
                    rintro e w6 ⟨rfl, m6⟩
                    have hM8 := hM7.mod m6 (by simp)
                    have hp0 : w6.cell? ⟨p, 0, none⟩ = _ := hM8.box.cell rfl
                    clear haddr
                    go_wp2_with fail
                    refine (cells_load pc dc A _ 0 _ hM8.cells (by simp [hAs]) (by simp; omega)).mono ?_
                    rintro e w7 ⟨rfl, rfl⟩
                    go_wp2_with fail
                    go_roundw
                    case rel => exact ⟨A + 1, by omega, by go_num, (hmA.trans mB).trans m6⟩
                    case measure => simp [intOf]; omega
                  · go_wp2_with fail
                    refine (awake09 _).mono ?_
                    rintro e w6 ⟨rfl, m6⟩
                    go_wp2
                    go_ret
                    exact ⟨rfl, (m15.trans hmA).trans m6⟩
  · rw [if_neg hc] at hres
    subst hres
    clear hc
    by_cases h8 : 8 < sizes.length
    · go_wp2_with fail
      refine (awake09 _).mono ?_
      rintro e w3 ⟨rfl, m3⟩
      go_wp2
      go_ret
      exact ⟨rfl, m2.trans m3⟩
    · go_wp2_with fail
      refine (awake09 _).mono ?_
      rintro e w3 ⟨rfl, m3⟩
      go_wp2
      go_ret
      exact ⟨rfl, m2.trans m3⟩

end Mem

theorem law_MemOwn (w : World) (v0 : Value) (x0 : List Int) (h0 : Sh.Arg w (.row (.int .i64)) x0 v0) :
    Calls Try.prog 3 #[v0] w fun e w' => e = .returned (.bool true) ∧ Mod [] w w' := by
  obtain ⟨a, cap, hv, hr, hn, hl, hm⟩ := Mem.row_of h0
  simp only [List.cons.injEq, and_true] at hv
  subst hv
  obtain ⟨ns, hf⟩ := Mem.fine_of x0
  exact Mem.own_ a x0 ns cap w hr hn (by omega) hf

end Go.Proofs.Ytekhadlpcdjlpaa
