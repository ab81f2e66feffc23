/- The walk of the statement ParkPlays. -/
import Derived.Test.YtekhadlpcdjlpaaParkC
import Derived.Deep.CutBlock
namespace Go.Proofs.Ytekhadlpcdjlpaa
namespace ParkPlays
open Go.RowKit Park Ref11
set_option linter.unusedVariables false
set_option linter.unusedSimpArgs false

set_option maxRecDepth 100000 in
set_option maxHeartbeats 4000000 in
theorem plays_few (a : Option Addr) (n spin : Nat) (l : List opSh.Val) (cap0 : Nat) (w : World) (hz : Sh.RowF w a opSh l) (hwf : ∀ x ∈ l, opSh.wf x) (h100 : l.length ≤ 100) (h1 : 1 ≤ n) (h64 : n ≤ 64) (hs1 : 1 ≤ spin) (hs2 : spin ≤ 1000) :
    Calls Try.prog 14 #[.int .i64 n, .int .i64 spin, .slice a l.length cap0] w fun e w' => e = .returned (.bool true) ∧ Mod [] w w' := by
  go_enter Try.func14, Try.ntmps14
  go_wp2_with fail
  refine (Park.new_in n spin w h1 h64 hs1 hs2).mono ?_
  rintro e w1 ⟨p, g, gc, pp, pd, pcap, cs, rfl, hW, hb, m1⟩
  go_wp2_with fail
  refine (Ref11.new_ n spin w1 h64 hs2).mono ?_
  rintro e w2 ⟨q, b1, b2, b3, b4, rfl, hR, hb2, m2⟩
  have hlowW : ∀ x, x = p ∨ x = g ∨ x = pp ∨ x = pd ∨ x ∈ cs → x < w1.heap.size := by
    rintro x (rfl | rfl | rfl | rfl | hx)
    · exact hW.box.lt
    · obtain ⟨sp, hr⟩ := hW.row
      exact hr.lt
    · exact hW.perm.box.lt
    · obtain ⟨c, hc⟩ : ∃ c, cs[0]? = some c := ⟨_, List.getElem?_eq_getElem (by have := hW.most; simp at this; omega)⟩
      exact cell_lt (hW.perm.row 0 c hc)
    · obtain ⟨i, hi⟩ := List.getElem?_of_mem hx
      exact (hW.perm.chan i x hi).lt
  have hlowR : ∀ x, x = q ∨ x = b1 ∨ x = b2 ∨ x = b3 ∨ x = b4 → x < w2.heap.size := by
    rintro y (rfl | rfl | rfl | rfl | rfl)
    · exact hR.box.lt
    · exact hR.r1.lt
    · exact hR.r2.lt
    · exact hR.r3.lt
    · exact hR.r4.lt
  obtain ⟨K, hK⟩ : ∃ K : Pk, K = ⟨p, g, gc, pp, pd, pcap, cs, q, b1, b2, b3, b4, n, spin⟩ := ⟨_, rfl⟩
  have hsep : Sep K w.heap.size w1.heap.size w2.heap.size := by
    subst hK
    exact ⟨fun x hx => ⟨hb x hx, hlowW x hx⟩, fun x hx => ⟨hb2 x hx, hlowR x hx⟩, m1.size⟩
  have hnums : nums (List.replicate n false) = List.replicate n 0 := by simp [nums, num]
  have hB : Both K w w2 (List.replicate n (0, -1)) (List.replicate n false) (List.replicate n 0) (List.replicate n 0) (List.replicate n 0) := by
    subst hK
    refine ⟨hW.mod0 m2, by rw [Pk.R, hnums]; exact hR, ⟨by simp, fun t l a b hl hb => ?_⟩, by simp, m1.trans m2⟩
    have ht : t < n := by have := (List.getElem?_eq_some_iff.1 hl).1; simpa using this
    simp [List.getElem?_replicate, ht] at hl hb ⊢
    obtain ⟨e1, e2⟩ := hl
    subst e1 e2 hb
    exact ⟨rfl, .inl ⟨rfl, rfl, rfl⟩⟩
  have hKp : p = K.p ∧ q = K.q ∧ n = K.n := by subst hK; exact ⟨rfl, rfl, rfl⟩
  obtain ⟨e1, e2, e3⟩ := hKp
  have hspin : K.spin ≤ 1000 := by subst hK; exact hs2
  clear hW hR hb hb2 hlowW hlowR hnums hK
  subst e1 e2 e3
  have HS := hid hsep
  have hmid := m2.size
  clear hsep
  go_wp2_with fail
  go_loopw [63] (fun i wr => ∃ (k : Nat) (sl : List (Int × Int)) (bs : List Bool) (lo sp ad : List Int), k ≤ l.length ∧ i = .int .i64 k ∧ Both K w wr sl bs lo sp ad ∧ w2.heap.size ≤ wr.heap.size) (fun i _ => l.length - (intOf i).toNat)
  case atStart => exact ⟨0, _, _, _, _, _, by omega, rfl, hB, Nat.le_refl _⟩
  case round =>
    clear hB m2 m1
    obtain ⟨k, sl, bs, lo, sp, ad, hk, rfl, hB, htop⟩ := hrel
    by_cases hlt : k < l.length
    · obtain ⟨kd, T, A, hzk⟩ : ∃ (kd T A : Int), l[k]? = some (kd, T, A, ()) := ⟨(l[k]).1, (l[k]).2.1, (l[k]).2.2.1, by rw [List.getElem?_eq_getElem hlt]; rfl⟩
      rcases hz with rfl | ⟨b0, off, rfl, hcell⟩
      · simp at hlt
      have q0 := hB.mod.cell (hcell k _ hzk 0 _ rfl) (by simp)
      have q1 := hB.mod.cell (hcell k _ hzk 1 _ rfl) (by simp)
      have q2 := hB.mod.cell (hcell k _ hzk 2 _ rfl) (by simp)
      simp only [Sh.size, Nat.add_zero, Nat.reduceAdd] at q0 q1 q2
      have hw3 := hwf _ (List.mem_of_getElem? hzk)
      have bt := bounds_i64 hw3.2.1
      have ba := bounds_i64 hw3.2.2.1
      have bk := bounds_i64 hw3.1
      have mA := (Mod.refl [] wr).alloc (.cells #[.int .i64 kd, .int .i64 T, .int .i64 A] 108 (0, 0))
      have hBx : Blk (wr.alloc (.cells #[.int .i64 kd, .int .i64 T, .int .i64 A] 108 (0, 0))) wr.heap.size 108 [.int .i64 kd, .int .i64 T, .int .i64 A] := Blk.new wr _ [.int .i64 kd, .int .i64 T, .int .i64 A]
      have hBA : Both K w (wr.alloc (.cells #[.int .i64 kd, .int .i64 T, .int .i64 A] 108 (0, 0))) sl bs lo sp ad := ⟨hB.st.mod0 mA, hB.rf.mod0 mA, hB.rel, hB.n, hB.mod.trans mA⟩
      have htopA : w2.heap.size ≤ (wr.alloc (.cells #[.int .i64 kd, .int .i64 T, .int .i64 A] 108 (0, 0))).heap.size := by simp; omega
      clear hcell hzk hw3 hB mA
      obtain ⟨ob, hob⟩ : ∃ ob, wr.heap.size = ob := ⟨_, rfl⟩
      go_upto_region 12 with (fail)
      rw [hob] at hBx htop
      clear hob
      generalize wr.alloc (.cells #[.int .i64 kd, .int .i64 T, .int .i64 A] 108 (0, 0)) = WA at *
      have x0 := hBx.cell (i := 0) rfl
      have x1 := hBx.cell (i := 1) rfl
      have x2 := hBx.cell (i := 2) rfl
      clear q0 q1 q2
      by_cases hskip : T < 0 ∨ (K.n : Int) ≤ T ∨ A < 0
      · by_cases h1' : T < 0
        · go_wp2_with fail
          go_roundw
          case rel => exact ⟨k + 1, sl, bs, lo, sp, ad, by omega, by go_num, hBA, htopA⟩
          case measure => simp [intOf]; omega
        · by_cases h2' : (K.n : Int) ≤ T
          · go_wp2_with fail
            go_roundw
            case rel => exact ⟨k + 1, sl, bs, lo, sp, ad, by omega, by go_num, hBA, htopA⟩
            case measure => simp [intOf]; omega
          · have h3' : A < 0 := by omega
            go_wp2_with fail
            go_roundw
            case rel => exact ⟨k + 1, sl, bs, lo, sp, ad, by omega, by go_num, hBA, htopA⟩
            case measure => simp [intOf]; omega
      · obtain ⟨t, rfl⟩ : ∃ t : Nat, T = t := ⟨T.toNat, by omega⟩
        have ht : t < K.n := by omega
        have hA : 0 ≤ A := by omega
        clear hskip
        go_upto_block 2 with (fail)
        go_cut [] (fun wc => ∃ sl bs lo sp ad, Both K w wc sl bs lo sp ad ∧ w2.heap.size ≤ wc.heap.size)
        case first =>
          obtain ⟨l0, a0, c0, s0, ra0, hl, hb, g1, g2, g3, g4, hsame, hl0, hl1⟩ := hBA.at_ ht
          have hK : Known [(⟨ob, 1, none⟩, .int .i64 (t : Int)), (⟨ob, 2, none⟩, .int .i64 A)] WA := by simp [Known, x1, x2]
          have r0 : WA.cell? ⟨K.q, 2, none⟩ = some (.slice (some ⟨K.b2, 0, none⟩) K.n K.n) := hBA.rf.box.cell rfl
          have r1 : WA.cell? ⟨K.b2, t, none⟩ = some (.int .i64 s0) := hBA.rf.r2.cell (ints_get g2)
          have HB := hid hBA
          have HSM := hid hsame
          clear hBx hBA hlt hk hsame
          by_cases k1 : kd = 1
          · as_aux_lemma =>
              subst k1
              by_cases hs0 : s0 = 0
              · subst hs0
                have ha0 : a0 = -1 := by
                  rcases HSM.out with q | q
                  · exact q.1
                  · exact absurd q.2.2.1 (by decide)
                subst ha0
                go_wp2_with fail
                refine Lex2.region (Known [(⟨ob, 1, none⟩, .int .i64 (t : Int)), (⟨ob, 2, none⟩, .int .i64 A)]) [.pure, .pure, .pure, .head, .pure, .read, .pure, .head, .pure, .pure, .pure, .pure, .read, .pure, .read, .loud, .loud, .pure, .pure, .read, .pure, .read, .fin, .pure, .pure] (by kernel_rfl) (by kernel_rfl) ?_ ?_
                · exact hK.drewN
                repeat (first | ((refine Lex2.step_pure rfl rfl ?_; go_big_quiet_step (fail)); refine wpQuiet_nil ?_) | ((refine Lex2.step_read rfl rfl ?_; go_big_quiet_step ((intro hwS; first | rfl | (simp [Known] at hwS; simp [hwS]; done) | (simp [Known] at hwS; simp [hwS]; rfl)))); refine wpQuiet_nil ?_))
                refine Lex2.step_head rfl ?_
                go_big_quiet_step ((fail))
                refine wpQuiet_nil ?_
                repeat (first | ((refine Lex2.step_pure rfl rfl ?_; go_big_quiet_step (fail)); refine wpQuiet_nil ?_) | ((refine Lex2.step_read rfl rfl ?_; go_big_quiet_step ((intro hwS; first | rfl | (simp [Known] at hwS; simp [hwS]; done) | (simp [Known] at hwS; simp [hwS]; rfl)))); refine wpQuiet_nil ?_))
                refine Lex2.step_head rfl ?_
                go_big_quiet_step ((fail))
                refine wpQuiet_nil ?_
                repeat (first | ((refine Lex2.step_pure rfl rfl ?_; go_big_quiet_step (fail)); refine wpQuiet_nil ?_) | ((refine Lex2.step_read rfl rfl ?_; go_big_quiet_step ((intro hwS; first | rfl | (simp [Known] at hwS; simp [hwS]; done) | (simp [Known] at hwS; simp [hwS]; rfl)))); refine wpQuiet_nil ?_))
                refine Lex2.step_loud rfl (fun wl hwl => ?_)
                first | (obtain ⟨nq, rfl⟩ := hwl) | (replace hwl := hwl.symm; subst hwl)
                have hBn := HB.out.mod0 ((Mod.refl [] WA).drewN nq)
                obtain ⟨r, v, sl', lo', sp', ad', hT⟩ := two_look hBn t ht l0 0 ra0 c0 hl hb g1 g2 g3 g4 HSM.out hl0 hl1 A hA hspin
                have HN := hid hBn
                have HT := hid hT
                have hK1 := hK.drewN nq
                clear hBn hT hK r0 r1
                have hsz := ((Mod.refl [] WA).drewN nq).size
                generalize WA.drewN nq = WB at *
                go_wp2_with fail
                refine HT.out.prog.mono ?_
                rintro e w3 hP
                have HP := hid hP
                obtain ⟨rfl, hW3, S3, hS3, m3⟩ := hP
                have hK2 := op_known HS.out hmid htop hK1 hS3 m3
                have hR3 := R_prog HS.out HN.out.rf m3 hS3
                have HR := hid hR3
                clear hK1 hW3 hS3 m3 hR3
                go_wp2_with fail
                refine ⟨rfl, rfl, hK2, ?_⟩
                refine Lex2.step_loud rfl (fun wl hwl => ?_)
                first | (obtain ⟨nq, rfl⟩ := hwl) | (replace hwl := hwl.symm; subst hwl)
                go_wp2_with fail
                refine (one_ _ _).mono ?_
                rintro e w4 ⟨rfl, rfl⟩
                go_wp2_with fail
                refine ⟨rfl, rfl, hK2, ?_⟩
                rw [HT.out.num]
                repeat (first | ((refine Lex2.step_pure rfl rfl ?_; go_big_quiet_step (fail)); refine wpQuiet_nil ?_) | ((refine Lex2.step_read rfl rfl ?_; go_big_quiet_step ((intro hwS; first | rfl | (simp [Known] at hwS; simp [hwS]; done) | (simp [Known] at hwS; simp [hwS]; rfl)))); refine wpQuiet_nil ?_))
                refine Lex2.step_fin rfl (fun wl hwl => ?_)
                first | (obtain ⟨nq, rfl⟩ := hwl) | (replace hwl := hwl.symm; subst hwl)
                go_wp2_with fail
                refine (HT.out.ref _ HR.out).mono ?_
                rintro e w4 hQ
                have HQ := hid hQ
                obtain ⟨rfl, -⟩ := hQ
                go_wp2_with fail
                refine ⟨rfl, rfl, ?_⟩
                repeat (first | ((refine Lex2.step_pure rfl rfl ?_; go_big_quiet_step (fail)); refine wpQuiet_nil ?_) | ((refine Lex2.step_read rfl rfl ?_; go_big_quiet_step ((intro hwS; first | rfl | (simp [Known] at hwS; simp [hwS]; done) | (simp [Known] at hwS; simp [hwS]; rfl)))); refine wpQuiet_nil ?_))
                refine Lex2.step_nil (fun wl hwl => ?_)
                first | (obtain ⟨nq, rfl⟩ := hwl) | (replace hwl := hwl.symm; subst hwl)
                go_wp2
                go_meet
                case rel =>
                  have := HN.out.next HS.out HP.out HQ.out HT.out.rel HT.out.n
                  exact ⟨_, _, _, _, _, this.1, by have := this.2; omega⟩
              · have d1 : (s0 == 0) = false := by simpa using hs0
                go_wp2
                go_quiet (fail)
                go_wp2
                go_meet
                case rel => exact ⟨sl, bs, lo, sp, ad, HB.out.mod0 ((Mod.refl [] WA).drewN _), by simpa using htopA⟩
          by_cases k2 : kd = 2
          · as_aux_lemma =>
              subst k2
              by_cases hs0 : s0 = 0
              · subst hs0
                have ha0 : a0 = -1 := by
                  rcases HSM.out with q | q
                  · exact q.1
                  · exact absurd q.2.2.1 (by decide)
                subst ha0
                go_wp2
                go_quiet (fail)
                have hBn := HB.out.mod0 ((Mod.refl [] WA).drewN nq)
                have hK1 := hK.drewN nq
                have y1 : (WA.drewN nq).cell? ⟨ob, 1, none⟩ = some (.int .i64 (t : Int)) := by simpa using x1
                have HN := hid hBn
                clear hBn hK r0 r1 x0 x1 x2
                have hsz := ((Mod.refl [] WA).drewN nq).size
                generalize WA.drewN nq = WB at *
                go_wp2_with fail
                refine (Park.moved_ HN.out.st t (l0, -1) hl).mono ?_
                rintro e w3 ⟨rfl, hW3, m3⟩
                have hog : ob ≠ K.g := by have := (HS.out.prog K.g (.inr (.inl rfl))).2; omega
                have z1 := m3.cell y1 (by simpa using hog)
                have hR3 := R_prog HS.out HN.out.rf m3 (by simp)
                have r0 : w3.cell? ⟨K.q, 1, none⟩ = some (.slice (some ⟨K.b1, 0, none⟩) K.n K.n) := hR3.box.cell rfl
                have r1 : w3.cell? ⟨K.b1, t, none⟩ = some (.int .i64 l0) := hR3.r1.cell (ints_get g1)
                have f1 := hR3.r1.free t
                have HW := hid hW3
                have HM := hid m3
                clear hK1 hW3 hR3 y1 m3
                go_wp2_with fail
                refine wp_region_quiet_tail 7 (by kernel_rfl) (by kernel_rfl) ?_
                simp only [List.take_succ_cons, List.take_zero, List.drop_succ_cons, List.drop_zero]
                repeat (go_big_quiet_step ((fail)))
                refine wpQuiet_nil ?_
                intro _ hw'
                obtain ⟨nq, hw''⟩ := hw'
                subst hw''
                go_wp2
                go_meet
                case rel =>
                  have := Both.moved HS.out HN.out t ht l0 c0 0 ra0 hl hb g2 g3 HSM.out HW.out HM.out nq
                  exact ⟨_, _, _, _, _, this.1, by have := this.2; omega⟩
              · have d1 : (s0 == 0) = false := by simpa using hs0
                go_wp2
                go_quiet (fail)
                go_wp2
                go_meet
                case rel => exact ⟨sl, bs, lo, sp, ad, HB.out.mod0 ((Mod.refl [] WA).drewN _), by simpa using htopA⟩
          by_cases k3 : kd = 3
          · as_aux_lemma =>
              subst k3
              go_wp2_with fail
              refine Lex2.region (Known [(⟨ob, 1, none⟩, .int .i64 (t : Int)), (⟨ob, 2, none⟩, .int .i64 A)]) [.pure, .pure, .read, .pure, .read, .loud, .pure, .pure, .read, .pure, .read, .fin, .pure, .pure] (by kernel_rfl) (by kernel_rfl) ?_ ?_
              · exact hK.drewN
              repeat (first | ((refine Lex2.step_pure rfl rfl ?_; go_big_quiet_step (fail)); refine wpQuiet_nil ?_) | ((refine Lex2.step_read rfl rfl ?_; go_big_quiet_step ((intro hwS; first | rfl | (simp [Known] at hwS; simp [hwS]; done) | (simp [Known] at hwS; simp [hwS]; rfl)))); refine wpQuiet_nil ?_))
              refine Lex2.step_loud rfl (fun wl hwl => ?_)
              first | (obtain ⟨nq, rfl⟩ := hwl) | (replace hwl := hwl.symm; subst hwl)
              have hBn := HB.out.mod0 ((Mod.refl [] WA).drewN nq)
              have HN := hid hBn
              have hK1 := hK.drewN nq
              clear hBn hK r0 r1
              have hsz := ((Mod.refl [] WA).drewN nq).size
              generalize WA.drewN nq = WB at *
              go_wp2_with fail
              refine (Park.wrote_ HN.out.st A t).mono ?_
              rintro e w3 ⟨v1, rfl, hown1, hW3, m3⟩
              have hK2 := op_known HS.out hmid htop hK1 (fun x hx => List.mem_cons_of_mem _ hx) m3
              have hR3 := R_prog HS.out HN.out.rf m3 (fun x hx => List.mem_cons_of_mem _ hx)
              have HR := hid hR3
              have HW := hid hW3
              have HM := hid m3
              clear hK1 hW3 m3 hR3
              go_wp2_with fail
              refine ⟨rfl, rfl, hK2, ?_⟩
              repeat (first | ((refine Lex2.step_pure rfl rfl ?_; go_big_quiet_step (fail)); refine wpQuiet_nil ?_) | ((refine Lex2.step_read rfl rfl ?_; go_big_quiet_step ((intro hwS; first | rfl | (simp [Known] at hwS; simp [hwS]; done) | (simp [Known] at hwS; simp [hwS]; rfl)))); refine wpQuiet_nil ?_))
              refine Lex2.step_fin rfl (fun wl hwl => ?_)
              first | (obtain ⟨nq, rfl⟩ := hwl) | (replace hwl := hwl.symm; subst hwl)
              go_wp2_with fail
              refine (Ref11.wrote_ HR.out HN.out.rel A t hA).mono ?_
              rintro e w4 ⟨v2, rfl, hown2, hR4, m4⟩
              go_wp2_with fail
              refine ⟨rfl, rfl, ?_⟩
              repeat (first | ((refine Lex2.step_pure rfl rfl ?_; go_big_quiet_step (fail)); refine wpQuiet_nil ?_) | ((refine Lex2.step_read rfl rfl ?_; go_big_quiet_step ((intro hwS; first | rfl | (simp [Known] at hwS; simp [hwS]; done) | (simp [Known] at hwS; simp [hwS]; rfl)))); refine wpQuiet_nil ?_))
              refine Lex2.step_nil (fun wl hwl => ?_)
              first | (obtain ⟨nq, rfl⟩ := hwl) | (replace hwl := hwl.symm; subst hwl)
              have hb4 : K.b4 < w2.heap.size := (HS.out.ref K.b4 (.inr (.inr (.inr (.inr rfl))))).2
              have hown1' := hown1.mod m4 (fun b hb hv => by
                have := (hown1.lt hv).1
                simp at hb
                omega)
              obtain ⟨a1, c1, rfl, hr1⟩ := nats_row hown1'
              obtain ⟨a2, c2, rfl, hr2⟩ := nats_row hown2
              have hnext := HN.out.next HS.out (v := .int .i64 0) (v' := .int .i64 0) (e := .returned (.int .i64 0)) (e' := .returned (.int .i64 0)) ⟨rfl, HW.out, K.cs, fun x hx => List.mem_cons_of_mem _ hx, HM.out⟩ ⟨rfl, hR4, [K.b4], by simp [Pk.ref], m4⟩ (HN.out.rel.after A t sl.length) HN.out.n
              have hlen : (woken sl bs A t sl.length).length ≤ 64 := by
                have := woken_le sl bs A t sl.length
                have := HN.out.n
                omega
              have HX := hid hnext
              have H1 := hid hr1
              have H2 := hid hr2
              clear hown1 hown1' hown2 hR4 m4 hK2 hr1 hr2 hnext
              generalize woken sl bs A t sl.length = L at *
              go_wp2_with fail
              go_loopw [153] (fun i wr => ∃ j : Nat, j ≤ L.length ∧ i = .int .i64 j ∧ Mod [] w4 wr) (fun i _ => L.length - (intOf i).toNat)
              case atStart => exact ⟨0, by omega, rfl, Mod.refl _ _⟩
              case round =>
                obtain ⟨j, hj, rfl, hmr⟩ := hrel
                by_cases hjn : j < L.length
                · obtain ⟨x, hx⟩ : ∃ x, L[j]? = some x := ⟨L[j], List.getElem?_eq_getElem hjn⟩
                  obtain ⟨b5, o5, rfl, q5⟩ := H1.out j x hx
                  obtain ⟨b6, o6, rfl, q6⟩ := H2.out j x hx
                  have e1 := hmr.cell q5 (by simp)
                  have e2 := hmr.cell q6 (by simp)
                  clear hx q5 q6
                  go_wp2
                  go_quiet (fail)
                  go_wp2
                  go_roundw
                  case rel => exact ⟨j + 1, by omega, by go_num, hmr.drewN _⟩
                  case measure => simp [intOf]; omega
                · go_wp2
                  go_meet
                  case rel => exact ⟨_, _, _, _, _, HX.out.1.mod0 hmr, by have := HX.out.2; have := hmr.size; omega⟩
          by_cases k4 : kd = 4
          · as_aux_lemma =>
              subst k4
              go_wp2_with fail
              refine Lex2.region (Known [(⟨ob, 1, none⟩, .int .i64 (t : Int)), (⟨ob, 2, none⟩, .int .i64 A)]) [.pure, .pure, .read, .loud, .loud, .pure, .pure, .read, .fin, .pure] (by kernel_rfl) (by kernel_rfl) ?_ ?_
              · exact hK.drewN
              repeat (first | ((refine Lex2.step_pure rfl rfl ?_; go_big_quiet_step (fail)); refine wpQuiet_nil ?_) | ((refine Lex2.step_read rfl rfl ?_; go_big_quiet_step ((intro hwS; first | rfl | (simp [Known] at hwS; simp [hwS]; done) | (simp [Known] at hwS; simp [hwS]; rfl)))); refine wpQuiet_nil ?_))
              refine Lex2.step_loud rfl (fun wl hwl => ?_)
              first | (obtain ⟨nq, rfl⟩ := hwl) | (replace hwl := hwl.symm; subst hwl)
              have hBn := HB.out.mod0 ((Mod.refl [] WA).drewN nq)
              obtain ⟨r, v, bs', hT⟩ := two_wake hBn t ht l0 a0 s0 ra0 c0 hl hb g1 g2 g3 g4 HSM.out
              have HN := hid hBn
              have HT := hid hT
              have hK1 := hK.drewN nq
              clear hBn hT hK r0 r1
              have hsz := ((Mod.refl [] WA).drewN nq).size
              generalize WA.drewN nq = WB at *
              go_wp2_with fail
              refine HT.out.prog.mono ?_
              rintro e w3 hP
              have HP := hid hP
              obtain ⟨rfl, hW3, S3, hS3, m3⟩ := hP
              have hK2 := op_known HS.out hmid htop hK1 hS3 m3
              have hR3 := R_prog HS.out HN.out.rf m3 hS3
              have HR := hid hR3
              clear hK1 hW3 hS3 m3 hR3
              go_wp2_with fail
              refine ⟨rfl, rfl, hK2, ?_⟩
              refine Lex2.step_loud rfl (fun wl hwl => ?_)
              first | (obtain ⟨nq, rfl⟩ := hwl) | (replace hwl := hwl.symm; subst hwl)
              go_wp2_with fail
              refine (one_ _ _).mono ?_
              rintro e w4 ⟨rfl, rfl⟩
              go_wp2_with fail
              refine ⟨rfl, rfl, hK2, ?_⟩
              rw [HT.out.num]
              repeat (first | ((refine Lex2.step_pure rfl rfl ?_; go_big_quiet_step (fail)); refine wpQuiet_nil ?_) | ((refine Lex2.step_read rfl rfl ?_; go_big_quiet_step ((intro hwS; first | rfl | (simp [Known] at hwS; simp [hwS]; done) | (simp [Known] at hwS; simp [hwS]; rfl)))); refine wpQuiet_nil ?_))
              refine Lex2.step_fin rfl (fun wl hwl => ?_)
              first | (obtain ⟨nq, rfl⟩ := hwl) | (replace hwl := hwl.symm; subst hwl)
              go_wp2_with fail
              refine (HT.out.ref _ HR.out).mono ?_
              rintro e w4 hQ
              have HQ := hid hQ
              obtain ⟨rfl, -⟩ := hQ
              go_wp2_with fail
              refine ⟨rfl, rfl, ?_⟩
              repeat (first | ((refine Lex2.step_pure rfl rfl ?_; go_big_quiet_step (fail)); refine wpQuiet_nil ?_) | ((refine Lex2.step_read rfl rfl ?_; go_big_quiet_step ((intro hwS; first | rfl | (simp [Known] at hwS; simp [hwS]; done) | (simp [Known] at hwS; simp [hwS]; rfl)))); refine wpQuiet_nil ?_))
              refine Lex2.step_nil (fun wl hwl => ?_)
              first | (obtain ⟨nq, rfl⟩ := hwl) | (replace hwl := hwl.symm; subst hwl)
              go_wp2
              go_meet
              case rel =>
                have := HN.out.next HS.out HP.out HQ.out HT.out.rel HT.out.n
                exact ⟨_, _, _, _, _, this.1, by have := this.2; omega⟩
          by_cases k5 : kd = 5
          · as_aux_lemma =>
              subst k5
              go_wp2_with fail
              refine Lex2.region (Known [(⟨ob, 1, none⟩, .int .i64 (t : Int)), (⟨ob, 2, none⟩, .int .i64 A)]) [.pure, .pure, .read, .loud, .loud, .pure, .pure, .read, .fin, .pure] (by kernel_rfl) (by kernel_rfl) ?_ ?_
              · exact hK.drewN
              repeat (first | ((refine Lex2.step_pure rfl rfl ?_; go_big_quiet_step (fail)); refine wpQuiet_nil ?_) | ((refine Lex2.step_read rfl rfl ?_; go_big_quiet_step ((intro hwS; first | rfl | (simp [Known] at hwS; simp [hwS]; done) | (simp [Known] at hwS; simp [hwS]; rfl)))); refine wpQuiet_nil ?_))
              refine Lex2.step_loud rfl (fun wl hwl => ?_)
              first | (obtain ⟨nq, rfl⟩ := hwl) | (replace hwl := hwl.symm; subst hwl)
              have hBn := HB.out.mod0 ((Mod.refl [] WA).drewN nq)
              obtain ⟨r, v, sl', bs', lo', sp', hT⟩ := two_resume hBn t ht l0 a0 s0 ra0 c0 hl hb g1 g2 g3 g4 HSM.out
              have HN := hid hBn
              have HT := hid hT
              have hK1 := hK.drewN nq
              clear hBn hT hK r0 r1
              have hsz := ((Mod.refl [] WA).drewN nq).size
              generalize WA.drewN nq = WB at *
              go_wp2_with fail
              refine HT.out.prog.mono ?_
              rintro e w3 hP
              have HP := hid hP
              obtain ⟨rfl, hW3, S3, hS3, m3⟩ := hP
              have hK2 := op_known HS.out hmid htop hK1 hS3 m3
              have hR3 := R_prog HS.out HN.out.rf m3 hS3
              have HR := hid hR3
              clear hK1 hW3 hS3 m3 hR3
              go_wp2_with fail
              refine ⟨rfl, rfl, hK2, ?_⟩
              refine Lex2.step_loud rfl (fun wl hwl => ?_)
              first | (obtain ⟨nq, rfl⟩ := hwl) | (replace hwl := hwl.symm; subst hwl)
              go_wp2_with fail
              refine (one_ _ _).mono ?_
              rintro e w4 ⟨rfl, rfl⟩
              go_wp2_with fail
              refine ⟨rfl, rfl, hK2, ?_⟩
              rw [HT.out.num]
              repeat (first | ((refine Lex2.step_pure rfl rfl ?_; go_big_quiet_step (fail)); refine wpQuiet_nil ?_) | ((refine Lex2.step_read rfl rfl ?_; go_big_quiet_step ((intro hwS; first | rfl | (simp [Known] at hwS; simp [hwS]; done) | (simp [Known] at hwS; simp [hwS]; rfl)))); refine wpQuiet_nil ?_))
              refine Lex2.step_fin rfl (fun wl hwl => ?_)
              first | (obtain ⟨nq, rfl⟩ := hwl) | (replace hwl := hwl.symm; subst hwl)
              go_wp2_with fail
              refine (HT.out.ref _ HR.out).mono ?_
              rintro e w4 hQ
              have HQ := hid hQ
              obtain ⟨rfl, -⟩ := hQ
              go_wp2_with fail
              refine ⟨rfl, rfl, ?_⟩
              repeat (first | ((refine Lex2.step_pure rfl rfl ?_; go_big_quiet_step (fail)); refine wpQuiet_nil ?_) | ((refine Lex2.step_read rfl rfl ?_; go_big_quiet_step ((intro hwS; first | rfl | (simp [Known] at hwS; simp [hwS]; done) | (simp [Known] at hwS; simp [hwS]; rfl)))); refine wpQuiet_nil ?_))
              refine Lex2.step_nil (fun wl hwl => ?_)
              first | (obtain ⟨nq, rfl⟩ := hwl) | (replace hwl := hwl.symm; subst hwl)
              go_wp2
              go_meet
              case rel =>
                have := HN.out.next HS.out HP.out HQ.out HT.out.rel HT.out.n
                exact ⟨_, _, _, _, _, this.1, by have := this.2; omega⟩
          go_wp2
          go_meet
          case rel => exact ⟨sl, bs, lo, sp, ad, HB.out, htopA⟩
        case rest =>
          as_aux_lemma =>
            clear hBA htopA x0 x1 x2 hBx
            obtain ⟨sl, bs, lo, sp, ad, hB, htop2⟩ := hcut
            have HB := hid hB
            clear hB htop
            go_wp2_with fail
            go_loopw [191] (fun i wr => ∃ j : Nat, j ≤ K.n ∧ i = .int .i64 j ∧ Mod [] wc wr) (fun i _ => K.n - (intOf i).toNat)
            case atStart => exact ⟨0, by omega, rfl, Mod.refl _ _⟩
            case round =>
              obtain ⟨j, hj, rfl, hmr⟩ := hrel
              by_cases hjn : j < K.n
              · have hBr := HB.out.mod0 hmr
                obtain ⟨v, r, l9, b, hp, hq, hlk, h1l, hcase⟩ := two_parked hBr j hjn
                have y0 : wr.cell? ⟨K.q, 1, none⟩ = some (.slice (some ⟨K.b1, 0, none⟩) K.n K.n) := hBr.rf.box.cell rfl
                have y1 : wr.cell? ⟨K.b1, j, none⟩ = some (.int .i64 l9) := hBr.rf.r1.cell (ints_get h1l)
                have hlook : ∀ k, Calls Try.prog 70 #[.pointer (some ⟨K.p, 0, none⟩), .int .i64 j] (wr.drewN k) fun e w' => e = .returned (.int .i64 l9) ∧ wr.drewN k = w' := fun k => hlk _ (hBr.st.mod0 ((Mod.refl [] wr).drewN k))
                have HP := hid hp
                have HQ := hid hq
                clear hBr hlk hp hq h1l
                go_wp2_with fail
                refine HP.out.mono ?_
                rintro e w4 ⟨rfl, rfl⟩
                go_wp2_with fail
                refine HQ.out.mono ?_
                rintro e w4 ⟨rfl, rfl⟩
                rcases hcase with ⟨rfl, rfl, rfl⟩ | ⟨rn, rfl, rfl, rfl⟩
                · go_wp2_with fail
                  go_quiet ((go_at_call 70; first | exact calls_same (hlook _) | exact calls_same2 (hlook _)))
                  go_wp2
                  go_roundw
                  case rel => exact ⟨j + 1, by omega, by go_num, hmr.drewN _⟩
                  case measure => simp [intOf]; omega
                · have d1 : decide (0 ≤ (rn : Int)) = true := by simp
                  have d2 : max (rn : Int) 0 = rn := by omega
                  go_wp2_with fail
                  go_quiet ((go_at_call 70; first | exact calls_same (hlook _) | exact calls_same2 (hlook _)))
                  go_wp2
                  go_roundw
                  case rel => exact ⟨j + 1, by omega, by go_num, hmr.drewN _⟩
                  case measure => simp [intOf]; omega
              · go_wp2_with fail
                go_roundw
                case rel => exact ⟨k + 1, sl, bs, lo, sp, ad, by omega, by go_num, HB.out.mod0 hmr, by have := hmr.size; omega⟩
                case measure => simp [intOf]; omega
    · have hkk : k = l.length := by omega
      subst hkk
      have hB0 := hB.mod
      clear hB hlt hk
      go_wp2_with fail
      refine (awake11 _).mono ?_
      rintro e w4 ⟨rfl, m4⟩
      go_wp2
      go_ret
      exact ⟨rfl, hB0.trans m4⟩
end ParkPlays
end Go.Proofs.Ytekhadlpcdjlpaa
