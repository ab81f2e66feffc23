/- The walk of the statement RingPlays. -/
import Derived.Test.YtlhbfkncdcgocaaRingAll
import Derived.Test.YtlhbfkncdcgocaaRingOrder
import Derived.Test.YtlhbfkncdcgocaaSmall
import Derived.Deep.DeepCutAuto
namespace Go.Proofs.Ytlhbfkncdcgocaa
open Go.RowKit
set_option linter.unusedVariables false
set_option linter.unusedSimpArgs false

abbrev opsSh : Sh := .pair .bool (.pair .str .unit)

/-- A row of calls: is it a take; what is put in. -/
def RowOpS (w : World) (a : Option Addr) (l : List (Bool × ByteArray × Unit)) : Prop :=
  l = [] ∨ ∃ b o, a = some ⟨b, o, none⟩ ∧ ∀ (i : Nat) x, l[i]? = some x →
    w.cell? ⟨b, o + i * 2, none⟩ = some (.bool x.1) ∧ w.cell? ⟨b, o + i * 2 + 1, none⟩ = some (.string x.2.1)

theorem arg_opS {w : World} {l : List (Bool × ByteArray × Unit)} {v : Value} (h : Sh.Arg w (.row opsSh) l v) :
    ∃ a cap, v = .slice a l.length cap ∧ RowOpS w a l ∧ l.length ≤ cap ∧ cap ≤ maxLen := by
  obtain ⟨a, cap, hv, hl, hm, _, hr⟩ := h
  simp only [List.cons.injEq, and_true] at hv
  refine ⟨a, cap, hv, ?_, hl, hm⟩
  rcases hr with hr | ⟨b, o, rfl, hr⟩
  · exact .inl hr
  · refine .inr ⟨b, o, rfl, fun i x hx => ?_⟩
    obtain ⟨r, h1, _, hc⟩ := hr i x hx
    obtain ⟨c1, c2, rfl, hb, c3, c4, rfl, ⟨rfl, h2⟩, h5⟩ := h1
    have h6 : c4 = [] := h5
    subst h6
    have hb' : c1 = [.bool x.1] := hb
    subst hb'
    refine ⟨?_, ?_⟩
    · have := hc 0 _ rfl
      simp [Sh.size] at this
      exact this
    · have := hc 1 _ rfl
      simpa [Sh.size] using this

theorem rplays_many (a : Option Addr) (len cap : Nat) (r : Int) (w : World) (h100 : 100 < len) (hm : len ≤ maxLen) :
    Calls Try.prog 10 #[.int .i64 r, .slice a len cap] w fun e w' => e = .returned (.bool true) ∧ Mod [] w w' := by
  unfold maxLen at hm
  go_enter Try.func10, Try.ntmps10
  go_wp2_with fail
  refine (RingS.new_ r _).mono ?_
  rintro e w1 ⟨p, d, rfl, h1, hp, hd, m1⟩
  go_wp2_with fail
  refine (awake03 _).mono ?_
  rintro e w2 ⟨rfl, m2⟩
  go_wp2
  go_ret
  exact ⟨rfl, m1.trans m2⟩

open RingS in
set_option maxRecDepth 100000 in
set_option maxHeartbeats 1000000 in
theorem rplays_few (a : Option Addr) (l : List (Bool × ByteArray × Unit)) (cap : Nat) (r : Int) (w : World) (hz : RowOpS w a l) (h100 : l.length ≤ 100) (hr0 : -9223372036854775808 ≤ r) (hr1 : r ≤ 9223372036854775807) (hsm : ∀ x ∈ l, x.2.1.size ≤ 140737488355328) :
    Calls Try.prog 10 #[.int .i64 r, .slice a l.length cap] w fun e w' => e = .returned (.bool true) ∧ Mod [] w w' := by
  obtain ⟨room, hroom⟩ : ∃ n, holds r = n := ⟨_, rfl⟩
  have HR := hid hroom
  clear hroom
  go_enter Try.func10, Try.ntmps10
  go_wp2_with fail
  refine (RingS.new_ r _).mono ?_
  rintro e w1 ⟨p, d, rfl, h1, hp, hd, m1⟩
  rw [HR.out] at h1
  have hpl : p < w1.heap.size := by obtain ⟨arr, f, hc, _⟩ := h1; exact Blk.lt hc.box
  have hdl : d < w1.heap.size := by obtain ⟨arr, f, hc, _⟩ := h1; exact Blk.lt hc.row
  go_wp2_with fail
  go_loopw [34, 6] (fun i v wr => ∃ (k : Nat) (L : List ByteArray) (ax : Option Addr) (cx : Nat), k ≤ l.length ∧ i = .int .i64 k ∧ v = .slice ax L.length cx ∧ RowS wr w1.heap.size ax L ∧ L.length ≤ cx ∧ cx ≤ maxLen ∧ RingS.At wr p d room L ∧ (∀ t ∈ L, t.size ≤ 140737488355328) ∧ w1.heap.size ≤ wr.heap.size ∧ Mod [] w wr) (fun i _ _ => l.length - (intOf i).toNat)
  case atStart => exact ⟨0, [], none, 0, by omega, rfl, rfl, .inl rfl, by simp, by decide, h1, by simp, Nat.le_refl _, m1⟩
  case round =>
    clear h1 m1
    obtain ⟨k, L, ax, cx, hk, rfl, rfl, hx, hxc, hxm, hR, hLs, hsz, hm⟩ := hrel
    have hle := hR.le
    by_cases hlt : k < l.length
    · obtain ⟨⟨out, s, u⟩, hzk⟩ : ∃ z, l[k]? = some z := ⟨l[k], by simp [hlt]⟩
      rcases hz with rfl | ⟨b, off, rfl, hcell⟩
      · simp at hlt
      obtain ⟨q0, q1⟩ := hcell k _ hzk
      dsimp only at q0 q1
      have c0 := hm.cell q0 (by simp)
      have c1 := hm.cell q1 (by simp)
      have hss := hsm _ (List.mem_of_getElem? hzk)
      dsimp only at hss
      clear q0 q1 hcell hzk
      have mA := (Mod.refl [] wr).alloc (.cells #[.bool out, .string s] 72 (0, 0))
      have hBA := Blk.new wr 72 [.bool out, .string s]
      have hmA := hm.trans mA
      have hRA := hR.mod mA (by simp) (by simp)
      have hxA := hx.mod mA (by simp)
      have hszA : w1.heap.size ≤ (wr.alloc (.cells #[.bool out, .string s] 72 (0, 0))).heap.size := by simp; omega
      have hnb : w1.heap.size ≤ wr.heap.size := hsz
      clear mA hR hx
      go_upto_region 8 with (fail)
      clear c0 c1 hm hsz
      generalize wr.alloc (.cells #[.bool out, .string s] 72 (0, 0)) = WA at *
      generalize wr.heap.size = nb at *
      have hcB0 := Blk.cell hBA (i := 0) rfl
      have hcB1 := Blk.cell hBA (i := 1) rfl
      go_upto_if 39 with (fail)
      go_cut [6] (fun v w2 => ∃ (L2 : List ByteArray) (a2 : Option Addr) (c2 : Nat), v = .slice a2 L2.length c2 ∧ RowS w2 w1.heap.size a2 L2 ∧ L2.length ≤ c2 ∧ c2 ≤ maxLen ∧ RingS.At w2 p d room L2 ∧ (∀ t ∈ L2, t.size ≤ 140737488355328) ∧ w1.heap.size ≤ w2.heap.size ∧ Mod [] w w2)
      case first =>
        cases out with
        | true =>
          cases L with
          | nil =>
            go_wp2_with fail
            refine (refTake_nil ax cx _).mono ?_
            rintro e wz ⟨rfl, rfl⟩
            go_wp2_with fail
            refine (take_empty p d room _ hRA).mono ?_
            rintro e w2 ⟨rfl, h2, m2⟩
            go_wp2_with fail
            go_meet
            case rel => exact ⟨[], ax, cx, rfl, .inl rfl, hxc, hxm, h2, by simp, Nat.le_trans hszA m2.size, hmA.trans m2⟩
          | cons s0 L' =>
            go_wp2_with fail
            refine (refTake_cons ax _ cx w1.heap.size s0 L' _ hxA rfl hxc hxm).mono ?_
            rintro e wz ⟨a', c', rfl, hx', hxc', hxm', nq, rfl⟩
            have hRA' : RingS.At (WA.drewN nq) p d room (s0 :: L') := hRA.mod ((Mod.refl [] WA).drewN nq) (by simp) (by simp)
            have hmA' := hmA.drewN nq
            have hszA' : w1.heap.size ≤ (WA.drewN nq).heap.size := hszA
            go_wp2_with fail
            refine (take_cons p d room s0 L' _ hRA').mono ?_
            rintro e w2 ⟨rfl, h2, m2⟩
            go_wp2_with fail
            go_meet
            case rel => exact ⟨L', a', c', rfl, hx'.mod m2 (by simp; omega), hxc', hxm', h2, (fun t ht => hLs t (List.mem_cons_of_mem _ ht)), Nat.le_trans hszA' m2.size, hmA'.step m2 (by simp <;> omega)⟩
        | false =>
          by_cases hfull : room ≤ L.length
          · go_wp2_with fail
            refine (refPut_full ax L.length cx r s _ hr0 hr1 room HR.out (by omega) (by omega)).mono ?_
            rintro e wz ⟨rfl, rfl⟩
            go_wp2_with fail
            refine (put_no p d room L s _ hRA (by omega)).mono ?_
            rintro e w2 ⟨rfl, h2, m2⟩
            clear hfull
            go_wp2_with fail
            go_meet
            case rel => exact ⟨L, ax, cx, rfl, hxA.mod m2 (by simp), hxc, hxm, h2, hLs, Nat.le_trans hszA m2.size, hmA.trans m2⟩
          · go_wp2_with fail
            refine (refPut_room ax L L.length cx w1.heap.size r s _ hxA rfl hr0 hr1 room HR.out (by omega) (by omega)).mono ?_
            rintro e wz ⟨v2, rfl, hown, mz⟩
            obtain ⟨a', c', rfl, hx', hxc', hxm'⟩ := owns_strs hown
            have hRA' := hRA.mod mz (by simp) (by simp)
            have hBZ := mz.blk hBA (by simp)
            have hz0 := Blk.cell hBZ (i := 0) rfl
            have hz1 := Blk.cell hBZ (i := 1) rfl
            have hmA' := hmA.trans mz
            have hszA' := Nat.le_trans hszA mz.size
            have hx2 : RowS wz w1.heap.size a' (L ++ [s]) := by
              rcases hx' with h | ⟨b, o, h1, h2, h3⟩
              · exact .inl h
              · exact .inr ⟨b, o, h1, by omega, h3⟩
            go_wp2_with fail
            refine (put_yes p d room L s _ hRA' (by omega)).mono ?_
            rintro e w2 ⟨rfl, h2, m2⟩
            go_wp2_with fail
            go_meet
            case rel => exact ⟨L ++ [s], a', c', by simp, hx2.mod m2 (by simp; omega), hxc', hxm', h2, (fun t ht => (List.mem_append.1 ht).elim (hLs t) (fun h => by simp at h; subst h; exact hss)), Nat.le_trans hszA' m2.size, hmA'.step m2 (by simp <;> omega)⟩
      case rest =>
        clear hxA hRA hmA hBA hcB0 hcB1 hszA hxc hxm hle
        obtain ⟨L2, a2, c2, rfl, hx2, hxc2, hxm2, hR2, hL2s, hsz2, hm2⟩ := hcut
        have hle2 := hR2.le
        go_wp2_with fail
        refine (all_ p d room L2 _ hR2).mono ?_
        rintro e wD ⟨vo, rfl, hownO, mD⟩
        obtain ⟨ao, co, rfl, hxO, hcO, hmO⟩ := owns_strs hownO
        have hRD := hR2.mod mD (by simp) (by simp)
        obtain ⟨q, hq⟩ : ∃ q, room - L2.length = q := ⟨_, rfl⟩
        have hq2 : (q : Int) = (room : Int) - (L2.length : Int) := by omega
        have hq3 := fun w => refRoom r w hr0 hr1 room HR.out
        go_wp2_with fail
        refine (len_ p d room L2 _ hRD _ rfl).mono ?_
        rintro e wz ⟨rfl, rfl⟩
        go_wp2_with fail
        refine (room_ p d room L2 _ hRD q hq).mono ?_
        rintro e wz ⟨rfl, nq, rfl⟩
        go_wp2_with fail
        refine (hq3 _).mono ?_
        rintro e wz ⟨rfl, rfl⟩
        go_wp2_with fail
        have hownW : Owns (wD.drewN nq) wc.heap.size 9 (.slice ao L2.length co) (strs L2) := hownO.mod0 ((Mod.refl [] wD).drewN nq)
        have mW := mD.drewN nq
        have hlx : (strs L2).length = L2.length := by simp [strs]
        have HLX := hid hlx
        clear hq hq2 hq3 hlx hownO mD hRD hxO
        go_loopw [101] (fun i wr => ∃ (j : Nat) (xs : List Value), j ≤ L2.length ∧ i = .int .i64 j ∧ Owns wr wc.heap.size 9 (.slice ao L2.length co) xs ∧ xs.length = L2.length ∧ (∀ m, j ≤ m → xs[m]? = (strs L2)[m]?) ∧ Mod [] wc wr) (fun i _ => L2.length - (intOf i).toNat)
        case atStart => exact ⟨0, strs L2, by omega, rfl, hownW, HLX.out, fun _ _ => rfl, mW⟩
        case round =>
          clear hownW mW
          obtain ⟨j, xs, hj, rfl, hown, hxl, hxs, m⟩ := hrel
          by_cases hjlt : j < L2.length
          · obtain ⟨s0, hs0⟩ : ∃ s0, L2[j]? = some s0 := ⟨L2[j], by simp [hjlt]⟩
            have hxj : xs[j]? = some (.string s0) := by rw [hxs j (Nat.le_refl _)]; simp [strs, hs0]
            rcases hx2 with h | ⟨b7, o7, rfl, hb7, hc7⟩
            · rw [h] at hjlt; simp at hjlt
            have cx2 := m.cell (hc7 j s0 hs0) (by simp)
            have hxo : RowS wc w1.heap.size (some ⟨b7, o7, none⟩) L2 := .inr ⟨b7, o7, rfl, hb7, hc7⟩
            rcases hown.form with ⟨h, h'⟩ | ⟨g, cg, hv, hg1, hg2, hg3, hg4, hg5, hg6⟩
            · rw [h'] at hxj; simp at hxj
            injection hv with e1 e2 e3
            subst e1 e3
            have cg2 : wr.cell? ⟨g, j, none⟩ = some (.string s0) := hg5 j _ hxj
            have cf2 : wr.frozen? ⟨g, j, none⟩ = false := hg6 j
            have hs0z := hL2s s0 (List.mem_of_getElem? hs0)
            have HXL := hid hxl
            have HXS := hid hxs
            clear e2 hg5 hg6 hxj hxl hxs hs0 hc7
            go_upto_region 24 with (fail)
            refine wp_region_quiet_lit (by kernel_rfl) (by kernel_rfl) ?_
            repeat (go_big_quiet_step ((fail)))
            refine wpQuiet_nil ?_
            intro _ hw'
            obtain ⟨nq, hw''⟩ := hw'
            subst hw''
            go_wp2
            go_round
            case rel => exact ⟨j + 1, xs.set j _, by omega, by go_num, (hown.mod0 ((Mod.refl [] wr).drewN nq)).set j _, by simp; exact HXL.out, fun i hi => by rw [List.getElem?_set_ne (by omega)]; exact HXS.out i (by omega), (m.drewN nq).setCell (fun h => by simp at h; omega) _⟩
            case measure => simp [intOf]; omega
          · go_wp2
            go_round
            case rel => exact ⟨k + 1, L2, a2, c2, by omega, by go_num, rfl, hx2.mod m (by simp), hxc2, hxm2, hR2.mod m (by simp) (by simp), hL2s, Nat.le_trans hsz2 m.size, hm2.trans m⟩
            case measure => simp [intOf]; omega
    · go_wp2_with fail
      refine (awake03 _).mono ?_
      rintro e w3 ⟨rfl, m3⟩
      go_wp2
      go_ret
      exact ⟨rfl, hm.trans m3⟩

theorem law_RingPlays (w : World) (v0 v1 : Value) (x0 : Int) (x1 : List (Bool × ByteArray × Unit)) (h0 : Sh.Arg w (.int .i64) x0 v0) (h1 : Sh.Arg w (.row opsSh) x1 v1) (s1 : ∀ x ∈ x1, Sh.Small opsSh x) :
    Calls Try.prog 10 #[v0, v1] w fun e w' => e = .returned (.bool true) ∧ Mod [] w w' := by
  obtain ⟨rfl, hw0⟩ := h0
  have hx0 := bounds_i64 hw0
  obtain ⟨a, cap, rfl, hz, hle, hcm⟩ := arg_opS h1
  have hsm : ∀ x ∈ x1, x.2.1.size ≤ 140737488355328 := fun x hx => by
    have h : ByteArray.size x.2.1 ≤ reachBytes := (s1 x hx).2.1
    have := reachBytes_lt
    omega
  by_cases h100 : x1.length ≤ 100
  · exact rplays_few a x1 cap x0 w hz h100 (by omega) (by omega) hsm
  · exact rplays_many a x1.length cap x0 w (by omega) (by omega)

end Go.Proofs.Ytlhbfkncdcgocaa
