/- Contracts of layer 9 (mem), more: addresses; the document's search; the example. -/
import Derived.Test.YtekhadlpcdjlpaaMem
namespace Go.Proofs.Ytekhadlpcdjlpaa
namespace Mem
open Go.RowKit
set_option linter.unusedVariables false

theorem row_form {w : World} {base : Nat} {v : Value} {l : List Nat} (h : Owns w base 3 v (nats l)) :
    ∃ a c, v = .slice a l.length c ∧ l.length ≤ c ∧ c ≤ maxLen ∧ ∀ (i n : Nat), l[i]? = some n → ∃ b o, a = some ⟨b, o, none⟩ ∧ w.cell? ⟨b, o + i, none⟩ = some (.int .i64 (n : Int)) := by
  obtain ⟨a, c, hv, hr, hle, hm, _⟩ := h.row
  rw [nats_length] at hv hle
  refine ⟨a, c, hv, hle, hm, fun i n hn => ?_⟩
  rcases hr with h0 | ⟨b, o, rfl, hc⟩
  · have : l = [] := by simpa [nats] using h0
    subst this
    simp at hn
  · exact ⟨b, o, rfl, hc i _ (nats_get hn)⟩

theorem areas_ (base p pc dc : Nat) (vs vb : Value) (ns : List Nat) (ws : List Int) (w : World) (h : MemAt w base p pc dc vs vb ns ws) :
    Calls Try.prog 29 #[.pointer (some ⟨p, 0, none⟩)] w fun e w' => e = .returned (.int .i64 ns.length) ∧ w = w' := by
  have hb1 : w.cell? ⟨p, 1, none⟩ = _ := h.box.cell rfl
  obtain ⟨a, c, rfl, hle, hm, _⟩ := row_form h.own1
  clear h
  go_enter Try.func29, Try.ntmps29
  go_wp2
  go_ret
  exact ⟨rfl, rfl⟩

theorem sum_le_all {ns : List Nat} {k n : Nat} (h : ns[k]? = some n) : (ns.take k).sum + n ≤ ns.sum := by
  rw [← sum_take_succ ns k n h]
  exact sum_take_le ns (k + 1)

set_option maxRecDepth 100000 in
theorem addr_in (base p pc dc : Nat) (vs vb : Value) (ns : List Nat) (ws : List Int) (w : World) (h : MemAt w base p pc dc vs vb ns ws) (k n v i : Nat) (hk : ns[k]? = some n) (hv : v < 4294967296) (hi : v % 4096 = i) (hin : i < n) :
    Calls Try.prog 24 #[.pointer (some ⟨p, 0, none⟩), .int .i64 k, .int .u32 v] w fun e w' => e = .returned (.tuple #[.int .i64 (((ns.take k).sum + i : Nat) : Int), .bool true]) ∧ Mod [] w w' := by
  have hb1 : w.cell? ⟨p, 1, none⟩ = _ := h.box.cell rfl
  have hb2 : w.cell? ⟨p, 2, none⟩ = _ := h.box.cell rfl
  have hkl : k < ns.length := (List.getElem?_eq_some_iff.1 hk).1
  obtain ⟨a, c, rfl, hle, hm, hrow⟩ := row_form h.own1
  obtain ⟨a2, c2, rfl, hle2, hm2, hrow2⟩ := row_form h.own2
  rw [begins_length] at hb2 hle2
  obtain ⟨b, o, rfl, hc⟩ := hrow k n hk
  obtain ⟨b2, o2, rfl, hc2⟩ := hrow2 k _ (begins_get ns k hkl)
  have hsum := sum_le_all hk
  have hs2 := h.sum
  have h8 := h.few
  have hidx := fun w' => index_ v w' hv
  rw [hi] at hidx
  have hcast : (((ns.take k).sum + i : Nat) : Int) = ((ns.take k).sum : Int) + (i : Int) := by omega
  have HC := hid hcast
  have hlt : decide ((n : Int) ≤ (i : Int)) = false := by simp; omega
  generalize (ns.take k).sum = bk at *
  clear hrow hrow2 hk hi h hcast
  go_enter Try.func24, Try.ntmps24
  go_wp2_with fail
  go_quiet ((go_at_call 85; exact calls_same (hidx _)))
  go_wp2_with fail
  go_quiet ((go_at_call 85; first | exact calls_same (hidx _) | exact calls_same2 (hidx _)))
  go_wp2_with fail
  go_ret2
  exact ⟨by rw [HC.out]; rfl, ((Mod.refl _ _).drewN _).drewN _⟩

set_option maxRecDepth 100000 in
theorem addr_out (base p pc dc : Nat) (vs vb : Value) (ns : List Nat) (ws : List Int) (w : World) (h : MemAt w base p pc dc vs vb ns ws) (area : Int) (v : Nat) (hv : v < 4294967296)
    (ho : area < 0 ∨ ns.length ≤ area ∨ ∃ k n : Nat, area = k ∧ ns[k]? = some n ∧ n ≤ v % 4096) :
    Calls Try.prog 24 #[.pointer (some ⟨p, 0, none⟩), .int .i64 area, .int .u32 v] w fun e w' => e = .returned (.tuple #[.int .i64 0, .bool false]) ∧ Mod [] w w' := by
  have hb1 : w.cell? ⟨p, 1, none⟩ = _ := h.box.cell rfl
  obtain ⟨a, c, rfl, hle, hm, hrow⟩ := row_form h.own1
  have hidx := fun w' => index_ v w' hv
  have h8 := h.few
  by_cases h1 : area < 0
  · have hlt : decide (area < 0) = true := by simpa using h1
    clear ho h1 h hrow
    go_enter Try.func24, Try.ntmps24
    go_wp2_with fail
    go_quiet (fail)
    go_wp2_with fail
    go_ret2
    exact ⟨rfl, (Mod.refl _ _).drewN _⟩
  · have h0 : 0 ≤ area := by omega
    have hlt : decide (area < 0) = false := by simpa using h0
    by_cases h2 : (ns.length : Int) ≤ area
    · have hlt2 : decide ((ns.length : Int) ≤ area) = true := by simpa using h2
      clear ho h1 h hrow h0
      go_enter Try.func24, Try.ntmps24
      go_wp2_with fail
      go_quiet (fail)
      go_wp2_with fail
      go_ret2
      exact ⟨rfl, (Mod.refl _ _).drewN _⟩
    · obtain ⟨k, n, rfl, hk, hn⟩ : ∃ k n : Nat, area = k ∧ ns[k]? = some n ∧ n ≤ v % 4096 := by
        rcases ho with h | h | h
        · exact absurd h h1
        · exact absurd h h2
        · exact h
      obtain ⟨b, o, rfl, hc⟩ := hrow k n hk
      obtain ⟨i, hi⟩ : ∃ i, v % 4096 = i := ⟨_, rfl⟩
      rw [hi] at hn
      have hidx := fun w' => index_ v w' hv
      rw [hi] at hidx
      have hkl : k < ns.length := (List.getElem?_eq_some_iff.1 hk).1
      have hlt3 : decide (n ≤ i) = true := by simpa using hn
      have hlt4 : decide (ns.length ≤ k) = false := by simpa using hkl
      clear hrow hk hi h h1 h2 h0 hlt
      go_enter Try.func24, Try.ntmps24
      go_wp2_with fail
      go_quiet ((go_at_call 85; exact calls_same (hidx _)))
      go_wp2_with fail
      go_ret2
      exact ⟨rfl, (Mod.refl _ _).drewN _⟩

/-- Where an address lies. -/
def AreaIs (ns : List Nat) (x : Int) (e : Ending) : Prop :=
  (∃ k n i : Nat, ns[k]? = some n ∧ i < n ∧ x = ((ns.take k).sum + i : Nat) ∧ e = .returned (.tuple #[.int .i64 k, .int .i64 i, .bool true])) ∨
  ((x < 0 ∨ ns.sum ≤ x) ∧ e = .returned (.tuple #[.int .i64 0, .int .i64 0, .bool false]))

theorem area_ (base p pc dc : Nat) (vs vb : Value) (ns : List Nat) (ws : List Int) (w : World) (h : MemAt w base p pc dc vs vb ns ws) (x : Int) (hx : -9223372036854775808 ≤ x ∧ x ≤ 9223372036854775807) :
    Calls Try.prog 28 #[.pointer (some ⟨p, 0, none⟩), .int .i64 x] w fun e w' => AreaIs ns x e ∧ w = w' := by
  have hb1 : w.cell? ⟨p, 1, none⟩ = _ := h.box.cell rfl
  have hb2 : w.cell? ⟨p, 2, none⟩ = _ := h.box.cell rfl
  obtain ⟨a, c, rfl, hle, hm, hrow⟩ := row_form h.own1
  obtain ⟨a2, c2, rfl, hle2, hm2, hrow2⟩ := row_form h.own2
  rw [begins_length] at hb2 hle2
  have h8 := h.few
  have hsum := h.sum
  have hxl : x < 0 ∨ 0 ≤ x := by omega
  clear h
  go_enter Try.func28, Try.ntmps28
  go_wp2_with fail
  go_loop [15] (fun i => ∃ j : Nat, j ≤ ns.length ∧ i = .int .i64 j ∧ (x < 0 ∨ ((ns.take j).sum : Int) ≤ x)) (fun i => ns.length - (intOf i).toNat)
  case atStart => exact ⟨0, by omega, rfl, by simpa using hxl⟩
  case round =>
    obtain ⟨j, hj, rfl, hjx⟩ := hrel
    by_cases hlt : j < ns.length
    · obtain ⟨n, hn⟩ : ∃ n, ns[j]? = some n := ⟨_, List.getElem?_eq_getElem hlt⟩
      obtain ⟨b, o, rfl, hc⟩ := hrow j n hn
      obtain ⟨b2, o2, rfl, hc2⟩ := hrow2 j _ (begins_get ns j hlt)
      have hs := sum_le_all hn
      have hst := sum_take_succ ns j n hn
      have HST := hid hst
      have HN := hid hn
      clear hst hn
      have HJ := hid hjx
      clear hjx hrow hrow2 hxl
      generalize hbk : (ns.take j).sum = bk at *
      have HBK := hid hbk
      clear hbk
      by_cases h0 : x < 0
      · have d0 : decide (0 ≤ x) = false := by simp; omega
        go_wp2_with fail
        go_round
        case rel => exact ⟨j + 1, by omega, by go_num, .inl h0⟩
        case measure => simp [intOf]; omega
      · have hge : (bk : Int) ≤ x := by have := HJ.out; omega
        have d0 : decide (0 ≤ x) = true := by simp; omega
        have d1 : decide (0 ≤ x - (bk : Int)) = true := by simp; omega
        by_cases h1 : x - bk < n
        · obtain ⟨i, hi⟩ : ∃ i : Nat, x - bk = i := ⟨(x - bk).toNat, by omega⟩
          have hin : i < n := by omega
          have hxe : x = ((bk + i : Nat) : Int) := by omega
          have HX := hid hxe
          clear hxe
          go_wp2_with fail
          go_ret3
          exact ⟨.inl ⟨j, n, i, HN.out, hin, by rw [HBK.out]; exact HX.out, rfl⟩, rfl⟩
        · have d2 : decide (x - (bk : Int) < (n : Int)) = false := by simp; omega
          go_wp2_with fail
          go_round
          case rel => exact ⟨j + 1, by omega, by go_num, .inr (by rw [HST.out]; omega)⟩
          case measure => simp [intOf]; omega
    · have hj' : j = ns.length := by omega
      subst hj'
      rw [List.take_length] at hjx
      have HJ := hid hjx
      clear hjx hrow hrow2
      go_wp2_with fail
      go_ret3
      exact ⟨.inr ⟨HJ.out, rfl⟩, rfl⟩

/-- The first of a row that is x. -/
def FindIs (L : List (Int × Int)) (x : Int × Int) (e : Ending) : Prop :=
  (∃ a : Nat, L[a]? = some x ∧ (∀ j : Nat, j < a → L[j]? ≠ some x) ∧ e = .returned (.int .i64 a)) ∨ ((∀ j : Nat, L[j]? ≠ some x) ∧ e = .returned (.int .i64 (-1)))

set_option maxRecDepth 100000 in
theorem find_ (base : Nat) (vl : Value) (L : List (Int × Int)) (area : Int) (v : Nat) (w : World) (hown : w.ownsRow base 37 2 vl L.length (flat2 L)) (hL : L.length ≤ 100000) (hv : v < 4294967296) :
    Calls Try.prog 27 #[vl, .int .i64 area, .int .u32 v] w fun e w' => FindIs L (area, ((v % 4096 : Nat) : Int)) e ∧ Mod [] w w' := by
  obtain ⟨ax, cx, rfl, hle, hm, hrow⟩ := ownsRow_form hown
  obtain ⟨i, hi⟩ : ∃ i, v % 4096 = i := ⟨_, rfl⟩
  rw [hi]
  have hi2 : (v : Int) % 4096 = (i : Int) := by omega
  clear hown hi
  go_enter Try.func27, Try.ntmps27
  go_wp2_with fail
  go_loopw [11] (fun q wr => ∃ j : Nat, j ≤ L.length ∧ q = .int .i64 j ∧ (∀ r, r < j → L[r]? ≠ some (area, (i : Int))) ∧ Mod [] w wr) (fun q _ => L.length - (intOf q).toNat)
  case atStart => exact ⟨0, by omega, rfl, by intro r h; omega, Mod.refl _ _⟩
  case round =>
    obtain ⟨j, hj, rfl, hno, hmd⟩ := hrel
    have HN := hid hno
    clear hno
    by_cases hlt : j < L.length
    · obtain ⟨⟨c1, c2⟩, hc⟩ : ∃ c, L[j]? = some c := ⟨_, List.getElem?_eq_getElem hlt⟩
      rcases hrow with h0 | ⟨g, rfl, hcell⟩
      · omega
      have hg := flat2_get L j _ hc
      have q1 := hmd.cell (hcell _ _ hg.1) (by simp)
      have q2 := hmd.cell (hcell _ _ hg.2) (by simp)
      dsimp only at q1 q2
      have HC := hid hc
      clear hcell hg hc
      by_cases h1 : c1 = area
      · by_cases h2 : c2 = (i : Int)
        · subst h1 h2
          go_wp2_with fail
          go_ret
          exact ⟨.inl ⟨j, HC.out, HN.out, rfl⟩, hmd.alloc _⟩
        · have d1 : (c1 == area) = true := by simpa using h1
          have d2 : (c2 == (i : Int)) = false := by simpa using h2
          have HNE := hid h2
          clear h1 h2
          go_wp2_with fail
          go_roundw
          case rel => exact ⟨j + 1, by omega, by go_num, fun r hr => by
            by_cases hrj : r = j
            · subst hrj
              rw [HC.out]
              intro e
              injection e with e
              exact HNE.out (by simpa using congrArg Prod.snd e)
            · exact HN.out r (by omega), hmd.alloc _⟩
          case measure => simp [intOf]; omega
      · have d1 : (c1 == area) = false := by simpa using h1
        have HNE := hid h1
        clear h1
        go_wp2_with fail
        go_roundw
        case rel => exact ⟨j + 1, by omega, by go_num, fun r hr => by
          by_cases hrj : r = j
          · subst hrj
            rw [HC.out]
            intro e
            injection e with e
            exact HNE.out (by simpa using congrArg Prod.fst e)
          · exact HN.out r (by omega), hmd.alloc _⟩
        case measure => simp [intOf]; omega
    · have hj' : j = L.length := by omega
      subst hj'
      go_wp2_with fail
      go_ret
      refine ⟨.inr ⟨fun r => ?_, rfl⟩, hmd⟩
      by_cases hr : r < L.length
      · exact HN.out r hr
      · rw [List.getElem?_eq_none (by omega)]
        simp

theorem MemAt.base {w : World} {base base' p pc dc : Nat} {vs vb : Value} {ns : List Nat} {ws : List Int} (h : MemAt w base p pc dc vs vb ns ws) (hb : base' ≤ base) : MemAt w base' p pc dc vs vb ns ws :=
  ⟨h.box, h.cells, h.own1.base hb, h.own2.base hb, h.len, h.few, h.small, h.sum, by have := h.hp; omega, h.nd⟩

theorem rowV_blk {w : World} {b : Nat} {t : TypeId} {l : List Value} (h : Blk w b t l) : RowV w (some ⟨b, 0, none⟩) l :=
  .inr ⟨b, 0, rfl, fun i x hx => by rw [Nat.zero_add]; exact h.cell hx⟩

set_option maxRecDepth 100000 in
theorem awake09 (w : World) : Calls Try.prog 22 #[] w fun e w' => e = .returned (.bool true) ∧ Mod [] w w' := by
  have hB1 : Blk ((w.alloc (.cells #[.int .i64 1, .int .i64 3] 3 (0, 0))).alloc (.cells #[.int .u32 4, .int .u32 5, .int .u32 6, .int .u32 7] 35 (0, 0))) w.heap.size 3 (ints [1, 3]) := Blk.alloc (Blk.new w 3 (ints [1, 3])) _
  have hB2 : Blk ((w.alloc (.cells #[.int .i64 1, .int .i64 3] 3 (0, 0))).alloc (.cells #[.int .u32 4, .int .u32 5, .int .u32 6, .int .u32 7] 35 (0, 0))) (w.heap.size + 1) 35 (u32s [4, 5, 6, 7]) := by
    have := Blk.new (w.alloc (.cells #[.int .i64 1, .int .i64 3] 3 (0, 0))) 35 (u32s [4, 5, 6, 7])
    simp only [World.size_alloc] at this
    exact this
  have m0 := ((Mod.refl [] w).alloc (.cells #[.int .i64 1, .int .i64 3] 3 (0, 0))).alloc (.cells #[.int .u32 4, .int .u32 5, .int .u32 6, .int .u32 7] 35 (0, 0))
  have hfine : Fine [1, 3] [1, 3] := ⟨by simp, fun i n h => by
    match i with
    | 0 => simp at h ⊢; omega
    | 1 => simp at h ⊢; omega
    | i + 2 => simp at h, by simp⟩
  have hnew := memnew_few _ _ [1, 3] [1, 3] 2 4 4 [4, 5, 6, 7] _ (rowV_blk hB1) (by simp) hfine (by decide) rfl (by decide) (rowV_blk hB2)
  go_enter Try.func22, Try.ntmps22
  go_wp2_with fail
  refine hnew.mono ?_
  rintro e w1 ⟨m1, hres⟩
  rw [if_pos (by decide)] at hres
  obtain ⟨p, pc, dc, vs, vb, rfl, hM⟩ := hres
  have hp0 : w1.cell? ⟨p, 0, none⟩ = _ := hM.box.cell rfl
  clear hnew
  go_wp2_with fail
  refine (addr_in _ p pc dc vs vb [1, 3] _ _ hM 1 3 2 2 rfl (by decide) rfl (by decide)).mono ?_
  rintro e w2 ⟨rfl, m2⟩
  have hM2 := hM.mod (S := []) m2 (by simp)
  clear hp0
  go_wp2_with fail
  refine (addr_in _ p pc dc vs vb [1, 3] _ _ hM2 1 3 4098 2 rfl (by decide) rfl (by decide)).mono ?_
  rintro e w3 ⟨rfl, m3⟩
  have hM3 := hM2.mod (S := []) m3 (by simp)
  go_wp2_with fail
  refine (addr_out _ p pc dc vs vb [1, 3] _ _ hM3 1 3 (by decide) (.inr (.inr ⟨1, 3, rfl, rfl, by decide⟩))).mono ?_
  rintro e w4 ⟨rfl, m4⟩
  have hM4 := hM3.mod (S := []) m4 (by simp)
  have hp0 : w4.cell? ⟨p, 0, none⟩ = _ := hM4.box.cell rfl
  go_wp2_with fail
  refine (cells_load pc dc 3 _ 7 _ hM4.cells rfl (by decide)).mono ?_
  rintro e w5 ⟨rfl, rfl⟩
  go_wp2
  go_ret
  exact ⟨rfl, (((m0.trans m1).trans m2).trans m3).trans m4⟩

end Mem
end Go.Proofs.Ytekhadlpcdjlpaa
