/- The walk of the statement MemAddress. -/
import Derived.Test.YtekhadlpcdjlpaaMem3
import Derived.Laws.StructEq
namespace Go.Proofs.Ytekhadlpcdjlpaa
namespace Mem
open Go.RowKit
set_option linter.unusedVariables false

abbrev askSh : Sh := .pair (.row (.int .i64)) (.pair (.int .i64) (.pair (.int .u32) (.pair (.int .i64) .unit)))

theorem row_of {w : World} {l : List Int} {c : List Value} (h : Sh.Reads w (.row (.int .i64)) l c) :
    ∃ a cap, c = [.slice a l.length cap] ∧ RowV w a (ints l) ∧ (a = none → l.length = 0) ∧ l.length ≤ cap ∧ cap ≤ maxLen := by
  obtain ⟨a, cap, hv, hl, hm, hn, hr⟩ := h
  refine ⟨a, cap, hv, ?_, fun h => by have h1 := hn h; subst h1; exact Nat.le_zero.1 hl, hl, hm⟩
  rcases hr with hr | ⟨b, o, rfl, hr⟩
  · have : l = [] := hr
    subst this
    exact .inl rfl
  · refine .inr ⟨b, o, rfl, fun i x hx => ?_⟩
    obtain ⟨z, hz, rfl⟩ : ∃ z, l[i]? = some z ∧ x = .int .i64 z := by
      simp only [ints, List.getElem?_map, Option.map_eq_some_iff] at hx
      obtain ⟨z, h1, h2⟩ := hx
      exact ⟨z, h1, h2.symm⟩
    obtain ⟨r, ⟨rfl, _⟩, _, hc⟩ := hr i z hz
    have := hc 0 (.int .i64 z) (by simp)
    simpa [Sh.size] using this

theorem arg_ask {w : World} {x : askSh.Val} {v : Value} (h : Sh.Arg w askSh x v) :
    ∃ a cap, v = .agg #[.slice a (List.length x.1) cap, .int .i64 x.2.1, .int .u32 x.2.2.1, .int .i64 x.2.2.2.1] ∧ RowV w a (ints x.1) ∧ (a = none → List.length x.1 = 0) ∧ List.length x.1 ≤ maxLen ∧
      (Lit.int .i64 x.2.1).wf = true ∧ (Lit.int .u32 x.2.2.1).wf = true ∧ (Lit.int .i64 x.2.2.2.1).wf = true := by
  obtain ⟨cs, rfl, c1, c2, hcs, hr, c3, c4, rfl, ⟨rfl, h2⟩, c5, c6, rfl, ⟨rfl, h3⟩, c7, c8, rfl, ⟨rfl, h4⟩, h5⟩ := h
  obtain ⟨a, cap, rfl, h6, h7, h8, h9⟩ := row_of hr
  have h10 : c8 = [] := h5
  subst h10
  refine ⟨a, cap, ?_, h6, h7, Nat.le_trans h8 h9, h2, h3, h4⟩
  congr 1
  exact Array.ext' (by rw [hcs]; rfl)

theorem eq_cell (a b : Int) (w : World) : (Op.equalIn 10000 37 (.agg #[.int .i64 a, .int .i64 b]) (.agg #[.int .i64 a, .int .i64 b])).run Try.prog w = .ok true w := by
  rw [show (10000 : Nat) = 9998 + 2 from rfl, run_equalIn_struct w 9999 37 _ _ (by kernel_rfl) (by kernel_rfl)]
  simp [go_sem, Try.underlying37, Try.underlying3]

set_option maxRecDepth 100000 in
theorem address_many (v0 : Value) (a : Option Addr) (len cap : Nat) (area v x : Int) (w : World) (hv : v0 = .agg #[.slice a len cap, .int .i64 area, .int .u32 v, .int .i64 x]) (hl : 20 < len) (hm : len ≤ maxLen) :
    Calls Try.prog 4 #[v0] w fun e w' => e = .returned (.bool true) ∧ Mod [] w w' := by
  subst hv
  unfold maxLen at hm
  go_enter Try.func4, Try.ntmps4
  go_wp2_with fail
  go_quiet (fail)
  go_wp2_with fail
  refine (awake09 _).mono ?_
  rintro e w2 ⟨rfl, m2⟩
  go_wp2
  go_ret
  exact ⟨rfl, (((Mod.refl [] w).alloc _).drewN _).trans m2⟩


set_option maxRecDepth 100000 in
set_option maxHeartbeats 1000000 in
theorem address_few (a : Option Addr) (sizes : List Int) (ns : List Nat) (cap : Nat) (area : Int) (v : Nat) (x : Int) (w : World) (hz : RowV w a (ints sizes)) (h0 : a = none → sizes.length = 0) (hl : sizes.length ≤ 20) (hf : Fine sizes ns)
    (hv : v < 4294967296) (ha : -9223372036854775808 ≤ area ∧ area ≤ 9223372036854775807) (hx : -9223372036854775808 ≤ x ∧ x ≤ 9223372036854775807) :
    Calls Try.prog 4 #[.agg #[.slice a sizes.length cap, .int .i64 area, .int .u32 v, .int .i64 x]] w fun e w' => e = .returned (.bool true) ∧ Mod [] w w' := by
  go_enter Try.func4, Try.ntmps4
  go_wp2_with fail
  go_quiet (fail)
  refine any_world (fun w1 => Mod [] w w1) (((Mod.refl [] w).alloc _).drewN _) ?_
  intro w1 m1
  go_wp2_with fail
  refine (made_ a sizes ns cap 0 w1 (hz.mod0 m1) h0 hf (by simp [maxLen]; omega) (by decide)).mono ?_
  rintro e w2 ⟨m2, hres⟩
  have m12 := m1.trans m2
  clear h0 hz
  rcases hres with ⟨hg, p, pc, dc, vs, vb, vl, rfl, hM, hown⟩ | ⟨hg, vl, rfl⟩
  · obtain ⟨al, cl, rfl, hle, hlm, hcells⟩ := ownsRow_form hown
    have hs := hg.2.2
    by_cases h300 : 300 < ns.sum
    · go_wp2_with fail
      refine (awake09 _).mono ?_
      rintro e w3 ⟨rfl, m3⟩
      go_wp2
      go_ret
      exact ⟨rfl, m12.trans m3⟩
    · have hsum : ns.sum ≤ 300 := by omega
      have HCE := hid hcells
      clear hcells
      by_cases hin : ∃ k n i : Nat, area = k ∧ ns[k]? = some n ∧ v % 4096 = i ∧ i < n
      · obtain ⟨k, n, i, rfl, hk, hi, hin⟩ := hin
        obtain ⟨A, hA⟩ : ∃ A, (ns.take k).sum + i = A := ⟨_, rfl⟩
        have hcA := cells_at ns k n i hk hin
        have haddr := addr_in w1.heap.size p pc dc vs vb ns (words 0 ns.sum) w2 hM k n v i hk hv hi hin
        rw [hA] at hcA haddr
        have HI := hid hi
        clear hA hk hi hin
        go_wp2_with fail
        refine haddr.mono ?_
        rintro e w3 ⟨rfl, m3⟩
        clear haddr
        go_wp2_with fail
        refine (find_ w1.heap.size _ (cells ns) k v w3 (by rw [cells_length]; exact ownsRow_mod hown m3 (by simp)) (by rw [cells_length]; omega) hv).mono ?_
        rintro e w4 ⟨hfind, m4⟩
        have hfA : e = .returned (.int .i64 A) := by
          rcases hfind with ⟨b, hb, _, he⟩ | ⟨hno, _⟩
          · rw [HI.out] at hb
            rw [cells_inj ns A b _ hcA hb]
            exact he
          · exact absurd (by rw [HI.out]; exact hcA) (hno A)
        subst hfA
        clear hfind hcA
        have hA0 : 0 ≤ (A : Int) := by omega
        go_upto_region 13 with (fail)
        refine any_world (fun w5 => Mod [] w2 w5) (m3.trans m4) ?_
        intro w5 m5
        clear m3 m4
        have hM5 := hM.mod (S := []) m5 (by simp)
        go_wp2_with fail
        refine (area_ _ p pc dc vs vb ns _ _ hM5 x hx).mono ?_
        rintro e w6 ⟨hare, rfl⟩
        rcases hare with ⟨k2, n2, i2, hk2, hi2, hxe, rfl⟩ | ⟨hxo, rfl⟩
        · have hcx := cells_at ns k2 n2 i2 hk2 hi2
          have hsx := sum_le_all hk2
          have hxl : x < (ns.sum : Int) := by omega
          have hx0 : 0 ≤ x := by omega
          obtain ⟨X, rfl⟩ : ∃ X : Nat, x = X := ⟨x.toNat, by omega⟩
          rw [show (ns.take k2).sum + i2 = X by omega] at hcx
          have hg2 := flat2_get _ _ _ hcx
          have hXl : X < ns.sum := by omega
          have q : ∃ g, al = some ⟨g, 0, none⟩ ∧ w5.cell? ⟨g, X * 2, none⟩ = some (.int .i64 k2) ∧ w5.cell? ⟨g, X * 2 + 1, none⟩ = some (.int .i64 i2) := by
            rcases HCE.out with h | ⟨g, hal, hce⟩
            · omega
            · exact ⟨g, hal, m5.cell (hce _ _ hg2.1) (by simp), m5.cell (hce _ _ hg2.2) (by simp)⟩
          obtain ⟨g, rfl, q1, q2⟩ := q
          have heq := eq_cell k2 i2
          clear hcx hg2 hxe hk2
          go_wp2_with fail
          refine (awake09 _).mono ?_
          rintro e w7 ⟨rfl, m7⟩
          go_wp2
          go_ret
          exact ⟨rfl, (m12.trans m5).trans m7⟩
        · rcases hxo with hxo | hxo
          · go_wp2_with fail
            refine (awake09 _).mono ?_
            rintro e w7 ⟨rfl, m7⟩
            go_wp2
            go_ret
            exact ⟨rfl, (m12.trans m5).trans m7⟩
          · have hx0 : ¬ x < 0 := by omega
            go_wp2_with fail
            refine (awake09 _).mono ?_
            rintro e w7 ⟨rfl, m7⟩
            go_wp2
            go_ret
            exact ⟨rfl, (m12.trans m5).trans m7⟩
      · have haddr := addr_out w1.heap.size p pc dc vs vb ns (words 0 ns.sum) w2 hM area v hv (by
          by_cases h1 : area < 0
          · exact .inl h1
          · by_cases h2 : (ns.length : Int) ≤ area
            · exact .inr (.inl h2)
            · obtain ⟨k, rfl⟩ : ∃ k : Nat, area = k := ⟨area.toNat, by omega⟩
              obtain ⟨n, hn⟩ : ∃ n, ns[k]? = some n := ⟨_, List.getElem?_eq_getElem (by omega)⟩
              refine .inr (.inr ⟨k, n, rfl, hn, ?_⟩)
              by_cases h3 : n ≤ v % 4096
              · exact h3
              · exact absurd ⟨k, n, _, rfl, hn, rfl, by omega⟩ hin)
        go_wp2_with fail
        refine haddr.mono ?_
        rintro e w3 ⟨rfl, m3⟩
        clear haddr
        go_wp2_with fail
        refine (find_ w1.heap.size _ (cells ns) area v w3 (by rw [cells_length]; exact ownsRow_mod hown m3 (by simp)) (by rw [cells_length]; omega) hv).mono ?_
        rintro e w4 ⟨hfind, m4⟩
        have hfA : e = .returned (.int .i64 (-1)) := by
          rcases hfind with ⟨b, hb, _, he⟩ | ⟨_, he⟩
          · obtain ⟨k, n, i, h1, h2, h3, _⟩ := cells_get ns b _ hb
            have e1 := congrArg Prod.fst h3
            have e2 := congrArg Prod.snd h3
            simp only at e1 e2
            exact absurd ⟨k, n, i, e1, h1, by omega, h2⟩ hin
          · exact he
        subst hfA
        clear hfind hin
        go_upto_region 13 with (fail)
        refine any_world (fun w5 => Mod [] w2 w5) (m3.trans m4) ?_
        intro w5 m5
        clear m3 m4
        have hM5 := hM.mod (S := []) m5 (by simp)
        go_wp2_with fail
        refine (area_ _ p pc dc vs vb ns _ _ hM5 x hx).mono ?_
        rintro e w6 ⟨hare, rfl⟩
        rcases hare with ⟨k2, n2, i2, hk2, hi2, hxe, rfl⟩ | ⟨hxo, rfl⟩
        · have hcx := cells_at ns k2 n2 i2 hk2 hi2
          have hsx := sum_le_all hk2
          have hxl : x < (ns.sum : Int) := by omega
          have hx0 : 0 ≤ x := by omega
          obtain ⟨X, rfl⟩ : ∃ X : Nat, x = X := ⟨x.toNat, by omega⟩
          rw [show (ns.take k2).sum + i2 = X by omega] at hcx
          have hg2 := flat2_get _ _ _ hcx
          have hXl : X < ns.sum := by omega
          have q : ∃ g, al = some ⟨g, 0, none⟩ ∧ w5.cell? ⟨g, X * 2, none⟩ = some (.int .i64 k2) ∧ w5.cell? ⟨g, X * 2 + 1, none⟩ = some (.int .i64 i2) := by
            rcases HCE.out with h | ⟨g, hal, hce⟩
            · omega
            · exact ⟨g, hal, m5.cell (hce _ _ hg2.1) (by simp), m5.cell (hce _ _ hg2.2) (by simp)⟩
          obtain ⟨g, rfl, q1, q2⟩ := q
          have heq := eq_cell k2 i2
          clear hcx hg2 hxe hk2
          go_wp2_with fail
          refine (awake09 _).mono ?_
          rintro e w7 ⟨rfl, m7⟩
          go_wp2
          go_ret
          exact ⟨rfl, (m12.trans m5).trans m7⟩
        · rcases hxo with hxo | hxo
          · go_wp2_with fail
            refine (awake09 _).mono ?_
            rintro e w7 ⟨rfl, m7⟩
            go_wp2
            go_ret
            exact ⟨rfl, (m12.trans m5).trans m7⟩
          · have hx0 : ¬ x < 0 := by omega
            go_wp2_with fail
            refine (awake09 _).mono ?_
            rintro e w7 ⟨rfl, m7⟩
            go_wp2
            go_ret
            exact ⟨rfl, (m12.trans m5).trans m7⟩
  · go_wp2_with fail
    refine (awake09 _).mono ?_
    rintro e w3 ⟨rfl, m3⟩
    go_wp2
    go_ret
    exact ⟨rfl, m12.trans m3⟩

end Mem

theorem law_MemAddress (w : World) (v0 : Value) (x0 : Mem.askSh.Val) (h0 : Sh.Arg w Mem.askSh x0 v0) :
    Calls Try.prog 4 #[v0] w fun e w' => e = .returned (.bool true) ∧ Mod [] w w' := by
  obtain ⟨a, cap, hv, hr, hn, hm, h1, h2, h3⟩ := Mem.arg_ask h0
  have b1 := bounds_i64 h1
  have b2 := bounds_u32 h2
  have b3 := bounds_i64 h3
  obtain ⟨sizes, area, v, x, u⟩ := x0
  dsimp only at hv hr hn hm b1 b2 b3
  by_cases h : 20 < List.length sizes
  · exact Mem.address_many v0 a _ cap _ _ _ w hv h hm
  · subst hv
    obtain ⟨ns, hf⟩ := Mem.fine_of sizes
    obtain ⟨vn, hvn⟩ : ∃ vn : Nat, v = (vn : Int) := ⟨Int.toNat v, (Int.toNat_of_nonneg b2.1).symm⟩
    subst hvn
    exact Mem.address_few a sizes ns cap area vn x w hr hn (Nat.le_of_not_lt h) hf (by omega) b1 b3

end Go.Proofs.Ytekhadlpcdjlpaa
