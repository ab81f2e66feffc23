/- Contracts of layer 9 (mem), and of its document's answer. -/
import Derived.Test.YtekhadlpcdjlpaaChecked
import Derived.Test.YtekhadlpcdjlpaaCellM
import Derived.Test.YtekhadlpcdjlpaaMemP
import Derived.Test.YtekhadlpcdjlpaaApp
import Derived.Test.YtekhadlpcdjlpaaLex2
import Derived.Test.YtekhadlpcdjlpaaRegion
import Derived.WalkSpells
import Derived.Laws.BitsAllLaws
import Derived.Lib.SliceRun
import Derived.BigQuiet
import Derived.Deep.QuietTactic
import Derived.Deep.DeepCutAuto
namespace Go.Proofs.Ytekhadlpcdjlpaa
namespace Mem
open Go.RowKit
set_option linter.unusedVariables false

theorem index_ (h : Nat) (w : World) (hh : h < 4294967296) :
    Calls Try.prog 85 #[.int .u32 h] w fun e w' => e = .returned (.int .i64 ((h % 4096 : Nat) : Int)) ∧ w = w' := by
  have hb : bits .and .u32 (h : Int) 4095 = ((h % 4096 : Nat) : Int) := by
    have e := u32_and_nat h 4095 hh (by decide)
    rw [show (4095 : Nat) = 2 ^ 12 - 1 from rfl, Nat.and_two_pow_sub_one_eq_mod] at e
    exact e
  go_enter Try.func85, Try.ntmps85
  go_wp2
  go_ret
  exact ⟨rfl, rfl⟩

def ints (l : List Int) : List Value := l.map (Value.int .i64)
def nats (l : List Nat) : List Value := l.map fun (n : Nat) => Value.int .i64 (n : Int)
theorem nats_length (l : List Nat) : (nats l).length = l.length := by simp [nats]
theorem nats_get {l : List Nat} {i n : Nat} (h : l[i]? = some n) : (nats l)[i]? = some (.int .i64 (n : Int)) := by simp [nats, h]
theorem nats_one (l : List Nat) : ∀ u ∈ nats l, u.oneCell' = true := fun u hu => by obtain ⟨z, _, rfl⟩ := List.mem_map.1 hu; rfl
theorem info_int : (Try.prog.info? 3).map (fun i => (i.zero, i.size, i.bytes)) = some (some (.int .i64 0), 1, 8) := by kernel_rfl
theorem info_cell : (Try.prog.info? 37).map (fun i => (i.zero, i.size, i.bytes)) = some (some (.agg #[.int .i64 0, .int .i64 0]), 2, 16) := by kernel_rfl

/-- A copy. -/
def CopyIs (w : World) (xs : List Value) (e : Ending) (w' : World) : Prop := ∃ v, e = .returned v ∧ Owns w' w.heap.size 3 v xs ∧ Mod [] w w'

theorem clone_ (a : Option Addr) (n cap : Nat) (xs : List Value) (w : World) (hn : xs.length = n) (hm : n ≤ 100000) (hr : RowV w a xs) (ho : ∀ u ∈ xs, u.oneCell' = true) (h0 : a = none → n = 0) :
    Calls Try.prog 83 #[.slice a n cap] w (CopyIs w xs) := by
  have heq := fun (w : World) (a : Option Addr) (n c : Nat) => Lib.run_eql_slice_nil (P := Try.prog) w 22 3 a n c 0 0 Try.underlying22
  cases a with
  | none =>
    have hx : xs = [] := List.length_eq_zero_iff.1 (by rw [hn]; exact h0 rfl)
    clear hn h0 hr ho
    subst hx
    go_enter Try.func83, Try.ntmps83
    go_wp2
    go_ret
    exact ⟨_, rfl, Owns.nil _ _ _, Mod.refl _ _⟩
  | some ad =>
    have mA : Mod [] w (w.alloc (.cells #[] 3 (0, 0))) := (Mod.refl [] w).alloc _
    have hB : Blk (w.alloc (.cells #[] 3 (0, 0))) w.heap.size 3 [] := Blk.new w 3 []
    have hown := Owns.of_blk hB (by decide) (Nat.le_refl _)
    have hrA := hr.mod0 mA
    obtain ⟨i0, hi, hz0, hz1, hz2⟩ := info_parts info_int
    obtain ⟨v', wA, hrun, hown', hgr⟩ := run_append_row (P := Try.prog) (w.alloc (.cells #[] 3 (0, 0))) w.heap.size 22 22 3 i0 (.int .i64 0) 8 Try.underlying22 hi hz0 hz1 hz2 rfl _ _ hown (some ad) xs n cap hn hrA ho (by simp [maxLen]; omega) (by simp; omega) (by simp)
    have hm' : Mod [] w wA := mA.grown hgr (fun k hk hlt => by simp [Value.ownBlock] at hk; omega)
    simp only [List.nil_append] at hown'
    clear hi hz0 hz1 hz2 hn h0 hr ho hrA hgr hown hB mA
    go_enter Try.func83, Try.ntmps83
    go_wp2_with (at_builtin; refine wpList_append_run rfl _ _ _ _ rfl _ _ rfl rfl _ _ hrun ?_)
    go_ret
    exact ⟨_, rfl, hown', hm'⟩

/-- Sizes, as far as they may be: the areas ns; behind them, if there is one, one that may not be. -/
structure Fine (sizes : List Int) (ns : List Nat) : Prop where
  le : ns.length ≤ sizes.length
  get : ∀ (i n : Nat), ns[i]? = some n → sizes[i]? = some (n : Int) ∧ n ≤ 4096
  bad : ∀ s, sizes[ns.length]? = some s → s < 0 ∨ 4096 < s

theorem fine_of (sizes : List Int) : ∃ ns, Fine sizes ns := by
  induction sizes with
  | nil => exact ⟨[], by simp, by simp, by simp⟩
  | cons s l ih =>
    by_cases h : s < 0 ∨ 4096 < s
    · exact ⟨[], by simp, by simp, fun x hx => by simp at hx; subst hx; exact h⟩
    · obtain ⟨ns, h1, h2, h3⟩ := ih
      refine ⟨s.toNat :: ns, by simpa using h1, fun i n hi => ?_, fun x hx => h3 x (by simpa using hx)⟩
      cases i with
      | zero => simp at hi ⊢; omega
      | succ i => simpa using h2 i n (by simpa using hi)

theorem Fine.sum_le {sizes : List Int} {ns : List Nat} (h : Fine sizes ns) (h8 : sizes.length ≤ 8) (k : Nat) : (ns.take k).sum ≤ 32768 := by
  have h1 : ∀ (l : List Nat), (∀ x ∈ l, x ≤ 4096) → l.sum ≤ l.length * 4096 := by
    intro l
    induction l with
    | nil => simp
    | cons x l ih => intro hx; have := ih (fun y hy => hx y (List.mem_cons_of_mem _ hy)); have := hx x (List.mem_cons_self ..); simp; omega
  have h2 := h1 (ns.take k) (fun x hx => by
    obtain ⟨i, hi⟩ := List.getElem?_of_mem (List.mem_of_mem_take hx)
    exact (h.get i x hi).2)
  have h3 : (ns.take k).length ≤ 8 := by have := h.le; simp; omega
  omega

/-- What the document's answer tells of sizes. -/
def CellsIs (w : World) (sizes : List Int) (ns : List Nat) (e : Ending) (w' : World) : Prop :=
  Mod [] w w' ∧ if sizes.length = ns.length ∧ sizes.length ≤ 8 then ∃ v, e = .returned (.tuple #[v, .bool (decide (ns.sum ≤ 8192))]) ∧ w'.ownsRow w.heap.size 37 2 v ns.sum (flat2 (cells ns))
    else e = .returned (.tuple #[.slice none 0 0, .bool false])

theorem refcells_many (a : Option Addr) (sizes : List Int) (ns : List Nat) (cap : Nat) (w : World) (h8 : 8 < sizes.length) (hm : sizes.length ≤ maxLen) :
    Calls Try.prog 21 #[.slice a sizes.length cap] w (CellsIs w sizes ns) := by
  unfold maxLen at hm
  go_enter Try.func21, Try.ntmps21
  go_wp2
  go_ret2
  exact ⟨Mod.refl _ _, by rw [if_neg (by omega)]; rfl⟩

theorem flat2_append (l m : List (Int × Int)) : flat2 (l ++ m) = flat2 l ++ flat2 m := by simp [flat2]

/-- Half way. -/
structure Half (w wr : World) (v : Value) (L : List (Int × Int)) : Prop where
  own : wr.ownsRow w.heap.size 37 2 v L.length (flat2 L)
  mod : Mod [] w wr

set_option maxRecDepth 100000 in
theorem refcells_few (a : Option Addr) (sizes : List Int) (ns : List Nat) (cap : Nat) (w : World) (hz : RowV w a (ints sizes)) (hf : Fine sizes ns) (h8 : sizes.length ≤ 8) :
    Calls Try.prog 21 #[.slice a sizes.length cap] w (CellsIs w sizes ns) := by
  go_enter Try.func21, Try.ntmps21
  go_wp2_with fail
  go_loopw [13, 4] (fun i v wr => ∃ k : Nat, k ≤ ns.length ∧ i = .int .i64 k ∧ Half w wr v (cells (ns.take k))) (fun i _ _ => sizes.length - (intOf i).toNat)
  case atStart => exact ⟨0, by omega, rfl, ⟨by simp [cells, cellsFrom, flat2]; exact World.ownsRow_nil _ _ _ _, Mod.refl _ _⟩⟩
  case round =>
    obtain ⟨k, hk, rfl, hH⟩ := hrel
    have hle := hf.le
    by_cases hlt : k < sizes.length
    · obtain ⟨s, hs⟩ : ∃ s, sizes[k]? = some s := ⟨_, List.getElem?_eq_getElem hlt⟩
      rcases hz with h0 | ⟨b, o, rfl, hcell⟩
      · have := congrArg List.length h0
        simp [ints] at this
        subst this
        simp at hlt
      have hck := hH.mod.cell (hcell k (.int .i64 s) (by simp [ints, hs])) (by simp)
      by_cases hkn : k < ns.length
      · obtain ⟨n, hn⟩ : ∃ n, ns[k]? = some n := ⟨_, List.getElem?_eq_getElem hkn⟩
        obtain ⟨hs2, hn2⟩ := hf.get k n hn
        obtain rfl : s = (n : Int) := by rw [hs] at hs2; injection hs2
        have hsum := hf.sum_le h8 (k + 1)
        rw [sum_take_succ ns k n hn] at hsum
        have hH1 : Half w wr u4 (cells (ns.take k) ++ area k 0) := by simpa [area] using hH
        have hsn : cells (ns.take (k + 1)) = cells (ns.take k) ++ area k n := by
          rw [List.take_add_one, hn, Option.toList_some, cells_snoc]
          congr 2
          simp; omega
        have hcl := cells_length (ns.take k)
        have HS := hid hsn
        clear hcell hs hs2 hn hH hsn
        go_wp2_with fail
        go_loopw [7, 4] (fun i v wx => ∃ j : Nat, j ≤ n ∧ i = .int .i64 j ∧ Half w wx v (cells (ns.take k) ++ area k j)) (fun i _ _ => n - (intOf i).toNat)
        case atStart => exact ⟨0, by omega, rfl, hH1⟩
        case round =>
          clear hH1 hck
          obtain ⟨j, hj, rfl, hH⟩ := hrel
          by_cases hjn : j < n
          · obtain ⟨i0, hi, hz0, hz1, hz2⟩ := info_parts info_cell
            have hll : (cells (ns.take k) ++ area k j).length = (ns.take k).sum + j := by rw [List.length_append, hcl, area_length]
            obtain ⟨v', wA, hrun, hown', hmA, hbA, hgA⟩ := append_elem (P := Try.prog) wr w.heap.size 23 23 37 i0 (.agg #[.int .i64 0, .int .i64 0]) 2 16 Try.underlying23 hi hz0 hz1 hz2 rfl (by decide)
              hH.own [.int .i64 k, .int .i64 j] rfl (by simp [Value.oneCell']) (by rw [hll]; simp [maxLen]; omega) (by rw [hll]; omega) hH.mod.size
            have hm' := hmA _ _ hH.mod (Nat.le_refl _)
            have hown2 : wA.ownsRow w.heap.size 37 2 v' (cells (ns.take k) ++ area k (j + 1)).length (flat2 (cells (ns.take k) ++ area k (j + 1))) := by
              rw [area_succ, ← List.append_assoc, flat2_append, List.length_append, List.length_singleton]
              exact hown'
            clear hi hz0 hz1 hz2 hll hmA hbA hgA hown' hcl
            go_wp2_with (at_builtin; refine wpList_append_run rfl _ _ _ _ rfl _ _ rfl rfl _ _ hrun ?_)
            go_round
            case rel => exact ⟨j + 1, by omega, by go_num, ⟨hown2, hm'⟩⟩
            case measure => simp [intOf]; omega
          · have hj' : j = n := by omega
            subst hj'
            clear hcl
            go_wp2_with fail
            go_round
            case rel => exact ⟨k + 1, by omega, by go_num, by rw [HS.out]; exact hH⟩
            case measure => simp [intOf]; omega
      · have hk' : k = ns.length := by omega
        subst hk'
        have hbad := hf.bad s hs
        have hm := hH.mod
        have HB := hid hf
        clear hcell hs hH hf
        rcases hbad with hb | hb
        · go_wp2
          go_ret2
          exact ⟨hm, by rw [if_neg (by omega)]; rfl⟩
        · have hb2 : ¬ s < 0 := by omega
          go_wp2
          go_ret2
          exact ⟨hm, by rw [if_neg (by omega)]; rfl⟩
    · have hk' : k = ns.length := by omega
      have hl2 : sizes.length = ns.length := by omega
      subst hk'
      rw [List.take_length] at hH
      have hcl := cells_length ns
      have hsum := hf.sum_le h8 ns.length
      rw [List.take_length] at hsum
      have hown := hH.own
      rw [hcl] at hown
      obtain ⟨ax, cx, hv, hlc, hcm, _⟩ := ownsRow_form hown
      subst hv
      have hm := hH.mod
      have HL := hid hl2
      clear hcl hl2 hH hf hz
      go_wp2
      go_ret2
      exact ⟨hm, by rw [if_pos ⟨HL.out, h8⟩]; exact ⟨_, by simp; omega, hown⟩⟩

def u32s (l : List Int) : List Value := l.map (Value.int .u32)

/-- A memory: the struct's block p; its cells at pc, dc; its sizes and begins are rows of its own, in blocks from base on. -/
structure MemAt (w : World) (base p pc dc : Nat) (vs vb : Value) (ns : List Nat) (ws : List Int) : Prop where
  box : Blk w p 34 [.pointer (some ⟨pc, 0, none⟩), vs, vb]
  cells : CellsAt w pc dc ws
  own1 : Owns w base 3 vs (nats ns)
  own2 : Owns w base 3 vb (nats (begins ns))
  len : ws.length = ns.sum
  few : ns.length ≤ 8
  small : ∀ (i n : Nat), ns[i]? = some n → n ≤ 4096
  sum : ns.sum ≤ 8192
  hp : base ≤ p ∧ base ≤ pc ∧ base ≤ dc
  nd : p ≠ dc ∧ vs.ownBlock ≠ some dc ∧ vb.ownBlock ≠ some dc

theorem MemAt.mod {w w' : World} {base p pc dc : Nat} {vs vb : Value} {ns : List Nat} {ws : List Int} {S : List Nat} (h : MemAt w base p pc dc vs vb ns ws) (m : Mod S w w') (hS : ∀ b, b ∈ S → b < base) : MemAt w' base p pc dc vs vb ns ws := by
  have h1 := h.hp
  have hn : ∀ b, base ≤ b → b ∉ S := fun b hb hm => by have := hS b hm; omega
  exact ⟨m.blk h.box (hn _ h1.1), h.cells.mod m (hn _ h1.2.1) (hn _ h1.2.2), h.own1.mod m (fun b hb e => hn b (h.own1.lt e).1 hb), h.own2.mod m (fun b hb e => hn b (h.own2.lt e).1 hb), h.len, h.few, h.small, h.sum, h.hp, h.nd⟩

theorem MemAt.store {w w' : World} {base p pc dc : Nat} {vs vb : Value} {ns : List Nat} {ws ws' : List Int} (h : MemAt w base p pc dc vs vb ns ws) (hc : CellsAt w' pc dc ws') (hl : ws'.length = ws.length) (m : Mod [dc] w w') : MemAt w' base p pc dc vs vb ns ws' :=
  ⟨m.blk h.box (by simpa using h.nd.1), hc, h.own1.mod m (fun b hb e => h.nd.2.1 (by simp at hb; rw [e, hb])), h.own2.mod m (fun b hb e => h.nd.2.2 (by simp at hb; rw [e, hb])), by rw [hl]; exact h.len, h.few, h.small, h.sum, h.hp, h.nd⟩

/-- What becomes of New. -/
def NewIs (w : World) (sizes : List Int) (ns : List Nat) (init : List Int) (e : Ending) (w' : World) : Prop :=
  Mod [] w w' ∧ if sizes.length = ns.length ∧ ns.length ≤ 8 ∧ ns.sum ≤ 8192 ∧ init.length = ns.sum then ∃ p pc dc vs vb, e = .returned (.tuple #[.pointer (some ⟨p, 0, none⟩), .int .i64 0]) ∧ MemAt w' w.heap.size p pc dc vs vb ns init
    else e = .returned (.tuple #[.pointer none, .int .i64 1])

theorem memnew_many (a a2 : Option Addr) (sizes : List Int) (ns : List Nat) (cap n2 cap2 : Nat) (init : List Int) (w : World) (h8 : 8 < sizes.length) (hm : sizes.length ≤ maxLen) :
    Calls Try.prog 23 #[.slice a sizes.length cap, .slice a2 n2 cap2] w (NewIs w sizes ns init) := by
  unfold maxLen at hm
  go_enter Try.func23, Try.ntmps23
  go_wp2
  go_ret2
  exact ⟨Mod.refl _ _, by rw [if_neg (by omega)]; rfl⟩

/-- Half made. -/
structure Half2 (w w1 wr : World) (vs vb : Value) (ns : List Nat) (sizes : List Int) : Prop where
  box : Blk wr w1.heap.size 34 [.pointer none, vs, vb]
  own1 : Owns wr w.heap.size 3 vs (ints sizes)
  own2 : Owns wr (w1.heap.size + 1) 3 vb (nats (begins ns))
  mod : Mod [] w wr

set_option maxRecDepth 100000 in
theorem memnew_few (a a2 : Option Addr) (sizes : List Int) (ns : List Nat) (cap n2 cap2 : Nat) (init : List Int) (w : World) (hz : RowV w a (ints sizes)) (h0 : a = none → sizes.length = 0) (hf : Fine sizes ns) (h8 : sizes.length ≤ 8)
    (hi2 : init.length = n2) (hm2 : n2 ≤ 100000) (hz2 : RowV w a2 (u32s init)) :
    Calls Try.prog 23 #[.slice a sizes.length cap, .slice a2 n2 cap2] w (NewIs w sizes ns init) := by
  have hclone := clone_ a sizes.length cap (ints sizes) w (by simp [ints]) (by omega) hz (fun u hu => by obtain ⟨z, _, rfl⟩ := List.mem_map.1 hu; rfl) h0
  have HI := hid hi2
  clear h0 hi2
  go_enter Try.func23, Try.ntmps23
  go_wp2_with fail
  refine hclone.mono ?_
  rintro e w1 ⟨vs, rfl, ho1, m1⟩
  clear hclone
  obtain ⟨ax, cs, hvs, _⟩ := ho1.row
  rw [show (ints sizes).length = sizes.length by simp [ints]] at hvs
  subst hvs
  have hvsl : ∀ b, (Value.slice ax sizes.length cs).ownBlock = some b → b < w1.heap.size := fun b hb => (ho1.lt hb).2
  have HVS := hid hvsl
  clear hvsl
  go_wp2_with fail
  have hw1 := m1.size
  go_loopw [23, 7] (fun i n wr => ∃ (k : Nat) (vb : Value), k ≤ ns.length ∧ i = .int .i64 k ∧ n = .int .i64 ((ns.take k).sum) ∧ Half2 w w1 wr (.slice ax sizes.length cs) vb (ns.take k) sizes) (fun i _ _ => sizes.length - (intOf i).toNat)
  case atStart => exact ⟨0, .slice none 0 0, by omega, rfl, rfl, ⟨Blk.new w1 _ [.pointer none, .slice ax sizes.length cs, .slice none 0 0], ho1.mod0 ((Mod.refl [] w1).alloc _), Owns.nil _ _ _, m1.alloc _⟩⟩
  case round =>
    clear ho1 m1
    obtain ⟨k, vb, hk, rfl, rfl, hH⟩ := hrel
    have hle := hf.le
    by_cases hlt : k < sizes.length
    · obtain ⟨s, hs⟩ : ∃ s, sizes[k]? = some s := ⟨_, List.getElem?_eq_getElem hlt⟩
      rcases hz with hz0 | ⟨b, o, rfl, hcell⟩
      · have := congrArg List.length hz0
        simp [ints] at this
        subst this
        simp at hlt
      have hck := hH.mod.cell (hcell k (.int .i64 s) (by simp [ints, hs])) (by simp)
      by_cases hkn : k < ns.length
      · obtain ⟨n, hn⟩ : ∃ n, ns[k]? = some n := ⟨_, List.getElem?_eq_getElem hkn⟩
        obtain ⟨hs2, hn2⟩ := hf.get k n hn
        obtain rfl : s = (n : Int) := by rw [hs] at hs2; injection hs2
        have hsum := hf.sum_le h8 (k + 1)
        have hst := sum_take_succ ns k n hn
        rw [hst] at hsum
        have htk : ns.take (k + 1) = ns.take k ++ [n] := by rw [List.take_add_one, hn]; rfl
        have hb0 : wr.cell? ⟨w1.heap.size, 2, none⟩ = some vb := hH.box.cell rfl
        have hf0 := hH.box.free 2
        have HST := hid hst
        have HTK := hid htk
        clear hcell hs hs2 hn hst htk
        have hnl : (nats (begins (ns.take k))).length = k := by simp [nats, begins]; omega
        obtain ⟨i0, hi, hz0, hz1, hz2⟩ := info_parts info_int
        obtain ⟨a', c', wA, hrun, hown', hmA, hvA⟩ := append_one2 (P := Try.prog) wr (w1.heap.size + 1) 22 22 3 i0 (.int .i64 0) 8 Try.underlying22 hi hz0 hz1 hz2 rfl hH.own2 (.int .i64 ((ns.take k).sum : Int)) rfl (by rw [hnl]; simp [maxLen]; omega) (by rw [hnl]; omega) (by have := hH.box.lt; omega)
        have hmB := hmA _ _ hH.mod (by omega)
        have hBB := hvA.blk hH.box (fun hm => by have := (hH.own2.lt (b := w1.heap.size) (by simpa using hm)).1; omega)
        have hoB := hH.own1.mod hvA (fun b hb e => by have := (hH.own2.lt (b := b) (by simpa using hb)).1; have := HVS.out b e; omega)
        rw [hnl] at hrun hown'
        have hb2 : wA.cell? ⟨w1.heap.size, 2, none⟩ = some vb := hBB.cell rfl
        have hf2 := hBB.free 2
        clear hi hz0 hz1 hz2 hmA hvA hf0 hnl
        go_wp2_with (at_builtin; refine wpList_append_run rfl _ _ _ _ rfl _ _ rfl rfl _ _ hrun ?_)
        go_roundw
        case rel =>
          have mS : Mod [w1.heap.size] wA (wA.setCell ⟨w1.heap.size, 2, none⟩ (.slice a' (k + 1) c')) := (Mod.refl _ _).setCell (by simp) _
          refine ⟨k + 1, .slice a' (k + 1) c', by omega, by go_num, by rw [HST.out]; go_num, ⟨hBB.set 2 _, hoB.mod mS (fun b hb e => by have := HVS.out b e; simp at hb; omega), ?_, hmB.setCell (by simp; omega) _⟩⟩
          rw [HTK.out, begins_snoc]
          have := hown'.mod mS (fun b hb e => by have := (hown'.lt e).1; simp at hb; omega)
          simpa [nats] using this
        case measure => simp [intOf]; omega
      · have hk' : k = ns.length := by omega
        subst hk'
        have hbad := hf.bad s hs
        have hm := hH.mod
        clear hcell hs hH hf
        rcases hbad with hb | hb
        · go_wp2
          go_ret2
          exact ⟨hm, by rw [if_neg (by omega)]; rfl⟩
        · have hb2 : ¬ s < 0 := by omega
          go_wp2
          go_ret2
          exact ⟨hm, by rw [if_neg (by omega)]; rfl⟩
    · have hk' : k = ns.length := by omega
      have hl2 : sizes.length = ns.length := by omega
      subst hk'
      rw [List.take_length] at hH ⊢
      have hsum := hf.sum_le h8 ns.length
      rw [List.take_length] at hsum
      have HL := hid hl2
      have HF := hid hf
      clear hf hl2
      by_cases hs : ns.sum ≤ 8192
      · by_cases hil : init.length = ns.sum
        · have hn2s : n2 = ns.sum := by rw [← HI.out]; exact hil
          have hnew := cells_new ns.sum hs wr
          have HN := hid hn2s
          clear hil
          subst hn2s
          have HI2 := hid HI.out
          clear HI
          go_wp2_with fail
          refine hnew.mono ?_
          rintro e w2 ⟨pc, dc, rfl, hcl, hpc, hdc, m2⟩
          clear hnew
          have hpl := hH.box.lt
          have hbx := m2.blk hH.box (by simp)
          have ho1 := hH.own1.mod0 m2
          have ho2 := hH.own2.mod0 m2
          have hm := hH.mod.trans m2
          have hl1 := fun b hb => (hH.own1.lt (b := b) hb).2
          have hl2 := fun b hb => (hH.own2.lt (b := b) hb).2
          have H1 := hid hl1
          have H2 := hid hl2
          clear hl1 hl2 hH
          go_wp2_with fail
          go_loopw [62] (fun i wx => ∃ (j : Nat), j ≤ ns.sum ∧ i = .int .i64 j ∧ CellsAt wx pc dc (init.take j ++ List.replicate (ns.sum - j) 0) ∧ Mod [dc] w2 wx) (fun i _ => ns.sum - (intOf i).toNat)
          case atStart => exact ⟨0, by omega, rfl, by simpa using hcl, Mod.refl _ _⟩
          case round =>
            clear hcl
            obtain ⟨j, hj, rfl, hC, hmj⟩ := hrel
            by_cases hjn : j < ns.sum
            · obtain ⟨x, hx⟩ : ∃ x, init[j]? = some x := ⟨_, List.getElem?_eq_getElem (by rw [HI2.out]; exact hjn)⟩
              rcases hz2 with hz0 | ⟨b, o, rfl, hcell⟩
              · have := congrArg List.length hz0
                simp only [u32s, List.length_map, List.length_nil] at this
                rw [HI2.out] at this
                omega
              have hcw := hcell j (.int .u32 x) (by simp [u32s, hx])
              have hbw : b < w.heap.size := cell_lt hcw
              have hcj := hmj.cell (hm.cell hcw (by simp)) (by simp; omega)
              obtain ⟨hat, hset⟩ := fill_next (0 : Int) init ns.sum j x HI2.out hx
              have hst := cells_store pc dc j _ 0 x wr hC hat (by simp; omega)
              rw [hset] at hst
              clear hcell hcw hat hset hx
              go_wp2_with fail
              refine hst.mono ?_
              rintro e w3 ⟨rfl, hC3, m3⟩
              go_wp2
              go_roundw
              case rel => exact ⟨j + 1, by omega, by go_num, hC3, hmj.trans m3⟩
              case measure => simp [intOf]; omega
            · have hj' : j = ns.sum := by omega
              subst hj'
              rw [Nat.sub_self, List.replicate_zero, List.append_nil, List.take_of_length_le (by rw [HI2.out]; omega)] at hC
              have hbw := hmj.blk hbx (by simp; omega)
              have hb0 : wr.cell? ⟨w1.heap.size, 0, none⟩ = _ := hbw.cell rfl
              have hf0 := hbw.free 0
              clear hz hz2
              go_wp2_with fail
              go_ret2
              have mS : Mod [w1.heap.size] wr (wr.setCell ⟨w1.heap.size, 0, none⟩ (.pointer (some ⟨pc, 0, none⟩))) := (Mod.refl _ _).setCell (by simp) _
              have hm2' := m2.size
              refine ⟨(hm.step hmj (by simp; omega)).setCell (by simp; omega) _, ?_⟩
              rw [if_pos ⟨HL.out, by have := HL.out; omega, hs, HI2.out⟩]
              refine ⟨w1.heap.size, pc, dc, .slice ax sizes.length cs, vb, rfl, ⟨hbw.set 0 _, hC.mod mS (by simp; omega) (by simp; omega), ?_, ?_, HI2.out, by have := HL.out; omega, fun i n hn => (HF.out.get i n hn).2, hs, by omega, by omega, ?_, ?_⟩⟩
              · have e : ints sizes = nats ns := by
                  apply List.ext_getElem?
                  intro i
                  by_cases hi : i < ns.length
                  · obtain ⟨n, hn⟩ : ∃ n, ns[i]? = some n := ⟨_, List.getElem?_eq_getElem hi⟩
                    simp [ints, nats, (HF.out.get i n hn).1, hn]
                  · rw [List.getElem?_eq_none (by simp [ints]; have := HL.out; omega), List.getElem?_eq_none (by simp [nats]; omega)]
                rw [← e]
                exact (ho1.mod hmj (fun b hb e => by have := H1.out b e; simp at hb; omega)).mod mS (fun b hb e => by have := HVS.out b e; simp at hb; omega)
              · exact ((ho2.mod hmj (fun b hb e => by have := H2.out b e; simp at hb; omega)).mod mS (fun b hb e => by have := (ho2.lt e).1; simp at hb; omega)).base (by omega)
              · intro e; have := HVS.out _ e; omega
              · intro e; have := H2.out _ e; omega
        · have hne : ((ns.sum : Int) != (n2 : Int)) = true := by have := HI.out; simp; omega
          have hnew := cells_new ns.sum hs wr
          have HN := hid hil
          have hm := hH.mod
          clear hil hH
          go_wp2_with fail
          refine hnew.mono ?_
          rintro e w2 ⟨pc, dc, rfl, hcl, hpc, hdc, m2⟩
          clear hnew
          go_wp2_with fail
          go_ret2
          exact ⟨hm.trans m2, by rw [if_neg (fun h => HN.out h.2.2.2)]; rfl⟩
      · have hnew := cells_new_bad ns.sum (by omega) wr
        have HN := hid hs
        have hm := hH.mod
        clear hs hH
        go_wp2_with fail
        refine hnew.mono ?_
        rintro e w2 ⟨rfl, rfl⟩
        clear hnew
        go_wp2_with fail
        go_ret2
        exact ⟨hm, by rw [if_neg (fun h => HN.out h.2.2.1)]; rfl⟩

end Mem
end Go.Proofs.Ytekhadlpcdjlpaa
