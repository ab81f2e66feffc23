/- Contracts of layer 4 (permit): channels of one place, each given and taken alone. -/
import Derived.Test.YtekhadlpcdjlpaaChecked
import Derived.Test.YtekhadlpcdjlpaaHeap
import Derived.Test.YtekhadlpcdjlpaaRegion
import Derived.Test.YtekhadlpcdjlpaaLex2
import Derived.Test.YtekhadlpcdjlpaaApp
import Derived.Test.YtekhadlpcdjlpaaChan
import Derived.BigQuiet
import Derived.Deep.QuietTactic
namespace Go.Proofs.Ytekhadlpcdjlpaa
namespace Permit
open Go.RowKit Go.Conc
set_option linter.unusedVariables false

/-- What a thread's channel holds. -/
def holds (bs : List Bool) (i : Nat) : List Value := if bs[i]? = some true then [.int .i64 i] else []

/-- Permits: the struct's block p; the row's block d holds the channels cs; bs: who has one. -/
structure C (w : World) (p d cap : Nat) (cs : List Nat) (bs : List Bool) : Prop where
  box : Blk w p 183 [.slice (some ⟨d, 0, none⟩) cs.length cap]
  row : ∀ (i c : Nat), cs[i]? = some c → w.cell? ⟨d, i, none⟩ = some (.chan (some c))
  len : bs.length = cs.length
  most : cs.length ≤ 64
  chan : ∀ (i c : Nat), cs[i]? = some c → Ch w c (holds bs i)
  nodup : cs.Nodup
  pOut : p ∉ cs
  dOut : d ∉ cs

theorem C.mod {w w' : World} {p d cap : Nat} {cs : List Nat} {bs : List Bool} {S : List Nat} (h : C w p d cap cs bs) (m : Mod S w w') (hp : p ∉ S) (hd : d ∉ S) (hc : ∀ c ∈ cs, c ∉ S) : C w' p d cap cs bs :=
  ⟨m.blk h.box hp, fun i c hi => m.cell (h.row i c hi) hd, h.len, h.most, fun i c hi => (h.chan i c hi).mod m (hc c (List.mem_of_getElem? hi)), h.nodup, h.pOut, h.dOut⟩

theorem C.set {w w' : World} {p d cap : Nat} {cs : List Nat} {bs : List Bool} (h : C w p d cap cs bs) {t c : Nat} (hc : cs[t]? = some c) (b : Bool) (m : Mod [c] w w') (hch : Ch w' c (holds (bs.set t b) t)) : C w' p d cap cs (bs.set t b) := by
  have hp : p ∉ [c] := fun e => h.pOut (by simp at e; subst e; exact List.mem_of_getElem? hc)
  have hd : d ∉ [c] := fun e => h.dOut (by simp at e; subst e; exact List.mem_of_getElem? hc)
  refine ⟨m.blk h.box hp, fun i c hi => m.cell (h.row i c hi) hd, by simp [h.len], h.most, fun i c' hi => ?_, h.nodup, h.pOut, h.dOut⟩
  by_cases hit : i = t
  · subst hit
    obtain rfl : c' = c := by rw [hi] at hc; injection hc
    exact hch
  · have hne : c' ≠ c := by
      intro e
      subst e
      have h1 := (List.getElem?_eq_some_iff.1 hi)
      have h2 := (List.getElem?_eq_some_iff.1 hc)
      obtain ⟨a1, a2⟩ := h1
      obtain ⟨b1, b2⟩ := h2
      exact hit (by
        rcases Nat.lt_trichotomy i t with hlt | heq | hgt
        · exact absurd (a2.trans b2.symm) (List.pairwise_iff_getElem.1 h.nodup i t a1 b1 hlt)
        · exact heq
        · exact absurd (b2.trans a2.symm) (List.pairwise_iff_getElem.1 h.nodup t i b1 a1 hgt))
    have := (h.chan i c' hi).mod m (by simpa using hne)
    unfold holds at this ⊢
    rwa [List.getElem?_set_ne (fun e => hit e.symm)]

theorem set_same {α : Type} {l : List α} {i : Nat} {x : α} (h : l[i]? = some x) : l.set i x = l := by
  apply List.ext_getElem?
  intro j
  by_cases hj : i = j
  · subst hj
    have := (List.getElem?_eq_some_iff.1 h).1
    rw [h]
    simp [this]
  · rw [List.getElem?_set_ne hj]

theorem there_in (p d cap : Nat) (cs : List Nat) (bs : List Bool) (w : World) (h : C w p d cap cs bs) (t : Nat) (ht : t < cs.length) :
    Calls Try.prog 115 #[.pointer (some ⟨p, 0, none⟩), .int .i64 t] w fun e w' => e = .returned (.bool true) ∧ w = w' := by
  have hb0 : w.cell? ⟨p, 0, none⟩ = _ := h.box.cell rfl
  have hm := h.most
  clear h
  go_enter Try.func115, Try.ntmps115
  go_wp2
  go_ret
  exact ⟨rfl, rfl⟩

theorem there_out (p d cap : Nat) (cs : List Nat) (bs : List Bool) (w : World) (h : C w p d cap cs bs) (t : Int) (ht : t < 0 ∨ cs.length ≤ t) :
    Calls Try.prog 115 #[.pointer (some ⟨p, 0, none⟩), .int .i64 t] w fun e w' => e = .returned (.bool false) ∧ w = w' := by
  have hb0 : w.cell? ⟨p, 0, none⟩ = _ := h.box.cell rfl
  have hm := h.most
  clear h
  by_cases h0 : t < 0
  · clear ht
    have h1 : ¬ (0 ≤ t) := by omega
    go_enter Try.func115, Try.ntmps115
    go_wp2
    go_ret
    exact ⟨rfl, rfl⟩
  · have h1 : 0 ≤ t := by omega
    have h2 : decide (t < (cs.length : Int)) = false := by simp; omega
    clear ht h0
    go_enter Try.func115, Try.ntmps115
    go_wp2
    go_ret
    exact ⟨rfl, rfl⟩

theorem give_out (p d cap : Nat) (cs : List Nat) (bs : List Bool) (w : World) (h : C w p d cap cs bs) (t : Int) (ht : t < 0 ∨ cs.length ≤ t) :
    Calls Try.prog 105 #[.pointer (some ⟨p, 0, none⟩), .int .i64 t] w fun e w' => e = .returned (.tuple #[.bool false, .int .i64 4]) ∧ w = w' := by
  have hth := there_out p d cap cs bs w h t ht
  clear ht h
  refine calls_of_wpN Try.func105 rfl ?_
  simp only [Try.ntmps105, List.size_toArray, List.length_cons, List.length_nil, Nat.reduceAdd, Nat.reduceSub, Array.replicate_succ,
     Array.replicate_zero, List.push_toArray, List.append_toArray, List.nil_append, List.cons_append]
  refine wpN_seq (fun K hK => ?_)
  go_wp2_with fail
  refine wpN_seq (fun K hK => ?_)
  go_wp2_with fail
  refine hth.mono ?_
  rintro e w' ⟨rfl, rfl⟩
  go_wp2_with fail
  go_ret2
  exact ⟨rfl, rfl⟩

theorem give_in (p d cap : Nat) (cs : List Nat) (bs : List Bool) (w : World) (h : C w p d cap cs bs) (t : Nat) (ht : t < cs.length) (b : Bool) (hb : bs[t]? = some b) :
    Calls Try.prog 105 #[.pointer (some ⟨p, 0, none⟩), .int .i64 t] w fun e w' => e = .returned (.tuple #[.bool (!b), .int .i64 0]) ∧ C w' p d cap cs (bs.set t true) ∧ Mod cs w w' := by
  have hth := there_in p d cap cs bs w h t ht
  obtain ⟨c, hc⟩ : ∃ c, cs[t]? = some c := ⟨_, List.getElem?_eq_getElem ht⟩
  have hb0 : w.cell? ⟨p, 0, none⟩ = _ := h.box.cell rfl
  have hrow := h.row t c hc
  have hm := h.most
  have hcm := List.mem_of_getElem? hc
  have htb : t < bs.length := by rw [h.len]; exact ht
  obtain ⟨s, r, hch⟩ := h.chan t c hc
  have hlt := heap_lt hch
  refine calls_of_wpN Try.func105 rfl ?_
  simp only [Try.ntmps105, List.size_toArray, List.length_cons, List.length_nil, Nat.reduceAdd, Nat.reduceSub, Array.replicate_succ,
     Array.replicate_zero, List.push_toArray, List.append_toArray, List.nil_append, List.cons_append]
  have HCH := hid hch
  have HC := hid hc
  have HB := hid hb
  clear hch hc hb
  refine wpN_seq (fun K hK => ?_)
  go_wp2_with fail
  refine wpN_seq (fun K hK => ?_)
  go_wp2_with fail
  refine hth.mono ?_
  rintro e w' ⟨rfl, rfl⟩
  go_wp2_with fail
  refine wpN_seq (fun K hK => ?_)
  go_wp2_with fail
  refine wpN_seq' (fun K hK => ?_)
  cases b with
  | false =>
    have hch := HCH.out
    rw [show holds bs t = [] by unfold holds; rw [HB.out]; rfl] at hch
    refine wpN_comm (cases := #[scase c (.int .i64 t) (.int .i64 0)]) (w1 := w) rfl (by simp [go_sem, execOp, scase, Act.eval]) (fun fr cs es hs => step_lone_select_send_room hs hch (by simp)) ?_
    clear hch HCH
    go_wp2_with fail
    go_wp2_with fail
    go_ret2
    have m1 : Mod [c] w (w.setChan c 1 #[.int .i64 t] false (s + 1) r false) := (Mod.refl _ w).setChan (by simp) _ _ _ _ _ _
    refine ⟨rfl, h.set HC.out true m1 ?_, m1.mono (by simpa using fun _ => hcm)⟩
    exact ⟨s + 1, r, by rw [heap_setChan _ _ _ _ _ _ _ _ hlt]; simp [holds, htb]⟩
  | true =>
    have hch := HCH.out
    rw [show holds bs t = [.int .i64 t] by unfold holds; rw [HB.out]; rfl] at hch
    refine wpN_comm (cases := #[scase c (.int .i64 t) (.int .i64 0)]) (w1 := w) rfl (by simp [go_sem, execOp, scase, Act.eval]) (fun fr cs es hs => step_lone_select_send_full hs hch (by simp)) ?_
    clear hch HCH
    go_wp2_with fail
    go_wp2_with fail
    go_ret2
    have e : bs.set t true = bs := set_same HB.out
    exact ⟨rfl, by rw [e]; exact h, Mod.refl _ _⟩

theorem take_out (p d cap : Nat) (cs : List Nat) (bs : List Bool) (w : World) (h : C w p d cap cs bs) (t : Int) (ht : t < 0 ∨ cs.length ≤ t) :
    Calls Try.prog 102 #[.pointer (some ⟨p, 0, none⟩), .int .i64 t] w fun e w' => e = .returned (.tuple #[.bool false, .int .i64 4]) ∧ w = w' := by
  have hth := there_out p d cap cs bs w h t ht
  clear ht h
  refine calls_of_wpN Try.func102 rfl ?_
  simp only [Try.ntmps102, List.size_toArray, List.length_cons, List.length_nil, Nat.reduceAdd, Nat.reduceSub, Array.replicate_succ,
     Array.replicate_zero, List.push_toArray, List.append_toArray, List.nil_append, List.cons_append]
  refine wpN_seq (fun K hK => ?_)
  go_wp2_with fail
  refine wpN_seq (fun K hK => ?_)
  go_wp2_with fail
  refine hth.mono ?_
  rintro e w' ⟨rfl, rfl⟩
  go_wp2_with fail
  go_ret2
  exact ⟨rfl, rfl⟩

theorem take_in (p d cap : Nat) (cs : List Nat) (bs : List Bool) (w : World) (h : C w p d cap cs bs) (t : Nat) (ht : t < cs.length) (b : Bool) (hb : bs[t]? = some b) :
    Calls Try.prog 102 #[.pointer (some ⟨p, 0, none⟩), .int .i64 t] w fun e w' => e = .returned (.tuple #[.bool b, .int .i64 0]) ∧ C w' p d cap cs (bs.set t false) ∧ Mod cs w w' := by
  have hth := there_in p d cap cs bs w h t ht
  obtain ⟨c, hc⟩ : ∃ c, cs[t]? = some c := ⟨_, List.getElem?_eq_getElem ht⟩
  have hb0 : w.cell? ⟨p, 0, none⟩ = _ := h.box.cell rfl
  have hrow := h.row t c hc
  have hm := h.most
  have hcm := List.mem_of_getElem? hc
  have htb : t < bs.length := by rw [h.len]; exact ht
  obtain ⟨s, r, hch⟩ := h.chan t c hc
  have hlt := heap_lt hch
  refine calls_of_wpN Try.func102 rfl ?_
  simp only [Try.ntmps102, List.size_toArray, List.length_cons, List.length_nil, Nat.reduceAdd, Nat.reduceSub, Array.replicate_succ,
     Array.replicate_zero, List.push_toArray, List.append_toArray, List.nil_append, List.cons_append]
  have HCH := hid hch
  have HC := hid hc
  have HB := hid hb
  clear hch hc hb
  refine wpN_seq (fun K hK => ?_)
  go_wp2_with fail
  refine wpN_seq (fun K hK => ?_)
  go_wp2_with fail
  refine hth.mono ?_
  rintro e w' ⟨rfl, rfl⟩
  go_wp2_with fail
  refine wpN_seq (fun K hK => ?_)
  go_wp2_with fail
  refine wpN_seq' (fun K hK => ?_)
  cases b with
  | true =>
    have hch := HCH.out
    rw [show holds bs t = [.int .i64 t] by unfold holds; rw [HB.out]; rfl] at hch
    refine wpN_comm (cases := #[rcase c (.int .i64 0)]) (w1 := w) rfl (by simp [go_sem, execOp, rcase, Act.eval]) (fun fr cs es hs => step_lone_select_recv_buf hs hch (by simp)) ?_
    clear hch HCH
    go_wp2_with fail
    go_wp2_with fail
    go_ret2
    have m1 : Mod [c] w (w.setChan c 1 #[] false s (r + 1) false) := (Mod.refl _ w).setChan (by simp) _ _ _ _ _ _
    refine ⟨rfl, h.set HC.out false m1 ?_, m1.mono (by simpa using fun _ => hcm)⟩
    exact ⟨s, r + 1, by rw [heap_setChan _ _ _ _ _ _ _ _ hlt]; simp [holds, htb]⟩
  | false =>
    have hch := HCH.out
    rw [show holds bs t = [] by unfold holds; rw [HB.out]; rfl] at hch
    refine wpN_comm (cases := #[rcase c (.int .i64 0)]) (w1 := w) rfl (by simp [go_sem, execOp, rcase, Act.eval]) (fun fr cs es hs => step_lone_select_default hs hch) ?_
    clear hch HCH
    go_wp2_with fail
    go_wp2_with fail
    go_ret2
    have e : bs.set t false = bs := set_same HB.out
    exact ⟨rfl, by rw [e]; exact h, Mod.refl _ _⟩

theorem has_out (p d cap : Nat) (cs : List Nat) (bs : List Bool) (w : World) (h : C w p d cap cs bs) (t : Int) (ht : t < 0 ∨ cs.length ≤ t) :
    Calls Try.prog 101 #[.pointer (some ⟨p, 0, none⟩), .int .i64 t] w fun e w' => e = .returned (.bool false) ∧ w = w' := by
  have hth := there_out p d cap cs bs w h t ht
  clear ht h
  go_enter Try.func101, Try.ntmps101
  go_wp2_with fail
  refine hth.mono ?_
  rintro e w' ⟨rfl, rfl⟩
  go_wp2
  go_ret
  exact ⟨rfl, rfl⟩

theorem has_in (p d cap : Nat) (cs : List Nat) (bs : List Bool) (w : World) (h : C w p d cap cs bs) (t : Nat) (ht : t < cs.length) (b : Bool) (hb : bs[t]? = some b) :
    Calls Try.prog 101 #[.pointer (some ⟨p, 0, none⟩), .int .i64 t] w fun e w' => e = .returned (.bool b) ∧ w = w' := by
  have hth := there_in p d cap cs bs w h t ht
  obtain ⟨c, hc⟩ : ∃ c, cs[t]? = some c := ⟨_, List.getElem?_eq_getElem ht⟩
  have hb0 : w.cell? ⟨p, 0, none⟩ = _ := h.box.cell rfl
  have hrow := h.row t c hc
  have hm := h.most
  obtain ⟨s, r, hch⟩ := h.chan t c hc
  cases b with
  | true =>
    rw [show holds bs t = [.int .i64 t] by unfold holds; rw [hb]; rfl] at hch
    have hlen := fun ty => run_len_chan (P := Try.prog) 184 ty Try.underlying184 hch
    clear hc hb hch h
    go_enter Try.func101, Try.ntmps101
    go_wp2_with fail
    refine hth.mono ?_
    rintro e w' ⟨rfl, rfl⟩
    go_wp2
    go_ret
    exact ⟨rfl, rfl⟩
  | false =>
    rw [show holds bs t = [] by unfold holds; rw [hb]; rfl] at hch
    have hlen := fun ty => run_len_chan (P := Try.prog) 184 ty Try.underlying184 hch
    clear hc hb hch h
    go_enter Try.func101, Try.ntmps101
    go_wp2_with fail
    refine hth.mono ?_
    rintro e w' ⟨rfl, rfl⟩
    go_wp2
    go_ret
    exact ⟨rfl, rfl⟩

theorem new_out (n : Int) (w : World) (hn : n < 1 ∨ 64 < n) :
    Calls Try.prog 100 #[.int .i64 n] w fun e w' => e = .returned (.tuple #[.pointer none, .int .i64 1]) ∧ w = w' := by
  by_cases h1 : n < 1
  · clear hn
    go_enter Try.func100, Try.ntmps100
    go_wp2
    go_ret2
    exact ⟨rfl, rfl⟩
  · have h2 : 64 < n := by omega
    have h3 : 1 ≤ n := by omega
    clear hn h1
    go_enter Try.func100, Try.ntmps100
    go_wp2
    go_ret2
    exact ⟨rfl, rfl⟩

theorem bytes_int : ∃ i, Try.prog.info? 3 = some i ∧ i.bytes = 8 := by
  have h : (Try.prog.info? 3).map (·.bytes) = some 8 := by kernel_rfl
  obtain ⟨i, hi, hb⟩ := Option.map_eq_some_iff.1 h
  exact ⟨i, hi, hb⟩
theorem mk_chan (w : World) : (Instr.makeChan 184 (.int .i64 1)).run Try.prog w = .ok (.chan (some w.heap.size)) (w.alloc (.chan 1 #[] false 0 0 false)) := by
  obtain ⟨i, hi, hb⟩ := bytes_int
  simpa using run_makeChan (P := Try.prog) (w := w) Try.underlying184 hi .i64 1 (by omega) (by rw [hb]; omega)
theorem info_chan : (Try.prog.info? 184).map (fun i => (i.zero, i.size, i.bytes)) = some (some (.chan none), 1, 8) := by kernel_rfl

def chans (cs : List Nat) : List Value := cs.map fun c => .chan (some c)

theorem not_chan {w : World} {base : Nat} {e : TypeId} {v : Value} {xs : List Value} (h : Owns w base e v xs) {c : Nat} {buf : List Value} (hc : Ch w c buf) : v.ownBlock ≠ some c := by
  obtain ⟨s, r, hc⟩ := hc
  obtain ⟨_, h⟩ := h
  rcases h with ⟨rfl, _⟩ | ⟨g, cap, cur, rfl, hb, hg, _⟩
  · simp [Value.ownBlock]
  · intro e
    simp only [Value.ownBlock, Option.some.injEq] at e
    subst e
    rw [hg] at hc
    cases hc

def Made (w : World) (n : Nat) (e : Ending) (w' : World) : Prop :=
  ∃ p d cap cs, e = .returned (.tuple #[.pointer (some ⟨p, 0, none⟩), .int .i64 0]) ∧ C w' p d cap cs (List.replicate n false) ∧ w.heap.size ≤ p ∧ w.heap.size ≤ d ∧ (∀ c ∈ cs, w.heap.size ≤ c) ∧ Mod [] w w'

/-- Half made: k channels. -/
structure Half (w wr : World) (k : Nat) (cs : List Nat) (v : Value) : Prop where
  len : cs.length = k
  box : Blk wr w.heap.size 183 [v]
  own : Owns wr (w.heap.size + 1) 184 v (chans cs)
  chan : ∀ c ∈ cs, Ch wr c [] ∧ w.heap.size + 1 ≤ c
  nodup : cs.Nodup
  mod : Mod [] w wr

set_option maxRecDepth 100000 in
theorem new_in (n : Nat) (w : World) (h1 : 1 ≤ n) (h64 : n ≤ 64) :
    Calls Try.prog 100 #[.int .i64 n] w (Made w n) := by
  have hB0 := Blk.new w 183 [.slice none 0 0]
  have m0 := (Mod.refl [] w).alloc (.cells #[.slice none 0 0] 183 (0, 0))
  go_enter Try.func100, Try.ntmps100
  go_wp2_with fail
  go_loopw [14] (fun i wr => ∃ (k : Nat) (cs : List Nat) (v : Value), k ≤ n ∧ i = .int .i64 k ∧ Half w wr k cs v) (fun i _ => n - (intOf i).toNat)
  case atStart => exact ⟨0, [], _, by omega, rfl, ⟨rfl, hB0, Owns.nil _ _ _, by simp, by simp, m0⟩⟩
  case round =>
    clear hB0 m0
    obtain ⟨k, cs, v, hk, rfl, hH⟩ := hrel
    by_cases hlt : k < n
    · have hb0 : wr.cell? ⟨w.heap.size, 0, none⟩ = _ := hH.box.cell rfl
      have hf0 := hH.box.free 0
      have hsz := hH.box.lt
      have hmc := mk_chan
      have hK : Known [(⟨w.heap.size, 0, none⟩, v)] wr := by simp [Known, hb0]
      go_wp2_with fail
      refine Lex2.region (Known [(⟨w.heap.size, 0, none⟩, v)]) [.pure, .pure, .pure, .pure, .read, .loud, .loud, .fin, .pure, .pure, .fin] (by kernel_rfl) (by kernel_rfl) ?_ ?_
      · exact hK.drewN
      repeat (first | ((refine Lex2.step_pure rfl rfl ?_; go_big_quiet_step (fail)); refine wpQuiet_nil ?_) | ((refine Lex2.step_read rfl rfl ?_; go_big_quiet_step ((intro hwS; first | rfl | (simp [Known] at hwS; simp [hwS]; done) | (simp [Known] at hwS; simp [hwS]; rfl)))); refine wpQuiet_nil ?_))
      refine Lex2.step_loud rfl (fun wl hwl => ?_)
      first | (obtain ⟨nq, rfl⟩ := hwl) | (replace hwl := hwl.symm; subst hwl)
      go_wp2_with fail
      refine ⟨rfl, rfl, (hK.drewN _).alloc _, ?_⟩
      refine Lex2.step_loud rfl (fun wl hwl => ?_)
      first | (obtain ⟨nq, rfl⟩ := hwl) | (replace hwl := hwl.symm; subst hwl)
      go_wp2_with fail
      refine ⟨rfl, rfl, ((hK.drewN _).alloc _).alloc _, ?_⟩
      obtain ⟨i0, hi, hz0, hz1, hz2⟩ := info_parts info_chan
      have mc : Mod [] wr ((wr.drewN nq).alloc (.chan 1 #[] false 0 0 false)) := ((Mod.refl [] wr).drewN nq).alloc _
      have hcl : (chans cs).length = k := by simp [chans, hH.len]
      obtain ⟨v', wA, hrun, hown', hmA, hbA, hgA⟩ := append_elem (P := Try.prog) ((wr.drewN nq).alloc (.chan 1 #[] false 0 0 false)) (w.heap.size + 1) 181 181 184 i0 (.chan none) 1 8 Try.underlying181 hi hz0 hz1 hz2 rfl (by decide)
        (hH.own.mod0 mc) [.chan (some wr.heap.size)] rfl (by simp [Value.oneCell']) (by rw [hcl]; simp [maxLen]; omega) (by rw [hcl]; omega) (by simp; omega)
      rw [show ((wr.drewN nq).alloc (.chan 1 #[] false 0 0 false)).heap.size = wr.heap.size + 1 from by simp] at hrun
      have hm1 := hmA _ _ (hH.mod.trans mc) (by omega)
      have hB1 := hbA _ _ _ (mc.blk hH.box (by simp)) (by omega)
      have hnew : Ch wA wr.heap.size [] := by
        have h0 : Ch ((wr.drewN nq).alloc (.chan 1 #[] false 0 0 false)) wr.heap.size [] := Ch.new (wr.drewN nq)
        exact h0.mod hgA (fun hm => by
          have := (hH.own.lt (b := wr.heap.size) (by simpa using hm)).2
          omega)
      have hold : ∀ c ∈ cs, Ch wA c [] ∧ w.heap.size + 1 ≤ c := fun c hc => ⟨((hH.chan c hc).1.mod mc (by simp)).mod hgA (fun hm => not_chan hH.own (hH.chan c hc).1 (by simpa using hm)), (hH.chan c hc).2⟩
      have hnin : wr.heap.size ∉ cs := fun hm => by have := (hH.chan _ hm).1.lt; omega
      have hown2 : Owns wA (w.heap.size + 1) 184 v' (chans (cs ++ [wr.heap.size])) := by
        unfold Owns
        rw [show chans (cs ++ [wr.heap.size]) = chans cs ++ [.chan (some wr.heap.size)] by simp [chans]]
        simpa using hown'
      clear hi hz0 hz1 hz2 hmA hbA hown' hb0 hf0 hK hmc
      have hf0 := hB1.free 0
      have hb0 : wA.cell? ⟨w.heap.size, 0, none⟩ = _ := hB1.cell rfl
      obtain ⟨a5, c5, hv5, _⟩ := hown2.row
      generalize (chans (cs ++ [wr.heap.size])).length = n5 at hv5
      subst hv5
      refine Lex2.step_fin rfl (fun wl hwl => ?_)
      first | (obtain ⟨nq, rfl⟩ := hwl) | (replace hwl := hwl.symm; subst hwl)
      go_wp2_with (at_builtin; refine wpList_append_run rfl _ _ _ _ rfl _ _ rfl rfl _ _ hrun ?_)
      refine ⟨rfl, rfl, ?_⟩
      clear hrun
      repeat (first | ((refine Lex2.step_pure rfl rfl ?_; go_big_quiet_step (fail)); refine wpQuiet_nil ?_) | ((refine Lex2.step_read rfl rfl ?_; go_big_quiet_step ((intro hwS; first | rfl | (simp [Known] at hwS; simp [hwS]; done) | (simp [Known] at hwS; simp [hwS]; rfl)))); refine wpQuiet_nil ?_))
      refine Lex2.step_fin rfl (fun wl hwl => ?_)
      first | (obtain ⟨nq, rfl⟩ := hwl) | (replace hwl := hwl.symm; subst hwl)
      go_wp2_with fail
      refine ⟨rfl, rfl, ?_⟩
      refine Lex2.step_nil (fun wl hwl => ?_)
      first | (obtain ⟨nq, rfl⟩ := hwl) | (replace hwl := hwl.symm; subst hwl)
      go_wp2_with fail
      go_roundw
      case rel =>
        have mS : Mod [w.heap.size] wA (wA.setCell ⟨w.heap.size, 0, none⟩ (.slice a5 n5 c5)) := (Mod.refl _ _).setCell (by simp) _
        refine ⟨k + 1, cs ++ [wr.heap.size], .slice a5 n5 c5, by omega, by go_num, ⟨by simp [hH.len], hB1.set 0 _, hown2.mod mS (fun b hb e => by have := (hown2.lt e).1; simp at hb; omega), ?_, ?_, hm1.setCell (by simp) _⟩⟩
        · intro c hc
          rcases List.mem_append.1 hc with hc | hc
          · exact ⟨(hold c hc).1.mod mS (by have := (hold c hc).2; simp; omega), (hold c hc).2⟩
          · simp only [List.mem_singleton] at hc
            subst hc
            exact ⟨hnew.mod mS (by simp; omega), by omega⟩
        · exact List.nodup_append.2 ⟨hH.nodup, by simp, fun a ha b hb => by simp at hb; subst hb; intro e; subst e; exact hnin ha⟩
      case measure => simp [intOf]; omega
    · have hk' : k = n := by omega
      subst hk'
      go_wp2
      go_ret2
      rcases hH.own.form with ⟨_, h0⟩ | ⟨g, cap, hv, hbg, hgl, hle, hcm, hcells, _⟩
      · have := hH.len
        simp [chans] at h0
        subst h0
        simp at this
        omega
      have hcl : (chans cs).length = cs.length := by simp [chans]
      refine ⟨w.heap.size, g, cap, cs, rfl, ⟨by rw [← hcl, ← hv]; exact hH.box, ?_, by simp [hH.len], by rw [hH.len]; exact h64, ?_, hH.nodup, ?_, ?_⟩, by omega, by omega, fun c hc => by have := (hH.chan c hc).2; omega, hH.mod⟩
      · intro i c hc
        exact hcells i _ (by simp [chans, hc])
      · intro i c hc
        have := (hH.chan c (List.mem_of_getElem? hc)).1
        unfold holds
        simpa [List.getElem?_replicate] using this
      · intro hm
        have := (hH.chan _ hm).2
        omega
      · intro hm
        exact not_chan hH.own (hH.chan _ hm).1 (by rw [hv]; rfl)

end Permit
end Go.Proofs.Ytekhadlpcdjlpaa
