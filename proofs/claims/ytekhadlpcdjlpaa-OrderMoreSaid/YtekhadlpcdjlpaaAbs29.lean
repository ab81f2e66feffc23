/- Going over a map. -/
import Derived.Test.YtekhadlpcdjlpaaAbs28
namespace Go.Proofs.Ytekhadlpcdjlpaa
namespace Abs
open Go
set_option linter.unusedVariables false
set_option linter.unusedSimpArgs false

/-- A map that is gone over: its entries, its clock, which ones were had. -/
structure MIS where
  es : List MapEntry
  clock : Nat
  seen : List Nat

def goodM (es : List MapEntry) (clock : Nat) : Prop := (∀ e ∈ es, plain e.key = true ∧ plain e.val = true ∧ e.born < clock) ∧ (es.map (·.born)).Nodup

def MI : ADT where
  S := MIS
  rep s p F w := goodM s.es s.clock ∧ ∃ m, p ≠ m ∧ (∀ x, x ∈ F ↔ x = p ∨ x = m) ∧ w.heap[p]? = some (.mapIter (some m) s.clock s.seen.toArray s.clock) ∧ w.heap[m]? = some (.map s.es.toArray s.clock)
  lt := by
    rintro s p F w ⟨_, m, _, hF, h1, h2⟩ x hx
    rcases (hF x).1 hx with rfl | rfl
    · exact (Array.getElem?_eq_some_iff.1 h1).1
    · exact (Array.getElem?_eq_some_iff.1 h2).1
  keep := by
    rintro s p F w w' ⟨hg, m, hne, hF, h1, h2⟩ hk
    exact ⟨hg, m, hne, hF, by rw [hk p ((hF p).2 (.inl rfl))]; exact h1, by rw [hk m ((hF m).2 (.inr rfl))]; exact h2⟩

abbrev miB (s : MIS) : ABlk := .adt MI s

/-- Those that were not had yet. -/
def MIS.left (s : MIS) : List MapEntry := s.es.filter fun e => !s.seen.contains e.born

theorem conc_entries {ρ : Ren} {es : List MapEntry} (h : ∀ e ∈ es, plain e.key = true ∧ plain e.val = true) : es.map (concEntry ρ) = es := by
  conv => rhs; rw [← List.map_id es]
  refine List.map_congr_left fun e he => ?_
  obtain ⟨h1, h2⟩ := h e he
  have e1 : conc ρ e.key = e.key := (VR.plain (ρ := ρ) (n := nil) h1).2.symm
  have e2 : conc ρ e.val = e.val := (VR.plain (ρ := ρ) (n := nil) h2).2.symm
  unfold concEntry
  rw [e1, e2]
  rfl

variable {P : Program} {h : AH} {K : Value → AH → Prop}

theorem rangeK {b : Nat} {es : List MapEntry} {clock : Nat} (hb : h[b]? = some (.map es clock)) (hg : goodM es clock) (hK : K (.pointer (some ⟨h.length, 0, none⟩)) (h.set b .dead ++ [miB ⟨es, clock, []⟩])) : IC P 1000000000 [.map (some b)] h K := by
  intro ρ w v0 s ha hi r hs
  injection ha with ha _
  subst ha
  obtain ⟨_, ty, k, e, hu, rfl⟩ : (1000000000 : Nat) = 1000000000 ∧ ∃ ty k e, P.underlying ty = some (.map k e) ∧ s = Instr.range ty (conc ρ (.map (some b))) := by
    rcases hi with h | ⟨h, _⟩ | ⟨h, _⟩
    · exact h
    · exact absurd h (by decide)
    · exact absurd h (by decide)
  have hheap : w.heap[(ρ b).blk]? = some (.map es.toArray clock) := by
    have : w.heap[(ρ b).blk]? = some (.map (es.map (concEntry ρ)).toArray clock) := r.holds b _ hb
    rwa [conc_entries (fun e he => ⟨(hg.1 e he).1, (hg.1 e he).2.1⟩)] at this
  have hblt : (ρ b).blk < w.heap.size := (Array.getElem?_eq_some_iff.1 hheap).1
  have hrun : (Instr.range ty (conc ρ (.map (some b)))).run P w = .ok (.pointer (some ⟨w.heap.size, 0, none⟩)) (w.alloc (.mapIter (some (ρ b).blk) clock #[] clock)) := by
    simp [Instr.range, conc, run_underlying hu, run_getObj_map hheap, Result.andThen]
  have hl : (h.set b ABlk.dead).length = h.length := by simp
  let cb : CB := ⟨w.heap.size, 0, 0, [w.heap.size, (ρ b).blk]⟩
  have hole := (r.kill b).hole
  have hn : (h.set b ABlk.dead ++ [ABlk.hole])[h.length]? = some .hole := by
    rw [List.getElem?_append_right (by simp)]
    simp
  have heap : ∀ x, x < w.heap.size → (w.alloc (.mapIter (some (ρ b).blk) clock #[] clock)).heap[x]? = w.heap[x]? := fun x hx => alloc_old w _ hx
  have back : ∀ (c : Nat) (l : ABlk), (h.set b ABlk.dead ++ [ABlk.hole])[c]? = some l → l = .hole ∨ l = .dead ∨ (c ≠ b ∧ h[c]? = some l) := by
    intro c l hc
    by_cases hlt : c < h.length
    · rw [List.getElem?_append_left (by simpa using hlt)] at hc
      rcases get_set hc with ⟨_, rfl⟩ | h2
      · exact .inr (.inl rfl)
      · exact .inr (.inr h2)
    · rw [List.getElem?_append_right (by simp; omega)] at hc
      have := List.mem_of_getElem? hc
      simp at this
      exact .inl this
  have hpush : h.set b .dead ++ [miB ⟨es, clock, []⟩] = (h.set b .dead ++ [ABlk.hole]).set h.length (miB ⟨es, clock, []⟩) := by
    have := push_eq (h.set b .dead) (miB ⟨es, clock, []⟩)
    rwa [hl] at this
  have notb : ∀ (c : Nat) (l : ABlk), c ≠ b → h[c]? = some l → ∀ x, x ∈ l.reach (ρ c) → x ≠ (ρ b).blk := by
    rintro c l hne hc x hx rfl
    exact r.apart b c _ l hb hc (fun e => hne e.symm) (ρ b).blk (by simp [ABlk.foot]) hx
  have notb2 : ∀ (c : Nat) (l : ABlk), c ≠ b → h[c]? = some l → ∀ x, x ∈ l.foot (ρ c) → x ≠ (ρ b).blk := fun c l hne hc x hx => notb c l hne hc x (foot_reach hx)
  have hrel : Rel (upd ρ h.length cb) (h.set b .dead ++ [miB ⟨es, clock, []⟩]) (w.alloc (.mapIter (some (ρ b).blk) clock #[] clock)) := by
    rw [hpush]
    refine hole.fill hn (by simp) trivial ?_ ?_ ?_ ?_
    · refine ⟨rfl, rfl, hg, (ρ b).blk, by show w.heap.size ≠ _; omega, fun x => by simp [cb], ?_, ?_⟩
      · exact alloc_new w _
      · show (w.alloc _).heap[(ρ b).blk]? = _
        rw [heap _ hblt]
        exact hheap
    · exact fun c l hc x hx => heap x (hole.reach_lt hc x hx)
    · intro c l hc x hx hx'
      have hlt := hole.reach_lt hc x (foot_reach hx)
      have hx2 : x = w.heap.size ∨ x = (ρ b).blk := by simpa [ABlk.reach, cb] using hx'
      rcases hx2 with rfl | rfl
      · omega
      · rcases back c l hc with rfl | rfl | ⟨hne, hc⟩
        · cases hx
        · cases hx
        · exact notb2 c l hne hc _ hx rfl
    · intro c l hc x hx hx'
      have hlt := hole.reach_lt hc x hx
      have hx2 : x = w.heap.size ∨ x = (ρ b).blk := by simpa [ABlk.foot, cb] using hx'
      rcases hx2 with rfl | rfl
      · omega
      · rcases back c l hc with rfl | rfl | ⟨hne, hc⟩
        · cases hx
        · cases hx
        · exact notb c l hne hc _ hx rfl
  have back2 : ∀ (c : Nat) (l : ABlk), (h.set b .dead ++ [miB ⟨es, clock, []⟩])[c]? = some l → (c = h.length ∧ l = miB ⟨es, clock, []⟩) ∨ (c ≠ h.length ∧ (l = .dead ∨ h[c]? = some l)) := by
    intro c l hc
    rw [hpush] at hc
    rcases get_set hc with h1 | ⟨h1, h2⟩
    · exact .inl h1
    · right
      refine ⟨h1, ?_⟩
      have hlt := (List.getElem?_eq_some_iff.1 h2).1
      simp at hlt
      have hcl : c < h.length := by omega
      rw [List.getElem?_append_left (by simpa using hcl)] at h2
      rcases get_set h2 with ⟨_, rfl⟩ | ⟨_, h3⟩
      · exact .inl rfl
      · exact .inr h3
  refine ⟨_, _, .pointer (some ⟨h.length, 0, none⟩), _, upd ρ h.length cb, hrun, ⟨?_, by simp [conc, cAddr, upd_self, cb]⟩, hK, hrel, ?_, by simp⟩
  · refine live_of (k := miB ⟨es, clock, []⟩) ?_ (by simp)
    rw [List.getElem?_append_right (by simp)]
    simp
  · refine ⟨fun c hc => upd_al c (by omega), fun c hc hlv => live_push c (live_set (by simp) c hlv), rfl, rfl, rfl, by simp, fun x hx _ => heap x hx, ?_, ?_⟩
    · intro c l hc x hx
      rcases back2 c l hc with ⟨rfl, rfl⟩ | ⟨hne, rfl | h3⟩
      · rw [upd_self] at hx
        have hx2 : x = w.heap.size ∨ x = (ρ b).blk := by simpa [ABlk.foot, cb] using hx
        rcases hx2 with rfl | rfl
        · exact .inl (Nat.le_refl _)
        · exact .inr ⟨b, _, hb, by simp [ABlk.foot]⟩
      · cases hx
      · rw [upd_ne _ hne] at hx
        exact .inr ⟨c, l, h3, hx⟩
    · intro c l hc x hx
      rcases back2 c l hc with ⟨rfl, rfl⟩ | ⟨hne, rfl | h3⟩
      · rw [upd_self] at hx
        have hx2 : x = w.heap.size ∨ x = (ρ b).blk := by simpa [ABlk.reach, cb] using hx
        rcases hx2 with rfl | rfl
        · exact .inl (Nat.le_refl _)
        · exact .inr ⟨b, _, hb, by simp [ABlk.reach]⟩
      · cases hx
      · rw [upd_ne _ hne] at hx
        exact .inr ⟨c, l, h3, hx⟩

theorem choose_run (n : Nat) (w : World) : ∃ (i d : Nat), (n ≠ 0 → i < n) ∧ (choose (.mapNext n)).run P w = .ok i { w with drawn := d } := by
  by_cases hf : (Question.mapNext n).forced = true
  · refine ⟨0, w.drawn, fun h => by omega, ?_⟩
    simp [choose, Sem.run, hf]
  · refine ⟨(Question.mapNext n).cut (w.tape w.drawn (.mapNext n)), w.drawn + 1, fun h => Nat.mod_lt _ (by omega), ?_⟩
    simp [choose, Sem.run, hf]

theorem nextK {b : Nat} {s : MIS} (hb : h[b]? = some (miB s)) (h1 : ∀ e ∈ s.left, K (.tuple #[.bool true, e.key, e.val]) (h.set b (miB { s with seen := s.seen ++ [e.born] }))) (h2 : s.left = [] → K (.tuple #[.bool false]) h) : IC P 1000000001 [.pointer (some ⟨b, 0, none⟩)] h K := by
  intro ρ w v0 sm ha hi r hs
  injection ha with ha _
  subst ha
  obtain ⟨ty, rfl⟩ : ∃ ty, sm = Instr.next (conc ρ (.pointer (some ⟨b, 0, none⟩))) false ty := by
    rcases hi with ⟨h, _⟩ | ⟨_, h⟩ | ⟨h, _⟩
    · exact absurd h (by decide)
    · exact h
    · exact absurd h (by decide)
  obtain ⟨c0, c1, hg, m, hpm, hF, hp, hm⟩ := r.holds b _ hb
  have hc : conc ρ (.pointer (some ⟨b, 0, none⟩)) = .pointer (some ⟨(ρ b).blk, 0, none⟩) := by simp [conc, cAddr, c0]
  rw [hc]
  have hgp : (getObj (ρ b).blk).run P w = .ok (.mapIter (some m) s.clock s.seen.toArray s.clock) w := by simp [getObj, Sem.run, hp]
  have hgm : (getObj m).run P w = .ok (.map s.es.toArray s.clock) w := run_getObj_map hm
  have hall : ∀ e ∈ s.es, e.born < s.clock := fun e he => (hg.1 e he).2.2
  have hnone : (!s.seen.toArray.isEmpty && !s.es.toArray.isEmpty && s.es.toArray.all (fun e => decide (e.born ≥ s.clock))) = false := by
    cases hes : s.es with
    | nil => simp
    | cons e es =>
      have hlt := hall e (by rw [hes]; exact List.mem_cons_self)
      simp
      intro _ hle
      exact absurd hlt (by omega)
  have hleft : s.es.toArray.filter (fun e => !s.seen.toArray.contains e.born) = s.left.toArray := by simp [MIS.left]
  have hlm : ∀ e ∈ s.left, e ∈ s.es := fun e he => (List.mem_filter.1 he).1
  have hold : s.left.toArray.filter (fun e => decide (e.born < s.clock)) = s.left.toArray := by
    simp only [List.filter_toArray]
    congr 1
    rw [List.filter_eq_self]
    intro e he
    simpa using hall e (hlm e he)
  have hnew : s.left.toArray.filter (fun e => decide (e.born ≥ s.clock)) = #[] := by
    simp only [List.filter_toArray]
    congr 1
    rw [List.filter_eq_nil_iff]
    intro e he
    have := hall e (hlm e he)
    simp
    omega
  by_cases hl : s.left = []
  · obtain ⟨i, d, hi, hch⟩ := choose_run (P := P) 1 w
    have hi0 : i = 0 := by have := hi (by decide); omega
    subst hi0
    have hC : ((if (#[] : Array MapEntry).isEmpty = true then #[none] else #[]) ++ Array.map some (#[] ++ #[]) : Array (Option MapEntry)) = #[none] := by simp
    have hrun : (Instr.next (.pointer (some ⟨(ρ b).blk, 0, none⟩)) false ty).run P w = .ok (.tuple #[.bool false]) { w with drawn := d } := by
      unfold Instr.next
      simp only [Sem.run_bind, hgp, Result.andThen_ok, hgm, hnone, hleft, hold, hnew]
      simp only [hl]
      rw [if_neg (by decide), hC]
      simp only [Sem.run_bind, List.size_toArray, List.length_cons, List.length_nil, Nat.zero_add, hch, Result.andThen_ok]
      rfl
    refine ⟨_, _, .tuple #[.bool false], h, ρ, hrun, VR.plain rfl, h2 hl, r.heap rfl, (Next.refl _ _ _ _).drew rfl rfl rfl rfl, Nat.le_refl _⟩
  · obtain ⟨i, d, hi, hch⟩ := choose_run (P := P) s.left.length w
    have hne : s.left.length ≠ 0 := fun e => hl (List.length_eq_zero_iff.1 e)
    have hilt := hi hne
    obtain ⟨e, he⟩ : ∃ e, s.left[i]? = some e := ⟨_, List.getElem?_eq_getElem hilt⟩
    have hmem := List.mem_of_getElem? he
    have hemp : s.left.toArray.isEmpty = false := by
      cases hx : s.left with
      | nil => exact absurd hx hl
      | cons a l => rfl
    have hC : ((if s.left.toArray.isEmpty = true then #[none] else #[]) ++ Array.map some (s.left.toArray ++ #[]) : Array (Option MapEntry)) = (s.left.map some).toArray := by
      rw [hemp]
      simp
    obtain ⟨w1, hw1⟩ : ∃ w1 : World, w1 = { w with drawn := d } := ⟨_, rfl⟩
    have hsp : ∀ o, (setObj (ρ b).blk o).run P w1 = .ok () { w1 with heap := w1.heap.setIfInBounds (ρ b).blk o } := by
      intro o
      have : w1.heap[(ρ b).blk]? = some (Obj.mapIter (some m) s.clock s.seen.toArray s.clock) := by rw [hw1]; exact hp
      simp [setObj, Sem.run, this]
    rw [← hw1] at hch
    have hrun : (Instr.next (.pointer (some ⟨(ρ b).blk, 0, none⟩)) false ty).run P w = .ok (.tuple #[.bool true, e.key, e.val]) { w1 with heap := w1.heap.setIfInBounds (ρ b).blk (.mapIter (some m) s.clock (s.seen ++ [e.born]).toArray s.clock) } := by
      unfold Instr.next
      simp only [Sem.run_bind, hgp, Result.andThen_ok, hgm, hnone, hleft, hold, hnew]
      rw [if_neg (by decide), hC]
      simp only [Sem.run_bind, List.size_toArray, List.length_map, hch, Result.andThen_ok]
      have hget : (s.left.map some).toArray[i]? = some (some e) := by simp [he]
      rw [hget]
      simp only [Sem.run_bind, hsp, Result.andThen_ok, Sem.run_pure]
      simp
    have hpl := (hg.1 e (hlm e hmem))
    have hplt : (ρ b).blk < w.heap.size := (Array.getElem?_eq_some_iff.1 hp).1
    have hoth : ∀ x, x ∉ (miB s).foot (ρ b) → x < w.heap.size → (w1.heap.setIfInBounds (ρ b).blk (.mapIter (some m) s.clock (s.seen ++ [e.born]).toArray s.clock))[x]? = w.heap[x]? := by
      intro x hx _
      have hne : (ρ b).blk ≠ x := fun e => hx ((hF x).2 (.inl e.symm))
      rw [hw1]
      simp [Array.getElem?_setIfInBounds, hne]
    refine ⟨_, _, .tuple #[.bool true, e.key, e.val], _, ρ, hrun, VR.plain ?_, h1 e hmem, r.upd hb (by simp) (fun x hx => hx) (fun x hx => hx) trivial ?_ hoth, Next.upd hb (by simp) (fun x hx => hx) (fun x hx => hx) (by rw [hw1]) (by rw [hw1]) (by rw [hw1]) (by rw [hw1]; simp) hoth, by simp⟩
    · have q1 : scp nil e.key = true := hpl.1
      have q2 : scp nil e.val = true := hpl.2.1
      simp [plain, scp, scpA, scpL, q1, q2]
    · refine ⟨c0, c1, hg, m, hpm, hF, ?_, ?_⟩
      · rw [hw1]
        simp [Array.getElem?_setIfInBounds, hplt]
      · rw [hw1]
        simp only [Array.getElem?_setIfInBounds, if_neg hpm]
        exact hm

theorem entryK {b : Nat} {s : MIS} {sn : List Nat} {e : MapEntry} (hb : h[b]? = some (miB { s with seen := sn ++ [e.born] })) (he : e ∈ s.es) (hK : K (.tuple #[e.key, e.val]) h) : IC P 1000000002 [.pointer (some ⟨b, 0, none⟩)] h K := by
  intro ρ w v0 sm ha hi r hs
  injection ha with ha _
  subst ha
  obtain rfl : sm = Instr.entry (conc ρ (.pointer (some ⟨b, 0, none⟩))) := by
    rcases hi with ⟨h, _⟩ | ⟨h, _⟩ | ⟨_, h⟩
    · exact absurd h (by decide)
    · exact absurd h (by decide)
    · exact h
  obtain ⟨c0, c1, hg, m, hpm, hF, hp, hm⟩ := r.holds b _ hb
  have hc : conc ρ (.pointer (some ⟨b, 0, none⟩)) = .pointer (some ⟨(ρ b).blk, 0, none⟩) := by simp [conc, cAddr, c0]
  rw [hc]
  simp only at hg hp hm
  have hgp : (getObj (ρ b).blk).run P w = .ok (.mapIter (some m) s.clock (sn ++ [e.born]).toArray s.clock) w := by simp [getObj, Sem.run, hp]
  have hgm : (getObj m).run P w = .ok (.map s.es.toArray s.clock) w := run_getObj_map hm
  have hfind : s.es.toArray.find? (fun x => x.born == e.born) = some e := by
    simp only [List.find?_toArray]
    have key : ∀ l : List MapEntry, (l.map (·.born)).Nodup → e ∈ l → l.find? (fun x => x.born == e.born) = some e := by
      intro l
      induction l with
      | nil => intro _ h; cases h
      | cons x l ih =>
        intro hn hm
        simp only [List.map_cons, List.nodup_cons] at hn
        rcases List.mem_cons.1 hm with rfl | hm
        · simp
        · have hne : x.born ≠ e.born := fun h => hn.1 (h ▸ List.mem_map.2 ⟨e, hm, rfl⟩)
          rw [List.find?_cons_of_neg (by simpa using hne)]
          exact ih hn.2 hm
    exact key s.es hg.2 he
  have hpl := hg.1 e he
  have hrun : (Instr.entry (.pointer (some ⟨(ρ b).blk, 0, none⟩))).run P w = .ok (.tuple #[e.key, e.val]) w := by
    unfold Instr.entry
    simp only [Sem.run_bind, hgp, Result.andThen_ok]
    simp [hgm, hfind, Result.andThen]
  refine ⟨_, _, .tuple #[e.key, e.val], h, ρ, hrun, VR.plain ?_, hK, r, Next.refl _ _ _ _, Nat.le_refl _⟩
  have q1 : scp nil e.key = true := hpl.1
  have q2 : scp nil e.val = true := hpl.2.1
  simp [plain, scp, scpA, scpL, q1, q2]

end Abs
end Go.Proofs.Ytekhadlpcdjlpaa
