/- a lock at work: what it tells, walked. -/
import Derived.Test.YtongllppbifiaaaEx13
namespace Go.Proofs.Ytongllppbifiaaa
namespace Ex
open Go Abs Code
open Px (natV natV_length natV_get VecV nm u32w i64w PS poolB outG)
attribute [local simp] DN5 HA DN NB begT atHead kd wantedA evP evR evF evL evC evI evBin evUn evEq evSt evRes plain scp scpA scpL rdRow_eq RV rdCells veq veqA veqL isHole Value.cells evalL optI evBounds evFill evFillR evApp newsOf wrCells one1 fitsApp evClr undef onB_bool List.getElem?_concat_length List.getElem?_cons_zero List.getElem?_cons_succ List.getElem?_toArray List.getElem?_nil List.set_cons_zero List.set_cons_succ List.cons_append List.nil_append
set_option linter.unusedVariables false
set_option linter.unusedSimpArgs false
set_option maxRecDepth 100000

/-- A method, known in memory alone, that gives back a row of its own, of plain values. -/
theorem AC.adtRow {P : Program} {f : Nat} (hent : enterB P f = true) {D : ADT} {s : D.S} {b : Nat} {H : AH} (hb : H[b]? = some (.adt D s)) {vs : List Value} (hvs : ∀ v ∈ vs, plain v = true) {row : List Value} {e : TypeId} (hrow : ∀ v ∈ row, plain v = true) (hlen : row.length < OPEN) {K : Value → AH → Prop}
    (hc : ∀ (p : Nat) (F : List Nat) (w : World), D.rep s p F w → Calls P f (Value.pointer (some ⟨p, 0, none⟩) :: vs).toArray w fun ex w' => ∃ g, ex = .returned (.slice (some ⟨g, 0, none⟩) row.length row.length) ∧ w.heap.size ≤ g ∧ Blk w' g e row ∧ Mod [] w w')
    (hK : K (.slice (some ⟨H.length, 0, none⟩) row.length row.length) (H ++ [.cells row e none])) : AC P f (.pointer (some ⟨b, 0, none⟩) :: vs) H K := by
  refine ⟨hent, fun ρ w us rel hsz hargs => ?_⟩
  have hold := rel.holds b _ hb
  obtain ⟨u0, hu0, vr0⟩ := hargs 0 (.pointer (some ⟨b, 0, none⟩)) rfl
  have e0 : u0 = .pointer (some ⟨(ρ b).blk, 0, none⟩) := by rw [vr0.2]; simp [conc, cAddr, hold.1]
  obtain ⟨us⟩ := us
  cases us with
  | nil => simp at hsz
  | cons u us =>
    simp at hu0 hsz
    subst hu0 e0
    have e1 := plainArgs (ρ := ρ) hvs (us := us) (by simpa using hsz) (n := live H) fun i v hv => by
      obtain ⟨u, hu, vr⟩ := hargs (i + 1) v (by simpa using hv)
      exact ⟨u, by simpa using hu, vr⟩
    subst e1
    refine (hc (ρ b).blk (ρ b).foot w hold.2.2).mono ?_
    rintro ex w' ⟨g, rfl, hg, hbk, hm⟩
    obtain ⟨r1, nx1⟩ := rel.mod0 hm
    have hcr : row.map (conc ρ) = row := (List.map_congr_left fun y hy => conc_zero _ y (hrow y hy)).trans (List.map_id row)
    obtain ⟨r2, hρ⟩ := r1.addBlk (k := .cells row e none) (cb := ⟨g, 0, 0, []⟩) (by simp) hrow ⟨[], [], by rw [hcr]; unfold Blk at hbk; simpa using hbk, rfl, rfl, fun _ => ⟨rfl, rfl⟩⟩ fun x hx c l hl hx' => by
      have h2 := rel.reach_lt hl x hx'
      simp [ABlk.reach] at hx
      omega
    have hlv : live (H ++ [ABlk.cells row e none]) H.length = true := live_of (k := .cells row e none) (by simp) (by simp)
    have hv : VR (Abs.upd ρ H.length ⟨g, 0, 0, []⟩) (live (H ++ [ABlk.cells row e none])) (.slice (some ⟨H.length, 0, none⟩) row.length row.length) (.slice (some ⟨g, 0, none⟩) row.length row.length) := by
      refine ⟨by simpa [scp] using hlv, ?_⟩
      simp [conc, cAddr, upd_self, cCap, hlen]
    refine ⟨_, _, _, _, rfl, hv, hK, r2, ?_, by simp⟩
    refine ⟨fun c hc => by rw [hρ c hc], fun c hc hl => live_push c hl, nx1.os, nx1.tape, nx1.output, nx1.size, nx1.keep, fun c k hc x hx => ?_, fun c k hc x hx => ?_⟩
    all_goals
      by_cases hlt : c < H.length
      · rw [List.getElem?_append_left hlt] at hc
        rw [hρ c hlt] at hx
        exact .inr ⟨c, k, hc, hx⟩
      · rw [List.getElem?_append_right (by omega)] at hc
        have hc' := (List.getElem?_eq_some_iff.1 hc).1
        simp at hc'
        obtain rfl : c = H.length := by omega
        simp at hc
        subst hc
        rw [upd_self] at hx
        simp [ABlk.reach, ABlk.foot] at hx
        exact .inl (by omega)

set_option maxHeartbeats 2000000 in
theorem xthreads_ {H : AH} {N : Nm} {s : ES PS} (r : XAt H N s) {K : Value → AH → Prop} (hK : K (.int .i64 (s.cs.length : Nat)) H) : AC Try.prog 38 [.pointer (some ⟨N.x, 0, none⟩)] H K := by
  refine entry hmix cf38 ?_
  have hb := r.box
  simp (maxSteps := 2000000) (implicitDefEqProofs := false) [-getElem?_pos, -getElem?_neg, hb]
  exact hK

set_option maxHeartbeats 2000000 in
theorem xout_ {H : AH} {N : Nm} {s : ES PS} (r : XAt H N s) (t : Int) {K : Value → AH → Prop} (hK : K (.int .i64 (Px.outV s.pl t : Nat)) H) : AC Try.prog 40 [.pointer (some ⟨N.x, 0, none⟩), .int .i64 t] H K := by
  refine entry hmix cf40 ?_
  have hb := r.box
  simp (maxSteps := 2000000) (implicitDefEqProofs := false) [-getElem?_pos, -getElem?_neg, hb]
  refine outG t r.pool ?_
  simp (maxSteps := 2000000) (implicitDefEqProofs := false) [-getElem?_pos, -getElem?_neg]
  exact hK

set_option maxHeartbeats 2000000 in
theorem xcore_ {H : AH} {N : Nm} {s : ES PS} (r : XAt H N s) (t : Nat) {c : Co} (hc : s.cs[t]? = some c) {K : Value → AH → Prop} (hK : ∀ X, K (.agg c.cs.toArray) (H ++ [X])) : AC Try.prog 13 [.pointer (some ⟨N.x, 0, none⟩), .int .i64 t] H K := by
  refine entry hmix cf13 ?_
  have ht : t < s.cs.length := (List.getElem?_eq_some_iff.1 hc).1
  have cok := r.ok.cores c (List.mem_of_getElem? hc)
  have hcl := cs_length cok.len
  have hct := cs_take cok.len
  have hone := cs_one c
  have hrow := rowC_at r.ok.cores hc
  have hfit : t * 9 + 9 ≤ (rowC s.cs).length := by rw [rowC_length r.ok.cores]; omega
  have htl : (t : Int) < s.cs.length := by omega
  have hsp : splice zero9 0 c.cs = c.cs := cs_splice cok.len rfl
  have f0 : ∀ tl, (H ++ tl)[N.x]? = _ := fun tl => getA r.box tl
  have f1 : ∀ tl, (H ++ tl)[N.bc]? = _ := fun tl => getA r.cores tl
  simp (maxSteps := 2000000) (implicitDefEqProofs := false) [-getElem?_pos, -getElem?_neg, f0, f1, hrow, hfit, ht, htl, hcl, hct, hone, hsp]
  exact hK _

theorem cwords_ {H : AH} {b : Nat} {ws : List Nat} (hb : H[b]? = some (cellsB ws)) {K : Value → AH → Prop} (hK : K (.slice (some ⟨H.length, 0, none⟩) ws.length ws.length) (H ++ [.cells (w32 ws) 49 none])) (hl : ws.length < OPEN) : AC Try.prog 27 [.pointer (some ⟨b, 0, none⟩)] H K := by
  have wl := w32_length ws
  have pl : ∀ v ∈ w32 ws, plain v = true := by
    intro v hv
    unfold w32 at hv
    obtain ⟨n, _, rfl⟩ := List.mem_map.1 hv
    rfl
  refine AC.adtRow (row := w32 ws) (e := 49) (by kernel_rfl) hb (by simp) pl (by rw [wl]; exact hl) ?_ (by rw [wl]; exact hK)
  rintro p F w ⟨d, rfl, hc, hl⟩
  refine (cells_words p d (zs ws) w hc (by rw [zs_length]; omega)).mono ?_
  rintro ex w' ⟨g, rfl, hg, hbk, hm⟩
  have e1 : (zs ws).map (Value.int .u32) = w32 ws := by simp [zs, w32]
  rw [zs_length]
  rw [e1] at hbk
  exact ⟨g, by rw [wl], hg, hbk, hm⟩

set_option maxHeartbeats 2000000 in
theorem xwords_ {H : AH} {N : Nm} {s : ES PS} (r : XAt H N s) {K : Value → AH → Prop} (hK : K (.slice (some ⟨H.length, 0, none⟩) s.ws.length s.ws.length) (H ++ [.cells (w32 s.ws) 49 none])) : AC Try.prog 11 [.pointer (some ⟨N.x, 0, none⟩)] H K := by
  refine entry hmix cf11 ?_
  have hb := r.box
  have hm := r.mem.box
  simp (maxSteps := 2000000) (implicitDefEqProofs := false) [-getElem?_pos, -getElem?_neg, hb, hm]
  have hsum := sum_take_le s.ns r.mem.ok.small s.ns.length
  rw [List.take_length] at hsum
  have hfew := r.mem.ok.few
  have hwl := r.ok.sum
  refine cwords_ r.cells ?_ (by unfold OPEN; omega)
  simp (maxSteps := 2000000) (implicitDefEqProofs := false) [-getElem?_pos, -getElem?_neg]
  exact hK

end Ex
end Go.Proofs.Ytongllppbifiaaa
