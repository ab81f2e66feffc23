/- Operations that make a new block. -/
import Derived.Test.YtekhadlpcdjlpaaAbs7
namespace Go.Proofs.Ytekhadlpcdjlpaa
namespace Abs
open Go
set_option linter.unusedVariables false
set_option linter.unusedSimpArgs false

/-- So many zeros. -/
def reps (z : List Value) : Nat → List Value
  | 0 => []
  | n + 1 => z ++ reps z n

def evFillR (t : T) (es : Nat) : List (Nat × Operand) → List Value → Option (List Value)
  | [], cs => some cs
  | (i, x) :: rest, cs => match evalO t x with
    | some v => if v.cells.size = es ∧ i * es + es ≤ cs.length then evFillR t es rest (cs.take (i * es) ++ v.cells.toList ++ cs.drop (i * es + es)) else none
    | none => none

/-- What an operation gives that makes a new block, named n: its value, the block. -/
def evF (t : T) (n : Nat) : AOp → Option (Value × ABlk)
  | .box e x => match evalO t x with
    | some v => some (.pointer (some ⟨n, 0, none⟩), .cells v.cells.toList e none)
    | none => none
  | .alloc e zero => some (.pointer (some ⟨n, 0, none⟩), .cells zero e none)
  | .mkS e es bytes zero len cap => match evalO t len, evalO t cap with
    | some (.int _ l), some (.int _ c) => if 0 ≤ l ∧ l ≤ c ∧ (bytes : Int) * c ≤ 281474976710656 ∧ c ≤ 281474976710656 ∧ zero.length = es then some (.slice (some ⟨n, 0, none⟩) l.toNat c.toNat, .cells (reps zero c.toNat) e none) else none
    | _, _ => none
  | .mkM => some (.map (some n), .map [] 0)
  | .row e len es zero parts => if len * es ≤ 16777216 ∧ zero.length = es ∧ len ≤ 16777216 then match evFillR t es parts (reps zero len) with
      | some cs => some (.slice (some ⟨n, 0, none⟩) len len, .cells cs e none)
      | none => none
    else none
  | _ => none

def cMkS (P : Program) (t : TypeId) (l c : Operand) : Option AOp := match P.underlying t with
  | some (.slice e) => match P.info? e, zeroOf P e with
    | some i, some z => some (.mkS e i.size i.bytes z l c)
    | _, _ => none
  | _ => none

def cRow (P : Program) (t : TypeId) (len : Nat) (parts : List (Nat × Operand)) : Option AOp := match P.underlying t with
  | some (.slice e) => match P.info? e, zeroOf P e with
    | some i, some z => some (.row e len i.size z parts)
    | _, _ => none
  | _ => none

section
variable {P : Program} {ρ : Ren} {t : T} {a : Act} {h : AH} {w : World}

theorem reps_length (z : List Value) (n : Nat) : (reps z n).length = n * z.length := by
  induction n with
  | zero => simp [reps]
  | succ n ih => simp [reps, ih, Nat.add_mul, Nat.add_comm]

theorem reps_get (z : List Value) (hz : 0 < z.length) : ∀ (n i : Nat), i < n * z.length → (reps z n)[i]? = z[i % z.length]? := by
  intro n
  induction n with
  | zero => intro i h; omega
  | succ n ih =>
    intro i h
    simp only [reps]
    by_cases hi : i < z.length
    · rw [List.getElem?_append_left hi, Nat.mod_eq_of_lt hi]
    · rw [List.getElem?_append_right (by omega), ih (i - z.length) (by rw [Nat.add_mul] at h; omega)]
      rw [← Nat.mod_eq_sub_mod (by omega)]

theorem range_map (z : Array Value) (n : Nat) : (Array.range (n * z.size)).map (fun i => z[i % z.size]!) = (reps z.toList n).toArray := by
  apply Array.ext'
  apply List.ext_getElem?
  intro i
  by_cases hz : 0 < z.size
  · by_cases hi : i < n * z.size
    · have := reps_get z.toList (by simpa using hz) n i (by simpa using hi)
      simp only [Array.length_toList] at this
      rw [List.toList_toArray, this]
      have hm : i % z.size < z.size := Nat.mod_lt _ hz
      simp [hi, hm]
    · have h1 : (reps z.toList n).length ≤ i := by rw [reps_length]; simp; omega
      rw [List.toList_toArray, List.getElem?_eq_none h1]
      rw [List.getElem?_eq_none]
      simp
      omega
  · have h0 : z.size = 0 := by omega
    have h1 : (reps z.toList n).length = 0 := by rw [reps_length]; simp [h0]
    rw [List.toList_toArray, List.length_eq_zero_iff.1 h1]
    simp [h0]

/-- An operation that makes a new block is sound. -/
structure FreshOk (P : Program) (ρ : Ren) (h : AH) (n : Nat) (a : Act) (o : Oper) (w : World) (v : Value) (k : ABlk) : Prop where
  run : ∃ u obj, (execOp a.eval o).run P w = .ok (.value u) (w.alloc obj) ∧ (∀ ρ' : Ren, (∀ b, live h b = true → ρ' b = ρ b) → ρ' n = ⟨w.heap.size, 0, 0, []⟩ → u = conc ρ' v ∧ Holds ρ' (ρ' n) (w.alloc obj) k)
  vscp : ∀ L : Nat → Bool, (∀ b, live h b = true → L b = true) → L n = true → scp L v = true ∧ k.scp L
  foot : ∀ cb, k.foot cb = [cb.blk] ∧ k.reach cb = [cb.blk]

theorem alloc_new (w : World) (o : Obj) : (w.alloc o).heap[w.heap.size]? = some o := by
  show (w.heap.push o)[w.heap.size]? = _
  simp

theorem s_box {o : Oper} {n : Nat} {e : TypeId} {x : Operand} {v : Value} {k : ABlk} (ho : o.op = .box e x) (tr : TRel ρ (live h) t a) (hv : evF t n (.box e x) = some (v, k)) : FreshOk P ρ h n a o w v k := by
  simp only [evF] at hv
  split at hv
  · rename_i z hz
    injection hv with hv
    injection hv with h1 h2
    subst h1 h2
    have vr := evalO_VR tr hz
    refine ⟨⟨.pointer (some ⟨w.heap.size, 0, none⟩), .cells (a.eval x).cells e, ?_, fun ρ' hρ hn => ⟨?_, ?_⟩⟩, fun L hL hn => ⟨by simpa [scp] using hn, ?_⟩, fun cb => ⟨rfl, rfl⟩⟩
    · unfold execOp
      simp only [ho]
      refine run_val ?_
      simp [Instr.box, newVar, newRow]
    · simp [conc, cAddr, hn]
    · refine ⟨[], [], ?_, by simp [hn], by simp [hn], fun _ => by rw [hn]; exact ⟨rfl, rfl⟩⟩
      rw [hn]
      simp only [alloc_new]
      have e1 : (a.eval x).cells = z.cells.map (conc ρ') := by
        rw [← conc_cells, vr.2, conc_congr (fun b hb => congrArg CB.al (hρ b hb)) z vr.1]
      rw [e1]
      simp only [List.nil_append, List.append_nil, ← List.map_toArray, Array.toArray_toList]
    · intro y hy
      have := scp_cells (scp_mono hL z vr.1)
      rw [scpL_all, List.all_eq_true] at this
      exact this y hy
  · cases hv

theorem s_alloc {o : Oper} {n : Nat} {e : TypeId} {z : List Value} {v : Value} {k : ABlk} (ho : o.op = .alloc e) (hz : zeroOf P e = some z) (hv : evF t n (.alloc e z) = some (v, k)) : FreshOk P ρ h n a o w v k := by
  simp only [evF] at hv
  injection hv with hv
  injection hv with h1 h2
  subst h1 h2
  obtain ⟨pz, zv, hzc, hzr⟩ := zeroOf_run hz
  refine ⟨⟨.pointer (some ⟨w.heap.size, 0, none⟩), .cells z.toArray e, ?_, fun ρ' hρ hn => ⟨?_, ?_⟩⟩, fun L hL hn => ⟨by simpa [scp] using hn, ?_⟩, fun cb => ⟨rfl, rfl⟩⟩
  · unfold execOp
    simp only [ho]
    refine run_val ?_
    simp [Instr.alloc, newVar, newRow, hzr, hzc]
  · simp [conc, cAddr, hn]
  · refine ⟨[], [], ?_, by simp [hn], by simp [hn], fun _ => by rw [hn]; exact ⟨rfl, rfl⟩⟩
    rw [hn]
    simp only [alloc_new]
    rw [map_plain pz]
    simp
  · intro y hy
    have := scpL_nil (L := L) pz
    rw [scpL_all, List.all_eq_true] at this
    exact this y hy

theorem s_mkM {o : Oper} {n : Nat} {ty : TypeId} {v : Value} {k : ABlk} (ho : o.op = .makeMap ty none) (hv : evF t n .mkM = some (v, k)) : FreshOk P ρ h n a o w v k := by
  simp only [evF] at hv
  injection hv with hv
  injection hv with h1 h2
  subst h1 h2
  refine ⟨⟨.map (some w.heap.size), .map #[] 0, ?_, fun ρ' hρ hn => ⟨?_, ?_⟩⟩, fun L hL hn => ⟨by simpa [scp] using hn, ?_⟩, fun cb => ⟨rfl, rfl⟩⟩
  · unfold execOp
    simp only [ho]
    refine run_val ?_
    simp [Instr.makeMap]
  · simp [conc, hn]
  · show _ = _
    rw [hn]
    simp only [alloc_new]
    simp
  · intro e he
    cases he

theorem reps_plain {z : List Value} (hz : scpL nil z = true) : ∀ n, scpL nil (reps z n) = true
  | 0 => rfl
  | n + 1 => by simp [reps, scpL_append, hz, reps_plain hz n]

theorem zeroOf_info {ty : TypeId} {z : List Value} (h : zeroOf P ty = some z) : ∃ i v, P.info? ty = some i ∧ i.zero = some v ∧ v.cells = z.toArray := by
  unfold zeroOf at h
  split at h
  · rename_i i hi
    split at h
    · rename_i v hv
      split at h
      · injection h with h
        subst h
        exact ⟨i, v, hi, hv, by simp⟩
      · cases h
    · cases h
  · cases h

theorem s_mkS {o : Oper} {n : Nat} {ty : TypeId} {l c : Operand} {ao : AOp} {v : Value} {k : ABlk} (ho : o.op = .makeSlice ty l c) (hc : cMkS P ty l c = some ao) (tr : TRel ρ (live h) t a) (hv : evF t n ao = some (v, k)) : FreshOk P ρ h n a o w v k := by
  unfold cMkS at hc
  split at hc
  case h_2 => cases hc
  rename_i e hu
  split at hc
  case h_2 => cases hc
  rename_i i z hi hz
  injection hc with hc
  subst hc
  obtain ⟨pz, zv, hzc, hzr⟩ := zeroOf_run hz
  simp only [evF] at hv
  split at hv
  case h_2 => cases hv
  rename_i j1 ln j2 cn hl hcap
  split at hv
  case isFalse => cases hv
  rename_i hcond
  obtain ⟨c1, c2, c3, c4, c5⟩ := hcond
  injection hv with hv
  injection hv with h1 h2
  subst h1 h2
  have e1 : a.eval l = .int j1 ln := (evalO_VR tr hl).2
  have e2 : a.eval c = .int j2 cn := (evalO_VR tr hcap).2
  refine ⟨⟨.slice (some ⟨w.heap.size, 0, none⟩) ln.toNat cn.toNat, .cells (reps z cn.toNat).toArray e, ?_, fun ρ' hρ hn => ⟨?_, ?_⟩⟩, fun L hL hn => ⟨by simpa [scp] using hn, ?_⟩, fun cb => ⟨rfl, rfl⟩⟩
  · unfold execOp
    simp only [ho, e1, e2]
    refine run_val ?_
    obtain ⟨i', v', hi', hv', hc'⟩ := zeroOf_info hz
    rw [hi] at hi'
    injection hi' with hi'
    subst hi'
    rw [run_make w ty e i v' hu hi hv' j1 j2 ln cn c1 c2 c3 (by omega)]
    have hm := range_map z.toArray cn.toNat
    simp only [List.size_toArray, c5] at hm
    simp only [madeCells, hc', List.size_toArray, c5]
    rw [hm]
  · have hlt : cn.toNat < OPEN := by unfold OPEN; omega
    simp [conc, cAddr, hn, cCap, hlt]
  · refine ⟨[], [], ?_, by simp [hn], by simp [hn], fun _ => by rw [hn]; exact ⟨rfl, rfl⟩⟩
    rw [hn]
    simp only [alloc_new]
    rw [map_plain (reps_plain pz _)]
    simp
  · intro y hy
    have := scpL_nil (L := L) (reps_plain pz cn.toNat)
    rw [scpL_all, List.all_eq_true] at this
    exact this y hy


theorem fillR_run {L : Nat → Bool} (tr : TRel ρ L t a) (es : Nat) : ∀ (l : List (Nat × Operand)) (cs out : List Value), evFillR t es l cs = some out → scpL L cs = true →
    Instr.fill (fun i => some (i * es, es)) (cs.map (conc ρ)).toArray (l.map fun x => (x.1, a.eval x.2)) = some (out.map (conc ρ)).toArray ∧ scpL L out = true := by
  intro l cs out he hs
  have hc : ∀ l : List (Nat × Operand), cParts (fun i => some (i * es, es)) l = some (l.map fun x => (x.1 * es, es, x.2)) := by
    intro l
    induction l with
    | nil => rfl
    | cons x l ih => simp [cParts, ih]
  have h2 : ∀ (l : List (Nat × Operand)) (cs : List Value), evFill t (l.map fun x => (x.1 * es, es, x.2)) cs = evFillR t es l cs := by
    intro l
    induction l with
    | nil => intro cs; rfl
    | cons x l ih =>
      intro cs
      obtain ⟨i, x⟩ := x
      simp only [List.map_cons, evFill, evFillR]
      cases evalO t x with
      | none => rfl
      | some v => simp only [ih]
  exact fill_run tr l _ cs out (hc l) (by rw [h2]; exact he) hs


theorem s_row {o : Oper} {n : Nat} {ty : TypeId} {len : Nat} {parts : Array (Nat × Operand)} {ao : AOp} {v : Value} {k : ABlk} (ho : o.op = .buildSlice ty len parts) (hc : cRow P ty len parts.toList = some ao) (tr : TRel ρ (live h) t a) (hv : evF t n ao = some (v, k)) : FreshOk P ρ h n a o w v k := by
  unfold cRow at hc
  split at hc
  case h_2 => cases hc
  rename_i e hu
  split at hc
  case h_2 => cases hc
  rename_i i z hi hz
  injection hc with hc
  subst hc
  obtain ⟨pz, zv, hzc, hzr⟩ := zeroOf_run hz
  simp only [evF] at hv
  split at hv
  case isFalse => cases hv
  rename_i hcond
  split at hv
  case h_2 => cases hv
  rename_i cs hcs
  injection hv with hv
  injection hv with h1 h2
  subst h1 h2
  obtain ⟨f1, f2⟩ := fillR_run tr i.size parts.toList _ cs hcs (scpL_nil (reps_plain pz len))
  rw [map_plain (reps_plain pz len)] at f1
  refine ⟨⟨.slice (some ⟨w.heap.size, 0, none⟩) len len, .cells (cs.map (conc ρ)).toArray e, ?_, fun ρ' hρ hn => ⟨?_, ?_⟩⟩, fun L hL hn => ⟨by simpa [scp] using hn, ?_⟩, fun cb => ⟨rfl, rfl⟩⟩
  · unfold execOp
    simp only [ho]
    refine run_val ?_
    have hsz : (sizeOf e).run P w = .ok i.size w := by simp [sizeOf, typeInfo, hi]
    have e1 : (parts.map fun x => (x.1, a.eval x.2)).toList = parts.toList.map fun x => (x.1, a.eval x.2) := by simp
    have g1 : ¬ (len * i.size > 16777216) := by omega
    have hm := range_map z.toArray len
    simp only [List.size_toArray, hcond.2.1] at hm
    by_cases h0 : len * i.size = 0
    · have hr : reps z len = [] := List.length_eq_zero_iff.1 (by rw [reps_length, hcond.2.1]; exact h0)
      rw [hr] at f1
      simp only [Instr.buildSlice, Sem.run_bind, run_underlying hu, Result.andThen_ok, hsz, h0]
      simp only [e1]
      have f1' : Instr.fill (fun j => some (j * i.size, i.size)) #[] (parts.toList.map fun x => (x.1, a.eval x.2)) = some (cs.map (conc ρ)).toArray := f1
      simp [f1', newRow, show Array.range 0 = #[] from rfl]
    · simp only [Instr.buildSlice, Sem.run_bind, run_underlying hu, Result.andThen_ok, hsz]
      simp only [e1]
      have g2 : ¬ (len * i.size > 2 ^ 24) := by omega
      simp only [g2, h0, if_false, Sem.run_pure, Result.andThen_ok, Sem.run_bind, hzr w, hzc, List.size_toArray, hcond.2.1, hm, f1]
      simp [newRow]
  · have hlt : len < OPEN := by unfold OPEN; omega
    simp [conc, cAddr, hn, cCap, hlt]
  · refine ⟨[], [], ?_, by simp [hn], by simp [hn], fun _ => by rw [hn]; exact ⟨rfl, rfl⟩⟩
    rw [hn]
    simp only [alloc_new]
    have : cs.map (conc ρ') = cs.map (conc ρ) := by
      rw [← concL_map, ← concL_map]
      exact concL_congr (fun b hb => congrArg CB.al (hρ b hb)) cs f2
    rw [this]
    simp
  · intro y hy
    have := scpL_mono hL cs f2
    rw [scpL_all, List.all_eq_true] at this
    exact this y hy

end
end Abs
end Go.Proofs.Ytekhadlpcdjlpaa
