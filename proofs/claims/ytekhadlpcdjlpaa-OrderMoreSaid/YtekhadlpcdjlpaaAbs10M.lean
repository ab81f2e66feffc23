/- Maps are written: an entry is put, or taken out. -/
import Derived.Test.YtekhadlpcdjlpaaAbs10
import Derived.MapKept
namespace Go.Proofs.Ytekhadlpcdjlpaa
namespace Abs
open Go
set_option linter.unusedVariables false
set_option linter.unusedSimpArgs false

/-- A map's entries and its clock, behind an entry that is put; none: who knows. -/
def mapPut (str : Bool) (es : List MapEntry) (c : Nat) (k v : Value) : Option (List MapEntry × Nat) := match findA str k es 0 with
  | some (some (i, _)) => some (es.modify i fun e => { e with key := k, val := v }, c)
  | some none => some (es ++ [{ key := k, val := v, born := c }], c + 1)
  | none => none

/-- A map's entries, behind an entry that is taken out. -/
def mapDel (str : Bool) (es : List MapEntry) (k : Value) : Option (List MapEntry) := match findA str k es 0 with
  | some (some (i, _)) => some (es.eraseIdx i)
  | some none => some es
  | none => none

def evMupd (t : T) (h : AH) (str : Bool) (m k v : Operand) : Option (Value × AH) := match evalO t m, evalO t k, evalO t v with
  | some (.map (some r)), some kv, some vv => match mapAt h r with
    | some (es, c) => match mapPut str es c kv vv with
      | some (es', c') => some (undef, h.set r (.map es' c'))
      | none => none
    | none => none
  | _, _, _ => none

def evDel (t : T) (h : AH) (str : Bool) (m k : Operand) : Option (Value × AH) := match evalO t m, evalO t k with
  | some (.map (some r)), some kv => match mapAt h r with
    | some (es, c) => match mapDel str es kv with
      | some es' => some (.tuple #[], h.set r (.map es' c))
      | none => none
    | none => none
  | _, _ => none

def cMupd (P : Program) (t : TypeId) (m k v : Operand) : Option AOp := match P.underlying t with
  | some (.map kt _) => match keyKind P kt with
    | some str => some (.mupd str m k v)
    | none => none
  | _ => none

def cDel (P : Program) (t : TypeId) (m k : Operand) : Option AOp := match P.underlying t with
  | some (.map kt _) => match keyKind P kt with
    | some str => some (.del str m k)
    | none => none
  | _ => none

section
variable {P : Program} {ρ : Ren} {t : T} {a : Act} {h : AH} {w : World}

theorem bytes_ext0 {a b : ByteArray} (h : a.data.toList = b.data.toList) : a = b := by
  cases a
  cases b
  simp only at h
  congr
  exact Array.ext' h

theorem keyEq_eq {str : Bool} {x y : Value} (h : keyEq str x y = some true) : conc ρ x = conc ρ y ∧ Instr.sameBits 10000 (conc ρ y) (conc ρ x) = true := by
  unfold keyEq at h
  split at h
  · split at h
    · rename_i hc
      injection h with h
      rw [beq_iff_eq] at h
      rw [hc.2, h]
      exact ⟨rfl, by simp [conc, Instr.sameBits]⟩
    · cases h
  · split at h
    · injection h with h
      rw [beq_iff_eq] at h
      rw [bytes_ext0 h]
      exact ⟨rfl, by simp [conc, Instr.sameBits, bytes_beq]⟩
    · cases h
  · cases h

theorem map_modify0 {α β : Type} {f : α → β} {g : α → α} {g' : β → β} (hg : ∀ e, f (g e) = g' (f e)) (l : List α) (i : Nat) : (l.modify i g).map f = (l.map f).modify i g' := by
  refine List.ext_getElem? fun j => ?_
  rw [List.getElem?_map, List.getElem?_modify, List.getElem?_modify, List.getElem?_map]
  cases l[j]? with
  | none => rfl
  | some e =>
    by_cases h : i = j
    · simp [h, hg]
    · simp [h]

theorem map_eraseIdx0 {α β : Type} (f : α → β) : ∀ (l : List α) (i : Nat), (l.eraseIdx i).map f = (l.map f).eraseIdx i
  | [], i => by simp
  | x :: l, 0 => by simp
  | x :: l, i + 1 => by simp [map_eraseIdx0 f l i]

/-- The block of a map turns. -/
theorem map_rel (r : Rel ρ h w) {b : Nat} {es es' : List MapEntry} {c c' : Nat} (hb : h[b]? = some (.map es c)) (hs : ∀ e ∈ es', scp (live h) e.key = true ∧ scp (live h) e.val = true) {w' : World} (hw : w' = { w with heap := w.heap.setIfInBounds (ρ b).blk (.map (es'.map (concEntry ρ)).toArray c') }) :
    Rel ρ (h.set b (.map es' c')) w' ∧ Next h.length ρ h w ρ (h.set b (.map es' c')) w' := by
  have hg : w.heap[(ρ b).blk]? = some (.map (es.map (concEntry ρ)).toArray c) := r.holds b _ hb
  have hlt : (ρ b).blk < w.heap.size := (Array.getElem?_eq_some_iff.1 hg).1
  have hoth : ∀ x, x ∉ (ABlk.map es c).foot (ρ b) → x < w.heap.size → w'.heap[x]? = w.heap[x]? := by
    intro x hx _
    have : (ρ b).blk ≠ x := fun e => hx (by simp [ABlk.foot, e])
    subst hw
    simp [Array.getElem?_setIfInBounds, this]
  refine ⟨r.upd hb (by simp) (fun x hx => hx) (fun x hx => hx) (fun e he => hs e he) ?_ hoth, Next.upd hb (by simp) (fun x hx => hx) (fun x hx => hx) (by subst hw; rfl) (by subst hw; rfl) (by subst hw; rfl) (by subst hw; simp) hoth⟩
  show w'.heap[(ρ b).blk]? = _
  subst hw
  simp [Array.getElem?_setIfInBounds, hlt]

theorem mapPut_scp {L : Nat → Bool} {str : Bool} {es es' : List MapEntry} {c c' : Nat} {k v : Value} (hp : mapPut str es c k v = some (es', c')) (hk : scp L k = true) (hv : scp L v = true) (hes : ∀ e ∈ es, scp L e.key = true ∧ scp L e.val = true) : ∀ e ∈ es', scp L e.key = true ∧ scp L e.val = true := by
  unfold mapPut at hp
  split at hp
  · injection hp with hp
    injection hp with h1 h2
    subst h1
    rename_i i0 _ _
    intro e he
    obtain ⟨i, hi⟩ := List.getElem?_of_mem he
    rw [List.getElem?_modify] at hi
    cases hx : es[i]? with
    | none => rw [hx] at hi; simp at hi
    | some e0 =>
      rw [hx] at hi
      by_cases h2 : i0 = i
      · simp only [h2, if_true, Option.map_eq_map, Option.map_some, Option.some.injEq] at hi
        subst hi
        exact ⟨hk, hv⟩
      · simp [h2] at hi
        subst hi
        exact hes _ (List.mem_of_getElem? hx)
  · injection hp with hp
    injection hp with h1 h2
    subst h1
    intro e he
    rcases List.mem_append.1 he with he | he
    · exact hes e he
    · simp at he; subst he; exact ⟨hk, hv⟩
  · cases hp

theorem mapDel_scp {L : Nat → Bool} {str : Bool} {es es' : List MapEntry} {k : Value} (hp : mapDel str es k = some es') (hes : ∀ e ∈ es, scp L e.key = true ∧ scp L e.val = true) : ∀ e ∈ es', scp L e.key = true ∧ scp L e.val = true := by
  unfold mapDel at hp
  split at hp
  · injection hp with h1
    subst h1
    exact fun e he => hes e (List.mem_of_mem_eraseIdx he)
  · injection hp with h1
    subst h1
    exact hes
  · cases hp

theorem s_mupd {o : Oper} {ty : TypeId} {m k x : Operand} {ao : AOp} {v : Value} {h' : AH} (ho : o.op = .mapUpdate ty m k x) (hc : cMupd P ty m k x = some ao) (r : Rel ρ h w) (tr : TRel ρ (live h) t a)
    (hv : ∀ str, ao = .mupd str m k x → evMupd t h str m k x = some (v, h')) : LoudOk P ρ h w a o v h' := by
  unfold cMupd at hc
  split at hc
  case h_2 => cases hc
  rename_i kt e hu
  split at hc
  case h_2 => cases hc
  rename_i str hk
  injection hc with hc
  replace hv := hv str hc.symm
  obtain ⟨d, hd, hkk⟩ := keyKind_ok hk
  unfold evMupd at hv
  split at hv
  case h_2 => cases hv
  rename_i b kv vv hm hkv hvv
  split at hv
  case h_2 => cases hv
  rename_i es c hes
  split at hv
  case h_2 => cases hv
  rename_i es' c' hput
  injection hv with hv
  injection hv with q1 q2
  subst q1 q2
  obtain ⟨hb, hheap⟩ := mapAt_heap r hes
  have vm := evalO_VR tr hm
  have vk := evalO_VR tr hkv
  have vv2 := evalO_VR tr hvv
  have e1 : a.eval m = .map (some (ρ b).blk) := vm.2
  have hscp := mapPut_scp hput vk.1 vv2.1 (r.scope b _ hb)
  obtain ⟨g1, g2⟩ := map_rel (c' := c') r hb hscp rfl
  refine ⟨undef, .skip, _, ρ, ?_, .inr ⟨rfl, rfl⟩, VR_undef, g1, g2, by simp⟩
  unfold execOp
  simp only [ho, e1, vk.2, vv2.2]
  have hrun : (Instr.mapUpdate ty (.map (some (ρ b).blk)) (conc ρ kv) (conc ρ vv)).run P w = .ok () { w with heap := w.heap.setIfInBounds (ρ b).blk (.map (es'.map (concEntry ρ)).toArray c') } := by
    unfold Instr.mapUpdate
    unfold mapPut at hput
    split at hput
    · rename_i i v0 hf
      injection hput with hput
      injection hput with h1 h2
      subst h1 h2
      have hfk := findKey_run (ρ := ρ) hd hkk hf w
      obtain ⟨_, e0, he0, _, hke⟩ := findA_mem es 0 i v0 hf
      obtain ⟨hk1, hk2⟩ := keyEq_eq (ρ := ρ) hke
      have hget : (es.map (concEntry ρ)).toArray[i]? = some (concEntry ρ e0) := by
        simp only [Nat.sub_zero] at he0
        simp [he0]
      have hst : ∀ (w : World), (Instr.keyThatStays (conc ρ e0.key) (conc ρ kv)).run P w = .ok (conc ρ kv) w := by
        intro w
        unfold Instr.keyThatStays
        rw [if_pos hk2]
        rfl
      have hmod : (es.map (concEntry ρ)).toArray.modify i (fun e => { e with key := conc ρ kv, val := conc ρ vv }) = ((es.modify i fun e => { e with key := kv, val := vv }).map (concEntry ρ)).toArray := by
        apply Array.ext'
        rw [Array.toList_modify]
        simp only [List.toList_toArray]
        exact (map_modify0 (f := concEntry ρ) (g := fun e => { e with key := kv, val := vv }) (g' := fun e => { e with key := conc ρ kv, val := conc ρ vv }) (fun e => rfl) es i).symm
      simp only [Sem.run_bind, run_underlying hu, Result.andThen_ok, run_getObj_map hheap, checkKey_run hd hkk, hfk, Option.map_some, hget, Option.getD_some, concEntry]
      simp only [hst, Result.andThen_ok, MapKept.run_setObj_map _ hheap, hmod]
    · rename_i hf
      injection hput with hput
      injection hput with h1 h2
      subst h1 h2
      have hfk := findKey_run (ρ := ρ) hd hkk hf w
      simp only [Sem.run_bind, run_underlying hu, Result.andThen_ok, run_getObj_map hheap, checkKey_run hd hkk, hfk, Option.map_none, MapKept.run_setObj_map _ hheap]
      have hpush : (es.map (concEntry ρ)).toArray.push (MapEntry.mk (conc ρ kv) (conc ρ vv) c) = ((es ++ [MapEntry.mk kv vv c]).map (concEntry ρ)).toArray := by
        apply Array.ext'
        simp [concEntry]
      rw [hpush]
    · cases hput
  simp [hrun]

theorem s_del {o : Oper} {ty ky : TypeId} {m k : Operand} {ao : AOp} {v : Value} {h' : AH} (ho : o.op = .call { callee := .builtin .delete, args := #[m, k], argTypes := #[ty, ky] }) (hc : cDel P ty m k = some ao) (r : Rel ρ h w) (tr : TRel ρ (live h) t a)
    (hv : ∀ str, ao = .del str m k → evDel t h str m k = some (v, h')) : LoudOk P ρ h w a o v h' := by
  unfold cDel at hc
  split at hc
  case h_2 => cases hc
  rename_i kt e hu
  split at hc
  case h_2 => cases hc
  rename_i str hk
  injection hc with hc
  replace hv := hv str hc.symm
  obtain ⟨d, hd, hkk⟩ := keyKind_ok hk
  unfold evDel at hv
  split at hv
  case h_2 => cases hv
  rename_i b kv hm hkv
  split at hv
  case h_2 => cases hv
  rename_i es c hes
  split at hv
  case h_2 => cases hv
  rename_i es' hput
  injection hv with hv
  injection hv with q1 q2
  subst q1 q2
  obtain ⟨hb, hheap⟩ := mapAt_heap r hes
  have vm := evalO_VR tr hm
  have vk := evalO_VR tr hkv
  have e1 : a.eval m = .map (some (ρ b).blk) := vm.2
  have hscp := mapDel_scp hput (r.scope b _ hb)
  obtain ⟨g1, g2⟩ := map_rel (c' := c) r hb hscp rfl
  obtain ⟨cs, hex⟩ : ∃ cs, execOp a.eval o = builtin .delete #[ty, ky] o.type cs #[a.eval m, a.eval k] := ⟨_, (exec_builtin (a := a) ho).trans (by simp only [List.map_toArray, List.map_cons, List.map_nil]; rfl)⟩
  refine ⟨.tuple #[], .value (.tuple #[]), _, ρ, ?_, .inl rfl, VR.plain rfl, g1, g2, by simp⟩
  rw [hex, e1, vk.2]
  simp only [builtin]
  refine run_val ?_
  unfold Builtin.delete_
  unfold mapDel at hput
  split at hput
  · rename_i i v0 hf
    injection hput with h1
    subst h1
    have hfk := findKey_run (ρ := ρ) hd hkk hf w
    obtain ⟨_, e0, he0, _⟩ := findA_mem es 0 i v0 hf
    have hil : i < es.length := by
      simp only [Nat.sub_zero] at he0
      exact (List.getElem?_eq_some_iff.1 he0).1
    have hmod : (es.map (concEntry ρ)).toArray.eraseIdxIfInBounds i = ((es.eraseIdx i).map (concEntry ρ)).toArray := by
      apply Array.ext'
      rw [Array.eraseIdxIfInBounds, dif_pos (by simpa using hil)]
      simp [map_eraseIdx0]
    simp [run_underlying hu, run_getObj_map hheap, checkKey_run hd hkk, hfk, MapKept.run_setObj_map _ hheap, map_eraseIdx0]
  · rename_i hf
    injection hput with h1
    subst h1
    have hfk := findKey_run (ρ := ρ) hd hkk hf w
    simp [run_underlying hu, run_getObj_map hheap, checkKey_run hd hkk, hfk, MapKept.run_setObj_map _ hheap]
  · cases hput

end
end Abs
end Go.Proofs.Ytekhadlpcdjlpaa
