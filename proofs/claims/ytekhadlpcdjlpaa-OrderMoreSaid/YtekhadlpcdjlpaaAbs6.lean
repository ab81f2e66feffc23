/- Structs that are built; operations that read. -/
import Derived.Test.YtekhadlpcdjlpaaAbs5
namespace Go.Proofs.Ytekhadlpcdjlpaa
namespace Abs
open Go
set_option linter.unusedVariables false
set_option linter.unusedSimpArgs false

def cParts (place : Nat → Option (Nat × Nat)) : List (Nat × Operand) → Option (List (Nat × Nat × Operand))
  | [] => some []
  | (i, x) :: l => match place i, cParts place l with
    | some (o, n), some r => some ((o, n, x) :: r)
    | _, _ => none

/-- The zero of a type, if it holds no names. -/
def zeroOf (P : Program) (t : TypeId) : Option (List Value) := match P.info? t with
  | some i => match i.zero with
    | some z => if scpA nil z.cells then some z.cells.toList else none
    | none => none
  | none => none

def placesOf (P : Program) (fields : Array Field) : Array (Nat × Nat) := fields.map fun f => (f.offset, (szOf P f.type).getD 0)

def cBuild (P : Program) (t : TypeId) (parts : List (Nat × Operand)) : Option AOp := match P.underlying t, zeroOf P t with
  | some (.struct fields), some z => if fields.toList.all (fun f => (szOf P f.type).isSome) then match cParts ((placesOf P fields)[·]?) parts with
      | some cp => some (.agg z cp)
      | none => none
    else none
  | some (.array _ e), some z => match szOf P e with
    | some n => match cParts (fun i => some (i * n, n)) parts with
      | some cp => some (.agg z cp)
      | none => none
    | none => none
  | _, _ => none

section
variable {P : Program} {ρ : Ren} {L : Nat → Bool} {t : T} {a : Act}

theorem fold_set (off : Nat) : ∀ (vs : List Value) (k : Nat) (cs : List Value), off + k + vs.length ≤ cs.length →
    (vs.zipIdx k).foldl (fun (cs : Array Value) (x : Value × Nat) => cs.setIfInBounds (off + x.2) x.1) cs.toArray = (cs.take (off + k) ++ vs ++ cs.drop (off + k + vs.length)).toArray := by
  intro vs
  induction vs with
  | nil => intro k cs h; simp
  | cons v vs ih =>
    intro k cs h
    simp only [List.length_cons] at h
    have e : (cs.toArray.setIfInBounds (off + k) v) = (cs.set (off + k) v).toArray := by simp
    rw [List.zipIdx_cons, List.foldl_cons]
    simp only []
    rw [e, ih (k + 1) (cs.set (off + k) v) (by simp; omega)]
    congr 1
    have h1 : (cs.set (off + k) v).take (off + (k + 1)) = cs.take (off + k) ++ [v] := by
      rw [← Nat.add_assoc, List.take_add_one, List.take_set_of_le (by omega), List.getElem?_set_self (by omega)]
      rfl
    rw [h1, List.drop_set_of_lt (by omega)]
    simp [Nat.add_assoc, Nat.add_comm 1]

theorem scpL_append (L : Nat → Bool) (l k : List Value) : scpL L (l ++ k) = (scpL L l && scpL L k) := by
  induction l with
  | nil => simp [scpL]
  | cons x l ih => simp [scpL, ih, Bool.and_assoc]

theorem scpL_take {L : Nat → Bool} {l : List Value} (n : Nat) (h : scpL L l = true) : scpL L (l.take n) = true := by
  rw [scpL_all, List.all_eq_true] at h ⊢
  exact fun v hv => h v (List.mem_of_mem_take hv)

theorem scpL_drop {L : Nat → Bool} {l : List Value} (n : Nat) (h : scpL L l = true) : scpL L (l.drop n) = true := by
  rw [scpL_all, List.all_eq_true] at h ⊢
  exact fun v hv => h v (List.mem_of_mem_drop hv)

theorem scp_cells {L : Nat → Bool} {v : Value} (h : scp L v = true) : scpL L v.cells.toList = true := by
  cases v <;> first
    | (simp only [Value.cells]; simpa [scpL] using h)
    | (rename_i cs; obtain ⟨l⟩ := cs; simpa [scp, scpA, Value.cells] using h)

theorem map_plain {ρ : Ren} : ∀ {l : List Value}, scpL nil l = true → l.map (conc ρ) = l
  | [], _ => rfl
  | x :: l, h => by
    simp only [scpL, Bool.and_eq_true] at h
    simp [conc_zero ρ x h.1, map_plain h.2]

theorem scpL_nil {L : Nat → Bool} {l : List Value} (h : scpL nil l = true) : scpL L l = true := scpL_mono (fun b hb => by cases hb) l h

theorem fill_run (tr : TRel ρ L t a) {place : Nat → Option (Nat × Nat)} : ∀ (l : List (Nat × Operand)) (cp : List (Nat × Nat × Operand)) (cs out : List Value), cParts place l = some cp → evFill t cp cs = some out → scpL L cs = true →
    Instr.fill place (cs.map (conc ρ)).toArray (l.map fun x => (x.1, a.eval x.2)) = some (out.map (conc ρ)).toArray ∧ scpL L out = true := by
  intro l
  induction l with
  | nil =>
    intro cp cs out hc he hs
    simp only [cParts] at hc
    injection hc with hc
    subst hc
    simp only [evFill] at he
    injection he with he
    subst he
    exact ⟨rfl, hs⟩
  | cons x l ih =>
    intro cp cs out hc he hs
    obtain ⟨i, x⟩ := x
    simp only [cParts] at hc
    split at hc
    · rename_i o n r hp hr
      injection hc with hc
      subst hc
      simp only [evFill] at he
      split at he
      · rename_i v hv
        split at he
        · rename_i hsz
          have vr := evalO_VR tr hv
          have hcs : scpL L (cs.take o ++ v.cells.toList ++ cs.drop (o + n)) = true := by
            rw [scpL_append, scpL_append, scpL_take _ hs, scpL_drop _ hs, scp_cells vr.1]
            rfl
          obtain ⟨h1, h2⟩ := ih r _ out hr he hcs
          refine ⟨?_, h2⟩
          simp only [List.map_cons, Instr.fill, hp]
          have e1 : (a.eval x).cells = v.cells.map (conc ρ) := by rw [vr.2, conc_cells]
          have e2 : (a.eval x).cells.size = n := by rw [e1, Array.size_map]; exact hsz.1
          have e3 : ¬ ((a.eval x).cells.size ≠ n || o + (a.eval x).cells.size > (cs.map (conc ρ)).toArray.size) = true := by
            rw [e2]
            simp
            omega
          rw [if_neg e3]
          have e4 : (a.eval x).cells.zipIdx.foldl (fun cs (x : Value × Nat) => cs.setIfInBounds (o + x.2) x.1) (cs.map (conc ρ)).toArray = ((cs.take o ++ v.cells.toList ++ cs.drop (o + n)).map (conc ρ)).toArray := by
            rw [e1, ← Array.foldl_toList, Array.toList_zipIdx, Array.toList_map]
            have := fold_set o (v.cells.toList.map (conc ρ)) 0 (cs.map (conc ρ)) (by simp; omega)
            rw [this]
            simp [List.map_take, List.map_drop, hsz.1]
          rw [e4]
          exact h1
        · cases he
      · cases he
    · cases hc

theorem zeroOf_run {ty : TypeId} {z : List Value} (h : zeroOf P ty = some z) : scpL nil z = true ∧ ∃ v : Value, v.cells = z.toArray ∧ ∀ w, (zeroValue ty).run P w = .ok v w := by
  unfold zeroOf at h
  split at h
  · rename_i i hi
    split at h
    · rename_i v hv
      split at h
      · rename_i hp
        injection h with h
        subst h
        refine ⟨by rw [scpA_all] at hp; rw [scpL_all]; exact hp, v, by simp, fun w => ?_⟩
        simp [zeroValue, typeInfo, hi, hv]
      · cases h
    · cases h
  · cases h

theorem run_mapM_list {α β : Type} (f : α → Sem β) (g : α → β) (w : World) : ∀ (l : List α), (∀ x ∈ l, (f x).run P w = .ok (g x) w) → (l.mapM f).run P w = .ok (l.map g) w
  | [], _ => rfl
  | x :: l, h => by
    rw [List.mapM_cons]
    simp [h x (List.mem_cons_self ..), run_mapM_list f g w l (fun y hy => h y (List.mem_cons_of_mem _ hy))]

theorem run_places {fields : Array Field} (h : fields.toList.all (fun f => (szOf P f.type).isSome) = true) (w : World) : (fields.mapM fun f => do pure (f.offset, ← sizeOf f.type) : Sem _).run P w = .ok (placesOf P fields) w := by
  rw [Array.mapM_eq_mapM_toList]
  simp only [Sem.run_map]
  rw [run_mapM_list _ (fun f => (f.offset, (szOf P f.type).getD 0)) w fields.toList (fun f hf => ?_)]
  · simp only [Result.andThen_ok, placesOf]
    congr 1
    rw [← List.map_toArray, Array.toArray_toList]
  · have := List.all_eq_true.1 h f hf
    obtain ⟨n, hn⟩ := Option.isSome_iff_exists.1 this
    simp [run_sizeOf hn, hn]

theorem s_agg {o : Oper} {ty : TypeId} {parts : Array (Nat × Operand)} {ao : AOp} {v : Value} (ho : o.op = .build ty parts) (hc : cBuild P ty parts.toList = some ao) (tr : TRel ρ L t a) (hv : evP P t ao = some v) : ∃ u, VR ρ L v u ∧ Yields0 P a o u := by
  unfold cBuild at hc
  split at hc
  · rename_i fields z hu hz
    obtain ⟨pz, zv, hzc, hzr⟩ := zeroOf_run hz
    split at hc
    · rename_i hall
      split at hc
      · rename_i cp hcp
        injection hc with hc
        subst hc
        simp only [evP] at hv
        split at hv
        · rename_i out ho2
          injection hv with hv
          subst hv
          obtain ⟨h1, h2⟩ := fill_run tr parts.toList cp z out hcp ho2 (scpL_nil pz)
          rw [map_plain pz] at h1
          refine ⟨.agg (out.map (conc ρ)).toArray, ⟨by simp [scp, scpA, h2], by simp [conc, concA, concL_map]⟩, fun w => ?_⟩
          unfold execOp
          simp only [ho]
          refine run_val ?_
          have e1 : (parts.map fun x => (x.1, a.eval x.2)).toList = parts.toList.map fun x => (x.1, a.eval x.2) := by simp
          simp only [Instr.build, Sem.run_bind, hzr w, Result.andThen_ok, run_underlying hu, run_places hall w, hzc]
          rw [e1, h1]
          rfl
        · cases hv
      · cases hc
    · cases hc
  · rename_i k e z hu hz
    obtain ⟨pz, zv, hzc, hzr⟩ := zeroOf_run hz
    split at hc
    · rename_i n hn
      split at hc
      · rename_i cp hcp
        injection hc with hc
        subst hc
        simp only [evP] at hv
        split at hv
        · rename_i out ho2
          injection hv with hv
          subst hv
          obtain ⟨h1, h2⟩ := fill_run tr parts.toList cp z out hcp ho2 (scpL_nil pz)
          rw [map_plain pz] at h1
          refine ⟨.agg (out.map (conc ρ)).toArray, ⟨by simp [scp, scpA, h2], by simp [conc, concA, concL_map]⟩, fun w => ?_⟩
          unfold execOp
          simp only [ho]
          refine run_val ?_
          have e1 : (parts.map fun x => (x.1, a.eval x.2)).toList = parts.toList.map fun x => (x.1, a.eval x.2) := by simp
          simp only [Instr.build, Sem.run_bind, hzr w, Result.andThen_ok, run_underlying hu, run_sizeOf hn w, hzc]
          rw [e1, h1]
          rfl
        · cases hv
      · cases hc
    · cases hc
  · cases hc

end
end Abs
end Go.Proofs.Ytekhadlpcdjlpaa
