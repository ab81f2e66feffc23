/- Operations that read. -/
import Derived.Test.YtekhadlpcdjlpaaAbs6
namespace Go.Proofs.Ytekhadlpcdjlpaa
namespace Abs
open Go
set_option linter.unusedVariables false
set_option linter.unusedSimpArgs false

def rdRow (h : AH) (b : Nat) : Option (List Value) := match h[b]? with
  | some (.cells vs _ _) => some vs
  | some (.row vs) => some vs
  | _ => none

def rdCells (h : AH) (b o n : Nat) : Option (List Value) := match rdRow h b with
  | some vs => if o + n ≤ vs.length then some ((vs.drop o).take n) else none
  | none => none

/-- Are two keys alike; none: who knows. -/
def keyEq (str : Bool) (x y : Value) : Option Bool := match x, y with
  | .int k a, .int k' b => if str = false ∧ k = k' then some (a == b) else none
  | .string a, .string b => if str = true then some (a.data.toList == b.data.toList) else none
  | _, _ => none

/-- The entry of a key: where it stands, its value. -/
def findA (str : Bool) (k : Value) : List MapEntry → Nat → Option (Option (Nat × Value))
  | [], _ => some none
  | e :: es, i => match keyEq str k e.key with
    | some true => some (some (i, e.val))
    | some false => findA str k es (i + 1)
    | none => none

def mapAt (h : AH) (r : Nat) : Option (List MapEntry × Nat) := match h[r]? with
  | some (.map es c) => some (es, c)
  | _ => none

/-- What an operation gives that reads. -/
def evR (t : T) (h : AH) : AOp → Option Value
  | .ld none x => match evalO t x with
    | some (.pointer (some ⟨b, o, none⟩)) => match rdRow h b with
      | some vs => vs[o]?
      | none => none
    | _ => none
  | .ld (some n) x => match evalO t x with
    | some (.pointer (some ⟨b, o, none⟩)) => match rdCells h b o n with
      | some l => some (.agg l.toArray)
      | none => none
    | _ => none
  | .look str zero m k ok => match evalO t m, evalO t k with
    | some (.map none), some kv => if ok then some (.tuple #[zero, .bool false]) else some zero
    | some (.map (some r)), some kv => match mapAt h r with
      | some (es, _) => match findA str kv es 0 with
        | some (some (_, v)) => some (if ok then .tuple #[v, .bool true] else v)
        | some none => some (if ok then .tuple #[zero, .bool false] else zero)
        | none => none
      | none => none
    | _, _ => none
  | .mlen x => match evalO t x with
    | some (.map none) => some (.int .i64 0)
    | some (.map (some r)) => match mapAt h r with
      | some (es, _) => some (.int .i64 es.length)
      | none => none
    | _ => none
  | _ => none

/-- The type's keys are numbers, or texts. -/
def keyKind (P : Program) (k : TypeId) : Option Bool := match P.underlying k with
  | some (.int _) => some false
  | some .string => some true
  | _ => none

def cLook (P : Program) (t : TypeId) (m k : Operand) (ok : Bool) : Option AOp := match P.underlying t with
  | some (.map kt e) => match keyKind P kt, P.info? e with
    | some str, some i => match i.zero with
      | some z => if plain z then some (.look str z m k ok) else none
      | none => none
    | _, _ => none
  | _ => none

section
variable {P : Program} {ρ : Ren} {L : Nat → Bool} {t : T} {a : Act} {h : AH} {w : World}

/-- In this world the operation hands back u, and changes nothing. -/
def YieldsR (P : Program) (a : Act) (o : Oper) (w : World) (u : Value) : Prop := (execOp a.eval o).run P w = .ok (.value u) w

theorem rdRow_cell (r : Rel ρ h w) {b o : Nat} {vs : List Value} {v : Value} (hb : rdRow h b = some vs) (hv : vs[o]? = some v) : w.cell? ⟨(ρ b).blk, (ρ b).off + o, none⟩ = some (conc ρ v) ∧ scp (live h) v = true := by
  unfold rdRow at hb
  split at hb
  · rename_i vs' e opn hk
    injection hb with hb
    subst hb
    obtain ⟨pre, ex, h1, h0, h2⟩ := r.holds b _ hk
    refine ⟨?_, r.scope b _ hk v (List.mem_of_getElem? hv)⟩
    have hlt : o < vs'.length := (List.getElem?_eq_some_iff.1 hv).1
    simp only [World.cell?, h1, Option.isSome_none, Bool.false_eq_true, if_false]
    rw [List.getElem?_toArray, ← h0, List.append_assoc, List.getElem?_append_right (by omega), Nat.add_sub_cancel_left, List.getElem?_append_left (by simpa using hlt), List.getElem?_map, hv]
    rfl
  · rename_i vs' hk
    injection hb with hb
    subst hb
    exact ⟨r.holds b _ hk o v hv, r.scope b _ hk v (List.mem_of_getElem? hv)⟩
  · cases hb

theorem cell_plain {b o j : Nat} (w : World) : w.cell? ((⟨b, o, none⟩ : Addr).add j) = w.cell? ⟨b, o + j, none⟩ := by rw [add_none]

theorem rdCells_run (r : Rel ρ h w) {b o n : Nat} {l : List Value} (hl : rdCells h b o n = some l) : (loadCells (cAddr ρ ⟨b, o, none⟩) n).run P w = .ok (l.map (conc ρ)).toArray w ∧ scpL (live h) l = true ∧ l.length = n := by
  unfold rdCells at hl
  split at hl
  · rename_i vs hb
    split at hl
    · rename_i hle
      injection hl with hl
      have hlen : l.length = n := by rw [← hl]; simp; omega
      have hget : ∀ j v, l[j]? = some v → vs[o + j]? = some v := by
        intro j v hj
        rw [← hl, List.getElem?_take] at hj
        split at hj
        · rw [List.getElem?_drop] at hj
          exact hj
        · cases hj
      refine ⟨?_, ?_, hlen⟩
      · have := run_loadCells_list (P := P) (w := w) (cAddr ρ ⟨b, o, none⟩) (l.map (conc ρ)) (fun j v hj => by
          rw [List.getElem?_map] at hj
          cases hlj : l[j]? with
          | none => rw [hlj] at hj; cases hj
          | some x =>
            rw [hlj] at hj
            injection hj with hj
            subst hj
            rw [cAddr_none, cell_plain, Nat.add_assoc]
            exact (rdRow_cell r hb (hget j x hlj)).1)
        rw [List.length_map, hlen] at this
        exact this
      · rw [scpL_all, List.all_eq_true]
        intro v hv
        obtain ⟨j, hj⟩ := List.getElem?_of_mem hv
        exact (rdRow_cell r hb (hget j v hj)).2
    · cases hl
  · cases hl

theorem s_ld {o : Oper} {ty : TypeId} {x : Operand} {ag : Option Nat} {v : Value} (ho : o.op = .load ty x) (hc : aggOf P ty = some ag) (r : Rel ρ h w) (tr : TRel ρ (live h) t a) (hv : evR t h (.ld ag x) = some v) : ∃ u, VR ρ (live h) v u ∧ YieldsR P a o w u := by
  have hag := aggOf_run hc w
  cases ag with
  | none =>
    simp only [evR] at hv
    split at hv
    · rename_i b off hx
      split at hv
      · rename_i vs hb
        have vr := evalO_VR tr hx
        have e1 : a.eval x = .pointer (some ⟨(ρ b).blk, (ρ b).off + off, none⟩) := vr.2
        obtain ⟨h1, h2⟩ := rdRow_cell r hb hv
        refine ⟨conc ρ v, ⟨h2, rfl⟩, ?_⟩
        unfold YieldsR execOp
        simp only [ho, e1]
        refine run_val ?_
        simp [Instr.loadAt, Instr.sureAddr, loadVar, hag.1, h1]
      · cases hv
    · cases hv
  | some n =>
    simp only [evR] at hv
    split at hv
    · rename_i b off hx
      split at hv
      · rename_i l hl
        injection hv with hv
        subst hv
        have vr := evalO_VR tr hx
        have e1 : a.eval x = .pointer (some (cAddr ρ ⟨b, off, none⟩)) := vr.2
        obtain ⟨h1, h2, h3⟩ := rdCells_run (P := P) r hl
        refine ⟨.agg (l.map (conc ρ)).toArray, ⟨by simp [scp, scpA, h2], by simp [conc, concA, concL_map]⟩, ?_⟩
        unfold YieldsR execOp
        simp only [ho, e1]
        refine run_val ?_
        simp [Instr.loadAt, Instr.sureAddr, loadVar, hag.1, hag.2 n rfl, h1]
      · cases hv
    · cases hv


theorem bytes_beq (x y : ByteArray) : (x == y) = (x.data.toList == y.data.toList) := by
  cases x with | mk p =>
  cases y with | mk q =>
  show (p == q) = _
  rw [Bool.eq_iff_iff]
  simp only [beq_iff_eq]
  exact ⟨fun e => by rw [e], fun e => Array.ext' e⟩

/-- The kind of a map's keys. -/
def kkOk (str : Bool) (d : TypeDesc) : Prop := (str = false ∧ ∃ k, d = .int k) ∨ (str = true ∧ d = .string)

theorem keyKind_ok {kt : TypeId} {str : Bool} (hk : keyKind P kt = some str) : ∃ d, P.underlying kt = some d ∧ kkOk str d := by
  unfold keyKind at hk
  split at hk
  · rename_i k hu
    injection hk with hk
    exact ⟨_, hu, .inl ⟨hk.symm, k, rfl⟩⟩
  · rename_i hu
    injection hk with hk
    exact ⟨_, hu, .inr ⟨hk.symm, rfl⟩⟩
  · cases hk

theorem checkKey_run {kt : TypeId} {d : TypeDesc} {str : Bool} (hu : P.underlying kt = some d) (hd : kkOk str d) (e : Bool) (v : Value) (w : World) : (Instr.checkKey e 10000 kt v).run P w = .ok () w := by
  rw [show (10000 : Nat) = 9999 + 1 from rfl, Instr.checkKey]
  rcases hd with ⟨_, k, rfl⟩ | ⟨_, rfl⟩ <;> simp [run_underlying hu]

theorem keyEq_now {str : Bool} {d : TypeDesc} (hd : kkOk str d) {x y : Value} {b : Bool} (h : keyEq str x y = some b) : Instr.sameNow d (conc ρ x) (conc ρ y) = some b := by
  unfold keyEq at h
  split at h
  · split at h
    · rename_i hc
      injection h with h
      subst h
      rcases hd with ⟨_, k, rfl⟩ | ⟨hd, _⟩
      · simp [conc, Instr.sameNow, hc.2]
      · rw [hc.1] at hd; cases hd
    · cases h
  · split at h
    · rename_i hc
      injection h with h
      subst h
      rcases hd with ⟨hd, _⟩ | ⟨_, rfl⟩
      · rw [hc] at hd; cases hd
      · simp [conc, Instr.sameNow, bytes_beq]
    · cases h
  · cases h

theorem findA_now {str : Bool} {d : TypeDesc} (hd : kkOk str d) {k : Value} : ∀ (es : List MapEntry) (i : Nat) (r : Option (Nat × Value)), findA str k es i = some r → Instr.findNow d (conc ρ k) (es.map (concEntry ρ)) i = some (r.map fun x => (x.1, conc ρ x.2)) := by
  intro es
  induction es with
  | nil =>
    intro i r h
    simp only [findA] at h
    injection h with h
    subst h
    rfl
  | cons e es ih =>
    intro i r h
    simp only [findA] at h
    split at h
    · rename_i he
      injection h with h
      subst h
      simp [Instr.findNow, concEntry, keyEq_now hd he]
    · rename_i he
      have := ih _ _ h
      simp [Instr.findNow, concEntry, keyEq_now hd he]
      exact this
    · cases h

theorem findKey_run {str : Bool} {d : TypeDesc} {kt : TypeId} (hu : P.underlying kt = some d) (hd : kkOk str d) {k : Value} {es : List MapEntry} {r : Option (Nat × Value)} (hf : findA str k es 0 = some r) (w : World) :
    (Instr.findKey kt (conc ρ k) (es.map (concEntry ρ))).run P w = .ok (r.map fun x => (x.1, conc ρ x.2)) w := by
  unfold Instr.findKey
  simp [run_underlying hu, findA_now hd es 0 r hf]

theorem findA_mem {str : Bool} {k : Value} : ∀ (es : List MapEntry) (i : Nat) (j : Nat) (v : Value), findA str k es i = some (some (j, v)) → i ≤ j ∧ ∃ e, es[j - i]? = some e ∧ e.val = v ∧ keyEq str k e.key = some true := by
  intro es
  induction es with
  | nil =>
    intro i j v h
    simp [findA] at h
  | cons e es ih =>
    intro i j v h
    simp only [findA] at h
    split at h
    · rename_i he
      injection h with h
      injection h with h
      injection h with h1 h2
      subst h1
      exact ⟨Nat.le_refl _, e, by simp, h2, he⟩
    · obtain ⟨h1, e', h2, h3⟩ := ih _ _ _ h
      refine ⟨by omega, e', ?_, h3⟩
      rw [show j - i = (j - (i + 1)) + 1 by omega]
      simpa using h2
    · cases h

theorem run_getObj_map {b : Nat} {es : Array MapEntry} {c : Nat} {w : World} (h : w.heap[b]? = some (.map es c)) : (getObj b).run P w = .ok (.map es c) w := by
  simp [getObj, Sem.run, h]

theorem mapAt_heap (r : Rel ρ h w) {b : Nat} {es : List MapEntry} {c : Nat} (hb : mapAt h b = some (es, c)) : h[b]? = some (.map es c) ∧ w.heap[(ρ b).blk]? = some (.map (es.map (concEntry ρ)).toArray c) := by
  unfold mapAt at hb
  split at hb
  · rename_i es' c' hk
    injection hb with hb
    injection hb with h1 h2
    subst h1 h2
    exact ⟨hk, r.holds b _ hk⟩
  · cases hb

theorem s_look {o : Oper} {ty : TypeId} {m k : Operand} {ok : Bool} {ao : AOp} {v : Value} (ho : o.op = .lookup ty m k ok) (hc : cLook P ty m k ok = some ao) (r : Rel ρ h w) (tr : TRel ρ (live h) t a) (hv : evR t h ao = some v) : ∃ u, VR ρ (live h) v u ∧ YieldsR P a o w u := by
  unfold cLook at hc
  split at hc
  case h_2 => cases hc
  rename_i kt e hu
  split at hc
  case h_2 => cases hc
  rename_i str i hk hi
  split at hc
  case h_2 => cases hc
  rename_i z hz
  split at hc
  case isFalse => cases hc
  rename_i hp
  injection hc with hc
  subst hc
  obtain ⟨d, hd, hkk⟩ := keyKind_ok hk
  have hzr : ∀ w, (zeroValue e).run P w = .ok z w := fun w => by simp [zeroValue, typeInfo, hi, hz]
  simp only [evR] at hv
  split at hv
  · rename_i kv hm hkv
    have e1 : a.eval m = .map none := (evalO_VR tr hm).2
    have hpv : plain v = true ∧ v = if ok then .tuple #[z, .bool false] else z := by
      cases ok
      · simp at hv; subst hv; exact ⟨hp, rfl⟩
      · simp at hv; subst hv; exact ⟨by simp [scp, scpA, scpL, hp], rfl⟩
    refine ⟨v, VR.plain hpv.1, ?_⟩
    unfold YieldsR execOp
    simp only [ho, e1]
    refine run_val ?_
    have hf : (Instr.findKey kt (a.eval k) ([] : List MapEntry)).run P w = .ok none w := by
      unfold Instr.findKey
      simp [run_underlying hd, Instr.findNow]
    simp only [Instr.lookup, Sem.run_bind, run_underlying hu, Result.andThen_ok, Sem.run_pure, checkKey_run hd hkk, hf, hzr]
    rw [hpv.2]
  · rename_i b kv hm hkv
    split at hv
    case h_2 => cases hv
    rename_i es c hes
    obtain ⟨hb, hheap⟩ := mapAt_heap r hes
    have e1 : a.eval m = .map (some (ρ b).blk) := (evalO_VR tr hm).2
    have e2 : a.eval k = conc ρ kv := (evalO_VR tr hkv).2
    split at hv
    · rename_i j x hf
      injection hv with hv
      obtain ⟨_, en, hen, hval, _⟩ := findA_mem es 0 j x hf
      have hsx : scp (live h) x = true := by
        have := (r.scope b _ hb en (List.mem_of_getElem? hen)).2
        rw [hval] at this
        exact this
      refine ⟨if ok then .tuple #[conc ρ x, .bool true] else conc ρ x, ⟨?_, ?_⟩, ?_⟩
      · subst hv
        cases ok <;> simp [scp, scpA, scpL, hsx]
      · subst hv
        cases ok <;> simp [conc, concA, concL]
      · unfold YieldsR execOp
        simp only [ho, e1, e2]
        refine run_val ?_
        simp only [Instr.lookup, Sem.run_bind, run_underlying hu, Result.andThen_ok, Sem.run_pure, checkKey_run hd hkk, run_getObj_map hheap, findKey_run hd hkk hf]
        rfl
    · rename_i hf
      injection hv with hv
      refine ⟨v, ?_, ?_⟩
      · subst hv
        cases ok
        · exact VR.plain hp
        · exact VR.plain (by simp [scp, scpA, scpL, hp])
      · unfold YieldsR execOp
        simp only [ho, e1, e2]
        refine run_val ?_
        simp only [Instr.lookup, Sem.run_bind, run_underlying hu, Result.andThen_ok, Sem.run_pure, checkKey_run hd hkk, run_getObj_map hheap, findKey_run hd hkk hf, Option.map_none, hzr]
        rw [← hv]
    · cases hv
  · cases hv

theorem s_mlen {o : Oper} {ty kt e : TypeId} {x : Operand} {v : Value} (ho : o.op = .call { callee := .builtin .len, args := #[x], argTypes := #[ty] }) (hu : P.underlying ty = some (.map kt e)) (r : Rel ρ h w) (tr : TRel ρ (live h) t a) (hv : evR t h (.mlen x) = some v) : ∃ u, VR ρ (live h) v u ∧ YieldsR P a o w u := by
  simp only [evR] at hv
  split at hv
  · rename_i hx
    injection hv with hv
    subst hv
    have e1 : a.eval x = .map none := (evalO_VR tr hx).2
    refine ⟨_, VR.plain rfl, ?_⟩
    unfold YieldsR
    rw [exec_builtin ho]
    simp [builtin, e1, Builtin.len_, run_underlying hu, goInt]
  · rename_i b hx
    split at hv
    case h_2 => cases hv
    rename_i es c hes
    injection hv with hv
    subst hv
    obtain ⟨hb, hheap⟩ := mapAt_heap r hes
    have e1 : a.eval x = .map (some (ρ b).blk) := (evalO_VR tr hx).2
    refine ⟨_, VR.plain rfl, ?_⟩
    unfold YieldsR
    rw [exec_builtin ho]
    simp [builtin, e1, Builtin.len_, run_underlying hu, goInt, run_getObj_map hheap]
  · cases hv

end
end Abs
end Go.Proofs.Ytekhadlpcdjlpaa
