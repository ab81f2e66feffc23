/- The operations of a program, their types resolved; those that neither read nor write are sound. -/
import Derived.Test.YtekhadlpcdjlpaaAbs3
namespace Go.Proofs.Ytekhadlpcdjlpaa
namespace Abs
open Go
set_option linter.unusedVariables false
set_option linter.unusedSimpArgs false

def szOf (P : Program) (t : TypeId) : Option Nat := (P.info? t).map (·.size)
def aggOf (P : Program) (t : TypeId) : Option (Option Nat) := match P.underlying t, P.info? t with
  | some (.struct _), some i | some (.array _ _), some i => some (some i.size)
  | some _, some _ => some none
  | _, _ => none

def eqOf (k : EK) (op : BinOp) (x y : Operand) : Option AOp := match op with
  | .eql => some (.eq k false x y)
  | .neq => some (.eq k true x y)
  | _ => none

def cBin (P : Program) (op : BinOp) (t : TypeId) (x y : Operand) : Option AOp := match P.underlying t with
  | some (.int _) | some .string => some (.bin op x y)
  | some .bool => eqOf .bool op x y
  | some (.pointer _) => eqOf .ptr op x y
  | some (.slice _) => eqOf .slc op x y
  | some (.map _ _) => eqOf .map op x y
  | some (.func _ _ _) => eqOf .fn op x y
  | some (.struct _) | some (.array _ _) => some (.geq op t x y)
  | _ => none

def cConv (P : Program) (src dst : TypeId) (x : Operand) : Option AOp := match P.underlying src, P.underlying dst with
  | some (.int _), some (.int k) => some (.cvt k x)
  | _, _ => none

def cField (P : Program) (s : TypeId) (f : Nat) : Option Field := match P.underlying s with
  | some (.struct fs) => fs[f]?
  | _ => none

def cOff (P : Program) (s : TypeId) (x : Operand) (f : Nat) : Option AOp := match cField P s f with
  | some fl => match szOf P fl.type with
    | some (n + 1) => some (.off fl.offset x)
    | _ => none
  | none => none

def cIdx (P : Program) (t : TypeId) (x i : Operand) : Option AOp := match P.underlying t with
  | some (.slice e) => match szOf P e with
    | some n => some (.idx n x i)
    | none => none
  | some (.array len e) => match szOf P e with
    | some n => some (.idxA len n x i)
    | none => none
  | _ => none

def cPart (P : Program) (s : TypeId) (x : Operand) (f : Nat) : Option AOp := match cField P s f with
  | some fl => match aggOf P fl.type with
    | some a => some (.part fl.offset a x)
    | none => none
  | none => none

def cPartI (P : Program) (t : TypeId) (x i : Operand) : Option AOp := match P.underlying t with
  | some (.array len e) => match aggOf P e with
    | some none => match szOf P e with
      | some n => some (.partI len n false x i)
      | none => none
    | some (some n) => some (.partI len n true x i)
    | none => none
  | some .string => some (.sIdx x i)
  | _ => none

def cSlice (P : Program) (t : TypeId) (x : Operand) (lo hi mx : Option Operand) : Option AOp := match P.underlying t with
  | some (.slice e) => match szOf P e with
    | some n => some (.sub n x lo hi mx)
    | none => none
  | some .string => match mx with
    | none => some (.subS x lo hi)
    | some _ => none
  | some (.array len e) => match szOf P e with
    | some n => some (.subA len n x lo hi mx)
    | none => none
  | _ => none

section
variable {P : Program} {ρ : Ren} {L : Nat → Bool} {t : T} {a : Act}

/-- An operation that neither reads nor writes is sound. -/
def Sound (P : Program) (ρ : Ren) (L : Nat → Bool) (a : Act) (op : Op) (ty : TypeId) (pos : String) (v : Value) : Prop :=
  ∃ u, VR ρ L v u ∧ ∀ (o : Oper), o.op = op → o.type = ty → ∀ w, (execOp a.eval o).run P w = .ok (.value u) w

theorem run_val {s : Sem Value} {u : Value} {w w' : World} (h : s.run P w = .ok u w') : (do pure (Next.value (← s)) : Sem Go.Next).run P w = .ok (.value u) w' := by
  simp [h]

theorem data_toList (s : ByteArray) : s.toList = s.data.toList := by
  exact ByteArray.toList_eq s

theorem run_bin {op : BinOp} {ty : TypeId} {x y v : Value} (h : evBin op x y = some v) (w : World) : (binOp op ty x y).run P w = .ok v w := by
  unfold evBin at h
  split at h
  · rename_i k a k' b
    split at h
    · split at h
      · cases h
      · rename_i hb
        injection h with h
        subst h
        simp [binOp, Op.shift, hb]
    · split at h
      · cases h
      · rename_i hb
        injection h with h
        subst h
        simp [binOp, Op.shift, hb]
    · rename_i op h1 h2
      split at h
      · rename_i hk
        subst hk
        split at h <;> first
          | (cases h; done)
          | (injection h with h; subst h; simp [binOp, Op.intArith, Op.intBits, Op.intCmp]; done)
          | (split at h
             · cases h
             · rename_i hb
               injection h with h
               subst h
               simp [binOp, Op.intDiv, hb])
      · cases h
  · rename_i a b
    split at h <;> first
      | (cases h; done)
      | (injection h with h; subst h; simp [binOp, Op.stringOp, data_toList]; done)
      | (split at h
         · cases h
         · rename_i hb
           injection h with h
           subst h
           simp only [binOp, Op.stringOp, if_neg hb]
           rfl)
  · cases h

theorem guard_plain {op : BinOp} {ty : TypeId} {x y : Operand} {a b : Value} (w : World) (ha : ∀ cs, a ≠ .agg cs) (hn : a ≠ .nilIface) : (eqGuard op ty x y a b).run P w = .ok () w := by
  unfold eqGuard
  cases a <;> first
    | exact absurd rfl hn
    | exact absurd rfl (ha _)
    | (cases op <;> rfl)


/-- In whatever world the operation hands back u, and changes nothing. -/
def Yields0 (P : Program) (a : Act) (o : Oper) (u : Value) : Prop := ∀ w, (execOp a.eval o).run P w = .ok (.value u) w

theorem s_mv {o : Oper} {x : Operand} {v : Value} (ho : o.op = .move x ∨ o.op = .assign x) (tr : TRel ρ L t a) (hv : evP P t (.mv x) = some v) : ∃ u, VR ρ L v u ∧ Yields0 P a o u := by
  refine ⟨a.eval x, evalO_VR tr hv, fun w => ?_⟩
  rcases ho with ho | ho <;> (unfold execOp; simp only [ho]; rfl)

theorem s_pick {o : Oper} {c x y : Operand} {v : Value} (ho : o.op = .pick c x y) (tr : TRel ρ L t a) (hv : evP P t (.pick c x y) = some v) : ∃ u, VR ρ L v u ∧ Yields0 P a o u := by
  simp only [evP, onB] at hv
  split at hv
  · rename_i hc
    have h1 : a.eval c = .bool true := (evalO_VR tr hc).2
    refine ⟨a.eval x, evalO_VR tr hv, fun w => ?_⟩
    unfold execOp
    simp only [ho, h1]
    rfl
  · rename_i hc
    have h1 : a.eval c = .bool false := (evalO_VR tr hc).2
    refine ⟨a.eval y, evalO_VR tr hv, fun w => ?_⟩
    unfold execOp
    simp only [ho, h1]
    rfl
  · cases hv

theorem evBin_plain {op : BinOp} {x y v : Value} (h : evBin op x y = some v) : plain x = true ∧ plain y = true ∧ plain v = true ∧ (∀ cs, x ≠ .agg cs) ∧ x ≠ .nilIface := by
  unfold evBin at h
  split at h
  · refine ⟨rfl, rfl, ?_, fun cs => by simp, by simp⟩
    repeat' split at h
    all_goals first
      | (cases h; done)
      | (injection h with h; subst h; rfl)
  · refine ⟨rfl, rfl, ?_, fun cs => by simp, by simp⟩
    repeat' split at h
    all_goals first
      | (cases h; done)
      | (injection h with h; subst h; rfl)
  · cases h

theorem s_bin {o : Oper} {op : BinOp} {ty ty' : TypeId} {x y : Operand} {v : Value} (ho : o.op = .binOp op ty x y ty') (tr : TRel ρ L t a) (hv : evP P t (.bin op x y) = some v) : ∃ u, VR ρ L v u ∧ Yields0 P a o u := by
  simp only [evP] at hv
  split at hv
  · rename_i vx vy hx hy
    obtain ⟨px, py, pv, na, ni⟩ := evBin_plain hv
    have h1 : a.eval x = vx := by rw [(evalO_VR tr hx).2, conc_zero ρ vx px]
    have h2 : a.eval y = vy := by rw [(evalO_VR tr hy).2, conc_zero ρ vy py]
    refine ⟨v, VR.plain pv, fun w => ?_⟩
    unfold execOp
    simp only [ho, h1, h2]
    simp [guard_plain w na ni, run_bin hv w]
  · cases hv

theorem cOp_eq {k : EK} {op : BinOp} {x y : Operand} {ao : AOp} (h : eqOf k op x y = some ao) : (op = .eql ∧ ao = .eq k false x y) ∨ (op = .neq ∧ ao = .eq k true x y) := by
  unfold eqOf at h
  split at h
  · injection h with h; exact .inl ⟨rfl, h.symm⟩
  · injection h with h; exact .inr ⟨rfl, h.symm⟩
  · cases h

/-- What the type says of a comparison's kind. -/
def ekOk (P : Program) (ty : TypeId) : EK → Prop
  | .bool => P.underlying ty = some .bool
  | .ptr => ∃ e, P.underlying ty = some (.pointer e)
  | .slc => ∃ e, P.underlying ty = some (.slice e)
  | .map => ∃ k e, P.underlying ty = some (.map k e)
  | .fn => ∃ x y z, P.underlying ty = some (.func x y z)

theorem equal_one (ty : TypeId) (x y : Value) : Op.equal ty x y = Op.equalIn (9999 + 1) ty x y := rfl

theorem run_equal_ek {k : EK} {ty : TypeId} (hk : ekOk P ty k) {neg : Bool} {x y v : Value} (h : evEq k neg x y = some v) (w : World) : ∃ b, (Op.equal ty x y).run P w = .ok b w ∧ v = .bool (b != neg) := by
  unfold evEq at h
  split at h <;> first
    | (cases h; done)
    | (injection h with h
       subst h
       simp only [ekOk] at hk
       first
         | (obtain ⟨e, f, g, hk⟩ := hk; exact ⟨_, by rw [equal_one, Op.equalIn]; simp [run_underlying hk], rfl⟩)
         | (obtain ⟨e, f, hk⟩ := hk; exact ⟨_, by rw [equal_one, Op.equalIn]; simp [run_underlying hk], rfl⟩)
         | (obtain ⟨e, hk⟩ := hk; exact ⟨_, by rw [equal_one, Op.equalIn]; simp [run_underlying hk], rfl⟩)
         | exact ⟨_, by rw [equal_one, Op.equalIn]; simp [run_underlying hk], rfl⟩)


theorem evEq_plain {k : EK} {neg : Bool} {x y v : Value} (h : evEq k neg x y = some v) : (∀ cs, x ≠ .agg cs) ∧ x ≠ .nilIface ∧ (∃ b, v = .bool b) ∧ (∀ j p, x ≠ .int j p) ∧ (∀ j p, x ≠ .float j p) ∧ (∀ j p q, x ≠ .complex j p q) ∧ (∀ s, x ≠ .string s) := by
  unfold evEq at h
  split at h <;> first
    | (cases h; done)
    | (injection h with h; subst h; refine ⟨by simp, by simp, ⟨_, rfl⟩, by simp, by simp, by simp, by simp⟩)

theorem conc_eqv (k : EK) (neg : Bool) (x y : Value) (ρ : Ren) : evEq k neg (conc ρ x) (conc ρ y) = evEq k neg x y := by
  have hx : ∀ z : Value, (conc ρ z = .nilFunc ↔ z = .nilFunc) := fun z => by
    cases z with
    | pointer a => cases a <;> simp [conc]
    | slice a _ _ => cases a <;> simp [conc]
    | map a => cases a <;> simp [conc]
    | chan a => cases a <;> simp [conc]
    | _ => simp [conc]
  cases x with
  | pointer a =>
    cases a <;> cases y with
    | pointer b => cases b <;> cases k <;> simp [conc, evEq]
    | slice b _ _ => cases b <;> cases k <;> simp [conc, evEq]
    | map b => cases b <;> cases k <;> simp [conc, evEq]
    | chan b => cases b <;> cases k <;> simp [conc, evEq]
    | _ => cases k <;> simp [conc, evEq]
  | slice a _ _ =>
    cases a <;> cases y with
    | pointer b => cases b <;> cases k <;> simp [conc, evEq]
    | slice b _ _ => cases b <;> cases k <;> simp [conc, evEq]
    | map b => cases b <;> cases k <;> simp [conc, evEq]
    | chan b => cases b <;> cases k <;> simp [conc, evEq]
    | _ => cases k <;> simp [conc, evEq]
  | map a =>
    cases a <;> cases y with
    | pointer b => cases b <;> cases k <;> simp [conc, evEq]
    | slice b _ _ => cases b <;> cases k <;> simp [conc, evEq]
    | map b => cases b <;> cases k <;> simp [conc, evEq]
    | chan b => cases b <;> cases k <;> simp [conc, evEq]
    | _ => cases k <;> simp [conc, evEq]
  | chan a =>
    cases a <;> cases y with
    | pointer b => cases b <;> cases k <;> simp [conc, evEq]
    | slice b _ _ => cases b <;> cases k <;> simp [conc, evEq]
    | map b => cases b <;> cases k <;> simp [conc, evEq]
    | chan b => cases b <;> cases k <;> simp [conc, evEq]
    | _ => cases k <;> simp [conc, evEq]
  | _ =>
    cases y with
    | pointer b => cases b <;> cases k <;> simp [conc, evEq]
    | slice b _ _ => cases b <;> cases k <;> simp [conc, evEq]
    | map b => cases b <;> cases k <;> simp [conc, evEq]
    | chan b => cases b <;> cases k <;> simp [conc, evEq]
    | _ => cases k <;> simp [conc, evEq]

theorem binOp_eql' {ty : TypeId} {x y : Value} (h1 : ∀ j p, x ≠ .int j p) (h2 : ∀ j p, x ≠ .float j p) (h3 : ∀ j p q, x ≠ .complex j p q) (h4 : ∀ s, x ≠ .string s) : binOp .eql ty x y = (do pure (.bool (← Op.equal ty x y))) := by
  cases x <;> first
    | exact absurd rfl (h1 _ _)
    | exact absurd rfl (h2 _ _)
    | exact absurd rfl (h3 _ _ _)
    | exact absurd rfl (h4 _)
    | rfl

theorem binOp_neq' {ty : TypeId} {x y : Value} (h1 : ∀ j p, x ≠ .int j p) (h2 : ∀ j p, x ≠ .float j p) (h3 : ∀ j p q, x ≠ .complex j p q) (h4 : ∀ s, x ≠ .string s) : binOp .neq ty x y = (do pure (.bool (!(← Op.equal ty x y)))) := by
  cases x <;> first
    | exact absurd rfl (h1 _ _)
    | exact absurd rfl (h2 _ _)
    | exact absurd rfl (h3 _ _ _)
    | exact absurd rfl (h4 _)
    | rfl

theorem s_eq {o : Oper} {op : BinOp} {ty ty' : TypeId} {x y : Operand} {k : EK} {ao : AOp} {v : Value} (ho : o.op = .binOp op ty x y ty') (hk : ekOk P ty k) (he : eqOf k op x y = some ao) (tr : TRel ρ L t a) (hv : evP P t ao = some v) : ∃ u, VR ρ L v u ∧ Yields0 P a o u := by
  rcases cOp_eq he with ⟨rfl, rfl⟩ | ⟨rfl, rfl⟩
  all_goals
    simp only [evP] at hv
    split at hv
    · rename_i vx vy hx hy
      have e1 := (evalO_VR tr hx).2
      have e2 := (evalO_VR tr hy).2
      rw [← conc_eqv _ _ _ _ ρ, ← e1, ← e2] at hv
      obtain ⟨na, ni, ⟨b, rfl⟩, h1, h2, h3, h4⟩ := evEq_plain hv
      refine ⟨.bool b, VR.plain rfl, fun w => ?_⟩
      obtain ⟨c, hc, hb⟩ := run_equal_ek hk hv w
      injection hb with hb
      subst hb
      unfold execOp
      simp only [ho]
      simp [guard_plain w na ni, binOp_eql' h1 h2 h3 h4, binOp_neq' h1 h2 h3 h4, hc]
    · cases hv

theorem s_geq {o : Oper} {op : BinOp} {ty ty' : TypeId} {x y : Operand} {v : Value} (ho : o.op = .binOp op ty x y ty') (tr : TRel ρ L t a) (hv : evP P t (.geq op ty x y) = some v) : ∃ u, VR ρ L v u ∧ Yields0 P a o u := by
  simp only [evP] at hv
  split at hv
  · rename_i vx vy hx hy
    split at hv
    · rename_i hp
      simp only [Bool.and_eq_true] at hp
      split at hv
      · rename_i z hz
        split at hv
        · rename_i hpz
          injection hv with hv
          subst hv
          have h1 : a.eval x = vx := by rw [(evalO_VR tr hx).2, conc_zero ρ vx hp.1]
          have h2 : a.eval y = vy := by rw [(evalO_VR tr hy).2, conc_zero ρ vy hp.2]
          refine ⟨z, VR.plain hpz, fun w => ?_⟩
          unfold execOp
          simp only [ho, h1, h2]
          exact run_val (pureVal_run _ hz w)
        · cases hv
      · cases hv
    · cases hv
  · cases hv

theorem s_un {o : Oper} {op : UnOp} {ty : TypeId} {x : Operand} {v : Value} (ho : o.op = .unOp op ty x) (tr : TRel ρ L t a) (hv : evP P t (.un op x) = some v) : ∃ u, VR ρ L v u ∧ Yields0 P a o u := by
  simp only [evP] at hv
  split at hv
  · rename_i vx hx
    have key : plain vx = true ∧ plain v = true ∧ ∀ w, (Op.unary op vx).run P w = .ok v w := by
      unfold evUn at hv
      split at hv <;> (try split at hv) <;> first
        | (cases hv; done)
        | (injection hv with hv; subst hv; exact ⟨rfl, rfl, fun w => by simp [Op.unary, Op.intArith, Op.intBits]⟩)
    have h1 : a.eval x = vx := by rw [(evalO_VR tr hx).2, conc_zero ρ vx key.1]
    refine ⟨v, VR.plain key.2.1, fun w => ?_⟩
    unfold execOp
    simp only [ho, h1]
    exact run_val (key.2.2 w)
  · cases hv

theorem s_cvt {o : Oper} {src dst : TypeId} {j k : IntKind} {x : Operand} {v : Value} (ho : o.op = .convert src dst x) (hs : P.underlying src = some (.int j)) (hd : P.underlying dst = some (.int k)) (tr : TRel ρ L t a) (hv : evP P t (.cvt k x) = some v) : ∃ u, VR ρ L v u ∧ Yields0 P a o u := by
  simp only [evP] at hv
  split at hv
  · rename_i q n hx
    injection hv with hv
    subst hv
    have h1 : a.eval x = .int q n := (evalO_VR tr hx).2
    refine ⟨_, VR.plain rfl, fun w => ?_⟩
    unfold execOp
    simp only [ho, h1]
    refine run_val ?_
    simp [convert, run_underlying hs, run_underlying hd, Conv.intToInt]
  · cases hv

theorem szOf_info {e : TypeId} {n : Nat} (h : szOf P e = some n) : ∃ i, P.info? e = some i ∧ i.size = n := by
  unfold szOf at h
  cases hi : P.info? e with
  | none => rw [hi] at h; cases h
  | some i => rw [hi] at h; exact ⟨i, rfl, by simpa using h⟩

theorem run_sizeOf {e : TypeId} {n : Nat} (h : szOf P e = some n) (w : World) : (sizeOf e).run P w = .ok n w := by
  obtain ⟨i, hi, rfl⟩ := szOf_info h
  simp [sizeOf, typeInfo, hi]

theorem cAddr_none (ρ : Ren) (b o : Nat) : cAddr ρ ⟨b, o, none⟩ = ⟨(ρ b).blk, (ρ b).off + o, none⟩ := rfl

theorem add_none (b o n : Nat) : (⟨b, o, none⟩ : Addr).add n = ⟨b, o + n, none⟩ := by
  unfold Addr.add
  split
  · rename_i h; subst h; rfl
  · rfl

theorem s_off {o : Oper} {s : TypeId} {f : Nat} {x : Operand} {ao : AOp} {v : Value} (ho : o.op = .fieldAddr s x f) (hc : cOff P s x f = some ao) (tr : TRel ρ L t a) (hv : evP P t ao = some v) : ∃ u, VR ρ L v u ∧ Yields0 P a o u := by
  unfold cOff at hc
  split at hc
  · rename_i fl hf
    split at hc
    · rename_i n hn
      injection hc with hc
      subst hc
      simp only [evP] at hv
      split at hv
      · rename_i b off hx
        injection hv with hv
        subst hv
        have h1 := evalO_VR tr hx
        have e1 : a.eval x = .pointer (some (cAddr ρ ⟨b, off, none⟩)) := h1.2
        refine ⟨.pointer (some ((cAddr ρ ⟨b, off, none⟩).add fl.offset)), ⟨?_, ?_⟩, fun w => ?_⟩
        · have := h1.1
          simpa [scp] using this
        · simp [conc, cAddr_none, add_none, Nat.add_assoc]
        · unfold cField at hf
          split at hf
          · rename_i fs hu
            unfold execOp
            simp only [ho, e1]
            refine run_val ?_
            simp [Instr.fieldAt, run_underlying hu, hf, Instr.sureAddr, fieldPlace, run_sizeOf hn]
          · cases hf
      · cases hv
    · cases hc
  · cases hc

end
end Abs
end Go.Proofs.Ytekhadlpcdjlpaa
