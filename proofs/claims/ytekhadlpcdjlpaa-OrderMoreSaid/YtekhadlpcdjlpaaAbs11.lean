/- All operations: their types resolved, and that what is said of them is so. -/
import Derived.Test.YtekhadlpcdjlpaaAbs10M
namespace Go.Proofs.Ytekhadlpcdjlpaa
namespace Abs
open Go
set_option linter.unusedVariables false
set_option linter.unusedSimpArgs false

def cLen (P : Program) (t : TypeId) (x : Operand) : Option AOp := match P.underlying t with
  | some (.slice _) => some (.len x)
  | some .string => some (.lenS x)
  | some (.array n _) => some (.alen n)
  | some (.map _ _) => some (.mlen x)
  | _ => none

def cBuiltin (P : Program) (b : Builtin) (args : Array Operand) (tys : Array TypeId) : Option AOp := match b with
  | .len => match args, tys with
    | ⟨[x]⟩, ⟨[t]⟩ => cLen P t x
    | _, _ => none
  | .max => some (.mm true args.toList)
  | .min => some (.mm false args.toList)
  | .append => match args, tys with
    | ⟨[s, x]⟩, ⟨[t, u]⟩ => if t = u then cApp P t s x else none
    | _, _ => none
  | .clear => match args, tys with
    | ⟨[x]⟩, ⟨[t]⟩ => cClr P t x
    | _, _ => none
  | .delete => match args, tys with
    | ⟨[m, k]⟩, ⟨[t, _]⟩ => cDel P t m k
    | _, _ => none
  | _ => none

def cOp (P : Program) (op : Op) : Option AOp := match op with
  | .move x => some (.mv x)
  | .assign x => some (.mv x)
  | .pick c a b => some (.pick c a b)
  | .binOp op t x y _ => cBin P op t x y
  | .unOp op _ x => some (.un op x)
  | .convert s d x => cConv P s d x
  | .fieldAddr s x f => cOff P s x f
  | .indexAddr t x i => cIdx P t x i
  | .extract x n => some (.ext n x)
  | .field s x f => cPart P s x f
  | .index t x i => cPartI P t x i
  | .slice t x lo hi mx => cSlice P t x lo hi mx
  | .nilCheck x => some (.nilck x)
  | .makeFunc f first captured => some (.fn f first.toList captured.toList)
  | .build t parts => cBuild P t parts.toList
  | .load t x => match aggOf P t with
    | some ag => some (.ld ag x)
    | none => none
  | .lookup t m k ok => cLook P t m k ok
  | .mapUpdate t m k x => cMupd P t m k x
  | .box e x => some (.box e x)
  | .alloc e => match zeroOf P e with
    | some z => some (.alloc e z)
    | none => none
  | .makeSlice t l c => cMkS P t l c
  | .makeMap _ none => some .mkM
  | .buildSlice t len parts => cRow P t len parts.toList
  | .store t x v => match szOf P t with
    | some n => some (.st n x v)
    | none => none
  | .range t x => match P.underlying t with
    | some (.map _ _) => some (.range x)
    | _ => none
  | .next x false => some (.next x)
  | .entry x => some (.entry x)
  | .call c => match c.callee with
    | .value f => some (.call f c.args.toList)
    | .builtin b => cBuiltin P b c.args c.argTypes
    | _ => none
  | _ => none

/-- What an operation does that writes; calls stand apart. -/
def evL (t : T) (h : AH) : AOp → Option (Value × AH)
  | .st n x v => evSt t h n x v
  | .app e es bytes s x => evApp t h e es bytes s x
  | .clear z x => evClr t h z x
  | .mupd str m k v => evMupd t h str m k v
  | .del str m k => evDel t h str m k
  | _ => none

section
variable {P : Program} {ρ : Ren} {L : Nat → Bool} {t : T} {a : Act} {h : AH} {w : World}

theorem arr1 {α : Type} {x : α} : (⟨[x]⟩ : Array α) = #[x] := rfl

theorem sound_pure {o : Oper} {ao : AOp} {v : Value} (hc : cOp P o.op = some ao) (tr : TRel ρ L t a) (hv : evP P t ao = some v) : ∃ u, VR ρ L v u ∧ Yields0 P a o u := by
  cases ho : o.op <;> rw [ho] at hc <;> simp only [cOp] at hc
  case move x => injection hc with hc; subst hc; exact s_mv (.inl ho) tr hv
  case assign x => injection hc with hc; subst hc; exact s_mv (.inr ho) tr hv
  case pick c x y => injection hc with hc; subst hc; exact s_pick ho tr hv
  case binOp op ty x y ty' =>
    unfold cBin at hc
    split at hc
    · injection hc with hc; subst hc; exact s_bin ho tr hv
    · injection hc with hc; subst hc; exact s_bin ho tr hv
    · exact s_eq ho (k := .bool) (by assumption) hc tr hv
    · exact s_eq ho (k := .ptr) ⟨_, by assumption⟩ hc tr hv
    · exact s_eq ho (k := .slc) ⟨_, by assumption⟩ hc tr hv
    · exact s_eq ho (k := .map) ⟨_, _, by assumption⟩ hc tr hv
    · exact s_eq ho (k := .fn) ⟨_, _, _, by assumption⟩ hc tr hv
    · injection hc with hc; subst hc; exact s_geq ho tr hv
    · injection hc with hc; subst hc; exact s_geq ho tr hv
    · cases hc
  case unOp op ty x => injection hc with hc; subst hc; exact s_un ho tr hv
  case convert s d x =>
    unfold cConv at hc
    split at hc
    · rename_i hs hd; injection hc with hc; subst hc; exact s_cvt ho hs hd tr hv
    · cases hc
  case fieldAddr s x f => exact s_off ho hc tr hv
  case indexAddr ty x i => exact s_idx ho hc tr hv
  case extract x n => injection hc with hc; subst hc; exact s_ext ho tr hv
  case field s x f => exact s_part ho hc tr hv
  case index ty x i => exact s_partI ho hc tr hv
  case slice ty x lo hi mx =>
    unfold cSlice at hc
    split at hc
    · rename_i e hu
      split at hc
      · rename_i n hn; injection hc with hc; subst hc; exact s_sub ho hu hn tr hv
      · cases hc
    · rename_i hu
      split at hc
      · injection hc with hc; subst hc; exact s_subS ho hu tr hv
      · cases hc
    · rename_i len e hu
      split at hc
      · rename_i n hn; injection hc with hc; subst hc; exact s_subA ho hu hn tr hv
      · cases hc
    · cases hc
  case nilCheck x => injection hc with hc; subst hc; exact s_nilck ho tr hv
  case makeFunc f first captured => injection hc with hc; subst hc; exact s_fn ho tr hv
  case build ty parts => exact s_agg ho hc tr hv
  case load ty x =>
    split at hc
    · injection hc with hc; subst hc; rename_i ag _; cases ag <;> simp [evP] at hv
    · cases hc
  case lookup ty m k ok =>
    unfold cLook at hc
    repeat' split at hc
    all_goals first
      | (cases hc; done)
      | (injection hc with hc; subst hc; simp [evP] at hv)
  case range ty y =>
    split at hc
    · injection hc with hc; subst hc; simp [evP] at hv
    · cases hc
  case next y st =>
    cases st
    · simp only [cOp] at hc
      injection hc with hc; subst hc; simp [evP] at hv
    · simp [cOp] at hc
  case entry y => injection hc with hc; subst hc; simp [evP] at hv
  case box e x => injection hc with hc; subst hc; simp [evP] at hv
  case alloc e =>
    split at hc
    · injection hc with hc; subst hc; simp [evP] at hv
    · cases hc
  case makeSlice ty l c =>
    unfold cMkS at hc
    repeat' split at hc
    all_goals first
      | (cases hc; done)
      | (injection hc with hc; subst hc; simp [evP] at hv)
  case makeMap ty r =>
    cases r
    · simp only [cOp] at hc
      injection hc with hc; subst hc; simp [evP] at hv
    · simp [cOp] at hc
  case buildSlice ty len parts =>
    unfold cRow at hc
    repeat' split at hc
    all_goals first
      | (cases hc; done)
      | (injection hc with hc; subst hc; simp [evP] at hv)
  case mapUpdate ty m k x =>
    unfold cMupd at hc
    repeat' split at hc
    all_goals first
      | (cases hc; done)
      | (injection hc with hc; subst hc; simp [evP] at hv)
  case store ty x y =>
    split at hc
    · injection hc with hc; subst hc; simp [evP] at hv
    · cases hc
  case call c =>
    obtain ⟨callee, args, tys⟩ := c
    cases callee with
    | value f => simp only at hc; injection hc with hc; subst hc; simp [evP] at hv
    | invoke r m => simp at hc
    | builtin b =>
      simp only at hc
      unfold cBuiltin at hc
      split at hc
      · split at hc
        · rename_i x ty
          unfold cLen at hc
          split at hc
          · rename_i e hu; injection hc with hc; subst hc; exact s_len ho hu tr hv
          · rename_i hu; injection hc with hc; subst hc; exact s_lenS ho hu tr hv
          · rename_i n e hu; injection hc with hc; subst hc; exact s_alen ho hu hv
          · injection hc with hc; subst hc; simp [evP] at hv
          · cases hc
        · cases hc
      · injection hc with hc; subst hc; exact s_mm (mx := true) ho tr hv
      · injection hc with hc; subst hc; exact s_mm (mx := false) ho tr hv
      · split at hc
        · split at hc
          · unfold cApp at hc
            repeat' split at hc
            all_goals first
              | (cases hc; done)
              | (injection hc with hc; subst hc; simp [evP] at hv)
          · cases hc
        · cases hc
      · split at hc
        · unfold cClr at hc
          repeat' split at hc
          all_goals first
            | (cases hc; done)
            | (injection hc with hc; subst hc; simp [evP] at hv)
        · cases hc
      · split at hc
        · unfold cDel at hc
          repeat' split at hc
          all_goals first
            | (cases hc; done)
            | (injection hc with hc; subst hc; simp [evP] at hv)
        · cases hc
      · cases hc
  all_goals first
    | (cases hc; done)
    | (simp at hc; done)


/-- What an operation is: 0 neither reads nor writes, 1 reads, 2 makes a block, 3 writes, 4 calls, 5 goes over a map. -/
def kd : AOp → Nat
  | .ld .. | .look .. | .mlen .. => 1
  | .box .. | .alloc .. | .mkS .. | .mkM | .row .. => 2
  | .st .. | .app .. | .copy .. | .clear .. | .del .. | .mupd .. | .ment .. | .mest .. => 3
  | .call .. => 4
  | .range .. | .next .. | .entry .. => 5
  | _ => 0

def kdOp (P : Program) : Op → Nat
  | .load .. | .lookup .. => 1
  | .box .. | .alloc .. | .makeSlice .. | .makeMap .. | .buildSlice .. => 2
  | .store .. | .mapUpdate .. => 3
  | .range .. | .next .. | .entry .. => 5
  | .call c => match c.callee with
    | .builtin .append => 3
    | .builtin .clear => 3
    | .builtin .delete => 3
    | .builtin .len => match c.argTypes with
      | ⟨[t]⟩ => match P.underlying t with
        | some (.map _ _) => 1
        | _ => 0
      | _ => 0
    | .builtin _ => 0
    | _ => 4
  | _ => 0

theorem evR_kd {ao : AOp} {v : Value} (hv : evR t h ao = some v) : kd ao = 1 := by
  cases ao <;> first
    | rfl
    | (simp only [evR] at hv; cases hv; done)

theorem evF_kd {ao : AOp} {n : Nat} {v : Value × ABlk} (hv : evF t n ao = some v) : kd ao = 2 := by
  cases ao <;> first
    | rfl
    | (simp only [evF] at hv; cases hv; done)

theorem evL_kd {ao : AOp} {v : Value × AH} (hv : evL t h ao = some v) : kd ao = 3 := by
  cases ao <;> first
    | rfl
    | (simp only [evL] at hv; cases hv; done)

theorem evP_kd {ao : AOp} {v : Value} (hv : evP P t ao = some v) : kd ao = 0 := by
  cases ao <;> first
    | rfl
    | (rename_i ag _; cases ag <;> (simp only [evP] at hv; cases hv; done))
    | (simp only [evP] at hv; cases hv; done)

theorem kd_inj {x y : AOp} {n : Nat} (h : some x = some y) (hx : kd x = n) : kd y = n := by
  injection h with h
  subst h
  exact hx

theorem cBin_kd {op : BinOp} {ty : TypeId} {x y : Operand} {ao : AOp} (hc : cBin P op ty x y = some ao) : kd ao = 0 := by
  unfold cBin at hc
  split at hc <;> first
    | exact kd_inj hc rfl
    | (rcases cOp_eq hc with ⟨_, rfl⟩ | ⟨_, rfl⟩ <;> rfl)
    | (cases hc; done)

theorem cOp_kd {op : Op} {ao : AOp} (hc : cOp P op = some ao) : kd ao = kdOp P op := by
  cases op <;> simp only [cOp] at hc
  case range ty y =>
    split at hc
    · exact kd_inj hc rfl
    · cases hc
  case next y st =>
    cases st
    · simp only [cOp] at hc
      exact kd_inj hc rfl
    · simp [cOp] at hc
  case binOp op ty x y ty' => exact cBin_kd hc
  case convert s d x =>
    unfold cConv at hc
    split at hc <;> first | exact kd_inj hc rfl | (cases hc; done)
  case fieldAddr s x f =>
    unfold cOff at hc
    repeat' split at hc
    all_goals first | exact kd_inj hc rfl | (cases hc; done)
  case indexAddr ty x i =>
    unfold cIdx at hc
    repeat' split at hc
    all_goals first | exact kd_inj hc rfl | (cases hc; done)
  case field s x f =>
    unfold cPart at hc
    repeat' split at hc
    all_goals first | exact kd_inj hc rfl | (cases hc; done)
  case index ty x i =>
    unfold cPartI at hc
    repeat' split at hc
    all_goals first | exact kd_inj hc rfl | (cases hc; done)
  case slice ty x lo hi mx =>
    unfold cSlice at hc
    repeat' split at hc
    all_goals first | exact kd_inj hc rfl | (cases hc; done)
  case build ty parts =>
    unfold cBuild at hc
    repeat' split at hc
    all_goals first | exact kd_inj hc rfl | (cases hc; done)
  case load ty x =>
    split at hc
    · exact kd_inj hc rfl
    · cases hc
  case lookup ty m k ok =>
    unfold cLook at hc
    repeat' split at hc
    all_goals first | exact kd_inj hc rfl | (cases hc; done)
  case alloc e =>
    split at hc
    · exact kd_inj hc rfl
    · cases hc
  case makeSlice ty l c =>
    unfold cMkS at hc
    repeat' split at hc
    all_goals first | exact kd_inj hc rfl | (cases hc; done)
  case makeMap ty r =>
    cases r
    · exact kd_inj hc rfl
    · cases hc
  case buildSlice ty len parts =>
    unfold cRow at hc
    repeat' split at hc
    all_goals first | exact kd_inj hc rfl | (cases hc; done)
  case mapUpdate ty m k x =>
    unfold cMupd at hc
    repeat' split at hc
    all_goals first | exact kd_inj hc rfl | (cases hc; done)
  case store ty x y =>
    split at hc
    · exact kd_inj hc rfl
    · cases hc
  case call c =>
    obtain ⟨callee, args, tys⟩ := c
    cases callee with
    | value f => exact kd_inj hc rfl
    | invoke r m => cases hc
    | builtin b =>
      simp only at hc
      unfold cBuiltin at hc
      split at hc
      · split at hc
        · rename_i x ty
          unfold cLen at hc
          simp only [kdOp]
          split at hc
          · rename_i e hu; simp only [hu]; exact kd_inj hc rfl
          · rename_i hu; simp only [hu]; exact kd_inj hc rfl
          · rename_i n e hu; simp only [hu]; exact kd_inj hc rfl
          · rename_i kt e hu; simp only [hu]; exact kd_inj hc rfl
          · cases hc
        · cases hc
      · exact kd_inj hc rfl
      · exact kd_inj hc rfl
      · split at hc
        · split at hc
          · unfold cApp at hc
            repeat' split at hc
            all_goals first | exact kd_inj hc rfl | (cases hc; done)
          · cases hc
        · cases hc
      · split at hc
        · unfold cClr at hc
          repeat' split at hc
          all_goals first | exact kd_inj hc rfl | (cases hc; done)
        · cases hc
      · split at hc
        · unfold cDel at hc
          repeat' split at hc
          all_goals first | exact kd_inj hc rfl | (cases hc; done)
        · cases hc
      · cases hc
  all_goals first
    | exact kd_inj hc rfl
    | (cases hc; done)

theorem sound_read {o : Oper} {ao : AOp} {v : Value} (hc : cOp P o.op = some ao) (r : Rel ρ h w) (tr : TRel ρ (live h) t a) (hv : evR t h ao = some v) : ∃ u, VR ρ (live h) v u ∧ YieldsR P a o w u := by
  have hk : kdOp P o.op = 1 := (cOp_kd hc).symm.trans (evR_kd hv)
  cases ho : o.op <;> rw [ho] at hc hk <;> simp only [cOp] at hc
  case load ty x =>
    split at hc
    · rename_i ag hag; injection hc with hc; subst hc; exact s_ld ho hag r tr hv
    · cases hc
  case lookup ty m k ok => exact s_look ho hc r tr hv
  case call c =>
    obtain ⟨callee, args, tys⟩ := c
    cases callee with
    | value f => cases hk
    | invoke r m => cases hc
    | builtin b =>
      simp only at hc
      unfold cBuiltin at hc
      split at hc
      · split at hc
        · rename_i x ty
          unfold cLen at hc
          simp only [kdOp] at hk
          split at hc
          · rename_i e hu; simp only [hu] at hk; cases hk
          · rename_i hu; simp only [hu] at hk; cases hk
          · rename_i n e hu; simp only [hu] at hk; cases hk
          · rename_i kt e hu; injection hc with hc; subst hc; exact s_mlen ho hu r tr hv
          · cases hc
        · cases hc
      · cases hk
      · cases hk
      · cases hk
      · cases hk
      · cases hk
      · cases hc
  all_goals (cases hk; done)

theorem sound_fresh {o : Oper} {ao : AOp} {n : Nat} {v : Value} {k : ABlk} (hc : cOp P o.op = some ao) (tr : TRel ρ (live h) t a) (hv : evF t n ao = some (v, k)) : FreshOk P ρ h n a o w v k := by
  have hk : kdOp P o.op = 2 := (cOp_kd hc).symm.trans (evF_kd hv)
  cases ho : o.op <;> rw [ho] at hc hk <;> simp only [cOp] at hc
  case box e x => injection hc with hc; subst hc; exact s_box ho tr hv
  case alloc e =>
    split at hc
    · rename_i z hz; injection hc with hc; subst hc; exact s_alloc ho hz hv
    · cases hc
  case makeSlice ty l c => exact s_mkS ho hc tr hv
  case makeMap ty r =>
    cases r
    · simp only [cOp] at hc
      injection hc with hc; subst hc; exact s_mkM ho hv
    · cases hc
  case buildSlice ty len parts => exact s_row ho hc tr hv
  case call c =>
    obtain ⟨callee, args, tys⟩ := c
    cases callee with
    | value f => cases hk
    | invoke r m => cases hc
    | builtin b =>
      simp only at hc
      unfold cBuiltin at hc
      split at hc
      · split at hc
        · rename_i x ty
          simp only [kdOp] at hk
          split at hk <;> cases hk
        · cases hc
      · cases hk
      · cases hk
      · cases hk
      · cases hk
      · cases hk
      · cases hc
  all_goals (cases hk; done)

theorem sound_loud {o : Oper} {ao : AOp} {v : Value} {h' : AH} (hc : cOp P o.op = some ao) (r : Rel ρ h w) (tr : TRel ρ (live h) t a) (hv : evL t h ao = some (v, h')) : LoudOk P ρ h w a o v h' := by
  have hk : kdOp P o.op = 3 := (cOp_kd hc).symm.trans (evL_kd hv)
  cases ho : o.op <;> rw [ho] at hc hk <;> simp only [cOp] at hc
  case store ty x y =>
    split at hc
    · rename_i n hn; injection hc with hc; subst hc; exact s_st ho hn r tr hv
    · cases hc
  case mapUpdate ty m k x =>
    refine s_mupd ho hc r tr fun str hao => ?_
    subst hao
    exact hv
  case call c =>
    obtain ⟨callee, args, tys⟩ := c
    cases callee with
    | value f => cases hk
    | invoke r m => cases hc
    | builtin b =>
      simp only at hc
      unfold cBuiltin at hc
      split at hc
      · split at hc
        · rename_i x ty
          simp only [kdOp] at hk
          split at hk <;> cases hk
        · cases hc
      · cases hk
      · cases hk
      · split at hc
        · split at hc
          · rename_i s x ty _ he
            subst he
            refine s_app ho hc r tr fun e es bytes hao => ?_
            subst hao
            exact hv
          · cases hc
        · cases hc
      · split at hc
        · refine s_clr ho hc r tr fun z hao => ?_
          subst hao
          exact hv
        · cases hc
      · split at hc
        · refine s_del ho hc r tr fun str hao => ?_
          subst hao
          exact hv
        · cases hc
      · cases hc
  all_goals (cases hk; done)

end
end Abs
end Go.Proofs.Ytekhadlpcdjlpaa
