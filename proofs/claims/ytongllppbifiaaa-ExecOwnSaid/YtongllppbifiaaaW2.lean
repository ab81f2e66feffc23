import Derived.Test.YtongllppbifiaaaW1
import Derived.MapKept
namespace Go.Proofs.Ytongllppbifiaaa
namespace Abs
open Go
set_option linter.unusedVariables false
set_option linter.unusedSimpArgs false
def mapPut (str : Bool) (es : List MapEntry) (c : Nat) (k v : Value) : Option (List MapEntry × Nat) := match findA str k es 0 with
 | some (some (i,_)) => some (es.modify i fun e => { e with key := k,val := v },c)
 | some none => some (es ++ [{ key := k,val := v,born := c }],c + 1)
 | none => none
def mapDel (str : Bool) (es : List MapEntry) (k : Value) : Option (List MapEntry) := match findA str k es 0 with
 | some (some (i,_)) => some (es.eraseIdx i)
 | some none => some es
 | none => none
def evMupd (t : T) (h : AH) (str : Bool) (m k v : Operand) : Option (Value × AH) := match evalO t m,evalO t k,evalO t v with
 | some (.map (some r)),some kv,some vv => match mapAt h r with
  | some (es,c) => match mapPut str es c kv vv with
   | some (es', c') => some (undef, h.set r (.map es' c'))
   | none => none
  | none => none
 | _,_,_ => none
def evDel (t : T) (h : AH) (str : Bool) (m k : Operand) : Option (Value × AH) := match evalO t m,evalO t k with
 | some (.map (some r)),some kv => match mapAt h r with
  | some (es,c) => match mapDel str es kv with
   | some es' => some (.tuple #[],h.set r (.map es' c))
   | none => none
  | none => none
 | _,_ => none
def cMupd (P : Program) (t : TypeId) (m k v : Operand) : Option AOp := match P.underlying t with
 | some (.map kt _) => match keyKind P kt with
  | some str => some (.mupd str m k v)
  | none => none
 | _ => none
def cDel (P : Program) (t : TypeId) (m k : Operand) : Option AOp := match P.underlying t with
 | some (.map kt _) => match keyKind P kt with
  | some str => some (.del str m k)
  | none => none
 | _ => none
section
variable {P : Program} {ρ : Ren} {t : T} {a : Act} {h : AH} {w : World}
theorem bytes_ext0 {a b : ByteArray} (h : a.data.toList = b.data.toList) : a = b := by
 cases a
 cases b
 simp only at h
 congr
 exact Array.ext' h
theorem keyEq_eq {str : Bool} {x y : Value} (h : keyEq str x y = some true) : conc ρ x = conc ρ y ∧ Instr.sameBits 10000 (conc ρ y) (conc ρ x) = true := by
 unfold keyEq at h
 split at h
 ·split at h
  ·rename_i hc
   injection h with h
   rw [beq_iff_eq] at h
   rw [hc.2,h]
   exact ⟨rfl,by simp [conc,Instr.sameBits]⟩
  ·cases h
 ·split at h
  ·injection h with h
   rw [beq_iff_eq] at h
   rw [bytes_ext0 h]
   exact ⟨rfl,by simp [conc,Instr.sameBits,bytes_beq]⟩
  ·cases h
 ·cases h
theorem map_modify0 {α β : Type} {f : α → β} {g : α → α} {g' : β → β} (hg : ∀ e,f (g e) = g' (f e)) (l : List α) (i : Nat) : (l.modify i g).map f = (l.map f).modify i g' := by
 refine List.ext_getElem? fun j => ?_
 rw [List.getElem?_map,List.getElem?_modify,List.getElem?_modify,List.getElem?_map]
 cases l[j]? with
 | none => rfl
 | some e =>
  by_cases h : i = j
  ·simp [h,hg]
  ·simp [h]
theorem map_eraseIdx0 {α β : Type} (f : α → β) : ∀ (l : List α) (i : Nat),(l.eraseIdx i).map f = (l.map f).eraseIdx i
 | [],i => by simp
 | x :: l,0 => by simp
 | x :: l,i + 1 => by simp [map_eraseIdx0 f l i]
theorem map_rel (r : Rel ρ h w) {b : Nat} {es es' : List MapEntry} {c c' : Nat} (hb : h[b]? = some (.map es c)) (hs : ∀ e ∈ es', scp (live h) e.key = true ∧ scp (live h) e.val = true) {w' : World} (hw : w' = { w with heap := w.heap.setIfInBounds (ρ b).blk (.map (es'.map (concEntry ρ)).toArray c') }) :
  Rel ρ (h.set b (.map es' c')) w' ∧ Next h.length ρ h w ρ (h.set b (.map es' c')) w' := by
 have hg : w.heap[(ρ b).blk]? = some (.map (es.map (concEntry ρ)).toArray c) := r.holds b _ hb
 have hlt : (ρ b).blk < w.heap.size := (Array.getElem?_eq_some_iff.1 hg).1
 have hoth : ∀ x,x ∉ (ABlk.map es c).foot (ρ b) → x < w.heap.size → w'.heap[x]? = w.heap[x]? := by
  intro x hx _
  have : (ρ b).blk ≠ x := fun e => hx (by simp [ABlk.foot,e])
  subst hw
  simp [Array.getElem?_setIfInBounds,this]
 refine ⟨r.upd hb (by simp) (fun x hx => hx) (fun x hx => hx) (fun e he => hs e he) ?_ hoth,Next.upd hb (by simp) (fun x hx => hx) (fun x hx => hx) (by subst hw; rfl) (by subst hw; rfl) (by subst hw; rfl) (by subst hw; simp) hoth⟩
 show w'.heap[(ρ b).blk]? = _
 subst hw
 simp [Array.getElem?_setIfInBounds,hlt]
theorem mapPut_scp {L : Nat → Bool} {str : Bool} {es es' : List MapEntry} {c c' : Nat} {k v : Value} (hp : mapPut str es c k v = some (es', c')) (hk : scp L k = true) (hv : scp L v = true) (hes : ∀ e ∈ es, scp L e.key = true ∧ scp L e.val = true) : ∀ e ∈ es', scp L e.key = true ∧ scp L e.val = true := by
 unfold mapPut at hp
 split at hp
 ·injection hp with hp
  injection hp with h1 h2
  subst h1
  rename_i i0 _ _
  intro e he
  obtain ⟨i,hi⟩ := List.getElem?_of_mem he
  rw [List.getElem?_modify] at hi
  cases hx : es[i]? with
  | none => rw [hx] at hi; simp at hi
  | some e0 =>
   rw [hx] at hi
   by_cases h2 : i0 = i
   ·simp only [h2,if_true,Option.map_eq_map,Option.map_some,Option.some.injEq] at hi
    subst hi
    exact ⟨hk,hv⟩
   ·simp [h2] at hi
    subst hi
    exact hes _ (List.mem_of_getElem? hx)
 ·injection hp with hp
  injection hp with h1 h2
  subst h1
  intro e he
  rcases List.mem_append.1 he with he | he
  ·exact hes e he
  ·simp at he; subst he; exact ⟨hk,hv⟩
 ·cases hp
theorem mapDel_scp {L : Nat → Bool} {str : Bool} {es es' : List MapEntry} {k : Value} (hp : mapDel str es k = some es') (hes : ∀ e ∈ es, scp L e.key = true ∧ scp L e.val = true) : ∀ e ∈ es', scp L e.key = true ∧ scp L e.val = true := by
 unfold mapDel at hp
 split at hp
 ·injection hp with h1
  subst h1
  exact fun e he => hes e (List.mem_of_mem_eraseIdx he)
 ·injection hp with h1
  subst h1
  exact hes
 ·cases hp
theorem s_mupd {o : Oper} {ty : TypeId} {m k x : Operand} {ao : AOp} {v : Value} {h' : AH} (ho : o.op = .mapUpdate ty m k x) (hc : cMupd P ty m k x = some ao) (r : Rel ρ h w) (tr : TRel ρ (live h) t a)
  (hv : ∀ str,ao = .mupd str m k x → evMupd t h str m k x = some (v,h')) : LoudOk P ρ h w a o v h' := by
 unfold cMupd at hc
 split at hc
 case h_2 => cases hc
 rename_i kt e hu
 split at hc
 case h_2 => cases hc
 rename_i str hk
 injection hc with hc
 replace hv := hv str hc.symm
 obtain ⟨d,hd,hkk⟩ := keyKind_ok hk
 unfold evMupd at hv
 split at hv
 case h_2 => cases hv
 rename_i b kv vv hm hkv hvv
 split at hv
 case h_2 => cases hv
 rename_i es c hes
 split at hv
 case h_2 => cases hv
 rename_i es' c' hput
 injection hv with hv
 injection hv with q1 q2
 subst q1 q2
 obtain ⟨hb,hheap⟩ := mapAt_heap r hes
 have vm := evalO_VR tr hm
 have vk := evalO_VR tr hkv
 have vv2 := evalO_VR tr hvv
 have e1 : a.eval m = .map (some (ρ b).blk) := vm.2
 have hscp := mapPut_scp hput vk.1 vv2.1 (r.scope b _ hb)
 obtain ⟨g1,g2⟩ := map_rel (c' := c') r hb hscp rfl
 refine ⟨undef,.skip,_,ρ, ?_,.inr ⟨rfl,rfl⟩,VR_undef,g1,g2,by simp⟩
 unfold execOp
 simp only [ho,e1,vk.2,vv2.2]
 have hrun : (Instr.mapUpdate ty (.map (some (ρ b).blk)) (conc ρ kv) (conc ρ vv)).run P w = .ok () { w with heap := w.heap.setIfInBounds (ρ b).blk (.map (es'.map (concEntry ρ)).toArray c') } := by
  unfold Instr.mapUpdate
  unfold mapPut at hput
  split at hput
  ·rename_i i v0 hf
   injection hput with hput
   injection hput with h1 h2
   subst h1 h2
   have hfk := findKey_run (ρ := ρ) hd hkk hf w
   obtain ⟨_,e0,he0,_,hke⟩ := findA_mem es 0 i v0 hf
   obtain ⟨hk1,hk2⟩ := keyEq_eq (ρ := ρ) hke
   have hget : (es.map (concEntry ρ)).toArray[i]? = some (concEntry ρ e0) := by
    simp only [Nat.sub_zero] at he0
    simp [he0]
   have hst : ∀ (w : World),(Instr.keyThatStays (conc ρ e0.key) (conc ρ kv)).run P w = .ok (conc ρ kv) w := by
    intro w
    unfold Instr.keyThatStays
    rw [if_pos hk2]
    rfl
   have hmod : (es.map (concEntry ρ)).toArray.modify i (fun e => { e with key := conc ρ kv,val := conc ρ vv }) = ((es.modify i fun e => { e with key := kv,val := vv }).map (concEntry ρ)).toArray := by
    apply Array.ext'
    rw [Array.toList_modify]
    simp only [List.toList_toArray]
    exact (map_modify0 (f := concEntry ρ) (g := fun e => { e with key := kv,val := vv }) (g' := fun e => { e with key := conc ρ kv,val := conc ρ vv }) (fun e => rfl) es i).symm
   simp only [Sem.run_bind,run_underlying hu,Result.andThen_ok,run_getObj_map hheap,checkKey_run hd hkk,hfk,Option.map_some,hget,Option.getD_some,concEntry]
   simp only [hst,Result.andThen_ok,MapKept.run_setObj_map _ hheap,hmod]
  ·rename_i hf
   injection hput with hput
   injection hput with h1 h2
   subst h1 h2
   have hfk := findKey_run (ρ := ρ) hd hkk hf w
   simp only [Sem.run_bind,run_underlying hu,Result.andThen_ok,run_getObj_map hheap,checkKey_run hd hkk,hfk,Option.map_none,MapKept.run_setObj_map _ hheap]
   have hpush : (es.map (concEntry ρ)).toArray.push (MapEntry.mk (conc ρ kv) (conc ρ vv) c) = ((es ++ [MapEntry.mk kv vv c]).map (concEntry ρ)).toArray := by
    apply Array.ext'
    simp [concEntry]
   rw [hpush]
  ·cases hput
 simp [hrun]
theorem s_del {o : Oper} {ty ky : TypeId} {m k : Operand} {ao : AOp} {v : Value} {h' : AH} (ho : o.op = .call { callee := .builtin .delete,args := #[m,k],argTypes := #[ty,ky] }) (hc : cDel P ty m k = some ao) (r : Rel ρ h w) (tr : TRel ρ (live h) t a)
  (hv : ∀ str,ao = .del str m k → evDel t h str m k = some (v,h')) : LoudOk P ρ h w a o v h' := by
 unfold cDel at hc
 split at hc
 case h_2 => cases hc
 rename_i kt e hu
 split at hc
 case h_2 => cases hc
 rename_i str hk
 injection hc with hc
 replace hv := hv str hc.symm
 obtain ⟨d,hd,hkk⟩ := keyKind_ok hk
 unfold evDel at hv
 split at hv
 case h_2 => cases hv
 rename_i b kv hm hkv
 split at hv
 case h_2 => cases hv
 rename_i es c hes
 split at hv
 case h_2 => cases hv
 rename_i es' hput
 injection hv with hv
 injection hv with q1 q2
 subst q1 q2
 obtain ⟨hb,hheap⟩ := mapAt_heap r hes
 have vm := evalO_VR tr hm
 have vk := evalO_VR tr hkv
 have e1 : a.eval m = .map (some (ρ b).blk) := vm.2
 have hscp := mapDel_scp hput (r.scope b _ hb)
 obtain ⟨g1,g2⟩ := map_rel (c' := c) r hb hscp rfl
 obtain ⟨cs,hex⟩ : ∃ cs,execOp a.eval o = builtin .delete #[ty,ky] o.type cs #[a.eval m,a.eval k] := ⟨_,(exec_builtin (a := a) ho).trans (by simp only [List.map_toArray,List.map_cons,List.map_nil]; rfl)⟩
 refine ⟨.tuple #[],.value (.tuple #[]),_,ρ, ?_,.inl rfl,VR.plain rfl,g1,g2,by simp⟩
 rw [hex,e1,vk.2]
 simp only [builtin]
 refine run_val ?_
 unfold Builtin.delete_
 unfold mapDel at hput
 split at hput
 ·rename_i i v0 hf
  injection hput with h1
  subst h1
  have hfk := findKey_run (ρ := ρ) hd hkk hf w
  obtain ⟨_,e0,he0,_⟩ := findA_mem es 0 i v0 hf
  have hil : i < es.length := by
   simp only [Nat.sub_zero] at he0
   exact (List.getElem?_eq_some_iff.1 he0).1
  have hmod : (es.map (concEntry ρ)).toArray.eraseIdxIfInBounds i = ((es.eraseIdx i).map (concEntry ρ)).toArray := by
   apply Array.ext'
   rw [Array.eraseIdxIfInBounds,dif_pos (by simpa using hil)]
   simp [map_eraseIdx0]
  simp [run_underlying hu,run_getObj_map hheap,checkKey_run hd hkk,hfk,MapKept.run_setObj_map _ hheap,map_eraseIdx0]
 ·rename_i hf
  injection hput with h1
  subst h1
  have hfk := findKey_run (ρ := ρ) hd hkk hf w
  simp [run_underlying hu,run_getObj_map hheap,checkKey_run hd hkk,hfk,MapKept.run_setObj_map _ hheap]
 ·cases hput
end
end Abs
end Go.Proofs.Ytongllppbifiaaa
namespace Go.Proofs.Ytongllppbifiaaa
namespace Abs
open Go
set_option linter.unusedVariables false
set_option linter.unusedSimpArgs false
def cLen (P : Program) (t : TypeId) (x : Operand) : Option AOp := match P.underlying t with
 | some (.slice _) => some (.len x)
 | some .string => some (.lenS x)
 | some (.array n _) => some (.alen n)
 | some (.map _ _) => some (.mlen x)
 | _ => none
def cBuiltin (P : Program) (b : Builtin) (args : Array Operand) (tys : Array TypeId) : Option AOp := match b with
 | .len => match args,tys with
  | ⟨[x]⟩,⟨[t]⟩ => cLen P t x
  | _,_ => none
 | .max => some (.mm true args.toList)
 | .min => some (.mm false args.toList)
 | .append => match args,tys with
  | ⟨[s,x]⟩,⟨[t,u]⟩ => if t = u then cApp P t s x else none
  | _,_ => none
 | .clear => match args,tys with
  | ⟨[x]⟩,⟨[t]⟩ => cClr P t x
  | _,_ => none
 | .delete => match args,tys with
  | ⟨[m,k]⟩,⟨[t,_]⟩ => cDel P t m k
  | _,_ => none
 | _ => none
def cOp0 (P : Program) (op : Op) : Option AOp := match op with
 | .move x => some (.mv x)
 | .assign x => some (.mv x)
 | .pick c a b => some (.pick c a b)
 | .binOp op t x y _ => cBin P op t x y
 | .unOp op _ x => some (.un op x)
 | .convert s d x => cConv P s d x
 | .fieldAddr s x f => cOff P s x f
 | .indexAddr t x i => cIdx P t x i
 | .extract x n => some (.ext n x)
 | .field s x f => cPart P s x f
 | .index t x i => cPartI P t x i
 | .slice t x lo hi mx => cSlice P t x lo hi mx
 | .nilCheck x => some (.nilck x)
 | .makeFunc f first captured => some (.fn f first.toList captured.toList)
 | .build t parts => cBuild P t parts.toList
 | .load t x => match aggOf P t with
  | some ag => some (.ld ag x)
  | none => none
 | .lookup t m k ok => cLook P t m k ok
 | .mapUpdate t m k x => cMupd P t m k x
 | .box e x => some (.box e x)
 | .alloc e => match zeroOf P e with
  | some z => some (.alloc e z)
  | none => none
 | .makeSlice t l c => cMkS P t l c
 | .makeMap _ none => some .mkM
 | .buildSlice t len parts => cRow P t len parts.toList
 | .store t x v => match szOf P t with
  | some n => some (.st n x v)
  | none => none
 | .range t x => match P.underlying t with
  | some (.map _ _) => some (.range x)
  | _ => none
 | .next x false => some (.next x)
 | .entry x => some (.entry x)
 | .call c => match c.callee with
  | .value f => some (.call f c.args.toList)
  | .builtin b => cBuiltin P b c.args c.argTypes
  | _ => none
 | _ => none
def evL (t : T) (h : AH) : AOp → Option (Value × AH)
 | .st n x v => evSt t h n x v
 | .app e es bytes s x => evApp t h e es bytes s x
 | .clear z x => evClr t h z x
 | .mupd str m k v => evMupd t h str m k v
 | .del str m k => evDel t h str m k
 | .s2b x => match evalO t x with
  | some (.string s) => some (.slice (some ⟨h.length,0,none⟩) s.size (OPEN + s.size),h ++ [.row (s.data.toList.map fun b => Value.int .u8 b.toNat)])
  | _ => none
 | .nxtS x => match evalO t x with
  | some (.pointer (some ⟨b,0,none⟩)) => match h[b]? with
   | some (.iter s pos) => if pos < s.size then some (.tuple #[.bool true,.int .i64 pos,.int .i32 (Utf8.decode s pos).1],h.set b (.iter s (pos + (Utf8.decode s pos).2))) else some (.tuple #[.bool false],h)
   | _ => none
  | _ => none
 | _ => none
section
variable {P : Program} {ρ : Ren} {L : Nat → Bool} {t : T} {a : Act} {h : AH} {w : World}
theorem sound_pure0 {o : Oper} {ao : AOp} {v : Value} (hc : cOp0 P o.op = some ao) (tr : TRel ρ L t a) (hv : evP P t ao = some v) : ∃ u,VR ρ L v u ∧ Yields0 P a o u := by
 cases ho : o.op <;> rw [ho] at hc <;> simp only [cOp0] at hc
 case move x => injection hc with hc; subst hc; exact s_mv (.inl ho) tr hv
 case assign x => injection hc with hc; subst hc; exact s_mv (.inr ho) tr hv
 case pick c x y => injection hc with hc; subst hc; exact s_pick ho tr hv
 case binOp op ty x y ty' =>
  unfold cBin at hc
  split at hc
  ·injection hc with hc; subst hc; exact s_bin ho tr hv
  ·injection hc with hc; subst hc; exact s_bin ho tr hv
  ·exact s_eq ho (k := .bool) (by assumption) hc tr hv
  ·exact s_eq ho (k := .ptr) ⟨_,by assumption⟩ hc tr hv
  ·exact s_eq ho (k := .slc) ⟨_,by assumption⟩ hc tr hv
  ·exact s_eq ho (k := .map) ⟨_,_,by assumption⟩ hc tr hv
  ·exact s_eq ho (k := .fn) ⟨_,_,_,by assumption⟩ hc tr hv
  ·injection hc with hc; subst hc; exact s_geq ho tr hv
  ·injection hc with hc; subst hc; exact s_geq ho tr hv
  ·cases hc
 case unOp op ty x => injection hc with hc; subst hc; exact s_un ho tr hv
 case convert s d x =>
  unfold cConv at hc
  split at hc
  ·rename_i hs hd; injection hc with hc; subst hc; exact s_cvt ho hs hd tr hv
  ·cases hc
 case fieldAddr s x f => exact s_off ho hc tr hv
 case indexAddr ty x i => exact s_idx ho hc tr hv
 case extract x n => injection hc with hc; subst hc; exact s_ext ho tr hv
 case field s x f => exact s_part ho hc tr hv
 case index ty x i => exact s_partI ho hc tr hv
 case slice ty x lo hi mx =>
  unfold cSlice at hc
  split at hc
  ·rename_i e hu
   split at hc
   ·rename_i n hn; injection hc with hc; subst hc; exact s_sub ho hu hn tr hv
   ·cases hc
  ·rename_i hu
   split at hc
   ·injection hc with hc; subst hc; exact s_subS ho hu tr hv
   ·cases hc
  ·rename_i len e hu
   split at hc
   ·rename_i n hn; injection hc with hc; subst hc; exact s_subA ho hu hn tr hv
   ·cases hc
  ·cases hc
 case nilCheck x => injection hc with hc; subst hc; exact s_nilck ho tr hv
 case makeFunc f first captured => injection hc with hc; subst hc; exact s_fn ho tr hv
 case build ty parts => exact s_agg ho hc tr hv
 case load ty x =>
  split at hc
  ·injection hc with hc; subst hc; rename_i ag _; cases ag <;> simp [evP] at hv
  ·cases hc
 case lookup ty m k ok =>
  unfold cLook at hc
  repeat' split at hc
  all_goals first
   | (cases hc; done)
   | (injection hc with hc; subst hc; simp [evP] at hv)
 case range ty y =>
  split at hc
  ·injection hc with hc; subst hc; simp [evP] at hv
  ·cases hc
 case next y st =>
  cases st
  ·simp only [cOp0] at hc
   injection hc with hc; subst hc; simp [evP] at hv
  ·simp [cOp0] at hc
 case entry y => injection hc with hc; subst hc; simp [evP] at hv
 case box e x => injection hc with hc; subst hc; simp [evP] at hv
 case alloc e =>
  split at hc
  ·injection hc with hc; subst hc; simp [evP] at hv
  ·cases hc
 case makeSlice ty l c =>
  unfold cMkS at hc
  repeat' split at hc
  all_goals first
   | (cases hc; done)
   | (injection hc with hc; subst hc; simp [evP] at hv)
 case makeMap ty r =>
  cases r
  ·simp only [cOp0] at hc
   injection hc with hc; subst hc; simp [evP] at hv
  ·simp [cOp0] at hc
 case buildSlice ty len parts =>
  unfold cRow at hc
  repeat' split at hc
  all_goals first
   | (cases hc; done)
   | (injection hc with hc; subst hc; simp [evP] at hv)
 case mapUpdate ty m k x =>
  unfold cMupd at hc
  repeat' split at hc
  all_goals first
   | (cases hc; done)
   | (injection hc with hc; subst hc; simp [evP] at hv)
 case store ty x y =>
  split at hc
  ·injection hc with hc; subst hc; simp [evP] at hv
  ·cases hc
 case call c =>
  obtain ⟨callee,args,tys⟩ := c
  cases callee with
  | value f => simp only at hc; injection hc with hc; subst hc; simp [evP] at hv
  | invoke r m => simp at hc
  | builtin b =>
   simp only at hc
   unfold cBuiltin at hc
   split at hc
   ·split at hc
    ·rename_i x ty
     unfold cLen at hc
     split at hc
     ·rename_i e hu; injection hc with hc; subst hc; exact s_len ho hu tr hv
     ·rename_i hu; injection hc with hc; subst hc; exact s_lenS ho hu tr hv
     ·rename_i n e hu; injection hc with hc; subst hc; exact s_alen ho hu hv
     ·injection hc with hc; subst hc; simp [evP] at hv
     ·cases hc
    ·cases hc
   ·injection hc with hc; subst hc; exact s_mm (mx := true) ho tr hv
   ·injection hc with hc; subst hc; exact s_mm (mx := false) ho tr hv
   ·split at hc
    ·split at hc
     ·unfold cApp at hc
      repeat' split at hc
      all_goals first
       | (cases hc; done)
       | (injection hc with hc; subst hc; simp [evP] at hv)
     ·cases hc
    ·cases hc
   ·split at hc
    ·unfold cClr at hc
     repeat' split at hc
     all_goals first
      | (cases hc; done)
      | (injection hc with hc; subst hc; simp [evP] at hv)
    ·cases hc
   ·split at hc
    ·unfold cDel at hc
     repeat' split at hc
     all_goals first
      | (cases hc; done)
      | (injection hc with hc; subst hc; simp [evP] at hv)
    ·cases hc
   ·cases hc
 all_goals first
  | (cases hc; done)
  | (simp at hc; done)
def kd : AOp → Nat
 | .ld .. | .look .. | .mlen .. | .b2s .. | .gld .. | .goff .. | .gidx .. | .gsub .. => 1
 | .box .. | .alloc .. | .mkS .. | .mkM | .rngS .. | .row .. => 2
 | .st .. | .app .. | .copy .. | .clear .. | .del .. | .mupd .. | .ment .. | .mest .. | .s2b .. | .nxtS .. => 3
 | .call .. => 4
 | .range .. | .next .. | .entry .. => 5
 | _ => 0
def kdOp (P : Program) : Op → Nat
 | .load .. | .lookup .. => 1
 | .box .. | .alloc .. | .makeSlice .. | .makeMap .. | .buildSlice .. => 2
 | .store .. | .mapUpdate .. => 3
 | .range .. | .next .. | .entry .. => 5
 | .call c => match c.callee with
  | .builtin .append => 3
  | .builtin .clear => 3
  | .builtin .delete => 3
  | .builtin .len => match c.argTypes with
   | ⟨[t]⟩ => match P.underlying t with
    | some (.map _ _) => 1
    | _ => 0
   | _ => 0
  | .builtin _ => 0
  | _ => 4
 | _ => 0
theorem evR_kd {ao : AOp} {v : Value} (hv : evR t h ao = some v) : kd ao = 1 := by
 cases ao <;> first
  | rfl
  | (simp only [evR] at hv; cases hv; done)
theorem evF_kd {ao : AOp} {n : Nat} {v : Value × ABlk} (hv : evF t n ao = some v) : kd ao = 2 := by
 cases ao <;> first
  | rfl
  | (simp only [evF] at hv; cases hv; done)
theorem evL_kd {ao : AOp} {v : Value × AH} (hv : evL t h ao = some v) : kd ao = 3 := by
 cases ao <;> first
  | rfl
  | (simp only [evL] at hv; cases hv; done)
theorem evP_kd {ao : AOp} {v : Value} (hv : evP P t ao = some v) : kd ao = 0 := by
 cases ao <;> first
  | rfl
  | (rename_i ag _; cases ag <;> (simp only [evP] at hv; cases hv; done))
  | (simp only [evP] at hv; cases hv; done)
theorem kd_inj {x y : AOp} {n : Nat} (h : some x = some y) (hx : kd x = n) : kd y = n := by
 injection h with h
 subst h
 exact hx
theorem cBin_kd {op : BinOp} {ty : TypeId} {x y : Operand} {ao : AOp} (hc : cBin P op ty x y = some ao) : kd ao = 0 := by
 unfold cBin at hc
 split at hc <;> first
  | exact kd_inj hc rfl
  | (rcases cOp_eq hc with ⟨_,rfl⟩ | ⟨_,rfl⟩ <;> rfl)
  | (cases hc; done)
theorem cOp_kd0 {op : Op} {ao : AOp} (hc : cOp0 P op = some ao) : kd ao = kdOp P op := by
 cases op <;> simp only [cOp0] at hc
 case range ty y =>
  split at hc
  ·exact kd_inj hc rfl
  ·cases hc
 case next y st =>
  cases st
  ·simp only [cOp0] at hc
   exact kd_inj hc rfl
  ·simp [cOp0] at hc
 case binOp op ty x y ty' => exact cBin_kd hc
 case convert s d x =>
  unfold cConv at hc
  split at hc <;> first | exact kd_inj hc rfl | (cases hc; done)
 case fieldAddr s x f =>
  unfold cOff at hc
  repeat' split at hc
  all_goals first | exact kd_inj hc rfl | (cases hc; done)
 case indexAddr ty x i =>
  unfold cIdx at hc
  repeat' split at hc
  all_goals first | exact kd_inj hc rfl | (cases hc; done)
 case field s x f =>
  unfold cPart at hc
  repeat' split at hc
  all_goals first | exact kd_inj hc rfl | (cases hc; done)
 case index ty x i =>
  unfold cPartI at hc
  repeat' split at hc
  all_goals first | exact kd_inj hc rfl | (cases hc; done)
 case slice ty x lo hi mx =>
  unfold cSlice at hc
  repeat' split at hc
  all_goals first | exact kd_inj hc rfl | (cases hc; done)
 case build ty parts =>
  unfold cBuild at hc
  repeat' split at hc
  all_goals first | exact kd_inj hc rfl | (cases hc; done)
 case load ty x =>
  split at hc
  ·exact kd_inj hc rfl
  ·cases hc
 case lookup ty m k ok =>
  unfold cLook at hc
  repeat' split at hc
  all_goals first | exact kd_inj hc rfl | (cases hc; done)
 case alloc e =>
  split at hc
  ·exact kd_inj hc rfl
  ·cases hc
 case makeSlice ty l c =>
  unfold cMkS at hc
  repeat' split at hc
  all_goals first | exact kd_inj hc rfl | (cases hc; done)
 case makeMap ty r =>
  cases r
  ·exact kd_inj hc rfl
  ·cases hc
 case buildSlice ty len parts =>
  unfold cRow at hc
  repeat' split at hc
  all_goals first | exact kd_inj hc rfl | (cases hc; done)
 case mapUpdate ty m k x =>
  unfold cMupd at hc
  repeat' split at hc
  all_goals first | exact kd_inj hc rfl | (cases hc; done)
 case store ty x y =>
  split at hc
  ·exact kd_inj hc rfl
  ·cases hc
 case call c =>
  obtain ⟨callee,args,tys⟩ := c
  cases callee with
  | value f => exact kd_inj hc rfl
  | invoke r m => cases hc
  | builtin b =>
   simp only at hc
   unfold cBuiltin at hc
   split at hc
   ·split at hc
    ·rename_i x ty
     unfold cLen at hc
     simp only [kdOp]
     split at hc
     ·rename_i e hu; simp only [hu]; exact kd_inj hc rfl
     ·rename_i hu; simp only [hu]; exact kd_inj hc rfl
     ·rename_i n e hu; simp only [hu]; exact kd_inj hc rfl
     ·rename_i kt e hu; simp only [hu]; exact kd_inj hc rfl
     ·cases hc
    ·cases hc
   ·exact kd_inj hc rfl
   ·exact kd_inj hc rfl
   ·split at hc
    ·split at hc
     ·unfold cApp at hc
      repeat' split at hc
      all_goals first | exact kd_inj hc rfl | (cases hc; done)
     ·cases hc
    ·cases hc
   ·split at hc
    ·unfold cClr at hc
     repeat' split at hc
     all_goals first | exact kd_inj hc rfl | (cases hc; done)
    ·cases hc
   ·split at hc
    ·unfold cDel at hc
     repeat' split at hc
     all_goals first | exact kd_inj hc rfl | (cases hc; done)
    ·cases hc
   ·cases hc
 all_goals first
  | exact kd_inj hc rfl
  | (cases hc; done)
theorem sound_read0 {o : Oper} {ao : AOp} {v : Value} (hc : cOp0 P o.op = some ao) (r : Rel ρ h w) (tr : TRel ρ (live h) t a) (hv : evR t h ao = some v) : ∃ u,VR ρ (live h) v u ∧ YieldsR P a o w u := by
 have hk : kdOp P o.op = 1 := (cOp_kd0 hc).symm.trans (evR_kd hv)
 cases ho : o.op <;> rw [ho] at hc hk <;> simp only [cOp0] at hc
 case load ty x =>
  split at hc
  ·rename_i ag hag; injection hc with hc; subst hc; exact s_ld ho hag r tr hv
  ·cases hc
 case lookup ty m k ok => exact s_look ho hc r tr hv
 case call c =>
  obtain ⟨callee,args,tys⟩ := c
  cases callee with
  | value f => cases hk
  | invoke r m => cases hc
  | builtin b =>
   simp only at hc
   unfold cBuiltin at hc
   split at hc
   ·split at hc
    ·rename_i x ty
     unfold cLen at hc
     simp only [kdOp] at hk
     split at hc
     ·rename_i e hu; simp only [hu] at hk; cases hk
     ·rename_i hu; simp only [hu] at hk; cases hk
     ·rename_i n e hu; simp only [hu] at hk; cases hk
     ·rename_i kt e hu; injection hc with hc; subst hc; exact s_mlen ho hu r tr hv
     ·cases hc
    ·cases hc
   ·cases hk
   ·cases hk
   ·cases hk
   ·cases hk
   ·cases hk
   ·cases hc
 all_goals (cases hk; done)
theorem sound_fresh0 {o : Oper} {ao : AOp} {n : Nat} {v : Value} {k : ABlk} (hc : cOp0 P o.op = some ao) (tr : TRel ρ (live h) t a) (hv : evF t n ao = some (v,k)) : FreshOk P ρ h n a o w v k := by
 have hk : kdOp P o.op = 2 := (cOp_kd0 hc).symm.trans (evF_kd hv)
 cases ho : o.op <;> rw [ho] at hc hk <;> simp only [cOp0] at hc
 case box e x => injection hc with hc; subst hc; exact s_box ho tr hv
 case alloc e =>
  split at hc
  ·rename_i z hz; injection hc with hc; subst hc; exact s_alloc ho hz hv
  ·cases hc
 case makeSlice ty l c => exact s_mkS ho hc tr hv
 case makeMap ty r =>
  cases r
  ·simp only [cOp0] at hc
   injection hc with hc; subst hc; exact s_mkM ho hv
  ·cases hc
 case buildSlice ty len parts => exact s_row ho hc tr hv
 case call c =>
  obtain ⟨callee,args,tys⟩ := c
  cases callee with
  | value f => cases hk
  | invoke r m => cases hc
  | builtin b =>
   simp only at hc
   unfold cBuiltin at hc
   split at hc
   ·split at hc
    ·rename_i x ty
     simp only [kdOp] at hk
     split at hk <;> cases hk
    ·cases hc
   ·cases hk
   ·cases hk
   ·cases hk
   ·cases hk
   ·cases hk
   ·cases hc
 all_goals (cases hk; done)
theorem sound_loud0 {o : Oper} {ao : AOp} {v : Value} {h' : AH} (hc : cOp0 P o.op = some ao) (r : Rel ρ h w) (tr : TRel ρ (live h) t a) (hv : evL t h ao = some (v,h')) : LoudOk P ρ h w a o v h' := by
 have hk : kdOp P o.op = 3 := (cOp_kd0 hc).symm.trans (evL_kd hv)
 cases ho : o.op <;> rw [ho] at hc hk <;> simp only [cOp0] at hc
 case store ty x y =>
  split at hc
  ·rename_i n hn; injection hc with hc; subst hc; exact s_st ho hn r tr hv
  ·cases hc
 case mapUpdate ty m k x =>
  refine s_mupd ho hc r tr fun str hao => ?_
  subst hao
  exact hv
 case call c =>
  obtain ⟨callee,args,tys⟩ := c
  cases callee with
  | value f => cases hk
  | invoke r m => cases hc
  | builtin b =>
   simp only at hc
   unfold cBuiltin at hc
   split at hc
   ·split at hc
    ·rename_i x ty
     simp only [kdOp] at hk
     split at hk <;> cases hk
    ·cases hc
   ·cases hk
   ·cases hk
   ·split at hc
    ·split at hc
     ·rename_i s x ty _ he
      subst he
      refine s_app ho hc r tr fun e es bytes hao => ?_
      subst hao
      exact hv
     ·cases hc
    ·cases hc
   ·split at hc
    ·refine s_clr ho hc r tr fun z hao => ?_
     subst hao
     exact hv
    ·cases hc
   ·split at hc
    ·refine s_del ho hc r tr fun str hao => ?_
     subst hao
     exact hv
    ·cases hc
   ·cases hc
 all_goals (cases hk; done)
def isX : AOp → Bool
 | .b2s .. | .gld .. | .goff .. | .gidx .. | .gsub .. | .rngS .. | .s2b .. | .nxtS .. => true
 | _ => false
def cXcnv (P : Program) (s d : TypeId) (x : Operand) : Option AOp := match P.underlying s,P.underlying d with
 | some .string,some (.slice e) => match P.underlying e with
  | some (.int .u8) => some (.s2b x)
  | _ => none
 | some (.slice e),some .string => match P.underlying e with
  | some (.int .u8) => some (.b2s x)
  | _ => none
 | _,_ => none
def cXoff (P : Program) (s : TypeId) (g f : Nat) : Option AOp := match cField P s f with
 | some fl => match szOf P fl.type with
  | some (n + 1) => some (.goff fl.offset g)
  | _ => none
 | none => none
def cXidx (P : Program) (t : TypeId) (g : Nat) (i : Operand) : Option AOp := match P.underlying t with
 | some (.array len e) => match szOf P e with
  | some n => some (.gidx len n g i)
  | none => none
 | _ => none
def cXsub (P : Program) (t : TypeId) (g : Nat) (lo hi mx : Option Operand) : Option AOp := match P.underlying t with
 | some (.array len e) => match szOf P e with
  | some n => some (.gsub len n g lo hi mx)
  | none => none
 | _ => none
def cX (P : Program) (op : Op) : Option AOp := match op with
 | .convert s d x => cXcnv P s d x
 | .range ty x => match P.underlying ty with
  | some .string => some (.rngS x)
  | _ => none
 | .next x true => some (.nxtS x)
 | .load ty (.global g) => match aggOf P ty with
  | some ag => some (.gld ag g)
  | none => none
 | .fieldAddr s (.global g) f => cXoff P s g f
 | .indexAddr ty (.global g) i => cXidx P ty g i
 | .slice ty (.global g) lo hi mx => cXsub P ty g lo hi mx
 | _ => none
theorem cX_is {op : Op} {ao : AOp} (hc : cX P op = some ao) : isX ao = true := by
 unfold cX at hc
 split at hc
 ·unfold cXcnv at hc
  repeat' split at hc
  all_goals first | (injection hc with hc; subst hc; rfl) | (cases hc; done)
 ·repeat' split at hc
  all_goals first | (injection hc with hc; subst hc; rfl) | (cases hc; done)
 ·injection hc with hc; subst hc; rfl
 ·repeat' split at hc
  all_goals first | (injection hc with hc; subst hc; rfl) | (cases hc; done)
 ·unfold cXoff at hc
  repeat' split at hc
  all_goals first | (injection hc with hc; subst hc; rfl) | (cases hc; done)
 ·unfold cXidx at hc
  repeat' split at hc
  all_goals first | (injection hc with hc; subst hc; rfl) | (cases hc; done)
 ·unfold cXsub at hc
  repeat' split at hc
  all_goals first | (injection hc with hc; subst hc; rfl) | (cases hc; done)
 ·cases hc
def cOp (P : Program) (op : Op) : Option AOp := match cX P op with
 | some ao => some ao
 | none => cOp0 P op
theorem cOp_cases {op : Op} {ao : AOp} (hc : cOp P op = some ao) : (cX P op = some ao ∧ isX ao = true) ∨ cOp0 P op = some ao := by
 unfold cOp at hc
 split at hc
 ·rename_i x hx
  injection hc with hc
  subst hc
  exact .inl ⟨hx,cX_is hx⟩
 ·exact .inr hc
theorem cOp_old {op : Op} {ao : AOp} (hc : cOp P op = some ao) (hn : isX ao = false) : cOp0 P op = some ao := by
 rcases cOp_cases hc with ⟨_,h⟩ | h
 ·rw [hn] at h; cases h
 ·exact h
theorem sound_pure {o : Oper} {ao : AOp} {v : Value} (hc : cOp P o.op = some ao) (tr : TRel ρ L t a) (hv : evP P t ao = some v) : ∃ u,VR ρ L v u ∧ Yields0 P a o u := by
 refine sound_pure0 (cOp_old hc ?_) tr hv
 cases ao <;> first | rfl | (simp only [evP] at hv; cases hv; done)
theorem sound_read {o : Oper} {ao : AOp} {v : Value} (hc : cOp P o.op = some ao) (r : Rel ρ h w) (tr : TRel ρ (live h) t a) (hv : evR t h ao = some v) : ∃ u,VR ρ (live h) v u ∧ YieldsR P a o w u := by
 rcases cOp_cases hc with ⟨hc,hx⟩ | hc
 case inr => exact sound_read0 hc r tr hv
 generalize ho : o.op = op at hc
 unfold cX at hc
 split at hc
 ·rename_i s d x
  unfold cXcnv at hc
  repeat' split at hc
  all_goals first | (cases hc; done) | skip
  ·injection hc with hc; subst hc; simp only [evR] at hv; cases hv
  ·injection hc with hc
   subst hc
   exact s_b2s ho (by assumption) (by assumption) (by assumption) r tr hv
 ·repeat' split at hc
  all_goals first | (cases hc; done) | (injection hc with hc; subst hc; simp only [evR] at hv; cases hv; done)
 ·injection hc with hc; subst hc; simp only [evR] at hv; cases hv
 ·split at hc
  case h_2 => cases hc
  rename_i ag hag
  injection hc with hc
  subst hc
  exact s_gld ho hag r hv
 ·unfold cXoff at hc
  repeat' split at hc
  all_goals first | (cases hc; done) | skip
  injection hc with hc
  subst hc
  exact s_goff ho (by assumption) (by assumption) r hv
 ·unfold cXidx at hc
  repeat' split at hc
  all_goals first | (cases hc; done) | skip
  injection hc with hc
  subst hc
  exact s_gidx ho (by assumption) (by assumption) r tr hv
 ·unfold cXsub at hc
  repeat' split at hc
  all_goals first | (cases hc; done) | skip
  injection hc with hc
  subst hc
  exact s_gsub ho (by assumption) (by assumption) r tr hv
 ·cases hc
theorem sound_fresh {o : Oper} {ao : AOp} {n : Nat} {v : Value} {k : ABlk} (hc : cOp P o.op = some ao) (tr : TRel ρ (live h) t a) (hv : evF t n ao = some (v,k)) : FreshOk P ρ h n a o w v k := by
 rcases cOp_cases hc with ⟨hc,hx⟩ | hc
 case inr => exact sound_fresh0 hc tr hv
 generalize ho : o.op = op at hc
 have bad : ∀ y : AOp,cX P op = some y → (∀ x,y ≠ .rngS x) → evF t n y ≠ some (v,k) := by
  intro y hy hne
  have := cX_is hy
  cases y <;> first | (cases this; done) | (simp only [evF]; intro h; cases h; done) | exact absurd rfl (hne _)
 by_cases hr : ∃ x,ao = .rngS x
 case neg => exact absurd hv (bad ao hc fun x h => hr ⟨x,h⟩)
 obtain ⟨x,rfl⟩ := hr
 unfold cX at hc
 split at hc
 ·unfold cXcnv at hc
  repeat' split at hc
  all_goals first | (cases hc; done) | (injection hc with hc; cases hc; done)
 ·split at hc
  case h_2 => cases hc
  rename_i hu
  injection hc with hc
  injection hc with hc
  subst hc
  exact s_rngS ho hu tr hv
 ·injection hc with hc; cases hc
 ·repeat' split at hc
  all_goals first | (cases hc; done) | (injection hc with hc; cases hc; done)
 ·unfold cXoff at hc
  repeat' split at hc
  all_goals first | (cases hc; done) | (injection hc with hc; cases hc; done)
 ·unfold cXidx at hc
  repeat' split at hc
  all_goals first | (cases hc; done) | (injection hc with hc; cases hc; done)
 ·unfold cXsub at hc
  repeat' split at hc
  all_goals first | (cases hc; done) | (injection hc with hc; cases hc; done)
 ·cases hc
theorem push_relG (r : Rel ρ h w) {k : ABlk} {cb : CB} {w' : World} (hk : k ≠ .hole) (hs : k.scp (live h)) (hsz : w.heap.size ≤ w'.heap.size) (heap : ∀ x,x < w.heap.size → w'.heap[x]? = w.heap[x]?) (h1 : w'.os = w.os) (h2 : w'.tape = w.tape) (h3 : w'.output = w.output)
  (hh : Holds (upd ρ h.length cb) cb w' k) (hr : ∀ x,x ∈ k.reach cb → w.heap.size ≤ x) :
  Rel (upd ρ h.length cb) (h ++ [k]) w' ∧ Next h.length ρ h w (upd ρ h.length cb) (h ++ [k]) w' := by
 have hole := r.hole
 have hn : (h ++ [ABlk.hole])[h.length]? = some .hole := by simp
 have reach : ∀ (b : Nat) (l : ABlk),(h ++ [ABlk.hole])[b]? = some l → ∀ x,x ∈ l.reach (ρ b) → x < w.heap.size := fun b l hb x hx => hole.reach_lt hb x hx
 rw [push_eq]
 refine ⟨hole.fill hn hk ?_ hh ?_ ?_ ?_, ?_⟩
 ·exact ABlk.scp_mono (fun b hb => live_set hk b (live_push b hb)) hs
 ·exact fun b l hb x hx => heap x (reach b l hb x hx)
 ·intro b l hb x hx hx'
  have := reach b l hb x (foot_reach hx)
  have := hr x hx'
  omega
 ·intro b l hb x hx hx'
  have := reach b l hb x hx
  have := hr x (foot_reach hx')
  omega
 ·have back : ∀ (b : Nat) (l : ABlk),((h ++ [ABlk.hole]).set h.length k)[b]? = some l → (b = h.length ∧ l = k) ∨ (b ≠ h.length ∧ h[b]? = some l) := by
   intro b l hb
   rcases get_set hb with h1 | ⟨h1,h2⟩
   ·exact .inl h1
   ·right
    refine ⟨h1, ?_⟩
    have hlt : b < h.length := by
     have := (List.getElem?_eq_some_iff.1 h2).1
     simp at this
     omega
    rw [List.getElem?_append_left hlt] at h2
    exact h2
  refine ⟨fun b hb => upd_al b (by omega),fun b hb hl => live_set hk b (live_push b hl),h1,h2,h3,hsz,fun x hx _ => heap x hx, ?_, ?_⟩
  ·intro b l hb x hx
   rcases back b l hb with ⟨rfl,rfl⟩ | ⟨hne,hb⟩
   ·rw [upd_self] at hx
    exact .inl (hr x (foot_reach hx))
   ·rw [upd_ne _ hne] at hx
    exact .inr ⟨b,l,hb,hx⟩
  ·intro b l hb x hx
   rcases back b l hb with ⟨rfl,rfl⟩ | ⟨hne,hb⟩
   ·rw [upd_self] at hx
    exact .inl (hr x hx)
   ·rw [upd_ne _ hne] at hx
    exact .inr ⟨b,l,hb,hx⟩
theorem s_s2b {o : Oper} {src dst e : TypeId} {x : Operand} {v : Value} {h' : AH} (ho : o.op = .convert src dst x) (hs : P.underlying src = some .string) (hd : P.underlying dst = some (.slice e)) (he : P.underlying e = some (.int .u8)) (r : Rel ρ h w) (tr : TRel ρ (live h) t a) (hv : evL t h (.s2b x) = some (v,h')) : LoudOk P ρ h w a o v h' := by
 simp only [evL] at hv
 split at hv
 case h_2 => cases hv
 rename_i s hx
 injection hv with hv
 injection hv with q1 q2
 subst q1 q2
 have e1 : a.eval x = .string s := (evalO_VR tr hx).2
 have hrun := run_bytes_of_string w src dst e s hs hd he
 have hge := grownCap_ge w s.size 0 e
 generalize hcap : grownCap w s.size 0 e = cap at hrun hge
 have hsize : (bytesRow s cap).size = cap := by
  unfold bytesRow
  have : s.data.size = s.size := rfl
  simp
  omega
 generalize hob : Obj.cells (bytesRow s cap) e ((bytesRow s cap).size,(bytesRow s cap).size + 1) = ob at hrun
 have hnew : (w.drew.alloc ob).heap[w.heap.size]? = some ob := alloc_new w.drew ob
 obtain ⟨g1,g2⟩ := push_relG r (k := .row (s.data.toList.map fun b => Value.int .u8 b.toNat)) (cb := ⟨w.heap.size,0,cap - s.size,[]⟩) (w' := w.drew.alloc ob) (by simp) (fun v hv => by obtain ⟨b,_,rfl⟩ := List.mem_map.1 hv; rfl) (by simp) (fun y hy => alloc_old w.drew ob hy) rfl rfl rfl (fun i v hv => by
  obtain ⟨b,hb,rfl⟩ : ∃ b,s.data.toList[i]? = some b ∧ v = Value.int .u8 b.toNat := by
   rw [List.getElem?_map] at hv
   cases hq : s.data.toList[i]? with
   | none => rw [hq] at hv; cases hv
   | some b => rw [hq] at hv; injection hv with hv; exact ⟨b,rfl,hv.symm⟩
  have hb2 : s.data[i]? = some b := by rw [← Array.getElem?_toList]; exact hb
  have hlt : i < s.data.size := (Array.getElem?_eq_some_iff.1 hb2).1
  have hb3 : s.data[i] = b := (Array.getElem?_eq_some_iff.1 hb2).2
  subst hob
  simp only [World.cell?,hnew,Option.isSome_none,Bool.false_eq_true,if_false,Nat.zero_add]
  unfold bytesRow
  rw [Array.getElem?_append_left (by simpa using hlt)]
  simp [conc,hlt,hb3,hb2]) (fun y hy => by
   cases hl : s.data.toList with
   | nil => rw [hl] at hy; cases hy
   | cons b l =>
    rw [hl] at hy
    simp [ABlk.reach] at hy
    omega)
 refine ⟨.slice (some ⟨w.heap.size,0,none⟩) s.size cap,.value (.slice (some ⟨w.heap.size,0,none⟩) s.size cap),w.drew.alloc ob,upd ρ h.length ⟨w.heap.size,0,cap - s.size,[]⟩, ?_,.inl rfl,⟨?_, ?_⟩,g1,g2,by simp⟩
 ·unfold execOp
  simp only [ho,e1]
  exact run_val hrun
 ·simp only [scp]
  exact push_live (by simp)
 ·have hn : ¬ OPEN + s.size < OPEN := by omega
  simp only [conc,cAddr_none,upd_self,cCap,hn,if_false]
  congr 1
  omega
theorem s_nxtS {o : Oper} {x : Operand} {v : Value} {h' : AH} (ho : o.op = .next x true) (r : Rel ρ h w) (tr : TRel ρ (live h) t a) (hv : evL t h (.nxtS x) = some (v,h')) : LoudOk P ρ h w a o v h' := by
 simp only [evL] at hv
 split at hv
 case h_2 => cases hv
 rename_i b hx
 split at hv
 case h_2 => cases hv
 rename_i s pos hb
 obtain ⟨hoff,hg⟩ := r.holds b _ hb
 have e1 : a.eval x = .pointer (some ⟨(ρ b).blk,0,none⟩) := by
  have := (evalO_VR tr hx).2
  rw [this]
  simp only [conc,cAddr_none,hoff]
 have hlt : (ρ b).blk < w.heap.size := (Array.getElem?_eq_some_iff.1 hg).1
 split at hv
 ·rename_i hpos
  injection hv with hv
  injection hv with q1 q2
  subst q1 q2
  obtain ⟨w', hw'⟩ : ∃ w' : World, w' = { w with heap := w.heap.setIfInBounds (ρ b).blk (.stringIter s (pos + (Utf8.decode s pos).2)) } := ⟨_, rfl⟩
  have hoth : ∀ y,y ∉ (ABlk.iter s pos).foot (ρ b) → y < w.heap.size → w'.heap[y]? = w.heap[y]? := by
   intro y hy _
   have : (ρ b).blk ≠ y := fun e => hy (by simp [ABlk.foot,e])
   subst hw'
   simp [Array.getElem?_setIfInBounds,this]
  refine ⟨_, _, w', ρ, ?_, .inl rfl, VR.plain rfl, r.upd hb (by simp) (fun x hx => hx) (fun x hx => hx) trivial ⟨hoff, ?_⟩ hoth, Next.upd hb (by simp) (fun x hx => hx) (fun x hx => hx) (by subst hw'; rfl) (by subst hw'; rfl) (by subst hw'; rfl) (by subst hw'; simp) hoth, by simp⟩
  ·unfold execOp
   simp only [ho,e1]
   refine run_val ?_
   subst hw'
   unfold Instr.next
   have hgo : (getObj (ρ b).blk).run P w = .ok (.stringIter s pos) w := by simp [getObj,Sem.run,hg]
   simp only [Sem.run_bind,hgo,Result.andThen_ok,if_pos hpos]
   simp [setObj,Sem.run,hg,goInt]
  ·subst hw'
   simp [Array.getElem?_setIfInBounds,hlt]
 ·rename_i hpos
  injection hv with hv
  injection hv with q1 q2
  subst q1 q2
  refine ⟨_,_,w,ρ, ?_,.inl rfl,VR.plain rfl,r,Next.same,Nat.le_refl _⟩
  unfold execOp
  simp only [ho,e1]
  refine run_val ?_
  unfold Instr.next
  have hgo : (getObj (ρ b).blk).run P w = .ok (.stringIter s pos) w := by simp [getObj,Sem.run,hg]
  simp only [Sem.run_bind,hgo,Result.andThen_ok,if_neg hpos]
  simp
theorem sound_loud {o : Oper} {ao : AOp} {v : Value} {h' : AH} (hc : cOp P o.op = some ao) (r : Rel ρ h w) (tr : TRel ρ (live h) t a) (hv : evL t h ao = some (v,h')) : LoudOk P ρ h w a o v h' := by
 rcases cOp_cases hc with ⟨hc,hx⟩ | hc
 case inr => exact sound_loud0 hc r tr hv
 generalize ho : o.op = op at hc
 unfold cX at hc
 split at hc
 ·unfold cXcnv at hc
  repeat' split at hc
  all_goals first | (cases hc; done) | skip
  ·injection hc with hc
   subst hc
   exact s_s2b ho (by assumption) (by assumption) (by assumption) r tr hv
  ·injection hc with hc; subst hc; simp only [evL] at hv; cases hv
 ·repeat' split at hc
  all_goals first | (cases hc; done) | (injection hc with hc; subst hc; simp only [evL] at hv; cases hv; done)
 ·injection hc with hc
  subst hc
  exact s_nxtS ho r tr hv
 ·repeat' split at hc
  all_goals first | (cases hc; done) | (injection hc with hc; subst hc; simp only [evL] at hv; cases hv; done)
 ·unfold cXoff at hc
  repeat' split at hc
  all_goals first | (cases hc; done) | (injection hc with hc; subst hc; simp only [evL] at hv; cases hv; done)
 ·unfold cXidx at hc
  repeat' split at hc
  all_goals first | (cases hc; done) | (injection hc with hc; subst hc; simp only [evL] at hv; cases hv; done)
 ·unfold cXsub at hc
  repeat' split at hc
  all_goals first | (cases hc; done) | (injection hc with hc; subst hc; simp only [evL] at hv; cases hv; done)
 ·cases hc
end
end Abs
end Go.Proofs.Ytongllppbifiaaa
namespace Go.Proofs.Ytongllppbifiaaa
namespace Abs
open Go
set_option linter.unusedVariables false
set_option linter.unusedSimpArgs false
def opnds : AOp → List Operand
 | .mv x | .un _ x | .cvt _ x | .off _ x | .ext _ x | .part _ _ x | .nilck x | .len x | .lenS x | .ld _ x | .mlen x | .box _ x | .clear _ x | .range x | .next x | .entry x | .b2s x | .rngS x | .s2b x | .nxtS x | .gidx _ _ _ x => [x]
 | .pick c a b => [c,a,b]
 | .bin _ x y | .eq _ _ x y | .geq _ _ x y | .idx _ x y | .idxA _ _ x y | .partI _ _ _ x y | .sIdx x y | .look _ _ x y _ | .mkS _ _ _ _ x y | .st _ x y | .app _ _ _ x y | .copy _ x y | .del _ x y | .ment _ _ x y => [x,y]
 | .sub _ x lo hi mx | .subA _ _ x lo hi mx => x :: (lo.toList ++ hi.toList ++ mx.toList)
 | .subS x lo hi => x :: (lo.toList ++ hi.toList)
 | .fn _ first captured => first ++ captured
 | .agg _ parts => parts.map (·.2.2)
 | .alen _ | .alloc _ _ | .mkM | .gld .. | .goff .. => []
 | .gsub _ _ _ lo hi mx => lo.toList ++ hi.toList ++ mx.toList
 | .mm _ args => args
 | .row _ _ _ _ parts => parts.map (·.2)
 | .mupd _ x y z | .mest x y z => [x,y,z]
 | .call f args => f :: args
def evC (t : T) : AOp → Option (FuncId × List Value)
 | .call f args => match evalO t f,evalL t args with
  | some (.func (.func fid) first captured),some vs => if fid < 1000000000 then some (fid,first.toList ++ vs ++ captured.toList) else none
  | _,_ => none
 | _ => none
def evI (t : T) : AOp → Option (FuncId × List Value)
 | .range x => match evalO t x with
  | some v => some (1000000000,[v])
  | none => none
 | .next x => match evalO t x with
  | some v => some (1000000001,[v])
  | none => none
 | .entry x => match evalO t x with
  | some v => some (1000000002,[v])
  | none => none
 | _ => none
def Intr (P : Program) (f : FuncId) (u : Value) (s : Sem Value) : Prop :=
 (f = 1000000000 ∧ ∃ ty k e,P.underlying ty = some (.map k e) ∧ s = Instr.range ty u) ∨ (f = 1000000001 ∧ ∃ ty,s = Instr.next u false ty) ∨ (f = 1000000002 ∧ s = Instr.entry u)
def IC (P : Program) (f : FuncId) (args : List Value) (h : AH) (Post : Value → AH → Prop) : Prop := ∀ (ρ : Ren) (w : World) (v0 : Value) (s : Sem Value),args = [v0] → Intr P f (conc ρ v0) s → Rel ρ h w → scp (live h) v0 = true →
 ∃ u w' v h' ρ', s.run P w = .ok u w' ∧ VR ρ' (live h') v u ∧ Post v h' ∧ Rel ρ' h' w' ∧ Next h.length ρ h w ρ' h' w' ∧ h.length ≤ h'.length
def AC2 (P : Program) (f : FuncId) (args : List Value) (h : AH) (Post : Value → AH → Prop) : Prop := if f < 1000000000 then AC P f args h Post else IC P f args h Post
theorem AC2_lt {P : Program} {f : FuncId} {args : List Value} {h : AH} {Post : Value → AH → Prop} (hf : f < 1000000000) : AC2 P f args h Post = AC P f args h Post := if_pos hf
theorem AC2_ge {P : Program} {f : FuncId} {args : List Value} {h : AH} {Post : Value → AH → Prop} (hf : 1000000000 ≤ f) : AC2 P f args h Post = IC P f args h Post := if_neg (Nat.not_lt.2 hf)
theorem evC_lt {t : T} {ao : AOp} {f : FuncId} {args : List Value} (h : evC t ao = some (f,args)) : f < 1000000000 := by
 cases ao <;> try (simp only [evC] at h; cases h; done)
 simp only [evC] at h
 split at h
 ·split at h
  ·rename_i hlt
   injection h with h
   injection h with h1 h2
   subst h1
   exact hlt
  ·cases h
 ·cases h
theorem evI_ge {t : T} {ao : AOp} {f : FuncId} {args : List Value} (h : evI t ao = some (f,args)) : 1000000000 ≤ f ∧ ∃ v,args = [v] := by
 cases ao <;> try (simp only [evI] at h; cases h; done)
 all_goals
  simp only [evI] at h
  split at h
  ·injection h with h
   injection h with h1 h2
   subst h1 h2
   exact ⟨by decide,_,rfl⟩
  ·cases h
section
variable {P : Program} {t t' : T} {h : AH}
theorem evalL_congr {l : List Operand} (H : ∀ x ∈ l,evalO t x = evalO t' x) : evalL t l = evalL t' l := by
 induction l with
 | nil => rfl
 | cons x l ih => simp only [evalL,H x (List.mem_cons_self ..),ih (fun y hy => H y (List.mem_cons_of_mem _ hy))]
theorem evFill_congr {l : List (Nat × Nat × Operand)} (H : ∀ x ∈ l.map (·.2.2),evalO t x = evalO t' x) : ∀ cs,evFill t l cs = evFill t' l cs := by
 induction l with
 | nil => intro cs; rfl
 | cons x l ih =>
  intro cs
  obtain ⟨o,n,x⟩ := x
  simp only [evFill,H x (by simp),ih (fun y hy => H y (by simp only [List.map_cons]; exact List.mem_cons_of_mem _ hy))]
theorem evFillR_congr {es : Nat} {l : List (Nat × Operand)} (H : ∀ x ∈ l.map (·.2),evalO t x = evalO t' x) : ∀ cs,evFillR t es l cs = evFillR t' es l cs := by
 induction l with
 | nil => intro cs; rfl
 | cons x l ih =>
  intro cs
  obtain ⟨o,x⟩ := x
  simp only [evFillR,H x (by simp),ih (fun y hy => H y (by simp only [List.map_cons]; exact List.mem_cons_of_mem _ hy))]
theorem optI_congr {x : Option Operand} (H : ∀ y ∈ x.toList,evalO t y = evalO t' y) : optI t x = optI t' x := by
 cases x with
 | none => rfl
 | some x => simp only [optI,H x (by simp)]
theorem evP_congr {ao : AOp} (H : ∀ x ∈ opnds ao,evalO t x = evalO t' x) : evP P t ao = evP P t' ao := by
 cases ao <;> simp only [opnds,List.mem_cons,List.not_mem_nil,or_false,forall_eq_or_imp,forall_eq,List.mem_append] at H <;> first
  | (simp only [evP]; done)
  | (simp only [evP,H]; done)
  | (rename_i ag x; cases ag <;> simp only [evP,H]; done)
  | skip
 case sub es x lo hi mx => simp only [evP,H.1,optI_congr (fun y hy => H.2 y (.inl (.inl hy))),optI_congr (fun y hy => H.2 y (.inl (.inr hy))),optI_congr (fun y hy => H.2 y (.inr hy))]
 case subA n es x lo hi mx => simp only [evP,H.1,optI_congr (fun y hy => H.2 y (.inl (.inl hy))),optI_congr (fun y hy => H.2 y (.inl (.inr hy))),optI_congr (fun y hy => H.2 y (.inr hy))]
 case subS x lo hi => simp only [evP,H.1,optI_congr (fun y hy => H.2 y (.inl hy)),optI_congr (fun y hy => H.2 y (.inr hy))]
 case fn f first captured => simp only [evP,evalL_congr (fun y hy => H y (.inl hy)),evalL_congr (fun y hy => H y (.inr hy))]
 case agg zero parts => simp only [evP,evFill_congr H]
 case mm mx args => simp only [evP,evalL_congr H]
theorem evR_congr {ao : AOp} (H : ∀ x ∈ opnds ao,evalO t x = evalO t' x) (h : AH) : evR t h ao = evR t' h ao := by
 cases ao <;> simp only [opnds,List.mem_cons,List.not_mem_nil,or_false,forall_eq_or_imp,forall_eq,List.mem_append] at H <;> first
  | (simp only [evR]; done)
  | (simp only [evR,H]; done)
  | (rename_i ag x; cases ag <;> simp only [evR,H]; done)
  | skip
 case gsub n es g lo hi mx => simp only [evR,optI_congr (fun y hy => H y (.inl (.inl hy))),optI_congr (fun y hy => H y (.inl (.inr hy))),optI_congr (fun y hy => H y (.inr hy))]
theorem evF_congr {ao : AOp} (H : ∀ x ∈ opnds ao,evalO t x = evalO t' x) (n : Nat) : evF t n ao = evF t' n ao := by
 cases ao <;> simp only [opnds,List.mem_cons,List.not_mem_nil,or_false,forall_eq_or_imp,forall_eq,List.mem_append] at H <;> first
  | (simp only [evF]; done)
  | (simp only [evF,H]; done)
  | skip
 case row e len es zero parts => simp only [evF,evFillR_congr H]
theorem evL_congr {ao : AOp} (H : ∀ x ∈ opnds ao,evalO t x = evalO t' x) (h : AH) : evL t h ao = evL t' h ao := by
 cases ao <;> simp only [opnds,List.mem_cons,List.not_mem_nil,or_false,forall_eq_or_imp,forall_eq,List.mem_append] at H <;> first
  | (simp only [evL]; done)
  | (simp only [evL,evSt,H]; done)
  | (simp only [evL,evApp,newsOf,H]; done)
  | (simp only [evL,evClr,H]; done)
  | (simp only [evL,evMupd,H]; done)
  | (simp only [evL,evDel,H]; done)
theorem evC_congr {ao : AOp} (H : ∀ x ∈ opnds ao,evalO t x = evalO t' x) : evC t ao = evC t' ao := by
 cases ao <;> simp only [opnds,List.mem_cons,List.not_mem_nil,or_false,forall_eq_or_imp,forall_eq,List.mem_append] at H <;> first
  | (simp only [evC]; done)
  | skip
 case call f args => simp only [evC,H.1,evalL_congr H.2]
theorem evalO_put {d : Option Tmp} {v : Value} {x : Operand} (hx : ∀ i,x = .tmp i → d ≠ some i) : evalO (t.put d v) x = evalO t x := by
 cases d with
 | none => rfl
 | some d =>
  cases x with
  | tmp i =>
   have : d ≠ i := fun e => hx i rfl (by rw [e])
   simp only [evalO,T.put,List.getElem?_set_ne this]
  | _ => rfl
theorem T.put_comm {d e : Option Tmp} {v u : Value} (hd : ∀ i,d = some i → e ≠ some i) : (t.put d v).put e u = (t.put e u).put d v := by
 cases d with
 | none => rfl
 | some d =>
  cases e with
  | none => rfl
  | some e =>
   have : d ≠ e := fun h => hd d rfl (by rw [h])
   simp only [T.put]
   exact List.set_comm _ _ this
end
def AOK (h : AH) : Prop := ∀ (b : Nat) (k : ABlk),h[b]? = some k → k.scp (live h)
def TOK (L : Nat → Bool) (t : T) : Prop := ∀ (i : Nat) v,t[i]? = some (some v) → scp L v = true
section
variable {P : Program} {ρ : Ren} {t : T} {h : AH} {w : World} {L : Nat → Bool}
theorem Rel.ok (r : Rel ρ h w) : AOK h := r.scope
theorem TRel.ok {a : Act} (tr : TRel ρ L t a) : TOK L t := fun i v hv => let ⟨_,_,h⟩ := tr.val i v hv; h.1
theorem TOK.put (tk : TOK L t) {d : Option Tmp} {v : Value} (hv : scp L v = true) : TOK L (t.put d v) := by
 cases d with
 | none => exact tk
 | some d =>
  intro i x hx
  simp only [T.put,List.getElem?_set] at hx
  split at hx
  ·split at hx
   ·injection hx with hx
    injection hx with hx
    subst hx
    exact hv
   ·cases hx
  ·exact tk i x hx
theorem TOK.mono {L' : Nat → Bool} (tk : TOK L t) (hl : ∀ b,L b = true → L' b = true) : TOK L' t := fun i v hv => scp_mono hl v (tk i v hv)
theorem TOK.act (tk : TOK L t) (ρ : Ren) : ∃ a,TRel ρ L t a := by
 refine ⟨⟨(t.map fun x => match x with | some v => conc ρ v | none => undef).toArray,[]⟩,rfl,by simp,fun i v hv => ⟨conc ρ v,by simp [hv],tk i v hv,rfl⟩⟩
theorem evalO_scp (tk : TOK L t) {x : Operand} {v : Value} (hv : evalO t x = some v) : scp L v = true := by
 obtain ⟨a,ha⟩ := tk.act (fun _ => ⟨0,0,0,[]⟩)
 exact (evalO_VR ha hv).1
theorem evP_scp (tk : TOK L t) {o : Oper} {ao : AOp} {v : Value} (hc : cOp P o.op = some ao) (hv : evP P t ao = some v) : scp L v = true := by
 obtain ⟨a,ha⟩ := tk.act (fun _ => ⟨0,0,0,[]⟩)
 obtain ⟨u,vr,_⟩ := sound_pure hc ha hv
 exact vr.1
theorem evF_scp (tk : TOK (live h) t) {o : Oper} {ao : AOp} {n : Nat} {v : Value} {k : ABlk} (hc : cOp P o.op = some ao) (hv : evF t n ao = some (v,k)) (hL : ∀ b,live h b = true → L b = true) (hn : L n = true) : scp L v = true ∧ k.scp L := by
 obtain ⟨a,ha⟩ := tk.act (fun _ => ⟨0,0,0,[]⟩)
 exact (sound_fresh (w := default) hc ha hv).vscp L hL hn
theorem rdRow_scp (ok : AOK h) {b o : Nat} {vs : List Value} {v : Value} (hb : rdRow h b = some vs) (hv : vs[o]? = some v) : scp (live h) v = true := by
 unfold rdRow at hb
 split at hb
 ·rename_i hk
  injection hb with hb
  subst hb
  exact ok b _ hk v (List.mem_of_getElem? hv)
 ·rename_i hk
  injection hb with hb
  subst hb
  exact ok b _ hk v (List.mem_of_getElem? hv)
 ·rename_i hk
  injection hb with hb
  subst hb
  exact ok b _ hk v (List.mem_of_getElem? hv)
 ·cases hb
theorem rdCells_scp (ok : AOK h) {b o n : Nat} {l : List Value} (hl : rdCells h b o n = some l) : scpL (live h) l = true := by
 unfold rdCells at hl
 split at hl
 case h_2 => cases hl
 rename_i vs hb
 split at hl
 case isFalse => cases hl
 injection hl with hl
 subst hl
 rw [scpL_all,List.all_eq_true]
 intro v hv
 obtain ⟨j,hj⟩ := List.getElem?_of_mem (List.mem_of_mem_drop (List.mem_of_mem_take hv))
 exact rdRow_scp ok hb hj
theorem findA_scp (ok : AOK h) {b : Nat} {es : List MapEntry} {c : Nat} (hb : mapAt h b = some (es,c)) {str : Bool} {k : Value} {i j : Nat} {v : Value} (hf : findA str k es i = some (some (j,v))) : scp (live h) v = true := by
 unfold mapAt at hb
 split at hb
 ·rename_i es' c' hk
  injection hb with hb
  injection hb with h1 h2
  subst h1 h2
  obtain ⟨_,e,he,hv,_⟩ := findA_mem es' i j v hf
  have := (ok b _ hk e (List.mem_of_getElem? he)).2
  rw [hv] at this
  exact this
 ·cases hb
theorem globAt_live {g : Nat} {vs : List Value} (hg : globAt h g = some vs) : live h g = true := by
 unfold globAt at hg
 split at hg
 ·rename_i hk; exact live_of hk (by simp)
 ·cases hg
theorem evR_scp (ok : AOK h) (tk : TOK (live h) t) {o : Oper} {ao : AOp} {v : Value} (hc : cOp P o.op = some ao) (hv : evR t h ao = some v) : scp (live h) v = true := by
  cases ao <;> try (simp only [evR] at hv; cases hv; done)
  case ld ag x =>
    cases ag with
    | none =>
      simp only [evR] at hv
      split at hv
      · split at hv
        · rename_i vs hb; exact rdRow_scp ok hb hv
        · cases hv
      · cases hv
    | some n =>
      simp only [evR] at hv
      split at hv
      · split at hv
        · rename_i l hl
          injection hv with hv
          subst hv
          simpa [scp,scpA] using rdCells_scp ok hl
        · cases hv
      · cases hv
  case b2s x =>
    simp only [evR] at hv
    split at hv
    · injection hv with hv; subst hv; rfl
    · split at hv
      · split at hv
        · injection hv with hv; subst hv; rfl
        · cases hv
      · cases hv
    · cases hv
  case gld ag g =>
    cases ag with
    | none =>
      simp only [evR] at hv
      split at hv
      · rename_i vs hg
        have hb : rdRow h g = some vs := by
          unfold globAt at hg
          split at hg
          · rename_i g' vs' hk
            split at hg
            · injection hg with hg; subst hg; unfold rdRow; rw [hk]
            · cases hg
          · cases hg
        exact rdRow_scp ok hb hv
      · cases hv
    | some n =>
      simp only [evR] at hv
      split at hv
      · split at hv
        · rename_i l hl
          injection hv with hv
          subst hv
          simpa [scp,scpA] using rdCells_scp ok hl
        · cases hv
      · cases hv
  case goff n g =>
    simp only [evR] at hv
    split at hv
    · rename_i vs hg
      injection hv with hv
      subst hv
      simpa [scp] using globAt_live hg
    · cases hv
  case gidx len es g i =>
    simp only [evR] at hv
    split at hv
    · rename_i vs k j hg hi
      split at hv
      · injection hv with hv
        subst hv
        simpa [scp] using globAt_live hg
      · cases hv
    · cases hv
  case gsub len es g lo hi mx =>
    simp only [evR] at hv
    split at hv
    · rename_i vs rl rh rm hg h1 h2 h3
      split at hv
      · split at hv
        · injection hv with hv
          subst hv
          simpa [scp] using globAt_live hg
        · cases hv
      · cases hv
    · cases hv
  case look str z m k okk =>
    have hc := cOp_old hc rfl
    have hz : plain z = true := by
      cases ho : o.op <;> rw [ho] at hc <;> simp only [cOp0] at hc
      case lookup ty m' k' ok' =>
        unfold cLook at hc
        split at hc
        case h_2 => cases hc
        split at hc
        case h_2 => cases hc
        split at hc
        case h_2 => cases hc
        split at hc
        case isFalse => cases hc
        rename_i hp
        injection hc with hc
        injection hc with _ hc
        subst hc
        exact hp
      all_goals
        have hk := cOp_kd0 (P := P) (op := o.op) (ao := .look str z m k okk) (by rw [ho]; simp only [cOp0]; exact hc)
        rw [ho] at hk
        first
          | (cases hk; done)
          | skip
      all_goals first
        | (split at hc <;> first | (cases hc; done) | (injection hc with hc; cases hc))
        | skip
      all_goals
        rename_i c
        obtain ⟨callee,args,tys⟩ := c
        cases callee <;> simp only at hc <;> first
          | (cases hc; done)
          | (injection hc with hc; cases hc; done)
          | skip
        unfold cBuiltin at hc
        repeat' split at hc
        all_goals first
          | (cases hc; done)
          | (injection hc with hc; cases hc; done)
          | (unfold cLen at hc; repeat' split at hc
             all_goals first
               | (cases hc; done)
               | (injection hc with hc; cases hc; done))
          | (unfold cApp at hc; repeat' split at hc
             all_goals first
               | (cases hc; done)
               | (injection hc with hc; cases hc; done))
          | (unfold cClr at hc; repeat' split at hc
             all_goals first
               | (cases hc; done)
               | (injection hc with hc; cases hc; done))
          | (unfold cDel at hc; repeat' split at hc
             all_goals first
               | (cases hc; done)
               | (injection hc with hc; cases hc; done))
    have hzl : scp (live h) z = true := scp_mono (fun b hb => by cases hb) z hz
    simp only [evR] at hv
    split at hv
    · cases okk <;> simp at hv <;> subst hv <;> simp [scp,scpA,scpL,hzl]
    · split at hv
      case h_2 => cases hv
      rename_i es c hes
      split at hv
      · rename_i j x hf
        have hx := findA_scp ok hes hf
        injection hv with hv
        subst hv
        cases okk <;> simp [scp,scpA,scpL,hx]
      · injection hv with hv
        subst hv
        cases okk <;> simp [scp,scpA,scpL,hzl]
      · cases hv
    · cases hv
  case mlen x =>
    simp only [evR] at hv
    split at hv
    · injection hv with hv; subst hv; rfl
    · split at hv
      · injection hv with hv; subst hv; rfl
      · cases hv
    · cases hv
end
end Abs
end Go.Proofs.Ytongllppbifiaaa
namespace Go.Proofs.Ytongllppbifiaaa
namespace Abs
open Go
set_option linter.unusedVariables false
set_option linter.unusedSimpArgs false
section
variable {P : Program} {ρ : Ren} {t : T} {h h' : AH} {w : World} {L : Nat → Bool}
theorem AOK.set (ok : AOK h) {b : Nat} {k : ABlk} (hk : k ≠ .hole) (hs : k.scp (live h)) : AOK (h.set b k) := by
 intro c l hc
 refine ABlk.scp_mono (live_set hk) ?_
 rcases get_set hc with ⟨rfl,rfl⟩ | ⟨_,hc⟩
 ·exact hs
 ·exact ok c l hc
theorem AOK.push (ok : AOK h) {k : ABlk} (hs : k.scp (live h)) : AOK (h ++ [k]) := by
 intro c l hc
 refine ABlk.scp_mono (fun b hb => live_push b hb) ?_
 by_cases hl : c < h.length
 ·rw [List.getElem?_append_left hl] at hc
  exact ok c l hc
 ·rw [List.getElem?_append_right (by omega)] at hc
  have := List.mem_of_getElem? hc
  simp at this
  subst this
  exact hs
theorem wrCells_inv {b o : Nat} {l : List Value} (hw : wrCells h b o l = some h') : ∃ vs e opn,h[b]? = some (.cells vs e opn) ∧ o + l.length ≤ vs.length ∧ h' = h.set b (.cells (splice vs o l) e opn) := by
 unfold wrCells at hw
 split at hw
 case h_2 => cases hw
 rename_i vs e opn hb
 split at hw
 case isFalse => cases hw
 rename_i hc
 injection hw with hw
 exact ⟨vs,e,opn,hb,hc.1,hw.symm⟩
theorem wrCells_ok (ok : AOK h) {b o : Nat} {l : List Value} (hs : scpL (live h) l = true) (hw : wrCells h b o l = some h') : AOK h' ∧ live h' = live h ∧ h'.length = h.length := by
 obtain ⟨vs,e,opn,hb,hle,rfl⟩ := wrCells_inv hw
 refine ⟨ok.set (by simp) (fun v hv => ?_),live_upd hb (by simp) (by simp),by simp⟩
 rcases splice_mem hle hv with hv | hv
 ·exact ok b _ hb v hv
 ·exact scpL_iff.1 hs v hv
theorem newsOf_scp (ok : AOK h) {es m : Nat} {x : Operand} {news : List Value} (hn : newsOf t h es x = some (m,news)) : scpL (live h) news = true := by
 unfold newsOf at hn
 split at hn
 ·injection hn with hn
  injection hn with _ q
  subst q
  rfl
 ·split at hn
  case h_2 => cases hn
  rename_i l hl
  split at hn
  case isFalse => cases hn
  injection hn with hn
  injection hn with _ q
  subst q
  exact rdCells_scp ok hl
 ·injection hn with hn
  injection hn with _ q
  subst q
  rfl
 ·cases hn
structure LOK (h : AH) (v : Value) (h' : AH) : Prop where
 ok : AOK h'
 val : scp (live h') v = true
 lives : ∀ b,live h b = true → live h' b = true
 len : h.length ≤ h'.length
theorem evL_ok (ok : AOK h) (tk : TOK (live h) t) {ao : AOp} {v : Value} (hv : evL t h ao = some (v,h')) : LOK h v h' := by
 cases ao <;> try (simp only [evL] at hv; cases hv; done)
 case s2b x =>
  simp only [evL] at hv
  split at hv
  case h_2 => cases hv
  injection hv with hv
  injection hv with q1 q2
  subst q1 q2
  exact ⟨ok.push (fun v hv => by obtain ⟨b,_,rfl⟩ := List.mem_map.1 hv; rfl),by simp only [scp]; exact push_live (by simp),fun b hb => live_push b hb,by simp⟩
 case nxtS x =>
  simp only [evL] at hv
  split at hv
  case h_2 => cases hv
  split at hv
  case h_2 => cases hv
  rename_i b hx _ s pos hb
  split at hv
  ·injection hv with hv
   injection hv with q1 q2
   subst q1 q2
   have hl : ∀ k : ABlk,k ≠ .hole → live (h.set b k) = live h := fun k hk => live_upd hb (by simp) hk
   exact ⟨ok.set (by simp) trivial,rfl,fun c hc => by rw [hl _ (by simp)]; exact hc,by simp⟩
  ·injection hv with hv
   injection hv with q1 q2
   subst q1 q2
   exact ⟨ok,rfl,fun b hb => hb,Nat.le_refl _⟩
 case st n x y =>
  simp only [evL,evSt] at hv
  split at hv
  case h_2 => cases hv
  rename_i b off z hx hy
  split at hv
  case isFalse => cases hv
  split at hv
  case h_2 => cases hv
  rename_i h2 hw
  injection hv with hv
  injection hv with q1 q2
  subst q1 q2
  obtain ⟨g1,g2,g3⟩ := wrCells_ok ok (scp_cells (evalO_scp tk hy)) hw
  exact ⟨g1,rfl,fun b hb => by rw [g2]; exact hb,by omega⟩
 case clear zero x =>
  simp only [evL,evClr] at hv
  split at hv
  case h_2 => cases hv
  rename_i ad n c z hx
  split at hv
  ·injection hv with hv
   injection hv with q1 q2
   subst q1 q2
   exact ⟨ok,rfl,fun b hb => hb,Nat.le_refl _⟩
  ·split at hv
   case h_2 => cases hv
   rename_i b off
   split at hv
   case isFalse => cases hv
   rename_i hz
   split at hv
   case h_2 => cases hv
   rename_i h2 hw
   injection hv with hv
   injection hv with q1 q2
   subst q1 q2
   obtain ⟨g1,g2,g3⟩ := wrCells_ok ok (scpL_iff.2 fun u hu => by rw [List.eq_of_mem_replicate hu]; exact scp_mono (fun b hb => by cases hb) z hz) hw
   exact ⟨g1,rfl,fun b hb => by rw [g2]; exact hb,by omega⟩
 case mupd str m k x =>
  simp only [evL,evMupd] at hv
  split at hv
  case h_2 => cases hv
  rename_i b kv vv hm hkv hvv
  split at hv
  case h_2 => cases hv
  rename_i es c hes
  split at hv
  case h_2 => cases hv
  rename_i es' c' hp
  injection hv with hv
  injection hv with q1 q2
  subst q1 q2
  have hb : h[b]? = some (.map es c) := by
   unfold mapAt at hes
   split at hes
   ·rename_i es0 c0 hb; injection hes with hes; injection hes with e1 e2; subst e1 e2; exact hb
   ·cases hes
  have hl : live (h.set b (.map es' c')) = live h := live_upd hb (by simp) (by simp)
  exact ⟨ok.set (by simp) (mapPut_scp hp (evalO_scp tk hkv) (evalO_scp tk hvv) (ok b _ hb)),rfl,fun c hc => by rw [hl]; exact hc,by simp⟩
 case del str m k =>
  simp only [evL,evDel] at hv
  split at hv
  case h_2 => cases hv
  rename_i b kv hm hkv
  split at hv
  case h_2 => cases hv
  rename_i es c hes
  split at hv
  case h_2 => cases hv
  rename_i es' hp
  injection hv with hv
  injection hv with q1 q2
  subst q1 q2
  have hb : h[b]? = some (.map es c) := by
   unfold mapAt at hes
   split at hes
   ·rename_i es0 c0 hb; injection hes with hes; injection hes with e1 e2; subst e1 e2; exact hb
   ·cases hes
  have hl : live (h.set b (.map es' c)) = live h := live_upd hb (by simp) (by simp)
  exact ⟨ok.set (by simp) (mapDel_scp hp (ok b _ hb)),rfl,fun c hc => by rw [hl]; exact hc,by simp⟩
 case app e es bytes s x =>
  simp only [evL,evApp] at hv
  split at hv
  ·rename_i m news hs hn
   have hsc := newsOf_scp ok hn
   split at hv
   ·injection hv with hv
    injection hv with q1 q2
    subst q1 q2
    exact ⟨ok,rfl,fun b hb => hb,Nat.le_refl _⟩
   ·split at hv
    case isFalse => cases hv
    injection hv with hv
    injection hv with q1 q2
    subst q1 q2
    exact ⟨ok.push (scpL_iff.1 hsc),push_live (by simp),fun b hb => live_push b hb,by simp⟩
  ·rename_i b off len cap m news hs hn
   have hsc := newsOf_scp ok hn
   have hb : live h b = true := by simpa [scp] using evalO_scp tk hs
   split at hv
   ·split at hv
    case isFalse => cases hv
    injection hv with hv
    injection hv with q1 q2
    subst q1 q2
    exact ⟨ok,by simpa [scp] using hb,fun b hb => hb,Nat.le_refl _⟩
   split at hv
   ·split at hv
    case h_2 => cases hv
    rename_i h2 hw
    injection hv with hv
    injection hv with q1 q2
    subst q1 q2
    obtain ⟨g1,g2,g3⟩ := wrCells_ok ok hsc hw
    exact ⟨g1,by rw [g2]; simpa [scp] using hb,fun b hb => by rw [g2]; exact hb,by omega⟩
   ·split at hv
    case isFalse => cases hv
    split at hv
    ·split at hv
     case h_2 => cases hv
     rename_i olds hol
     injection hv with hv
     injection hv with q1 q2
     subst q1 q2
     exact ⟨ok.push (scpL_iff.1 (by rw [scpL_append,rdCells_scp ok hol,hsc]; rfl)),push_live (by simp),fun b hb => live_push b hb,by simp⟩
    ·split at hv
     case h_2 => cases hv
     rename_i vs e' es' hbb
     split at hv
     case isFalse => cases hv
     injection hv with hv
     injection hv with q1 q2
     subst q1 q2
     have ok0 : AOK (h.set b .dead) := ok.set (by simp) trivial
     have hl0 : live (h.set b .dead) = live h := live_upd hbb (by simp) (by simp)
     refine ⟨ok0.push (scpL_iff.1 ?_), ?_,fun c hc => live_push c (by rw [hl0]; exact hc),by simp⟩
     ·rw [hl0,scpL_append,hsc,Bool.and_true]
      exact scpL_iff.2 fun v hv => ok b _ hbb v (List.mem_of_mem_drop (List.mem_of_mem_take hv))
     ·have : (h.set b ABlk.dead).length = h.length := by simp
      simp only [scp]
      rw [← this]
      exact push_live (by simp)
  ·rename_i b off d cap m news hs hn
   have hsc := newsOf_scp ok hn
   have hb : live h b = true := by simpa [scp] using evalO_scp tk hs
   split at hv
   ·injection hv with hv
    injection hv with q1 q2
    subst q1 q2
    exact ⟨ok,by simpa [scp] using hb,fun b hb => hb,Nat.le_refl _⟩
   ·split at hv
    case isFalse => cases hv
    split at hv
    case h_2 => cases hv
    rename_i vs e' es' hbb
    split at hv
    case isFalse => cases hv
    injection hv with hv
    injection hv with q1 q2
    subst q1 q2
    have ok0 : AOK (h.set b .dead) := ok.set (by simp) trivial
    have hl0 : live (h.set b .dead) = live h := live_upd hbb (by simp) (by simp)
    refine ⟨ok0.push (scpL_iff.1 ?_), ?_,fun c hc => live_push c (by rw [hl0]; exact hc),by simp⟩
    ·rw [hl0,hsc]
    ·have : (h.set b ABlk.dead).length = h.length := by simp
     simp only [scp]
     rw [← this]
     exact push_live (by simp)
  ·cases hv
theorem rdRow_fill {n : Nat} {k : ABlk} (hn : h[n]? = some .hole) {b : Nat} {vs : List Value} (hb : rdRow h b = some vs) : rdRow (h.set n k) b = some vs := by
 have hne : n ≠ b := by
  rintro rfl
  unfold rdRow at hb
  rw [hn] at hb
  cases hb
 unfold rdRow at *
 rw [List.getElem?_set_ne hne]
 exact hb
theorem rdCells_fill {n : Nat} {k : ABlk} (hn : h[n]? = some .hole) {b o m : Nat} {l : List Value} (hl : rdCells h b o m = some l) : rdCells (h.set n k) b o m = some l := by
 unfold rdCells at *
 split at hl
 case h_2 => cases hl
 rename_i vs hb
 rw [rdRow_fill hn hb]
 exact hl
theorem mapAt_fill {n : Nat} {k : ABlk} (hn : h[n]? = some .hole) {b : Nat} {x : List MapEntry × Nat} (hb : mapAt h b = some x) : mapAt (h.set n k) b = some x := by
 have hne : n ≠ b := by
  rintro rfl
  unfold mapAt at hb
  rw [hn] at hb
  cases hb
 unfold mapAt at *
 rw [List.getElem?_set_ne hne]
 exact hb
theorem globAt_fill {n : Nat} {k : ABlk} (hn : h[n]? = some .hole) {g : Nat} {vs : List Value} (hb : globAt h g = some vs) : globAt (h.set n k) g = some vs := by
 have hne : n ≠ g := by
  rintro rfl
  unfold globAt at hb
  rw [hn] at hb
  cases hb
 unfold globAt at *
 rw [List.getElem?_set_ne hne]
 exact hb
theorem evR_fill {n : Nat} {k : ABlk} (hn : h[n]? = some .hole) {ao : AOp} {v : Value} (hv : evR t h ao = some v) : evR t (h.set n k) ao = some v := by
 cases ao <;> try (simp only [evR] at hv; cases hv; done)
 case b2s x =>
  simp only [evR] at hv ⊢
  split at hv
  ·exact hv
  ·split at hv
   ·rename_i l hl; simp only [rdCells_fill hn hl]; exact hv
   ·cases hv
  ·cases hv
 case gld ag g =>
  cases ag with
  | none =>
   simp only [evR] at hv ⊢
   split at hv
   ·rename_i vs hg; simp only [globAt_fill hn hg]; exact hv
   ·cases hv
  | some m =>
   simp only [evR] at hv ⊢
   split at hv
   ·rename_i vs hg
    simp only [globAt_fill hn hg]
    split at hv
    ·rename_i l hl; simp only [rdCells_fill hn hl]; exact hv
    ·cases hv
   ·cases hv
 case goff m g =>
  simp only [evR] at hv ⊢
  split at hv
  ·rename_i vs hg; simp only [globAt_fill hn hg]; exact hv
  ·cases hv
 case gidx len es g i =>
  simp only [evR] at hv ⊢
  split at hv
  ·rename_i vs _ _ hg _; simp only [globAt_fill hn hg]; split; · rename_i q; simp_all
   ·simp_all
  ·cases hv
 case gsub len es g lo hi mx =>
  simp only [evR] at hv ⊢
  split at hv
  ·rename_i vs rl rh rm hg h1 h2 h3; simp only [globAt_fill hn hg,h1,h2,h3]; exact hv
  ·cases hv
 case ld ag x =>
  cases ag with
  | none =>
   simp only [evR] at hv ⊢
   split at hv
   ·split at hv
    ·rename_i vs hb; simp only [rdRow_fill hn hb]; exact hv
    ·cases hv
   ·cases hv
  | some m =>
   simp only [evR] at hv ⊢
   split at hv
   ·split at hv
    ·rename_i l hl; simp only [rdCells_fill hn hl]; exact hv
    ·cases hv
   ·cases hv
 case look str z m kk ok =>
  simp only [evR] at hv ⊢
  split at hv
  ·exact hv
  ·split at hv
   ·rename_i es c hes; simp only [mapAt_fill hn hes]; exact hv
   ·cases hv
  ·cases hv
 case mlen x =>
  simp only [evR] at hv ⊢
  split at hv
  ·exact hv
  ·split at hv
   ·rename_i es c hes; simp only [mapAt_fill hn hes]; exact hv
   ·cases hv
  ·cases hv
theorem wrCells_fill {n : Nat} {k : ABlk} (hn : h[n]? = some .hole) {b o : Nat} {l : List Value} (hw : wrCells h b o l = some h') : wrCells (h.set n k) b o l = some (h'.set n k) ∧ h'[n]? = some .hole := by
 obtain ⟨vs,e,opn,hb,hle,hh⟩ := wrCells_inv hw
 have hne : n ≠ b := by
  rintro rfl
  rw [hn] at hb
  cases hb
 subst hh
 refine ⟨?_,by rw [List.getElem?_set_ne (fun e => hne e.symm)]; exact hn⟩
 unfold wrCells at hw ⊢
 rw [hb] at hw
 rw [List.getElem?_set_ne hne,hb]
 simp only at hw ⊢
 split at hw
 ·rename_i hc
  rw [if_pos hc]
  congr 1
  exact List.set_comm _ _ hne
 ·cases hw
theorem set_append {n : Nat} {k : ABlk} {l : AH} (hn : n < h.length) : (h.set n k) ++ l = (h ++ l).set n k := by
 rw [List.set_append_left _ _ hn]
theorem newsOf_fill {n : Nat} {k : ABlk} (hn : h[n]? = some .hole) {es : Nat} {x : Operand} {r : Nat × List Value} (hr : newsOf t h es x = some r) : newsOf t (h.set n k) es x = some r := by
 unfold newsOf at *
 split at hr
 ·exact hr
 ·split at hr
  case h_2 => cases hr
  rename_i l hl
  simp only [rdCells_fill hn hl]
  exact hr
 ·exact hr
 ·cases hr
theorem evL_fill {n : Nat} {kb : ABlk} (hn : h[n]? = some .hole) {ao : AOp} {v : Value} (hv : evL t h ao = some (v,h')) : evL t (h.set n kb) ao = some (v,h'.set n kb) ∧ h'[n]? = some .hole := by
 have hlt : n < h.length := (List.getElem?_eq_some_iff.1 hn).1
 cases ao <;> try (simp only [evL] at hv; cases hv; done)
 case s2b x =>
  simp only [evL] at hv ⊢
  split at hv
  case h_2 => cases hv
  rename_i s hs
  injection hv with hv
  injection hv with q1 q2
  subst q1 q2
  simp only [hs,List.length_set]
  rw [set_append hlt,List.getElem?_append_left hlt]
  exact ⟨rfl,hn⟩
 case nxtS x =>
  simp only [evL] at hv ⊢
  split at hv
  case h_2 => cases hv
  rename_i b hx
  split at hv
  case h_2 => cases hv
  rename_i s pos hb
  have hne : n ≠ b := by
   rintro rfl
   rw [hn] at hb
   cases hb
  simp only [List.getElem?_set_ne hne,hb]
  split at hv
  ·rename_i hp
   injection hv with hv
   injection hv with q1 q2
   subst q1 q2
   simp only [if_pos hp]
   exact ⟨by rw [List.set_comm _ _ hne],by rw [List.getElem?_set_ne (fun e => hne e.symm)]; exact hn⟩
  ·rename_i hp
   injection hv with hv
   injection hv with q1 q2
   subst q1 q2
   rw [if_neg hp]
   exact ⟨rfl,hn⟩
 case st m x y =>
  simp only [evL,evSt] at hv ⊢
  split at hv
  case h_2 => cases hv
  rename_i b off z hx hy
  split at hv
  case isFalse => cases hv
  rename_i hsz
  split at hv
  case h_2 => cases hv
  rename_i h2 hw
  injection hv with hv
  injection hv with q1 q2
  subst q1 q2
  obtain ⟨g1,g2⟩ := wrCells_fill hn hw
  simp only [hx,hy,if_pos hsz]
  rw [g1]
  exact ⟨rfl,g2⟩
 case clear zero x =>
  simp only [evL,evClr] at hv ⊢
  split at hv
  case h_2 => cases hv
  rename_i ad m c z hx
  split at hv
  ·rename_i hm
   injection hv with hv
   injection hv with q1 q2
   subst q1 q2
   rw [if_pos hm]
   exact ⟨rfl,hn⟩
  ·rename_i hm
   rw [if_neg hm]
   split at hv
   case h_2 => cases hv
   rename_i b off
   split at hv
   case isFalse => cases hv
   rename_i hz
   split at hv
   case h_2 => cases hv
   rename_i h2 hw
   injection hv with hv
   injection hv with q1 q2
   subst q1 q2
   obtain ⟨g1,g2⟩ := wrCells_fill hn hw
   simp only [if_pos hz]
   rw [g1]
   exact ⟨rfl,g2⟩
 case mupd str m k x =>
  simp only [evL,evMupd] at hv ⊢
  split at hv
  case h_2 => cases hv
  rename_i b kv vv hm hkv hvv
  split at hv
  case h_2 => cases hv
  rename_i es c hes
  split at hv
  case h_2 => cases hv
  rename_i es' c' hp
  injection hv with hv
  injection hv with q1 q2
  subst q1 q2
  have hb : h[b]? = some (.map es c) := by
   unfold mapAt at hes
   split at hes
   ·rename_i es0 c0 hb; injection hes with hes; injection hes with e1 e2; subst e1 e2; exact hb
   ·cases hes
  have hne : n ≠ b := by
   rintro rfl
   rw [hn] at hb
   cases hb
  have hes' : mapAt (h.set n kb) b = some (es,c) := by
   unfold mapAt
   rw [List.getElem?_set_ne hne,hb]
  simp only [hm, hkv, hvv, hes', hp]
  exact ⟨by rw [List.set_comm _ _ hne],by rw [List.getElem?_set_ne (fun e => hne e.symm)]; exact hn⟩
 case del str m k =>
  simp only [evL,evDel] at hv ⊢
  split at hv
  case h_2 => cases hv
  rename_i b kv hm hkv
  split at hv
  case h_2 => cases hv
  rename_i es c hes
  split at hv
  case h_2 => cases hv
  rename_i es' hp
  injection hv with hv
  injection hv with q1 q2
  subst q1 q2
  have hb : h[b]? = some (.map es c) := by
   unfold mapAt at hes
   split at hes
   ·rename_i es0 c0 hb; injection hes with hes; injection hes with e1 e2; subst e1 e2; exact hb
   ·cases hes
  have hne : n ≠ b := by
   rintro rfl
   rw [hn] at hb
   cases hb
  have hes' : mapAt (h.set n kb) b = some (es,c) := by
   unfold mapAt
   rw [List.getElem?_set_ne hne,hb]
  simp only [hm, hkv, hes', hp]
  exact ⟨by rw [List.set_comm _ _ hne],by rw [List.getElem?_set_ne (fun e => hne e.symm)]; exact hn⟩
 case app e es bytes s x =>
  simp only [evL,evApp] at hv ⊢
  split at hv
  ·rename_i m news hs hnw
   simp only [hs,newsOf_fill hn hnw,List.length_set]
   split at hv
   ·rename_i hm
    injection hv with hv
    injection hv with q1 q2
    subst q1 q2
    rw [if_pos hm]
    exact ⟨rfl,hn⟩
   ·rename_i hm
    rw [if_neg hm]
    split at hv
    case isFalse => cases hv
    rename_i hf
    rw [if_pos hf]
    injection hv with hv
    injection hv with q1 q2
    subst q1 q2
    rw [set_append hlt,List.getElem?_append_left hlt]
    exact ⟨rfl,hn⟩
  ·rename_i b off len cap m news hs hnw
   simp only [hs,newsOf_fill hn hnw,List.length_set]
   split at hv
   ·rename_i hm
    rw [if_pos hm]
    split at hv
    case isFalse => cases hv
    rename_i hlc
    injection hv with hv
    injection hv with q1 q2
    subst q1 q2
    rw [if_pos hlc]
    exact ⟨rfl,hn⟩
   rename_i hm
   rw [if_neg hm]
   split at hv
   ·rename_i hroom
    rw [if_pos hroom]
    split at hv
    case h_2 => cases hv
    rename_i h2 hw
    injection hv with hv
    injection hv with q1 q2
    subst q1 q2
    obtain ⟨g1,g2⟩ := wrCells_fill hn hw
    rw [g1]
    exact ⟨rfl,g2⟩
   ·rename_i hroom
    rw [if_neg hroom]
    split at hv
    case isFalse => cases hv
    rename_i hf
    rw [if_pos hf]
    split at hv
    ·rename_i hcap
     rw [if_pos hcap]
     split at hv
     case h_2 => cases hv
     rename_i olds hol
     injection hv with hv
     injection hv with q1 q2
     subst q1 q2
     simp only [rdCells_fill hn hol]
     rw [set_append hlt,List.getElem?_append_left hlt]
     exact ⟨rfl,hn⟩
    ·rename_i hcap
     rw [if_neg hcap]
     split at hv
     case h_2 => cases hv
     rename_i vs e' es' hbb
     split at hv
     case isFalse => cases hv
     rename_i hcond
     injection hv with hv
     injection hv with q1 q2
     subst q1 q2
     have hne : n ≠ b := by
      rintro rfl
      rw [hn] at hbb
      cases hbb
     rw [List.getElem?_set_ne hne,hbb]
     simp only [if_pos hcond]
     refine ⟨?_,by rw [List.getElem?_append_left (by simpa using hlt),List.getElem?_set_ne (fun e => hne e.symm)]; exact hn⟩
     rw [List.set_comm _ _ hne,set_append (by simpa using hlt)]
  ·rename_i b off d cap m news hs hnw
   simp only [hs,newsOf_fill hn hnw,List.length_set]
   split at hv
   ·rename_i hm
    rw [if_pos hm]
    injection hv with hv
    injection hv with q1 q2
    subst q1 q2
    exact ⟨rfl,hn⟩
   ·rename_i hm
    rw [if_neg hm]
    split at hv
    case isFalse => cases hv
    rename_i hf
    rw [if_pos hf]
    split at hv
    case h_2 => cases hv
    rename_i vs e' es' hbb
    split at hv
    case isFalse => cases hv
    rename_i hcond
    injection hv with hv
    injection hv with q1 q2
    subst q1 q2
    have hne : n ≠ b := by
     rintro rfl
     rw [hn] at hbb
     cases hbb
    rw [List.getElem?_set_ne hne,hbb]
    simp only [if_pos hcond]
    refine ⟨?_,by rw [List.getElem?_append_left (by simpa using hlt),List.getElem?_set_ne (fun e => hne e.symm)]; exact hn⟩
    rw [List.set_comm _ _ hne,set_append (by simpa using hlt)]
  ·cases hv
theorem live_fill {n : Nat} {k : ABlk} (hn : h[n]? = some .hole) (hk : k ≠ .hole) (b : Nat) : live (h.set n k) b = true ↔ b = n ∨ live h b = true := by
 constructor
 ·intro hb
  by_cases e : b = n
  ·exact .inl e
  ·right
   unfold live at *
   rw [List.getElem?_set_ne (fun x => e x.symm)] at hb
   exact hb
 ·rintro (rfl | hb)
  ·exact live_of (List.getElem?_set_self (List.getElem?_eq_some_iff.1 hn).1) hk
  ·exact live_set hk b hb
theorem AC.fill {f : FuncId} {args : List Value} {Post : Value → AH → Prop} (hc : AC P f args h Post) {n : Nat} {k : ABlk} (hn : h[n]? = some .hole) (hk : k ≠ .hole) (ok : AOK h) (ha : scpL (live h) args = true) (hp : ∀ v h', Post v h' → h'[n]? = some .hole) :
  AC P f args (h.set n k) (fun v h'' => ∃ h', Post v h' ∧ h'' = h'.set n k) := by
 refine ⟨hc.1,fun ρ w us r hs hus => ?_⟩
 have hnl : ∀ b,live h b = true → b ≠ n := by
  rintro b hb rfl
  unfold live at hb
  rw [hn] at hb
  cases hb
 have hlt : n < h.length := (List.getElem?_eq_some_iff.1 hn).1
 have old : ∀ (b : Nat) (l : ABlk),h[b]? = some l → b ≠ n → (h.set n k)[b]? = some l := fun b l hb hne => by rw [List.getElem?_set_ne (fun e => hne e.symm)]; exact hb
 have hkn : (h.set n k)[n]? = some k := List.getElem?_set_self hlt
 have r0 : Rel ρ h w := by
  refine ⟨fun b l hb => ?_,ok,fun b c l o hb hc hne x hx => ?_⟩
  ·by_cases e : b = n
   ·subst e
    rw [hn] at hb
    injection hb with hb
    subst hb
    trivial
   ·exact r.holds b l (old b l hb e)
  ·by_cases e : b = n
   ·subst e
    rw [hn] at hb
    injection hb with hb
    subst hb
    cases hx
   ·by_cases e' : c = n
    ·subst e'
     rw [hn] at hc
     injection hc with hc
     subst hc
     intro h; cases h
    ·exact r.apart b c l o (old b l hb e) (old c o hc e') hne x hx
 refine (hc.2 ρ w us r0 hs fun i v hv => ?_).mono ?_
 ·obtain ⟨u,h1,h2⟩ := hus i v hv
  exact ⟨u,h1,scpL_iff.1 ha v (List.mem_of_getElem? hv),h2.2⟩
 ·rintro e w' ⟨v, u, h', ρ', he, vr, hpost, r', nx, hlen⟩
  have hn' := hp v h' hpost
  have hal : ∀ b,(upd ρ' n (ρ n) b).al = (ρ' b).al := fun b => by
   by_cases e : b = n
   ·subst e; rw [upd_self]; exact (nx.ext b hlt).symm
   ·exact upd_al b e
  have hρn : upd ρ' n (ρ n) n = ρ n := upd_self _ _ _
  have hρo : ∀ b,b ≠ n → upd ρ' n (ρ n) b = ρ' b := fun b hb => upd_ne b hb
  have lives : ∀ b,live (h.set n k) b = true → live (h'.set n k) b = true := by
   intro b hb
   rcases (live_fill hn hk b).1 hb with rfl | hb
   ·exact (live_fill hn' hk _).2 (.inl rfl)
   ·exact (live_fill hn' hk b).2 (.inr (nx.lives b (live_lt hb) hb))
  have hρ : ∀ b,live (h.set n k) b = true → (upd ρ' n (ρ n) b).al = (ρ b).al := fun b hb => (hal b).trans (nx.ext b (by
   have := live_lt hb
   simpa using this))
  have hfoot : ∀ (b : Nat) (l : ABlk),h[b]? = some l → ∀ x,x ∈ k.reach (ρ n) → x ∉ l.foot (ρ b) := by
   intro b l hb x hx hx'
   by_cases e : b = n
   ·subst e
    rw [hn] at hb
    injection hb with hb
    subst hb
    cases hx'
   ·exact r.apart b n l k (old b l hb e) hkn e x hx' hx
  have hkeep : ∀ x,x ∈ k.reach (ρ n) → w'.heap[x]? = w.heap[x]? := fun x hx => nx.keep x (r.reach_lt hkn x hx) (fun b l hb => hfoot b l hb x hx)
  have back : ∀ (b : Nat) (l : ABlk),(h'.set n k)[b]? = some l → (b = n ∧ l = k) ∨ (b ≠ n ∧ h'[b]? = some l) := fun b l hb => get_set hb
  have r'' : Rel (upd ρ' n (ρ n)) (h'.set n k) w' := by
   refine ⟨fun b l hb => ?_,fun b l hb => ?_,fun b c l o hb hc hne x hx => ?_⟩
   ·rcases back b l hb with ⟨rfl,rfl⟩ | ⟨hbn,hb⟩
    ·rw [hρn]
     exact ((r.holds b l hkn).keep hkeep).congr (r.scope b l hkn) hρ
    ·rw [hρo b hbn]
     exact (r'.holds b l hb).congr (r'.scope b l hb) (fun c _ => hal c)
   ·rcases back b l hb with ⟨rfl,rfl⟩ | ⟨_,hb⟩
    ·exact ABlk.scp_mono lives (r.scope b l hkn)
    ·exact ABlk.scp_mono (fun c hc => live_set hk c hc) (r'.scope b l hb)
   ·rcases back b l hb with ⟨rfl,rfl⟩ | ⟨hbn,hb2⟩
    ·rcases back c o hc with ⟨rfl,rfl⟩ | ⟨hcn,hc2⟩
     ·exact absurd rfl hne
     ·rw [hρn] at hx
      rw [hρo c hcn]
      intro hx'
      rcases nx.prow c o hc2 x hx' with hge | ⟨b0,k0,hb0,hx0⟩
      ·have := r.reach_lt hkn x (foot_reach hx)
       omega
      ·by_cases e : b0 = b
       ·subst e
        rw [hn] at hb0
        injection hb0 with hb0
        subst hb0
        cases hx0
       ·exact r.apart b b0 l k0 hkn (old b0 k0 hb0 e) (fun q => e q.symm) x hx hx0
    ·rcases back c o hc with ⟨rfl,rfl⟩ | ⟨hcn,hc2⟩
     ·rw [hρn]
      rw [hρo b hbn] at hx
      intro hx'
      rcases nx.prov b l hb2 x hx with hge | ⟨b0,k0,hb0,hx0⟩
      ·have := r.reach_lt hkn x hx'
       omega
      ·exact hfoot b0 k0 hb0 x hx' hx0
     ·rw [hρo b hbn] at hx
      rw [hρo c hcn]
      exact r'.apart b c l o hb2 hc2 hne x hx
  refine ⟨v, u, h'.set n k, upd ρ' n (ρ n), he, ⟨scp_mono (fun b hb => live_set hk b hb) v vr.1, by rw [conc_congr (fun c _ => hal c) v vr.1]; exact vr.2⟩, ⟨h', hpost, rfl⟩, r'', ?_, by simpa using hlen⟩
  refine ⟨fun b hb => (hal b).trans (nx.ext b (by simpa using hb)),fun b _ hb => lives b hb,nx.os,nx.tape,nx.output,nx.size,fun x hx hx' => nx.keep x hx (fun b l hb hx'' => ?_),fun b l hb x hx => ?_,fun b l hb x hx => ?_⟩
  ·by_cases e : b = n
   ·subst e
    rw [hn] at hb
    injection hb with hb
    subst hb
    cases hx''
   ·exact hx' b l (old b l hb e) hx''
  ·rcases back b l hb with ⟨rfl,rfl⟩ | ⟨hbn,hb⟩
   ·rw [hρn] at hx
    exact .inr ⟨b,l,hkn,hx⟩
   ·rw [hρo b hbn] at hx
    rcases nx.prov b l hb x hx with hge | ⟨b0,k0,hb0,hx0⟩
    ·exact .inl hge
    ·refine .inr ⟨b0,k0,old b0 k0 hb0 ?_,hx0⟩
     rintro rfl
     rw [hn] at hb0
     injection hb0 with hb0
     subst hb0
     cases hx0
  ·rcases back b l hb with ⟨rfl,rfl⟩ | ⟨hbn,hb⟩
   ·rw [hρn] at hx
    exact .inr ⟨b,l,hkn,hx⟩
   ·rw [hρo b hbn] at hx
    rcases nx.prow b l hb x hx with hge | ⟨b0,k0,hb0,hx0⟩
    ·exact .inl hge
    ·refine .inr ⟨b0,k0,old b0 k0 hb0 ?_,hx0⟩
     rintro rfl
     rw [hn] at hb0
     injection hb0 with hb0
     subst hb0
     cases hx0
end
end Abs
end Go.Proofs.Ytongllppbifiaaa
namespace Go.Proofs.Ytongllppbifiaaa
namespace Abs
open Go
set_option linter.unusedVariables false
set_option linter.unusedSimpArgs false
def cOper (P : Program) (ops : Array Oper) (o : Oper) : Option AOper := match cOp P o.op with
 | none => none
 | some ao => match o.guard with
  | none => some ⟨o.dst,ao,none⟩
  | some (j,want) => match (ops[j]?).bind (·.dst) with
   | some d => some ⟨o.dst,ao,some (d,want)⟩
   | none => none
def wantedA (t : T) : Option (Tmp × Bool) → Option Bool
 | none => some true
 | some (d,want) => match evalO t (.tmp d) with
  | some (.bool b) => some (b == want)
  | some (.tuple _) => some false
  | _ => none
def looks (x : AOper) : List Nat := (opnds x.op).filterMap (fun | .tmp i => some i | _ => none) ++ (match x.guard with | some (d,_) => [d] | none => [])
def apartB (x y : AOper) : Bool :=
 (match x.dst with | some d => !(looks y).contains d && y.dst != some d | none => true) && (match y.dst with | some d => !(looks x).contains d | none => true)
section
variable {P : Program} {ρ : Ren} {t : T} {h h' : AH} {w : World} {a : Act}
theorem evalO_tmp {d : Nat} {v : Value} (hv : evalO t (.tmp d) = some v) : t[d]? = some (some v) := by
 simp only [evalO] at hv
 cases hd : t[d]? with
 | none => rw [hd] at hv; cases hv
 | some x => rw [hd] at hv; simp only [Option.join_some] at hv; rw [hv]
theorem wanted_eq {ops : Array Oper} {o : Oper} {x : AOper} {r : Bool} {L : Nat → Bool} (hc : cOper P ops o = some x) (tr : TRel ρ L t a) (hw : wantedA t x.guard = some r) : Region.wanted o (yielded ops a.tmps) = r := by
 unfold cOper at hc
 split at hc
 case h_1 => cases hc
 rename_i ao hao
 split at hc
 ·rename_i hg
  injection hc with hc
  subst hc
  simp only [wantedA] at hw
  injection hw with hw
  subst hw
  simp [Region.wanted,hg]
 ·rename_i j want hg
  split at hc
  case h_2 => cases hc
  rename_i d hd
  injection hc with hc
  subst hc
  simp only [wantedA] at hw
  split at hw
  case h_3 => cases hw
  ·rename_i b hb
   injection hw with hw
   subst hw
   obtain ⟨u,hu,vr⟩ := tr.val d _ (evalO_tmp hb)
   have hub : u = .bool b := vr.2
   subst hub
   simp only [Region.wanted,hg,yielded,hd,Option.bind_some,hu]
   cases b <;> cases want <;> rfl
  ·rename_i cs hb
   injection hw with hw
   subst hw
   obtain ⟨u,hu,vr⟩ := tr.val d _ (evalO_tmp hb)
   have hub : u = .tuple (concA ρ cs) := vr.2
   subst hub
   simp only [Region.wanted,hg,yielded,hd,Option.bind_some,hu]
   rfl
theorem cOper_op {ops : Array Oper} {o : Oper} {x : AOper} (hc : cOper P ops o = some x) : cOp P o.op = some x.op ∧ x.dst = o.dst := by
 unfold cOper at hc
 split at hc
 case h_1 => cases hc
 rename_i ao hao
 split at hc
 ·injection hc with hc; subst hc; exact ⟨hao,rfl⟩
 ·split at hc
  ·injection hc with hc; subst hc; exact ⟨hao,rfl⟩
  ·cases hc
structure ApartA (x y : AOper) : Prop where
 h1 : ∀ d,x.dst = some d → d ∉ looks y
 h2 : ∀ d,x.dst = some d → y.dst ≠ some d
 h3 : ∀ d,y.dst = some d → d ∉ looks x
theorem apartB_spec {x y : AOper} (hb : apartB x y = true) : ApartA x y := by
 unfold apartB at hb
 simp only [Bool.and_eq_true] at hb
 refine ⟨fun d hd => ?_,fun d hd => ?_,fun d hd => ?_⟩
 ·have := hb.1
  rw [hd] at this
  simp at this
  exact this.1
 ·have := hb.1
  rw [hd] at this
  simp at this
  exact this.2
 ·have := hb.2
  rw [hd] at this
  simpa using this
theorem looks_put {x : AOper} {d : Option Tmp} {v : Value} (hd : ∀ i,d = some i → i ∉ looks x) : (∀ y ∈ opnds x.op,evalO (t.put d v) y = evalO t y) ∧ wantedA (t.put d v) x.guard = wantedA t x.guard := by
 refine ⟨fun y hy => evalO_put fun i hi e => hd i e ?_, ?_⟩
 ·unfold looks
  refine List.mem_append_left _ (List.mem_filterMap.2 ⟨y,hy, ?_⟩)
  rw [hi]
 ·cases hg : x.guard with
  | none => rfl
  | some g =>
   obtain ⟨e,want⟩ := g
   simp only [wantedA]
   rw [evalO_put fun i hi he => hd i he (by
    unfold looks
    rw [hg]
    injection hi with hi
    subst hi
    simp)]
end
section
variable (P : Program) (aos : Nat → AOper) (hn : Nat → Nat) (chk : Nat → Nat → Bool) (K : T → AH → Prop)
abbrev Reads := List (Nat × (AH → Option Value) × Value)
def okD (i : Nat) (D : Reads) (h : AH) : Prop := ∀ d ∈ D,chk i d.1 = true → d.2.1 h = some d.2.2
def holesOk (rem : List Nat) (h : AH) : Prop := ∀ j ∈ rem,kd (aos j).op = 2 → h[hn j]? = some .hole
def stepQ (t : T) (x : AOper) (v : Value) : Prop := (wantedA t x.guard = some false ∧ v = undef) ∨ (wantedA t x.guard = some true ∧ evP P t x.op = some v)
def Stp (i : Nat) (rem : List Nat) (D : Reads) (t : T) (h : AH) (k : Reads → T → AH → Prop) : Prop :=
  (∃ v,stepQ P t (aos i) v ∧ k D (t.put (aos i).dst v) h) ∨ (wantedA t (aos i).guard = some true ∧
    ((∃ v,evR t h (aos i).op = some v ∧ k ((i,fun h => evR t h (aos i).op,v) :: D) (t.put (aos i).dst v) h) ∨
     (∃ v b,evF t (hn i) (aos i).op = some (v,b) ∧ h[hn i]? = some .hole ∧ k D (t.put (aos i).dst v) (h.set (hn i) b)) ∨
     (∃ v h', evL t h (aos i).op = some (v, h') ∧ okD chk i D h' ∧ k D (t.put (aos i).dst v) h') ∨
     (∃ f args,evC t (aos i).op = some (f,args) ∧ AC P f args h (fun v h' => okD chk i D h' ∧ holesOk aos hn rem h' ∧ k D (t.put (aos i).dst v) h'))))
def LA : List Nat → Reads → T → AH → Prop
 | [],_,t,h => K t h
 | i :: rem,D,t,h => Stp P aos hn chk i rem D t h (LA rem)
end
section
variable {P : Program} {ρ : Ren} {t : T} {h : AH} {w : World} {a : Act}
theorem evF_block {ao : AOp} {n : Nat} {v : Value} {k : ABlk} (hv : evF t n ao = some (v,k)) : k ≠ .hole := by
 rintro rfl
 cases ao <;> simp only [evF] at hv
 all_goals repeat' split at hv
 all_goals first
  | (cases hv; done)
  | (injection hv with hv; injection hv with _ hv; cases hv)
theorem fresh_step (r : Rel ρ h w) (tr : TRel ρ (live h) t a) {o : Oper} {ao : AOp} {n : Nat} {v : Value} {k : ABlk} (hc : cOp P o.op = some ao) (hv : evF t n ao = some (v,k)) (hn : h[n]? = some .hole) :
  ∃ u w', (execOp a.eval o).run P w = .ok (.value u) w' ∧ VR (upd ρ n ⟨w.heap.size, 0, 0, []⟩) (live (h.set n k)) v u ∧ Rel (upd ρ n ⟨w.heap.size, 0, 0, []⟩) (h.set n k) w' ∧ (∀ m, m ≤ n → Next m ρ h w (upd ρ n ⟨w.heap.size, 0, 0, []⟩) (h.set n k) w') := by
 have fo : FreshOk P ρ h n a o w v k := sound_fresh hc tr hv
 have hk : k ≠ .hole := evF_block hv
 have hlt : n < h.length := (List.getElem?_eq_some_iff.1 hn).1
 obtain ⟨u,obj,hrun,hfin⟩ := fo.run
 have hnl : ∀ b,live h b = true → b ≠ n := by
  rintro b hb rfl
  unfold live at hb
  rw [hn] at hb
  cases hb
 obtain ⟨e1,e2⟩ := hfin (upd ρ n ⟨w.heap.size,0,0,[]⟩) (fun b hb => upd_ne b (hnl b hb)) (upd_self _ _ _)
 rw [upd_self] at e2
 obtain ⟨hs1,hs2⟩ := fo.vscp (live (h.set n k)) (fun b hb => live_set hk b hb) (live_of (List.getElem?_set_self hlt) hk)
 have heap : ∀ x,x < w.heap.size → (w.alloc obj).heap[x]? = w.heap[x]? := fun x hx => alloc_old w _ hx
 have R := r.fill (k := k) (cb := ⟨w.heap.size,0,0,[]⟩) hn hk hs2 e2 (fun b l hb x hx => heap x (r.reach_lt hb x hx))
  (fun b l hb x hx hx' => by
   rw [(fo.foot _).2,List.mem_singleton] at hx'
   have := r.reach_lt hb x (foot_reach hx)
   simp only at hx'
   omega)
  (fun b l hb x hx hx' => by
   rw [(fo.foot _).1,List.mem_singleton] at hx'
   have := r.reach_lt hb x hx
   simp only at hx'
   omega)
 refine ⟨u,_,hrun,⟨hs1,e1⟩,R,fun m hm => ⟨fun b hb => upd_al b (by omega),fun b hb hl => live_set hk b hl,rfl,rfl,rfl,by simp,fun x hx _ => heap x hx,fun b l hb x hx => ?_,fun b l hb x hx => ?_⟩⟩
 ·rcases get_set hb with ⟨rfl,rfl⟩ | ⟨hne,hb⟩
  ·rw [upd_self,(fo.foot _).1,List.mem_singleton] at hx
   simp only at hx
   exact .inl (by omega)
  ·rw [upd_ne _ hne] at hx
   exact .inr ⟨b,l,hb,hx⟩
 ·rcases get_set hb with ⟨rfl,rfl⟩ | ⟨hne,hb⟩
  ·rw [upd_self,(fo.foot _).2,List.mem_singleton] at hx
   simp only at hx
   exact .inl (by omega)
  ·rw [upd_ne _ hne] at hx
   exact .inr ⟨b,l,hb,hx⟩
theorem fresh_rel (r : Rel ρ h w) (tr : TRel ρ (live h) t a) {o : Oper} {ao : AOp} {n : Nat} {v : Value} {k : ABlk} (hc : cOp P o.op = some ao) (hv : evF t n ao = some (v,k)) (hn : h[n]? = some .hole) : ∃ ρ w,Rel ρ (h.set n k) w :=
 let ⟨_, w', _, _, r', _⟩ := fresh_step r tr hc hv hn
 ⟨_, w', r'⟩
end
structure Inv (aos : Nat → AOper) (hn : Nat → Nat) (rem : List Nat) (D : Reads) (t : T) (h : AH) : Prop where
 rel : ∃ ρ w,Rel ρ h w
 tk : TOK (live h) t
 holes : holesOk aos hn rem h
 reads : ∀ d ∈ D,∀ (h : AH) (n : Nat) (k : ABlk) (v : Value),h[n]? = some .hole → d.2.1 h = some v → d.2.1 (h.set n k) = some v
section
variable {P : Program} {aos : Nat → AOper} {hn : Nat → Nat} {chk : Nat → Nat → Bool} {K : T → AH → Prop} {t : T} {h : AH}
theorem AC.rel {f : FuncId} {args : List Value} {Post : Value → AH → Prop} (hc : AC P f args h Post) : AC P f args h (fun v h' => Post v h' ∧ LOK h v h' ∧ ∃ ρ w,Rel ρ h' w) :=
 ⟨hc.1, fun ρ w us r hs ha => (hc.2 ρ w us r hs ha).mono fun e w' ⟨v, u, h', ρ', h1, h2, h3, h4, h5, h6⟩ =>
  ⟨v, u, h', ρ', h1, h2, ⟨h3, ⟨h4.ok, h2.1, fun b hb => h5.lives b (live_lt hb) hb, h6⟩, ρ', w', h4⟩, h4, h5, h6⟩⟩
theorem VRs_of {ρ : Ren} {L : Nat → Bool} {args : List Value} (ha : scpL L args = true) : ∃ us : Array Value,us.size = args.length ∧ ∀ (i : Nat) v,args[i]? = some v → ∃ u,us[i]? = some u ∧ VR ρ L v u :=
 ⟨(args.map (conc ρ)).toArray,by simp,fun i v hv => ⟨conc ρ v,by simp [hv],scpL_iff.1 ha v (List.mem_of_getElem? hv),rfl⟩⟩
theorem AC.outcome {f : FuncId} {args : List Value} {Post : Value → AH → Prop} (hc : AC P f args h Post) (hr : ∃ ρ w, Rel ρ h w) (ha : scpL (live h) args = true) : ∃ v h', Post v h' := by
 obtain ⟨ρ,w,r⟩ := hr
 obtain ⟨us,h1,h2⟩ := VRs_of (ρ := ρ) ha
 obtain ⟨e, w', fr, ⟨v, u, h', ρ', _, _, hp, _⟩, _⟩ := hc.2 ρ w us r h1 h2 []
 exact ⟨v, h', hp⟩
theorem evC_scp {L : Nat → Bool} (tk : TOK L t) {ao : AOp} {f : FuncId} {args : List Value} (hv : evC t ao = some (f,args)) : scpL L args = true := by
 cases ao <;> try (simp only [evC] at hv; cases hv; done)
 case call g xs =>
  simp only [evC] at hv
  split at hv
  case h_2 => cases hv
  rename_i fid first captured vs hf hx
  split at hv
  case isFalse => cases hv
  injection hv with hv
  injection hv with q1 q2
  subst q1 q2
  obtain ⟨a,ha⟩ := tk.act (fun _ => ⟨0,0,0,[]⟩)
  have h1 := (evalL_VR ha hx).2
  have h2 := evalO_scp tk hf
  simp only [scp,Bool.and_eq_true] at h2
  rw [scpL_append,scpL_append,h1]
  obtain ⟨l⟩ := captured
  obtain ⟨l2⟩ := first
  have q1 : scpL L l = true := h2.2
  have q2 : scpL L l2 = true := h2.1
  simp [q1,q2]
theorem evC_kd {ao : AOp} {x : FuncId × List Value} (hv : evC t ao = some x) : kd ao = 4 := by
 cases ao <;> first
  | rfl
  | (simp only [evC] at hv; cases hv; done)
theorem Stp.mono {i : Nat} {rem rem' : List Nat} {D : Reads} {k k' : Reads → T → AH → Prop} {ops : Nat → Oper} (hops : cOp P (ops i).op = some (aos i).op) (hr : ∀ x,x ∈ rem → x ∈ rem') (hr' : ∀ x,x ∈ rem' → x ∈ rem) (hinj : ∀ x ∈ rem,kd (aos x).op = 2 → hn x ≠ hn i ∨ kd (aos i).op ≠ 2)
  (iv : Inv aos hn (i :: rem) D t h) (hk : ∀ D t h,Inv aos hn rem D t h → k D t h → k' D t h) (hs : Stp P aos hn chk i rem D t h k) : Stp P aos hn chk i rem' D t h k' := by
 obtain ⟨rel,tk,holes,reads⟩ := iv
 have holes' : holesOk aos hn rem h := fun j hj => holes j (List.mem_cons_of_mem _ hj)
 have ok : AOK h := let ⟨_,_,r⟩ := rel; r.ok
 rcases hs with ⟨v,hv,hl⟩ | ⟨hw,hs⟩
 ·refine .inl ⟨v, hv, hk _ _ _ ⟨rel, tk.put ?_, holes', reads⟩ hl⟩
  rcases hv with ⟨_,rfl⟩ | ⟨_,hv⟩
  ·rfl
  ·exact evP_scp tk hops hv
 ·refine .inr ⟨hw, ?_⟩
  rcases hs with ⟨v, hv, hl⟩ | ⟨v, b, hv, hh, hl⟩ | ⟨v, h', hv, ho, hl⟩ | ⟨f, args, hv, hc⟩
  ·refine .inl ⟨v, hv, hk _ _ _ ⟨rel, tk.put (evR_scp ok tk hops hv), holes', fun d hd => ?_⟩ hl⟩
   rcases List.mem_cons.1 hd with rfl | hd
   ·exact fun h n k v hn hv => evR_fill hn hv
   ·exact reads d hd
  ·refine .inr (.inl ⟨v,b,hv,hh,hk _ _ _ ⟨?_, ?_, ?_,reads⟩ hl⟩)
   ·obtain ⟨ρ,w,r⟩ := rel
    obtain ⟨a,tr⟩ := tk.act ρ
    exact fresh_rel r tr hops hv hh
   ·have hb : b ≠ .hole := evF_block hv
    refine (tk.mono fun c hc => live_set hb c hc).put (evF_scp tk hops hv (fun c hc => live_set hb c hc) ?_).1
    exact live_of (List.getElem?_set_self (List.getElem?_eq_some_iff.1 hh).1) hb
   ·intro x hx h2
    rcases hinj x hx h2 with hne | hne
    ·rw [List.getElem?_set_ne (fun e => hne e.symm)]
     exact holes' x hx h2
    ·exact absurd (evF_kd hv) hne
  ·have lk := evL_ok ok tk hv
   refine .inr (.inr (.inl ⟨v, h', hv, ho, hk _ _ _ ⟨?_, (tk.mono lk.lives).put lk.val, fun x hx h2 => (evL_fill (kb := .dead) (holes' x hx h2) hv).2, reads⟩ hl⟩))
   obtain ⟨ρ,w,r⟩ := rel
   obtain ⟨a,tr⟩ := tk.act ρ
   obtain ⟨_, _, w', ρ', _, _, _, r', _⟩ := sound_loud hops r tr hv
   exact ⟨ρ', w', r'⟩
  ·refine .inr (.inr (.inr ⟨f,args,hv,hc.rel.mono fun v h' ⟨⟨h1,h2,h3⟩,lk,hrel⟩ => ⟨h1,fun x hx => h2 x (hr' x hx),hk _ _ _ ⟨hrel,(tk.mono lk.lives).put lk.val,h2,reads⟩ h3⟩⟩))
end
end Abs
end Go.Proofs.Ytongllppbifiaaa
namespace Go.Proofs.Ytongllppbifiaaa
namespace Abs
open Go
set_option linter.unusedVariables false
set_option linter.unusedSimpArgs false
def compat (chk : Bool) (kj ki : Nat) : Bool :=
 kj == 0 || ki == 0 || (kj == 1 && (ki == 1 || ki == 2 || chk)) || (kj == 2 && ki == 2) || ((kj == 3 || kj == 4) && ki == 2)
section
variable {P : Program} {aos : Nat → AOper} {hn : Nat → Nat} {chk : Nat → Nat → Bool} {K : T → AH → Prop} {t : T} {h : AH}
theorem stepQ_put {x : AOper} {d : Option Tmp} {v u : Value} (hd : ∀ i,d = some i → i ∉ looks x) : stepQ P (t.put d v) x u ↔ stepQ P t x u := by
 obtain ⟨h1,h2⟩ := looks_put (t := t) (v := v) hd
 unfold stepQ
 rw [h2,evP_congr h1]
theorem stepQ_fun {x : AOper} {v u : Value} (h1 : stepQ P t x v) (h2 : stepQ P t x u) : v = u := by
 rcases h1 with ⟨a1,b1⟩ | ⟨a1,b1⟩ <;> rcases h2 with ⟨a2,b2⟩ | ⟨a2,b2⟩
 ·rw [b1,b2]
 ·rw [a1] at a2; cases a2
 ·rw [a1] at a2; cases a2
 ·rw [b1] at b2; injection b2
theorem LA_reads : ∀ (rem : List Nat) (D D' : Reads) (t : T) (h : AH), (∀ d ∈ D', d ∈ D) → LA P aos hn chk K rem D t h → LA P aos hn chk K rem D' t h := by
 intro rem
 induction rem with
 | nil => intro D D' t h _ hl; exact hl
 | cons i rem ih =>
  intro D D' t h hD hl
  have hok : ∀ {h'},okD chk i D h' → okD chk i D' h' := fun ho d hd hc => ho d (hD d hd) hc
  unfold LA Stp at hl ⊢
  rcases hl with ⟨v,hv,hl⟩ | ⟨hw,hl⟩
  ·exact .inl ⟨v,hv,ih _ _ _ _ hD hl⟩
  ·refine .inr ⟨hw, ?_⟩
   rcases hl with ⟨v, hv, hl⟩ | ⟨v, k, hv, hh, hl⟩ | ⟨v, h', hv, ho, hl⟩ | ⟨f, args, hv, hc⟩
   ·refine .inl ⟨v,hv,ih _ _ _ _ (fun d hd => ?_) hl⟩
    rcases List.mem_cons.1 hd with rfl | hd
    ·exact List.mem_cons_self ..
    ·exact List.mem_cons_of_mem _ (hD d hd)
   ·exact .inr (.inl ⟨v,k,hv,hh,ih _ _ _ _ hD hl⟩)
   ·exact .inr (.inr (.inl ⟨v, h', hv, hok ho, ih _ _ _ _ hD hl⟩))
   ·exact .inr (.inr (.inr ⟨f,args,hv,hc.mono fun v h' ⟨h1,h2,h3⟩ => ⟨hok h1,h2,ih _ _ _ _ hD h3⟩⟩))
theorem LA_swap {i j : Nat} {r : List Nat} {D : Reads} {ops : Nat → Oper} (hoi : cOp P (ops i).op = some (aos i).op) (hoj : cOp P (ops j).op = some (aos j).op) (ap : ApartA (aos i) (aos j)) (hc : compat (chk i j) (kd (aos j).op) (kd (aos i).op) = true)
  (hne : kd (aos i).op = 2 → kd (aos j).op = 2 → hn i ≠ hn j) (hinj : ∀ x ∈ r,kd (aos x).op = 2 → kd (aos i).op = 2 → hn x ≠ hn i) (iv : Inv aos hn (j :: i :: r) D t h) (hl : LA P aos hn chk K (j :: i :: r) D t h) : LA P aos hn chk K (i :: j :: r) D t h := by
 obtain ⟨rel,tk,holes,reads⟩ := iv
 have ok : AOK h := let ⟨_,_,r⟩ := rel; r.ok
 have pc : ∀ (v u : Value),(t.put (aos j).dst v).put (aos i).dst u = (t.put (aos i).dst u).put (aos j).dst v := fun v u => (T.put_comm (fun d hd => ap.h2 d hd)).symm
 have li := fun (v : Value) => looks_put (t := t) (v := v) (d := (aos j).dst) (x := aos i) ap.h3
 have lj := fun (u : Value) => looks_put (t := t) (v := u) (d := (aos i).dst) (x := aos j) ap.h1
 have dj : ∀ u,(fun h => evR (t.put (aos i).dst u) h (aos j).op) = fun h => evR t h (aos j).op := fun u => funext fun h => evR_congr (lj u).1 h
 have di : ∀ v,(fun h => evR (t.put (aos j).dst v) h (aos i).op) = fun h => evR t h (aos i).op := fun v => funext fun h => evR_congr (li v).1 h
 unfold LA at hl ⊢
 rcases hl with ⟨v,hv,hl⟩ | ⟨hwj,⟨v,hv,hl⟩ | ⟨v,k,hv,hh,hl⟩ | ⟨v,h1,hv,ho,hl⟩ | ⟨f,args,hv,hcall⟩⟩
 ·
  unfold LA at hl
  rcases hl with ⟨u,hu,hl⟩ | ⟨hwi,⟨u,hu,hl⟩ | ⟨u,k2,hu,hh2,hl⟩ | ⟨u,h2,hu,ho2,hl⟩ | ⟨f2,args2,hu,hcall2⟩⟩
  ·refine .inl ⟨u,(stepQ_put ap.h3).1 hu, ?_⟩
   unfold LA
   exact .inl ⟨v,(stepQ_put ap.h1).2 hv,by rw [← pc]; exact hl⟩
  ·rw [(li v).2] at hwi
   rw [evR_congr (li v).1] at hu
   refine .inr ⟨hwi,.inl ⟨u,hu, ?_⟩⟩
   unfold LA
   refine .inl ⟨v,(stepQ_put ap.h1).2 hv, ?_⟩
   rw [← pc,← di v]
   exact hl
  ·rw [(li v).2] at hwi
   rw [evF_congr (li v).1] at hu
   refine .inr ⟨hwi,.inr (.inl ⟨u,k2,hu,hh2, ?_⟩)⟩
   unfold LA
   exact .inl ⟨v,(stepQ_put ap.h1).2 hv,by rw [← pc]; exact hl⟩
  ·rw [(li v).2] at hwi
   rw [evL_congr (li v).1] at hu
   refine .inr ⟨hwi,.inr (.inr (.inl ⟨u,h2,hu,ho2, ?_⟩))⟩
   unfold LA
   exact .inl ⟨v,(stepQ_put ap.h1).2 hv,by rw [← pc]; exact hl⟩
  ·rw [(li v).2] at hwi
   rw [evC_congr (li v).1] at hu
   have hki := evC_kd hu
   refine .inr ⟨hwi,.inr (.inr (.inr ⟨f2,args2,hu,hcall2.mono fun u h' ⟨g1,g2,g3⟩ => ⟨g1, ?_, ?_⟩⟩))⟩
   ·intro x hx h2
    rcases List.mem_cons.1 hx with rfl | hx
    ·rw [h2,hki] at hc
     simp [compat] at hc
    ·exact g2 x hx h2
   ·unfold LA
    exact .inl ⟨v,(stepQ_put ap.h1).2 hv,by rw [← pc]; exact g3⟩
 ·
  have hkj := evR_kd hv
  unfold LA at hl
  rcases hl with ⟨u,hu,hl⟩ | ⟨hwi,⟨u,hu,hl⟩ | ⟨u,k2,hu,hh2,hl⟩ | ⟨u,h2,hu,ho2,hl⟩ | ⟨f2,args2,hu,hcall2⟩⟩
  ·refine .inl ⟨u,(stepQ_put ap.h3).1 hu, ?_⟩
   unfold LA
   refine .inr ⟨by rw [(lj u).2]; exact hwj,.inl ⟨v,by rw [evR_congr (lj u).1]; exact hv, ?_⟩⟩
   rw [← pc,dj u]
   exact hl
  ·rw [(li v).2] at hwi
   rw [evR_congr (li v).1] at hu
   refine .inr ⟨hwi,.inl ⟨u,hu, ?_⟩⟩
   unfold LA
   refine .inr ⟨by rw [(lj u).2]; exact hwj,.inl ⟨v,by rw [evR_congr (lj u).1]; exact hv, ?_⟩⟩
   rw [← pc,dj u]
   refine LA_reads _ _ _ _ _ (fun d hd => ?_) hl
   rw [di v]
   simp only [List.mem_cons] at hd ⊢
   rcases hd with rfl | rfl | hd
   ·exact .inr (.inl rfl)
   ·exact .inl rfl
   ·exact .inr (.inr hd)
  ·rw [(li v).2] at hwi
   rw [evF_congr (li v).1] at hu
   refine .inr ⟨hwi,.inr (.inl ⟨u,k2,hu,hh2, ?_⟩)⟩
   unfold LA
   refine .inr ⟨by rw [(lj u).2]; exact hwj,.inl ⟨v,by rw [evR_congr (lj u).1]; exact evR_fill hh2 hv, ?_⟩⟩
   rw [← pc,dj u]
   exact hl
  ·have hki := evL_kd hu
   have hchk : chk i j = true := by rw [hkj,hki] at hc; simpa [compat] using hc
   rw [(li v).2] at hwi
   rw [evL_congr (li v).1] at hu
   refine .inr ⟨hwi,.inr (.inr (.inl ⟨u,h2,hu,fun d hd => ho2 d (List.mem_cons_of_mem _ hd), ?_⟩))⟩
   unfold LA
   refine .inr ⟨by rw [(lj u).2]; exact hwj,.inl ⟨v,by rw [evR_congr (lj u).1]; exact ho2 _ (List.mem_cons_self ..) hchk, ?_⟩⟩
   rw [← pc,dj u]
   exact hl
  ·have hki := evC_kd hu
   have hchk : chk i j = true := by rw [hkj,hki] at hc; simpa [compat] using hc
   rw [(li v).2] at hwi
   rw [evC_congr (li v).1] at hu
   refine .inr ⟨hwi,.inr (.inr (.inr ⟨f2,args2,hu,hcall2.mono fun u h' ⟨g1,g2,g3⟩ => ⟨fun d hd => g1 d (List.mem_cons_of_mem _ hd), ?_, ?_⟩⟩))⟩
   ·intro x hx h2
    rcases List.mem_cons.1 hx with rfl | hx
    ·rw [hkj] at h2; cases h2
    ·exact g2 x hx h2
   ·unfold LA
    refine .inr ⟨by rw [(lj u).2]; exact hwj,.inl ⟨v,by rw [evR_congr (lj u).1]; exact g1 _ (List.mem_cons_self ..) hchk, ?_⟩⟩
    rw [← pc,dj u]
    exact g3
 ·
  have hkj := evF_kd hv
  unfold LA at hl
  rcases hl with ⟨u,hu,hl⟩ | ⟨hwi,⟨u,hu,hl⟩ | ⟨u,k2,hu,hh2,hl⟩ | ⟨u,h2,hu,ho2,hl⟩ | ⟨f2,args2,hu,hcall2⟩⟩
  ·refine .inl ⟨u,(stepQ_put ap.h3).1 hu, ?_⟩
   unfold LA
   refine .inr ⟨by rw [(lj u).2]; exact hwj,.inr (.inl ⟨v,k,by rw [evF_congr (lj u).1]; exact hv,hh, ?_⟩)⟩
   rw [← pc]
   exact hl
  ·exfalso; rw [hkj,evR_kd hu] at hc; simp [compat] at hc
  ·have hki := evF_kd hu
   have hnij := hne hki hkj
   rw [(li v).2] at hwi
   rw [evF_congr (li v).1] at hu
   have hh3 : h[hn i]? = some .hole := by
    rw [List.getElem?_set_ne (fun e => hnij e.symm)] at hh2
    exact hh2
   refine .inr ⟨hwi,.inr (.inl ⟨u,k2,hu,hh3, ?_⟩)⟩
   unfold LA
   refine .inr ⟨by rw [(lj u).2]; exact hwj,.inr (.inl ⟨v,k,by rw [evF_congr (lj u).1]; exact hv,by rw [List.getElem?_set_ne hnij]; exact hh, ?_⟩)⟩
   rw [← pc,List.set_comm _ _ hnij]
   exact hl
  ·exfalso; rw [hkj,evL_kd hu] at hc; simp [compat] at hc
  ·exfalso; rw [hkj,evC_kd hu] at hc; simp [compat] at hc
 ·
  have hkj := evL_kd hv
  unfold LA at hl
  rcases hl with ⟨u,hu,hl⟩ | ⟨hwi,⟨u,hu,hl⟩ | ⟨u,k2,hu,hh2,hl⟩ | ⟨u,h2,hu,ho2,hl⟩ | ⟨f2,args2,hu,hcall2⟩⟩
  ·refine .inl ⟨u,(stepQ_put ap.h3).1 hu, ?_⟩
   unfold LA
   refine .inr ⟨by rw [(lj u).2]; exact hwj,.inr (.inr (.inl ⟨v,h1,by rw [evL_congr (lj u).1]; exact hv,ho, ?_⟩))⟩
   rw [← pc]
   exact hl
  ·exfalso; rw [hkj,evR_kd hu] at hc; simp [compat] at hc
  ·have hki := evF_kd hu
   rw [(li v).2] at hwi
   rw [evF_congr (li v).1] at hu
   have hh3 : h[hn i]? = some .hole := holes i (by simp) hki
   obtain ⟨g1,g2⟩ := evL_fill (kb := k2) hh3 hv
   refine .inr ⟨hwi,.inr (.inl ⟨u,k2,hu,hh3, ?_⟩)⟩
   unfold LA
   refine .inr ⟨by rw [(lj u).2]; exact hwj,.inr (.inr (.inl ⟨v,h1.set (hn i) k2,by rw [evL_congr (lj u).1]; exact g1,fun d hd hdc => reads d hd _ _ _ _ g2 (ho d hd hdc), ?_⟩))⟩
   rw [← pc]
   exact hl
  ·exfalso; rw [hkj,evL_kd hu] at hc; simp [compat] at hc
  ·exfalso; rw [hkj,evC_kd hu] at hc; simp [compat] at hc
 ·
  have hkj := evC_kd hv
  have hargs := evC_scp tk hv
  obtain ⟨v0,h0,_,_,hl0⟩ := hcall.outcome rel hargs
  unfold LA at hl0
  rcases hl0 with ⟨u,hu,_⟩ | ⟨hwi,⟨u,hu,_⟩ | ⟨u,k2,hu,hh2,_⟩ | ⟨u,h2,hu,_,_⟩ | ⟨f2,args2,hu,_⟩⟩
  ·have hu' := (stepQ_put ap.h3).1 hu
   refine .inl ⟨u, hu', ?_⟩
   unfold LA
   refine .inr ⟨by rw [(lj u).2]; exact hwj,.inr (.inr (.inr ⟨f,args,by rw [evC_congr (lj u).1]; exact hv,hcall.mono fun v h' ⟨g1,g2,g3⟩ => ⟨g1,fun x hx => g2 x (List.mem_cons_of_mem _ hx), ?_⟩⟩))⟩
   unfold LA at g3
   rcases g3 with ⟨u', hu2, hl⟩ | ⟨hwi, ⟨u', hu2, _⟩ | ⟨u', k2', hu2, _, _⟩ | ⟨u', h2', hu2, _, _⟩ | ⟨f2', args2', hu2, _⟩⟩
   ·have := stepQ_fun ((stepQ_put ap.h3).1 hu2) hu'
    subst this
    rw [← pc]
    exact hl
   ·exfalso; rw [(li v).2] at hwi
    rcases hu' with ⟨q,_⟩ | ⟨q,q2⟩
    ·rw [q] at hwi; cases hwi
    ·have := (evR_kd hu2).symm.trans (evP_kd q2); cases this
   ·exfalso; rw [(li v).2] at hwi
    rcases hu' with ⟨q,_⟩ | ⟨q,q2⟩
    ·rw [q] at hwi; cases hwi
    ·have := (evF_kd hu2).symm.trans (evP_kd q2); cases this
   ·exfalso; rw [(li v).2] at hwi
    rcases hu' with ⟨q,_⟩ | ⟨q,q2⟩
    ·rw [q] at hwi; cases hwi
    ·have := (evL_kd hu2).symm.trans (evP_kd q2); cases this
   ·exfalso; rw [(li v).2] at hwi
    rcases hu' with ⟨q,_⟩ | ⟨q,q2⟩
    ·rw [q] at hwi; cases hwi
    ·have := (evC_kd hu2).symm.trans (evP_kd q2); cases this
  ·exfalso; rw [hkj,evR_kd hu] at hc; simp [compat] at hc
  ·have hki := evF_kd hu
   rw [(li v0).2] at hwi
   rw [evF_congr (li v0).1] at hu
   have hh3 : h[hn i]? = some .hole := holes i (by simp) hki
   have hk2 := evF_block hu
   refine .inr ⟨hwi,.inr (.inl ⟨u,k2,hu,hh3, ?_⟩)⟩
   unfold LA
   have hfill := hcall.fill hh3 hk2 ok hargs (fun v h' ⟨_,g2,_⟩ => g2 i (List.mem_cons_self ..) hki)
   refine .inr ⟨by rw [(lj u).2]; exact hwj, .inr (.inr (.inr ⟨f, args, by rw [evC_congr (lj u).1]; exact hv, hfill.mono fun v h'' ⟨h', ⟨g1, g2, g3⟩, he⟩ => ?_⟩))⟩
   subst he
   have hh' : h'[hn i]? = some .hole := g2 i (List.mem_cons_self ..) hki
   refine ⟨fun d hd hdc => reads d hd _ _ _ _ hh' (g1 d hd hdc),fun x hx h2 => ?_, ?_⟩
   ·rw [List.getElem?_set_ne (fun e => hinj x hx h2 hki e.symm)]
    exact g2 x (List.mem_cons_of_mem _ hx) h2
   ·unfold LA at g3
    rcases g3 with ⟨u', hu2, hl⟩ | ⟨hwi', ⟨u', hu2, _⟩ | ⟨u', k2', hu2, _, hl⟩ | ⟨u', h2', hu2, _, _⟩ | ⟨f2', args2', hu2, _⟩⟩
    ·exfalso
     rcases (stepQ_put ap.h3).1 hu2 with ⟨q,_⟩ | ⟨q,q2⟩
     ·rw [q] at hwi; cases hwi
     ·have := (evP_kd q2).symm.trans hki; cases this
    ·exfalso; have := (evR_kd hu2).symm.trans hki; cases this
    ·rw [evF_congr (li v).1,hu] at hu2
     injection hu2 with hu2
     injection hu2 with q1 q2
     subst q1 q2
     rw [← pc]
     exact hl
    ·exfalso; have := (evL_kd hu2).symm.trans hki; cases this
    ·exfalso; have := (evC_kd hu2).symm.trans hki; cases this
  ·exfalso; rw [hkj,evL_kd hu] at hc; simp [compat] at hc
  ·exfalso; rw [hkj,evC_kd hu] at hc; simp [compat] at hc
theorem LA_front {all : List Nat} {ops : Nat → Oper} (hops : ∀ i,i ∈ all → cOp P (ops i).op = some (aos i).op) (hinj : ∀ x ∈ all,∀ y ∈ all,x ≠ y → kd (aos x).op = 2 → kd (aos y).op = 2 → hn x ≠ hn y) {i : Nat} : ∀ (rem : List Nat),(∀ x ∈ rem,x ∈ all) → rem.Nodup → i ∈ rem →
  (∀ l1 l2,rem = l1 ++ i :: l2 → ∀ j ∈ l1,ApartA (aos i) (aos j) ∧ compat (chk i j) (kd (aos j).op) (kd (aos i).op) = true) →
  ∀ (D : Reads) (t : T) (h : AH),Inv aos hn rem D t h → LA P aos hn chk K rem D t h → LA P aos hn chk K (i :: rem.erase i) D t h := by
 intro rem
 induction rem with
 | nil => intro _ _ h; cases h
 | cons j rem ih =>
  intro hall hnd hm hcomp D t h iv hl
  by_cases hji : j = i
  ·subst hji
   simpa using hl
  ·have hm' : i ∈ rem := by
    rcases List.mem_cons.1 hm with e | e
    ·exact absurd e.symm hji
    ·exact e
   have hnd' := (List.nodup_cons.1 hnd).2
   have hj := (List.nodup_cons.1 hnd).1
   obtain ⟨l1,l2,e⟩ := List.append_of_mem hm'
   obtain ⟨hap,hc⟩ := hcomp (j :: l1) l2 (by rw [e]; rfl) j (List.mem_cons_self ..)
   have hall' : ∀ x ∈ rem,x ∈ all := fun x hx => hall x (List.mem_cons_of_mem _ hx)
   have step := Stp.mono (k := LA P aos hn chk K rem) (k' := LA P aos hn chk K (i :: rem.erase i)) (rem' := i :: rem.erase i) (hops j (hall j (List.mem_cons_self ..)))
    (fun x hx => by
     by_cases ex : x = i
     ·rw [ex]; exact List.mem_cons_self ..
     ·exact List.mem_cons_of_mem _ ((List.mem_erase_of_ne ex).2 hx))
    (fun x hx => by
     rcases List.mem_cons.1 hx with rfl | hx
     ·exact hm'
     ·exact List.mem_of_mem_erase hx)
    (fun x hx h2 => by
     by_cases hk : kd (aos j).op = 2
     ·left
      exact hinj x (hall' x hx) j (hall j (List.mem_cons_self ..)) (fun ex => hj (ex ▸ hx)) h2 hk
     ·exact .inr hk)
    iv (fun D t h iv' hl' => ih hall' hnd' hm' (fun l1 l2 e' j' hj' => hcomp (j :: l1) l2 (by rw [e']; rfl) j' (List.mem_cons_of_mem _ hj')) D t h iv' hl') hl
   rw [List.erase_cons_tail (by simpa using hji)]
   refine LA_swap (hops i (hall i hm)) (hops j (hall j (List.mem_cons_self ..))) hap hc ?_ ?_ ⟨iv.rel,iv.tk, ?_,iv.reads⟩ step
   ·intro h2 hj2
    exact hinj i (hall i hm) j (hall j (List.mem_cons_self ..)) (fun e => hji e.symm) h2 hj2
   ·intro x hx h2 hi2
    have hxr : x ∈ rem := List.mem_of_mem_erase hx
    exact hinj x (hall' x hxr) i (hall i hm) (fun ex => by
     subst ex
     exact (List.Nodup.mem_erase_iff hnd').1 hx |>.1 rfl) h2 hi2
   ·intro x hx h2
    refine iv.holes x ?_ h2
    simp only [List.mem_cons] at hx ⊢
    rcases hx with rfl | rfl | hx
    ·exact .inl rfl
    ·exact .inr hm'
    ·exact .inr (List.mem_of_mem_erase hx)
end
end Abs
end Go.Proofs.Ytongllppbifiaaa
namespace Go.Proofs.Ytongllppbifiaaa
namespace Abs
open Go
set_option linter.unusedVariables false
set_option linter.unusedSimpArgs false
def ancB (ops : Array Oper) (anc : Array Nat) : Bool :=
 (List.range ops.size).all fun j => match ops[j]? with
  | none => false
  | some o => (o.after.toList.all fun e => !Region.binds .any e || decide (e.on < j)) &&
   ((List.range j).all fun i => !(anc.getD j 0).testBit i || o.after.toList.any fun e => Region.binds .any e && (e.on == i || (decide (i < e.on) && (anc.getD e.on 0).testBit i)))
section
variable {P : Program} {ops : Array Oper} {anc : Array Nat}
theorem anc_listed (hB : ancB ops anc = true) {listed : Array Bool} (hcl : ∀ (j : Nat) (oj : Oper),ops[j]? = some oj → listed.getD j false = true → ∀ e ∈ oj.after,Region.binds .any e = true → listed.getD e.on false = true) :
  ∀ (j : Nat) (oj : Oper),ops[j]? = some oj → (∀ e ∈ oj.after,Region.binds .any e = true → listed.getD e.on false = true) → ∀ i,i < j → (anc.getD j 0).testBit i = true → listed.getD i false = true := by
 intro j
 induction j using Nat.strongRecOn with
 | _ j ih =>
  intro oj hoj hp i hij hbit
  have hjs : j < ops.size := (Array.getElem?_eq_some_iff.1 hoj).1
  have h1 := List.all_eq_true.1 hB j (List.mem_range.2 hjs)
  simp only [hoj,Bool.and_eq_true] at h1
  have h2 := List.all_eq_true.1 h1.2 i (List.mem_range.2 hij)
  simp only [hbit,Bool.not_true,Bool.false_or] at h2
  obtain ⟨e,he,h3⟩ := List.any_eq_true.1 h2
  have he' : e ∈ oj.after := by simpa using he
  simp only [Bool.and_eq_true,Bool.or_eq_true,beq_iff_eq,decide_eq_true_eq] at h3
  obtain ⟨hb,h4⟩ := h3
  have hon := hp e he' hb
  rcases h4 with h4 | ⟨h4,h5⟩
  ·rw [← h4]; exact hon
  ·have hlt : e.on < j := by
    have := List.all_eq_true.1 h1.1 e he
    simpa [hb] using this
   obtain ⟨oe,hoe⟩ : ∃ oe,ops[e.on]? = some oe := ⟨_,Array.getElem?_eq_getElem (by omega)⟩
   exact ih e.on hlt oe hoe (hcl e.on oe hoe hon) i h4 h5
structure Left (ops : Array Oper) (listed : Array Bool) (rem : List Nat) : Prop where
 size : listed.size = ops.size
 nodup : rem.Nodup
 mem : ∀ k,k ∈ rem ↔ k < ops.size ∧ listed.getD k true = false
 closed : ∀ (j : Nat) (oj : Oper),ops[j]? = some oj → listed.getD j false = true → ∀ e ∈ oj.after,Region.binds .any e = true → listed.getD e.on false = true
theorem getD_tf {l : Array Bool} {i : Nat} (h : l.getD i true = false) : l.getD i false = false := by
 rcases Nat.lt_or_ge i l.size with h' | h'
 ·simp [h'] at h ⊢; exact h
 ·simp [Array.getElem?_eq_none h'] at h
theorem getD_ft {l : Array Bool} {i : Nat} (hi : i < l.size) (h : l.getD i true ≠ false) : l.getD i false = true := by
 simp [hi] at h ⊢; exact h
theorem getD_set_true {l : Array Bool} {i j : Nat} (h : l.getD j false = true) : (l.setIfInBounds i true).getD j false = true := by
 by_cases hij : i = j
 ·subst hij
  have hi : i < l.size := by
   rcases Nat.lt_or_ge i l.size with h' | h'
   ·exact h'
   ·simp [Array.getElem?_eq_none h'] at h
  simp [hi]
 ·rw [getD_set_ne false hij]; exact h
theorem Left.next {listed : Array Bool} {rem : List Nat} (h : Left ops listed rem) {i : Nat} (hr : i ∈ Region.ready .any ops listed) : Left ops (listed.setIfInBounds i true) (rem.erase i) := by
 obtain ⟨hun,oi,hoi,hall⟩ := mem_ready.1 hr
 refine ⟨by simp [h.size],h.nodup.sublist List.erase_sublist,fun k => ?_,fun j oj hj hl e he hb => ?_⟩
 ·rw [h.nodup.mem_erase_iff,h.mem k]
  by_cases hki : k = i
  ·subst hki
   have hks : k < listed.size := by rw [h.size]; exact (Array.getElem?_eq_some_iff.1 hoi).1
   simp [hks]
  ·rw [getD_set_ne true (fun e => hki e.symm)]
   simp [hki]
 ·by_cases hij : i = j
  ·subst hij
   obtain rfl : oj = oi := Option.some.inj (hj.symm.trans hoi)
   exact getD_set_true (hall e he hb)
  ·rw [getD_set_ne false hij] at hl
   exact getD_set_true (h.closed j oj hj hl e he hb)
theorem exists_min : ∀ (l : List Nat),l ≠ [] → ∃ j ∈ l,∀ x ∈ l,j ≤ x
 | [],h => absurd rfl h
 | [x],_ => ⟨x,List.mem_cons_self ..,fun y hy => by simp at hy; omega⟩
 | x :: y :: l,_ => by
  obtain ⟨j,hj,hm⟩ := exists_min (y :: l) (by simp)
  by_cases h : x ≤ j
  ·exact ⟨x,List.mem_cons_self ..,fun z hz => by
    rcases List.mem_cons.1 hz with rfl | hz
    ·exact Nat.le_refl _
    ·exact Nat.le_trans h (hm z hz)⟩
  ·exact ⟨j,List.mem_cons_of_mem _ hj,fun z hz => by
    rcases List.mem_cons.1 hz with rfl | hz
    ·omega
    ·exact hm z hz⟩
end
def pairOk (aos : Nat → AOper) (chk : Nat → Nat → Bool) (anc : Array Nat) (j i : Nat) : Bool :=
 (decide (j < i) && (anc.getD i 0).testBit j) || (apartB (aos i) (aos j) && compat (chk i j) (kd (aos j).op) (kd (aos i).op))
section
variable {P : Program} {ops : Array Oper} {anc : Array Nat} {aos : Nat → AOper} {hn : Nat → Nat} {chk : Nat → Nat → Bool} {K : T → AH → Prop} {m : Nat} {ρ0 : Ren} {h0 : AH} {w0 : World} {Q : AExit → T → AH → Prop}
theorem run_call {o : Oper} {a : Act} {c : Call} {f : Operand} {fid : FuncId} {first captured : Array Value} (ho : o.op = .call c) (hcal : c.callee = .value f) (hf : a.eval f = .func (.func fid) first captured) (he : enterB P fid = true) (w : World) :
    (execOp a.eval o).run P w = .ok (.enter fid (first ++ c.args.map a.eval ++ captured)) w := by
  unfold enterB at he
  split at he
  case h_2 => cases he
  rename_i fn hfn
  simp only [Bool.and_eq_true,Bool.not_eq_true'] at he
  obtain ⟨body,hbody⟩ := Option.isSome_iff_exists.1 he.1
  unfold execOp
  simp only [ho,resolve,hcal,hf,Deferred.ofValue,pure_bind,invoke,callFunc]
  have hne : ¬ fn.name = "runtime.NumGoroutine" := by simpa using he.2
  simp [hfn,hne,hbody]
theorem call_step {o : Oper} {x : AOp} {t : T} {h : AH} {ρ : Ren} {w : World} {a : Act} {f : FuncId} {args : List Value} {Post : Value → AH → Prop} {next : Act → World → Prop} {QQ : Exit → Act → World → Prop} (hc : cOp P o.op = some x) (r : Rel ρ h w) (tr : TRel ρ (live h) t a) (hv : evC t x = some (f,args)) (hcall : AC P f args h Post)
  (hn : ∀ v u h' ρ' w', VR ρ' (live h') v u → Post v h' → Rel ρ' h' w' → Next h.length ρ h w ρ' h' w' → h.length ≤ h'.length → next (a.put o.dst u) w') : o.wp P a w next QQ := by
 have hc := cOp_old hc (by have := evC_kd hv; cases x <;> first | rfl | (cases this; done))
 have hk : kdOp P o.op = 4 := (cOp_kd0 hc).symm.trans (evC_kd hv)
 cases ho : o.op <;> rw [ho] at hc hk <;> simp only [cOp0] at hc
 case call c =>
  obtain ⟨callee,xs,tys⟩ := c
  cases callee with
  | invoke r m => cases hc
  | builtin b =>
   exfalso
   simp only [kdOp] at hk
   split at hk
   ·cases hk
   ·cases hk
   ·cases hk
   ·split at hk
    ·split at hk <;> cases hk
    ·cases hk
   ·cases hk
   ·rename_i q3; exact q3 b rfl
  | value g =>
   simp only at hc
   injection hc with hc
   subst hc
   simp only [evC] at hv
   split at hv
   case h_2 => cases hv
   rename_i fid first captured vs hg hxs
   split at hv
   case isFalse => cases hv
   injection hv with hv
   injection hv with q1 q2
   subst q1 q2
   have vg := evalO_VR tr hg
   obtain ⟨e2,e3⟩ := evalL_VR tr hxs
   have eg : a.eval g = .func (.func fid) (concA ρ first) (concA ρ captured) := vg.2
   have hr := run_call (P := P) ho rfl eg hcall.1 w
   unfold Oper.wp
   rw [hr]
   simp only [Oper.upon]
   have hsc : scpL (live h) (first.toList ++ vs ++ captured.toList) = true := by
    have := vg.1
    simp only [scp,Bool.and_eq_true] at this
    rw [scpL_append,scpL_append,e3]
    obtain ⟨l⟩ := captured
    obtain ⟨l2⟩ := first
    have q1 : scpL (live h) l = true := this.2
    have q2 : scpL (live h) l2 = true := this.1
    simp [q1,q2]
   have hus : concA ρ first ++ xs.map a.eval ++ concA ρ captured = ((first.toList ++ vs ++ captured.toList).map (conc ρ)).toArray := by
    apply Array.ext'
    simp only [Array.toList_append,Array.toList_map,e2,concA_map,List.map_append]
   rw [hus]
   refine (hcall.2 ρ w _ r (by simp) fun i v hv => ⟨conc ρ v,by rw [List.getElem?_toArray,List.getElem?_map,hv]; rfl,scpL_iff.1 hsc v (List.mem_of_getElem? hv),rfl⟩).mono ?_
   rintro e w' ⟨v, u, h', ρ', rfl, vr, hp, r', nx, hl⟩
   exact hn v u h' ρ' w' vr hp r' nx hl
 all_goals (cases hk; done)
theorem intr_step {o : Oper} {x : AOp} {t : T} {h : AH} {ρ : Ren} {w : World} {a : Act} {f : FuncId} {args : List Value} {Post : Value → AH → Prop} {next : Act → World → Prop} {QQ : Exit → Act → World → Prop} (hc : cOp P o.op = some x) (r : Rel ρ h w) (tr : TRel ρ (live h) t a) (hv : evI t x = some (f,args)) (hcall : IC P f args h Post)
  (hn : ∀ v u h' ρ' w', VR ρ' (live h') v u → Post v h' → Rel ρ' h' w' → Next h.length ρ h w ρ' h' w' → h.length ≤ h'.length → next (a.put o.dst u) w') : o.wp P a w next QQ := by
 have hk5 : kd x = 5 := by
  cases x <;> first
   | rfl
   | (simp only [evI] at hv; cases hv; done)
 have hc := cOp_old hc (by cases x <;> first | rfl | (cases hk5; done))
 have hk : kdOp P o.op = 5 := (cOp_kd0 hc).symm.trans hk5
 cases ho : o.op <;> rw [ho] at hc hk <;> simp only [cOp0] at hc
 case range ty y =>
  split at hc
  case h_2 => cases hc
  rename_i k e hu
  injection hc with hc
  subst hc
  simp only [evI] at hv
  split at hv
  case h_2 => cases hv
  rename_i v0 hy
  injection hv with hv
  injection hv with q1 q2
  subst q1 q2
  have vy := evalO_VR tr hy
  obtain ⟨u, w', v, h', ρ', hrun, vr, hp, r', nx, hl⟩ := hcall ρ w v0 (Instr.range ty (conc ρ v0)) rfl (.inl ⟨rfl, ty, k, e, hu, rfl⟩) r vy.1
  have hex : (execOp a.eval o).run P w = .ok (.value u) w' := by
   unfold execOp
   simp only [ho,vy.2]
   exact run_val hrun
  unfold Oper.wp
  rw [hex]
  exact hn v u h' ρ' w' vr hp r' nx hl
 case next y st =>
  cases st
  case true => simp [cOp0] at hc
  simp only [cOp0] at hc
  injection hc with hc
  subst hc
  simp only [evI] at hv
  split at hv
  case h_2 => cases hv
  rename_i v0 hy
  injection hv with hv
  injection hv with q1 q2
  subst q1 q2
  have vy := evalO_VR tr hy
  obtain ⟨u, w', v, h', ρ', hrun, vr, hp, r', nx, hl⟩ := hcall ρ w v0 (Instr.next (conc ρ v0) false o.type) rfl (.inr (.inl ⟨rfl, o.type, rfl⟩)) r vy.1
  have hex : (execOp a.eval o).run P w = .ok (.value u) w' := by
   unfold execOp
   simp only [ho,vy.2]
   exact run_val hrun
  unfold Oper.wp
  rw [hex]
  exact hn v u h' ρ' w' vr hp r' nx hl
 case entry y =>
  injection hc with hc
  subst hc
  simp only [evI] at hv
  split at hv
  case h_2 => cases hv
  rename_i v0 hy
  injection hv with hv
  injection hv with q1 q2
  subst q1 q2
  have vy := evalO_VR tr hy
  obtain ⟨u, w', v, h', ρ', hrun, vr, hp, r', nx, hl⟩ := hcall ρ w v0 (Instr.entry (conc ρ v0)) rfl (.inr (.inr ⟨rfl, rfl⟩)) r vy.1
  have hex : (execOp a.eval o).run P w = .ok (.value u) w' := by
   unfold execOp
   simp only [ho,vy.2]
   exact run_val hrun
  unfold Oper.wp
  rw [hex]
  exact hn v u h' ρ' w' vr hp r' nx hl
 case call c =>
  exfalso
  obtain ⟨callee,xs,tys⟩ := c
  cases callee with
  | invoke q m => cases hc
  | value g => cases hk
  | builtin b =>
   simp only [kdOp] at hk
   repeat' split at hk
   all_goals cases hk
 all_goals (cases hk; done)
theorem LA_sound (hB : ancB ops anc = true) (haos : ∀ (i : Nat) (o : Oper),ops[i]? = some o → cOper P ops o = some (aos i)) (hinj : ∀ x,x < ops.size → ∀ y,y < ops.size → x ≠ y → kd (aos x).op = 2 → kd (aos y).op = 2 → hn x ≠ hn y) (hm : ∀ x,x < ops.size → kd (aos x).op = 2 → m ≤ hn x) (hK : ∀ t h,K t h → Q .normal t h) :
  ∀ (n : Nat) (rem : List Nat) (listed : Array Bool) (D : Reads) (t : T) (h : AH) (ρ : Ren) (w : World) (a : Act),rem.length = n → Left ops listed rem → rem.Pairwise (fun j i => pairOk aos chk anc j i = true) → holesOk aos hn rem h →
   (∀ d ∈ D,∀ (h : AH) (n : Nat) (k : ABlk) (v : Value),h[n]? = some .hole → d.2.1 h = some v → d.2.1 (h.set n k) = some v) → Rel ρ h w → TRel ρ (live h) t a → Next m ρ0 h0 w0 ρ h w → m ≤ h.length → LA P aos hn chk K rem D t h →
   wpAny P .any ops (Beh m Q ρ0 h0 w0) n listed a w := by
 intro n
 induction n with
 | zero =>
  intro rem listed D t h ρ w a hlen hL _ _ _ r tr nx hml hl
  have : rem = [] := List.length_eq_zero_iff.1 hlen
  subst this
  refine ⟨?_,⟨.normal,t,h,ρ,rfl,hK t h hl,r,tr,nx,hml⟩⟩
  cases hr : Region.ready .any ops listed with
  | nil => rfl
  | cons i _ =>
   have hi : i ∈ Region.ready .any ops listed := by rw [hr]; exact List.mem_cons_self ..
   obtain ⟨hun,oi,hoi,_⟩ := mem_ready.1 hi
   have := (hL.mem i).2 ⟨(Array.getElem?_eq_some_iff.1 hoi).1,hun⟩
   cases this
 | succ n ih =>
  intro rem listed D t h ρ w a hlen hL hpw hholes hD r tr nx hml hl
  refine ⟨fun hr0 => ?_,fun i hi => ?_⟩
  ·exfalso
   obtain ⟨j,hj,hmin⟩ := exists_min rem (by intro e; rw [e] at hlen; cases hlen)
   have hj2 := (hL.mem j).1 hj
   obtain ⟨oj,hoj⟩ : ∃ oj,ops[j]? = some oj := ⟨_,Array.getElem?_eq_getElem hj2.1⟩
   have : j ∈ Region.ready .any ops listed := by
    refine mem_ready.2 ⟨hj2.2,oj,hoj,fun e he hb => ?_⟩
    have h1 := List.all_eq_true.1 hB j (List.mem_range.2 hj2.1)
    simp only [hoj,Bool.and_eq_true] at h1
    have hlt : e.on < j := by
     have := List.all_eq_true.1 h1.1 e (by simpa using he)
     simpa [hb] using this
    apply getD_ft (by rw [hL.size]; omega)
    intro hf
    have := hmin e.on ((hL.mem e.on).2 ⟨by omega,hf⟩)
    omega
   rw [hr0] at this
   cases this
  ·obtain ⟨hun,oi,hoi,hall⟩ := mem_ready.1 hi
   have his := (Array.getElem?_eq_some_iff.1 hoi).1
   have him : i ∈ rem := (hL.mem i).2 ⟨his,hun⟩
   have hopi := cOper_op (haos i oi hoi)
   have hlt : ∀ x ∈ rem,x < ops.size := fun x hx => ((hL.mem x).1 hx).1
   have iv : Inv aos hn rem D t h := ⟨⟨ρ,w,r⟩,tr.ok,hholes,hD⟩
   have hf := LA_front (P := P) (K := K) (all := rem) (ops := fun i => (ops[i]?).getD default) (fun i hi => by
     obtain ⟨o,ho⟩ : ∃ o,ops[i]? = some o := ⟨_,Array.getElem?_eq_getElem (hlt i hi)⟩
     simp only [ho,Option.getD_some]
     exact (cOper_op (haos i o ho)).1)
    (fun x hx y hy => hinj x (hlt x hx) y (hlt y hy)) rem (fun x hx => hx) hL.nodup him
    (fun l1 l2 e j hj => by
     rw [e,List.pairwise_append] at hpw
     have hp := hpw.2.2 j hj i (List.mem_cons_self ..)
     unfold pairOk at hp
     simp only [Bool.or_eq_true,Bool.and_eq_true,decide_eq_true_eq] at hp
     rcases hp with ⟨hji,hbit⟩ | ⟨h2,h3⟩
     ·exfalso
      have hjm : j ∈ rem := by rw [e]; exact List.mem_append_left _ hj
      have := anc_listed hB hL.closed i oi hoi hall j hji hbit
      rw [getD_tf ((hL.mem j).1 hjm).2] at this
      cases this
     ·exact ⟨apartB_spec h2,h3⟩)
    D t h iv hl
   have hlen' : (rem.erase i).length = n := by rw [List.length_erase_of_mem him,hlen]; rfl
   have hL' := hL.next hi
   have hpw' := hpw.sublist (List.erase_sublist (a := i) (l := rem))
   have hholes' : holesOk aos hn (rem.erase i) h := fun x hx => hholes x (List.mem_of_mem_erase hx)
   unfold LA at hf
   unfold wpOp
   simp only [hoi]
   have hdst : (aos i).dst = oi.dst := hopi.2
   rcases hf with ⟨v,hv,hl'⟩ | ⟨hw,hs⟩
   ·rcases hv with ⟨hwt,rfl⟩ | ⟨hwt,hv⟩
    ·rw [wanted_eq (haos i oi hoi) tr hwt,if_neg (by simp)]
     rw [hdst] at hl'
     exact ih _ _ D _ h ρ w _ hlen' hL' hpw' hholes' hD r (tr.put oi.dst VR_undef) nx hml hl'
    ·rw [wanted_eq (haos i oi hoi) tr hwt,if_pos rfl]
     left
     obtain ⟨u,vr,hy⟩ := sound_pure hopi.1 tr hv
     unfold Oper.wp
     rw [hy w]
     rw [hdst] at hl'
     exact ih _ _ D _ h ρ w _ hlen' hL' hpw' hholes' hD r (tr.put oi.dst vr) nx hml hl'
   ·rw [wanted_eq (haos i oi hoi) tr hw,if_pos rfl]
    left
    rcases hs with ⟨v, hv, hl'⟩ | ⟨v, b, hv, hh, hl'⟩ | ⟨v, h', hv, ho, hl'⟩ | ⟨f, args, hv, hc⟩
    ·obtain ⟨u,vr,hy⟩ := sound_read hopi.1 r tr hv
     unfold Oper.wp
     rw [show (execOp a.eval oi).run P w = .ok (.value u) w from hy]
     rw [hdst] at hl'
     refine ih _ _ _ _ h ρ w _ hlen' hL' hpw' hholes' (fun d hd => ?_) r (tr.put oi.dst vr) nx hml hl'
     rcases List.mem_cons.1 hd with rfl | hd
     ·exact fun h n k v hn hv => evR_fill hn hv
     ·exact hD d hd
    ·obtain ⟨u, w', hrun, vr, r', hnx⟩ := fresh_step r tr hopi.1 hv hh
     unfold Oper.wp
     rw [hrun]
     rw [hdst] at hl'
     have hb : b ≠ .hole := evF_block hv
     have hnl : ∀ c,live h c = true → c ≠ hn i := by
      rintro c hc rfl
      unfold live at hc
      rw [hh] at hc
      cases hc
     refine ih _ _ D _ _ _ w' _ hlen' hL' hpw' (fun x hx h2 => ?_) hD r' ((tr.mono (fun c hc => live_set hb c hc) (fun c hc => upd_al c (hnl c hc))).put oi.dst vr) (nx.trans (hnx m (hm i his (evF_kd hv)))) (by simpa using hml) hl'
     have hxr := List.mem_of_mem_erase hx
     have hne : x ≠ i := (hL.nodup.mem_erase_iff.1 hx).1
     rw [List.getElem?_set_ne (hinj i his x (hlt x hxr) (fun e => hne e.symm) (evF_kd hv) h2)]
     exact hholes x hxr h2
    ·obtain ⟨u, nxt, w', ρ', hrun, hnxt, vr, r', nx', hle⟩ := sound_loud hopi.1 r tr hv
     rw [hdst] at hl'
     have go : wpAny P .any ops (Beh m Q ρ0 h0 w0) n (listed.setIfInBounds i true) (a.put oi.dst u) w' :=
      ih _ _ D _ h' ρ' w' _ hlen' hL' hpw' (fun x hx h2 => (evL_fill (kb := .dead) (hholes' x hx h2) hv).2) hD r' ((tr.mono (fun c hc => nx'.lives c (live_lt hc) hc) (fun c hc => nx'.ext c (live_lt hc))).put oi.dst vr) (nx.trans (nx'.less hml)) (by omega) hl'
     unfold Oper.wp
     rw [hrun]
     rcases hnxt with rfl | ⟨rfl,rfl⟩
     ·exact go
     ·exact go
    ·refine call_step hopi.1 r tr hv hc fun v u h' ρ' w' vr ⟨g1,g2,g3⟩ r' nx' hle => ?_
     rw [hdst] at g3
     exact ih _ _ D _ h' ρ' w' _ hlen' hL' hpw' g2 hD r' ((tr.mono (fun c hc => nx'.lives c (live_lt hc) hc) (fun c hc => nx'.ext c (live_lt hc))).put oi.dst vr) (nx.trans (nx'.less hml)) (by omega) g3
end
end Abs
end Go.Proofs.Ytongllppbifiaaa
namespace Go.Proofs.Ytongllppbifiaaa
namespace Abs
open Go
set_option linter.unusedVariables false
set_option linter.unusedSimpArgs false
structure DOper where
 i : Nat
 fi : Nat
 chk : List Nat
 x : AOper
inductive ACode where
 | skip
 | ops (l : List AOper)
 | drawn (nh : Nat) (l : List DOper)
 | seq (a b : ACode)
 | cond (c : Operand) (a b : ACode)
 | block (id : Nat) (a : ACode)
 | loop (a : ACode)
 | exit (id : Nat)
 | ret
mutual
def veq : Value → Value → Bool
 | .bool a,.bool b => a == b
 | .int j a,.int k b => j == k && a == b
 | .string a,.string b => a.data.toList == b.data.toList
 | .pointer a,.pointer b => a == b
 | .slice a m c,.slice b n d => a == b && m == n && c == d
 | .map a,.map b => a == b
 | .chan a,.chan b => a == b
 | .nilFunc,.nilFunc => true
 | .nilIface,.nilIface => true
 | .agg a,.agg b => veqA a b
 | .tuple a,.tuple b => veqA a b
 | _,_ => false
def veqA : Array Value → Array Value → Bool
 | ⟨a⟩,⟨b⟩ => veqL a b
def veqL : List Value → List Value → Bool
 | [],[] => true
 | x :: a,y :: b => veq x y && veqL a b
 | _,_ => false
end
theorem bytes_ext {a b : ByteArray} (h : a.data.toList = b.data.toList) : a = b := by
 cases a; cases b
 simp only at h
 congr
 exact Array.ext' h
mutual
theorem veq_eq : ∀ (x y : Value),veq x y = true → x = y
 | .bool a,y,h => by cases y <;> simp_all [veq]
 | .int j a,y,h => by cases y <;> simp_all [veq]
 | .string a,y,h => by
  cases y <;> first
   | (simp only [veq,beq_iff_eq] at h; rw [bytes_ext h]; done)
   | (simp [veq] at h; done)
 | .pointer a,y,h => by cases y <;> simp_all [veq]
 | .slice a m c,y,h => by cases y <;> simp_all [veq]
 | .map a,y,h => by cases y <;> simp_all [veq]
 | .chan a,y,h => by cases y <;> simp_all [veq]
 | .nilFunc,y,h => by cases y <;> simp_all [veq]
 | .nilIface,y,h => by cases y <;> simp_all [veq]
 | .agg a,y,h => by
  cases y <;> first
   | (simp only [veq] at h; rw [veqA_eq a _ h]; done)
   | (simp [veq] at h; done)
 | .tuple a,y,h => by
  cases y <;> first
   | (simp only [veq] at h; rw [veqA_eq a _ h]; done)
   | (simp [veq] at h; done)
 | .float _ _,y,h => by simp [veq] at h
 | .complex _ _ _,y,h => by simp [veq] at h
 | .func _ _ _,y,h => by simp [veq] at h
 | .iface _ _,y,h => by simp [veq] at h
theorem veqA_eq : ∀ (x y : Array Value),veqA x y = true → x = y
 | ⟨a⟩,⟨b⟩,h => by simp only [veqA] at h; rw [veqL_eq a b h]
theorem veqL_eq : ∀ (x y : List Value),veqL x y = true → x = y
 | [],[],_ => rfl
 | x :: a,y :: b,h => by
  simp only [veqL,Bool.and_eq_true] at h
  rw [veq_eq x y h.1,veqL_eq a b h.2]
 | [],_ :: _,h => by simp [veqL] at h
 | _ :: _,[],h => by simp [veqL] at h
end
def isHole (h : AH) (n : Nat) : Bool := match h[n]? with
 | some .hole => true
 | _ => false
theorem isHole_eq {h : AH} {n : Nat} (hh : isHole h n = true) : h[n]? = some .hole := by
 unfold isHole at hh
 split at hh
 ·assumption
 ·cases hh
def chkD (l : List Nat) (D : Reads) (h : AH) : Bool := D.all fun d => !l.contains d.1 || (match d.2.1 h with | some v => veq v d.2.2 | none => false)
def onW {R : Type} (o : Option Bool) (bot f y : R) : R := match o with
 | none => bot
 | some false => f
 | some true => y
section
variable {R : Type} (P : Program) (bot : R) (C : FuncId → List Value → AH → (Value → AH → R) → R) (Lp : ACode → T → AH → (AExit → T → AH → R) → R)
def wOps : List AOper → T → AH → (T → AH → R) → R
 | [],t,h,K => K t h
 | x :: l,t,h,K => onW (wantedA t x.guard) bot (wOps l (t.put x.dst undef) h K) (match kd x.op with
   | 0 => match evP P t x.op with
    | some v => wOps l (t.put x.dst v) h K
    | none => bot
   | 1 => match evR t h x.op with
    | some v => wOps l (t.put x.dst v) h K
    | none => bot
   | 2 => match evF t h.length x.op with
    | some (v,k) => wOps l (t.put x.dst v) (h ++ [k]) K
    | none => bot
   | 3 => match evL t h x.op with
    | some (v,h') => wOps l (t.put x.dst v) h' K
    | none => bot
   | 5 => match evI t x.op with
    | some (f,args) => C f args h (fun v h' => wOps l (t.put x.dst v) h' K)
    | none => bot
   | _ => match evC t x.op with
    | some (f,args) => C f args h (fun v h' => wOps l (t.put x.dst v) h' K)
    | none => bot)
def wDrawn (base : Nat) : List DOper → Reads → T → AH → (T → AH → R) → R
 | [],_,t,h,K => K t h
 | d :: l,D,t,h,K => onW (wantedA t d.x.guard) bot (wDrawn base l D (t.put d.x.dst undef) h K) (match kd d.x.op with
   | 0 => match evP P t d.x.op with
    | some v => wDrawn base l D (t.put d.x.dst v) h K
    | none => bot
   | 1 => match evR t h d.x.op with
    | some v => wDrawn base l ((d.i,fun h => evR t h d.x.op,v) :: D) (t.put d.x.dst v) h K
    | none => bot
   | 2 => match evF t (base + d.fi) d.x.op with
    | some (v,k) => if isHole h (base + d.fi) then wDrawn base l D (t.put d.x.dst v) (h.set (base + d.fi) k) K else bot
    | none => bot
   | 3 => match evL t h d.x.op with
    | some (v,h') => if chkD d.chk D h' then wDrawn base l D (t.put d.x.dst v) h' K else bot
    | none => bot
   | _ => match evC t d.x.op with
    | some (f,args) => C f args h (fun v h' => if chkD d.chk D h' && l.all (fun e => kd e.x.op != 2 || isHole h' (base + e.fi)) then wDrawn base l D (t.put d.x.dst v) h' K else bot)
    | none => bot)
def W : ACode → T → AH → (AExit → T → AH → R) → R
 | .skip,t,h,K => K .normal t h
 | .ops l,t,h,K => wOps P bot C l t h (K .normal)
 | .drawn nh l,t,h,K => wDrawn P bot C h.length l [] t (h ++ List.replicate nh .hole) (K .normal)
 | .seq a b,t,h,K => W a t h (fun e t h => match e with
  | .normal => W b t h K
  | e => K e t h)
 | .cond c a b,t,h,K => onB (evalO t c) (W a t h K) (W b t h K) bot
 | .block id a,t,h,K => W a t h (fun e t h => match e with
  | .exit i => if i = id then K .normal t h else K (.exit i) t h
  | e => K e t h)
 | .loop a,t,h,K => Lp a t h K
 | .exit id,t,h,K => K (.exit id) t h
 | .ret,t,h,K => K .ret t h
end
end Abs
end Go.Proofs.Ytongllppbifiaaa
namespace Go.Proofs.Ytongllppbifiaaa
namespace Abs
open Go
set_option linter.unusedVariables false
set_option linter.unusedSimpArgs false
def cOpsL (P : Program) (ops : Array Oper) : List Oper → Option (List AOper)
 | [] => some []
 | o :: l => match cOper P ops o,cOpsL P ops l with
  | some x,some r => some (x :: r)
  | _,_ => none
def ancs (ops : Array Oper) : Array Nat :=
 ops.toList.foldl (fun acc o => acc.push (o.after.toList.foldl (fun s e => if Region.binds .any e then s ||| 2 ^ e.on ||| acc.getD e.on 0 else s) 0)) #[]
def freshes (A : List AOper) (n : Nat) : Nat := ((A.take n).filter fun x => kd x.op == 2).length
def dfl : AOper := ⟨none,.alen 0,none⟩
def pickOf (A : List AOper) (anc : Array Nat) (rem : List Nat) : Option Nat :=
 let free := rem.filter fun i => rem.all fun j => !(anc.getD i 0).testBit j
 match free.find? (fun i => kd (A.getD i dfl).op == 0 || kd (A.getD i dfl).op == 1) with
 | some i => some i
 | none => match free.find? (fun i => kd (A.getD i dfl).op != 2) with
  | some i => some i
  | none => free.head?
def orderOf (A : List AOper) (anc : Array Nat) : Nat → List Nat → List Nat
 | 0,_ => []
 | n + 1,rem => match pickOf A anc rem with
  | some i => i :: orderOf A anc n (rem.erase i)
  | none => []
def chkOf (A : List AOper) (anc : Array Nat) (ord : List Nat) (i : Nat) : List Nat := (ord.takeWhile (· != i)).filter fun j => kd (A.getD j dfl).op == 1 && !(anc.getD i 0).testBit j
def pairsOk (A : List AOper) (anc : Array Nat) (ord : List Nat) : List Nat → Bool
 | [] => true
 | j :: l => (l.all fun i => pairOk (fun k => A.getD k dfl) (fun i j => (chkOf A anc ord i).contains j) anc j i) && !l.contains j && pairsOk A anc ord l
def cDrawn (P : Program) (ops : Array Oper) : Option (Nat × List DOper) := match cOpsL P ops ops.toList with
 | none => none
 | some A =>
  let anc := ancs ops
  let ord := orderOf A anc ops.size (List.range ops.size)
  if ancB ops anc && ord.length == ops.size && ord.all (· < ops.size) && pairsOk A anc ord ord && (List.range ops.size).all (fun k => ord.contains k) then
   some (freshes A ops.size,ord.map fun i => ⟨i,freshes A i,chkOf A anc ord i,A.getD i dfl⟩)
  else none
def cCode (P : Program) : Code → Option ACode
 | .skip => some .skip
 | .region _ ops draw => if draw then match cDrawn P ops with
   | some (n,l) => some (.drawn n l)
   | none => none
  else match cOpsL P ops ops.toList with
   | some l => some (.ops l)
   | none => none
 | .seq a b => match cCode P a,cCode P b with
  | some x,some y => some (.seq x y)
  | _,_ => none
 | .cond c a b => match cCode P a,cCode P b with
  | some x,some y => some (.cond c x y)
  | _,_ => none
 | .block id a => match cCode P a with
  | some x => some (.block id x)
  | none => none
 | .loop a => match cCode P a with
  | some x => some (.loop x)
  | none => none
 | .exit id => some (.exit id)
 | .ret => some .ret
 | _ => none
section
variable {P : Program} {ρ0 : Ren} {h0 : AH} {w0 : World} {m : Nat} {Q : AExit → T → AH → Prop} {R : Type} {bot : R} {holds : R → Prop} {C : FuncId → List Value → AH → (Value → AH → R) → R} {Lp : ACode → T → AH → (AExit → T → AH → R) → R}
theorem cOpsL_get {ops : Array Oper} : ∀ (l : List Oper) (A : List AOper),cOpsL P ops l = some A → A.length = l.length ∧ ∀ (i : Nat) (o : Oper),l[i]? = some o → cOper P ops o = some (A.getD i dfl) := by
 intro l
 induction l with
 | nil => intro A h; simp only [cOpsL] at h; injection h with h; subst h; exact ⟨rfl,fun i o ho => by simp at ho⟩
 | cons o l ih =>
  intro A h
  simp only [cOpsL] at h
  split at h
  case h_2 => cases h
  rename_i x r hx hr
  injection h with h
  subst h
  obtain ⟨h1,h2⟩ := ih r hr
  refine ⟨by simp [h1],fun i o' ho => ?_⟩
  cases i with
  | zero => simp at ho; subst ho; simpa using hx
  | succ i => simp at ho; simpa using h2 i o' ho
theorem wOps_sound (hbot : ¬ holds bot) (hC : ∀ f args h K,holds (C f args h K) → AC2 P f args h (fun v h' => holds (K v h'))) {ops : Array Oper} (K : T → AH → R) (hQ : ∀ t h,holds (K t h) → Q .normal t h) :
  ∀ (l : List Oper) (A : List AOper) (t : T) (h : AH) (ρ : Ren) (w : World) (a : Act),cOpsL P ops l = some A → Rel ρ h w → TRel ρ (live h) t a → Next m ρ0 h0 w0 ρ h w → m ≤ h.length → holds (wOps P bot C A t h K) → wpList P ops (Beh m Q ρ0 h0 w0) l a w := by
 intro l
 induction l with
 | nil =>
  intro A t h ρ w a hc r tr nx hm hw
  simp only [cOpsL] at hc
  injection hc with hc
  subst hc
  exact ⟨.normal,t,h,ρ,rfl,hQ t h hw,r,tr,nx,hm⟩
 | cons o l ih =>
  intro A t h ρ w a hc r tr nx hm hw
  simp only [cOpsL] at hc
  split at hc
  case h_2 => cases hc
  rename_i x A' hx hA
  injection hc with hc
  subst hc
  obtain ⟨hop,hdst⟩ := cOper_op hx
  simp only [wOps,onW] at hw
  unfold wpList
  split at hw
  ·exact absurd hw hbot
  ·rename_i hwt
   rw [wanted_eq hx tr hwt,if_neg (by simp)]
   rw [hdst] at hw
   exact ih A' _ h ρ w _ hA r (tr.put o.dst VR_undef) nx hm hw
  ·rename_i hwt
   rw [wanted_eq hx tr hwt,if_pos rfl]
   left
   split at hw
   ·split at hw
    case h_2 => exact absurd hw hbot
    rename_i v hv
    obtain ⟨u,vr,hy⟩ := sound_pure hop tr hv
    unfold Oper.wp
    rw [hy w]
    rw [hdst] at hw
    exact ih A' _ h ρ w _ hA r (tr.put o.dst vr) nx hm hw
   ·split at hw
    case h_2 => exact absurd hw hbot
    rename_i v hv
    obtain ⟨u,vr,hy⟩ := sound_read hop r tr hv
    unfold Oper.wp
    rw [show (execOp a.eval o).run P w = .ok (.value u) w from hy]
    rw [hdst] at hw
    exact ih A' _ h ρ w _ hA r (tr.put o.dst vr) nx hm hw
   ·split at hw
    case h_2 => exact absurd hw hbot
    rename_i v k hv
    have hk : k ≠ .hole := evF_block hv
    have hl1 : live (h ++ [ABlk.hole]) = live h := by
     funext b
     by_cases hb : b < h.length
     ·unfold live; rw [List.getElem?_append_left hb]
     ·have e1 : live h b = false := by
       cases hq : live h b with
       | false => rfl
       | true => exact absurd (live_lt hq) hb
      rw [e1]
      unfold live
      rw [List.getElem?_append_right (by omega)]
      cases hq : b - h.length with
      | zero => rfl
      | succ n => rfl
    have tr1 : TRel ρ (live (h ++ [ABlk.hole])) t a := by rw [hl1]; exact tr
    obtain ⟨u, w', hrun, vr, r', hnx⟩ := fresh_step r.hole tr1 hop hv (by simp)
    rw [← push_eq] at vr r'
    unfold Oper.wp
    rw [hrun]
    rw [hdst] at hw
    have hne : ∀ c,live h c = true → c ≠ h.length := fun c hc => by have := live_lt hc; omega
    have nx1 : Next m ρ h w ρ (h ++ [ABlk.hole]) w := by
     have back : ∀ (b : Nat) (l : ABlk),(h ++ [ABlk.hole])[b]? = some l → l = .hole ∨ h[b]? = some l := by
      intro b l hb
      by_cases hlt : b < h.length
      ·rw [List.getElem?_append_left hlt] at hb
       exact .inr hb
      ·rw [List.getElem?_append_right (by omega)] at hb
       have := List.mem_of_getElem? hb
       simp at this
       exact .inl this
     refine ⟨fun _ _ => rfl,fun b _ hb => by rw [hl1]; exact hb,rfl,rfl,rfl,Nat.le_refl _,fun _ _ _ => rfl,fun b l hb x hx => ?_,fun b l hb x hx => ?_⟩
     ·rcases back b l hb with rfl | hb
      ·cases hx
      ·exact .inr ⟨b,l,hb,hx⟩
     ·rcases back b l hb with rfl | hb
      ·cases hx
      ·exact .inr ⟨b,l,hb,hx⟩
    have nx2 := hnx m hm
    rw [← push_eq] at nx2
    exact ih A' _ _ _ w' _ hA r' ((tr.mono (fun c hc => live_push c hc) (fun c hc => upd_al c (hne c hc))).put o.dst vr) (nx.trans (nx1.trans nx2)) (by simp; omega) hw
   ·split at hw
    case h_2 => exact absurd hw hbot
    rename_i v h' hv
    obtain ⟨u, nxt, w', ρ', hrun, hnxt, vr, r', nx', hle⟩ := sound_loud hop r tr hv
    rw [hdst] at hw
    have go := ih A' _ h' ρ' w' (a.put o.dst u) hA r' ((tr.mono (fun c hc => nx'.lives c (live_lt hc) hc) (fun c hc => nx'.ext c (live_lt hc))).put o.dst vr) (nx.trans (nx'.less hm)) (by omega) hw
    unfold Oper.wp
    rw [hrun]
    rcases hnxt with rfl | ⟨rfl,rfl⟩
    ·exact go
    ·exact go
   ·split at hw
    case h_2 => exact absurd hw hbot
    rename_i f args hv
    have hic := hC _ _ _ _ hw
    rw [AC2_ge (evI_ge hv).1] at hic
    refine intr_step hop r tr hv hic fun v u h' ρ' w' vr hp r' nx' hle => ?_
    rw [hdst] at hp
    exact ih A' _ h' ρ' w' _ hA r' ((tr.mono (fun c hc => nx'.lives c (live_lt hc) hc) (fun c hc => nx'.ext c (live_lt hc))).put o.dst vr) (nx.trans (nx'.less hm)) (by omega) hp
   ·split at hw
    case h_2 => exact absurd hw hbot
    rename_i f args hv
    have hac := hC _ _ _ _ hw
    rw [AC2_lt (evC_lt hv)] at hac
    refine call_step hop r tr hv hac fun v u h' ρ' w' vr hp r' nx' hle => ?_
    rw [hdst] at hp
    exact ih A' _ h' ρ' w' _ hA r' ((tr.mono (fun c hc => nx'.lives c (live_lt hc) hc) (fun c hc => nx'.ext c (live_lt hc))).put o.dst vr) (nx.trans (nx'.less hm)) (by omega) hp
end
end Abs
end Go.Proofs.Ytongllppbifiaaa
namespace Go.Proofs.Ytongllppbifiaaa
namespace Abs
open Go
set_option linter.unusedVariables false
set_option linter.unusedSimpArgs false
section
variable {P : Program} {R : Type} {bot : R} {holds : R → Prop} {C : FuncId → List Value → AH → (Value → AH → R) → R} {Lp : ACode → T → AH → (AExit → T → AH → R) → R}
theorem chkD_ok {l : List Nat} {D : Reads} {h : AH} {chk : Nat → Nat → Bool} {i : Nat} (hl : ∀ j,chk i j = true → l.contains j = true) (hc : chkD l D h = true) : okD chk i D h := by
 intro d hd hch
 have := List.all_eq_true.1 hc d hd
 rw [hl _ hch] at this
 simp only [Bool.not_true,Bool.false_or] at this
 split at this
 ·rename_i v hv
  rw [hv,veq_eq _ _ this]
 ·cases this
theorem wDrawn_sound (hbot : ¬ holds bot) (hC : ∀ f args h K,holds (C f args h K) → AC2 P f args h (fun v h' => holds (K v h'))) {aos : Nat → AOper} {hn : Nat → Nat} {chk : Nat → Nat → Bool} {base : Nat} {K : T → AH → R} :
  ∀ (l : List DOper) (D : Reads) (t : T) (h : AH),(∀ d ∈ l,aos d.i = d.x ∧ hn d.i = base + d.fi ∧ ∀ j,chk d.i j = true → d.chk.contains j = true) → holds (wDrawn P bot C base l D t h K) → LA P aos hn chk (fun t h => holds (K t h)) (l.map (·.i)) D t h := by
 intro l
 induction l with
 | nil => intro D t h _ hw; exact hw
 | cons d l ih =>
  intro D t h hd hw
  obtain ⟨e1,e2,e3⟩ := hd d (List.mem_cons_self ..)
  have hd' : ∀ x ∈ l,aos x.i = x.x ∧ hn x.i = base + x.fi ∧ ∀ j,chk x.i j = true → x.chk.contains j = true := fun x hx => hd x (List.mem_cons_of_mem _ hx)
  simp only [List.map_cons]
  unfold LA Stp
  simp only [wDrawn,onW] at hw
  rw [e1,e2]
  split at hw
  ·exact absurd hw hbot
  ·rename_i hwt
   exact .inl ⟨undef,.inl ⟨hwt,rfl⟩,ih _ _ _ hd' hw⟩
  ·rename_i hwt
   split at hw
   ·split at hw
    case h_2 => exact absurd hw hbot
    rename_i v hv
    exact .inl ⟨v,.inr ⟨hwt,hv⟩,ih _ _ _ hd' hw⟩
   ·split at hw
    case h_2 => exact absurd hw hbot
    rename_i v hv
    exact .inr ⟨hwt,.inl ⟨v,hv,ih _ _ _ hd' hw⟩⟩
   ·split at hw
    case h_2 => exact absurd hw hbot
    rename_i v k hv
    split at hw
    case isFalse => exact absurd hw hbot
    rename_i hh
    exact .inr ⟨hwt,.inr (.inl ⟨v,k,hv,isHole_eq hh,ih _ _ _ hd' hw⟩)⟩
   ·split at hw
    case h_2 => exact absurd hw hbot
    rename_i v h' hv
    split at hw
    case isFalse => exact absurd hw hbot
    rename_i hch
    exact .inr ⟨hwt, .inr (.inr (.inl ⟨v, h', hv, chkD_ok e3 hch, ih _ _ _ hd' hw⟩))⟩
   ·split at hw
    case h_2 => exact absurd hw hbot
    rename_i f args hv
    have hac := hC _ _ _ _ hw
    rw [AC2_lt (evC_lt hv)] at hac
    refine .inr ⟨hwt,.inr (.inr (.inr ⟨f,args,hv,hac.mono fun v h' hh => ?_⟩))⟩
    split at hh
    case isFalse => exact absurd hh hbot
    rename_i hcond
    simp only [Bool.and_eq_true] at hcond
    refine ⟨chkD_ok e3 hcond.1,fun j hj h2 => ?_,ih _ _ _ hd' hh⟩
    obtain ⟨x,hx,rfl⟩ := List.mem_map.1 hj
    obtain ⟨q1,q2,_⟩ := hd' x hx
    rw [q1] at h2
    rw [q2]
    have := List.all_eq_true.1 hcond.2 x hx
    rw [h2] at this
    exact isHole_eq (by simpa using this)
theorem freshes_succ (A : List AOper) (n : Nat) : freshes A (n + 1) = freshes A n + (match A[n]? with | some x => if kd x.op == 2 then 1 else 0 | none => 0) := by
 unfold freshes
 rw [List.take_add_one]
 cases h : A[n]? with
 | none => simp
 | some x =>
  simp only [Option.toList_some,List.filter_append,List.length_append]
  by_cases hk : (kd x.op == 2) = true <;> simp [hk]
theorem freshes_mono (A : List AOper) {n m : Nat} (h : n ≤ m) : freshes A n ≤ freshes A m := by
 induction h with
 | refl => exact Nat.le_refl _
 | step _ ih => rw [freshes_succ]; omega
theorem freshes_lt {A : List AOper} {x y : Nat} (hx : kd (A.getD x dfl).op = 2) (h : x < y) : freshes A x < freshes A y := by
 have hlt : x < A.length := by
  rcases Nat.lt_or_ge x A.length with h' | h'
  ·exact h'
  ·rw [List.getD_eq_getElem?_getD,List.getElem?_eq_none h'] at hx
   cases hx
 have h1 := freshes_succ A x
 have h2 : A[x]? = some (A.getD x dfl) := by simp [List.getD_eq_getElem?_getD,hlt]
 rw [h2] at h1
 simp only [hx,beq_self_eq_true,if_true] at h1
 have := freshes_mono A (n := x + 1) (m := y) h
 omega
theorem pairsOk_spec {A : List AOper} {anc : Array Nat} {ord : List Nat} : ∀ (l : List Nat),pairsOk A anc ord l = true → l.Nodup ∧ l.Pairwise (fun j i => pairOk (fun k => A.getD k dfl) (fun i j => (chkOf A anc ord i).contains j) anc j i = true) := by
 intro l
 induction l with
 | nil => intro _; exact ⟨List.nodup_nil,List.Pairwise.nil⟩
 | cons j l ih =>
  intro h
  simp only [pairsOk,Bool.and_eq_true,Bool.not_eq_true'] at h
  obtain ⟨⟨h1,h2⟩,h3⟩ := h
  obtain ⟨g1,g2⟩ := ih h3
  exact ⟨List.nodup_cons.2 ⟨by simpa using h2,g1⟩,List.pairwise_cons.2 ⟨fun i hi => List.all_eq_true.1 h1 i hi,g2⟩⟩
theorem getD_rep (n j : Nat) : (Array.replicate n false).getD j false = false := by
 by_cases h : j < n <;> simp [h]
theorem Rel.holes {ρ : Ren} {h : AH} {w : World} (r : Rel ρ h w) : ∀ n,Rel ρ (h ++ List.replicate n .hole) w
 | 0 => by simpa using r
 | n + 1 => by
  have := (r.holes n).hole
  rw [List.append_assoc,show [ABlk.hole] = List.replicate 1 ABlk.hole from rfl,List.replicate_append_replicate] at this
  exact this
theorem live_holes {h : AH} (n : Nat) : live (h ++ List.replicate n .hole) = live h := by
 funext b
 by_cases hb : b < h.length
 ·unfold live; rw [List.getElem?_append_left hb]
 ·have e1 : live h b = false := by
   cases hq : live h b with
   | false => rfl
   | true => exact absurd (live_lt hq) hb
  rw [e1]
  unfold live
  rw [List.getElem?_append_right (by omega),List.getElem?_replicate]
  split <;> simp_all
theorem Next.holes {m : Nat} {ρ : Ren} {h : AH} {w : World} (n : Nat) : Next m ρ h w ρ (h ++ List.replicate n .hole) w := by
 have back : ∀ (b : Nat) (l : ABlk),(h ++ List.replicate n ABlk.hole)[b]? = some l → l = .hole ∨ h[b]? = some l := by
  intro b l hb
  by_cases hlt : b < h.length
  ·rw [List.getElem?_append_left hlt] at hb
   exact .inr hb
  ·rw [List.getElem?_append_right (by omega)] at hb
   have := List.mem_of_getElem? hb
   exact .inl (List.eq_of_mem_replicate this)
 refine ⟨fun _ _ => rfl,fun b _ hb => by rw [live_holes]; exact hb,rfl,rfl,rfl,Nat.le_refl _,fun _ _ _ => rfl,fun b l hb x hx => ?_,fun b l hb x hx => ?_⟩
 ·rcases back b l hb with rfl | hb
  ·cases hx
  ·exact .inr ⟨b,l,hb,hx⟩
 ·rcases back b l hb with rfl | hb
  ·cases hx
  ·exact .inr ⟨b,l,hb,hx⟩
theorem drawn_sound (hmix : P.follows .mixedOrders = true) (hbot : ¬ holds bot) (hC : ∀ f args h K,holds (C f args h K) → AC2 P f args h (fun v h' => holds (K v h'))) {id : Nat} {ops : Array Oper} {nh : Nat} {l : List DOper} (hc : cDrawn P ops = some (nh,l)) {m : Nat} {Q : AExit → T → AH → Prop} {K : T → AH → R} {t : T} {h : AH} (hQ : ∀ t h,holds (K t h) → Q .normal t h)
  (hw : holds (wDrawn P bot C h.length l [] t (h ++ List.replicate nh .hole) K)) : AWp P m (.region id ops true) Q t h := by
 unfold cDrawn at hc
 split at hc
 case h_1 => cases hc
 rename_i A hA
 simp only at hc
 split at hc
 case isFalse => cases hc
 rename_i hcond
 injection hc with hc
 injection hc with q1 q2
 simp only [Bool.and_eq_true,beq_iff_eq] at hcond
 obtain ⟨⟨⟨⟨hB,hlen⟩,hall⟩,hpairs⟩,hcov⟩ := hcond
 obtain ⟨hnd,hpw⟩ := pairsOk_spec _ hpairs
 obtain ⟨hAlen,hAget⟩ := cOpsL_get _ A hA
 have hlt : ∀ x ∈ orderOf A (ancs ops) ops.size (List.range ops.size),x < ops.size := fun x hx => by simpa using List.all_eq_true.1 hall x hx
 have hAl : A.length = ops.size := by simpa using hAlen
 have hbound : ∀ x,x < ops.size → kd (A.getD x dfl).op = 2 → freshes A x < nh := fun x hx h2 => by rw [← q1]; exact freshes_lt h2 hx
 intro ρ w a r tr hm
 refine wp_region_any hmix ?_
 have la := wDrawn_sound (aos := fun k => A.getD k dfl) (hn := fun x => h.length + freshes A x) (chk := fun i j => (chkOf A (ancs ops) (orderOf A (ancs ops) ops.size (List.range ops.size)) i).contains j) hbot hC l [] t _ (fun d hd => by
  rw [← q2] at hd
  obtain ⟨i,_,rfl⟩ := List.mem_map.1 hd
  exact ⟨rfl,rfl,fun j hj => hj⟩) hw
 have hl : l.map (·.i) = orderOf A (ancs ops) ops.size (List.range ops.size) := by
  rw [← q2,List.map_map]
  exact List.map_id' _
 rw [hl] at la
 have r1 : Rel ρ (h ++ List.replicate nh .hole) { w with drawn := w.drawn + 1 } := (r.holes nh).heap rfl
 refine LA_sound (P := P) (Q := Q) (ρ0 := ρ) (h0 := h) (w0 := w) (m := m) hB (fun i o ho => hAget i o (by simpa using ho)) (fun x hx y hy hne hx2 hy2 he => ?_) (fun x _ _ => Nat.le_trans hm (Nat.le_add_right _ _)) hQ ops.size _ _ [] t _ ρ _ a hlen ?_ hpw ?_ (fun d hd => by cases hd) r1 (by rw [live_holes]; exact tr) ((Next.holes nh).drew rfl rfl rfl rfl) (by simp; omega) la
 ·have hne2 : freshes A x ≠ freshes A y := by
   rcases Nat.lt_or_ge x y with h' | h'
   ·have := freshes_lt hx2 h'; omega
   ·have := freshes_lt hy2 (by omega : y < x); omega
  omega
 ·refine ⟨by simp,hnd,fun k => ?_,fun j oj _ hl => by rw [getD_rep] at hl; cases hl⟩
  constructor
  ·intro hk
   exact ⟨hlt k hk,by simp [hlt k hk]⟩
  ·intro ⟨hk,_⟩
   simpa using List.all_eq_true.1 hcov k (List.mem_range.2 hk)
 ·intro x hx h2
  have hb := hbound x (hlt x hx) h2
  show (h ++ List.replicate nh ABlk.hole)[h.length + freshes A x]? = _
  rw [List.getElem?_append_right (by omega),Nat.add_sub_cancel_left,List.getElem?_replicate,if_pos hb]
theorem W_sound (hmix : P.follows .mixedOrders = true) (hbot : ¬ holds bot) (hC : ∀ f args h K,holds (C f args h K) → AC2 P f args h (fun v h' => holds (K v h'))) {m : Nat}
  (hL : ∀ c ac t h K,cCode P c = some ac → holds (Lp ac t h K) → AWp P m (.loop c) (fun e t h => holds (K e t h)) t h) :
  ∀ (c : Code) (ac : ACode) (t : T) (h : AH) (K : AExit → T → AH → R),cCode P c = some ac → holds (W P bot C Lp ac t h K) → AWp P m c (fun e t h => holds (K e t h)) t h := by
 intro c
 induction c with
 | skip =>
  intro ac t h K hc hw
  simp only [cCode] at hc
  injection hc with hc
  subst hc
  exact awp_skip hw
 | region id ops draw =>
  intro ac t h K hc hw
  cases draw with
  | true =>
   simp only [cCode,if_true] at hc
   split at hc
   case h_2 => cases hc
   rename_i n l hl
   injection hc with hc
   subst hc
   exact drawn_sound hmix hbot hC hl (fun t h hk => hk) hw
  | false =>
   simp only [cCode,Bool.false_eq_true,if_false] at hc
   split at hc
   case h_2 => cases hc
   rename_i l hl
   injection hc with hc
   subst hc
   intro ρ w a r tr hm
   exact wp_region_list (wOps_sound (m := m) (Q := fun e t h => holds (K e t h)) (ρ0 := ρ) (h0 := h) (w0 := w) hbot hC (K .normal) (fun t h hk => hk) _ _ t h ρ w a hl r tr (Next.refl _ _ _ _) hm hw)
 | seq a b iha ihb =>
  intro ac t h K hc hw
  simp only [cCode] at hc
  split at hc
  case h_2 => cases hc
  rename_i x y hx hy
  injection hc with hc
  subst hc
  refine awp_seq ((iha x t h _ hx hw).mono fun e t h hk => ?_)
  cases e with
  | normal => exact ihb y t h K hy hk
  | exit id => exact hk
  | ret => exact hk
 | cond c a b iha ihb =>
  intro ac t h K hc hw
  simp only [cCode] at hc
  split at hc
  case h_2 => cases hc
  rename_i x y hx hy
  injection hc with hc
  subst hc
  simp only [W,onB] at hw
  split at hw
  ·rename_i hb
   exact awp_cond hb (by rw [if_pos rfl]; exact iha x t h K hx hw)
  ·rename_i hb
   exact awp_cond hb (by rw [if_neg (by simp)]; exact ihb y t h K hy hw)
  ·exact absurd hw hbot
 | block id a iha =>
  intro ac t h K hc hw
  simp only [cCode] at hc
  split at hc
  case h_2 => cases hc
  rename_i x hx
  injection hc with hc
  subst hc
  refine awp_block ((iha x t h _ hx hw).mono fun e t h hk => ?_)
  cases e with
  | normal => exact hk
  | exit i =>
   simp only [blockQ]
   split
   ·rename_i e; simp only [if_pos e] at hk; exact hk
   ·rename_i e; simp only [if_neg e] at hk; exact hk
  | ret => exact hk
 | loop a iha =>
  intro ac t h K hc hw
  simp only [cCode] at hc
  split at hc
  case h_2 => cases hc
  rename_i x hx
  injection hc with hc
  subst hc
  exact hL a x t h K hx hw
 | exit id =>
  intro ac t h K hc hw
  simp only [cCode] at hc
  injection hc with hc
  subst hc
  exact awp_exit hw
 | ret =>
  intro ac t h K hc hw
  simp only [cCode] at hc
  injection hc with hc
  subst hc
  exact awp_ret hw
 | rangeFunc f params assign body => intro ac t h K hc hw; simp [cCode] at hc
 | scope body => intro ac t h K hc hw; simp [cCode] at hc
 | label l => intro ac t h K hc hw; simp [cCode] at hc
 | goto l => intro ac t h K hc hw; simp [cCode] at hc
 | refuse why => intro ac t h K hc hw; simp [cCode] at hc
end
end Abs
end Go.Proofs.Ytongllppbifiaaa
namespace Go.Proofs.Ytongllppbifiaaa
namespace Abs
open Go
set_option linter.unusedVariables false
set_option linter.unusedSimpArgs false
inductive ARes where
 | tmp (i : Nat)
 | cell (i : Nat) (agg : Option Nat)
structure AFunc where
 ntmps : Nat
 res : List ARes
 body : ACode
def cRes (P : Program) : List ResultVar → Option (List ARes)
 | [] => some []
 | .tmp i :: l => match cRes P l with
  | some r => some (.tmp i :: r)
  | none => none
 | .cell i t :: l => match aggOf P t,cRes P l with
  | some ag,some r => some (.cell i ag :: r)
  | _,_ => none
def cFunc (P : Program) (f : FuncId) : Option AFunc := match P.funcs[f]? with
  | some fn => match fn.body with
    | some c => if fn.name == "runtime.NumGoroutine" then none else match cCode P c, cRes P fn.results.toList with
      | some ac,some rs => some ⟨fn.ntmps,rs,ac⟩
      | _,_ => none
    | none => none
  | none => none
def evRes (t : T) (h : AH) : List ARes → Option (List Value)
 | [] => some []
 | .tmp i :: l => match evalO t (.tmp i),evRes t h l with
  | some v,some r => some (v :: r)
  | _,_ => none
 | .cell i ag :: l => match evR t h (.ld ag (.tmp i)),evRes t h l with
  | some v,some r => some (v :: r)
  | _,_ => none
def oneOf : List Value → Value
 | [v] => v
 | l => .tuple l.toArray
def initT (n : Nat) (args : List Value) : T := args.map some ++ List.replicate (n - args.length) none
section
variable {R : Type} (P : Program) (bot : R) (C : FuncId → List Value → AH → (Value → AH → R) → R) (Lp : ACode → T → AH → (AExit → T → AH → R) → R)
def wFunc (af : AFunc) (args : List Value) (h : AH) (K : Value → AH → R) : R :=
 W P bot C Lp af.body (initT af.ntmps args) h (fun e t h => match e with
  | .exit _ => bot
  | _ => match evRes t h af.res with
   | some vs => K (oneOf vs) h
   | none => bot)
end
section
variable {P : Program} {R : Type} {bot : R} {holds : R → Prop} {C : FuncId → List Value → AH → (Value → AH → R) → R} {Lp : ACode → T → AH → (AExit → T → AH → R) → R}
theorem evRes_run {ρ : Ren} {h : AH} {w : World} {t : T} {a : Act} (r : Rel ρ h w) (tr : TRel ρ (live h) t a) (F : ResultVar → Sem Value) (hF1 : ∀ i,F (.tmp i) = pure (a.tmps.getD i undef)) (hF2 : ∀ i ty,F (.cell i ty) = do loadVar ty (← asAddr (a.tmps.getD i undef))) : ∀ (l : List ResultVar) (rs : List ARes) (vs : List Value),cRes P l = some rs → evRes t h rs = some vs →
  (l.mapM F).run P w = .ok (vs.map (conc ρ)) w ∧ scpL (live h) vs = true := by
 intro l
 induction l with
 | nil =>
  intro rs vs hc hv
  simp only [cRes] at hc
  injection hc with hc
  subst hc
  simp only [evRes] at hv
  injection hv with hv
  subst hv
  exact ⟨rfl,rfl⟩
 | cons x l ih =>
  intro rs vs hc hv
  cases x with
  | tmp i =>
   simp only [cRes] at hc
   split at hc
   case h_2 => cases hc
   rename_i r' hr'
   injection hc with hc
   subst hc
   simp only [evRes] at hv
   split at hv
   case h_2 => cases hv
   rename_i v us hv1 hus
   injection hv with hv
   subst hv
   obtain ⟨h1,h2⟩ := ih _ _ hr' hus
   have vr := evalO_VR tr hv1
   have e1 : a.tmps.getD i undef = conc ρ v := vr.2
   refine ⟨?_,by simp [scpL,vr.1,h2]⟩
   rw [List.mapM_cons]
   simp only [hF1,Sem.run_bind,e1,Sem.run_pure,Result.andThen_ok,h1]
   rfl
  | cell i ty =>
   simp only [cRes] at hc
   split at hc
   case h_2 => cases hc
   rename_i ag r' hag hr'
   injection hc with hc
   subst hc
   simp only [evRes] at hv
   split at hv
   case h_2 => cases hv
   rename_i v us hv1 hus
   injection hv with hv
   subst hv
   obtain ⟨h1,h2⟩ := ih _ _ hr' hus
   have key : (do loadVar ty (← asAddr (a.tmps.getD i undef)) : Sem Value).run P w = .ok (conc ρ v) w ∧ scp (live h) v = true := by
    have hg := aggOf_run hag w
    cases ag with
    | none =>
     simp only [evR] at hv1
     split at hv1
     ·rename_i b off hx
      split at hv1
      ·rename_i vs' hb
       have vr := evalO_VR tr hx
       have e1 : a.tmps.getD i undef = .pointer (some ⟨(ρ b).blk,(ρ b).off + off,none⟩) := vr.2
       obtain ⟨g1,g2⟩ := rdRow_cell r hb hv1
       exact ⟨by simp [e1,asAddr,loadVar,hg.1,g1],g2⟩
      ·cases hv1
     ·cases hv1
    | some n =>
     simp only [evR] at hv1
     split at hv1
     ·rename_i b off hx
      split at hv1
      ·rename_i l' hl
       injection hv1 with hv1
       subst hv1
       have vr := evalO_VR tr hx
       have e1 : a.tmps.getD i undef = .pointer (some (cAddr ρ ⟨b,off,none⟩)) := vr.2
       obtain ⟨g1,g2,g3⟩ := rdCells_run (P := P) r hl
       exact ⟨by simp [e1,asAddr,loadVar,hg.1,hg.2 n rfl,g1,conc,concA,concL_map],by simp [scp,scpA,g2]⟩
      ·cases hv1
     ·cases hv1
   refine ⟨?_,by simp [scpL,key.2,h2]⟩
   rw [List.mapM_cons]
   have k1 := key.1
   simp only [hF2,Sem.run_bind,Sem.run_pure,Result.andThen_ok,h1] at k1 ⊢
   rw [k1]
   simp only [Result.andThen_ok,h1]
   rfl
theorem results_run {fn : Func} {ρ : Ren} {h : AH} {w : World} {t : T} {a : Act} {rs : List ARes} {vs : List Value} (r : Rel ρ h w) (tr : TRel ρ (live h) t a) (hc : cRes P fn.results.toList = some rs) (hv : evRes t h rs = some vs) :
  (results fn a.tmps).run P w = .ok (conc ρ (oneOf vs)) w ∧ scp (live h) (oneOf vs) = true := by
 have h1 := fun F hF1 hF2 => (evRes_run (P := P) r tr F hF1 hF2 _ _ _ hc hv).1
 have h2 := (evRes_run (P := P) r tr (fun | .tmp i => pure (a.tmps.getD i undef) | .cell i ty => do loadVar ty (← asAddr (a.tmps.getD i undef))) (fun _ => rfl) (fun _ _ => rfl) _ _ _ hc hv).2
 constructor
 ·unfold results
  rw [Array.mapM_eq_mapM_toList]
  simp only [Sem.run_bind,Sem.run_map]
  rw [h1 _ (fun _ => rfl) (fun _ _ => rfl)]
  simp only [Result.andThen_ok,Sem.run_pure]
  congr 1
  cases vs with
  | nil => simp [oneOf,conc,concA,concL]
  | cons x l =>
   cases l with
   | nil => simp [oneOf]
   | cons y l => simp [oneOf,conc,concA,concL,concL_map]
 ·unfold oneOf
  split
  ·simpa [scpL] using h2
  ·simpa [scp,scpA] using h2
theorem enter_sound (hmix : P.follows .mixedOrders = true) (hbot : ¬ holds bot) (hC : ∀ f args h K,holds (C f args h K) → AC2 P f args h (fun v h' => holds (K v h')))
  {f : FuncId} {af : AFunc} (hf : cFunc P f = some af) {args : List Value} {h : AH} {K : Value → AH → R}
  (hL : ∀ c ac t h' K,cCode P c = some ac → holds (Lp ac t h' K) → AWp P h.length (.loop c) (fun e t h => holds (K e t h)) t h')
  (hw : holds (wFunc P bot C Lp af args h K)) : AC P f args h (fun v h' => holds (K v h')) := by
 unfold cFunc at hf
 split at hf
 case h_2 => cases hf
 rename_i fn hfn
 split at hf
 case h_2 => cases hf
 rename_i c hbody
 split at hf
 case isTrue => cases hf
 rename_i hname
 split at hf
 case h_2 => cases hf
 rename_i ac rs hac hrs
 injection hf with hf
 subst hf
 refine ⟨?_,fun ρ w us r hs ha => ?_⟩
 ·unfold enterB
  rw [hfn]
  simp only [hbody,Option.isSome_some,Bool.true_and,Bool.not_eq_true']
  simpa using hname
 ·have hawp := W_sound hmix hbot hC (m := h.length) hL c ac _ h _ hac hw
  refine calls_of_wp hfn hbody ?_
  have tr : TRel ρ (live h) (initT fn.ntmps args) { tmps := us ++ Array.replicate (fn.ntmps - us.size) undef,defers := [] } := by
   refine ⟨rfl,by simp [initT,hs],fun i v hv => ?_⟩
   unfold initT at hv
   by_cases hi : i < args.length
   ·rw [List.getElem?_append_left (by simpa using hi),List.getElem?_map] at hv
    cases hx : args[i]? with
    | none => rw [hx] at hv; cases hv
    | some x =>
     rw [hx] at hv
     injection hv with hv
     injection hv with hv
     subst hv
     obtain ⟨u,h1,h2⟩ := ha i x hx
     refine ⟨u, ?_,h2⟩
     simp only
     rw [Array.getElem?_append_left (by omega)]
     exact h1
   ·rw [List.getElem?_append_right (by simpa using hi),List.getElem?_replicate] at hv
    split at hv <;> cases hv
  refine wp_mono (hawp ρ w _ r tr (Nat.le_refl _)) ?_
  rintro e a' w' ⟨e', t', h', ρ', he, hq, r', tr', nx, hle⟩
  cases e' with
  | exit id => exact (hbot hq).elim
  | normal =>
   simp only [AExit.is] at he
   subst he
   have hq2 : holds (match evRes t' h' rs with | some vs => K (oneOf vs) h' | none => bot) := hq
   split at hq2
   case h_2 => exact (hbot hq2).elim
   rename_i vs hvs
   obtain ⟨g1,g2⟩ := results_run (fn := fn) r' tr' hrs hvs
   exact ⟨tr'.defers, _, g1, oneOf vs, _, h', ρ', rfl, ⟨g2, rfl⟩, hq2, r', nx, hle⟩
  | ret =>
   simp only [AExit.is] at he
   subst he
   have hq2 : holds (match evRes t' h' rs with | some vs => K (oneOf vs) h' | none => bot) := hq
   split at hq2
   case h_2 => exact (hbot hq2).elim
   rename_i vs hvs
   obtain ⟨g1,g2⟩ := results_run (fn := fn) r' tr' hrs hvs
   exact ⟨tr'.defers, _, g1, oneOf vs, _, h', ρ', rfl, ⟨g2, rfl⟩, hq2, r', nx, hle⟩
end
def ALoop (P : Program) (m : Nat) (ac : ACode) (t : T) (h : AH) (K : AExit → T → AH → Prop) : Prop := ∀ c,cCode P c = some ac → AWp P m (.loop c) K t h
theorem contract {P : Program} (hmix : P.follows .mixedOrders = true) {f : FuncId} {af : AFunc} (hf : cFunc P f = some af) {args : List Value} {h : AH} {K : Value → AH → Prop} (hw : wFunc P False (AC2 P) (ALoop P h.length) af args h K) : AC P f args h K :=
 enter_sound (holds := fun p => p) hmix (fun h => h) (fun _ _ _ _ h => h) hf (fun c ac t h' K hc hl => hl c hc) hw
section
variable {R : Type} (P : Program) (bot : R) (tab : FuncId → Option AFunc)
end
end Abs
end Go.Proofs.Ytongllppbifiaaa
namespace Go.Proofs.Ytongllppbifiaaa
namespace Abs
open Go
set_option linter.unusedVariables false
set_option linter.unusedSimpArgs false
def renA (σ : Nat → Nat) (a : Addr) : Addr := ⟨σ a.block,a.off,a.spot⟩
mutual
def ren (σ : Nat → Nat) : Value → Value
 | .pointer (some a) => .pointer (some (renA σ a))
 | .slice (some a) len cap => .slice (some (renA σ a)) len cap
 | .map (some r) => .map (some (σ r))
 | .chan (some r) => .chan (some (σ r))
 | .func fn first captured => .func fn (renAr σ first) (renAr σ captured)
 | .iface t v => .iface t (ren σ v)
 | .agg cs => .agg (renAr σ cs)
 | .tuple cs => .tuple (renAr σ cs)
 | .pointer none => .pointer none
 | .slice none len cap => .slice none len cap
 | .map none => .map none
 | .chan none => .chan none
 | .bool b => .bool b
 | .int k n => .int k n
 | .float k n => .float k n
 | .complex k a b => .complex k a b
 | .string s => .string s
 | .nilFunc => .nilFunc
 | .nilIface => .nilIface
def renAr (σ : Nat → Nat) : Array Value → Array Value
 | ⟨l⟩ => ⟨renL σ l⟩
def renL (σ : Nat → Nat) : List Value → List Value
 | [] => []
 | v :: l => ren σ v :: renL σ l
end
mutual
theorem conc_ren (ρ : Ren) (σ : Nat → Nat) : ∀ v,conc ρ (ren σ v) = conc (fun b => ρ (σ b)) v
 | .pointer (some a) => by simp only [ren,conc,cAddr,renA]
 | .slice (some a) len cap => by simp only [ren,conc,cAddr,cCap,renA]
 | .map (some r) => by simp only [ren,conc]
 | .chan (some r) => by simp only [ren,conc]
 | .func fn first captured => by simp only [ren,conc,concA_ren ρ σ first,concA_ren ρ σ captured]
 | .iface t v => by simp only [ren,conc,conc_ren ρ σ v]
 | .agg cs => by simp only [ren,conc,concA_ren ρ σ cs]
 | .tuple cs => by simp only [ren,conc,concA_ren ρ σ cs]
 | .pointer none => by simp only [ren,conc]
 | .slice none len cap => by simp only [ren,conc]
 | .map none => by simp only [ren,conc]
 | .chan none => by simp only [ren,conc]
 | .bool b => by simp only [ren,conc]
 | .int k n => by simp only [ren,conc]
 | .float k n => by simp only [ren,conc]
 | .complex k a b => by simp only [ren,conc]
 | .string s => by simp only [ren,conc]
 | .nilFunc => by simp only [ren,conc]
 | .nilIface => by simp only [ren,conc]
theorem concA_ren (ρ : Ren) (σ : Nat → Nat) : ∀ v,concA ρ (renAr σ v) = concA (fun b => ρ (σ b)) v
 | ⟨l⟩ => by simp only [renAr,concA,concL_ren ρ σ l]
theorem concL_ren (ρ : Ren) (σ : Nat → Nat) : ∀ v,concL ρ (renL σ v) = concL (fun b => ρ (σ b)) v
 | [] => by simp only [renL,concL]
 | v :: l => by simp only [renL,concL,conc_ren ρ σ v,concL_ren ρ σ l]
end
mutual
theorem ren_plain (σ : Nat → Nat) : ∀ v,plain v = true → ren σ v = v
 | .pointer (some a),hs => by simp [plain,scp,nil] at hs
 | .slice (some a) _ _,hs => by simp [plain,scp,nil] at hs
 | .map (some r),hs => by simp [plain,scp,nil] at hs
 | .chan (some r),hs => by simp [plain,scp,nil] at hs
 | .func fn first captured,hs => by
  simp only [plain,scp,Bool.and_eq_true] at hs
  simp only [ren,renAr_plain σ first hs.1,renAr_plain σ captured hs.2]
 | .iface t v,hs => by simp only [plain,scp] at hs; simp only [ren,ren_plain σ v hs]
 | .agg cs,hs => by simp only [plain,scp] at hs; simp only [ren,renAr_plain σ cs hs]
 | .tuple cs,hs => by simp only [plain,scp] at hs; simp only [ren,renAr_plain σ cs hs]
 | .pointer none,_ => by simp only [ren]
 | .slice none _ _,_ => by simp only [ren]
 | .map none,_ => by simp only [ren]
 | .chan none,_ => by simp only [ren]
 | .bool b,_ => by simp only [ren]
 | .int k n,_ => by simp only [ren]
 | .float k n,_ => by simp only [ren]
 | .complex k a b,_ => by simp only [ren]
 | .string s,_ => by simp only [ren]
 | .nilFunc,_ => by simp only [ren]
 | .nilIface,_ => by simp only [ren]
theorem renAr_plain (σ : Nat → Nat) : ∀ v,scpA nil v = true → renAr σ v = v
 | ⟨l⟩,hs => by simp only [scpA] at hs; simp only [renAr,renL_plain σ l hs]
theorem renL_plain (σ : Nat → Nat) : ∀ v,scpL nil v = true → renL σ v = v
 | [],_ => by simp only [renL]
 | v :: l,hs => by
  simp only [scpL,Bool.and_eq_true] at hs
  simp only [renL,ren_plain σ v hs.1,renL_plain σ l hs.2]
end
def renB (σ : Nat → Nat) : ABlk → ABlk
 | .cells vs e opn => .cells (vs.map (ren σ)) e opn
 | .row vs => .row (vs.map (ren σ))
 | .glob g vs => .glob g (vs.map (ren σ))
 | .map es c => .map (es.map fun e => ⟨ren σ e.key,ren σ e.val,e.born⟩) c
 | k => k
theorem holds_ren {ρ : Ren} {σ : Nat → Nat} {cb : CB} {w : World} {k : ABlk} : Holds ρ cb w (renB σ k) ↔ Holds (fun b => ρ (σ b)) cb w k := by
 have e1 : ∀ v,conc ρ (ren σ v) = conc (fun b => ρ (σ b)) v := conc_ren ρ σ
 cases k with
 | cells vs e opn => simp only [renB,Holds,List.map_map,Function.comp_def,e1]
 | row vs =>
  simp only [renB,Holds]
  constructor
  ·intro h i v hv
   rw [← e1]
   exact h i _ (by rw [List.getElem?_map,hv]; rfl)
  ·intro h i v hv
   rw [List.getElem?_map] at hv
   cases hx : vs[i]? with
   | none => rw [hx] at hv; cases hv
   | some x =>
    rw [hx] at hv
    injection hv with hv
    subst hv
    rw [e1]
    exact h i x hx
 | map es c =>
  simp only [renB,Holds,List.map_map,Function.comp_def,concEntry,e1]
  exact Iff.rfl
 | glob g vs =>
  simp only [renB,Holds]
  refine and_congr_right fun _ => and_congr_right fun _ => ?_
  constructor
  ·intro h i v hv
   rw [← e1]
   exact h i _ (by rw [List.getElem?_map,hv]; rfl)
  ·intro h i v hv
   rw [List.getElem?_map] at hv
   cases hx : vs[i]? with
   | none => rw [hx] at hv; cases hv
   | some x =>
    rw [hx] at hv
    injection hv with hv
    subst hv
    rw [e1]
    exact h i x hx
 | iter s pos => exact Iff.rfl
 | adt D s => exact Iff.rfl
 | dead => exact Iff.rfl
 | hole => exact Iff.rfl
theorem foot_ren (σ : Nat → Nat) (cb : CB) (k : ABlk) : (renB σ k).foot cb = k.foot cb := by cases k <;> rfl
theorem reach_ren (σ : Nat → Nat) (cb : CB) (k : ABlk) : (renB σ k).reach cb = k.reach cb := by
 cases k with
 | row vs => cases vs <;> rfl
 | glob g vs => cases vs <;> rfl
 | _ => rfl
theorem hole_ren {σ : Nat → Nat} {k : ABlk} (h : renB σ k = .hole) : k = .hole := by cases k <;> simp_all [renB]
def own (g : AH) : Prop := ∀ (b : Nat) (k : ABlk),g[b]? = some k → ∀ cb,k.reach cb = k.foot cb
def mkADT (S : Type) (heaps : S → AH → Prop) : ADT where
 S := S
 rep s p F w := ∃ ρ g,heaps s g ∧ own g ∧ Rel ρ g w ∧ (ρ 0).al = (p,0,0) ∧ live g 0 = true ∧ ∀ x,x ∈ F ↔ ∃ (b : Nat) (k : ABlk),g[b]? = some k ∧ x ∈ k.foot (ρ b)
 lt := by
  rintro s p F w ⟨ρ,g,_,_,r,_,_,hF⟩ x hx
  obtain ⟨b,k,hb,hx⟩ := (hF x).1 hx
  exact r.reach_lt hb x (foot_reach hx)
 keep := by
  rintro s p F w w' ⟨ρ,g,h1,h2,r,h3,h4,hF⟩ hk
  refine ⟨ρ,g,h1,h2,⟨fun b k hb => (r.holds b k hb).keep fun x hx => hk x ((hF x).2 ⟨b,k,hb, ?_⟩),r.scope,r.apart⟩,h3,h4,hF⟩
  rw [h2 b k hb] at hx
  exact hx
structure Sub (ι : Nat → Nat) (g h : AH) : Prop where
 get : ∀ (j : Nat) (k : ABlk),g[j]? = some k → h[ι j]? = some (renB ι k)
 inj : ∀ i j,i < g.length → j < g.length → ι i = ι j → i = j
section
variable {P : Program} {ρ : Ren} {g h : AH} {w : World} {ι : Nat → Nat}
theorem Sub.rel (s : Sub ι g h) (ok : AOK g) (r : Rel ρ h w) : Rel (fun b => ρ (ι b)) g w := by
 refine ⟨fun b k hb => holds_ren.1 (r.holds _ _ (s.get b k hb)),ok,fun b c k l hb hc hne x hx => ?_⟩
 have hbl := (List.getElem?_eq_some_iff.1 hb).1
 have hcl := (List.getElem?_eq_some_iff.1 hc).1
 have := r.apart (ι b) (ι c) _ _ (s.get b k hb) (s.get c l hc) (fun e => hne (s.inj b c hbl hcl e)) x (by rw [foot_ren]; exact hx)
 rw [reach_ren] at this
 exact this
def feet (ρ : Ren) (g : AH) : List Nat := (List.range g.length).flatMap fun b => match g[b]? with
 | some k => k.foot (ρ b)
 | none => []
theorem mem_feet {ρ : Ren} {g : AH} {x : Nat} : x ∈ feet ρ g ↔ ∃ (b : Nat) (k : ABlk),g[b]? = some k ∧ x ∈ k.foot (ρ b) := by
 unfold feet
 rw [List.mem_flatMap]
 constructor
 ·rintro ⟨b,hb,hx⟩
  cases hg : g[b]? with
  | none => rw [hg] at hx; cases hx
  | some k => rw [hg] at hx; exact ⟨b,k,hg,hx⟩
 ·rintro ⟨b,k,hb,hx⟩
  refine ⟨b,List.mem_range.2 (List.getElem?_eq_some_iff.1 hb).1, ?_⟩
  rw [hb]
  exact hx
end
end Abs
end Go.Proofs.Ytongllppbifiaaa
namespace Go.Proofs.Ytongllppbifiaaa
namespace Abs
open Go
set_option linter.unusedVariables false
set_option linter.unusedSimpArgs false
inductive VB (h : AH) (σ : Nat → Nat) (b : Nat) : ABlk → List Nat → Prop
 | keep {k : ABlk} (hk : h[σ b]? = some (renB σ k)) : VB h σ b k [σ b]
 | clos {S : Type} {heaps : S → AH → Prop} {s : S} {g : AH} {ι : Nat → Nat} (h1 : heaps s g) (h2 : own g) (h3 : AOK g) (h4 : ∃ vs e,g[0]? = some (.cells vs e none)) (h5 : ι 0 = σ b) (h6 : Sub ι g h) : VB h σ b (.adt (mkADT S heaps) s) ((List.range g.length).map ι)
 | nul : VB h σ b (.row []) []
structure View (σ : Nat → Nat) (h2 h : AH) (us : Nat → List Nat) : Prop where
 blk : ∀ (b : Nat) (k : ABlk),h2[b]? = some k → VB h σ b k (us b)
 dis : ∀ b c,b < h2.length → c < h2.length → b ≠ c → ∀ x,x ∈ us b → x ∉ us c
section
variable {P : Program} {ρ : Ren} {h h2 : AH} {w : World} {σ : Nat → Nat} {us : Nat → List Nat}
theorem VB.cb (r : Rel ρ h w) {b : Nat} {k : ABlk} {u : List Nat} (v : VB h σ b k u) : ∃ cb : CB,cb.al = (ρ (σ b)).al ∧ Holds (fun c => ρ (σ c)) cb w k ∧ (∀ x,x ∈ k.foot cb → ∃ n,n ∈ u ∧ ∃ kk : ABlk,h[n]? = some kk ∧ x ∈ kk.foot (ρ n)) ∧ (∀ x,x ∈ k.reach cb → ∃ n,n ∈ u ∧ ∃ kk : ABlk,h[n]? = some kk ∧ x ∈ kk.reach (ρ n)) := by
 cases v with
 | nul => exact ⟨ρ (σ b),rfl,(fun i v hv => by simp at hv),(fun x hx => by simp [ABlk.foot] at hx),(fun x hx => by simp [ABlk.reach] at hx)⟩
 | keep hk =>
  refine ⟨ρ (σ b),rfl,holds_ren.1 (r.holds _ _ hk),fun x hx => ⟨σ b,List.mem_cons_self ..,_,hk,by rw [foot_ren]; exact hx⟩,fun x hx => ⟨σ b,List.mem_cons_self ..,_,hk,by rw [reach_ren]; exact hx⟩⟩
 | @clos S heaps s g ι h1 h2 h3 h4 h5 h6 =>
  obtain ⟨vs,e,hg0⟩ := h4
  have r2 := h6.rel h3 r
  have hl0 : live g 0 = true := live_of hg0 (by simp)
  obtain ⟨pre,ex,_,_,_,hz⟩ := r2.holds 0 _ hg0
  obtain ⟨z1,z2⟩ := hz rfl
  have hal : (ρ (ι 0)).al = ((ρ (ι 0)).blk,0,0) := by simp only [CB.al,z1,z2]
  have sub : ∀ x,x ∈ feet (fun c => ρ (ι c)) g → ∃ n,n ∈ (List.range g.length).map ι ∧ ∃ kk : ABlk,h[n]? = some kk ∧ x ∈ kk.foot (ρ n) := by
   intro x hx
   obtain ⟨j,k,hj,hx⟩ := mem_feet.1 hx
   exact ⟨ι j,List.mem_map.2 ⟨j,List.mem_range.2 (List.getElem?_eq_some_iff.1 hj).1,rfl⟩,_,h6.get j k hj,by rw [foot_ren]; exact hx⟩
  refine ⟨⟨(ρ (ι 0)).blk,0,0,feet (fun c => ρ (ι c)) g⟩,by rw [← h5,hal]; rfl,⟨rfl,rfl,_,g,h1,h2,r2,hal,hl0,fun x => mem_feet⟩,sub,fun x hx => ?_⟩
  obtain ⟨n,hn,kk,hk,hx⟩ := sub x hx
  exact ⟨n,hn,kk,hk,foot_reach hx⟩
theorem View.rel (v : View σ h2 h us) (ok : AOK h2) (r : Rel ρ h w) : ∃ ρ2 : Ren,Rel ρ2 h2 w ∧ (∀ b,(ρ2 b).al = (ρ (σ b)).al) ∧
  (∀ (b : Nat) (k : ABlk),h2[b]? = some k → ∀ x,x ∈ k.foot (ρ2 b) → ∃ (n : Nat) (kk : ABlk),h[n]? = some kk ∧ x ∈ kk.foot (ρ n)) ∧ (∀ (b : Nat) (k : ABlk),h2[b]? = some k → ∀ x,x ∈ k.reach (ρ2 b) → ∃ (n : Nat) (kk : ABlk),h[n]? = some kk ∧ x ∈ kk.reach (ρ n)) := by
 have each : ∀ b,∃ cb : CB,cb.al = (ρ (σ b)).al ∧ ∀ k,h2[b]? = some k → Holds (fun c => ρ (σ c)) cb w k ∧ (∀ x,x ∈ k.foot cb → ∃ n,n ∈ us b ∧ ∃ kk : ABlk,h[n]? = some kk ∧ x ∈ kk.foot (ρ n)) ∧ (∀ x,x ∈ k.reach cb → ∃ n,n ∈ us b ∧ ∃ kk : ABlk,h[n]? = some kk ∧ x ∈ kk.reach (ρ n)) := by
  intro b
  cases hb : h2[b]? with
  | none => exact ⟨ρ (σ b),rfl,fun k hk => by cases hk⟩
  | some k =>
   obtain ⟨cb,q1,q2⟩ := (v.blk b k hb).cb r
   exact ⟨cb,q1,fun k' hk' => by injection hk' with hk'; subst hk'; exact q2⟩
 obtain ⟨ρ2,hρ2⟩ := Classical.axiomOfChoice each
 have hal : ∀ b,(ρ2 b).al = (ρ (σ b)).al := fun b => (hρ2 b).1
 refine ⟨ρ2,⟨fun b k hb => ((hρ2 b).2 k hb).1.congr (ok b k hb) (fun c _ => hal c),ok,fun b c k l hb hc hne x hx hx' => ?_⟩,hal,fun b k hb x hx => ?_,fun b k hb x hx => ?_⟩
 ·obtain ⟨n,hn,kk,hk,hxn⟩ := ((hρ2 b).2 k hb).2.1 x hx
  obtain ⟨n', hn', kk', hk', hxn'⟩ := ((hρ2 c).2 l hc).2.2 x hx'
  have hnn : n ≠ n' := fun e => v.dis b c (List.getElem?_eq_some_iff.1 hb).1 (List.getElem?_eq_some_iff.1 hc).1 hne n hn (e ▸ hn')
  exact r.apart n n' kk kk' hk hk' hnn x hxn hxn'
 ·obtain ⟨n,_,kk,hk,hx⟩ := ((hρ2 b).2 k hb).2.1 x hx
  exact ⟨n,kk,hk,hx⟩
 ·obtain ⟨n,_,kk,hk,hx⟩ := ((hρ2 b).2 k hb).2.2 x hx
  exact ⟨n,kk,hk,hx⟩
theorem View.next (v : View σ h2 h us) (ok : AOK h2) (r : Rel ρ h w) {m : Nat} (hσ : ∀ b,b < m → σ b = b) (hl : ∀ b,b < m → live h b = true → live h2 b = true) : ∃ ρ2 : Ren,Rel ρ2 h2 w ∧ (∀ b,(ρ2 b).al = (ρ (σ b)).al) ∧ Next m ρ h w ρ2 h2 w := by
 obtain ⟨ρ2,r2,hal,hf,hr⟩ := v.rel ok r
 exact ⟨ρ2,r2,hal,fun b hb => by rw [hal,hσ b hb],hl,rfl,rfl,rfl,Nat.le_refl _,fun _ _ _ => rfl,fun b k hb x hx => .inr (hf b k hb x hx),fun b k hb x hx => .inr (hr b k hb x hx)⟩
theorem AC.view {f : FuncId} {args : List Value} {Post : Value → AH → Prop} (hc : AC P f args h (fun v h' => ∃ v2 h2 σ us,View σ h2 h' us ∧ AOK h2 ∧ scp (live h2) v2 = true ∧ v = ren σ v2 ∧ (∀ b,b < h.length → σ b = b) ∧ (∀ b,b < h.length → live h' b = true → live h2 b = true) ∧ h.length ≤ h2.length ∧ Post v2 h2)) : AC P f args h Post := by
 refine ⟨hc.1,fun ρ w us r hs ha => (hc.2 ρ w us r hs ha).mono ?_⟩
 rintro e w' ⟨v, u, h', ρ', he, vr, ⟨v2, h2, σ, us2, hv, ok, hsc, rfl, hσ, hl, hlen, hp⟩, r', nx, _⟩
 obtain ⟨ρ2,r2,hal,nx2⟩ := hv.next ok r' hσ hl
 refine ⟨v2,u,h2,ρ2,he,⟨hsc, ?_⟩,hp,r2,nx.trans nx2,hlen⟩
 rw [vr.2,conc_ren]
 exact (conc_congr (fun b _ => hal b) v2 hsc).symm
theorem awp_view {m : Nat} {c : Code} {Q : AExit → T → AH → Prop} {t t2 : T} (hv : View σ h2 h us) (ok : AOK h2) (hσ : ∀ b,b < m → σ b = b) (hl : ∀ b,b < m → live h b = true → live h2 b = true) (hm : m ≤ h2.length) (htl : t2.length = t.length)
  (ht : ∀ (i : Nat) v2,t2[i]? = some (some v2) → t[i]? = some (some (ren σ v2)) ∧ scp (live h2) v2 = true) (hw : AWp P m c Q t2 h2) : AWp P m c Q t h := by
 intro ρ w a r tr hm'
 obtain ⟨ρ2,r2,hal,nx2⟩ := hv.next ok r hσ hl
 have tr2 : TRel ρ2 (live h2) t2 a := ⟨tr.defers,by rw [htl]; exact tr.size,fun i v2 hi => by
  obtain ⟨h1,h3⟩ := ht i v2 hi
  obtain ⟨u,hu,vr⟩ := tr.val i _ h1
  refine ⟨u,hu,h3, ?_⟩
  rw [vr.2,conc_ren]
  exact (conc_congr (fun b _ => hal b) v2 h3).symm⟩
 exact wp_mono (hw ρ2 w a r2 tr2 hm) fun e a' w' hb => Beh.trans nx2 hb
end
end Abs
end Go.Proofs.Ytongllppbifiaaa
namespace Go.Proofs.Ytongllppbifiaaa
namespace Abs
open Go
set_option linter.unusedVariables false
set_option linter.unusedSimpArgs false
def setAll (σ : Nat → Nat) : Nat → List ABlk → AH → AH
 | _,[],H => H
 | b,k :: l,H => setAll σ (b + 1) l (H.set (σ b) (renB σ k))
def extN (σ : Nat → Nat) (n N : Nat) (b : Nat) : Nat := if b < n then σ b else N + (b - n)
def glue (σ : Nat → Nat) (n : Nat) (H h' : AH) : AH := setAll (extN σ n H.length) 0 (h'.take n) H ++ (h'.drop n).map (renB (extN σ n H.length))
mutual
theorem scp_ren {L L' : Nat → Bool} {σ : Nat → Nat} (h : ∀ b,L b = true → L' (σ b) = true) : ∀ v,scp L v = true → scp L' (ren σ v) = true
 | .pointer (some a),hs => by simp only [scp] at hs; simp only [ren,scp,renA]; exact h _ hs
 | .slice (some a) _ _,hs => by simp only [scp] at hs; simp only [ren,scp,renA]; exact h _ hs
 | .map (some r),hs => by simp only [scp] at hs; simp only [ren,scp]; exact h _ hs
 | .chan (some r),hs => by simp only [scp] at hs; simp only [ren,scp]; exact h _ hs
 | .func fn first captured,hs => by
  simp only [scp,Bool.and_eq_true] at hs
  simp only [ren,scp,Bool.and_eq_true]
  exact ⟨scpA_ren h first hs.1,scpA_ren h captured hs.2⟩
 | .iface t v,hs => by simp only [scp] at hs; simp only [ren,scp]; exact scp_ren h v hs
 | .agg cs,hs => by simp only [scp] at hs; simp only [ren,scp]; exact scpA_ren h cs hs
 | .tuple cs,hs => by simp only [scp] at hs; simp only [ren,scp]; exact scpA_ren h cs hs
 | .pointer none,_ => by simp only [ren,scp]
 | .slice none _ _,_ => by simp only [ren,scp]
 | .map none,_ => by simp only [ren,scp]
 | .chan none,_ => by simp only [ren,scp]
 | .bool b,_ => by simp only [ren,scp]
 | .int k n,_ => by simp only [ren,scp]
 | .float k n,_ => by simp only [ren,scp]
 | .complex k a b,_ => by simp only [ren,scp]
 | .string s,_ => by simp only [ren,scp]
 | .nilFunc,_ => by simp only [ren,scp]
 | .nilIface,_ => by simp only [ren,scp]
theorem scpA_ren {L L' : Nat → Bool} {σ : Nat → Nat} (h : ∀ b,L b = true → L' (σ b) = true) : ∀ v,scpA L v = true → scpA L' (renAr σ v) = true
 | ⟨l⟩,hs => by simp only [scpA] at hs; simp only [renAr,scpA]; exact scpL_ren h l hs
theorem scpL_ren {L L' : Nat → Bool} {σ : Nat → Nat} (h : ∀ b,L b = true → L' (σ b) = true) : ∀ v,scpL L v = true → scpL L' (renL σ v) = true
 | [],_ => by simp only [renL,scpL]
 | v :: l,hs => by
  simp only [scpL,Bool.and_eq_true] at hs
  simp only [renL,scpL,Bool.and_eq_true]
  exact ⟨scp_ren h v hs.1,scpL_ren h l hs.2⟩
end
theorem scpB_ren {L L' : Nat → Bool} {σ : Nat → Nat} (h : ∀ b,L b = true → L' (σ b) = true) {k : ABlk} (hk : k.scp L) : (renB σ k).scp L' := by
 cases k with
 | cells vs e opn =>
  intro v hv
  obtain ⟨x,hx,rfl⟩ := List.mem_map.1 hv
  exact scp_ren h x (hk x hx)
 | row vs =>
  intro v hv
  obtain ⟨x,hx,rfl⟩ := List.mem_map.1 hv
  exact scp_ren h x (hk x hx)
 | glob g vs =>
  intro v hv
  obtain ⟨x,hx,rfl⟩ := List.mem_map.1 hv
  exact scp_ren h x (hk x hx)
 | map es c =>
  intro v hv
  obtain ⟨x,hx,rfl⟩ := List.mem_map.1 hv
  exact ⟨scp_ren h _ (hk x hx).1,scp_ren h _ (hk x hx).2⟩
 | _ => trivial
section
variable {P : Program} {h H : AH} {σ : Nat → Nat}
theorem setAll_length (σ : Nat → Nat) : ∀ (l : List ABlk) (b : Nat) (H : AH),(setAll σ b l H).length = H.length := by
 intro l
 induction l with
 | nil => intro b H; rfl
 | cons k l ih => intro b H; simp only [setAll]; rw [ih]; simp
theorem setAll_other (σ : Nat → Nat) {c : Nat} : ∀ (l : List ABlk) (b : Nat) (H : AH),(∀ j,b ≤ j → j < b + l.length → σ j ≠ c) → (setAll σ b l H)[c]? = H[c]? := by
 intro l
 induction l with
 | nil => intro b H _; rfl
 | cons k l ih =>
  intro b H hn
  simp only [setAll]
  rw [ih _ _ (fun j h1 h2 => hn j (by omega) (by simp; omega)),List.getElem?_set_ne (hn b (Nat.le_refl _) (by simp))]
theorem setAll_at (σ : Nat → Nat) : ∀ (l : List ABlk) (b : Nat) (H : AH),(∀ i j,b ≤ i → i < b + l.length → b ≤ j → j < b + l.length → σ i = σ j → i = j) → (∀ j,b ≤ j → j < b + l.length → σ j < H.length) → ∀ (j : Nat) (k : ABlk),l[j]? = some k → (setAll σ b l H)[σ (b + j)]? = some (renB σ k) := by
 intro l
 induction l with
 | nil => intro b H _ _ j k hk; simp at hk
 | cons x l ih =>
  intro b H hinj hlt j k hk
  simp only [setAll]
  simp only [List.length_cons] at hinj hlt
  cases j with
  | zero =>
   simp at hk
   subst hk
   show (setAll σ (b + 1) l (H.set (σ b) (renB σ x)))[σ b]? = some (renB σ x)
   rw [setAll_other σ l (b + 1) _ (fun j h1 h2 e => by have := hinj j b (by omega) (by omega) (by omega) (by omega) e; omega),List.getElem?_set_self (hlt b (Nat.le_refl _) (by omega))]
  | succ j =>
   simp at hk
   have := ih (b + 1) (H.set (σ b) (renB σ x)) (fun i j h1 h2 h3 h4 => hinj i j (by omega) (by omega) (by omega) (by omega)) (fun j h1 h2 => by simpa using hlt j (by omega) (by omega)) j k hk
   rw [← this]
   congr 2
   omega
theorem Sub.lt (s : Sub σ h H) {b : Nat} (hb : b < h.length) : σ b < H.length :=
 (List.getElem?_eq_some_iff.1 (s.get b _ (List.getElem?_eq_getElem hb))).1
theorem glue_get (s : Sub σ h H) {h' : AH} (hle : h.length ≤ h'.length) {c : Nat} {k : ABlk} (hc : (glue σ h.length H h')[c]? = some k) :
  (∃ b k0,b < h.length ∧ c = σ b ∧ h'[b]? = some k0 ∧ k = renB (extN σ h.length H.length) k0) ∨ ((∀ b,b < h.length → σ b ≠ c) ∧ c < H.length ∧ H[c]? = some k) ∨
  (∃ b k0,h.length ≤ b ∧ c = H.length + (b - h.length) ∧ h'[b]? = some k0 ∧ k = renB (extN σ h.length H.length) k0) := by
 have hlen : (setAll (extN σ h.length H.length) 0 (h'.take h.length) H).length = H.length := setAll_length _ _ _ _
 have htk : (h'.take h.length).length = h.length := by simp; omega
 unfold glue at hc
 by_cases hcl : c < H.length
 ·rw [List.getElem?_append_left (by omega)] at hc
  by_cases hex : ∃ b,b < h.length ∧ σ b = c
  ·obtain ⟨b,hb,rfl⟩ := hex
   obtain ⟨k0,hk0⟩ : ∃ k0,h'[b]? = some k0 := ⟨_,List.getElem?_eq_getElem (by omega)⟩
   have e : extN σ h.length H.length (0 + b) = σ b := by simp [extN,hb]
   have := setAll_at (extN σ h.length H.length) (h'.take h.length) 0 H (fun i j _ hi _ hj he => by
     rw [htk] at hi hj
     simp only [extN,show i < h.length by omega,show j < h.length by omega,if_true] at he
     exact s.inj i j (by omega) (by omega) he) (fun j _ hj => by
     rw [htk] at hj
     simp only [extN,show j < h.length by omega,if_true]
     exact s.lt (by omega)) b k0 (by rw [List.getElem?_take,if_pos hb]; exact hk0)
   rw [e,hc] at this
   injection this with this
   exact .inl ⟨b,k0,hb,rfl,hk0,this⟩
  ·have hno : ∀ b,b < h.length → σ b ≠ c := fun b hb e => hex ⟨b,hb,e⟩
   rw [setAll_other _ _ _ _ (fun j _ hj => by
    rw [htk] at hj
    simp only [extN,show j < h.length by omega,if_true]
    exact hno j (by omega))] at hc
   exact .inr (.inl ⟨hno,hcl,hc⟩)
 ·rw [List.getElem?_append_right (by omega),hlen,List.getElem?_map,List.getElem?_drop] at hc
  cases hk : h'[h.length + (c - H.length)]? with
  | none => rw [hk] at hc; cases hc
  | some k0 =>
   rw [hk] at hc
   injection hc with hc
   exact .inr (.inr ⟨h.length + (c - H.length),k0,by omega,by omega,hk,hc.symm⟩)
theorem glue_at (s : Sub σ h H) {h' : AH} (hle : h.length ≤ h'.length) {b : Nat} {k0 : ABlk} (hb : h'[b]? = some k0) : (glue σ h.length H h')[extN σ h.length H.length b]? = some (renB (extN σ h.length H.length) k0) := by
 have hlen : (setAll (extN σ h.length H.length) 0 (h'.take h.length) H).length = H.length := setAll_length _ _ _ _
 have htk : (h'.take h.length).length = h.length := by simp; omega
 unfold glue
 by_cases hbl : b < h.length
 ·have e : extN σ h.length H.length b = σ b := by simp [extN,hbl]
  have := setAll_at (extN σ h.length H.length) (h'.take h.length) 0 H (fun i j _ hi _ hj he => by
    rw [htk] at hi hj
    simp only [extN,show i < h.length by omega,show j < h.length by omega,if_true] at he
    exact s.inj i j (by omega) (by omega) he) (fun j _ hj => by
    rw [htk] at hj
    simp only [extN,show j < h.length by omega,if_true]
    exact s.lt (by omega)) b k0 (by rw [List.getElem?_take,if_pos hbl]; exact hb)
  rw [Nat.zero_add] at this
  rw [List.getElem?_append_left (by rw [hlen,e]; exact s.lt hbl)]
  exact this
 ·have e : extN σ h.length H.length b = H.length + (b - h.length) := by simp [extN,hbl]
  rw [e,List.getElem?_append_right (by omega),hlen,Nat.add_sub_cancel_left,List.getElem?_map,List.getElem?_drop,show h.length + (b - h.length) = b by omega,hb]
  rfl
theorem AC.frame {f : FuncId} {args : List Value} {Post : Value → AH → Prop} (s : Sub σ h H) (ok : AOK h) (ha0 : scpL (live h) args = true) (hc : AC P f args h Post) :
  AC P f (args.map (ren σ)) H (fun v H' => ∃ v0 h', Post v0 h' ∧ h.length ≤ h'.length ∧ v = ren (extN σ h.length H.length) v0 ∧ H' = glue σ h.length H h') := by
 refine ⟨hc.1,fun ρ w us r hs ha => ?_⟩
 have r0 := s.rel ok r
 refine (hc.2 (fun b => ρ (σ b)) w us r0 (by simpa using hs) fun i v hv => ?_).mono ?_
 ·obtain ⟨u,hu,vr⟩ := ha i (ren σ v) (by rw [List.getElem?_map,hv]; rfl)
  exact ⟨u,hu,scpL_iff.1 ha0 v (List.mem_of_getElem? hv),by rw [vr.2,conc_ren]⟩
 rintro e w' ⟨v, u, h', ρ1, he, vr, hp, r1, nx, hle⟩
 obtain ⟨n,hn⟩ : ∃ n,h.length = n := ⟨_,rfl⟩
 obtain ⟨N,hN⟩ : ∃ N,H.length = N := ⟨_,rfl⟩
 obtain ⟨τ,hτ⟩ : ∃ τ,τ = extN σ h.length H.length := ⟨_,rfl⟩
 have τlt : ∀ b,b < h.length → τ b = σ b := fun b hb => by rw [hτ]; simp [extN,hb]
 have τge : ∀ b,h.length ≤ b → τ b = H.length + (b - h.length) := fun b hb => by rw [hτ]; simp [extN]; omega
 have each : ∀ c,∃ cb : CB,(∀ b,τ b = c → cb = ρ1 b) ∧ ((∀ b,τ b ≠ c) → cb = ρ c) := by
  intro c
  by_cases hex : ∃ b,τ b = c
  ·obtain ⟨b,hb⟩ := hex
   refine ⟨ρ1 b,fun b' hb' => ?_,fun hno => absurd hb (hno b)⟩
   have : b = b' := by
    rw [← hb'] at hb
    by_cases h1 : b < h.length <;> by_cases h2 : b' < h.length
    ·rw [τlt b h1,τlt b' h2] at hb; exact s.inj b b' h1 h2 hb
    ·rw [τlt b h1,τge b' (by omega)] at hb; have := s.lt h1; omega
    ·rw [τge b (by omega),τlt b' h2] at hb; have := s.lt h2; omega
    ·rw [τge b (by omega),τge b' (by omega)] at hb; omega
   rw [this]
  ·exact ⟨ρ c,fun b hb => absurd ⟨b,hb⟩ hex,fun _ => rfl⟩
 obtain ⟨ρ2,hρ2⟩ := Classical.axiomOfChoice each
 have q1 : ∀ b,ρ2 (τ b) = ρ1 b := fun b => (hρ2 _).1 b rfl
 have q2 : ∀ c,c < H.length → (∀ b,b < h.length → σ b ≠ c) → ρ2 c = ρ c := fun c hcl hno => (hρ2 c).2 fun b hb => by
  by_cases h1 : b < h.length
  ·exact hno b h1 (by rw [← τlt b h1]; exact hb)
  ·rw [τge b (by omega)] at hb; omega
 have hal : ∀ c,c < H.length → (ρ2 c).al = (ρ c).al := by
  intro c hcl
  by_cases hex : ∃ b,b < h.length ∧ σ b = c
  ·obtain ⟨b,hb,rfl⟩ := hex
   rw [← τlt b hb,q1 b,τlt b hb]
   exact nx.ext b hb
  ·rw [q2 c hcl (fun b hb e => hex ⟨b,hb,e⟩)]
 have hfun : (fun b => ρ2 (τ b)) = ρ1 := funext q1
 have hkeep : ∀ (c : Nat) (k : ABlk),(∀ b,b < h.length → σ b ≠ c) → H[c]? = some k → ∀ x,x ∈ k.reach (ρ c) → w'.heap[x]? = w.heap[x]? := by
  intro c k hno hk x hx
  refine nx.keep x (r.reach_lt hk x hx) fun b kk hb hx' => ?_
  exact r.apart (σ b) c _ _ (s.get b kk hb) hk (hno b (List.getElem?_eq_some_iff.1 hb).1) x (by rw [foot_ren]; exact hx') hx
 have hout : ∀ (c : Nat) (k : ABlk),(∀ b,b < h.length → σ b ≠ c) → H[c]? = some k → ∀ (b : Nat) (k1 : ABlk),h'[b]? = some k1 → ∀ x,(x ∈ k.foot (ρ c) → x ∉ k1.reach (ρ1 b)) ∧ (x ∈ k.reach (ρ c) → x ∉ k1.foot (ρ1 b)) := by
  intro c k hno hk b k1 hb x
  constructor
  ·intro hx hx'
   rcases nx.prow b k1 hb x hx' with hge | ⟨b0,k0,hb0,hx0⟩
   ·have := r.reach_lt hk x (foot_reach hx); omega
   ·exact r.apart c (σ b0) _ _ hk (s.get b0 k0 hb0) (fun e => hno b0 (List.getElem?_eq_some_iff.1 hb0).1 e.symm) x hx (by rw [reach_ren]; exact hx0)
  ·intro hx hx'
   rcases nx.prov b k1 hb x hx' with hge | ⟨b0,k0,hb0,hx0⟩
   ·have := r.reach_lt hk x hx; omega
   ·exact r.apart (σ b0) c _ _ (s.get b0 k0 hb0) hk (hno b0 (List.getElem?_eq_some_iff.1 hb0).1) x (by rw [foot_ren]; exact hx0) hx
 have cases_ : ∀ (c : Nat) (k : ABlk),(glue σ h.length H h')[c]? = some k → (∃ b k0,c = τ b ∧ h'[b]? = some k0 ∧ k = renB τ k0) ∨ ((∀ b,b < h.length → σ b ≠ c) ∧ c < H.length ∧ H[c]? = some k) := by
  intro c k hck
  rcases glue_get s hle hck with ⟨b,k0,hb,rfl,hk0,rfl⟩ | h1 | ⟨b,k0,hb,rfl,hk0,rfl⟩
  ·exact .inl ⟨b,k0,(τlt b hb).symm,hk0,by rw [hτ]⟩
  ·exact .inr h1
  ·exact .inl ⟨b,k0,(τge b hb).symm,hk0,by rw [hτ]⟩
 have hlive1 : ∀ b,live h' b = true → live (glue σ h.length H h') (τ b) = true := by
  intro b hb
  obtain ⟨k0,hk0⟩ : ∃ k0,h'[b]? = some k0 := ⟨_,List.getElem?_eq_getElem (live_lt hb)⟩
  refine live_of (by rw [hτ]; exact glue_at s hle hk0) fun e => ?_
  have := hole_ren e
  subst this
  unfold live at hb
  rw [hk0] at hb
  cases hb
 have hlive2 : ∀ c,live H c = true → live (glue σ h.length H h') c = true := by
  intro c hcl
  by_cases hex : ∃ b,b < h.length ∧ σ b = c
  ·obtain ⟨b,hb,rfl⟩ := hex
   rw [← τlt b hb]
   refine hlive1 b (nx.lives b hb ?_)
   obtain ⟨k0,hk0⟩ : ∃ k0,h[b]? = some k0 := ⟨_,List.getElem?_eq_getElem hb⟩
   refine live_of hk0 fun e => ?_
   subst e
   unfold live at hcl
   rw [s.get b _ hk0] at hcl
   cases hcl
  ·have hno : ∀ b,b < h.length → σ b ≠ c := fun b hb e => hex ⟨b,hb,e⟩
   have hl := live_lt hcl
   have : (glue σ h.length H h')[c]? = H[c]? := by
    unfold glue
    rw [List.getElem?_append_left (by rw [setAll_length]; exact hl),setAll_other _ _ _ _ (fun j _ hj => by
     have : j < h.length := by simp at hj; omega
     simp only [extN,this,if_true]
     exact hno j this)]
   unfold live at hcl ⊢
   rw [this]
   exact hcl
 have hscp : ∀ v0 : Value,scp (live h') v0 = true → scp (live (glue σ h.length H h')) (ren τ v0) = true := fun v0 hv0 => scp_ren hlive1 v0 hv0
 refine ⟨ren τ v, u, glue σ h.length H h', ρ2, he, ⟨hscp v vr.1, by rw [conc_ren, hfun]; exact vr.2⟩, ⟨v, h', hp, hle, by rw [hτ], rfl⟩, ⟨fun c k hck => ?_, fun c k hck => ?_, fun c d k l hck hdl hne x hx hx' => ?_⟩, ⟨fun c hcl => hal c hcl, fun c _ hcl => hlive2 c hcl, nx.os, nx.tape, nx.output, nx.size, fun x hx hnx => nx.keep x hx (fun b k hb hx' => hnx (σ b) _ (s.get b k hb) (by rw [foot_ren]; exact hx')), fun c k hck x hx => ?_, fun c k hck x hx => ?_⟩, ?_⟩
 ·rcases cases_ c k hck with ⟨b,k0,rfl,hk0,rfl⟩ | ⟨hno,hcl,hk⟩
  ·rw [q1 b,holds_ren,hfun]
   exact r1.holds b k0 hk0
  ·rw [q2 c hcl hno]
   exact ((r.holds c k hk).keep (hkeep c k hno hk)).congr (r.scope c k hk) (fun d hd => hal d (live_lt hd))
 ·rcases cases_ c k hck with ⟨b,k0,rfl,hk0,rfl⟩ | ⟨hno,hcl,hk⟩
  ·exact scpB_ren hlive1 (r1.scope b k0 hk0)
  ·exact ABlk.scp_mono hlive2 (r.scope c k hk)
 ·rcases cases_ c k hck with ⟨b,k0,rfl,hk0,rfl⟩ | ⟨hno,hcl,hk⟩
  ·rw [q1 b,foot_ren] at hx
   rcases cases_ d l hdl with ⟨b', k0', rfl, hk0', rfl⟩ | ⟨hno', hdl', hk'⟩
   ·rw [q1 b', reach_ren] at hx'
    exact r1.apart b b' k0 k0' hk0 hk0' (fun e => hne (by rw [e])) x hx hx'
   ·rw [q2 d hdl' hno'] at hx'
    exact (hout d l hno' hk' b k0 hk0 x).2 hx' hx
  ·rw [q2 c hcl hno] at hx
   rcases cases_ d l hdl with ⟨b', k0', rfl, hk0', rfl⟩ | ⟨hno', hdl', hk'⟩
   ·rw [q1 b', reach_ren] at hx'
    exact (hout c k hno hk b' k0' hk0' x).1 hx hx'
   ·rw [q2 d hdl' hno'] at hx'
    exact r.apart c d k l hk hk' hne x hx hx'
 ·rcases cases_ c k hck with ⟨b,k0,rfl,hk0,rfl⟩ | ⟨hno,hcl,hk⟩
  ·rw [q1 b,foot_ren] at hx
   rcases nx.prov b k0 hk0 x hx with hge | ⟨b0,k1,hb0,hx0⟩
   ·exact .inl hge
   ·exact .inr ⟨σ b0,_,s.get b0 k1 hb0,by rw [foot_ren]; exact hx0⟩
  ·rw [q2 c hcl hno] at hx
   exact .inr ⟨c,k,hk,hx⟩
 ·rcases cases_ c k hck with ⟨b,k0,rfl,hk0,rfl⟩ | ⟨hno,hcl,hk⟩
  ·rw [q1 b,reach_ren] at hx
   rcases nx.prow b k0 hk0 x hx with hge | ⟨b0,k1,hb0,hx0⟩
   ·exact .inl hge
   ·exact .inr ⟨σ b0,_,s.get b0 k1 hb0,by rw [reach_ren]; exact hx0⟩
  ·rw [q2 c hcl hno] at hx
   exact .inr ⟨c,k,hk,hx⟩
 ·unfold glue
  rw [List.length_append,setAll_length]
  omega
end
end Abs
end Go.Proofs.Ytongllppbifiaaa
