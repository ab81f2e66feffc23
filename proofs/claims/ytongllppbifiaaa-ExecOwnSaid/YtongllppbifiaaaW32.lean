import Derived.Test.YtongllppbifiaaaW5
namespace Go.Proofs.Ytongllppbifiaaa
namespace Abs
open Go
set_option linter.unusedVariables false
set_option linter.unusedSimpArgs false
theorem bindPV {α β : Type} {P : Program} (s : Sem α) (k : α → Sem β) {a : α} (h : pureVal P s = some a) : pureVal P (s.bind k) = pureVal P (k a) := by
 induction s with
 | pure b => simp only [pureVal] at h; injection h with h; subst h; rfl
 | program kk ih => simp only [pureVal] at h; exact ih P h
 | _ => simp [pureVal] at h
theorem undPV {P : Program} {t : TypeId} {d : TypeDesc} (h : P.underlying t = some d) : pureVal P (underlying t) = some d := by
 unfold underlying
 simp only [bind]
 rw [bindPV (a := P) _ _ rfl]
 simp only [h]
 rfl
theorem sizePV {P : Program} {t : TypeId} {n : Nat} (h : szOf P t = some n) : pureVal P (sizeOf t) = some n := by
 unfold szOf at h
 cases hi : P.info? t with
 | none => rw [hi] at h; cases h
 | some i =>
  rw [hi] at h
  injection h with h
  unfold sizeOf typeInfo
  simp only [bind]
  rw [bindPV (a := i) _ _ ?_]
  ·subst h; rfl
  ·rw [bindPV (a := P) _ _ rfl]
   simp only [hi]
   rfl
theorem aggPV {P : Program} {t : TypeId} {ag : Option Nat} (h : aggOf P t = some ag) : pureVal P (isAgg t) = some ag.isSome ∧ ∀ n,ag = some n → szOf P t = some n := by
 unfold aggOf at h
 split at h
 ·rename_i fs i hu hi
  injection h with h
  subst h
  refine ⟨?_,fun n hn => by injection hn with hn; subst hn; unfold szOf; rw [hi]; rfl⟩
  unfold isAgg
  simp only [bind]
  rw [bindPV _ _ (undPV hu)]
  rfl
 ·rename_i fs e i hu hi
  injection h with h
  subst h
  refine ⟨?_,fun n hn => by injection hn with hn; subst hn; unfold szOf; rw [hi]; rfl⟩
  unfold isAgg
  simp only [bind]
  rw [bindPV _ _ (undPV hu)]
  rfl
 ·rename_i d i hn1 hn2 hu hi
  injection h with h
  subst h
  refine ⟨?_,fun n hn => by cases hn⟩
  unfold isAgg
  simp only [bind]
  rw [bindPV _ _ (undPV hu)]
  cases d <;> first | rfl | exact absurd rfl (hn1 _ _ rfl) | exact absurd rfl (hn2 _ _ _ rfl) | exact absurd hu (hn1 _ _ hu) | skip
  all_goals simp_all
 ·cases h
def intsL : List Value → List Value → Prop
 | .int k _ :: xs,.int k' _ :: ys => k = k' ∧ intsL xs ys
 | [],[] => True
 | _,_ => False
def mkF (ag : Option Nat) (l : List Value) : Value := match ag with
 | none => l.headD undef
 | some _ => .agg l.toArray
def flatF (g : TypeId → Option Nat) : List Field → Nat → Option Nat
  | [],acc => some acc
  | f :: fs,acc => match g f.type with
    | some n => if f.name ≠ "_" ∧ f.offset = acc then flatF g fs (acc + n) else none
    | none => none
def flatN (P : Program) : Nat → TypeId → Option Nat
 | 0 => fun _ => none
 | d + 1 => fun t => match P.underlying t,aggOf P t with
  | some (.int _),some none => some 1
  | some (.struct fs),some (some n) => if P.stoodInHeld t then none else match flatF (flatN P d) fs.toList 0 with
   | some m => if m = n then some n else none
   | none => none
  | some (.array len e),some (some n) => match flatN P d e,szOf P e with
   | some m,some m' => if m = m' ∧ n = len * m then some n else none
   | _,_ => none
  | _,_ => none
def eqL : List Value → List Value → Bool
 | .int _ a :: xs,.int _ b :: ys => a == b && eqL xs ys
 | [],[] => true
 | _,_ => false
theorem intsL_drop : ∀ (k : Nat) (xs ys : List Value),intsL xs ys → intsL (xs.drop k) (ys.drop k)
 | 0,xs,ys,h => by simpa using h
 | k + 1,xs,ys,h => by
  unfold intsL at h
  split at h
  ·exact intsL_drop k _ _ h.2
  ·simp [intsL]
  ·cases h
theorem intsL_take : ∀ (k : Nat) (xs ys : List Value),intsL xs ys → intsL (xs.take k) (ys.take k)
 | 0,xs,ys,h => by simp [intsL]
 | k + 1,xs,ys,h => by
  unfold intsL at h
  split at h
  ·exact ⟨h.1,intsL_take k _ _ h.2⟩
  ·simp [intsL]
  ·cases h
theorem eqL_split : ∀ (k : Nat) (xs ys : List Value),intsL xs ys → eqL xs ys = (eqL (xs.take k) (ys.take k) && eqL (xs.drop k) (ys.drop k))
 | 0,xs,ys,h => by simp [eqL]
 | k + 1,xs,ys,h => by
  unfold intsL at h
  split at h
  ·simp only [List.take_succ_cons,List.drop_succ_cons,eqL]
   rw [eqL_split k _ _ h.2,Bool.and_assoc]
  ·simp [eqL]
  ·cases h
theorem partPV {P : Program} {t : TypeId} {ag : Option Nat} (h : aggOf P t = some ag) {n : Nat} (h1 : ag = none → n = 1) (h2 : ∀ m,ag = some m → m = n) (cs : Array Value) (off : Nat) (hle : off + n ≤ cs.size) : pureVal P (part t cs off) = some (mkF ag ((cs.toList.drop off).take n)) := by
 obtain ⟨q1,q2⟩ := aggPV h
 unfold part
 simp only [bind]
 rw [bindPV _ _ q1]
 cases ag with
 | none =>
  obtain rfl := h1 rfl
  have hlt : off < cs.size := by omega
  have e : cs[off]? = some cs[off] := Array.getElem?_eq_getElem hlt
  simp only [Option.isSome_none,Bool.false_eq_true,if_false,e]
  have : (cs.toList.drop off).take 1 = [cs[off]] := by
   rw [List.drop_eq_getElem_cons (by simpa using hlt)]
   simp
  rw [this]
  rfl
 | some m =>
  obtain rfl := h2 m rfl
  simp only [Option.isSome_some,if_true]
  rw [bindPV _ _ (sizePV (q2 m rfl))]
  show some _ = some _
  congr 1
  simp only [mkF]
  congr 1
  apply Array.ext'
  simp [List.extract_eq_take_drop]
theorem forPV {P : Program} {α : Type} (b : α → Bool) (body : α → Option Bool × Unit → Sem (ForInStep (Option Bool × Unit))) : ∀ (l : List α),(∀ x ∈ l,∀ r,pureVal P (body x r) = some (if b x = true then .yield (none,()) else .done (some false,()))) → ∀ r,r = (none,()) →
  pureVal P (forIn l r body) = some (if l.all b = true then (none,()) else (some false,()))
 | [],_,r,hr => by subst hr; rfl
 | x :: l,h,r,hr => by
  subst hr
  simp only [List.forIn_cons,bind]
  rw [bindPV _ _ (h x List.mem_cons_self _)]
  cases hb : b x with
  | false => simp [hb,List.all_cons]; rfl
  | true =>
   simp only [if_true,List.all_cons,hb,Bool.true_and]
   exact forPV b body l (fun y hy => h y (List.mem_cons_of_mem _ hy)) _ rfl
def okEq (P : Program) (d : Nat) : Prop := ∀ (t : TypeId) (n : Nat),flatN P d t = some n → ∃ ag,aggOf P t = some ag ∧ (ag = none → n = 1) ∧ (∀ m,ag = some m → m = n) ∧
 ∀ xs ys : List Value,xs.length = n → ys.length = n → intsL xs ys → pureVal P (Op.equalIn d t (mkF ag xs) (mkF ag ys)) = some (eqL xs ys)
def fieldEq (P : Program) (d : Nat) (xs ys : List Value) (f : Field) : Bool := eqL ((xs.drop f.offset).take ((flatN P d f.type).getD 0)) ((ys.drop f.offset).take ((flatN P d f.type).getD 0))
theorem fields_ok {P : Program} {d : Nat} (ih : okEq P d) : ∀ (fs : List Field) (acc n : Nat),flatF (flatN P d) fs acc = some n → acc ≤ n ∧ ∀ xs ys : List Value,xs.length = n → ys.length = n → intsL xs ys →
    (∀ f ∈ fs, f.name ≠ "_" ∧ ∃ u v, pureVal P (part f.type xs.toArray f.offset) = some u ∧ pureVal P (part f.type ys.toArray f.offset) = some v ∧ pureVal P (Op.equalIn d f.type u v) = some (fieldEq P d xs ys f)) ∧ fs.all (fieldEq P d xs ys) = eqL (xs.drop acc) (ys.drop acc)
  | [],acc,n,h => by
    simp only [flatF,Option.some.injEq] at h
    subst h
    refine ⟨Nat.le_refl _,fun xs ys hx hy _ => ⟨by simp, ?_⟩⟩
    rw [List.drop_of_length_le (by omega),List.drop_of_length_le (by omega)]
    rfl
  | f :: fs,acc,n,h => by
    simp only [flatF] at h
    split at h
    case h_2 => cases h
    rename_i k hk
    split at h
    case isFalse => cases h
    rename_i hf
    obtain ⟨hle,hr⟩ := fields_ok ih fs (acc + k) n h
    refine ⟨by omega,fun xs ys hx hy hi => ?_⟩
    obtain ⟨hb,hall⟩ := hr xs ys hx hy hi
    obtain ⟨ag,ha,h1,h2,heq⟩ := ih f.type k hk
    have i1 := intsL_drop acc _ _ hi
    have i2 := intsL_take k _ _ i1
    have p1 := partPV ha h1 h2 xs.toArray f.offset (by simp; omega)
    have p2 := partPV ha h1 h2 ys.toArray f.offset (by simp; omega)
    simp only [List.toList_toArray] at p1 p2
    have e := heq ((xs.drop acc).take k) ((ys.drop acc).take k) (by simp; omega) (by simp; omega) i2
    have e2 : fieldEq P d xs ys f = eqL ((xs.drop acc).take k) ((ys.drop acc).take k) := by
      unfold fieldEq
      rw [hk,hf.2]
      rfl
    rw [hf.2] at p1 p2
    refine ⟨fun g hg => ?_, ?_⟩
    · rcases List.mem_cons.1 hg with rfl | hg
      · rw [hf.2,e2]
        exact ⟨hf.1,_,_,p1,p2,e⟩
      · exact hb g hg
    · rw [List.all_cons,hall,e2,eqL_split k _ _ i1,List.drop_drop,List.drop_drop]
theorem rows_ok {m : Nat} : ∀ (len : Nat) (xs ys : List Value),xs.length = len * m → ys.length = len * m → intsL xs ys →
  (List.range' 0 len).all (fun i => eqL ((xs.drop (i * m)).take m) ((ys.drop (i * m)).take m)) = eqL xs ys
 | 0,xs,ys,hx,hy,hi => by
  have e1 : xs = [] := List.eq_nil_of_length_eq_zero (by omega)
  have e2 : ys = [] := List.eq_nil_of_length_eq_zero (by omega)
  subst e1 e2
  rfl
 | len + 1,xs,ys,hx,hy,hi => by
  have hm : (len + 1) * m = len * m + m := by rw [Nat.add_mul,Nat.one_mul]
  have ih := rows_ok (m := m) len (xs.drop m) (ys.drop m) (by simp; omega) (by simp; omega) (intsL_drop m _ _ hi)
  rw [eqL_split m _ _ hi,← ih,List.range'_succ,List.all_cons,Nat.zero_mul,List.drop_zero,List.drop_zero]
  congr 1
  rw [Nat.zero_add,List.range'_eq_map_range,List.range'_eq_map_range,List.all_map,List.all_map]
  congr 1
  funext i
  simp only [Function.comp,List.drop_drop,Nat.zero_add]
  have : (1 + i) * m = m + i * m := by rw [Nat.add_mul,Nat.one_mul]
  rw [this]
theorem okEq_all (P : Program) : ∀ d,okEq P d
 | 0,t,n,h => by simp [flatN] at h
 | d + 1,t,n,h => by
  have ih := okEq_all P d
  unfold flatN at h
  split at h
  ·rename_i k hu ha
   injection h with h
   subst h
   refine ⟨none,ha,fun _ => rfl,(fun m hm => by cases hm),fun xs ys hx hy hi => ?_⟩
   match xs,ys,hx,hy,hi with
   | [x],[y],_,_,hi =>
    unfold intsL at hi
    split at hi
    ·rename_i k1 a xs k2 b ys e1 e2
     injection e1 with e1 e1'
     injection e2 with e2 e2'
     subst e1 e2 e1' e2'
     obtain ⟨rfl,_⟩ := hi
     simp only [mkF,List.headD_cons,eqL,Bool.and_true]
     unfold Op.equalIn
     simp only [bind]
     rw [bindPV _ _ (undPV hu)]
     simp only [if_true]
     rfl
    ·rename_i e; cases e
    ·cases hi
  ·rename_i fs m hu ha
   split at h
   ·cases h
   rename_i hst
   split at h
   case h_2 => cases h
   rename_i k hk
   split at h
   case isFalse => cases h
   rename_i hkm
   injection h with h
   subst h hkm
   refine ⟨some k,ha,(fun e => by cases e),(fun m hm => by injection hm with hm; exact hm.symm),fun xs ys hx hy hi => ?_⟩
   obtain ⟨_,hr⟩ := fields_ok ih fs.toList 0 k hk
   obtain ⟨hb,hall⟩ := hr xs ys hx hy hi
   simp only [mkF]
   unfold Op.equalIn
   simp only [bind]
   rw [bindPV _ _ (undPV hu)]
   simp only
   rw [bindPV (a := P) _ _ rfl]
   simp only [hst,Bool.false_eq_true,if_false]
   rw [← Array.forIn_toList]
   rw [bindPV (a := if fs.toList.all (fieldEq P d xs ys) = true then (none,()) else (some false,())) _ _ (forPV (fieldEq P d xs ys) _ _ (fun f hf r => ?_) _ rfl)]
   ·rw [hall,List.drop_zero,List.drop_zero]
    cases eqL xs ys <;> rfl
   ·obtain ⟨hn,u,v,h1,h2,h3⟩ := hb f hf
    rw [if_pos hn,bindPV _ _ h1,bindPV _ _ h2,bindPV _ _ h3]
    cases fieldEq P d xs ys f <;> rfl
  ·rename_i len e m hu ha
   split at h
   case h_2 => cases h
   rename_i k k' hk hk'
   split at h
   case isFalse => cases h
   rename_i hkm
   obtain ⟨rfl,rfl⟩ := hkm
   injection h with h
   subst h
   refine ⟨some (len * k),ha,(fun e => by cases e),(fun m hm => by injection hm with hm; exact hm.symm),fun xs ys hx hy hi => ?_⟩
   obtain ⟨ag,hag,g1,g2,heq⟩ := ih e k hk
   simp only [mkF]
   unfold Op.equalIn
   simp only [bind]
   rw [bindPV _ _ (undPV hu)]
   simp only
   rw [bindPV _ _ (sizePV hk')]
   rw [Std.Legacy.Range.forIn_eq_forIn_range']
   simp only [Std.Legacy.Range.size,Nat.sub_zero,Nat.add_one_sub_one,Nat.div_one]
   rw [bindPV (a := if (List.range' 0 len).all (fun i => eqL ((xs.drop (i * k)).take k) ((ys.drop (i * k)).take k)) = true then (none,()) else (some false,())) _ _ (forPV (fun i => eqL ((xs.drop (i * k)).take k) ((ys.drop (i * k)).take k)) _ _ (fun i hin r => ?_) _ rfl)]
   ·rw [rows_ok len xs ys hx hy hi]
    cases eqL xs ys <;> rfl
   ·have hlt : i < len := by simpa using hin
    have hle : i * k + k ≤ len * k := by
     have : (i + 1) * k ≤ len * k := Nat.mul_le_mul_right k hlt
     rw [Nat.add_mul,Nat.one_mul] at this
     exact this
    rw [bindPV _ _ (partPV hag g1 g2 xs.toArray (i * k) (by simp; omega)),bindPV _ _ (partPV hag g1 g2 ys.toArray (i * k) (by simp; omega))]
    simp only [List.toList_toArray]
    rw [bindPV _ _ (heq _ _ (by simp; omega) (by simp; omega) (intsL_take k _ _ (intsL_drop (i * k) _ _ hi)))]
    cases eqL ((xs.drop (i * k)).take k) ((ys.drop (i * k)).take k) <;> rfl
  ·cases h
theorem geqF {P : Program} {n m : Nat} {t : TypeId} (hf : flatN P 10000 t = some n) (ha : aggOf P t = some (some m)) (hg : P.eqGuardType P.depth t = false) {op : BinOp} (hop : op = .eql ∨ op = .neq) (x y : Operand) (xs ys : List Value) (hx : xs.length = n) (hy : ys.length = n) (hi : intsL xs ys) :
  (pureVal P do eqGuard op t x y (.agg xs.toArray) (.agg ys.toArray); binOp op t (.agg xs.toArray) (.agg ys.toArray)) = some (.bool (if op = .eql then eqL xs ys else !(eqL xs ys))) := by
 obtain ⟨ag,hag,_,_,heq⟩ := okEq_all P 10000 t n hf
 rw [ha] at hag
 injection hag with hag
 subst hag
 have he : pureVal P (Op.equal t (.agg xs.toArray) (.agg ys.toArray)) = some (eqL xs ys) := heq xs ys hx hy hi
 have hgd : pureVal P (eqGuard op t x y (.agg xs.toArray) (.agg ys.toArray)) = some () := by
  unfold eqGuard
  simp only [bind]
  rw [if_neg (by rcases hop with rfl | rfl <;> decide)]
  rw [bindPV (a := P) _ _ rfl,bindPV (a := P) _ _ rfl]
  simp only [hg]
  rfl
 simp only [bind]
 rw [bindPV (a := ()) _ _ hgd]
 rcases hop with rfl | rfl
 ·show pureVal P (Sem.bind (Op.equal t _ _) fun r => pure (Value.bool r)) = _
  rw [bindPV _ _ he]
  rfl
 ·show pureVal P (Sem.bind (Op.equal t _ _) fun r => pure (Value.bool (!r))) = _
  rw [bindPV _ _ he]
  rfl
end Abs
end Go.Proofs.Ytongllppbifiaaa
