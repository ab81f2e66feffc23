import Derived.Test.YtongllppbifiaaaW39
import Derived.Test.YtongllppbifiaaaW4
import Derived.ChangeArms
import Derived.WideShapes
import Derived.OpenShut
import Derived.ProofKit
import Derived.ChangeOld
import Derived.Test.YtongllppbifiaaaW1
namespace Go.Proofs.Ytongllppbifiaaa
namespace Ex
open Go Abs Code
open Px (natV natV_length natV_get VecV nm u32w i64w PS poolB outG Own New newP pnewG OkP)
set_option linter.unusedVariables false
set_option linter.unusedSimpArgs false
structure LOp where
 kind : Int
 t : Int
 late : Bool
def LOp.vs (o : LOp) : List Value := [.int .i64 o.kind,.int .i64 o.t,.bool o.late]
def rowO (l : List LOp) : List Value := l.flatMap LOp.vs
theorem rowO_length (l : List LOp) : (rowO l).length = l.length * 3 := by
 induction l with
 | nil => rfl
 | cons o l ih => simp [rowO,LOp.vs] at ih ⊢; omega
theorem rowO_at {l : List LOp} {k : Nat} {o : LOp} (h : l[k]? = some o) : ((rowO l).drop (k * 3)).take 3 = o.vs := by
 induction l generalizing k with
 | nil => simp at h
 | cons q l ih =>
  cases k with
  | zero => simp at h; subst h; rfl
  | succ k =>
   rw [show (k + 1) * 3 = k * 3 + 3 by omega]
   exact ih (by simpa using h)
theorem beginX_same {Pl : Type} (s : ES Pl) (t : Nat) (u : Bool) : (beginX s t u).1.L = s.L ∧ (beginX s t u).1.cs.length = s.cs.length ∧ (beginX s t u).1.pl = s.pl := by
 unfold beginX
 split
 ·exact ⟨rfl,by simp [goOn],rfl⟩
 ·exact ⟨rfl,rfl,rfl⟩
def okPl (p : PS) : Prop := ∃ x,Px.Sim p x ∧ OkP p
theorem okPl.take {p : PS} (h : okPl p) (t : Int) : okPl (Px.takeS p t) := by
 obtain ⟨x,s,ok⟩ := h
 obtain ⟨s2,ok2⟩ := s.take ok t
 exact ⟨_,s2,ok2⟩
theorem okPl.free {p : PS} (h : okPl p) (y : Nat) : okPl (Px.freeS p y) := by
 obtain ⟨x,s,ok⟩ := h
 obtain ⟨s2,ok2⟩ := s.free' ok y
 exact ⟨_,s2,ok2⟩
theorem stepX_same {s : ES PS} (ok : okPl s.pl) (t : Nat) (late : Bool) : (stepX opsP s t late).1.L = s.L ∧ (stepX opsP s t late).1.cs.length = s.cs.length ∧ okPl (stepX opsP s t late).1.pl := by
 unfold stepX
 cases s.cs[t]? with
 | none => exact ⟨rfl,rfl,ok⟩
 | some c =>
  simp only
  cases fetch s.L c.pc with
  | none => exact ⟨rfl,rfl,ok⟩
  | some i =>
   simp only
   by_cases c1 : i.op < 16
   ·rw [if_pos c1]; exact ⟨rfl,rfl,ok⟩
   rw [if_neg c1]
   by_cases c2 : i.op = 22
   ·rw [if_pos c2]; exact ⟨rfl,by simp [goOn],ok.take t⟩
   rw [if_neg c2]
   by_cases c3 : i.op = 23
   ·rw [if_pos c3]
    split
    ·exact ⟨rfl,by simp [goOn],ok.free _⟩
    ·exact ⟨rfl,rfl,ok⟩
   rw [if_neg c3]
   cases addrM s.ns i.a (c.at i.s) with
   | none => exact ⟨rfl,rfl,ok⟩
   | some a =>
    simp only
    split
    ·exact ⟨rfl,by simp,ok⟩
    ·exact ⟨rfl,by simp [goOn],ok⟩
end Ex
end Go.Proofs.Ytongllppbifiaaa
namespace Go.Proofs.Ytongllppbifiaaa
namespace Ex
open Go Abs Code
open Px (natV natV_length natV_get VecV nm u32w i64w PS poolB outG Own New newP pnewG OkP)
attribute [local simp] DN5 HA DN NB begT atHead kd wantedA evP evR evF evL evC evI evBin evUn evEq evSt evRes plain scp scpA scpL rdRow_eq RV rdCells veq veqA veqL isHole Value.cells evalL optI evBounds evFill evFillR evApp newsOf wrCells one1 fitsApp evClr undef onB_bool List.getElem?_concat_length List.getElem?_cons_zero List.getElem?_cons_succ List.getElem?_toArray List.getElem?_nil List.set_cons_zero List.set_cons_succ List.cons_append List.nil_append
set_option linter.unusedVariables false
set_option linter.unusedSimpArgs false
set_option maxRecDepth 100000
end Ex
end Go.Proofs.Ytongllppbifiaaa
namespace Go.Proofs.Ytongllppbifiaaa
open Go.RowKit
inductive Sh where
 | int (k : IntKind)
 | bool
 | str
 | row (e : Sh)
 | unit
 | pair (a b : Sh)
namespace Sh
def size : Sh → Nat
 | int _ | bool | str | row _ => 1
 | unit => 0
 | pair a b => a.size + b.size
def Val : Sh → Type
 | int _ => Int
 | bool => Bool
 | str => ByteArray
 | row e => List e.Val
 | unit => Unit
 | pair a b => a.Val × b.Val
abbrev nth {α : Type} (l : List α) (i : Nat) : Option α := l[i]?
def Reads (w : World) : (s : Sh) → s.Val → List Value → Prop
 | int k,n,cs => cs = [.int k n] ∧ (Lit.int k n).wf = true
 | bool,b,cs => cs = [.bool b]
 | str,s,cs => cs = [.string s] ∧ ByteArray.size s ≤ maxLen
 | row e,l,cs => ∃ a cap,cs = [.slice a (List.length l) cap] ∧ List.length l ≤ cap ∧ cap ≤ maxLen ∧ (a = none → cap = 0) ∧
   (l = [] ∨ ∃ b o,a = some ⟨b,o,none⟩ ∧ ∀ (i : Nat) (x : e.Val),nth (α := e.Val) l i = some x →
    ∃ r,Reads w e x r ∧ r.length = e.size ∧ ∀ (j : Nat) (v : Value),r[j]? = some v → w.cell? ⟨b,o + i * e.size + j,none⟩ = some v)
 | unit,_,cs => cs = []
 | pair a b,(x,y),cs => ∃ c1 c2,cs = c1 ++ c2 ∧ Reads w a x c1 ∧ Reads w b y c2
section
variable {H : Type} {enc : TypeId × Value → H} {P : Program} {w : World} {base : Nat} {spare : Nat → Bool} {held : Bool}
def Arg (w : World) : (s : Sh) → s.Val → Value → Prop
 | int k,n,v => v = .int k n ∧ (Lit.int k n).wf = true
 | bool,b,v => v = .bool b
 | str,s,v => v = .string s ∧ ByteArray.size s ≤ maxLen
 | row e,l,v => Reads w (row e) l [v]
 | unit,_,v => v = .agg #[]
 | pair a b,x,v => ∃ cs : Array Value,v = .agg cs ∧ Reads w (pair a b) x cs.toList
end
end Sh
end Go.Proofs.Ytongllppbifiaaa
namespace Go.Proofs.Ytongllppbifiaaa
open Go Abs Ex
set_option linter.unusedVariables false
set_option linter.unusedSimpArgs false
def flatS : Sh → Bool
 | .int _ | .bool | .str | .unit => true
 | .row _ => false
 | .pair a b => flatS a && flatS b
def fl : (s : Sh) → s.Val → List Value
 | .int k,(n : Int) => [.int k n]
 | .bool,(b : Bool) => [.bool b]
 | .str,(s : ByteArray) => [.string s]
 | .unit,_ => []
 | .row _,_ => []
 | .pair a b,x => fl a x.1 ++ fl b x.2
theorem reads_fl {w : World} : ∀ (s : Sh),flatS s = true → ∀ (x : s.Val) (cs : List Value),Sh.Reads w s x cs → cs = fl s x
 | .int k,_,n,cs,h => h.1
 | .bool,_,b,cs,h => h
 | .str,_,s,cs,h => h.1
 | .unit,_,_,cs,h => h
 | .row _,hf,_,_,_ => by cases hf
 | .pair a b,hf,(x,y),cs,h => by
  simp only [flatS,Bool.and_eq_true] at hf
  obtain ⟨c1,c2,rfl,h1,h2⟩ := h
  rw [reads_fl a hf.1 x c1 h1,reads_fl b hf.2 y c2 h2]
  rfl
theorem fl_size : ∀ (s : Sh),flatS s = true → ∀ (x : s.Val),(fl s x).length = s.size
 | .int k,_,n => rfl
 | .bool,_,b => rfl
 | .str,_,s => rfl
 | .unit,_,_ => rfl
 | .row _,hf,_ => by cases hf
 | .pair a b,hf,x => by
  simp only [flatS,Bool.and_eq_true] at hf
  simp only [fl,List.length_append,fl_size a hf.1,fl_size b hf.2,Sh.size]
theorem fl_plain : ∀ (s : Sh) (x : s.Val),∀ v ∈ fl s x,plain v = true
 | .int k,n,v,hv => by simp [fl] at hv; subst hv; rfl
 | .bool,b,v,hv => by simp [fl] at hv; subst hv; rfl
 | .str,s,v,hv => by simp [fl] at hv; subst hv; rfl
 | .unit,_,v,hv => by cases hv
 | .row _,_,v,hv => by cases hv
 | .pair a b,x,v,hv => by
  simp only [fl] at hv
  rcases List.mem_append.1 hv with hv | hv
  ·exact fl_plain a x.1 v hv
  ·exact fl_plain b x.2 v hv
def flRow (e : Sh) (l : List e.Val) : List Value := l.flatMap (fl e)
theorem flRow_plain (e : Sh) (l : List e.Val) : ∀ v ∈ flRow e l,plain v = true := by
 intro v hv
 obtain ⟨x,_,hx⟩ := List.mem_flatMap.1 hv
 exact fl_plain e x v hx
theorem flRow_cell {e : Sh} (hf : flatS e = true) : ∀ (l : List e.Val) (i : Nat) (v : Value),(flRow e l)[i]? = some v → ∃ (k : Nat) (x : e.Val) (j : Nat),l[k]? = some x ∧ i = k * e.size + j ∧ (fl e x)[j]? = some v := by
 intro l
 induction l with
 | nil => intro i v hv; simp [flRow] at hv
 | cons y l ih =>
  intro i v hv
  have hs := fl_size e hf y
  have hv : (fl e y ++ flRow e l)[i]? = some v := hv
  by_cases hi : i < e.size
  ·rw [List.getElem?_append_left (by omega)] at hv
   exact ⟨0,y,i,rfl,by omega,hv⟩
  ·rw [List.getElem?_append_right (by omega),hs] at hv
   obtain ⟨k,x,j,h1,h2,h3⟩ := ih _ _ hv
   exact ⟨k + 1,x,j,h1,by rw [Nat.add_mul]; omega,h3⟩
structure RowIn (w : World) (R : List Value) (n : Nat) (v : Value) (cb : CB) (F : Nat → Value) : Prop where
 val : ∀ (ρ : Ren) (j : Nat),ρ j = cb → v = conc ρ (F j)
 scp : ∀ (L : Nat → Bool) (j : Nat),L j = true → Abs.scp L (F j) = true
 cell : ∀ (i : Nat) u,R[i]? = some u → w.cell? ⟨cb.blk,cb.off + i,none⟩ = some u
 arg : ∀ (H : AH) (j : Nat),H[j]? = some (.row R) → ArgRow H (F j) R n
theorem row_in {w : World} {e : Sh} (hf : flatS e = true) {l : List e.Val} {v : Value} (h : Sh.Reads w (.row e) l [v]) : (∃ cb F,RowIn w (flRow e l) l.length v cb F) ∧ ∀ x ∈ l,∃ r,Sh.Reads w e x r := by
 obtain ⟨a,cap,hv,hl,hc,hn,hr⟩ := h
 simp only [List.cons.injEq,and_true] at hv
 subst hv
 have hcap : cap < OPEN := Nat.lt_of_le_of_lt hc (by unfold OPEN; decide)
 rcases hr with hr | ⟨b,o,rfl,hr⟩
 ·have hl0 : l = [] := hr
  subst hl0
  refine ⟨?_,by simp⟩
  cases a with
  | none =>
   obtain rfl := hn rfl
   exact ⟨⟨0,0,0,[]⟩,fun _ => .slice none 0 0,fun ρ j _ => by simp [conc],fun L j _ => rfl,fun i u hu => by simp [flRow] at hu,fun H j _ => .none rfl rfl (.inl rfl)⟩
  | some ad =>
   obtain ⟨b,o,sp⟩ := ad
   cases sp with
   | none => exact ⟨⟨b,o,0,[]⟩,fun j => .slice (some ⟨j,0,none⟩) 0 cap,fun ρ j hj => by simp [conc,cAddr,cCap,hcap,hj],fun L j hj => by simpa [Abs.scp] using hj,fun i u hu => by simp [flRow] at hu,fun H j hj => .row j cap _ rfl hj rfl⟩
   | some d =>
    have k1 : (2 * d + 1) % 2 = 1 := by omega
    have k2 : (2 * d + 1) / 2 = d := by omega
    exact ⟨⟨b,o,0,[]⟩,fun j => .slice (some ⟨j,0,some (2 * d + 1)⟩) 0 cap,fun ρ j hj => by simp [conc,cAddr,cCap,hcap,hj,k1,k2],fun L j hj => by simpa [Abs.scp] using hj,fun i u hu => by simp [flRow] at hu,fun H j hj => .none rfl rfl (.inr ⟨_,_,_,rfl⟩)⟩
 ·refine ⟨⟨⟨b,o,0,[]⟩,fun j => .slice (some ⟨j,0,none⟩) l.length cap,fun ρ j hj => by simp [conc,cAddr,cCap,hcap,hj],fun L j hj => by simpa [Abs.scp] using hj,fun i u hu => ?_,fun H j hj => .row j cap _ rfl hj rfl⟩,fun x hx => ?_⟩
  ·obtain ⟨k,x,j,h1,rfl,h3⟩ := flRow_cell hf l i u hu
   obtain ⟨r,hr1,hr2,hr3⟩ := hr k x h1
   rw [reads_fl e hf x r hr1] at hr3
   have := hr3 j u h3
   simpa [Nat.add_assoc] using this
  ·obtain ⟨k,hk,he⟩ := List.mem_iff_getElem.1 hx
   obtain ⟨r,hr1,_,_⟩ := hr k x (by show l[k]? = _; rw [List.getElem?_eq_getElem hk,he])
   exact ⟨r,hr1⟩
theorem rows_rel {w : World} {ρ : Ren} {Rs : List (List Value)} (h : ∀ (j : Nat) R,Rs[j]? = some R → (∀ v ∈ R,plain v = true) ∧ ∀ (i : Nat) u,R[i]? = some u → w.cell? ⟨(ρ j).blk,(ρ j).off + i,none⟩ = some u) : Rel ρ (Rs.map ABlk.row) w := by
 have get : ∀ (b : Nat) k,(Rs.map ABlk.row)[b]? = some k → ∃ R,Rs[b]? = some R ∧ k = .row R := by
  intro b k hb
  rw [List.getElem?_map] at hb
  cases hR : Rs[b]? with
  | none => rw [hR] at hb; cases hb
  | some R => rw [hR] at hb; injection hb with hb; exact ⟨R,rfl,hb.symm⟩
 refine ⟨fun b k hb => ?_,fun b k hb => ?_,fun b c k k' hb hc hne x hx => ?_⟩
 ·obtain ⟨R,hR,rfl⟩ := get b k hb
  intro i v hv
  rw [(h b R hR).2 i v hv,conc_zero _ _ ((h b R hR).1 v (List.mem_of_getElem? hv))]
 ·obtain ⟨R,hR,rfl⟩ := get b k hb
  exact fun v hv => scp_mono (fun b hb => by cases hb) v ((h b R hR).1 v hv)
 ·obtain ⟨R,_,rfl⟩ := get b k hb
  cases hx
theorem wf_u32 {n : Int} (h : (Lit.int .u32 n).wf = true) : 0 ≤ n ∧ n < 4294967296 := by
 simp [Lit.wf] at h
 first | exact h | (simp [IntKind.min,IntKind.max,IntKind.bits,IntKind.signed] at h; omega) | (revert h; unfold IntKind.min IntKind.max; simp; omega)
theorem row_int (l : List Int) : flRow (.int .i64) l = intV l := by
 induction l with
 | nil => rfl
 | cons a l ih => show [Value.int .i64 a] ++ flRow (.int .i64) l = _; rw [ih]; rfl
theorem row_u32 {w : World} {l : List Int} (h : ∀ x ∈ l,∃ r,Sh.Reads w (.int .u32) x r) : flRow (.int .u32) l = w32 (l.map Int.toNat) ∧ ∀ x ∈ l.map Int.toNat,x < 4294967296 := by
 induction l with
 | nil => exact ⟨rfl,by simp⟩
 | cons a l ih =>
  obtain ⟨h1,h2⟩ := ih fun x hx => h x (List.mem_cons_of_mem _ hx)
  obtain ⟨r,hr⟩ := h a List.mem_cons_self
  have hw := wf_u32 hr.2
  have e : ((a.toNat : Nat) : Int) = a := Int.toNat_of_nonneg hw.1
  refine ⟨?_, ?_⟩
  ·show [Value.int .u32 a] ++ flRow (.int .u32) l = _
   rw [h1]
   simp [w32,e]
  ·intro x hx
   simp only [List.map_cons,List.mem_cons] at hx
   rcases hx with rfl | hx
   ·omega
   ·exact h2 x hx
end Go.Proofs.Ytongllppbifiaaa
