import Derived.Test.YtongllppbifiaaaW41
import Derived.Test.YtongllppbifiaaaW42
import Derived.Test.YtongllppbifiaaaW53
namespace Go.Proofs.Ytongllppbifiaaa
open Go.RowKit
namespace Blk
variable {w : World} {b : Nat} {t : TypeId} {l : List Value}
end Blk
namespace Mod
variable {S T : List Nat} {w w1 w2 : World}
theorem below (h : Mod S w w1) (hs : ∀ k,k ∈ S → w.heap.size ≤ k) : Below w.heap.size w w1 :=
 ⟨h.os,h.tape,h.output,h.size,fun k hk => h.block k hk (fun e => by have := hs k e; omega)⟩
end Mod
end Go.Proofs.Ytongllppbifiaaa
namespace Go.Proofs.Ytongllppbifiaaa
open Go.RowKit
namespace Sh
def fits (P : Program) : Sh → TypeId ⊕ (List Field × Nat) → Bool
 | int k,.inl t => match P.underlying t with | some (.int k') => k == k' | _ => false
 | bool,.inl t => match P.underlying t with | some .bool => true | _ => false
 | str,.inl t => match P.underlying t with | some .string => true | _ => false
 | row e,.inl t => match P.underlying t with | some (.slice te) => P.cellsOf te == e.size && Nat.blt 0 e.size && fits P e (.inl te) | _ => false
 | unit,.inr (fs,_) => fs.isEmpty
 | pair a b,.inr (f :: fs,off) => f.offset == off && P.cellsOf f.type == a.size && fits P a (.inl f.type) && fits P b (.inr (fs,off + a.size))
 | pair a b,.inl t => match P.underlying t with
  | some (.struct fs) => P.cellsOf t == a.size + b.size && (match fs.toList with
   | f :: fs => f.offset == 0 && P.cellsOf f.type == a.size && fits P a (.inl f.type) && fits P b (.inr (fs,a.size))
   | [] => false)
  | _ => false
 | _,_ => false
section
variable {H : Type} {enc : TypeId × Value → H} {P : Program} {w : World} {base : Nat} {spare : Nat → Bool} {held : Bool}
theorem addr_add_add (a : Addr) (i j : Nat) : (a.add i).add j = a.add (i + j) := by
 unfold Addr.add
 by_cases hi : i = 0 <;> by_cases hj : j = 0 <;> simp [hi,hj,Nat.add_assoc]
def Goal (enc : TypeId × Value → H) (P : Program) (w : World) (base : Nat) (spare : Nat → Bool) (held : Bool) (s : Sh) : TypeId ⊕ (List Field × Nat) → Prop
 | .inl t => ∀ fuel cs x,DataW.trod enc P w base spare held fuel t cs = some x → ∃ v : s.Val,Reads w s v cs ∧ cs.length = s.size
 | .inr (fs,off) => ∀ n (full : List Value),full.length = off + s.size →
   (∀ f,f ∈ fs → ∃ x,DataW.trod enc P w base spare held n f.type ((full.drop f.offset).take (P.cellsOf f.type)) = some x) → ∃ v : s.Val,Reads w s v (full.drop off)
theorem goal_pair {a b : Sh} {f : Field} {fs : List Field} {off : Nat} (ho : f.offset = off) (hs : P.cellsOf f.type = a.size)
  (ha : Goal enc P w base spare held a (.inl f.type)) (hb : Goal enc P w base spare held b (.inr (fs,off + a.size))) :
  Goal enc P w base spare held (.pair a b) (.inr (f :: fs,off)) := by
 intro n full hl hf
 obtain ⟨x,hx⟩ := hf f (List.mem_cons_self ..)
 obtain ⟨v,hv,hvl⟩ := ha n _ x hx
 obtain ⟨u,hu⟩ := hb n full (by simp only [Sh.size] at hl; omega) (fun g hg => hf g (List.mem_cons_of_mem _ hg))
 refine ⟨(v,u),_,_, ?_,hv,hu⟩
 rw [ho,hs,← List.drop_drop,List.take_append_drop]
theorem reads_of_trod : (s : Sh) → (q : TypeId ⊕ (List Field × Nat)) → fits P s q = true → Goal enc P w base spare held s q := by
 intro s
 induction s with
 | int k =>
  intro q hf
  cases q with
  | inr q => simp [fits] at hf
  | inl t =>
   simp only [fits] at hf
   split at hf
   ·rename_i k' ht
    obtain rfl : k = k' := by simpa using hf
    intro fuel cs x hx
    obtain ⟨n,rfl,_,hw⟩ := DataW.trod_int ht hx
    exact ⟨n,⟨rfl,hw⟩,rfl⟩
   ·cases hf
 | bool =>
  intro q hf
  cases q with
  | inr q => simp [fits] at hf
  | inl t =>
   simp only [fits] at hf
   split at hf
   ·rename_i ht
    intro fuel cs x hx
    obtain ⟨n,rfl,_⟩ := DataW.trod_bool ht hx
    exact ⟨n,rfl,rfl⟩
   ·cases hf
 | str =>
  intro q hf
  cases q with
  | inr q => simp [fits] at hf
  | inl t =>
   simp only [fits] at hf
   split at hf
   ·rename_i ht
    intro fuel cs x hx
    obtain ⟨n,rfl,_,hw⟩ := DataW.trod_string ht hx
    exact ⟨n,⟨rfl,hw⟩,rfl⟩
   ·cases hf
 | unit =>
  intro q hf
  cases q with
  | inl q => simp [fits] at hf
  | inr q =>
   obtain ⟨fs,off⟩ := q
   intro n full hl _
   refine ⟨(), ?_⟩
   simp only [Sh.size] at hl
   simp only [Reads]
   exact List.drop_eq_nil_of_le (by omega)
 | row e ih =>
  intro q hf
  cases q with
  | inr q => simp [fits] at hf
  | inl t =>
   simp only [fits] at hf
   split at hf
   ·rename_i te ht
    simp only [Bool.and_eq_true,beq_iff_eq,Nat.blt_eq] at hf
    obtain ⟨⟨hs,hp⟩,hfe⟩ := hf
    have ih := ih (.inl te) hfe
    intro fuel cs x hx
    rcases DataW.trod_slice ht hx with ⟨rfl,_⟩ | ⟨a,len,cap,elems,rest,n,_,rfl,_,hb,hl,hm,hlen,hel,_,_⟩
    ·exact ⟨([] : List e.Val),⟨none,0,rfl,by simp,by simp,fun _ => rfl,.inl rfl⟩,rfl⟩
    ·have each : ∀ i,i < len → ∃ (x : e.Val),∃ r,Reads w e x r ∧ r.length = e.size ∧ ∀ (j : Nat) (v : Value),r[j]? = some v → w.cell? (a.add (i * e.size + j)) = some v := by
      intro i hi
      have h1 := hel i hi
      rw [show elems[i]? = some elems[i] from by simp] at h1
      obtain ⟨r,hr,hr2⟩ := Option.bind_eq_some_iff.1 h1
      obtain ⟨v,hv,hvl⟩ := ih n r _ hr2
      refine ⟨v,r,hv,hvl,fun j u hu => ?_⟩
      obtain ⟨_,hcl,hc⟩ := World.cells?_some hr
      have hj : j < P.cellsOf te := by have := (List.getElem?_eq_some_iff.1 hu).1; omega
      have h2 := hc j hj
      rw [hu,hs,addr_add_add] at h2
      exact h2
     obtain ⟨f,hf⟩ : ∃ f : Fin len → e.Val,∀ i : Fin len,∃ r,Reads w e (f i) r ∧ r.length = e.size ∧ ∀ (j : Nat) (v : Value),r[j]? = some v → w.cell? (a.add (i.1 * e.size + j)) = some v :=
      Classical.axiomOfChoice (fun i : Fin len => each i.1 i.2)
     refine ⟨(List.ofFn f : List e.Val),⟨some a,cap,by simp,by simpa using hl,hm,(fun h => by cases h), ?_⟩,rfl⟩
     by_cases h0 : len = 0
     ·left
      subst h0
      show List.ofFn f = []
      simp
     ·right
      obtain ⟨r,_,hrl,hc⟩ := hf ⟨0,by omega⟩
      have h1 := hc 0 (r[0]'(by omega)) (by simp)
      have hsp : a.spot = none := by
       have h2 := World.cell?_spot h1
       simpa [Addr.add] using h2
      obtain ⟨b,o,sp⟩ := a
      simp only at hsp
      subst hsp
      refine ⟨b,o,rfl,fun i x hx => ?_⟩
      simp only [nth,List.getElem?_ofFn] at hx
      split at hx
      ·rename_i hi
       cases hx
       obtain ⟨r,hr,hrl,hc⟩ := hf ⟨i,hi⟩
       exact ⟨r,hr,hrl,fun j v hv => by have := hc j v hv; rw [Go.WideShapes.add_plain] at this; rw [Nat.add_assoc]; exact this⟩
      ·cases hx
   ·cases hf
 | pair a b iha ihb =>
  intro q hf
  cases q with
  | inr q =>
   obtain ⟨fs,off⟩ := q
   cases fs with
   | nil => simp [fits] at hf
   | cons f fs =>
    simp only [fits,Bool.and_eq_true,beq_iff_eq] at hf
    obtain ⟨⟨⟨h1,h2⟩,h3⟩,h4⟩ := hf
    exact goal_pair h1 h2 (iha _ h3) (ihb _ h4)
  | inl t =>
   simp only [fits] at hf
   split at hf
   ·rename_i fs ht
    simp only [Bool.and_eq_true,beq_iff_eq] at hf
    obtain ⟨hsz,hf⟩ := hf
    split at hf
    ·rename_i f rest hfs
     simp only [Bool.and_eq_true,beq_iff_eq] at hf
     obtain ⟨⟨⟨h1,h2⟩,h3⟩,h4⟩ := hf
     have hg := goal_pair (enc := enc) (w := w) (base := base) (spare := spare) (held := held) h1 h2 (iha _ h3) (by rw [Nat.zero_add]; exact ihb _ h4)
     intro fuel cs x hx
     obtain ⟨xs,n,_,_,hcl,hxs,hall⟩ := DataW.trod_struct ht hx
     obtain ⟨v,hv⟩ := hg n cs (by rw [hcl,hsz]; simp [Sh.size]) (by
      intro g hgm
      rw [← hfs] at hgm
      obtain ⟨i,hi,he⟩ := List.getElem_of_mem hgm
      have := hall i g (by rw [← Array.getElem?_toList]; simp [← he])
      rw [this]
      exact ⟨xs[i]'(by rw [hxs]; simpa using hi),by simp⟩)
     exact ⟨v,by simpa using hv,by rw [hcl,hsz]; rfl⟩
    ·cases hf
   ·cases hf
theorem cells_one {v c : Value} (h : v.cells.toList = [c]) (hv : ∀ cs,v ≠ .agg cs) : v = c := by
 cases v <;> simp_all [Value.cells]
theorem arg_of {s : Sh} {t : TypeId} (hf : fits P s (.inl t) = true) {v : Value} {d : DataW H} {ps : List MemPlace} {r : Reach} {b0 : Nat} (hok : Value.okWide P w r b0 t v)
  (h : DataW.Trod enc P w base spare held t v d ps) : ∃ x : s.Val,Arg w s x v := by
 obtain ⟨fuel,hx⟩ := h
 obtain ⟨x,hr,_⟩ := reads_of_trod (enc := enc) (w := w) (base := base) (spare := spare) (held := held) s (.inl t) hf fuel _ _ hx
 refine ⟨x, ?_⟩
 cases s with
 | int k =>
  simp only [fits] at hf
  split at hf
  ·rename_i k' ht
   have hn : ∀ cs,v ≠ .agg cs := by
    simp only [Value.okWide,ht,Cell.okWide] at hok
    cases v <;> simp_all [Cell.ok]
   exact ⟨cells_one hr.1 hn,hr.2⟩
  ·cases hf
 | bool =>
  simp only [fits] at hf
  split at hf
  ·rename_i ht
   have hn : ∀ cs,v ≠ .agg cs := by
    simp only [Value.okWide,ht,Cell.okWide] at hok
    cases v <;> simp_all [Cell.ok]
   exact cells_one hr hn
  ·cases hf
 | str =>
  simp only [fits] at hf
  split at hf
  ·rename_i ht
   have hn : ∀ cs,v ≠ .agg cs := by
    simp only [Value.okWide,ht,Cell.okWide] at hok
    cases v <;> simp_all [Cell.ok]
   exact ⟨cells_one hr.1 hn,hr.2⟩
  ·cases hf
 | row e =>
  simp only [fits] at hf
  split at hf
  ·rename_i te ht
   have hn : ∀ cs,v ≠ .agg cs := by
    simp only [Value.okWide,ht,Cell.okWide] at hok
    cases v <;> simp_all [Cell.ok]
   have h1 : v.cells.toList = [v] := by
    cases v <;> simp_all [Value.cells]
   show Reads w (row e) x [v]
   rw [← h1]
   exact hr
  ·cases hf
 | unit => simp [fits] at hf
 | pair a b =>
  simp only [fits] at hf
  split at hf
  ·rename_i fs ht
   simp only [Value.okWide,ht] at hok
   obtain ⟨cs,rfl,_⟩ := hok
   exact ⟨cs,rfl,hr⟩
  ·cases hf
theorem trod_kept {t : TypeId} (hl : laidOutB P = true) (hr : P.readableRec t = true) (hrow : t < P.types.size) {W W' : World} {v : Value} {d : DataW H} {ps : List MemPlace}
  (h : DataW.Trod enc P W 0 (fun _ => true) true t v d ps) (hb : Below W.heap.size W W') :
  DataW.Trod enc P W' 0 (fun b => decide (b < W.heap.size)) true t v d ps :=
 Below.trod hl hr hrow h hb (by obtain ⟨m,hm⟩ := h; exact DataW.trod_lt m _ _ _ hm)
end
end Sh
end Go.Proofs.Ytongllppbifiaaa
namespace Go.Proofs.Ytongllppbifiaaa
open Go Abs Ex
set_option linter.unusedVariables false
set_option linter.unusedSimpArgs false
set_option maxHeartbeats 2000000 in
theorem law_ExecOwn (w : World) (v0 v1 : Value) (x0 : specSh.Val) (x1 : List lopSh.Val) (h0 : Sh.Arg w specSh x0 v0) (h1 : Sh.Arg w (.row lopSh) x1 v1) :
  Calls Try.prog 4 #[v0,v1] w fun e w' => e = .returned (.bool true) ∧ Mod [] w w' := by
 obtain ⟨ρ,a0,a1,H,e0,e1,s0,s1,rel,hrows,sp,ro⟩ := spec_in h0 h1
 refine bridge_rows (own_ (fun i hk n H K h => rright_ i hk n h) sp ro (K := fun v _ => v = .bool true) fun g _ => rfl) rel hrows rfl fun i v hv => ?_
 match i with
 | 0 => injection hv with hv; subst hv; exact ⟨v0,rfl,s0,e0⟩
 | 1 => injection hv with hv; subst hv; exact ⟨v1,rfl,s1,e1⟩
 | n + 2 => simp at hv
end Go.Proofs.Ytongllppbifiaaa
