import Derived.WalkKit
import Derived.Laws.IdiomStrings
import Derived.Deep.Draws
namespace Go.Proofs.Ytongllppbifiaaa
namespace Abs
open Go
set_option linter.unusedVariables false
set_option linter.unusedSimpArgs false
structure CB where
 blk : Nat
 off : Nat
 slack : Nat
 foot : List Nat
def CB.al (c : CB) : Nat × Nat × Nat := (c.blk,c.off,c.slack)
abbrev Ren := Nat → CB
def OPEN : Nat := 18446744073709551616
def cAddr (ρ : Ren) (a : Addr) : Addr := ⟨(ρ a.block).blk,(ρ a.block).off + a.off + (match a.spot with | some d => if d % 2 = 1 then 0 else if (ρ a.block).slack = 0 then 0 else d / 2 | none => 0),(match a.spot with | some d => if d % 2 = 1 then some (d / 2) else none | none => none)⟩
def cCap (ρ : Ren) (b cap : Nat) : Nat := if cap < OPEN then cap else cap - OPEN + (ρ b).slack
mutual
def conc (ρ : Ren) : Value → Value
 | .pointer (some a) => .pointer (some (cAddr ρ a))
 | .slice (some a) len cap => .slice (some (cAddr ρ a)) len (cCap ρ a.block cap)
 | .map (some r) => .map (some (ρ r).blk)
 | .chan (some r) => .chan (some (ρ r).blk)
 | .func fn first captured => .func fn (concA ρ first) (concA ρ captured)
 | .iface t v => .iface t (conc ρ v)
 | .agg cs => .agg (concA ρ cs)
 | .tuple cs => .tuple (concA ρ cs)
 | .pointer none => .pointer none
 | .slice none len cap => .slice none len cap
 | .map none => .map none
 | .chan none => .chan none
 | .bool b => .bool b
 | .int k n => .int k n
 | .float k n => .float k n
 | .complex k a b => .complex k a b
 | .string s => .string s
 | .nilFunc => .nilFunc
 | .nilIface => .nilIface
def concA (ρ : Ren) : Array Value → Array Value
 | ⟨l⟩ => ⟨concL ρ l⟩
def concL (ρ : Ren) : List Value → List Value
 | [] => []
 | v :: l => conc ρ v :: concL ρ l
end
mutual
def scp (L : Nat → Bool) : Value → Bool
 | .pointer (some a) => L a.block
 | .slice (some a) _ _ => L a.block
 | .map (some r) => L r
 | .chan (some r) => L r
 | .func _ first captured => scpA L first && scpA L captured
 | .iface _ v => scp L v
 | .agg cs => scpA L cs
 | .tuple cs => scpA L cs
 | _ => true
def scpA (L : Nat → Bool) : Array Value → Bool
 | ⟨l⟩ => scpL L l
def scpL (L : Nat → Bool) : List Value → Bool
 | [] => true
 | v :: l => scp L v && scpL L l
end
theorem concL_map (ρ : Ren) : ∀ l,concL ρ l = l.map (conc ρ)
 | [] => by simp [concL]
 | v :: l => by simp [concL,concL_map ρ l]
theorem concA_map (ρ : Ren) : ∀ a,concA ρ a = a.map (conc ρ)
 | ⟨l⟩ => by simp [concA,concL_map]
theorem scpL_all (n : Nat → Bool) : ∀ l,scpL n l = l.all (scp n)
 | [] => by simp [scpL]
 | v :: l => by simp [scpL,scpL_all n l]
theorem scpA_all (n : Nat → Bool) : ∀ a : Array Value,scpA n a = a.toList.all (scp n)
 | ⟨l⟩ => by simp [scpA,scpL_all]
mutual
theorem conc_congr {ρ ρ' : Ren} {n : Nat → Bool} (h : ∀ b,n b = true → (ρ' b).al = (ρ b).al) : ∀ v,scp n v = true → conc ρ' v = conc ρ v
 | .pointer (some a),hs => by simp only [scp] at hs; have e := h _ hs; simp only [CB.al,Prod.mk.injEq] at e; simp only [conc,cAddr,e.1,e.2.1,e.2.2]
 | .slice (some a) _ _,hs => by simp only [scp] at hs; have e := h _ hs; simp only [CB.al,Prod.mk.injEq] at e; simp only [conc,cAddr,cCap,e.1,e.2.1,e.2.2]
 | .map (some r),hs => by simp only [scp] at hs; have e := h _ hs; simp only [CB.al,Prod.mk.injEq] at e; simp only [conc,e.1]
 | .chan (some r),hs => by simp only [scp] at hs; have e := h _ hs; simp only [CB.al,Prod.mk.injEq] at e; simp only [conc,e.1]
 | .func fn first captured,hs => by
  simp only [scp,Bool.and_eq_true] at hs
  simp only [conc,concA_congr h first hs.1,concA_congr h captured hs.2]
 | .iface t v,hs => by simp only [scp] at hs; simp only [conc,conc_congr h v hs]
 | .agg cs,hs => by simp only [scp] at hs; simp only [conc,concA_congr h cs hs]
 | .tuple cs,hs => by simp only [scp] at hs; simp only [conc,concA_congr h cs hs]
 | .pointer none,_ => by simp only [conc]
 | .slice none _ _,_ => by simp only [conc]
 | .map none,_ => by simp only [conc]
 | .chan none,_ => by simp only [conc]
 | .bool b,_ => by simp only [conc]
 | .int k n,_ => by simp only [conc]
 | .float k n,_ => by simp only [conc]
 | .complex k a b,_ => by simp only [conc]
 | .string s,_ => by simp only [conc]
 | .nilFunc,_ => by simp only [conc]
 | .nilIface,_ => by simp only [conc]
theorem concA_congr {ρ ρ' : Ren} {n : Nat → Bool} (h : ∀ b,n b = true → (ρ' b).al = (ρ b).al) : ∀ v,scpA n v = true → concA ρ' v = concA ρ v
 | ⟨l⟩,hs => by simp only [scpA] at hs; simp only [concA,concL_congr h l hs]
theorem concL_congr {ρ ρ' : Ren} {n : Nat → Bool} (h : ∀ b,n b = true → (ρ' b).al = (ρ b).al) : ∀ v,scpL n v = true → concL ρ' v = concL ρ v
 | [],_ => by simp only [concL]
 | v :: l,hs => by
  simp only [scpL,Bool.and_eq_true] at hs
  simp only [concL,conc_congr h v hs.1,concL_congr h l hs.2]
end
mutual
theorem scp_mono {n m : Nat → Bool} (h : ∀ b,n b = true → m b = true) : ∀ v,scp n v = true → scp m v = true
 | .pointer (some a),hs => by simp only [scp] at hs ⊢; exact h _ hs
 | .slice (some a) _ _,hs => by simp only [scp] at hs ⊢; exact h _ hs
 | .map (some r),hs => by simp only [scp] at hs ⊢; exact h _ hs
 | .chan (some r),hs => by simp only [scp] at hs ⊢; exact h _ hs
 | .func fn first captured,hs => by
  simp only [scp,Bool.and_eq_true] at hs ⊢
  exact ⟨scpA_mono h first hs.1,scpA_mono h captured hs.2⟩
 | .iface t v,hs => by simp only [scp] at hs ⊢; exact scp_mono h v hs
 | .agg cs,hs => by simp only [scp] at hs ⊢; exact scpA_mono h cs hs
 | .tuple cs,hs => by simp only [scp] at hs ⊢; exact scpA_mono h cs hs
 | .pointer none,_ => by simp only [scp]
 | .slice none _ _,_ => by simp only [scp]
 | .map none,_ => by simp only [scp]
 | .chan none,_ => by simp only [scp]
 | .bool b,_ => by simp only [scp]
 | .int k n,_ => by simp only [scp]
 | .float k n,_ => by simp only [scp]
 | .complex k a b,_ => by simp only [scp]
 | .string s,_ => by simp only [scp]
 | .nilFunc,_ => by simp only [scp]
 | .nilIface,_ => by simp only [scp]
theorem scpA_mono {n m : Nat → Bool} (h : ∀ b,n b = true → m b = true) : ∀ v,scpA n v = true → scpA m v = true
 | ⟨l⟩,hs => by simp only [scpA] at hs ⊢; exact scpL_mono h l hs
theorem scpL_mono {n m : Nat → Bool} (h : ∀ b,n b = true → m b = true) : ∀ v,scpL n v = true → scpL m v = true
 | [],_ => by simp only [scpL]
 | v :: l,hs => by
  simp only [scpL,Bool.and_eq_true] at hs ⊢
  exact ⟨scp_mono h v hs.1,scpL_mono h l hs.2⟩
end
def VR (ρ : Ren) (n : Nat → Bool) (v u : Value) : Prop := scp n v = true ∧ u = conc ρ v
theorem VR.mono {ρ ρ' : Ren} {n m : Nat → Bool} {v u : Value} (h : VR ρ n v u) (hn : ∀ b,n b = true → m b = true) (he : ∀ b,n b = true → (ρ' b).al = (ρ b).al) : VR ρ' m v u :=
 ⟨scp_mono hn v h.1,by rw [conc_congr he v h.1]; exact h.2⟩
theorem conc_oneCell (ρ : Ren) (v : Value) : (conc ρ v).oneCell' = v.oneCell' := by
 cases v with
 | pointer a => cases a <;> rfl
 | slice a _ _ => cases a <;> rfl
 | map a => cases a <;> rfl
 | chan a => cases a <;> rfl
 | _ => rfl
theorem conc_cells (ρ : Ren) (v : Value) : (conc ρ v).cells = v.cells.map (conc ρ) := by
 cases v with
 | pointer a => cases a <;> simp [conc,Value.cells]
 | slice a _ _ => cases a <;> simp [conc,Value.cells]
 | map a => cases a <;> simp [conc,Value.cells]
 | chan a => cases a <;> simp [conc,Value.cells]
 | agg cs => simp [conc,Value.cells,concA_map]
 | _ => simp [conc,Value.cells]
structure ADT where
 S : Type
 rep : S → Nat → List Nat → World → Prop
 lt : ∀ {s p F w},rep s p F w → ∀ x,x ∈ F → x < w.heap.size
 keep : ∀ {s p F w w'},rep s p F w → (∀ x,x ∈ F → w'.heap[x]? = w.heap[x]?) → rep s p F w'
def concEntry (ρ : Ren) (e : MapEntry) : MapEntry := ⟨conc ρ e.key,conc ρ e.val,e.born⟩
inductive ABlk : Type 1 where
 | cells (vs : List Value) (e : TypeId) (opn : Option Nat)
 | row (vs : List Value)
 | map (es : List MapEntry) (clock : Nat)
 | iter (s : ByteArray) (pos : Nat)
 | adt (D : ADT) (s : D.S)
 | dead
 | hole
 | glob (g : Nat) (vs : List Value)
abbrev AH := List ABlk
def ABlk.foot (cb : CB) : ABlk → List Nat
 | .cells .. | .map .. | .iter .. => [cb.blk]
 | .adt .. => cb.foot
 | .row _ | .dead | .hole | .glob .. => []
def ABlk.reach (cb : CB) : ABlk → List Nat
 | .cells .. | .map .. | .iter .. => [cb.blk]
 | .adt .. => cb.foot
 | .row [] => []
 | .row _ => [cb.blk]
 | .glob _ [] => []
 | .glob _ _ => [cb.blk]
 | .dead | .hole => []
def ABlk.scp (n : Nat → Bool) : ABlk → Prop
 | .cells vs _ _ | .row vs | .glob _ vs => ∀ v,v ∈ vs → Abs.scp n v = true
 | .map es _ => ∀ e,e ∈ es → Abs.scp n e.key = true ∧ Abs.scp n e.val = true
 | _ => True
def Holds (ρ : Ren) (cb : CB) (w : World) : ABlk → Prop
 | .cells vs e opn => ∃ pre ex,w.heap[cb.blk]? = some (.cells (pre ++ vs.map (conc ρ) ++ ex).toArray e (0,0)) ∧ pre.length = cb.off ∧ ex.length = cb.slack * opn.getD 0 ∧ (opn = none → cb.slack = 0 ∧ cb.off = 0)
 | .row vs => ∀ (i : Nat) v,vs[i]? = some v → w.cell? ⟨cb.blk,cb.off + i,none⟩ = some (conc ρ v)
 | .map es clock => w.heap[cb.blk]? = some (.map (es.map (concEntry ρ)).toArray clock)
 | .iter s pos => cb.off = 0 ∧ w.heap[cb.blk]? = some (.stringIter s pos)
 | .glob g vs => cb.blk = g ∧ cb.off = 0 ∧ ∀ (i : Nat) v,vs[i]? = some v → w.cell? ⟨cb.blk,cb.off + i,none⟩ = some (conc ρ v)
 | .adt D s => cb.off = 0 ∧ cb.slack = 0 ∧ D.rep s cb.blk cb.foot w
 | .dead | .hole => True
theorem cell_block {w w' : World} {a : Addr} (h : w'.heap[a.block]? = w.heap[a.block]?) : w'.cell? a = w.cell? a := by
 unfold World.cell?
 rw [h]
theorem Holds.keep {ρ : Ren} {cb : CB} {w w' : World} {k : ABlk} (h : Holds ρ cb w k) (hk : ∀ x,x ∈ k.reach cb → w'.heap[x]? = w.heap[x]?) : Holds ρ cb w' k := by
 cases k with
 | cells vs e opn =>
  obtain ⟨pre,ex,h1,h2⟩ := h
  exact ⟨pre,ex,by rw [hk _ (by simp [ABlk.reach])]; exact h1,h2⟩
 | row vs =>
  intro i v hv
  rw [← h i v hv]
  refine cell_block (hk _ ?_)
  cases vs with
  | nil => simp at hv
  | cons => simp [ABlk.reach]
 | map es clock => show _ = _; rw [hk _ (by simp [ABlk.reach])]; exact h
 | iter s pos => exact ⟨h.1,by rw [hk _ (by simp [ABlk.reach])]; exact h.2⟩
 | glob g vs =>
  refine ⟨h.1,h.2.1, ?_⟩
  intro i v hv
  rw [← h.2.2 i v hv]
  refine cell_block (hk _ ?_)
  cases vs with
  | nil => simp at hv
  | cons => simp [ABlk.reach]
 | adt D s => exact ⟨h.1,h.2.1,D.keep h.2.2 (fun x hx => hk x hx)⟩
 | dead => trivial
 | hole => trivial
theorem foot_reach {cb : CB} {k : ABlk} {x : Nat} (h : x ∈ k.foot cb) : x ∈ k.reach cb := by
 cases k <;> first | exact h | cases h
theorem Holds.lt {ρ : Ren} {cb : CB} {w : World} {k : ABlk} (h : Holds ρ cb w k) : ∀ x,x ∈ k.reach cb → x < w.heap.size := by
 intro x hx
 have lt : ∀ {b : Nat} {o : Obj},w.heap[b]? = some o → b < w.heap.size := fun h => (Array.getElem?_eq_some_iff.1 h).1
 cases k with
 | cells vs e opn =>
  obtain ⟨pre,ex,h1,h2⟩ := h
  simp only [ABlk.reach,List.mem_singleton] at hx
  subst hx
  exact lt h1
 | row vs =>
  cases vs with
  | nil => cases hx
  | cons v vs =>
   simp only [ABlk.reach,List.mem_singleton] at hx
   subst hx
   have := h 0 v rfl
   unfold World.cell? at this
   split at this
   ·rename_i h1; exact lt h1
   ·cases this
 | map es clock => simp only [ABlk.reach,List.mem_singleton] at hx; subst hx; exact lt h
 | iter s pos => simp only [ABlk.reach,List.mem_singleton] at hx; subst hx; exact lt h.2
 | glob g vs =>
  cases vs with
  | nil => cases hx
  | cons v vs =>
   simp only [ABlk.reach,List.mem_singleton] at hx
   subst hx
   have := h.2.2 0 v rfl
   unfold World.cell? at this
   split at this
   ·rename_i h1; exact lt h1
   ·cases this
 | adt D s => exact D.lt h.2.2 x hx
 | dead => cases hx
 | hole => cases hx
theorem Holds.congr {ρ ρ' : Ren} {cb : CB} {w : World} {k : ABlk} {n : Nat → Bool} (h : Holds ρ cb w k) (hs : k.scp n) (he : ∀ b,n b = true → (ρ' b).al = (ρ b).al) : Holds ρ' cb w k := by
 cases k with
 | cells vs e opn =>
  obtain ⟨pre,ex,h1,h2⟩ := h
  refine ⟨pre,ex, ?_,h2⟩
  rw [h1]
  have : vs.map (conc ρ') = vs.map (conc ρ) := List.map_congr_left fun v hv => conc_congr he v (hs v hv)
  rw [this]
 | row vs =>
  intro i v hv
  rw [h i v hv,conc_congr he v (hs v (List.mem_of_getElem? hv))]
 | map es clock =>
  show _ = _
  rw [h]
  have : es.map (concEntry ρ') = es.map (concEntry ρ) := List.map_congr_left fun e he' => by
   unfold concEntry
   rw [conc_congr he _ (hs e he').1,conc_congr he _ (hs e he').2]
  rw [this]
 | iter s pos => exact h
 | glob g vs =>
  refine ⟨h.1,h.2.1, ?_⟩
  intro i v hv
  rw [h.2.2 i v hv,conc_congr he v (hs v (List.mem_of_getElem? hv))]
 | adt D s => exact h
 | dead => trivial
 | hole => trivial
theorem ABlk.scp_mono {n m : Nat → Bool} (h : ∀ b,n b = true → m b = true) {k : ABlk} (hs : k.scp n) : k.scp m := by
 cases k with
 | cells vs e opn => exact fun v hv => Abs.scp_mono h v (hs v hv)
 | row vs => exact fun v hv => Abs.scp_mono h v (hs v hv)
 | glob g vs => exact fun v hv => Abs.scp_mono h v (hs v hv)
 | map es clock => exact fun e he => ⟨Abs.scp_mono h _ (hs e he).1,Abs.scp_mono h _ (hs e he).2⟩
 | _ => trivial
def live (h : AH) (b : Nat) : Bool := match h[b]? with
 | none | some .hole => false
 | _ => true
theorem live_lt {h : AH} {b : Nat} (hl : live h b = true) : b < h.length := by
 unfold live at hl
 cases hb : h[b]? with
 | none => rw [hb] at hl; cases hl
 | some k => exact (List.getElem?_eq_some_iff.1 hb).1
theorem live_of {h : AH} {b : Nat} {k : ABlk} (hb : h[b]? = some k) (hk : k ≠ .hole) : live h b = true := by
 unfold live
 rw [hb]
 cases k <;> first | rfl | exact absurd rfl hk
theorem live_set {h : AH} {b : Nat} {k : ABlk} (hk : k ≠ .hole) (c : Nat) (hl : live h c = true) : live (h.set b k) c = true := by
 by_cases e : b = c
 ·subst e
  exact live_of (List.getElem?_set_self (live_lt hl)) hk
 ·unfold live at *
  rw [List.getElem?_set_ne e]
  exact hl
theorem live_set_iff {h : AH} {b : Nat} {k k0 : ABlk} (hb : h[b]? = some k0) (hk0 : k0 ≠ .hole) (hk : k ≠ .hole) (c : Nat) : live (h.set b k) c = live h c := by
 by_cases e : b = c
 ·subst e
  rw [live_of (List.getElem?_set_self (List.getElem?_eq_some_iff.1 hb).1) hk,live_of hb hk0]
 ·unfold live
  rw [List.getElem?_set_ne e]
theorem live_push {h : AH} {l : AH} (c : Nat) (hl : live h c = true) : live (h ++ l) c = true := by
 have := live_lt hl
 unfold live at *
 rw [List.getElem?_append_left this]
 exact hl
structure Rel (ρ : Ren) (h : AH) (w : World) : Prop where
 holds : ∀ (b : Nat) (k : ABlk),h[b]? = some k → Holds ρ (ρ b) w k
 scope : ∀ (b : Nat) (k : ABlk),h[b]? = some k → k.scp (live h)
 apart : ∀ (b c : Nat) (k l : ABlk),h[b]? = some k → h[c]? = some l → b ≠ c → ∀ x,x ∈ k.foot (ρ b) → x ∉ l.reach (ρ c)
def upd (ρ : Ren) (n : Nat) (cb : CB) : Ren := fun b => if b = n then cb else ρ b
theorem upd_ne {ρ : Ren} {n : Nat} {cb : CB} (b : Nat) (h : b ≠ n) : upd ρ n cb b = ρ b := by simp [upd,h]
theorem upd_al {ρ : Ren} {n : Nat} {cb : CB} (b : Nat) (h : b ≠ n) : (upd ρ n cb b).al = (ρ b).al := by rw [upd_ne b h]
theorem upd_self (ρ : Ren) (n : Nat) (cb : CB) : upd ρ n cb n = cb := by simp [upd]
theorem Rel.reach_lt {ρ : Ren} {h : AH} {w : World} (r : Rel ρ h w) {b : Nat} {k : ABlk} (hb : h[b]? = some k) : ∀ x,x ∈ k.reach (ρ b) → x < w.heap.size := (r.holds b k hb).lt
theorem Rel.heap {ρ : Ren} {h : AH} {w w' : World} (r : Rel ρ h w) (hw : w'.heap = w.heap) : Rel ρ h w' :=
 ⟨fun b k hb => (r.holds b k hb).keep (fun x _ => by rw [hw]),r.scope,r.apart⟩
theorem get_set {h : AH} {b : Nat} {k : ABlk} {c : Nat} {l : ABlk} (hc : (h.set b k)[c]? = some l) : (c = b ∧ l = k) ∨ (c ≠ b ∧ h[c]? = some l) := by
 by_cases e : c = b
 ·subst e
  have := (List.getElem?_eq_some_iff.1 hc).1
  rw [List.getElem?_set_self (by simpa using this)] at hc
  exact .inl ⟨rfl,by injection hc with hc; exact hc.symm⟩
 ·rw [List.getElem?_set_ne (fun h => e h.symm)] at hc
  exact .inr ⟨e,hc⟩
theorem Rel.upd {ρ : Ren} {h : AH} {w w' : World} (r : Rel ρ h w) {b : Nat} {k k' : ABlk} (hb : h[b]? = some k) (hk' : k' ≠ .hole) (hf : ∀ x,x ∈ k'.foot (ρ b) → x ∈ k.foot (ρ b)) (hr : ∀ x,x ∈ k'.reach (ρ b) → x ∈ k.reach (ρ b)) (hs : k'.scp (live h))
  (hh : Holds ρ (ρ b) w' k') (hw : ∀ x,x ∉ k.foot (ρ b) → x < w.heap.size → w'.heap[x]? = w.heap[x]?) : Rel ρ (h.set b k') w' := by
 refine ⟨fun c l hc => ?_,fun c l hc => ?_,fun c d l o hc hd hne x hx => ?_⟩
 ·rcases get_set hc with ⟨rfl,rfl⟩ | ⟨e,hc⟩
  ·exact hh
  ·exact (r.holds c l hc).keep (fun x hx => hw x (fun hx' => r.apart b c k l hb hc (fun h => e h.symm) x hx' hx) (r.reach_lt hc x hx))
 ·refine ABlk.scp_mono (live_set hk') ?_
  rcases get_set hc with ⟨rfl,rfl⟩ | ⟨e,hc⟩
  ·exact hs
  ·exact r.scope c l hc
 ·rcases get_set hc with ⟨rfl,rfl⟩ | ⟨e,hc2⟩
  ·rcases get_set hd with ⟨rfl, rfl⟩ | ⟨e', hd2⟩
   ·exact absurd rfl hne
   ·exact r.apart c d k o hb hd2 hne x (hf x hx)
  ·rcases get_set hd with ⟨rfl, rfl⟩ | ⟨e', hd2⟩
   ·exact fun hx' => r.apart c d l k hc2 hb hne x hx (hr x hx')
   ·exact r.apart c d l o hc2 hd2 hne x hx
theorem Rel.kill {ρ : Ren} {h : AH} {w : World} (r : Rel ρ h w) (b : Nat) : Rel ρ (h.set b .dead) w := by
 refine ⟨fun c l hc => ?_,fun c l hc => ?_,fun c d l o hc hd hne x hx => ?_⟩
 ·rcases get_set hc with ⟨rfl,rfl⟩ | ⟨_,hc⟩
  ·trivial
  ·exact r.holds c l hc
 ·refine ABlk.scp_mono (live_set (by intro h; cases h)) ?_
  rcases get_set hc with ⟨rfl,rfl⟩ | ⟨_,hc⟩
  ·trivial
  ·exact r.scope c l hc
 ·rcases get_set hc with ⟨rfl,rfl⟩ | ⟨_,hc⟩
  ·cases hx
  ·rcases get_set hd with ⟨rfl,rfl⟩ | ⟨_,hd⟩
   ·intro h; cases h
   ·exact r.apart c d l o hc hd hne x hx
theorem Rel.fill {ρ : Ren} {h : AH} {w w' : World} (r : Rel ρ h w) {n : Nat} {k : ABlk} {cb : CB} (hn : h[n]? = some .hole) (hk : k ≠ .hole) (hs : k.scp (live (h.set n k))) (hh : Holds (Abs.upd ρ n cb) cb w' k)
  (hw : ∀ (b : Nat) (l : ABlk),h[b]? = some l → ∀ x,x ∈ l.reach (ρ b) → w'.heap[x]? = w.heap[x]?)
  (h1 : ∀ (b : Nat) (l : ABlk),h[b]? = some l → ∀ x,x ∈ l.foot (ρ b) → x ∉ k.reach cb) (h2 : ∀ (b : Nat) (l : ABlk),h[b]? = some l → ∀ x,x ∈ l.reach (ρ b) → x ∉ k.foot cb) : Rel (Abs.upd ρ n cb) (h.set n k) w' := by
 have hnl : ∀ b,live h b = true → b ≠ n := by
  rintro b hb rfl
  unfold live at hb
  rw [hn] at hb
  cases hb
 refine ⟨fun c l hc => ?_,fun c l hc => ?_,fun c d l o hc hd hne x hx => ?_⟩
 ·rcases get_set hc with ⟨rfl,rfl⟩ | ⟨e,hc⟩
  ·rw [upd_self]; exact hh
  ·rw [upd_ne _ e]
   exact ((r.holds c l hc).keep (hw c l hc)).congr (r.scope c l hc) (fun b hb => upd_al b (hnl b hb))
 ·rcases get_set hc with ⟨rfl,rfl⟩ | ⟨e,hc⟩
  ·exact hs
  ·exact ABlk.scp_mono (live_set hk) (r.scope c l hc)
 ·rcases get_set hc with ⟨rfl,rfl⟩ | ⟨e,hc2⟩
  ·rcases get_set hd with ⟨rfl, rfl⟩ | ⟨e', hd2⟩
   ·exact absurd rfl hne
   ·rw [upd_self] at hx
    rw [upd_ne _ e']
    exact fun hx' => h2 d o hd2 x hx' hx
  ·rw [upd_ne _ e] at hx
   rcases get_set hd with ⟨rfl, rfl⟩ | ⟨e', hd2⟩
   ·rw [upd_self]
    exact h1 c l hc2 x hx
   ·rw [upd_ne _ e']
    exact r.apart c d l o hc2 hd2 hne x hx
theorem Rel.hole {ρ : Ren} {h : AH} {w : World} (r : Rel ρ h w) : Rel ρ (h ++ [ABlk.hole]) w := by
 have get : ∀ (c : Nat) (l : ABlk),(h ++ [ABlk.hole])[c]? = some l → l = ABlk.hole ∨ h[c]? = some l := by
  intro c l hc
  by_cases e : c < h.length
  ·rw [List.getElem?_append_left e] at hc
   exact .inr hc
  ·rw [List.getElem?_append_right (by omega)] at hc
   have := List.mem_of_getElem? hc
   simp at this
   exact .inl this
 refine ⟨fun c l hc => ?_,fun c l hc => ?_,fun c d l o hc hd hne x hx => ?_⟩
 ·rcases get c l hc with rfl | hc
  ·trivial
  ·exact r.holds c l hc
 ·rcases get c l hc with rfl | hc
  ·trivial
  ·exact ABlk.scp_mono (fun b hb => live_push b hb) (r.scope c l hc)
 ·rcases get c l hc with rfl | hc
  ·cases hx
  ·rcases get d o hd with rfl | hd
   ·intro h; cases h
   ·exact r.apart c d l o hc hd hne x hx
theorem push_eq (h : AH) (k : ABlk) : h ++ [k] = (h ++ [ABlk.hole]).set h.length k := by
 rw [List.set_append_right _ _ (Nat.le_refl _)]
 simp
structure Next (m : Nat) (ρ : Ren) (h : AH) (w : World) (ρ' : Ren) (h' : AH) (w' : World) : Prop where
 ext : ∀ b,b < m → (ρ' b).al = (ρ b).al
 lives : ∀ b,b < m → live h b = true → live h' b = true
 os : w'.os = w.os
 tape : w'.tape = w.tape
 output : w'.output = w.output
 size : w.heap.size ≤ w'.heap.size
 keep : ∀ x,x < w.heap.size → (∀ (b : Nat) (k : ABlk),h[b]? = some k → x ∉ k.foot (ρ b)) → w'.heap[x]? = w.heap[x]?
 prov : ∀ (b : Nat) (k : ABlk),h'[b]? = some k → ∀ x,x ∈ k.foot (ρ' b) → w.heap.size ≤ x ∨ ∃ (b0 : Nat) (k0 : ABlk),h[b0]? = some k0 ∧ x ∈ k0.foot (ρ b0)
 prow : ∀ (b : Nat) (k : ABlk),h'[b]? = some k → ∀ x,x ∈ k.reach (ρ' b) → w.heap.size ≤ x ∨ ∃ (b0 : Nat) (k0 : ABlk),h[b0]? = some k0 ∧ x ∈ k0.reach (ρ b0)
theorem Next.refl (m : Nat) (ρ : Ren) (h : AH) (w : World) : Next m ρ h w ρ h w :=
 ⟨fun _ _ => rfl,fun _ _ h => h,rfl,rfl,rfl,Nat.le_refl _,fun _ _ _ => rfl,fun b k hb x hx => .inr ⟨b,k,hb,hx⟩,fun b k hb x hx => .inr ⟨b,k,hb,hx⟩⟩
theorem Next.drew {m : Nat} {ρ ρ' : Ren} {h h' : AH} {w w' w2 : World} (n : Next m ρ h w ρ' h' w') (h1 : w2.heap = w'.heap) (h2 : w2.os = w'.os) (h3 : w2.tape = w'.tape) (h4 : w2.output = w'.output) : Next m ρ h w ρ' h' w2 :=
 ⟨n.ext,n.lives,h2.trans n.os,h3.trans n.tape,h4.trans n.output,by rw [h1]; exact n.size,fun x hx hn => by rw [h1]; exact n.keep x hx hn,n.prov,n.prow⟩
theorem Next.trans {m : Nat} {ρ ρ1 ρ2 : Ren} {h h1 h2 : AH} {w w1 w2 : World} (a : Next m ρ h w ρ1 h1 w1) (b : Next m ρ1 h1 w1 ρ2 h2 w2) : Next m ρ h w ρ2 h2 w2 where
 ext := fun c hc => (b.ext c hc).trans (a.ext c hc)
 lives := fun c hc hl => b.lives c hc (a.lives c hc hl)
 os := b.os.trans a.os
 tape := b.tape.trans a.tape
 output := b.output.trans a.output
 size := Nat.le_trans a.size b.size
 keep := fun x hx hn => (b.keep x (Nat.lt_of_lt_of_le hx a.size) (fun c k hc hx' => by
  rcases a.prov c k hc x hx' with h | ⟨b0,k0,hb0,hx0⟩
  ·omega
  ·exact hn b0 k0 hb0 hx0)).trans (a.keep x hx hn)
 prov := fun c k hc x hx => by
  rcases b.prov c k hc x hx with h | ⟨b0,k0,hb0,hx0⟩
  ·exact .inl (Nat.le_trans a.size h)
  ·exact a.prov b0 k0 hb0 x hx0
 prow := fun c k hc x hx => by
  rcases b.prow c k hc x hx with h | ⟨b0,k0,hb0,hx0⟩
  ·exact .inl (Nat.le_trans a.size h)
  ·exact a.prow b0 k0 hb0 x hx0
theorem Next.less {m n : Nat} {ρ ρ1 : Ren} {h h1 : AH} {w w1 : World} (a : Next m ρ h w ρ1 h1 w1) (hn : n ≤ m) : Next n ρ h w ρ1 h1 w1 :=
 { a with ext := fun b hb => a.ext b (Nat.lt_of_lt_of_le hb hn),lives := fun b hb => a.lives b (Nat.lt_of_lt_of_le hb hn) }
end Abs
end Go.Proofs.Ytongllppbifiaaa
namespace Go.Proofs.Ytongllppbifiaaa
namespace Abs
open Go
set_option linter.unusedVariables false
set_option linter.unusedSimpArgs false
abbrev T := List (Option Value)
structure TRel (ρ : Ren) (n : Nat → Bool) (t : T) (a : Act) : Prop where
 defers : a.defers = []
 size : a.tmps.size = t.length
 val : ∀ (i : Nat) v,t[i]? = some (some v) → ∃ u,a.tmps[i]? = some u ∧ VR ρ n v u
theorem TRel.mono {ρ ρ' : Ren} {n m : Nat → Bool} {t : T} {a : Act} (h : TRel ρ n t a) (hn : ∀ b,n b = true → m b = true) (he : ∀ b,n b = true → (ρ' b).al = (ρ b).al) : TRel ρ' m t a :=
 ⟨h.defers,h.size,fun i v hv => let ⟨u,h1,h2⟩ := h.val i v hv; ⟨u,h1,h2.mono hn he⟩⟩
def T.put (t : T) : Option Tmp → Value → T
 | some d,v => t.set d (some v)
 | none,_ => t
theorem TRel.put {ρ : Ren} {n : Nat → Bool} {t : T} {a : Act} (h : TRel ρ n t a) (d : Option Tmp) {v u : Value} (hv : VR ρ n v u) : TRel ρ n (t.put d v) (a.put d u) := by
 cases d with
 | none => exact h
 | some d =>
  refine ⟨h.defers,by simp [T.put,Act.put,h.size],fun i x hx => ?_⟩
  simp only [T.put,List.getElem?_set] at hx
  split at hx
  ·rename_i e
   subst e
   split at hx
   ·rename_i hd
    injection hx with hx
    injection hx with hx
    subst hx
    exact ⟨u,by simp [Act.put,Array.getElem?_setIfInBounds,h.size,hd],hv⟩
   ·cases hx
  ·rename_i e
   obtain ⟨y,h1,h2⟩ := h.val i x hx
   exact ⟨y,by simp [Act.put,Array.getElem?_setIfInBounds,e,h1],h2⟩
inductive AExit where
 | normal
 | exit (id : Nat)
 | ret
 deriving DecidableEq
def AExit.is : AExit → Exit → Prop
 | .normal,e => e = .normal
 | .exit id,e => e = .exit id
 | .ret,e => e = .ret
section
variable (P : Program)
def Beh (m : Nat) (Q : AExit → T → AH → Prop) (ρ : Ren) (h : AH) (w : World) : Exit → Act → World → Prop := fun e a' w' =>
 ∃ e' t' h' ρ', e'.is e ∧ Q e' t' h' ∧ Rel ρ' h' w' ∧ TRel ρ' (live h') t' a' ∧ Next m ρ h w ρ' h' w' ∧ m ≤ h'.length
def AWp (m : Nat) (c : Code) (Q : AExit → T → AH → Prop) (t : T) (h : AH) : Prop :=
 ∀ (ρ : Ren) (w : World) (a : Act),Rel ρ h w → TRel ρ (live h) t a → m ≤ h.length → c.wp P (Beh m Q ρ h w) a w
def enterB (f : FuncId) : Bool := match P.funcs[f]? with
  | some fn => fn.body.isSome && !(fn.name == "runtime.NumGoroutine")
  | none => false
def AC (f : FuncId) (args : List Value) (h : AH) (Post : Value → AH → Prop) : Prop :=
 enterB P f = true ∧ ∀ (ρ : Ren) (w : World) (us : Array Value),Rel ρ h w → us.size = args.length → (∀ (i : Nat) v,args[i]? = some v → ∃ u,us[i]? = some u ∧ VR ρ (live h) v u) →
  Calls P f us w fun e w' => ∃ v u h' ρ', e = .returned u ∧ VR ρ' (live h') v u ∧ Post v h' ∧ Rel ρ' h' w' ∧ Next h.length ρ h w ρ' h' w' ∧ h.length ≤ h'.length
end
section
variable {P : Program} {m : Nat} {Q Q' : AExit → T → AH → Prop} {t : T} {h : AH}
theorem Beh.trans {ρ ρ1 : Ren} {h1 : AH} {w w1 : World} {e : Exit} {a : Act} {w2 : World} (n : Next m ρ h w ρ1 h1 w1) (b : Beh m Q ρ1 h1 w1 e a w2) : Beh m Q ρ h w e a w2 :=
 let ⟨e', t', h', ρ', he, hq, r, tr, nx, hm⟩ := b
 ⟨e', t', h', ρ', he, hq, r, tr, n.trans nx, hm⟩
theorem AC.mono {f : FuncId} {args : List Value} {Post Post' : Value → AH → Prop} (hc : AC P f args h Post) (hp : ∀ v h', Post v h' → Post' v h') : AC P f args h Post' :=
 ⟨hc.1, fun ρ w us r hs ha => (hc.2 ρ w us r hs ha).mono fun e w' ⟨v, u, h', ρ', h1, h2, h3, h4⟩ => ⟨v, u, h', ρ', h1, h2, hp _ _ h3, h4⟩⟩
theorem AWp.mono {c : Code} (hw : AWp P m c Q t h) (hq : ∀ e t h,Q e t h → Q' e t h) : AWp P m c Q' t h :=
 fun ρ w a r tr hm => wp_mono (hw ρ w a r tr hm) fun e a' w' ⟨e', t', h', ρ', h1, h2, h3⟩ => ⟨e', t', h', ρ', h1, hq _ _ _ h2, h3⟩
theorem awp_skip (hq : Q .normal t h) : AWp P m .skip Q t h :=
 fun ρ w a r tr hm => wp_skip ⟨.normal,t,h,ρ,rfl,hq,r,tr,Next.refl _ _ _ _,hm⟩
theorem awp_exit {id : Nat} (hq : Q (.exit id) t h) : AWp P m (.exit id) Q t h :=
 fun ρ w a r tr hm => wp_exit ⟨.exit id,t,h,ρ,rfl,hq,r,tr,Next.refl _ _ _ _,hm⟩
theorem awp_ret (hq : Q .ret t h) : AWp P m .ret Q t h :=
 fun ρ w a r tr hm => wp_ret ⟨.ret,t,h,ρ,rfl,hq,r,tr,Next.refl _ _ _ _,hm⟩
def thenQ (K : T → AH → Prop) (Q : AExit → T → AH → Prop) : AExit → T → AH → Prop
 | .normal,t,h => K t h
 | e,t,h => Q e t h
theorem awp_seq {x y : Code} (hx : AWp P m x (thenQ (AWp P m y Q) Q) t h) : AWp P m (.seq x y) Q t h := by
 intro ρ w a r tr hm
 refine wp_seq (wp_mono (hx ρ w a r tr hm) ?_)
 rintro e a' w' ⟨e', t', h', ρ', he, hq, r', tr', nx, hm'⟩
 cases e' with
 | normal =>
  simp only [AExit.is] at he
  subst he
  simp only [Exit.then]
  simp only [thenQ] at hq
  exact wp_mono (hq ρ' w' a' r' tr' hm') fun e a2 w2 hb => Beh.trans nx hb
 | exit id =>
  simp only [AExit.is] at he
  subst he
  exact ⟨.exit id, t', h', ρ', rfl, hq, r', tr', nx, hm'⟩
 | ret =>
  simp only [AExit.is] at he
  subst he
  exact ⟨.ret, t', h', ρ', rfl, hq, r', tr', nx, hm'⟩
def blockQ (id : Nat) (Q : AExit → T → AH → Prop) : AExit → T → AH → Prop
 | .exit i,t,h => if i = id then Q .normal t h else Q (.exit i) t h
 | e,t,h => Q e t h
theorem awp_block {id : Nat} {c : Code} (hx : AWp P m c (blockQ id Q) t h) : AWp P m (.block id c) Q t h := by
 intro ρ w a r tr hm
 refine wp_block (wp_mono (hx ρ w a r tr hm) ?_)
 rintro e a' w' ⟨e', t', h', ρ', he, hq, rest⟩
 cases e' with
 | normal =>
  simp only [AExit.is] at he
  subst he
  exact ⟨.normal, t', h', ρ', rfl, hq, rest⟩
 | exit i =>
  simp only [AExit.is] at he
  subst he
  simp only [Exit.inBlock]
  simp only [blockQ] at hq
  split
  ·rename_i e
   rw [if_pos e] at hq
   exact ⟨.normal, t', h', ρ', rfl, hq, rest⟩
  ·rename_i e
   rw [if_neg e] at hq
   exact ⟨.exit i, t', h', ρ', rfl, hq, rest⟩
 | ret =>
  simp only [AExit.is] at he
  subst he
  exact ⟨.ret, t', h', ρ', rfl, hq, rest⟩
def nil : Nat → Bool := fun _ => false
abbrev plain (v : Value) : Bool := scp nil v
def evalO (t : T) : Operand → Option Value
 | .tmp i => t[i]?.join
 | .const v => if plain v then some v else none
 | .func f => some (.func (.func f) #[] #[])
 | .global _ => none
mutual
theorem conc_zero (ρ : Ren) : ∀ v,plain v = true → conc ρ v = v
 | .pointer (some a),hs => by simp [scp,nil] at hs
 | .slice (some a) _ _,hs => by simp [scp,nil] at hs
 | .map (some r),hs => by simp [scp,nil] at hs
 | .chan (some r),hs => by simp [scp,nil] at hs
 | .func fn first captured,hs => by
  simp only [scp,Bool.and_eq_true] at hs
  simp only [conc,concA_zero ρ first hs.1,concA_zero ρ captured hs.2]
 | .iface t v,hs => by simp only [scp] at hs; simp only [conc,conc_zero ρ v hs]
 | .agg cs,hs => by simp only [scp] at hs; simp only [conc,concA_zero ρ cs hs]
 | .tuple cs,hs => by simp only [scp] at hs; simp only [conc,concA_zero ρ cs hs]
 | .pointer none,_ => by simp only [conc]
 | .slice none _ _,_ => by simp only [conc]
 | .map none,_ => by simp only [conc]
 | .chan none,_ => by simp only [conc]
 | .bool b,_ => by simp only [conc]
 | .int k n,_ => by simp only [conc]
 | .float k n,_ => by simp only [conc]
 | .complex k a b,_ => by simp only [conc]
 | .string s,_ => by simp only [conc]
 | .nilFunc,_ => by simp only [conc]
 | .nilIface,_ => by simp only [conc]
theorem concA_zero (ρ : Ren) : ∀ v,scpA nil v = true → concA ρ v = v
 | ⟨l⟩,hs => by simp only [scpA] at hs; simp only [concA,concL_zero ρ l hs]
theorem concL_zero (ρ : Ren) : ∀ v,scpL nil v = true → concL ρ v = v
 | [],_ => by simp only [concL]
 | v :: l,hs => by
  simp only [scpL,Bool.and_eq_true] at hs
  simp only [concL,conc_zero ρ v hs.1,concL_zero ρ l hs.2]
end
theorem VR.plain {ρ : Ren} {n : Nat → Bool} {v : Value} (h : plain v = true) : VR ρ n v v := ⟨scp_mono (fun b hb => by cases hb) v h,(conc_zero ρ v h).symm⟩
theorem evalO_VR {ρ : Ren} {n : Nat → Bool} {t : T} {a : Act} (tr : TRel ρ n t a) {x : Operand} {v : Value} (h : evalO t x = some v) : VR ρ n v (a.eval x) := by
 cases x with
 | tmp i =>
  simp only [evalO] at h
  cases hi : t[i]? with
  | none => rw [hi] at h; cases h
  | some o =>
   rw [hi] at h
   simp only [Option.join_some] at h
   subst h
   obtain ⟨u,h1,h2⟩ := tr.val i v hi
   have : a.eval (.tmp i) = u := by simp [Act.eval,Array.getD_eq_getD_getElem?,h1]
   rw [this]
   exact h2
 | const c =>
  simp only [evalO] at h
  split at h
  ·rename_i hs
   injection h with h
   subst h
   exact VR.plain hs
  ·cases h
 | func f =>
  simp only [evalO] at h
  injection h with h
  subst h
  exact VR.plain rfl
 | global g => simp [evalO] at h
theorem awp_cond {c : Operand} {x y : Code} {b : Bool} (hc : evalO t c = some (.bool b)) (hx : AWp P m (if b then x else y) Q t h) : AWp P m (.cond c x y) Q t h := by
 intro ρ w a r tr hm
 have h1 := evalO_VR tr hc
 have h2 : a.eval c = .bool b := by rw [h1.2]; rfl
 exact wp_cond h2 (hx ρ w a r tr hm)
def ARounds (P : Program) (m : Nat) (c : Code) (Q : AExit → T → AH → Prop) : Nat → T → AH → Prop
 | 0,_,_ => False
 | n + 1,t,h => AWp P m c (thenQ (ARounds P m c Q n) Q) t h
theorem rounds_of {c : Code} {ρ : Ren} {w : World} : ∀ (n : Nat) (t' : T) (h' : AH) (ρ' : Ren) (a' : Act) (w' : World),ARounds P m c Q n t' h' → Rel ρ' h' w' → TRel ρ' (live h') t' a' → Next m ρ h w ρ' h' w' → m ≤ h'.length →
  Code.rounds P c (Beh m Q ρ h w) n a' w' := by
 intro n
 induction n with
 | zero => intro t' h' ρ' a' w' hr; exact hr.elim
 | succ n ih =>
  intro t' h' ρ' a' w' hr r tr nx hm
  rw [rounds_succ]
  refine wp_mono (hr ρ' w' a' r tr hm) ?_
  rintro e a2 w2 ⟨e', t2, h2, ρ2, he, hq, r2, tr2, nx2, hm2⟩
  cases e' with
  | normal =>
   simp only [AExit.is] at he
   subst he
   simp only [thenQ] at hq
   exact ih t2 h2 ρ2 a2 w2 hq r2 tr2 (nx.trans nx2) hm2
  | exit id =>
   simp only [AExit.is] at he
   subst he
   exact ⟨.exit id,t2,h2,ρ2,rfl,hq,r2,tr2,nx.trans nx2,hm2⟩
  | ret =>
   simp only [AExit.is] at he
   subst he
   exact ⟨.ret,t2,h2,ρ2,rfl,hq,r2,tr2,nx.trans nx2,hm2⟩
theorem awp_rounds {c : Code} (n : Nat) (hr : ARounds P m c Q n t h) : AWp P m (.loop c) Q t h :=
 fun ρ w a r tr hm => wp_loop_rounds n (rounds_of n t h ρ a w hr r tr (Next.refl _ _ _ _) hm)
theorem ARounds.more {c : Code} : ∀ (n k : Nat) (t : T) (h : AH),n ≤ k → ARounds P m c Q n t h → ARounds P m c Q k t h := by
 intro n
 induction n with
 | zero => intro k t h _ hr; exact hr.elim
 | succ n ih =>
  intro k t h hk hr
  obtain ⟨k,rfl⟩ : ∃ j,k = j + 1 := ⟨k - 1,by omega⟩
  refine AWp.mono (Q := thenQ (ARounds P m c Q n) Q) hr fun e t' h' hq => ?_
  cases e <;> first | exact hq | exact ih k t' h' (by omega) hq
theorem awp_less {c : Code} {t2 : T} {h2 : AH} (ht : t2.length = t.length) (hv : ∀ (i : Nat) v,t2[i]? = some (some v) → t[i]? = some (some v) ∧ scp (live h2) v = true) (hp : h2 = h.take h2.length) (hs : ∀ (b : Nat) (k : ABlk),h2[b]? = some k → k.scp (live h2)) (hm2 : m ≤ h2.length) (hw : AWp P m c Q t2 h2) : AWp P m c Q t h := by
 intro ρ w a r tr hm
 have get : ∀ (b : Nat) (k : ABlk),h2[b]? = some k → h[b]? = some k := by
  intro b k hb
  rw [hp,List.getElem?_take] at hb
  split at hb
  ·exact hb
  ·cases hb
 have r2 : Rel ρ h2 w := ⟨fun b k hb => r.holds b k (get b k hb),hs,fun b c k l hb hc => r.apart b c k l (get b k hb) (get c l hc)⟩
 have tr2 : TRel ρ (live h2) t2 a := ⟨tr.defers,by rw [ht]; exact tr.size,fun i v hi => by
  obtain ⟨h1,h3⟩ := hv i v hi
  obtain ⟨u,hu,hvr⟩ := tr.val i v h1
  exact ⟨u,hu,h3,hvr.2⟩⟩
 refine wp_mono (hw ρ w a r2 tr2 hm2) ?_
 rintro e a' w' ⟨e', t', h', ρ', he, hq, r', tr', nx, hm'⟩
 refine ⟨e', t', h', ρ', he, hq, r', tr', ⟨nx.ext, fun b hb hl => nx.lives b hb ?_, nx.os, nx.tape, nx.output, nx.size, fun x hx hn => nx.keep x hx (fun b k hb => hn b k (get b k hb)), fun b k hb x hx => ?_, fun b k hb x hx => ?_⟩, hm'⟩
 ·unfold live at hl ⊢
  rw [hp,List.getElem?_take,if_pos (by omega)]
  exact hl
 ·rcases nx.prov b k hb x hx with h1 | ⟨b0,k0,h1,h3⟩
  ·exact .inl h1
  ·exact .inr ⟨b0,k0,get b0 k0 h1,h3⟩
 ·rcases nx.prow b k hb x hx with h1 | ⟨b0,k0,h1,h3⟩
  ·exact .inl h1
  ·exact .inr ⟨b0,k0,get b0 k0 h1,h3⟩
end
end Abs
end Go.Proofs.Ytongllppbifiaaa
namespace Go.Proofs.Ytongllppbifiaaa
namespace Abs
open Go
set_option linter.unusedVariables false
set_option linter.unusedSimpArgs false
inductive EK where
 | bool | ptr | slc | map | fn
 deriving DecidableEq
inductive AOp where
 | mv (x : Operand)
 | pick (c a b : Operand)
 | bin (op : BinOp) (x y : Operand)
 | eq (k : EK) (neg : Bool) (x y : Operand)
 | geq (op : BinOp) (t : TypeId) (x y : Operand)
 | un (op : UnOp) (x : Operand)
 | cvt (k : IntKind) (x : Operand)
 | off (n : Nat) (x : Operand)
 | idx (es : Nat) (x i : Operand)
 | idxA (len es : Nat) (x i : Operand)
 | ext (n : Nat) (x : Operand)
 | part (off : Nat) (agg : Option Nat) (x : Operand)
 | partI (len es : Nat) (agg : Bool) (x i : Operand)
 | sIdx (x i : Operand)
 | sub (es : Nat) (x : Operand) (lo hi mx : Option Operand)
 | subA (len es : Nat) (x : Operand) (lo hi mx : Option Operand)
 | subS (x : Operand) (lo hi : Option Operand)
 | nilck (x : Operand)
 | fn (f : Fn) (first captured : List Operand)
 | agg (zero : List Value) (parts : List (Nat × Nat × Operand))
 | len (x : Operand)
 | lenS (x : Operand)
 | alen (n : Nat)
 | mm (mx : Bool) (args : List Operand)
 | ld (agg : Option Nat) (x : Operand)
 | look (str : Bool) (zero : Value) (m k : Operand) (ok : Bool)
 | mlen (x : Operand)
 | b2s (x : Operand)
 | gld (agg : Option Nat) (g : Nat)
 | goff (n g : Nat)
 | gidx (len es g : Nat) (i : Operand)
 | gsub (len es g : Nat) (lo hi mx : Option Operand)
 | box (e : TypeId) (x : Operand)
 | alloc (e : TypeId) (zero : List Value)
 | mkS (e : TypeId) (es bytes : Nat) (zero : List Value) (len cap : Operand)
 | mkM
 | rngS (x : Operand)
 | row (e : TypeId) (len : Nat) (es : Nat) (zero : List Value) (parts : List (Nat × Operand))
 | st (n : Nat) (x v : Operand)
 | app (e : TypeId) (es bytes : Nat) (s x : Operand)
 | copy (es : Nat) (d s : Operand)
 | clear (zero : List Value) (x : Operand)
 | s2b (x : Operand)
 | nxtS (x : Operand)
 | del (str : Bool) (m k : Operand)
 | mupd (str : Bool) (m k v : Operand)
 | ment (str : Bool) (zero : Value) (m k : Operand)
 | mest (m s v : Operand)
 | range (x : Operand)
 | next (x : Operand)
 | entry (x : Operand)
 | call (f : Operand) (args : List Operand)
structure AOper where
 dst : Option Tmp
 op : AOp
 guard : Option (Tmp × Bool)
def evBin (op : BinOp) : Value → Value → Option Value
 | .int k a,.int k' b => match op with
  | .shl => if b < 0 then none else some (.int k (k.wrap (a * 2 ^ min b.toNat k.bits)))
  | .shr => if b < 0 then none else some (.int k (a.fdiv (2 ^ min b.toNat k.bits)))
  | op => if k = k' then match op with
    | .add => some (.int k (k.wrap (a + b)))
    | .sub => some (.int k (k.wrap (a - b)))
    | .mul => some (.int k (k.wrap (a * b)))
    | .quo => if b = 0 then none else some (.int k (k.wrap (a.tdiv b)))
    | .rem => if b = 0 then none else some (.int k (a.tmod b))
    | .and => some (.int k (k.wrap (BitVec.ofInt k.bits a &&& BitVec.ofInt k.bits b).toNat))
    | .or => some (.int k (k.wrap (BitVec.ofInt k.bits a ||| BitVec.ofInt k.bits b).toNat))
    | .xor => some (.int k (k.wrap (BitVec.ofInt k.bits a ^^^ BitVec.ofInt k.bits b).toNat))
    | .andNot => some (.int k (k.wrap (BitVec.ofInt k.bits a &&& ~~~BitVec.ofInt k.bits b).toNat))
    | .eql => some (.bool (a == b))
    | .neq => some (.bool (a != b))
    | .lss => some (.bool (a < b))
    | .leq => some (.bool (a ≤ b))
    | .gtr => some (.bool (a > b))
    | .geq => some (.bool (a ≥ b))
    | _ => none
   else none
 | .string a,.string b => match op with
  | .add => if ((a.size + b.size : Nat) : Int) > IntKind.i64.max then none else some (.string (a ++ b))
  | .eql => some (.bool (a.data.toList == b.data.toList))
  | .neq => some (.bool !(a.data.toList == b.data.toList))
  | .lss => some (.bool (Op.bytesLess a.data.toList b.data.toList))
  | .geq => some (.bool !(Op.bytesLess a.data.toList b.data.toList))
  | _ => none
 | _,_ => none
def evEq (k : EK) (neg : Bool) (x y : Value) : Option Value :=
 match k,x,y with
 | .bool,.bool a,.bool b => some (.bool ((a == b) != neg))
 | .ptr,.pointer none,.pointer b => some (.bool (b.isNone != neg))
 | .ptr,.pointer (some _),.pointer none => some (.bool (false != neg))
 | .slc,.slice none _ _,.slice b _ _ => some (.bool (b.isNone != neg))
 | .slc,.slice (some _) _ _,.slice none _ _ => some (.bool (false != neg))
 | .map,.map none,.map b => some (.bool (b.isNone != neg))
 | .map,.map (some _),.map none => some (.bool (false != neg))
 | .fn,.nilFunc,.nilFunc => some (.bool (true != neg))
 | .fn,.nilFunc,.func .. => some (.bool (false != neg))
 | .fn,.func ..,.nilFunc => some (.bool (false != neg))
 | _,_,_ => none
def evUn (op : UnOp) : Value → Option Value
 | .int k n => match op with
  | .neg => some (.int k (k.wrap (0 - n)))
  | .xor => some (.int k (k.wrap (BitVec.ofInt k.bits (if k.signed then -1 else k.max) ^^^ BitVec.ofInt k.bits n).toNat))
  | _ => none
 | .bool b => match op with
  | .not => some (.bool !b)
  | _ => none
 | _ => none
def pureVal (P : Program) {α : Type} : Sem α → Option α
 | .pure a => some a
 | .program k => pureVal P (k P)
 | _ => none
theorem pureVal_run {P : Program} {α : Type} {a : α} : ∀ (s : Sem α),pureVal P s = some a → ∀ w,s.run P w = .ok a w
 | .pure b,h,w => by simp only [pureVal] at h; injection h with h; subst h; rfl
 | .program k,h,w => by simp only [pureVal] at h; exact pureVal_run (k P) h w
 | .load ..,h,_ | .store ..,h,_ | .new ..,h,_ | .shape ..,h,_ | .freeze ..,h,_ | .frozen ..,h,_ | .getObj ..,h,_ | .setObj ..,h,_ | .choose ..,h,_ | .sys ..,h,_ | .mark ..,h,_ | .halt ..,h,_ => by simp [pureVal] at h
def bnd (v : Option Int) (d y : Nat) : Option Nat := match v with
 | some v => if 0 ≤ v ∧ v ≤ y then some v.toNat else none
 | none => some d
def evBounds (len cap : Nat) (lo hi mx : Option Int) : Option (Nat × Nat × Nat) := match bnd mx cap cap with
 | none => none
 | some m => if hi = none ∧ mx ≠ none then none else match bnd hi len m with
  | none => none
  | some h => match bnd lo 0 h with
   | none => none
   | some l => some (l,h,m)
def optI (t : T) : Option Operand → Option (Option Int)
 | none => some none
 | some x => match evalO t x with
  | some (.int _ n) => some (some n)
  | _ => none
def evalL (t : T) : List Operand → Option (List Value)
 | [] => some []
 | x :: l => match evalO t x,evalL t l with
  | some v,some vs => some (v :: vs)
  | _,_ => none
def evFill (t : T) : List (Nat × Nat × Operand) → List Value → Option (List Value)
 | [],cs => some cs
 | (off,n,x) :: rest,cs => match evalO t x with
  | some v => if v.cells.size = n ∧ off + n ≤ cs.length then evFill t rest (cs.take off ++ v.cells.toList ++ cs.drop (off + n)) else none
  | none => none
def evMmL (mx : Bool) : IntKind → Int → List Value → Option Value
 | k,n,[] => some (.int k n)
 | k,n,.int _ b :: l => evMmL mx k (if mx then (if b > n then b else n) else (if b < n then b else n)) l
 | _,_,_ => none
def evMm (mx : Bool) : List Value → Option Value
 | .int k a :: rest => evMmL mx k a rest
 | _ => none
def onB {R : Type} (o : Option Value) (a b bot : R) : R := match o with
 | some (.bool true) => a
 | some (.bool false) => b
 | _ => bot
theorem onB_bool {R : Type} (x : Bool) (a b bot : R) : onB (some (.bool x)) a b bot = if x = true then a else b := by cases x <;> rfl
def evP (P : Program) (t : T) : AOp → Option Value
 | .mv x => evalO t x
 | .pick c a b => onB (evalO t c) (evalO t a) (evalO t b) none
 | .bin op x y => match evalO t x,evalO t y with
  | some a,some b => evBin op a b
  | _,_ => none
 | .eq k neg x y => match evalO t x,evalO t y with
  | some a,some b => evEq k neg a b
  | _,_ => none
 | .geq op ty x y => match evalO t x,evalO t y with
  | some a,some b => if plain a && plain b then match pureVal P (do eqGuard op ty x y a b; binOp op ty a b) with
    | some v => if plain v then some v else none
    | none => none
   else none
  | _,_ => none
 | .un op x => match evalO t x with
  | some a => evUn op a
  | none => none
 | .cvt k x => match evalO t x with
  | some (.int _ n) => some (.int k (k.wrap n))
  | _ => none
 | .off n x => match evalO t x with
  | some (.pointer (some ⟨b,o,none⟩)) => some (.pointer (some ⟨b,o + n,none⟩))
  | _ => none
 | .idx es x i => match evalO t x,evalO t i with
  | some (.slice (some ⟨b,o,none⟩) len _),some (.int _ i) => if 0 ≤ i ∧ i < len then some (.pointer (some ⟨b,o + i.toNat * es,none⟩)) else none
  | _,_ => none
 | .idxA len es x i => match evalO t x,evalO t i with
  | some (.pointer (some ⟨b,o,none⟩)),some (.int _ i) => if 0 ≤ i ∧ i < len then some (.pointer (some ⟨b,o + i.toNat * es,none⟩)) else none
  | _,_ => none
 | .ext n x => match evalO t x with
  | some (.tuple vs) => vs[n]?
  | _ => none
 | .part off none x => match evalO t x with
  | some (.agg cs) => cs[off]?
  | _ => none
 | .part off (some n) x => match evalO t x with
  | some (.agg cs) => some (.agg (cs.extract off (off + n)))
  | _ => none
 | .partI len es ag x i => match evalO t x,evalO t i with
  | some (.agg cs),some (.int _ i) => if 0 ≤ i ∧ i < len then (if ag then some (.agg (cs.extract (i.toNat * es) (i.toNat * es + es))) else cs[i.toNat * es]?) else none
  | _,_ => none
 | .sIdx x i => match evalO t x,evalO t i with
  | some (.string s),some (.int _ i) => if 0 ≤ i then match s.data[i.toNat]? with
    | some b => some (.int .u8 b.toNat)
    | none => none
   else none
  | _,_ => none
 | .sub es x lo hi mx => match evalO t x,optI t lo,optI t hi,optI t mx with
  | some (.slice (some ⟨b,o,none⟩) len cap),some lo,some hi,some mx => if cap < OPEN then
     match evBounds len cap lo hi mx with
     | some (l,h,m) => some (.slice (some ⟨b,if m = l then o else o + l * es,none⟩) (h - l) (m - l))
     | none => none
    else if len ≤ cap - OPEN then match mx with
     | none => match evBounds len len lo hi none with
      | some (l,h,_) => some (.slice (some (if l < cap - OPEN then ⟨b,o + l * es,none⟩ else ⟨b,o,some (2 * (l * es))⟩)) (h - l) (cap - l))
      | none => none
     | some mx => match evBounds len (cap - OPEN) lo hi (some mx) with
      | some (l,h,m) => if m < OPEN then some (.slice (some ⟨b,if m = l then o else o + l * es,none⟩) (h - l) (m - l)) else none
      | none => none
    else none
  | some (.slice none len cap),some lo,some hi,some mx => if cap < OPEN then
     match evBounds len cap lo hi mx with
     | some (l,h,m) => some (.slice none (h - l) (m - l))
     | none => none
    else none
  | some (.slice (some ⟨b,o,some d⟩) len cap),some lo,some hi,some mx => if cap < OPEN then match evBounds len cap lo hi mx with
     | some (l,h,m) => if l = 0 then some (.slice (some ⟨b,o,some d⟩) h m) else none
     | none => none
    else none
  | _,_,_,_ => none
 | .subA n es x lo hi mx => match evalO t x,optI t lo,optI t hi,optI t mx with
  | some (.pointer (some ⟨b,o,none⟩)),some lo,some hi,some mx => if n < OPEN then match evBounds n n lo hi mx with
    | some (l,h,m) => some (.slice (some ⟨b,if m = l then o else o + l * es,none⟩) (h - l) (m - l))
    | none => none
   else none
  | _,_,_,_ => none
 | .subS x lo hi => match evalO t x,optI t lo,optI t hi with
  | some (.string s),some lo,some hi => match evBounds s.size s.size lo hi none with
   | some (l,h,_) => some (.string (s.extract l h))
   | none => none
  | _,_,_ => none
 | .nilck x => match evalO t x with
  | some (.pointer (some a)) => some (.pointer (some a))
  | _ => none
 | .fn f first captured => match evalL t first,evalL t captured with
  | some vs,some us => some (.func f vs.toArray us.toArray)
  | _,_ => none
 | .agg zero parts => match evFill t parts zero with
  | some cs => some (.agg cs.toArray)
  | none => none
 | .len x => match evalO t x with
  | some (.slice _ n _) => some (.int .i64 n)
  | _ => none
 | .lenS x => match evalO t x with
  | some (.string s) => some (.int .i64 s.size)
  | _ => none
 | .alen n => some (.int .i64 n)
 | .mm mx args => match evalL t args with
  | some vs => evMm mx vs
  | none => none
 | _ => none
end Abs
end Go.Proofs.Ytongllppbifiaaa
namespace Go.Proofs.Ytongllppbifiaaa
namespace Abs
open Go
set_option linter.unusedVariables false
set_option linter.unusedSimpArgs false
def szOf (P : Program) (t : TypeId) : Option Nat := (P.info? t).map (·.size)
def aggOf (P : Program) (t : TypeId) : Option (Option Nat) := match P.underlying t,P.info? t with
 | some (.struct _),some i | some (.array _ _),some i => some (some i.size)
 | some _,some _ => some none
 | _,_ => none
def eqOf (k : EK) (op : BinOp) (x y : Operand) : Option AOp := match op with
 | .eql => some (.eq k false x y)
 | .neq => some (.eq k true x y)
 | _ => none
def cBin (P : Program) (op : BinOp) (t : TypeId) (x y : Operand) : Option AOp := match P.underlying t with
 | some (.int _) | some .string => some (.bin op x y)
 | some .bool => eqOf .bool op x y
 | some (.pointer _) => eqOf .ptr op x y
 | some (.slice _) => eqOf .slc op x y
 | some (.map _ _) => eqOf .map op x y
 | some (.func _ _ _) => eqOf .fn op x y
 | some (.struct _) | some (.array _ _) => some (.geq op t x y)
 | _ => none
def cConv (P : Program) (src dst : TypeId) (x : Operand) : Option AOp := match P.underlying src,P.underlying dst with
 | some (.int _),some (.int k) => some (.cvt k x)
 | _,_ => none
def cField (P : Program) (s : TypeId) (f : Nat) : Option Field := match P.underlying s with
 | some (.struct fs) => fs[f]?
 | _ => none
def cOff (P : Program) (s : TypeId) (x : Operand) (f : Nat) : Option AOp := match cField P s f with
 | some fl => match szOf P fl.type with
  | some (n + 1) => some (.off fl.offset x)
  | _ => none
 | none => none
def cIdx (P : Program) (t : TypeId) (x i : Operand) : Option AOp := match P.underlying t with
 | some (.slice e) => match szOf P e with
  | some n => some (.idx n x i)
  | none => none
 | some (.array len e) => match szOf P e with
  | some n => some (.idxA len n x i)
  | none => none
 | _ => none
def cPart (P : Program) (s : TypeId) (x : Operand) (f : Nat) : Option AOp := match cField P s f with
 | some fl => match aggOf P fl.type with
  | some a => some (.part fl.offset a x)
  | none => none
 | none => none
def cPartI (P : Program) (t : TypeId) (x i : Operand) : Option AOp := match P.underlying t with
 | some (.array len e) => match aggOf P e with
  | some none => match szOf P e with
   | some n => some (.partI len n false x i)
   | none => none
  | some (some n) => some (.partI len n true x i)
  | none => none
 | some .string => some (.sIdx x i)
 | _ => none
def cSlice (P : Program) (t : TypeId) (x : Operand) (lo hi mx : Option Operand) : Option AOp := match P.underlying t with
 | some (.slice e) => match szOf P e with
  | some n => some (.sub n x lo hi mx)
  | none => none
 | some .string => match mx with
  | none => some (.subS x lo hi)
  | some _ => none
 | some (.array len e) => match szOf P e with
  | some n => some (.subA len n x lo hi mx)
  | none => none
 | _ => none
section
variable {P : Program} {ρ : Ren} {L : Nat → Bool} {t : T} {a : Act}
theorem run_val {s : Sem Value} {u : Value} {w w' : World} (h : s.run P w = .ok u w') : (do pure (Next.value (← s)) : Sem Go.Next).run P w = .ok (.value u) w' := by
 simp [h]
theorem data_toList (s : ByteArray) : s.toList = s.data.toList := by
 exact ByteArray.toList_eq s
theorem run_bin {op : BinOp} {ty : TypeId} {x y v : Value} (h : evBin op x y = some v) (w : World) : (binOp op ty x y).run P w = .ok v w := by
  unfold evBin at h
  split at h
  · rename_i k a k' b
    split at h
    · split at h
      · cases h
      · rename_i hb
        injection h with h
        subst h
        simp [binOp,Op.shift,hb]
    · split at h
      · cases h
      · rename_i hb
        injection h with h
        subst h
        simp [binOp,Op.shift,hb]
    · rename_i op h1 h2
      split at h
      · rename_i hk
        subst hk
        split at h <;> first
          | (cases h; done)
          | (injection h with h; subst h; simp [binOp,Op.intArith,Op.intBits,Op.intCmp]; done)
          | (split at h
             · cases h
             · rename_i hb
               injection h with h
               subst h
               simp [binOp,Op.intDiv,hb])
      · cases h
  · rename_i a b
    split at h <;> first
      | (cases h; done)
      | (injection h with h; subst h; simp [binOp,Op.stringOp,data_toList]; done)
      | (split at h
         · cases h
         · rename_i hb
           injection h with h
           subst h
           simp only [binOp,Op.stringOp,if_neg hb]
           rfl)
  · cases h
theorem guard_plain {op : BinOp} {ty : TypeId} {x y : Operand} {a b : Value} (w : World) (ha : ∀ cs,a ≠ .agg cs) (hn : a ≠ .nilIface) : (eqGuard op ty x y a b).run P w = .ok () w := by
 unfold eqGuard
 cases a <;> first
  | exact absurd rfl hn
  | exact absurd rfl (ha _)
  | (cases op <;> rfl)
def Yields0 (P : Program) (a : Act) (o : Oper) (u : Value) : Prop := ∀ w,(execOp a.eval o).run P w = .ok (.value u) w
theorem s_mv {o : Oper} {x : Operand} {v : Value} (ho : o.op = .move x ∨ o.op = .assign x) (tr : TRel ρ L t a) (hv : evP P t (.mv x) = some v) : ∃ u,VR ρ L v u ∧ Yields0 P a o u := by
 refine ⟨a.eval x,evalO_VR tr hv,fun w => ?_⟩
 rcases ho with ho | ho <;> (unfold execOp; simp only [ho]; rfl)
theorem s_pick {o : Oper} {c x y : Operand} {v : Value} (ho : o.op = .pick c x y) (tr : TRel ρ L t a) (hv : evP P t (.pick c x y) = some v) : ∃ u,VR ρ L v u ∧ Yields0 P a o u := by
 simp only [evP,onB] at hv
 split at hv
 ·rename_i hc
  have h1 : a.eval c = .bool true := (evalO_VR tr hc).2
  refine ⟨a.eval x,evalO_VR tr hv,fun w => ?_⟩
  unfold execOp
  simp only [ho,h1]
  rfl
 ·rename_i hc
  have h1 : a.eval c = .bool false := (evalO_VR tr hc).2
  refine ⟨a.eval y,evalO_VR tr hv,fun w => ?_⟩
  unfold execOp
  simp only [ho,h1]
  rfl
 ·cases hv
theorem evBin_plain {op : BinOp} {x y v : Value} (h : evBin op x y = some v) : plain x = true ∧ plain y = true ∧ plain v = true ∧ (∀ cs,x ≠ .agg cs) ∧ x ≠ .nilIface := by
 unfold evBin at h
 split at h
 ·refine ⟨rfl,rfl, ?_,fun cs => by simp,by simp⟩
  repeat' split at h
  all_goals first
   | (cases h; done)
   | (injection h with h; subst h; rfl)
 ·refine ⟨rfl,rfl, ?_,fun cs => by simp,by simp⟩
  repeat' split at h
  all_goals first
   | (cases h; done)
   | (injection h with h; subst h; rfl)
 ·cases h
theorem s_bin {o : Oper} {op : BinOp} {ty ty' : TypeId} {x y : Operand} {v : Value} (ho : o.op = .binOp op ty x y ty') (tr : TRel ρ L t a) (hv : evP P t (.bin op x y) = some v) : ∃ u,VR ρ L v u ∧ Yields0 P a o u := by
 simp only [evP] at hv
 split at hv
 ·rename_i vx vy hx hy
  obtain ⟨px,py,pv,na,ni⟩ := evBin_plain hv
  have h1 : a.eval x = vx := by rw [(evalO_VR tr hx).2,conc_zero ρ vx px]
  have h2 : a.eval y = vy := by rw [(evalO_VR tr hy).2,conc_zero ρ vy py]
  refine ⟨v,VR.plain pv,fun w => ?_⟩
  unfold execOp
  simp only [ho,h1,h2]
  simp [guard_plain w na ni,run_bin hv w]
 ·cases hv
theorem cOp_eq {k : EK} {op : BinOp} {x y : Operand} {ao : AOp} (h : eqOf k op x y = some ao) : (op = .eql ∧ ao = .eq k false x y) ∨ (op = .neq ∧ ao = .eq k true x y) := by
 unfold eqOf at h
 split at h
 ·injection h with h; exact .inl ⟨rfl,h.symm⟩
 ·injection h with h; exact .inr ⟨rfl,h.symm⟩
 ·cases h
def ekOk (P : Program) (ty : TypeId) : EK → Prop
 | .bool => P.underlying ty = some .bool
 | .ptr => ∃ e,P.underlying ty = some (.pointer e)
 | .slc => ∃ e,P.underlying ty = some (.slice e)
 | .map => ∃ k e,P.underlying ty = some (.map k e)
 | .fn => ∃ x y z,P.underlying ty = some (.func x y z)
theorem equal_one (ty : TypeId) (x y : Value) : Op.equal ty x y = Op.equalIn (9999 + 1) ty x y := rfl
theorem run_equal_ek {k : EK} {ty : TypeId} (hk : ekOk P ty k) {neg : Bool} {x y v : Value} (h : evEq k neg x y = some v) (w : World) : ∃ b,(Op.equal ty x y).run P w = .ok b w ∧ v = .bool (b != neg) := by
  unfold evEq at h
  split at h <;> first
    | (cases h; done)
    | (injection h with h
       subst h
       simp only [ekOk] at hk
       first
         | (obtain ⟨e,f,g,hk⟩ := hk; exact ⟨_,by rw [equal_one,Op.equalIn]; simp [run_underlying hk],rfl⟩)
         | (obtain ⟨e,f,hk⟩ := hk; exact ⟨_,by rw [equal_one,Op.equalIn]; simp [run_underlying hk],rfl⟩)
         | (obtain ⟨e,hk⟩ := hk; exact ⟨_,by rw [equal_one,Op.equalIn]; simp [run_underlying hk],rfl⟩)
         | exact ⟨_,by rw [equal_one,Op.equalIn]; simp [run_underlying hk],rfl⟩)
theorem evEq_plain {k : EK} {neg : Bool} {x y v : Value} (h : evEq k neg x y = some v) : (∀ cs,x ≠ .agg cs) ∧ x ≠ .nilIface ∧ (∃ b,v = .bool b) ∧ (∀ j p,x ≠ .int j p) ∧ (∀ j p,x ≠ .float j p) ∧ (∀ j p q,x ≠ .complex j p q) ∧ (∀ s,x ≠ .string s) := by
 unfold evEq at h
 split at h <;> first
  | (cases h; done)
  | (injection h with h; subst h; refine ⟨by simp,by simp,⟨_,rfl⟩,by simp,by simp,by simp,by simp⟩)
theorem conc_eqv (k : EK) (neg : Bool) (x y : Value) (ρ : Ren) : evEq k neg (conc ρ x) (conc ρ y) = evEq k neg x y := by
 have hx : ∀ z : Value,(conc ρ z = .nilFunc ↔ z = .nilFunc) := fun z => by
  cases z with
  | pointer a => cases a <;> simp [conc]
  | slice a _ _ => cases a <;> simp [conc]
  | map a => cases a <;> simp [conc]
  | chan a => cases a <;> simp [conc]
  | _ => simp [conc]
 cases x with
 | pointer a =>
  cases a <;> cases y with
  | pointer b => cases b <;> cases k <;> simp [conc,evEq]
  | slice b _ _ => cases b <;> cases k <;> simp [conc,evEq]
  | map b => cases b <;> cases k <;> simp [conc,evEq]
  | chan b => cases b <;> cases k <;> simp [conc,evEq]
  | _ => cases k <;> simp [conc,evEq]
 | slice a _ _ =>
  cases a <;> cases y with
  | pointer b => cases b <;> cases k <;> simp [conc,evEq]
  | slice b _ _ => cases b <;> cases k <;> simp [conc,evEq]
  | map b => cases b <;> cases k <;> simp [conc,evEq]
  | chan b => cases b <;> cases k <;> simp [conc,evEq]
  | _ => cases k <;> simp [conc,evEq]
 | map a =>
  cases a <;> cases y with
  | pointer b => cases b <;> cases k <;> simp [conc,evEq]
  | slice b _ _ => cases b <;> cases k <;> simp [conc,evEq]
  | map b => cases b <;> cases k <;> simp [conc,evEq]
  | chan b => cases b <;> cases k <;> simp [conc,evEq]
  | _ => cases k <;> simp [conc,evEq]
 | chan a =>
  cases a <;> cases y with
  | pointer b => cases b <;> cases k <;> simp [conc,evEq]
  | slice b _ _ => cases b <;> cases k <;> simp [conc,evEq]
  | map b => cases b <;> cases k <;> simp [conc,evEq]
  | chan b => cases b <;> cases k <;> simp [conc,evEq]
  | _ => cases k <;> simp [conc,evEq]
 | _ =>
  cases y with
  | pointer b => cases b <;> cases k <;> simp [conc,evEq]
  | slice b _ _ => cases b <;> cases k <;> simp [conc,evEq]
  | map b => cases b <;> cases k <;> simp [conc,evEq]
  | chan b => cases b <;> cases k <;> simp [conc,evEq]
  | _ => cases k <;> simp [conc,evEq]
theorem binOp_eql' {ty : TypeId} {x y : Value} (h1 : ∀ j p,x ≠ .int j p) (h2 : ∀ j p,x ≠ .float j p) (h3 : ∀ j p q,x ≠ .complex j p q) (h4 : ∀ s,x ≠ .string s) : binOp .eql ty x y = (do pure (.bool (← Op.equal ty x y))) := by
 cases x <;> first
  | exact absurd rfl (h1 _ _)
  | exact absurd rfl (h2 _ _)
  | exact absurd rfl (h3 _ _ _)
  | exact absurd rfl (h4 _)
  | rfl
theorem binOp_neq' {ty : TypeId} {x y : Value} (h1 : ∀ j p,x ≠ .int j p) (h2 : ∀ j p,x ≠ .float j p) (h3 : ∀ j p q,x ≠ .complex j p q) (h4 : ∀ s,x ≠ .string s) : binOp .neq ty x y = (do pure (.bool (!(← Op.equal ty x y)))) := by
 cases x <;> first
  | exact absurd rfl (h1 _ _)
  | exact absurd rfl (h2 _ _)
  | exact absurd rfl (h3 _ _ _)
  | exact absurd rfl (h4 _)
  | rfl
theorem s_eq {o : Oper} {op : BinOp} {ty ty' : TypeId} {x y : Operand} {k : EK} {ao : AOp} {v : Value} (ho : o.op = .binOp op ty x y ty') (hk : ekOk P ty k) (he : eqOf k op x y = some ao) (tr : TRel ρ L t a) (hv : evP P t ao = some v) : ∃ u,VR ρ L v u ∧ Yields0 P a o u := by
 rcases cOp_eq he with ⟨rfl,rfl⟩ | ⟨rfl,rfl⟩
 all_goals
  simp only [evP] at hv
  split at hv
  ·rename_i vx vy hx hy
   have e1 := (evalO_VR tr hx).2
   have e2 := (evalO_VR tr hy).2
   rw [← conc_eqv _ _ _ _ ρ,← e1,← e2] at hv
   obtain ⟨na,ni,⟨b,rfl⟩,h1,h2,h3,h4⟩ := evEq_plain hv
   refine ⟨.bool b,VR.plain rfl,fun w => ?_⟩
   obtain ⟨c,hc,hb⟩ := run_equal_ek hk hv w
   injection hb with hb
   subst hb
   unfold execOp
   simp only [ho]
   simp [guard_plain w na ni,binOp_eql' h1 h2 h3 h4,binOp_neq' h1 h2 h3 h4,hc]
  ·cases hv
theorem s_geq {o : Oper} {op : BinOp} {ty ty' : TypeId} {x y : Operand} {v : Value} (ho : o.op = .binOp op ty x y ty') (tr : TRel ρ L t a) (hv : evP P t (.geq op ty x y) = some v) : ∃ u,VR ρ L v u ∧ Yields0 P a o u := by
 simp only [evP] at hv
 split at hv
 ·rename_i vx vy hx hy
  split at hv
  ·rename_i hp
   simp only [Bool.and_eq_true] at hp
   split at hv
   ·rename_i z hz
    split at hv
    ·rename_i hpz
     injection hv with hv
     subst hv
     have h1 : a.eval x = vx := by rw [(evalO_VR tr hx).2,conc_zero ρ vx hp.1]
     have h2 : a.eval y = vy := by rw [(evalO_VR tr hy).2,conc_zero ρ vy hp.2]
     refine ⟨z,VR.plain hpz,fun w => ?_⟩
     unfold execOp
     simp only [ho,h1,h2]
     exact run_val (pureVal_run _ hz w)
    ·cases hv
   ·cases hv
  ·cases hv
 ·cases hv
theorem s_un {o : Oper} {op : UnOp} {ty : TypeId} {x : Operand} {v : Value} (ho : o.op = .unOp op ty x) (tr : TRel ρ L t a) (hv : evP P t (.un op x) = some v) : ∃ u,VR ρ L v u ∧ Yields0 P a o u := by
 simp only [evP] at hv
 split at hv
 ·rename_i vx hx
  have key : plain vx = true ∧ plain v = true ∧ ∀ w,(Op.unary op vx).run P w = .ok v w := by
   unfold evUn at hv
   split at hv <;> (try split at hv) <;> first
    | (cases hv; done)
    | (injection hv with hv; subst hv; exact ⟨rfl,rfl,fun w => by simp [Op.unary,Op.intArith,Op.intBits]⟩)
  have h1 : a.eval x = vx := by rw [(evalO_VR tr hx).2,conc_zero ρ vx key.1]
  refine ⟨v,VR.plain key.2.1,fun w => ?_⟩
  unfold execOp
  simp only [ho,h1]
  exact run_val (key.2.2 w)
 ·cases hv
theorem s_cvt {o : Oper} {src dst : TypeId} {j k : IntKind} {x : Operand} {v : Value} (ho : o.op = .convert src dst x) (hs : P.underlying src = some (.int j)) (hd : P.underlying dst = some (.int k)) (tr : TRel ρ L t a) (hv : evP P t (.cvt k x) = some v) : ∃ u,VR ρ L v u ∧ Yields0 P a o u := by
 simp only [evP] at hv
 split at hv
 ·rename_i q n hx
  injection hv with hv
  subst hv
  have h1 : a.eval x = .int q n := (evalO_VR tr hx).2
  refine ⟨_,VR.plain rfl,fun w => ?_⟩
  unfold execOp
  simp only [ho,h1]
  refine run_val ?_
  simp [convert,run_underlying hs,run_underlying hd,Conv.intToInt]
 ·cases hv
theorem szOf_info {e : TypeId} {n : Nat} (h : szOf P e = some n) : ∃ i,P.info? e = some i ∧ i.size = n := by
 unfold szOf at h
 cases hi : P.info? e with
 | none => rw [hi] at h; cases h
 | some i => rw [hi] at h; exact ⟨i,rfl,by simpa using h⟩
theorem run_sizeOf {e : TypeId} {n : Nat} (h : szOf P e = some n) (w : World) : (sizeOf e).run P w = .ok n w := by
 obtain ⟨i,hi,rfl⟩ := szOf_info h
 simp [sizeOf,typeInfo,hi]
theorem cAddr_none (ρ : Ren) (b o : Nat) : cAddr ρ ⟨b,o,none⟩ = ⟨(ρ b).blk,(ρ b).off + o,none⟩ := rfl
theorem add_none (b o n : Nat) : (⟨b,o,none⟩ : Addr).add n = ⟨b,o + n,none⟩ := by
 unfold Addr.add
 split
 ·rename_i h; subst h; rfl
 ·rfl
theorem s_off {o : Oper} {s : TypeId} {f : Nat} {x : Operand} {ao : AOp} {v : Value} (ho : o.op = .fieldAddr s x f) (hc : cOff P s x f = some ao) (tr : TRel ρ L t a) (hv : evP P t ao = some v) : ∃ u,VR ρ L v u ∧ Yields0 P a o u := by
 unfold cOff at hc
 split at hc
 ·rename_i fl hf
  split at hc
  ·rename_i n hn
   injection hc with hc
   subst hc
   simp only [evP] at hv
   split at hv
   ·rename_i b off hx
    injection hv with hv
    subst hv
    have h1 := evalO_VR tr hx
    have e1 : a.eval x = .pointer (some (cAddr ρ ⟨b,off,none⟩)) := h1.2
    refine ⟨.pointer (some ((cAddr ρ ⟨b,off,none⟩).add fl.offset)),⟨?_, ?_⟩,fun w => ?_⟩
    ·have := h1.1
     simpa [scp] using this
    ·simp [conc,cAddr_none,add_none,Nat.add_assoc]
    ·unfold cField at hf
     split at hf
     ·rename_i fs hu
      unfold execOp
      simp only [ho,e1]
      refine run_val ?_
      simp [Instr.fieldAt,run_underlying hu,hf,Instr.sureAddr,fieldPlace,run_sizeOf hn]
     ·cases hf
   ·cases hv
  ·cases hc
 ·cases hc
end
end Abs
end Go.Proofs.Ytongllppbifiaaa
namespace Go.Proofs.Ytongllppbifiaaa
namespace Abs
open Go
set_option linter.unusedVariables false
set_option linter.unusedSimpArgs false
section
variable {P : Program} {ρ : Ren} {L : Nat → Bool} {t : T} {a : Act}
theorem s_idx {o : Oper} {ty : TypeId} {x i : Operand} {ao : AOp} {v : Value} (ho : o.op = .indexAddr ty x i) (hc : cIdx P ty x i = some ao) (tr : TRel ρ L t a) (hv : evP P t ao = some v) : ∃ u,VR ρ L v u ∧ Yields0 P a o u := by
 unfold cIdx at hc
 split at hc
 ·rename_i e hu
  split at hc
  ·rename_i n hn
   injection hc with hc
   subst hc
   simp only [evP] at hv
   split at hv
   ·rename_i b off len cap j i hx hi
    split at hv
    ·rename_i hb
     injection hv with hv
     subst hv
     have h1 := evalO_VR tr hx
     have e1 : a.eval x = .slice (some (cAddr ρ ⟨b,off,none⟩)) len (cCap ρ b cap) := h1.2
     have e2 := (evalO_VR tr hi).2
     simp only [conc] at e2
     refine ⟨.pointer (some ((cAddr ρ ⟨b,off,none⟩).add (i.toNat * n))),⟨?_, ?_⟩,fun w => ?_⟩
     ·have := h1.1
      simpa [scp] using this
     ·simp [conc,cAddr_none,add_none,Nat.add_assoc]
     ·unfold execOp
      simp only [ho,e1,e2]
      refine run_val ?_
      simp [Instr.indexAt,asIntOf,run_underlying hu,hb,run_sizeOf hn]
    ·cases hv
   ·cases hv
  ·cases hc
 ·rename_i len e hu
  split at hc
  ·rename_i n hn
   injection hc with hc
   subst hc
   simp only [evP] at hv
   split at hv
   ·rename_i b off j i hx hi
    split at hv
    ·rename_i hb
     injection hv with hv
     subst hv
     have h1 := evalO_VR tr hx
     have e1 : a.eval x = .pointer (some (cAddr ρ ⟨b,off,none⟩)) := h1.2
     have e2 := (evalO_VR tr hi).2
     simp only [conc] at e2
     refine ⟨.pointer (some ((cAddr ρ ⟨b,off,none⟩).add (i.toNat * n))),⟨?_, ?_⟩,fun w => ?_⟩
     ·have := h1.1
      simpa [scp] using this
     ·simp [conc,cAddr_none,add_none,Nat.add_assoc]
     ·unfold execOp
      simp only [ho,e1,e2]
      refine run_val ?_
      simp [Instr.indexAt,asIntOf,run_underlying hu,hb,run_sizeOf hn,Instr.sureAddr]
    ·cases hv
   ·cases hv
  ·cases hc
 ·cases hc
theorem scpA_get {L : Nat → Bool} {cs : Array Value} {i : Nat} {v : Value} (h : scpA L cs = true) (hv : cs[i]? = some v) : scp L v = true := by
 rw [scpA_all,List.all_eq_true] at h
 exact h v (by have := Array.mem_of_getElem? hv; simpa using this)
theorem s_ext {o : Oper} {x : Operand} {n : Nat} {v : Value} (ho : o.op = .extract x n) (tr : TRel ρ L t a) (hv : evP P t (.ext n x) = some v) : ∃ u,VR ρ L v u ∧ Yields0 P a o u := by
 simp only [evP] at hv
 split at hv
 ·rename_i vs hx
  have h1 := evalO_VR tr hx
  have e1 : a.eval x = .tuple (concA ρ vs) := h1.2
  refine ⟨conc ρ v,⟨?_,rfl⟩,fun w => ?_⟩
  ·have := h1.1
   simp only [scp] at this
   exact scpA_get this hv
  ·unfold execOp
   simp only [ho,e1]
   refine run_val ?_
   simp [Instr.extract,concA_map,hv]
 ·cases hv
theorem scpA_extract {L : Nat → Bool} {cs : Array Value} (i j : Nat) (h : scpA L cs = true) : scpA L (cs.extract i j) = true := by
 rw [scpA_all,List.all_eq_true] at h ⊢
 intro v hv
 refine h v ?_
 rw [Array.toList_extract] at hv
 exact List.mem_of_mem_drop (List.mem_of_mem_take hv)
theorem aggOf_run {ty : TypeId} {r : Option Nat} (h : aggOf P ty = some r) (w : World) : (isAgg ty).run P w = .ok r.isSome w ∧ ∀ n,r = some n → (sizeOf ty).run P w = .ok n w := by
 unfold aggOf at h
 split at h
 ·rename_i fs i hu hi
  injection h with h
  subst h
  exact ⟨by simp [isAgg,run_underlying hu],fun n hn => by injection hn with hn; subst hn; simp [sizeOf,typeInfo,hi]⟩
 ·rename_i k e i hu hi
  injection h with h
  subst h
  exact ⟨by simp [isAgg,run_underlying hu],fun n hn => by injection hn with hn; subst hn; simp [sizeOf,typeInfo,hi]⟩
 ·rename_i d i hn1 hn2 hu hi
  injection h with h
  subst h
  refine ⟨?_,fun n hn => by cases hn⟩
  simp only [isAgg,Sem.run_bind,run_underlying hu,Result.andThen_ok]
  cases d <;> first | rfl | exact absurd rfl (hn1 _ _ rfl) | exact absurd rfl (hn2 _ _ _ rfl) | exact absurd hu (hn1 _ _ hu) | skip
  all_goals simp_all
 ·cases h
theorem s_part {o : Oper} {s : TypeId} {f : Nat} {x : Operand} {ao : AOp} {v : Value} (ho : o.op = .field s x f) (hc : cPart P s x f = some ao) (tr : TRel ρ L t a) (hv : evP P t ao = some v) : ∃ u,VR ρ L v u ∧ Yields0 P a o u := by
 unfold cPart at hc
 split at hc
 ·rename_i fl hf
  split at hc
  ·rename_i r hr
   injection hc with hc
   subst hc
   unfold cField at hf
   split at hf
   ·rename_i fs hu
    have hag := fun w => aggOf_run hr w
    cases r with
    | none =>
     simp only [evP] at hv
     split at hv
     ·rename_i cs hx
      have h1 := evalO_VR tr hx
      have e1 : a.eval x = .agg (concA ρ cs) := h1.2
      refine ⟨conc ρ v,⟨?_,rfl⟩,fun w => ?_⟩
      ·have := h1.1
       simp only [scp] at this
       exact scpA_get this hv
      ·unfold execOp
       simp only [ho,e1]
       refine run_val ?_
       simp [Instr.field,run_underlying hu,hf,asAgg,part,(hag w).1,concA_map,hv]
     ·cases hv
    | some n =>
     simp only [evP] at hv
     split at hv
     ·rename_i cs hx
      injection hv with hv
      subst hv
      have h1 := evalO_VR tr hx
      have e1 : a.eval x = .agg (concA ρ cs) := h1.2
      refine ⟨_,⟨?_,rfl⟩,fun w => ?_⟩
      ·have := h1.1
       simp only [scp] at this ⊢
       exact scpA_extract _ _ this
      ·unfold execOp
       simp only [ho,e1]
       refine run_val ?_
       simp [Instr.field,run_underlying hu,hf,asAgg,part,(hag w).1,(hag w).2 n rfl,conc,concA_map]
     ·cases hv
   ·cases hf
  ·cases hc
 ·cases hc
theorem s_partI {o : Oper} {ty : TypeId} {x i : Operand} {ao : AOp} {v : Value} (ho : o.op = .index ty x i) (hc : cPartI P ty x i = some ao) (tr : TRel ρ L t a) (hv : evP P t ao = some v) : ∃ u,VR ρ L v u ∧ Yields0 P a o u := by
 unfold cPartI at hc
 split at hc
 ·rename_i len e hu
  split at hc
  ·rename_i hr
   split at hc
   ·rename_i n hn
    injection hc with hc
    subst hc
    simp only [evP] at hv
    split at hv
    ·rename_i cs j i hx hi
     split at hv
     ·rename_i hb
      have h1 := evalO_VR tr hx
      have e1 : a.eval x = .agg (concA ρ cs) := h1.2
      have e2 := (evalO_VR tr hi).2
      simp only [conc] at e2
      have hag := fun w => aggOf_run hr w
      simp only [Bool.false_eq_true,if_false] at hv
      refine ⟨_,⟨?_,rfl⟩,fun w => ?_⟩
      ·have := h1.1
       simp only [scp] at this ⊢
       exact scpA_get this hv
      ·unfold execOp
       simp only [ho,e1,e2]
       refine run_val ?_
       simp [Instr.index,asIntOf,run_underlying hu,hb,part,(hag w).1,run_sizeOf hn,conc,concA_map,hv]
     ·cases hv
    ·cases hv
   ·cases hc
  ·rename_i n hr
   injection hc with hc
   subst hc
   simp only [evP] at hv
   split at hv
   ·rename_i cs j i hx hi
    split at hv
    ·rename_i hb
     have h1 := evalO_VR tr hx
     have e1 : a.eval x = .agg (concA ρ cs) := h1.2
     have e2 := (evalO_VR tr hi).2
     simp only [conc] at e2
     have hag := fun w => aggOf_run hr w
     simp only [if_true] at hv
     injection hv with hv
     subst hv
     refine ⟨_,⟨?_,rfl⟩,fun w => ?_⟩
     ·have := h1.1
      simp only [scp] at this ⊢
      exact scpA_extract _ _ this
     ·unfold execOp
      simp only [ho,e1,e2]
      refine run_val ?_
      simp [Instr.index,asIntOf,run_underlying hu,hb,part,(hag w).1,(hag w).2 n rfl,conc,concA_map]
    ·cases hv
   ·cases hv
  ·cases hc
 ·rename_i hu
  injection hc with hc
  subst hc
  simp only [evP] at hv
  split at hv
  ·rename_i s j i hx hi
   split at hv
   ·rename_i hb
    split at hv
    ·rename_i b hs
     injection hv with hv
     subst hv
     have e1 := (evalO_VR tr hx).2
     have e2 := (evalO_VR tr hi).2
     simp only [conc] at e1 e2
     refine ⟨_,VR.plain rfl,fun w => ?_⟩
     unfold execOp
     simp only [ho,e1,e2]
     refine run_val ?_
     have hs2 : s[i.toNat]? = some b := by
      have hlt : i.toNat < s.data.size := (Array.getElem?_eq_some_iff.1 hs).1
      have := (Array.getElem?_eq_some_iff.1 hs).2
      rw [getElem?_pos s i.toNat hlt]
      exact congrArg some this
     simp [Instr.index,asIntOf,run_underlying hu,hb,hs2]
    ·cases hv
   ·cases hv
  ·cases hv
 ·cases hc
theorem optI_run {x : Option Operand} {r : Option Int} (tr : TRel ρ L t a) (h : optI t x = some r) : (x = none ∧ r = none) ∨ ∃ z j n,x = some z ∧ r = some n ∧ a.eval z = .int j n := by
 unfold optI at h
 split at h
 ·injection h with h
  exact .inl ⟨rfl,h.symm⟩
 ·rename_i z
  split at h
  ·rename_i j n hz
   injection h with h
   exact .inr ⟨z,j,n,rfl,h.symm,(evalO_VR tr hz).2⟩
  ·cases h
theorem sliceBound_run {j : IntKind} {i : Int} {y : Nat} {c : BoundsCode} (h : 0 ≤ i ∧ i ≤ y) (w : World) : (Instr.sliceBound (.int j i) y c).run P w = .ok i.toNat w := by
 simp [Instr.sliceBound,asIntOf,h]
theorem bnd_inv {v : Option Int} {d y r : Nat} (h : bnd v d y = some r) : (v = none ∧ r = d) ∨ ∃ z,v = some z ∧ (0 ≤ z ∧ z ≤ y) ∧ r = z.toNat := by
 unfold bnd at h
 split at h
 ·split at h
  ·rename_i z hz
   injection h with h
   exact .inr ⟨z,rfl,hz,h.symm⟩
  ·cases h
 ·injection h with h
  exact .inl ⟨rfl,h.symm⟩
theorem evBounds_inv {len cap : Nat} {lo hi mx : Option Int} {l h m : Nat} (hb : evBounds len cap lo hi mx = some (l,h,m)) : bnd mx cap cap = some m ∧ ¬ (hi = none ∧ mx ≠ none) ∧ bnd hi len m = some h ∧ bnd lo 0 h = some l := by
 unfold evBounds at hb
 split at hb
 ·cases hb
 ·rename_i m' hm
  split at hb
  ·cases hb
  ·rename_i hn
   split at hb
   ·cases hb
   ·rename_i h' hh
    split at hb
    ·cases hb
    ·rename_i l' hl
     injection hb with hb
     injection hb with q1 hb
     injection hb with q2 q3
     subst q1 q2 q3
     exact ⟨hm,hn,hh,hl⟩
theorem evBounds_le {len cap : Nat} {lo hi mx : Option Int} {l h m : Nat} (hb : evBounds len cap lo hi mx = some (l,h,m)) (hl : len ≤ cap) : l ≤ h ∧ h ≤ m ∧ m ≤ cap ∧ (mx = none → m = cap) := by
 obtain ⟨h1,hn,h2,h3⟩ := evBounds_inv hb
 rcases bnd_inv h1 with ⟨rfl,rfl⟩ | ⟨z1,rfl,q1,rfl⟩
 ·rcases bnd_inv h2 with ⟨rfl,rfl⟩ | ⟨z2,rfl,q2,rfl⟩ <;> rcases bnd_inv h3 with ⟨rfl,rfl⟩ | ⟨z3,rfl,q3,rfl⟩ <;> simp <;> omega
 ·rcases bnd_inv h2 with ⟨rfl,rfl⟩ | ⟨z2,rfl,q2,rfl⟩
  ·exact absurd ⟨rfl,by simp⟩ hn
  ·rcases bnd_inv h3 with ⟨rfl,rfl⟩ | ⟨z3,rfl,q3,rfl⟩ <;> simp <;> omega
theorem evBounds_m {len cap : Nat} {lo hi mx : Option Int} {l h m : Nat} (hb : evBounds len cap lo hi mx = some (l,h,m)) : m ≤ cap := by
 obtain ⟨g1,_⟩ := evBounds_inv hb
 rcases bnd_inv g1 with ⟨_,rfl⟩ | ⟨z,_,q,rfl⟩ <;> omega
theorem evBounds_more {len c c' : Nat} {lo hi : Option Int} {z : Int} {x : Nat × Nat × Nat} (hb : evBounds len c lo hi (some z) = some x) (hc : c ≤ c') : evBounds len c' lo hi (some z) = some x := by
 obtain ⟨l,h,m⟩ := x
 obtain ⟨g1,gn,g2,g3⟩ := evBounds_inv hb
 have g1' : bnd (some z) c' c' = some m := by
  rcases bnd_inv g1 with ⟨h,_⟩ | ⟨z,h,q,rfl⟩
  ·cases h
  ·injection h with h
   subst h
   simp only [bnd]
   rw [if_pos (by omega)]
 have : hi ≠ none := fun e => gn ⟨e,by simp⟩
 unfold evBounds
 simp [g1', g2, g3, this]
theorem bounds_run {isS : Bool} {len cap : Nat} {lo hi mx : Option Operand} {rl rh rm : Option Int} {l h m : Nat} (tr : TRel ρ L t a) (h1 : optI t lo = some rl) (h2 : optI t hi = some rh) (h3 : optI t mx = some rm)
  (hb : evBounds len cap rl rh rm = some (l,h,m)) (w : World) : (Instr.sliceBounds isS len cap (lo.map a.eval) (hi.map a.eval) (mx.map a.eval)).run P w = .ok (l,h,m) w := by
 obtain ⟨g1,hn,g2,g3⟩ := evBounds_inv hb
 rcases optI_run tr h3 with ⟨rfl,rfl⟩ | ⟨z3,j3,n3,rfl,rfl,e3⟩ <;> rcases bnd_inv g1 with ⟨u1,rfl⟩ | ⟨z1,u1,q1,rfl⟩ <;> (try cases u1) <;>
 rcases optI_run tr h2 with ⟨rfl,rfl⟩ | ⟨z2,j2,n2,rfl,rfl,e2⟩ <;> rcases bnd_inv g2 with ⟨u2,rfl⟩ | ⟨z1,u2,q2,rfl⟩ <;> (try cases u2) <;>
 rcases optI_run tr h1 with ⟨rfl,rfl⟩ | ⟨z1,j1,n1,rfl,rfl,e1⟩ <;> rcases bnd_inv g3 with ⟨u3,rfl⟩ | ⟨z1,u3,q3,rfl⟩ <;> (try cases u3)
 all_goals first
  | (simp [Instr.sliceBounds]; done)
  | (simp [Instr.sliceBounds,e1,sliceBound_run q3]; done)
  | (simp [Instr.sliceBounds,e2,sliceBound_run q2]; done)
  | (simp [Instr.sliceBounds,e1,e2,sliceBound_run q2,sliceBound_run q3]; done)
  | (simp [Instr.sliceBounds,e2,e3,sliceBound_run q1,sliceBound_run q2]; done)
  | (simp [Instr.sliceBounds,e1,e2,e3,sliceBound_run q1,sliceBound_run q2,sliceBound_run q3]; done)
  | (exfalso; apply hn; simp; done)
theorem sliceAt_slice {ty e : TypeId} {n : Nat} (hu : P.underlying ty = some (.slice e)) (hn : szOf P e = some n) {ad : Option Addr} {len cap : Nat} {lo hi mx : Option Value} {l h m : Nat} {w : World} (hb : (Instr.sliceBounds true len cap lo hi mx).run P w = .ok (l,h,m) w) :
  (Instr.sliceAt ty (.slice ad len cap) lo hi mx).run P w = .ok (.slice (if m = l then ad else ad.map (·.add (l * n))) (h - l) (m - l)) w := by
 simp [Instr.sliceAt,Instr.slice,run_underlying hu,hb,run_sizeOf hn]
theorem s_sub {o : Oper} {ty e : TypeId} {n : Nat} {x : Operand} {lo hi mx : Option Operand} {v : Value} (ho : o.op = .slice ty x lo hi mx) (hu : P.underlying ty = some (.slice e)) (hn : szOf P e = some n) (tr : TRel ρ L t a) (hv : evP P t (.sub n x lo hi mx) = some v) : ∃ u,VR ρ L v u ∧ Yields0 P a o u := by
 have run : ∀ {ad : Option Addr} {len cap l h m : Nat},a.eval x = .slice ad len cap → (∀ w,(Instr.sliceBounds true len cap (lo.map a.eval) (hi.map a.eval) (mx.map a.eval)).run P w = .ok (l,h,m) w) → Yields0 P a o (.slice (if m = l then ad else ad.map (·.add (l * n))) (h - l) (m - l)) := by
  intro ad len cap l h m hx hb w
  unfold execOp
  simp only [ho,hx]
  exact run_val (sliceAt_slice hu hn (hb w))
 simp only [evP] at hv
 split at hv
 ·rename_i b off len cap rl rh rm hx h1 h2 h3
  have vr := evalO_VR tr hx
  have hL : L b = true := by simpa [scp] using vr.1
  have e1 : a.eval x = .slice (some ⟨(ρ b).blk,(ρ b).off + off,none⟩) len (cCap ρ b cap) := vr.2
  split at hv
  ·rename_i hcap
   split at hv
   ·rename_i l h m hb
    injection hv with hv
    subst hv
    have hc : cCap ρ b cap = cap := by simp [cCap,hcap]
    rw [hc] at e1
    have hm : m ≤ cap := by
     obtain ⟨g1,_⟩ := evBounds_inv hb
     rcases bnd_inv g1 with ⟨_,rfl⟩ | ⟨z,_,q,rfl⟩ <;> omega
    refine ⟨_,⟨by simpa [scp] using hL, ?_⟩,run e1 (fun w => bounds_run tr h1 h2 h3 hb w)⟩
    have hc2 : cCap ρ b (m - l) = m - l := by simp [cCap]; omega
    simp only [conc,hc2,cAddr_none]
    split
    ·rfl
    ·simp [add_none,Nat.add_assoc]
   ·cases hv
  ·rename_i hcap
   split at hv
   ·rename_i hlen
    split at hv
    ·rename_i rm' _
     split at hv
     ·rename_i l h m hb
      injection hv with hv
      subst hv
      have hc : cCap ρ b cap = cap - OPEN + (ρ b).slack := by simp [cCap,hcap]
      have hle := evBounds_le hb (Nat.le_refl _)
      have hb' : evBounds len (cCap ρ b cap) rl rh none = some (l,h,cCap ρ b cap) := by
       obtain ⟨g1,gn,g2,g3⟩ := evBounds_inv hb
       have g1' : bnd none (cCap ρ b cap) (cCap ρ b cap) = some (cCap ρ b cap) := rfl
       have g2' : bnd rh len (cCap ρ b cap) = some h := by
        rcases bnd_inv g2 with ⟨rfl,rfl⟩ | ⟨z,rfl,q,rfl⟩
        ·rfl
        ·have : m = len := hle.2.2.2 rfl
         simp only [bnd]
         rw [if_pos (by omega)]
       unfold evBounds
       simp [g1', g2', g3]
      have hmx : mx = none := by
       rcases optI_run tr h3 with ⟨q,_⟩ | ⟨_,_,_,_,q,_⟩
       ·exact q
       ·cases q
      refine ⟨_,⟨?_, ?_⟩,run e1 (fun w => bounds_run tr h1 h2 h3 hb' w)⟩
      ·split <;> simpa [scp] using hL
      ·have hc2 : cCap ρ b (cap - l) = cCap ρ b cap - l := by
        rw [hc]
        simp only [cCap]
        rw [if_neg (by omega)]
        omega
       have hm : m = len := hle.2.2.2 rfl
       by_cases hlt : l < cap - OPEN
       ·have h5 : ¬ cCap ρ b cap = l := by omega
        simp only [if_pos hlt,if_neg h5,conc,hc2,cAddr_none,Option.map_some,add_none,Nat.add_assoc]
       ·have k1 : ¬ (2 * (l * n)) % 2 = 1 := by omega
        have k2 : 2 * (l * n) / 2 = l * n := by omega
        by_cases hs : (ρ b).slack = 0
        ·have h5 : cCap ρ b cap = l := by omega
         simp only [if_neg hlt,if_pos h5,conc,hc2,cAddr,hs,k1,k2,↓reduceIte,Nat.add_zero]
        ·have h5 : ¬ cCap ρ b cap = l := by omega
         simp only [if_neg hlt,if_neg h5,conc,hc2,cAddr,hs,k1,k2,↓reduceIte,Option.map_some,add_none,Nat.add_assoc]
     ·cases hv
    ·rename_i rm' zm
     split at hv
     ·rename_i l h m hb
      split at hv
      case isFalse => cases hv
      rename_i hmo
      injection hv with hv
      subst hv
      have hc : cCap ρ b cap = cap - OPEN + (ρ b).slack := by simp [cCap,hcap]
      have hm : m ≤ cap - OPEN := evBounds_m hb
      have hb' : evBounds len (cCap ρ b cap) rl rh (some zm) = some (l,h,m) := evBounds_more hb (by rw [hc]; exact Nat.le_add_right _ _)
      refine ⟨_,⟨by simpa [scp] using hL, ?_⟩,run e1 (fun w => bounds_run tr h1 h2 h3 hb' w)⟩
      have hc2 : cCap ρ b (m - l) = m - l := by simp [cCap]; omega
      simp only [conc,hc2,cAddr_none]
      split
      ·rfl
      ·simp [add_none,Nat.add_assoc]
     ·cases hv
   ·cases hv
 ·rename_i len cap rl rh rm hx h1 h2 h3
  have vr := evalO_VR tr hx
  have e1 : a.eval x = .slice none len cap := vr.2
  split at hv
  ·split at hv
   ·rename_i l h m hb
    injection hv with hv
    subst hv
    refine ⟨_,⟨by simp [scp], ?_⟩,run e1 (fun w => bounds_run tr h1 h2 h3 hb w)⟩
    simp [conc]
   ·cases hv
  ·cases hv
 ·rename_i b off d len cap rl rh rm hx h1 h2 h3
  have vr := evalO_VR tr hx
  split at hv
  case isFalse => cases hv
  rename_i hcap
  have e0 : ∀ k c,c < OPEN → conc ρ (.slice (some ⟨b,off,some d⟩) k c) = .slice (some (cAddr ρ ⟨b,off,some d⟩)) k c := fun k c hc => by simp [conc,cCap,hc]
  have e1 : a.eval x = .slice (some (cAddr ρ ⟨b,off,some d⟩)) len cap := vr.2.trans (e0 _ _ hcap)
  have hL : L b = true := by simpa [scp] using vr.1
  split at hv
  ·rename_i l h m hb
   split at hv
   case isFalse => cases hv
   rename_i hl
   injection hv with hv
   subst hv
   subst hl
   have hm : m ≤ cap := by
    obtain ⟨g1,_⟩ := evBounds_inv hb
    rcases bnd_inv g1 with ⟨_,rfl⟩ | ⟨z,_,q,rfl⟩ <;> omega
   refine ⟨_,⟨by simpa [scp] using hL, ?_⟩,run e1 (fun w => bounds_run tr h1 h2 h3 hb w)⟩
   rw [e0 _ _ (by omega)]
   split
   ·simp
   ·simp [Addr.add]
  ·cases hv
 ·cases hv
theorem s_subA {o : Oper} {ty e : TypeId} {len n : Nat} {x : Operand} {lo hi mx : Option Operand} {v : Value} (ho : o.op = .slice ty x lo hi mx) (hu : P.underlying ty = some (.array len e)) (hn : szOf P e = some n) (tr : TRel ρ L t a) (hv : evP P t (.subA len n x lo hi mx) = some v) : ∃ u,VR ρ L v u ∧ Yields0 P a o u := by
 simp only [evP] at hv
 split at hv
 ·rename_i b off rl rh rm hx h1 h2 h3
  split at hv
  ·rename_i hlen
   split at hv
   ·rename_i l h m hb
    injection hv with hv
    subst hv
    have vr := evalO_VR tr hx
    have e1 : a.eval x = .pointer (some ⟨(ρ b).blk,(ρ b).off + off,none⟩) := vr.2
    have hm : m ≤ len := (evBounds_le hb (Nat.le_refl _)).2.2.1
    refine ⟨.slice (some (if m = l then ⟨(ρ b).blk,(ρ b).off + off,none⟩ else (⟨(ρ b).blk,(ρ b).off + off,none⟩ : Addr).add (l * n))) (h - l) (m - l),⟨by simpa [scp] using vr.1, ?_⟩,fun w => ?_⟩
    ·have hc2 : cCap ρ b (m - l) = m - l := by simp [cCap]; omega
     simp only [conc,hc2,cAddr_none]
     split
     ·rfl
     ·simp [add_none,Nat.add_assoc]
    ·unfold execOp
     simp only [ho,e1]
     refine run_val ?_
     simp [Instr.sliceAt,run_underlying hu,Instr.sureAddr,bounds_run tr h1 h2 h3 hb,run_sizeOf hn]
   ·cases hv
  ·cases hv
 ·cases hv
theorem s_subS {o : Oper} {ty : TypeId} {x : Operand} {lo hi : Option Operand} {v : Value} (ho : o.op = .slice ty x lo hi none) (hu : P.underlying ty = some .string) (tr : TRel ρ L t a) (hv : evP P t (.subS x lo hi) = some v) : ∃ u,VR ρ L v u ∧ Yields0 P a o u := by
 simp only [evP] at hv
 split at hv
 ·rename_i s rl rh hx h1 h2
  split at hv
  ·rename_i l h m hb
   injection hv with hv
   subst hv
   have vr := evalO_VR tr hx
   have e1 : a.eval x = .string s := vr.2
   refine ⟨_,VR.plain rfl,fun w => ?_⟩
   unfold execOp
   simp only [ho,e1]
   refine run_val ?_
   have := bounds_run (P := P) (isS := false) tr h1 h2 (mx := none) (rm := none) rfl hb w
   simp at this
   simp [Instr.sliceAt,Instr.slice,run_underlying hu,this]
  ·cases hv
 ·cases hv
theorem s_nilck {o : Oper} {x : Operand} {v : Value} (ho : o.op = .nilCheck x) (tr : TRel ρ L t a) (hv : evP P t (.nilck x) = some v) : ∃ u,VR ρ L v u ∧ Yields0 P a o u := by
 simp only [evP] at hv
 split at hv
 ·rename_i ad hx
  injection hv with hv
  subst hv
  have vr := evalO_VR tr hx
  have e1 : a.eval x = .pointer (some (cAddr ρ ad)) := vr.2
  refine ⟨_,vr,fun w => ?_⟩
  unfold execOp
  simp only [ho,e1]
  rfl
 ·cases hv
theorem evalL_VR {l : List Operand} {vs : List Value} (tr : TRel ρ L t a) (h : evalL t l = some vs) : l.map a.eval = vs.map (conc ρ) ∧ scpL L vs = true := by
 induction l generalizing vs with
 | nil =>
  simp only [evalL] at h
  injection h with h
  subst h
  exact ⟨rfl,rfl⟩
 | cons x l ih =>
  simp only [evalL] at h
  split at h
  ·rename_i v us hx hl
   injection h with h
   subst h
   have h1 := evalO_VR tr hx
   obtain ⟨h2,h3⟩ := ih hl
   exact ⟨by simp [h1.2,h2],by simp [scpL,h1.1,h3]⟩
  ·cases h
theorem s_fn {o : Oper} {f : Fn} {first captured : Array Operand} {v : Value} (ho : o.op = .makeFunc f first captured) (tr : TRel ρ L t a) (hv : evP P t (.fn f first.toList captured.toList) = some v) : ∃ u,VR ρ L v u ∧ Yields0 P a o u := by
 simp only [evP] at hv
 split at hv
 ·rename_i vs us h1 h2
  injection hv with hv
  subst hv
  obtain ⟨q1,q2⟩ := evalL_VR tr h1
  obtain ⟨q3,q4⟩ := evalL_VR tr h2
  refine ⟨.func f (first.map a.eval) (captured.map a.eval),⟨by simp [scp,scpA,q2,q4], ?_⟩,fun w => ?_⟩
  ·have e1 : first.map a.eval = (vs.map (conc ρ)).toArray := by rw [← q1,← List.map_toArray]
   have e2 : captured.map a.eval = (us.map (conc ρ)).toArray := by rw [← q3,← List.map_toArray]
   rw [e1,e2]
   simp [conc,concA,concL_map]
  ·unfold execOp
   simp only [ho]
   exact run_val rfl
 ·cases hv
theorem exec_builtin {o : Oper} {b : Builtin} {args : Array Operand} {tys : Array TypeId} (ho : o.op = .call { callee := .builtin b,args := args,argTypes := tys }) :
  execOp a.eval o = builtin b tys o.type (args.map fun | .const _ => true | _ => false) (args.map a.eval) := by
 unfold execOp
 simp only [ho,resolve,invoke]
 rfl
theorem s_len {o : Oper} {ty : TypeId} {x : Operand} {e : TypeId} {v : Value} (ho : o.op = .call { callee := .builtin .len,args := #[x],argTypes := #[ty] }) (hu : P.underlying ty = some (.slice e)) (tr : TRel ρ L t a) (hv : evP P t (.len x) = some v) : ∃ u,VR ρ L v u ∧ Yields0 P a o u := by
 simp only [evP] at hv
 split at hv
 ·rename_i ad n c hx
  injection hv with hv
  subst hv
  have vr := evalO_VR tr hx
  obtain ⟨ad', c', e1⟩ : ∃ ad' c', a.eval x = .slice ad' n c' := by
   rw [vr.2]
   cases ad
   ·exact ⟨none,c,rfl⟩
   ·exact ⟨_,_,rfl⟩
  refine ⟨_,VR.plain rfl,fun w => ?_⟩
  rw [exec_builtin ho]
  simp [builtin,e1,Builtin.len_,run_underlying hu,goInt]
 ·cases hv
theorem s_lenS {o : Oper} {ty : TypeId} {x : Operand} {v : Value} (ho : o.op = .call { callee := .builtin .len,args := #[x],argTypes := #[ty] }) (hu : P.underlying ty = some .string) (tr : TRel ρ L t a) (hv : evP P t (.lenS x) = some v) : ∃ u,VR ρ L v u ∧ Yields0 P a o u := by
 simp only [evP] at hv
 split at hv
 ·rename_i s hx
  injection hv with hv
  subst hv
  have e1 : a.eval x = .string s := (evalO_VR tr hx).2
  refine ⟨_,VR.plain rfl,fun w => ?_⟩
  rw [exec_builtin ho]
  simp [builtin,e1,Builtin.len_,run_underlying hu,goInt]
 ·cases hv
theorem s_alen {o : Oper} {ty e : TypeId} {n : Nat} {x : Operand} {v : Value} (ho : o.op = .call { callee := .builtin .len,args := #[x],argTypes := #[ty] }) (hu : P.underlying ty = some (.array n e)) (hv : evP P t (.alen n) = some v) : ∃ u,VR ρ L v u ∧ Yields0 P a o u := by
 simp only [evP] at hv
 injection hv with hv
 subst hv
 refine ⟨_,VR.plain rfl,fun w => ?_⟩
 rw [exec_builtin ho]
 simp [builtin,Builtin.len_,run_underlying hu,goInt]
theorem mm_run {mx : Bool} : ∀ (l : List Value) (k : IntKind) (n : Int) (v : Value),evMmL mx k n l = some v → scpL nil l = true ∧ plain v = true ∧ ∀ w,(l.foldlM (if mx then Builtin.max2 else Builtin.min2) (.int k n)).run P w = .ok v w := by
 intro l
 induction l with
 | nil =>
  intro k n v h
  simp only [evMmL] at h
  injection h with h
  subst h
  exact ⟨rfl,rfl,fun w => rfl⟩
 | cons x l ih =>
  intro k n v h
  cases x with
  | int j b =>
   simp only [evMmL] at h
   obtain ⟨h1,h2,h3⟩ := ih _ _ _ h
   refine ⟨by simp [scpL,scp,h1],h2,fun w => ?_⟩
   rw [List.foldlM_cons]
   have := h3 w
   cases mx <;> simp_all [Builtin.max2,Builtin.min2]
  | _ => simp [evMmL] at h
theorem s_mm {o : Oper} {mx : Bool} {args : Array Operand} {tys : Array TypeId} {v : Value} (ho : o.op = .call { callee := .builtin (if mx then .max else .min),args := args,argTypes := tys }) (tr : TRel ρ L t a) (hv : evP P t (.mm mx args.toList) = some v) : ∃ u,VR ρ L v u ∧ Yields0 P a o u := by
 simp only [evP] at hv
 split at hv
 ·rename_i vs hl
  obtain ⟨q1,q2⟩ := evalL_VR tr hl
  unfold evMm at hv
  split at hv
  ·rename_i k n rest
   obtain ⟨h1,h2,h3⟩ := mm_run (P := P) rest k n v hv
   refine ⟨v,VR.plain h2,fun w => ?_⟩
   rw [exec_builtin ho]
   have e1 : args.map a.eval = (Value.int k n :: rest).toArray := by
    have : args.toList.map a.eval = Value.int k n :: rest := by
     rw [q1]
     simp only [List.map_cons,conc,List.cons.injEq,true_and]
     have key : ∀ l : List Value,scpL nil l = true → l.map (conc ρ) = l := fun l => by
      induction l with
      | nil => intro _; rfl
      | cons x l ih => intro h; simp only [scpL,Bool.and_eq_true] at h; simp [conc_zero ρ x h.1,ih h.2]
     exact key rest h1
    rw [← this,← List.map_toArray]
   rw [e1]
   have := h3 w
   cases mx <;> simp_all [builtin,Builtin.max_,Builtin.min_]
  ·cases hv
 ·cases hv
end
end Abs
end Go.Proofs.Ytongllppbifiaaa
namespace Go.Proofs.Ytongllppbifiaaa
namespace Abs
open Go
set_option linter.unusedVariables false
set_option linter.unusedSimpArgs false
def cParts (place : Nat → Option (Nat × Nat)) : List (Nat × Operand) → Option (List (Nat × Nat × Operand))
 | [] => some []
 | (i,x) :: l => match place i,cParts place l with
  | some (o,n),some r => some ((o,n,x) :: r)
  | _,_ => none
def zeroOf (P : Program) (t : TypeId) : Option (List Value) := match P.info? t with
 | some i => match i.zero with
  | some z => if scpA nil z.cells then some z.cells.toList else none
  | none => none
 | none => none
def placesOf (P : Program) (fields : Array Field) : Array (Nat × Nat) := fields.map fun f => (f.offset,(szOf P f.type).getD 0)
def cBuild (P : Program) (t : TypeId) (parts : List (Nat × Operand)) : Option AOp := match P.underlying t,zeroOf P t with
 | some (.struct fields),some z => if fields.toList.all (fun f => (szOf P f.type).isSome) then match cParts ((placesOf P fields)[·]?) parts with
   | some cp => some (.agg z cp)
   | none => none
  else none
 | some (.array _ e),some z => match szOf P e with
  | some n => match cParts (fun i => some (i * n,n)) parts with
   | some cp => some (.agg z cp)
   | none => none
  | none => none
 | _,_ => none
section
variable {P : Program} {ρ : Ren} {L : Nat → Bool} {t : T} {a : Act}
theorem fold_set (off : Nat) : ∀ (vs : List Value) (k : Nat) (cs : List Value),off + k + vs.length ≤ cs.length →
  (vs.zipIdx k).foldl (fun (cs : Array Value) (x : Value × Nat) => cs.setIfInBounds (off + x.2) x.1) cs.toArray = (cs.take (off + k) ++ vs ++ cs.drop (off + k + vs.length)).toArray := by
 intro vs
 induction vs with
 | nil => intro k cs h; simp
 | cons v vs ih =>
  intro k cs h
  simp only [List.length_cons] at h
  have e : (cs.toArray.setIfInBounds (off + k) v) = (cs.set (off + k) v).toArray := by simp
  rw [List.zipIdx_cons,List.foldl_cons]
  simp only []
  rw [e,ih (k + 1) (cs.set (off + k) v) (by simp; omega)]
  congr 1
  have h1 : (cs.set (off + k) v).take (off + (k + 1)) = cs.take (off + k) ++ [v] := by
   rw [← Nat.add_assoc,List.take_add_one,List.take_set_of_le (by omega),List.getElem?_set_self (by omega)]
   rfl
  rw [h1,List.drop_set_of_lt (by omega)]
  simp [Nat.add_assoc,Nat.add_comm 1]
theorem scpL_append (L : Nat → Bool) (l k : List Value) : scpL L (l ++ k) = (scpL L l && scpL L k) := by
 induction l with
 | nil => simp [scpL]
 | cons x l ih => simp [scpL,ih,Bool.and_assoc]
theorem scpL_take {L : Nat → Bool} {l : List Value} (n : Nat) (h : scpL L l = true) : scpL L (l.take n) = true := by
 rw [scpL_all,List.all_eq_true] at h ⊢
 exact fun v hv => h v (List.mem_of_mem_take hv)
theorem scpL_drop {L : Nat → Bool} {l : List Value} (n : Nat) (h : scpL L l = true) : scpL L (l.drop n) = true := by
 rw [scpL_all,List.all_eq_true] at h ⊢
 exact fun v hv => h v (List.mem_of_mem_drop hv)
theorem scp_cells {L : Nat → Bool} {v : Value} (h : scp L v = true) : scpL L v.cells.toList = true := by
 cases v <;> first
  | (simp only [Value.cells]; simpa [scpL] using h)
  | (rename_i cs; obtain ⟨l⟩ := cs; simpa [scp,scpA,Value.cells] using h)
theorem map_plain {ρ : Ren} : ∀ {l : List Value},scpL nil l = true → l.map (conc ρ) = l
 | [],_ => rfl
 | x :: l,h => by
  simp only [scpL,Bool.and_eq_true] at h
  simp [conc_zero ρ x h.1,map_plain h.2]
theorem scpL_nil {L : Nat → Bool} {l : List Value} (h : scpL nil l = true) : scpL L l = true := scpL_mono (fun b hb => by cases hb) l h
theorem fill_run (tr : TRel ρ L t a) {place : Nat → Option (Nat × Nat)} : ∀ (l : List (Nat × Operand)) (cp : List (Nat × Nat × Operand)) (cs out : List Value),cParts place l = some cp → evFill t cp cs = some out → scpL L cs = true →
  Instr.fill place (cs.map (conc ρ)).toArray (l.map fun x => (x.1,a.eval x.2)) = some (out.map (conc ρ)).toArray ∧ scpL L out = true := by
 intro l
 induction l with
 | nil =>
  intro cp cs out hc he hs
  simp only [cParts] at hc
  injection hc with hc
  subst hc
  simp only [evFill] at he
  injection he with he
  subst he
  exact ⟨rfl,hs⟩
 | cons x l ih =>
  intro cp cs out hc he hs
  obtain ⟨i,x⟩ := x
  simp only [cParts] at hc
  split at hc
  ·rename_i o n r hp hr
   injection hc with hc
   subst hc
   simp only [evFill] at he
   split at he
   ·rename_i v hv
    split at he
    ·rename_i hsz
     have vr := evalO_VR tr hv
     have hcs : scpL L (cs.take o ++ v.cells.toList ++ cs.drop (o + n)) = true := by
      rw [scpL_append,scpL_append,scpL_take _ hs,scpL_drop _ hs,scp_cells vr.1]
      rfl
     obtain ⟨h1,h2⟩ := ih r _ out hr he hcs
     refine ⟨?_,h2⟩
     simp only [List.map_cons,Instr.fill,hp]
     have e1 : (a.eval x).cells = v.cells.map (conc ρ) := by rw [vr.2,conc_cells]
     have e2 : (a.eval x).cells.size = n := by rw [e1,Array.size_map]; exact hsz.1
     have e3 : ¬ ((a.eval x).cells.size ≠ n || o + (a.eval x).cells.size > (cs.map (conc ρ)).toArray.size) = true := by
      rw [e2]
      simp
      omega
     rw [if_neg e3]
     have e4 : (a.eval x).cells.zipIdx.foldl (fun cs (x : Value × Nat) => cs.setIfInBounds (o + x.2) x.1) (cs.map (conc ρ)).toArray = ((cs.take o ++ v.cells.toList ++ cs.drop (o + n)).map (conc ρ)).toArray := by
      rw [e1,← Array.foldl_toList,Array.toList_zipIdx,Array.toList_map]
      have := fold_set o (v.cells.toList.map (conc ρ)) 0 (cs.map (conc ρ)) (by simp; omega)
      rw [this]
      simp [List.map_take,List.map_drop,hsz.1]
     rw [e4]
     exact h1
    ·cases he
   ·cases he
  ·cases hc
theorem zeroOf_run {ty : TypeId} {z : List Value} (h : zeroOf P ty = some z) : scpL nil z = true ∧ ∃ v : Value,v.cells = z.toArray ∧ ∀ w,(zeroValue ty).run P w = .ok v w := by
 unfold zeroOf at h
 split at h
 ·rename_i i hi
  split at h
  ·rename_i v hv
   split at h
   ·rename_i hp
    injection h with h
    subst h
    refine ⟨by rw [scpA_all] at hp; rw [scpL_all]; exact hp,v,by simp,fun w => ?_⟩
    simp [zeroValue,typeInfo,hi,hv]
   ·cases h
  ·cases h
 ·cases h
theorem run_mapM_list {α β : Type} (f : α → Sem β) (g : α → β) (w : World) : ∀ (l : List α),(∀ x ∈ l,(f x).run P w = .ok (g x) w) → (l.mapM f).run P w = .ok (l.map g) w
 | [],_ => rfl
 | x :: l,h => by
  rw [List.mapM_cons]
  simp [h x (List.mem_cons_self ..),run_mapM_list f g w l (fun y hy => h y (List.mem_cons_of_mem _ hy))]
theorem run_places {fields : Array Field} (h : fields.toList.all (fun f => (szOf P f.type).isSome) = true) (w : World) : (fields.mapM fun f => do pure (f.offset,← sizeOf f.type) : Sem _).run P w = .ok (placesOf P fields) w := by
 rw [Array.mapM_eq_mapM_toList]
 simp only [Sem.run_map]
 rw [run_mapM_list _ (fun f => (f.offset,(szOf P f.type).getD 0)) w fields.toList (fun f hf => ?_)]
 ·simp only [Result.andThen_ok,placesOf]
  congr 1
  rw [← List.map_toArray,Array.toArray_toList]
 ·have := List.all_eq_true.1 h f hf
  obtain ⟨n,hn⟩ := Option.isSome_iff_exists.1 this
  simp [run_sizeOf hn,hn]
theorem s_agg {o : Oper} {ty : TypeId} {parts : Array (Nat × Operand)} {ao : AOp} {v : Value} (ho : o.op = .build ty parts) (hc : cBuild P ty parts.toList = some ao) (tr : TRel ρ L t a) (hv : evP P t ao = some v) : ∃ u,VR ρ L v u ∧ Yields0 P a o u := by
 unfold cBuild at hc
 split at hc
 ·rename_i fields z hu hz
  obtain ⟨pz,zv,hzc,hzr⟩ := zeroOf_run hz
  split at hc
  ·rename_i hall
   split at hc
   ·rename_i cp hcp
    injection hc with hc
    subst hc
    simp only [evP] at hv
    split at hv
    ·rename_i out ho2
     injection hv with hv
     subst hv
     obtain ⟨h1,h2⟩ := fill_run tr parts.toList cp z out hcp ho2 (scpL_nil pz)
     rw [map_plain pz] at h1
     refine ⟨.agg (out.map (conc ρ)).toArray,⟨by simp [scp,scpA,h2],by simp [conc,concA,concL_map]⟩,fun w => ?_⟩
     unfold execOp
     simp only [ho]
     refine run_val ?_
     have e1 : (parts.map fun x => (x.1,a.eval x.2)).toList = parts.toList.map fun x => (x.1,a.eval x.2) := by simp
     simp only [Instr.build,Sem.run_bind,hzr w,Result.andThen_ok,run_underlying hu,run_places hall w,hzc]
     rw [e1,h1]
     rfl
    ·cases hv
   ·cases hc
  ·cases hc
 ·rename_i k e z hu hz
  obtain ⟨pz,zv,hzc,hzr⟩ := zeroOf_run hz
  split at hc
  ·rename_i n hn
   split at hc
   ·rename_i cp hcp
    injection hc with hc
    subst hc
    simp only [evP] at hv
    split at hv
    ·rename_i out ho2
     injection hv with hv
     subst hv
     obtain ⟨h1,h2⟩ := fill_run tr parts.toList cp z out hcp ho2 (scpL_nil pz)
     rw [map_plain pz] at h1
     refine ⟨.agg (out.map (conc ρ)).toArray,⟨by simp [scp,scpA,h2],by simp [conc,concA,concL_map]⟩,fun w => ?_⟩
     unfold execOp
     simp only [ho]
     refine run_val ?_
     have e1 : (parts.map fun x => (x.1,a.eval x.2)).toList = parts.toList.map fun x => (x.1,a.eval x.2) := by simp
     simp only [Instr.build,Sem.run_bind,hzr w,Result.andThen_ok,run_underlying hu,run_sizeOf hn w,hzc]
     rw [e1,h1]
     rfl
    ·cases hv
   ·cases hc
  ·cases hc
 ·cases hc
end
end Abs
end Go.Proofs.Ytongllppbifiaaa
namespace Go.Proofs.Ytongllppbifiaaa
namespace Abs
open Go
set_option linter.unusedVariables false
set_option linter.unusedSimpArgs false
def rdRow (h : AH) (b : Nat) : Option (List Value) := match h[b]? with
 | some (.cells vs _ _) => some vs
 | some (.row vs) => some vs
 | some (.glob _ vs) => some vs
 | _ => none
def rowVs : ABlk → Option (List Value)
 | .cells vs _ _ => some vs
 | .row vs => some vs
 | .glob _ vs => some vs
 | _ => none
theorem RV : (∀ (vs : List Value) (e : TypeId) (o : Option Nat),rowVs (.cells vs e o) = some vs) ∧ (∀ vs : List Value,rowVs (.row vs) = some vs) ∧ (∀ (g : Nat) (vs : List Value),rowVs (.glob g vs) = some vs) := ⟨fun _ _ _ => rfl,fun _ => rfl,fun _ _ => rfl⟩
theorem rdRow_eq (h : AH) (b : Nat) : rdRow h b = match h[b]? with
  | some k => rowVs k
  | none => none := by
 unfold rdRow
 cases h[b]? with
 | none => rfl
 | some k => cases k <;> rfl
def rdCells (h : AH) (b o n : Nat) : Option (List Value) := match rdRow h b with
 | some vs => if o + n ≤ vs.length then some ((vs.drop o).take n) else none
 | none => none
def keyEq (str : Bool) (x y : Value) : Option Bool := match x,y with
 | .int k a,.int k' b => if str = false ∧ k = k' then some (a == b) else none
 | .string a,.string b => if str = true then some (a.data.toList == b.data.toList) else none
 | _,_ => none
def findA (str : Bool) (k : Value) : List MapEntry → Nat → Option (Option (Nat × Value))
 | [],_ => some none
 | e :: es,i => match keyEq str k e.key with
  | some true => some (some (i,e.val))
  | some false => findA str k es (i + 1)
  | none => none
def mapAt (h : AH) (r : Nat) : Option (List MapEntry × Nat) := match h[r]? with
 | some (.map es c) => some (es,c)
 | _ => none
def bytesOf : List Value → Option (List UInt8)
 | [] => some []
 | .int .u8 n :: l => match bytesOf l with
  | some r => some (UInt8.ofNat n.toNat :: r)
  | none => none
 | _ => none
def globAt (h : AH) (g : Nat) : Option (List Value) := match h[g]? with
 | some (.glob g' vs) => if g' = g then some vs else none
 | _ => none
def evR (t : T) (h : AH) : AOp → Option Value
 | .ld none x => match evalO t x with
  | some (.pointer (some ⟨b,o,none⟩)) => match rdRow h b with
   | some vs => vs[o]?
   | none => none
  | _ => none
 | .ld (some n) x => match evalO t x with
  | some (.pointer (some ⟨b,o,none⟩)) => match rdCells h b o n with
   | some l => some (.agg l.toArray)
   | none => none
  | _ => none
 | .look str zero m k ok => match evalO t m,evalO t k with
  | some (.map none),some kv => if ok then some (.tuple #[zero,.bool false]) else some zero
  | some (.map (some r)),some kv => match mapAt h r with
   | some (es,_) => match findA str kv es 0 with
    | some (some (_,v)) => some (if ok then .tuple #[v,.bool true] else v)
    | some none => some (if ok then .tuple #[zero,.bool false] else zero)
    | none => none
   | none => none
  | _,_ => none
 | .mlen x => match evalO t x with
  | some (.map none) => some (.int .i64 0)
  | some (.map (some r)) => match mapAt h r with
   | some (es,_) => some (.int .i64 es.length)
   | none => none
  | _ => none
 | .b2s x => match evalO t x with
  | some (.slice none _ _) => some (.string .empty)
  | some (.slice (some ⟨b,o,none⟩) len _) => match rdCells h b o len with
   | some l => match bytesOf l with
    | some s => some (.string ⟨s.toArray⟩)
    | none => none
   | none => none
  | _ => none
 | .gld none g => match globAt h g with
  | some vs => vs[0]?
  | none => none
 | .gld (some n) g => match globAt h g with
  | some vs => match rdCells h g 0 n with
   | some l => some (.agg l.toArray)
   | none => none
  | none => none
 | .goff n g => match globAt h g with
  | some _ => some (.pointer (some ⟨g,n,none⟩))
  | none => none
 | .gidx len es g i => match globAt h g,evalO t i with
  | some _,some (.int _ i) => if 0 ≤ i ∧ i < len then some (.pointer (some ⟨g,i.toNat * es,none⟩)) else none
  | _,_ => none
 | .gsub n es g lo hi mx => match globAt h g,optI t lo,optI t hi,optI t mx with
  | some _,some lo,some hi,some mx => if n < OPEN then match evBounds n n lo hi mx with
    | some (l,k,m) => some (.slice (some ⟨g,if m = l then 0 else l * es,none⟩) (k - l) (m - l))
    | none => none
   else none
  | _,_,_,_ => none
 | _ => none
def keyKind (P : Program) (k : TypeId) : Option Bool := match P.underlying k with
 | some (.int _) => some false
 | some .string => some true
 | _ => none
def cLook (P : Program) (t : TypeId) (m k : Operand) (ok : Bool) : Option AOp := match P.underlying t with
 | some (.map kt e) => match keyKind P kt,P.info? e with
  | some str,some i => match i.zero with
   | some z => if plain z then some (.look str z m k ok) else none
   | none => none
  | _,_ => none
 | _ => none
section
variable {P : Program} {ρ : Ren} {L : Nat → Bool} {t : T} {a : Act} {h : AH} {w : World}
def YieldsR (P : Program) (a : Act) (o : Oper) (w : World) (u : Value) : Prop := (execOp a.eval o).run P w = .ok (.value u) w
theorem rdRow_cell (r : Rel ρ h w) {b o : Nat} {vs : List Value} {v : Value} (hb : rdRow h b = some vs) (hv : vs[o]? = some v) : w.cell? ⟨(ρ b).blk,(ρ b).off + o,none⟩ = some (conc ρ v) ∧ scp (live h) v = true := by
 unfold rdRow at hb
 split at hb
 ·rename_i vs' e opn hk
  injection hb with hb
  subst hb
  obtain ⟨pre,ex,h1,h0,h2⟩ := r.holds b _ hk
  refine ⟨?_,r.scope b _ hk v (List.mem_of_getElem? hv)⟩
  have hlt : o < vs'.length := (List.getElem?_eq_some_iff.1 hv).1
  simp only [World.cell?,h1,Option.isSome_none,Bool.false_eq_true,if_false]
  rw [List.getElem?_toArray,← h0,List.append_assoc,List.getElem?_append_right (by omega),Nat.add_sub_cancel_left,List.getElem?_append_left (by simpa using hlt),List.getElem?_map,hv]
  rfl
 ·rename_i vs' hk
  injection hb with hb
  subst hb
  exact ⟨r.holds b _ hk o v hv,r.scope b _ hk v (List.mem_of_getElem? hv)⟩
 ·rename_i g vs' hk
  injection hb with hb
  subst hb
  exact ⟨(r.holds b _ hk).2.2 o v hv,r.scope b _ hk v (List.mem_of_getElem? hv)⟩
 ·cases hb
theorem cell_plain {b o j : Nat} (w : World) : w.cell? ((⟨b,o,none⟩ : Addr).add j) = w.cell? ⟨b,o + j,none⟩ := by rw [add_none]
theorem rdCells_run (r : Rel ρ h w) {b o n : Nat} {l : List Value} (hl : rdCells h b o n = some l) : (loadCells (cAddr ρ ⟨b,o,none⟩) n).run P w = .ok (l.map (conc ρ)).toArray w ∧ scpL (live h) l = true ∧ l.length = n := by
 unfold rdCells at hl
 split at hl
 ·rename_i vs hb
  split at hl
  ·rename_i hle
   injection hl with hl
   have hlen : l.length = n := by rw [← hl]; simp; omega
   have hget : ∀ j v,l[j]? = some v → vs[o + j]? = some v := by
    intro j v hj
    rw [← hl,List.getElem?_take] at hj
    split at hj
    ·rw [List.getElem?_drop] at hj
     exact hj
    ·cases hj
   refine ⟨?_, ?_,hlen⟩
   ·have := run_loadCells_list (P := P) (w := w) (cAddr ρ ⟨b,o,none⟩) (l.map (conc ρ)) (fun j v hj => by
     rw [List.getElem?_map] at hj
     cases hlj : l[j]? with
     | none => rw [hlj] at hj; cases hj
     | some x =>
      rw [hlj] at hj
      injection hj with hj
      subst hj
      rw [cAddr_none,cell_plain,Nat.add_assoc]
      exact (rdRow_cell r hb (hget j x hlj)).1)
    rw [List.length_map,hlen] at this
    exact this
   ·rw [scpL_all,List.all_eq_true]
    intro v hv
    obtain ⟨j,hj⟩ := List.getElem?_of_mem hv
    exact (rdRow_cell r hb (hget j v hj)).2
  ·cases hl
 ·cases hl
theorem s_ld {o : Oper} {ty : TypeId} {x : Operand} {ag : Option Nat} {v : Value} (ho : o.op = .load ty x) (hc : aggOf P ty = some ag) (r : Rel ρ h w) (tr : TRel ρ (live h) t a) (hv : evR t h (.ld ag x) = some v) : ∃ u,VR ρ (live h) v u ∧ YieldsR P a o w u := by
 have hag := aggOf_run hc w
 cases ag with
 | none =>
  simp only [evR] at hv
  split at hv
  ·rename_i b off hx
   split at hv
   ·rename_i vs hb
    have vr := evalO_VR tr hx
    have e1 : a.eval x = .pointer (some ⟨(ρ b).blk,(ρ b).off + off,none⟩) := vr.2
    obtain ⟨h1,h2⟩ := rdRow_cell r hb hv
    refine ⟨conc ρ v,⟨h2,rfl⟩, ?_⟩
    unfold YieldsR execOp
    simp only [ho,e1]
    refine run_val ?_
    simp [Instr.loadAt,Instr.sureAddr,loadVar,hag.1,h1]
   ·cases hv
  ·cases hv
 | some n =>
  simp only [evR] at hv
  split at hv
  ·rename_i b off hx
   split at hv
   ·rename_i l hl
    injection hv with hv
    subst hv
    have vr := evalO_VR tr hx
    have e1 : a.eval x = .pointer (some (cAddr ρ ⟨b,off,none⟩)) := vr.2
    obtain ⟨h1,h2,h3⟩ := rdCells_run (P := P) r hl
    refine ⟨.agg (l.map (conc ρ)).toArray,⟨by simp [scp,scpA,h2],by simp [conc,concA,concL_map]⟩, ?_⟩
    unfold YieldsR execOp
    simp only [ho,e1]
    refine run_val ?_
    simp [Instr.loadAt,Instr.sureAddr,loadVar,hag.1,hag.2 n rfl,h1]
   ·cases hv
  ·cases hv
theorem globAt_inv (r : Rel ρ h w) {g : Nat} {vs : List Value} (hg : globAt h g = some vs) : h[g]? = some (.glob g vs) ∧ (ρ g).blk = g ∧ (ρ g).off = 0 := by
 unfold globAt at hg
 split at hg
 ·rename_i g' vs' hk
  split at hg
  ·rename_i e
   subst e
   injection hg with hg
   subst hg
   have := r.holds _ _ hk
   exact ⟨hk,this.1,this.2.1⟩
  ·cases hg
 ·cases hg
theorem glob_live {g : Nat} {vs : List Value} (hk : h[g]? = some (.glob g vs)) : live h g = true := live_of hk (by simp)
theorem bytesOf_inv : ∀ (l : List Value) (s : List UInt8),bytesOf l = some s → ∃ ns : List Int,l = ns.map (Value.int .u8) ∧ s = ns.map (fun n => UInt8.ofNat n.toNat)
 | [],s,h => by
  simp only [bytesOf,Option.some.injEq] at h
  subst h
  exact ⟨[],rfl,rfl⟩
 | v :: l,s,h => by
  unfold bytesOf at h
  split at h
  ·rename_i e; cases e
  ·rename_i n l' e
   injection e with e1 e2
   subst e1 e2
   split at h
   ·rename_i r hr
    injection h with h
    subst h
    obtain ⟨ns,h1,h2⟩ := bytesOf_inv l r hr
    exact ⟨n :: ns,by rw [h1]; rfl,by rw [h2]; rfl⟩
   ·cases h
  ·cases h
theorem foldl_push (ns : List Int) : ∀ r : ByteArray,ns.foldl (fun r n => r.push (UInt8.ofNat n.toNat)) r = ⟨r.data ++ (ns.map (fun n => UInt8.ofNat n.toNat)).toArray⟩ := by
 induction ns with
 | nil => intro r; simp
 | cons n ns ih =>
  intro r
  simp only [List.foldl_cons]
  rw [ih]
  simp [ByteArray.push]
theorem s_b2s {o : Oper} {src dst e : TypeId} {x : Operand} {v : Value} (ho : o.op = .convert src dst x) (hs : P.underlying src = some (.slice e)) (he : P.underlying e = some (.int .u8)) (hd : P.underlying dst = some .string) (r : Rel ρ h w) (tr : TRel ρ (live h) t a) (hv : evR t h (.b2s x) = some v) : ∃ u,VR ρ (live h) v u ∧ YieldsR P a o w u := by
 simp only [evR] at hv
 split at hv
 ·rename_i n c hx
  injection hv with hv
  subst hv
  have vr := evalO_VR tr hx
  have e1 : a.eval x = .slice none n c := vr.2
  refine ⟨_,VR.plain rfl, ?_⟩
  unfold YieldsR execOp
  simp only [ho,e1]
  refine run_val ?_
  rw [run_convert_bytes_string w src dst e none n c hs he hd]
  simp [Conv.bytesToString]
 ·rename_i b off n c hx
  split at hv
  case h_2 => cases hv
  rename_i l hl
  split at hv
  case h_2 => cases hv
  rename_i s hb
  injection hv with hv
  subst hv
  obtain ⟨ns,rfl,rfl⟩ := bytesOf_inv l s hb
  have vr := evalO_VR tr hx
  have e1 : a.eval x = .slice (some (cAddr ρ ⟨b,off,none⟩)) n (cCap ρ b c) := vr.2
  obtain ⟨h1,h2,h3⟩ := rdCells_run (P := P) r hl
  refine ⟨_,VR.plain rfl, ?_⟩
  unfold YieldsR execOp
  simp only [ho,e1]
  refine run_val ?_
  rw [run_convert_bytes_string w src dst e _ n _ hs he hd]
  have hm : (ns.map (Value.int .u8)).map (conc ρ) = ns.map (Value.int .u8) := by
   rw [List.map_map]
   exact List.map_congr_left fun n _ => rfl
  rw [hm] at h1
  rw [run_bytesToString w _ n _ ns h1,foldl_push]
  have he0 : ByteArray.empty.data = #[] := rfl
  rw [he0]
  simp
 ·cases hv
theorem s_gld {o : Oper} {ty : TypeId} {g : Nat} {ag : Option Nat} {v : Value} (ho : o.op = .load ty (.global g)) (hc : aggOf P ty = some ag) (r : Rel ρ h w) (hv : evR t h (.gld ag g) = some v) : ∃ u,VR ρ (live h) v u ∧ YieldsR P a o w u := by
 have hag := aggOf_run hc w
 have e1 : a.eval (.global g) = .pointer (some ⟨g,0,none⟩) := rfl
 cases ag with
 | none =>
  simp only [evR] at hv
  split at hv
  ·rename_i vs hg
   obtain ⟨hk,hb,ho2⟩ := globAt_inv r hg
   have hb2 : rdRow h g = some vs := by unfold rdRow; rw [hk]
   obtain ⟨h1,h2⟩ := rdRow_cell r hb2 hv
   rw [hb,ho2] at h1
   refine ⟨conc ρ v,⟨h2,rfl⟩, ?_⟩
   unfold YieldsR execOp
   simp only [ho,e1]
   refine run_val ?_
   simp only [Nat.add_zero] at h1
   simp [Instr.loadAt,Instr.sureAddr,loadVar,hag.1,h1]
  ·cases hv
 | some n =>
  simp only [evR] at hv
  split at hv
  ·rename_i vs hg
   split at hv
   ·rename_i l hl
    injection hv with hv
    subst hv
    obtain ⟨hk,hb,ho2⟩ := globAt_inv r hg
    obtain ⟨h1,h2,h3⟩ := rdCells_run (P := P) r hl
    have e2 : cAddr ρ ⟨g,0,none⟩ = ⟨g,0,none⟩ := by rw [cAddr_none,hb,ho2]
    rw [e2] at h1
    refine ⟨.agg (l.map (conc ρ)).toArray,⟨by simp [scp,scpA,h2],by simp [conc,concA,concL_map]⟩, ?_⟩
    unfold YieldsR execOp
    simp only [ho,e1]
    refine run_val ?_
    simp [Instr.loadAt,Instr.sureAddr,loadVar,hag.1,hag.2 n rfl,h1]
   ·cases hv
  ·cases hv
theorem s_goff {o : Oper} {s : TypeId} {f g n : Nat} {fl : Field} {v : Value} (ho : o.op = .fieldAddr s (.global g) f) (hf : cField P s f = some fl) (hn : szOf P fl.type = some (n + 1)) (r : Rel ρ h w) (hv : evR t h (.goff fl.offset g) = some v) : ∃ u,VR ρ (live h) v u ∧ YieldsR P a o w u := by
 have e1 : a.eval (.global g) = .pointer (some ⟨g,0,none⟩) := rfl
 simp only [evR] at hv
 split at hv
 ·rename_i vs hg
  injection hv with hv
  subst hv
  obtain ⟨hk,hb,ho2⟩ := globAt_inv r hg
  refine ⟨.pointer (some ((⟨g,0,none⟩ : Addr).add fl.offset)),⟨by simpa [scp] using glob_live hk,by simp [conc,cAddr_none,add_none,hb,ho2]⟩, ?_⟩
  unfold cField at hf
  split at hf
  ·rename_i fs hu
   unfold YieldsR execOp
   simp only [ho,e1]
   refine run_val ?_
   simp [Instr.fieldAt,run_underlying hu,hf,Instr.sureAddr,fieldPlace,run_sizeOf hn]
  ·cases hf
 ·cases hv
theorem s_gidx {o : Oper} {ty e : TypeId} {len es g : Nat} {i : Operand} {v : Value} (ho : o.op = .indexAddr ty (.global g) i) (hu : P.underlying ty = some (.array len e)) (hn : szOf P e = some es) (r : Rel ρ h w) (tr : TRel ρ (live h) t a) (hv : evR t h (.gidx len es g i) = some v) : ∃ u,VR ρ (live h) v u ∧ YieldsR P a o w u := by
 have e1 : a.eval (.global g) = .pointer (some ⟨g,0,none⟩) := rfl
 simp only [evR] at hv
 split at hv
 ·rename_i vs k j hg hi
  split at hv
  ·rename_i hij
   injection hv with hv
   subst hv
   obtain ⟨hk,hb,ho2⟩ := globAt_inv r hg
   have e2 : a.eval i = .int k j := (evalO_VR tr hi).2
   refine ⟨.pointer (some ((⟨g,0,none⟩ : Addr).add (j.toNat * es))),⟨by simpa [scp] using glob_live hk,by simp [conc,cAddr_none,add_none,hb,ho2]⟩, ?_⟩
   unfold YieldsR execOp
   simp only [ho,e1,e2]
   refine run_val ?_
   simp [Instr.indexAt,asIntOf,run_underlying hu,Instr.sureAddr,run_sizeOf hn,hij]
  ·cases hv
 ·cases hv
theorem s_gsub {o : Oper} {ty e : TypeId} {len n g : Nat} {lo hi mx : Option Operand} {v : Value} (ho : o.op = .slice ty (.global g) lo hi mx) (hu : P.underlying ty = some (.array len e)) (hn : szOf P e = some n) (r : Rel ρ h w) (tr : TRel ρ (live h) t a) (hv : evR t h (.gsub len n g lo hi mx) = some v) : ∃ u,VR ρ (live h) v u ∧ YieldsR P a o w u := by
 have e1 : a.eval (.global g) = .pointer (some ⟨g,0,none⟩) := rfl
 simp only [evR] at hv
 split at hv
 ·rename_i vs rl rh rm hg h1 h2 h3
  split at hv
  ·rename_i hlen
   split at hv
   ·rename_i l k m hb
    injection hv with hv
    subst hv
    obtain ⟨hk,hblk,ho2⟩ := globAt_inv r hg
    have hm : m ≤ len := (evBounds_le hb (Nat.le_refl _)).2.2.1
    refine ⟨.slice (some (if m = l then ⟨g,0,none⟩ else (⟨g,0,none⟩ : Addr).add (l * n))) (k - l) (m - l),⟨by simpa [scp] using glob_live hk, ?_⟩, ?_⟩
    ·have hc2 : cCap ρ g (m - l) = m - l := by simp [cCap]; omega
     simp only [conc,hc2,cAddr_none,hblk,ho2]
     split
     ·rfl
     ·simp [add_none,Nat.add_assoc]
    ·unfold YieldsR execOp
     simp only [ho,e1]
     refine run_val ?_
     simp [Instr.sliceAt,run_underlying hu,Instr.sureAddr,bounds_run tr h1 h2 h3 hb,run_sizeOf hn]
   ·cases hv
  ·cases hv
 ·cases hv
theorem bytes_beq (x y : ByteArray) : (x == y) = (x.data.toList == y.data.toList) := by
 cases x with | mk p =>
 cases y with | mk q =>
 show (p == q) = _
 rw [Bool.eq_iff_iff]
 simp only [beq_iff_eq]
 exact ⟨fun e => by rw [e],fun e => Array.ext' e⟩
def kkOk (str : Bool) (d : TypeDesc) : Prop := (str = false ∧ ∃ k,d = .int k) ∨ (str = true ∧ d = .string)
theorem keyKind_ok {kt : TypeId} {str : Bool} (hk : keyKind P kt = some str) : ∃ d,P.underlying kt = some d ∧ kkOk str d := by
 unfold keyKind at hk
 split at hk
 ·rename_i k hu
  injection hk with hk
  exact ⟨_,hu,.inl ⟨hk.symm,k,rfl⟩⟩
 ·rename_i hu
  injection hk with hk
  exact ⟨_,hu,.inr ⟨hk.symm,rfl⟩⟩
 ·cases hk
theorem checkKey_run {kt : TypeId} {d : TypeDesc} {str : Bool} (hu : P.underlying kt = some d) (hd : kkOk str d) (e : Bool) (v : Value) (w : World) : (Instr.checkKey e 10000 kt v).run P w = .ok () w := by
 rw [show (10000 : Nat) = 9999 + 1 from rfl,Instr.checkKey]
 rcases hd with ⟨_,k,rfl⟩ | ⟨_,rfl⟩ <;> simp [run_underlying hu]
theorem keyEq_now {str : Bool} {d : TypeDesc} (hd : kkOk str d) {x y : Value} {b : Bool} (h : keyEq str x y = some b) : Instr.sameNow d (conc ρ x) (conc ρ y) = some b := by
 unfold keyEq at h
 split at h
 ·split at h
  ·rename_i hc
   injection h with h
   subst h
   rcases hd with ⟨_,k,rfl⟩ | ⟨hd,_⟩
   ·simp [conc,Instr.sameNow,hc.2]
   ·rw [hc.1] at hd; cases hd
  ·cases h
 ·split at h
  ·rename_i hc
   injection h with h
   subst h
   rcases hd with ⟨hd,_⟩ | ⟨_,rfl⟩
   ·rw [hc] at hd; cases hd
   ·simp [conc,Instr.sameNow,bytes_beq]
  ·cases h
 ·cases h
theorem findA_now {str : Bool} {d : TypeDesc} (hd : kkOk str d) {k : Value} : ∀ (es : List MapEntry) (i : Nat) (r : Option (Nat × Value)),findA str k es i = some r → Instr.findNow d (conc ρ k) (es.map (concEntry ρ)) i = some (r.map fun x => (x.1,conc ρ x.2)) := by
 intro es
 induction es with
 | nil =>
  intro i r h
  simp only [findA] at h
  injection h with h
  subst h
  rfl
 | cons e es ih =>
  intro i r h
  simp only [findA] at h
  split at h
  ·rename_i he
   injection h with h
   subst h
   simp [Instr.findNow,concEntry,keyEq_now hd he]
  ·rename_i he
   have := ih _ _ h
   simp [Instr.findNow,concEntry,keyEq_now hd he]
   exact this
  ·cases h
theorem findKey_run {str : Bool} {d : TypeDesc} {kt : TypeId} (hu : P.underlying kt = some d) (hd : kkOk str d) {k : Value} {es : List MapEntry} {r : Option (Nat × Value)} (hf : findA str k es 0 = some r) (w : World) :
  (Instr.findKey kt (conc ρ k) (es.map (concEntry ρ))).run P w = .ok (r.map fun x => (x.1,conc ρ x.2)) w := by
 unfold Instr.findKey
 simp [run_underlying hu,findA_now hd es 0 r hf]
theorem findA_mem {str : Bool} {k : Value} : ∀ (es : List MapEntry) (i : Nat) (j : Nat) (v : Value),findA str k es i = some (some (j,v)) → i ≤ j ∧ ∃ e,es[j - i]? = some e ∧ e.val = v ∧ keyEq str k e.key = some true := by
 intro es
 induction es with
 | nil =>
  intro i j v h
  simp [findA] at h
 | cons e es ih =>
  intro i j v h
  simp only [findA] at h
  split at h
  ·rename_i he
   injection h with h
   injection h with h
   injection h with h1 h2
   subst h1
   exact ⟨Nat.le_refl _,e,by simp,h2,he⟩
  ·obtain ⟨h1, e', h2, h3⟩ := ih _ _ _ h
   refine ⟨by omega, e', ?_, h3⟩
   rw [show j - i = (j - (i + 1)) + 1 by omega]
   simpa using h2
  ·cases h
theorem run_getObj_map {b : Nat} {es : Array MapEntry} {c : Nat} {w : World} (h : w.heap[b]? = some (.map es c)) : (getObj b).run P w = .ok (.map es c) w := by
 simp [getObj,Sem.run,h]
theorem mapAt_heap (r : Rel ρ h w) {b : Nat} {es : List MapEntry} {c : Nat} (hb : mapAt h b = some (es,c)) : h[b]? = some (.map es c) ∧ w.heap[(ρ b).blk]? = some (.map (es.map (concEntry ρ)).toArray c) := by
 unfold mapAt at hb
 split at hb
 ·rename_i es' c' hk
  injection hb with hb
  injection hb with h1 h2
  subst h1 h2
  exact ⟨hk,r.holds b _ hk⟩
 ·cases hb
theorem s_look {o : Oper} {ty : TypeId} {m k : Operand} {ok : Bool} {ao : AOp} {v : Value} (ho : o.op = .lookup ty m k ok) (hc : cLook P ty m k ok = some ao) (r : Rel ρ h w) (tr : TRel ρ (live h) t a) (hv : evR t h ao = some v) : ∃ u,VR ρ (live h) v u ∧ YieldsR P a o w u := by
 unfold cLook at hc
 split at hc
 case h_2 => cases hc
 rename_i kt e hu
 split at hc
 case h_2 => cases hc
 rename_i str i hk hi
 split at hc
 case h_2 => cases hc
 rename_i z hz
 split at hc
 case isFalse => cases hc
 rename_i hp
 injection hc with hc
 subst hc
 obtain ⟨d,hd,hkk⟩ := keyKind_ok hk
 have hzr : ∀ w,(zeroValue e).run P w = .ok z w := fun w => by simp [zeroValue,typeInfo,hi,hz]
 simp only [evR] at hv
 split at hv
 ·rename_i kv hm hkv
  have e1 : a.eval m = .map none := (evalO_VR tr hm).2
  have hpv : plain v = true ∧ v = if ok then .tuple #[z,.bool false] else z := by
   cases ok
   ·simp at hv; subst hv; exact ⟨hp,rfl⟩
   ·simp at hv; subst hv; exact ⟨by simp [scp,scpA,scpL,hp],rfl⟩
  refine ⟨v,VR.plain hpv.1, ?_⟩
  unfold YieldsR execOp
  simp only [ho,e1]
  refine run_val ?_
  have hf : (Instr.findKey kt (a.eval k) ([] : List MapEntry)).run P w = .ok none w := by
   unfold Instr.findKey
   simp [run_underlying hd,Instr.findNow]
  simp only [Instr.lookup,Sem.run_bind,run_underlying hu,Result.andThen_ok,Sem.run_pure,checkKey_run hd hkk,hf,hzr]
  rw [hpv.2]
 ·rename_i b kv hm hkv
  split at hv
  case h_2 => cases hv
  rename_i es c hes
  obtain ⟨hb,hheap⟩ := mapAt_heap r hes
  have e1 : a.eval m = .map (some (ρ b).blk) := (evalO_VR tr hm).2
  have e2 : a.eval k = conc ρ kv := (evalO_VR tr hkv).2
  split at hv
  ·rename_i j x hf
   injection hv with hv
   obtain ⟨_,en,hen,hval,_⟩ := findA_mem es 0 j x hf
   have hsx : scp (live h) x = true := by
    have := (r.scope b _ hb en (List.mem_of_getElem? hen)).2
    rw [hval] at this
    exact this
   refine ⟨if ok then .tuple #[conc ρ x,.bool true] else conc ρ x,⟨?_, ?_⟩, ?_⟩
   ·subst hv
    cases ok <;> simp [scp,scpA,scpL,hsx]
   ·subst hv
    cases ok <;> simp [conc,concA,concL]
   ·unfold YieldsR execOp
    simp only [ho,e1,e2]
    refine run_val ?_
    simp only [Instr.lookup,Sem.run_bind,run_underlying hu,Result.andThen_ok,Sem.run_pure,checkKey_run hd hkk,run_getObj_map hheap,findKey_run hd hkk hf]
    rfl
  ·rename_i hf
   injection hv with hv
   refine ⟨v, ?_, ?_⟩
   ·subst hv
    cases ok
    ·exact VR.plain hp
    ·exact VR.plain (by simp [scp,scpA,scpL,hp])
   ·unfold YieldsR execOp
    simp only [ho,e1,e2]
    refine run_val ?_
    simp only [Instr.lookup,Sem.run_bind,run_underlying hu,Result.andThen_ok,Sem.run_pure,checkKey_run hd hkk,run_getObj_map hheap,findKey_run hd hkk hf,Option.map_none,hzr]
    rw [← hv]
  ·cases hv
 ·cases hv
theorem s_mlen {o : Oper} {ty kt e : TypeId} {x : Operand} {v : Value} (ho : o.op = .call { callee := .builtin .len,args := #[x],argTypes := #[ty] }) (hu : P.underlying ty = some (.map kt e)) (r : Rel ρ h w) (tr : TRel ρ (live h) t a) (hv : evR t h (.mlen x) = some v) : ∃ u,VR ρ (live h) v u ∧ YieldsR P a o w u := by
 simp only [evR] at hv
 split at hv
 ·rename_i hx
  injection hv with hv
  subst hv
  have e1 : a.eval x = .map none := (evalO_VR tr hx).2
  refine ⟨_,VR.plain rfl, ?_⟩
  unfold YieldsR
  rw [exec_builtin ho]
  simp [builtin,e1,Builtin.len_,run_underlying hu,goInt]
 ·rename_i b hx
  split at hv
  case h_2 => cases hv
  rename_i es c hes
  injection hv with hv
  subst hv
  obtain ⟨hb,hheap⟩ := mapAt_heap r hes
  have e1 : a.eval x = .map (some (ρ b).blk) := (evalO_VR tr hx).2
  refine ⟨_,VR.plain rfl, ?_⟩
  unfold YieldsR
  rw [exec_builtin ho]
  simp [builtin,e1,Builtin.len_,run_underlying hu,goInt,run_getObj_map hheap]
 ·cases hv
end
end Abs
end Go.Proofs.Ytongllppbifiaaa
namespace Go.Proofs.Ytongllppbifiaaa
namespace Abs
open Go
set_option linter.unusedVariables false
set_option linter.unusedSimpArgs false
def reps (z : List Value) : Nat → List Value
 | 0 => []
 | n + 1 => z ++ reps z n
def evFillR (t : T) (es : Nat) : List (Nat × Operand) → List Value → Option (List Value)
 | [],cs => some cs
 | (i,x) :: rest,cs => match evalO t x with
  | some v => if v.cells.size = es ∧ i * es + es ≤ cs.length then evFillR t es rest (cs.take (i * es) ++ v.cells.toList ++ cs.drop (i * es + es)) else none
  | none => none
def evF (t : T) (n : Nat) : AOp → Option (Value × ABlk)
 | .box e x => match evalO t x with
  | some v => some (.pointer (some ⟨n,0,none⟩),.cells v.cells.toList e none)
  | none => none
 | .alloc e zero => some (.pointer (some ⟨n,0,none⟩),.cells zero e none)
 | .mkS e es bytes zero len cap => match evalO t len,evalO t cap with
  | some (.int _ l),some (.int _ c) => if 0 ≤ l ∧ l ≤ c ∧ (bytes : Int) * c ≤ 281474976710656 ∧ c ≤ 281474976710656 ∧ zero.length = es then some (.slice (some ⟨n,0,none⟩) l.toNat c.toNat,.cells (reps zero c.toNat) e none) else none
  | _,_ => none
 | .mkM => some (.map (some n),.map [] 0)
 | .rngS x => match evalO t x with
  | some (.string s) => some (.pointer (some ⟨n,0,none⟩),.iter s 0)
  | _ => none
 | .row e len es zero parts => if len * es ≤ 16777216 ∧ zero.length = es ∧ len ≤ 16777216 then match evFillR t es parts (reps zero len) with
   | some cs => some (.slice (some ⟨n,0,none⟩) len len,.cells cs e none)
   | none => none
  else none
 | _ => none
def cMkS (P : Program) (t : TypeId) (l c : Operand) : Option AOp := match P.underlying t with
 | some (.slice e) => match P.info? e,zeroOf P e with
  | some i,some z => some (.mkS e i.size i.bytes z l c)
  | _,_ => none
 | _ => none
def cRow (P : Program) (t : TypeId) (len : Nat) (parts : List (Nat × Operand)) : Option AOp := match P.underlying t with
 | some (.slice e) => match P.info? e,zeroOf P e with
  | some i,some z => some (.row e len i.size z parts)
  | _,_ => none
 | _ => none
section
variable {P : Program} {ρ : Ren} {t : T} {a : Act} {h : AH} {w : World}
theorem reps_length (z : List Value) (n : Nat) : (reps z n).length = n * z.length := by
 induction n with
 | zero => simp [reps]
 | succ n ih => simp [reps,ih,Nat.add_mul,Nat.add_comm]
theorem reps_get (z : List Value) (hz : 0 < z.length) : ∀ (n i : Nat),i < n * z.length → (reps z n)[i]? = z[i % z.length]? := by
 intro n
 induction n with
 | zero => intro i h; omega
 | succ n ih =>
  intro i h
  simp only [reps]
  by_cases hi : i < z.length
  ·rw [List.getElem?_append_left hi,Nat.mod_eq_of_lt hi]
  ·rw [List.getElem?_append_right (by omega),ih (i - z.length) (by rw [Nat.add_mul] at h; omega)]
   rw [← Nat.mod_eq_sub_mod (by omega)]
theorem range_map (z : Array Value) (n : Nat) : (Array.range (n * z.size)).map (fun i => z[i % z.size]!) = (reps z.toList n).toArray := by
 apply Array.ext'
 apply List.ext_getElem?
 intro i
 by_cases hz : 0 < z.size
 ·by_cases hi : i < n * z.size
  ·have := reps_get z.toList (by simpa using hz) n i (by simpa using hi)
   simp only [Array.length_toList] at this
   rw [List.toList_toArray,this]
   have hm : i % z.size < z.size := Nat.mod_lt _ hz
   simp [hi,hm]
  ·have h1 : (reps z.toList n).length ≤ i := by rw [reps_length]; simp; omega
   rw [List.toList_toArray,List.getElem?_eq_none h1]
   rw [List.getElem?_eq_none]
   simp
   omega
 ·have h0 : z.size = 0 := by omega
  have h1 : (reps z.toList n).length = 0 := by rw [reps_length]; simp [h0]
  rw [List.toList_toArray,List.length_eq_zero_iff.1 h1]
  simp [h0]
structure FreshOk (P : Program) (ρ : Ren) (h : AH) (n : Nat) (a : Act) (o : Oper) (w : World) (v : Value) (k : ABlk) : Prop where
 run : ∃ u obj,(execOp a.eval o).run P w = .ok (.value u) (w.alloc obj) ∧ (∀ ρ' : Ren,(∀ b,live h b = true → ρ' b = ρ b) → ρ' n = ⟨w.heap.size,0,0,[]⟩ → u = conc ρ' v ∧ Holds ρ' (ρ' n) (w.alloc obj) k)
 vscp : ∀ L : Nat → Bool,(∀ b,live h b = true → L b = true) → L n = true → scp L v = true ∧ k.scp L
 foot : ∀ cb,k.foot cb = [cb.blk] ∧ k.reach cb = [cb.blk]
theorem alloc_new (w : World) (o : Obj) : (w.alloc o).heap[w.heap.size]? = some o := by
 show (w.heap.push o)[w.heap.size]? = _
 simp
theorem s_box {o : Oper} {n : Nat} {e : TypeId} {x : Operand} {v : Value} {k : ABlk} (ho : o.op = .box e x) (tr : TRel ρ (live h) t a) (hv : evF t n (.box e x) = some (v,k)) : FreshOk P ρ h n a o w v k := by
 simp only [evF] at hv
 split at hv
 ·rename_i z hz
  injection hv with hv
  injection hv with h1 h2
  subst h1 h2
  have vr := evalO_VR tr hz
  refine ⟨⟨.pointer (some ⟨w.heap.size,0,none⟩),.cells (a.eval x).cells e, ?_,fun ρ' hρ hn => ⟨?_, ?_⟩⟩,fun L hL hn => ⟨by simpa [scp] using hn, ?_⟩,fun cb => ⟨rfl,rfl⟩⟩
  ·unfold execOp
   simp only [ho]
   refine run_val ?_
   simp [Instr.box,newVar,newRow]
  ·simp [conc,cAddr,hn]
  ·refine ⟨[],[], ?_,by simp [hn],by simp [hn],fun _ => by rw [hn]; exact ⟨rfl,rfl⟩⟩
   rw [hn]
   simp only [alloc_new]
   have e1 : (a.eval x).cells = z.cells.map (conc ρ') := by
    rw [← conc_cells,vr.2,conc_congr (fun b hb => congrArg CB.al (hρ b hb)) z vr.1]
   rw [e1]
   simp only [List.nil_append,List.append_nil,← List.map_toArray,Array.toArray_toList]
  ·intro y hy
   have := scp_cells (scp_mono hL z vr.1)
   rw [scpL_all,List.all_eq_true] at this
   exact this y hy
 ·cases hv
theorem s_alloc {o : Oper} {n : Nat} {e : TypeId} {z : List Value} {v : Value} {k : ABlk} (ho : o.op = .alloc e) (hz : zeroOf P e = some z) (hv : evF t n (.alloc e z) = some (v,k)) : FreshOk P ρ h n a o w v k := by
 simp only [evF] at hv
 injection hv with hv
 injection hv with h1 h2
 subst h1 h2
 obtain ⟨pz,zv,hzc,hzr⟩ := zeroOf_run hz
 refine ⟨⟨.pointer (some ⟨w.heap.size,0,none⟩),.cells z.toArray e, ?_,fun ρ' hρ hn => ⟨?_, ?_⟩⟩,fun L hL hn => ⟨by simpa [scp] using hn, ?_⟩,fun cb => ⟨rfl,rfl⟩⟩
 ·unfold execOp
  simp only [ho]
  refine run_val ?_
  simp [Instr.alloc,newVar,newRow,hzr,hzc]
 ·simp [conc,cAddr,hn]
 ·refine ⟨[],[], ?_,by simp [hn],by simp [hn],fun _ => by rw [hn]; exact ⟨rfl,rfl⟩⟩
  rw [hn]
  simp only [alloc_new]
  rw [map_plain pz]
  simp
 ·intro y hy
  have := scpL_nil (L := L) pz
  rw [scpL_all,List.all_eq_true] at this
  exact this y hy
theorem s_mkM {o : Oper} {n : Nat} {ty : TypeId} {v : Value} {k : ABlk} (ho : o.op = .makeMap ty none) (hv : evF t n .mkM = some (v,k)) : FreshOk P ρ h n a o w v k := by
 simp only [evF] at hv
 injection hv with hv
 injection hv with h1 h2
 subst h1 h2
 refine ⟨⟨.map (some w.heap.size),.map #[] 0, ?_,fun ρ' hρ hn => ⟨?_, ?_⟩⟩,fun L hL hn => ⟨by simpa [scp] using hn, ?_⟩,fun cb => ⟨rfl,rfl⟩⟩
 ·unfold execOp
  simp only [ho]
  refine run_val ?_
  simp [Instr.makeMap]
 ·simp [conc,hn]
 ·show _ = _
  rw [hn]
  simp only [alloc_new]
  simp
 ·intro e he
  cases he
theorem s_rngS {o : Oper} {n : Nat} {ty : TypeId} {x : Operand} {v : Value} {k : ABlk} (ho : o.op = .range ty x) (hu : P.underlying ty = some .string) (tr : TRel ρ (live h) t a) (hv : evF t n (.rngS x) = some (v,k)) : FreshOk P ρ h n a o w v k := by
 simp only [evF] at hv
 split at hv
 case h_2 => cases hv
 rename_i s hx
 injection hv with hv
 injection hv with h1 h2
 subst h1 h2
 have e1 : a.eval x = .string s := (evalO_VR tr hx).2
 refine ⟨⟨.pointer (some ⟨w.heap.size,0,none⟩),.stringIter s 0, ?_,fun ρ' hρ hn => ⟨?_, ?_⟩⟩,fun L hL hn => ⟨by simpa [scp] using hn,trivial⟩,fun cb => ⟨rfl,rfl⟩⟩
 ·unfold execOp
  simp only [ho,e1]
  refine run_val ?_
  simp [Instr.range,run_underlying hu]
 ·simp [conc,cAddr,hn]
 ·refine ⟨by rw [hn], ?_⟩
  rw [hn]
  exact alloc_new w _
theorem reps_plain {z : List Value} (hz : scpL nil z = true) : ∀ n,scpL nil (reps z n) = true
 | 0 => rfl
 | n + 1 => by simp [reps,scpL_append,hz,reps_plain hz n]
theorem zeroOf_info {ty : TypeId} {z : List Value} (h : zeroOf P ty = some z) : ∃ i v,P.info? ty = some i ∧ i.zero = some v ∧ v.cells = z.toArray := by
 unfold zeroOf at h
 split at h
 ·rename_i i hi
  split at h
  ·rename_i v hv
   split at h
   ·injection h with h
    subst h
    exact ⟨i,v,hi,hv,by simp⟩
   ·cases h
  ·cases h
 ·cases h
theorem s_mkS {o : Oper} {n : Nat} {ty : TypeId} {l c : Operand} {ao : AOp} {v : Value} {k : ABlk} (ho : o.op = .makeSlice ty l c) (hc : cMkS P ty l c = some ao) (tr : TRel ρ (live h) t a) (hv : evF t n ao = some (v,k)) : FreshOk P ρ h n a o w v k := by
 unfold cMkS at hc
 split at hc
 case h_2 => cases hc
 rename_i e hu
 split at hc
 case h_2 => cases hc
 rename_i i z hi hz
 injection hc with hc
 subst hc
 obtain ⟨pz,zv,hzc,hzr⟩ := zeroOf_run hz
 simp only [evF] at hv
 split at hv
 case h_2 => cases hv
 rename_i j1 ln j2 cn hl hcap
 split at hv
 case isFalse => cases hv
 rename_i hcond
 obtain ⟨c1,c2,c3,c4,c5⟩ := hcond
 injection hv with hv
 injection hv with h1 h2
 subst h1 h2
 have e1 : a.eval l = .int j1 ln := (evalO_VR tr hl).2
 have e2 : a.eval c = .int j2 cn := (evalO_VR tr hcap).2
 refine ⟨⟨.slice (some ⟨w.heap.size,0,none⟩) ln.toNat cn.toNat,.cells (reps z cn.toNat).toArray e, ?_,fun ρ' hρ hn => ⟨?_, ?_⟩⟩,fun L hL hn => ⟨by simpa [scp] using hn, ?_⟩,fun cb => ⟨rfl,rfl⟩⟩
 ·unfold execOp
  simp only [ho,e1,e2]
  refine run_val ?_
  obtain ⟨i', v', hi', hv', hc'⟩ := zeroOf_info hz
  rw [hi] at hi'
  injection hi' with hi'
  subst hi'
  rw [run_make w ty e i v' hu hi hv' j1 j2 ln cn c1 c2 c3 (by omega)]
  have hm := range_map z.toArray cn.toNat
  simp only [List.size_toArray,c5] at hm
  simp only [madeCells, hc', List.size_toArray, c5]
  rw [hm]
 ·have hlt : cn.toNat < OPEN := by unfold OPEN; omega
  simp [conc,cAddr,hn,cCap,hlt]
 ·refine ⟨[],[], ?_,by simp [hn],by simp [hn],fun _ => by rw [hn]; exact ⟨rfl,rfl⟩⟩
  rw [hn]
  simp only [alloc_new]
  rw [map_plain (reps_plain pz _)]
  simp
 ·intro y hy
  have := scpL_nil (L := L) (reps_plain pz cn.toNat)
  rw [scpL_all,List.all_eq_true] at this
  exact this y hy
theorem fillR_run {L : Nat → Bool} (tr : TRel ρ L t a) (es : Nat) : ∀ (l : List (Nat × Operand)) (cs out : List Value),evFillR t es l cs = some out → scpL L cs = true →
  Instr.fill (fun i => some (i * es,es)) (cs.map (conc ρ)).toArray (l.map fun x => (x.1,a.eval x.2)) = some (out.map (conc ρ)).toArray ∧ scpL L out = true := by
 intro l cs out he hs
 have hc : ∀ l : List (Nat × Operand),cParts (fun i => some (i * es,es)) l = some (l.map fun x => (x.1 * es,es,x.2)) := by
  intro l
  induction l with
  | nil => rfl
  | cons x l ih => simp [cParts,ih]
 have h2 : ∀ (l : List (Nat × Operand)) (cs : List Value),evFill t (l.map fun x => (x.1 * es,es,x.2)) cs = evFillR t es l cs := by
  intro l
  induction l with
  | nil => intro cs; rfl
  | cons x l ih =>
   intro cs
   obtain ⟨i,x⟩ := x
   simp only [List.map_cons,evFill,evFillR]
   cases evalO t x with
   | none => rfl
   | some v => simp only [ih]
 exact fill_run tr l _ cs out (hc l) (by rw [h2]; exact he) hs
theorem s_row {o : Oper} {n : Nat} {ty : TypeId} {len : Nat} {parts : Array (Nat × Operand)} {ao : AOp} {v : Value} {k : ABlk} (ho : o.op = .buildSlice ty len parts) (hc : cRow P ty len parts.toList = some ao) (tr : TRel ρ (live h) t a) (hv : evF t n ao = some (v,k)) : FreshOk P ρ h n a o w v k := by
 unfold cRow at hc
 split at hc
 case h_2 => cases hc
 rename_i e hu
 split at hc
 case h_2 => cases hc
 rename_i i z hi hz
 injection hc with hc
 subst hc
 obtain ⟨pz,zv,hzc,hzr⟩ := zeroOf_run hz
 simp only [evF] at hv
 split at hv
 case isFalse => cases hv
 rename_i hcond
 split at hv
 case h_2 => cases hv
 rename_i cs hcs
 injection hv with hv
 injection hv with h1 h2
 subst h1 h2
 obtain ⟨f1,f2⟩ := fillR_run tr i.size parts.toList _ cs hcs (scpL_nil (reps_plain pz len))
 rw [map_plain (reps_plain pz len)] at f1
 refine ⟨⟨.slice (some ⟨w.heap.size,0,none⟩) len len,.cells (cs.map (conc ρ)).toArray e, ?_,fun ρ' hρ hn => ⟨?_, ?_⟩⟩,fun L hL hn => ⟨by simpa [scp] using hn, ?_⟩,fun cb => ⟨rfl,rfl⟩⟩
 ·unfold execOp
  simp only [ho]
  refine run_val ?_
  have hsz : (sizeOf e).run P w = .ok i.size w := by simp [sizeOf,typeInfo,hi]
  have e1 : (parts.map fun x => (x.1,a.eval x.2)).toList = parts.toList.map fun x => (x.1,a.eval x.2) := by simp
  have g1 : ¬ (len * i.size > 16777216) := by omega
  have hm := range_map z.toArray len
  simp only [List.size_toArray,hcond.2.1] at hm
  by_cases h0 : len * i.size = 0
  ·have hr : reps z len = [] := List.length_eq_zero_iff.1 (by rw [reps_length,hcond.2.1]; exact h0)
   rw [hr] at f1
   simp only [Instr.buildSlice,Sem.run_bind,run_underlying hu,Result.andThen_ok,hsz,h0]
   simp only [e1]
   have f1' : Instr.fill (fun j => some (j * i.size,i.size)) #[] (parts.toList.map fun x => (x.1,a.eval x.2)) = some (cs.map (conc ρ)).toArray := f1
   simp [f1', newRow, show Array.range 0 = #[] from rfl]
  ·simp only [Instr.buildSlice,Sem.run_bind,run_underlying hu,Result.andThen_ok,hsz]
   simp only [e1]
   have g2 : ¬ (len * i.size > 2 ^ 24) := by omega
   simp only [g2,h0,if_false,Sem.run_pure,Result.andThen_ok,Sem.run_bind,hzr w,hzc,List.size_toArray,hcond.2.1,hm,f1]
   simp [newRow]
 ·have hlt : len < OPEN := by unfold OPEN; omega
  simp [conc,cAddr,hn,cCap,hlt]
 ·refine ⟨[],[], ?_,by simp [hn],by simp [hn],fun _ => by rw [hn]; exact ⟨rfl,rfl⟩⟩
  rw [hn]
  simp only [alloc_new]
  have : cs.map (conc ρ') = cs.map (conc ρ) := by
   rw [← concL_map,← concL_map]
   exact concL_congr (fun b hb => congrArg CB.al (hρ b hb)) cs f2
  rw [this]
  simp
 ·intro y hy
  have := scpL_mono hL cs f2
  rw [scpL_all,List.all_eq_true] at this
  exact this y hy
end
end Abs
end Go.Proofs.Ytongllppbifiaaa
namespace Go.Proofs.Ytongllppbifiaaa
namespace Abs
open Go
set_option linter.unusedVariables false
set_option linter.unusedSimpArgs false
def splice (vs : List Value) (o : Nat) : List Value → List Value
 | [v] => vs.set o v
 | l => vs.take o ++ l ++ vs.drop (o + l.length)
def one1 : Value → Bool
 | .agg _ | .tuple _ => false
 | _ => true
def wrCells (h : AH) (b o : Nat) (l : List Value) : Option AH := match h[b]? with
 | some (.cells vs e opn) => if o + l.length ≤ vs.length ∧ l.all one1 then some (h.set b (.cells (splice vs o l) e opn)) else none
 | _ => none
section
variable {P : Program} {ρ : Ren} {t : T} {a : Act} {h : AH} {w : World}
theorem one1_eq (v : Value) : one1 v = v.oneCell' := by cases v <;> rfl
theorem splice_eq (vs : List Value) (o : Nat) (l : List Value) (hl : o + l.length ≤ vs.length) : splice vs o l = vs.take o ++ l ++ vs.drop (o + l.length) := by
 unfold splice
 split
 ·rename_i v
  simp only [List.length_singleton] at hl ⊢
  apply List.ext_getElem?
  intro i
  rw [List.getElem?_set,List.append_assoc,List.getElem?_append,List.getElem?_take]
  simp only [List.length_take,Nat.min_eq_left (by omega : o ≤ vs.length)]
  by_cases h1 : i < o
  ·have : ¬ o = i := by omega
   simp [h1,this]
  ·by_cases h2 : o = i
   ·subst h2
    have : o < vs.length := by omega
    simp [this]
   ·have h3 : ¬ i < o := h1
    obtain ⟨j,hj⟩ : ∃ j,i - o = j + 1 := ⟨i - o - 1,by omega⟩
    simp only [h2,h3,if_false,hj,List.singleton_append,List.getElem?_cons_succ,List.getElem?_drop]
    congr 1
    omega
 ·rfl
theorem splice_mem {vs : List Value} {o : Nat} {l : List Value} (hl : o + l.length ≤ vs.length) {v : Value} (hv : v ∈ splice vs o l) : v ∈ vs ∨ v ∈ l := by
 rw [splice_eq vs o l hl] at hv
 simp only [List.mem_append] at hv
 rcases hv with (hv | hv) | hv
 ·exact .inl (List.mem_of_mem_take hv)
 ·exact .inr hv
 ·exact .inl (List.mem_of_mem_drop hv)
def LoudOk (P : Program) (ρ : Ren) (h : AH) (w : World) (a : Act) (o : Oper) (v : Value) (h' : AH) : Prop :=
 ∃ u nx w' ρ', (execOp a.eval o).run P w = .ok nx w' ∧ (nx = .value u ∨ (nx = .skip ∧ u = undef)) ∧ VR ρ' (live h') v u ∧ Rel ρ' h' w' ∧ Next h.length ρ h w ρ' h' w' ∧ h.length ≤ h'.length
theorem live_upd {b : Nat} {k k' : ABlk} (hb : h[b]? = some k) (hk : k ≠ .hole) (hk' : k' ≠ .hole) : live (h.set b k') = live h := funext fun c => live_set_iff hb hk hk' c
theorem Next.upd {m : Nat} {w' : World} {b : Nat} {k k' : ABlk} (hb : h[b]? = some k) (hk' : k' ≠ .hole) (hf : ∀ x,x ∈ k'.foot (ρ b) → x ∈ k.foot (ρ b)) (hr : ∀ x,x ∈ k'.reach (ρ b) → x ∈ k.reach (ρ b))
  (h1 : w'.os = w.os) (h2 : w'.tape = w.tape) (h3 : w'.output = w.output) (h4 : w.heap.size ≤ w'.heap.size) (hw : ∀ x,x ∉ k.foot (ρ b) → x < w.heap.size → w'.heap[x]? = w.heap[x]?) : Next m ρ h w ρ (h.set b k') w' where
 ext := fun _ _ => rfl
 lives := fun c _ hl => live_set hk' c hl
 os := h1
 tape := h2
 output := h3
 size := h4
 keep := fun x hx hn => hw x (hn b k hb) hx
 prov := fun c l hc x hx => by
  rcases get_set hc with ⟨rfl,rfl⟩ | ⟨_,hc⟩
  ·exact .inr ⟨c,k,hb,hf x hx⟩
  ·exact .inr ⟨c,l,hc,hx⟩
 prow := fun c l hc x hx => by
  rcases get_set hc with ⟨rfl,rfl⟩ | ⟨_,hc⟩
  ·exact .inr ⟨c,k,hb,hr x hx⟩
  ·exact .inr ⟨c,l,hc,hx⟩
theorem setRow_size (w : World) (g : Nat) (cs : Array Value) : (w.setRow g cs).heap.size = w.heap.size := by simp [World.setRow]
theorem wr_rel (r : Rel ρ h w) {b o : Nat} {l : List Value} {h' : AH} (hw : wrCells h b o l = some h') (hs : scpL (live h) l = true) :
  ∃ vs e opn cur,h[b]? = some (.cells vs e opn) ∧ o + l.length ≤ vs.length ∧ w.heap[(ρ b).blk]? = some (.cells cur e (0,0)) ∧ (ρ b).off + o + l.length ≤ cur.size ∧ (∀ u ∈ l.map (conc ρ),u.oneCell' = true) ∧
   ∀ w', w' = w.setRow (ρ b).blk (cur.toList.take ((ρ b).off + o) ++ l.map (conc ρ) ++ cur.toList.drop ((ρ b).off + o + l.length)).toArray → Rel ρ h' w' ∧ Next h.length ρ h w ρ h' w' ∧ live h' = live h ∧ h'.length = h.length := by
 unfold wrCells at hw
 split at hw
 case h_2 => cases hw
 rename_i vs e opn hb
 split at hw
 case isFalse => cases hw
 rename_i hc
 injection hw with hw
 subst hw
 obtain ⟨pre,ex,h1,h2,h3,h4⟩ := r.holds b _ hb
 have hlt : (ρ b).blk < w.heap.size := (Array.getElem?_eq_some_iff.1 h1).1
 refine ⟨vs,e,opn,_,hb,hc.1,h1,by simp; omega,fun u hu => ?_,fun w' hw' => ?_⟩
 ·obtain ⟨v,hv,rfl⟩ := List.mem_map.1 hu
  rw [conc_oneCell,← one1_eq]
  exact List.all_eq_true.1 hc.2 v hv
 ·subst hw'
  have hoth : ∀ (cs : Array Value) x,x ∉ (ABlk.cells vs e opn).foot (ρ b) → x < w.heap.size → (w.setRow (ρ b).blk cs).heap[x]? = w.heap[x]? := fun cs x hx _ => setRow_other w _ x _ (by simpa [ABlk.foot] using hx)
  refine ⟨r.upd hb (by simp) (fun x hx => hx) (fun x hx => hx) ?_ ?_ (hoth _),Next.upd hb (by simp) (fun x hx => hx) (fun x hx => hx) rfl rfl rfl (by rw [setRow_size]; exact Nat.le_refl _) (hoth _),live_upd hb (by simp) (by simp),by simp⟩
  ·intro v hv
   rcases splice_mem hc.1 hv with hv | hv
   ·exact r.scope b _ hb v hv
   ·rw [scpL_all,List.all_eq_true] at hs
    exact hs v hv
  ·refine ⟨pre,ex, ?_,h2,h3,h4⟩
   rw [setRow_heap w _ _ _ _ _ h1]
   congr 2
   rw [splice_eq vs o l hc.1]
   have e1 : (pre ++ vs.map (conc ρ) ++ ex).take ((ρ b).off + o) = pre ++ (vs.take o).map (conc ρ) := by
    rw [← h2,List.append_assoc,List.take_append,List.take_of_length_le (by omega),Nat.add_sub_cancel_left,List.take_append_of_le_length (by simp; omega),List.map_take]
   have e2 : (pre ++ vs.map (conc ρ) ++ ex).drop ((ρ b).off + o + l.length) = (vs.drop (o + l.length)).map (conc ρ) ++ ex := by
    rw [← h2,List.append_assoc,Nat.add_assoc,List.drop_append,List.drop_of_length_le (by omega),Nat.add_sub_cancel_left,List.nil_append,List.drop_append_of_le_length (by simp; omega),List.map_drop]
   rw [List.toList_toArray,e1,e2]
   simp [List.append_assoc]
theorem storeVar_run {ty : TypeId} {n : Nat} (hn : szOf P ty = some n) {g o : Nat} {cur : Array Value} {e : TypeId} {u : Value} (hg : w.heap[g]? = some (.cells cur e (0,0))) (hsz : u.cells.size = n) (hfit : o + n ≤ cur.size) (h1 : ∀ x ∈ u.cells.toList,x.oneCell' = true) :
  (storeVar ty ⟨g,o,none⟩ u).run P w = .ok () (w.setRow g (cur.toList.take o ++ u.cells.toList ++ cur.toList.drop (o + n)).toArray) := by
 have := run_storeCells_at P g o e u.cells.toList 0 cur w hg (by simp; omega) h1
 simp only [Nat.add_zero,Array.length_toList,hsz] at this
 unfold storeVar
 simp [run_sizeOf hn,hsz,this]
def evSt (t : T) (h : AH) (n : Nat) (x v : Operand) : Option (Value × AH) := match evalO t x,evalO t v with
 | some (.pointer (some ⟨b,o,none⟩)),some z => if z.cells.size = n then match wrCells h b o z.cells.toList with
   | some h' => some (undef,h')
   | none => none
  else none
 | _,_ => none
theorem VR_undef {L : Nat → Bool} : VR ρ L undef undef := VR.plain rfl
theorem s_st {o : Oper} {ty : TypeId} {x y : Operand} {n : Nat} {v : Value} {h' : AH} (ho : o.op = .store ty x y) (hn : szOf P ty = some n) (r : Rel ρ h w) (tr : TRel ρ (live h) t a) (hv : evSt t h n x y = some (v,h')) : LoudOk P ρ h w a o v h' := by
 unfold evSt at hv
 split at hv
 case h_2 => cases hv
 rename_i b off z hx hy
 split at hv
 case isFalse => cases hv
 rename_i hsz
 split at hv
 case h_2 => cases hv
 rename_i h2 hw
 injection hv with hv
 injection hv with q1 q2
 subst q1 q2
 have vx := evalO_VR tr hx
 have vy := evalO_VR tr hy
 obtain ⟨vs,e,opn,cur,hb,hle,hg,hfit,h1,hnext⟩ := wr_rel r hw (scp_cells vy.1)
 obtain ⟨g1,g2,g3,g4⟩ := hnext _ rfl
 have e1 : a.eval x = .pointer (some ⟨(ρ b).blk,(ρ b).off + off,none⟩) := vx.2
 have e2 : (a.eval y).cells = z.cells.map (conc ρ) := by rw [vy.2,conc_cells]
 have e3 : (a.eval y).cells.toList = z.cells.toList.map (conc ρ) := by rw [e2]; simp
 have hn2 : z.cells.toList.length = n := by simpa using hsz
 refine ⟨undef,.skip,_,ρ, ?_,.inr ⟨rfl,rfl⟩,VR_undef,g1,g2,by omega⟩
 unfold execOp
 simp only [ho,e1]
 have := storeVar_run (P := P) (w := w) hn (u := a.eval y) (o := (ρ b).off + off) hg (by rw [e2,Array.size_map]; exact hsz) (by omega) (by rw [e3]; exact h1)
 rw [e3] at this
 rw [hn2]
 simp [Instr.storeAt,Instr.sureAddr,this]
end
end Abs
end Go.Proofs.Ytongllppbifiaaa
namespace Go.Proofs.Ytongllppbifiaaa
namespace Abs
open Go
set_option linter.unusedVariables false
set_option linter.unusedSimpArgs false
def newsOf (t : T) (h : AH) (es : Nat) (x : Operand) : Option (Nat × List Value) := match evalO t x with
 | some (.slice none 0 _) => some (0,[])
 | some (.slice (some ⟨b,o,none⟩) m _) => match rdCells h b o (m * es) with
  | some l => if l.all one1 then some (m,l) else none
  | none => none
 | some (.slice (some ⟨_,_,some _⟩) 0 _) => some (0,[])
 | _ => none
def fitsApp (es bytes need : Nat) : Bool := decide (0 < es ∧ need ≤ 4294967296 ∧ need * bytes ≤ 140737488355328)
def capLow (cap : Nat) : Nat := if cap < OPEN then cap else cap - OPEN
def evApp (t : T) (h : AH) (e : TypeId) (es bytes : Nat) (s x : Operand) : Option (Value × AH) := match evalO t s,newsOf t h es x with
 | some (.slice none 0 0),some (m,news) =>
  if m = 0 then some (.slice none 0 0,h)
  else if fitsApp es bytes m then some (.slice (some ⟨h.length,0,none⟩) m (OPEN + m),h ++ [.cells news e (some es)])
  else none
 | some (.slice (some ⟨b,o,none⟩) len cap),some (m,news) =>
  if m = 0 then (if len ≤ capLow cap then some (.slice (some ⟨b,o,none⟩) len cap,h) else none)
  else if len + m ≤ capLow cap then match wrCells h b (o + len * es) news with
   | some h' => some (.slice (some ⟨b,o,none⟩) (len + m) cap,h')
   | none => none
  else if m ≠ 0 ∧ fitsApp es bytes (len + m) = true then
   if cap < OPEN then match rdCells h b o (len * es) with
    | some olds => some (.slice (some ⟨h.length,0,none⟩) (len + m) (OPEN + (len + m)),h ++ [.cells (olds ++ news) e (some es)])
    | none => none
   else match h[b]? with
    | some (.cells vs e' (some es')) => if e' = e ∧ es' = es ∧ o + (cap - OPEN) * es = vs.length ∧ len ≤ cap - OPEN then
      some (.slice (some ⟨h.length,0,none⟩) (len + m) (OPEN + (len + m)),h.set b .dead ++ [.cells ((vs.drop o).take (len * es) ++ news) e (some es)])
     else none
    | _ => none
  else none
 | some (.slice (some ⟨b,o,some d⟩) 0 cap),some (m,news) =>
  if m = 0 then some (.slice (some ⟨b,o,some d⟩) 0 cap,h)
  else if cap = OPEN ∧ d % 2 = 0 ∧ fitsApp es bytes m = true then match h[b]? with
    | some (.cells vs e' (some es')) => if e' = e ∧ es' = es ∧ o + d / 2 = vs.length then
      some (.slice (some ⟨h.length,0,none⟩) m (OPEN + m),h.set b .dead ++ [.cells news e (some es)])
     else none
    | _ => none
  else none
 | _,_ => none
def cApp (P : Program) (ty : TypeId) (s x : Operand) : Option AOp := match P.underlying ty with
 | some (.slice e) => match P.info? e with
  | some i => match i.zero with
   | some z => if z.cells.size = i.size then some (.app e i.size i.bytes s x) else none
   | none => none
  | none => none
 | _ => none
section
variable {P : Program} {ρ : Ren} {t : T} {a : Act} {h : AH} {w : World}
theorem alloc_old (w : World) (o : Obj) {x : Nat} (hx : x < w.heap.size) : (w.alloc o).heap[x]? = w.heap[x]? := by
 show (w.heap.push o)[x]? = _
 rw [Array.getElem?_push,if_neg (by omega)]
theorem push_rel (r : Rel ρ h w) {vs : List Value} {e : TypeId} {es slack : Nat} {ex : List Value} {w' : World} (hs : scpL (live h) vs = true) (hw : w' = w.drew.alloc (.cells (vs.map (conc ρ) ++ ex).toArray e)) (hex : ex.length = slack * es) :
  Rel (upd ρ h.length ⟨w.heap.size,0,slack,[]⟩) (h ++ [.cells vs e (some es)]) w' ∧ Next h.length ρ h w (upd ρ h.length ⟨w.heap.size,0,slack,[]⟩) (h ++ [.cells vs e (some es)]) w' := by
 subst hw
 have hole := r.hole
 have hn : (h ++ [ABlk.hole])[h.length]? = some .hole := by simp
 have heap : ∀ x,x < w.heap.size → (w.drew.alloc (.cells (vs.map (conc ρ) ++ ex).toArray e)).heap[x]? = w.heap[x]? := fun x hx => alloc_old w.drew _ hx
 have reach : ∀ (b : Nat) (l : ABlk),(h ++ [ABlk.hole])[b]? = some l → ∀ x,x ∈ l.reach (ρ b) → x < w.heap.size := fun b l hb x hx => hole.reach_lt hb x hx
 have hsl : ∀ v,v ∈ vs → scp (live h) v = true := by
  rw [scpL_all,List.all_eq_true] at hs
  exact hs
 have hcong : ∀ v,v ∈ vs → conc (upd ρ h.length ⟨w.heap.size,0,slack,[]⟩) v = conc ρ v := fun v hv => conc_congr (n := live h) (fun b hb => upd_al b (by have := live_lt hb; omega)) v (hsl v hv)
 rw [push_eq]
 refine ⟨hole.fill hn (by simp) ?_ ?_ ?_ ?_ ?_, ?_⟩
 ·intro v hv
  exact scp_mono (fun b hb => live_set (by simp) b (live_push b hb)) v (hsl v hv)
 ·refine ⟨[],ex, ?_,rfl,by simpa using hex,by simp⟩
  rw [List.map_congr_left hcong,List.nil_append]
  exact alloc_new w.drew _
 ·exact fun b l hb x hx => heap x (reach b l hb x hx)
 ·intro b l hb x hx hx'
  simp only [ABlk.reach,List.mem_singleton] at hx'
  have := reach b l hb x (foot_reach hx)
  omega
 ·intro b l hb x hx hx'
  simp only [ABlk.foot,List.mem_singleton] at hx'
  have := reach b l hb x hx
  omega
 ·have back : ∀ (b : Nat) (l : ABlk),((h ++ [ABlk.hole]).set h.length (.cells vs e (some es)))[b]? = some l → (b = h.length ∧ l = .cells vs e (some es)) ∨ (b ≠ h.length ∧ h[b]? = some l) := by
   intro b l hb
   rcases get_set hb with h1 | ⟨h1,h2⟩
   ·exact .inl h1
   ·right
    refine ⟨h1, ?_⟩
    have hlt : b < h.length := by
     have := (List.getElem?_eq_some_iff.1 h2).1
     simp at this
     omega
    rw [List.getElem?_append_left hlt] at h2
    exact h2
  refine ⟨fun b hb => upd_al b (by omega),fun b hb hl => live_set (by simp) b (live_push b hl),rfl,rfl,rfl,by simp,fun x hx _ => heap x hx, ?_, ?_⟩
  ·intro b l hb x hx
   rcases back b l hb with ⟨rfl,rfl⟩ | ⟨hne,hb⟩
   ·rw [upd_self] at hx
    simp only [ABlk.foot,List.mem_singleton] at hx
    exact .inl (by omega)
   ·rw [upd_ne _ hne] at hx
    exact .inr ⟨b,l,hb,hx⟩
  ·intro b l hb x hx
   rcases back b l hb with ⟨rfl,rfl⟩ | ⟨hne,hb⟩
   ·rw [upd_self] at hx
    simp only [ABlk.reach,List.mem_singleton] at hx
    exact .inl (by omega)
   ·rw [upd_ne _ hne] at hx
    exact .inr ⟨b,l,hb,hx⟩
theorem push_live {k : ABlk} (hk : k ≠ .hole) : live (h ++ [k]) h.length = true := live_of (k := k) (by simp) hk
theorem rdCells_cell {b o n : Nat} {l : List Value} (r : Rel ρ h w) (hl : rdCells h b o n = some l) : ∀ j u,(l.map (conc ρ))[j]? = some u → w.cell? ((⟨(ρ b).blk,(ρ b).off + o,none⟩ : Addr).add j) = some u := by
 intro j u hu
 unfold rdCells at hl
 split at hl
 case h_2 => cases hl
 rename_i vs hb
 split at hl
 case isFalse => cases hl
 injection hl with hl
 rw [List.getElem?_map] at hu
 cases hj : l[j]? with
 | none => rw [hj] at hu; cases hu
 | some v =>
  rw [hj] at hu
  injection hu with hu
  subst hu
  rw [cell_plain,Nat.add_assoc]
  refine (rdRow_cell r hb ?_).1
  rw [← hl,List.getElem?_take] at hj
  split at hj
  ·rw [List.getElem?_drop] at hj
   exact hj
  ·cases hj
theorem news_run {es : Nat} {x : Operand} {m : Nat} {news : List Value} (r : Rel ρ h w) (tr : TRel ρ (live h) t a) (hn : newsOf t h es x = some (m,news)) : news.length = m * es ∧ scpL (live h) news = true ∧ (∀ u ∈ news.map (conc ρ),u.oneCell' = true) ∧
  ((∃ c,a.eval x = .slice none 0 c ∧ m = 0 ∧ news = []) ∨ ∃ ad c,a.eval x = .slice (some ad) m c ∧ ∀ j u,(news.map (conc ρ))[j]? = some u → w.cell? (ad.add j) = some u) := by
 unfold newsOf at hn
 split at hn
 ·rename_i c hx
  injection hn with hn
  injection hn with q1 q2
  subst q1 q2
  exact ⟨by simp,rfl,by simp,.inl ⟨c,(evalO_VR tr hx).2,rfl,rfl⟩⟩
 ·rename_i b o m' c hx
  split at hn
  case h_2 => cases hn
  rename_i l hl
  split at hn
  case isFalse => cases hn
  rename_i h1
  injection hn with hn
  injection hn with q1 q2
  subst q1 q2
  obtain ⟨_,h2,h3⟩ := rdCells_run (P := default) r hl
  refine ⟨h3,h2,fun u hu => ?_,.inr ⟨cAddr ρ ⟨b,o,none⟩,cCap ρ b c,(evalO_VR tr hx).2,fun j u hu => ?_⟩⟩
  ·obtain ⟨v,hv,rfl⟩ := List.mem_map.1 hu
   rw [conc_oneCell,← one1_eq]
   exact List.all_eq_true.1 h1 v hv
  ·exact rdCells_cell r hl j u hu
 ·rename_i b o d c hx
  injection hn with hn
  injection hn with q1 q2
  subst q1 q2
  exact ⟨by simp,rfl,by simp,.inr ⟨cAddr ρ ⟨b,o,some d⟩,cCap ρ b c,(evalO_VR tr hx).2,by simp⟩⟩
 ·cases hn
theorem run_append_off (ty rt e e2 : TypeId) (i : TypeInfo) (ht : P.underlying ty = some (.slice e)) (hi : P.info? e = some i)
  (g o sLen sCap : Nat) (cur : Array Value) (hg : w.heap[g]? = some (.cells cur e2 (0,0)))
  (x : Value) (m : Nat) (news : List Value) (hl : news.length = m * i.size) (hx : (∃ c,x = .slice none 0 c ∧ m = 0 ∧ news = []) ∨ ∃ ad c,x = .slice (some ad) m c ∧ ∀ j u,news[j]? = some u → w.cell? (ad.add j) = some u) (h1 : ∀ u ∈ news,u.oneCell' = true)
  (hroom : sLen + m ≤ sCap) (hfit : o + sLen * i.size + news.length ≤ cur.size) :
  (Builtin.append_ #[ty,ty] rt #[.slice (some ⟨g,o,none⟩) sLen sCap,x]).run P w =
   .ok (.slice (some ⟨g,o,none⟩) (sLen + m) sCap) (w.setRow g (cur.toList.take (o + sLen * i.size) ++ news ++ cur.toList.drop (o + sLen * i.size + news.length)).toArray) := by
 have hst := run_storeCells_at P g (o + sLen * i.size) e2 news 0 cur w hg (by simpa using hfit) h1
 simp only [Nat.add_zero] at hst
 rcases hx with ⟨c,rfl,rfl,rfl⟩ | ⟨ad,c,rfl,hnews⟩
 ·simp [Builtin.append_,run_underlying ht,sizeOf,typeInfo,hi,Builtin.lenOf,Builtin.firstCells,add_none] at hroom hst ⊢
  simp [hroom,hst]
 ·have hf := run_firstCells_some (P := P) w i.size m ad m c news hl hnews
  simp [Builtin.append_,run_underlying ht,sizeOf,typeInfo,hi,Builtin.lenOf,hroom,hf,add_none,hst]
theorem run_append_zero (ty rt e : TypeId) (i : TypeInfo) (ht : P.underlying ty = some (.slice e)) (hi : P.info? e = some i) (A : Option Addr) (sLen sCap : Nat) (x : Value) (hx : (∃ c,x = .slice none 0 c) ∨ ∃ ad c,x = .slice (some ad) 0 c) (hroom : sLen ≤ sCap) :
  (Builtin.append_ #[ty,ty] rt #[.slice A sLen sCap,x]).run P w = .ok (.slice A sLen sCap) w := by
 rcases hx with ⟨c,rfl⟩ | ⟨ad,c,rfl⟩ <;> cases A <;> simp [Builtin.append_,run_underlying ht,sizeOf,typeInfo,hi,Builtin.lenOf,Builtin.firstCells,loadCells,loadCellsFrom,storeCells,hroom]
theorem exec_app {o : Oper} {ty : TypeId} {s x : Operand} {u : Value} {w' : World} (ho : o.op = .call { callee := .builtin .append,args := #[s,x],argTypes := #[ty,ty] }) (hr : (Builtin.append_ #[ty,ty] o.type #[a.eval s,a.eval x]).run P w = .ok u w') : (execOp a.eval o).run P w = .ok (.value u) w' := by
 rw [exec_builtin ho]
 simp only [builtin,List.map_toArray,List.map_cons,List.map_nil]
 exact run_val hr
theorem zeroCells_len {z : Array Value} (n : Nat) : (Builtin.zeroCells z n).toList.length = n * z.size := by simp [Builtin.zeroCells]
theorem Next.kill {m : Nat} (b : Nat) : Next m ρ h w ρ (h.set b .dead) w where
 ext := fun _ _ => rfl
 lives := fun c _ hl => live_set (by simp) c hl
 os := rfl
 tape := rfl
 output := rfl
 size := Nat.le_refl _
 keep := fun _ _ _ => rfl
 prov := fun c l hc x hx => by
  rcases get_set hc with ⟨rfl,rfl⟩ | ⟨_,hc⟩
  ·cases hx
  ·exact .inr ⟨c,l,hc,hx⟩
 prow := fun c l hc x hx => by
  rcases get_set hc with ⟨rfl,rfl⟩ | ⟨_,hc⟩
  ·cases hx
  ·exact .inr ⟨c,l,hc,hx⟩
theorem app_open {o : Oper} {ty e : TypeId} {i : TypeInfo} {z : Value} {s x : Operand} {b off len cap m c : Nat} {ad : Addr} {vs news : List Value} (ho : o.op = .call { callee := .builtin .append,args := #[s,x],argTypes := #[ty,ty] }) (hu : P.underlying ty = some (.slice e)) (hi : P.info? e = some i) (hz : i.zero = some z) (hzs : z.cells.size = i.size)
  (r : Rel ρ h w) (e1 : a.eval s = .slice (some ⟨(ρ b).blk,(ρ b).off + off,none⟩) len (cCap ρ b cap)) (hLb : live h b = true) (hb : h[b]? = some (.cells vs e (some i.size))) (hend : off + (cap - OPEN) * i.size = vs.length) (hlc : len ≤ cap - OPEN) (hcap : ¬ cap < OPEN) (hroom : ¬ len + m ≤ capLow cap)
  (hf : 0 < i.size ∧ len + m ≤ 4294967296 ∧ (len + m) * i.bytes ≤ 140737488355328) (hm : m ≠ 0) (hl' : (news.map (conc ρ)).length = m * i.size) (hsc : scpL (live h) news = true) (h1 : ∀ u ∈ news.map (conc ρ),u.oneCell' = true) (hx : a.eval x = .slice (some ad) m c) (hnews : ∀ j u,(news.map (conc ρ))[j]? = some u → w.cell? (ad.add j) = some u) :
  LoudOk P ρ h w a o (.slice (some ⟨h.length,0,none⟩) (len + m) (OPEN + (len + m))) (h.set b .dead ++ [.cells ((vs.drop off).take (len * i.size) ++ news) e (some i.size)]) := by
 obtain ⟨K,hK⟩ : ∃ K,cap - OPEN = K := ⟨_,rfl⟩
 have hcl : capLow cap = K := by simp [capLow,hcap,hK]
 rw [hcl] at hroom
 rw [hK] at hend hlc
 have hcc : cCap ρ b cap = K + (ρ b).slack := by simp [cCap,hcap,hK]
 rw [hcc] at e1
 clear hK hcap hcl hcc
 obtain ⟨pre,ex,hg,hpre,hexl,_⟩ := r.holds b _ hb
 simp only [Option.getD_some] at hexl
 obtain ⟨olds,hol⟩ : ∃ l,(vs.drop off).take (len * i.size) = l := ⟨_,rfl⟩
 rw [hol]
 have hlK : len * i.size ≤ K * i.size := Nat.mul_le_mul_right _ hlc
 have hrd : rdCells h b off (len * i.size) = some olds := by
  unfold rdCells rdRow
  rw [hb]
  simp only
  rw [if_pos (by omega),hol]
 obtain ⟨_,ho2,ho3⟩ := rdCells_run (P := P) r hrd
 have hoc := rdCells_cell r hrd
 have r0 := r.kill b
 have hlen0 : (h.set b .dead).length = h.length := by simp
 have hlive0 : live (h.set b .dead) = live h := live_upd hb (by simp) (by simp)
 have hscp : scpL (live (h.set b .dead)) (olds ++ news) = true := by rw [hlive0,scpL_append,ho2,hsc]; rfl
 by_cases hin : len + m ≤ K + (ρ b).slack
 ·
  have hfit : (ρ b).off + off + len * i.size + (news.map (conc ρ)).length ≤ (pre ++ vs.map (conc ρ) ++ ex).toArray.size := by
   have : (len + m) * i.size ≤ (K + (ρ b).slack) * i.size := Nat.mul_le_mul_right _ hin
   rw [Nat.add_mul,Nat.add_mul] at this
   simp only [List.size_toArray, List.length_append, List.length_map, hl', hexl, hpre]
   omega
  have hr := run_append_off (P := P) (w := w) ty o.type e e i hu hi (ρ b).blk ((ρ b).off + off) len (K + (ρ b).slack) _ hg (a.eval x) m (news.map (conc ρ)) hl' (.inr ⟨ad,c,hx,hnews⟩) h1 hin hfit
  generalize hW : w.setRow (ρ b).blk (((pre ++ vs.map (conc ρ) ++ ex).toArray.toList.take ((ρ b).off + off + len * i.size) ++ news.map (conc ρ) ++ (pre ++ vs.map (conc ρ) ++ ex).toArray.toList.drop ((ρ b).off + off + len * i.size + (news.map (conc ρ)).length)).toArray) = w' at hr
  have hother : ∀ x,x ≠ (ρ b).blk → w'.heap[x]? = w.heap[x]? := fun x hx => by rw [← hW]; exact setRow_other w _ x _ hx
  have hself : w'.heap[(ρ b).blk]? = some (.cells ((pre ++ (vs.take off).map (conc ρ)) ++ (olds ++ news).map (conc ρ) ++ (pre ++ vs.map (conc ρ) ++ ex).drop ((ρ b).off + off + (len + m) * i.size)).toArray e (0,0)) := by
   rw [← hW,setRow_heap w _ _ _ _ _ hg]
   congr 2
   have e2 : (pre ++ vs.map (conc ρ) ++ ex).take ((ρ b).off + off + len * i.size) = pre ++ (vs.take off).map (conc ρ) ++ olds.map (conc ρ) := by
    rw [← hpre,List.append_assoc,Nat.add_assoc,List.take_append,List.take_of_length_le (by omega),Nat.add_sub_cancel_left,List.take_append_of_le_length (by simp; omega),List.append_assoc,← List.map_append,← hol,← List.take_add,List.map_take]
   have e3 : (ρ b).off + off + len * i.size + (news.map (conc ρ)).length = (ρ b).off + off + (len + m) * i.size := by rw [hl', Nat.add_mul]; omega
   rw [e3,List.toList_toArray,e2]
   simp [List.append_assoc]
  have hfb : (ρ b).blk ∈ (ABlk.cells vs e (some i.size)).foot (ρ b) := by simp [ABlk.foot]
  have hne : ∀ (d : Nat) (l : ABlk),(h.set b .dead ++ [ABlk.hole])[d]? = some l → (ρ b).blk ∉ l.reach (ρ d) := by
   intro d l hd
   by_cases hdl : d < (h.set b .dead).length
   ·rw [List.getElem?_append_left hdl] at hd
    rcases get_set hd with ⟨rfl,rfl⟩ | ⟨hdb,hd⟩
    ·simp [ABlk.reach]
    ·exact r.apart b d _ l hb hd (fun e => hdb e.symm) _ hfb
   ·rw [List.getElem?_append_right (by omega)] at hd
    have := List.mem_of_getElem? hd
    simp at this
    subst this
    simp [ABlk.reach]
  have hcong : ∀ v,v ∈ olds ++ news → conc (upd ρ h.length ⟨(ρ b).blk,(ρ b).off + off,K + (ρ b).slack - (len + m),[]⟩) v = conc ρ v := fun v hv => by
   rw [hlive0,scpL_all,List.all_eq_true] at hscp
   exact conc_congr (n := live h) (fun d hd => upd_al d (by have := live_lt hd; omega)) v (hscp v hv)
  have hexd : ((pre ++ vs.map (conc ρ) ++ ex).drop ((ρ b).off + off + (len + m) * i.size)).length = (K + (ρ b).slack - (len + m)) * i.size := by
   rw [Nat.sub_mul,Nat.add_mul K]
   simp only [List.length_drop,List.length_append,List.length_map,hexl,hpre]
   omega
  have R := r0.hole.fill (n := h.length) (k := .cells (olds ++ news) e (some i.size)) (cb := ⟨(ρ b).blk,(ρ b).off + off,K + (ρ b).slack - (len + m),[]⟩) (w' := w') (by rw [← hlen0]; simp) (by simp) (fun v hv => scp_mono (fun d hd => live_set (by simp) d (live_push d hd)) v (by rw [scpL_all,List.all_eq_true] at hscp; exact hscp v hv))
   ⟨_,_,by rw [List.map_congr_left hcong]; exact hself,by simp [hpre]; omega,hexd,by simp⟩
   (fun d l hd x hx => hother x (fun e => hne d l hd (e ▸ hx)))
   (fun d l hd x hx hx' => by
    simp only [ABlk.reach,List.mem_singleton] at hx'
    subst hx'
    exact hne d l hd (foot_reach hx))
   (fun d l hd x hx hx' => by
    simp only [ABlk.foot,List.mem_singleton] at hx'
    subst hx'
    exact hne d l hd hx)
  have hpe : (h.set b .dead ++ [ABlk.hole]).set h.length (.cells (olds ++ news) e (some i.size)) = h.set b .dead ++ [.cells (olds ++ news) e (some i.size)] := by
   rw [← hlen0]
   exact (push_eq _ _).symm
  rw [hpe] at R
  have back : ∀ (d : Nat) (l : ABlk),(h.set b .dead ++ [.cells (olds ++ news) e (some i.size)])[d]? = some l → (d = h.length ∧ l = .cells (olds ++ news) e (some i.size)) ∨ (d ≠ h.length ∧ (l = .dead ∨ h[d]? = some l)) := by
   intro d l hd
   by_cases hdl : d < (h.set b .dead).length
   ·rw [List.getElem?_append_left hdl] at hd
    refine .inr ⟨by omega, ?_⟩
    rcases get_set hd with ⟨rfl,rfl⟩ | ⟨hdb,hd⟩
    ·exact .inl rfl
    ·exact .inr hd
   ·rw [List.getElem?_append_right (by omega)] at hd
    have h2 := (List.getElem?_eq_some_iff.1 hd).1
    simp at h2
    have := List.mem_of_getElem? hd
    simp at this
    exact .inl ⟨by omega,this⟩
  refine ⟨.slice (some ⟨(ρ b).blk, (ρ b).off + off, none⟩) (len + m) (K + (ρ b).slack), _, w', upd ρ h.length ⟨(ρ b).blk, (ρ b).off + off, K + (ρ b).slack - (len + m), []⟩, exec_app ho (by rw [e1]; exact hr), .inl rfl, ⟨?_, ?_⟩, R, ?_, by simp⟩
  ·simp only [scp]
   rw [← hlen0]
   exact push_live (by simp)
  ·simp only [conc,cAddr,upd_self,cCap]
   rw [if_neg (Nat.not_lt_of_le (Nat.le_add_right _ _)),Nat.add_sub_cancel_left]
   simp
   omega
  ·refine ⟨fun d hd => upd_al d (by omega),fun d hd hl => live_push d (by rw [hlive0]; exact hl),by rw [← hW]; rfl,by rw [← hW]; rfl,by rw [← hW]; rfl,by rw [← hW,setRow_size]; exact Nat.le_refl _,fun x hx hn => hother x (fun e => hn b _ hb (e ▸ hfb)), ?_, ?_⟩
   ·intro d l hd x hx
    rcases back d l hd with ⟨rfl, rfl⟩ | ⟨hne', rfl | hd⟩
    ·rw [upd_self] at hx
     simp only [ABlk.foot,List.mem_singleton] at hx
     subst hx
     exact .inr ⟨b,_,hb,hfb⟩
    ·cases hx
    ·rw [upd_ne _ hne'] at hx
     exact .inr ⟨d,l,hd,hx⟩
   ·intro d l hd x hx
    rcases back d l hd with ⟨rfl, rfl⟩ | ⟨hne', rfl | hd⟩
    ·rw [upd_self] at hx
     simp only [ABlk.reach,List.mem_singleton] at hx
     subst hx
     exact .inr ⟨b,_,hb,foot_reach hfb⟩
    ·cases hx
    ·rw [upd_ne _ hne'] at hx
     exact .inr ⟨d,l,hd,hx⟩
 ·
  have hr := run_append_grow (P := P) w ty o.type e i z hu hi hz ⟨(ρ b).blk,(ρ b).off + off,none⟩ len (K + (ρ b).slack) (olds.map (conc ρ)) (by simpa using ho3) hoc ad m c (news.map (conc ρ)) hl' hnews (by omega) (by omega) (growslice_fits (by omega) hf.2.2)
  have hex : (Builtin.zeroCells z.cells (grownCap w (len + m) (K + (ρ b).slack) e - (len + m))).toList.length = (grownCap w (len + m) (K + (ρ b).slack) e - (len + m)) * i.size := by rw [zeroCells_len,hzs]
  obtain ⟨g1,g2⟩ := push_rel r0 (e := e) (vs := olds ++ news) (w' := w.drew.alloc (.cells ((olds.map (conc ρ)).toArray ++ (news.map (conc ρ)).toArray ++ Builtin.zeroCells z.cells (grownCap w (len + m) (K + (ρ b).slack) e - (len + m))) e)) hscp (by congr 2; apply Array.ext'; simp) hex
  rw [hlen0] at g1 g2
  refine ⟨.slice (some ⟨w.heap.size,0,none⟩) (len + m) (grownCap w (len + m) (K + (ρ b).slack) e),_,_,_,exec_app ho (by rw [e1,hx]; exact hr),.inl rfl,⟨?_, ?_⟩,g1,(Next.kill b).trans g2,by simp⟩
  ·simp only [scp]
   rw [← hlen0]
   exact push_live (by simp)
  ·have hge := grownCap_ge w (len + m) (K + (ρ b).slack) e
   simp only [conc,cAddr,upd_self,cCap]
   rw [if_neg (Nat.not_lt_of_le (Nat.le_add_right _ _)),Nat.add_sub_cancel_left]
   simp
   omega
theorem s_app {o : Oper} {ty : TypeId} {s x : Operand} {ao : AOp} {v : Value} {h' : AH} (ho : o.op = .call { callee := .builtin .append,args := #[s,x],argTypes := #[ty,ty] }) (hc : cApp P ty s x = some ao) (r : Rel ρ h w) (tr : TRel ρ (live h) t a)
  (hv : ∀ e es bytes,ao = .app e es bytes s x → evApp t h e es bytes s x = some (v,h')) : LoudOk P ρ h w a o v h' := by
 unfold cApp at hc
 split at hc
 case h_2 => cases hc
 rename_i e hu
 split at hc
 case h_2 => cases hc
 rename_i i hi
 split at hc
 case h_2 => cases hc
 rename_i z hz
 split at hc
 case isFalse => cases hc
 rename_i hzs
 injection hc with hc
 replace hv := hv e i.size i.bytes hc.symm
 unfold evApp at hv
 split at hv
 ·
  rename_i m news hs hn
  have e1 : a.eval s = .slice none 0 0 := (evalO_VR tr hs).2
  obtain ⟨hl,hsc,h1,hx⟩ := news_run r tr hn
  split at hv
  ·rename_i hm
   injection hv with hv
   injection hv with q1 q2
   subst q1 q2
   refine ⟨.slice none 0 0,.value (.slice none 0 0),w,ρ,exec_app ho ?_,.inl rfl,VR.plain rfl,r,Next.refl _ _ _ _,Nat.le_refl _⟩
   rw [e1]
   rcases hx with ⟨c,hx,_,_⟩ | ⟨ad,c,hx,_⟩
   ·rw [hx]
    simp [Builtin.append_,run_underlying hu,sizeOf,typeInfo,hi,Builtin.lenOf,Builtin.firstCells]
   ·rw [hx,hm]
    simp [Builtin.append_,run_underlying hu,sizeOf,typeInfo,hi,Builtin.lenOf,Builtin.firstCells,loadCells,loadCellsFrom]
  ·rename_i hm
   split at hv
   case isFalse => cases hv
   rename_i hf
   simp only [fitsApp,decide_eq_true_eq] at hf
   injection hv with hv
   injection hv with q1 q2
   subst q1 q2
   rcases hx with ⟨c,_,h0,_⟩ | ⟨ad,c,hx,hnews⟩
   ·exact absurd h0 hm
   have hr := run_append_nil (P := P) w ty o.type e i z hu hi hz ad m c (news.map (conc ρ)) (by simpa using hl) hnews (by omega) (by omega) (by omega)
   have hex : (Builtin.zeroCells z.cells (grownCap w m 0 e - m)).toList.length = (grownCap w m 0 e - m) * i.size := by rw [zeroCells_len,hzs]
   obtain ⟨g1,g2⟩ := push_rel r (e := e) (w' := w.drew.alloc (.cells ((news.map (conc ρ)).toArray ++ Builtin.zeroCells z.cells (grownCap w m 0 e - m)) e)) hsc (by congr 2; apply Array.ext'; simp) hex
   refine ⟨.slice (some ⟨w.heap.size,0,none⟩) m (grownCap w m 0 e),_,_,_,exec_app ho (by rw [e1,hx]; exact hr),.inl rfl,⟨?_, ?_⟩,g1,g2,by simp⟩
   ·simp only [scp]
    exact push_live (by simp)
   ·have hge := grownCap_ge w m 0 e
    simp only [conc,cAddr,upd_self,cCap]
    rw [if_neg (Nat.not_lt_of_le (Nat.le_add_right _ _)),Nat.add_sub_cancel_left]
    simp
    omega
 ·rename_i b off len cap m news hs hn
  have vs_ := evalO_VR tr hs
  have e1 : a.eval s = .slice (some ⟨(ρ b).blk,(ρ b).off + off,none⟩) len (cCap ρ b cap) := vs_.2
  have hLb : live h b = true := by simpa [scp] using vs_.1
  obtain ⟨hl,hsc,h1,hx⟩ := news_run r tr hn
  have hl' : (news.map (conc ρ)).length = m * i.size := by simpa using hl
  have hge : capLow cap ≤ cCap ρ b cap := by
   unfold cCap capLow
   split
   ·exact Nat.le_refl _
   ·exact Nat.le_add_right _ _
  split at hv
  ·
   rename_i hm
   split at hv
   case isFalse => cases hv
   rename_i hlc
   injection hv with hv
   injection hv with q1 q2
   subst q1 q2
   refine ⟨.slice (some ⟨(ρ b).blk,(ρ b).off + off,none⟩) len (cCap ρ b cap),_,w,ρ,exec_app ho ?_,.inl rfl,⟨by simpa [scp] using hLb,by simp [conc,cAddr]⟩,r,Next.refl _ _ _ _,Nat.le_refl _⟩
   rw [e1]
   exact run_append_zero ty o.type e i hu hi _ _ _ _ (hx.imp (fun ⟨c,q1,_⟩ => ⟨c,q1⟩) (fun ⟨ad,c,q1,_⟩ => ⟨ad,c,by rw [q1,hm]⟩)) (Nat.le_trans hlc hge)
  split at hv
  ·
   rename_i hroom
   split at hv
   case h_2 => cases hv
   rename_i h2 hw
   injection hv with hv
   injection hv with q1 q2
   subst q1 q2
   obtain ⟨vs, e', opn, cur, hb, hle, hg, hfit, ho1, hnext⟩ := wr_rel r hw hsc
   obtain ⟨g1,g2,g3,g4⟩ := hnext _ rfl
   have hr := run_append_off (P := P) (w := w) ty o.type e e' i hu hi (ρ b).blk ((ρ b).off + off) len (cCap ρ b cap) cur hg (a.eval x) m (news.map (conc ρ)) hl' (hx.imp (fun ⟨c,q1,q2,q3⟩ => ⟨c,q1,q2,by rw [q3]; rfl⟩) id) ho1 (Nat.le_trans hroom hge) (by simp; omega)
   refine ⟨.slice (some ⟨(ρ b).blk,(ρ b).off + off,none⟩) (len + m) (cCap ρ b cap),_,_,ρ,exec_app ho (by rw [e1]; exact hr),.inl rfl,⟨by rw [g3]; simpa [scp] using hLb,by simp [conc,cAddr]⟩, ?_, ?_,by omega⟩
   ·have : (ρ b).off + off + len * i.size = (ρ b).off + (off + len * i.size) := by omega
    simpa [this] using g1
   ·have : (ρ b).off + off + len * i.size = (ρ b).off + (off + len * i.size) := by omega
    simpa [this] using g2
  ·rename_i hroom
   split at hv
   case isFalse => cases hv
   rename_i hmf
   obtain ⟨hm,hf⟩ := hmf
   simp only [fitsApp,decide_eq_true_eq] at hf
   rcases hx with ⟨c,_,h0,_⟩ | ⟨ad,c,hx,hnews⟩
   ·exact absurd h0 hm
   split at hv
   ·
    rename_i hcap
    split at hv
    case h_2 => cases hv
    rename_i olds hol
    injection hv with hv
    injection hv with q1 q2
    subst q1 q2
    have hcc : cCap ρ b cap = cap := by simp [cCap,hcap]
    have hcl : capLow cap = cap := by simp [capLow,hcap]
    rw [hcl] at hroom
    rw [hcc] at e1
    obtain ⟨_,ho2,ho3⟩ := rdCells_run (P := P) r hol
    have hoc := rdCells_cell r hol
    have hr := run_append_grow (P := P) w ty o.type e i z hu hi hz ⟨(ρ b).blk,(ρ b).off + off,none⟩ len cap (olds.map (conc ρ)) (by simpa using ho3) hoc ad m c (news.map (conc ρ)) hl' hnews (by omega) (by omega) (growslice_fits (by omega) hf.2.2)
    have hex : (Builtin.zeroCells z.cells (grownCap w (len + m) cap e - (len + m))).toList.length = (grownCap w (len + m) cap e - (len + m)) * i.size := by rw [zeroCells_len,hzs]
    obtain ⟨g1,g2⟩ := push_rel r (e := e) (vs := olds ++ news) (w' := w.drew.alloc (.cells ((olds.map (conc ρ)).toArray ++ (news.map (conc ρ)).toArray ++ Builtin.zeroCells z.cells (grownCap w (len + m) cap e - (len + m))) e)) (by rw [scpL_append,ho2,hsc]; rfl) (by congr 2; apply Array.ext'; simp) hex
    refine ⟨.slice (some ⟨w.heap.size,0,none⟩) (len + m) (grownCap w (len + m) cap e),_,_,_,exec_app ho (by rw [e1,hx]; exact hr),.inl rfl,⟨?_, ?_⟩,g1,g2,by simp⟩
    ·simp only [scp]
     exact push_live (by simp)
    ·have hge := grownCap_ge w (len + m) cap e
     simp only [conc,cAddr,upd_self,cCap]
     rw [if_neg (Nat.not_lt_of_le (Nat.le_add_right _ _)),Nat.add_sub_cancel_left]
     simp
     omega
   ·rename_i hcap
    split at hv
    case h_2 => cases hv
    rename_i vs e' es' hb
    split at hv
    case isFalse => cases hv
    rename_i hcond
    obtain ⟨rfl,rfl,hend,hlc⟩ := hcond
    injection hv with hv
    injection hv with q1 q2
    subst q1 q2
    exact app_open ho hu hi hz hzs r e1 hLb hb hend hlc hcap hroom hf hm hl' hsc h1 hx hnews
 ·
  rename_i b off d cap m news hs hn
  have vs_ := evalO_VR tr hs
  have e1 : a.eval s = .slice (some (cAddr ρ ⟨b,off,some d⟩)) 0 (cCap ρ b cap) := vs_.2
  have hLb : live h b = true := by simpa [scp] using vs_.1
  obtain ⟨hl,hsc,h1,hx⟩ := news_run r tr hn
  have hl' : (news.map (conc ρ)).length = m * i.size := by simpa using hl
  split at hv
  ·rename_i hm
   injection hv with hv
   injection hv with q1 q2
   subst q1 q2
   refine ⟨.slice (some (cAddr ρ ⟨b,off,some d⟩)) 0 (cCap ρ b cap),_,w,ρ,exec_app ho ?_,.inl rfl,⟨by simpa [scp] using hLb,by simp [conc]⟩,r,Next.refl _ _ _ _,Nat.le_refl _⟩
   rw [e1]
   exact run_append_zero ty o.type e i hu hi _ _ _ _ (hx.imp (fun ⟨c,q1,_⟩ => ⟨c,q1⟩) (fun ⟨ad,c,q1,_⟩ => ⟨ad,c,by rw [q1,hm]⟩)) (Nat.zero_le _)
  ·rename_i hm
   split at hv
   case isFalse => cases hv
   rename_i hcond
   obtain ⟨hcap,hd,hf⟩ := hcond
   simp only [fitsApp,decide_eq_true_eq] at hf
   split at hv
   case h_2 => cases hv
   rename_i vs e' es' hb
   split at hv
   case isFalse => cases hv
   rename_i hcond
   obtain ⟨rfl,rfl,hend⟩ := hcond
   injection hv with hv
   injection hv with q1 q2
   subst q1 q2 hcap
   rcases hx with ⟨c,_,h0,_⟩ | ⟨ad,c,hx,hnews⟩
   ·exact absurd h0 hm
   have hcc : cCap ρ b OPEN = (ρ b).slack := by simp [cCap]
   have hd1 : ¬ d % 2 = 1 := by omega
   by_cases hsl : (ρ b).slack = 0
   ·
    have r0 := r.kill b
    have hlen0 : (h.set b .dead).length = h.length := by simp
    have hlive0 : live (h.set b .dead) = live h := live_upd hb (by simp) (by simp)
    rw [hcc,hsl] at e1
    have hr := run_append_grow (P := P) w ty o.type e' i z hu hi hz (cAddr ρ ⟨b,off,some d⟩) 0 0 [] (by simp) (by intro j u hu; simp at hu) ad m c (news.map (conc ρ)) hl' hnews (by omega) (by omega) (growslice_fits (by omega) (by simpa using hf.2.2))
    have hex : (Builtin.zeroCells z.cells (grownCap w (0 + m) 0 e' - (0 + m))).toList.length = (grownCap w (0 + m) 0 e' - (0 + m)) * i.size := by rw [zeroCells_len,hzs]
    obtain ⟨g1,g2⟩ := push_rel r0 (e := e') (vs := news) (w' := w.drew.alloc (.cells (([] : List Value).toArray ++ (news.map (conc ρ)).toArray ++ Builtin.zeroCells z.cells (grownCap w (0 + m) 0 e' - (0 + m))) e')) (by rw [hlive0]; exact hsc) (by congr 2; apply Array.ext'; simp) hex
    rw [hlen0] at g1 g2
    refine ⟨.slice (some ⟨w.heap.size,0,none⟩) (0 + m) (grownCap w (0 + m) 0 e'),_,_,_,exec_app ho (by rw [e1,hx]; exact hr),.inl rfl,⟨?_, ?_⟩,g1,(Next.kill b).trans g2,by simp⟩
    ·simp only [scp]
     rw [← hlen0]
     exact push_live (by simp)
    ·have hge := grownCap_ge w (0 + m) 0 e'
     simp only [conc,cAddr,upd_self,cCap]
     rw [if_neg (Nat.not_lt_of_le (Nat.le_add_right _ _)),Nat.add_sub_cancel_left]
     simp only [Nat.zero_add] at hge ⊢
     simp
     omega
   ·have e2 : a.eval s = .slice (some ⟨(ρ b).blk,(ρ b).off + (off + d / 2),none⟩) 0 (cCap ρ b OPEN) := by
     rw [e1]
     simp [cAddr,hd1,hsl,Nat.add_assoc]
    have := app_open (news := news) (m := m) ho hu hi hz hzs r e2 hLb hb (by simp; omega) (by simp) (by simp) (by simp [capLow]; omega) (by simpa using hf) hm hl' hsc h1 hx hnews
    simpa using this
 ·cases hv
def evClr (t : T) (h : AH) (zero : List Value) (x : Operand) : Option (Value × AH) := match evalO t x,zero with
 | some (.slice a n _),[z] => if n = 0 then some (.tuple #[],h) else match a with
   | some ⟨b,o,none⟩ => if plain z then match wrCells h b o (List.replicate n z) with
     | some h' => some (.tuple #[],h')
     | none => none
    else none
   | _ => none
 | _,_ => none
def cClr (P : Program) (t : TypeId) (x : Operand) : Option AOp := match P.underlying t with
 | some (.slice e) => match zeroOf P e with
  | some [z] => some (.clear [z] x)
  | _ => none
 | _ => none
theorem scpL_iff {L : Nat → Bool} {l : List Value} : scpL L l = true ↔ ∀ v ∈ l,scp L v = true := by rw [scpL_all,List.all_eq_true]
theorem zeroCells_one (z : Value) (n : Nat) : (Builtin.zeroCells #[z] n).toList = List.replicate n z := by
 simp [Builtin.zeroCells]
 apply List.ext_getElem
 ·simp
 ·intro i h1 h2
  simp [Nat.mod_one]
theorem Next.same {m : Nat} : Next m ρ h w ρ h w where
 ext := fun _ _ => rfl
 lives := fun c _ hl => hl
 os := rfl
 tape := rfl
 output := rfl
 size := Nat.le_refl _
 keep := fun _ _ _ => rfl
 prov := fun c l hc x hx => .inr ⟨c,l,hc,hx⟩
 prow := fun c l hc x hx => .inr ⟨c,l,hc,hx⟩
theorem s_clr {o : Oper} {ty : TypeId} {x : Operand} {ao : AOp} {v : Value} {h' : AH} (ho : o.op = .call { callee := .builtin .clear,args := #[x],argTypes := #[ty] }) (hc : cClr P ty x = some ao) (r : Rel ρ h w) (tr : TRel ρ (live h) t a)
  (hv : ∀ z,ao = .clear z x → evClr t h z x = some (v,h')) : LoudOk P ρ h w a o v h' := by
 unfold cClr at hc
 split at hc
 case h_2 => cases hc
 rename_i e hu
 split at hc
 case h_2 => cases hc
 rename_i z hz
 injection hc with hc
 have hv := hv _ hc.symm
 obtain ⟨hzp,zv,hzc,hzr⟩ := zeroOf_run hz
 unfold evClr at hv
 split at hv
 case h_2 => cases hv
 rename_i ad n c z' hx hzz
 injection hzz with hzz _
 subst hzz
 have vx := evalO_VR tr hx
 obtain ⟨cs,hex⟩ : ∃ cs,execOp a.eval o = builtin .clear #[ty] o.type cs #[a.eval x] := ⟨_,(exec_builtin (a := a) ho).trans (by simp only [List.map_toArray,List.map_cons,List.map_nil]; rfl)⟩
 split at hv
 ·rename_i hn
  subst hn
  injection hv with hv
  injection hv with q1 q2
  subst q1 q2
  refine ⟨.tuple #[],.value (.tuple #[]),w,ρ, ?_,.inl rfl,VR.plain rfl,r,Next.same,Nat.le_refl _⟩
  rw [hex]
  simp only [builtin]
  refine run_val ?_
  rw [vx.2]
  cases ad with
  | none => simp [conc,Builtin.clear_,run_underlying hu]
  | some ad => simp [conc,Builtin.clear_,run_underlying hu]
 ·rename_i hn
  split at hv
  case h_2 => cases hv
  rename_i b off
  split at hv
  case isFalse => cases hv
  split at hv
  case h_2 => cases hv
  rename_i h2 hw
  injection hv with hv
  injection hv with q1 q2
  subst q1 q2
  have hzs : scpL (live h) (List.replicate n z) = true := by
   refine scpL_iff.2 fun u hu => ?_
   rw [List.eq_of_mem_replicate hu]
   exact scpL_iff.1 (scpL_nil hzp) z (by simp)
  obtain ⟨vs,e2,opn,cur,hb,hle,hg,hfit,h1,hnext⟩ := wr_rel r hw hzs
  obtain ⟨g1,g2,g3,g4⟩ := hnext _ rfl
  have hcz : (List.replicate n z).map (conc ρ) = List.replicate n z := by
   rw [List.map_replicate]
   congr 1
   exact (VR.plain (ρ := ρ) (n := nil) (scpL_iff.1 hzp z (by simp))).2.symm
  rw [hcz] at h1 g1 g2
  have hst := run_storeCells_at P (ρ b).blk ((ρ b).off + off) e2 (List.replicate n z) 0 cur w hg (by simpa using hfit) h1
  simp only [Nat.add_zero] at hst
  refine ⟨.tuple #[],.value (.tuple #[]),_,ρ, ?_,.inl rfl,VR.plain rfl,g1,g2,by omega⟩
  rw [hex]
  simp only [builtin]
  refine run_val ?_
  rw [vx.2]
  obtain ⟨m,rfl⟩ : ∃ m,n = m + 1 := ⟨n - 1,by omega⟩
  simp [conc,cAddr,Builtin.clear_,run_underlying hu,hzr,hzc,zeroCells_one,hst]
end
end Abs
end Go.Proofs.Ytongllppbifiaaa
