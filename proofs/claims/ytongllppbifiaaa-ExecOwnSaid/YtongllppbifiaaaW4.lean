import Derived.Test.YtongllppbifiaaaW3
import Derived.WalkKit
import Derived.Deep.Draws
namespace Go.Proofs.Ytongllppbifiaaa
namespace Abs
open Go
set_option linter.unusedVariables false
set_option linter.unusedSimpArgs false
section
variable {P : Program} {m : Nat} {t : T} {h : AH} {Q : AExit → T → AH → Prop}
theorem awp_known {c : Code} (hw : AOK h → TOK (live h) t → m ≤ h.length → AWp P m c Q t h) : AWp P m c Q t h :=
 fun ρ w a r tr hm => hw r.scope (fun i v hi => (tr.val i v hi).choose_spec.2.1) hm ρ w a r tr hm
def next5 {σ : Type _} (n : Nat) (I : σ → Prop) (μ : σ → Nat) (tv : σ → List (Nat × Value)) (hv : σ → AH) (s : σ) (t : T) (h : AH) : Prop := ∃ s', μ s' < μ s ∧ I s' ∧ h = hv s' ∧ t.length = n ∧ ∀ x ∈ tv s', getT t x.1 = some x.2
theorem next5.intro {σ : Type _} {n : Nat} {I : σ → Prop} {μ : σ → Nat} {tv : σ → List (Nat × Value)} {hv : σ → AH} {s : σ} (s' : σ) (h1 : μ s' < μ s) (h2 : I s') (h3 : h = hv s') (h4 : t.length = n) (h5 : ∀ x ∈ tv s', getT t x.1 = some x.2) : next5 n I μ tv hv s t h := ⟨s', h1, h2, h3, h4, h5⟩
def loopQ5 {σ : Type _} (n : Nat) (I : σ → Prop) (μ : σ → Nat) (tv : σ → List (Nat × Value)) (hv : σ → AH) (s : σ) (Q : AExit → T → AH → Prop) : AExit → T → AH → Prop
 | .normal,t,h => next5 n I μ tv hv s t h
 | e,t,h => Q e t h
theorem tok_tv {n : Nat} {tv : List (Nat × Value)} (hn : t.length = n) (ht : ∀ x ∈ tv,getT t x.1 = some x.2) : (∀ (i : Nat) v,(mkT n tv)[i]? = some (some v) → t[i]? = some (some v)) := by
 intro i v hi
 have hm := mkT_get hi
 have e := ht _ hm
 rw [getT_eq] at e
 cases hx : t[i]? with
 | none => simp only [hx] at e; cases e
 | some o => simp only [hx,Option.join_some] at e; rw [e]
theorem awp_tv {c : Code} {n : Nat} {tv : List (Nat × Value)} (hn : t.length = n) (ht : ∀ x ∈ tv,getT t x.1 = some x.2) (hw : AOK h → (∀ x ∈ tv,scp (live h) x.2 = true) → m ≤ h.length → AWp P m c Q (mkT n tv) h) : AWp P m c Q t h := by
 refine awp_known fun ok tok hm => ?_
 have hs : ∀ x ∈ tv,scp (live h) x.2 = true := by
  intro x hx
  have e := ht x hx
  rw [getT_eq] at e
  cases hy : t[x.1]? with
  | none => simp only [hy] at e; cases e
  | some o =>
   simp only [hy,Option.join_some] at e
   rw [e] at hy
   exact tok _ _ hy
 refine awp_less (t2 := mkT n tv) (h2 := h) (by rw [mkT_length,hn]) (fun i v hi => ⟨tok_tv hn ht i v hi,hs _ (mkT_get hi)⟩) (by simp) ok hm (hw ok hs hm)
theorem loop5 (hmix : P.follows .mixedOrders = true) {ac : ACode} {σ : Type _} (n : Nat) (I : σ → Prop) (μ : σ → Nat) (tv : σ → List (Nat × Value)) (hv : σ → AH) (s0 : σ) (hI : I s0) (hh : h = hv s0) (hn : t.length = n) (ht : ∀ x ∈ tv s0,getT t x.1 = some x.2)
  (hr : ∀ s,I s → AOK (hv s) → (∀ x ∈ tv s,scp (live (hv s)) x.2 = true) → m ≤ (hv s).length → begin_ P m (mkT n (tv s)) ac (hv s) (loopQ5 n I μ tv hv s Q)) : ALoop P m ac t h Q := by
 subst hh
 have key : ∀ N s,μ s = N → I s → AOK (hv s) → (∀ x ∈ tv s,scp (live (hv s)) x.2 = true) → m ≤ (hv s).length → ∀ c,cCode P c = some ac → ARounds P m c Q (N + 1) (mkT n (tv s)) (hv s) := by
  intro N
  induction N using Nat.strongRecOn with
  | _ N ih =>
   intro s hs hI ok hsc hm c hc
   have hb := hr s hI ok hsc hm
   unfold begin_ run at hb
   have hw := W_sound (holds := fun p => p) hmix (fun h => h) (fun _ _ _ _ h => h) (fun c ac t h K hc hl => hl c hc) c ac _ _ _ hc hb
   refine AWp.mono hw fun e t' h' hq => ?_
   unfold resK resume at hq
   cases e with
   | normal =>
    obtain ⟨s', hlt, hI', rfl, hn', ht'⟩ := hq
    cases N with
    | zero => exact absurd hlt (by omega)
    | succ N =>
     show AWp P m c _ t' (hv s')
     refine awp_tv hn' ht' fun ok' hsc' hm' => ?_
     exact ARounds.more (μ s' + 1) (N + 1) _ _ (by omega) (ih (μ s') (by omega) s' rfl hI' ok' hsc' hm' c hc)
   | exit id => exact hq
   | ret => exact hq
 intro c hc
 exact awp_tv hn ht fun ok hsc hm => awp_rounds _ (key _ s0 rfl hI ok hsc hm c hc)
attribute [irreducible] next5
theorem DN5 : (∀ {σ : Type} (n : Nat) (I : σ → Prop) (μ : σ → Nat) (tv : σ → List (Nat × Value)) (hv : σ → AH) (s : σ) (Q : AExit → T → AH → Prop) (t : T) (h : AH),loopQ5 n I μ tv hv s Q .normal t h = next5 n I μ tv hv s t h) ∧
  (∀ {σ : Type} (n : Nat) (I : σ → Prop) (μ : σ → Nat) (tv : σ → List (Nat × Value)) (hv : σ → AH) (s : σ) (Q : AExit → T → AH → Prop) (t : T) (h : AH) (i : Nat),loopQ5 n I μ tv hv s Q (.exit i) t h = Q (.exit i) t h) ∧
  (∀ {σ : Type} (n : Nat) (I : σ → Prop) (μ : σ → Nat) (tv : σ → List (Nat × Value)) (hv : σ → AH) (s : σ) (Q : AExit → T → AH → Prop) (t : T) (h : AH),loopQ5 n I μ tv hv s Q .ret t h = Q .ret t h) ∧
  (∀ {σ : Type 1} (n : Nat) (I : σ → Prop) (μ : σ → Nat) (tv : σ → List (Nat × Value)) (hv : σ → AH) (s : σ) (Q : AExit → T → AH → Prop) (t : T) (h : AH),loopQ5 n I μ tv hv s Q .normal t h = next5 n I μ tv hv s t h) ∧
  (∀ {σ : Type 1} (n : Nat) (I : σ → Prop) (μ : σ → Nat) (tv : σ → List (Nat × Value)) (hv : σ → AH) (s : σ) (Q : AExit → T → AH → Prop) (t : T) (h : AH) (i : Nat),loopQ5 n I μ tv hv s Q (.exit i) t h = Q (.exit i) t h) ∧
  (∀ {σ : Type 1} (n : Nat) (I : σ → Prop) (μ : σ → Nat) (tv : σ → List (Nat × Value)) (hv : σ → AH) (s : σ) (Q : AExit → T → AH → Prop) (t : T) (h : AH),loopQ5 n I μ tv hv s Q .ret t h = Q .ret t h) :=
 ⟨fun _ _ _ _ _ _ _ _ _ => rfl,fun _ _ _ _ _ _ _ _ _ _ => rfl,fun _ _ _ _ _ _ _ _ _ => rfl,fun _ _ _ _ _ _ _ _ _ => rfl,fun _ _ _ _ _ _ _ _ _ _ => rfl,fun _ _ _ _ _ _ _ _ _ => rfl⟩
end
theorem AC.clean {P : Program} {f : FuncId} {args : List Value} {h : AH} {K : Value → AH → Prop} (hc : AC P f args h (fun v h' => plain v = true ∧ (∃ E,h' = h ++ E) ∧ K v h)) : AC P f args h K := by
 refine ⟨hc.1,fun ρ w us r hs ha => ?_⟩
 have ok : AOK h := r.scope
 have hs2 : AC P f args h K := by
  refine AC.sees (hc.mono ?_)
  rintro v h' ⟨hv,⟨E,rfl⟩,hk⟩
  have hpre : ∀ b (k : ABlk),h[b]? = some k → (h ++ E)[b]? = some k := fun b k hb => by rw [List.getElem?_append_left (List.getElem?_eq_some_iff.1 hb).1]; exact hb
  refine ⟨v,h,fun b => b,fun b => [b],⟨fun b k hb => .keep ?_,fun b c _ _ hne x hx hx' => ?_⟩,ok,scp_mono (fun b hb => by cases hb) v hv,(ren_id v).symm,fun _ _ => rfl,fun b hb hl => ?_,Nat.le_refl _,hk⟩
  ·rw [renB_id]
   exact hpre b k hb
  ·simp only [List.mem_singleton] at hx hx'
   exact hne (hx.symm.trans hx')
  ·unfold live at hl ⊢
   rw [List.getElem?_append_left hb] at hl
   exact hl
 exact hs2.2 ρ w us r hs ha
theorem lt_get {H : AH} {c : Nat} {k : ABlk} (h : H[c]? = some k) : c < H.length := (List.getElem?_eq_some_iff.1 h).1
theorem getA {H : AH} {c : Nat} {k : ABlk} (h : H[c]? = some k) (tl : AH) : (H ++ tl)[c]? = some k := by rw [List.getElem?_append_left (lt_get h)]; exact h
theorem getS {H : AH} {c : Nat} {k : ABlk} (h : H[c]? = some k) (b : Nat) (hne : b ≠ c) (k' : ABlk) : (H.set b k')[c]? = some k := by rw [List.getElem?_set_ne hne]; exact h
theorem HA : (∀ (H tl : AH) (n : Nat),(H ++ tl)[H.length + n]? = tl[n]?) ∧ (∀ (H tl : AH),(H ++ tl)[H.length]? = tl[0]?) ∧ (∀ (H tl : AH) (n : Nat) (k : ABlk),(H ++ tl).set (H.length + n) k = H ++ tl.set n k) ∧ (∀ (H tl : AH) (k : ABlk),(H ++ tl).set H.length k = H ++ tl.set 0 k) := by
 have h1 : ∀ (H tl : AH) (n : Nat),(H ++ tl)[H.length + n]? = tl[n]? := fun H tl n => by rw [List.getElem?_append_right (by omega),Nat.add_sub_cancel_left]
 have h2 : ∀ (H tl : AH) (n : Nat) (k : ABlk),(H ++ tl).set (H.length + n) k = H ++ tl.set n k := fun H tl n k => by rw [List.set_append_right _ _ (by omega),Nat.add_sub_cancel_left]
 exact ⟨h1,fun H tl => h1 H tl 0,h2,fun H tl k => h2 H tl 0 k⟩
theorem splice_more (vs : List Value) (o : Nat) (a b : Value) (l : List Value) : splice vs o (a :: b :: l) = vs.take o ++ (a :: b :: l) ++ vs.drop (o + (a :: b :: l).length) := rfl
structure Upd (ns : List Nat) (H : AH) (ns' : List Nat) (H' : AH) : Prop where
 len : H.length ≤ H'.length
 keep : ∀ c,c < H.length → c ∉ ns → H'[c]? = H[c]?
 new : ∀ c ∈ ns', c ∈ ns ∨ (H.length ≤ c ∧ c < H'.length)
theorem Upd.refl (ns : List Nat) (H : AH) : Upd ns H ns H := ⟨Nat.le_refl _,fun _ _ _ => rfl,fun c h => .inl h⟩
theorem Upd.get {ns : List Nat} {H : AH} {ns' : List Nat} {H' : AH} (u : Upd ns H ns' H') {c : Nat} {k : ABlk} (h : H[c]? = some k) (hn : c ∉ ns) : H'[c]? = some k := by rw [u.keep c (lt_get h) hn]; exact h
theorem Upd.set {ns : List Nat} {H : AH} {b : Nat} (hb : b ∈ ns) (k : ABlk) : Upd ns H ns (H.set b k) := ⟨by simp,fun c hc hn => by rw [List.getElem?_set_ne (show b ≠ c from fun e => hn (e ▸ hb))],fun c h => .inl h⟩
theorem Upd.trans {ns : List Nat} {H : AH} {ns' : List Nat} {H' : AH} {ns2 : List Nat} {H2 : AH} (u : Upd ns H ns' H') (v : Upd ns' H' ns2 H2) : Upd ns H ns2 H2 := by
 refine ⟨Nat.le_trans u.len v.len,fun c hc hn => ?_,fun c hc => ?_⟩
 ·by_cases hm : c ∈ ns'
  ·rcases u.new c hm with h | h
   ·exact absurd h hn
   ·omega
  ·rw [v.keep c (Nat.lt_of_lt_of_le hc u.len) hm,u.keep c hc hn]
 ·rcases v.new c hc with h | h
  ·rcases u.new c h with h | h
   ·exact .inl h
   ·exact .inr ⟨h.1,Nat.lt_of_lt_of_le h.2 v.len⟩
  ·exact .inr ⟨Nat.le_trans u.len h.1,h.2⟩
end Abs
end Go.Proofs.Ytongllppbifiaaa
namespace Go.Proofs.Ytongllppbifiaaa
open Go.RowKit
def Blk (w : World) (b : Nat) (t : TypeId) (l : List Value) : Prop := w.heap[b]? = some (.cells l.toArray t (0,0))
theorem heap_lt {w : World} {b : Nat} {o : Obj} (h : w.heap[b]? = some o) : b < w.heap.size := (Array.getElem?_eq_some_iff.1 h).1
namespace Blk
variable {w : World} {b : Nat} {t : TypeId} {l : List Value}
theorem lt (h : Blk w b t l) : b < w.heap.size := heap_lt h
theorem cell (h : Blk w b t l) {i : Nat} {v : Value} (hv : l[i]? = some v) : w.cell? ⟨b,i,none⟩ = some v := by
 unfold Blk at h
 simp [World.cell?,h,hv]
theorem free (h : Blk w b t l) (i : Nat) : w.frozen? ⟨b,i,none⟩ = false := by
 unfold Blk at h
 simp [World.frozen?,h]
theorem set (h : Blk w b t l) (i : Nat) (v : Value) : Blk (w.setCell ⟨b,i,none⟩ v) b t (l.set i v) := by
 unfold Blk at *
 simp [World.setCell,Array.getElem?_modify,h]
theorem set_ne (h : Blk w b t l) {a : Addr} (hne : a.block ≠ b) (v : Value) : Blk (w.setCell a v) b t l := by
 unfold Blk at *
 simp [World.setCell,Array.getElem?_modify,h,hne]
theorem alloc (h : Blk w b t l) (o : Obj) : Blk (w.alloc o) b t l := by
 have := h.lt
 unfold Blk at *
 show (w.heap.push o)[b]? = _
 rw [Array.getElem?_push,if_neg (by omega),h]
end Blk
theorem Blk.new (w : World) (t : TypeId) (l : List Value) : Blk (w.alloc (.cells l.toArray t (0,0))) w.heap.size t l := by
 unfold Blk
 show (w.heap.push _)[w.heap.size]? = _
 simp
structure Mod (S : List Nat) (w w' : World) : Prop where
 os : w'.os = w.os
 tape : w'.tape = w.tape
 output : w'.output = w.output
 size : w.heap.size ≤ w'.heap.size
 block : ∀ k,k < w.heap.size → k ∉ S → w'.heap[k]? = w.heap[k]?
namespace Mod
variable {S T : List Nat} {w w1 w2 : World}
theorem refl (S : List Nat) (w : World) : Mod S w w := ⟨rfl,rfl,rfl,Nat.le_refl _,fun _ _ _ => rfl⟩
theorem mono (h : Mod S w w1) (hs : ∀ k,k ∈ S → k < w.heap.size → k ∈ T) : Mod T w w1 :=
 ⟨h.os,h.tape,h.output,h.size,fun k hk hn => h.block k hk (fun e => hn (hs k e hk))⟩
theorem alloc (h : Mod S w w1) (o : Obj) : Mod S w (w1.alloc o) :=
 ⟨h.os,h.tape,h.output,by have := h.size; simp; omega,fun k hk hn => by
  have := h.size
  rw [Below.heap_alloc _ _ _ (by omega)]; exact h.block k hk hn⟩
theorem setCell (h : Mod S w w1) {a : Addr} (ha : a.block < w.heap.size → a.block ∈ S) (v : Value) : Mod S w (w1.setCell a v) :=
 ⟨h.os,h.tape,h.output,by have := h.size; simp [World.setCell]; omega,fun k hk hn => by
  have hne : k ≠ a.block := by
   intro e
   subst e
   exact hn (ha hk)
  rw [Below.heap_setCell _ _ _ _ hne]; exact h.block k hk hn⟩
theorem cell (h : Mod S w w1) {a : Addr} {v : Value} (hb : w.cell? a = some v) (hn : a.block ∉ S) : w1.cell? a = some v := by
 have hlt : a.block < w.heap.size := by
  unfold World.cell? at hb
  split at hb
  ·rename_i h1; exact heap_lt h1
  ·cases hb
 rw [World.cell?_of_block (w := w) (h.block a.block hlt hn)]
 exact hb
end Mod
theorem fill_at {α : Type} (f : α → Value) (z0 : Value) (ws : List α) (n k : Nat) (hn : ws.length = n) (hk : k < n) : ((ws.take k).map f ++ List.replicate (n - k) z0)[k]? = some z0 := by
 have hlen : ((ws.take k).map f).length = k := by simp; omega
 rw [List.getElem?_append_right (by omega),hlen,show n - k = (n - (k + 1)) + 1 by omega,List.replicate_succ]
 simp
theorem fill_step {α : Type} (f : α → Value) (z0 : Value) (ws : List α) (n k : Nat) (z : α) (hn : ws.length = n) (hz : ws[k]? = some z) :
  ((ws.take k).map f ++ List.replicate (n - k) z0).set k (f z) = (ws.take (k + 1)).map f ++ List.replicate (n - (k + 1)) z0 := by
 have hk : k < ws.length := (List.getElem?_eq_some_iff.1 hz).1
 have hlen : ((ws.take k).map f).length = k := by simp; omega
 have e : ws.take (k + 1) = ws.take k ++ [z] := by rw [List.take_add_one,hz]; rfl
 rw [List.set_append_right _ _ (by omega),hlen,show n - k = (n - (k + 1)) + 1 by omega,List.replicate_succ,Nat.sub_self,List.set_cons_zero,e,List.map_append]
 simp
theorem hid {p : Prop} (h : p) : Hid p := h
theorem ret_int {k : IntKind} {a b : Int} (h : a = b) : Ending.returned (.int k a) = .returned (.int k b) := by rw [h]
def zeros (n : Nat) (z : Value) : Array Value := (List.replicate n z).toArray
theorem make_zeros {P : Program} (t e : TypeId) (i : TypeInfo) (z' z : Value) (bytes : Nat) (ht : P.underlying t = some (.slice e)) (hi : P.info? e = some i) (hz : i.zero = some z') (hs : i.size = 1) (hb : i.bytes = bytes)
  (hzc : z'.cells = #[z]) (n : Nat) (hn : bytes * n ≤ 281474976710656) (h63 : n ≤ 281474976710656) (w : World) :
  (Instr.makeSlice t (.int .i64 n) (.int .i64 n)).run P w = .ok (.slice (some ⟨w.heap.size,0,none⟩) n n) (w.alloc (.cells (zeros n z) e (0,0))) := by
 have hr := run_make (P := P) w t e i z' ht hi hz .i64 .i64 n n (by omega) (Int.le_refl _) (by rw [hb]; omega) (by omega)
 rw [hr,hzc,hs]
 have e1 : madeCells #[z] ((n : Int).toNat * 1) = zeros n z := by
  rw [zeros,← toList_madeCells_one]
  simp
 rw [e1]
 simp
end Go.Proofs.Ytongllppbifiaaa
