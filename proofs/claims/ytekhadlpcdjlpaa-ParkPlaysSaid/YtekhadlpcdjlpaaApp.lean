/- Slices that a call makes and appends to: in the words of this proof's heap lemmas. -/
import Derived.Test.YtekhadlpcdjlpaaHeap
namespace Go.Proofs.Ytekhadlpcdjlpaa
open Go.RowKit

theorem Mod.grown {S : List Nat} {w w1 w2 : World} {row : Option Nat} (h : Mod S w w1) (hg : w1.grownBy w2 row) (hr : ∀ k, row = some k → k < w.heap.size → k ∈ S) : Mod S w w2 :=
  ⟨hg.os.trans h.os, hg.tape.trans h.tape, hg.output.trans h.output, Nat.le_trans h.size hg.size,
    fun k hk hn => (hg.block k (Nat.lt_of_lt_of_le hk h.size) (fun e => hn (hr k e.symm hk))).trans (h.block k hk hn)⟩

/-- A slice of one-celled elements whose cells are known; its array begins at a block's head, from block 'base' on. -/
def Owns (w : World) (base : Nat) (e : TypeId) (v : Value) (xs : List Value) : Prop := w.ownsRow base e 1 v xs.length xs

theorem Owns.nil (w : World) (base : Nat) (e : TypeId) : Owns w base e (.slice none 0 0) [] := World.ownsRow_nil w base e 1

theorem Owns.form {w : World} {base : Nat} {e : TypeId} {v : Value} {xs : List Value} (h : Owns w base e v xs) :
    (v = .slice none 0 0 ∧ xs = []) ∨ ∃ g cap, v = .slice (some ⟨g, 0, none⟩) xs.length cap ∧ base ≤ g ∧ g < w.heap.size ∧ xs.length ≤ cap ∧ cap ≤ maxLen ∧
      (∀ (i : Nat) (x : Value), xs[i]? = some x → w.cell? ⟨g, i, none⟩ = some x) ∧ ∀ i, w.frozen? ⟨g, i, none⟩ = false := by
  obtain ⟨_, h⟩ := h
  rcases h with ⟨rfl, h⟩ | ⟨g, cap, cur, rfl, hb, hg, hn, hc, hs, ht⟩
  · exact .inl ⟨rfl, List.length_eq_zero_iff.1 h⟩
  · refine .inr ⟨g, cap, rfl, hb, heap_lt hg, hn, hc, fun i x hx => ?_, fun i => by simp [World.frozen?, hg]⟩
    have hi : i < xs.length := (List.getElem?_eq_some_iff.1 hx).1
    rw [← ht, List.getElem?_take] at hx
    simp only [Nat.mul_one, hi, if_true] at hx
    simp only [World.cell?, hg, Option.isSome_none, Bool.false_eq_true, if_false]
    rw [← hx]
    simp

theorem Owns.mod {w w' : World} {base : Nat} {e : TypeId} {v : Value} {xs : List Value} {S : List Nat} (h : Owns w base e v xs) (m : Mod S w w') (hS : ∀ b, b ∈ S → v.ownBlock ≠ some b) : Owns w' base e v xs := by
  obtain ⟨h1, h⟩ := h
  refine ⟨h1, ?_⟩
  rcases h with h | ⟨g, cap, cur, rfl, hb, hg, r⟩
  · exact .inl h
  · exact .inr ⟨g, cap, cur, rfl, hb, m.heap hg (fun hm => hS g hm rfl), r⟩

theorem Owns.mod0 {w w' : World} {base : Nat} {e : TypeId} {v : Value} {xs : List Value} (h : Owns w base e v xs) (m : Mod [] w w') : Owns w' base e v xs := h.mod m (by simp)

theorem Owns.lt {w : World} {base : Nat} {e : TypeId} {v : Value} {xs : List Value} (h : Owns w base e v xs) {b : Nat} (hb : v.ownBlock = some b) : base ≤ b ∧ b < w.heap.size := World.ownsRow.lt h b hb

theorem Owns.base {w : World} {base base' : Nat} {e : TypeId} {v : Value} {xs : List Value} (h : Owns w base e v xs) (hb : base' ≤ base) : Owns w base' e v xs := by
  obtain ⟨h1, h⟩ := h
  refine ⟨h1, ?_⟩
  rcases h with h | ⟨g, cap, cur, rfl, hg, r⟩
  · exact .inl h
  · exact .inr ⟨g, cap, cur, rfl, by omega, r⟩

/-- A whole new block is such a slice. -/
theorem Owns.of_blk {w : World} {b : Nat} {e : TypeId} {xs : List Value} (h : Blk w b e xs) (hm : xs.length ≤ maxLen) {base : Nat} (hb : base ≤ b) : Owns w base e (.slice (some ⟨b, 0, none⟩) xs.length xs.length) xs :=
  ⟨by simp, .inr ⟨b, xs.length, xs.toArray, rfl, hb, h, Nat.le_refl _, hm, by simp, by simp⟩⟩

/-- A store into such a slice. -/
theorem Owns.set {w : World} {base : Nat} {e : TypeId} {g n cap : Nat} {xs : List Value} (h : Owns w base e (.slice (some ⟨g, 0, none⟩) n cap) xs) (i : Nat) (u : Value) :
    Owns (w.setCell ⟨g, i, none⟩ u) base e (.slice (some ⟨g, 0, none⟩) n cap) (xs.set i u) := by
  obtain ⟨h1, h⟩ := h
  refine ⟨by simp, ?_⟩
  rcases h with ⟨h, _⟩ | ⟨g', cap', cur, hv, hb, hg, hn, hc, hs, ht⟩
  · cases h
  · injection hv with e1 e2 e3
    injection e1 with e1
    injection e1 with e1
    subst e1 e2 e3
    refine .inr ⟨g, cap, cur.setIfInBounds i u, by simp, hb, ?_, by simpa using hn, hc, by simpa using hs, ?_⟩
    · simp [World.setCell, Array.getElem?_modify, hg]
    · simp only [List.length_set, Nat.mul_one] at ht ⊢
      rw [Array.toList_setIfInBounds, List.take_set, ht]

/-- The walk at an append whose run is known. -/
theorem wpList_append_run {P : Program} {ops : Array Oper} {rest : List Oper} {o : Oper} {a : Act} {w : World} {Q : Exit → Act → World → Prop} (hgd : o.guard = none) (s x : Operand) (t tx : TypeId)
    (ho : o.op = .call { callee := .builtin .append, args := #[s, x], argTypes := #[t, tx] }) (vs vx : Value) (hs : a.eval s = vs) (hx : a.eval x = vx) (v' : Value) (w' : World)
    (hrun : (Builtin.append_ #[t, tx] o.type #[vs, vx]).run P w = .ok v' w') (h : wpList P ops Q rest (a.put o.dst v') w') : wpList P ops Q (o :: rest) a w :=
  wpList_plain hgd fun K hK => by
    unfold Oper.wp execOp
    simp only [ho, resolve, invoke, builtin, Sem.run_bind, Sem.run_pure, Result.andThen_ok, List.map_toArray, List.map_cons, List.map_nil, hs, hx, hrun]
    exact hK _ _ h

/-- One element is appended to a slice of the call's own. -/
theorem run_append_one {P : Program} (w : World) (base : Nat) (t ty e : TypeId) (i : TypeInfo) (z : Value) (bytes : Nat) (ht : P.underlying t = some (.slice e)) (hi : P.info? e = some i) (hz : i.zero = some z)
    (hsize : i.size = 1) (hby : i.bytes = bytes) (hzs : z.cells.size = 1) (v : Value) (xs : List Value) (hown : Owns w base e v xs) (b : Nat) (x : Value) (hb : w.cell? ⟨b, 0, none⟩ = some x) (h1 : x.oneCell' = true)
    (h63 : xs.length + 1 ≤ maxLen) (hbytes : (xs.length + 1) * bytes ≤ 140737488355328) (hbase : base ≤ w.heap.size) :
    ∃ v' w', (Builtin.append_ #[t, t] ty #[v, .slice (some ⟨b, 0, none⟩) 1 1]).run P w = .ok v' w' ∧ Owns w' base e v' (xs ++ [x]) ∧ w.grownBy w' v.ownBlock := by
  obtain ⟨v', w', h1, h2, h3, _⟩ := run_append_own (P := P) w base t ty e i z 1 bytes ht hi hz hsize hby hzs (by decide) v xs.length xs hown ⟨b, 0, none⟩ 1 1 [x] rfl (fun j u hu => by
    cases j with
    | zero => simp only [List.getElem?_cons_zero] at hu; cases hu; simpa [Addr.add] using hb
    | succ j => simp at hu) (fun u hu => by simp at hu; subst hu; exact h1) h63 hbytes hbase
  exact ⟨v', w', h1, by unfold Owns; simpa using h2, h3⟩

theorem run_append_none {P : Program} {w : World} {base : Nat} {e : TypeId} (t ty : TypeId) (i : TypeInfo) (ht : P.underlying t = some (.slice e)) (hi : P.info? e = some i)
    {v : Value} {xs : List Value} (hown : Owns w base e v xs) (c : Nat) : (Builtin.append_ #[t, t] ty #[v, .slice none 0 c]).run P w = .ok v w := by
  rcases hown.2 with ⟨rfl, h0⟩ | ⟨g, cap, cur, rfl, _, _, hnc, _⟩
  · simp [Builtin.append_, run_underlying ht, sizeOf, typeInfo, hi, Builtin.lenOf, Builtin.firstCells]
  · simp [Builtin.append_, run_underlying ht, sizeOf, typeInfo, hi, Builtin.lenOf, Builtin.firstCells, hnc, storeCells]

/-- A row of one-celled values that lie at a slice. -/
def RowV (w : World) (a : Option Addr) (l : List Value) : Prop :=
  l = [] ∨ ∃ b o, a = some ⟨b, o, none⟩ ∧ ∀ (i : Nat) x, l[i]? = some x → w.cell? ⟨b, o + i, none⟩ = some x

theorem RowV.take {w : World} {a : Option Addr} {l : List Value} (h : RowV w a l) (n : Nat) : RowV w a (l.take n) := by
  rcases h with rfl | ⟨b, o, rfl, h⟩
  · exact .inl (by simp)
  · exact .inr ⟨b, o, rfl, fun i x hx => h i x (by
      have hi : i < (l.take n).length := (List.getElem?_eq_some_iff.1 hx).1
      simp at hi
      rw [List.getElem?_take, if_pos (by omega)] at hx
      exact hx)⟩

theorem RowV.mod0 {w w' : World} {a : Option Addr} {l : List Value} (h : RowV w a l) (m : Mod [] w w') : RowV w' a l := by
  rcases h with h | ⟨b, o, rfl, h⟩
  · exact .inl h
  · exact .inr ⟨b, o, rfl, fun i z hz => m.cell (h i z hz) (by simp)⟩

theorem Owns.row {w : World} {base : Nat} {e : TypeId} {v : Value} {xs : List Value} (h : Owns w base e v xs) :
    ∃ a cap, v = .slice a xs.length cap ∧ RowV w a xs ∧ xs.length ≤ cap ∧ cap ≤ maxLen ∧ ∀ b o, a = some ⟨b, o, none⟩ → base ≤ b := by
  rcases h.form with ⟨rfl, rfl⟩ | ⟨g, cap, rfl, hb, hlt, hle, hm, hc, _⟩
  · exact ⟨none, 0, rfl, .inl rfl, by simp, by decide, by simp⟩
  · exact ⟨_, cap, rfl, .inr ⟨g, 0, rfl, fun i x hx => by simpa using hc i x hx⟩, hle, hm, fun b o h => by cases h; exact hb⟩

/-- A row is appended to a slice of the call's own. -/
theorem run_append_row {P : Program} (w : World) (base : Nat) (t ty e : TypeId) (i : TypeInfo) (z : Value) (bytes : Nat) (ht : P.underlying t = some (.slice e)) (hi : P.info? e = some i) (hz : i.zero = some z)
    (hsize : i.size = 1) (hby : i.bytes = bytes) (hzs : z.cells.size = 1) (v : Value) (xs : List Value) (hown : Owns w base e v xs) (a : Option Addr) (news : List Value) (m c : Nat) (hm : news.length = m) (hrow : RowV w a news)
    (h1 : ∀ u ∈ news, u.oneCell' = true)
    (h63 : xs.length + m ≤ maxLen) (hbytes : (xs.length + m) * bytes ≤ 140737488355328) (hbase : base ≤ w.heap.size) :
    ∃ v' w', (Builtin.append_ #[t, t] ty #[v, .slice a m c]).run P w = .ok v' w' ∧ Owns w' base e v' (xs ++ news) ∧ w.grownBy w' v.ownBlock := by
  subst hm
  have go : ∀ ad : Addr, (∀ j u, news[j]? = some u → w.cell? (ad.add j) = some u) → ∃ v' w', (Builtin.append_ #[t, t] ty #[v, .slice (some ad) news.length c]).run P w = .ok v' w' ∧ Owns w' base e v' (xs ++ news) ∧ w.grownBy w' v.ownBlock := fun ad hn => by
    obtain ⟨v', w', q1, q2, q3, _⟩ := run_append_own (P := P) w base t ty e i z 1 bytes ht hi hz hsize hby hzs (by decide) v xs.length xs hown ad news.length c news (by simp) hn h1 h63 hbytes hbase
    exact ⟨v', w', q1, by unfold Owns; simpa using q2, q3⟩
  rcases hrow with rfl | ⟨b, o, rfl, hc⟩
  · cases a with
    | none =>
      refine ⟨v, w, run_append_none t ty i ht hi hown c, by simpa using hown, ⟨rfl, rfl, rfl, Nat.le_refl _, fun _ _ _ => rfl⟩⟩
    | some ad => exact go ad (fun j u hu => by simp at hu)
  · exact go _ (fun j u hu => by
      have := hc j u hu
      cases j with
      | zero => simpa [Addr.add] using this
      | succ j => simpa [Addr.add] using this)

/-- append(v, x) with x a new one-celled block, as the walk meets it. -/
theorem append_one {P : Program} (w : World) (base : Nat) (t ty e : TypeId) (i : TypeInfo) (z : Value) (bytes : Nat) (ht : P.underlying t = some (.slice e)) (hi : P.info? e = some i) (hz : i.zero = some z)
    (hsize : i.size = 1) (hby : i.bytes = bytes) (hzs : z.cells.size = 1) {v : Value} {xs : List Value} (hown : Owns w base e v xs) (x : Value) (h1 : x.oneCell' = true)
    (h63 : xs.length + 1 ≤ maxLen) (hbytes : (xs.length + 1) * bytes ≤ 140737488355328) (hbase : base ≤ w.heap.size) :
    ∃ v' w', (Builtin.append_ #[t, t] ty #[v, .slice (some ⟨w.heap.size, 0, none⟩) 1 1]).run P (w.alloc (.cells #[x] e (0, 0))) = .ok v' w' ∧ Owns w' base e v' (xs ++ [x]) ∧
      (∀ S w0, Mod S w0 w → w0.heap.size ≤ base → Mod S w0 w') ∧ (∀ b t ys, Blk w b t ys → b < base → Blk w' b t ys) := by
  have m := (Mod.refl [] w).alloc (.cells #[x] e (0, 0))
  have hownA := hown.mod0 m
  have hBn : Blk (w.alloc (.cells #[x] e (0, 0))) w.heap.size e [x] := Blk.new w e [x]
  obtain ⟨v', wA, hrun, hown', hgr⟩ := run_append_one (P := P) _ base t ty e i z bytes ht hi hz hsize hby hzs v _ hownA w.heap.size x (Blk.cell hBn rfl) h1 h63 hbytes (by simp; omega)
  refine ⟨v', wA, hrun, hown', fun S w0 h0 hb => ?_, fun b t ys hB hb => ?_⟩
  · exact (h0.alloc _).grown hgr (fun k hk hlt => by have := (hown.lt hk).1; omega)
  · have m2 : Mod v.ownBlock.toList w wA := ((Mod.refl _ w).alloc _).grown hgr (fun k hk _ => by simp [hk])
    exact m2.blk hB (fun hm => by
      have := (hown.lt (b := b) (by simpa using hm)).1
      omega)

/-- append(v, x) where x, of some cells, is a new block, as the walk meets it. -/
theorem append_elem {P : Program} (w : World) (base : Nat) (t ty e : TypeId) (i : TypeInfo) (z : Value) (size bytes : Nat) (ht : P.underlying t = some (.slice e)) (hi : P.info? e = some i) (hz : i.zero = some z)
    (hsize : i.size = size) (hby : i.bytes = bytes) (hzs : z.cells.size = size) (hsz : 0 < size) {v : Value} {n : Nat} {xs : List Value} (hown : w.ownsRow base e size v n xs) (cs : List Value) (hcs : cs.length = size) (h1 : ∀ u ∈ cs, u.oneCell' = true)
    (h63 : n + 1 ≤ maxLen) (hbytes : (n + 1) * bytes ≤ 140737488355328) (hbase : base ≤ w.heap.size) :
    ∃ v' w', (Builtin.append_ #[t, t] ty #[v, .slice (some ⟨w.heap.size, 0, none⟩) 1 1]).run P (w.alloc (.cells cs.toArray e (0, 0))) = .ok v' w' ∧ w'.ownsRow base e size v' (n + 1) (xs ++ cs) ∧
      (∀ S w0, Mod S w0 w → w0.heap.size ≤ base → Mod S w0 w') ∧ (∀ b t ys, Blk w b t ys → b < base → Blk w' b t ys) ∧ Mod v.ownBlock.toList w w' := by
  have m := (Mod.refl [] w).alloc (.cells cs.toArray e (0, 0))
  have hownA : (w.alloc (.cells cs.toArray e (0, 0))).ownsRow base e size v n xs := by
    obtain ⟨h1, h⟩ := hown
    refine ⟨h1, ?_⟩
    rcases h with h | ⟨g, cap, cur, rfl, hb, hg, r⟩
    · exact .inl h
    · exact .inr ⟨g, cap, cur, rfl, hb, m.heap hg (by simp), r⟩
  have hBn : Blk (w.alloc (.cells cs.toArray e (0, 0))) w.heap.size e cs := Blk.new w e cs
  obtain ⟨v', wA, hrun, hown', hgr, _⟩ := run_append_own (P := P) _ base t ty e i z size bytes ht hi hz hsize hby hzs hsz v n xs hownA ⟨w.heap.size, 0, none⟩ 1 1 cs (by simpa using hcs) (fun j u hu => by
    have := Blk.cell hBn hu
    cases j with
    | zero => simpa [Addr.add] using this
    | succ j => simpa [Addr.add] using this) h1 h63 hbytes (by simp; omega)
  refine ⟨v', wA, hrun, hown', fun S w0 h0 hb => ?_, fun b t ys hB hb => ?_, ((Mod.refl _ w).alloc _).grown hgr (fun k hk _ => by simp [hk])⟩
  · exact (h0.alloc _).grown hgr (fun k hk hlt => by have := (World.ownsRow.lt hown k hk).1; omega)
  · have m2 : Mod v.ownBlock.toList w wA := ((Mod.refl _ w).alloc _).grown hgr (fun k hk _ => by simp [hk])
    exact m2.blk hB (fun hm => by
      have := (World.ownsRow.lt hown b (by simpa using hm)).1
      omega)

/-- append(v, x), of one-celled elements, with all that is known behind it. -/
theorem append_one2 {P : Program} (w : World) (base : Nat) (t ty e : TypeId) (i : TypeInfo) (z : Value) (bytes : Nat) (ht : P.underlying t = some (.slice e)) (hi : P.info? e = some i) (hz : i.zero = some z)
    (hsize : i.size = 1) (hby : i.bytes = bytes) (hzs : z.cells.size = 1) {v : Value} {xs : List Value} (hown : Owns w base e v xs) (x : Value) (h1 : x.oneCell' = true)
    (h63 : xs.length + 1 ≤ maxLen) (hbytes : (xs.length + 1) * bytes ≤ 140737488355328) (hbase : base ≤ w.heap.size) :
    ∃ a' c' w', (Builtin.append_ #[t, t] ty #[v, .slice (some ⟨w.heap.size, 0, none⟩) 1 1]).run P (w.alloc (.cells #[x] e (0, 0))) = .ok (.slice a' (xs.length + 1) c') w' ∧ Owns w' base e (.slice a' (xs.length + 1) c') (xs ++ [x]) ∧
      (∀ S w0, Mod S w0 w → w0.heap.size ≤ base → Mod S w0 w') ∧ Mod v.ownBlock.toList w w' := by
  obtain ⟨v', w', h1, h2, h3, _, h5⟩ := append_elem (P := P) w base t ty e i z 1 bytes ht hi hz hsize hby hzs (by decide) hown [x] rfl (by simpa using h1) h63 hbytes hbase
  have hown' : Owns w' base e v' (xs ++ [x]) := by unfold Owns; simpa using h2
  obtain ⟨a', c', hv, _⟩ := hown'.row
  rw [List.length_append, List.length_singleton] at hv
  subst hv
  exact ⟨a', c', w', h1, hown', h3, h5⟩

theorem ownsRow_mod {w w' : World} {base : Nat} {e : TypeId} {size n : Nat} {v : Value} {xs : List Value} {S : List Nat} (hown : w.ownsRow base e size v n xs) (m : Mod S w w') (hS : ∀ b, b ∈ S → b < base) : w'.ownsRow base e size v n xs := by
  obtain ⟨h1, h⟩ := hown
  refine ⟨h1, ?_⟩
  rcases h with h | ⟨g, cap, cur, rfl, hb, hg, r⟩
  · exact .inl h
  · exact .inr ⟨g, cap, cur, rfl, hb, m.heap hg (fun hm => by have := hS g hm; omega), r⟩

theorem ownsRow_form {w : World} {base : Nat} {e : TypeId} {size n : Nat} {v : Value} {xs : List Value} (hown : w.ownsRow base e size v n xs) :
    ∃ a cap, v = .slice a n cap ∧ n ≤ cap ∧ cap ≤ maxLen ∧ (n = 0 ∨ ∃ g, a = some ⟨g, 0, none⟩ ∧ ∀ (j : Nat) x, xs[j]? = some x → w.cell? ⟨g, j, none⟩ = some x) := by
  obtain ⟨h1, h⟩ := hown
  rcases h with ⟨rfl, rfl⟩ | ⟨g, cap, cur, rfl, hb, hg, hn, hc, hs, ht⟩
  · exact ⟨none, 0, rfl, by omega, by decide, .inl rfl⟩
  · refine ⟨_, cap, rfl, hn, hc, .inr ⟨g, rfl, fun j x hx => ?_⟩⟩
    have hj : j < xs.length := (List.getElem?_eq_some_iff.1 hx).1
    rw [h1] at hj
    rw [← ht, List.getElem?_take, if_pos hj] at hx
    simp only [World.cell?, hg, Option.isSome_none, Bool.false_eq_true, if_false]
    rw [← hx]
    simp

end Go.Proofs.Ytekhadlpcdjlpaa
