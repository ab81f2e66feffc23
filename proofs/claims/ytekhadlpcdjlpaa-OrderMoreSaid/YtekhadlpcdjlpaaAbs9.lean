/- Operations that write: stores. -/
import Derived.Test.YtekhadlpcdjlpaaAbs8
namespace Go.Proofs.Ytekhadlpcdjlpaa
namespace Abs
open Go
set_option linter.unusedVariables false
set_option linter.unusedSimpArgs false

/-- News laid over a row. -/
def splice (vs : List Value) (o : Nat) : List Value → List Value
  | [v] => vs.set o v
  | l => vs.take o ++ l ++ vs.drop (o + l.length)

def one1 : Value → Bool
  | .agg _ | .tuple _ => false
  | _ => true

/-- Where cells may be written. -/
def wrCells (h : AH) (b o : Nat) (l : List Value) : Option AH := match h[b]? with
  | some (.cells vs e opn) => if o + l.length ≤ vs.length ∧ l.all one1 then some (h.set b (.cells (splice vs o l) e opn)) else none
  | _ => none

section
variable {P : Program} {ρ : Ren} {t : T} {a : Act} {h : AH} {w : World}

theorem one1_eq (v : Value) : one1 v = v.oneCell' := by cases v <;> rfl

theorem splice_eq (vs : List Value) (o : Nat) (l : List Value) (hl : o + l.length ≤ vs.length) : splice vs o l = vs.take o ++ l ++ vs.drop (o + l.length) := by
  unfold splice
  split
  · rename_i v
    simp only [List.length_singleton] at hl ⊢
    apply List.ext_getElem?
    intro i
    rw [List.getElem?_set, List.append_assoc, List.getElem?_append, List.getElem?_take]
    simp only [List.length_take, Nat.min_eq_left (by omega : o ≤ vs.length)]
    by_cases h1 : i < o
    · have : ¬ o = i := by omega
      simp [h1, this]
    · by_cases h2 : o = i
      · subst h2
        have : o < vs.length := by omega
        simp [this]
      · have h3 : ¬ i < o := h1
        obtain ⟨j, hj⟩ : ∃ j, i - o = j + 1 := ⟨i - o - 1, by omega⟩
        simp only [h2, h3, if_false, hj, List.singleton_append, List.getElem?_cons_succ, List.getElem?_drop]
        congr 1
        omega
  · rfl

theorem splice_length (vs : List Value) (o : Nat) (l : List Value) (hl : o + l.length ≤ vs.length) : (splice vs o l).length = vs.length := by
  rw [splice_eq vs o l hl]
  simp
  omega

theorem splice_mem {vs : List Value} {o : Nat} {l : List Value} (hl : o + l.length ≤ vs.length) {v : Value} (hv : v ∈ splice vs o l) : v ∈ vs ∨ v ∈ l := by
  rw [splice_eq vs o l hl] at hv
  simp only [List.mem_append] at hv
  rcases hv with (hv | hv) | hv
  · exact .inl (List.mem_of_mem_take hv)
  · exact .inr hv
  · exact .inl (List.mem_of_mem_drop hv)

/-- An operation that writes is sound. -/
def LoudOk (P : Program) (ρ : Ren) (h : AH) (w : World) (a : Act) (o : Oper) (v : Value) (h' : AH) : Prop :=
  ∃ u nx w' ρ', (execOp a.eval o).run P w = .ok nx w' ∧ (nx = .value u ∨ (nx = .skip ∧ u = undef)) ∧ VR ρ' (live h') v u ∧ Rel ρ' h' w' ∧ Next h.length ρ h w ρ' h' w' ∧ h.length ≤ h'.length

theorem live_upd {b : Nat} {k k' : ABlk} (hb : h[b]? = some k) (hk : k ≠ .hole) (hk' : k' ≠ .hole) : live (h.set b k') = live h := funext fun c => live_set_iff hb hk hk' c

theorem Next.upd {m : Nat} {w' : World} {b : Nat} {k k' : ABlk} (hb : h[b]? = some k) (hk' : k' ≠ .hole) (hf : ∀ x, x ∈ k'.foot (ρ b) → x ∈ k.foot (ρ b)) (hr : ∀ x, x ∈ k'.reach (ρ b) → x ∈ k.reach (ρ b))
    (h1 : w'.os = w.os) (h2 : w'.tape = w.tape) (h3 : w'.output = w.output) (h4 : w.heap.size ≤ w'.heap.size) (hw : ∀ x, x ∉ k.foot (ρ b) → x < w.heap.size → w'.heap[x]? = w.heap[x]?) : Next m ρ h w ρ (h.set b k') w' where
  ext := fun _ _ => rfl
  lives := fun c _ hl => live_set hk' c hl
  os := h1
  tape := h2
  output := h3
  size := h4
  keep := fun x hx hn => hw x (hn b k hb) hx
  prov := fun c l hc x hx => by
    rcases get_set hc with ⟨rfl, rfl⟩ | ⟨_, hc⟩
    · exact .inr ⟨c, k, hb, hf x hx⟩
    · exact .inr ⟨c, l, hc, hx⟩
  prow := fun c l hc x hx => by
    rcases get_set hc with ⟨rfl, rfl⟩ | ⟨_, hc⟩
    · exact .inr ⟨c, k, hb, hr x hx⟩
    · exact .inr ⟨c, l, hc, hx⟩

theorem setRow_size (w : World) (g : Nat) (cs : Array Value) : (w.setRow g cs).heap.size = w.heap.size := by simp [World.setRow]

/-- News laid over cells, in memory. -/
theorem wr_rel (r : Rel ρ h w) {b o : Nat} {l : List Value} {h' : AH} (hw : wrCells h b o l = some h') (hs : scpL (live h) l = true) :
    ∃ vs e opn cur, h[b]? = some (.cells vs e opn) ∧ o + l.length ≤ vs.length ∧ w.heap[(ρ b).blk]? = some (.cells cur e (0, 0)) ∧ (ρ b).off + o + l.length ≤ cur.size ∧ (∀ u ∈ l.map (conc ρ), u.oneCell' = true) ∧
      ∀ w', w' = w.setRow (ρ b).blk (cur.toList.take ((ρ b).off + o) ++ l.map (conc ρ) ++ cur.toList.drop ((ρ b).off + o + l.length)).toArray → Rel ρ h' w' ∧ Next h.length ρ h w ρ h' w' ∧ live h' = live h ∧ h'.length = h.length := by
  unfold wrCells at hw
  split at hw
  case h_2 => cases hw
  rename_i vs e opn hb
  split at hw
  case isFalse => cases hw
  rename_i hc
  injection hw with hw
  subst hw
  obtain ⟨pre, ex, h1, h2, h3, h4⟩ := r.holds b _ hb
  have hlt : (ρ b).blk < w.heap.size := (Array.getElem?_eq_some_iff.1 h1).1
  refine ⟨vs, e, opn, _, hb, hc.1, h1, by simp; omega, fun u hu => ?_, fun w' hw' => ?_⟩
  · obtain ⟨v, hv, rfl⟩ := List.mem_map.1 hu
    rw [conc_oneCell, ← one1_eq]
    exact List.all_eq_true.1 hc.2 v hv
  · subst hw'
    have hoth : ∀ (cs : Array Value) x, x ∉ (ABlk.cells vs e opn).foot (ρ b) → x < w.heap.size → (w.setRow (ρ b).blk cs).heap[x]? = w.heap[x]? := fun cs x hx _ => setRow_other w _ x _ (by simpa [ABlk.foot] using hx)
    refine ⟨r.upd hb (by simp) (fun x hx => hx) (fun x hx => hx) ?_ ?_ (hoth _), Next.upd hb (by simp) (fun x hx => hx) (fun x hx => hx) rfl rfl rfl (by rw [setRow_size]; exact Nat.le_refl _) (hoth _), live_upd hb (by simp) (by simp), by simp⟩
    · intro v hv
      rcases splice_mem hc.1 hv with hv | hv
      · exact r.scope b _ hb v hv
      · rw [scpL_all, List.all_eq_true] at hs
        exact hs v hv
    · refine ⟨pre, ex, ?_, h2, h3, h4⟩
      rw [setRow_heap w _ _ _ _ _ h1]
      congr 2
      rw [splice_eq vs o l hc.1]
      have e1 : (pre ++ vs.map (conc ρ) ++ ex).take ((ρ b).off + o) = pre ++ (vs.take o).map (conc ρ) := by
        rw [← h2, List.append_assoc, List.take_append, List.take_of_length_le (by omega), Nat.add_sub_cancel_left, List.take_append_of_le_length (by simp; omega), List.map_take]
      have e2 : (pre ++ vs.map (conc ρ) ++ ex).drop ((ρ b).off + o + l.length) = (vs.drop (o + l.length)).map (conc ρ) ++ ex := by
        rw [← h2, List.append_assoc, Nat.add_assoc, List.drop_append, List.drop_of_length_le (by omega), Nat.add_sub_cancel_left, List.nil_append, List.drop_append_of_le_length (by simp; omega), List.map_drop]
      rw [List.toList_toArray, e1, e2]
      simp [List.append_assoc]

theorem storeVar_run {ty : TypeId} {n : Nat} (hn : szOf P ty = some n) {g o : Nat} {cur : Array Value} {e : TypeId} {u : Value} (hg : w.heap[g]? = some (.cells cur e (0, 0))) (hsz : u.cells.size = n) (hfit : o + n ≤ cur.size) (h1 : ∀ x ∈ u.cells.toList, x.oneCell' = true) :
    (storeVar ty ⟨g, o, none⟩ u).run P w = .ok () (w.setRow g (cur.toList.take o ++ u.cells.toList ++ cur.toList.drop (o + n)).toArray) := by
  have := run_storeCells_at P g o e u.cells.toList 0 cur w hg (by simp; omega) h1
  simp only [Nat.add_zero, Array.length_toList, hsz] at this
  unfold storeVar
  simp [run_sizeOf hn, hsz, this]

/-- What an operation does that writes; calls stand apart. -/
def evSt (t : T) (h : AH) (n : Nat) (x v : Operand) : Option (Value × AH) := match evalO t x, evalO t v with
  | some (.pointer (some ⟨b, o, none⟩)), some z => if z.cells.size = n then match wrCells h b o z.cells.toList with
      | some h' => some (undef, h')
      | none => none
    else none
  | _, _ => none

theorem VR_undef {L : Nat → Bool} : VR ρ L undef undef := VR.plain rfl

theorem s_st {o : Oper} {ty : TypeId} {x y : Operand} {n : Nat} {v : Value} {h' : AH} (ho : o.op = .store ty x y) (hn : szOf P ty = some n) (r : Rel ρ h w) (tr : TRel ρ (live h) t a) (hv : evSt t h n x y = some (v, h')) : LoudOk P ρ h w a o v h' := by
  unfold evSt at hv
  split at hv
  case h_2 => cases hv
  rename_i b off z hx hy
  split at hv
  case isFalse => cases hv
  rename_i hsz
  split at hv
  case h_2 => cases hv
  rename_i h2 hw
  injection hv with hv
  injection hv with q1 q2
  subst q1 q2
  have vx := evalO_VR tr hx
  have vy := evalO_VR tr hy
  obtain ⟨vs, e, opn, cur, hb, hle, hg, hfit, h1, hnext⟩ := wr_rel r hw (scp_cells vy.1)
  obtain ⟨g1, g2, g3, g4⟩ := hnext _ rfl
  have e1 : a.eval x = .pointer (some ⟨(ρ b).blk, (ρ b).off + off, none⟩) := vx.2
  have e2 : (a.eval y).cells = z.cells.map (conc ρ) := by rw [vy.2, conc_cells]
  have e3 : (a.eval y).cells.toList = z.cells.toList.map (conc ρ) := by rw [e2]; simp
  have hn2 : z.cells.toList.length = n := by simpa using hsz
  refine ⟨undef, .skip, _, ρ, ?_, .inr ⟨rfl, rfl⟩, VR_undef, g1, g2, by omega⟩
  unfold execOp
  simp only [ho, e1]
  have := storeVar_run (P := P) (w := w) hn (u := a.eval y) (o := (ρ b).off + off) hg (by rw [e2, Array.size_map]; exact hsz) (by omega) (by rw [e3]; exact h1)
  rw [e3] at this
  rw [hn2]
  simp [Instr.storeAt, Instr.sureAddr, this]

end
end Abs
end Go.Proofs.Ytekhadlpcdjlpaa
