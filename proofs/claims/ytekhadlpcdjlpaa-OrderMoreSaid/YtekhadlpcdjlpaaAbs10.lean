/- Operations that write: append. -/
import Derived.Test.YtekhadlpcdjlpaaAbs9
namespace Go.Proofs.Ytekhadlpcdjlpaa
namespace Abs
open Go
set_option linter.unusedVariables false
set_option linter.unusedSimpArgs false

def newsOf (t : T) (h : AH) (es : Nat) (x : Operand) : Option (Nat × List Value) := match evalO t x with
  | some (.slice none 0 _) => some (0, [])
  | some (.slice (some ⟨b, o, none⟩) m _) => match rdCells h b o (m * es) with
    | some l => if l.all one1 then some (m, l) else none
    | none => none
  | _ => none

def fitsApp (es bytes need : Nat) : Bool := decide (0 < es ∧ need ≤ 4294967296 ∧ need * bytes ≤ 140737488355328)

def capLow (cap : Nat) : Nat := if cap < OPEN then cap else cap - OPEN

def evApp (t : T) (h : AH) (e : TypeId) (es bytes : Nat) (s x : Operand) : Option (Value × AH) := match evalO t s, newsOf t h es x with
  | some (.slice none 0 0), some (m, news) =>
    if m = 0 then some (.slice none 0 0, h)
    else if fitsApp es bytes m then some (.slice (some ⟨h.length, 0, none⟩) m (OPEN + m), h ++ [.cells news e (some es)])
    else none
  | some (.slice (some ⟨b, o, none⟩) len cap), some (m, news) =>
    if m = 0 then (if len ≤ capLow cap then some (.slice (some ⟨b, o, none⟩) len cap, h) else none)
    else if len + m ≤ capLow cap then match wrCells h b (o + len * es) news with
      | some h' => some (.slice (some ⟨b, o, none⟩) (len + m) cap, h')
      | none => none
    else if m ≠ 0 ∧ fitsApp es bytes (len + m) = true then
      if cap < OPEN then match rdCells h b o (len * es) with
        | some olds => some (.slice (some ⟨h.length, 0, none⟩) (len + m) (OPEN + (len + m)), h ++ [.cells (olds ++ news) e (some es)])
        | none => none
      else match h[b]? with
        | some (.cells vs e' (some es')) => if e' = e ∧ es' = es ∧ o + (cap - OPEN) * es = vs.length ∧ len ≤ cap - OPEN then
            some (.slice (some ⟨h.length, 0, none⟩) (len + m) (OPEN + (len + m)), h.set b .dead ++ [.cells ((vs.drop o).take (len * es) ++ news) e (some es)])
          else none
        | _ => none
    else none
  | some (.slice (some ⟨b, o, some d⟩) 0 cap), some (m, news) =>
    if m = 0 then some (.slice (some ⟨b, o, some d⟩) 0 cap, h)
    else if cap = OPEN ∧ d % 2 = 0 ∧ fitsApp es bytes m = true then match h[b]? with
        | some (.cells vs e' (some es')) => if e' = e ∧ es' = es ∧ o + d / 2 = vs.length then
            some (.slice (some ⟨h.length, 0, none⟩) m (OPEN + m), h.set b .dead ++ [.cells news e (some es)])
          else none
        | _ => none
    else none
  | _, _ => none

def cApp (P : Program) (ty : TypeId) (s x : Operand) : Option AOp := match P.underlying ty with
  | some (.slice e) => match P.info? e with
    | some i => match i.zero with
      | some z => if z.cells.size = i.size then some (.app e i.size i.bytes s x) else none
      | none => none
    | none => none
  | _ => none

section
variable {P : Program} {ρ : Ren} {t : T} {a : Act} {h : AH} {w : World}

theorem alloc_old (w : World) (o : Obj) {x : Nat} (hx : x < w.heap.size) : (w.alloc o).heap[x]? = w.heap[x]? := by
  show (w.heap.push o)[x]? = _
  rw [Array.getElem?_push, if_neg (by omega)]

/-- A new block, in memory. -/
theorem push_rel (r : Rel ρ h w) {vs : List Value} {e : TypeId} {es slack : Nat} {ex : List Value} {w' : World} (hs : scpL (live h) vs = true) (hw : w' = w.drew.alloc (.cells (vs.map (conc ρ) ++ ex).toArray e)) (hex : ex.length = slack * es) :
    Rel (upd ρ h.length ⟨w.heap.size, 0, slack, []⟩) (h ++ [.cells vs e (some es)]) w' ∧ Next h.length ρ h w (upd ρ h.length ⟨w.heap.size, 0, slack, []⟩) (h ++ [.cells vs e (some es)]) w' := by
  subst hw
  have hole := r.hole
  have hn : (h ++ [ABlk.hole])[h.length]? = some .hole := by simp
  have heap : ∀ x, x < w.heap.size → (w.drew.alloc (.cells (vs.map (conc ρ) ++ ex).toArray e)).heap[x]? = w.heap[x]? := fun x hx => alloc_old w.drew _ hx
  have reach : ∀ (b : Nat) (l : ABlk), (h ++ [ABlk.hole])[b]? = some l → ∀ x, x ∈ l.reach (ρ b) → x < w.heap.size := fun b l hb x hx => hole.reach_lt hb x hx
  have hsl : ∀ v, v ∈ vs → scp (live h) v = true := by
    rw [scpL_all, List.all_eq_true] at hs
    exact hs
  have hcong : ∀ v, v ∈ vs → conc (upd ρ h.length ⟨w.heap.size, 0, slack, []⟩) v = conc ρ v := fun v hv => conc_congr (n := live h) (fun b hb => upd_al b (by have := live_lt hb; omega)) v (hsl v hv)
  rw [push_eq]
  refine ⟨hole.fill hn (by simp) ?_ ?_ ?_ ?_ ?_, ?_⟩
  · intro v hv
    exact scp_mono (fun b hb => live_set (by simp) b (live_push b hb)) v (hsl v hv)
  · refine ⟨[], ex, ?_, rfl, by simpa using hex, by simp⟩
    rw [List.map_congr_left hcong, List.nil_append]
    exact alloc_new w.drew _
  · exact fun b l hb x hx => heap x (reach b l hb x hx)
  · intro b l hb x hx hx'
    simp only [ABlk.reach, List.mem_singleton] at hx'
    have := reach b l hb x (foot_reach hx)
    omega
  · intro b l hb x hx hx'
    simp only [ABlk.foot, List.mem_singleton] at hx'
    have := reach b l hb x hx
    omega
  · have back : ∀ (b : Nat) (l : ABlk), ((h ++ [ABlk.hole]).set h.length (.cells vs e (some es)))[b]? = some l → (b = h.length ∧ l = .cells vs e (some es)) ∨ (b ≠ h.length ∧ h[b]? = some l) := by
      intro b l hb
      rcases get_set hb with h1 | ⟨h1, h2⟩
      · exact .inl h1
      · right
        refine ⟨h1, ?_⟩
        have hlt : b < h.length := by
          have := (List.getElem?_eq_some_iff.1 h2).1
          simp at this
          omega
        rw [List.getElem?_append_left hlt] at h2
        exact h2
    refine ⟨fun b hb => upd_al b (by omega), fun b hb hl => live_set (by simp) b (live_push b hl), rfl, rfl, rfl, by simp, fun x hx _ => heap x hx, ?_, ?_⟩
    · intro b l hb x hx
      rcases back b l hb with ⟨rfl, rfl⟩ | ⟨hne, hb⟩
      · rw [upd_self] at hx
        simp only [ABlk.foot, List.mem_singleton] at hx
        exact .inl (by omega)
      · rw [upd_ne _ hne] at hx
        exact .inr ⟨b, l, hb, hx⟩
    · intro b l hb x hx
      rcases back b l hb with ⟨rfl, rfl⟩ | ⟨hne, hb⟩
      · rw [upd_self] at hx
        simp only [ABlk.reach, List.mem_singleton] at hx
        exact .inl (by omega)
      · rw [upd_ne _ hne] at hx
        exact .inr ⟨b, l, hb, hx⟩


theorem push_live {k : ABlk} (hk : k ≠ .hole) : live (h ++ [k]) h.length = true := live_of (k := k) (by simp) hk

theorem rdCells_cell {b o n : Nat} {l : List Value} (r : Rel ρ h w) (hl : rdCells h b o n = some l) : ∀ j u, (l.map (conc ρ))[j]? = some u → w.cell? ((⟨(ρ b).blk, (ρ b).off + o, none⟩ : Addr).add j) = some u := by
  intro j u hu
  unfold rdCells at hl
  split at hl
  case h_2 => cases hl
  rename_i vs hb
  split at hl
  case isFalse => cases hl
  injection hl with hl
  rw [List.getElem?_map] at hu
  cases hj : l[j]? with
  | none => rw [hj] at hu; cases hu
  | some v =>
    rw [hj] at hu
    injection hu with hu
    subst hu
    rw [cell_plain, Nat.add_assoc]
    refine (rdRow_cell r hb ?_).1
    rw [← hl, List.getElem?_take] at hj
    split at hj
    · rw [List.getElem?_drop] at hj
      exact hj
    · cases hj

/-- What is appended. -/
theorem news_run {es : Nat} {x : Operand} {m : Nat} {news : List Value} (r : Rel ρ h w) (tr : TRel ρ (live h) t a) (hn : newsOf t h es x = some (m, news)) : news.length = m * es ∧ scpL (live h) news = true ∧ (∀ u ∈ news.map (conc ρ), u.oneCell' = true) ∧
    ((∃ c, a.eval x = .slice none 0 c ∧ m = 0 ∧ news = []) ∨ ∃ ad c, a.eval x = .slice (some ad) m c ∧ ∀ j u, (news.map (conc ρ))[j]? = some u → w.cell? (ad.add j) = some u) := by
  unfold newsOf at hn
  split at hn
  · rename_i c hx
    injection hn with hn
    injection hn with q1 q2
    subst q1 q2
    exact ⟨by simp, rfl, by simp, .inl ⟨c, (evalO_VR tr hx).2, rfl, rfl⟩⟩
  · rename_i b o m' c hx
    split at hn
    case h_2 => cases hn
    rename_i l hl
    split at hn
    case isFalse => cases hn
    rename_i h1
    injection hn with hn
    injection hn with q1 q2
    subst q1 q2
    obtain ⟨_, h2, h3⟩ := rdCells_run (P := default) r hl
    refine ⟨h3, h2, fun u hu => ?_, .inr ⟨cAddr ρ ⟨b, o, none⟩, cCap ρ b c, (evalO_VR tr hx).2, fun j u hu => ?_⟩⟩
    · obtain ⟨v, hv, rfl⟩ := List.mem_map.1 hu
      rw [conc_oneCell, ← one1_eq]
      exact List.all_eq_true.1 h1 v hv
    · exact rdCells_cell r hl j u hu
  · cases hn

theorem run_append_off (ty rt e e2 : TypeId) (i : TypeInfo) (ht : P.underlying ty = some (.slice e)) (hi : P.info? e = some i)
    (g o sLen sCap : Nat) (cur : Array Value) (hg : w.heap[g]? = some (.cells cur e2 (0, 0)))
    (x : Value) (m : Nat) (news : List Value) (hl : news.length = m * i.size) (hx : (∃ c, x = .slice none 0 c ∧ m = 0 ∧ news = []) ∨ ∃ ad c, x = .slice (some ad) m c ∧ ∀ j u, news[j]? = some u → w.cell? (ad.add j) = some u) (h1 : ∀ u ∈ news, u.oneCell' = true)
    (hroom : sLen + m ≤ sCap) (hfit : o + sLen * i.size + news.length ≤ cur.size) :
    (Builtin.append_ #[ty, ty] rt #[.slice (some ⟨g, o, none⟩) sLen sCap, x]).run P w =
      .ok (.slice (some ⟨g, o, none⟩) (sLen + m) sCap) (w.setRow g (cur.toList.take (o + sLen * i.size) ++ news ++ cur.toList.drop (o + sLen * i.size + news.length)).toArray) := by
  have hst := run_storeCells_at P g (o + sLen * i.size) e2 news 0 cur w hg (by simpa using hfit) h1
  simp only [Nat.add_zero] at hst
  rcases hx with ⟨c, rfl, rfl, rfl⟩ | ⟨ad, c, rfl, hnews⟩
  · simp [Builtin.append_, run_underlying ht, sizeOf, typeInfo, hi, Builtin.lenOf, Builtin.firstCells, add_none] at hroom hst ⊢
    simp [hroom, hst]
  · have hf := run_firstCells_some (P := P) w i.size m ad m c news hl hnews
    simp [Builtin.append_, run_underlying ht, sizeOf, typeInfo, hi, Builtin.lenOf, hroom, hf, add_none, hst]


/-- Nothing is appended. -/
theorem run_append_zero (ty rt e : TypeId) (i : TypeInfo) (ht : P.underlying ty = some (.slice e)) (hi : P.info? e = some i) (A : Option Addr) (sLen sCap : Nat) (x : Value) (hx : (∃ c, x = .slice none 0 c) ∨ ∃ ad c, x = .slice (some ad) 0 c) (hroom : sLen ≤ sCap) :
    (Builtin.append_ #[ty, ty] rt #[.slice A sLen sCap, x]).run P w = .ok (.slice A sLen sCap) w := by
  rcases hx with ⟨c, rfl⟩ | ⟨ad, c, rfl⟩ <;> cases A <;> simp [Builtin.append_, run_underlying ht, sizeOf, typeInfo, hi, Builtin.lenOf, Builtin.firstCells, loadCells, loadCellsFrom, storeCells, hroom]

theorem exec_app {o : Oper} {ty : TypeId} {s x : Operand} {u : Value} {w' : World} (ho : o.op = .call { callee := .builtin .append, args := #[s, x], argTypes := #[ty, ty] }) (hr : (Builtin.append_ #[ty, ty] o.type #[a.eval s, a.eval x]).run P w = .ok u w') : (execOp a.eval o).run P w = .ok (.value u) w' := by
  rw [exec_builtin ho]
  simp only [builtin, List.map_toArray, List.map_cons, List.map_nil]
  exact run_val hr

theorem zeroCells_len {z : Array Value} (n : Nat) : (Builtin.zeroCells z n).toList.length = n * z.size := by simp [Builtin.zeroCells]

theorem Next.kill {m : Nat} (b : Nat) : Next m ρ h w ρ (h.set b .dead) w where
  ext := fun _ _ => rfl
  lives := fun c _ hl => live_set (by simp) c hl
  os := rfl
  tape := rfl
  output := rfl
  size := Nat.le_refl _
  keep := fun _ _ _ => rfl
  prov := fun c l hc x hx => by
    rcases get_set hc with ⟨rfl, rfl⟩ | ⟨_, hc⟩
    · cases hx
    · exact .inr ⟨c, l, hc, hx⟩
  prow := fun c l hc x hx => by
    rcases get_set hc with ⟨rfl, rfl⟩ | ⟨_, hc⟩
    · cases hx
    · exact .inr ⟨c, l, hc, hx⟩

/-- append beyond what is known of a row that may go on. -/
theorem app_open {o : Oper} {ty e : TypeId} {i : TypeInfo} {z : Value} {s x : Operand} {b off len cap m c : Nat} {ad : Addr} {vs news : List Value} (ho : o.op = .call { callee := .builtin .append, args := #[s, x], argTypes := #[ty, ty] }) (hu : P.underlying ty = some (.slice e)) (hi : P.info? e = some i) (hz : i.zero = some z) (hzs : z.cells.size = i.size)
    (r : Rel ρ h w) (e1 : a.eval s = .slice (some ⟨(ρ b).blk, (ρ b).off + off, none⟩) len (cCap ρ b cap)) (hLb : live h b = true) (hb : h[b]? = some (.cells vs e (some i.size))) (hend : off + (cap - OPEN) * i.size = vs.length) (hlc : len ≤ cap - OPEN) (hcap : ¬ cap < OPEN) (hroom : ¬ len + m ≤ capLow cap)
    (hf : 0 < i.size ∧ len + m ≤ 4294967296 ∧ (len + m) * i.bytes ≤ 140737488355328) (hm : m ≠ 0) (hl' : (news.map (conc ρ)).length = m * i.size) (hsc : scpL (live h) news = true) (h1 : ∀ u ∈ news.map (conc ρ), u.oneCell' = true) (hx : a.eval x = .slice (some ad) m c) (hnews : ∀ j u, (news.map (conc ρ))[j]? = some u → w.cell? (ad.add j) = some u) :
    LoudOk P ρ h w a o (.slice (some ⟨h.length, 0, none⟩) (len + m) (OPEN + (len + m))) (h.set b .dead ++ [.cells ((vs.drop off).take (len * i.size) ++ news) e (some i.size)]) := by
  obtain ⟨K, hK⟩ : ∃ K, cap - OPEN = K := ⟨_, rfl⟩
  have hcl : capLow cap = K := by simp [capLow, hcap, hK]
  rw [hcl] at hroom
  rw [hK] at hend hlc
  have hcc : cCap ρ b cap = K + (ρ b).slack := by simp [cCap, hcap, hK]
  rw [hcc] at e1
  clear hK hcap hcl hcc
  obtain ⟨pre, ex, hg, hpre, hexl, _⟩ := r.holds b _ hb
  simp only [Option.getD_some] at hexl
  obtain ⟨olds, hol⟩ : ∃ l, (vs.drop off).take (len * i.size) = l := ⟨_, rfl⟩
  rw [hol]
  have hlK : len * i.size ≤ K * i.size := Nat.mul_le_mul_right _ hlc
  have hrd : rdCells h b off (len * i.size) = some olds := by
    unfold rdCells rdRow
    rw [hb]
    simp only
    rw [if_pos (by omega), hol]
  obtain ⟨_, ho2, ho3⟩ := rdCells_run (P := P) r hrd
  have hoc := rdCells_cell r hrd
  have r0 := r.kill b
  have hlen0 : (h.set b .dead).length = h.length := by simp
  have hlive0 : live (h.set b .dead) = live h := live_upd hb (by simp) (by simp)
  have hscp : scpL (live (h.set b .dead)) (olds ++ news) = true := by rw [hlive0, scpL_append, ho2, hsc]; rfl
  by_cases hin : len + m ≤ K + (ρ b).slack
  · -- in place
    have hfit : (ρ b).off + off + len * i.size + (news.map (conc ρ)).length ≤ (pre ++ vs.map (conc ρ) ++ ex).toArray.size := by
      have : (len + m) * i.size ≤ (K + (ρ b).slack) * i.size := Nat.mul_le_mul_right _ hin
      rw [Nat.add_mul, Nat.add_mul] at this
      simp only [List.size_toArray, List.length_append, List.length_map, hl', hexl, hpre]
      omega
    have hr := run_append_off (P := P) (w := w) ty o.type e e i hu hi (ρ b).blk ((ρ b).off + off) len (K + (ρ b).slack) _ hg (a.eval x) m (news.map (conc ρ)) hl' (.inr ⟨ad, c, hx, hnews⟩) h1 hin hfit
    generalize hW : w.setRow (ρ b).blk (((pre ++ vs.map (conc ρ) ++ ex).toArray.toList.take ((ρ b).off + off + len * i.size) ++ news.map (conc ρ) ++ (pre ++ vs.map (conc ρ) ++ ex).toArray.toList.drop ((ρ b).off + off + len * i.size + (news.map (conc ρ)).length)).toArray) = w' at hr
    have hother : ∀ x, x ≠ (ρ b).blk → w'.heap[x]? = w.heap[x]? := fun x hx => by rw [← hW]; exact setRow_other w _ x _ hx
    have hself : w'.heap[(ρ b).blk]? = some (.cells ((pre ++ (vs.take off).map (conc ρ)) ++ (olds ++ news).map (conc ρ) ++ (pre ++ vs.map (conc ρ) ++ ex).drop ((ρ b).off + off + (len + m) * i.size)).toArray e (0, 0)) := by
      rw [← hW, setRow_heap w _ _ _ _ _ hg]
      congr 2
      have e2 : (pre ++ vs.map (conc ρ) ++ ex).take ((ρ b).off + off + len * i.size) = pre ++ (vs.take off).map (conc ρ) ++ olds.map (conc ρ) := by
        rw [← hpre, List.append_assoc, Nat.add_assoc, List.take_append, List.take_of_length_le (by omega), Nat.add_sub_cancel_left, List.take_append_of_le_length (by simp; omega), List.append_assoc, ← List.map_append, ← hol, ← List.take_add, List.map_take]
      have e3 : (ρ b).off + off + len * i.size + (news.map (conc ρ)).length = (ρ b).off + off + (len + m) * i.size := by rw [hl', Nat.add_mul]; omega
      rw [e3, List.toList_toArray, e2]
      simp [List.append_assoc]
    have hfb : (ρ b).blk ∈ (ABlk.cells vs e (some i.size)).foot (ρ b) := by simp [ABlk.foot]
    have hne : ∀ (d : Nat) (l : ABlk), (h.set b .dead ++ [ABlk.hole])[d]? = some l → (ρ b).blk ∉ l.reach (ρ d) := by
      intro d l hd
      by_cases hdl : d < (h.set b .dead).length
      · rw [List.getElem?_append_left hdl] at hd
        rcases get_set hd with ⟨rfl, rfl⟩ | ⟨hdb, hd⟩
        · simp [ABlk.reach]
        · exact r.apart b d _ l hb hd (fun e => hdb e.symm) _ hfb
      · rw [List.getElem?_append_right (by omega)] at hd
        have := List.mem_of_getElem? hd
        simp at this
        subst this
        simp [ABlk.reach]
    have hcong : ∀ v, v ∈ olds ++ news → conc (upd ρ h.length ⟨(ρ b).blk, (ρ b).off + off, K + (ρ b).slack - (len + m), []⟩) v = conc ρ v := fun v hv => by
      rw [hlive0, scpL_all, List.all_eq_true] at hscp
      exact conc_congr (n := live h) (fun d hd => upd_al d (by have := live_lt hd; omega)) v (hscp v hv)
    have hexd : ((pre ++ vs.map (conc ρ) ++ ex).drop ((ρ b).off + off + (len + m) * i.size)).length = (K + (ρ b).slack - (len + m)) * i.size := by
      rw [Nat.sub_mul, Nat.add_mul K]
      simp only [List.length_drop, List.length_append, List.length_map, hexl, hpre]
      omega
    have R := r0.hole.fill (n := h.length) (k := .cells (olds ++ news) e (some i.size)) (cb := ⟨(ρ b).blk, (ρ b).off + off, K + (ρ b).slack - (len + m), []⟩) (w' := w') (by rw [← hlen0]; simp) (by simp) (fun v hv => scp_mono (fun d hd => live_set (by simp) d (live_push d hd)) v (by rw [scpL_all, List.all_eq_true] at hscp; exact hscp v hv))
      ⟨_, _, by rw [List.map_congr_left hcong]; exact hself, by simp [hpre]; omega, hexd, by simp⟩
      (fun d l hd x hx => hother x (fun e => hne d l hd (e ▸ hx)))
      (fun d l hd x hx hx' => by
        simp only [ABlk.reach, List.mem_singleton] at hx'
        subst hx'
        exact hne d l hd (foot_reach hx))
      (fun d l hd x hx hx' => by
        simp only [ABlk.foot, List.mem_singleton] at hx'
        subst hx'
        exact hne d l hd hx)
    have hpe : (h.set b .dead ++ [ABlk.hole]).set h.length (.cells (olds ++ news) e (some i.size)) = h.set b .dead ++ [.cells (olds ++ news) e (some i.size)] := by
      rw [← hlen0]
      exact (push_eq _ _).symm
    rw [hpe] at R
    have back : ∀ (d : Nat) (l : ABlk), (h.set b .dead ++ [.cells (olds ++ news) e (some i.size)])[d]? = some l → (d = h.length ∧ l = .cells (olds ++ news) e (some i.size)) ∨ (d ≠ h.length ∧ (l = .dead ∨ h[d]? = some l)) := by
      intro d l hd
      by_cases hdl : d < (h.set b .dead).length
      · rw [List.getElem?_append_left hdl] at hd
        refine .inr ⟨by omega, ?_⟩
        rcases get_set hd with ⟨rfl, rfl⟩ | ⟨hdb, hd⟩
        · exact .inl rfl
        · exact .inr hd
      · rw [List.getElem?_append_right (by omega)] at hd
        have h2 := (List.getElem?_eq_some_iff.1 hd).1
        simp at h2
        have := List.mem_of_getElem? hd
        simp at this
        exact .inl ⟨by omega, this⟩
    refine ⟨.slice (some ⟨(ρ b).blk, (ρ b).off + off, none⟩) (len + m) (K + (ρ b).slack), _, w', upd ρ h.length ⟨(ρ b).blk, (ρ b).off + off, K + (ρ b).slack - (len + m), []⟩, exec_app ho (by rw [e1]; exact hr), .inl rfl, ⟨?_, ?_⟩, R, ?_, by simp⟩
    · simp only [scp]
      rw [← hlen0]
      exact push_live (by simp)
    · simp only [conc, cAddr, upd_self, cCap]
      rw [if_neg (Nat.not_lt_of_le (Nat.le_add_right _ _)), Nat.add_sub_cancel_left]
      simp
      omega
    · refine ⟨fun d hd => upd_al d (by omega), fun d hd hl => live_push d (by rw [hlive0]; exact hl), by rw [← hW]; rfl, by rw [← hW]; rfl, by rw [← hW]; rfl, by rw [← hW, setRow_size]; exact Nat.le_refl _, fun x hx hn => hother x (fun e => hn b _ hb (e ▸ hfb)), ?_, ?_⟩
      · intro d l hd x hx
        rcases back d l hd with ⟨rfl, rfl⟩ | ⟨hne', rfl | hd⟩
        · rw [upd_self] at hx
          simp only [ABlk.foot, List.mem_singleton] at hx
          subst hx
          exact .inr ⟨b, _, hb, hfb⟩
        · cases hx
        · rw [upd_ne _ hne'] at hx
          exact .inr ⟨d, l, hd, hx⟩
      · intro d l hd x hx
        rcases back d l hd with ⟨rfl, rfl⟩ | ⟨hne', rfl | hd⟩
        · rw [upd_self] at hx
          simp only [ABlk.reach, List.mem_singleton] at hx
          subst hx
          exact .inr ⟨b, _, hb, foot_reach hfb⟩
        · cases hx
        · rw [upd_ne _ hne'] at hx
          exact .inr ⟨d, l, hd, hx⟩
  · -- a new row
    have hr := run_append_grow (P := P) w ty o.type e i z hu hi hz ⟨(ρ b).blk, (ρ b).off + off, none⟩ len (K + (ρ b).slack) (olds.map (conc ρ)) (by simpa using ho3) hoc ad m c (news.map (conc ρ)) hl' hnews (by omega) (by omega) (growslice_fits (by omega) hf.2.2)
    have hex : (Builtin.zeroCells z.cells (grownCap w (len + m) (K + (ρ b).slack) e - (len + m))).toList.length = (grownCap w (len + m) (K + (ρ b).slack) e - (len + m)) * i.size := by rw [zeroCells_len, hzs]
    obtain ⟨g1, g2⟩ := push_rel r0 (e := e) (vs := olds ++ news) (w' := w.drew.alloc (.cells ((olds.map (conc ρ)).toArray ++ (news.map (conc ρ)).toArray ++ Builtin.zeroCells z.cells (grownCap w (len + m) (K + (ρ b).slack) e - (len + m))) e)) hscp (by congr 2; apply Array.ext'; simp) hex
    rw [hlen0] at g1 g2
    refine ⟨.slice (some ⟨w.heap.size, 0, none⟩) (len + m) (grownCap w (len + m) (K + (ρ b).slack) e), _, _, _, exec_app ho (by rw [e1, hx]; exact hr), .inl rfl, ⟨?_, ?_⟩, g1, (Next.kill b).trans g2, by simp⟩
    · simp only [scp]
      rw [← hlen0]
      exact push_live (by simp)
    · have hge := grownCap_ge w (len + m) (K + (ρ b).slack) e
      simp only [conc, cAddr, upd_self, cCap]
      rw [if_neg (Nat.not_lt_of_le (Nat.le_add_right _ _)), Nat.add_sub_cancel_left]
      simp
      omega

theorem s_app {o : Oper} {ty : TypeId} {s x : Operand} {ao : AOp} {v : Value} {h' : AH} (ho : o.op = .call { callee := .builtin .append, args := #[s, x], argTypes := #[ty, ty] }) (hc : cApp P ty s x = some ao) (r : Rel ρ h w) (tr : TRel ρ (live h) t a)
    (hv : ∀ e es bytes, ao = .app e es bytes s x → evApp t h e es bytes s x = some (v, h')) : LoudOk P ρ h w a o v h' := by
  unfold cApp at hc
  split at hc
  case h_2 => cases hc
  rename_i e hu
  split at hc
  case h_2 => cases hc
  rename_i i hi
  split at hc
  case h_2 => cases hc
  rename_i z hz
  split at hc
  case isFalse => cases hc
  rename_i hzs
  injection hc with hc
  replace hv := hv e i.size i.bytes hc.symm
  unfold evApp at hv
  split at hv
  · -- nil
    rename_i m news hs hn
    have e1 : a.eval s = .slice none 0 0 := (evalO_VR tr hs).2
    obtain ⟨hl, hsc, h1, hx⟩ := news_run r tr hn
    split at hv
    · rename_i hm
      injection hv with hv
      injection hv with q1 q2
      subst q1 q2
      refine ⟨.slice none 0 0, .value (.slice none 0 0), w, ρ, exec_app ho ?_, .inl rfl, VR.plain rfl, r, Next.refl _ _ _ _, Nat.le_refl _⟩
      rw [e1]
      rcases hx with ⟨c, hx, _, _⟩ | ⟨ad, c, hx, _⟩
      · rw [hx]
        simp [Builtin.append_, run_underlying hu, sizeOf, typeInfo, hi, Builtin.lenOf, Builtin.firstCells]
      · rw [hx, hm]
        simp [Builtin.append_, run_underlying hu, sizeOf, typeInfo, hi, Builtin.lenOf, Builtin.firstCells, loadCells, loadCellsFrom]
    · rename_i hm
      split at hv
      case isFalse => cases hv
      rename_i hf
      simp only [fitsApp, decide_eq_true_eq] at hf
      injection hv with hv
      injection hv with q1 q2
      subst q1 q2
      rcases hx with ⟨c, _, h0, _⟩ | ⟨ad, c, hx, hnews⟩
      · exact absurd h0 hm
      have hr := run_append_nil (P := P) w ty o.type e i z hu hi hz ad m c (news.map (conc ρ)) (by simpa using hl) hnews (by omega) (by omega) (by omega)
      have hex : (Builtin.zeroCells z.cells (grownCap w m 0 e - m)).toList.length = (grownCap w m 0 e - m) * i.size := by rw [zeroCells_len, hzs]
      obtain ⟨g1, g2⟩ := push_rel r (e := e) (w' := w.drew.alloc (.cells ((news.map (conc ρ)).toArray ++ Builtin.zeroCells z.cells (grownCap w m 0 e - m)) e)) hsc (by congr 2; apply Array.ext'; simp) hex
      refine ⟨.slice (some ⟨w.heap.size, 0, none⟩) m (grownCap w m 0 e), _, _, _, exec_app ho (by rw [e1, hx]; exact hr), .inl rfl, ⟨?_, ?_⟩, g1, g2, by simp⟩
      · simp only [scp]
        exact push_live (by simp)
      · have hge := grownCap_ge w m 0 e
        simp only [conc, cAddr, upd_self, cCap]
        rw [if_neg (Nat.not_lt_of_le (Nat.le_add_right _ _)), Nat.add_sub_cancel_left]
        simp
        omega
  · rename_i b off len cap m news hs hn
    have vs_ := evalO_VR tr hs
    have e1 : a.eval s = .slice (some ⟨(ρ b).blk, (ρ b).off + off, none⟩) len (cCap ρ b cap) := vs_.2
    have hLb : live h b = true := by simpa [scp] using vs_.1
    obtain ⟨hl, hsc, h1, hx⟩ := news_run r tr hn
    have hl' : (news.map (conc ρ)).length = m * i.size := by simpa using hl
    have hge : capLow cap ≤ cCap ρ b cap := by
      unfold cCap capLow
      split
      · exact Nat.le_refl _
      · exact Nat.le_add_right _ _
    split at hv
    · -- nothing
      rename_i hm
      split at hv
      case isFalse => cases hv
      rename_i hlc
      injection hv with hv
      injection hv with q1 q2
      subst q1 q2
      refine ⟨.slice (some ⟨(ρ b).blk, (ρ b).off + off, none⟩) len (cCap ρ b cap), _, w, ρ, exec_app ho ?_, .inl rfl, ⟨by simpa [scp] using hLb, by simp [conc, cAddr]⟩, r, Next.refl _ _ _ _, Nat.le_refl _⟩
      rw [e1]
      exact run_append_zero ty o.type e i hu hi _ _ _ _ (hx.imp (fun ⟨c, q1, _⟩ => ⟨c, q1⟩) (fun ⟨ad, c, q1, _⟩ => ⟨ad, c, by rw [q1, hm]⟩)) (Nat.le_trans hlc hge)
    split at hv
    · -- in place
      rename_i hroom
      split at hv
      case h_2 => cases hv
      rename_i h2 hw
      injection hv with hv
      injection hv with q1 q2
      subst q1 q2
      obtain ⟨vs, e', opn, cur, hb, hle, hg, hfit, ho1, hnext⟩ := wr_rel r hw hsc
      obtain ⟨g1, g2, g3, g4⟩ := hnext _ rfl
      have hr := run_append_off (P := P) (w := w) ty o.type e e' i hu hi (ρ b).blk ((ρ b).off + off) len (cCap ρ b cap) cur hg (a.eval x) m (news.map (conc ρ)) hl' (hx.imp (fun ⟨c, q1, q2, q3⟩ => ⟨c, q1, q2, by rw [q3]; rfl⟩) id) ho1 (Nat.le_trans hroom hge) (by simp; omega)
      refine ⟨.slice (some ⟨(ρ b).blk, (ρ b).off + off, none⟩) (len + m) (cCap ρ b cap), _, _, ρ, exec_app ho (by rw [e1]; exact hr), .inl rfl, ⟨by rw [g3]; simpa [scp] using hLb, by simp [conc, cAddr]⟩, ?_, ?_, by omega⟩
      · have : (ρ b).off + off + len * i.size = (ρ b).off + (off + len * i.size) := by omega
        simpa [this] using g1
      · have : (ρ b).off + off + len * i.size = (ρ b).off + (off + len * i.size) := by omega
        simpa [this] using g2
    · rename_i hroom
      split at hv
      case isFalse => cases hv
      rename_i hmf
      obtain ⟨hm, hf⟩ := hmf
      simp only [fitsApp, decide_eq_true_eq] at hf
      rcases hx with ⟨c, _, h0, _⟩ | ⟨ad, c, hx, hnews⟩
      · exact absurd h0 hm
      split at hv
      · -- known cap: a new row
        rename_i hcap
        split at hv
        case h_2 => cases hv
        rename_i olds hol
        injection hv with hv
        injection hv with q1 q2
        subst q1 q2
        have hcc : cCap ρ b cap = cap := by simp [cCap, hcap]
        have hcl : capLow cap = cap := by simp [capLow, hcap]
        rw [hcl] at hroom
        rw [hcc] at e1
        obtain ⟨_, ho2, ho3⟩ := rdCells_run (P := P) r hol
        have hoc := rdCells_cell r hol
        have hr := run_append_grow (P := P) w ty o.type e i z hu hi hz ⟨(ρ b).blk, (ρ b).off + off, none⟩ len cap (olds.map (conc ρ)) (by simpa using ho3) hoc ad m c (news.map (conc ρ)) hl' hnews (by omega) (by omega) (growslice_fits (by omega) hf.2.2)
        have hex : (Builtin.zeroCells z.cells (grownCap w (len + m) cap e - (len + m))).toList.length = (grownCap w (len + m) cap e - (len + m)) * i.size := by rw [zeroCells_len, hzs]
        obtain ⟨g1, g2⟩ := push_rel r (e := e) (vs := olds ++ news) (w' := w.drew.alloc (.cells ((olds.map (conc ρ)).toArray ++ (news.map (conc ρ)).toArray ++ Builtin.zeroCells z.cells (grownCap w (len + m) cap e - (len + m))) e)) (by rw [scpL_append, ho2, hsc]; rfl) (by congr 2; apply Array.ext'; simp) hex
        refine ⟨.slice (some ⟨w.heap.size, 0, none⟩) (len + m) (grownCap w (len + m) cap e), _, _, _, exec_app ho (by rw [e1, hx]; exact hr), .inl rfl, ⟨?_, ?_⟩, g1, g2, by simp⟩
        · simp only [scp]
          exact push_live (by simp)
        · have hge := grownCap_ge w (len + m) cap e
          simp only [conc, cAddr, upd_self, cCap]
          rw [if_neg (Nat.not_lt_of_le (Nat.le_add_right _ _)), Nat.add_sub_cancel_left]
          simp
          omega
      · rename_i hcap
        split at hv
        case h_2 => cases hv
        rename_i vs e' es' hb
        split at hv
        case isFalse => cases hv
        rename_i hcond
        obtain ⟨rfl, rfl, hend, hlc⟩ := hcond
        injection hv with hv
        injection hv with q1 q2
        subst q1 q2
        exact app_open ho hu hi hz hzs r e1 hLb hb hend hlc hcap hroom hf hm hl' hsc h1 hx hnews
  · -- an empty rest of a row that may go on
    rename_i b off d cap m news hs hn
    have vs_ := evalO_VR tr hs
    have e1 : a.eval s = .slice (some (cAddr ρ ⟨b, off, some d⟩)) 0 (cCap ρ b cap) := vs_.2
    have hLb : live h b = true := by simpa [scp] using vs_.1
    obtain ⟨hl, hsc, h1, hx⟩ := news_run r tr hn
    have hl' : (news.map (conc ρ)).length = m * i.size := by simpa using hl
    split at hv
    · rename_i hm
      injection hv with hv
      injection hv with q1 q2
      subst q1 q2
      refine ⟨.slice (some (cAddr ρ ⟨b, off, some d⟩)) 0 (cCap ρ b cap), _, w, ρ, exec_app ho ?_, .inl rfl, ⟨by simpa [scp] using hLb, by simp [conc]⟩, r, Next.refl _ _ _ _, Nat.le_refl _⟩
      rw [e1]
      exact run_append_zero ty o.type e i hu hi _ _ _ _ (hx.imp (fun ⟨c, q1, _⟩ => ⟨c, q1⟩) (fun ⟨ad, c, q1, _⟩ => ⟨ad, c, by rw [q1, hm]⟩)) (Nat.zero_le _)
    · rename_i hm
      split at hv
      case isFalse => cases hv
      rename_i hcond
      obtain ⟨hcap, hd, hf⟩ := hcond
      simp only [fitsApp, decide_eq_true_eq] at hf
      split at hv
      case h_2 => cases hv
      rename_i vs e' es' hb
      split at hv
      case isFalse => cases hv
      rename_i hcond
      obtain ⟨rfl, rfl, hend⟩ := hcond
      injection hv with hv
      injection hv with q1 q2
      subst q1 q2 hcap
      rcases hx with ⟨c, _, h0, _⟩ | ⟨ad, c, hx, hnews⟩
      · exact absurd h0 hm
      have hcc : cCap ρ b OPEN = (ρ b).slack := by simp [cCap]
      have hd1 : ¬ d % 2 = 1 := by omega
      by_cases hsl : (ρ b).slack = 0
      · -- a new row
        have r0 := r.kill b
        have hlen0 : (h.set b .dead).length = h.length := by simp
        have hlive0 : live (h.set b .dead) = live h := live_upd hb (by simp) (by simp)
        rw [hcc, hsl] at e1
        have hr := run_append_grow (P := P) w ty o.type e' i z hu hi hz (cAddr ρ ⟨b, off, some d⟩) 0 0 [] (by simp) (by intro j u hu; simp at hu) ad m c (news.map (conc ρ)) hl' hnews (by omega) (by omega) (growslice_fits (by omega) (by simpa using hf.2.2))
        have hex : (Builtin.zeroCells z.cells (grownCap w (0 + m) 0 e' - (0 + m))).toList.length = (grownCap w (0 + m) 0 e' - (0 + m)) * i.size := by rw [zeroCells_len, hzs]
        obtain ⟨g1, g2⟩ := push_rel r0 (e := e') (vs := news) (w' := w.drew.alloc (.cells (([] : List Value).toArray ++ (news.map (conc ρ)).toArray ++ Builtin.zeroCells z.cells (grownCap w (0 + m) 0 e' - (0 + m))) e')) (by rw [hlive0]; exact hsc) (by congr 2; apply Array.ext'; simp) hex
        rw [hlen0] at g1 g2
        refine ⟨.slice (some ⟨w.heap.size, 0, none⟩) (0 + m) (grownCap w (0 + m) 0 e'), _, _, _, exec_app ho (by rw [e1, hx]; exact hr), .inl rfl, ⟨?_, ?_⟩, g1, (Next.kill b).trans g2, by simp⟩
        · simp only [scp]
          rw [← hlen0]
          exact push_live (by simp)
        · have hge := grownCap_ge w (0 + m) 0 e'
          simp only [conc, cAddr, upd_self, cCap]
          rw [if_neg (Nat.not_lt_of_le (Nat.le_add_right _ _)), Nat.add_sub_cancel_left]
          simp only [Nat.zero_add] at hge ⊢
          simp
          omega
      · have e2 : a.eval s = .slice (some ⟨(ρ b).blk, (ρ b).off + (off + d / 2), none⟩) 0 (cCap ρ b OPEN) := by
          rw [e1]
          simp [cAddr, hd1, hsl, Nat.add_assoc]
        have := app_open (news := news) (m := m) ho hu hi hz hzs r e2 hLb hb (by simp; omega) (by simp) (by simp) (by simp [capLow]; omega) (by simpa using hf) hm hl' hsc h1 hx hnews
        simpa using this
  · cases hv

/-- clear, of a row whose elements are one cell. -/
def evClr (t : T) (h : AH) (zero : List Value) (x : Operand) : Option (Value × AH) := match evalO t x, zero with
  | some (.slice a n _), [z] => if n = 0 then some (.tuple #[], h) else match a with
      | some ⟨b, o, none⟩ => if plain z then match wrCells h b o (List.replicate n z) with
          | some h' => some (.tuple #[], h')
          | none => none
        else none
      | _ => none
  | _, _ => none

def cClr (P : Program) (t : TypeId) (x : Operand) : Option AOp := match P.underlying t with
  | some (.slice e) => match zeroOf P e with
    | some [z] => some (.clear [z] x)
    | _ => none
  | _ => none

theorem scpL_iff {L : Nat → Bool} {l : List Value} : scpL L l = true ↔ ∀ v ∈ l, scp L v = true := by rw [scpL_all, List.all_eq_true]

theorem zeroCells_one (z : Value) (n : Nat) : (Builtin.zeroCells #[z] n).toList = List.replicate n z := by
  simp [Builtin.zeroCells]
  apply List.ext_getElem
  · simp
  · intro i h1 h2
    simp [Nat.mod_one]

theorem Next.same {m : Nat} : Next m ρ h w ρ h w where
  ext := fun _ _ => rfl
  lives := fun c _ hl => hl
  os := rfl
  tape := rfl
  output := rfl
  size := Nat.le_refl _
  keep := fun _ _ _ => rfl
  prov := fun c l hc x hx => .inr ⟨c, l, hc, hx⟩
  prow := fun c l hc x hx => .inr ⟨c, l, hc, hx⟩

theorem s_clr {o : Oper} {ty : TypeId} {x : Operand} {ao : AOp} {v : Value} {h' : AH} (ho : o.op = .call { callee := .builtin .clear, args := #[x], argTypes := #[ty] }) (hc : cClr P ty x = some ao) (r : Rel ρ h w) (tr : TRel ρ (live h) t a)
    (hv : ∀ z, ao = .clear z x → evClr t h z x = some (v, h')) : LoudOk P ρ h w a o v h' := by
  unfold cClr at hc
  split at hc
  case h_2 => cases hc
  rename_i e hu
  split at hc
  case h_2 => cases hc
  rename_i z hz
  injection hc with hc
  have hv := hv _ hc.symm
  obtain ⟨hzp, zv, hzc, hzr⟩ := zeroOf_run hz
  unfold evClr at hv
  split at hv
  case h_2 => cases hv
  rename_i ad n c z' hx hzz
  injection hzz with hzz _
  subst hzz
  have vx := evalO_VR tr hx
  obtain ⟨cs, hex⟩ : ∃ cs, execOp a.eval o = builtin .clear #[ty] o.type cs #[a.eval x] := ⟨_, (exec_builtin (a := a) ho).trans (by simp only [List.map_toArray, List.map_cons, List.map_nil]; rfl)⟩
  split at hv
  · rename_i hn
    subst hn
    injection hv with hv
    injection hv with q1 q2
    subst q1 q2
    refine ⟨.tuple #[], .value (.tuple #[]), w, ρ, ?_, .inl rfl, VR.plain rfl, r, Next.same, Nat.le_refl _⟩
    rw [hex]
    simp only [builtin]
    refine run_val ?_
    rw [vx.2]
    cases ad with
    | none => simp [conc, Builtin.clear_, run_underlying hu]
    | some ad => simp [conc, Builtin.clear_, run_underlying hu]
  · rename_i hn
    split at hv
    case h_2 => cases hv
    rename_i b off
    split at hv
    case isFalse => cases hv
    split at hv
    case h_2 => cases hv
    rename_i h2 hw
    injection hv with hv
    injection hv with q1 q2
    subst q1 q2
    have hzs : scpL (live h) (List.replicate n z) = true := by
      refine scpL_iff.2 fun u hu => ?_
      rw [List.eq_of_mem_replicate hu]
      exact scpL_iff.1 (scpL_nil hzp) z (by simp)
    obtain ⟨vs, e2, opn, cur, hb, hle, hg, hfit, h1, hnext⟩ := wr_rel r hw hzs
    obtain ⟨g1, g2, g3, g4⟩ := hnext _ rfl
    have hcz : (List.replicate n z).map (conc ρ) = List.replicate n z := by
      rw [List.map_replicate]
      congr 1
      exact (VR.plain (ρ := ρ) (n := nil) (scpL_iff.1 hzp z (by simp))).2.symm
    rw [hcz] at h1 g1 g2
    have hst := run_storeCells_at P (ρ b).blk ((ρ b).off + off) e2 (List.replicate n z) 0 cur w hg (by simpa using hfit) h1
    simp only [Nat.add_zero] at hst
    refine ⟨.tuple #[], .value (.tuple #[]), _, ρ, ?_, .inl rfl, VR.plain rfl, g1, g2, by omega⟩
    rw [hex]
    simp only [builtin]
    refine run_val ?_
    rw [vx.2]
    obtain ⟨m, rfl⟩ : ∃ m, n = m + 1 := ⟨n - 1, by omega⟩
    simp [conc, cAddr, Builtin.clear_, run_underlying hu, hzr, hzc, zeroCells_one, hst]

end
end Abs
end Go.Proofs.Ytekhadlpcdjlpaa
