/- Calls that read rows which came in: they may be handed any rows of a greater heap, and leave it as it is. -/
import Derived.Test.YtekhadlpcdjlpaaAbs26
namespace Go.Proofs.Ytekhadlpcdjlpaa
namespace Abs
open Go
set_option linter.unusedVariables false
set_option linter.unusedSimpArgs false

/-- An argument of the small call, as it stands in the great heap: rows of the small one lie within blocks of the great one. -/
def shV (bs os : Nat → Nat) : Value → Value
  | .slice (some ⟨j, o, sp⟩) n c => .slice (some ⟨bs j, os j + o, sp⟩) n c
  | v => v

section
variable {P : Program} {f : FuncId} {K : Value → AH → Prop}

theorem Holds.noNames {ρ ρ' : Ren} {cb : CB} {w : World} {k : ABlk} (hn : Abs.noNames k) (h : Holds ρ cb w k) : Holds ρ' cb w k :=
  h.congr (n := nil) (scp_noNames hn nil) (fun b hb => by cases hb)

theorem AC.reads {rows : List (List Value)} {H : AH} (bs os : Nat → Nat) (hp : ∀ (j : Nat) R, rows[j]? = some R → (∀ v ∈ R, plain v = true) ∧ (R = [] ∨ ∃ vs, rdRow H (bs j) = some vs ∧ ∀ (i : Nat) v, R[i]? = some v → vs[os j + i]? = some v))
    {args0 args : List Value} (he : args = args0.map (shV bs os)) (ha : ∀ v ∈ args0, plain v = true ∨ ∃ j o sp n c, v = .slice (some ⟨j, o, sp⟩) n c ∧ j < rows.length)
    (Post : Value → AH → Prop) (hc : AC P f args0 (rows.map .row) (fun v h' => ∃ E, h' = rows.map .row ++ E ∧ (∀ k ∈ E, noNames k ∧ k ≠ .hole ∧ ∀ cb, k.reach cb = k.foot cb) ∧ scp (fun b => decide (rows.length ≤ b ∧ b < rows.length + E.length)) v = true ∧ Post v E))
    (hK : ∀ v E, Post v E → K (ren (fun j => H.length + (j - rows.length)) v) (H ++ E)) : AC P f args H K := by
  refine ⟨hc.1, fun ρ w us r hs hargs => ?_⟩
  obtain ⟨ρs, hρs⟩ : ∃ ρs : Ren, ρs = fun j => ⟨(ρ (bs j)).blk, (ρ (bs j)).off + os j, (ρ (bs j)).slack, []⟩ := ⟨_, rfl⟩
  have hget : ∀ (b : Nat) (k : ABlk), ((rows.map .row : AH))[b]? = some k → ∃ R, rows[b]? = some R ∧ k = .row R := by
    intro b k hb
    rw [List.getElem?_map] at hb
    cases hx : rows[b]? with
    | none => rw [hx] at hb; cases hb
    | some R => rw [hx] at hb; injection hb with hb; exact ⟨R, rfl, hb.symm⟩
  have rs : Rel ρs (rows.map .row) w := by
    refine ⟨fun b k hb => ?_, fun b k hb => ?_, fun b c k l hb hc hne x hx => ?_⟩
    · obtain ⟨R, hR, rfl⟩ := hget b k hb
      obtain ⟨h1, h3⟩ := hp b R hR
      intro i v hv
      rcases h3 with rfl | ⟨vs, h3, h4⟩
      · simp at hv
      · have hv2 := h4 i v hv
        have := (rdRow_cell r h3 hv2).1
        have hpl := h1 v (List.mem_of_getElem? hv)
        rw [conc_zero ρ v hpl] at this
        rw [conc_zero ρs v hpl, ← this]
        subst hρs
        simp [Nat.add_assoc]
    · obtain ⟨R, hR, rfl⟩ := hget b k hb
      exact scp_noNames (k := .row R) (hp b R hR).1 _
    · obtain ⟨R, hR, rfl⟩ := hget b k hb
      simp [ABlk.foot] at hx
  have hlive : ∀ j, j < rows.length → live (rows.map .row : AH) j = true := by
    intro j hj
    refine live_of (k := .row rows[j]) ?_ (by simp)
    rw [List.getElem?_map, List.getElem?_eq_getElem hj]
    rfl
  have hsl : us.size = args0.length := by rw [hs, he]; simp
  refine ((hc.2 ρs w us rs hsl fun i v hv => ?_)).mono ?_
  · obtain ⟨u, hu, vr⟩ := hargs i (shV bs os v) (by rw [he, List.getElem?_map, hv]; rfl)
    refine ⟨u, hu, ?_⟩
    rcases ha v (List.mem_of_getElem? hv) with hpl | ⟨j, o, sp, n, c, rfl, hj⟩
    · have e : shV bs os v = v := by
        unfold shV
        split
        · rename_i j o sp n c
          simp [plain, scp, nil] at hpl
        · rfl
      rw [e] at vr
      have h1 := VR.plain (ρ := ρs) (n := live (rows.map .row)) hpl
      rw [vr.2, conc_zero ρ v hpl]
      exact h1
    · refine ⟨by simpa [scp] using hlive j hj, ?_⟩
      rw [vr.2]
      subst hρs
      simp only [shV, conc, cAddr, cCap]
      simp only [Nat.add_assoc]
  · rintro e w' ⟨v, u, h', ρ', he', vr, ⟨E, rfl, hE, hv, hpost⟩, r', nx, hle⟩
    have hkeep : ∀ x, x < w.heap.size → w'.heap[x]? = w.heap[x]? := fun x hx => nx.keep x hx fun b k hb => by
      obtain ⟨R, hR, rfl⟩ := hget b k hb
      simp [ABlk.foot]
    obtain ⟨n, hn⟩ : ∃ n, rows.length = n := ⟨_, rfl⟩
    rw [hn] at hv
    have hEn : ∀ (c : Nat) (k : ABlk), E[c]? = some k → (rows.map ABlk.row ++ E)[n + c]? = some k := by
      intro c k hc
      rw [List.getElem?_append_right (by simp; omega)]
      simp only [List.length_map, hn, Nat.add_sub_cancel_left]
      exact hc
    obtain ⟨ρ2, hρ2⟩ : ∃ ρ2 : Ren, ρ2 = fun c => if c < H.length then ρ c else ρ' (n + (c - H.length)) := ⟨_, rfl⟩
    have q1 : ∀ c, c < H.length → ρ2 c = ρ c := fun c hc => by subst hρ2; simp [hc]
    have q2 : ∀ c, ρ2 (H.length + c) = ρ' (n + c) := fun c => by subst hρ2; simp [show ¬ (H.length + c < H.length) by omega]
    have getE : ∀ (b : Nat) (k : ABlk), (H ++ E)[b]? = some k → (b < H.length ∧ H[b]? = some k) ∨ ∃ c, b = H.length + c ∧ E[c]? = some k := by
      intro b k hb
      by_cases hbl : b < H.length
      · rw [List.getElem?_append_left hbl] at hb
        exact .inl ⟨hbl, hb⟩
      · rw [List.getElem?_append_right (by omega)] at hb
        exact .inr ⟨b - H.length, by omega, hb⟩
    have newF : ∀ (c : Nat) (k : ABlk), E[c]? = some k → ∀ x, x ∈ k.foot (ρ' (n + c)) → w.heap.size ≤ x := fun c k hc x hx => by
      rcases nx.prov (n + c) k (hEn c k hc) x hx with h | ⟨b0, k0, h1, h2⟩
      · exact h
      · obtain ⟨R, hR, rfl⟩ := hget b0 k0 h1
        simp [ABlk.foot] at h2
    have hal : ∀ c, live H c = true → (ρ2 c).al = (ρ c).al := fun c hc => by rw [q1 c (live_lt hc)]
    have r2 : Rel ρ2 (H ++ E) w' := by
      refine ⟨fun b k hb => ?_, fun b k hb => ?_, fun b c k l hb hc hne x hx => ?_⟩
      · rcases getE b k hb with ⟨hbl, hb⟩ | ⟨c, rfl, hc⟩
        · rw [q1 b hbl]
          exact ((r.holds b k hb).keep (fun x hx => hkeep x (r.reach_lt hb x hx))).congr (r.scope b k hb) hal
        · rw [q2]
          exact (r'.holds _ k (hEn c k hc)).noNames (hE k (List.mem_of_getElem? hc)).1
      · rcases getE b k hb with ⟨hbl, hb⟩ | ⟨c, rfl, hc⟩
        · exact ABlk.scp_mono (fun b hb => live_push b hb) (r.scope b k hb)
        · exact scp_noNames (hE k (List.mem_of_getElem? hc)).1 _
      · rcases getE b k hb with ⟨hbl, hb2⟩ | ⟨b', rfl, hb2⟩
        · rw [q1 b hbl] at hx
          rcases getE c l hc with ⟨hcl, hc2⟩ | ⟨c', rfl, hc2⟩
          · rw [q1 c hcl]
            exact r.apart b c k l hb2 hc2 hne x hx
          · rw [q2]
            intro hx'
            rw [(hE l (List.mem_of_getElem? hc2)).2.2] at hx'
            have h1 := newF c' l hc2 x hx'
            have := r.reach_lt hb2 x (foot_reach hx)
            omega
        · rw [q2] at hx
          have hge := newF b' k hb2 x hx
          rcases getE c l hc with ⟨hcl, hc2⟩ | ⟨c', rfl, hc2⟩
          · rw [q1 c hcl]
            intro hx'
            have := r.reach_lt hc2 x hx'
            omega
          · rw [q2]
            exact r'.apart (n + b') (n + c') k l (hEn b' k hb2) (hEn c' l hc2) (by omega) x hx
    refine ⟨ren (fun j => H.length + (j - n)) v, u, H ++ E, ρ2, he', ⟨?_, ?_⟩, by rw [← hn]; exact hK v E hpost, r2, ⟨fun b hb => by rw [q1 b hb], fun b hb hl => live_push b hl, nx.os, nx.tape, nx.output, nx.size, fun x hx _ => hkeep x hx, fun b k hb x hx => ?_, fun b k hb x hx => ?_⟩, by simp⟩
    · refine scp_ren (L := fun b => decide (n ≤ b ∧ b < n + E.length)) (fun b hb => ?_) v hv
      simp only [decide_eq_true_eq] at hb
      obtain ⟨k, hk⟩ : ∃ k, E[b - n]? = some k := ⟨_, List.getElem?_eq_getElem (by omega)⟩
      refine live_of (k := k) ?_ (hE k (List.mem_of_getElem? hk)).2.1
      rw [List.getElem?_append_right (by omega), Nat.add_sub_cancel_left]
      exact hk
    · rw [vr.2, conc_ren]
      refine conc_congr (n := fun b => decide (n ≤ b ∧ b < n + E.length)) (fun b hb => ?_) v hv
      simp only [decide_eq_true_eq] at hb
      rw [q2, show n + (b - n) = b by omega]
    · rcases getE b k hb with ⟨hbl, hb⟩ | ⟨c, rfl, hc⟩
      · rw [q1 b hbl] at hx
        exact .inr ⟨b, k, hb, hx⟩
      · rw [q2] at hx
        exact .inl (newF c k hc x hx)
    · rcases getE b k hb with ⟨hbl, hb⟩ | ⟨c, rfl, hc⟩
      · rw [q1 b hbl] at hx
        exact .inr ⟨b, k, hb, hx⟩
      · rw [q2, (hE k (List.mem_of_getElem? hc)).2.2] at hx
        exact .inl (newF c k hc x hx)

/-- Where n elements, their cells R, lie in the heap. -/
def RowAt (H : AH) (A : Option Addr) (n : Nat) (R : List Value) : Prop := (n = 0 ∧ R = [] ∧ A = none) ∨ ∃ b o sp, A = some ⟨b, o, sp⟩ ∧ ((n = 0 ∧ R = []) ∨ (sp = none ∧ ∃ vs, rdRow H b = some vs ∧ ∀ (i : Nat) v, R[i]? = some v → vs[o + i]? = some v))

/-- How a row stands where nothing else is known. -/
def RowOne (n : Nat) (A : Option Addr) : Prop := (n = 0 ∧ (A = none ∨ ∃ sp, A = some ⟨0, 0, sp⟩)) ∨ A = some ⟨0, 0, none⟩

/-- A call that reads one row, and hands back what bears no names. -/
theorem AC.rowG {pre rest : List Value} {n cap : Nat} {R : List Value} {r : Value} (hR : ∀ v ∈ R, plain v = true) (hpre : ∀ v ∈ pre, plain v = true) (hrest : ∀ v ∈ rest, plain v = true) (hr : plain r = true)
    (hc : ∀ A, RowOne n A → AC P f (pre ++ .slice A n cap :: rest) [.row R] (fun v h' => v = r ∧ h' = [.row R])) {H : AH} {A : Option Addr} (hA : RowAt H A n R) (hK : K r H) : AC P f (pre ++ .slice A n cap :: rest) H K := by
  have shp : ∀ bs os v, plain v = true → shV bs os v = v := by
    intro bs os v hv
    unfold shV
    split
    · simp [plain, scp, nil] at hv
    · rfl
  have mapp : ∀ bs os (l : List Value), (∀ v ∈ l, plain v = true) → l.map (shV bs os) = l := fun bs os l hl => by
    conv => rhs; rw [← List.map_id l]
    exact List.map_congr_left fun v hv => shp bs os v (hl v hv)
  have fin : ∀ (bs os : Nat → Nat) (A0 : Option Addr), RowOne n A0 → (∀ (j : Nat) R', ([R] : List (List Value))[j]? = some R' → (∀ v ∈ R', plain v = true) ∧ (R' = [] ∨ ∃ vs, rdRow H (bs j) = some vs ∧ ∀ (i : Nat) v, R'[i]? = some v → vs[os j + i]? = some v)) → shV bs os (.slice A0 n cap) = .slice A n cap → AC P f (pre ++ .slice A n cap :: rest) H K := by
    intro bs os A0 h1 h2 h3
    refine AC.reads (rows := [R]) bs os h2 (args0 := pre ++ .slice A0 n cap :: rest) (by rw [List.map_append, List.map_cons, mapp _ _ _ hpre, mapp _ _ _ hrest, h3]) ?_ (fun v E => v = r ∧ E = []) ((hc A0 h1).mono ?_) ?_
    · intro v hv
      rcases List.mem_append.1 hv with hv | hv
      · exact .inl (hpre v hv)
      · rcases List.mem_cons.1 hv with rfl | hv
        · rcases h1 with ⟨_, rfl | ⟨sp, rfl⟩⟩ | rfl
          · exact .inl rfl
          · exact .inr ⟨0, 0, sp, n, cap, rfl, by simp⟩
          · exact .inr ⟨0, 0, none, n, cap, rfl, by simp⟩
        · exact .inl (hrest v hv)
    · rintro v h' ⟨rfl, rfl⟩
      exact ⟨[], rfl, by simp, scp_mono (fun b hb => by cases hb) _ hr, rfl, rfl⟩
    · rintro v E ⟨rfl, rfl⟩
      rw [ren_plain _ _ hr, List.append_nil]
      exact hK
  rcases hA with ⟨rfl, rfl, rfl⟩ | ⟨b, o, sp, rfl, h⟩
  · refine fin (fun _ => 0) (fun _ => 0) none (.inl ⟨rfl, .inl rfl⟩) (fun j R' hj => ?_) rfl
    match j with
    | 0 => injection hj with hj; subst hj; exact ⟨by simp, .inl rfl⟩
    | j + 1 => simp at hj
  · refine fin (fun _ => b) (fun _ => o) (some ⟨0, 0, sp⟩) ?_ (fun j R' hj => ?_) rfl
    · rcases h with ⟨rfl, _⟩ | ⟨rfl, _⟩
      · exact .inl ⟨rfl, .inr ⟨sp, rfl⟩⟩
      · exact .inr rfl
    · match j with
      | 0 =>
        injection hj with hj
        subst hj
        refine ⟨hR, ?_⟩
        rcases h with ⟨_, rfl⟩ | ⟨_, vs, h1, h2⟩
        · exact .inl rfl
        · exact .inr ⟨vs, h1, h2⟩
      | j + 1 => simp at hj

/-- A call that reads one row, and hands back new blocks. -/
theorem AC.rowGE {pre rest : List Value} {n cap : Nat} {R : List Value} (Post : Value → AH → Prop) (hR : ∀ v ∈ R, plain v = true) (hpre : ∀ v ∈ pre, plain v = true) (hrest : ∀ v ∈ rest, plain v = true)
    (hc : ∀ A, RowOne n A → AC P f (pre ++ .slice A n cap :: rest) [.row R] (fun v h' => ∃ E, h' = .row R :: E ∧ (∀ k ∈ E, noNames k ∧ k ≠ .hole ∧ ∀ cb, k.reach cb = k.foot cb) ∧ scp (fun b => decide (1 ≤ b ∧ b < 1 + E.length)) v = true ∧ Post v E)) {H : AH} {A : Option Addr} (hA : RowAt H A n R) (hK : ∀ v E, Post v E → K (ren (fun j => H.length + (j - 1)) v) (H ++ E)) : AC P f (pre ++ .slice A n cap :: rest) H K := by
  have shp : ∀ bs os v, plain v = true → shV bs os v = v := by
    intro bs os v hv
    unfold shV
    split
    · simp [plain, scp, nil] at hv
    · rfl
  have mapp : ∀ bs os (l : List Value), (∀ v ∈ l, plain v = true) → l.map (shV bs os) = l := fun bs os l hl => by
    conv => rhs; rw [← List.map_id l]
    exact List.map_congr_left fun v hv => shp bs os v (hl v hv)
  have fin : ∀ (bs os : Nat → Nat) (A0 : Option Addr), RowOne n A0 → (∀ (j : Nat) R', ([R] : List (List Value))[j]? = some R' → (∀ v ∈ R', plain v = true) ∧ (R' = [] ∨ ∃ vs, rdRow H (bs j) = some vs ∧ ∀ (i : Nat) v, R'[i]? = some v → vs[os j + i]? = some v)) → shV bs os (.slice A0 n cap) = .slice A n cap → AC P f (pre ++ .slice A n cap :: rest) H K := by
    intro bs os A0 h1 h2 h3
    refine AC.reads (rows := [R]) bs os h2 (args0 := pre ++ .slice A0 n cap :: rest) (by rw [List.map_append, List.map_cons, mapp _ _ _ hpre, mapp _ _ _ hrest, h3]) ?_ Post ((hc A0 h1).mono ?_) ?_
    · intro v hv
      rcases List.mem_append.1 hv with hv | hv
      · exact .inl (hpre v hv)
      · rcases List.mem_cons.1 hv with rfl | hv
        · rcases h1 with ⟨_, rfl | ⟨sp, rfl⟩⟩ | rfl
          · exact .inl rfl
          · exact .inr ⟨0, 0, sp, n, cap, rfl, by simp⟩
          · exact .inr ⟨0, 0, none, n, cap, rfl, by simp⟩
        · exact .inl (hrest v hv)
    · rintro v h' ⟨E, rfl, hE, hv, hp⟩
      exact ⟨E, rfl, hE, hv, hp⟩
    · exact hK
  rcases hA with ⟨rfl, rfl, rfl⟩ | ⟨b, o, sp, rfl, h⟩
  · refine fin (fun _ => 0) (fun _ => 0) none (.inl ⟨rfl, .inl rfl⟩) (fun j R' hj => ?_) rfl
    match j with
    | 0 => injection hj with hj; subst hj; exact ⟨by simp, .inl rfl⟩
    | j + 1 => simp at hj
  · refine fin (fun _ => b) (fun _ => o) (some ⟨0, 0, sp⟩) ?_ (fun j R' hj => ?_) rfl
    · rcases h with ⟨rfl, _⟩ | ⟨rfl, _⟩
      · exact .inl ⟨rfl, .inr ⟨sp, rfl⟩⟩
      · exact .inr rfl
    · match j with
      | 0 =>
        injection hj with hj
        subst hj
        refine ⟨hR, ?_⟩
        rcases h with ⟨_, rfl⟩ | ⟨_, vs, h1, h2⟩
        · exact .inl rfl
        · exact .inr ⟨vs, h1, h2⟩
      | j + 1 => simp at hj
end

end Abs
end Go.Proofs.Ytekhadlpcdjlpaa
