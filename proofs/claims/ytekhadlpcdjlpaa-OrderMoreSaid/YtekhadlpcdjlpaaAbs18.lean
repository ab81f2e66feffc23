/- What is computed is so. -/
import Derived.Test.YtekhadlpcdjlpaaAbs17
namespace Go.Proofs.Ytekhadlpcdjlpaa
namespace Abs
open Go
set_option linter.unusedVariables false
set_option linter.unusedSimpArgs false

def cOpsL (P : Program) (ops : Array Oper) : List Oper → Option (List AOper)
  | [] => some []
  | o :: l => match cOper P ops o, cOpsL P ops l with
    | some x, some r => some (x :: r)
    | _, _ => none

def ancs (ops : Array Oper) : Array Nat :=
  ops.toList.foldl (fun acc o => acc.push (o.after.toList.foldl (fun s e => if Region.binds .any e then s ||| 2 ^ e.on ||| acc.getD e.on 0 else s) 0)) #[]

/-- How many of the first ones make a block. -/
def freshes (A : List AOper) (n : Nat) : Nat := ((A.take n).filter fun x => kd x.op == 2).length

def dfl : AOper := ⟨none, .alen 0, none⟩

/-- Which one comes next: of those that nothing bars, first those that write nothing, then those that write, then those that make a block. -/
def pickOf (A : List AOper) (anc : Array Nat) (rem : List Nat) : Option Nat :=
  let free := rem.filter fun i => rem.all fun j => !(anc.getD i 0).testBit j
  match free.find? (fun i => kd (A.getD i dfl).op == 0 || kd (A.getD i dfl).op == 1) with
  | some i => some i
  | none => match free.find? (fun i => kd (A.getD i dfl).op != 2) with
    | some i => some i
    | none => free.head?

def orderOf (A : List AOper) (anc : Array Nat) : Nat → List Nat → List Nat
  | 0, _ => []
  | n + 1, rem => match pickOf A anc rem with
    | some i => i :: orderOf A anc n (rem.erase i)
    | none => []

/-- The reads that have to give the same behind an operation: those that come ahead of it in the order, and for which it need not wait. -/
def chkOf (A : List AOper) (anc : Array Nat) (ord : List Nat) (i : Nat) : List Nat := (ord.takeWhile (· != i)).filter fun j => kd (A.getD j dfl).op == 1 && !(anc.getD i 0).testBit j

def pairsOk (A : List AOper) (anc : Array Nat) (ord : List Nat) : List Nat → Bool
  | [] => true
  | j :: l => (l.all fun i => pairOk (fun k => A.getD k dfl) (fun i j => (chkOf A anc ord i).contains j) anc j i) && !l.contains j && pairsOk A anc ord l

def cDrawn (P : Program) (ops : Array Oper) : Option (Nat × List DOper) := match cOpsL P ops ops.toList with
  | none => none
  | some A =>
    let anc := ancs ops
    let ord := orderOf A anc ops.size (List.range ops.size)
    if ancB ops anc && ord.length == ops.size && ord.all (· < ops.size) && pairsOk A anc ord ord && (List.range ops.size).all (fun k => ord.contains k) then
      some (freshes A ops.size, ord.map fun i => ⟨i, freshes A i, chkOf A anc ord i, A.getD i dfl⟩)
    else none

def cCode (P : Program) : Code → Option ACode
  | .skip => some .skip
  | .region _ ops draw => if draw then match cDrawn P ops with
      | some (n, l) => some (.drawn n l)
      | none => none
    else match cOpsL P ops ops.toList with
      | some l => some (.ops l)
      | none => none
  | .seq a b => match cCode P a, cCode P b with
    | some x, some y => some (.seq x y)
    | _, _ => none
  | .cond c a b => match cCode P a, cCode P b with
    | some x, some y => some (.cond c x y)
    | _, _ => none
  | .block id a => match cCode P a with
    | some x => some (.block id x)
    | none => none
  | .loop a => match cCode P a with
    | some x => some (.loop x)
    | none => none
  | .exit id => some (.exit id)
  | .ret => some .ret
  | _ => none

section
variable {P : Program} {ρ0 : Ren} {h0 : AH} {w0 : World} {m : Nat} {Q : AExit → T → AH → Prop} {R : Type} {bot : R} {holds : R → Prop} {C : FuncId → List Value → AH → (Value → AH → R) → R} {Lp : ACode → T → AH → (AExit → T → AH → R) → R}

theorem cOpsL_get {ops : Array Oper} : ∀ (l : List Oper) (A : List AOper), cOpsL P ops l = some A → A.length = l.length ∧ ∀ (i : Nat) (o : Oper), l[i]? = some o → cOper P ops o = some (A.getD i dfl) := by
  intro l
  induction l with
  | nil => intro A h; simp only [cOpsL] at h; injection h with h; subst h; exact ⟨rfl, fun i o ho => by simp at ho⟩
  | cons o l ih =>
    intro A h
    simp only [cOpsL] at h
    split at h
    case h_2 => cases h
    rename_i x r hx hr
    injection h with h
    subst h
    obtain ⟨h1, h2⟩ := ih r hr
    refine ⟨by simp [h1], fun i o' ho => ?_⟩
    cases i with
    | zero => simp at ho; subst ho; simpa using hx
    | succ i => simp at ho; simpa using h2 i o' ho

/-- A region in a row. -/
theorem wOps_sound (hbot : ¬ holds bot) (hC : ∀ f args h K, holds (C f args h K) → AC2 P f args h (fun v h' => holds (K v h'))) {ops : Array Oper} (K : T → AH → R) (hQ : ∀ t h, holds (K t h) → Q .normal t h) :
    ∀ (l : List Oper) (A : List AOper) (t : T) (h : AH) (ρ : Ren) (w : World) (a : Act), cOpsL P ops l = some A → Rel ρ h w → TRel ρ (live h) t a → Next m ρ0 h0 w0 ρ h w → m ≤ h.length → holds (wOps P bot C A t h K) → wpList P ops (Beh m Q ρ0 h0 w0) l a w := by
  intro l
  induction l with
  | nil =>
    intro A t h ρ w a hc r tr nx hm hw
    simp only [cOpsL] at hc
    injection hc with hc
    subst hc
    exact ⟨.normal, t, h, ρ, rfl, hQ t h hw, r, tr, nx, hm⟩
  | cons o l ih =>
    intro A t h ρ w a hc r tr nx hm hw
    simp only [cOpsL] at hc
    split at hc
    case h_2 => cases hc
    rename_i x A' hx hA
    injection hc with hc
    subst hc
    obtain ⟨hop, hdst⟩ := cOper_op hx
    simp only [wOps, onW] at hw
    unfold wpList
    split at hw
    · exact absurd hw hbot
    · rename_i hwt
      rw [wanted_eq hx tr hwt, if_neg (by simp)]
      rw [hdst] at hw
      exact ih A' _ h ρ w _ hA r (tr.put o.dst VR_undef) nx hm hw
    · rename_i hwt
      rw [wanted_eq hx tr hwt, if_pos rfl]
      left
      split at hw
      · split at hw
        case h_2 => exact absurd hw hbot
        rename_i v hv
        obtain ⟨u, vr, hy⟩ := sound_pure hop tr hv
        unfold Oper.wp
        rw [hy w]
        rw [hdst] at hw
        exact ih A' _ h ρ w _ hA r (tr.put o.dst vr) nx hm hw
      · split at hw
        case h_2 => exact absurd hw hbot
        rename_i v hv
        obtain ⟨u, vr, hy⟩ := sound_read hop r tr hv
        unfold Oper.wp
        rw [show (execOp a.eval o).run P w = .ok (.value u) w from hy]
        rw [hdst] at hw
        exact ih A' _ h ρ w _ hA r (tr.put o.dst vr) nx hm hw
      · split at hw
        case h_2 => exact absurd hw hbot
        rename_i v k hv
        have hk : k ≠ .hole := evF_block hv
        have hl1 : live (h ++ [ABlk.hole]) = live h := by
          funext b
          by_cases hb : b < h.length
          · unfold live; rw [List.getElem?_append_left hb]
          · have e1 : live h b = false := by
              cases hq : live h b with
              | false => rfl
              | true => exact absurd (live_lt hq) hb
            rw [e1]
            unfold live
            rw [List.getElem?_append_right (by omega)]
            cases hq : b - h.length with
            | zero => rfl
            | succ n => rfl
        have tr1 : TRel ρ (live (h ++ [ABlk.hole])) t a := by rw [hl1]; exact tr
        obtain ⟨u, w', hrun, vr, r', hnx⟩ := fresh_step r.hole tr1 hop hv (by simp)
        rw [← push_eq] at vr r'
        unfold Oper.wp
        rw [hrun]
        rw [hdst] at hw
        have hne : ∀ c, live h c = true → c ≠ h.length := fun c hc => by have := live_lt hc; omega
        have nx1 : Next m ρ h w ρ (h ++ [ABlk.hole]) w := by
          have back : ∀ (b : Nat) (l : ABlk), (h ++ [ABlk.hole])[b]? = some l → l = .hole ∨ h[b]? = some l := by
            intro b l hb
            by_cases hlt : b < h.length
            · rw [List.getElem?_append_left hlt] at hb
              exact .inr hb
            · rw [List.getElem?_append_right (by omega)] at hb
              have := List.mem_of_getElem? hb
              simp at this
              exact .inl this
          refine ⟨fun _ _ => rfl, fun b _ hb => by rw [hl1]; exact hb, rfl, rfl, rfl, Nat.le_refl _, fun _ _ _ => rfl, fun b l hb x hx => ?_, fun b l hb x hx => ?_⟩
          · rcases back b l hb with rfl | hb
            · cases hx
            · exact .inr ⟨b, l, hb, hx⟩
          · rcases back b l hb with rfl | hb
            · cases hx
            · exact .inr ⟨b, l, hb, hx⟩
        have nx2 := hnx m hm
        rw [← push_eq] at nx2
        exact ih A' _ _ _ w' _ hA r' ((tr.mono (fun c hc => live_push c hc) (fun c hc => upd_al c (hne c hc))).put o.dst vr) (nx.trans (nx1.trans nx2)) (by simp; omega) hw
      · split at hw
        case h_2 => exact absurd hw hbot
        rename_i v h' hv
        obtain ⟨u, nxt, w', ρ', hrun, hnxt, vr, r', nx', hle⟩ := sound_loud hop r tr hv
        rw [hdst] at hw
        have go := ih A' _ h' ρ' w' (a.put o.dst u) hA r' ((tr.mono (fun c hc => nx'.lives c (live_lt hc) hc) (fun c hc => nx'.ext c (live_lt hc))).put o.dst vr) (nx.trans (nx'.less hm)) (by omega) hw
        unfold Oper.wp
        rw [hrun]
        rcases hnxt with rfl | ⟨rfl, rfl⟩
        · exact go
        · exact go
      · split at hw
        case h_2 => exact absurd hw hbot
        rename_i f args hv
        have hic := hC _ _ _ _ hw
        rw [AC2_ge (evI_ge hv).1] at hic
        refine intr_step hop r tr hv hic fun v u h' ρ' w' vr hp r' nx' hle => ?_
        rw [hdst] at hp
        exact ih A' _ h' ρ' w' _ hA r' ((tr.mono (fun c hc => nx'.lives c (live_lt hc) hc) (fun c hc => nx'.ext c (live_lt hc))).put o.dst vr) (nx.trans (nx'.less hm)) (by omega) hp
      · split at hw
        case h_2 => exact absurd hw hbot
        rename_i f args hv
        have hac := hC _ _ _ _ hw
        rw [AC2_lt (evC_lt hv)] at hac
        refine call_step hop r tr hv hac fun v u h' ρ' w' vr hp r' nx' hle => ?_
        rw [hdst] at hp
        exact ih A' _ h' ρ' w' _ hA r' ((tr.mono (fun c hc => nx'.lives c (live_lt hc) hc) (fun c hc => nx'.ext c (live_lt hc))).put o.dst vr) (nx.trans (nx'.less hm)) (by omega) hp

end
end Abs
end Go.Proofs.Ytekhadlpcdjlpaa
