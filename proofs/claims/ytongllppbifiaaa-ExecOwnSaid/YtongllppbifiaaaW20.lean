import Derived.Test.YtongllppbifiaaaW19
namespace Go.Proofs.Ytongllppbifiaaa
namespace Px
open Go Abs Code
set_option linter.unusedVariables false
set_option linter.unusedSimpArgs false
set_option maxRecDepth 100000
def nm : Value → List Nat
 | .slice (some a) _ _ => [a.block]
 | _ => []
inductive VecV (g : AH) (v : Value) (l : List Value) (e : TypeId) : Prop
 | nil : l = [] → v = .slice none 0 0 → VecV g v l e
 | row (b : Nat) : l ≠ [] → v = .slice (some ⟨b,0,none⟩) l.length (OPEN + l.length) → g[b]? = some (.cells l e (some 1)) → VecV g v l e
theorem VecV.keep {g g' : AH} {v : Value} {l : List Value} {e : TypeId} (h : VecV g v l e) (hk : ∀ c ∈ nm v,c < g.length → g'[c]? = g[c]?) : VecV g' v l e := by
 cases h with
 | nil h1 h2 => exact .nil h1 h2
 | row b h1 h2 h3 =>
  subst h2
  exact .row b h1 rfl (by rw [hk b (by simp [nm]) (lt_get h3)]; exact h3)
theorem VecV.lt {g : AH} {v : Value} {l : List Value} {e : TypeId} (h : VecV g v l e) : ∀ c ∈ nm v,c < g.length := by
 cases h with
 | nil h1 h2 => subst h2; simp [nm]
 | row b h1 h2 h3 => subst h2; simp [nm]; exact lt_get h3
theorem VecV.slice {g : AH} {v : Value} {l : List Value} {e : TypeId} (h : VecV g v l e) : ∃ A L C,v = .slice A L C := by
 cases h with
 | nil h1 h2 => exact ⟨_,_,_,h2⟩
 | row b h1 h2 h3 => exact ⟨_,_,_,h2⟩
abbrev Vec := Value × List Value × TypeId
structure Own (g : AH) (b : Nat) (vs : List Vec) : Prop where
 vec : ∀ x ∈ vs,VecV g x.1 x.2.1 x.2.2
 nd : (b :: vs.flatMap fun x => nm x.1).Nodup
 lt : b < g.length
theorem Own.perm {g : AH} {b : Nat} {vs ws : List Vec} (h : Own g b vs) (p : vs.Perm ws) : Own g b ws :=
 ⟨fun x hx => h.vec x (p.mem_iff.2 hx),((p.flatMap_right _).cons b).nodup_iff.1 h.nd,h.lt⟩
theorem Own.keepAll {g g' : AH} {b : Nat} {vs : List Vec} (h : Own g b vs) (hl : g.length ≤ g'.length) (hk : ∀ x ∈ vs,∀ c ∈ nm x.1,c < g.length → g'[c]? = g[c]?) : Own g' b vs :=
 ⟨fun x hx => (h.vec x hx).keep (hk x hx),h.nd,Nat.lt_of_lt_of_le h.lt hl⟩
theorem Own.set {g : AH} {b : Nat} {vs : List Vec} (h : Own g b vs) (k : ABlk) : Own (g.set b k) b vs := by
 refine h.keepAll (by simp) fun x hx c hc _ => ?_
 have := (List.nodup_cons.1 h.nd).1
 rw [List.getElem?_set_ne]
 rintro rfl
 exact this (List.mem_flatMap.2 ⟨x,hx,hc⟩)
theorem Own.app {g : AH} {b : Nat} {pre post : List Vec} {v : Value} {l : List Value} {e : TypeId} (h : Own g b (pre ++ (v,l,e) :: post)) (u : Value) (hu : Abs.one1 u = true) (hl : l.length ≤ 1000) {bytes : Nat} (hb : bytes ≤ 24) :
  ∃ g', (∀ (t : T) (s x : Operand), evalO t s = some v → evalO t x = some (.slice (some ⟨g.length, 0, none⟩) 1 1) → evApp t (g ++ [.cells [u] e none]) e 1 bytes s x = some (.slice (some ⟨g.length + 1, 0, none⟩) (l.length + 1) (OPEN + (l.length + 1)), g')) ∧
   Own g' b (pre ++ (.slice (some ⟨g.length + 1,0,none⟩) (l.length + 1) (OPEN + (l.length + 1)),l ++ [u],e) :: post) ∧ g'.length = g.length + 2 ∧ g'[b]? = g[b]? ∧ ∀ c,c < g.length → c ∉ nm v → g'[c]? = g[c]? := by
 have hv := h.vec (v,l,e) (by simp)
 simp only at hv
 have nd := h.nd
 rw [List.flatMap_append,List.flatMap_cons] at nd
 simp only at nd
 have fin : ∀ g', g'.length = g.length + 2 → (∀ c, c < g.length → c ∉ nm v → g'[c]? = g[c]?) → g'[g.length + 1]? = some (.cells (l ++ [u]) e (some 1)) → Own g' b (pre ++ (.slice (some ⟨g.length + 1, 0, none⟩) (l.length + 1) (OPEN + (l.length + 1)), l ++ [u], e) :: post) ∧ g'.length = g.length + 2 ∧ g'[b]? = g[b]? ∧ ∀ c, c < g.length → c ∉ nm v → g'[c]? = g[c]? := by
  intro g' h1 h2 h3
  have hbv : b ∉ nm v := fun hm => by
   have := (List.nodup_cons.1 nd).1
   simp only [List.mem_append,not_or] at this
   exact this.2.1 hm
  have hb' : b < g.length := h.lt
  refine ⟨⟨fun x hx => ?_, ?_,by omega⟩,h1,h2 b hb' hbv,h2⟩
  ·rw [List.mem_append,List.mem_cons] at hx
   have nd2 := (List.nodup_cons.1 nd).2
   rw [List.nodup_append] at nd2
   obtain ⟨_,nd3,nd4⟩ := nd2
   rw [List.nodup_append] at nd3
   rcases hx with hx | rfl | hx
   ·refine (h.vec x (by simp [hx])).keep fun c hc hcl => h2 c hcl fun hm => ?_
    exact nd4 c (List.mem_flatMap.2 ⟨x,hx,hc⟩) c (List.mem_append_left _ hm) rfl
   ·exact .row (g.length + 1) (by simp) (by simp) h3
   ·refine (h.vec x (by simp [hx])).keep fun c hc hcl => h2 c hcl fun hm => ?_
    exact nd3.2.2 c hm c (List.mem_flatMap.2 ⟨x,hx,hc⟩) rfl
  ·rw [List.flatMap_append,List.flatMap_cons]
   show (b :: (List.flatMap (fun x => nm x.1) pre ++ ([g.length + 1] ++ List.flatMap (fun x => nm x.1) post))).Nodup
   have hlt : ∀ c,c ∈ b :: (pre.flatMap (fun x => nm x.1) ++ post.flatMap (fun x => nm x.1)) → c ≠ g.length + 1 := by
    intro c hc e
    simp only [List.mem_cons,List.mem_append,List.mem_flatMap] at hc
    rcases hc with rfl | ⟨x,hx,hc⟩ | ⟨x,hx,hc⟩
    ·omega
    ·have := (h.vec x (by simp [hx])).lt c hc; omega
    ·have := (h.vec x (by simp [hx])).lt c hc; omega
   have p : (b :: (pre.flatMap (fun x => nm x.1) ++ ([g.length + 1] ++ post.flatMap (fun x => nm x.1)))).Perm ((g.length + 1) :: (b :: (pre.flatMap (fun x => nm x.1) ++ post.flatMap (fun x => nm x.1)))) := by
    refine (List.Perm.cons b ?_).trans (List.Perm.swap _ _ _)
    exact List.perm_middle
   rw [p.nodup_iff,List.nodup_cons]
   refine ⟨fun hm => hlt _ hm rfl, ?_⟩
   refine nd.sublist (List.Sublist.cons_cons b (List.Sublist.append_left ?_ _))
   exact List.sublist_append_right _ _
 cases hv with
 | nil h1 h2 =>
  subst h1 h2
  refine ⟨g ++ [.cells [u] e none] ++ [.cells [u] e (some 1)],fun t s x hs hx => ?_,fin _ (by simp) (fun c hc _ => by rw [List.append_assoc,List.getElem?_append_left hc]) (by rw [List.getElem?_append_right (by simp)]; simp)⟩
  have a1 : bytes ≤ 140737488355328 := by omega
  have a2 : rdCells (g ++ [.cells [u] e none]) g.length 0 1 = some [u] := by simp [rdCells,rdRow]
  simp [evApp,newsOf,hs,hx,a2,hu,fitsApp,a1]
 | row bk h1 h2 h3 =>
  subst h2
  have hbl := lt_get h3
  refine ⟨(g ++ [ABlk.cells [u] e none]).set bk .dead ++ [ABlk.cells (l ++ [u]) e (some 1)],fun t s x hs hx => ?_,fin _ (by simp) (fun c hc hn => ?_) (by rw [List.getElem?_append_right (by simp)]; simp)⟩
  ·have a2 : rdCells (g ++ [.cells [u] e none]) g.length 0 1 = some [u] := by simp [rdCells,rdRow]
   have a3 : ¬ OPEN + l.length < OPEN := by omega
   have a4 : (l.length + 1) * bytes ≤ 140737488355328 := Nat.le_trans (Nat.mul_le_mul_left _ hb) (by omega)
   have a5 : (g ++ [.cells [u] e none])[bk]? = some (.cells l e (some 1)) := getA h3 _
   have a6 : l.length + 1 ≤ 4294967296 := by omega
   have a7 : l.length ≤ 4294967295 := by omega
   have a8 : ¬ l.length + 1 ≤ l.length := by omega
   simp [evApp,newsOf,hs,hx,a2,hu,fitsApp,capLow,a3,a4,a5,a6,a7,a8]
  ·have hne : bk ≠ c := by
    rintro rfl
    exact hn (by simp [nm])
   rw [List.getElem?_append_left (by simp; omega),List.getElem?_set_ne hne,List.getElem?_append_left hc]
end Px
end Go.Proofs.Ytongllppbifiaaa
