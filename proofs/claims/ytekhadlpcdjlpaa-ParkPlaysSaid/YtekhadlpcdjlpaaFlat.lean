/- Rows of plain structs (numbers, bools, texts, field by field), as cells. -/
import Derived.Test.YtekhadlpcdjlpaaRead
namespace Go.Proofs.Ytekhadlpcdjlpaa
open Go.RowKit
namespace Sh

def plain : Sh → Bool
  | row _ => false
  | pair a b => a.plain && b.plain
  | _ => true

/-- The cells of a datum. -/
def flat : (s : Sh) → s.Val → List Value
  | int k, n => [.int k n]
  | bool, b => [.bool b]
  | str, s => [.string s]
  | unit, _ => []
  | pair a b, (x, y) => flat a x ++ flat b y
  | row _, _ => []

/-- What is known of its numbers and texts. -/
def wf : (s : Sh) → s.Val → Prop
  | int k, n => (Lit.int k n).wf = true
  | str, s => ByteArray.size s ≤ maxLen
  | pair a b, (x, y) => wf a x ∧ wf b y
  | _, _ => True

theorem Reads.flat {w : World} : (s : Sh) → (x : s.Val) → (cs : List Value) → s.plain = true → Reads w s x cs → cs = s.flat x ∧ s.wf x
  | int _, _, _, _, h => h
  | bool, _, _, _, h => ⟨h, trivial⟩
  | str, _, _, _, h => h
  | unit, _, _, _, h => ⟨h, trivial⟩
  | pair a b, (x, y), _, hp, h => by
    obtain ⟨c1, c2, rfl, h1, h2⟩ := h
    simp only [plain, Bool.and_eq_true] at hp
    obtain ⟨e1, f1⟩ := Reads.flat a x c1 hp.1 h1
    obtain ⟨e2, f2⟩ := Reads.flat b y c2 hp.2 h2
    exact ⟨by rw [e1, e2]; rfl, f1, f2⟩
  | row _, _, _, hp, _ => by cases hp

/-- A row of such data. -/
def RowF (w : World) (a : Option Addr) (s : Sh) (l : List s.Val) : Prop :=
  l = [] ∨ ∃ b o, a = some ⟨b, o, none⟩ ∧ ∀ (i : Nat) x, l[i]? = some x → ∀ (j : Nat) v, (s.flat x)[j]? = some v → w.cell? ⟨b, o + i * s.size + j, none⟩ = some v

theorem arg_flat {w : World} {s : Sh} {l : List s.Val} {v : Value} (hp : s.plain = true) (h : Arg w (.row s) l v) :
    ∃ a cap, v = .slice a l.length cap ∧ RowF w a s l ∧ l.length ≤ cap ∧ cap ≤ maxLen ∧ ∀ x ∈ l, s.wf x := by
  obtain ⟨a, cap, hv, hl, hm, _, hr⟩ := h
  simp only [List.cons.injEq, and_true] at hv
  refine ⟨a, cap, hv, ?_, hl, hm, ?_⟩
  · rcases hr with hr | ⟨b, o, rfl, hr⟩
    · exact .inl hr
    · refine .inr ⟨b, o, rfl, fun i x hx j u hu => ?_⟩
      obtain ⟨r, h1, _, hc⟩ := hr i x hx
      rw [← (Reads.flat s x r hp h1).1] at hu
      exact hc j u hu
  · intro x hx
    rcases hr with hr | ⟨b, o, rfl, hr⟩
    · have hr' : l = [] := hr
      subst hr'
      cases hx
    · obtain ⟨i, hi⟩ := List.getElem?_of_mem hx
      obtain ⟨r, h1, _, _⟩ := hr i x hi
      exact (Reads.flat s x r hp h1).2

theorem RowF.mod0 {w w' : World} {a : Option Addr} {s : Sh} {l : List s.Val} (h : RowF w a s l) (m : Mod [] w w') : RowF w' a s l := by
  rcases h with h | ⟨b, o, rfl, h⟩
  · exact .inl h
  · exact .inr ⟨b, o, rfl, fun i x hx j v hv => m.cell (h i x hx j v hv) (by simp)⟩

theorem RowF.take {w : World} {a : Option Addr} {s : Sh} {l : List s.Val} (h : RowF w a s l) (n : Nat) : RowF w a s (l.take n) := by
  rcases h with rfl | ⟨b, o, rfl, h⟩
  · exact .inl (by simp)
  · exact .inr ⟨b, o, rfl, fun i x hx => h i x (by
      have hi : i < (l.take n).length := (List.getElem?_eq_some_iff.1 hx).1
      simp at hi
      rw [List.getElem?_take, if_pos (by omega)] at hx
      exact hx)⟩
end Sh
end Go.Proofs.Ytekhadlpcdjlpaa
