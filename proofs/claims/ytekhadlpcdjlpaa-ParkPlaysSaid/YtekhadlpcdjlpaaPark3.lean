/- Layer 11 (park): the example. -/
import Derived.Test.YtekhadlpcdjlpaaPark2
namespace Go.Proofs.Ytekhadlpcdjlpaa
namespace Park
open Go.RowKit
set_option linter.unusedVariables false

/-- Waits whose blocks lie from base on. -/
structure At (w : World) (base p g gc pp pd pcap : Nat) (cs : List Nat) (spin : Nat) (sl : List (Int × Int)) (bs : List Bool) : Prop where
  st : W w p g gc pp pd pcap cs spin sl bs
  base : ∀ x, x ∈ g :: cs → base ≤ x

section
variable {w w' : World} {base p g gc pp pd pcap : Nat} {cs : List Nat} {spin : Nat} {sl sl' : List (Int × Int)} {bs bs' : List Bool}
theorem At.step {w0 : World} (h : At w w0.heap.size p g gc pp pd pcap cs spin sl bs) {S : List Nat} (hS : ∀ x, x ∈ S → x ∈ g :: cs) (m0 : Mod [] w0 w) (m : Mod S w w') : Mod [] w0 w' :=
  m0.step m (fun x hx hlt => by have := h.base x (hS x hx); omega)
theorem At.of (h : At w base p g gc pp pd pcap cs spin sl bs) (hw : W w' p g gc pp pd pcap cs spin sl' bs') : At w' base p g gc pp pd pcap cs spin sl' bs' := ⟨hw, h.base⟩
end

theorem new_ (n spin : Nat) (w : World) (h1 : 1 ≤ n) (h64 : n ≤ 64) (hs1 : 1 ≤ spin) (hs2 : spin ≤ 1000) :
    Calls Try.prog 50 #[.int .i64 n, .int .i64 spin] w fun e w' => ∃ p g gc pp pd pcap cs, e = .returned (.tuple #[.pointer (some ⟨p, 0, none⟩), .int .i64 0]) ∧ At w' w.heap.size p g gc pp pd pcap cs spin (List.replicate n (0, -1)) (List.replicate n false) ∧ Mod [] w w' :=
  (new_in n spin w h1 h64 hs1 hs2).mono fun e w' ⟨p, g, gc, pp, pd, pcap, cs, he, hW, hb, hm⟩ => ⟨p, g, gc, pp, pd, pcap, cs, he, ⟨hW, fun x hx => hb x (by rcases List.mem_cons.1 hx with h | h; exact .inr (.inl h); exact .inr (.inr (.inr (.inr h))))⟩, hm⟩

theorem nats_row {w : World} {base : Nat} {v : Value} {l : List Nat} (h : Owns w base 3 v (nats l)) : ∃ a c, v = .slice a l.length c ∧ (∀ (i n : Nat), l[i]? = some n → ∃ b o, a = some ⟨b, o, none⟩ ∧ w.cell? ⟨b, o + i, none⟩ = some (.int .i64 (n : Int))) := by
  obtain ⟨a, c, hv, hr, _⟩ := h.row
  rw [nats_length] at hv
  refine ⟨a, c, hv, fun i n hn => ?_⟩
  rcases hr with h0 | ⟨b, o, rfl, hc⟩
  · have : l = [] := by simpa [nats] using h0
    subst this
    simp at hn
  · exact ⟨b, o, rfl, hc i _ (by simp [nats, hn])⟩

theorem awake11 (w : World) : Calls Try.prog 51 #[] w fun e w' => e = .returned (.bool true) ∧ Mod [] w w' := by
  go_enter Try.func51, Try.ntmps51
  go_wp2_with fail
  refine (new_ 1 2 _ (by decide) (by decide) (by decide) (by decide)).mono ?_
  rintro e w1 ⟨p, g, gc, pp, pd, pcap, cs, rfl, hA, m1⟩
  go_wp2_with fail
  refine (look_no hA.st 0 (0, -1) rfl 7 (by decide)).mono ?_
  rintro e w2 ⟨rfl, hW2, m2⟩
  have n2 := hA.step (S := [g]) (by simp) m1 m2
  go_wp2_with fail
  refine (look_yes hW2 0 (1, -1) rfl 7 (by decide)).mono ?_
  rintro e w3 ⟨rfl, hW3, m3⟩
  have n3 := (hA.of hW2).step (S := [g]) (by simp) n2 m3
  go_wp2_with fail
  refine (resume_no hW3 0 0 7 rfl (by decide) rfl).mono ?_
  rintro e w4 ⟨rfl, hW4, m4⟩
  have n4 := (hA.of hW3).step (S := cs) (fun x hx => List.mem_cons_of_mem _ hx) n3 m4
  go_wp2_with fail
  refine (wrote_ hW4 7 (-1)).mono ?_
  rintro e w5 ⟨v, rfl, hown, hW5, m5⟩
  have n5 := (hA.of hW4).step (S := cs) (fun x hx => List.mem_cons_of_mem _ hx) n4 m5
  obtain ⟨a, c, hv, hrow⟩ := nats_row hown
  obtain ⟨b, o, rfl, hc⟩ := hrow 0 0 rfl
  have hl : (woken [((0 : Int), (7 : Int))] [false] 7 (-1) 1).length = 1 := rfl
  have hv2 : v = .slice (some ⟨b, o, none⟩) 1 c := hv
  subst hv2
  have hc0 : w5.cell? ⟨b, o, none⟩ = some (.int .i64 0) := hc
  clear hv hrow hl hc
  go_wp2_with fail
  refine (resume_yes hW5 0 0 7 rfl (by decide) rfl).mono ?_
  rintro e w6 ⟨rfl, hW6, m6⟩
  have n6 := (hA.of hW5).step (S := g :: cs) (fun x hx => hx) n5 m6
  go_wp2
  go_ret
  exact ⟨rfl, n6⟩
end Park
end Go.Proofs.Ytekhadlpcdjlpaa
