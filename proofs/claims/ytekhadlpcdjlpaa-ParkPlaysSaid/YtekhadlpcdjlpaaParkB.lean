/- The statement ParkPlays: what the program and the document's answer have, side by side; the easy ways. -/
import Derived.Test.YtekhadlpcdjlpaaPark3
import Derived.Test.YtekhadlpcdjlpaaRef11c
import Derived.Test.YtekhadlpcdjlpaaRef11New
import Derived.Test.YtekhadlpcdjlpaaFlat
namespace Go.Proofs.Ytekhadlpcdjlpaa
namespace ParkPlays
open Go.RowKit Park Ref11
set_option linter.unusedVariables false
set_option linter.unusedSimpArgs false

abbrev opSh : Sh := .pair (.int .i64) (.pair (.int .i64) (.pair (.int .i64) .unit))

theorem one_ (b : Bool) (w : World) : Calls Try.prog 62 #[.bool b] w fun e w' => e = .returned (.int .i64 (num b)) ∧ w = w' := by
  cases b with
  | true =>
    go_enter Try.func62, Try.ntmps62
    go_wp2
    go_ret
    exact ⟨rfl, rfl⟩
  | false =>
    go_enter Try.func62, Try.ntmps62
    go_wp2
    go_ret
    exact ⟨rfl, rfl⟩

/-- The blocks. -/
structure Pk where
  p : Nat
  g : Nat
  gc : Nat
  pp : Nat
  pd : Nat
  pcap : Nat
  cs : List Nat
  q : Nat
  b1 : Nat
  b2 : Nat
  b3 : Nat
  b4 : Nat
  n : Nat
  spin : Nat

def Pk.prog (K : Pk) (x : Nat) : Prop := x = K.p ∨ x = K.g ∨ x = K.pp ∨ x = K.pd ∨ x ∈ K.cs
def Pk.ref (K : Pk) (x : Nat) : Prop := x = K.q ∨ x = K.b1 ∨ x = K.b2 ∨ x = K.b3 ∨ x = K.b4
abbrev Pk.W (K : Pk) (w : World) (sl : List (Int × Int)) (bs : List Bool) : Prop := Park.W w K.p K.g K.gc K.pp K.pd K.pcap K.cs K.spin sl bs
abbrev Pk.R (K : Pk) (w : World) (lo sp ad : List Int) (bs : List Bool) : Prop := Ref11.R w K.q K.b1 K.b2 K.b3 K.b4 K.n K.spin lo sp ad (nums bs)

/-- The program's blocks lie apart from the answer's, all from base on, ahead of top. -/
structure Sep (K : Pk) (base mid top : Nat) : Prop where
  prog : ∀ x, K.prog x → base ≤ x ∧ x < mid
  ref : ∀ x, K.ref x → mid ≤ x ∧ x < top
  base : base ≤ mid

/-- What both have between two calls. -/
structure Both (K : Pk) (w0 w : World) (sl : List (Int × Int)) (bs : List Bool) (lo sp ad : List Int) : Prop where
  st : K.W w sl bs
  rf : K.R w lo sp ad bs
  rel : Rel sl bs lo sp ad
  n : sl.length = K.n
  mod : Mod [] w0 w

section
variable {K : Pk} {w0 w w' : World} {sl sl' : List (Int × Int)} {bs bs' : List Bool} {lo sp ad : List Int} {mid top : Nat}

theorem W_mod (h : K.W w sl bs) (m : Mod [] w w') : K.W w' sl bs := h.mod0 m
theorem W_ref (hs : Sep K w0.heap.size mid top) (h : K.W w sl bs) {S : List Nat} (m : Mod S w w') (hS : ∀ x, x ∈ S → K.ref x) : K.W w' sl bs := by
  have hn : ∀ x, K.prog x → x ∉ S := fun x hx hm => by have := hs.prog x hx; have := hs.ref x (hS x hm); omega
  refine h.mod m (hn _ (.inl rfl)) (hn _ (.inr (.inl rfl))) (fun x hx => hn x ?_)
  rcases hx with h | h | h
  · exact .inr (.inr (.inl h))
  · exact .inr (.inr (.inr (.inl h)))
  · exact .inr (.inr (.inr (.inr h)))
theorem R_prog (hs : Sep K w0.heap.size mid top) (h : K.R w lo sp ad bs) {S : List Nat} (m : Mod S w w') (hS : ∀ x, x ∈ S → x ∈ K.g :: K.cs) : K.R w' lo sp ad bs :=
  h.mod m (fun x hx hm => by
    have h1 := hs.ref x hx
    have h2 := hs.prog x (by
      rcases List.mem_cons.1 (hS x hm) with h | h
      · exact .inr (.inl h)
      · exact .inr (.inr (.inr (.inr h))))
    omega)
theorem mod_prog (hs : Sep K w0.heap.size mid top) (m0 : Mod [] w0 w) {S : List Nat} (m : Mod S w w') (hS : ∀ x, x ∈ S → x ∈ K.g :: K.cs) : Mod [] w0 w' :=
  m0.step m (fun x hx hlt => by
    have := hs.prog x (by
      rcases List.mem_cons.1 (hS x hx) with h | h
      · exact .inr (.inl h)
      · exact .inr (.inr (.inr (.inr h))))
    omega)
theorem mod_ref (hs : Sep K w0.heap.size mid top) (m0 : Mod [] w0 w) {S : List Nat} (m : Mod S w w') (hS : ∀ x, x ∈ S → K.ref x) : Mod [] w0 w' :=
  m0.step m (fun x hx hlt => by have := hs.ref x (hS x hx); have := hs.base; omega)
/-- What lies from top on is left alone by both. -/
theorem known_prog (hs : Sep K w0.heap.size mid top) {l : List (Addr × Value)} (h : Known l w) {S : List Nat} (m : Mod S w w') (hS : ∀ x, x ∈ S → x ∈ K.g :: K.cs) (hl : ∀ x ∈ l, top ≤ x.1.block) (htop : mid ≤ top) : Known l w' :=
  h.mod m (fun x hx hm => by
    have h1 := hl x hx
    have h2 := hs.prog x.1.block (by
      rcases List.mem_cons.1 (hS _ hm) with h | h
      · exact .inr (.inl h)
      · exact .inr (.inr (.inr (.inr h))))
    omega)
end

set_option maxRecDepth 100000 in
theorem plays_many (a : Option Addr) (n spin : Int) (len cap : Nat) (w : World) (h100 : 100 < len) (hm : len ≤ maxLen) :
    Calls Try.prog 14 #[.int .i64 n, .int .i64 spin, .slice a len cap] w fun e w' => e = .returned (.bool true) ∧ Mod [] w w' := by
  unfold maxLen at hm
  go_enter Try.func14, Try.ntmps14
  go_wp2_with fail
  refine (awake11 _).mono ?_
  rintro e w2 ⟨rfl, m2⟩
  go_wp2
  go_ret
  exact ⟨rfl, m2⟩

set_option maxRecDepth 100000 in
theorem plays_none (a : Option Addr) (n spin : Int) (len cap : Nat) (w : World) (h100 : len ≤ 100) (hn : n < 1 ∨ 64 < n) :
    Calls Try.prog 14 #[.int .i64 n, .int .i64 spin, .slice a len cap] w fun e w' => e = .returned (.bool true) ∧ Mod [] w w' := by
  have hnew := Park.new_bad1 n spin w hn
  by_cases h0 : n < 1
  · clear hn
    go_enter Try.func14, Try.ntmps14
    go_wp2_with fail
    refine hnew.mono ?_
    rintro e w2 ⟨rfl, rfl⟩
    go_wp2_with fail
    refine (awake11 _).mono ?_
    rintro e w2 ⟨rfl, m2⟩
    go_wp2
    go_ret
    exact ⟨rfl, m2⟩
  · have h1 : 64 < n := by omega
    have h2 : 1 ≤ n := by omega
    clear hn h0
    go_enter Try.func14, Try.ntmps14
    go_wp2_with fail
    refine hnew.mono ?_
    rintro e w2 ⟨rfl, rfl⟩
    go_wp2_with fail
    refine (awake11 _).mono ?_
    rintro e w2 ⟨rfl, m2⟩
    go_wp2
    go_ret
    exact ⟨rfl, m2⟩

set_option maxRecDepth 100000 in
theorem plays_none2 (a : Option Addr) (n : Nat) (spin : Int) (len cap : Nat) (w : World) (h100 : len ≤ 100) (h1 : 1 ≤ n) (h64 : n ≤ 64) (hs : spin < 1 ∨ 1000 < spin) :
    Calls Try.prog 14 #[.int .i64 n, .int .i64 spin, .slice a len cap] w fun e w' => e = .returned (.bool true) ∧ Mod [] w w' := by
  have hnew := Park.new_bad2 n spin w h1 h64 hs
  by_cases h0 : spin < 1
  · clear hs
    go_enter Try.func14, Try.ntmps14
    go_wp2_with fail
    refine hnew.mono ?_
    rintro e w2 ⟨rfl, m1⟩
    go_wp2_with fail
    refine (awake11 _).mono ?_
    rintro e w2 ⟨rfl, m2⟩
    go_wp2
    go_ret
    exact ⟨rfl, m1.trans m2⟩
  · have h3 : 1000 < spin := by omega
    have h2 : 1 ≤ spin := by omega
    clear hs h0
    go_enter Try.func14, Try.ntmps14
    go_wp2_with fail
    refine hnew.mono ?_
    rintro e w2 ⟨rfl, m1⟩
    go_wp2_with fail
    refine (awake11 _).mono ?_
    rintro e w2 ⟨rfl, m2⟩
    go_wp2
    go_ret
    exact ⟨rfl, m1.trans m2⟩
end ParkPlays
end Go.Proofs.Ytekhadlpcdjlpaa
