/- Rings, as lists: what is there in a circle of cells, behind a put, behind a take. -/
import Derived.Test.YtlhbfkncdcgocaaHeap
namespace Go.Proofs.Ytlhbfkncdcgocaa

/-- The n values from place f on, round and round. -/
def live {α : Type} [Inhabited α] (arr : List α) (f n : Nat) : List α := (List.range n).map fun i => arr.getD ((f + i) % arr.length) default

theorem live_length {α : Type} [Inhabited α] (arr : List α) (f n : Nat) : (live arr f n).length = n := by simp [live]

theorem mod_small (a b : Nat) (h : a < b) : a % b = a := Nat.mod_eq_of_lt h

theorem mod_wrap (f i m : Nat) (hf : f < m) (hi : i < m) : (f + i) % m = if f + i < m then f + i else f + i - m := by
  split
  · rename_i h; exact Nat.mod_eq_of_lt h
  · rename_i h
    rw [Nat.mod_eq_sub_mod (by omega), Nat.mod_eq_of_lt (by omega)]

theorem live_put {α : Type} [Inhabited α] (arr : List α) (f n : Nat) (v : α) (hn : n < arr.length) (hf : f < arr.length) :
    live (arr.set ((f + n) % arr.length) v) f (n + 1) = live arr f n ++ [v] := by
  have hd : (f + n) % arr.length < arr.length := Nat.mod_lt _ (by omega)
  unfold live
  rw [List.range_succ, List.map_append, List.length_set]
  congr 1
  · apply List.map_congr_left
    intro i hi
    have hi' : i < n := List.mem_range.1 hi
    rw [mod_wrap f n _ hf hn, mod_wrap f i _ hf (by omega)]
    simp only [List.getD_eq_getElem?_getD]
    rw [List.getElem?_set_ne]
    split <;> split <;> omega
  · simp [hd]

theorem live_take {α : Type} [Inhabited α] (arr : List α) (f n : Nat) (z : α) (hn : n + 1 ≤ arr.length) (hf : f < arr.length) :
    live arr f (n + 1) = arr.getD f default :: live (arr.set f z) ((f + 1) % arr.length) n := by
  have hm : 0 < arr.length := by omega
  unfold live
  rw [List.range_succ_eq_map, List.map_cons, List.length_set, List.map_map]
  congr 1
  · simp [Nat.mod_eq_of_lt hf]
  · apply List.map_congr_left
    intro i hi
    have hi' : i < n := List.mem_range.1 hi
    have e : ((f + 1) % arr.length + i) % arr.length = (f + (i + 1)) % arr.length := by
      rw [Nat.mod_add_mod, show f + 1 + i = f + (i + 1) by omega]
    simp only [Function.comp, e, List.getD_eq_getElem?_getD]
    rw [List.getElem?_set_ne]
    rw [mod_wrap f (i + 1) _ hf (by omega)]
    split <;> omega

end Go.Proofs.Ytlhbfkncdcgocaa
