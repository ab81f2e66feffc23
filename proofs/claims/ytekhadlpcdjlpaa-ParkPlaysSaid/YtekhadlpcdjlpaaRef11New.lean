/- The document's answer for layer 11: New, whose four rows are made in an open order. -/
import Derived.Test.YtekhadlpcdjlpaaRef11
namespace Go.Proofs.Ytekhadlpcdjlpaa
namespace Ref11
open Go.RowKit
set_option linter.unusedVariables false
set_option linter.unusedSimpArgs false

set_option maxRecDepth 100000 in
set_option maxHeartbeats 4000000 in
theorem new_ (n spin : Nat) (w : World) (h64 : n ≤ 64) (hs : spin ≤ 1000) :
    Calls Try.prog 61 #[.int .i64 n, .int .i64 spin] w (Made w n spin) := by
  obtain ⟨i0, hi, hz0, hz1, hz2⟩ := info_parts info_int
  have hmk := fun w' => make_zeros (P := Try.prog) 22 3 i0 (.int .i64 0) (.int .i64 0) 8 Try.underlying22 hi hz0 hz1 hz2 rfl n (by omega) (by omega) w'
  clear hi hz0 hz1 hz2
  go_enter Try.func61, Try.ntmps61
  go_wp2_with fail
  refine Lex3.region (fun _ => True) [.pure, .pure, .loud, .pure, .loud, .pure, .loud, .pure, .loud, .pure, .loud, .pure] [[0, 1, 2, 3, 4, 5, 6, 7, 8, 9, 10, 11], [0, 1, 2, 3, 4, 7, 8, 5, 6, 9, 10, 11], [0, 1, 2, 5, 6, 3, 4, 7, 8, 9, 10, 11], [0, 1, 2, 5, 6, 7, 8, 3, 4, 9, 10, 11], [0, 1, 2, 7, 8, 3, 4, 5, 6, 9, 10, 11], [0, 1, 2, 7, 8, 5, 6, 3, 4, 9, 10, 11], [0, 3, 4, 1, 2, 5, 6, 7, 8, 9, 10, 11], [0, 3, 4, 1, 2, 7, 8, 5, 6, 9, 10, 11], [0, 3, 4, 5, 6, 1, 2, 7, 8, 9, 10, 11], [0, 3, 4, 5, 6, 7, 8, 1, 2, 9, 10, 11], [0, 3, 4, 7, 8, 1, 2, 5, 6, 9, 10, 11], [0, 3, 4, 7, 8, 5, 6, 1, 2, 9, 10, 11], [0, 5, 6, 1, 2, 3, 4, 7, 8, 9, 10, 11], [0, 5, 6, 1, 2, 7, 8, 3, 4, 9, 10, 11], [0, 5, 6, 3, 4, 1, 2, 7, 8, 9, 10, 11], [0, 5, 6, 3, 4, 7, 8, 1, 2, 9, 10, 11], [0, 5, 6, 7, 8, 1, 2, 3, 4, 9, 10, 11], [0, 5, 6, 7, 8, 3, 4, 1, 2, 9, 10, 11], [0, 7, 8, 1, 2, 3, 4, 5, 6, 9, 10, 11], [0, 7, 8, 1, 2, 5, 6, 3, 4, 9, 10, 11], [0, 7, 8, 3, 4, 1, 2, 5, 6, 9, 10, 11], [0, 7, 8, 3, 4, 5, 6, 1, 2, 9, 10, 11], [0, 7, 8, 5, 6, 1, 2, 3, 4, 9, 10, 11], [0, 7, 8, 5, 6, 3, 4, 1, 2, 9, 10, 11]] (by kernel_rfl) (by kernel_rfl) (fun _ => trivial) ?_
  repeat' (first | (with_reducible exact Lex3.all_nil) | (with_reducible refine Lex3.all_cons ?_ ?_))
  all_goals
    repeat (first | ((refine Lex3.step_pure rfl rfl rfl ?_; simp only [List.getElem_toArray, List.getElem_cons_succ, List.getElem_cons_zero]; go_big_quiet_step (fail)); refine wpQuiet_nil ?_) | ((refine Lex3.step_read rfl rfl rfl ?_; simp only [List.getElem_toArray, List.getElem_cons_succ, List.getElem_cons_zero]; go_big_quiet_step ((intro hwS; first | rfl | (simp [Known] at hwS; simp [hwS]; done) | (simp [Known] at hwS; simp [hwS]; rfl)))); refine wpQuiet_nil ?_))
    refine Lex3.step_loud rfl rfl (fun wl hwl => ?_)
    first | (obtain ⟨nq, rfl⟩ := hwl) | (replace hwl := hwl.symm; subst hwl)
    simp only [List.getElem_toArray, List.getElem_cons_succ, List.getElem_cons_zero]
    go_wp2_with fail
    refine ⟨rfl, rfl, trivial, ?_⟩
    repeat (first | ((refine Lex3.step_pure rfl rfl rfl ?_; simp only [List.getElem_toArray, List.getElem_cons_succ, List.getElem_cons_zero]; go_big_quiet_step (fail)); refine wpQuiet_nil ?_) | ((refine Lex3.step_read rfl rfl rfl ?_; simp only [List.getElem_toArray, List.getElem_cons_succ, List.getElem_cons_zero]; go_big_quiet_step ((intro hwS; first | rfl | (simp [Known] at hwS; simp [hwS]; done) | (simp [Known] at hwS; simp [hwS]; rfl)))); refine wpQuiet_nil ?_))
    refine Lex3.step_loud rfl rfl (fun wl hwl => ?_)
    first | (obtain ⟨nq, rfl⟩ := hwl) | (replace hwl := hwl.symm; subst hwl)
    simp only [List.getElem_toArray, List.getElem_cons_succ, List.getElem_cons_zero]
    go_wp2_with fail
    refine ⟨rfl, rfl, trivial, ?_⟩
    repeat (first | ((refine Lex3.step_pure rfl rfl rfl ?_; simp only [List.getElem_toArray, List.getElem_cons_succ, List.getElem_cons_zero]; go_big_quiet_step (fail)); refine wpQuiet_nil ?_) | ((refine Lex3.step_read rfl rfl rfl ?_; simp only [List.getElem_toArray, List.getElem_cons_succ, List.getElem_cons_zero]; go_big_quiet_step ((intro hwS; first | rfl | (simp [Known] at hwS; simp [hwS]; done) | (simp [Known] at hwS; simp [hwS]; rfl)))); refine wpQuiet_nil ?_))
    refine Lex3.step_loud rfl rfl (fun wl hwl => ?_)
    first | (obtain ⟨nq, rfl⟩ := hwl) | (replace hwl := hwl.symm; subst hwl)
    simp only [List.getElem_toArray, List.getElem_cons_succ, List.getElem_cons_zero]
    go_wp2_with fail
    refine ⟨rfl, rfl, trivial, ?_⟩
    repeat (first | ((refine Lex3.step_pure rfl rfl rfl ?_; simp only [List.getElem_toArray, List.getElem_cons_succ, List.getElem_cons_zero]; go_big_quiet_step (fail)); refine wpQuiet_nil ?_) | ((refine Lex3.step_read rfl rfl rfl ?_; simp only [List.getElem_toArray, List.getElem_cons_succ, List.getElem_cons_zero]; go_big_quiet_step ((intro hwS; first | rfl | (simp [Known] at hwS; simp [hwS]; done) | (simp [Known] at hwS; simp [hwS]; rfl)))); refine wpQuiet_nil ?_))
    refine Lex3.step_loud rfl rfl (fun wl hwl => ?_)
    first | (obtain ⟨nq, rfl⟩ := hwl) | (replace hwl := hwl.symm; subst hwl)
    simp only [List.getElem_toArray, List.getElem_cons_succ, List.getElem_cons_zero]
    go_wp2_with fail
    refine ⟨rfl, rfl, trivial, ?_⟩
    repeat (first | ((refine Lex3.step_pure rfl rfl rfl ?_; simp only [List.getElem_toArray, List.getElem_cons_succ, List.getElem_cons_zero]; go_big_quiet_step (fail)); refine wpQuiet_nil ?_) | ((refine Lex3.step_read rfl rfl rfl ?_; simp only [List.getElem_toArray, List.getElem_cons_succ, List.getElem_cons_zero]; go_big_quiet_step ((intro hwS; first | rfl | (simp [Known] at hwS; simp [hwS]; done) | (simp [Known] at hwS; simp [hwS]; rfl)))); refine wpQuiet_nil ?_))
    refine Lex3.step_loud rfl rfl (fun wl hwl => ?_)
    first | (obtain ⟨nq, rfl⟩ := hwl) | (replace hwl := hwl.symm; subst hwl)
    simp only [List.getElem_toArray, List.getElem_cons_succ, List.getElem_cons_zero]
    go_wp2_with fail
    refine ⟨rfl, rfl, trivial, ?_⟩
    repeat (first | ((refine Lex3.step_pure rfl rfl rfl ?_; simp only [List.getElem_toArray, List.getElem_cons_succ, List.getElem_cons_zero]; go_big_quiet_step (fail)); refine wpQuiet_nil ?_) | ((refine Lex3.step_read rfl rfl rfl ?_; simp only [List.getElem_toArray, List.getElem_cons_succ, List.getElem_cons_zero]; go_big_quiet_step ((intro hwS; first | rfl | (simp [Known] at hwS; simp [hwS]; done) | (simp [Known] at hwS; simp [hwS]; rfl)))); refine wpQuiet_nil ?_))
    refine Lex3.step_nil (fun wl hwl => ?_)
    first | (obtain ⟨nq, rfl⟩ := hwl) | (replace hwl := hwl.symm; subst hwl)
    go_wp2_with fail
    go_ret
  · exact made_end w nq n spin h64 0 1 2 3 (by decide)
  · exact made_end w nq n spin h64 0 1 3 2 (by decide)
  · exact made_end w nq n spin h64 0 2 1 3 (by decide)
  · exact made_end w nq n spin h64 0 3 1 2 (by decide)
  · exact made_end w nq n spin h64 0 2 3 1 (by decide)
  · exact made_end w nq n spin h64 0 3 2 1 (by decide)
  · exact made_end w nq n spin h64 1 0 2 3 (by decide)
  · exact made_end w nq n spin h64 1 0 3 2 (by decide)
  · exact made_end w nq n spin h64 2 0 1 3 (by decide)
  · exact made_end w nq n spin h64 3 0 1 2 (by decide)
  · exact made_end w nq n spin h64 2 0 3 1 (by decide)
  · exact made_end w nq n spin h64 3 0 2 1 (by decide)
  · exact made_end w nq n spin h64 1 2 0 3 (by decide)
  · exact made_end w nq n spin h64 1 3 0 2 (by decide)
  · exact made_end w nq n spin h64 2 1 0 3 (by decide)
  · exact made_end w nq n spin h64 3 1 0 2 (by decide)
  · exact made_end w nq n spin h64 2 3 0 1 (by decide)
  · exact made_end w nq n spin h64 3 2 0 1 (by decide)
  · exact made_end w nq n spin h64 1 2 3 0 (by decide)
  · exact made_end w nq n spin h64 1 3 2 0 (by decide)
  · exact made_end w nq n spin h64 2 1 3 0 (by decide)
  · exact made_end w nq n spin h64 3 1 2 0 (by decide)
  · exact made_end w nq n spin h64 2 3 1 0 (by decide)
  · exact made_end w nq n spin h64 3 2 1 0 (by decide)

end Ref11
end Go.Proofs.Ytekhadlpcdjlpaa
