/- Proved: what reply.Answer.Right answers: whether an answer is one. -/
import Derived.Test.YtopbhdpfakjkjaaDoorEvent
namespace Go.Proofs.YtopbhdpfakjkjaaDoor.Event
open Go.RowKit Go.Proofs.YtopbhdpfakjkjaaDoor.Histo
set_option linter.unusedVariables false

/-- An answer's four numbers. -/
structure Ans where
  kind : Int
  box : Int
  why : Int
  err : Int
def Ans.val (a : Ans) : Value := .agg #[.int .i64 a.kind, .int .i64 a.box, .int .i64 a.why, .int .i64 a.err]
/-- Is it an answer? -/
def Ans.right (a : Ans) : Bool :=
  (a.kind == 0 && a.box == 0 && a.why == 0 && a.err == 0) ||
  (a.kind == 1 && a.box == 0 && a.why == 0 && (decide (0 < a.err) && decide (a.err ≤ 6))) ||
  ((a.kind == 2 || a.kind == 3) && (decide (1 ≤ a.box) && decide (a.box ≤ 2147483647)) && a.why == 0 && a.err == 0) ||
  (a.kind == 4 && a.box == 0 && (decide (0 < a.why) && decide (a.why ≤ 4)) && a.err == 0)

theorem two_below {w : World} {a b : Obj} : Below w.heap.size w ((w.alloc a).alloc b) := ((Below.refl _ _).alloc (Nat.le_refl _) _).alloc (by simp) _

set_option maxHeartbeats 4000000 in
theorem aright_1 (b y r : Int) (w : World) : Calls Tryd.prog 10 #[.agg #[.int .i64 1, .int .i64 b, .int .i64 y, .int .i64 r]] w (RetB1 (Ans.right ⟨1, b, y, r⟩) w) := by
  by_cases t1 : 0 < r
  · have d1 : decide (0 < r) = true := decide_eq_true t1
    by_cases t2 : r ≤ 6
    · have d2 : decide (r ≤ 6) = true := decide_eq_true t2
      go_enter Tryd.func10, Tryd.ntmps10
      go_wp2
      go_region
      go_wp2
      all_goals
        go_ret
        exact RetB1.mk (by simp [Ans.right, *]) two_below.drew
    · have d2 : decide (r ≤ 6) = false := decide_eq_false t2
      go_enter Tryd.func10, Tryd.ntmps10
      go_wp2
      go_region
      go_wp2
      all_goals
        go_ret
        exact RetB1.mk (by simp [Ans.right, *]) two_below.drew
  · have d1 : decide (0 < r) = false := decide_eq_false t1
    go_enter Tryd.func10, Tryd.ntmps10
    go_wp2
    go_region
    go_wp2
    all_goals
      go_ret
      exact RetB1.mk (by simp [Ans.right, *]) two_below.drew
set_option maxHeartbeats 4000000 in
theorem aright_2 (b y r : Int) (w : World) : Calls Tryd.prog 10 #[.agg #[.int .i64 2, .int .i64 b, .int .i64 y, .int .i64 r]] w (RetB1 (Ans.right ⟨2, b, y, r⟩) w) := by
  by_cases t1 : 1 ≤ b
  · have d1 : decide (1 ≤ b) = true := decide_eq_true t1
    by_cases t2 : b ≤ 2147483647
    · have d2 : decide (b ≤ 2147483647) = true := decide_eq_true t2
      go_enter Tryd.func10, Tryd.ntmps10
      go_wp2
      go_region
      go_wp2
      all_goals
        go_ret
        exact RetB1.mk (by simp [Ans.right, *]) two_below.drew
    · have d2 : decide (b ≤ 2147483647) = false := decide_eq_false t2
      go_enter Tryd.func10, Tryd.ntmps10
      go_wp2
      go_region
      go_wp2
      all_goals
        go_ret
        exact RetB1.mk (by simp [Ans.right, *]) two_below.drew
  · have d1 : decide (1 ≤ b) = false := decide_eq_false t1
    go_enter Tryd.func10, Tryd.ntmps10
    go_wp2
    go_region
    go_wp2
    all_goals
      go_ret
      exact RetB1.mk (by simp [Ans.right, *]) two_below.drew
set_option maxHeartbeats 4000000 in
theorem aright_3 (b y r : Int) (w : World) : Calls Tryd.prog 10 #[.agg #[.int .i64 3, .int .i64 b, .int .i64 y, .int .i64 r]] w (RetB1 (Ans.right ⟨3, b, y, r⟩) w) := by
  by_cases t1 : 1 ≤ b
  · have d1 : decide (1 ≤ b) = true := decide_eq_true t1
    by_cases t2 : b ≤ 2147483647
    · have d2 : decide (b ≤ 2147483647) = true := decide_eq_true t2
      go_enter Tryd.func10, Tryd.ntmps10
      go_wp2
      go_region
      go_wp2
      all_goals
        go_ret
        exact RetB1.mk (by simp [Ans.right, *]) two_below.drew
    · have d2 : decide (b ≤ 2147483647) = false := decide_eq_false t2
      go_enter Tryd.func10, Tryd.ntmps10
      go_wp2
      go_region
      go_wp2
      all_goals
        go_ret
        exact RetB1.mk (by simp [Ans.right, *]) two_below.drew
  · have d1 : decide (1 ≤ b) = false := decide_eq_false t1
    go_enter Tryd.func10, Tryd.ntmps10
    go_wp2
    go_region
    go_wp2
    all_goals
      go_ret
      exact RetB1.mk (by simp [Ans.right, *]) two_below.drew
set_option maxHeartbeats 4000000 in
theorem aright_4 (b y r : Int) (w : World) : Calls Tryd.prog 10 #[.agg #[.int .i64 4, .int .i64 b, .int .i64 y, .int .i64 r]] w (RetB1 (Ans.right ⟨4, b, y, r⟩) w) := by
  by_cases t1 : 0 < y
  · have d1 : decide (0 < y) = true := decide_eq_true t1
    by_cases t2 : y ≤ 4
    · have d2 : decide (y ≤ 4) = true := decide_eq_true t2
      go_enter Tryd.func10, Tryd.ntmps10
      go_wp2
      go_region
      go_wp2
      all_goals
        go_ret
        exact RetB1.mk (by simp [Ans.right, *]) two_below.drew
    · have d2 : decide (y ≤ 4) = false := decide_eq_false t2
      go_enter Tryd.func10, Tryd.ntmps10
      go_wp2
      go_region
      go_wp2
      all_goals
        go_ret
        exact RetB1.mk (by simp [Ans.right, *]) two_below.drew
  · have d1 : decide (0 < y) = false := decide_eq_false t1
    go_enter Tryd.func10, Tryd.ntmps10
    go_wp2
    go_region
    go_wp2
    all_goals
      go_ret
      exact RetB1.mk (by simp [Ans.right, *]) two_below.drew
set_option maxHeartbeats 4000000 in
theorem aright_any (a : Ans) (w : World) : Calls Tryd.prog 10 #[a.val] w (RetB1 a.right w) := by
  obtain ⟨k, b, y, r⟩ := a
  unfold Ans.val
  simp only
  by_cases h0 : k = 0
  · subst h0
    go_enter Tryd.func10, Tryd.ntmps10
    go_wp2
    all_goals
      go_ret
      exact RetB1.mk (by simp [Ans.right, *]) two_below
  by_cases h1 : k = 1
  · subst h1; exact aright_1 b y r w
  by_cases h2 : k = 2
  · subst h2; exact aright_2 b y r w
  by_cases h3 : k = 3
  · subst h3; exact aright_3 b y r w
  by_cases h4 : k = 4
  · subst h4; exact aright_4 b y r w
  have e0 : (k == 0) = false := beq_eq_false_iff_ne.2 h0
  have e1 : (k == 1) = false := beq_eq_false_iff_ne.2 h1
  have e2 : (k == 2) = false := beq_eq_false_iff_ne.2 h2
  have e3 : (k == 3) = false := beq_eq_false_iff_ne.2 h3
  have e4 : (k == 4) = false := beq_eq_false_iff_ne.2 h4
  go_enter Tryd.func10, Tryd.ntmps10
  go_wp2
  all_goals
    go_ret
    exact RetB1.mk (by simp [Ans.right, *]) two_below
end Go.Proofs.YtopbhdpfakjkjaaDoor.Event
