/- Proved: what the auditor tells of boots on a host of a size: plain reasoning, no program in sight. -/
import Derived.Test.YtopbhdpfakjkjaaAudFirst
namespace Go.Proofs.Ytopbhdpfakjkjaa.Aud
open Go.RowKit Go.Proofs.Ytopbhdpfakjkjaa.Histo Go.Proofs.Ytopbhdpfakjkjaa.Event Go.Proofs.Ytopbhdpfakjkjaa.Ring
set_option linter.unusedVariables false
open Go.Proofs.Ytopbhdpfakjkjaa.MapI (AL At Rng W64 At.alloc At.drew)
def ev0 : Ev := ⟨0, 0, 0, 0, 0, 0, 0, 0, 0, 0⟩
def an0 : Ans := ⟨0, 0, 0, 0⟩
def funcS (m : Int) : Stp := ⟨⟨2, 0, 0, 0, 0, 0, m, 0, 0, 0⟩, an0, []⟩
def hostS (s : Int) : Stp := ⟨⟨3, 0, 0, s, 0, 0, 0, 0, 0, 0⟩, an0, []⟩
def bootS (b f h : Int) : Stp := ⟨ev0, an0, [⟨true, b, f, h⟩]⟩
theorem step_plain {a : AS} {x : Stp} (h1 : x.ev.right = true) (h2 : x.ans = an0) (h3 : x.cmds = []) (h4 : ¬ x.ev.k = 6) : a.step x = a.ahead x.ev := by
  unfold AS.step
  rw [h1, h2, h3, show an0.right = true by decide]
  rw [if_neg (by decide), if_neg (by decide), if_neg (by decide)]
  simp only [if_neg h4]
  show (match (if ¬ (0 : Int) = 0 then none else a.ahead x.ev) with | none => none | some s1 => some s1) = _
  rw [if_neg (by decide)]
  cases a.ahead x.ev <;> rfl
def memL (s m : Int) (n : Nat) : List Stp := [funcS m, hostS s] ++ (List.range n).map fun j : Nat => bootS ((j : Int) + 1) 0 0
def stateS (s m : Int) (n : Nat) : AS := ⟨(List.range n).map fun j : Nat => ⟨(j : Int) + 1, 0, 0, false, true⟩, [(0, .int .i64 s)], [(0, .int .i64 m)], (n : Int) + 1⟩
theorem memL_succ (s m : Int) (n : Nat) : memL s m (n + 1) = memL s m n ++ [bootS ((n : Int) + 1) 0 0] := by
  unfold memL
  rw [List.range_succ, List.map_append, ← List.append_assoc]
  rfl
theorem right0 : ev0.right = true := by decide
theorem aright0 : an0.right = true := by decide
theorem funcS_right {m : Int} (h0 : 0 ≤ m) (h1 : m ≤ 16) : (funcS m).ev.right = true := by
  have : ∀ k : Fin 17, (funcS (k.val : Int)).ev.right = true := by decide
  have h := this ⟨m.toNat, by omega⟩
  rw [show ((m.toNat : Nat) : Int) = m by omega] at h
  exact h
theorem hostS_right {s : Int} (h0 : 0 ≤ s) (h1 : s ≤ 63) : (hostS s).ev.right = true := by
  have : ∀ k : Fin 64, (hostS (k.val : Int)).ev.right = true := by decide
  have h := this ⟨s.toNat, by omega⟩
  rw [show ((s.toNat : Nat) : Int) = s by omega] at h
  exact h
theorem steps_head {s m : Int} (h0 : 0 ≤ s) (h1 : s ≤ 63) (m0 : 0 ≤ m) (m1 : m ≤ 16) : AS.new.steps [funcS m, hostS s] = some (stateS s m 0) := by
  have e1 : AS.new.step (funcS m) = some ⟨[], [], [(0, .int .i64 m)], 1⟩ := by
    rw [step_plain (funcS_right m0 m1) rfl rfl (show ¬ (2 : Int) = 6 by decide)]
    rfl
  have e2 : (⟨[], [], [(0, .int .i64 m)], 1⟩ : AS).step (hostS s) = some (stateS s m 0) := by
    rw [step_plain (hostS_right h0 h1) rfl rfl (show ¬ (3 : Int) = 6 by decide)]
    rfl
  unfold AS.steps
  rw [e1]
  unfold AS.steps
  simp only
  rw [e2]
  rfl
theorem sum_state (s m : Int) (h : Int) : ∀ (l : List Nat), sumMem [(0, .int .i64 m)] h (l.map fun j : Nat => (⟨(j : Int) + 1, 0, 0, false, true⟩ : Th)) = if h = 0 then (l.length : Int) * m else 0
  | [] => by simp [sumMem]
  | t :: r => by
    rw [List.map_cons, sumMem, sum_state s m h r, List.length_cons]
    have : num [(0, .int .i64 m)] 0 = m := rfl
    rw [this]
    by_cases e : h = 0
    · subst e; rw [if_pos rfl, if_pos rfl, if_pos rfl, Int.natCast_add, Int.add_mul]; omega
    · rw [if_neg (fun q => e q.symm), if_neg e, if_neg e]; rfl
theorem step_boot (s m : Int) (n : Nat) (b f h : Int) : (stateS s m n).step (bootS b f h) = (stateS s m n).command ⟨true, b, f, h⟩ := by
  unfold AS.step
  rw [show (bootS b f h).ev.right = true from right0, show (bootS b f h).ans.right = true from aright0]
  show (match (stateS s m n).cmds [⟨true, b, f, h⟩] with | none => none | some s2 => some s2) = _
  unfold AS.cmds
  cases (stateS s m n).command ⟨true, b, f, h⟩ <;> rfl
theorem boot_next (s m : Int) (n : Nat) : (stateS s m n).step (bootS ((n : Int) + 1) 0 0) = if s < ((n : Int) + 1) * m then none else some (stateS s m (n + 1)) := by
  rw [step_boot]
  unfold AS.command
  have h1 : sumMem (stateS s m n).mem 0 (stateS s m n).boxes = (n : Int) * m := by
    have := sum_state s m 0 (List.range n)
    rw [if_pos rfl, List.length_range] at this
    exact this
  have h2 : num (stateS s m n).mem 0 = m := rfl
  have h3 : num (stateS s m n).size 0 = s := rfl
  rw [if_neg (by simp)]
  simp only [h1, h2, h3]
  have h4 : (n : Int) * m + m = ((n : Int) + 1) * m := by rw [Int.add_mul]; omega
  rw [h4]
  by_cases hc : s < ((n : Int) + 1) * m
  · rw [if_pos (.inr (.inr hc)), if_pos hc]
  · have hneg : ¬ (((n : Int) + 1 ≠ (stateS s m n).next) ∨ (MapI.get (stateS s m n).mem 0).isSome = false ∨ s < ((n : Int) + 1) * m) := by
      rintro (h | h | h)
      · exact h rfl
      · cases h
      · exact hc h
    rw [if_neg hneg, if_neg hc]
    unfold stateS
    rw [List.range_succ, List.map_append]
    rfl
theorem mem_steps {s m : Int} (h0 : 0 ≤ s) (h1 : s ≤ 63) (m0 : 1 ≤ m) (m1 : m ≤ 16) : ∀ n : Nat, (n : Int) * m ≤ s → AS.new.steps (memL s m n) = some (stateS s m n)
  | 0, _ => by unfold memL; rw [List.range_zero, List.map_nil, List.append_nil]; exact steps_head h0 h1 (by omega) m1
  | n + 1, h => by
    have e : (((n + 1 : Nat) : Int)) * m = (n : Int) * m + m := by rw [Int.natCast_add, Int.add_mul]; simp
    rw [memL_succ, AS.steps_snoc, mem_steps h0 h1 m0 m1 n (by omega)]
    simp only
    rw [boot_next, if_neg (by rw [Int.add_mul]; omega)]
theorem mem_split (s m : Int) (q : Nat) : ∀ r : Nat, ∃ R, memL s m (q + 1 + r) = memL s m q ++ bootS ((q : Int) + 1) 0 0 :: R
  | 0 => ⟨[], memL_succ s m q⟩
  | r + 1 => by
    obtain ⟨R, h⟩ := mem_split s m q r
    refine ⟨R ++ [bootS (((q + 1 + r : Nat) : Int) + 1) 0 0], ?_⟩
    rw [← Nat.add_assoc, memL_succ, h, List.append_assoc]
    rfl
theorem memL_len (s m : Int) (n : Nat) : (memL s m n).length = n + 2 := by
  unfold memL
  rw [List.length_append, List.length_map, List.length_range]
  simp; omega
theorem mem_first_all {s m : Int} (h0 : 0 ≤ s) (h1 : s ≤ 63) (m0 : 1 ≤ m) (m1 : m ≤ 16) (n : Nat) (h : (n : Int) * m ≤ s) : firstP (memL s m n) = -1 := AS.first_all _ _ _ _ (mem_steps h0 h1 m0 m1 n h)
theorem mem_first_at {s m : Int} (h0 : 0 ≤ s) (h1 : s ≤ 63) (m0 : 1 ≤ m) (m1 : m ≤ 16) (n : Nat) (h : s < (n : Int) * m) : firstP (memL s m n) = 2 + s / m := by
  obtain ⟨q, hq⟩ : ∃ q : Nat, (q : Int) = s / m := ⟨(s / m).toNat, Int.toNat_of_nonneg (Int.ediv_nonneg h0 (by omega))⟩
  have q1 : (q : Int) * m ≤ s := by rw [hq]; exact Int.ediv_mul_le _ (by omega)
  have q2 : s < ((q : Int) + 1) * m := by rw [hq]; exact Int.lt_ediv_add_one_mul_self _ (by omega)
  have q3 : q < n := by
    by_cases hc : q < n
    · exact hc
    · exfalso
      have : (n : Int) * m ≤ (q : Int) * m := Int.mul_le_mul_of_nonneg_right (by omega) (by omega)
      omega
  obtain ⟨R, hR⟩ := mem_split s m q (n - (q + 1))
  rw [show q + 1 + (n - (q + 1)) = n by omega] at hR
  unfold firstP
  rw [hR, AS.first_at _ _ _ _ _ _ (mem_steps h0 h1 m0 m1 q q1) (by rw [boot_next, if_pos q2]), memL_len, ← hq]
  omega
/-- A function, and a host, that are not known. -/
theorem mem_other {s m : Int} (h0 : 0 ≤ s) (h1 : s ≤ 63) (m0 : 1 ≤ m) (m1 : m ≤ 16) {b f h : Int} (hb : f = 1 ∨ h = 1) (hf : f = 0 ∨ f = 1) : firstP [funcS m, hostS s, bootS b f h] = 2 := by
  have hn : (stateS s m 0).step (bootS b f h) = none := by
    rw [step_boot]
    unfold AS.command
    rw [if_neg (by simp), if_pos]
    rcases hf with rfl | rfl
    · rcases hb with hb | rfl
      · cases hb
      · refine .inr (.inr ?_)
        show (0 : Int) < 0 + m
        omega
    · exact .inr (.inl rfl)
  exact AS.first_at [funcS m, hostS s] _ [] _ _ 0 (steps_head h0 h1 (by omega) m1) hn
end Go.Proofs.Ytopbhdpfakjkjaa.Aud
