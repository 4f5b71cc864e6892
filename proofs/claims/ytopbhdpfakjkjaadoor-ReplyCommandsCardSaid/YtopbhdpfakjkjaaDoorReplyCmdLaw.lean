/- Proved: a command's words tell the command: in plain Lean, no program in sight. -/
import Derived.Test.YtopbhdpfakjkjaaDoorReplyLaw
import Derived.Test.YtopbhdpfakjkjaaDoorReplyCmd
namespace Go.Proofs.YtopbhdpfakjkjaaDoor.Reply
set_option linter.unusedVariables false
theorem dec_big {u : Nat} (h : ¬ u < 10) : Lib.decDigits u = Lib.decDigits (u / 10) ++ [UInt8.ofNat (48 + u % 10)] := by
  conv => lhs; rw [Lib.decDigits]
  rw [dif_neg h]
theorem dig_inj {a b : Nat} (ha : a < 10) (hb : b < 10) (h : UInt8.ofNat (48 + a) = UInt8.ofNat (48 + b)) : a = b := by
  have e := congrArg UInt8.toNat h
  rw [dig_nat ha, dig_nat hb] at e
  omega
theorem dec_inj : ∀ (u v : Nat), Lib.decDigits u = Lib.decDigits v → u = v := by
  intro u
  induction u using Nat.strongRecOn with
  | ind u ih =>
    intro v h
    by_cases hu : u < 10
    · rw [Lib.decDigits_one hu] at h
      by_cases hv : v < 10
      · rw [Lib.decDigits_one hv] at h
        injection h with h _
        exact dig_inj hu hv h
      · rw [dec_big hv] at h
        have hl := congrArg List.length h
        have hp := List.length_pos_iff.2 (dec_ne (v / 10))
        simp only [List.length_append, List.length_singleton] at hl
        omega
    · by_cases hv : v < 10
      · rw [Lib.decDigits_one hv, dec_big hu] at h
        have hl := congrArg List.length h
        have hp := List.length_pos_iff.2 (dec_ne (u / 10))
        simp only [List.length_append, List.length_singleton] at hl
        omega
      · rw [dec_big hu, dec_big hv] at h
        obtain ⟨h1, h2⟩ := List.append_inj' h rfl
        have e1 := ih (u / 10) (by omega) _ h1
        injection h2 with h2 _
        have e2 := dig_inj (by omega) (by omega) h2
        omega
theorem dec_first (u : Nat) (l : List UInt8) : 45 :: l ≠ Lib.decDigits u := by
  intro h
  have := (dec_digit u 45 (by rw [← h]; exact List.mem_cons_self)).1
  exact absurd this (by decide)
theorem itoa_inj {a b : Int} (h : Lib.itoa a = Lib.itoa b) : a = b := by
  unfold Lib.itoa at h
  split at h <;> split at h
  · injection h with _ h
    have := dec_inj _ _ h
    omega
  · exact absurd h (dec_first _ _)
  · exact absurd h.symm (dec_first _ _)
  · have := dec_inj _ _ h
    omega
theorem itoa_space (a : Int) : ∀ x ∈ Lib.itoa a, x ≠ 32 := by
  intro x hx e
  subst e
  unfold Lib.itoa at hx
  split at hx
  · rw [List.mem_cons] at hx
    rcases hx with hx | hx
    · exact absurd hx (by decide)
    · exact absurd (dec_digit _ _ hx).1 (by decide)
  · exact absurd (dec_digit _ _ hx).1 (by decide)
theorem sep {p q p' q' : List UInt8} (hp : ∀ x ∈ p, x ≠ 32) (hp' : ∀ x ∈ p', x ≠ 32) (h : p ++ 32 :: q = p' ++ 32 :: q') : p = p' ∧ q = q' := by
  have h1 := cut_at p q hp
  have h2 := cut_at p' q' hp'
  rw [h] at h1
  exact ⟨h1.1.symm.trans h2.1, h1.2.symm.trans h2.2⟩
theorem cmd_out (b : Bool) (x f h : Int) : cmdText b x f h = cmdHead b ++ 32 :: (Lib.itoa x ++ 32 :: (Lib.itoa f ++ 32 :: Lib.itoa h)) := by
  simp [cmdText, nums]
theorem cmd_inj {b b' : Bool} {x f h x' f' h' : Int} (e : cmdText b x f h = cmdText b' x' f' h') : b = b' ∧ x = x' ∧ f = f' ∧ h = h' := by
  rw [cmd_out, cmd_out] at e
  have hb : ∀ b : Bool, ∀ x ∈ cmdHead b, x ≠ 32 := by intro b; cases b <;> decide
  obtain ⟨e1, e⟩ := sep (hb b) (hb b') e
  obtain ⟨e2, e⟩ := sep (itoa_space x) (itoa_space x') e
  obtain ⟨e3, e4⟩ := sep (itoa_space f) (itoa_space f') e
  refine ⟨?_, itoa_inj e2, itoa_inj e3, itoa_inj e4⟩
  cases b <;> cases b' <;> first | rfl | exact absurd e1 (by decide)
theorem cmd_eq (b b' : Bool) (x f h x' f' h' : Int) : (cmdText b x f h == cmdText b' x' f' h') = ((b == b') && ((x == x') && ((f == f') && (h == h')))) := by
  rw [Bool.eq_iff_iff]
  simp only [beq_iff_eq, Bool.and_eq_true]
  constructor
  · exact cmd_inj
  · rintro ⟨rfl, rfl, rfl, rfl⟩; rfl
end Go.Proofs.YtopbhdpfakjkjaaDoor.Reply
