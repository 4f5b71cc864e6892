/- Proved: an answer's words tell the answer: in plain Lean, no program in sight. -/
import Derived.Test.YtopbhdpfakjkjaaDoorReplyParse
namespace Go.Proofs.YtopbhdpfakjkjaaDoor.Reply
open Go.RowKit Go.Proofs.YtopbhdpfakjkjaaDoor.Histo Go.Proofs.YtopbhdpfakjkjaaDoor.Event Go.Proofs.YtopbhdpfakjkjaaDoor.Once
set_option linter.unusedVariables false
/-! ### cutting at the first space -/
theorem index_none : ∀ p : List UInt8, (∀ x ∈ p, x ≠ 32) → Lib.index p [32] = -1
  | [], _ => rfl
  | c :: p, h => by
    have hc : c ≠ 32 := h c List.mem_cons_self
    have ih := index_none p fun x hx => h x (List.mem_cons_of_mem _ hx)
    have hp : List.isPrefixOf [32] (c :: p) = false := by simp [List.isPrefixOf]; exact fun e => hc e.symm
    unfold Lib.index
    rw [hp, ih]; rfl
theorem index_at : ∀ (p q : List UInt8), (∀ x ∈ p, x ≠ 32) → Lib.index (p ++ 32 :: q) [32] = p.length
  | [], q, _ => by
    show Lib.index (32 :: q) [32] = 0
    unfold Lib.index
    rw [if_pos (by simp [List.isPrefixOf])]
  | c :: p, q, h => by
    have hc : c ≠ 32 := h c List.mem_cons_self
    have ih := index_at p q fun x hx => h x (List.mem_cons_of_mem _ hx)
    have hp : List.isPrefixOf [32] (c :: (p ++ 32 :: q)) = false := by simp [List.isPrefixOf]; exact fun e => hc e.symm
    show Lib.index (c :: (p ++ 32 :: q)) [32] = _
    unfold Lib.index
    rw [hp, ih, if_neg (by simp), if_neg (by simp), List.length_cons]
    omega
theorem cut_at (p q : List UInt8) (h : ∀ x ∈ p, x ≠ 32) : (Lib.cut (p ++ 32 :: q) [32]).1 = p ∧ (Lib.cut (p ++ 32 :: q) [32]).2.1 = q := by
  unfold Lib.cut
  rw [index_at p q h, if_pos (by omega)]
  constructor
  · simp
  · show List.drop ((p.length : Int).toNat + [32].length) (p ++ 32 :: q) = q
    rw [Int.toNat_natCast, show p.length + [(32 : UInt8)].length = p.length + 1 from rfl, List.drop_append]
    simp
theorem cut_none (p : List UInt8) (h : ∀ x ∈ p, x ≠ 32) : (Lib.cut p [32]).1 = p ∧ (Lib.cut p [32]).2.1 = [] := by
  unfold Lib.cut
  rw [index_none p h, if_neg (by omega)]
  exact ⟨rfl, rfl⟩
/-! ### a numeral read again -/
theorem parse_app : ∀ (l r : List UInt8) (acc : Nat), Lib.parseUint10 acc (l ++ r) = match Lib.parseUint10 acc l with | .ok a => Lib.parseUint10 a r | Lib.NumEnd.syntax => Lib.NumEnd.syntax | .range => .range
  | [], r, acc => by simp [Lib.parseUint10]
  | c :: l, r, acc => by
    simp only [List.cons_append, Lib.parseUint10]
    split
    · split
      · rfl
      · split
        · rfl
        · exact parse_app l r _
    · rfl
theorem dig_nat {d : Nat} (h : d < 10) : (UInt8.ofNat (48 + d)).toNat = 48 + d := by
  rw [UInt8.toNat_ofNat']; omega
theorem dec_parse : ∀ (u : Nat), u < 9223372036854775808 → Lib.parseUint10 0 (Lib.decDigits u) = .ok u := by
  intro u
  induction u using Nat.strongRecOn with
  | ind u ih =>
    intro hu
    by_cases hs : u < 10
    · rw [Lib.decDigits_one hs]
      simp only [Lib.parseUint10, dig_nat hs]
      rw [if_pos (by omega), if_neg (by omega), if_neg (by omega)]
      congr 1; omega
    · have h10 := ih (u / 10) (by omega) (by omega)
      have hd : Lib.decDigits u = Lib.decDigits (u / 10) ++ [UInt8.ofNat (48 + u % 10)] := by
        conv => lhs; rw [Lib.decDigits]
        rw [dif_neg hs]
      rw [hd, parse_app, h10]
      simp only [Lib.parseUint10, dig_nat (show u % 10 < 10 by omega)]
      rw [if_pos (by omega), if_neg (by omega), if_neg (by omega)]
      congr 1; omega
theorem dec_digit : ∀ (u : Nat), ∀ x ∈ Lib.decDigits u, 48 ≤ x.toNat ∧ x.toNat ≤ 57 := by
  intro u
  induction u using Nat.strongRecOn with
  | ind u ih =>
    intro x hx
    by_cases hs : u < 10
    · rw [Lib.decDigits_one hs, List.mem_singleton] at hx
      subst hx
      rw [dig_nat hs]; omega
    · have hd : Lib.decDigits u = Lib.decDigits (u / 10) ++ [UInt8.ofNat (48 + u % 10)] := by
        conv => lhs; rw [Lib.decDigits]
        rw [dif_neg hs]
      rw [hd, List.mem_append, List.mem_singleton] at hx
      rcases hx with hx | hx
      · exact ih (u / 10) (by omega) x hx
      · subst hx; rw [dig_nat (by omega)]; omega
theorem dec_ne (u : Nat) : Lib.decDigits u ≠ [] := by
  intro h
  have := Lib.decDigits_length u
  rw [h] at this
  have := Lib.nDigits_pos u
  simp at *
  omega
theorem itoa_nat {v : Int} (h : 0 ≤ v) : Lib.itoa v = Lib.decDigits v.toNat := by unfold Lib.itoa; rw [if_neg (by omega)]
theorem numOf_itoa {v : Int} (h0 : 0 ≤ v) (h1 : v ≤ 2147483647) : numOf (Lib.itoa v) = some v := by
  have hp := dec_parse v.toNat (by omega)
  have hat : Lib.atoiAll (Lib.itoa v) = .ok v := by
    rw [itoa_nat h0]
    cases hl : Lib.decDigits v.toNat with
    | nil => exact absurd hl (dec_ne _)
    | cons c r =>
      have hc := dec_digit v.toNat c (by rw [hl]; exact List.mem_cons_self)
      unfold Lib.atoiAll
      simp only
      rw [if_neg (by omega)]
      unfold Lib.parseMag
      rw [if_neg (by simp), ← hl, hp]
      simp only
      have : ¬ c.toNat = 45 := by omega
      simp only [this, not_false_eq_true, true_and, false_and, if_false]
      rw [if_neg (by omega)]
      congr 1; omega
  unfold numOf
  rw [hat]
  simp [h0, h1]
/-! ### answers -/
theorem kindB_inj {a b : Nat} (ha : a < 5) (hb : b < 5) (h : kindB (a : Int) = kindB (b : Int)) : a = b := by
  match a, b, ha, hb with
  | 0, 0, _, _ | 1, 1, _, _ | 2, 2, _, _ | 3, 3, _, _ | 4, 4, _, _ => rfl
  | 0, 1, _, _ | 0, 2, _, _ | 0, 3, _, _ | 0, 4, _, _ | 1, 0, _, _ | 1, 2, _, _ | 1, 3, _, _ | 1, 4, _, _ | 2, 0, _, _ | 2, 1, _, _ | 2, 3, _, _ | 2, 4, _, _ | 3, 0, _, _ | 3, 1, _, _ | 3, 2, _, _ | 3, 4, _, _ | 4, 0, _, _ | 4, 1, _, _ | 4, 2, _, _ | 4, 3, _, _ => exact absurd h (by decide)
theorem kindB_space (k : Int) : ∀ x ∈ kindB k, x ≠ 32 := by
  unfold kindB
  repeat' split
  all_goals decide
theorem right_fields {a : Ans} (h : a.right = true) : (a.kind = 0 ∧ a.box = 0 ∧ a.why = 0 ∧ a.err = 0) ∨ (a.kind = 1 ∧ a.box = 0 ∧ a.why = 0 ∧ 1 ≤ a.err ∧ a.err ≤ 6) ∨ (a.kind = 2 ∧ 1 ≤ a.box ∧ a.box ≤ 2147483647 ∧ a.why = 0 ∧ a.err = 0) ∨ (a.kind = 3 ∧ 1 ≤ a.box ∧ a.box ≤ 2147483647 ∧ a.why = 0 ∧ a.err = 0) ∨ (a.kind = 4 ∧ a.box = 0 ∧ 1 ≤ a.why ∧ a.why ≤ 4 ∧ a.err = 0) := by
  have hp := aright_parts h
  unfold Ans.right at h
  simp only [Bool.or_eq_true, Bool.and_eq_true, beq_iff_eq, decide_eq_true_eq] at h
  have e1 : a.kind = 1 ∨ a.err = 0 := by omega
  have e2 : a.kind = 2 ∨ a.kind = 3 ∨ a.box = 0 := by omega
  have e3 : a.kind = 4 ∨ a.why = 0 := by omega
  clear h
  rcases hp with h | h | h | h | h
  · exact .inl (by omega)
  · exact .inr (.inl (by omega))
  · exact .inr (.inr (.inl (by omega)))
  · exact .inr (.inr (.inr (.inl (by omega))))
  · exact .inr (.inr (.inr (.inr (by omega))))
/-- What an answer's words tell is the answer. -/
theorem text_back {a : Ans} (h : a.right = true) : ∃ k : Nat, k < 5 ∧ a.kind = k ∧ (Lib.cut (text a) [32]).1 = kindB a.kind ∧ build k (Lib.cut (text a) [32]).2.1 = a := by
  obtain ⟨k, b, y, r⟩ := a
  have ht : text ⟨k, b, y, r⟩ = kindB k ++ (if k = 1 then 32 :: wordB r else if k = 2 ∨ k = 3 then 32 :: Lib.itoa b else if k = 4 then 32 :: whyB y else []) := by
    unfold text; rw [if_neg (by rw [h]; decide)]
  rw [ht]
  rcases right_fields h with h | h | h | h | h
  all_goals simp only at h
  · obtain ⟨rfl, rfl, rfl, rfl⟩ := h
    refine ⟨0, by omega, rfl, ?_, ?_⟩
    · rw [if_neg (by omega), if_neg (by omega), if_neg (by omega), List.append_nil, (cut_none _ (kindB_space 0)).1]
    · rw [if_neg (by omega), if_neg (by omega), if_neg (by omega), List.append_nil, (cut_none _ (kindB_space 0)).2]; rfl
  · obtain ⟨rfl, rfl, rfl, h1, h2⟩ := h
    refine ⟨1, by omega, rfl, ?_, ?_⟩
    · rw [if_pos rfl, (cut_at _ _ (kindB_space 1)).1]
    · rw [if_pos rfl, (cut_at _ _ (kindB_space 1)).2]
      have hr : r = 1 ∨ r = 2 ∨ r = 3 ∨ r = 4 ∨ r = 5 ∨ r = 6 := by omega
      rcases hr with rfl | rfl | rfl | rfl | rfl | rfl <;> rfl
  · obtain ⟨rfl, h1, h2, rfl, rfl⟩ := h
    refine ⟨2, by omega, rfl, ?_, ?_⟩
    · rw [if_neg (by omega), if_pos (.inl rfl), (cut_at _ _ (kindB_space 2)).1]
    · rw [if_neg (by omega), if_pos (.inl rfl), (cut_at _ _ (kindB_space 2)).2]
      unfold build
      rw [numOf_itoa (by omega) h2]; rfl
  · obtain ⟨rfl, h1, h2, rfl, rfl⟩ := h
    refine ⟨3, by omega, rfl, ?_, ?_⟩
    · rw [if_neg (by omega), if_pos (.inr rfl), (cut_at _ _ (kindB_space 3)).1]
    · rw [if_neg (by omega), if_pos (.inr rfl), (cut_at _ _ (kindB_space 3)).2]
      unfold build
      rw [numOf_itoa (by omega) h2]; rfl
  · obtain ⟨rfl, rfl, h1, h2, rfl⟩ := h
    refine ⟨4, by omega, rfl, ?_, ?_⟩
    · rw [if_neg (by omega), if_neg (by omega), if_pos rfl, (cut_at _ _ (kindB_space 4)).1]
    · rw [if_neg (by omega), if_neg (by omega), if_pos rfl, (cut_at _ _ (kindB_space 4)).2]
      have hy : y = 1 ∨ y = 2 ∨ y = 3 ∨ y = 4 := by omega
      rcases hy with rfl | rfl | rfl | rfl <;> rfl
theorem text_inj {a b : Ans} (ha : a.right = true) (hb : b.right = true) (h : text a = text b) : a = b := by
  obtain ⟨k, hk, ka, wa, ba⟩ := text_back ha
  obtain ⟨m, hm, kb, wb, bb⟩ := text_back hb
  rw [h] at wa ba
  have hkm : k = m := kindB_inj hk hm (by rw [← ka, ← kb, ← wa, ← wb])
  subst hkm
  exact ba.symm.trans bb
theorem text_nil {a : Ans} : text a = [] ↔ a.right = false := by
  unfold text
  constructor
  · intro h
    cases hr : a.right with
    | false => rfl
    | true =>
      rw [if_neg (by rw [hr]; decide)] at h
      have hk := (List.append_eq_nil_iff.1 h).1
      rcases right_fields hr with h' | h' | h' | h' | h' <;> rw [h'.1] at hk <;> exact absurd hk (by decide)
  · intro h; rw [if_pos h]
end Go.Proofs.YtopbhdpfakjkjaaDoor.Reply
