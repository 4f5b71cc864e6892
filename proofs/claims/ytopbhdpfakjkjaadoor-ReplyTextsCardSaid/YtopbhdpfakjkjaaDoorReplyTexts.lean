/- Proved: the walk of ReplyTexts: any answer as words, and back. -/
import Derived.Test.YtopbhdpfakjkjaaDoorReplyHead
import Derived.Test.YtopbhdpfakjkjaaDoorReplyText
namespace Go.Proofs.YtopbhdpfakjkjaaDoor.Reply
open Go.RowKit Go.Proofs.YtopbhdpfakjkjaaDoor.Histo Go.Proofs.YtopbhdpfakjkjaaDoor.Event Go.Proofs.YtopbhdpfakjkjaaDoor.Once
set_option linter.unusedVariables false
theorem ltext_eq (k b y r : Int) : ltext k b y r = text ⟨k, b, y, r⟩ := by
  cases hr : Ans.right ⟨k, b, y, r⟩ with
  | true =>
    rcases right_fields hr with h | h | h | h | h
    all_goals simp only at h
    · obtain ⟨rfl, rfl, rfl, rfl⟩ := h
      decide
    · obtain ⟨rfl, rfl, rfl, h1, h2⟩ := h
      have hr : r = 1 ∨ r = 2 ∨ r = 3 ∨ r = 4 ∨ r = 5 ∨ r = 6 := by omega
      rcases hr with rfl | rfl | rfl | rfl | rfl | rfl <;> decide
    · obtain ⟨rfl, h1, h2, rfl, rfl⟩ := h
      have ht : text ⟨2, b, 0, 0⟩ = kindB 2 ++ 32 :: Lib.itoa b := by unfold text; rw [if_neg (by rw [hr]; decide)]; rfl
      rw [ht]
      unfold ltext
      rw [if_neg (by simp [G1]), if_neg (by simp [G2]), if_pos (by simp [G3, h1, h2])]
      rfl
    · obtain ⟨rfl, h1, h2, rfl, rfl⟩ := h
      have ht : text ⟨3, b, 0, 0⟩ = kindB 3 ++ 32 :: Lib.itoa b := by unfold text; rw [if_neg (by rw [hr]; decide)]; rfl
      rw [ht]
      unfold ltext
      rw [if_neg (by simp [G1]), if_neg (by simp [G2]), if_neg (by simp [G3]), if_pos (by simp [G4, h1, h2])]
      rfl
    · obtain ⟨rfl, rfl, h1, h2, rfl⟩ := h
      have hy : y = 1 ∨ y = 2 ∨ y = 3 ∨ y = 4 := by omega
      rcases hy with rfl | rfl | rfl | rfl <;> decide
  | false =>
    have ht : text ⟨k, b, y, r⟩ = [] := text_nil.2 hr
    rw [ht]
    unfold Ans.right at hr
    simp at hr
    unfold ltext
    rw [if_neg, if_neg, if_neg, if_neg, if_neg]
    · simp [G5]; omega
    · simp [G4]; omega
    · simp [G3]; omega
    · simp [G2]; omega
    · simp [G1]; omega
theorem text_len (a : Ans) : (text a).length ≤ 40 := by
  cases hr : a.right with
  | false => rw [text_nil.2 hr]; simp
  | true =>
    have hk : (kindB a.kind).length ≤ 9 := by unfold kindB; (repeat' split) <;> decide
    have hy : (whyB a.why).length ≤ 8 := by unfold whyB; (repeat' split) <;> decide
    have hw := wordB_len a.err
    unfold text
    rw [if_neg (by rw [hr]; decide), List.length_append]
    split
    · rw [List.length_cons]; omega
    · split
      · rename_i h1 h2
        have hb : 0 ≤ a.box ∧ a.box ≤ 2147483647 := by
          rcases right_fields hr with h | h | h | h | h <;> omega
        have := itoa_len a.box (by omega) (by omega)
        rw [List.length_cons]; omega
      · split
        · rw [List.length_cons]; omega
        · simp; omega
set_option maxHeartbeats 4000000 in
set_option maxRecDepth 100000 in
theorem texts_any (k b y r : Int) (w : World) (hG : GW w) : Calls Tryd.prog 3 #[.agg #[.int .i64 k, .int .i64 b, .int .i64 y, .int .i64 r]] w (RetB1 true w) := by
  have HG := Lib.hid hG
  obtain ⟨l, hl⟩ : ∃ l, l = text ⟨k, b, y, r⟩ := ⟨_, rfl⟩
  have HL := Lib.hid hl
  clear hG hl
  go_enter Tryd.func3, Tryd.ntmps3
  go_wp2_with fail
  have hb0 := (Below.refl w.heap.size w).alloc (Nat.le_refl _) (.cells #[.int .i64 k, .int .i64 b, .int .i64 y, .int .i64 r] 26)
  have hx0 := Blk.new w 26 #[.int .i64 k, .int .i64 b, .int .i64 y, .int .i64 r]
  obtain ⟨g, hg⟩ : ∃ g, g = w.heap.size := ⟨_, rfl⟩
  rw [← hg] at hx0
  rw [← hg]
  generalize w.alloc _ = W at hb0 hx0 ⊢
  have HB := Lib.hid hb0
  have HX := Lib.hid hx0
  clear hb0 hx0 hg
  refine (head_any W (HG.out.below HB.out)).mono ?_
  rintro e1 w1 ⟨rfl, h1⟩
  have HX1 := Lib.hid (HX.out.below h1 HX.out.lt)
  have HB1 := Lib.hid (HB.out.trans (h1.mono HB.out.size))
  clear h1 HX HB
  have x0 : w1.cell? ⟨g, 0, none⟩ = some (.int .i64 k) := HX1.out.cell 0
  have x1 : w1.cell? ⟨g, 1, none⟩ = some (.int .i64 b) := HX1.out.cell 1
  have x2 : w1.cell? ⟨g, 2, none⟩ = some (.int .i64 y) := HX1.out.cell 2
  have x3 : w1.cell? ⟨g, 3, none⟩ = some (.int .i64 r) := HX1.out.cell 3
  go_wp2_with fail
  refine (ltext_any k b y r w1 (HG.out.below HB1.out)).mono ?_
  rintro e2 w2 ⟨rfl, h2⟩
  rw [ltext_eq, ← HL.out]
  have HX2 := Lib.hid (HX1.out.below h2 HX1.out.lt)
  have HB2 := Lib.hid (HB1.out.trans (h2.mono HB1.out.size))
  clear h2 HX1 HB1 x0 x1 x2 x3
  have x0 : w2.cell? ⟨g, 0, none⟩ = some (.int .i64 k) := HX2.out.cell 0
  have x1 : w2.cell? ⟨g, 1, none⟩ = some (.int .i64 b) := HX2.out.cell 1
  have x2 : w2.cell? ⟨g, 2, none⟩ = some (.int .i64 y) := HX2.out.cell 2
  have x3 : w2.cell? ⟨g, 3, none⟩ = some (.int .i64 r) := HX2.out.cell 3
  go_wp2_with fail
  refine (string_any k b y r w2 (HG.out.below HB2.out)).mono ?_
  rintro e3 w3 ⟨rfl, h3⟩
  rw [← HL.out]
  have HX3 := Lib.hid (HX2.out.below h3 HX2.out.lt)
  have HB3 := Lib.hid (HB2.out.trans (h3.mono HB2.out.size))
  clear h3 HX2 HB2 x0 x1 x2 x3
  have x0 : w3.cell? ⟨g, 0, none⟩ = some (.int .i64 k) := HX3.out.cell 0
  have x1 : w3.cell? ⟨g, 1, none⟩ = some (.int .i64 b) := HX3.out.cell 1
  have x2 : w3.cell? ⟨g, 2, none⟩ = some (.int .i64 y) := HX3.out.cell 2
  have x3 : w3.cell? ⟨g, 3, none⟩ = some (.int .i64 r) := HX3.out.cell 3
  go_wp2_with fail
  refine (aright_any ⟨k, b, y, r⟩ w3).mono ?_
  rintro e4 w4 ⟨rfl, h4⟩
  have HX4 := Lib.hid (HX3.out.below h4 HX3.out.lt)
  have HB4 := Lib.hid (HB3.out.trans (h4.mono HB3.out.size))
  clear h4 HX3 HB3 x0 x1 x2 x3
  have hlen : l.length < 4294967281 := by have := text_len ⟨k, b, y, r⟩; rw [← HL.out] at this; omega
  have hp : Calls Tryd.prog 11 #[.string ⟨l.toArray⟩] w4 (ParseQ l w4) := parse_q ⟨l.toArray⟩ w4 (HG.out.below HB4.out) (by show l.toArray.size < _; simpa using hlen)
  have HP := Lib.hid hp
  clear hp hlen
  cases l with
  | nil =>
    have hr : Ans.right ⟨k, b, y, r⟩ = false := text_nil.1 HL.out.symm
    rw [hr]
    clear hr
    go_wp2_with fail
    refine HP.out.mono ?_
    rintro e5 w5 ⟨hb5, ⟨a, ha, ht, rfl⟩ | ⟨hn, rfl⟩⟩
    · exfalso
      rw [text_nil.1 ht] at ha
      cases ha
    have HB5 := Lib.hid (HB4.out.trans (hb5.mono HB4.out.size))
    clear hb5 hn
    unfold Ans.val4
    simp only
    go_wp2
    try go_region
    all_goals go_wp2
    all_goals
      go_ret
      exact RetB1.mk (by first | rfl | simp) (by first | exact (HB5.out.alloc HB5.out.size _) | exact (HB5.out.alloc HB5.out.size _).drew)
  | cons c m =>
    have hr : Ans.right ⟨k, b, y, r⟩ = true := by
      cases hr : Ans.right ⟨k, b, y, r⟩ with
      | true => rfl
      | false => have h := HL.out; rw [text_nil.2 hr] at h; cases h
    have HR := Lib.hid hr
    rw [hr]
    clear hr
    go_wp2_with fail
    refine HP.out.mono ?_
    rintro e5 w5 ⟨hb5, ⟨a, ha, ht, rfl⟩ | ⟨hn, rfl⟩⟩
    rotate_left
    · exact absurd HL.out.symm (hn _ HR.out)
    obtain rfl : a = ⟨k, b, y, r⟩ := text_inj ha HR.out (ht.trans HL.out)
    have HB5 := Lib.hid (HB4.out.trans (hb5.mono HB4.out.size))
    have HX5 := Lib.hid (HX4.out.below hb5 HX4.out.lt)
    clear hb5 ha ht
    unfold Ans.val4
    simp only
    have z0 : (w5.alloc (.cells #[.int .i64 k, .int .i64 b, .int .i64 y, .int .i64 r] 26)).cell? ⟨g, 0, none⟩ = some (.int .i64 k) := (HX5.out.alloc _).cell 0
    have z1 : (w5.alloc (.cells #[.int .i64 k, .int .i64 b, .int .i64 y, .int .i64 r] 26)).cell? ⟨g, 1, none⟩ = some (.int .i64 b) := (HX5.out.alloc _).cell 1
    have z2 : (w5.alloc (.cells #[.int .i64 k, .int .i64 b, .int .i64 y, .int .i64 r] 26)).cell? ⟨g, 2, none⟩ = some (.int .i64 y) := (HX5.out.alloc _).cell 2
    have z3 : (w5.alloc (.cells #[.int .i64 k, .int .i64 b, .int .i64 y, .int .i64 r] 26)).cell? ⟨g, 3, none⟩ = some (.int .i64 r) := (HX5.out.alloc _).cell 3
    go_wp2
    try go_region
    all_goals go_wp2
    all_goals
      go_ret
      exact RetB1.mk (by first | rfl | simp) (by first | exact (HB5.out.alloc HB5.out.size _) | exact (HB5.out.alloc HB5.out.size _).drew)
end Go.Proofs.YtopbhdpfakjkjaaDoor.Reply
