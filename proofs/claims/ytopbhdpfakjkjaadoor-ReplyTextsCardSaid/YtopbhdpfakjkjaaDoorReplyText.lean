/- Proved: what greenhouselaw17.Text computes. -/
import Derived.Test.YtopbhdpfakjkjaaDoorReplyFns
import Derived.Deep.DeepCutAuto
import Derived.Deep.CutBlock
namespace Go.Proofs.YtopbhdpfakjkjaaDoor.Reply
open Go.RowKit Go.Proofs.YtopbhdpfakjkjaaDoor.Histo Go.Proofs.YtopbhdpfakjkjaaDoor.Event Go.Proofs.YtopbhdpfakjkjaaDoor.Once
set_option linter.unusedVariables false
def G1 (k b y r : Int) : Bool := (k == 0) && ((b == 0) && ((y == 0) && (r == 0)))
def G2 (k b y r : Int) : Bool := (k == 1) && ((b == 0) && ((y == 0) && (decide (1 ≤ r) && decide (r ≤ 6))))
def G3 (k b y r : Int) : Bool := (decide (1 ≤ b) && decide (b ≤ 2147483647)) && ((k == 2) && ((y == 0) && (r == 0)))
def G4 (k b y r : Int) : Bool := (decide (1 ≤ b) && decide (b ≤ 2147483647)) && ((k == 3) && ((y == 0) && (r == 0)))
def G5 (k b y r : Int) : Bool := (decide (1 ≤ y) && decide (y ≤ 4)) && ((k == 4) && ((b == 0) && (r == 0)))
def ltext (k b y r : Int) : List UInt8 := if G1 k b y r = true then [111, 107] else if G2 k b y r = true then [114, 101, 102, 117, 115, 101, 100, 32] ++ wordB r else if G3 k b y r = true then [119, 97, 114, 109, 32] ++ Lib.itoa b else if G4 k b y r = true then [99, 111, 108, 100, 32] ++ Lib.itoa b else if G5 k b y r = true then [116, 104, 114, 111, 116, 116, 108, 101, 100, 32] ++ whyB y else []
theorem five0 (a a' b b' c c' d d' : Int) : (a == a') = false ∨ ((a == a') = true ∧ (b == b') = false) ∨ ((a == a') = true ∧ (b == b') = true ∧ (c == c') = false) ∨ ((a == a') = true ∧ (b == b') = true ∧ (c == c') = true ∧ (d == d') = false) ∨ ((a == a') = true ∧ (b == b') = true ∧ (c == c') = true ∧ (d == d') = true) := by
  cases (a == a') <;> cases (b == b') <;> cases (c == c') <;> cases (d == d') <;> simp
theorem four0 (a a' b b' c c' : Int) : (a == a') = false ∨ ((a == a') = true ∧ (b == b') = false) ∨ ((a == a') = true ∧ (b == b') = true ∧ (c == c') = false) ∨ ((a == a') = true ∧ (b == b') = true ∧ (c == c') = true) := by
  cases (a == a') <;> cases (b == b') <;> cases (c == c') <;> simp
theorem three0 (p q : Prop) [Decidable p] [Decidable q] : decide p = false ∨ (decide p = true ∧ decide q = false) ∨ (decide p = true ∧ decide q = true) := by
  by_cases p <;> by_cases q <;> simp [*]
theorem tapp (p y : List UInt8) : (⟨p.toArray⟩ : ByteArray) ++ ⟨y.toArray⟩ = ⟨(p ++ y).toArray⟩ := by apply ByteArray.ext; simp [ByteArray.data_append]
set_option maxHeartbeats 4000000 in
set_option maxRecDepth 100000 in
theorem ltext_any (k b y r : Int) (w : World) (hG : GW w) : Calls Tryd.prog 8 #[.agg #[.int .i64 k, .int .i64 b, .int .i64 y, .int .i64 r]] w (RetS (ltext k b y r) w) := by
  have HG := Lib.hid hG
  obtain ⟨l, hl⟩ : ∃ l, l = ltext k b y r := ⟨_, rfl⟩
  rw [← hl]
  have HL := Lib.hid hl
  clear hG hl
  obtain ⟨g1, hg1⟩ : ∃ x, x = G1 k b y r := ⟨_, rfl⟩
  have H1 := Lib.hid hg1
  clear hg1
  obtain ⟨g2, hg2⟩ : ∃ x, x = G2 k b y r := ⟨_, rfl⟩
  have H2 := Lib.hid hg2
  clear hg2
  obtain ⟨g3, hg3⟩ : ∃ x, x = G3 k b y r := ⟨_, rfl⟩
  have H3 := Lib.hid hg3
  clear hg3
  obtain ⟨g4, hg4⟩ : ∃ x, x = G4 k b y r := ⟨_, rfl⟩
  have H4 := Lib.hid hg4
  clear hg4
  obtain ⟨g5, hg5⟩ : ∃ x, x = G5 k b y r := ⟨_, rfl⟩
  have H5 := Lib.hid hg5
  clear hg5
  go_enter Tryd.func8, Tryd.ntmps8
  go_upto_block 0 with fail
  have hb0 := (Below.refl w.heap.size w).alloc (Nat.le_refl _) (.cells #[.int .i64 k, .int .i64 b, .int .i64 y, .int .i64 r] 26)
  have hc0 := Blk.new w 26 #[.int .i64 k, .int .i64 b, .int .i64 y, .int .i64 r]
  obtain ⟨g, hg⟩ : ∃ g, g = w.heap.size := ⟨_, rfl⟩
  rw [← hg] at hc0
  rw [← hg]
  generalize w.alloc _ = W0 at hb0 hc0 ⊢
  have HB0 := Lib.hid hb0
  have HC0 := Lib.hid hc0
  clear hb0 hc0 hg
  have c00 : W0.cell? ⟨g, 0, none⟩ = some (.int .i64 k) := HC0.out.cell 0
  have c01 : W0.cell? ⟨g, 1, none⟩ = some (.int .i64 b) := HC0.out.cell 1
  have c02 : W0.cell? ⟨g, 2, none⟩ = some (.int .i64 y) := HC0.out.cell 2
  have c03 : W0.cell? ⟨g, 3, none⟩ = some (.int .i64 r) := HC0.out.cell 3
  go_upto_region 1 with fail
  go_cut [3] (fun v wx => v = .bool g1 ∧ Below w.heap.size w wx ∧ Blk wx g 26 #[.int .i64 k, .int .i64 b, .int .i64 y, .int .i64 r])
  case first =>
    rcases five0 k 0 b 0 y 0 r 0 with q0 | ⟨q0, q1⟩ | ⟨q0, q1, q2⟩ | ⟨q0, q1, q2, q3⟩ | ⟨q0, q1, q2, q3⟩
    all_goals
      go_wp2_with fail
      try go_region
      go_wp2_with fail
    all_goals
      go_meet
      refine ⟨?_, HB0.out, HC0.out⟩
      rw [H1.out]
      simp [G1, *]
  obtain ⟨rfl, hbx, hcx⟩ := hcut
  rename World => W1
  have HB1 := Lib.hid hbx
  have HC1 := Lib.hid hcx
  clear hbx hcx c00 c01 c02 c03
  cases g1 with
  | true =>
    have c10 : W1.cell? ⟨g, 0, none⟩ = some (.int .i64 k) := HC1.out.cell 0
    have c11 : W1.cell? ⟨g, 1, none⟩ = some (.int .i64 b) := HC1.out.cell 1
    have c12 : W1.cell? ⟨g, 2, none⟩ = some (.int .i64 y) := HC1.out.cell 2
    have c13 : W1.cell? ⟨g, 3, none⟩ = some (.int .i64 r) := HC1.out.cell 3
    have HT := Lib.hid (show l = [111, 107] by rw [HL.out]; unfold ltext; rw [if_pos H1.out.symm])
    go_wp2
    go_ret
    exact RetS.mk (by rw [HT.out]) HB1.out
  | false =>
  have c10 : W1.cell? ⟨g, 0, none⟩ = some (.int .i64 k) := HC1.out.cell 0
  have c11 : W1.cell? ⟨g, 1, none⟩ = some (.int .i64 b) := HC1.out.cell 1
  have c12 : W1.cell? ⟨g, 2, none⟩ = some (.int .i64 y) := HC1.out.cell 2
  have c13 : W1.cell? ⟨g, 3, none⟩ = some (.int .i64 r) := HC1.out.cell 3
  go_upto_region 3 with fail
  go_cut [7] (fun v wx => v = .bool g2 ∧ Below w.heap.size w wx ∧ Blk wx g 26 #[.int .i64 k, .int .i64 b, .int .i64 y, .int .i64 r])
  case first =>
    have rr : (r == r) = true := by simp
    rcases four0 k 1 b 0 y 0 with q0 | ⟨q0, q1⟩ | ⟨q0, q1, q2⟩ | ⟨q0, q1, q2⟩
    rotate_right
    rcases three0 (1 ≤ r) (r ≤ 6) with d0 | ⟨d0, d1⟩ | ⟨d0, d1⟩
    all_goals
      go_wp2_with fail
      try go_region
      go_wp2_with fail
    all_goals
      go_meet
      refine ⟨?_, HB1.out, HC1.out⟩
      rw [H2.out]
      simp [G2, *]
  obtain ⟨rfl, hbx, hcx⟩ := hcut
  rename World => W2
  have HB2 := Lib.hid hbx
  have HC2 := Lib.hid hcx
  clear hbx hcx c10 c11 c12 c13
  cases g2 with
  | true =>
    have c20 : W2.cell? ⟨g, 0, none⟩ = some (.int .i64 k) := HC2.out.cell 0
    have c21 : W2.cell? ⟨g, 1, none⟩ = some (.int .i64 b) := HC2.out.cell 1
    have c22 : W2.cell? ⟨g, 2, none⟩ = some (.int .i64 y) := HC2.out.cell 2
    have c23 : W2.cell? ⟨g, 3, none⟩ = some (.int .i64 r) := HC2.out.cell 3
    have HT := Lib.hid (show l = [114, 101, 102, 117, 115, 101, 100, 32] ++ wordB r by rw [HL.out]; unfold ltext; rw [if_neg (by rw [← H1.out]; decide), if_pos H2.out.symm])
    have hr : r = 1 ∨ r = 2 ∨ r = 3 ∨ r = 4 ∨ r = 5 ∨ r = 6 := by have h := H2.out; unfold G2 at h; simp at h; omega
    have x2 : (W2.alloc (.cells #[.string ⟨#[111, 107]⟩, .string ⟨#[97, 114, 103]⟩, .string ⟨#[110, 111, 110, 101]⟩, .string ⟨#[115, 116, 97, 116, 101]⟩, .string ⟨#[113, 117, 111, 116, 97]⟩, .string ⟨#[102, 111, 114, 109]⟩, .string ⟨#[109, 97, 110, 121]⟩] 9)).cell? ⟨g, 3, none⟩ = some (.int .i64 r) := (HC2.out.alloc _).cell 3
    rcases hr with rfl | rfl | rfl | rfl | rfl | rfl
    all_goals
      go_wp2
      go_ret
      exact RetS.mk (by rw [HT.out]; rfl) (HB2.out.alloc HB2.out.size _)
  | false =>
  have c20 : W2.cell? ⟨g, 0, none⟩ = some (.int .i64 k) := HC2.out.cell 0
  have c21 : W2.cell? ⟨g, 1, none⟩ = some (.int .i64 b) := HC2.out.cell 1
  have c22 : W2.cell? ⟨g, 2, none⟩ = some (.int .i64 y) := HC2.out.cell 2
  have c23 : W2.cell? ⟨g, 3, none⟩ = some (.int .i64 r) := HC2.out.cell 3
  go_upto_region 5 with fail
  go_cut [34] (fun v wx => v = .bool g3 ∧ Below w.heap.size w wx ∧ Blk wx g 26 #[.int .i64 k, .int .i64 b, .int .i64 y, .int .i64 r])
  case first =>
    have rr : (b == b) = true := by simp
    rcases three0 (1 ≤ b) (b ≤ 2147483647) with d0 | ⟨d0, d1⟩ | ⟨d0, d1⟩
    rotate_right
    rcases four0 k 2 y 0 r 0 with q0 | ⟨q0, q1⟩ | ⟨q0, q1, q2⟩ | ⟨q0, q1, q2⟩
    all_goals
      go_wp2_with fail
      try go_region
      go_wp2_with fail
    all_goals
      go_meet
      refine ⟨?_, HB2.out, HC2.out⟩
      rw [H3.out]
      simp [G3, *]
  obtain ⟨rfl, hbx, hcx⟩ := hcut
  rename World => W3
  have HB3 := Lib.hid hbx
  have HC3 := Lib.hid hcx
  clear hbx hcx c20 c21 c22 c23
  cases g3 with
  | true =>
    have c30 : W3.cell? ⟨g, 0, none⟩ = some (.int .i64 k) := HC3.out.cell 0
    have c31 : W3.cell? ⟨g, 1, none⟩ = some (.int .i64 b) := HC3.out.cell 1
    have c32 : W3.cell? ⟨g, 2, none⟩ = some (.int .i64 y) := HC3.out.cell 2
    have c33 : W3.cell? ⟨g, 3, none⟩ = some (.int .i64 r) := HC3.out.cell 3
    have HT := Lib.hid (show l = [119, 97, 114, 109, 32] ++ Lib.itoa b by rw [HL.out]; unfold ltext; rw [if_neg (by rw [← H1.out]; decide), if_neg (by rw [← H2.out]; decide), if_pos H3.out.symm])
    have HH := Lib.hid (show 1 ≤ b ∧ b ≤ 2147483647 by have h := H3.out; unfold G3 at h; simp at h; exact h.1)
    have n0 := itoa_len b (by have := HH.out.1; omega) (by have := HH.out.2; omega)
    have n1 : ¬ 9223372036854775807 < 5 + (Lib.itoa b).length := by omega
    clear n0
    go_wp2_with fail
    refine (itoa_any b _ (by have := HH.out.1; omega) (by have := HH.out.2; omega) (HG.out.below HB3.out)).mono ?_
    rintro e5 w5 ⟨rfl, hb5⟩
    have HB5 := Lib.hid (HB3.out.trans (hb5.mono HB3.out.size))
    clear hb5
    go_wp2
    go_ret
    exact RetS.mk (by rw [HT.out]; exact tapp [119, 97, 114, 109, 32] _) HB5.out
  | false =>
  have c30 : W3.cell? ⟨g, 0, none⟩ = some (.int .i64 k) := HC3.out.cell 0
  have c31 : W3.cell? ⟨g, 1, none⟩ = some (.int .i64 b) := HC3.out.cell 1
  have c32 : W3.cell? ⟨g, 2, none⟩ = some (.int .i64 y) := HC3.out.cell 2
  have c33 : W3.cell? ⟨g, 3, none⟩ = some (.int .i64 r) := HC3.out.cell 3
  go_upto_region 7 with fail
  go_cut [54] (fun v wx => v = .bool g4 ∧ Below w.heap.size w wx ∧ Blk wx g 26 #[.int .i64 k, .int .i64 b, .int .i64 y, .int .i64 r])
  case first =>
    have rr : (b == b) = true := by simp
    rcases three0 (1 ≤ b) (b ≤ 2147483647) with d0 | ⟨d0, d1⟩ | ⟨d0, d1⟩
    rotate_right
    rcases four0 k 3 y 0 r 0 with q0 | ⟨q0, q1⟩ | ⟨q0, q1, q2⟩ | ⟨q0, q1, q2⟩
    all_goals
      go_wp2_with fail
      try go_region
      go_wp2_with fail
    all_goals
      go_meet
      refine ⟨?_, HB3.out, HC3.out⟩
      rw [H4.out]
      simp [G4, *]
  obtain ⟨rfl, hbx, hcx⟩ := hcut
  rename World => W4
  have HB4 := Lib.hid hbx
  have HC4 := Lib.hid hcx
  clear hbx hcx c30 c31 c32 c33
  cases g4 with
  | true =>
    have c40 : W4.cell? ⟨g, 0, none⟩ = some (.int .i64 k) := HC4.out.cell 0
    have c41 : W4.cell? ⟨g, 1, none⟩ = some (.int .i64 b) := HC4.out.cell 1
    have c42 : W4.cell? ⟨g, 2, none⟩ = some (.int .i64 y) := HC4.out.cell 2
    have c43 : W4.cell? ⟨g, 3, none⟩ = some (.int .i64 r) := HC4.out.cell 3
    have HT := Lib.hid (show l = [99, 111, 108, 100, 32] ++ Lib.itoa b by rw [HL.out]; unfold ltext; rw [if_neg (by rw [← H1.out]; decide), if_neg (by rw [← H2.out]; decide), if_neg (by rw [← H3.out]; decide), if_pos H4.out.symm])
    have HH := Lib.hid (show 1 ≤ b ∧ b ≤ 2147483647 by have h := H4.out; unfold G4 at h; simp at h; exact h.1)
    have n0 := itoa_len b (by have := HH.out.1; omega) (by have := HH.out.2; omega)
    have n1 : ¬ 9223372036854775807 < 5 + (Lib.itoa b).length := by omega
    clear n0
    go_wp2_with fail
    refine (itoa_any b _ (by have := HH.out.1; omega) (by have := HH.out.2; omega) (HG.out.below HB4.out)).mono ?_
    rintro e5 w5 ⟨rfl, hb5⟩
    have HB5 := Lib.hid (HB4.out.trans (hb5.mono HB4.out.size))
    clear hb5
    go_wp2
    go_ret
    exact RetS.mk (by rw [HT.out]; exact tapp [99, 111, 108, 100, 32] _) HB5.out
  | false =>
  have c40 : W4.cell? ⟨g, 0, none⟩ = some (.int .i64 k) := HC4.out.cell 0
  have c41 : W4.cell? ⟨g, 1, none⟩ = some (.int .i64 b) := HC4.out.cell 1
  have c42 : W4.cell? ⟨g, 2, none⟩ = some (.int .i64 y) := HC4.out.cell 2
  have c43 : W4.cell? ⟨g, 3, none⟩ = some (.int .i64 r) := HC4.out.cell 3
  go_upto_region 9 with fail
  go_cut [74] (fun v wx => v = .bool g5 ∧ Below w.heap.size w wx ∧ Blk wx g 26 #[.int .i64 k, .int .i64 b, .int .i64 y, .int .i64 r])
  case first =>
    have rr : (y == y) = true := by simp
    rcases three0 (1 ≤ y) (y ≤ 4) with d0 | ⟨d0, d1⟩ | ⟨d0, d1⟩
    rotate_right
    rcases four0 k 4 b 0 r 0 with q0 | ⟨q0, q1⟩ | ⟨q0, q1, q2⟩ | ⟨q0, q1, q2⟩
    all_goals
      go_wp2_with fail
      try go_region
      go_wp2_with fail
    all_goals
      go_meet
      refine ⟨?_, HB4.out, HC4.out⟩
      rw [H5.out]
      simp [G5, *]
  obtain ⟨rfl, hbx, hcx⟩ := hcut
  rename World => W5
  have HB5 := Lib.hid hbx
  have HC5 := Lib.hid hcx
  clear hbx hcx c40 c41 c42 c43
  cases g5 with
  | true =>
    have c50 : W5.cell? ⟨g, 0, none⟩ = some (.int .i64 k) := HC5.out.cell 0
    have c51 : W5.cell? ⟨g, 1, none⟩ = some (.int .i64 b) := HC5.out.cell 1
    have c52 : W5.cell? ⟨g, 2, none⟩ = some (.int .i64 y) := HC5.out.cell 2
    have c53 : W5.cell? ⟨g, 3, none⟩ = some (.int .i64 r) := HC5.out.cell 3
    have HT := Lib.hid (show l = [116, 104, 114, 111, 116, 116, 108, 101, 100, 32] ++ whyB y by rw [HL.out]; unfold ltext; rw [if_neg (by rw [← H1.out]; decide), if_neg (by rw [← H2.out]; decide), if_neg (by rw [← H3.out]; decide), if_neg (by rw [← H4.out]; decide), if_pos H5.out.symm])
    have hr : y = 1 ∨ y = 2 ∨ y = 3 ∨ y = 4 := by have h := H5.out; unfold G5 at h; simp at h; omega
    have x5 : (W5.alloc (.cells #[.string ⟨#[]⟩, .string ⟨#[102, 117, 110, 99, 116, 105, 111, 110]⟩, .string ⟨#[97, 99, 99, 111, 117, 110, 116]⟩, .string ⟨#[116, 111, 107, 101, 110, 115]⟩, .string ⟨#[114, 111, 111, 109]⟩] 9)).cell? ⟨g, 2, none⟩ = some (.int .i64 y) := (HC5.out.alloc _).cell 2
    rcases hr with rfl | rfl | rfl | rfl
    all_goals
      go_wp2
      go_ret
      exact RetS.mk (by rw [HT.out]; rfl) (HB5.out.alloc HB5.out.size _)
  | false =>
  have HT := Lib.hid (show l = [] by rw [HL.out]; unfold ltext; rw [if_neg (by rw [← H1.out]; decide), if_neg (by rw [← H2.out]; decide), if_neg (by rw [← H3.out]; decide), if_neg (by rw [← H4.out]; decide), if_neg (by rw [← H5.out]; decide)])
  go_wp2
  go_ret
  exact RetS.mk (by rw [HT.out]) HB5.out
end Go.Proofs.YtopbhdpfakjkjaaDoor.Reply
