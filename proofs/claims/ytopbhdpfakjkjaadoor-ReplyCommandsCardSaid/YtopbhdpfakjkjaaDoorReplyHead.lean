/- Proved: the head of greenhouselaw17's laws, and the walk of ReplyApart. -/
import Derived.Test.YtopbhdpfakjkjaaDoorReplyLaw
namespace Go.Proofs.YtopbhdpfakjkjaaDoor.Reply
open Go.RowKit Go.Proofs.YtopbhdpfakjkjaaDoor.Histo Go.Proofs.YtopbhdpfakjkjaaDoor.Event Go.Proofs.YtopbhdpfakjkjaaDoor.Once
set_option linter.unusedVariables false
/-- Parse tells the answer that has these words, or that there is none. -/
def ParseQ (l : List UInt8) (w : World) (e : Ending) (w' : World) : Prop := Below w.heap.size w w' ∧
  ((∃ a : Ans, a.right = true ∧ text a = l ∧ e = .returned (.tuple #[Ans.val4 a, .int .i64 0])) ∨ ((∀ a : Ans, a.right = true → text a ≠ l) ∧ e = .returned (.tuple #[Ans.val4 ⟨0, 0, 0, 0⟩, .int .i64 5])))
theorem ParseP.q {l : List UInt8} {w w' : World} {e : Ending} (h : ParseP l w e w') : ParseQ l w e w' := by
  obtain ⟨hb, h⟩ := h
  refine ⟨hb, ?_⟩
  rcases h with ⟨k, hk, ⟨h1, h2⟩, rfl⟩ | ⟨hn, rfl⟩
  · refine .inl ⟨_, ?_, h2, rfl⟩
    cases hr : (build k (Lib.cut l [32]).2.1).right with
    | true => rfl
    | false =>
      exfalso
      have ht := text_nil.2 hr
      rw [ht] at h2
      rw [← h2, (cut_none [] (fun x hx => by cases hx)).1] at h1
      match k, hk with
      | 0, _ | 1, _ | 2, _ | 3, _ | 4, _ => exact absurd h1 (by decide)
  · refine .inr ⟨fun a ha he => ?_, rfl⟩
    obtain ⟨k, hk, ka, wa, ba⟩ := text_back ha
    rw [he] at wa ba
    exact hn k hk ⟨by rw [wa, ka], by rw [ba]; exact he⟩
theorem parse_q (s : ByteArray) (w : World) (hG : GW w) (hs : s.size < 4294967281) : Calls Tryd.prog 11 #[.string s] w (ParseQ s.data.toList w) := (parse_any s w hG hs).mono fun _ _ h => h.q
theorem warm3 : text ⟨2, 3, 0, 0⟩ = [119, 97, 114, 109, 32, 51] := by
  unfold text
  rw [if_neg (by decide)]
  simp only [show Lib.itoa 3 = [51] from by rw [itoa_nat (by omega)]; exact Lib.decDigits_one (by omega)]
  rfl
theorem room4 : text ⟨4, 0, 4, 0⟩ = [116, 104, 114, 111, 116, 116, 108, 101, 100, 32, 114, 111, 111, 109] := by
  unfold text
  rw [if_neg (by decide)]
  rfl
set_option maxHeartbeats 4000000 in
set_option maxRecDepth 100000 in
theorem head_any (w : World) (hG : GW w) : Calls Tryd.prog 7 #[] w (RetB1 true w) := by
  have K := Lib.hid (parse_q ⟨#[119, 97, 114, 109, 32, 51]⟩ w hG (by decide))
  have HG := Lib.hid hG
  clear hG
  go_enter Tryd.func7, Tryd.ntmps7
  go_wp2_with fail
  refine (K.out).mono ?_
  rintro e w1 ⟨hb1, ⟨a, ha, ht, rfl⟩ | ⟨hn, rfl⟩⟩
  rotate_left
  · exact absurd warm3 (hn ⟨2, 3, 0, 0⟩ (by decide))
  obtain rfl : a = ⟨2, 3, 0, 0⟩ := text_inj ha (by decide) (ht.trans warm3.symm)
  have HB1 := Lib.hid hb1
  clear hb1 ha ht K
  unfold Ans.val4
  simp only
  have hb2 := HB1.out.alloc HB1.out.size (.cells #[.int .i64 2, .int .i64 3, .int .i64 0, .int .i64 0] 26)
  have HB2 := Lib.hid hb2
  clear hb2
  go_wp2_with fail
  refine (string_any 4 0 4 0 _ (HG.out.below HB2.out)).mono ?_
  rintro e w2 ⟨rfl, hb2⟩
  rw [room4]
  have HB3 := Lib.hid (HB2.out.trans (hb2.mono HB2.out.size))
  clear hb2
  go_wp2
  go_ret
  exact RetB1.mk (by first | rfl | decide) HB3.out
theorem ans_eq (k b y r k' b' y' r' : Int) (h : Ans.right ⟨k, b, y, r⟩ = true) (h' : Ans.right ⟨k', b', y', r'⟩ = true) : (text ⟨k, b, y, r⟩ == text ⟨k', b', y', r'⟩) = (k == k' && (b == b' && (y == y' && r == r'))) := by
  rw [Bool.eq_iff_iff]
  simp only [beq_iff_eq, Bool.and_eq_true]
  constructor
  · intro e
    have := text_inj h h' e
    injection this with h1 h2 h3 h4
    exact ⟨h1, h2, h3, h4⟩
  · rintro ⟨rfl, rfl, rfl, rfl⟩; rfl
theorem five (a a' b b' c c' d d' : Int) : (a == a') = false ∨ ((a == a') = true ∧ (b == b') = false) ∨ ((a == a') = true ∧ (b == b') = true ∧ (c == c') = false) ∨ ((a == a') = true ∧ (b == b') = true ∧ (c == c') = true ∧ (d == d') = false) ∨ ((a == a') = true ∧ (b == b') = true ∧ (c == c') = true ∧ (d == d') = true) := by
  cases (a == a') <;> cases (b == b') <;> cases (c == c') <;> cases (d == d') <;> simp
set_option maxHeartbeats 4000000 in
set_option maxRecDepth 100000 in
theorem apart_any (k b y r k' b' y' r' : Int) (w : World) (hG : GW w) : Calls Tryd.prog 5 #[.agg #[.int .i64 k, .int .i64 b, .int .i64 y, .int .i64 r], .agg #[.int .i64 k', .int .i64 b', .int .i64 y', .int .i64 r']] w (RetB1 true w) := by
  have HG := Lib.hid hG
  have HE := Lib.hid (ans_eq k b y r k' b' y' r')
  clear hG
  go_enter Tryd.func5, Tryd.ntmps5
  go_wp2_with fail
  have hb2 := two_new w (.cells #[.int .i64 k, .int .i64 b, .int .i64 y, .int .i64 r] 26) (.cells #[.int .i64 k', .int .i64 b', .int .i64 y', .int .i64 r'] 26)
  have hx2 := (Blk.new w 26 #[.int .i64 k, .int .i64 b, .int .i64 y, .int .i64 r]).alloc (.cells #[.int .i64 k', .int .i64 b', .int .i64 y', .int .i64 r'] 26)
  have hy2 := two_blk w (.cells #[.int .i64 k, .int .i64 b, .int .i64 y, .int .i64 r] 26) 26 #[.int .i64 k', .int .i64 b', .int .i64 y', .int .i64 r']
  generalize (w.alloc _).alloc _ = W at hb2 hx2 hy2 ⊢
  generalize w.heap.size + 1 = gy at hy2 ⊢
  obtain ⟨gx, hgx⟩ : ∃ g, g = w.heap.size := ⟨_, rfl⟩
  rw [← hgx] at hx2
  rw [← hgx]
  have HB := Lib.hid hb2
  have HX := Lib.hid hx2
  have HY := Lib.hid hy2
  clear hb2 hx2 hy2 hgx
  refine (head_any W (HG.out.below HB.out)).mono ?_
  rintro e1 w1 ⟨rfl, h1⟩
  have hB1 : Below w.heap.size w w1 := HB.out.trans (h1.mono HB.out.size)
  have HX1 := Lib.hid (HX.out.below h1 HX.out.lt)
  have HY1 := Lib.hid (HY.out.below h1 HY.out.lt)
  have HB1 := Lib.hid hB1
  clear h1 hB1 HX HY HB
  have x0 : w1.cell? ⟨gx, 0, none⟩ = some (.int .i64 k) := HX1.out.cell 0
  have x1 : w1.cell? ⟨gx, 1, none⟩ = some (.int .i64 b) := HX1.out.cell 1
  have x2 : w1.cell? ⟨gx, 2, none⟩ = some (.int .i64 y) := HX1.out.cell 2
  have x3 : w1.cell? ⟨gx, 3, none⟩ = some (.int .i64 r) := HX1.out.cell 3
  go_wp2_with fail
  refine (aright_any ⟨k, b, y, r⟩ w1).mono ?_
  rintro e2 w2 ⟨rfl, h2⟩
  have hB2 : Below w.heap.size w w2 := HB1.out.trans (h2.mono HB1.out.size)
  have HX2 := Lib.hid (HX1.out.below h2 HX1.out.lt)
  have HY2 := Lib.hid (HY1.out.below h2 HY1.out.lt)
  have HB2 := Lib.hid hB2
  clear h2 hB2 HX1 HY1 HB1 x0 x1 x2 x3
  have x0 : w2.cell? ⟨gx, 0, none⟩ = some (.int .i64 k) := HX2.out.cell 0
  have x1 : w2.cell? ⟨gx, 1, none⟩ = some (.int .i64 b) := HX2.out.cell 1
  have x2 : w2.cell? ⟨gx, 2, none⟩ = some (.int .i64 y) := HX2.out.cell 2
  have x3 : w2.cell? ⟨gx, 3, none⟩ = some (.int .i64 r) := HX2.out.cell 3
  have y0 : w2.cell? ⟨gy, 0, none⟩ = some (.int .i64 k') := HY2.out.cell 0
  have y1 : w2.cell? ⟨gy, 1, none⟩ = some (.int .i64 b') := HY2.out.cell 1
  have y2 : w2.cell? ⟨gy, 2, none⟩ = some (.int .i64 y') := HY2.out.cell 2
  have y3 : w2.cell? ⟨gy, 3, none⟩ = some (.int .i64 r') := HY2.out.cell 3
  cases hr : Ans.right ⟨k, b, y, r⟩ with
  | false =>
    have HR := Lib.hid hr
    clear hr
    go_wp2_with fail
    refine (aright_any ⟨k, b, y, r⟩ w2).mono ?_
    rintro e3 w3 ⟨rfl, h3⟩
    rw [HR.out]
    have hB3 : Below w.heap.size w w3 := HB2.out.trans (h3.mono HB2.out.size)
    have HX3 := Lib.hid (HX2.out.below h3 HX2.out.lt)
    have HB3 := Lib.hid hB3
    clear h3 hB3 x0 x1 x2 x3 y0 y1 y2 y3
    have x0 : w3.cell? ⟨gx, 0, none⟩ = some (.int .i64 k) := HX3.out.cell 0
    have x1 : w3.cell? ⟨gx, 1, none⟩ = some (.int .i64 b) := HX3.out.cell 1
    have x2 : w3.cell? ⟨gx, 2, none⟩ = some (.int .i64 y) := HX3.out.cell 2
    have x3 : w3.cell? ⟨gx, 3, none⟩ = some (.int .i64 r) := HX3.out.cell 3
    go_wp2_with fail
    refine (aright_any ⟨k, b, y, r⟩ w3).mono ?_
    rintro e4 w4 ⟨rfl, h4⟩
    rw [HR.out]
    have hB4 : Below w.heap.size w w4 := HB3.out.trans (h4.mono HB3.out.size)
    have HX4 := Lib.hid (HX3.out.below h4 HX3.out.lt)
    have HB4 := Lib.hid hB4
    clear h4 hB4 x0 x1 x2 x3
    have x0 : w4.cell? ⟨gx, 0, none⟩ = some (.int .i64 k) := HX4.out.cell 0
    have x1 : w4.cell? ⟨gx, 1, none⟩ = some (.int .i64 b) := HX4.out.cell 1
    have x2 : w4.cell? ⟨gx, 2, none⟩ = some (.int .i64 y) := HX4.out.cell 2
    have x3 : w4.cell? ⟨gx, 3, none⟩ = some (.int .i64 r) := HX4.out.cell 3
    go_wp2_with fail
    refine (string_any k b y r w4 (HG.out.below HB4.out)).mono ?_
    rintro e5 w5 ⟨rfl, h5⟩
    rw [text_nil.2 HR.out]
    have HB5 := Lib.hid (HB4.out.trans (h5.mono HB4.out.size))
    clear h5
    go_wp2
    go_ret
    exact RetB1.mk (by first | rfl | decide) HB5.out
  | true =>
  have HR := Lib.hid hr
  clear hr
  go_wp2_with fail
  refine (aright_any ⟨k', b', y', r'⟩ w2).mono ?_
  rintro e3 w3 ⟨rfl, h3⟩
  have hB3 : Below w.heap.size w w3 := HB2.out.trans (h3.mono HB2.out.size)
  have HX3 := Lib.hid (HX2.out.below h3 HX2.out.lt)
  have HY3 := Lib.hid (HY2.out.below h3 HY2.out.lt)
  have HB3 := Lib.hid hB3
  clear h3 hB3 x0 x1 x2 x3 y0 y1 y2 y3
  have x0 : w3.cell? ⟨gx, 0, none⟩ = some (.int .i64 k) := HX3.out.cell 0
  have x1 : w3.cell? ⟨gx, 1, none⟩ = some (.int .i64 b) := HX3.out.cell 1
  have x2 : w3.cell? ⟨gx, 2, none⟩ = some (.int .i64 y) := HX3.out.cell 2
  have x3 : w3.cell? ⟨gx, 3, none⟩ = some (.int .i64 r) := HX3.out.cell 3
  cases hr' : Ans.right ⟨k', b', y', r'⟩ with
  | false =>
    have HR' := Lib.hid hr'
    clear hr'
    go_wp2_with fail
    refine (aright_any ⟨k, b, y, r⟩ w3).mono ?_
    rintro e4 w4 ⟨rfl, h4⟩
    rw [HR.out]
    have hB4 : Below w.heap.size w w4 := HB3.out.trans (h4.mono HB3.out.size)
    have HX4 := Lib.hid (HX3.out.below h4 HX3.out.lt)
    have HB4 := Lib.hid hB4
    clear h4 hB4 x0 x1 x2 x3
    have x0 : w4.cell? ⟨gx, 0, none⟩ = some (.int .i64 k) := HX4.out.cell 0
    have x1 : w4.cell? ⟨gx, 1, none⟩ = some (.int .i64 b) := HX4.out.cell 1
    have x2 : w4.cell? ⟨gx, 2, none⟩ = some (.int .i64 y) := HX4.out.cell 2
    have x3 : w4.cell? ⟨gx, 3, none⟩ = some (.int .i64 r) := HX4.out.cell 3
    go_wp2_with fail
    refine (string_any k b y r w4 (HG.out.below HB4.out)).mono ?_
    rintro e5 w5 ⟨rfl, h5⟩
    have HB5 := Lib.hid (HB4.out.trans (h5.mono HB4.out.size))
    clear h5
    cases ht : text ⟨k, b, y, r⟩ with
    | nil => have h := text_nil.1 ht; rw [HR.out] at h; cases h
    | cons c l =>
      clear ht
      go_wp2
      go_ret
      exact RetB1.mk (by first | rfl | simp) HB5.out
  | true =>
    have HR' := Lib.hid hr'
    clear hr'
    have y0 : w3.cell? ⟨gy, 0, none⟩ = some (.int .i64 k') := HY3.out.cell 0
    have y1 : w3.cell? ⟨gy, 1, none⟩ = some (.int .i64 b') := HY3.out.cell 1
    have y2 : w3.cell? ⟨gy, 2, none⟩ = some (.int .i64 y') := HY3.out.cell 2
    have y3 : w3.cell? ⟨gy, 3, none⟩ = some (.int .i64 r') := HY3.out.cell 3
    have KS := Lib.hid (fun (w' : World) (hb : Below w3.heap.size w3 w') => (⟨(HX3.out.below hb HX3.out.lt).cell 0, (HX3.out.below hb HX3.out.lt).cell 1, (HX3.out.below hb HX3.out.lt).cell 2, (HX3.out.below hb HX3.out.lt).cell 3, (HY3.out.below hb HY3.out.lt).cell 0, (HY3.out.below hb HY3.out.lt).cell 1, (HY3.out.below hb HY3.out.lt).cell 2, (HY3.out.below hb HY3.out.lt).cell 3, hb⟩ : w'.cell? ⟨gx, 0, none⟩ = some (.int .i64 k) ∧ w'.cell? ⟨gx, 1, none⟩ = some (.int .i64 b) ∧ w'.cell? ⟨gx, 2, none⟩ = some (.int .i64 y) ∧ w'.cell? ⟨gx, 3, none⟩ = some (.int .i64 r) ∧ w'.cell? ⟨gy, 0, none⟩ = some (.int .i64 k') ∧ w'.cell? ⟨gy, 1, none⟩ = some (.int .i64 b') ∧ w'.cell? ⟨gy, 2, none⟩ = some (.int .i64 y') ∧ w'.cell? ⟨gy, 3, none⟩ = some (.int .i64 r') ∧ Below w3.heap.size w3 w'))
    have HGW := Lib.hid (fun (w' : World) (hb : Below w3.heap.size w3 w') => (HG.out.below HB3.out).below hb)
    have BR := Below.refl w3.heap.size w3
    have BR2 := BR.drew
    rcases five k k' b b' y y' r r' with q0 | ⟨q0, q1⟩ | ⟨q0, q1, q2⟩ | ⟨q0, q1, q2, q3⟩ | ⟨q0, q1, q2, q3⟩
    all_goals
      go_wp2_with fail
      go_region_held3 (fun w' => w'.cell? ⟨gx, 0, none⟩ = some (.int .i64 k) ∧ w'.cell? ⟨gx, 1, none⟩ = some (.int .i64 b) ∧ w'.cell? ⟨gx, 2, none⟩ = some (.int .i64 y) ∧ w'.cell? ⟨gx, 3, none⟩ = some (.int .i64 r) ∧ w'.cell? ⟨gy, 0, none⟩ = some (.int .i64 k') ∧ w'.cell? ⟨gy, 1, none⟩ = some (.int .i64 b') ∧ w'.cell? ⟨gy, 2, none⟩ = some (.int .i64 y') ∧ w'.cell? ⟨gy, 3, none⟩ = some (.int .i64 r') ∧ Below w3.heap.size w3 w')
        (first
          | exact KS.out _ (by assumption)
          | go_keep)
        (first
          | (go_at_call 9; refine (string_any _ _ _ _ _ (HGW.out _ (by assumption))).mono ?_; rintro e w' ⟨rfl, hbl⟩; first | (have bx2 := Below.trans bx (Below.mono hbl (Below.size bx))) | (have bx := Below.trans BR2 (Below.mono hbl (Below.size BR2)))))
      all_goals
        have hfin : Below w3.heap.size w3 _ := bx2
        have HFIN := Lib.hid (HB3.out.trans (hfin.mono HB3.out.size))
        go_wp2
        go_ret
        exact RetB1.mk (by rw [HE.out HR.out HR'.out]; simp [*]) HFIN.out
end Go.Proofs.YtopbhdpfakjkjaaDoor.Reply
