/- Proved: the walk of ReplyCommands. -/
import Derived.Test.YtopbhdpfakjkjaaDoorReplyHead
import Derived.Test.YtopbhdpfakjkjaaDoorReplyCmdLaw
namespace Go.Proofs.YtopbhdpfakjkjaaDoor.Reply
open Go.RowKit Go.Proofs.YtopbhdpfakjkjaaDoor.Histo Go.Proofs.YtopbhdpfakjkjaaDoor.Event Go.Proofs.YtopbhdpfakjkjaaDoor.Once
set_option linter.unusedVariables false
theorem Below.step {w v w' : World} (h : Below w.heap.size w v) (hb : Below v.heap.size v w') : Below w.heap.size w w' := h.trans (hb.mono h.size)
theorem cmd_told (x f h : Int) (p : List UInt8) : (((((⟨p.toArray⟩ : ByteArray) ++ ⟨(Lib.itoa x).toArray⟩) ++ ⟨#[32]⟩) ++ ⟨(Lib.itoa f).toArray⟩) ++ ⟨#[32]⟩) ++ ⟨(Lib.itoa h).toArray⟩ = ⟨(p ++ (Lib.itoa x ++ 32 :: (Lib.itoa f ++ 32 :: Lib.itoa h))).toArray⟩ := by apply ByteArray.ext; simp [ByteArray.data_append]
theorem cmd_same (b : Bool) (x f h : Int) (p : List UInt8) (hp : p = cmdHead b ++ [32]) : (cmdText b x f h == ((((((⟨p.toArray⟩ : ByteArray) ++ ⟨(Lib.itoa x).toArray⟩) ++ ⟨#[32]⟩) ++ ⟨(Lib.itoa f).toArray⟩) ++ ⟨#[32]⟩) ++ ⟨(Lib.itoa h).toArray⟩).toList) = true := by
  rw [cmd_told, ByteArray.toList_eq, cmd_out, hp]; simp
theorem four1 (b b' c c' d d' : Int) : (b == b') = false ∨ ((b == b') = true ∧ (c == c') = false) ∨ ((b == b') = true ∧ (c == c') = true ∧ (d == d') = false) ∨ ((b == b') = true ∧ (c == c') = true ∧ (d == d') = true) := by
  cases (b == b') <;> cases (c == c') <;> cases (d == d') <;> simp
abbrev inI (x : Int) : Prop := -9223372036854775808 ≤ x ∧ x ≤ 9223372036854775807
set_option maxHeartbeats 4000000 in
set_option maxRecDepth 100000 in
theorem commands_any (b : Bool) (x f h : Int) (b' : Bool) (x' f' h' : Int) (w : World) (hG : GW w) (hx : inI x ∧ inI f ∧ inI h) (hx' : inI x' ∧ inI f' ∧ inI h') : Calls Tryd.prog 6 #[.agg #[.bool b, .int .i64 x, .int .i64 f, .int .i64 h], .agg #[.bool b', .int .i64 x', .int .i64 f', .int .i64 h']] w (RetB1 true w) := by
  have HG := Lib.hid hG
  have HX := Lib.hid hx
  have HX' := Lib.hid hx'
  have HE := Lib.hid (cmd_eq b b' x f h x' f' h')
  have lx := itoa_len x hx.1.1 hx.1.2
  have lf := itoa_len f hx.2.1.1 hx.2.1.2
  have lh := itoa_len h hx.2.2.1 hx.2.2.2
  have HL := Lib.hid (And.intro lx (And.intro lf lh))
  clear hG hx hx' lx lf lh
  go_enter Tryd.func6, Tryd.ntmps6
  go_wp2_with fail
  have hb2 := two_new w (.cells #[.bool b, .int .i64 x, .int .i64 f, .int .i64 h] 37) (.cells #[.bool b', .int .i64 x', .int .i64 f', .int .i64 h'] 37)
  have hx2 := (Blk.new w 37 #[.bool b, .int .i64 x, .int .i64 f, .int .i64 h]).alloc (.cells #[.bool b', .int .i64 x', .int .i64 f', .int .i64 h'] 37)
  have hy2 := two_blk w (.cells #[.bool b, .int .i64 x, .int .i64 f, .int .i64 h] 37) 37 #[.bool b', .int .i64 x', .int .i64 f', .int .i64 h']
  generalize (w.alloc _).alloc _ = W at hb2 hx2 hy2 ⊢
  generalize w.heap.size + 1 = gy at hy2 ⊢
  obtain ⟨gx, hgx⟩ : ∃ g, g = w.heap.size := ⟨_, rfl⟩
  rw [← hgx] at hx2
  rw [← hgx]
  have HB := Lib.hid hb2
  have HXX := Lib.hid hx2
  have HYY := Lib.hid hy2
  clear hb2 hx2 hy2 hgx
  refine (head_any W (HG.out.below HB.out)).mono ?_
  rintro e1 w1 ⟨rfl, h1⟩
  have HX1 := Lib.hid (HXX.out.below h1 HXX.out.lt)
  have HY1 := Lib.hid (HYY.out.below h1 HYY.out.lt)
  have HB1 := Lib.hid (HB.out.trans (h1.mono HB.out.size))
  clear h1 HXX HYY HB
  have x0 : w1.cell? ⟨gx, 0, none⟩ = some (.bool b) := HX1.out.cell 0
  have x1 : w1.cell? ⟨gx, 1, none⟩ = some (.int .i64 x) := HX1.out.cell 1
  have x2 : w1.cell? ⟨gx, 2, none⟩ = some (.int .i64 f) := HX1.out.cell 2
  have x3 : w1.cell? ⟨gx, 3, none⟩ = some (.int .i64 h) := HX1.out.cell 3
  have y0 : w1.cell? ⟨gy, 0, none⟩ = some (.bool b') := HY1.out.cell 0
  have y1 : w1.cell? ⟨gy, 1, none⟩ = some (.int .i64 x') := HY1.out.cell 1
  have y2 : w1.cell? ⟨gy, 2, none⟩ = some (.int .i64 f') := HY1.out.cell 2
  have y3 : w1.cell? ⟨gy, 3, none⟩ = some (.int .i64 h') := HY1.out.cell 3
  have KS := Lib.hid (fun (w' : World) (hb : Below w1.heap.size w1 w') => (⟨(HX1.out.below hb HX1.out.lt).cell 0, (HX1.out.below hb HX1.out.lt).cell 1, (HX1.out.below hb HX1.out.lt).cell 2, (HX1.out.below hb HX1.out.lt).cell 3, (HY1.out.below hb HY1.out.lt).cell 0, (HY1.out.below hb HY1.out.lt).cell 1, (HY1.out.below hb HY1.out.lt).cell 2, (HY1.out.below hb HY1.out.lt).cell 3, hb⟩ : w'.cell? ⟨gx, 0, none⟩ = some (.bool b) ∧ w'.cell? ⟨gx, 1, none⟩ = some (.int .i64 x) ∧ w'.cell? ⟨gx, 2, none⟩ = some (.int .i64 f) ∧ w'.cell? ⟨gx, 3, none⟩ = some (.int .i64 h) ∧ w'.cell? ⟨gy, 0, none⟩ = some (.bool b') ∧ w'.cell? ⟨gy, 1, none⟩ = some (.int .i64 x') ∧ w'.cell? ⟨gy, 2, none⟩ = some (.int .i64 f') ∧ w'.cell? ⟨gy, 3, none⟩ = some (.int .i64 h') ∧ Below w1.heap.size w1 w'))
  have HGW := Lib.hid (fun (w' : World) (hb : Below w1.heap.size w1 w') => (HG.out.below HB1.out).below hb)
  have BR := Below.refl w1.heap.size w1
  have BR2 := BR.drew
  have n1 : ¬ 9223372036854775807 < 5 + (Lib.itoa x).length := by have := HL.out; omega
  have n2 : ¬ 9223372036854775807 < 5 + (Lib.itoa x).length + 1 := by have := HL.out; omega
  have n3 : ¬ 9223372036854775807 < 5 + (Lib.itoa x).length + 1 + (Lib.itoa f).length := by have := HL.out; omega
  have n4 : ¬ 9223372036854775807 < 5 + (Lib.itoa x).length + 1 + (Lib.itoa f).length + 1 := by have := HL.out; omega
  have n5 : ¬ 9223372036854775807 < 5 + (Lib.itoa x).length + 1 + (Lib.itoa f).length + 1 + (Lib.itoa h).length := by have := HL.out; omega
  cases b
  · have TB : (cmdText false x f h == ((((((⟨#[107, 105, 108, 108, 32]⟩ : ByteArray) ++ ⟨(Lib.itoa x).toArray⟩) ++ ⟨#[32]⟩) ++ ⟨(Lib.itoa f).toArray⟩) ++ ⟨#[32]⟩) ++ ⟨(Lib.itoa h).toArray⟩).toList) = true := cmd_same false x f h [107, 105, 108, 108, 32] rfl
    go_wp2_with fail
    cases b'
    · skip
      rcases four1 x x' f f' h h' with q1 | ⟨q1, q2⟩ | ⟨q1, q2, q3⟩ | ⟨q1, q2, q3⟩
      all_goals
        go_region_held3 (fun w' => w'.cell? ⟨gx, 0, none⟩ = some (.bool false) ∧ w'.cell? ⟨gx, 1, none⟩ = some (.int .i64 x) ∧ w'.cell? ⟨gx, 2, none⟩ = some (.int .i64 f) ∧ w'.cell? ⟨gx, 3, none⟩ = some (.int .i64 h) ∧ w'.cell? ⟨gy, 0, none⟩ = some (.bool false) ∧ w'.cell? ⟨gy, 1, none⟩ = some (.int .i64 x') ∧ w'.cell? ⟨gy, 2, none⟩ = some (.int .i64 f') ∧ w'.cell? ⟨gy, 3, none⟩ = some (.int .i64 h') ∧ Below w1.heap.size w1 w')
          (first
            | exact KS.out _ (by assumption)
            | go_keep)
          (first
            | (go_at_call 12; refine (itoa_any _ _ (by first | exact HX.out.1.1 | exact HX.out.2.1.1 | exact HX.out.2.2.1) (by first | exact HX.out.1.2 | exact HX.out.2.1.2 | exact HX.out.2.2.2) (HGW.out _ (by assumption))).mono ?_; rintro e w' ⟨rfl, hbl⟩; have hbq := Below.step (w := w1) (by assumption) hbl; clear hbl)
            | (go_at_call 13; refine (cmd_any _ _ _ _ _ (HGW.out _ (by assumption)) (by first | exact HX.out.1 | exact HX'.out.1) (by first | exact HX.out.2.1 | exact HX'.out.2.1) (by first | exact HX.out.2.2 | exact HX'.out.2.2)).mono ?_; rintro e w' ⟨rfl, hbl⟩; have hbq := Below.step (w := w1) (by assumption) hbl; clear hbl))
        all_goals
          go_wp2
          go_ret
          exact RetB1.mk (by rw [HE.out]; simp [*]) (Below.step HB1.out (by assumption))
    · skip
      all_goals
        go_region_held3 (fun w' => w'.cell? ⟨gx, 0, none⟩ = some (.bool false) ∧ w'.cell? ⟨gx, 1, none⟩ = some (.int .i64 x) ∧ w'.cell? ⟨gx, 2, none⟩ = some (.int .i64 f) ∧ w'.cell? ⟨gx, 3, none⟩ = some (.int .i64 h) ∧ w'.cell? ⟨gy, 0, none⟩ = some (.bool true) ∧ w'.cell? ⟨gy, 1, none⟩ = some (.int .i64 x') ∧ w'.cell? ⟨gy, 2, none⟩ = some (.int .i64 f') ∧ w'.cell? ⟨gy, 3, none⟩ = some (.int .i64 h') ∧ Below w1.heap.size w1 w')
          (first
            | exact KS.out _ (by assumption)
            | go_keep)
          (first
            | (go_at_call 12; refine (itoa_any _ _ (by first | exact HX.out.1.1 | exact HX.out.2.1.1 | exact HX.out.2.2.1) (by first | exact HX.out.1.2 | exact HX.out.2.1.2 | exact HX.out.2.2.2) (HGW.out _ (by assumption))).mono ?_; rintro e w' ⟨rfl, hbl⟩; have hbq := Below.step (w := w1) (by assumption) hbl; clear hbl)
            | (go_at_call 13; refine (cmd_any _ _ _ _ _ (HGW.out _ (by assumption)) (by first | exact HX.out.1 | exact HX'.out.1) (by first | exact HX.out.2.1 | exact HX'.out.2.1) (by first | exact HX.out.2.2 | exact HX'.out.2.2)).mono ?_; rintro e w' ⟨rfl, hbl⟩; have hbq := Below.step (w := w1) (by assumption) hbl; clear hbl))
        all_goals
          go_wp2
          go_ret
          exact RetB1.mk (by rw [HE.out]; simp [*]) (Below.step HB1.out (by assumption))
  · have TB : (cmdText true x f h == ((((((⟨#[98, 111, 111, 116, 32]⟩ : ByteArray) ++ ⟨(Lib.itoa x).toArray⟩) ++ ⟨#[32]⟩) ++ ⟨(Lib.itoa f).toArray⟩) ++ ⟨#[32]⟩) ++ ⟨(Lib.itoa h).toArray⟩).toList) = true := cmd_same true x f h [98, 111, 111, 116, 32] rfl
    go_wp2_with fail
    cases b'
    · skip
      all_goals
        go_region_held3 (fun w' => w'.cell? ⟨gx, 0, none⟩ = some (.bool true) ∧ w'.cell? ⟨gx, 1, none⟩ = some (.int .i64 x) ∧ w'.cell? ⟨gx, 2, none⟩ = some (.int .i64 f) ∧ w'.cell? ⟨gx, 3, none⟩ = some (.int .i64 h) ∧ w'.cell? ⟨gy, 0, none⟩ = some (.bool false) ∧ w'.cell? ⟨gy, 1, none⟩ = some (.int .i64 x') ∧ w'.cell? ⟨gy, 2, none⟩ = some (.int .i64 f') ∧ w'.cell? ⟨gy, 3, none⟩ = some (.int .i64 h') ∧ Below w1.heap.size w1 w')
          (first
            | exact KS.out _ (by assumption)
            | go_keep)
          (first
            | (go_at_call 12; refine (itoa_any _ _ (by first | exact HX.out.1.1 | exact HX.out.2.1.1 | exact HX.out.2.2.1) (by first | exact HX.out.1.2 | exact HX.out.2.1.2 | exact HX.out.2.2.2) (HGW.out _ (by assumption))).mono ?_; rintro e w' ⟨rfl, hbl⟩; have hbq := Below.step (w := w1) (by assumption) hbl; clear hbl)
            | (go_at_call 13; refine (cmd_any _ _ _ _ _ (HGW.out _ (by assumption)) (by first | exact HX.out.1 | exact HX'.out.1) (by first | exact HX.out.2.1 | exact HX'.out.2.1) (by first | exact HX.out.2.2 | exact HX'.out.2.2)).mono ?_; rintro e w' ⟨rfl, hbl⟩; have hbq := Below.step (w := w1) (by assumption) hbl; clear hbl))
        all_goals
          go_wp2
          go_ret
          exact RetB1.mk (by rw [HE.out]; simp [*]) (Below.step HB1.out (by assumption))
    · skip
      rcases four1 x x' f f' h h' with q1 | ⟨q1, q2⟩ | ⟨q1, q2, q3⟩ | ⟨q1, q2, q3⟩
      all_goals
        go_region_held3 (fun w' => w'.cell? ⟨gx, 0, none⟩ = some (.bool true) ∧ w'.cell? ⟨gx, 1, none⟩ = some (.int .i64 x) ∧ w'.cell? ⟨gx, 2, none⟩ = some (.int .i64 f) ∧ w'.cell? ⟨gx, 3, none⟩ = some (.int .i64 h) ∧ w'.cell? ⟨gy, 0, none⟩ = some (.bool true) ∧ w'.cell? ⟨gy, 1, none⟩ = some (.int .i64 x') ∧ w'.cell? ⟨gy, 2, none⟩ = some (.int .i64 f') ∧ w'.cell? ⟨gy, 3, none⟩ = some (.int .i64 h') ∧ Below w1.heap.size w1 w')
          (first
            | exact KS.out _ (by assumption)
            | go_keep)
          (first
            | (go_at_call 12; refine (itoa_any _ _ (by first | exact HX.out.1.1 | exact HX.out.2.1.1 | exact HX.out.2.2.1) (by first | exact HX.out.1.2 | exact HX.out.2.1.2 | exact HX.out.2.2.2) (HGW.out _ (by assumption))).mono ?_; rintro e w' ⟨rfl, hbl⟩; have hbq := Below.step (w := w1) (by assumption) hbl; clear hbl)
            | (go_at_call 13; refine (cmd_any _ _ _ _ _ (HGW.out _ (by assumption)) (by first | exact HX.out.1 | exact HX'.out.1) (by first | exact HX.out.2.1 | exact HX'.out.2.1) (by first | exact HX.out.2.2 | exact HX'.out.2.2)).mono ?_; rintro e w' ⟨rfl, hbl⟩; have hbq := Below.step (w := w1) (by assumption) hbl; clear hbl))
        all_goals
          go_wp2
          go_ret
          exact RetB1.mk (by rw [HE.out]; simp [*]) (Below.step HB1.out (by assumption))
end Go.Proofs.YtopbhdpfakjkjaaDoor.Reply
