/- Proved: what reply.number answers. -/
import Derived.Test.YtopbhdpfakjkjaaDoorReplyCmd
namespace Go.Proofs.YtopbhdpfakjkjaaDoor.Reply
open Go.RowKit Go.Proofs.YtopbhdpfakjkjaaDoor.Histo Go.Proofs.YtopbhdpfakjkjaaDoor.Event Go.Proofs.YtopbhdpfakjkjaaDoor.Once
set_option linter.unusedVariables false
/-- A number from 0 to 2147483647 in its one form. -/
def numOf (l : List UInt8) : Option Int := match Lib.atoiAll l with | .ok v => if 0 ≤ v ∧ v ≤ 2147483647 ∧ Lib.itoa v = l then some v else none | _ => none
def NumP (l : List UInt8) (w : World) (e : Ending) (w' : World) : Prop := ∃ v, e = .returned (.tuple #[.int .i64 v, .bool (numOf l).isSome]) ∧ (∀ u, numOf l = some u → v = u) ∧ Below w.heap.size w w'
theorem NumP.mk {l : List UInt8} {w w' : World} {v : Int} {b : Bool} (hb : b = (numOf l).isSome) (hv : ∀ u, numOf l = some u → v = u) (hw : Below w.heap.size w w') : NumP l w (.returned (.tuple #[.int .i64 v, .bool b])) w' := by subst hb; exact ⟨v, rfl, hv, hw⟩
set_option maxHeartbeats 4000000 in
set_option maxRecDepth 100000 in
theorem number_any (s : ByteArray) (w : World) (hG : GW w) (hs : s.size ≤ 281474976710656) : Calls Tryd.prog 18 #[.string s] w (NumP s.data.toList w) := by
  obtain ⟨l, hl⟩ : ∃ l, l = s.data.toList := ⟨_, rfl⟩
  rw [← hl]
  obtain ⟨t1, p1, hv1⟩ := hG.syn
  obtain ⟨t2, p2, hv2⟩ := hG.rng
  have K1 := fun v h => Go.Proofs.Tryd.strconv_Atoi_ok s (by omega) v h w
  have K2 := fun h => Go.Proofs.Tryd.strconv_Atoi_syntax_var s hs h t1 p1 w hv1
  have K3 := fun h => Go.Proofs.Tryd.strconv_Atoi_range_var s hs h t2 p2 w hv2
  have HK1 := Lib.hid K1
  have HK2 := Lib.hid K2
  have HK3 := Lib.hid K3
  have HG := Lib.hid hG
  have HL := Lib.hid hl
  clear K1 K2 K3 hG hl hv1 hv2 hs
  go_enter Tryd.func18, Tryd.ntmps18
  go_wp2_with fail
  rcases ha : Lib.atoiAll s.data.toList with v | _ | _
  rotate_left
  · have HN := Lib.hid (show numOf l = none by unfold numOf; rw [HL.out, ha])
    refine (HK2.out ha).mono ?_
    rintro e w1 ⟨N, rfl, _, _, hb⟩
    have HB := Lib.hid hb
    clear hb ha
    go_wp2
    go_ret2
    exact NumP.mk (by rw [HN.out]; rfl) (fun u hu => by rw [HN.out] at hu; cases hu) HB.out
  · have HN := Lib.hid (show numOf l = none by unfold numOf; rw [HL.out, ha])
    refine (HK3.out ha).mono ?_
    rintro e w1 ⟨N, rfl, _, _, hb⟩
    have HB := Lib.hid hb
    clear hb ha
    generalize Lib.atoiSat s.data.toList = z
    go_wp2
    go_ret2
    exact NumP.mk (by rw [HN.out]; rfl) (fun u hu => by rw [HN.out] at hu; cases hu) HB.out
  · have HA := Lib.hid ha
    refine (HK1.out v ha).mono ?_
    intro e w1 h
    have hb : e = .returned (.tuple #[.int .i64 v, .nilIface]) ∧ Below w.heap.size w w1 := by
      obtain ⟨h1, h2⟩ := h
      refine ⟨h1, ?_⟩
      rcases h2 with rfl | ⟨t, rfl⟩
      · exact Below.refl _ _
      · exact Lib.bytesWorld_below w _ t
    obtain ⟨rfl, hb⟩ := hb
    have HB := Lib.hid hb
    have HBD := Lib.hid (Lib.atoiAll_bounds ha)
    clear hb h ha
    by_cases h0 : 0 ≤ v
    rotate_left
    · have d0 : decide (0 ≤ v) = false := decide_eq_false h0
      have HN := Lib.hid (show numOf l = none by unfold numOf; rw [HL.out, HA.out]; simp [h0])
      clear h0
      go_wp2
      go_ret2
      exact NumP.mk (by rw [HN.out]; rfl) (fun u hu => by rw [HN.out] at hu; cases hu) HB.out
    have d0 : decide (0 ≤ v) = true := decide_eq_true h0
    by_cases h1 : v ≤ 2147483647
    rotate_left
    · have d1 : decide (v ≤ 2147483647) = false := decide_eq_false h1
      have HN := Lib.hid (show numOf l = none by unfold numOf; rw [HL.out, HA.out]; simp [h1])
      clear h0 h1
      go_wp2
      go_ret2
      exact NumP.mk (by rw [HN.out]; rfl) (fun u hu => by rw [HN.out] at hu; cases hu) HB.out
    have d1 : decide (v ≤ 2147483647) = true := decide_eq_true h1
    have HN := Lib.hid (show numOf l = if Lib.itoa v = l then some v else none by unfold numOf; rw [HL.out, HA.out]; simp [h0, h1])
    clear h0 h1
    go_wp2_with fail
    refine (itoa_any v w1 HBD.out.1 HBD.out.2 (HG.out.below HB.out)).mono ?_
    rintro e w2 ⟨rfl, hb2⟩
    have HB2 := Lib.hid (HB.out.trans (hb2.mono HB.out.size))
    clear hb2
    go_wp2
    go_ret2
    have he : s.toList = l := by rw [HL.out, ByteArray.toList_eq]
    rw [he]
    by_cases hq : Lib.itoa v = l
    · exact NumP.mk (by rw [HN.out, if_pos hq]; simp [hq]) (fun u hu => by rw [HN.out, if_pos hq] at hu; injection hu) HB2.out
    · exact NumP.mk (by rw [HN.out, if_neg hq]; simp [hq]) (fun u hu => by rw [HN.out, if_neg hq] at hu; cases hu) HB2.out
end Go.Proofs.YtopbhdpfakjkjaaDoor.Reply
