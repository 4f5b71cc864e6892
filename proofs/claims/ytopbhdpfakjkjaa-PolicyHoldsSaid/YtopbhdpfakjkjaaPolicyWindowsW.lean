/- Proved: the walk of the law PolicyWindows: it answers true, for all slices. -/
import Derived.Test.YtopbhdpfakjkjaaPolicyTurnsW
import Derived.Deep.RegionHeld3
namespace Go.Proofs.Ytopbhdpfakjkjaa.Policy
open Go.RowKit Go.Proofs.Ytopbhdpfakjkjaa.Histo Go.Proofs.Ytopbhdpfakjkjaa.Ring Go.Proofs.Ytopbhdpfakjkjaa.Cast

theorem cut_mono {s : S} (ok : Ok s) (h : 0 < s.a) : s.cut 5 ≤ s.cut 99 := by
  have a := cut_first ok 5 h
  have b := cut_first ok 99 h
  rcases Nat.lt_or_ge (s.cut 99) (s.cut 5) with hlt | hge
  · exfalso
    have hb := b.yes
    refine a.no _ hlt ⟨hb.1, ?_⟩
    have h2 := hb.2
    have e5 : pc 5 = 5 := by decide
    have e99 : pc 99 = 99 := by decide
    rw [e99] at h2
    rw [e5]
    omega
  · exact hge
theorem spread_pos {s : S} (h : s.spread = true) : 0 < s.a := by
  unfold S.spread at h
  simp only [Bool.and_eq_true, decide_eq_true_eq] at h
  exact h.1
theorem win_bd {s : S} (ok : Ok s) (ts : List Int) : 0 ≤ (win s ts).pre ∧ (win s ts).pre < (win s ts).fin := by
  unfold win
  by_cases h : s.a + s.o < 4
  · rw [if_pos h]; decide
  · rw [if_neg h]
    by_cases h2 : s.a + s.o < 2 * s.o
    · rw [if_pos h2]
      have := nx_bd (last8 ts) (last8_len ts)
      unfold wcast
      simp only
      omega
    · rw [if_neg h2]
      by_cases h3 : s.spread = false
      · rw [if_pos h3]; decide
      · rw [if_neg h3]
        have := cut_mono ok (spread_pos (by simpa using h3))
        unfold whist
        simp only
        omega
structure PWM (w : World) (g k m : Nat) (s : S) (ts : List Int) (wr : World) : Prop where
  a : PW w g k s ts wr
  b : Blk wr m 31 (mc s.bs s.o)
  nm : w.heap.size ≤ m
theorem PW.madd {w wr w1 : World} {g k m : Nat} {s : S} {ts : List Int} {t : Int} {e : Ending} (h : PW w g k (s.add t) ts wr) (hm : Blk wr m 31 (mc s.bs s.o)) (nm : w.heap.size ≤ m) (x : MAdds wr m (s.add t) e w1) : PWM w g k m (s.add t) ts w1 := by
  obtain ⟨_, _, _, h2⟩ := h.rg
  exact ⟨h.other x.2.2 (blk_ne h.b hm (by decide)) (blk_ne h2 hm (by decide)) nm, x.2.1, nm⟩
theorem PWM.next {w wr w1 : World} {g k m : Nat} {s : S} {ts : List Int} (h : PWM w g k m s ts wr) (a : Below wr.heap.size wr w1) : PWM w g k m s ts w1 := ⟨h.a.next a, h.b.below a h.b.lt, h.nm⟩
theorem cut_sl {w : World} {b off len cap i : Nat} {xs : Nat → Int} (hb : b < w.heap.size) (hi : i < len) (hcap : len ≤ cap) (hm : cap ≤ maxLen) (hc : ∀ j, j < len → w.cell? ⟨b, off + j, none⟩ = some (.int .i64 (xs j))) : Sl w (.slice (some ⟨b, off, none⟩) (i + 1) cap) (tsOf xs (i + 1)) := by
  have hl : (tsOf xs (i + 1)).length = i + 1 := by unfold tsOf; simp
  refine ⟨_, cap, by rw [hl], by omega, hm, ?_⟩
  rw [hl]
  intro k hk
  refine ⟨b, off, rfl, hb, fun j hj => ?_⟩
  rw [hc j (by omega)]
  show _ = some (Value.int .i64 ((tsOf xs (i + 1)).getD j 0))
  unfold tsOf
  rw [List.getD_eq_getElem?_getD, List.getElem?_map, List.getElem?_range (by omega)]
  rfl
theorem zero242 : Try.zeroCells31 = mc (List.replicate 240 0) 0 := by kernel_rfl

theorem windows_many (a : Option Addr) (len cap : Nat) (w : World) (hl : 60 < len) (hm : len ≤ maxLen) : Calls Try.prog 3 #[.slice a len cap] w (Yes w) := by
  unfold maxLen at hm
  have hll : (60 : Int) < (len : Int) := by omega
  go_enter Try.func3, Try.ntmps3
  go_wp2_with fail
  refine (head_any _).mono ?_
  rintro e w1 ⟨rfl, hb1⟩
  have HB := Lib.hid hb1
  clear hb1
  go_wp2
  go_ret
  exact Yes.mk rfl HB.out

set_option maxRecDepth 100000 in
set_option maxHeartbeats 8000000 in
theorem windows_few (a : Option Addr) (len cap : Nat) (xs : Nat → Int) (w : World) (hl : len ≤ 60) (hcap : len ≤ cap) (hcm : cap ≤ maxLen) (h : Elems w a len xs) : Calls Try.prog 3 #[.slice a len cap] w (Yes w) := by
  have hll : ¬ 60 < (len : Int) := by omega
  have HE := Lib.hid h
  have HCM := Lib.hid hcm
  clear h
  unfold maxLen at hcm
  go_enter Try.func3, Try.ntmps3
  go_wp2_with fail
  refine (head_any _).mono ?_
  rintro e w0 ⟨rfl, hb⟩
  go_wp2_with fail
  have st := PW.start hb
  have n1 := Histo.new_any w0
  generalize hw1 : w0.alloc (.cells (hc (List.replicate 240 0) 0 0) 62) = w1 at st n1
  have n2 := Ring.new_any w1
  generalize hw2 : w1.alloc (.cells (rc (List.replicate 8 0) 0) 65) = w2 at st n2
  obtain ⟨g, hg⟩ : ∃ g, g = w0.heap.size := ⟨_, rfl⟩
  obtain ⟨k, hk⟩ : ∃ g, g = w1.heap.size := ⟨_, rfl⟩
  have st' : PW w g k S.empty [] w2 := by rw [hg, hk]; exact st
  rw [← hg] at n1
  rw [← hk] at n2
  have ST := Lib.hid st'
  have N1 := Lib.hid n1
  have N2 := Lib.hid n2
  clear st st' n1 n2 hw1 hw2 hg hk hb
  go_wp2_with fail
  refine (N1.out).mono ?_
  rintro e w' ⟨rfl, rfl⟩
  go_wp2_with fail
  refine (N2.out).mono ?_
  rintro e w' ⟨rfl, rfl⟩
  go_wp2_with fail
  generalize hW : w'.alloc _ = W
  have hx : PWM w g k w'.heap.size S.empty (tsOf xs 0) W := by
    rw [← hW, zero242]
    exact ⟨ST.out.next ((Below.refl _ _).alloc (Nat.le_refl _) _), Blk.new _ _ _, ST.out.below.size⟩
  obtain ⟨m, hm⟩ : ∃ m, m = w'.heap.size := ⟨_, rfl⟩
  rw [← hm] at hx ⊢
  have HX := Lib.hid hx
  clear hW hx hm
  go_loopw [20] (fun iv wr => ∃ j : Nat, j ≤ len ∧ iv = .int .i64 j ∧ PWM w g k m (st xs j) (tsOf xs j) wr) (fun iv _ => len - (intOf iv).toNat)
  case atStart => exact ⟨0, by omega, rfl, HX.out⟩
  case round =>
    obtain ⟨j, hj, rfl, hM⟩ := hrel
    by_cases hlt : j < len
    · obtain ⟨b, off, rfl, hb, hc⟩ := HE.out j hlt
      obtain ⟨x, hx⟩ : ∃ v, v = xs j := ⟨_, rfl⟩
      have c1 : wr.cell? ⟨b, off + j, none⟩ = some (.int .i64 x) := by rw [hM.a.below.cell (p := ⟨b, off + j, none⟩) hb, hx]; exact hc j hlt
      have nx1 : st xs (j + 1) = (st xs j).add x := by rw [hx]; rfl
      have nt1 : tsOf xs (j + 1) = tsOf xs j ++ [x] := by rw [hx]; exact tsOf_next _ _
      have hok := hM.a.ok
      have A := Lib.hid (add_any g x _ wr hM.a.b hok)
      have HSL := Lib.hid (fun W (hw : Below w.heap.size w W) => (cut_sl (i := j) hb hlt hcap HCM.out hc).below (w' := W) hw (Nat.le_refl _))
      have HM := Lib.hid hM
      have NX := Lib.hid (And.intro nx1 nt1)
      have HOK := Lib.hid hok
      clear hM nx1 nt1 hb hx hc hok
      go_wp2_with fail
      refine (A.out).mono ?_
      intro e w2 ha
      have h2 := HM.out.a.add ha
      have m2 := HM.out.b.grown ha.2.2 (fun e => blk_ne HM.out.a.b HM.out.b (by decide) (by injection e with e; exact e.symm))
      obtain ⟨rfl, -, -⟩ := ha
      have B := Lib.hid (push_any k _ x w2 h2.rg)
      have HM2 := Lib.hid h2
      have HB2 := Lib.hid m2
      clear h2 m2
      go_wp2_with fail
      refine (B.out).mono ?_
      intro e w3 hb
      have h3 := HM2.out.push hb
      have m3 := HB2.out.grown hb.2.2 (fun e => by
        obtain ⟨_, _, _, q⟩ := HM2.out.rg
        exact blk_ne q HB2.out (by decide) (by injection e with e; exact e.symm))
      obtain ⟨rfl, -, -⟩ := hb
      have C := Lib.hid (madd_any m x _ w3 m3 HOK.out)
      have HM3 := Lib.hid h3
      have HB3 := Lib.hid m3
      clear h3 m3
      go_wp2_with fail
      refine (C.out).mono ?_
      intro e w4 hc
      have h4 : PWM w g k m (st xs (j + 1)) (tsOf xs (j + 1)) w4 := by rw [NX.out.1, NX.out.2]; exact HM3.out.madd HB3.out HM.out.nm hc
      obtain ⟨rfl, -, -⟩ := hc
      have D := Lib.hid (of_any g k _ _ w4 h4.a.b h4.a.ok h4.a.rg)
      have HM4 := Lib.hid h4
      clear h4
      go_wp2_with fail
      refine (D.out).mono ?_
      intro e w5 hd
      have h5 := HM4.out.next hd.2
      obtain ⟨rfl, -⟩ := hd
      have hbd := win_bd h5.a.ok (tsOf xs (j + 1))
      obtain ⟨W5, hW5⟩ : ∃ W, W = win (st xs (j + 1)) (tsOf xs (j + 1)) := ⟨_, rfl⟩
      rw [← hW5] at hbd ⊢
      obtain ⟨wh, wp, wf⟩ := W5
      obtain ⟨p0, p1⟩ := hbd
      simp only at p0 p1
      have HM5 := Lib.hid h5
      have HW5 := Lib.hid hW5
      clear h5 hW5
      unfold Win.val
      simp only
      go_wp2_with fail
      generalize hW6 : w5.alloc _ = W6
      have h6 : PWM w g k m (st xs (j + 1)) (tsOf xs (j + 1)) W6 := by rw [← hW6]; exact HM5.out.next ((Below.refl _ _).alloc (Nat.le_refl _) _)
      have b6 : Blk W6 w5.heap.size 35 #[.int .i64 wh, .int .i64 wp, .int .i64 wf] := by rw [← hW6]; exact Blk.new _ _ _
      obtain ⟨r, hr⟩ : ∃ r, r = w5.heap.size := ⟨_, rfl⟩
      rw [← hr] at b6 ⊢
      have c0 : W6.cell? ⟨r, 0, none⟩ = some (.int .i64 wh) := b6.cell 0
      have c1 : W6.cell? ⟨r, 1, none⟩ = some (.int .i64 wp) := b6.cell 1
      have c2 : W6.cell? ⟨r, 2, none⟩ = some (.int .i64 wf) := b6.cell 2
      have KEEP := Lib.hid (fun w' (hb : Below W6.heap.size W6 w') => (⟨(b6.below hb b6.lt).cell 0, (b6.below hb b6.lt).cell 1, (b6.below hb b6.lt).cell 2, hb⟩ : w'.cell? ⟨r, 0, none⟩ = some (.int .i64 wh) ∧ w'.cell? ⟨r, 1, none⟩ = some (.int .i64 wp) ∧ w'.cell? ⟨r, 2, none⟩ = some (.int .i64 wf) ∧ Below W6.heap.size W6 w'))
      have HLAST := Lib.hid (fun w' (hb : Below W6.heap.size W6 w') => last_any _ _ w' (HSL.out w' ((h6.next hb).a.below)))
      have HLOF := Lib.hid (fun w' (hb : Below W6.heap.size W6 w') v (hv : Sl w' v (last8 (tsOf xs (j + 1)))) => (show Calls Try.prog 17 #[.pointer (some ⟨m, 0, none⟩), v] w' (fun e w2 => e = .returned (.agg #[.int .i64 wh, .int .i64 wp, .int .i64 wf]) ∧ Below w'.heap.size w' w2) by have q := lof_any m v _ _ w' (h6.next hb).b (h6.next hb).a.ok hv; rw [← HW5.out] at q; exact q))
      have BR := Below.refl W6.heap.size W6
      have BR2 := BR.drew
      have HM6 := Lib.hid h6
      have HB6 := Lib.hid b6
      clear hW6 h6 b6 hr
      have j1 : (j : Int) + 1 ≤ (cap : Int) := by omega
      have j2 : 0 ≤ (j : Int) + 1 := by omega
      have j3 : ((j : Int) + 1).toNat = j + 1 := by omega
      have j4 : IntKind.i64.wrap ((j : Int) + 1) = (j : Int) + 1 := IntWalk.i64_in _ (by omega)
      have j5 : j + 1 ≤ cap := by omega
      have j6 : ¬ cap < j + 1 := by omega
      have d1 : decide (wp < 0) = false := decide_eq_false (by omega)
      have d2 : decide (wf ≤ wp) = false := decide_eq_false (by omega)
      go_region_held3 (fun w' => w'.cell? ⟨r, 0, none⟩ = some (.int .i64 wh) ∧ w'.cell? ⟨r, 1, none⟩ = some (.int .i64 wp) ∧ w'.cell? ⟨r, 2, none⟩ = some (.int .i64 wf) ∧ Below W6.heap.size W6 w')
        (first | exact ⟨‹_›, ‹_›, ‹_›, ‹_›⟩ | exact KEEP.out _ (by assumption) | exact KEEP.out _ (Below.trans (by assumption) (Below.mono (by assumption) (Below.size (by assumption)))) | go_keep)
        (first
          | (go_at_call 18; refine (HLAST.out _ (by first | assumption | exact ‹_ ∧ _ ∧ _ ∧ _›.2.2.2)).mono ?_; rintro e w' ⟨v, rfl, hsl, rfl⟩)
          | (go_at_call 17; refine (HLOF.out _ (by first | assumption | exact ‹_ ∧ _ ∧ _ ∧ _›.2.2.2) _ (by assumption)).mono ?_; rintro e w' ⟨rfl, hbl⟩))
      have hbelow : Below W6.heap.size W6 w' := by first | assumption | exact ‹_ ∧ _ ∧ _ ∧ Below _ _ _›.2.2.2
      have h7 := Lib.hid (HM6.out.next hbelow)
      clear j2 j3 j4 j5 j6
      have jj : (j : Int) ≤ 60 := by omega
      go_wp2
      go_roundw
      case rel => exact ⟨j + 1, by omega, by go_num, h7.out⟩
      case measure => simp [intOf]; omega
    · obtain rfl : len = j := by omega
      have HM := Lib.hid hM
      clear hM
      go_wp2
      go_ret
      exact Yes.mk rfl HM.out.a.below
theorem windows_walk (a : Option Addr) (len cap : Nat) (zs : List Int) (w : World) (h : IsRow w a len cap zs) : Calls Try.prog 3 #[.slice a len cap] w (Yes w) := by
  by_cases hl : 60 < len
  · exact windows_many a len cap w hl h.le
  · refine windows_few a len cap _ w (by omega) ?_ ?_ h.elems
    · rcases h with ⟨_, rfl, rfl, _⟩ | ⟨x, rfl, h1, _⟩ <;> omega
    · rcases h with ⟨_, rfl, rfl, _⟩ | ⟨x, rfl, _, h2, _⟩
      · unfold maxLen; omega
      · exact h2
end Go.Proofs.Ytopbhdpfakjkjaa.Policy
