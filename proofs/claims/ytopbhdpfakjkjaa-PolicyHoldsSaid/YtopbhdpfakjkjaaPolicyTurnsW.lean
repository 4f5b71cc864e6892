/- Proved: the walk of the law PolicyTurns: it answers true, for all slices and places. -/
import Derived.Test.YtopbhdpfakjkjaaPolicyHead
namespace Go.Proofs.Ytopbhdpfakjkjaa.Policy
open Go.RowKit Go.Proofs.Ytopbhdpfakjkjaa.Histo Go.Proofs.Ytopbhdpfakjkjaa.Ring Go.Proofs.Ytopbhdpfakjkjaa.Cast

/-- The numbers f 0, f 1, .. -/
def tsOf (f : Nat → Int) (k : Nat) : List Int := (List.range k).map f
theorem tsOf_next (f : Nat → Int) (k : Nat) : tsOf f (k + 1) = tsOf f k ++ [f k] := by unfold tsOf; rw [List.range_succ, List.map_append]; rfl
theorem st_o0 (xs : Nat → Int) (h : ∀ i, xs i < 240) : ∀ k, k ≤ 4000 → (st xs k).o = 0
  | 0, _ => rfl
  | k + 1, hk => by
    rw [st_next xs k (by omega)]
    have ih := st_o0 xs h k (by omega)
    have := h k
    by_cases h0 : xs k < 0
    · rw [if_pos h0]; exact ih
    · rw [if_neg h0, raw_over, if_neg (by omega)]; omega
theorem win_ts {s : S} (ok : Ok s) (h : s.o = 0) (ts ts' : List Int) : win s ts = win s ts' := by
  have := ok.a0
  unfold win
  by_cases h4 : s.a + s.o < 4
  · rw [if_pos h4, if_pos h4]
  · have h5 : ¬ s.a + s.o < 2 * s.o := by omega
    rw [if_neg h4, if_neg h4, if_neg h5, if_neg h5]
theorem PW.other {w wr w1 : World} {g k q : Nat} {s : S} {ts : List Int} (h : PW w g k s ts wr) (a : wr.grownBy w1 (some q)) (h1 : g ≠ q) (h2 : k ≠ q) (hq : w.heap.size ≤ q) : PW w g k s ts w1 :=
  ⟨h.b.grown a (fun e => h1 (by injection e)), h.ok, h.rg.same (a.block k h.rg.lt (fun e => h2 (by injection e))), below_only h.below a hq h.below.size, h.ng, h.nk⟩
/-- Two of each, none in another's place. -/
structure PW2 (w : World) (g k g2 k2 : Nat) (s s2 : S) (ts ts2 : List Int) (wr : World) : Prop where
  a : PW w g k s ts wr
  b : PW w g2 k2 s2 ts2 wr
  ng : g ≠ g2
  nk : k ≠ k2
theorem PW2.gk {w wr : World} {g k g2 k2 : Nat} {s s2 : S} {ts ts2 : List Int} (h : PW2 w g k g2 k2 s s2 ts ts2 wr) : g ≠ k2 ∧ g2 ≠ k := by
  obtain ⟨_, _, _, h2⟩ := h.a.rg
  obtain ⟨_, _, _, h4⟩ := h.b.rg
  exact ⟨blk_ne h.a.b h4 (by decide), blk_ne h.b.b h2 (by decide)⟩
theorem PW2.add {w wr w1 : World} {g k g2 k2 : Nat} {s s2 : S} {ts ts2 : List Int} {t : Int} {e : Ending} (h : PW2 w g k g2 k2 s s2 ts ts2 wr) (x : Adds wr g (s.add t) e w1) : PW2 w g k g2 k2 (s.add t) s2 ts ts2 w1 :=
  ⟨h.a.add x, h.b.other x.2.2 (Ne.symm h.ng) (Ne.symm h.gk.1) h.a.ng, h.ng, h.nk⟩
theorem PW2.push {w wr w1 : World} {g k g2 k2 : Nat} {s s2 : S} {ts ts2 : List Int} {t : Int} {e : Ending} (h : PW2 w g k g2 k2 s s2 ts ts2 wr) (x : Pushed wr k ts t e w1) : PW2 w g k g2 k2 s s2 (ts ++ [t]) ts2 w1 :=
  ⟨h.a.push x, h.b.other x.2.2 h.gk.2 (Ne.symm h.nk) h.a.nk, h.ng, h.nk⟩
theorem PW2.swap {w wr : World} {g k g2 k2 : Nat} {s s2 : S} {ts ts2 : List Int} (h : PW2 w g k g2 k2 s s2 ts ts2 wr) : PW2 w g2 k2 g k s2 s ts2 ts wr := ⟨h.b, h.a, Ne.symm h.ng, Ne.symm h.nk⟩
theorem PW2.next {w wr w1 : World} {g k g2 k2 : Nat} {s s2 : S} {ts ts2 : List Int} (h : PW2 w g k g2 k2 s s2 ts ts2 wr) (x : Below wr.heap.size wr w1) : PW2 w g k g2 k2 s s2 ts ts2 w1 := ⟨h.a.next x, h.b.next x, h.ng, h.nk⟩
abbrev ncell : Obj := .cells (hc (List.replicate 240 0) 0 0) 62
abbrev rcell : Obj := .cells (rc (List.replicate 8 0) 0) 65
theorem PW2.start {w w0 : World} (hb : Below w.heap.size w w0) : PW2 w w0.heap.size (w0.heap.size + 2) (w0.heap.size + 1) (w0.heap.size + 3) S.empty S.empty [] [] ((((w0.alloc ncell).alloc ncell).alloc rcell).alloc rcell) := by
  have h0 := hb.size
  have e1 : (w0.alloc ncell).heap.size = w0.heap.size + 1 := by simp
  have e2 : ((w0.alloc ncell).alloc ncell).heap.size = w0.heap.size + 2 := by simp
  have e3 : (((w0.alloc ncell).alloc ncell).alloc rcell).heap.size = w0.heap.size + 3 := by simp
  have b1 : Blk (w0.alloc ncell) w0.heap.size 62 S.empty.cells := Blk.new _ _ _
  have b2 : Blk ((w0.alloc ncell).alloc ncell) (w0.heap.size + 1) 62 S.empty.cells := by rw [← e1]; exact Blk.new _ _ _
  have b3 : Rg (((w0.alloc ncell).alloc ncell).alloc rcell) (w0.heap.size + 2) [] := by rw [← e2]; exact new_rg _
  have b4 : Rg ((((w0.alloc ncell).alloc ncell).alloc rcell).alloc rcell) (w0.heap.size + 3) [] := by rw [← e3]; exact new_rg _
  have bl : Below w.heap.size w ((((w0.alloc ncell).alloc ncell).alloc rcell).alloc rcell) := (((hb.alloc (by omega) _).alloc (by omega) _).alloc (by omega) _).alloc (by omega) _
  exact ⟨⟨((b1.alloc _).alloc _).alloc _, Ok.none, b3.same (Below.heap_alloc _ _ _ (by omega)), bl, by omega, by omega⟩, ⟨(b2.alloc _).alloc _, Ok.none, b4, bl, by omega, by omega⟩, by omega, by omega⟩

theorem turns_many (a : Option Addr) (len cap : Nat) (p : Int) (w : World) (hl : 60 < len) (hm : len ≤ maxLen) : Calls Try.prog 7 #[.slice a len cap, .int .i64 p] w (Yes w) := by
  unfold maxLen at hm
  have hll : (60 : Int) < (len : Int) := by omega
  go_enter Try.func7, Try.ntmps7
  go_wp2_with fail
  refine (head_any _).mono ?_
  rintro e w1 ⟨rfl, hb1⟩
  have HB := Lib.hid hb1
  clear hb1
  go_wp2
  go_ret
  exact Yes.mk rfl HB.out

set_option maxRecDepth 100000 in
set_option maxHeartbeats 8000000 in
theorem turns_few (a : Option Addr) (len cap : Nat) (xs : Nat → Int) (p : Int) (w : World) (hl : len ≤ 60) (h : Elems w a len xs) : Calls Try.prog 7 #[.slice a len cap, .int .i64 p] w (Yes w) := by
  obtain ⟨r, hr⟩ : ∃ r : Nat, (r : Int) = p % 65536 := ⟨(p % 65536).toNat, by omega⟩
  have er : Go.bits .and .i64 p 65535 = (r : Int) := by rw [and_u16, hr]
  have hr' : r ≤ 65535 := by omega
  have hll : ¬ 60 < (len : Int) := by omega
  obtain ⟨us, hus⟩ : ∃ us : Nat → Int, us = fun i => xs i % 128 := ⟨_, rfl⟩
  obtain ⟨ys, hys⟩ : ∃ ys : Nat → Int, ys = fun i => us ((i + r) % len) := ⟨_, rfl⟩
  have ht := st_turn us r len (by omega)
  rw [← hys] at ht
  have hov := st_o0 us (fun i => by rw [hus]; simp only; omega) len (by omega)
  have HT := Lib.hid ht
  have HU := Lib.hid hus
  have HY := Lib.hid hys
  have HE := Lib.hid h
  have HOV := Lib.hid hov
  clear h hr ht hys hus hov
  go_enter Try.func7, Try.ntmps7
  go_wp2_with fail
  refine (head_any _).mono ?_
  rintro e w0 ⟨rfl, hb⟩
  have st0 := PW2.start hb
  have n1 := Histo.new_any w0
  have e1 : (w0.alloc ncell).heap.size = w0.heap.size + 1 := by simp
  have e2 : ((w0.alloc ncell).alloc ncell).heap.size = w0.heap.size + 2 := by simp
  have e3 : (((w0.alloc ncell).alloc ncell).alloc rcell).heap.size = w0.heap.size + 3 := by simp
  have n2 := Histo.new_any (w0.alloc ncell)
  have n3 := Ring.new_any ((w0.alloc ncell).alloc ncell)
  have n4 := Ring.new_any (((w0.alloc ncell).alloc ncell).alloc rcell)
  rw [e1] at n2
  rw [e2] at n3
  rw [e3] at n4
  obtain ⟨g, hg⟩ : ∃ g, g = w0.heap.size := ⟨_, rfl⟩
  rw [← hg] at n1 n2 n3 n4 st0
  obtain ⟨g2, hg2⟩ : ∃ x, x = g + 1 := ⟨_, rfl⟩
  obtain ⟨k, hk⟩ : ∃ x, x = g + 2 := ⟨_, rfl⟩
  obtain ⟨k2, hk2⟩ : ∃ x, x = g + 3 := ⟨_, rfl⟩
  rw [← hg2] at n2 st0
  rw [← hk] at n3 st0
  rw [← hk2] at n4 st0
  generalize w0.alloc ncell = w1 at n1 n2 n3 n4 st0
  generalize w1.alloc ncell = w2 at n2 n3 n4 st0
  generalize w2.alloc rcell = w3 at n3 n4 st0
  generalize w3.alloc rcell = w4 at n4 st0
  have ST := Lib.hid st0
  have N1 := Lib.hid n1
  have N2 := Lib.hid n2
  have N3 := Lib.hid n3
  have N4 := Lib.hid n4
  clear st0 n1 n2 n3 n4 hg hg2 hk hk2 e1 e2 e3 hb
  go_wp2_with fail
  refine (N1.out).mono ?_
  rintro e w' ⟨rfl, rfl⟩
  go_wp2_with fail
  refine (N2.out).mono ?_
  rintro e w' ⟨rfl, rfl⟩
  go_wp2_with fail
  refine (N3.out).mono ?_
  rintro e w' ⟨rfl, rfl⟩
  go_wp2_with fail
  refine (N4.out).mono ?_
  rintro e w' ⟨rfl, rfl⟩
  go_wp2_with fail
  go_loopw [26] (fun iv wr => ∃ j : Nat, j ≤ len ∧ iv = .int .i64 j ∧ PW2 w g k g2 k2 (st us j) (st ys j) (tsOf us j) (tsOf ys j) wr) (fun iv _ => len - (intOf iv).toNat)
  case atStart => exact ⟨0, by omega, rfl, ST.out⟩
  case round =>
    obtain ⟨j, hj, rfl, hM⟩ := hrel
    by_cases hlt : j < len
    · obtain ⟨b, off, rfl, hb, hc⟩ := HE.out j hlt
      obtain ⟨i, hi⟩ : ∃ i, i = (j + r) % len := ⟨_, rfl⟩
      have hin : i < len := by rw [hi]; exact Nat.mod_lt _ (by omega)
      obtain ⟨v, hv⟩ : ∃ v, v = xs j := ⟨_, rfl⟩
      obtain ⟨u, hu⟩ : ∃ v, v = xs i := ⟨_, rfl⟩
      have c1 : wr.cell? ⟨b, off + j, none⟩ = some (.int .i64 v) := by rw [hM.a.below.cell (p := ⟨b, off + j, none⟩) hb, hv]; exact hc j hlt
      have c2 : wr.cell? ⟨b, off + i, none⟩ = some (.int .i64 u) := by rw [hM.a.below.cell (p := ⟨b, off + i, none⟩) hb, hu]; exact hc i hin
      obtain ⟨v2, hv2⟩ : ∃ x, x = v % 128 := ⟨_, rfl⟩
      obtain ⟨u2, hu2⟩ : ∃ x, x = u % 128 := ⟨_, rfl⟩
      have a1 : Go.bits .and .i64 v 127 = v2 := by rw [and_127, hv2]
      have a2 : Go.bits .and .i64 u 127 = u2 := by rw [and_127, hu2]
      have hv3 : v2 = us j := by rw [HU.out, hv2, hv]
      have hu3 : u2 = ys j := by rw [HY.out]; simp only; rw [← hi, HU.out, hu2, hu]
      have ej : ((j : Int) + (r : Int)) % (len : Int) = (i : Int) := by rw [hi]; simp
      have ej2 : ((j : Int) + (r : Int)).tmod (len : Int) = (i : Int) := by rw [Int.tmod_eq_emod_of_nonneg (by omega)]; exact ej
      have hn0 : ¬ (len : Int) = 0 := by omega
      have hn1 : ¬ len = 0 := by omega
      have nx1 : st us (j + 1) = (st us j).add v2 := by rw [hv3]; rfl
      have nx2 : st ys (j + 1) = (st ys j).add u2 := by rw [hu3]; rfl
      have nt1 : tsOf us (j + 1) = tsOf us j ++ [v2] := by rw [hv3]; exact tsOf_next _ _
      have nt2 : tsOf ys (j + 1) = tsOf ys j ++ [u2] := by rw [hu3]; exact tsOf_next _ _
      have A := Lib.hid (add_any g v2 _ wr hM.a.b hM.a.ok)
      have HM := Lib.hid hM
      have NX := Lib.hid (And.intro nx1 (And.intro nx2 (And.intro nt1 nt2)))
      clear hM hv hu hb hc hi hv2 hu2 hv3 hu3 nx1 nx2 nt1 nt2
      go_wp2_with fail
      refine (A.out).mono ?_
      intro e w2 ha
      have h2 := HM.out.add ha
      obtain ⟨rfl, -, -⟩ := ha
      have B := Lib.hid (push_any k _ v2 w2 h2.a.rg)
      have HM2 := Lib.hid h2
      clear h2 c1 c2
      go_wp2_with fail
      refine (B.out).mono ?_
      intro e w3 hb
      have h3 := HM2.out.push hb
      obtain ⟨rfl, -, -⟩ := hb
      have C := Lib.hid (add_any g2 u2 _ w3 h3.b.b h3.b.ok)
      have HM3 := Lib.hid h3
      clear h3
      go_wp2_with fail
      refine (C.out).mono ?_
      intro e w4 ha
      have h4 := (HM3.out.swap.add ha).swap
      obtain ⟨rfl, -, -⟩ := ha
      have D := Lib.hid (push_any k2 _ u2 w4 h4.b.rg)
      have HM4 := Lib.hid h4
      clear h4
      go_wp2_with fail
      refine (D.out).mono ?_
      intro e w5 hb
      have h5 : PW2 w g k g2 k2 (st us (j + 1)) (st ys (j + 1)) (tsOf us (j + 1)) (tsOf ys (j + 1)) w5 := by
        rw [NX.out.1, NX.out.2.1, NX.out.2.2.1, NX.out.2.2.2]
        exact (HM4.out.swap.push hb).swap
      obtain ⟨rfl, -, -⟩ := hb
      have HM5 := Lib.hid h5
      clear h5
      go_wp2
      go_roundw
      case rel => exact ⟨j + 1, by omega, by go_num, HM5.out⟩
      case measure => simp [intOf]; omega
    · obtain rfl : len = j := by omega
      have hok := hM.a.ok
      have q1 := win_ts hok HOV.out (tsOf us len) []
      have q2 : win (st ys len) (tsOf ys len) = win (st us len) [] := by rw [HT.out]; exact win_ts hok HOV.out _ _
      have A := of_any g k _ _ wr hM.a.b hM.a.ok hM.a.rg
      rw [q1] at A
      obtain ⟨W, hW⟩ : ∃ W, W = win (st us len) [] := ⟨_, rfl⟩
      rw [← hW] at A q1 q2
      obtain ⟨wh, wp, wf⟩ := W
      have HA := Lib.hid A
      have HM := Lib.hid hM
      have HQ1 := Lib.hid q1
      have HQ2 := Lib.hid q2
      have HW := Lib.hid hW
      clear A hM q1 q2 hW hok
      go_wp2_with fail
      refine (HA.out).mono ?_
      intro e w2 ha
      have h2 := HM.out.next ha.2
      obtain ⟨rfl, -⟩ := ha
      have A2 := of_any g2 k2 _ _ w2 h2.b.b h2.b.ok h2.b.rg
      rw [HQ2.out] at A2
      have HA2 := Lib.hid A2
      have HM2 := Lib.hid h2
      clear A2 h2
      unfold Win.val
      simp only
      go_wp2_with fail
      refine (HA2.out).mono ?_
      intro e w3 ha
      have h3 := HM2.out.next ha.2
      obtain ⟨rfl, -⟩ := ha
      unfold Win.val
      simp only
      have n5 := Ring.new_any w3
      have r5 := new_rg w3
      have h4 := h3.next ((Below.refl _ _).alloc (Nat.le_refl _) rcell)
      obtain ⟨k3, hk3⟩ : ∃ k3, k3 = w3.heap.size := ⟨_, rfl⟩
      rw [← hk3] at n5 r5
      generalize w3.alloc rcell = w4 at n5 r5 h4
      have A3 := of_any g k3 _ _ w4 h4.a.b h4.a.ok r5
      rw [← HW.out] at A3
      have N5 := Lib.hid n5
      have HA3 := Lib.hid A3
      have HM4 := Lib.hid h4
      clear n5 r5 h3 h4 hk3 A3
      go_wp2_with fail
      refine (N5.out).mono ?_
      rintro e w' ⟨rfl, rfl⟩
      go_wp2_with fail
      refine (HA3.out).mono ?_
      intro e w5 ha
      have h5 := HM4.out.next ha.2
      obtain ⟨rfl, -⟩ := ha
      unfold Win.val
      simp only
      have A4 := of_any g k _ _ w5 h5.a.b h5.a.ok h5.a.rg
      rw [HQ1.out] at A4
      have HA4 := Lib.hid A4
      have HM5 := Lib.hid h5
      clear A4 h5
      go_wp2_with fail
      refine (HA4.out).mono ?_
      intro e w6 ha
      have h6 := HM5.out.next ha.2
      obtain ⟨rfl, -⟩ := ha
      unfold Win.val
      simp only
      have HM6 := Lib.hid h6
      clear h6
      go_wp2
      go_ret
      exact Yes.mk (by simp) HM6.out.a.below
theorem turns_walk (a : Option Addr) (len cap : Nat) (zs : List Int) (x : Int) (w : World) (h : IsRow w a len cap zs) : Calls Try.prog 7 #[.slice a len cap, .int .i64 x] w (Yes w) := by
  by_cases hl : 60 < len
  · exact turns_many a len cap x w hl h.le
  · exact turns_few a len cap _ x w (by omega) h.elems
end Go.Proofs.Ytopbhdpfakjkjaa.Policy
