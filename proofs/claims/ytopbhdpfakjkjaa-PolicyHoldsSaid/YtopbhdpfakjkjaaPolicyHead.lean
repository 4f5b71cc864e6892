/- Proved: the document's example of layer 7 holds. -/
import Derived.Test.YtopbhdpfakjkjaaPolicyLaw
import Derived.Test.YtopbhdpfakjkjaaHistoTurnsW
namespace Go.Proofs.Ytopbhdpfakjkjaa.Policy
open Go.RowKit Go.Proofs.Ytopbhdpfakjkjaa.Histo Go.Proofs.Ytopbhdpfakjkjaa.Ring Go.Proofs.Ytopbhdpfakjkjaa.Cast

/-- A histogram and a ring of the call's own. -/
structure PW (w : World) (g k : Nat) (s : S) (ts : List Int) (wr : World) : Prop where
  b : Blk wr g 62 s.cells
  ok : Ok s
  rg : Rg wr k ts
  below : Below w.heap.size w wr
  ng : w.heap.size ≤ g
  nk : w.heap.size ≤ k
theorem blk_ne {w : World} {g k : Nat} {t t' : TypeId} {cs cs' : Array Value} (h : Blk w g t cs) (h' : Blk w k t' cs') (hn : t ≠ t') : g ≠ k := by
  intro e
  subst e
  unfold Blk at h h'
  rw [h] at h'
  injection h' with h'
  injection h' with _ h2 _
  exact hn h2
theorem PW.ne {w wr : World} {g k : Nat} {s : S} {ts : List Int} (h : PW w g k s ts wr) : g ≠ k := by
  obtain ⟨xs, n, _, h2⟩ := h.rg
  exact blk_ne h.b h2 (by decide)
theorem PW.drewN {w wr : World} {g k : Nat} {s : S} {ts : List Int} (h : PW w g k s ts wr) (n : Nat) : PW w g k s ts (wr.drewN n) :=
  ⟨h.b.drewN n, h.ok, h.rg, below_drewN h.below n, h.ng, h.nk⟩
theorem PW.add {w wr w1 : World} {g k : Nat} {s : S} {ts : List Int} {t : Int} {e : Ending} (h : PW w g k s ts wr) (a : Adds wr g (s.add t) e w1) : PW w g k (s.add t) ts w1 := by
  obtain ⟨_, a1, a2⟩ := a
  exact ⟨a1, h.ok.add t, h.rg.same (a2.block k h.rg.lt (fun e => h.ne (by injection e with e; exact e.symm))), below_only h.below a2 h.ng h.below.size, h.ng, h.nk⟩
theorem PW.push {w wr w1 : World} {g k : Nat} {s : S} {ts : List Int} {t : Int} {e : Ending} (h : PW w g k s ts wr) (a : Pushed wr k ts t e w1) : PW w g k s (ts ++ [t]) w1 := by
  obtain ⟨_, a1, a2⟩ := a
  exact ⟨h.b.grown a2 (fun e => h.ne (by injection e)), h.ok, a1, below_only h.below a2 h.nk h.below.size, h.ng, h.nk⟩
theorem PW.next {w wr w1 : World} {g k : Nat} {s : S} {ts : List Int} (h : PW w g k s ts wr) (a : Below wr.heap.size wr w1) : PW w g k s ts w1 :=
  ⟨h.b.below a h.b.lt, h.ok, h.rg.below a h.rg.lt, h.below.trans (a.mono h.below.size), h.ng, h.nk⟩
theorem PW.start {w w0 : World} (hb : Below w.heap.size w w0) : PW w w0.heap.size ((w0.alloc (.cells (hc (List.replicate 240 0) 0 0) 62)).heap.size) S.empty [] ((w0.alloc (.cells (hc (List.replicate 240 0) 0 0) 62)).alloc (.cells (rc (List.replicate 8 0) 0) 65)) :=
  ⟨(Blk.new _ _ _).alloc _, Ok.none, new_rg _, (hb.alloc hb.size _).alloc (by simp; have := hb.size; omega) _, hb.size, by simp; have := hb.size; omega⟩

theorem win_few {s : S} {ts : List Int} (h : s.a + s.o < 4) : win s ts = wfix := by unfold win; rw [if_pos h]
theorem win20 (ts : List Int) : win (S.empty.addN 20 4) ts = ⟨1, 18, 24⟩ := by
  have e : S.empty.addN 20 4 = ⟨zeros.set 20 (4 : Nat), (4 : Nat), 0⟩ := one_bin (t := 20) (by omega) 4 (by omega)
  rw [e]
  have c5 := cut_one (t := 20) (by omega) (n := 4) (by omega) 5
  have c99 := cut_one (t := 20) (by omega) (n := 4) (by omega) 99
  have sp := spread_one (t := 20) (n := 4) (by omega) (by omega)
  unfold win
  rw [sp, c5, c99]
  rfl

set_option maxHeartbeats 4000000 in
theorem head_any (w : World) : Calls Try.prog 10 #[] w (Yes w) := by
  have st := PW.start (Below.refl w.heap.size w)
  have n1 := Histo.new_any w
  generalize hw1 : w.alloc (.cells (hc (List.replicate 240 0) 0 0) 62) = w1 at st n1
  have n2 := Ring.new_any w1
  generalize hw2 : w1.alloc (.cells (rc (List.replicate 8 0) 0) 65) = w2 at st n2
  obtain ⟨g, hg⟩ : ∃ g, g = w.heap.size := ⟨_, rfl⟩
  obtain ⟨k, hk⟩ : ∃ g, g = w1.heap.size := ⟨_, rfl⟩
  have st' : PW w g k S.empty [] w2 := by rw [hg, hk]; exact st
  rw [← hg] at n1
  rw [← hk] at n2
  have ST := Lib.hid st'
  have N1 := Lib.hid n1
  have N2 := Lib.hid n2
  clear st st' n1 n2 hw1 hw2 hg hk
  go_enter Try.func10, Try.ntmps10
  go_wp2_with fail
  refine (N1.out).mono ?_
  rintro e w' ⟨rfl, rfl⟩
  go_wp2_with fail
  refine (N2.out).mono ?_
  rintro e w' ⟨rfl, rfl⟩
  go_wp2_with fail
  go_loopw [3] (fun iv wr => ∃ j : Nat, j ≤ 4 ∧ iv = .int .i64 j ∧ PW w g k (S.empty.addN 20 j) (List.replicate j 20) wr) (fun iv _ => 4 - (intOf iv).toNat)
  case atStart => exact ⟨0, by omega, rfl, ST.out⟩
  case round =>
    obtain ⟨j, hj, rfl, hM⟩ := hrel
    by_cases hlt : j < 4
    · have A := Lib.hid (add_any g 20 _ wr hM.b hM.ok)
      have HM := Lib.hid hM
      clear hM
      go_wp2_with fail
      refine (A.out).mono ?_
      intro e w2 ha
      have h2 := HM.out.add ha
      obtain ⟨rfl, -, -⟩ := ha
      have B := Lib.hid (push_any k _ 20 w2 h2.rg)
      have HM2 := Lib.hid h2
      clear h2
      go_wp2_with fail
      refine (B.out).mono ?_
      intro e w3 hb
      have h3 : PW w g k (S.empty.addN 20 (j + 1)) (List.replicate (j + 1) 20) w3 := by
        rw [List.replicate_succ']
        exact HM2.out.push hb
      obtain ⟨rfl, -, -⟩ := hb
      have HM3 := Lib.hid h3
      clear h3
      go_wp2
      go_roundw
      case rel => exact ⟨j + 1, by omega, by go_num, HM3.out⟩
      case measure => simp [intOf]; omega
    · obtain rfl : j = 4 := by omega
      have A := of_any g k _ _ wr hM.b hM.ok hM.rg
      rw [win20] at A
      have HA := Lib.hid A
      have HM := Lib.hid hM
      clear A hM
      go_wp2_with fail
      refine (HA.out).mono ?_
      intro e w2 ha
      have h2 := HM.out.next ha.2
      obtain ⟨rfl, -⟩ := ha
      unfold Win.val
      simp only
      have st := PW.start h2.below
      have n1 := Histo.new_any w2
      generalize hw1 : w2.alloc (.cells (hc (List.replicate 240 0) 0 0) 62) = w3 at st n1
      have n2 := Ring.new_any w3
      generalize hw2 : w3.alloc (.cells (rc (List.replicate 8 0) 0) 65) = w4 at st n2
      obtain ⟨g', hg⟩ : ∃ g, g = w2.heap.size := ⟨_, rfl⟩
      obtain ⟨k', hk⟩ : ∃ g, g = w3.heap.size := ⟨_, rfl⟩
      have st' : PW w g' k' S.empty [] w4 := by rw [hg, hk]; exact st
      rw [← hg] at n1
      rw [← hk] at n2
      have n3 := of_any g' k' _ _ w4 st'.b st'.ok st'.rg
      rw [win_few (by decide)] at n3
      have ST2 := Lib.hid st'
      have N3 := Lib.hid n1
      have N4 := Lib.hid n2
      have N5 := Lib.hid n3
      clear st st' n1 n2 n3 hw1 hw2 hg hk h2
      go_wp2_with fail
      refine (N3.out).mono ?_
      rintro e w' ⟨rfl, rfl⟩
      go_wp2_with fail
      refine (N4.out).mono ?_
      rintro e w' ⟨rfl, rfl⟩
      go_wp2_with fail
      refine (N5.out).mono ?_
      intro e w5 hx
      have h5 := ST2.out.next hx.2
      obtain ⟨rfl, -⟩ := hx
      have H5 := Lib.hid h5
      clear h5
      unfold Win.val wfix
      simp only
      go_wp2
      go_ret
      exact Yes.mk rfl H5.out.below
end Go.Proofs.Ytopbhdpfakjkjaa.Policy
