/- Proved: the walk of the law PolicyFar: it answers true, for all slices and numbers. -/
import Derived.Test.YtopbhdpfakjkjaaPolicyTurnsW
namespace Go.Proofs.Ytopbhdpfakjkjaa.Policy
open Go.RowKit Go.Proofs.Ytopbhdpfakjkjaa.Histo Go.Proofs.Ytopbhdpfakjkjaa.Ring Go.Proofs.Ytopbhdpfakjkjaa.Cast

theorem st_far (us : Nat → Int) (near n : Nat) (h1 : ∀ i, i < near → 0 ≤ us i ∧ us i < 240) (h2 : ∀ i, near ≤ i → i < n → 240 ≤ us i) : ∀ k, k ≤ 4000 → k ≤ n → (st us k).a = (min k near : Nat) ∧ (st us k).o = (k - near : Nat)
  | 0, _, _ => by simp [st, S.empty]
  | k + 1, hk, hn => by
    obtain ⟨i1, i2⟩ := st_far us near n h1 h2 k (by omega) (by omega)
    rw [st_next us k (by omega)]
    have hr := (st_ok us k).raw_all (us k)
    by_cases h : k < near
    · have := h1 k h
      rw [if_neg (by omega), raw_over, if_neg (by omega)]
      unfold S.raw
      rw [if_pos this.2]
      simp only
      rw [i1, i2]
      omega
    · have := h2 k (by omega) (by omega)
      rw [if_neg (by omega), raw_over, if_pos (by omega)]
      unfold S.raw
      rw [if_neg (by omega)]
      simp only
      rw [i1, i2]
      omega
/-- The slice of the call's own lies in neither. -/
def TL (_ : World) (g k : Nat) (v : Value) : Prop := v.ownBlock ≠ some g ∧ v.ownBlock ≠ some k
theorem hown_other {wr w1 : World} {B g n : Nat} {v : Value} {xs : List Value} (h : wr.ownsRow B 2 1 v n xs) (a : wr.grownBy w1 (some g)) (hn : v.ownBlock ≠ some g) : w1.ownsRow B 2 1 v n xs := h.kept a (.inr hn)
theorem PW.far {w wr w1 : World} {g k : Nat} {s : S} {ts : List Int} {v : Value} (h : PW w g k s ts wr) (a : wr.grownBy w1 v.ownBlock) (ht : TL w g k v) (hb : ∀ q, v.ownBlock = some q → w.heap.size ≤ q) : PW w g k s ts w1 :=
  ⟨h.b.grown a (fun e => ht.1 e.symm), h.ok, h.rg.same (a.block k h.rg.lt (fun e => ht.2 e.symm)), h.below.grown a h.below.size hb, h.ng, h.nk⟩
theorem TL.of {w wr : World} {g k B n : Nat} {s : S} {ts : List Int} {v : Value} {xs : List Value} (h : wr.ownsRow B 2 1 v n xs) (p : PW w g k s ts wr) : TL w g k v := by
  obtain ⟨_, h2⟩ := h
  rcases h2 with ⟨rfl, _⟩ | ⟨q, cap, cur, rfl, _, hb, _⟩
  · exact ⟨by simp [Value.ownBlock], by simp [Value.ownBlock]⟩
  · obtain ⟨_, _, _, h4⟩ := p.rg
    have hq : Blk wr q 2 cur := hb
    refine ⟨fun e => ?_, fun e => ?_⟩
    · simp only [Value.ownBlock, Option.some.injEq] at e; exact blk_ne hq p.b (by decide) e
    · simp only [Value.ownBlock, Option.some.injEq] at e; exact blk_ne hq h4 (by decide) e

theorem far_none (a : Option Addr) (len cap : Nat) (p : Int) (w : World) (hl : len < 4) (hm : len ≤ maxLen) : Calls Try.prog 6 #[.slice a len cap, .int .i64 p] w (Yes w) := by
  unfold maxLen at hm
  have hll : decide ((len : Int) < 4) = true := decide_eq_true (by omega)
  go_enter Try.func6, Try.ntmps6
  go_wp2_with fail
  refine (head_any _).mono ?_
  rintro e w1 ⟨rfl, hb1⟩
  have HB := Lib.hid hb1
  clear hb1
  go_wp2
  go_ret
  exact Yes.mk rfl HB.out

theorem far_many (a : Option Addr) (len cap : Nat) (p : Int) (w : World) (hl : 60 < len) (hm : len ≤ maxLen) : Calls Try.prog 6 #[.slice a len cap, .int .i64 p] w (Yes w) := by
  unfold maxLen at hm
  have hll : decide ((len : Int) < 4) = false := decide_eq_false (by omega)
  have hl2 : (60 : Int) < (len : Int) := by omega
  go_enter Try.func6, Try.ntmps6
  go_wp2_with fail
  refine (head_any _).mono ?_
  rintro e w1 ⟨rfl, hb1⟩
  have HB := Lib.hid hb1
  clear hb1
  go_wp2
  go_ret
  exact Yes.mk rfl HB.out

set_option maxRecDepth 100000 in
set_option maxHeartbeats 8000000 in
theorem far_some (a : Option Addr) (len cap : Nat) (xs : Nat → Int) (p : Int) (w : World) (h4 : 4 ≤ len) (hl : len ≤ 60) (h : Elems w a len xs) : Calls Try.prog 6 #[.slice a len cap, .int .i64 p] w (Yes w) := by
  obtain ⟨R, hR⟩ : ∃ R : Nat, (R : Int) = p % 256 := ⟨(p % 256).toNat, by omega⟩
  obtain ⟨near, hnear⟩ : ∃ m, m = R % len := ⟨_, rfl⟩
  have e1 : Go.bits .and .i64 p 255 = (R : Int) := by rw [and_255, hR]
  have hR2 : R ≤ 255 := by omega
  have e2 : (R : Int) % (len : Int) = (near : Int) := by rw [hnear]; simp
  have e3 : (R : Int).tmod (len : Int) = (near : Int) := by rw [Int.tmod_eq_emod_of_nonneg (by omega)]; exact e2
  have hnl : near < len := by rw [hnear]; exact Nat.mod_lt _ (by omega)
  have hn0 : ¬ (len : Int) = 0 := by omega
  have hn1 : ¬ len = 0 := by omega
  have hll : decide ((len : Int) < 4) = false := decide_eq_false (by omega)
  have hl2 : ¬ (60 : Int) < (len : Int) := by omega
  obtain ⟨us, hus⟩ : ∃ us : Nat → Int, us = fun i => if i < near then (240 + xs i % 65536) % 128 else 240 + xs i % 65536 := ⟨_, rfl⟩
  have hst := st_far us near len (fun i hi => by rw [hus]; simp only; rw [if_pos hi]; omega) (fun i hi _ => by rw [hus]; simp only; rw [if_neg (by omega)]; omega) len (by omega) (Nat.le_refl _)
  have hw2 : 2 * near < len → win (st us len) (tsOf us len) = wcast (nx (last8 (tsOf us len))) := fun h2 => by
    unfold win
    rw [hst.1, hst.2, if_neg (by omega), if_pos (by omega)]
  obtain ⟨i0, hi, hz0, hz1, hz2⟩ := info_parts info_i64
  have HI := Lib.hid hi
  have HZ0 := Lib.hid hz0
  have HZ1 := Lib.hid hz1
  have HZ2 := Lib.hid hz2
  have HU := Lib.hid hus
  have HE := Lib.hid h
  have HW2 := Lib.hid hw2
  clear h hus hst hw2 hR hnear hi hz0 hz1 hz2
  go_enter Try.func6, Try.ntmps6
  go_wp2_with fail
  refine (head_any _).mono ?_
  rintro e w0 ⟨rfl, hb⟩
  have hll2 : ¬ (len : Int) < 4 := by omega
  go_wp2_with fail
  have st := PW.start hb
  have n1 := Histo.new_any w0
  generalize hw1 : w0.alloc (.cells (hc (List.replicate 240 0) 0 0) 62) = w1 at st n1
  have n2 := Ring.new_any w1
  generalize hw2 : w1.alloc (.cells (rc (List.replicate 8 0) 0) 65) = w2 at st n2
  obtain ⟨g, hg⟩ : ∃ g, g = w0.heap.size := ⟨_, rfl⟩
  obtain ⟨k, hk⟩ : ∃ g, g = w1.heap.size := ⟨_, rfl⟩
  have st' : PW w g k S.empty [] w2 := by rw [hg, hk]; exact st
  rw [← hg] at n1
  rw [← hk] at n2
  have ST := Lib.hid st'
  have N1 := Lib.hid n1
  have N2 := Lib.hid n2
  clear st st' n1 n2 hw1 hw2 hg hk hb
  go_wp2_with fail
  refine (N1.out).mono ?_
  rintro e w' ⟨rfl, rfl⟩
  go_wp2_with fail
  refine (N2.out).mono ?_
  rintro e w' ⟨rfl, rfl⟩
  by_cases h2n : len ≤ 2 * near
  · have h2n' : (len : Int) ≤ 2 * (near : Int) := by omega
    go_wp2
    go_ret
    exact Yes.mk rfl ST.out.below
  have h2n' : ¬ (len : Int) ≤ 2 * (near : Int) := by omega
  go_wp2_with fail
  generalize hW : w'.alloc _ = W
  have hx : PW w g k (st us 0) (tsOf us 0) W ∧ W.ownsRow w.heap.size 2 1 (.slice (some ⟨w'.heap.size, 0, none⟩) 0 0) 0 [] := by
    refine ⟨by rw [← hW]; exact ST.out.next ((Below.refl _ _).alloc (Nat.le_refl _) _), ?_⟩
    rw [← hW]
    exact World.ownsRow_made w' #[] 0 ST.out.below.size (by unfold maxLen; omega) rfl
  have htl := TL.of hx.2 hx.1
  obtain ⟨q0, hq0⟩ : ∃ q, q = w'.heap.size := ⟨_, rfl⟩
  rw [← hq0] at hx htl ⊢
  have HX := Lib.hid hx
  have HTL := Lib.hid htl
  clear hW hx htl hq0
  go_loopw [7, 37] (fun v iv wr => ∃ j : Nat, j ≤ len ∧ iv = .int .i64 j ∧ PW w g k (st us j) (tsOf us j) wr ∧ TL w g k v ∧ wr.ownsRow w.heap.size 2 1 v j ((tsOf us j).map (Value.int .i64))) (fun _ iv _ => len - (intOf iv).toNat)
  case atStart => exact ⟨0, by omega, rfl, HX.out.1, HTL.out, HX.out.2⟩
  case round =>
    obtain ⟨j, hj, rfl, hM, htl, hown⟩ := hrel
    by_cases hlt : j < len
    · obtain ⟨b, off, rfl, hb, hc⟩ := HE.out j hlt
      obtain ⟨x, hx⟩ : ∃ v, v = xs j := ⟨_, rfl⟩
      have c1 : wr.cell? ⟨b, off + j, none⟩ = some (.int .i64 x) := by rw [hM.below.cell (p := ⟨b, off + j, none⟩) hb, hx]; exact hc j hlt
      obtain ⟨y, hy⟩ : ∃ y, y = x % 65536 := ⟨_, rfl⟩
      have a1 : Go.bits .and .i64 x 65535 = y := by rw [and_u16, hy]
      have y0 : 0 ≤ y := by omega
      have y1 : y ≤ 65535 := by omega
      obtain ⟨u, hu⟩ : ∃ u, u = us j := ⟨_, rfl⟩
      have nx1 : st us (j + 1) = (st us j).add u := by rw [hu]; rfl
      have nt1 : tsOf us (j + 1) = tsOf us j ++ [u] := by rw [hu]; exact tsOf_next _ _
      have elt : True := trivial
      by_cases hnj : j < near
      · obtain ⟨z, hz⟩ : ∃ z, z = 240 + y := ⟨_, rfl⟩
        have a2 : Go.bits .and .i64 (240 + y) 127 = u := by rw [and_127, hu, HU.out]; simp only; rw [if_pos hnj, ← hx, hy]
        have u0 : 0 ≤ u := by have := and_127 (240 + y); omega
        have u1 : u ≤ 65775 := by have := and_127 (240 + y); omega
        clear hy hx hc hz
        have A := Lib.hid (add_any g u _ wr hM.b hM.ok)
        have HM := Lib.hid hM
        have HOW := Lib.hid hown
        have HT := Lib.hid htl
        have NX := Lib.hid (And.intro nx1 nt1)
        have ELT := Lib.hid elt
        clear hM hown htl nx1 nt1 hb hu elt
        go_wp2_with fail
        refine (A.out).mono ?_
        intro e w2 ha
        have h2 := HM.out.add ha
        have o2 := hown_other HOW.out ha.2.2 HT.out.1
        obtain ⟨rfl, -, -⟩ := ha
        have B := Lib.hid (push_any k _ u w2 h2.rg)
        have HM2 := Lib.hid h2
        have HO2 := Lib.hid o2
        clear h2 o2
        go_wp2_with fail
        refine (B.out).mono ?_
        intro e w3 hb
        have h3 : PW w g k (st us (j + 1)) (tsOf us (j + 1)) w3 := by rw [NX.out.1, NX.out.2]; exact HM2.out.push hb
        have o3 := hown_other HO2.out hb.2.2 HT.out.2
        obtain ⟨rfl, -, -⟩ := hb
        have h3s := h3.below.size
        obtain ⟨acc, hacc⟩ : ∃ acc, acc = (tsOf us j).map (Value.int .i64) := ⟨_, rfl⟩
        have hacc2 : (tsOf us (j + 1)).map (Value.int .i64) = acc ++ [.int .i64 u] := by rw [NX.out.2, List.map_append, hacc]; rfl
        rw [← hacc] at o3
        have HM3 := Lib.hid h3
        have HO3 := Lib.hid o3
        have HACC := Lib.hid hacc2
        have H3S := Lib.hid h3s
        clear h3 o3 hacc hacc2 h3s
        go_wp2_with (at_builtin; refine wpList_append_own _ rfl _ _ 22 rfl w.heap.size 2 i0 (.int .i64 0) 1 8 Try.underlying22 HI.out HZ0.out HZ1.out HZ2.out rfl (by decide) _ j acc rfl (HO3.out.alloc _) ⟨w3.heap.size, 0, none⟩ 1 1 [.int .i64 u] rfl rfl ?c1 ?c2 ?c3 ?c4 ?c5 ?_)
        case c1 => exact Go.cell_one_new _ _ _
        case c2 => simp [Value.oneCell']
        case c3 => unfold maxLen; omega
        case c4 => omega
        case c5 => have := H3S.out; simp; omega
        intro v' w4 hown4 hgrow4 _
        have hg4 := (World.grownBy_alloc w3 (.cells #[.int .i64 u] 2) none)
        have h4 : PW w g k (st us (j + 1)) (tsOf us (j + 1)) w4 ∧ TL w g k v' ∧ w4.ownsRow w.heap.size 2 1 v' (j + 1) ((tsOf us (j + 1)).map (Value.int .i64)) := by
          have hx := HM3.out.next ((Below.refl _ _).alloc (Nat.le_refl _) (.cells #[.int .i64 u] 2))
          refine ⟨hx.far hgrow4 HT.out (fun q hq => (HO3.out.lt q hq).1), ?_, by rw [HACC.out]; exact hown4⟩
          exact TL.of hown4 (hx.far hgrow4 HT.out (fun q hq => (HO3.out.lt q hq).1))
        have HM4 := Lib.hid h4
        clear h4 hown4 hgrow4 hg4
        go_wp2
        go_roundw
        case rel => exact ⟨j + 1, by omega, by go_num, HM4.out.1, HM4.out.2.1, HM4.out.2.2⟩
        case measure => simp [intOf]; omega
      · have a2 : 240 + y = u := by rw [hu, HU.out]; simp only; rw [if_neg hnj, ← hx, hy]
        have u0 : 0 ≤ u := by omega
        have u1 : u ≤ 65775 := by omega
        clear hy hx hc
        have A := Lib.hid (add_any g u _ wr hM.b hM.ok)
        have HM := Lib.hid hM
        have HOW := Lib.hid hown
        have HT := Lib.hid htl
        have NX := Lib.hid (And.intro nx1 nt1)
        have ELT := Lib.hid elt
        clear hM hown htl nx1 nt1 hb hu elt
        go_wp2_with fail
        refine (A.out).mono ?_
        intro e w2 ha
        have h2 := HM.out.add ha
        have o2 := hown_other HOW.out ha.2.2 HT.out.1
        obtain ⟨rfl, -, -⟩ := ha
        have B := Lib.hid (push_any k _ u w2 h2.rg)
        have HM2 := Lib.hid h2
        have HO2 := Lib.hid o2
        clear h2 o2
        go_wp2_with fail
        refine (B.out).mono ?_
        intro e w3 hb
        have h3 : PW w g k (st us (j + 1)) (tsOf us (j + 1)) w3 := by rw [NX.out.1, NX.out.2]; exact HM2.out.push hb
        have o3 := hown_other HO2.out hb.2.2 HT.out.2
        obtain ⟨rfl, -, -⟩ := hb
        have h3s := h3.below.size
        obtain ⟨acc, hacc⟩ : ∃ acc, acc = (tsOf us j).map (Value.int .i64) := ⟨_, rfl⟩
        have hacc2 : (tsOf us (j + 1)).map (Value.int .i64) = acc ++ [.int .i64 u] := by rw [NX.out.2, List.map_append, hacc]; rfl
        rw [← hacc] at o3
        have HM3 := Lib.hid h3
        have HO3 := Lib.hid o3
        have HACC := Lib.hid hacc2
        have H3S := Lib.hid h3s
        clear h3 o3 hacc hacc2 h3s
        go_wp2_with (at_builtin; refine wpList_append_own _ rfl _ _ 22 rfl w.heap.size 2 i0 (.int .i64 0) 1 8 Try.underlying22 HI.out HZ0.out HZ1.out HZ2.out rfl (by decide) _ j acc rfl (HO3.out.alloc _) ⟨w3.heap.size, 0, none⟩ 1 1 [.int .i64 u] rfl rfl ?c1 ?c2 ?c3 ?c4 ?c5 ?_)
        case c1 => exact Go.cell_one_new _ _ _
        case c2 => simp [Value.oneCell']
        case c3 => unfold maxLen; omega
        case c4 => omega
        case c5 => have := H3S.out; simp; omega
        intro v' w4 hown4 hgrow4 _
        have hg4 := (World.grownBy_alloc w3 (.cells #[.int .i64 u] 2) none)
        have h4 : PW w g k (st us (j + 1)) (tsOf us (j + 1)) w4 ∧ TL w g k v' ∧ w4.ownsRow w.heap.size 2 1 v' (j + 1) ((tsOf us (j + 1)).map (Value.int .i64)) := by
          have hx := HM3.out.next ((Below.refl _ _).alloc (Nat.le_refl _) (.cells #[.int .i64 u] 2))
          refine ⟨hx.far hgrow4 HT.out (fun q hq => (HO3.out.lt q hq).1), ?_, by rw [HACC.out]; exact hown4⟩
          exact TL.of hown4 (hx.far hgrow4 HT.out (fun q hq => (HO3.out.lt q hq).1))
        have HM4 := Lib.hid h4
        clear h4 hown4 hgrow4 hg4
        go_wp2
        go_roundw
        case rel => exact ⟨j + 1, by omega, by go_num, HM4.out.1, HM4.out.2.1, HM4.out.2.2⟩
        case measure => simp [intOf]; omega
    · obtain rfl : len = j := by omega
      have CN := mnext_any _ (tsOf us len) wr (Sl.of_own hown)
      have A := of_any g k _ _ wr hM.b hM.ok hM.rg
      rw [HW2.out (by omega)] at A
      have hx := nx_bd (last8 (tsOf us len)) (last8_len _)
      obtain ⟨x, hxe⟩ : ∃ x, x = nx (last8 (tsOf us len)) := ⟨_, rfl⟩
      rw [← hxe] at A CN hx
      have AA : ∀ n, Calls Try.prog 16 #[.pointer (some ⟨g, 0, none⟩), .pointer (some ⟨k, 0, none⟩)] (wr.drewN n) (RetW (wcast x) (wr.drewN n)) := fun n => by
        have := of_any g k _ _ (wr.drewN n) (hM.drewN n).b hM.ok (hM.drewN n).rg
        rwa [HW2.out (by omega), ← hxe] at this
      have HCN := Lib.hid CN
      have HAA := Lib.hid AA
      have HM := Lib.hid hM
      obtain ⟨x0, x1⟩ := hx
      clear hM CN A AA hxe hown htl
      go_wp2_with fail
      refine (HCN.out).mono ?_
      rintro e w' ⟨rfl, n1, rfl⟩
      go_wp2_with fail
      refine (HAA.out _).mono ?_
      intro e w5 ha
      have h5 := Lib.hid ((HM.out.drewN _).next ha.2)
      obtain ⟨rfl, -⟩ := ha
      unfold Win.val wcast
      simp only
      obtain ⟨pp, hp⟩ : ∃ p, p = x * 85 / 100 := ⟨_, rfl⟩
      obtain ⟨q, hq⟩ : ∃ q, q = max ((x * 115 + 99) / 100) (pp + 1) := ⟨_, rfl⟩
      rw [← hp, ← hq]
      have p1 : pp ≤ x := by omega
      have q1 : x ≤ q := by omega
      have q2 : pp < q := by omega
      have p0 : 0 ≤ pp := by omega
      have q0 : q ≤ 10995116277760 := by omega
      have p3 : pp * 100 ≤ x * 85 := by omega
      have q3 : x * 115 ≤ q * 100 := by omega
      have d1 : decide (pp ≤ x) = true := decide_eq_true p1
      have d2 : decide (x ≤ q) = true := decide_eq_true q1
      have d3 : decide (pp < q) = true := decide_eq_true q2
      have d4 : decide (pp * 100 ≤ x * 85) = true := decide_eq_true p3
      have d5 : decide (x * 115 ≤ q * 100) = true := decide_eq_true q3
      clear hp hq
      go_wp2
      go_ret
      exact Yes.mk (by simp) (h5.out.below.alloc h5.out.below.size _)
theorem far_walk (a : Option Addr) (len cap : Nat) (zs : List Int) (x : Int) (w : World) (h : IsRow w a len cap zs) : Calls Try.prog 6 #[.slice a len cap, .int .i64 x] w (Yes w) := by
  by_cases h4 : len < 4
  · exact far_none a len cap x w h4 h.le
  · by_cases hl : 60 < len
    · exact far_many a len cap x w hl h.le
    · exact far_some a len cap _ x w (by omega) (by omega) h.elems
end Go.Proofs.Ytopbhdpfakjkjaa.Policy
