/- Proved: what (*histo.Histo).Add and halve leave. -/
import Derived.Test.YtopbhdpfakjkjaaHistoFns
namespace Go.Proofs.Ytopbhdpfakjkjaa.Histo
open Go.RowKit
set_option linter.unusedVariables false

/-- The first k bins halved. -/
def halfTo (bs : List Int) (k : Nat) : List Int := (bs.take k).map (· / 2) ++ bs.drop k
theorem halfTo_len (bs : List Int) (k : Nat) : (halfTo bs k).length = bs.length := by unfold halfTo; simp; omega
theorem halfTo_get (bs : List Int) (k i : Nat) (h : k ≤ i) : (halfTo bs k).getD i 0 = bs.getD i 0 := by
  unfold halfTo
  rw [List.getD_eq_getElem?_getD, List.getD_eq_getElem?_getD]
  by_cases hk : k ≤ bs.length
  · rw [List.getElem?_append_right (by simp; omega)]
    simp only [List.length_map, List.length_take, Nat.min_eq_left hk, List.getElem?_drop]
    rw [show k + (i - k) = i by omega]
  · rw [List.getElem?_append_right (by simp; omega)]
    rw [List.drop_of_length_le (by omega), List.getElem?_eq_none (show bs.length ≤ i by omega)]
    simp
theorem halfTo_next (bs : List Int) (k : Nat) (h : k < bs.length) : (halfTo bs k).set k (bs.getD k 0 / 2) = halfTo bs (k + 1) := by
  unfold halfTo
  rw [List.set_append_right _ _ (by simp; omega)]
  simp only [List.length_map, List.length_take, Nat.min_eq_left (Nat.le_of_lt h), Nat.sub_self]
  rw [List.drop_eq_getElem_cons h, List.set_cons_zero, List.take_succ_eq_append_getElem h, List.map_append, List.append_assoc]
  rw [List.getD_eq_getElem?_getD, List.getElem?_eq_getElem h]
  rfl
def hsum (bs : List Int) (k : Nat) : Int := ((bs.take k).map (· / 2)).sum
theorem hsum_next (bs : List Int) (k : Nat) (h : k < bs.length) : hsum bs (k + 1) = hsum bs k + bs.getD k 0 / 2 := by
  unfold hsum
  rw [List.take_succ_eq_append_getElem h, List.map_append, List.sum_append, List.getD_eq_getElem?_getD, List.getElem?_eq_getElem h]
  simp
theorem getD_mem {bs : List Int} {k : Nat} (h : k < bs.length) : bs.getD k 0 ∈ bs := by
  rw [List.getD_eq_getElem?_getD, List.getElem?_eq_getElem h]; exact List.getElem_mem h
theorem hsum_bd (bs : List Int) (hb : ∀ x ∈ bs, 0 ≤ x ∧ x ≤ 4096) : ∀ k, k ≤ bs.length → 0 ≤ hsum bs k ∧ hsum bs k ≤ 2048 * k
  | 0, _ => by simp [hsum]
  | k + 1, h => by
    have h1 := hsum_bd bs hb k (by omega)
    have h2 := hb _ (getD_mem (show k < bs.length by omega))
    rw [hsum_next bs k (by omega)]
    omega

/-- What the loop of halve keeps. -/
structure HI (w : World) (g : Nat) (bs : List Int) (o : Int) (k : Nat) (wr : World) : Prop where
  b : Blk wr g 62 (hc (halfTo bs k) (hsum bs k) o)
  only : w.grownBy wr (some g)

theorem eight (x : Int) (h : 0 ≤ x) : x.tdiv 2 = x / 2 := Int.tdiv_eq_ediv_of_nonneg h

set_option maxHeartbeats 2000000 in
set_option maxRecDepth 100000 in
theorem halve_any (g : Nat) (bs : List Int) (a o : Int) (w : World) (h : Blk w g 62 (hc bs a o)) (hl : bs.length = 240) (hb : ∀ x ∈ bs, 0 ≤ x ∧ x ≤ 4096) (ho : 0 ≤ o) (ho' : o ≤ 100000) :
    Calls Try.prog 25 #[.pointer (some ⟨g, 0, none⟩)] w fun e w' => e = .returned (.tuple #[]) ∧ HI w g bs (o / 2) 240 w' := by
  have c0 : w.cell? ⟨g, 240, none⟩ = some (.int .i64 a) := by rw [h.cell]; exact hc_in hl
  have f0 := h.frozen 240
  have hst : HI w g bs o 0 (w.setCell ⟨g, 240, none⟩ (.int .i64 0)) := by
    refine ⟨?_, only_setCell (only_refl w _) (.inl rfl) _⟩
    have := h.set_ 240 (.int .i64 0)
    rw [hc_set_in hl] at this
    exact this
  have HS := Lib.hid hst
  have HB := Lib.hid hb
  have HL := Lib.hid hl
  clear hst hb h hl
  go_enter Try.func25, Try.ntmps25
  go_wp2
  go_loopw [6] (fun i wr => ∃ k : Nat, k ≤ 240 ∧ i = .int .i64 k ∧ HI w g bs o k wr) (fun i _ => 240 - (intOf i).toNat)
  case atStart => exact ⟨0, by omega, rfl, HS.out⟩
  case round =>
    obtain ⟨k, hk, rfl, hM⟩ := hrel
    by_cases hlt : k < 240
    · have hk' : k < bs.length := by rw [HL.out]; exact hlt
      have hx := HB.out _ (getD_mem hk')
      have hs := hsum_bd bs HB.out k (by omega)
      obtain ⟨x, hxv⟩ : ∃ x, x = bs.getD k 0 := ⟨_, rfl⟩
      rw [← hxv] at hx
      obtain ⟨hx0, hx1⟩ := hx
      obtain ⟨s, hsv⟩ : ∃ s, s = hsum bs k := ⟨_, rfl⟩
      obtain ⟨y, hyv⟩ : ∃ y, y = x / 2 := ⟨_, rfl⟩
      have hbk := hM.b
      have ca : wr.cell? ⟨g, k, none⟩ = some (.int .i64 x) := by rw [hbk.cell, hc_get (by rw [halfTo_len]; exact hk'), halfTo_get _ _ _ (Nat.le_refl k), hxv]
      have cs : wr.cell? ⟨g, 240, none⟩ = some (.int .i64 s) := by rw [hbk.cell, hc_in (by rw [halfTo_len]; exact HL.out), hsv]
      have fa := hbk.frozen k
      have fs := hbk.frozen 240
      have ey : x / 2 = y := hyv.symm
      have ey2 : x.tdiv 2 = y := by rw [eight x (by omega), hyv]
      have hne : ¬ k = 240 := by omega
      have hs0 : 0 ≤ s := by omega
      have hs1 : s ≤ 1000000 := by omega
      have hnext : HI w g bs o (k + 1) (((wr.setCell ⟨g, k, none⟩ (.int .i64 y)).setCell ⟨g, 240, none⟩ (.int .i64 (s + y))).drew.drew) := by
        refine ⟨?_, only_drew (only_drew (only_setCell (only_setCell hM.only (.inl rfl) _) (.inl rfl) _))⟩
        have q := (hbk.set_ k (.int .i64 y)).set_ 240 (.int .i64 (s + y))
        rw [hc_set (by rw [halfTo_len]; exact hk'), hc_set_in (by rw [List.length_set, halfTo_len]; exact HL.out)] at q
        rw [hyv, hxv, halfTo_next bs k hk', hsv, ← hsum_next bs k hk'] at q
        rw [hyv, hxv, hsv]
        rw [← hsum_next bs k hk']
        exact q
      have HN := Lib.hid hnext
      clear hM hbk hs hxv hsv hyv hk' hnext
      have hy0 : 0 ≤ y := by omega
      have hy1 : y ≤ 2048 := by omega
      go_wp2
      go_region
      go_wp2
      go_region
      go_wp2
      refine ⟨⟨k + 1, by omega, by go_num, HN.out⟩, ?_⟩
      simp [intOf]; omega
    · obtain rfl : k = 240 := by omega
      have hbk := hM.b
      have co : wr.cell? ⟨g, 241, none⟩ = some (.int .i64 o) := by rw [hbk.cell, hc_over (by rw [halfTo_len]; exact HL.out)]
      have fo := hbk.frozen 241
      have eo : o.tdiv 2 = o / 2 := eight o ho
      have hnext : HI w g bs (o / 2) 240 (wr.setCell ⟨g, 241, none⟩ (.int .i64 (o / 2))) := by
        refine ⟨?_, only_setCell hM.only (.inl rfl) _⟩
        have q := hbk.set_ 241 (.int .i64 (o / 2))
        rw [hc_set_over (by rw [halfTo_len]; exact HL.out)] at q
        exact q
      have HN := Lib.hid hnext
      clear hM hbk hnext hlt hk
      go_wp2
      go_end0
      exact ⟨rfl, HN.out⟩

end Go.Proofs.Ytopbhdpfakjkjaa.Histo
