/- Proved: what (*histo.Histo).Add leaves: the count of an idle time, one more; all counts halved, when there are as many as may be. -/
import Derived.Test.YtopbhdpfakjkjaaHistoAdd
namespace Go.Proofs.Ytopbhdpfakjkjaa.Histo
open Go.RowKit
set_option linter.unusedVariables false

/-- Counts: of each bin, of all in bins, of those that were too long. -/
structure S where
  bs : List Int
  a : Int
  o : Int
def S.cells (s : S) : Array Value := hc s.bs s.a s.o
structure Ok (s : S) : Prop where
  len : s.bs.length = 240
  pos : ∀ x ∈ s.bs, 0 ≤ x
  sum : s.a = s.bs.sum
  over : 0 ≤ s.o
  few : s.a + s.o < 4096
def S.half (s : S) : S := ⟨s.bs.map (· / 2), (s.bs.map (· / 2)).sum, s.o / 2⟩
def S.raw (s : S) (t : Int) : S := if t < 240 then ⟨s.bs.set t.toNat (s.bs.getD t.toNat 0 + 1), s.a + 1, s.o⟩ else ⟨s.bs, s.a, s.o + 1⟩
def S.add (s : S) (t : Int) : S := if t < 0 then s else if (s.raw t).a + (s.raw t).o ≥ 4096 then (s.raw t).half else s.raw t
def S.empty : S := ⟨List.replicate 240 0, 0, 0⟩

theorem le_sum : ∀ {l : List Int}, (∀ x ∈ l, 0 ≤ x) → ∀ x ∈ l, x ≤ l.sum
  | [], _, x, h => by simp at h
  | y :: l, hp, x, h => by
    have h0 := hp y (by simp)
    have hs : 0 ≤ l.sum := by
      clear h
      have : ∀ m : List Int, (∀ x ∈ m, 0 ≤ x) → 0 ≤ m.sum := by
        intro m
        induction m with
        | nil => intro _; simp
        | cons z m ih => intro hm; have := ih (fun x hx => hm x (by simp [hx])); have := hm z (by simp); simp only [List.sum_cons]; omega
      exact this l (fun x hx => hp x (by simp [hx]))
    rcases List.mem_cons.1 h with rfl | h
    · simp only [List.sum_cons]; omega
    · have := le_sum (fun x hx => hp x (by simp [hx])) x h
      simp only [List.sum_cons]; omega
theorem sum_pos {m : List Int} (h : ∀ x ∈ m, 0 ≤ x) : 0 ≤ m.sum := by
  induction m with
  | nil => simp
  | cons z m ih => have := ih (fun x hx => h x (by simp [hx])); have := h z (by simp); simp only [List.sum_cons]; omega
theorem sum_set : ∀ (l : List Int) (i : Nat) (x : Int), i < l.length → (l.set i x).sum = l.sum - l.getD i 0 + x
  | [], _, _, h => by simp at h
  | y :: l, 0, x, _ => by simp; omega
  | y :: l, i + 1, x, h => by
    have := sum_set l i x (by simpa using h)
    simp only [List.set_cons_succ, List.sum_cons, List.getD_cons_succ, this]
    omega
theorem half_sum : ∀ (l : List Int), (∀ x ∈ l, 0 ≤ x) → 0 ≤ (l.map (· / 2)).sum ∧ 2 * (l.map (· / 2)).sum ≤ l.sum
  | [], _ => by simp
  | y :: l, h => by
    have := half_sum l (fun x hx => h x (by simp [hx]))
    have := h y (by simp)
    simp only [List.map_cons, List.sum_cons]
    omega

theorem Ok.bd {s : S} (h : Ok s) : ∀ x ∈ s.bs, 0 ≤ x ∧ x ≤ 4095 := fun x hx => ⟨h.pos x hx, by have := le_sum h.pos x hx; have := h.sum; have := h.over; have := h.few; omega⟩
theorem Ok.a0 {s : S} (h : Ok s) : 0 ≤ s.a := by rw [h.sum]; exact sum_pos h.pos
theorem Ok.raw_len {s : S} (h : Ok s) (t : Int) : (s.raw t).bs.length = 240 := by unfold S.raw; split <;> simp [h.len]
theorem Ok.raw_pos {s : S} (h : Ok s) (t : Int) : ∀ x ∈ (s.raw t).bs, 0 ≤ x ∧ x ≤ 4096 := by
  unfold S.raw
  split
  · intro x hx
    rcases List.mem_or_eq_of_mem_set hx with hx | rfl
    · have := h.bd x hx; omega
    · by_cases ht : t.toNat < s.bs.length
      · have := h.bd _ (getD_mem ht); omega
      · rw [List.getD_eq_getElem?_getD, List.getElem?_eq_none (by omega)]; simp
  · intro x hx; have := h.bd x hx; omega
theorem Ok.raw_sum {s : S} (h : Ok s) {t : Int} (h0 : 0 ≤ t) : (s.raw t).a = (s.raw t).bs.sum := by
  unfold S.raw
  split
  · have := sum_set s.bs t.toNat (s.bs.getD t.toNat 0 + 1) (by rw [h.len]; omega)
    have := h.sum
    simp only
    omega
  · exact h.sum
theorem Ok.raw_all {s : S} (h : Ok s) (t : Int) : 0 ≤ (s.raw t).o ∧ 0 ≤ (s.raw t).a ∧ (s.raw t).a + (s.raw t).o = s.a + s.o + 1 := by
  have := h.a0
  have := h.over
  unfold S.raw
  split <;> simp only <;> omega
theorem Ok.add {s : S} (h : Ok s) (t : Int) : Ok (s.add t) := by
  unfold S.add
  split
  · exact h
  · next h0 =>
    have h1 := h.raw_all t
    have h2 := h.raw_sum (show 0 ≤ t by omega)
    have h3 := h.raw_len t
    have h4 := h.raw_pos t
    have h5 := h.few
    split
    · have g := half_sum (s.raw t).bs (fun x hx => (h4 x hx).1)
      refine ⟨by simp [S.half, h3], ?_, rfl, ?_, ?_⟩
      · intro x hx
        simp only [S.half, List.mem_map] at hx
        obtain ⟨y, hy, rfl⟩ := hx
        have := (h4 y hy).1
        omega
      · simp only [S.half]; omega
      · simp only [S.half]; omega
    · exact ⟨h3, fun x hx => (h4 x hx).1, h2, h1.1, by omega⟩
theorem sum_zeros : ∀ n, (List.replicate n (0 : Int)).sum = 0
  | 0 => rfl
  | n + 1 => by rw [List.replicate_succ, List.sum_cons, sum_zeros n]; rfl
theorem Ok.none : Ok S.empty := ⟨List.length_replicate, fun x hx => by rw [List.eq_of_mem_replicate hx]; exact Int.le_refl 0, (sum_zeros 240).symm, Int.le_refl 0, by show (0 : Int) + 0 < 4096; decide⟩

theorem halfTo_all (bs : List Int) (h : bs.length = 240) : halfTo bs 240 = bs.map (· / 2) ∧ hsum bs 240 = (bs.map (· / 2)).sum := by
  unfold halfTo hsum
  rw [List.take_of_length_le (by omega), List.drop_of_length_le (by omega)]
  simp

/-- The post of Add. -/
def Adds (w : World) (g : Nat) (s' : S) (e : Ending) (w' : World) : Prop := e = .returned (.tuple #[]) ∧ Blk w' g 62 s'.cells ∧ w.grownBy w' (some g)

set_option maxRecDepth 100000 in
set_option maxHeartbeats 2000000 in
theorem add_neg (g : Nat) (s : S) (t : Int) (w : World) (h : Blk w g 62 s.cells) (ht : t < 0) : Calls Try.prog 13 #[.pointer (some ⟨g, 0, none⟩), .int .i64 t] w (Adds w g s) := by
  have H := Lib.hid h
  clear h
  go_enter Try.func13, Try.ntmps13
  go_wp2
  first | go_end0 | refine bodyPost_ret (results_none rfl _ _ _) rfl ?_
  exact ⟨rfl, H.out, only_refl w _⟩

set_option maxRecDepth 100000 in
set_option maxHeartbeats 2000000 in
theorem add_in (g i : Nat) (s : S) (w : World) (h : Blk w g 62 s.cells) (ok : Ok s) (hi : i < 240) : Calls Try.prog 13 #[.pointer (some ⟨g, 0, none⟩), .int .i64 (i : Int)] w (Adds w g (s.add i)) := by
  have hraw : s.raw i = ⟨s.bs.set i (s.bs.getD i 0 + 1), s.a + 1, s.o⟩ := by unfold S.raw; rw [if_pos (by omega)]; simp
  have hadd : s.add i = if s.a + 1 + s.o ≥ 4096 then (s.raw i).half else s.raw i := by unfold S.add; rw [if_neg (by omega), hraw]
  have hi' : i < s.bs.length := by rw [ok.len]; exact hi
  obtain ⟨x, hx⟩ : ∃ x, x = s.bs.getD i 0 := ⟨_, rfl⟩
  have hxb := ok.bd _ (getD_mem hi')
  rw [← hx] at hxb
  obtain ⟨x0, x1⟩ := hxb
  have hcell : Blk w g 62 (hc s.bs s.a s.o) := h
  have c1 : w.cell? ⟨g, i, none⟩ = some (.int .i64 x) := by rw [hcell.cell, hc_get hi', hx]
  have c2 : w.cell? ⟨g, 240, none⟩ = some (.int .i64 s.a) := by rw [hcell.cell, hc_in ok.len]
  have c3 : w.cell? ⟨g, 241, none⟩ = some (.int .i64 s.o) := by rw [hcell.cell, hc_over ok.len]
  have f1 := hcell.frozen i
  have f2 := hcell.frozen 240
  obtain ⟨a, ha⟩ : ∃ a, a = s.a := ⟨_, rfl⟩
  obtain ⟨o, ho⟩ : ∃ o, o = s.o := ⟨_, rfl⟩
  have a0 : 0 ≤ a := by rw [ha]; exact ok.a0
  have o0 : 0 ≤ o := by rw [ho]; exact ok.over
  have ao : a + o < 4096 := by rw [ha, ho]; exact ok.few
  have b1 : Blk ((w.setCell ⟨g, i, none⟩ (.int .i64 (x + 1))).setCell ⟨g, 240, none⟩ (.int .i64 (a + 1))) g 62 (s.raw i).cells := by
    have q := (hcell.set_ i (.int .i64 (x + 1))).set_ 240 (.int .i64 (a + 1))
    rw [hc_set hi', hc_set_in (by rw [List.length_set]; exact ok.len)] at q
    rw [hraw, ← hx, ← ha]
    exact q
  have q1 : w.grownBy ((w.setCell ⟨g, i, none⟩ (.int .i64 (x + 1))).setCell ⟨g, 240, none⟩ (.int .i64 (a + 1))) (some g) := only_setCell (p := ⟨g, 240, none⟩) (only_setCell (p := ⟨g, i, none⟩) (only_refl w _) (.inl rfl) _) (.inl rfl) _
  rw [← ha] at c2
  rw [← ho] at c3
  rw [← ha, ← ho] at hadd
  have hne : ¬ i = 240 := by omega
  have hne2 : ¬ i = 241 := by omega
  have ch := fun W (hW : Blk W g 62 (s.raw i).cells) => halve_any g (s.raw i).bs (s.raw i).a (s.raw i).o W hW (ok.raw_len _) (ok.raw_pos _) (ok.raw_all _).1 (by have := ok.raw_all i; have := ok.few; omega)
  have hh := halfTo_all (s.raw i).bs (ok.raw_len _)
  have B1 := Lib.hid b1
  have Q1 := Lib.hid q1
  have CH := Lib.hid ch
  have HH := Lib.hid hh
  have HA := Lib.hid hadd
  clear h ok hcell hx ha ho hraw hadd b1 q1 ch hh hi'
  by_cases hfull : 4096 ≤ a + 1 + o
  · go_enter Try.func13, Try.ntmps13
    go_wp2
    go_region
    go_wp2
    go_region
    go_wp2_with fail
    refine (CH.out _ B1.out.drew.drew).mono ?_
    rintro e w' ⟨rfl, hI⟩
    have hfin : Blk w' g 62 (s.add i).cells ∧ w.grownBy w' (some g) := by
      refine ⟨?_, only_trans (only_drew (only_drew Q1.out)) hI.only⟩
      have q := hI.b
      rw [HA.out, if_pos hfull]
      unfold S.half S.cells
      rw [← HH.out.1, ← HH.out.2] at *
      exact q
    have HF := Lib.hid hfin
    clear hfin hI
    go_wp2
    first | go_end0 | refine bodyPost_ret (results_none rfl _ _ _) rfl ?_
    exact ⟨rfl, HF.out⟩
  · have hfin : s.add i = s.raw i := by rw [HA.out, if_neg hfull]
    have HF := Lib.hid hfin
    clear hfin
    go_enter Try.func13, Try.ntmps13
    go_wp2
    go_region
    go_wp2
    go_region
    go_wp2
    first | go_end0 | refine bodyPost_ret (results_none rfl _ _ _) rfl ?_
    exact ⟨rfl, by rw [HF.out]; exact B1.out, only_drew (only_drew Q1.out)⟩

set_option maxRecDepth 100000 in
set_option maxHeartbeats 2000000 in
theorem add_out (g : Nat) (t : Int) (s : S) (w : World) (h : Blk w g 62 s.cells) (ok : Ok s) (ht : 240 ≤ t) : Calls Try.prog 13 #[.pointer (some ⟨g, 0, none⟩), .int .i64 t] w (Adds w g (s.add t)) := by
  have hraw : s.raw t = ⟨s.bs, s.a, s.o + 1⟩ := by unfold S.raw; rw [if_neg (by omega)]
  have hadd : s.add t = if s.a + (s.o + 1) ≥ 4096 then (s.raw t).half else s.raw t := by unfold S.add; rw [if_neg (by omega), hraw]
  have hcell : Blk w g 62 (hc s.bs s.a s.o) := h
  have c2 : w.cell? ⟨g, 240, none⟩ = some (.int .i64 s.a) := by rw [hcell.cell, hc_in ok.len]
  have c3 : w.cell? ⟨g, 241, none⟩ = some (.int .i64 s.o) := by rw [hcell.cell, hc_over ok.len]
  have f2 := hcell.frozen 241
  obtain ⟨a, ha⟩ : ∃ a, a = s.a := ⟨_, rfl⟩
  obtain ⟨o, ho⟩ : ∃ o, o = s.o := ⟨_, rfl⟩
  have a0 : 0 ≤ a := by rw [ha]; exact ok.a0
  have o0 : 0 ≤ o := by rw [ho]; exact ok.over
  have ao : a + o < 4096 := by rw [ha, ho]; exact ok.few
  have b1 : Blk (w.setCell ⟨g, 241, none⟩ (.int .i64 (o + 1))) g 62 (s.raw t).cells := by
    have q := hcell.set_ 241 (.int .i64 (o + 1))
    rw [hc_set_over ok.len] at q
    rw [hraw, ← ho]
    exact q
  have q1 : w.grownBy (w.setCell ⟨g, 241, none⟩ (.int .i64 (o + 1))) (some g) := only_setCell (p := ⟨g, 241, none⟩) (only_refl w _) (.inl rfl) _
  rw [← ha] at c2
  rw [← ho] at c3
  rw [← ha, ← ho] at hadd
  have ch := fun W (hW : Blk W g 62 (s.raw t).cells) => halve_any g (s.raw t).bs (s.raw t).a (s.raw t).o W hW (ok.raw_len _) (ok.raw_pos _) (ok.raw_all _).1 (by have := ok.raw_all t; have := ok.few; omega)
  have hh := halfTo_all (s.raw t).bs (ok.raw_len _)
  have B1 := Lib.hid b1
  have Q1 := Lib.hid q1
  have CH := Lib.hid ch
  have HH := Lib.hid hh
  have HA := Lib.hid hadd
  clear h ok hcell ha ho hraw hadd b1 q1 ch hh
  by_cases hfull : 4096 ≤ a + (o + 1)
  · go_enter Try.func13, Try.ntmps13
    go_wp2
    go_region
    go_wp2_with fail
    refine (CH.out _ B1.out.drew).mono ?_
    rintro e w' ⟨rfl, hI⟩
    have hfin : Blk w' g 62 (s.add t).cells ∧ w.grownBy w' (some g) := by
      refine ⟨?_, only_trans (only_drew Q1.out) hI.only⟩
      have q := hI.b
      rw [HA.out, if_pos hfull]
      unfold S.half S.cells
      rw [← HH.out.1, ← HH.out.2] at *
      exact q
    have HF := Lib.hid hfin
    clear hfin hI
    go_wp2
    first | go_end0 | refine bodyPost_ret (results_none rfl _ _ _) rfl ?_
    exact ⟨rfl, HF.out⟩
  · have hfin : s.add t = s.raw t := by rw [HA.out, if_neg hfull]
    have HF := Lib.hid hfin
    clear hfin
    go_enter Try.func13, Try.ntmps13
    go_wp2
    go_region
    go_wp2
    first | go_end0 | refine bodyPost_ret (results_none rfl _ _ _) rfl ?_
    exact ⟨rfl, by rw [HF.out]; exact B1.out, only_drew Q1.out⟩

theorem add_any (g : Nat) (t : Int) (s : S) (w : World) (h : Blk w g 62 s.cells) (ok : Ok s) : Calls Try.prog 13 #[.pointer (some ⟨g, 0, none⟩), .int .i64 t] w (Adds w g (s.add t)) := by
  by_cases h0 : t < 0
  · have := add_neg g s t w h h0
    rwa [show s.add t = s by unfold S.add; rw [if_pos h0]]
  · by_cases h1 : t < 240
    · obtain ⟨i, rfl⟩ : ∃ i : Nat, t = i := ⟨t.toNat, by omega⟩
      exact add_in g i s w h ok (by omega)
    · exact add_out g t s w h ok (by omega)

end Go.Proofs.Ytopbhdpfakjkjaa.Histo
