/- Proved: what Drop leaves and answers of a heap whose keys are pairs of numbers. -/
import Derived.Test.YtjmdgicdpggljaaGreatM18
import Derived.Test.YtjmdgicdpggljaaGreatM15
import Derived.Test.YtjmdgicdpggljaaGreatM17
import Derived.Deep.DeepCutAuto
import Derived.Deep.CutBlock
import Derived.Deep.RegionHeld3
set_option linter.all false
namespace Go.Proofs.YtjmdgicdpggljaaGreat.GH
open Go.RowKit Go.Proofs.YtjmdgicdpggljaaGreat.Histo Go.Proofs.YtjmdgicdpggljaaGreat.Event
set_option linter.unusedVariables false
open Go.Proofs.YtjmdgicdpggljaaGreat.MapG (Codec Mk)
open Go.Proofs.YtjmdgicdpggljaaGreat.MapI (W64)

set_option maxRecDepth 100000 in
set_option maxHeartbeats 8000000 in
theorem dropT_none (hb ab : Nat) (v : Value) (xs : HL TKey TMark) (k : TKey) (w : World) (h : HeapAtT w hb ab v xs) (hk : KeyOkT k) (hi : hidx xs k = none) :
    Calls Tryz.prog 83 #[.pointer (some ⟨hb, 0, none⟩), kvalT k] w fun e w' => e = .returned (.bool false) ∧ Below w.heap.size w w' := by
  obtain ⟨l, hm1, hidx1⟩ := h.map
  have hlk : ∀ W, Mk kT Tryz.prog 90 W ab l → (Instr.lookup 111 (.map (some ab)) (.agg #[.int .i64 k.kind, .int .i64 k.id]) true).run Tryz.prog W = .ok (.tuple #[.int .i64 0, .bool false]) W := fun W hW => by
    have := hW.look_ok keyedT kvT Tryz.underlying111 (zero_intW W) (x := k) hk
    rw [hidx1, hi] at this
    exact this
  obtain ⟨k1, k2, hka⟩ : ∃ k1 k2, k = (⟨k1, k2⟩ : TKey) := ⟨k.kind, k.id, rfl⟩
  subst hka
  simp only [kvalT] at hlk ⊢
  have HM1 := Lib.hid hm1
  have HLK := Lib.hid hlk
  have hd2 : w.cell? ⟨hb, 2, none⟩ = some (.map (some ab)) := h.head.cell 2
  have hbl := h.head.lt
  clear h hm1 hidx1 hi hlk hk
  go_enter Tryz.func83, Tryz.ntmps83
  go_upto_region 1 with (fail)
  have hb1 := (Below.refl w.heap.size w).alloc (Nat.le_refl _) (.cells #[.int .i64 k1, .int .i64 k2] 90)
  have hx1 := Blk.new w 90 #[.int .i64 k1, .int .i64 k2]
  generalize w.alloc _ = w1 at hb1 hx1 ⊢
  have hd2' := (hb1.cell (p := ⟨hb, 2, none⟩) hbl).trans hd2
  have x0 : w1.cell? ⟨w.heap.size, 0, none⟩ = some (.int .i64 k1) := hx1.cell 0
  have x1 : w1.cell? ⟨w.heap.size, 1, none⟩ = some (.int .i64 k2) := hx1.cell 1
  have hl1 : ∀ n, (Instr.lookup 111 (.map (some ab)) (.agg #[.int .i64 k1, .int .i64 k2]) true).run Tryz.prog (w1.drewN n) = .ok (.tuple #[.int .i64 0, .bool false]) (w1.drewN n) := fun n => HLK.out _ (HM1.out.same (hb1.block ab HM1.out.lt))
  have HB1 := Lib.hid hb1
  clear hd2 hb1 hx1 hbl
  go_quiet (fail)
  go_wp2
  go_ret
  exact ⟨rfl, below_drewN HB1.out nq⟩
set_option maxRecDepth 100000 in
set_option maxHeartbeats 8000000 in
theorem dropT_some (hb ab r cap i N : Nat) (xs : HL TKey TMark) (k : TKey) (w : World) (h : HeapAtT w hb ab (.slice (some ⟨r, 0, none⟩) xs.length cap) xs) (hk : KeyOkT k) (hi : hidx xs k = some i) (hN : xs.length = N + 1) :
    Calls Tryz.prog 83 #[.pointer (some ⟨hb, 0, none⟩), kvalT k] w fun e w' => e = .returned (.bool true) ∧ HeapAtT w' hb ab (.slice (some ⟨r, 0, none⟩) N cap) (hdrop TMark.lt xs k) ∧ Only (fun p => p = hb ∨ p = r ∨ p = ab) w w' := by
  obtain ⟨hil, hki⟩ := (hidx_some h.nodup).1 hi
  obtain ⟨l, hm1, hidx1⟩ := h.map
  have hlk : ∀ W, Mk kT Tryz.prog 90 W ab l → (Instr.lookup 111 (.map (some ab)) (.agg #[.int .i64 k.kind, .int .i64 k.id]) true).run Tryz.prog W = .ok (.tuple #[.int .i64 (i : Int), .bool true]) W := fun W hW => by
    have := hW.look_ok keyedT kvT Tryz.underlying111 (zero_intW W) (x := k) hk
    rw [hidx1, hi] at this
    exact this
  have edrop : hdrop TMark.lt xs k = if i < N then hfix TMark.lt (hcut xs i) i else hcut xs i := by unfold hdrop; rw [hi, hN]; rfl
  have ecut : hcut xs i = (hswap xs i N).take N := by unfold hcut; rw [hN]; rfl
  have hd1 : w.cell? ⟨hb, 1, none⟩ = some (.slice (some ⟨r, 0, none⟩) (N + 1) cap) := by rw [← hN]; exact h.head.cell 1
  have hd2 : w.cell? ⟨hb, 2, none⟩ = some (.map (some ab)) := h.head.cell 2
  have hba : hb ≠ ab := ne_of_map h.head hm1
  obtain ⟨cur, hcur⟩ := ownsRow_blk h.row
  have hbr : hb ≠ r := ne_of_types h.head hcur (by decide)
  have hra : r ≠ ab := ne_of_map hcur hm1
  have hle := h.le
  have hcapN : N + 1 ≤ cap := by
    rcases h.row.2 with ⟨h1, _⟩ | ⟨g, cap', _, h1, _, _, hc, _⟩
    · cases h1
    · cases h1; omega
  have hsw : ∃ ys, ys = hswap xs i N ∧ ∀ W, HeapAtT W hb ab (.slice (some ⟨r, 0, none⟩) xs.length cap) xs → Calls Tryz.prog 119 #[.pointer (some ⟨hb, 0, none⟩), .int .i64 (i : Int), .int .i64 (N : Int)] W fun e w' => e = .returned (.tuple #[]) ∧ HeapAtT w' hb ab (.slice (some ⟨r, 0, none⟩) (N + 1) cap) ys ∧ Only (fun p => p = r ∨ p = ab) W w' := by
    refine ⟨_, rfl, fun W hW => ?_⟩
    rw [← hN]
    by_cases e : i = N
    · subst e
      have := swapT_same hb ab r cap i xs W hW hil
      rw [hswap_self rfl (hget_pair hil)]
      exact this
    · exact swapT hb ab r cap i N xs W hW hil (by omega) e
  obtain ⟨ys, hys, hsw⟩ := hsw
  have hyl : ys.length = N + 1 := by rw [hys, hswap_len, hN]
  have hyk : hkey ys N = k := by rw [hys, hkey_get, hswap_get hil (by omega), if_pos rfl, ← hkey_get, hki]
  rw [← hys] at ecut
  have htl : (ys.take N).length = N := by rw [List.length_take]; omega
  have hafter : ∀ W w5 l', HeapAtT W hb ab (.slice (some ⟨r, 0, none⟩) (N + 1) cap) ys → Mk kT Tryz.prog 90 W ab l' → Idx l' ys → Mk kT Tryz.prog 90 w5 ab (MapG.del l' k) → (W.setCell ⟨hb, 1, none⟩ (.slice (some ⟨r, 0, none⟩) N cap)).grownBy w5 (some ab) → HeapAtT w5 hb ab (.slice (some ⟨r, 0, none⟩) N cap) (ys.take N) := fun W w5 l' hW hl1 hl2 hm5 hg5 => by
    obtain ⟨ic, nc⟩ := idx_cut hl2 hW.nodup hyl hyk
    have hrow := hW.row
    have hrow2 := row_take (n := N) ivT_len (cap := cap) (by rw [hyl]; rw [hyl] at hrow; exact hrow) (by omega)
    rw [htl] at hrow2
    refine ⟨(hW.head.set_ 1 _).grown hg5 (by simp; exact hba), ?_, ⟨_, hm5, ic⟩, nc, fun p hp => hW.ok p (List.mem_of_mem_take hp), by rw [htl]; omega⟩
    rw [htl]
    exact (hrow2.kept (only_at (only_refl W (some hb)) 1 _) (.inr (by simp [Value.ownBlock]; exact hbr.symm))).kept hg5 (.inr (by simp [Value.ownBlock]; exact hra))
  have hfix := fun W (hW : HeapAtT W hb ab (.slice (some ⟨r, 0, none⟩) N cap) (ys.take N)) (hiN : i < N) => fixT hb ab r cap i (ys.take N) W (by rw [htl]; exact hW) (by rw [htl]; exact hiN)
  rw [htl] at hfix
  obtain ⟨k1, k2, hka⟩ : ∃ k1 k2, k = (⟨k1, k2⟩ : TKey) := ⟨k.kind, k.id, rfl⟩
  subst hka
  simp only [kvalT] at hlk ⊢
  obtain ⟨Y, hY⟩ : ∃ Y, Y = hdrop TMark.lt xs ⟨k1, k2⟩ := ⟨_, rfl⟩
  rw [← hY] at edrop ⊢
  have HA := Lib.hid hafter
  have HFIX := Lib.hid hfix
  have ED := Lib.hid edrop
  have EC := Lib.hid ecut
  have HK := Lib.hid hk
  have HSW := Lib.hid hsw
  have HM1 := Lib.hid hm1
  have HLK := Lib.hid hlk
  have H := Lib.hid h
  have HN := Lib.hid hN
  have hiN1 : i ≤ N := by omega
  have hNc : (N : Int) ≤ (cap : Int) := by omega
  rw [hN] at hle
  have hNb : (N : Int) ≤ 1099511627776 := by omega
  have hNd : (N : Int) < ((N + 1 : Nat) : Int) := by omega
  have HLS := Lib.hid (And.intro h.head.lt (And.intro hm1.lt hcur.lt))
  have HBA := Lib.hid hba
  clear h hm1 hidx1 hi hN hcur hys hyl hyk htl hafter hfix edrop ecut hk hki hil hsw hlk hY hba
  go_enter Tryz.func83, Tryz.ntmps83
  go_upto_region 1 with (fail)
  have hb1 := (Below.refl w.heap.size w).alloc (Nat.le_refl _) (.cells #[.int .i64 k1, .int .i64 k2] 90)
  have hx1 := Blk.new w 90 #[.int .i64 k1, .int .i64 k2]
  generalize w.alloc _ = w1 at hb1 hx1 ⊢
  have hd2' := (hb1.cell (p := ⟨hb, 2, none⟩) HLS.out.1).trans hd2
  obtain ⟨gx, hgx⟩ : ∃ g, g = w.heap.size := ⟨_, rfl⟩
  rw [← hgx] at hx1 ⊢
  have HG := Lib.hid hgx
  have x0 : w1.cell? ⟨gx, 0, none⟩ = some (.int .i64 k1) := hx1.cell 0
  have x1 : w1.cell? ⟨gx, 1, none⟩ = some (.int .i64 k2) := hx1.cell 1
  have hl1 : ∀ n, (Instr.lookup 111 (.map (some ab)) (.agg #[.int .i64 k1, .int .i64 k2]) true).run Tryz.prog (w1.drewN n) = .ok (.tuple #[.int .i64 (i : Int), .bool true]) (w1.drewN n) := fun n => HLK.out _ (HM1.out.same (hb1.block ab HM1.out.lt))
  have HB1 := Lib.hid hb1
  have HX1 := Lib.hid hx1
  clear hd2 hb1 hx1 hgx hd1
  go_quiet (fail)
  have hb2 : Below w.heap.size w (w1.drewN nq) := below_drewN HB1.out nq
  have hx2 : Blk (w1.drewN nq) gx 90 #[.int .i64 k1, .int .i64 k2] := HX1.out.drewN nq
  clear x0 x1 hl1 hd2' HB1 HX1
  generalize w1.drewN nq = w2 at hb2 hx2 ⊢
  have h2 := H.out.below hb2
  have d1 : w2.cell? ⟨hb, 1, none⟩ = some (.slice (some ⟨r, 0, none⟩) (N + 1) cap) := by rw [← HN.out]; exact h2.head.cell 1
  have H2 := Lib.hid h2
  have HB2 := Lib.hid hb2
  have HX2 := Lib.hid hx2
  clear h2 hb2 hx2
  go_upto_region 6 with (go_at_call 119; refine (HSW.out _ H2.out).mono ?_; rintro e w3 ⟨rfl, h3, o3⟩; obtain ⟨l', hm', hidx'⟩ := h3.map; have H3 := Lib.hid h3; have O3 := Lib.hid o3; have HM' := Lib.hid hm'; have HI' := Lib.hid hidx'; have k1' := h3.head.cell 1; have k2' := h3.head.cell 2; have f1 := h3.head.frozen 1; clear h3 o3 hm' hidx' d1; simp only [List.getElem?_toArray, List.getElem?_cons_zero, List.getElem?_cons_succ] at k1' k2')
  go_upto_region 7 with (fail)
  have hx3 : Blk w3 gx 90 #[.int .i64 k1, .int .i64 k2] := (O3.out.block gx HX2.out.lt (fun e => by
    have a1 := HLS.out
    have a2 := HG.out
    rcases e with e | e <;> omega)).trans HX2.out
  have hgb : gx ≠ hb := by have a1 := HLS.out; have a2 := HG.out; omega
  obtain ⟨w4, hw4⟩ : ∃ W, W = w3.setCell ⟨hb, 1, none⟩ (.slice (some ⟨r, 0, none⟩) N cap) := ⟨_, rfl⟩
  have hx4 : Blk w4 gx 90 #[.int .i64 k1, .int .i64 k2] := by rw [hw4]; exact hx3.far hgb _
  have hh4 : Blk w4 hb 114 #[.func (.func 19) #[] #[], .slice (some ⟨r, 0, none⟩) N cap, .map (some ab)] := by rw [hw4]; simpa using H3.out.head.set_ 1 (.slice (some ⟨r, 0, none⟩) N cap)
  have hm4 : Mk kT Tryz.prog 90 w4 ab l' := by rw [hw4]; exact HM'.out.same (Below.heap_setCell _ _ _ _ (Ne.symm HBA.out))
  rw [← hw4]
  have x0 : w4.cell? ⟨gx, 0, none⟩ = some (.int .i64 k1) := hx4.cell 0
  have x1 : w4.cell? ⟨gx, 1, none⟩ = some (.int .i64 k2) := hx4.cell 1
  have d2 : w4.cell? ⟨hb, 2, none⟩ = some (.map (some ab)) := hh4.cell 2
  have HW4 := Lib.hid hw4
  have HM4 := Lib.hid hm4
  have hend : ∀ w5, w4.drew.grownBy w5 (some ab) → Mk kT Tryz.prog 90 w5 ab (MapG.del l' ⟨k1, k2⟩) → HeapAtT w5 hb ab (.slice (some ⟨r, 0, none⟩) N cap) (ys.take N) ∧ Only (fun p => p = hb ∨ p = r ∨ p = ab) w w5 := fun w5 hg5 hm5 => by
    have hg6 : w4.grownBy w5 (some ab) := ⟨hg5.os, hg5.tape, hg5.output, hg5.size, hg5.block⟩
    rw [hw4] at hg6
    refine ⟨HA.out w3 w5 l' H3.out HM'.out HI'.out hm5 hg6, ?_⟩
    have o1 : Only (fun p => p = hb ∨ p = r ∨ p = ab) w w3 := ((Only.refl w).below HB2.out).trans O3.out (fun _ _ h => .inr h)
    exact (o1.setCell (fun _ => .inl rfl) 1 (.slice (some ⟨r, 0, none⟩) N cap)).grown hg6 (fun q _ e => by cases e; exact .inr (.inr rfl))
  have HEND := Lib.hid hend
  clear hx3 hx4 hh4 hm4 hw4 hend k1' k2' f1 hgb
  go_still_tail 5, (by kernel_rfl)
  change wpList _ _ _ _ _ w4.drew
  by_cases hiN : i < N
  · have b1 : decide ((i : Int) < (N : Int)) = true := by simpa using hiN
    have b2 : decide (i < N) = true := by simpa using hiN
    have b3 : (i : Int) < (N : Int) := by omega
    have HIN := Lib.hid hiN
    clear hiN
    go_wp2_with (first
      | (at_delete; refine MapG.wp_del keyedT kvT _ rfl _ _ 111 rfl Tryz.underlying111 rfl (HM4.out.same rfl) ⟨k1, k2⟩ rfl HK.out ?_; intro w5 hm5 hg5 _; have H5 := Lib.hid (HEND.out w5 hg5 hm5); clear hm5 hg5)
      | (go_at_call 120; refine (HFIX.out _ H5.out.1 HIN.out).mono ?_; rintro e w6 ⟨rfl, h6, o6⟩; have H6 := Lib.hid h6; have O6 := Lib.hid (H5.out.2.trans o6 (fun _ _ h => .inr h)); clear h6 o6))
    go_ret
    exact ⟨rfl, by rw [ED.out, if_pos HIN.out, EC.out]; exact H6.out, O6.out⟩
  · have b1 : decide ((i : Int) < (N : Int)) = false := by simpa using hiN
    have b2 : decide (i < N) = false := by simpa using hiN
    have HIN := Lib.hid hiN
    clear hiN
    go_wp2_with (at_delete; refine MapG.wp_del keyedT kvT _ rfl _ _ 111 rfl Tryz.underlying111 rfl (HM4.out.same rfl) ⟨k1, k2⟩ rfl HK.out ?_; intro w5 hm5 hg5 _; have H5 := Lib.hid (HEND.out w5 hg5 hm5); clear hm5 hg5)
    go_ret
    exact ⟨rfl, by rw [ED.out, if_neg (by have := HIN.out; omega), EC.out]; exact H5.out.1, H5.out.2⟩
end Go.Proofs.YtjmdgicdpggljaaGreat.GH

/- Proved: what Min and New answer of a heap whose keys are pairs of numbers; Set and Drop at any key. -/
namespace Go.Proofs.YtjmdgicdpggljaaGreat.GH
open Go.RowKit Go.Proofs.YtjmdgicdpggljaaGreat.Histo Go.Proofs.YtjmdgicdpggljaaGreat.Event
set_option linter.unusedVariables false
open Go.Proofs.YtjmdgicdpggljaaGreat.MapG (Codec Mk)
open Go.Proofs.YtjmdgicdpggljaaGreat.MapI (W64)

set_option maxRecDepth 100000 in
set_option maxHeartbeats 8000000 in
theorem minT_none (hb ab : Nat) (v : Value) (w : World) (h : HeapAtT w hb ab v []) :
    Calls Tryz.prog 82 #[.pointer (some ⟨hb, 0, none⟩)] w fun e w' => e = .returned (.tuple #[.agg #[.int .i64 0, .int .i64 0], .agg #[.int .i64 0, .int .i64 0, .int .i64 0], .bool false]) ∧ Below w.heap.size w w' := by
  have hd1 : w.cell? ⟨hb, 1, none⟩ = some v := h.head.cell 1
  have hbl := h.head.lt
  obtain ⟨a, cap, hv⟩ : ∃ a cap, v = .slice a 0 cap := by
    rcases h.row.2 with ⟨h1, h2⟩ | ⟨g, cap, cur, h1, _⟩
    · exact ⟨none, 0, h1⟩
    · exact ⟨_, cap, h1⟩
  subst hv
  clear h
  go_enter Tryz.func82, Tryz.ntmps82
  go_wp2
  go_region
  go_wp2
  exact bodyPost_ret (v := .tuple #[.agg #[.int .i64 0, .int .i64 0], .agg #[.int .i64 0, .int .i64 0, .int .i64 0], .bool false]) (by simp [results, Tryz.results82, go_sem]) rfl ⟨rfl, ((((Below.refl _ _).alloc (Nat.le_refl _) _).alloc (by simp) _).alloc (by simp; omega) _).drew⟩
set_option maxRecDepth 100000 in
set_option maxHeartbeats 8000000 in
theorem minT_some (hb ab : Nat) (v : Value) (xs : HL TKey TMark) (w : World) (h : HeapAtT w hb ab v xs) (hx : 0 < xs.length) :
    Calls Tryz.prog 82 #[.pointer (some ⟨hb, 0, none⟩)] w fun e w' => e = .returned (.tuple #[kvalT (hkey xs 0), .agg (hval xs 0).vals.toArray, .bool true]) ∧ Below w.heap.size w w' := by
  obtain ⟨r, cap, rfl, _⟩ := row_slice h.row hx
  have hd1 : w.cell? ⟨hb, 1, none⟩ = some (.slice (some ⟨r, 0, none⟩) xs.length cap) := h.head.cell 1
  have hbl := h.head.lt
  obtain ⟨cur, hcur⟩ := ownsRow_blk h.row
  have hrl := hcur.lt
  have hg := hget_pair hx
  obtain ⟨c0, _⟩ := row_cell ivT_len h.row hg (q := 0) (by omega)
  obtain ⟨c1, _⟩ := row_cell ivT_len h.row hg (q := 1) (by omega)
  obtain ⟨c2, _⟩ := row_cell ivT_len h.row hg (q := 2) (by omega)
  obtain ⟨c3, _⟩ := row_cell ivT_len h.row hg (q := 3) (by omega)
  obtain ⟨c4, _⟩ := row_cell ivT_len h.row hg (q := 4) (by omega)
  simp only [ivT, TMark.vals, List.getElem?_cons_zero, List.getElem?_cons_succ, Nat.zero_mul, Nat.zero_add] at c0 c1 c2 c3 c4
  obtain ⟨k1, hk1⟩ : ∃ a, a = (hkey xs 0).kind := ⟨_, rfl⟩
  obtain ⟨k2, hk2⟩ : ∃ a, a = (hkey xs 0).id := ⟨_, rfl⟩
  obtain ⟨a1, ha1⟩ : ∃ a, a = (hval xs 0).at_ := ⟨_, rfl⟩
  obtain ⟨a2, ha2⟩ : ∃ a, a = (hval xs 0).key.kind := ⟨_, rfl⟩
  obtain ⟨a3, ha3⟩ : ∃ a, a = (hval xs 0).key.id := ⟨_, rfl⟩
  simp only [TMark.vals, kvalT]
  rw [← hk1] at c0 ⊢
  rw [← hk2] at c1 ⊢
  rw [← ha1] at c2 ⊢
  rw [← ha2] at c3 ⊢
  rw [← ha3] at c4 ⊢
  have hle := h.le
  obtain ⟨N, hN⟩ : ∃ N, N = xs.length := ⟨_, rfl⟩
  rw [← hN] at hd1 hx hle
  have hN0 : (0 : Int) < (N : Int) := by omega
  have hNe : ((N : Int) == 0) = false := by simp; omega
  clear h hcur hg hN hk1 hk2 ha1 ha2 ha3
  go_enter Tryz.func82, Tryz.ntmps82
  go_wp2
  go_region
  go_wp2
  exact bodyPost_ret (v := .tuple #[.agg #[.int .i64 k1, .int .i64 k2], .agg #[.int .i64 a1, .int .i64 a2, .int .i64 a3], .bool true]) (by simp [results, Tryz.results82, go_sem]) rfl ⟨rfl, (((Below.refl _ _).alloc (Nat.le_refl _) _).alloc (by simp) _).drew⟩
theorem newT (w : World) : Calls Tryz.prog 18 #[.func (.func 19) #[] #[]] w fun e w' => e = .returned (.pointer (some ⟨w.heap.size + 1, 0, none⟩)) ∧ w' = (w.alloc (.map #[] 0)).alloc (.cells #[.func (.func 19) #[] #[], .slice none 0 0, .map (some w.heap.size)] 114) := by
  have hmm := @run_makeMap Tryz.prog
  go_enter Tryz.func18, Tryz.ntmps18
  go_wp2
  go_ret
  exact ⟨rfl, rfl⟩
theorem HeapAtT.new (w : World) : HeapAtT ((w.alloc (.map #[] 0)).alloc (.cells #[.func (.func 19) #[] #[], .slice none 0 0, .map (some w.heap.size)] 114)) (w.heap.size + 1) w.heap.size (.slice none 0 0) [] :=
  ⟨two_blk _ _ _ _, World.ownsRow_nil _ _ _ _, ⟨[], (Mk.made w).alloc _, fun _ => rfl⟩, List.nodup_nil, (fun _ h => by cases h), (by simp)⟩
theorem HeapToT.same {w w' : World} {hb ab : Nat} {v : Value} {xs ys : HL TKey TMark} (h : HeapAtT w' hb ab v ys) (ho : Only (fun p => p = hb ∨ p = ab ∨ v.ownBlock = some p) w w') (e : ys = xs) : HeapToT w hb ab v xs w' := by subst e; exact ⟨v, h, .inl rfl, ho⟩
theorem setT (hb ab : Nat) (v : Value) (xs : HL TKey TMark) (k : TKey) (m : TMark) (w : World) (h : HeapAtT w hb ab v xs) (hk : KeyOkT k) (hlt : xs.length < 1099511627776) :
    Calls Tryz.prog 115 #[.pointer (some ⟨hb, 0, none⟩), kvalT k, .agg m.vals.toArray] w fun e w' => e = .returned (.tuple #[]) ∧ HeapToT w hb ab v (hset TMark.lt xs k m) w' := by
  cases hi : hidx xs k with
  | none => exact setT_new hb ab v xs k m w h hk hi hlt
  | some i =>
    obtain ⟨r, cap, rfl, _⟩ := row_slice h.row (by have := ((hidx_some h.nodup).1 hi).1; omega)
    exact (setT_in hb ab r cap xs k i m w h hk hi).mono fun e w' ⟨he, h2, o2⟩ => ⟨he, HeapToT.same h2 (o2.mono fun p _ hp => by
      rcases hp with rfl | rfl
      · exact .inr (.inr rfl)
      · exact .inr (.inl rfl)) rfl⟩
theorem dropT (hb ab : Nat) (v : Value) (xs : HL TKey TMark) (k : TKey) (w : World) (h : HeapAtT w hb ab v xs) (hk : KeyOkT k) :
    Calls Tryz.prog 83 #[.pointer (some ⟨hb, 0, none⟩), kvalT k] w fun e w' => (∃ b, e = .returned (.bool b)) ∧ HeapToT w hb ab v (hdrop TMark.lt xs k) w' := by
  cases hi : hidx xs k with
  | none =>
    refine (dropT_none hb ab v xs k w h hk hi).mono fun e w' ⟨he, hw⟩ => ⟨⟨_, he⟩, ?_⟩
    exact HeapToT.same (h.below hw) ((Only.refl w).below hw) (by unfold hdrop; rw [hi])
  | some i =>
    have hil := ((hidx_some h.nodup).1 hi).1
    obtain ⟨r, cap, rfl, _⟩ := row_slice h.row (by omega)
    obtain ⟨N, hN⟩ : ∃ N, xs.length = N + 1 := ⟨xs.length - 1, by omega⟩
    exact (dropT_some hb ab r cap i N xs k w h hk hi hN).mono fun e w' ⟨he, h2, o2⟩ => ⟨⟨_, he⟩, _, h2, .inl rfl, o2.mono fun p _ hp => by
      rcases hp with rfl | rfl | rfl
      · exact .inl rfl
      · exact .inr (.inr rfl)
      · exact .inr (.inl rfl)⟩
end Go.Proofs.YtjmdgicdpggljaaGreat.GH

/- Proved: what the methods of timer.Timers answer and leave. -/
namespace Go.Proofs.YtjmdgicdpggljaaGreat.GH
open Go.RowKit Go.Proofs.YtjmdgicdpggljaaGreat.Histo Go.Proofs.YtjmdgicdpggljaaGreat.Event
set_option linter.unusedVariables false
open Go.Proofs.YtjmdgicdpggljaaGreat.MapG (Codec Mk)
open Go.Proofs.YtjmdgicdpggljaaGreat.MapI (W64)

structure TimersAt (w : World) (p hb ab : Nat) (v : Value) (t : Timers) : Prop where
  head : Blk w p 95 #[.pointer (some ⟨hb, 0, none⟩)]
  heap : HeapAtT w hb ab v t
/-- What a method that writes leaves: the row where it was, or in a new block. -/
def TimersTo (w : World) (p hb ab : Nat) (v : Value) (t : Timers) (w' : World) : Prop :=
  ∃ v', TimersAt w' p hb ab v' t ∧ (v'.ownBlock = v.ownBlock ∨ ∃ q, v'.ownBlock = some q ∧ w.heap.size ≤ q) ∧ Only (fun q => q = hb ∨ q = ab ∨ v.ownBlock = some q) w w'
theorem timers_own {w : World} {p hb ab : Nat} {v : Value} {t : Timers} (h : TimersAt w p hb ab v t) : p ≠ hb ∧ p ≠ ab ∧ v.ownBlock ≠ some p := by
  obtain ⟨l, hm, _⟩ := h.heap.map
  exact ⟨ne_of_types h.head h.heap.head (by decide), ne_of_map h.head hm, own_ne h.heap.row h.head (by decide)⟩
theorem timers_heap {w w' : World} {p hb ab : Nat} {v : Value} {t ys : Timers} (h : TimersAt w p hb ab v t) (ht : HeapToT w hb ab v ys w') : TimersTo w p hb ab v ys w' := by
  obtain ⟨v', h1, h2, h3⟩ := ht
  obtain ⟨n1, n2, n3⟩ := timers_own h
  refine ⟨v', ⟨(h3.block p h.head.lt (fun e => ?_)).trans h.head, h1⟩, h2, h3⟩
  rcases e with e | e | e
  · exact n1 e
  · exact n2 e
  · exact n3 e
theorem TimersAt.below {w w' : World} {p hb ab : Nat} {v : Value} {t : Timers} (h : TimersAt w p hb ab v t) (hb' : Below w.heap.size w w') : TimersAt w' p hb ab v t := ⟨h.head.below hb' h.head.lt, h.heap.below hb'⟩
theorem TimersTo.refl {w w' : World} {p hb ab : Nat} {v : Value} {t t' : Timers} (h : TimersAt w p hb ab v t) (hb' : Below w.heap.size w w') (e : t' = t) : TimersTo w p hb ab v t' w' := by subst e; exact ⟨v, h.below hb', .inl rfl, (Only.refl w).below hb'⟩
theorem TimersTo.before {w w1 w2 : World} {p hb ab : Nat} {v : Value} {t : Timers} (hb' : Below w.heap.size w w1) (h : TimersTo w1 p hb ab v t w2) : TimersTo w p hb ab v t w2 := by
  obtain ⟨v', h1, h2, h3⟩ := h
  refine ⟨v', h1, ?_, ((Only.refl w).below hb').trans h3 fun q _ hq => hq⟩
  rcases h2 with h2 | ⟨q, h2, h4⟩
  · exact .inl h2
  · exact .inr ⟨q, h2, by have := hb'.size; omega⟩
theorem TimersTo.after {w w1 w2 : World} {p hb ab : Nat} {v : Value} {t : Timers} (h : TimersTo w p hb ab v t w1) (hb' : Below w1.heap.size w1 w2) : TimersTo w p hb ab v t w2 := by
  obtain ⟨v', h1, h2, h3⟩ := h
  exact ⟨v', h1.below hb', h2, h3.below hb'⟩
set_option maxHeartbeats 4000000 in
theorem tnew_any (w : World) : Calls Tryz.prog 13 #[] w fun e w' => e = .returned (.pointer (some ⟨w.heap.size + 2, 0, none⟩)) ∧ TimersAt w' (w.heap.size + 2) (w.heap.size + 1) w.heap.size (.slice none 0 0) [] ∧ Below w.heap.size w w' ∧ w'.heap.size = w.heap.size + 3 := by
  have hn := newT w
  go_enter Tryz.func13, Tryz.ntmps13
  go_wp2_with (go_at_call 18; refine hn.mono ?_; rintro e w1 ⟨rfl, rfl⟩)
  go_ret
  refine ⟨rfl, ⟨?_, (HeapAtT.new w).below ((Below.refl _ _).alloc (Nat.le_refl _) _)⟩, (two_new _ _ _).alloc (by simp; omega) _, by simp⟩
  have := Blk.new ((w.alloc (.map #[] 0)).alloc (.cells #[.func (.func 19) #[] #[], .slice none 0 0, .map (some w.heap.size)] 114)) 95 #[.pointer (some ⟨w.heap.size + 1, 0, none⟩)]
  simpa using this
set_option maxRecDepth 100000 in
set_option maxHeartbeats 8000000 in
theorem tset_any (p hb ab : Nat) (v : Value) (t : Timers) (k : TKey) (x : Int) (w : World) (h : TimersAt w p hb ab v t) (hk : KeyOkT k) (hlt : t.length < 1099511627776) :
    Calls Tryz.prog 74 #[.pointer (some ⟨p, 0, none⟩), kvalT k, .int .i64 x] w fun e w' => e = .returned (.tuple #[]) ∧ TimersTo w p hb ab v (t.set_ k x) w' := by
  have c0 : w.cell? ⟨p, 0, none⟩ = some (.pointer (some ⟨hb, 0, none⟩)) := h.head.cell 0
  have hpl := h.head.lt
  have hset := fun W hW => setT hb ab v t k ⟨x, k⟩ W hW hk hlt
  obtain ⟨Y, hY⟩ : ∃ Y, Y = t.set_ k x := ⟨_, rfl⟩
  rw [← hY]
  unfold Timers.set_ at hY
  rw [← hY] at hset
  obtain ⟨k1, k2, hka⟩ : ∃ k1 k2, k = (⟨k1, k2⟩ : TKey) := ⟨k.kind, k.id, rfl⟩
  subst hka
  simp only [kvalT, TMark.vals] at hset ⊢
  have H := Lib.hid h
  have HSET := Lib.hid hset
  clear h hset hk hY
  go_enter Tryz.func74, Tryz.ntmps74
  go_upto_region 1 with (fail)
  have hb1 := (Below.refl w.heap.size w).alloc (Nat.le_refl _) (.cells #[.int .i64 k1, .int .i64 k2] 90)
  have hx1 := Blk.new w 90 #[.int .i64 k1, .int .i64 k2]
  generalize w.alloc _ = w1 at hb1 hx1 ⊢
  generalize w.heap.size = gx at hx1 ⊢
  have d0 := (hb1.cell (p := ⟨p, 0, none⟩) hpl).trans c0
  have x0 : w1.cell? ⟨gx, 0, none⟩ = some (.int .i64 k1) := hx1.cell 0
  have x1 : w1.cell? ⟨gx, 1, none⟩ = some (.int .i64 k2) := hx1.cell 1
  have HB1 := Lib.hid hb1
  clear c0 hb1 hx1
  go_still_tail 8, (by kernel_rfl)
  change wpList _ _ _ _ _ w1.drew
  have hb3 : Below w.heap.size w w1.drew := HB1.out.drew
  generalize w1.drew = w3 at hb3 ⊢
  have HB3 := Lib.hid hb3
  clear hb3 x0 x1 d0
  go_wp2_with (go_at_call 115; refine (HSET.out _ (H.out.below HB3.out).heap).mono ?_; rintro e w4 ⟨rfl, h4⟩; have H4 := Lib.hid h4; clear h4)
  go_end0
  exact ⟨rfl, TimersTo.before HB3.out (timers_heap (H.out.below HB3.out) H4.out)⟩
set_option maxRecDepth 100000 in
set_option maxHeartbeats 8000000 in
theorem tdrop_any (p hb ab : Nat) (v : Value) (t : Timers) (k : TKey) (w : World) (h : TimersAt w p hb ab v t) (hk : KeyOkT k) :
    Calls Tryz.prog 104 #[.pointer (some ⟨p, 0, none⟩), kvalT k] w fun e w' => (∃ b, e = .returned (.bool b)) ∧ TimersTo w p hb ab v (t.drop k) w' := by
  have c0 : w.cell? ⟨p, 0, none⟩ = some (.pointer (some ⟨hb, 0, none⟩)) := h.head.cell 0
  have hpl := h.head.lt
  have hdr := fun W hW => dropT hb ab v t k W hW hk
  obtain ⟨Y, hY⟩ : ∃ Y, Y = Timers.drop t k := ⟨_, rfl⟩
  rw [← hY]
  unfold Timers.drop at hY
  rw [← hY] at hdr
  obtain ⟨k1, k2, hka⟩ : ∃ k1 k2, k = (⟨k1, k2⟩ : TKey) := ⟨k.kind, k.id, rfl⟩
  subst hka
  simp only [kvalT] at hdr ⊢
  have H := Lib.hid h
  have HDR := Lib.hid hdr
  clear h hdr hk hY
  go_enter Tryz.func104, Tryz.ntmps104
  go_upto_region 1 with (fail)
  have hb1 := (Below.refl w.heap.size w).alloc (Nat.le_refl _) (.cells #[.int .i64 k1, .int .i64 k2] 90)
  have hx1 := Blk.new w 90 #[.int .i64 k1, .int .i64 k2]
  generalize w.alloc _ = w1 at hb1 hx1 ⊢
  generalize w.heap.size = gx at hx1 ⊢
  have d0 := (hb1.cell (p := ⟨p, 0, none⟩) hpl).trans c0
  have x0 : w1.cell? ⟨gx, 0, none⟩ = some (.int .i64 k1) := hx1.cell 0
  have x1 : w1.cell? ⟨gx, 1, none⟩ = some (.int .i64 k2) := hx1.cell 1
  have HB1 := Lib.hid hb1
  clear c0 hb1 hx1
  go_still_tail 5, (by kernel_rfl)
  change wpList _ _ _ _ _ w1.drew
  have hb3 : Below w.heap.size w w1.drew := HB1.out.drew
  generalize w1.drew = w3 at hb3 ⊢
  have HB3 := Lib.hid hb3
  clear hb3 x0 x1 d0
  go_wp2_with (go_at_call 83; refine (HDR.out _ (H.out.below HB3.out).heap).mono ?_; rintro e w4 ⟨⟨b, rfl⟩, h4⟩; have H4 := Lib.hid h4; clear h4)
  go_ret
  exact ⟨⟨_, rfl⟩, TimersTo.before HB3.out (timers_heap (H.out.below HB3.out) H4.out)⟩
end Go.Proofs.YtjmdgicdpggljaaGreat.GH

/- Proved: what timer.Timers.Next answers and leaves. -/
namespace Go.Proofs.YtjmdgicdpggljaaGreat.GH
open Go.RowKit Go.Proofs.YtjmdgicdpggljaaGreat.Histo Go.Proofs.YtjmdgicdpggljaaGreat.Event
set_option linter.unusedVariables false
open Go.Proofs.YtjmdgicdpggljaaGreat.MapG (Codec Mk)
open Go.Proofs.YtjmdgicdpggljaaGreat.MapI (W64)

set_option maxRecDepth 100000 in
set_option maxHeartbeats 8000000 in
theorem tnext_empty (p hb ab : Nat) (v : Value) (t : Timers) (now : Int) (w : World) (h : TimersAt w p hb ab v t) (he : t = []) :
    Calls Tryz.prog 41 #[.pointer (some ⟨p, 0, none⟩), .int .i64 now] w fun e w' => e = .returned (.tuple #[.agg #[.int .i64 0, .int .i64 0], .bool false]) ∧ Below w.heap.size w w' := by
  subst he
  have c0 : w.cell? ⟨p, 0, none⟩ = some (.pointer (some ⟨hb, 0, none⟩)) := h.head.cell 0
  have hpl := h.head.lt
  have hmin := fun W hW => minT_none hb ab v W hW
  have H := Lib.hid h
  have HMIN := Lib.hid hmin
  clear h hmin
  go_enter Tryz.func41, Tryz.ntmps41
  go_upto_region 2 with (go_at_call 82; refine (HMIN.out _ (H.out.below ((Below.refl _ _).alloc (Nat.le_refl _) _)).heap).mono ?_; rintro e w1 ⟨rfl, hb1⟩; have HB1 := Lib.hid hb1; have HX1 := Lib.hid ((Blk.new w 90 #[.int .i64 0, .int .i64 0]).below hb1 (by simp)); clear hb1)
  have hb0 : Below w.heap.size w w1 := below_step ((Below.refl _ _).alloc (Nat.le_refl _) _) HB1.out
  have hb2 : Below w.heap.size w ((w1.alloc (.cells #[.int .i64 0, .int .i64 0] 90)).alloc (.cells #[.int .i64 0, .int .i64 0, .int .i64 0] 92)) := (hb0.alloc hb0.size _).alloc (by have := hb0.size; simp; omega) _
  have hx2 := (HX1.out.alloc (.cells #[.int .i64 0, .int .i64 0] 90)).alloc (.cells #[.int .i64 0, .int .i64 0, .int .i64 0] 92)
  have hy2 := (Blk.new w1 90 #[.int .i64 0, .int .i64 0]).alloc (.cells #[.int .i64 0, .int .i64 0, .int .i64 0] 92)
  have hz2 := two_blk w1 (.cells #[.int .i64 0, .int .i64 0] 90) 92 #[.int .i64 0, .int .i64 0, .int .i64 0]
  have hs1 : w.heap.size < w1.heap.size := by have := HB1.out.size; rw [World.size_alloc] at this; omega
  generalize (w1.alloc _).alloc _ = w2 at hb2 hx2 hy2 hz2 ⊢
  generalize w1.heap.size + 1 = g7 at hz2 ⊢
  generalize w1.heap.size = g6 at hy2 hs1 ⊢
  have HB2 := Lib.hid hb2
  have HX2 := Lib.hid hx2
  have HY2 := Lib.hid hy2
  have d0 := (hb2.cell (p := ⟨p, 0, none⟩) hpl).trans c0
  have hgp : p < w.heap.size := hpl
  obtain ⟨g4, hg4⟩ : ∃ g, g = w.heap.size := ⟨_, rfl⟩
  rw [← hg4] at hx2 hs1
  rw [← hg4]
  have x0 : w2.cell? ⟨g4, 0, none⟩ = some (.int .i64 0) := hx2.cell 0
  have x1 : w2.cell? ⟨g4, 1, none⟩ = some (.int .i64 0) := hx2.cell 1
  have z0 : w2.cell? ⟨g7, 0, none⟩ = some (.int .i64 0) := hz2.cell 0
  have y0 : w2.cell? ⟨g6, 0, none⟩ = some (.int .i64 0) := hy2.cell 0
  have y1 : w2.cell? ⟨g6, 1, none⟩ = some (.int .i64 0) := hy2.cell 1
  have q0 : w2.frozen? ⟨g4, 0, none⟩ = false := hx2.frozen 0
  have q1 : w2.frozen? ⟨g4, 1, none⟩ = false := hx2.frozen 1
  have HG4 := Lib.hid hg4
  clear hb0 hb2 hx2 hy2 hz2 hg4 hgp c0
  go_wp2
  have hbe : Below w.heap.size w ((w2.setCell ⟨g4, 0, none⟩ (.int .i64 0)).setCell ⟨g4, 1, none⟩ (.int .i64 0)) := (HB2.out.setCell (by rw [HG4.out]; exact Nat.le_refl _) _).setCell (by rw [HG4.out]; exact Nat.le_refl _) _
  have hxe : Blk w2 g4 90 #[.int .i64 0, .int .i64 0] := by rw [HG4.out]; exact HX2.out
  have r0 : ((w2.setCell ⟨g4, 0, none⟩ (.int .i64 0)).setCell ⟨g4, 1, none⟩ (.int .i64 0)).cell? ⟨g4, 0, none⟩ = some (.int .i64 0) := ((hxe.set_ 0 _).set_ 1 _).cell 0
  have r1 : ((w2.setCell ⟨g4, 0, none⟩ (.int .i64 0)).setCell ⟨g4, 1, none⟩ (.int .i64 0)).cell? ⟨g4, 1, none⟩ = some (.int .i64 0) := ((hxe.set_ 0 _).set_ 1 _).cell 1
  exact bodyPost_ret (v := .tuple #[.agg #[.int .i64 0, .int .i64 0], .bool false]) (by simp [results, Tryz.results41, go_sem, r0, r1]) rfl ⟨rfl, hbe⟩
set_option maxRecDepth 100000 in
set_option maxHeartbeats 8000000 in
theorem tnext_late (p hb ab : Nat) (v : Value) (t : Timers) (now : Int) (w : World) (h : TimersAt w p hb ab v t) (hx : 0 < t.length) (hnow : now < (hval t 0).at_) :
    Calls Tryz.prog 41 #[.pointer (some ⟨p, 0, none⟩), .int .i64 now] w fun e w' => e = .returned (.tuple #[.agg #[.int .i64 0, .int .i64 0], .bool false]) ∧ Below w.heap.size w w' := by
  have c0 : w.cell? ⟨p, 0, none⟩ = some (.pointer (some ⟨hb, 0, none⟩)) := h.head.cell 0
  have hpl := h.head.lt
  have hmin := fun W hW => minT_some hb ab v t W hW hx
  have hok := (h.heap.ok _ (hkey_mem hx)).k
  obtain ⟨k, hk⟩ : ∃ k, k = hkey t 0 := ⟨_, rfl⟩
  obtain ⟨mm, hmm⟩ : ∃ mm, mm = hval t 0 := ⟨_, rfl⟩
  rw [← hk, ← hmm] at hmin
  rw [← hmm] at hnow
  obtain ⟨k1, k2, hka⟩ : ∃ k1 k2, k = (⟨k1, k2⟩ : TKey) := ⟨k.kind, k.id, rfl⟩
  obtain ⟨a1, a2, a3, hma⟩ : ∃ a1 a2 a3, mm = (⟨a1, ⟨a2, a3⟩⟩ : TMark) := ⟨mm.at_, mm.key.kind, mm.key.id, rfl⟩
  subst hka hma
  simp only [TMark.vals, kvalT] at hmin hnow
  have b1 : decide (now < a1) = true := by simpa using hnow
  have H := Lib.hid h
  have HMIN := Lib.hid hmin
  clear h hmin hk hmm hok hnow hx
  go_enter Tryz.func41, Tryz.ntmps41
  go_upto_region 2 with (go_at_call 82; refine (HMIN.out _ (H.out.below ((Below.refl _ _).alloc (Nat.le_refl _) _)).heap).mono ?_; rintro e w1 ⟨rfl, hb1⟩; have HB1 := Lib.hid hb1; have HX1 := Lib.hid ((Blk.new w 90 #[.int .i64 0, .int .i64 0]).below hb1 (by simp)); clear hb1)
  have hb0 : Below w.heap.size w w1 := below_step ((Below.refl _ _).alloc (Nat.le_refl _) _) HB1.out
  have hb2 : Below w.heap.size w ((w1.alloc (.cells #[.int .i64 k1, .int .i64 k2] 90)).alloc (.cells #[.int .i64 a1, .int .i64 a2, .int .i64 a3] 92)) := (hb0.alloc hb0.size _).alloc (by have := hb0.size; simp; omega) _
  have hx2 := (HX1.out.alloc (.cells #[.int .i64 k1, .int .i64 k2] 90)).alloc (.cells #[.int .i64 a1, .int .i64 a2, .int .i64 a3] 92)
  have hy2 := (Blk.new w1 90 #[.int .i64 k1, .int .i64 k2]).alloc (.cells #[.int .i64 a1, .int .i64 a2, .int .i64 a3] 92)
  have hz2 := two_blk w1 (.cells #[.int .i64 k1, .int .i64 k2] 90) 92 #[.int .i64 a1, .int .i64 a2, .int .i64 a3]
  have hs1 : w.heap.size < w1.heap.size := by have := HB1.out.size; rw [World.size_alloc] at this; omega
  generalize (w1.alloc _).alloc _ = w2 at hb2 hx2 hy2 hz2 ⊢
  generalize w1.heap.size + 1 = g7 at hz2 ⊢
  generalize w1.heap.size = g6 at hy2 hs1 ⊢
  have HB2 := Lib.hid hb2
  have HX2 := Lib.hid hx2
  have HY2 := Lib.hid hy2
  have d0 := (hb2.cell (p := ⟨p, 0, none⟩) hpl).trans c0
  have hgp : p < w.heap.size := hpl
  obtain ⟨g4, hg4⟩ : ∃ g, g = w.heap.size := ⟨_, rfl⟩
  rw [← hg4] at hx2 hs1
  rw [← hg4]
  have x0 : w2.cell? ⟨g4, 0, none⟩ = some (.int .i64 0) := hx2.cell 0
  have x1 : w2.cell? ⟨g4, 1, none⟩ = some (.int .i64 0) := hx2.cell 1
  have z0 : w2.cell? ⟨g7, 0, none⟩ = some (.int .i64 a1) := hz2.cell 0
  have y0 : w2.cell? ⟨g6, 0, none⟩ = some (.int .i64 k1) := hy2.cell 0
  have y1 : w2.cell? ⟨g6, 1, none⟩ = some (.int .i64 k2) := hy2.cell 1
  have q0 : w2.frozen? ⟨g4, 0, none⟩ = false := hx2.frozen 0
  have q1 : w2.frozen? ⟨g4, 1, none⟩ = false := hx2.frozen 1
  have HG4 := Lib.hid hg4
  clear hb0 hb2 hx2 hy2 hz2 hg4 hgp c0
  go_wp2
  have hbe : Below w.heap.size w ((w2.setCell ⟨g4, 0, none⟩ (.int .i64 0)).setCell ⟨g4, 1, none⟩ (.int .i64 0)) := (HB2.out.setCell (by rw [HG4.out]; exact Nat.le_refl _) _).setCell (by rw [HG4.out]; exact Nat.le_refl _) _
  have hxe : Blk w2 g4 90 #[.int .i64 0, .int .i64 0] := by rw [HG4.out]; exact HX2.out
  have r0 : ((w2.setCell ⟨g4, 0, none⟩ (.int .i64 0)).setCell ⟨g4, 1, none⟩ (.int .i64 0)).cell? ⟨g4, 0, none⟩ = some (.int .i64 0) := ((hxe.set_ 0 _).set_ 1 _).cell 0
  have r1 : ((w2.setCell ⟨g4, 0, none⟩ (.int .i64 0)).setCell ⟨g4, 1, none⟩ (.int .i64 0)).cell? ⟨g4, 1, none⟩ = some (.int .i64 0) := ((hxe.set_ 0 _).set_ 1 _).cell 1
  exact bodyPost_ret (v := .tuple #[.agg #[.int .i64 0, .int .i64 0], .bool false]) (by simp [results, Tryz.results41, go_sem, r0, r1]) rfl ⟨rfl, hbe⟩
set_option maxRecDepth 100000 in
set_option maxHeartbeats 8000000 in
theorem tnext_due (p hb ab : Nat) (v : Value) (t : Timers) (now : Int) (w : World) (h : TimersAt w p hb ab v t) (hx : 0 < t.length) (hnow : ¬ now < (hval t 0).at_) :
    Calls Tryz.prog 41 #[.pointer (some ⟨p, 0, none⟩), .int .i64 now] w fun e w' => e = .returned (.tuple #[kvalT (hkey t 0), .bool true]) ∧ TimersTo w p hb ab v (Timers.drop t (hkey t 0)) w' := by
  have c0 : w.cell? ⟨p, 0, none⟩ = some (.pointer (some ⟨hb, 0, none⟩)) := h.head.cell 0
  have hpl := h.head.lt
  have hmin := fun W hW => minT_some hb ab v t W hW hx
  have hok := (h.heap.ok _ (hkey_mem hx)).k
  have hdr := fun W hW => dropT hb ab v t (hkey t 0) W hW hok
  obtain ⟨Y, hY⟩ : ∃ Y, Y = Timers.drop t (hkey t 0) := ⟨_, rfl⟩
  rw [← hY]
  unfold Timers.drop at hY
  rw [← hY] at hdr
  obtain ⟨k, hk⟩ : ∃ k, k = hkey t 0 := ⟨_, rfl⟩
  obtain ⟨mm, hmm⟩ : ∃ mm, mm = hval t 0 := ⟨_, rfl⟩
  rw [← hk, ← hmm] at hmin
  rw [← hmm] at hnow
  rw [← hk] at hdr
  rw [← hk]
  obtain ⟨k1, k2, hka⟩ : ∃ k1 k2, k = (⟨k1, k2⟩ : TKey) := ⟨k.kind, k.id, rfl⟩
  obtain ⟨a1, a2, a3, hma⟩ : ∃ a1 a2 a3, mm = (⟨a1, ⟨a2, a3⟩⟩ : TMark) := ⟨mm.at_, mm.key.kind, mm.key.id, rfl⟩
  subst hka hma
  simp only [TMark.vals, kvalT] at hmin hnow hdr ⊢
  have HDR := Lib.hid hdr
  clear hdr hY
  have b1 : decide (now < a1) = false := by simpa using hnow
  have H := Lib.hid h
  have HMIN := Lib.hid hmin
  clear h hmin hk hmm hok hnow hx
  go_enter Tryz.func41, Tryz.ntmps41
  go_upto_region 2 with (go_at_call 82; refine (HMIN.out _ (H.out.below ((Below.refl _ _).alloc (Nat.le_refl _) _)).heap).mono ?_; rintro e w1 ⟨rfl, hb1⟩; have HB1 := Lib.hid hb1; have HX1 := Lib.hid ((Blk.new w 90 #[.int .i64 0, .int .i64 0]).below hb1 (by simp)); clear hb1)
  have hb0 : Below w.heap.size w w1 := below_step ((Below.refl _ _).alloc (Nat.le_refl _) _) HB1.out
  have hb2 : Below w.heap.size w ((w1.alloc (.cells #[.int .i64 k1, .int .i64 k2] 90)).alloc (.cells #[.int .i64 a1, .int .i64 a2, .int .i64 a3] 92)) := (hb0.alloc hb0.size _).alloc (by have := hb0.size; simp; omega) _
  have hx2 := (HX1.out.alloc (.cells #[.int .i64 k1, .int .i64 k2] 90)).alloc (.cells #[.int .i64 a1, .int .i64 a2, .int .i64 a3] 92)
  have hy2 := (Blk.new w1 90 #[.int .i64 k1, .int .i64 k2]).alloc (.cells #[.int .i64 a1, .int .i64 a2, .int .i64 a3] 92)
  have hz2 := two_blk w1 (.cells #[.int .i64 k1, .int .i64 k2] 90) 92 #[.int .i64 a1, .int .i64 a2, .int .i64 a3]
  have hs1 : w.heap.size < w1.heap.size := by have := HB1.out.size; rw [World.size_alloc] at this; omega
  generalize (w1.alloc _).alloc _ = w2 at hb2 hx2 hy2 hz2 ⊢
  generalize w1.heap.size + 1 = g7 at hz2 ⊢
  generalize w1.heap.size = g6 at hy2 hs1 ⊢
  have HB2 := Lib.hid hb2
  have HX2 := Lib.hid hx2
  have HY2 := Lib.hid hy2
  have d0 := (hb2.cell (p := ⟨p, 0, none⟩) hpl).trans c0
  have hgp : p < w.heap.size := hpl
  obtain ⟨g4, hg4⟩ : ∃ g, g = w.heap.size := ⟨_, rfl⟩
  rw [← hg4] at hx2 hs1
  rw [← hg4]
  have x0 : w2.cell? ⟨g4, 0, none⟩ = some (.int .i64 0) := hx2.cell 0
  have x1 : w2.cell? ⟨g4, 1, none⟩ = some (.int .i64 0) := hx2.cell 1
  have z0 : w2.cell? ⟨g7, 0, none⟩ = some (.int .i64 a1) := hz2.cell 0
  have y0 : w2.cell? ⟨g6, 0, none⟩ = some (.int .i64 k1) := hy2.cell 0
  have y1 : w2.cell? ⟨g6, 1, none⟩ = some (.int .i64 k2) := hy2.cell 1
  have q0 : w2.frozen? ⟨g4, 0, none⟩ = false := hx2.frozen 0
  have q1 : w2.frozen? ⟨g4, 1, none⟩ = false := hx2.frozen 1
  have HG4 := Lib.hid hg4
  clear hb0 hb2 hx2 hy2 hz2 hg4 hgp c0
  have hne : g4 ≠ g6 := by omega
  go_upto_region 4 with (fail)
  go_still_tail 5, (by kernel_rfl)
  change wpList _ _ _ _ _ w2.drew
  have hb3 : Below w.heap.size w w2.drew := HB2.out.drew
  have hx3 : Blk w2.drew g4 90 #[.int .i64 0, .int .i64 0] := by rw [HG4.out]; exact HX2.out
  have hy3 : Blk w2.drew g6 90 #[.int .i64 k1, .int .i64 k2] := HY2.out
  generalize w2.drew = w3 at hb3 hx3 hy3 ⊢
  have HB3 := Lib.hid hb3
  have HX3 := Lib.hid hx3
  have HY3 := Lib.hid hy3
  clear hb3 hx3 hy3 x0 x1 z0 y0 y1 q0 q1 d0
  have far : ∀ w4, HeapToT w3 hb ab v Y w4 → ∀ g, w.heap.size ≤ g → g < w3.heap.size → w4.heap[g]? = w3.heap[g]? := fun w4 h4 g h1 h2 => by
    obtain ⟨_, _, _, h5⟩ := h4
    refine h5.block g h2 (fun e => ?_)
    have a1 := H.out.heap.head.lt
    have a2 : ab < w.heap.size := by obtain ⟨l, hm, _⟩ := H.out.heap.map; exact hm.lt
    rcases e with e | e | e
    · omega
    · omega
    · have := (H.out.heap.row.lt _ e).2; omega
  have HFAR := Lib.hid far
  clear far
  go_wp2_with (go_at_call 83; refine (HDR.out _ (H.out.below HB3.out).heap).mono ?_; rintro e w4 ⟨⟨b, rfl⟩, h4⟩; have H4 := Lib.hid h4; have hx4 : Blk w4 g4 _ _ := (HFAR.out w4 h4 g4 (by rw [HG4.out]; exact Nat.le_refl _) HX3.out.lt).trans HX3.out; have hy4 : Blk w4 g6 _ _ := (HFAR.out w4 h4 g6 (by rw [← HG4.out]; omega) HY3.out.lt).trans HY3.out; clear h4; have x0 := hx4.cell 0; have x1 := hx4.cell 1; have q0 := hx4.frozen 0; have q1 := hx4.frozen 1; have y0 := hy4.cell 0; have y1 := hy4.cell 1; have HX4 := Lib.hid hx4; clear hx4 hy4; simp only [List.getElem?_toArray, List.getElem?_cons_zero, List.getElem?_cons_succ] at x0 x1 y0 y1)
  have hto : TimersTo w p hb ab v Y w4 := TimersTo.before HB3.out (timers_heap (H.out.below HB3.out) H4.out)
  have hend : TimersTo w p hb ab v Y ((w4.setCell ⟨g4, 0, none⟩ (.int .i64 k1)).setCell ⟨g4, 1, none⟩ (.int .i64 k2)) := by
    obtain ⟨v', t1, t2, t3⟩ := hto
    have e1 : ∀ b, b ≠ g4 → ((w4.setCell ⟨g4, 0, none⟩ (.int .i64 k1)).setCell ⟨g4, 1, none⟩ (.int .i64 k2)).heap[b]? = w4.heap[b]? := fun b hb => (Below.heap_setCell _ _ _ _ hb).trans (Below.heap_setCell _ _ _ _ hb)
    have n1 : p ≠ g4 := ne_of_types t1.head HX4.out (by decide)
    have n2 : hb ≠ g4 := ne_of_types t1.heap.head HX4.out (by decide)
    have n3 : ab ≠ g4 := by obtain ⟨l, hm, _⟩ := t1.heap.map; exact (ne_of_map HX4.out hm).symm
    have n4 : v'.ownBlock ≠ some g4 := own_ne t1.heap.row HX4.out (by decide)
    refine ⟨v', ⟨(e1 p n1).trans t1.head, t1.heap.same (e1 hb n2) (e1 ab n3) (fun r hr => e1 r (fun e => n4 (by rw [hr, e])))⟩, t2, ?_⟩
    exact (t3.setCell (fun hlt => by rw [HG4.out] at hlt; exact absurd hlt (Nat.lt_irrefl _)) 0 _).setCell (fun hlt => by rw [HG4.out] at hlt; exact absurd hlt (Nat.lt_irrefl _)) 1 _
  have r0 : ((w4.setCell ⟨g4, 0, none⟩ (.int .i64 k1)).setCell ⟨g4, 1, none⟩ (.int .i64 k2)).cell? ⟨g4, 0, none⟩ = some (.int .i64 k1) := ((HX4.out.set_ 0 _).set_ 1 _).cell 0
  have r1 : ((w4.setCell ⟨g4, 0, none⟩ (.int .i64 k1)).setCell ⟨g4, 1, none⟩ (.int .i64 k2)).cell? ⟨g4, 1, none⟩ = some (.int .i64 k2) := ((HX4.out.set_ 0 _).set_ 1 _).cell 1
  exact bodyPost_ret (v := .tuple #[.agg #[.int .i64 k1, .int .i64 k2], .bool true]) (by simp [results, Tryz.results41, go_sem, r0, r1]) rfl ⟨rfl, hend⟩
end Go.Proofs.YtjmdgicdpggljaaGreat.GH
