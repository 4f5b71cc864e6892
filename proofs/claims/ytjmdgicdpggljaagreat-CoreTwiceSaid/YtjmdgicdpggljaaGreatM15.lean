/- Proved: what heap.Heap's Drop, Min and New leave and answer. -/
import Derived.Test.YtjmdgicdpggljaaGreatM14
import Derived.Test.YtjmdgicdpggljaaGreatM13
import Derived.Deep.DeepCutAuto
import Derived.Deep.CutBlock
import Derived.Deep.RegionHeld3
import Derived.Lib.MinMax
set_option linter.all false
namespace Go.Proofs.YtjmdgicdpggljaaGreat.GH
open Go.RowKit Go.Proofs.YtjmdgicdpggljaaGreat.Histo Go.Proofs.YtjmdgicdpggljaaGreat.Event
set_option linter.unusedVariables false
open Go.Proofs.YtjmdgicdpggljaaGreat.MapG (Codec Mk)
open Go.Proofs.YtjmdgicdpggljaaGreat.MapI (W64)

theorem row_take {α : Type} {enc : α → List Value} {z : Nat} {e : TypeId} {w : World} {r cap n : Nat} {xs : List α} (hz : ∀ a, (enc a).length = z) (h : w.ownsRow 0 e z (.slice (some ⟨r, 0, none⟩) xs.length cap) xs.length (xs.flatMap enc)) (hn : n ≤ xs.length) :
    w.ownsRow 0 e z (.slice (some ⟨r, 0, none⟩) (xs.take n).length cap) (xs.take n).length ((xs.take n).flatMap enc) := by
  obtain ⟨h1, h2⟩ := h
  rcases h2 with ⟨h2, _⟩ | ⟨g, cap', cur, h2, h0, hg, hc, hm, hs, ht⟩
  · cases h2
  · simp only [Value.slice.injEq, Option.some.injEq, Addr.mk.injEq, true_and, and_true] at h2
    obtain ⟨rfl, rfl⟩ := h2
    have hl : (xs.take n).length = n := by rw [List.length_take]; omega
    refine ⟨by rw [flat_len hz, Nat.mul_comm], .inr ⟨r, cap, cur, by rw [hl], h0, hg, by omega, hm, hs, ?_⟩⟩
    rw [hl]
    have e1 : (xs.take n).flatMap enc = (xs.flatMap enc).take (n * z) := by
      have e2 : xs.flatMap enc = (xs.take n).flatMap enc ++ (xs.drop n).flatMap enc := by rw [← List.flatMap_append, List.take_append_drop]
      rw [e2, List.take_left' (by rw [flat_len hz, hl, Nat.mul_comm])]
    rw [e1, ← ht, List.take_take, Nat.min_eq_left (Nat.mul_le_mul_right z hn)]
section
variable {K V : Type} [DecidableEq K] [Inhabited K] [Inhabited V]
theorem idx_cut {l : MapG.AL K} {xs : HL K V} (h : Idx l xs) (hn : (xs.map (·.1)).Nodup) {n : Nat} {k : K} (hl : xs.length = n + 1) (hk : hkey xs n = k) : Idx (MapG.del l k) (xs.take n) ∧ ((xs.take n).map (·.1)).Nodup := by
  have hn2 : ((xs.take n).map (·.1)).Nodup := by
    rw [List.map_take]
    exact hn.sublist (List.take_sublist _ _)
  refine ⟨fun q => ?_, hn2⟩
  rw [MapG.get_del]
  by_cases e : q = k
  · subst e
    rw [if_pos rfl]
    have : hidx (xs.take n) q = none := by
      rw [hidx_none]
      intro p hp hpk
      obtain ⟨j, hj, hjp⟩ := List.getElem_of_mem hp
      rw [List.length_take] at hj
      have hj2 : hkey xs j = q := by
        rw [List.getElem_take] at hjp
        rw [hkey_get, List.getElem?_eq_getElem (by omega), hjp]
        exact hpk
      have a1 := (hidx_some hn).2 ⟨(by omega : j < xs.length), hj2⟩
      have a2 := (hidx_some hn).2 ⟨(by omega : n < xs.length), hk⟩
      rw [a1] at a2
      injection a2 with a2
      omega
    rw [this]; rfl
  · rw [if_neg e, h q]
    congr 1
    cases h3 : hidx xs q with
    | none =>
      symm
      rw [hidx_none] at h3 ⊢
      exact fun p hp => h3 p (List.mem_of_mem_take hp)
    | some j =>
      symm
      obtain ⟨a, b⟩ := (hidx_some hn).1 h3
      have hjn : j ≠ n := fun e2 => e (by rw [← b, e2, hk])
      refine (hidx_some hn2).2 ⟨by rw [List.length_take]; omega, ?_⟩
      rw [hkey_get, List.getElem?_take_of_lt (by omega), ← hkey_get, b]
end
/-- Drop: behind the exchange. -/
structure CutW (w : World) (hb ab r cap n : Nat) (zs : HL Int Mark) (l : MapG.AL Int) : Prop where
  head : Blk w hb 231 #[.func (.func 157) #[] #[], .slice (some ⟨r, 0, none⟩) n cap, .map (some ab)]
  row : w.ownsRow 0 233 4 (.slice (some ⟨r, 0, none⟩) zs.length cap) zs.length (zs.flatMap ivW)
  map : Mk kW Tryz.prog 3 w ab l
set_option maxRecDepth 100000 in
set_option maxHeartbeats 8000000 in
theorem dropW_none (hb ab : Nat) (v : Value) (xs : HL Int Mark) (k : Int) (w : World) (h : HeapAtW w hb ab v xs) (hk : W64 k) (hi : hidx xs k = none) :
    Calls Tryz.prog 129 #[.pointer (some ⟨hb, 0, none⟩), .int .i64 k] w (RetV (.bool false) w) := by
  obtain ⟨l, hm1, hidx1⟩ := h.map
  have hlw : (Instr.lookup 229 (.map (some ab)) (.int .i64 k) true).run Tryz.prog w = .ok (.tuple #[.int .i64 0, .bool false]) w := by
    have := hm1.look_ok keyedW kvW Tryz.underlying229 (zero_intW _) (x := k) hk
    rw [hidx1, hi] at this
    exact this
  have hd2 : w.cell? ⟨hb, 2, none⟩ = some (.map (some ab)) := h.head.cell 2
  clear h hm1 hidx1 hi
  go_enter Tryz.func129, Tryz.ntmps129
  go_wp2
  go_ret
  exact ⟨rfl, 0, rfl⟩
set_option maxRecDepth 100000 in
set_option maxHeartbeats 8000000 in
theorem dropW_some (hb ab r cap i N : Nat) (xs : HL Int Mark) (k : Int) (w : World) (h : HeapAtW w hb ab (.slice (some ⟨r, 0, none⟩) xs.length cap) xs) (hk : W64 k) (hi : hidx xs k = some i) (hN : xs.length = N + 1) :
    Calls Tryz.prog 129 #[.pointer (some ⟨hb, 0, none⟩), .int .i64 k] w fun e w' => e = .returned (.bool true) ∧ HeapAtW w' hb ab (.slice (some ⟨r, 0, none⟩) N cap) (hdrop Mark.lt xs k) ∧ Only (fun p => p = hb ∨ p = r ∨ p = ab) w w' := by
  obtain ⟨hil, hki⟩ := (hidx_some h.nodup).1 hi
  obtain ⟨l, hm1, hidx1⟩ := h.map
  have hlw : (Instr.lookup 229 (.map (some ab)) (.int .i64 k) true).run Tryz.prog w = .ok (.tuple #[.int .i64 (i : Int), .bool true]) w := by
    have := hm1.look_ok keyedW kvW Tryz.underlying229 (zero_intW _) (x := k) hk
    rw [hidx1, hi] at this
    exact this
  have edrop : hdrop Mark.lt xs k = if i < N then hfix Mark.lt (hcut xs i) i else hcut xs i := by unfold hdrop; rw [hi, hN]; rfl
  have ecut : hcut xs i = (hswap xs i N).take N := by unfold hcut; rw [hN]; rfl
  have hd1 : w.cell? ⟨hb, 1, none⟩ = some (.slice (some ⟨r, 0, none⟩) (N + 1) cap) := by rw [← hN]; exact h.head.cell 1
  have hd2 : w.cell? ⟨hb, 2, none⟩ = some (.map (some ab)) := h.head.cell 2
  have hba : hb ≠ ab := ne_of_map h.head hm1
  obtain ⟨cur, hcur⟩ := ownsRow_blk h.row
  have hbr : hb ≠ r := ne_of_types h.head hcur (by decide)
  have hra : r ≠ ab := ne_of_map hcur hm1
  have hle := h.le
  have hcapN : N + 1 ≤ cap := by
    rcases h.row.2 with ⟨h1, _⟩ | ⟨g, cap', _, h1, _, _, hc, _⟩
    · cases h1
    · cases h1; omega
  have hsw : ∃ ys, ys = hswap xs i N ∧ Calls Tryz.prog 158 #[.pointer (some ⟨hb, 0, none⟩), .int .i64 (i : Int), .int .i64 (N : Int)] w fun e w' => e = .returned (.tuple #[]) ∧ HeapAtW w' hb ab (.slice (some ⟨r, 0, none⟩) (N + 1) cap) ys ∧ Only (fun p => p = r ∨ p = ab) w w' := by
    refine ⟨_, rfl, ?_⟩
    rw [← hN]
    by_cases e : i = N
    · subst e
      have := swapW_same hb ab r cap i xs w h hil
      rw [hswap_self rfl (hget_pair hil)]
      exact this
    · exact swapW hb ab r cap i N xs w h hil (by omega) e
  obtain ⟨ys, hys, hsw⟩ := hsw
  have hyl : ys.length = N + 1 := by rw [hys, hswap_len, hN]
  have hyk : hkey ys N = k := by rw [hys, hkey_get, hswap_get hil (by omega), if_pos rfl, ← hkey_get, hki]
  rw [← hys] at ecut
  have htl : (ys.take N).length = N := by rw [List.length_take]; omega
  have hafter : ∀ W w5 l', HeapAtW W hb ab (.slice (some ⟨r, 0, none⟩) (N + 1) cap) ys → Mk kW Tryz.prog 3 W ab l' → Idx l' ys → Mk kW Tryz.prog 3 w5 ab (MapG.del l' k) → (W.setCell ⟨hb, 1, none⟩ (.slice (some ⟨r, 0, none⟩) N cap)).grownBy w5 (some ab) → HeapAtW w5 hb ab (.slice (some ⟨r, 0, none⟩) N cap) (ys.take N) := fun W w5 l' hW hl1 hl2 hm5 hg5 => by
    obtain ⟨ic, nc⟩ := idx_cut hl2 hW.nodup hyl hyk
    have hrow := hW.row
    have hrow2 := row_take (n := N) ivW_len (cap := cap) (by rw [hyl]; rw [hyl] at hrow; exact hrow) (by omega)
    rw [htl] at hrow2
    refine ⟨(hW.head.set_ 1 _).grown hg5 (by simp; exact hba), ?_, ⟨_, hm5, ic⟩, nc, fun p hp => hW.ok p (List.mem_of_mem_take hp), by rw [htl]; omega⟩
    rw [htl]
    exact (hrow2.kept (only_at (only_refl W (some hb)) 1 _) (.inr (by simp [Value.ownBlock]; exact hbr.symm))).kept hg5 (.inr (by simp [Value.ownBlock]; exact hra))
  have hfix := fun W (hW : HeapAtW W hb ab (.slice (some ⟨r, 0, none⟩) N cap) (ys.take N)) (hiN : i < N) => fixW hb ab r cap i (ys.take N) W (by rw [htl]; exact hW) (by rw [htl]; exact hiN)
  rw [htl] at hfix
  have HA := Lib.hid hafter
  have HFIX := Lib.hid hfix
  have ED := Lib.hid edrop
  have EC := Lib.hid ecut
  have HK := Lib.hid hk
  have hiN1 : i ≤ N := by omega
  have hNc : (N : Int) ≤ (cap : Int) := by omega
  rw [hN] at hle
  have hNb : (N : Int) ≤ 1099511627776 := by omega
  have hNd : (N : Int) < ((N + 1 : Nat) : Int) := by omega
  clear h hm1 hidx1 hi hN hcur hys hyl hyk htl hafter hfix edrop ecut hk hki hil
  go_enter Tryz.func129, Tryz.ntmps129
  go_upto_region 6 with (go_at_call 158; refine hsw.mono ?_; rintro e w1 ⟨rfl, h1, o1⟩; obtain ⟨l', hm', hidx'⟩ := h1.map; have H1 := Lib.hid h1; have O1 := Lib.hid o1; have HM' := Lib.hid hm'; have HI' := Lib.hid hidx'; have k1 := h1.head.cell 1; have k2 := h1.head.cell 2; have f1 := h1.head.frozen 1; clear h1 o1 hm' hidx' hd1 hd2 hlw; simp only [List.getElem?_toArray, List.getElem?_cons_zero, List.getElem?_cons_succ] at k1 k2)
  by_cases hiN : i < N
  · have b1 : decide ((i : Int) < (N : Int)) = true := by simpa using hiN
    have b2 : decide (i < N) = true := by simpa using hiN
    have b3 : (i : Int) < (N : Int) := by omega
    have HIN := Lib.hid hiN
    clear hiN
    go_wp2_with (first
      | (at_delete; refine MapG.wp_del keyedW kvW _ rfl _ _ 229 rfl Tryz.underlying229 rfl (HM'.out.same (Below.heap_setCell _ _ _ _ (Ne.symm hba))) k rfl HK.out ?_; intro w5 hm5 hg5 _; have H5 := Lib.hid (HA.out w1 w5 l' H1.out HM'.out HI'.out hm5 hg5); have O5 := Lib.hid (((O1.out.mono (G := fun p => p = hb ∨ p = r ∨ p = ab) (fun _ _ h => .inr h)).setCell (fun _ => .inl rfl) 1 (.slice (some ⟨r, 0, none⟩) N cap)).grown hg5 (fun q _ e => by cases e; exact .inr (.inr rfl))); clear hm5 hg5 k1 k2 f1)
      | (go_at_call 159; refine (HFIX.out _ H5.out HIN.out).mono ?_; rintro e w6 ⟨rfl, h6, o6⟩; have H6 := Lib.hid h6; have O6 := Lib.hid (O5.out.trans o6 (fun _ _ h => .inr h)); clear h6 o6))
    go_ret
    exact ⟨rfl, by rw [ED.out, if_pos HIN.out, EC.out]; exact H6.out, O6.out⟩
  · have b1 : decide ((i : Int) < (N : Int)) = false := by simpa using hiN
    have b2 : decide (i < N) = false := by simpa using hiN
    have HIN := Lib.hid hiN
    clear hiN
    go_wp2_with (at_delete; refine MapG.wp_del keyedW kvW _ rfl _ _ 229 rfl Tryz.underlying229 rfl (HM'.out.same (Below.heap_setCell _ _ _ _ (Ne.symm hba))) k rfl HK.out ?_; intro w5 hm5 hg5 _; have H5 := Lib.hid (HA.out w1 w5 l' H1.out HM'.out HI'.out hm5 hg5); have O5 := Lib.hid (((O1.out.mono (G := fun p => p = hb ∨ p = r ∨ p = ab) (fun _ _ h => .inr h)).setCell (fun _ => .inl rfl) 1 (.slice (some ⟨r, 0, none⟩) N cap)).grown hg5 (fun q _ e => by cases e; exact .inr (.inr rfl))); clear hm5 hg5 k1 k2 f1)
    go_ret
    exact ⟨rfl, by rw [ED.out, if_neg (by have := HIN.out; omega), EC.out]; exact H5.out, O5.out⟩
end Go.Proofs.YtjmdgicdpggljaaGreat.GH

/- Proved: what heap.Heap's Min and New answer. -/
namespace Go.Proofs.YtjmdgicdpggljaaGreat.GH
open Go.RowKit Go.Proofs.YtjmdgicdpggljaaGreat.Histo Go.Proofs.YtjmdgicdpggljaaGreat.Event
set_option linter.unusedVariables false
open Go.Proofs.YtjmdgicdpggljaaGreat.MapG (Codec Mk)
open Go.Proofs.YtjmdgicdpggljaaGreat.MapI (W64)

def minValW (xs : HL Int Mark) : Value := if xs = [] then .tuple #[.int .i64 0, .agg #[.int .u64 0, .int .u64 0, .int .i64 0], .bool false] else .tuple #[.int .i64 (hkey xs 0), .agg (hval xs 0).vals.toArray, .bool true]
set_option maxRecDepth 100000 in
set_option maxHeartbeats 8000000 in
theorem minW_none (hb ab : Nat) (v : Value) (w : World) (h : HeapAtW w hb ab v []) :
    Calls Tryz.prog 128 #[.pointer (some ⟨hb, 0, none⟩)] w fun e w' => e = .returned (minValW []) ∧ Below w.heap.size w w' := by
  have hd1 : w.cell? ⟨hb, 1, none⟩ = some v := h.head.cell 1
  have hbl := h.head.lt
  obtain ⟨a, cap, hv⟩ : ∃ a cap, v = .slice a 0 cap := by
    rcases h.row.2 with ⟨h1, h2⟩ | ⟨g, cap, cur, h1, _⟩
    · exact ⟨none, 0, h1⟩
    · exact ⟨_, cap, h1⟩
  subst hv
  clear h
  go_enter Tryz.func128, Tryz.ntmps128
  go_wp2
  go_region
  go_wp2
  exact bodyPost_ret (v := .tuple #[.int .i64 0, .agg #[.int .u64 0, .int .u64 0, .int .i64 0], .bool false]) (by simp [results, Tryz.results128, go_sem]) rfl ⟨rfl, (((Below.refl _ _).alloc (Nat.le_refl _) _).alloc (by simp) _).drew⟩
set_option maxRecDepth 100000 in
set_option maxHeartbeats 8000000 in
theorem minW_some (hb ab : Nat) (v : Value) (xs : HL Int Mark) (w : World) (h : HeapAtW w hb ab v xs) (hx : 0 < xs.length) :
    Calls Tryz.prog 128 #[.pointer (some ⟨hb, 0, none⟩)] w fun e w' => e = .returned (.tuple #[.int .i64 (hkey xs 0), .agg (hval xs 0).vals.toArray, .bool true]) ∧ Below w.heap.size w w' := by
  obtain ⟨r, cap, rfl, _⟩ := row_slice h.row hx
  have hd1 : w.cell? ⟨hb, 1, none⟩ = some (.slice (some ⟨r, 0, none⟩) xs.length cap) := h.head.cell 1
  have hbl := h.head.lt
  obtain ⟨cur, hcur⟩ := ownsRow_blk h.row
  have hrl := hcur.lt
  have hg := hget_pair hx
  obtain ⟨c0, _⟩ := row_cell ivW_len h.row hg (q := 0) (by omega)
  obtain ⟨c1, _⟩ := row_cell ivW_len h.row hg (q := 1) (by omega)
  obtain ⟨c2, _⟩ := row_cell ivW_len h.row hg (q := 2) (by omega)
  obtain ⟨c3, _⟩ := row_cell ivW_len h.row hg (q := 3) (by omega)
  simp only [ivW, Mark.vals, List.getElem?_cons_zero, List.getElem?_cons_succ, Nat.zero_mul, Nat.zero_add] at c0 c1 c2 c3
  obtain ⟨kk, hkk⟩ : ∃ kk, kk = hkey xs 0 := ⟨_, rfl⟩
  obtain ⟨vv, hvv⟩ : ∃ vv, vv = hval xs 0 := ⟨_, rfl⟩
  rw [← hkk] at c0 ⊢
  rw [← hvv] at c1 c2 c3 ⊢
  have hle := h.le
  obtain ⟨N, hN⟩ : ∃ N, N = xs.length := ⟨_, rfl⟩
  rw [← hN] at hd1 hx hle
  have hN0 : (0 : Int) < (N : Int) := by omega
  have hNe : ((N : Int) == 0) = false := by simp; omega
  have hW : ∀ o q, (w.alloc o).cell? ⟨hb, q, none⟩ = w.cell? ⟨hb, q, none⟩ := fun o q => ((Below.refl w.heap.size w).alloc (Nat.le_refl _) o).cell (p := ⟨hb, q, none⟩) hbl
  clear h hcur hg hN hkk hvv
  obtain ⟨mn, md, mi⟩ := vv
  simp only [Mark.vals] at c1 c2 c3 ⊢
  clear hW
  go_enter Tryz.func128, Tryz.ntmps128
  go_wp2
  go_region
  go_wp2
  exact bodyPost_ret (v := .tuple #[.int .i64 kk, .agg #[.int .u64 (mn : Int), .int .u64 (md : Int), .int .i64 mi], .bool true]) (by simp [results, Tryz.results128, go_sem]) rfl ⟨rfl, ((Below.refl _ _).alloc (Nat.le_refl _) _).drew⟩
theorem newW (w : World) : Calls Tryz.prog 156 #[.func (.func 157) #[] #[]] w fun e w' => e = .returned (.pointer (some ⟨w.heap.size + 1, 0, none⟩)) ∧ w' = (w.alloc (.map #[] 0)).alloc (.cells #[.func (.func 157) #[] #[], .slice none 0 0, .map (some w.heap.size)] 231) := by
  have hmm := @run_makeMap Tryz.prog
  go_enter Tryz.func156, Tryz.ntmps156
  go_wp2
  go_ret
  exact ⟨rfl, rfl⟩
theorem HeapAtW.new (w : World) : HeapAtW ((w.alloc (.map #[] 0)).alloc (.cells #[.func (.func 157) #[] #[], .slice none 0 0, .map (some w.heap.size)] 231)) (w.heap.size + 1) w.heap.size (.slice none 0 0) [] :=
  ⟨two_blk _ _ _ _, World.ownsRow_nil _ _ _ _, ⟨[], (Mk.made w).alloc _, fun _ => rfl⟩, List.nodup_nil, (fun _ h => by cases h), (by simp)⟩
end Go.Proofs.YtjmdgicdpggljaaGreat.GH

/- Proved: what the methods of warm.Cache answer and leave. -/
namespace Go.Proofs.YtjmdgicdpggljaaGreat.GH
open Go.RowKit Go.Proofs.YtjmdgicdpggljaaGreat.Histo Go.Proofs.YtjmdgicdpggljaaGreat.Event
set_option linter.unusedVariables false
open Go.Proofs.YtjmdgicdpggljaaGreat.MapG (Codec Mk)
open Go.Proofs.YtjmdgicdpggljaaGreat.MapI (W64)

theorem HeapToW.same {w w' : World} {hb ab : Nat} {v : Value} {xs ys : HL Int Mark} (h : HeapAtW w' hb ab v ys) (ho : Only (fun p => p = hb ∨ p = ab ∨ v.ownBlock = some p) w w') (e : ys = xs) : HeapToW w hb ab v xs w' := by subst e; exact ⟨v, h, .inl rfl, ho⟩
theorem setW (hb ab : Nat) (v : Value) (xs : HL Int Mark) (k : Int) (m : Mark) (w : World) (h : HeapAtW w hb ab v xs) (hk : W64 k) (hm : m.Ok) (hlt : xs.length < 1099511627776) :
    Calls Tryz.prog 142 #[.pointer (some ⟨hb, 0, none⟩), .int .i64 k, .agg m.vals.toArray] w fun e w' => e = .returned (.tuple #[]) ∧ HeapToW w hb ab v (hset Mark.lt xs k m) w' := by
  cases hi : hidx xs k with
  | none => exact setW_new hb ab v xs k m w h hk hm hi hlt
  | some i =>
    obtain ⟨r, cap, rfl, _⟩ := row_slice h.row (by have := ((hidx_some h.nodup).1 hi).1; omega)
    exact (setW_in hb ab r cap xs k i m w h hk hm hi).mono fun e w' ⟨he, h2, o2⟩ => ⟨he, HeapToW.same h2 (o2.mono fun p _ hp => by
      rcases hp with rfl | rfl
      · exact .inr (.inr rfl)
      · exact .inr (.inl rfl)) rfl⟩
theorem dropW (hb ab : Nat) (v : Value) (xs : HL Int Mark) (k : Int) (w : World) (h : HeapAtW w hb ab v xs) (hk : W64 k) :
    Calls Tryz.prog 129 #[.pointer (some ⟨hb, 0, none⟩), .int .i64 k] w fun e w' => (∃ b, e = .returned (.bool b)) ∧ HeapToW w hb ab v (hdrop Mark.lt xs k) w' := by
  cases hi : hidx xs k with
  | none =>
    refine (dropW_none hb ab v xs k w h hk hi).mono fun e w' ⟨he, n, hw⟩ => ⟨⟨_, he⟩, ?_⟩
    subst hw
    exact HeapToW.same (h.drewN n) ((Only.refl w).drewN n) (by unfold hdrop; rw [hi])
  | some i =>
    have hil := ((hidx_some h.nodup).1 hi).1
    obtain ⟨r, cap, rfl, _⟩ := row_slice h.row (by omega)
    obtain ⟨N, hN⟩ : ∃ N, xs.length = N + 1 := ⟨xs.length - 1, by omega⟩
    exact (dropW_some hb ab r cap i N xs k w h hk hi hN).mono fun e w' ⟨he, h2, o2⟩ => ⟨⟨_, he⟩, _, h2, .inl rfl, o2.mono fun p _ hp => by
      rcases hp with rfl | rfl | rfl
      · exact .inl rfl
      · exact .inr (.inr rfl)
      · exact .inr (.inl rfl)⟩
structure CacheAt (w : World) (p hb ab : Nat) (v : Value) (c : Cache) : Prop where
  head : Blk w p 204 #[.pointer (some ⟨hb, 0, none⟩), .int .u64 (c.clock : Int)]
  heap : HeapAtW w hb ab v c.items
  clock : c.clock < M64
/-- What a method that writes leaves: the row where it was, or in a new block. -/
def CacheTo (w : World) (p hb ab : Nat) (v : Value) (c : Cache) (w' : World) : Prop :=
  ∃ v', CacheAt w' p hb ab v' c ∧ (v'.ownBlock = v.ownBlock ∨ ∃ q, v'.ownBlock = some q ∧ w.heap.size ≤ q) ∧ Only (fun q => q = p ∨ q = hb ∨ q = ab ∨ v.ownBlock = some q) w w'
theorem cache_own {w : World} {p hb ab : Nat} {v : Value} {c : Cache} (h : CacheAt w p hb ab v c) : p ≠ hb ∧ p ≠ ab ∧ v.ownBlock ≠ some p := by
  obtain ⟨l, hm, _⟩ := h.heap.map
  exact ⟨ne_of_types h.head h.heap.head (by decide), ne_of_map h.head hm, own_ne h.heap.row h.head (by decide)⟩
theorem cache_heap {w w' : World} {p hb ab : Nat} {v : Value} {c : Cache} {ys : HL Int Mark} (h : CacheAt w p hb ab v c) (ht : HeapToW w hb ab v ys w') : CacheTo w p hb ab v { c with items := ys } w' := by
  obtain ⟨v', h1, h2, h3⟩ := ht
  obtain ⟨n1, n2, n3⟩ := cache_own h
  refine ⟨v', ⟨(h3.block p h.head.lt (fun e => ?_)).trans h.head, h1, h.clock⟩, h2, h3.mono fun q _ hq => .inr hq⟩
  rcases e with e | e | e
  · exact n1 e
  · exact n2 e
  · exact n3 e
set_option maxHeartbeats 4000000 in
theorem cnew_any (w : World) : Calls Tryz.prog 127 #[] w fun e w' => e = .returned (.pointer (some ⟨w.heap.size + 2, 0, none⟩)) ∧ CacheAt w' (w.heap.size + 2) (w.heap.size + 1) w.heap.size (.slice none 0 0) ⟨[], 0⟩ ∧ Below w.heap.size w w' ∧ w'.heap.size = w.heap.size + 3 := by
  have hn := newW w
  go_enter Tryz.func127, Tryz.ntmps127
  go_wp2_with (go_at_call 156; refine hn.mono ?_; rintro e w1 ⟨rfl, rfl⟩)
  go_ret
  refine ⟨rfl, ⟨?_, (HeapAtW.new w).below ((Below.refl _ _).alloc (Nat.le_refl _) _), (show (0 : Nat) < M64 by unfold M64; omega)⟩, (two_new _ _ _).alloc (by simp; omega) _, by simp⟩
  have := Blk.new ((w.alloc (.map #[] 0)).alloc (.cells #[.func (.func 157) #[] #[], .slice none 0 0, .map (some w.heap.size)] 231)) 204 #[.pointer (some ⟨w.heap.size + 1, 0, none⟩), .int .u64 0]
  simpa using this
set_option maxHeartbeats 4000000 in
theorem cdrop_any (p hb ab : Nat) (v : Value) (c : Cache) (id : Int) (w : World) (h : CacheAt w p hb ab v c) (hk : W64 id) :
    Calls Tryz.prog 124 #[.pointer (some ⟨p, 0, none⟩), .int .i64 id] w fun e w' => (∃ b, e = .returned (.bool b)) ∧ CacheTo w p hb ab v (c.drop id) w' := by
  have c0 : w.cell? ⟨p, 0, none⟩ = some (.pointer (some ⟨hb, 0, none⟩)) := h.head.cell 0
  have hd := dropW hb ab v c.items id w h.heap hk
  have H := Lib.hid h
  clear h
  go_enter Tryz.func124, Tryz.ntmps124
  go_wp2_with (go_at_call 129; refine hd.mono ?_; rintro e w1 ⟨⟨b, rfl⟩, h1⟩)
  go_ret
  exact ⟨⟨_, rfl⟩, cache_heap H.out h1⟩
theorem CacheAt.below {w w' : World} {p hb ab : Nat} {v : Value} {c : Cache} (h : CacheAt w p hb ab v c) (hb' : Below w.heap.size w w') : CacheAt w' p hb ab v c := ⟨h.head.below hb' h.head.lt, h.heap.below hb', h.clock⟩
theorem CacheTo.refl {w w' : World} {p hb ab : Nat} {v : Value} {c c' : Cache} (h : CacheAt w p hb ab v c) (hb' : Below w.heap.size w w') (e : c' = c) : CacheTo w p hb ab v c' w' := by subst e; exact ⟨v, h.below hb', .inl rfl, (Only.refl w).below hb'⟩
theorem CacheTo.before {w w1 w2 : World} {p hb ab : Nat} {v : Value} {c : Cache} (hb' : Below w.heap.size w w1) (h : CacheTo w1 p hb ab v c w2) : CacheTo w p hb ab v c w2 := by
  obtain ⟨v', h1, h2, h3⟩ := h
  refine ⟨v', h1, ?_, ((Only.refl w).below hb').trans h3 fun q _ hq => hq⟩
  rcases h2 with h2 | ⟨q, h2, h4⟩
  · exact .inl h2
  · exact .inr ⟨q, h2, by have := hb'.size; omega⟩
set_option maxRecDepth 100000 in
set_option maxHeartbeats 8000000 in
theorem cset_any (p hb ab : Nat) (v : Value) (c : Cache) (id : Int) (often cost mem : Nat) (w : World) (h : CacheAt w p hb ab v c) (hk : W64 id) (hoc : often * cost < M64) (hmem : mem < M64) (hlt : c.items.length < 1099511627776) :
    Calls Tryz.prog 114 #[.pointer (some ⟨p, 0, none⟩), .int .i64 id, .int .u64 (often : Int), .int .u64 (cost : Int), .int .u64 (mem : Int)] w fun e w' => (∃ b, e = .returned (.bool b)) ∧ CacheTo w p hb ab v (c.set_ id often cost mem) w' := by
  have c0 : w.cell? ⟨p, 0, none⟩ = some (.pointer (some ⟨hb, 0, none⟩)) := h.head.cell 0
  have c1 : w.cell? ⟨p, 1, none⟩ = some (.int .u64 (c.clock : Int)) := h.head.cell 1
  have hpl := h.head.lt
  have hab := fun W => above_any c.clock (often * cost) mem W h.clock hoc hmem
  have hw1 : IntKind.u64.wrap ((often : Int) * (cost : Int)) = ((often * cost : Nat) : Int) := by
    rw [← Int.natCast_mul]
    exact Int.emod_eq_of_lt (Int.natCast_nonneg _) (by unfold M64 at hoc; show _ < (18446744073709551616 : Int); omega)
  obtain ⟨oc, hocv⟩ : ∃ x : Int, x = ((often * cost : Nat) : Int) := ⟨_, rfl⟩
  rw [← hocv] at hw1 hab
  have hm3 : (often : Int) * (cost : Int) = oc := by rw [hocv, Int.natCast_mul]
  have hwoc : IntKind.u64.wrap oc = oc := by rw [hm3] at hw1; exact hw1
  have H := Lib.hid h
  obtain ⟨C, hC⟩ : ∃ C, C = c.set_ id often cost mem := ⟨_, rfl⟩
  rw [← hC]
  unfold Cache.set_ at hC
  unfold aboveVal at hab
  have HM := Lib.hid hmem
  have HK := Lib.hid hk
  by_cases hc : c.clock * mem < M64 ∧ c.clock * mem + often * cost < M64 ∧ mem ≠ 0
  · rw [if_pos hc] at hab
    have hC2 : C = { c with items := hset Mark.lt c.items id ⟨c.clock * mem + often * cost, mem, id⟩ } := by rw [hC]; exact if_pos hc
    have hset := fun W hW => setW hb ab v c.items id ⟨c.clock * mem + often * cost, mem, id⟩ W hW hk ⟨hc.2.1, hmem⟩ hlt
    simp only [Mark.vals] at hset
    obtain ⟨su, hsu⟩ : ∃ x : Int, x = ((c.clock * mem + often * cost : Nat) : Int) := ⟨_, rfl⟩
    rw [← hsu] at hab hset
    have HAB := Lib.hid hab
    have HSET := Lib.hid hset
    have HC2 := Lib.hid hC2
    clear h hC hC2 hab hset hsu hocv hc hk hoc hmem hw1
    go_enter Tryz.func114, Tryz.ntmps114
    go_upto_region 3 with (go_at_call 141; refine (HAB.out _).mono ?_; rintro e w1 ⟨rfl, hb1⟩)
    have hb2 : Below w.heap.size w (w1.alloc (.cells #[.int .u64 su, .int .u64 (mem : Int)] 198)) := hb1.alloc hb1.size _
    have hx := Blk.new w1 198 #[.int .u64 su, .int .u64 (mem : Int)]
    generalize w1.alloc (.cells #[.int .u64 su, .int .u64 (mem : Int)] 198) = w2 at hb2 hx ⊢
    generalize w1.heap.size = gx at hx ⊢
    have x0 : w2.cell? ⟨gx, 0, none⟩ = some (.int .u64 su) := hx.cell 0
    have x1 : w2.cell? ⟨gx, 1, none⟩ = some (.int .u64 (mem : Int)) := hx.cell 1
    have d0 := (hb2.cell (p := ⟨p, 0, none⟩) hpl).trans c0
    have HB2 := Lib.hid hb2
    clear hb1 hb2 hx c0 c1
    go_still_tail 8, (by kernel_rfl)
    change wpList _ _ _ _ _ w2.drew
    have hb3 : Below w.heap.size w w2.drew := HB2.out.drew
    generalize w2.drew = w3 at hb3 ⊢
    have HB3 := Lib.hid hb3
    clear hb3 x0 x1 d0
    go_wp2_with (go_at_call 142; refine (HSET.out _ (H.out.below HB3.out).heap).mono ?_; rintro e w4 ⟨rfl, h4⟩; have H4 := Lib.hid h4; clear h4)
    go_ret
    exact ⟨⟨_, rfl⟩, CacheTo.before HB3.out (by rw [HC2.out]; exact cache_heap (H.out.below HB3.out) H4.out)⟩
  · rw [if_neg hc] at hab
    have hC2 : C = c := by rw [hC]; exact if_neg hc
    have HAB := Lib.hid hab
    have HC := Lib.hid hC2
    clear h hC hC2 hab hocv hc hk hoc hmem hw1
    go_enter Tryz.func114, Tryz.ntmps114
    go_wp2_with (go_at_call 141; refine (HAB.out _).mono ?_; rintro e w1 ⟨rfl, hb1⟩)
    go_ret
    exact ⟨⟨_, rfl⟩, CacheTo.refl H.out (hb1.alloc hb1.size _) HC.out⟩
set_option maxRecDepth 100000 in
set_option maxHeartbeats 8000000 in
theorem cevict_none (p hb ab : Nat) (v : Value) (c : Cache) (w : World) (h : CacheAt w p hb ab v c) (he : c.items = []) :
    Calls Tryz.prog 110 #[.pointer (some ⟨p, 0, none⟩)] w fun e w' => e = .returned (.tuple #[.int .i64 0, .bool false]) ∧ Below w.heap.size w w' := by
  have c0 : w.cell? ⟨p, 0, none⟩ = some (.pointer (some ⟨hb, 0, none⟩)) := h.head.cell 0
  have hh := h.heap
  rw [he] at hh
  have hmin := minW_none hb ab v w hh
  unfold minValW at hmin
  rw [if_pos rfl] at hmin
  clear h hh he
  go_enter Tryz.func110, Tryz.ntmps110
  go_wp2_with (go_at_call 128; refine hmin.mono ?_; rintro e w1 ⟨rfl, hb1⟩)
  go_ret2
  exact ⟨rfl, hb1.alloc hb1.size _⟩
end Go.Proofs.YtjmdgicdpggljaaGreat.GH

/- Proved: what warm.Cache.Evict answers and leaves where the heap is not empty. -/
namespace Go.Proofs.YtjmdgicdpggljaaGreat.GH
open Go.RowKit Go.Proofs.YtjmdgicdpggljaaGreat.Histo Go.Proofs.YtjmdgicdpggljaaGreat.Event
set_option linter.unusedVariables false
open Go.Proofs.YtjmdgicdpggljaaGreat.MapG (Codec Mk)
open Go.Proofs.YtjmdgicdpggljaaGreat.MapI (W64)

theorem CacheTo.after {w w1 w2 : World} {p hb ab : Nat} {v : Value} {c : Cache} (h : CacheTo w p hb ab v c w1) (hb' : Below w1.heap.size w1 w2) : CacheTo w p hb ab v c w2 := by
  obtain ⟨v', h1, h2, h3⟩ := h
  exact ⟨v', h1.below hb', h2, h3.below hb'⟩
theorem cache_clock {w w4 : World} {p hb ab : Nat} {v : Value} {c : Cache} (h : ∃ v', CacheAt w4 p hb ab v' c ∧ (v'.ownBlock = v.ownBlock ∨ ∃ q, v'.ownBlock = some q ∧ w.heap.size ≤ q) ∧ Only (fun q => q = p ∨ q = hb ∨ q = ab ∨ v.ownBlock = some q) w w4) (x : Nat) (hx : x < M64) :
    CacheTo w p hb ab v { c with clock := x } (w4.setCell ⟨p, 1, none⟩ (.int .u64 (x : Int))) := by
  obtain ⟨v', h1, h2, h3⟩ := h
  obtain ⟨n1, n2, n3⟩ := cache_own h1
  refine ⟨v', ⟨?_, h1.heap.same (Below.heap_setCell w4 _ _ hb (Ne.symm n1)) (Below.heap_setCell w4 _ _ ab (Ne.symm n2)) (fun r hr => Below.heap_setCell w4 _ _ r (fun e => n3 (by rw [hr, e]))), hx⟩, h2, h3.setCell (fun _ => .inl rfl) 1 _⟩
  have := h1.head.set_ 1 (.int .u64 (x : Int))
  simpa using this
set_option maxRecDepth 100000 in
set_option maxHeartbeats 8000000 in
theorem cevict_some (p hb ab : Nat) (v : Value) (c : Cache) (w : World) (h : CacheAt w p hb ab v c) (hx : 0 < c.items.length) :
    Calls Tryz.prog 110 #[.pointer (some ⟨p, 0, none⟩)] w fun e w' => e = .returned (.tuple #[.int .i64 (hkey c.items 0), .bool true]) ∧ CacheTo w p hb ab v c.evict w' := by
  have c0 : w.cell? ⟨p, 0, none⟩ = some (.pointer (some ⟨hb, 0, none⟩)) := h.head.cell 0
  have hpl := h.head.lt
  have hmin := minW_some hb ab v c.items w h.heap hx
  have hok := h.heap.ok _ (hkey_mem hx)
  have hdr := fun W hW => dropW hb ab v c.items (hkey c.items 0) W hW hok.k
  have hfl := fun W => floor_any (hval c.items 0).num (hval c.items 0).den W hok.v.n hok.v.d
  obtain ⟨F, hF⟩ : ∃ F : Nat, F = if (hval c.items 0).den = 0 then 0 else (hval c.items 0).num / (hval c.items 0).den := ⟨_, rfl⟩
  rw [← hF] at hfl
  have hFb : F < M64 := by
    rw [hF]
    have := hok.v.n
    split
    · unfold M64; omega
    · exact Nat.lt_of_le_of_lt (Nat.div_le_self _ _) this
  have hev : c.evict = ⟨hdrop Mark.lt c.items (hkey c.items 0), max c.clock F⟩ := by
    unfold Cache.evict
    rw [if_neg (fun e => by rw [e] at hx; simp at hx), hF]
  obtain ⟨E, hE⟩ : ∃ E, E = c.evict := ⟨_, rfl⟩
  rw [← hE] at hev ⊢
  obtain ⟨kk, hkk⟩ : ∃ kk, kk = hkey c.items 0 := ⟨_, rfl⟩
  rw [← hkk] at hmin hdr hev ⊢
  obtain ⟨ys, hys⟩ : ∃ ys, ys = hdrop Mark.lt c.items kk := ⟨_, rfl⟩
  rw [← hys] at hdr hev
  obtain ⟨mm, hmm⟩ : ∃ mm, mm = hval c.items 0 := ⟨_, rfl⟩
  rw [← hmm] at hmin hfl
  obtain ⟨mn, md, mi⟩ := mm
  simp only [Mark.vals] at hmin hfl
  obtain ⟨n1, n2, n3⟩ := cache_own h
  have hvl : ∀ q, v.ownBlock = some q → q < w.heap.size := fun q hq => (h.heap.row.lt q hq).2
  have hhl := h.heap.head.lt
  have hal : ab < w.heap.size := by obtain ⟨l, hm, _⟩ := h.heap.map; exact hm.lt
  have H := Lib.hid h
  have HDR := Lib.hid hdr
  have HFL := Lib.hid hfl
  have HEV := Lib.hid hev
  have HVL := Lib.hid hvl
  have HFB := Lib.hid hFb
  have HN := Lib.hid (And.intro n1 (And.intro n2 n3))
  clear h hdr hfl hev hE hF hkk hys hmm hok hx hvl hFb n1 n2 n3
  go_enter Tryz.func110, Tryz.ntmps110
  go_upto_region 4 with (go_at_call 128; refine hmin.mono ?_; rintro e w1 ⟨rfl, hb1⟩)
  have hb2 : Below w.heap.size w (w1.alloc (.cells #[.int .u64 (mn : Int), .int .u64 (md : Int), .int .i64 mi] 200)) := hb1.alloc hb1.size _
  have hx1 := Blk.new w1 200 #[.int .u64 (mn : Int), .int .u64 (md : Int), .int .i64 mi]
  have hgx : w.heap.size ≤ w1.heap.size := hb1.size
  generalize w1.alloc (.cells #[.int .u64 (mn : Int), .int .u64 (md : Int), .int .i64 mi] 200) = w2 at hb2 hx1 ⊢
  generalize w1.heap.size = gx at hx1 hgx ⊢
  have d0 := (hb2.cell (p := ⟨p, 0, none⟩) hpl).trans c0
  have HB2 := Lib.hid hb2
  have HX1 := Lib.hid hx1
  clear hb1 hb2 hx1 c0 hmin
  go_upto_region 5 with (go_at_call 129; refine (HDR.out _ (H.out.below HB2.out).heap).mono ?_; rintro e w3 ⟨⟨b, rfl⟩, ht⟩; have HT := Lib.hid ht; clear ht)
  have hc3 := cache_heap (H.out.below HB2.out) HT.out
  obtain ⟨v', hca, hvb, hon⟩ := hc3
  have hx3 : Blk w3 gx 200 #[.int .u64 (mn : Int), .int .u64 (md : Int), .int .i64 mi] := (hon.block gx HX1.out.lt (fun e => by
    rcases e with e | e | e | e
    · omega
    · omega
    · omega
    · have := HVL.out _ e; omega)).trans HX1.out
  have x0 : w3.cell? ⟨gx, 0, none⟩ = some (.int .u64 (mn : Int)) := hx3.cell 0
  have x1 : w3.cell? ⟨gx, 1, none⟩ = some (.int .u64 (md : Int)) := hx3.cell 1
  have e1 : w3.cell? ⟨p, 1, none⟩ = some (.int .u64 (c.clock : Int)) := hca.head.cell 1
  have f1 : w3.frozen? ⟨p, 1, none⟩ = false := hca.head.frozen 1
  have HCA := Lib.hid hca
  have HX3 := Lib.hid hx3
  have HON := Lib.hid (And.intro hvb hon)
  have KS := Lib.hid (fun (w' : World) (hb : Below w3.heap.size w3 w') => (⟨(HX3.out.below hb HX3.out.lt).cell 0, (HX3.out.below hb HX3.out.lt).cell 1, (HCA.out.head.below hb HCA.out.head.lt).cell 1, (HCA.out.head.below hb HCA.out.head.lt).frozen 1, hb⟩ : w'.cell? ⟨gx, 0, none⟩ = some (.int .u64 (mn : Int)) ∧ w'.cell? ⟨gx, 1, none⟩ = some (.int .u64 (md : Int)) ∧ w'.cell? ⟨p, 1, none⟩ = some (.int .u64 (c.clock : Int)) ∧ w'.frozen? ⟨p, 1, none⟩ = false ∧ Below w3.heap.size w3 w'))
  have BR2 := (Below.refl w3.heap.size w3).drew
  have BR := Below.refl w3.heap.size w3
  clear hca hx3 hvb hon d0 hpl hhl hal hgx
  go_region_with (go_at_call 130; refine (HFL.out _).mono ?_; rintro e w4 ⟨rfl, hbl⟩; have hbq := below_step (w := w3) (by first | exact BR2 | exact BR) hbl; obtain ⟨y0, y1, y2, y3, y4⟩ := KS.out _ hbq; clear hbl hbq)
  all_goals
    have HY4 := Lib.hid y4
    clear y0 y1 y2 y3 y4 BR BR2
    go_wp2
    go_ret2
    refine ⟨rfl, ?_⟩
    have hz := cache_clock (CacheTo.after (CacheTo.before HB2.out ⟨v', HCA.out, HON.out.1, HON.out.2⟩) HY4.out) (max c.clock F) (Nat.max_lt.2 ⟨H.out.clock, HFB.out⟩)
    rw [show ((max c.clock F : Nat) : Int) = max (c.clock : Int) (F : Int) by omega] at hz
    rw [HEV.out]
    exact hz
end Go.Proofs.YtjmdgicdpggljaaGreat.GH
