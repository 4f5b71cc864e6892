/- Proved: two cores in one world: what the one does leaves the other as it is. -/
import Derived.Test.YtjmdgicdpggljaaGreatM39
import Derived.Test.YtjmdgicdpggljaaGreatM36
import Derived.Test.YtjmdgicdpggljaaGreatM31
import Derived.Deep.Slices
import Derived.ChangeArms
import Derived.WideShapes
import Derived.KernelRfl
set_option linter.all false
namespace Go.Proofs.YtjmdgicdpggljaaGreat.GH
open Go.RowKit Go.Maps Go.Sort Go.Shelf Go.Proofs.YtjmdgicdpggljaaGreat.Histo Go.Proofs.YtjmdgicdpggljaaGreat.Event Go.Proofs.YtjmdgicdpggljaaGreat.Ring
set_option linter.unusedVariables false
/-- Two cores of one's own, in a world that grew out of another. -/
structure Two (w0 W : World) (g1 : G) (s1 : Core) (p1 : Nat) (g2 : G) (s2 : Core) (p2 : Nat) : Prop where
  a : One w0 W g1 s1 p1
  b : One w0 W g2 s2 p2
  dis : ∀ q, q < W.heap.size → g1.own q = .none ∨ g2.own q = .none
section
variable {w0 w W : World} {g1 g2 g' : G} {s1 s2 t : Core} {p1 p2 : Nat} {ov : Value} {out : List Cmd}
theorem Two.symm (h : Two w0 W g1 s1 p1 g2 s2 p2) : Two w0 W g2 s2 p2 g1 s1 p1 := ⟨h.b, h.a, fun q hq => (h.dis q hq).symm⟩
theorem Two.grow (h : Two w0 w g1 s1 p1 g2 s2 p2) (hb : Below w.heap.size w W) : Two w0 W (g1.fresh w.heap.size) s1 p1 (g2.fresh w.heap.size) s2 p2 := by
  refine ⟨h.a.grow hb, h.b.grow hb, fun q hq => ?_⟩
  unfold G.fresh
  simp only
  by_cases e : w.heap.size ≤ q
  · rw [if_pos e]; exact .inl rfl
  · rw [if_neg e, if_neg e]; exact h.dis q (by omega)
theorem Two.did (h : Two w0 w g1 s1 p1 g2 s2 p2) (d : DidDo w g1 p1 W g' t ov out) : Two w0 W g' t p1 (g2.fresh w.heap.size) s2 p2 := by
  have hz := h.a.below.size
  have hfo : ∀ q, q < w.heap.size → (g2.fresh w.heap.size).own q = g2.own q := fun q hq => by unfold G.fresh; simp only; rw [if_neg (by omega)]
  have s1' : Step (fun t => t = .none) w g2 W (g2.fresh w.heap.size) := ⟨d.os, d.tape, d.output, d.size, hfo, fun q hq hn => by
    rcases h.dis q hq with e | e
    · exact d.block q hq (.inl e)
    · exact absurd e hn, fun _ _ => rfl⟩
  refine ⟨h.a.did d, ⟨?_, h.b.ad, (h.a.did d).below, fun q hq => ?_⟩, fun q hq => ?_⟩
  · obtain ⟨ov2, m⟩ := h.b.st.mem
    exact ⟨⟨ov2, m.turn s1' s2 ov2 (fun _ _ => rfl)⟩, h.b.st.good⟩
  · rw [hfo q (by omega)]; exact h.b.own q hq
  · by_cases e : w.heap.size ≤ q
    · exact .inr (fresh_own e)
    · rw [hfo q (by omega)]
      rcases h.dis q (by omega) with e2 | e2
      · rcases d.own q (by omega) with e3 | ⟨_, e3⟩
        · exact .inl (e3.trans e2)
        · exact .inl e3
      · exact .inr e2
/-- A second core, made beside a first one. -/
theorem Two.new (h : One w0 w g1 s1 p1) (hm : Mem W (g0 w.heap.size) Core.new (.slice none 0 0)) (hb : Below w.heap.size w W) : Two w0 W (g1.fresh w.heap.size) s1 p1 (g0 w.heap.size) Core.new (w.heap.size + 10) := by
  have hz := h.below.size
  refine ⟨h.grow hb, ⟨⟨⟨_, hm⟩, good_new⟩, rfl, below_step h.below hb, fun q hq => g0_own (by omega)⟩, fun q hq => ?_⟩
  by_cases e : w.heap.size ≤ q
  · exact .inl (fresh_own e)
  · exact .inr (g0_own (by omega))
theorem do_out {s t : Core} {e : Ev} {a : Ans} {out : List Cmd} (h : s.do_ e = some (a, out, t)) (hg : Good t) : out.length ≤ 4398046511104 := by
  unfold Core.do_ at h
  split at h
  · cases h; exact Nat.zero_le _
  · split at h
    · cases h
    · split at h
      · cases h
        have h1 := hg.outs
        have h2 := hg.next
        rename_i t' _ _
        have h3 : ((t'.out.length + t'.boxes.length : Nat) : Int) ≤ 2 * t'.next := h1
        have h4 : t'.next ≤ 1099511627776 := h2.2
        omega
      · cases h
theorem row_is {v : Value} {l : List Cmd} (h : W.ownsRow 0 44 4 v l.length (l.flatMap Cmd.cells)) {W' : World} (hk : ∀ q, v.ownBlock = some q → W'.heap[q]? = W.heap[q]?) : RowIs W' v l := by
  obtain ⟨a, cap, h1, h2, h3⟩ := row_open h
  refine ⟨a, cap, h1, h2, fun k c hc => ?_⟩
  obtain ⟨q, e1, e2, _, e4⟩ := h3 k c hc
  exact ⟨q, e1, e4 W' (hk q e2)⟩
theorem boxrow_slice {v : Value} {b n : Nat} {xs : List Value} (h : W.ownsRow b 72 8 v n xs) : ∃ a cap, v = .slice a n cap := by
  rcases h.2 with ⟨h1, h2⟩ | ⟨q, cap, cur, h1, _⟩
  · exact ⟨none, 0, by rw [h2]; exact h1⟩
  · exact ⟨_, _, h1⟩
end
/-- Events that lie one behind the other. -/
def Evs (w : World) (ad : Option Addr) (xs : List Ev) : Prop := ∀ i x, xs[i]? = some x → ∃ b off, ad = some ⟨b, off, none⟩ ∧ b < w.heap.size ∧
  w.cell? ⟨b, off + i * 10, none⟩ = some (.int .i64 x.k) ∧ w.cell? ⟨b, off + i * 10 + 1, none⟩ = some (.int .i64 x.n) ∧ w.cell? ⟨b, off + i * 10 + 2, none⟩ = some (.int .i64 x.limit) ∧ w.cell? ⟨b, off + i * 10 + 3, none⟩ = some (.int .i64 x.size) ∧ w.cell? ⟨b, off + i * 10 + 4, none⟩ = some (.int .i64 x.refill) ∧
  w.cell? ⟨b, off + i * 10 + 5, none⟩ = some (.int .i64 x.acct) ∧ w.cell? ⟨b, off + i * 10 + 6, none⟩ = some (.int .i64 x.mem) ∧ w.cell? ⟨b, off + i * 10 + 7, none⟩ = some (.int .i64 x.cost) ∧ w.cell? ⟨b, off + i * 10 + 8, none⟩ = some (.int .i64 x.res) ∧ w.cell? ⟨b, off + i * 10 + 9, none⟩ = some (.int .i64 x.keep)
end Go.Proofs.YtjmdgicdpggljaaGreat.GH

/- Proved: law 18's CoreTwice answers 'true', whatever events it is handed. -/
namespace Go.Proofs.YtjmdgicdpggljaaGreat.GH
open Go.RowKit Go.Maps Go.Sort Go.Shelf Go.Proofs.YtjmdgicdpggljaaGreat.Histo Go.Proofs.YtjmdgicdpggljaaGreat.Event Go.Proofs.YtjmdgicdpggljaaGreat.Ring
set_option linter.unusedVariables false
attribute [local go_sem] Oper.semAt_some

/-- One round: both do the same. -/
theorem round_both {w : World} {s : Core} {k : Nat} {e : Ev} (R : Runs k s) (hk : k ≤ 10000) : ∃ (a : Ans) (out : List Cmd) (t : Core), Runs (k + 1) t ∧ ∀ (W : World) (g1 g2 : G) (p1 p2 B6 : Nat) (cs : Array Value), Two w W g1 s p1 g2 s p2 → Blk W B6 28 cs → g1.own B6 = .none → g2.own B6 = .none →
    Calls Tryz.prog 7 #[vptr p1, e.val] W fun r W1 => ∃ x, r = .returned (.tuple #[a.val, x]) ∧ Blk W1 B6 28 cs ∧ ∀ (o : Array Value) (W2 : World), W2 = W1.alloc (.cells o 34) → Blk W2 B6 28 cs ∧
      Calls Tryz.prog 7 #[vptr p2, e.val] W2 fun r W3 => ∃ y, r = .returned (.tuple #[a.val, y]) ∧ Blk W3 W1.heap.size 34 o ∧ Blk W3 B6 28 cs ∧ ∀ (o2 : Array Value) (W4 : World), W4 = W3.alloc (.cells o2 34) → Blk W4 W1.heap.size 34 o ∧ Blk W4 W3.heap.size 34 o2 ∧
        ∃ h1 h2, Two w W4 h1 t p1 h2 t p2 ∧ RowIs W4 x out ∧ RowIs W4 y out ∧ out.length ≤ 4398046511104 := by
  obtain ⟨a, out, t, hs, Rt⟩ := R.do_ hk e
  refine ⟨a, out, t, Rt, fun W g1 g2 p1 p2 B6 cs T hB6 ho1 ho2 => ?_⟩
  refine (do_any T.a.st T.a.ad hs).mono ?_
  rintro r W1 ⟨x, g1', rfl, d1⟩
  have T1 := T.did d1
  have hB61 : Blk W1 B6 28 cs := (d1.block B6 hB6.lt (.inl ho1)).trans hB6
  have hx : ∀ q, x.ownBlock = some q → q < W1.heap.size ∧ (g2.fresh W.heap.size).own q = .none := fun q hq => ⟨(d1.tag q hq).2.1, fresh_own (d1.tag q hq).1⟩
  have hz1 := d1.size
  have hlt6 : B6 < W.heap.size := hB6.lt
  have hf6 : (g2.fresh W.heap.size).own B6 = .none := by unfold G.fresh; simp only; rw [if_neg (by omega)]; exact ho2
  refine ⟨x, rfl, hB61, fun o W2 hW2 => ?_⟩
  have hb2 : Below W1.heap.size W1 W2 := by rw [hW2]; exact (Below.refl _ W1).alloc (Nat.le_refl _) _
  have hk7 : Blk W2 W1.heap.size 34 o := by rw [hW2]; exact Blk.new W1 _ _
  have hs2 : W2.heap.size = W1.heap.size + 1 := by rw [hW2, World.size_alloc]
  have hB62 : Blk W2 B6 28 cs := hB61.below hb2 hB61.lt
  have T2 := T1.grow hb2
  refine ⟨hB62, ?_⟩
  have h26 : ((g2.fresh W.heap.size).fresh W1.heap.size).own B6 = .none := by
    have := hB61.lt
    show (if W1.heap.size ≤ B6 then _ else _) = _
    rw [if_neg (by omega)]; exact hf6
  have h27 : ((g2.fresh W.heap.size).fresh W1.heap.size).own W1.heap.size = .none := fresh_own (Nat.le_refl _)
  have hx2 : ∀ q, x.ownBlock = some q → ((g2.fresh W.heap.size).fresh W1.heap.size).own q = .none ∧ W2.heap[q]? = W1.heap[q]? ∧ q < W2.heap.size := fun q hq => by
    obtain ⟨e1, e2⟩ := hx q hq
    refine ⟨?_, hb2.block q e1, by omega⟩
    show (if W1.heap.size ≤ q then _ else _) = _
    rw [if_neg (by omega)]; exact e2
  refine (do_any T2.b.st T2.b.ad hs).mono ?_
  rintro r W3 ⟨y, g2', rfl, d2⟩
  have T3 := (T2.symm.did d2).symm
  have hk73 : Blk W3 W1.heap.size 34 o := (d2.block _ hk7.lt (.inl h27)).trans hk7
  have hB63 : Blk W3 B6 28 cs := (d2.block B6 hB62.lt (.inl h26)).trans hB62
  refine ⟨y, rfl, hk73, hB63, fun o2 W4 hW4 => ?_⟩
  have hb4 : Below W3.heap.size W3 W4 := by rw [hW4]; exact (Below.refl _ W3).alloc (Nat.le_refl _) _
  have hk9 : Blk W4 W3.heap.size 34 o2 := by rw [hW4]; exact Blk.new W3 _ _
  have T4 := T3.grow hb4
  have hz2 := d2.size
  refine ⟨hk73.below hb4 hk73.lt, hk9, _, _, T4, row_is d1.row (fun q hq => ?_), row_is d2.row (fun q hq => ?_), do_out hs d1.st.good⟩
  · obtain ⟨e1, e2, e3⟩ := hx2 q hq
    have e4 := d2.block q e3 (.inl e1)
    exact ((hb4.block q (by omega)).trans e4).trans e2
  · exact hb4.block q (d2.tag q hq).2.1
set_option maxRecDepth 100000 in
set_option maxHeartbeats 8000000 in
theorem twice_any (ad : Option Addr) (xs : List Ev) (cap : Nat) (w : World) (hE : Evs w ad xs) (hcap : xs.length ≤ cap ∨ xs.length = 0) : Calls Tryz.prog 3 #[.slice ad xs.length cap] w (fun e w' => e = .returned (.bool true) ∧ Below w.heap.size w w') := by
  obtain ⟨n, hn⟩ : ∃ n, n = xs.length := ⟨_, rfl⟩
  rw [← hn] at hcap ⊢
  have HE := Lib.hid hE
  have HN := Lib.hid hn
  have HCAP := Lib.hid hcap
  have HH := Lib.hid (fun W => head_any W)
  clear hE hn hcap
  by_cases hlen : 150 < n
  · have hl2 : (150 : Int) < (n : Int) := by omega
    go_enter Tryz.func3, Tryz.ntmps3
    go_wp2_with (go_at_call 4; refine (HH.out _).mono ?_; rintro e w1 ⟨rfl, hb⟩; have HB := Lib.hid hb; clear hb)
    go_ret
    exact ⟨rfl, HB.out⟩
  · have hl2 : ¬ (150 : Int) < (n : Int) := by omega
    have hn150 : n ≤ 150 := by omega
    go_enter Tryz.func3, Tryz.ntmps3
    go_upto_region 5 with (go_at_call 4; refine (HH.out _).mono ?_; rintro e w1 ⟨rfl, hb⟩; have HB := Lib.hid hb; clear hb)
    go_upto_region 6 with (go_at_call 5; refine (corenew_any _).mono ?_; rintro e w2 ⟨rfl, hm, hb⟩; have O1 := Lib.hid (One.new hm hb); clear hm hb; generalize w1.heap.size + 10 = p1 at O1 ⊢)
    go_upto_region 7 with (go_at_call 5; refine (corenew_any _).mono ?_; rintro e w3 ⟨rfl, hm, hb⟩; have T1 := Lib.hid (Two.new O1.out hm hb); clear hm hb; generalize w2.heap.size + 10 = p2 at T1 ⊢)
    have HT0 : Hid (∃ g1 g2, Two w1 w3 g1 Core.new p1 g2 Core.new p2) := Lib.hid ⟨_, _, T1.out⟩
    clear O1 T1
    go_wp2
    go_loopw [20] (fun i wr => ∃ k : Nat, k ≤ n ∧ i = .int .i64 k ∧ ∃ g1 g2 s, Two w1 wr g1 s p1 g2 s p2 ∧ Runs k s) (fun i _ => n - (intOf i).toNat)
    case atStart =>
      obtain ⟨g1, g2, h⟩ := HT0.out
      exact ⟨0, by omega, rfl, g1, g2, Core.new, h, runs_new⟩
    case round =>
      obtain ⟨k, hk, rfl, g1, g2, s, hT, hR⟩ := hrel
      by_cases hlt : k < n
      · have hz : (k : Int) < (n : Int) := by omega
        obtain ⟨x, hx⟩ : ∃ x, xs[k]? = some x := ⟨_, List.getElem?_eq_getElem (by rw [← HN.out]; exact hlt)⟩
        obtain ⟨b, off, rfl, hbw, E0, E1, E2, E3, E4, E5, E6, E7, E8, E9⟩ := HE.out k x hx
        have hcap : n ≤ cap := by rcases HCAP.out with h | h <;> omega
        have hbl : b < w1.heap.size := Nat.lt_of_lt_of_le hbw HB.out.size
        have q0 : wr.cell? ⟨b, off + k * 10, none⟩ = some (.int .i64 x.k) := (hT.a.below.cell (p := ⟨b, _, none⟩) hbl).trans (HB.out.cell (p := ⟨b, _, none⟩) hbw |>.trans E0)
        have q1 : wr.cell? ⟨b, off + k * 10 + 1, none⟩ = some (.int .i64 x.n) := (hT.a.below.cell (p := ⟨b, _, none⟩) hbl).trans (HB.out.cell (p := ⟨b, _, none⟩) hbw |>.trans E1)
        have q2 : wr.cell? ⟨b, off + k * 10 + 2, none⟩ = some (.int .i64 x.limit) := (hT.a.below.cell (p := ⟨b, _, none⟩) hbl).trans (HB.out.cell (p := ⟨b, _, none⟩) hbw |>.trans E2)
        have q3 : wr.cell? ⟨b, off + k * 10 + 3, none⟩ = some (.int .i64 x.size) := (hT.a.below.cell (p := ⟨b, _, none⟩) hbl).trans (HB.out.cell (p := ⟨b, _, none⟩) hbw |>.trans E3)
        have q4 : wr.cell? ⟨b, off + k * 10 + 4, none⟩ = some (.int .i64 x.refill) := (hT.a.below.cell (p := ⟨b, _, none⟩) hbl).trans (HB.out.cell (p := ⟨b, _, none⟩) hbw |>.trans E4)
        have q5 : wr.cell? ⟨b, off + k * 10 + 5, none⟩ = some (.int .i64 x.acct) := (hT.a.below.cell (p := ⟨b, _, none⟩) hbl).trans (HB.out.cell (p := ⟨b, _, none⟩) hbw |>.trans E5)
        have q6 : wr.cell? ⟨b, off + k * 10 + 6, none⟩ = some (.int .i64 x.mem) := (hT.a.below.cell (p := ⟨b, _, none⟩) hbl).trans (HB.out.cell (p := ⟨b, _, none⟩) hbw |>.trans E6)
        have q7 : wr.cell? ⟨b, off + k * 10 + 7, none⟩ = some (.int .i64 x.cost) := (hT.a.below.cell (p := ⟨b, _, none⟩) hbl).trans (HB.out.cell (p := ⟨b, _, none⟩) hbw |>.trans E7)
        have q8 : wr.cell? ⟨b, off + k * 10 + 8, none⟩ = some (.int .i64 x.res) := (hT.a.below.cell (p := ⟨b, _, none⟩) hbl).trans (HB.out.cell (p := ⟨b, _, none⟩) hbw |>.trans E8)
        have q9 : wr.cell? ⟨b, off + k * 10 + 9, none⟩ = some (.int .i64 x.keep) := (hT.a.below.cell (p := ⟨b, _, none⟩) hbl).trans (HB.out.cell (p := ⟨b, _, none⟩) hbw |>.trans E9)
        have HT := Lib.hid hT
        have HR := Lib.hid hR
        clear E0 E1 E2 E3 E4 E5 E6 E7 E8 E9 hx hT hR hbw hbl
        obtain ⟨x0, x1, x2, x3, x4, x5, x6, x7, x8, x9⟩ := x
        simp only at q0 q1 q2 q3 q4 q5 q6 q7 q8 q9
        have HMI := Lib.hid (fun W => mild_any ⟨x0, x1, x2, x3, x4, x5, x6, x7, x8, x9⟩ W)
        unfold Ev.val at HMI
        simp only at HMI
        go_upto_region 10 with (fail)
        have T2 := HT.out.grow ((Below.refl wr.heap.size wr).alloc (Nat.le_refl _) (.cells #[.int .i64 x0, .int .i64 x1, .int .i64 x2, .int .i64 x3, .int .i64 x4, .int .i64 x5, .int .i64 x6, .int .i64 x7, .int .i64 x8, .int .i64 x9] 28))
        have k6 := Blk.new wr 28 #[.int .i64 x0, .int .i64 x1, .int .i64 x2, .int .i64 x3, .int .i64 x4, .int .i64 x5, .int .i64 x6, .int .i64 x7, .int .i64 x8, .int .i64 x9]
        have o1 : (g1.fresh wr.heap.size).own wr.heap.size = .none := fresh_own (Nat.le_refl _)
        have o2 : (g2.fresh wr.heap.size).own wr.heap.size = .none := fresh_own (Nat.le_refl _)
        clear q0 q1 q2 q3 q4 q5 q6 q7 q8 q9
        generalize g1.fresh wr.heap.size = g3 at T2 o1
        generalize g2.fresh wr.heap.size = g4 at T2 o2
        generalize wr.alloc _ = W at T2 k6 ⊢
        obtain ⟨B6, hB6⟩ : ∃ B, B = wr.heap.size := ⟨_, rfl⟩
        rw [← hB6] at k6 o1 o2 ⊢
        have f0 : W.cell? ⟨B6, 0, none⟩ = some (.int .i64 x0) := k6.cell 0
        have f1 : W.cell? ⟨B6, 1, none⟩ = some (.int .i64 x1) := k6.cell 1
        have f2 : W.cell? ⟨B6, 2, none⟩ = some (.int .i64 x2) := k6.cell 2
        have f3 : W.cell? ⟨B6, 3, none⟩ = some (.int .i64 x3) := k6.cell 3
        have f4 : W.cell? ⟨B6, 4, none⟩ = some (.int .i64 x4) := k6.cell 4
        have f5 : W.cell? ⟨B6, 5, none⟩ = some (.int .i64 x5) := k6.cell 5
        have f6 : W.cell? ⟨B6, 6, none⟩ = some (.int .i64 x6) := k6.cell 6
        have f7 : W.cell? ⟨B6, 7, none⟩ = some (.int .i64 x7) := k6.cell 7
        have f8 : W.cell? ⟨B6, 8, none⟩ = some (.int .i64 x8) := k6.cell 8
        have f9 : W.cell? ⟨B6, 9, none⟩ = some (.int .i64 x9) := k6.cell 9
        have HT2 := Lib.hid T2
        have HK6 := Lib.hid (And.intro k6 (And.intro o1 o2))
        clear T2 k6 o1 o2 hB6 HT
        by_cases hm : x9 ≤ 40
        · have d9 : decide (x9 ≤ 40) = true := by simpa using hm
          obtain ⟨a, out, t, Rt, hall⟩ := round_both (w := w1) (e := ⟨x0, x1, x2, x3, x4, x5, x6, x7, x8, x9⟩) HR.out (by omega)
          obtain ⟨y0, y1, y2, y3⟩ := a
          unfold Ev.val Ans.val at hall
          simp only at hall
          have HALL := Lib.hid hall
          have HRT := Lib.hid Rt
          clear hall Rt hm
          go_upto_region 11 with (go_at_call 6; refine (HMI.out _).mono ?_; rintro e W1 ⟨rfl, hb⟩; have T3 := HT2.out.grow hb; have k7 := HK6.out.1.below hb HK6.out.1.lt; have o3 : (g3.fresh W.heap.size).own B6 = .none := (by have := HK6.out.1.lt; unfold G.fresh; simp only; rw [if_neg (by omega)]; exact HK6.out.2.1); have o4 : (g4.fresh W.heap.size).own B6 = .none := (by have := HK6.out.1.lt; unfold G.fresh; simp only; rw [if_neg (by omega)]; exact HK6.out.2.2); have HT3 := Lib.hid T3; have HK7 := Lib.hid (And.intro k7 (And.intro o3 o4)); clear hb T3 k7 o3 o4)
          have HC1 := Lib.hid (HALL.out _ _ _ _ _ _ _ HT3.out HK7.out.1 HK7.out.2.1 HK7.out.2.2)
          clear f0 f1 f2 f3 f4 f5 f6 f7 f8 f9
          have f0 : W1.cell? ⟨B6, 0, none⟩ = some (.int .i64 x0) := HK7.out.1.cell 0
          have f1 : W1.cell? ⟨B6, 1, none⟩ = some (.int .i64 x1) := HK7.out.1.cell 1
          have f2 : W1.cell? ⟨B6, 2, none⟩ = some (.int .i64 x2) := HK7.out.1.cell 2
          have f3 : W1.cell? ⟨B6, 3, none⟩ = some (.int .i64 x3) := HK7.out.1.cell 3
          have f4 : W1.cell? ⟨B6, 4, none⟩ = some (.int .i64 x4) := HK7.out.1.cell 4
          have f5 : W1.cell? ⟨B6, 5, none⟩ = some (.int .i64 x5) := HK7.out.1.cell 5
          have f6 : W1.cell? ⟨B6, 6, none⟩ = some (.int .i64 x6) := HK7.out.1.cell 6
          have f7 : W1.cell? ⟨B6, 7, none⟩ = some (.int .i64 x7) := HK7.out.1.cell 7
          have f8 : W1.cell? ⟨B6, 8, none⟩ = some (.int .i64 x8) := HK7.out.1.cell 8
          have f9 : W1.cell? ⟨B6, 9, none⟩ = some (.int .i64 x9) := HK7.out.1.cell 9
          go_upto_region 12 with (go_at_call 7; refine HC1.out.mono ?_; rintro e W2 ⟨u, rfl, _, hnx⟩; obtain ⟨k8, hc2⟩ := hnx #[.int .i64 y0, .int .i64 y1, .int .i64 y2, .int .i64 y3] _ rfl; have HK8 := Lib.hid k8; have HC2 := Lib.hid hc2; clear k8 hc2 hnx)
          clear f0 f1 f2 f3 f4 f5 f6 f7 f8 f9
          generalize hg3 : W2.alloc (.cells #[.int .i64 y0, .int .i64 y1, .int .i64 y2, .int .i64 y3] 34) = W3 at HK8 HC2 ⊢
          obtain ⟨B7, hB7⟩ : ∃ B, B = W2.heap.size := ⟨_, rfl⟩
          rw [← hB7] at HC2 ⊢
          clear hB7 hg3
          have f0 : W3.cell? ⟨B6, 0, none⟩ = some (.int .i64 x0) := HK8.out.cell 0
          have f1 : W3.cell? ⟨B6, 1, none⟩ = some (.int .i64 x1) := HK8.out.cell 1
          have f2 : W3.cell? ⟨B6, 2, none⟩ = some (.int .i64 x2) := HK8.out.cell 2
          have f3 : W3.cell? ⟨B6, 3, none⟩ = some (.int .i64 x3) := HK8.out.cell 3
          have f4 : W3.cell? ⟨B6, 4, none⟩ = some (.int .i64 x4) := HK8.out.cell 4
          have f5 : W3.cell? ⟨B6, 5, none⟩ = some (.int .i64 x5) := HK8.out.cell 5
          have f6 : W3.cell? ⟨B6, 6, none⟩ = some (.int .i64 x6) := HK8.out.cell 6
          have f7 : W3.cell? ⟨B6, 7, none⟩ = some (.int .i64 x7) := HK8.out.cell 7
          have f8 : W3.cell? ⟨B6, 8, none⟩ = some (.int .i64 x8) := HK8.out.cell 8
          have f9 : W3.cell? ⟨B6, 9, none⟩ = some (.int .i64 x9) := HK8.out.cell 9
          go_upto_region 13 with (go_at_call 7; refine HC2.out.mono ?_; rintro e W4 ⟨v, rfl, _, _, hnx⟩; obtain ⟨k9, k10, h1, h2, hT4, hx, hy, hl⟩ := hnx #[.int .i64 y0, .int .i64 y1, .int .i64 y2, .int .i64 y3] _ rfl; have HK9 := Lib.hid (And.intro k9 k10); have HT4 := Lib.hid hT4; have HSM := Lib.hid (same_any u v out _ hl hx hy); clear k9 k10 hT4 hx hy hl hnx)
          clear f0 f1 f2 f3 f4 f5 f6 f7 f8 f9
          generalize W4.alloc (.cells #[.int .i64 y0, .int .i64 y1, .int .i64 y2, .int .i64 y3] 34) = W5 at HK9 HT4 HSM ⊢
          obtain ⟨B9, hB9⟩ : ∃ B, B = W4.heap.size := ⟨_, rfl⟩
          rw [← hB9] at HK9 ⊢
          clear hB9
          have f0 : W5.cell? ⟨B7, 0, none⟩ = some (.int .i64 y0) := HK9.out.1.cell 0
          have f1 : W5.cell? ⟨B7, 1, none⟩ = some (.int .i64 y1) := HK9.out.1.cell 1
          have f2 : W5.cell? ⟨B7, 2, none⟩ = some (.int .i64 y2) := HK9.out.1.cell 2
          have f3 : W5.cell? ⟨B7, 3, none⟩ = some (.int .i64 y3) := HK9.out.1.cell 3
          have f4 : W5.cell? ⟨B9, 0, none⟩ = some (.int .i64 y0) := HK9.out.2.cell 0
          have f5 : W5.cell? ⟨B9, 1, none⟩ = some (.int .i64 y1) := HK9.out.2.cell 1
          have f6 : W5.cell? ⟨B9, 2, none⟩ = some (.int .i64 y2) := HK9.out.2.cell 2
          have f7 : W5.cell? ⟨B9, 3, none⟩ = some (.int .i64 y3) := HK9.out.2.cell 3
          go_wp2_with (go_at_call 8; refine HSM.out.mono ?_; rintro e W6 ⟨rfl, hb⟩; have HT6 := Lib.hid (HT4.out.grow hb); clear hb)
          go_roundw
          case rel => exact ⟨k + 1, by omega, by go_num, _, _, t, HT6.out, HRT.out⟩
          case measure => simp [intOf]; omega
        · have d9 : decide (x9 ≤ 40) = false := by simpa using hm
          clear hm
          go_wp2_with (go_at_call 6; refine (HMI.out _).mono ?_; rintro e W1 ⟨rfl, hb⟩; have HT3 := Lib.hid (HT2.out.grow hb); clear hb)
          go_roundw
          case rel => exact ⟨k + 1, by omega, by go_num, _, _, s, HT3.out, HR.out.mono (by omega)⟩
          case measure => simp [intOf]; omega
      · have hz : ¬ ((k : Int) < (n : Int)) := by omega
        have HT := Lib.hid hT
        have HNW : Hid (∀ m, Calls Tryz.prog 9 #[vptr p1] (wr.drewN m) (RetV (.int .i64 s.now) (wr.drewN m)) ∧ Calls Tryz.prog 9 #[vptr p2] (wr.drewN m) (RetV (.int .i64 s.now) (wr.drewN m))) := Lib.hid fun m => ⟨now_any (HT.out.a.st.drewN m) HT.out.a.ad, now_any (HT.out.b.st.drewN m) HT.out.b.ad⟩
        have HBX : Hid (∀ W, Below wr.heap.size wr W → Calls Tryz.prog 10 #[vptr p1] W (fun e W' => (∃ a c, e = .returned (.slice a s.boxes.length c)) ∧ Below W.heap.size W W') ∧ Calls Tryz.prog 10 #[vptr p2] W (fun e W' => (∃ a c, e = .returned (.slice a s.boxes.length c)) ∧ Below W.heap.size W W')) := Lib.hid fun W hW => by
          refine ⟨(boxes_any (HT.out.a.st.below hW) HT.out.a.ad).mono ?_, (boxes_any (HT.out.b.st.below hW) HT.out.b.ad).mono ?_⟩
          · rintro e W' ⟨v, rfl, hv, hb⟩
            obtain ⟨a, c, rfl⟩ := boxrow_slice hv
            exact ⟨⟨_, _, rfl⟩, hb⟩
          · rintro e W' ⟨v, rfl, hv, hb⟩
            obtain ⟨a, c, rfl⟩ := boxrow_slice hv
            exact ⟨⟨_, _, rfl⟩, hb⟩
        have HBB := Lib.hid (below_step HB.out hT.a.below)
        obtain ⟨now, hnow⟩ : ∃ x, x = s.now := ⟨_, rfl⟩
        obtain ⟨bl, hbl⟩ : ∃ x, x = s.boxes.length := ⟨_, rfl⟩
        rw [← hnow] at HNW
        rw [← hbl] at HBX
        clear hT hR hnow hbl
        have HN0 := Lib.hid ((HNW.out 0).1)
        go_wp2_with (first
          | (go_at_call 9; first
              | (refine HN0.out.mono ?_; rintro e W1 ⟨rfl, m1, rfl⟩)
              | (refine (HNW.out _).2.mono ?_; rintro e W2 ⟨rfl, m2, rfl⟩))
          | (go_at_call 10; first
              | (refine (HBX.out _ HB6.out).2.mono ?_; rintro e W7 ⟨⟨a7, c7, rfl⟩, hb⟩; have HB7 := Lib.hid (below_step HB6.out hb); clear hb)
              | (refine (HBX.out _ (below_drewN (Below.refl wr.heap.size wr) _)).1.mono ?_; rintro e W6 ⟨⟨a6, c6, rfl⟩, hb⟩; have HB6 := Lib.hid (below_step (below_drewN (Below.refl wr.heap.size wr) _) hb); clear hb)))
        go_ret
        exact ⟨rfl, below_step HBB.out HB7.out⟩
end Go.Proofs.YtjmdgicdpggljaaGreat.GH

/- Proved: a slice of event.Event that a law is handed, opened: its events lie one behind the other. -/
namespace Go.Proofs.YtjmdgicdpggljaaGreat.GH
open Go.RowKit Go.Proofs.YtjmdgicdpggljaaGreat.Histo Go.Proofs.YtjmdgicdpggljaaGreat.Event Go.Proofs.YtjmdgicdpggljaaGreat.Ring
set_option linter.unusedVariables false
open Go.Proofs.YtjmdgicdpggljaaGreat.MapI (AL At Rng W64)
theorem add_none0 (a : Addr) (k : Nat) : (a.add (0 * k)).add 0 = a := by simp [Addr.add]
theorem list_of {α : Type} (P : Nat → α → Prop) : ∀ n : Nat, (∀ i, i < n → ∃ x, P i x) → ∃ xs : List α, xs.length = n ∧ ∀ i x, xs[i]? = some x → P i x
  | 0, _ => ⟨[], rfl, fun i x h => by cases h⟩
  | n + 1, h => by
    obtain ⟨xs, hl, hx⟩ := list_of P n fun i hi => h i (by omega)
    obtain ⟨y, hy⟩ := h n (by omega)
    refine ⟨xs ++ [y], by simp [hl], fun i x hi => ?_⟩
    by_cases hlt : i < n
    · rw [List.getElem?_append_left (by omega)] at hi
      exact hx i x hi
    · have hil := (List.getElem?_eq_some_iff.1 hi).1
      simp [hl] at hil
      obtain rfl : i = n := by omega
      rw [List.getElem?_append_right (by omega), hl] at hi
      simp at hi
      subst hi
      exact hy
section
variable {H : Type} {enc : TypeId × Value → H} {w : World} {base : Nat} {spare : Nat → Bool} {held : Bool}
theorem fld {t : TypeId} {fs : Array Field} {fuel : Nat} {cs : List Value} {x : DataW H × List MemPlace} (ht : Tryz.prog.underlying t = some (.struct fs)) (h : DataW.trod enc Tryz.prog w base spare held fuel t cs = some x) (j e o c : Nat) (hf : (fs[j]?).map (fun f => (f.type, f.offset)) = some (e, o)) (hc : Tryz.prog.cellsOf e = c) :
    ∃ n y, DataW.trod enc Tryz.prog w base spare held n e ((cs.drop o).take c) = some y := by
  obtain ⟨xs, n, _, _, _, hl, hx⟩ := DataW.trod_struct ht h
  rw [Option.map_eq_some_iff] at hf
  obtain ⟨f, hf, he⟩ := hf
  simp only [Prod.mk.injEq] at he
  have h1 := hx j f hf
  rw [he.1, he.2, hc] at h1
  have hj := (Array.getElem?_eq_some_iff.1 hf).1
  exact ⟨n, _, h1.trans (List.getElem?_eq_getElem (by omega))⟩
theorem fld_int {t : TypeId} {fs : Array Field} {fuel : Nat} {cs : List Value} {x : DataW H × List MemPlace} (ht : Tryz.prog.underlying t = some (.struct fs)) (h : DataW.trod enc Tryz.prog w base spare held fuel t cs = some x) (j e o : Nat) (hf : (fs[j]?).map (fun f => (f.type, f.offset)) = some (e, o)) (hc : Tryz.prog.cellsOf e = 1) (he : Tryz.prog.underlying e = some (.int .i64)) :
    ∃ v, cs[o]? = some (.int .i64 v) ∧ W64 v := by
  obtain ⟨n, y, h1⟩ := fld ht h j e o 1 hf hc
  obtain ⟨v, hv, _, hw⟩ := DataW.trod_int he h1
  refine ⟨v, ?_, hw⟩
  have := congrArg (fun l => l[0]?) hv
  simpa using this
theorem open_events {fuel : Nat} {ad : Option Addr} {len cap : Nat} {x : DataW H × List MemPlace} (h : DataW.trod enc Tryz.prog w base spare held fuel 22 [.slice ad len cap] = some x) :
    ∃ xs : List Ev, len = xs.length ∧ (xs.length ≤ cap ∨ xs.length = 0) ∧ Evs w ad xs := by
  rcases Go.Deep.open_slice Tryz.underlying22 h with ⟨hv, _⟩ | ⟨a, len', cap', m, n, D, Pl, hv, _, hlc, _, hm, _, hi⟩
  · injection hv with hv
    injection hv with h1 h2 h3
    subst h2
    exact ⟨[], rfl, .inr rfl, fun i c hc => by cases hc⟩
  · injection hv with hv
    injection hv with h1 h2 h3
    subst h1; subst h2; subst h3
    have hlm : len ≤ m := by rw [hm]; split <;> omega
    have hcc : Tryz.prog.cellsOf 28 = 10 := by kernel_rfl
    rw [hcc] at hi
    clear hcc
    have hsp : 0 < len → a.spot = none := fun h0 => by
      obtain ⟨cs', hc, _⟩ := hi 0 (by omega)
      obtain ⟨_, hcl, hat⟩ := World.cells?_some hc
      obtain ⟨v, hv⟩ : ∃ v, cs'[0]? = some v := ⟨_, List.getElem?_eq_getElem (show 0 < cs'.length by omega)⟩
      have h1 := (hat 0 (by omega)).trans hv
      have h2 : w.cell? a = some v := (congrArg w.cell? (add_none0 a 10)).symm.trans h1
      exact World.cell?_spot h2
    obtain ⟨xs, hl, hx⟩ := list_of (fun i (x : Ev) => ∃ b off, some a = some (⟨b, off, none⟩ : Addr) ∧ b < w.heap.size ∧
      w.cell? ⟨b, off + i * 10, none⟩ = some (.int .i64 x.k) ∧ w.cell? ⟨b, off + i * 10 + 1, none⟩ = some (.int .i64 x.n) ∧ w.cell? ⟨b, off + i * 10 + 2, none⟩ = some (.int .i64 x.limit) ∧ w.cell? ⟨b, off + i * 10 + 3, none⟩ = some (.int .i64 x.size) ∧ w.cell? ⟨b, off + i * 10 + 4, none⟩ = some (.int .i64 x.refill) ∧
      w.cell? ⟨b, off + i * 10 + 5, none⟩ = some (.int .i64 x.acct) ∧ w.cell? ⟨b, off + i * 10 + 6, none⟩ = some (.int .i64 x.mem) ∧ w.cell? ⟨b, off + i * 10 + 7, none⟩ = some (.int .i64 x.cost) ∧ w.cell? ⟨b, off + i * 10 + 8, none⟩ = some (.int .i64 x.res) ∧ w.cell? ⟨b, off + i * 10 + 9, none⟩ = some (.int .i64 x.keep)) len (fun i hil => by
      obtain ⟨cs', hc, he⟩ := hi i (by omega)
      obtain ⟨_, hcl, hat⟩ := World.cells?_some hc
      obtain ⟨v0, e0, _⟩ := fld_int Tryz.underlying28 he 0 26 0 (by kernel_rfl) (by kernel_rfl) Tryz.underlying26
      obtain ⟨v1, e1, _⟩ := fld_int Tryz.underlying28 he 1 3 1 (by kernel_rfl) (by kernel_rfl) Tryz.underlying3
      obtain ⟨v2, e2, _⟩ := fld_int Tryz.underlying28 he 2 3 2 (by kernel_rfl) (by kernel_rfl) Tryz.underlying3
      obtain ⟨v3, e3, _⟩ := fld_int Tryz.underlying28 he 3 3 3 (by kernel_rfl) (by kernel_rfl) Tryz.underlying3
      obtain ⟨v4, e4, _⟩ := fld_int Tryz.underlying28 he 4 3 4 (by kernel_rfl) (by kernel_rfl) Tryz.underlying3
      obtain ⟨v5, e5, _⟩ := fld_int Tryz.underlying28 he 5 3 5 (by kernel_rfl) (by kernel_rfl) Tryz.underlying3
      obtain ⟨v6, e6, _⟩ := fld_int Tryz.underlying28 he 6 3 6 (by kernel_rfl) (by kernel_rfl) Tryz.underlying3
      obtain ⟨v7, e7, _⟩ := fld_int Tryz.underlying28 he 7 3 7 (by kernel_rfl) (by kernel_rfl) Tryz.underlying3
      obtain ⟨v8, e8, _⟩ := fld_int Tryz.underlying28 he 8 3 8 (by kernel_rfl) (by kernel_rfl) Tryz.underlying3
      obtain ⟨v9, e9, _⟩ := fld_int Tryz.underlying28 he 9 3 9 (by kernel_rfl) (by kernel_rfl) Tryz.underlying3
      have g : ∀ (k : Nat) (u : Value), cs'[k]? = some u → w.cell? ((a.add (i * 10)).add k) = some u := fun k u hk => by
        rw [hat k (by have := (List.getElem?_eq_some_iff.1 hk).1; omega)]; exact hk
      have hs := hsp (by omega)
      obtain ⟨b, off, spot⟩ := a
      simp only at hs
      subst hs
      simp only [Go.WideShapes.add_plain] at g
      have g0 := g 0 _ e0
      have hb : b < w.heap.size := World.block_lt_of_cell? w _ g0
      exact ⟨⟨v0, v1, v2, v3, v4, v5, v6, v7, v8, v9⟩, b, off, rfl, hb, g0, g 1 _ e1, g 2 _ e2, g 3 _ e3, g 4 _ e4, g 5 _ e5, g 6 _ e6, g 7 _ e7, g 8 _ e8, g 9 _ e9⟩)
    refine ⟨xs, hl.symm, .inl (by omega), fun i c hc => ?_⟩
    exact hx i c hc
end
theorem twice_row (ad : Option Addr) (len cap : Nat) (w : World) (h : ∃ xs : List Ev, len = xs.length ∧ (xs.length ≤ cap ∨ xs.length = 0) ∧ Evs w ad xs) : Calls Tryz.prog 3 #[.slice ad len cap] w (fun e w' => e = .returned (.bool true) ∧ Below w.heap.size w w') := by
  obtain ⟨xs, rfl, h1, h2⟩ := h
  exact twice_any ad xs cap w h2 h1
end Go.Proofs.YtjmdgicdpggljaaGreat.GH
