/- Proved: the same of heaps whose keys are pairs of numbers. -/
import Derived.Test.YtjmdgicdpggljaaGreatM11
import Derived.Test.YtjmdgicdpggljaaGreatM12
import Derived.StillTailTactics
set_option linter.all false
namespace Go.Proofs.YtjmdgicdpggljaaGreat.GH
open Go.RowKit Go.Proofs.YtjmdgicdpggljaaGreat.Histo Go.Proofs.YtjmdgicdpggljaaGreat.Event
set_option linter.unusedVariables false
open Go.Proofs.YtjmdgicdpggljaaGreat.MapG (Codec Mk)
open Go.Proofs.YtjmdgicdpggljaaGreat.MapI (W64)

set_option maxRecDepth 100000 in
set_option maxHeartbeats 8000000 in
theorem swapT (hb ab r cap i j : Nat) (xs : HL TKey TMark) (w : World) (h : HeapAtT w hb ab (.slice (some ⟨r, 0, none⟩) xs.length cap) xs) (hi : i < xs.length) (hj : j < xs.length) (hij : i ≠ j) :
    Calls Tryz.prog 119 #[.pointer (some ⟨hb, 0, none⟩), .int .i64 (i : Int), .int .i64 (j : Int)] w fun e w' => e = .returned (.tuple #[]) ∧ HeapAtT w' hb ab (.slice (some ⟨r, 0, none⟩) xs.length cap) (hswap xs i j) ∧ Only (fun p => p = r ∨ p = ab) w w' := by
  have hd1 : w.cell? ⟨hb, 1, none⟩ = some (.slice (some ⟨r, 0, none⟩) xs.length cap) := h.head.cell 1
  have hd2 : w.cell? ⟨hb, 2, none⟩ = some (.map (some ab)) := h.head.cell 2
  obtain ⟨cur, hcur⟩ := ownsRow_blk h.row
  have hne : hb ≠ r := ne_of_types h.head hcur (by decide)
  obtain ⟨⟨ki, mi⟩, hxi⟩ : ∃ x, xs[i]? = some x := ⟨_, hget_pair hi⟩
  obtain ⟨⟨kj, mj⟩, hxj⟩ : ∃ x, xs[j]? = some x := ⟨_, hget_pair hj⟩
  obtain ⟨i0, p0⟩ := row_cell ivT_len h.row hxi (q := 0) (by omega)
  obtain ⟨i1, p1⟩ := row_cell ivT_len h.row hxi (q := 1) (by omega)
  obtain ⟨i2, p2⟩ := row_cell ivT_len h.row hxi (q := 2) (by omega)
  obtain ⟨i3, p3⟩ := row_cell ivT_len h.row hxi (q := 3) (by omega)
  obtain ⟨i4, p4⟩ := row_cell ivT_len h.row hxi (q := 4) (by omega)
  obtain ⟨j0, q0⟩ := row_cell ivT_len h.row hxj (q := 0) (by omega)
  obtain ⟨j1, q1⟩ := row_cell ivT_len h.row hxj (q := 1) (by omega)
  obtain ⟨j2, q2⟩ := row_cell ivT_len h.row hxj (q := 2) (by omega)
  obtain ⟨j3, q3⟩ := row_cell ivT_len h.row hxj (q := 3) (by omega)
  obtain ⟨j4, q4⟩ := row_cell ivT_len h.row hxj (q := 4) (by omega)
  simp only [ivT, TMark.vals, List.getElem?_cons_zero, List.getElem?_cons_succ, Nat.add_zero] at i0 i2 i3 i4 j0 j2 j3 j4 p0 q0 p1 q1 j1 i1
  obtain ⟨n, hn⟩ : ∃ n, n = xs.length := ⟨_, rfl⟩
  rw [← hn] at hd1 hi hj
  have hle := h.le
  rw [← hn] at hle
  have H := Lib.hid h
  have HN := Lib.hid hn
  have HXI := Lib.hid hxi
  have HXJ := Lib.hid hxj
  have hi' : (i : Int) < (n : Int) := by omega
  have hj' : (j : Int) < (n : Int) := by omega
  clear h hcur hn hxi hxj
  rw [← HN.out]
  go_enter Tryz.func119, Tryz.ntmps119
  go_wp2
  go_region
  have hrow1 := row_put ivT_len H.out.row (i := i) (by rw [← HN.out]; exact hi) (kj, mj)
  have hrow2 := row_put ivT_len hrow1 (i := j) (by rw [List.length_set, ← HN.out]; exact hj) (ki, mi)
  have hrow3 : (setCells (setCells w r (i * 5) (ivT (kj, mj))) r (j * 5) (ivT (ki, mi))).drew.ownsRow 0 193 5 (.slice (some ⟨r, 0, none⟩) (hswap xs i j).length cap) (hswap xs i j).length ((hswap xs i j).flatMap ivT) := by
    have e : hswap xs i j = (xs.set i (kj, mj)).set j (ki, mi) := by
      unfold hswap
      rw [List.getD_eq_getElem?_getD, List.getD_eq_getElem?_getD, HXI.out, HXJ.out]; rfl
    rw [e]
    exact ownsRow_drew hrow2
  have hcell : ∀ b o, b ≠ r → (setCells (setCells w r (i * 5) (ivT (kj, mj))) r (j * 5) (ivT (ki, mi))).drew.cell? ⟨b, o, none⟩ = w.cell? ⟨b, o, none⟩ := fun b o hb => (cell_drew' _ _).trans ((cell_sets _ hb _).trans (cell_sets _ hb _))
  have hheap : ∀ b, b ≠ r → (setCells (setCells w r (i * 5) (ivT (kj, mj))) r (j * 5) (ivT (ki, mi))).drew.heap[b]? = w.heap[b]? := fun b hb => (heap_drew' _ _).trans ((heap_sets _ hb _).trans (heap_sets _ hb _))
  have honly : Only (fun p => p = r ∨ p = ab) w (setCells (setCells w r (i * 5) (ivT (kj, mj))) r (j * 5) (ivT (ki, mi))).drew := (only_sets _ (only_sets _ (Only.refl w) (fun _ => .inl rfl) _) (fun _ => .inl rfl) _).drew
  change Exit.then _ _ _ _ (setCells (setCells w r (i * 5) (ivT (kj, mj))) r (j * 5) (ivT (ki, mi))).drew
  generalize (setCells (setCells w r (i * 5) (ivT (kj, mj))) r (j * 5) (ivT (ki, mi))).drew = W at hrow3 hcell hheap honly ⊢
  have hW1 : W.cell? ⟨hb, 1, none⟩ = some (.slice (some ⟨r, 0, none⟩) n cap) := (hcell hb 1 hne).trans hd1
  have hW2 : W.cell? ⟨hb, 2, none⟩ = some (.map (some ab)) := (hcell hb 2 hne).trans hd2
  obtain ⟨l, hm, hidx⟩ := H.out.map
  have hnr : ab ≠ r := fun e => by
    obtain ⟨cur, hcur⟩ := ownsRow_blk H.out.row
    exact ne_of_map hcur hm e.symm
  have hmW : Mk kT Tryz.prog 90 W ab l := hm.same (hheap ab hnr)
  have hiL : i < xs.length := by rw [← HN.out]; exact hi
  have hjL : j < xs.length := by rw [← HN.out]; exact hj
  have hki : hkey xs i = ki := by rw [hkey_get, HXI.out]; rfl
  have hkj : hkey xs j = kj := by rw [hkey_get, HXJ.out]; rfl
  have oki := H.out.ok _ (List.mem_of_getElem? HXI.out)
  have okj := H.out.ok _ (List.mem_of_getElem? HXJ.out)
  have gi := hidx.at_ H.out.nodup hiL
  have gj := hidx.at_ H.out.nodup hjL
  have hll : l.length < maxLen := by have := hidx.le (hmW.nodup keyedT); have := H.out.le; unfold maxLen; omega
  have hsw := hidx.swap (C := kT) H.out.nodup hiL hjL
  rw [hki] at gi hsw
  rw [hkj] at gj hsw
  obtain ⟨a', c', s1, s2, w1, w2, e1, e2, e3, e4, m2, g1, g2d⟩ := two_entries (t := 111) keyedT kvT (show Mk kT Tryz.prog 90 W.drew ab l from hmW.same rfl) Tryz.underlying111 zero_intW okj.k oki.k gj gi hll (.int .i64 (i : Int)) (.int .i64 (j : Int))
  have g2 : W.grownBy w2 (some ab) := ⟨g2d.os, g2d.tape, g2d.output, g2d.size, g2d.block⟩
  have n0 := row_cell ivT_len hrow3 (i := i) (q := 0) (x := (kj, mj)) (by rw [hswap_get hiL hjL, if_neg hij, if_pos rfl]; exact HXJ.out) (by omega)
  have n0b := row_cell ivT_len hrow3 (i := i) (q := 1) (x := (kj, mj)) (by rw [hswap_get hiL hjL, if_neg hij, if_pos rfl]; exact HXJ.out) (by omega)
  have n1 := row_cell ivT_len hrow3 (i := j) (q := 0) (x := (ki, mi)) (by rw [hswap_get hiL hjL, if_pos rfl]; exact HXI.out) (by omega)
  have n1b := row_cell ivT_len hrow3 (i := j) (q := 1) (x := (ki, mi)) (by rw [hswap_get hiL hjL, if_pos rfl]; exact HXI.out) (by omega)
  have k0 : W.cell? ⟨r, i * 5, none⟩ = some (.int .i64 kj.kind) := n0.1
  have k0b : W.cell? ⟨r, i * 5 + 1, none⟩ = some (.int .i64 kj.id) := n0b.1
  have k1 : W.cell? ⟨r, j * 5, none⟩ = some (.int .i64 ki.kind) := n1.1
  have k1b : W.cell? ⟨r, j * 5 + 1, none⟩ = some (.int .i64 ki.id) := n1b.1
  have hfin : HeapAtT w2 hb ab (.slice (some ⟨r, 0, none⟩) (hswap xs i j).length cap) (hswap xs i j) := by
    refine ⟨?_, hrow3.kept g2 (.inr (by simp [Value.ownBlock]; exact fun e => hnr e.symm)), ⟨_, m2, hsw⟩, hswap_nodup H.out.nodup hiL hjL, fun p hp => H.out.ok p ((hswap_perm hiL hjL).mem_iff.1 hp), by rw [hswap_len]; exact H.out.le⟩
    have hB : Blk W hb 114 #[.func (.func 19) #[] #[], .slice (some ⟨r, 0, none⟩) xs.length cap, .map (some ab)] := (hheap hb hne).trans H.out.head
    rw [hswap_len]
    exact hB.grown g2 (by simp; exact ne_of_map hB hmW)
  have HF := Lib.hid hfin
  have HO := Lib.hid (honly.grown g2 (fun k _ e => by cases e; exact .inr rfl))
  rw [hswap_len, ← HN.out] at HF
  simp only [kT, kvalT, goInt] at e1 e2 e3 e4
  clear hrow1 hrow2 hrow3 hcell hheap honly hm hidx hmW m2 g2 hsw gi gj hki hkj oki okj n0 n0b n1 n1b hfin i0 i1 i2 i3 i4 j0 j1 j2 j3 j4 p0 p1 p2 p3 p4 q0 q1 q2 q3 q4 hd1 hd2 g1 g2d
  go_wp2
  go_region
  go_wp2
  go_end0
  exact ⟨rfl, HF.out, HO.out⟩
end Go.Proofs.YtjmdgicdpggljaaGreat.GH
