/- Proved: what heap.Heap's swap leaves. -/
import Derived.Test.YtjmdgicdpggljaaGreatM11
import Derived.StillTailTactics
set_option linter.all false
namespace Go.Proofs.YtjmdgicdpggljaaGreat.GH
open Go.RowKit Go.Proofs.YtjmdgicdpggljaaGreat.Histo
set_option linter.unusedVariables false
open Go.Proofs.YtjmdgicdpggljaaGreat.MapG (Codec Mk)
open Go.Proofs.YtjmdgicdpggljaaGreat.MapI (W64)

theorem cell_drew' (w : World) (a : Addr) : w.drew.cell? a = w.cell? a := rfl
theorem heap_drew' (w : World) (b : Nat) : w.drew.heap[b]? = w.heap[b]? := rfl
/-- The two stores into the map, one behind the other, at keys that are there. -/
theorem two_entries {K : Type} [DecidableEq K] {C : Codec K} {P : Program} {k e t : TypeId} {w : World} {b : Nat} {l : MapG.AL K} (KL : Maps.Keyed P k) (hkv : ∀ x, C.ok x → keyOf P k (C.val x) = some (C.lit x)) (h : Mk C P k w b l) (ht : P.underlying t = some (.map k e))
    {z : Value} (hz : ∀ w, (zeroValue e).run P w = .ok z w) {x y : K} (hx : C.ok x) (hy : C.ok y) {a c : Value} (hxa : MapG.get l x = some a) (hyc : MapG.get l y = some c) (hn : l.length < maxLen) (u v : Value) :
    ∃ a' c' s1 s2 w1 w2, (Instr.mapEntry t (.map (some b)) (C.val x)).run P w = .ok (.tuple #[a', goInt s1]) w ∧ (Instr.entryStore t (.map (some b)) (goInt s1) u).run P w = .ok () w1 ∧
      (Instr.mapEntry t (.map (some b)) (C.val y)).run P w1 = .ok (.tuple #[c', goInt s2]) w1 ∧ (Instr.entryStore t (.map (some b)) (goInt s2) v).run P w1 = .ok () w2 ∧
      Mk C P k w2 b (MapG.put C (MapG.put C l x u) y v) ∧ w.grownBy w1 (some b) ∧ w.grownBy w2 (some b) := by
  obtain ⟨s1, e1, f1⟩ := h.entry KL hkv ht (hz w) hx hxa
  obtain ⟨w1, g1, m1, gr1, _⟩ := h.store KL hkv ht hn hx u
  have hyc2 : ∃ c', MapG.get (MapG.put C l x u) y = some c' := by
    rw [MapG.get_put]
    by_cases e : y = x
    · rw [if_pos e]; exact ⟨_, rfl⟩
    · rw [if_neg e]; exact ⟨_, hyc⟩
  obtain ⟨c', hc'⟩ := hyc2
  have hn2 : (MapG.put C l x u).length < maxLen := by
    have hd := h.nodup KL
    have hd2 := m1.nodup KL
    have hsub : ((MapG.put C l x u).map (·.1)) ⊆ (l.map (·.1)) := fun q hq => by
      obtain ⟨p, hp, rfl⟩ := List.mem_map.1 hq
      have h1 := MapG.get_isSome hp
      rw [MapG.get_put] at h1
      have h2 : (MapG.get l p.1).isSome = true := by
        by_cases e : p.1 = x
        · rw [e, hxa]; rfl
        · rw [if_neg e] at h1; exact h1
      unfold MapG.get at h2
      rw [Option.isSome_map, List.find?_isSome] at h2
      obtain ⟨p', hp', he⟩ := h2
      exact List.mem_map.2 ⟨p', hp', by simpa using he⟩
    have := List.Nodup.length_le_of_subset hd2 hsub
    simp only [List.length_map] at this
    omega
  obtain ⟨s2, e2, f2⟩ := m1.entry KL hkv ht (hz w1) hy hc'
  obtain ⟨w2, g2, m2, gr2, _⟩ := m1.store KL hkv ht hn2 hy v
  exact ⟨_, _, s1, s2, w1, w2, e1, (f1 u).trans g1, e2, (f2 v).trans g2, m2, gr1, only_trans gr1 gr2⟩

set_option maxRecDepth 100000 in
set_option maxHeartbeats 8000000 in
theorem swapW (hb ab r cap i j : Nat) (xs : HL Int Mark) (w : World) (h : HeapAtW w hb ab (.slice (some ⟨r, 0, none⟩) xs.length cap) xs) (hi : i < xs.length) (hj : j < xs.length) (hij : i ≠ j) :
    Calls Tryz.prog 158 #[.pointer (some ⟨hb, 0, none⟩), .int .i64 (i : Int), .int .i64 (j : Int)] w fun e w' => e = .returned (.tuple #[]) ∧ HeapAtW w' hb ab (.slice (some ⟨r, 0, none⟩) xs.length cap) (hswap xs i j) ∧ Only (fun p => p = r ∨ p = ab) w w' := by
  have hd1 : w.cell? ⟨hb, 1, none⟩ = some (.slice (some ⟨r, 0, none⟩) xs.length cap) := h.head.cell 1
  have hd2 : w.cell? ⟨hb, 2, none⟩ = some (.map (some ab)) := h.head.cell 2
  obtain ⟨cur, hcur⟩ := ownsRow_blk h.row
  have hne : hb ≠ r := ne_of_types h.head hcur (by decide)
  obtain ⟨⟨ki, mi⟩, hxi⟩ : ∃ x, xs[i]? = some x := ⟨_, hget_pair hi⟩
  obtain ⟨⟨kj, mj⟩, hxj⟩ : ∃ x, xs[j]? = some x := ⟨_, hget_pair hj⟩
  obtain ⟨i0, p0⟩ := row_cell ivW_len h.row hxi (q := 0) (by omega)
  obtain ⟨i1, p1⟩ := row_cell ivW_len h.row hxi (q := 1) (by omega)
  obtain ⟨i2, p2⟩ := row_cell ivW_len h.row hxi (q := 2) (by omega)
  obtain ⟨i3, p3⟩ := row_cell ivW_len h.row hxi (q := 3) (by omega)
  obtain ⟨j0, q0⟩ := row_cell ivW_len h.row hxj (q := 0) (by omega)
  obtain ⟨j1, q1⟩ := row_cell ivW_len h.row hxj (q := 1) (by omega)
  obtain ⟨j2, q2⟩ := row_cell ivW_len h.row hxj (q := 2) (by omega)
  obtain ⟨j3, q3⟩ := row_cell ivW_len h.row hxj (q := 3) (by omega)
  simp only [ivW, Mark.vals, List.getElem?_cons_zero, List.getElem?_cons_succ, Nat.add_zero] at i0 i1 i2 i3 j0 j1 j2 j3 p0 q0
  obtain ⟨n, hn⟩ : ∃ n, n = xs.length := ⟨_, rfl⟩
  rw [← hn] at hd1 hi hj
  have hle := h.le
  rw [← hn] at hle
  have H := Lib.hid h
  have HN := Lib.hid hn
  have HXI := Lib.hid hxi
  have HXJ := Lib.hid hxj
  have hi' : (i : Int) < (n : Int) := by omega
  have hj' : (j : Int) < (n : Int) := by omega
  clear h hcur hn hxi hxj
  rw [← HN.out]
  go_enter Tryz.func158, Tryz.ntmps158
  go_wp2
  go_region
  have hrow1 := row_put ivW_len H.out.row (i := i) (by rw [← HN.out]; exact hi) (kj, mj)
  have hrow2 := row_put ivW_len hrow1 (i := j) (by rw [List.length_set, ← HN.out]; exact hj) (ki, mi)
  have hrow3 : (setCells (setCells w r (i * 4) (ivW (kj, mj))) r (j * 4) (ivW (ki, mi))).drew.ownsRow 0 233 4 (.slice (some ⟨r, 0, none⟩) (hswap xs i j).length cap) (hswap xs i j).length ((hswap xs i j).flatMap ivW) := by
    have e : hswap xs i j = (xs.set i (kj, mj)).set j (ki, mi) := by
      unfold hswap
      rw [List.getD_eq_getElem?_getD, List.getD_eq_getElem?_getD, HXI.out, HXJ.out]; rfl
    rw [e]
    exact ownsRow_drew hrow2
  have hcell : ∀ b o, b ≠ r → (setCells (setCells w r (i * 4) (ivW (kj, mj))) r (j * 4) (ivW (ki, mi))).drew.cell? ⟨b, o, none⟩ = w.cell? ⟨b, o, none⟩ := fun b o hb => (cell_drew' _ _).trans ((cell_sets _ hb _).trans (cell_sets _ hb _))
  have hheap : ∀ b, b ≠ r → (setCells (setCells w r (i * 4) (ivW (kj, mj))) r (j * 4) (ivW (ki, mi))).drew.heap[b]? = w.heap[b]? := fun b hb => (heap_drew' _ _).trans ((heap_sets _ hb _).trans (heap_sets _ hb _))
  have honly : Only (fun p => p = r ∨ p = ab) w (setCells (setCells w r (i * 4) (ivW (kj, mj))) r (j * 4) (ivW (ki, mi))).drew := (only_sets _ (only_sets _ (Only.refl w) (fun _ => .inl rfl) _) (fun _ => .inl rfl) _).drew
  change Exit.then _ _ _ _ (setCells (setCells w r (i * 4) (ivW (kj, mj))) r (j * 4) (ivW (ki, mi))).drew
  generalize (setCells (setCells w r (i * 4) (ivW (kj, mj))) r (j * 4) (ivW (ki, mi))).drew = W at hrow3 hcell hheap honly ⊢
  have hW1 : W.cell? ⟨hb, 1, none⟩ = some (.slice (some ⟨r, 0, none⟩) n cap) := (hcell hb 1 hne).trans hd1
  have hW2 : W.cell? ⟨hb, 2, none⟩ = some (.map (some ab)) := (hcell hb 2 hne).trans hd2
  obtain ⟨l, hm, hidx⟩ := H.out.map
  have hnr : ab ≠ r := fun e => by
    obtain ⟨cur, hcur⟩ := ownsRow_blk H.out.row
    exact ne_of_map hcur hm e.symm
  have hmW : Mk kW Tryz.prog 3 W ab l := hm.same (hheap ab hnr)
  have hiL : i < xs.length := by rw [← HN.out]; exact hi
  have hjL : j < xs.length := by rw [← HN.out]; exact hj
  have hki : hkey xs i = ki := by rw [hkey_get, HXI.out]; rfl
  have hkj : hkey xs j = kj := by rw [hkey_get, HXJ.out]; rfl
  have oki := H.out.ok _ (List.mem_of_getElem? HXI.out)
  have okj := H.out.ok _ (List.mem_of_getElem? HXJ.out)
  have gi := hidx.at_ H.out.nodup hiL
  have gj := hidx.at_ H.out.nodup hjL
  have hll : l.length < maxLen := by have := hidx.le (hmW.nodup keyedW); have := H.out.le; unfold maxLen; omega
  have hsw := hidx.swap (C := kW) H.out.nodup hiL hjL
  rw [hki] at gi hsw
  rw [hkj] at gj hsw
  obtain ⟨a', c', s1, s2, w1, w2, e1, e2, e3, e4, m2, g1, g2d⟩ := two_entries (t := 229) keyedW kvW (show Mk kW Tryz.prog 3 W.drew ab l from hmW.same rfl) Tryz.underlying229 zero_intW okj.k oki.k gj gi hll (.int .i64 (i : Int)) (.int .i64 (j : Int))
  have g2 : W.grownBy w2 (some ab) := ⟨g2d.os, g2d.tape, g2d.output, g2d.size, g2d.block⟩
  have n0 := row_cell ivW_len hrow3 (i := i) (q := 0) (x := (kj, mj)) (by rw [hswap_get hiL hjL, if_neg hij, if_pos rfl]; exact HXJ.out) (by omega)
  have n1 := row_cell ivW_len hrow3 (i := j) (q := 0) (x := (ki, mi)) (by rw [hswap_get hiL hjL, if_pos rfl]; exact HXI.out) (by omega)
  have k0 : W.cell? ⟨r, i * 4, none⟩ = some (.int .i64 kj) := n0.1
  have k1 : W.cell? ⟨r, j * 4, none⟩ = some (.int .i64 ki) := n1.1
  have hfin : HeapAtW w2 hb ab (.slice (some ⟨r, 0, none⟩) (hswap xs i j).length cap) (hswap xs i j) := by
    refine ⟨?_, hrow3.kept g2 (.inr (by simp [Value.ownBlock]; exact fun e => hnr e.symm)), ⟨_, m2, hsw⟩, hswap_nodup H.out.nodup hiL hjL, fun p hp => H.out.ok p ((hswap_perm hiL hjL).mem_iff.1 hp), by rw [hswap_len]; exact H.out.le⟩
    have hB : Blk W hb 231 #[.func (.func 157) #[] #[], .slice (some ⟨r, 0, none⟩) xs.length cap, .map (some ab)] := (hheap hb hne).trans H.out.head
    rw [hswap_len]
    exact hB.grown g2 (by simp; exact ne_of_map hB hmW)
  have HF := Lib.hid hfin
  have HO := Lib.hid (honly.grown g2 (fun k _ e => by cases e; exact .inr rfl))
  rw [hswap_len, ← HN.out] at HF
  unfold kW at e1 e3
  simp only [goInt] at e1 e2 e3 e4
  clear hrow1 hrow2 hrow3 hcell hheap honly hm hidx hmW m2 g2 hsw gi gj hki hkj oki okj n0 n1 hfin i0 i1 i2 i3 j0 j1 j2 j3 p0 p1 p2 p3 q0 q1 q2 q3 hd1 hd2 g1 g2d
  go_wp2
  go_region
  go_wp2
  go_end0
  exact ⟨rfl, HF.out, HO.out⟩
end Go.Proofs.YtjmdgicdpggljaaGreat.GH
