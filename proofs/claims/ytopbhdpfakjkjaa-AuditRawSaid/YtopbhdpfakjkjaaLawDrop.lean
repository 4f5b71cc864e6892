/- Proved: what drop of the document's world (greenhouselaw19) leaves. -/
import Derived.Test.YtopbhdpfakjkjaaLawAud
import Derived.Deep.RegionHeld3
import Derived.Deep.RegionLaw
import Derived.Deep.AppendLies
namespace Go.Proofs.Ytopbhdpfakjkjaa.Aud
open Go.RowKit Go.Proofs.Ytopbhdpfakjkjaa.Histo Go.Proofs.Ytopbhdpfakjkjaa.Event Go.Proofs.Ytopbhdpfakjkjaa.Ring
set_option linter.unusedVariables false
open Go.Proofs.Ytopbhdpfakjkjaa.MapI (AL At Rng W64 At.alloc At.drew)
theorem step_append_at {P : Program} (w : World) {ops : Array Oper} {o : Oper} {a : Act} {K : Act → World → Prop} {Q : Exit → Act → World → Prop} {E : Prop} (hgd : o.guard = none) (s x : Operand) (t : TypeId)
    (ho : o.op = .call { callee := .builtin .append, args := #[s, x], argTypes := #[t, t] })
    (base : Nat) (e : TypeId) (i : TypeInfo) (z : Value) (size bytes : Nat) (ht : P.underlying t = some (.slice e)) (hi : P.info? e = some i) (hz : i.zero = some z)
    (hsize : i.size = size) (hby : i.bytes = bytes) (hzs : z.cells.size = size) (hsz : 0 < size)
    (v : Value) (n : Nat) (xs : List Value) (hs : a.eval s = v) (hown : w.ownsRow base e size v n xs)
    (ad : Addr) (m c : Nat) (news : List Value) (hx : a.eval x = .slice (some ad) m c) (hl : news.length = m * size) (hnews : ∀ j u, news[j]? = some u → w.cell? (ad.add j) = some u) (h1 : ∀ u ∈ news, u.oneCell' = true)
    (h63 : n + m ≤ maxLen) (hbytes : (n + m) * bytes ≤ 140737488355328) (hbase : base ≤ w.heap.size)
    (h : ∀ ad' cap' w', w'.ownsRow base e size (.slice ad' (n + m : Nat) cap') (n + m) (xs ++ news) → w.grownBy w' v.ownBlock → ((Value.slice ad' (n + m : Nat) cap').ownBlock = v.ownBlock ∨ (Value.slice ad' (n + m : Nat) cap').ownBlock = some w.heap.size) → K (a.put o.dst (.slice ad' (n + m : Nat) cap')) w') :
    if Region.wanted o (yielded ops a.tmps) = true then Oper.wp P o a w K Q else E := by
  have hw : Region.wanted o (yielded ops a.tmps) = true := by simp [Region.wanted, hgd]
  rw [if_pos hw]
  obtain ⟨v', w', hr, h2, h3, h4, h5⟩ := run_append_own_at (P := P) w base t o.type e i z size bytes ht hi hz hsize hby hzs hsz v n xs hown ad m c news hl hnews h1 h63 hbytes hbase
  unfold Oper.wp execOp
  simp only [ho, resolve, invoke, builtin, Sem.run_bind, Sem.run_pure, Result.andThen_ok, List.map_toArray, List.map_cons, List.map_nil, hs, hx, hr]
  obtain ⟨ad', cap', rfl, _⟩ := row_open h2
  exact h ad' cap' w' h2 h3 h5
theorem row_one (l : List Th) : ∀ u ∈ rowL l, u.oneCell' = true := by
  intro u hu
  unfold rowL at hu
  obtain ⟨t, _, ht⟩ := List.mem_flatMap.1 hu
  unfold Th.row at ht
  simp only [List.mem_cons, List.not_mem_nil, or_false] at ht
  rcases ht with rfl | rfl | rfl | rfl | rfl <;> rfl
abbrev zeroBox : Value := .agg #[.int .i64 0, .int .i64 0, .int .i64 0, .bool false, .bool false]
theorem infoBox : (Try.prog.info? 92).map (fun i => (i.zero, i.size, i.bytes)) = some (some zeroBox, 5, 32) := by kernel_rfl
theorem own_same {w w' : World} {base size n : Nat} {t : TypeId} {v : Value} {xs : List Value} (h : w.ownsRow base t size v n xs) (hb : ∀ k, v.ownBlock = some k → w'.heap[k]? = w.heap[k]?) : w'.ownsRow base t size v n xs := by
  refine ⟨h.1, ?_⟩
  rcases h.2 with h0 | ⟨g, cap, cur, e1, e2, e3, e4⟩
  · exact .inl h0
  · exact .inr ⟨g, cap, cur, e1, e2, (hb g (by rw [e1]; rfl)).trans e3, e4⟩
theorem own_mono {w : World} {base base' size n : Nat} {t : TypeId} {v : Value} {xs : List Value} (h : w.ownsRow base t size v n xs) (hb : base' ≤ base) : w.ownsRow base' t size v n xs := by
  refine ⟨h.1, ?_⟩
  rcases h.2 with h0 | ⟨g, cap, cur, e1, e2, e3, e4⟩
  · exact .inl h0
  · exact .inr ⟨g, cap, cur, e1, Nat.le_trans hb e2, e3, e4⟩
theorem filt_at : ∀ (l : List Th) (i : Nat) (t : Th), (l.Pairwise fun x y => x.id < y.id) → l[i]? = some t → l.filter (fun u => u.id != t.id) = l.take i ++ l.drop (i + 1)
  | [], _, _, _, h => by cases h
  | u :: r, 0, t, hp, h => by
    injection h with h; subst h
    rw [List.pairwise_cons] at hp
    rw [List.filter_cons, if_neg (by simp), List.take_zero, List.nil_append, List.drop_succ_cons, List.drop_zero]
    exact List.filter_eq_self.2 fun x hx => by have := hp.1 x hx; simp; omega
  | u :: r, i + 1, t, hp, h => by
    rw [List.pairwise_cons] at hp
    have ht : r[i]? = some t := by simpa using h
    have := hp.1 t (List.mem_of_getElem? ht)
    rw [List.filter_cons, if_pos (by simp; omega), filt_at r i t hp.2 ht]
    rfl
theorem LWb.dropped {F : Nat → Prop} {w0 w w2 : World} {a b2 b3 N n : Nat} {s : AS} {i : Nat} {t : Th} {v2 : Value} (h : LWb F w0 a b2 b3 N s w) (ht : s.boxes[i]? = some t) (hn : n = s.boxes.length) (hb : Below w.heap.size w w2)
    (hown : w2.ownsRow w.heap.size 92 5 v2 (i + (n - (i + 1))) (rowL (s.boxes.take i) ++ rowL (s.boxes.drop (i + 1)))) : LWb F w0 a b2 b3 N (s.drop t.id) (w2.setCell ⟨a, 0, none⟩ v2) := by
  obtain ⟨v, ha, _, _⟩ := h.row
  have hil := (List.getElem?_eq_some_iff.1 ht).1
  have hd : (s.drop t.id).boxes = s.boxes.take i ++ s.boxes.drop (i + 1) := filt_at _ _ _ h.srt ht
  have hsub : ∀ u ∈ (s.drop t.id).boxes, u ∈ s.boxes := fun u hu => (List.mem_filter.1 hu).1
  have hset : ∀ k, k ≠ a → (w2.setCell ⟨a, 0, none⟩ v2).heap[k]? = w2.heap[k]? := fun k hk => Below.heap_setCell w2 ⟨a, 0, none⟩ v2 k hk
  have hm2 : (w2.setCell ⟨a, 0, none⟩ v2).heap[b2]? = w.heap[b2]? := (hset _ (fun e => map_blk_ne h.m2 ha e.symm)).trans (hb.block _ h.m2.lt)
  have hm3 : (w2.setCell ⟨a, 0, none⟩ v2).heap[b3]? = w.heap[b3]? := (hset _ (fun e => map_blk_ne h.m3 ha e.symm)).trans (hb.block _ h.m3.lt)
  refine ⟨⟨v2, (ha.below hb ha.lt).set_ 0 v2, ?_, fun k hk => h.hF k (Nat.le_trans h.below.size (hown.lt k hk).1)⟩, h.m2.same hm2, h.m3.same hm3, h.d23, (h.below.next hb).setCell h.na.1 v2, h.hF, h.na, Nat.le_trans (List.length_filter_le _ _) h.len, h.srt.filter _, fun u hu => h.wf u (hsub u hu), h.sz, h.me⟩
  have h1 := own_mono (own_same (w' := w2.setCell ⟨a, 0, none⟩ v2) hown (fun k hk => hset k (by have := (hown.lt k hk).1; have := ha.lt; omega))) (Nat.zero_le _)
  have hl : (s.drop t.id).boxes.length = i + (n - (i + 1)) := by rw [hd, List.length_append, List.length_take, List.length_drop, hn]; omega
  rw [hl, hd]
  unfold rowL at h1 ⊢
  rw [List.flatMap_append]
  exact h1
set_option maxHeartbeats 4000000 in
set_option maxRecDepth 100000 in
theorem ldrop_any (F : Nat → Prop) (w0 : World) (a b2 b3 N : Nat) (s : AS) (i : Nat) (t : Th) (w : World) (hA : LWb F w0 a b2 b3 N s w) (hN : N ≤ 100000) (ht : s.boxes[i]? = some t) : Calls Try.prog 51 #[.pointer (some ⟨a, 0, none⟩), .int .i64 i] w (fun e w' => e = .returned (.tuple #[]) ∧ LWb F w0 a b2 b3 N (s.drop t.id) w') := by
  obtain ⟨v, ha, hrow, hvF⟩ := hA.row
  obtain ⟨ad, cap, rfl, hcap, hcell⟩ := row_open hrow
  have hil := (List.getElem?_eq_some_iff.1 ht).1
  obtain ⟨g, rfl, hg, _, hgo⟩ := hcell (i * 5 + 0) (.int .i64 t.id) (by rw [rowL_get ht (by omega)]; rfl)
  have c0 := ha.cell 0
  have f0 := ha.frozen 0
  have hlen := hA.len
  obtain ⟨n, hn⟩ : ∃ n, n = s.boxes.length := ⟨_, rfl⟩
  rw [← hn] at c0 hcap hil hlen
  obtain ⟨i0, hi, hz0, hz1, hz2⟩ := info_parts infoBox
  have HI := Lib.hid hi
  have HZ0 := Lib.hid hz0
  have HZ1 := Lib.hid hz1
  have HZ2 := Lib.hid hz2
  clear hi hz0 hz1 hz2
  have i0' : (0 : Int) ≤ (i : Int) := by omega
  have i1 : (i : Int) ≤ (n : Int) := by omega
  have i1' : (i : Int) ≤ (cap : Int) := by omega
  have i2 : IntKind.i64.wrap ((i : Int) + 1) = (i : Int) + 1 := IntWalk.i64_in _ (by omega)
  have i3 : (0 : Int) ≤ (i : Int) + 1 := by omega
  have i4 : (i : Int) + 1 ≤ (n : Int) := by omega
  have i5 : (n : Int) ≤ (cap : Int) := by omega
  have HC := Lib.hid hcell
  have HA := Lib.hid hA
  have HROW := Lib.hid hrow
  have HVF := Lib.hid hvF
  have HBL := Lib.hid ha
  have HL := Lib.hid (And.intro hlen hn)
  have n1 : ∀ j u, (rowL (s.boxes.take i))[j]? = some u → ∀ W : World, W.heap[g]? = w.heap[g]? → W.cell? ((⟨g, 0, none⟩ : Addr).add j) = some u := fun j u hj W hW => by
    have hj2 : (rowL s.boxes)[j]? = some u := by
      unfold rowL at hj ⊢
      rw [← flat_take Th.row 5 Th.row_len, List.getElem?_take] at hj
      split at hj
      · exact hj
      · cases hj
    obtain ⟨g', hg', _, h3, _⟩ := HC.out j u hj2
    cases hg'
    have : (⟨g, 0, none⟩ : Addr).add j = ⟨g, j, none⟩ := by unfold Addr.add; split <;> simp_all
    rw [this, ← h3]; exact World.cell?_of_block (w := w) hW
  obtain ⟨o, ho⟩ : ∃ o, (if cap = i + 1 then some (⟨g, 0, none⟩ : Addr) else some ⟨g, (i + 1) * 5, none⟩) = some ⟨g, o, none⟩ := by
    by_cases h : cap = i + 1
    · exact ⟨0, by rw [if_pos h]⟩
    · exact ⟨(i + 1) * 5, by rw [if_neg h]⟩
  have n2 : ∀ j u, (rowL (s.boxes.drop (i + 1)))[j]? = some u → ∀ W : World, W.heap[g]? = w.heap[g]? → W.cell? ((⟨g, o, none⟩ : Addr).add j) = some u := fun j u hj W hW => by
    have hj2 : (rowL s.boxes)[(i + 1) * 5 + j]? = some u := by
      unfold rowL at hj ⊢
      rw [← flat_drop Th.row 5 Th.row_len, List.getElem?_drop] at hj
      exact hj
    have ho2 : o = (i + 1) * 5 := by
      by_cases h : cap = i + 1
      · have hl := (List.getElem?_eq_some_iff.1 hj2).1
        unfold rowL at hl
        rw [flat_len Th.row 5 Th.row_len] at hl
        omega
      · rw [if_neg h] at ho
        injection ho with ho; injection ho with _ ho; exact ho.symm
    subst ho2
    obtain ⟨g', hg', _, h3, _⟩ := HC.out _ u hj2
    cases hg'
    have : (⟨g, (i + 1) * 5, none⟩ : Addr).add j = ⟨g, (i + 1) * 5 + j, none⟩ := by unfold Addr.add; split <;> simp_all
    rw [this, ← h3]; exact World.cell?_of_block (w := w) hW
  have l1 : (rowL (s.boxes.take i)).length = i * 5 := by unfold rowL; rw [flat_len Th.row 5 Th.row_len, List.length_take, Nat.min_eq_left (by omega)]
  have l2 : (rowL (s.boxes.drop (i + 1))).length = (n - (i + 1)) * 5 := by unfold rowL; rw [flat_len Th.row 5 Th.row_len, List.length_drop, hn]
  have m1 : 0 + i ≤ maxLen := by unfold maxLen; omega
  have m2 : (0 + i) * 32 ≤ 140737488355328 := by omega
  have m3 : i + (n - (i + 1)) ≤ maxLen := by unfold maxLen; omega
  have m4 : (i + (n - (i + 1))) * 32 ≤ 140737488355328 := by omega
  have gw : ∀ w1 : World, (w.alloc (Obj.cells #[] 92)).drew.grownBy w1 (Value.slice (some ⟨w.heap.size, 0, none⟩) 0 0).ownBlock → w1.heap[g]? = w.heap[g]? := fun w1 hw => (hw.block g (by show g < (w.alloc (Obj.cells #[] 92)).heap.size; rw [show (w.alloc (Obj.cells #[] 92)).heap.size = w.heap.size + 1 from Array.size_push ..]; omega) (by simp [Value.ownBlock]; omega)).trans (Below.heap_alloc w _ g hg)
  have sz : w.heap.size ≤ (w.alloc (Obj.cells #[] 92)).drew.heap.size := by show w.heap.size ≤ (w.alloc (Obj.cells #[] 92)).heap.size; rw [show (w.alloc (Obj.cells #[] 92)).heap.size = w.heap.size + 1 from Array.size_push ..]; omega
  have HSZ := Lib.hid sz
  clear sz
  have b1 : ∀ w1 : World, (w.alloc (Obj.cells #[] 92)).drew.grownBy w1 (Value.slice (some ⟨w.heap.size, 0, none⟩) 0 0).ownBlock → Below w.heap.size w w1 := fun w1 hw => ((Below.refl _ _).alloc (Nat.le_refl _) _).drew.grown hw HSZ.out (fun k hk => by simp [Value.ownBlock] at hk; omega)
  have HB1 := Lib.hid b1
  clear b1
  have b2 : ∀ (w1 w2 : World) (v1 : Value) (m : Nat) (xs : List Value), (w.alloc (Obj.cells #[] 92)).drew.grownBy w1 (Value.slice (some ⟨w.heap.size, 0, none⟩) 0 0).ownBlock → w1.ownsRow w.heap.size 92 5 v1 m xs → w1.grownBy w2 v1.ownBlock → Below w.heap.size w w2 := fun w1 w2 v1 m xs h1 h2 h3 => (HB1.out _ h1).grown h3 (HB1.out _ h1).size (fun k hk => (h2.lt k hk).1)
  have HB2 := Lib.hid b2
  clear b2
  have HGW := Lib.hid gw
  have fz : (w.alloc (Obj.cells #[] 92)).drew.frozen? ⟨a, 0, none⟩ = false := (((Below.refl w.heap.size w).alloc (Nat.le_refl _) _).drew.frozen (p := ⟨a, 0, none⟩) ha.lt).trans f0
  have FZ := Lib.hid fz
  have FC := Lib.hid ((((Below.refl w.heap.size w).alloc (Nat.le_refl _) (Obj.cells #[] 92)).drew.cell (p := ⟨a, 0, none⟩) ha.lt).trans c0)
  clear fz
  clear gw
  have HN1 := Lib.hid n1
  have HN2 := Lib.hid n2
  have HLS := Lib.hid (And.intro l1 l2)
  have HM := Lib.hid (And.intro m1 (And.intro m2 (And.intro m3 m4)))
  clear n1 n2 l1 l2 m1 m2 m3 m4
  have halt := HBL.out.lt
  clear hcell hA hrow hvF ha hlen hgo hn
  have BR := Below.refl w.heap.size w
  have BR2 := BR.drew
  go_enter Try.func51, Try.ntmps51
  go_wp2_with fail
  have FC2 := FC.out
  have FZ2 := FZ.out
  have c0' : w.cell? ⟨a, 0, none⟩ = some (.slice (some ⟨g, 0, none⟩) n cap) := c0
  clear c0
  go_region_law
    (first
      | ((refine step_append_at _ (by rfl) _ _ _ (by rfl) w.heap.size 92 i0 zeroBox 5 32 Try.underlying80 HI.out HZ0.out HZ1.out HZ2.out rfl (by decide) _ 0 [] (by rfl) (World.ownsRow_lit w #[] 0 (Nat.le_refl _) (by decide) rfl) ⟨g, 0, none⟩ i cap (rowL (s.boxes.take i)) (by rfl) HLS.out.1 (fun j u hj => HN1.out j u hj _ (Below.heap_alloc w _ g hg)) (row_one _) HM.out.1 HM.out.2.1 HSZ.out ?_); intro ad1 cap1 w1 hown1 hgrow1 hat1; simp only [Nat.zero_add, List.nil_append] at hown1 hat1 ⊢; have cw1 := ((HB1.out _ hgrow1).cell (p := ⟨a, 0, none⟩) halt).trans c0'; have fw1 := ((HB1.out _ hgrow1).frozen (p := ⟨a, 0, none⟩) halt).trans f0)
      | ((refine step_append_at _ (by rfl) _ _ _ (by rfl) w.heap.size 92 i0 zeroBox 5 32 Try.underlying80 HI.out HZ0.out HZ1.out HZ2.out rfl (by decide) (.slice ad1 i cap1) i _ (by rfl) hown1 ⟨g, o, none⟩ (n - (i + 1)) (cap - (i + 1)) (rowL (s.boxes.drop (i + 1))) (by rfl) HLS.out.2 (fun j u hj => HN2.out j u hj _ (HGW.out _ hgrow1)) (row_one _) HM.out.2.2.1 HM.out.2.2.2 (HB1.out _ hgrow1).size ?_); intro ad2 cap2 w2 hown2 hgrow2 hat2; have cw2 := ((HB2.out _ _ _ _ _ hgrow1 hown1 hgrow2).cell (p := ⟨a, 0, none⟩) halt).trans c0'; have fw2 := ((HB2.out _ _ _ _ _ hgrow1 hown1 hgrow2).frozen (p := ⟨a, 0, none⟩) halt).trans f0))
  all_goals
    have hb2 := HB2.out _ _ _ _ _ hgrow1 hown1 hgrow2
    have HD := Lib.hid (HA.out.dropped ht HL.out.2 hb2 hown2)
    clear hown2 hgrow2 hat2 hown1 hgrow1 hat1 hb2
    go_wp2
    go_end0
    exact ⟨rfl, HD.out⟩
end Go.Proofs.Ytopbhdpfakjkjaa.Aud
