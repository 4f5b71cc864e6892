/- Proved: what the auditor's command answers and leaves, a boot's too. -/
import Derived.Test.YtopbhdpfakjkjaaAudCmd
import Derived.Deep.RegionHeld3
import Derived.Deep.AppendLies
namespace Go.Proofs.Ytopbhdpfakjkjaa.Aud
open Go.RowKit Go.Proofs.Ytopbhdpfakjkjaa.Histo Go.Proofs.Ytopbhdpfakjkjaa.Event Go.Proofs.Ytopbhdpfakjkjaa.Ring
set_option linter.unusedVariables false
open Go.Proofs.Ytopbhdpfakjkjaa.MapI (AL At Rng W64 At.alloc At.drew)

theorem kill_all (F : Nat → Prop) (w0 : World) (a b1 b2 b3 N : Nat) (blk : Int → Nat) (s : AS) (cx cf ch : Int) (w : World) (hA : AWb F w0 a b1 b2 b3 N blk s w) (hx : W64 cx) : CALLC a ⟨false, cx, cf, ch⟩ w (Out F w0 a b1 b2 b3 N (s.command ⟨false, cx, cf, ch⟩)) := by
  cases hf : s.find cx with
  | none => exact kill_none F w0 a b1 b2 b3 N blk s cx cf ch w hA hx hf
  | some t =>
    cases hb : t.busy with
    | true => exact kill_busy F w0 a b1 b2 b3 N blk s cx cf ch t w hA hx hf hb
    | false =>
      by_cases hn : t.fn = cf
      · by_cases hh : t.host = ch
        · exact kill_yes F w0 a b1 b2 b3 N blk s cx cf ch t w hA hx hf hb hn hh
        · exact kill_host F w0 a b1 b2 b3 N blk s cx cf ch t w hA hx hf hb hn hh
      · exact kill_fn F w0 a b1 b2 b3 N blk s cx cf ch t w hA hx hf hb hn
theorem looki {w : World} {b n : Nat} {l : AL} (h : At Try.prog 3 w b n l) (hs : Small l) {x : Int} (hx : W64 x) : (Instr.lookup 75 (.map (some b)) (.int .i64 x) false).run Try.prog w = .ok (.int .i64 (num l x)) w := by
  have := h.look (t := 75) Try.underlying3 Try.underlying75 (zero_int w) hx
  rw [this, num_getD hs]
theorem looki_ok {w : World} {b n : Nat} {l : AL} (h : At Try.prog 3 w b n l) (hs : Small l) {x : Int} (hx : W64 x) : (Instr.lookup 75 (.map (some b)) (.int .i64 x) true).run Try.prog w = .ok (.tuple #[.int .i64 (num l x), .bool (MapI.get l x).isSome]) w := by
  have := h.look_ok (t := 75) Try.underlying3 Try.underlying75 (zero_int w) hx
  rw [this, num_getD hs]
theorem ents_ins (blk : Int → Nat) (l : List Th) (t : Th) (B : Nat) (h : ∀ u ∈ l, u.id < t.id) : MapI.put (ents blk l) t.id (.pointer (some ⟨B, 0, none⟩)) = ents (fun i => if i = t.id then B else blk i) (l ++ [t]) := by
  have h1 : MapI.del (ents blk l) t.id = ents blk l := by
    rw [ents_del]
    congr 1
    exact List.filter_eq_self.2 fun u hu => by have := h u hu; simp; omega
  unfold MapI.put
  rw [h1]
  have h2 : ∀ l : List Th, (∀ u ∈ l, u.id < t.id) → MapI.ins (t.id, .pointer (some ⟨B, 0, none⟩)) (ents blk l) = ents (fun i => if i = t.id then B else blk i) (l ++ [t]) := by
    intro l
    induction l with
    | nil => intro _; simp [ents, MapI.ins]
    | cons u r ih =>
      intro hl
      have hu := hl u List.mem_cons_self
      show (if t.id < u.id then _ else _) = _
      rw [if_neg (by omega)]
      have := ih fun v hv => hl v (List.mem_cons_of_mem _ hv)
      rw [show MapI.ins (t.id, .pointer (some ⟨B, 0, none⟩)) (List.map (fun t => (t.id, Value.pointer (some ⟨blk t.id, 0, none⟩))) r) = _ from this]
      show _ :: _ = _ :: _
      congr 1
      simp only
      rw [if_neg (by omega)]
  exact h2 l h
/-- A sandbox boots: the map's new entry, the counter, the new block. -/
theorem AWb.boot {F : Nat → Prop} {w0 w w1 w2 : World} {a b1 b2 b3 N K : Nat} {blk : Int → Nat} {s : AS} (h : AWb F w0 a b1 b2 b3 N blk s w) (t : Th) (hid : t.id = s.next) (hids : ∀ u ∈ s.boxes, u.id < s.next) (hw : W64 t.id ∧ W64 t.fn ∧ W64 t.host)
    (g1 : ∀ i, i < w.heap.size → i ≠ a → w1.heap[i]? = w.heap[i]?) (ha : Blk w1 a 77 #[.map (some b1), .map (some b2), .map (some b3), .int .i64 (s.next + 1)]) (hK : Blk w1 K 103 t.cells) (hK2 : w.heap.size ≤ K) (hb : Only F w0 w1)
    (hm : At Try.prog 3 w2 b1 (N + 1) (MapI.put (ents blk s.boxes) t.id (.pointer (some ⟨K, 0, none⟩)))) (hg : w1.grownBy w2 (some b1)) :
    AWb F w0 a b1 b2 b3 (N + 1) (fun i => if i = t.id then K else blk i) { s with boxes := s.boxes ++ [t], next := s.next + 1 } w2 := by
  have hne : ∀ {i}, i < w.heap.size → i ≠ a → i ≠ b1 → w2.heap[i]? = w.heap[i]? := fun {i} h1 h2 h3 => by
    have h4 := g1 i h1 h2
    have hlt : i < w1.heap.size := by
      rcases Nat.lt_or_ge i w1.heap.size with h5 | h5
      · exact h5
      · rw [Array.getElem?_eq_none h5] at h4
        rw [Array.getElem?_eq_getElem h1] at h4
        cases h4
    exact (hg.block i hlt (fun e => h3 (by injection e))).trans h4
  have nbk : ∀ u ∈ s.boxes, (if u.id = t.id then K else blk u.id) = blk u.id := fun u hu => if_neg (by have := hids u hu; omega)
  have hb1 := h.m1.lt
  have hab := map_blk_ne h.m1 h.aud
  refine ⟨ha.grown hg (fun e => hab (by injection e)), ?_, (h.m2.same (hne h.m2.lt (fun e => map_blk_ne h.m2 h.aud e.symm) (Ne.symm h.d12))).mono (by omega), (h.m3.same (hne h.m3.lt (fun e => map_blk_ne h.m3 h.aud e.symm) (Ne.symm h.d13))).mono (by omega), ?_, ?_, h.d12, h.d13, h.d23,
    hb.grown hg (fun k e => by injection e with e; subst e; exact h.na.2.1), h.hF, h.na, ?_, ?_, h.sz, h.me⟩
  · rw [ents_ins blk s.boxes t K (fun u hu => by have := hids u hu; omega)] at hm
    exact hm
  · intro u hu
    rcases List.mem_append.1 hu with hu | hu
    · rw [nbk u hu]
      have hq := h.th u hu
      exact (hne hq.lt (blk_neq hq h.aud (by decide)) (map_blk_ne h.m1 hq)).trans hq
    · rw [List.mem_singleton] at hu
      subst hu
      show Blk w2 (if u.id = u.id then K else blk u.id) _ _
      rw [if_pos rfl]
      exact hK.grown hg (fun e => by injection e with e; omega)
  · intro u hu v hv he
    have key : ∀ u ∈ s.boxes, blk u.id ≠ K := fun u hu => by have := (h.th u hu).lt; omega
    have hu0 : u ∈ s.boxes ∨ u = t := by simpa using hu
    have hv0 : v ∈ s.boxes ∨ v = t := by simpa using hv
    clear hu hv
    rcases hu0 with hu1 | hu1
    · rcases hv0 with hv1 | hv1
      · rw [nbk u hu1, nbk v hv1] at he; exact h.inj u hu1 v hv1 he
      · rw [nbk u hu1, hv1, if_pos rfl] at he; exact absurd he (key u hu1)
    · rcases hv0 with hv1 | hv1
      · rw [nbk v hv1, hu1, if_pos rfl] at he; exact absurd he.symm (key v hv1)
      · rw [hu1, hv1]
  · intro u hu
    rcases List.mem_append.1 hu with hu | hu
    · rw [nbk u hu]; exact h.nt u hu
    · rw [List.mem_singleton] at hu; subst hu; show F (if u.id = u.id then K else blk u.id); rw [if_pos rfl]; exact h.hF K (Nat.le_trans h.below.size hK2)
  · intro u hu
    rcases List.mem_append.1 hu with hu | hu
    · exact h.wf u hu
    · rw [List.mem_singleton] at hu; subst hu; exact hw
set_option maxHeartbeats 4000000 in
set_option maxRecDepth 100000 in
theorem boot_box (F : Nat → Prop) (w0 : World) (a b1 b2 b3 N : Nat) (blk : Int → Nat) (s : AS) (cx cf ch : Int) (w : World) (hA : AWb F w0 a b1 b2 b3 N blk s w) (hN : N ≤ 100000) (hI : Inv s N) (hx : W64 cx) (hxf : W64 cf) (hxh : W64 ch) (hb : cx ≠ s.next) : CALLC a ⟨true, cx, cf, ch⟩ w (Out F w0 a b1 b2 b3 (N + 1) (s.command ⟨true, cx, cf, ch⟩)) := by
  have hcm : s.command ⟨true, cx, cf, ch⟩ = none := by unfold AS.command; rw [if_neg (show ¬ (true = false) by decide)]; simp only; rw [if_pos (.inl hb)]
  rw [hcm]
  clear hcm
  have HBX := Lib.hid hb
  clear hb
  unfold CALLC
  simp only
  have hA1 := hA.next ((Below.refl _ _).alloc (Nat.le_refl _) (.cells #[.bool true, .int .i64 cx, .int .i64 cf, .int .i64 ch] 59))
  have hC1 := Blk.new w 59 #[.bool true, .int .i64 cx, .int .i64 cf, .int .i64 ch]
  obtain ⟨g, hg⟩ : ∃ g, g = w.heap.size := ⟨_, rfl⟩
  rw [← hg] at hC1
  go_enter Try.func47, Try.ntmps47
  go_wp2_with fail
  rw [← hg]
  generalize w.alloc _ = W at hA1 hC1 ⊢
  have HA1 := Lib.hid hA1
  have HC1 := Lib.hid hC1
  clear hA hA1 hC1 hg
  have ca0 := HA1.out.aud.cell 0
  have cc0 := HC1.out.cell 0
  have cc1 := HC1.out.cell 1
  have cc2 := HC1.out.cell 2
  have cc3 := HC1.out.cell 3
  have hlk := HA1.out.look hx (v := (s.find cx).elim (.pointer none) (fun t => .pointer (some ⟨blk t.id, 0, none⟩))) rfl
  obtain ⟨bv, hbv⟩ : ∃ v : Value, v = (s.find cx).elim (.pointer none) (fun t => .pointer (some ⟨blk t.id, 0, none⟩)) := ⟨_, rfl⟩
  rw [← hbv] at hlk
  clear hbv
  go_quiet (fail)
  clear hlk ca0 cc0 cc1 cc2 cc3
  generalize hgen : W.drewN _ = W2
  have hA1 : AWb F w0 a b1 b2 b3 N blk s W2 := by rw [← hgen]; exact HA1.out.next (below_drewN (Below.refl _ _) _)
  have hC1 : Blk W2 g 59 #[.bool true, .int .i64 cx, .int .i64 cf, .int .i64 ch] := by rw [← hgen]; exact HC1.out.drewN _
  clear hgen HA1 HC1
  have HA1 := Lib.hid hA1
  have HC1 := Lib.hid hC1
  clear hA1 hC1
  have ca0 := HA1.out.aud.cell 0
  have cc0 := HC1.out.cell 0
  have cc1 := HC1.out.cell 1
  have cc2 := HC1.out.cell 2
  have cc3 := HC1.out.cell 3
  have ca2 := HA1.out.aud.cell 2
  have hlk : ∀ n, (Instr.lookup 75 (.map (some b3)) (.int .i64 cf) true).run Try.prog (W2.drewN n) = _ := fun n => looki_ok (HA1.out.m3.drewN n) HA1.out.me hxf
  obtain ⟨mv, hmv⟩ : ∃ v, v = num s.mem cf := ⟨_, rfl⟩
  obtain ⟨kn, hkn⟩ : ∃ v, v = (MapI.get s.mem cf).isSome := ⟨_, rfl⟩
  have hmb := num_small HA1.out.me cf
  rw [← hmv] at hmb
  rw [← hmv, ← hkn] at hlk
  clear hmv hkn hmb hN hI
  go_wp2
  go_quiet (fail)
  clear hlk ca0 ca2 cc0 cc1 cc2 cc3
  generalize hgen : W2.drewN _ = W3
  have hA1 : AWb F w0 a b1 b2 b3 N blk s W3 := by rw [← hgen]; exact HA1.out.next (below_drewN (Below.refl _ _) _)
  have hC1 : Blk W3 g 59 #[.bool true, .int .i64 cx, .int .i64 cf, .int .i64 ch] := by rw [← hgen]; exact HC1.out.drewN _
  clear hgen HA1 HC1
  have HA1 := Lib.hid hA1
  have HC1 := Lib.hid hC1
  clear hA1 hC1
  have ca0 := HA1.out.aud.cell 0
  have cc0 := HC1.out.cell 0
  have cc1 := HC1.out.cell 1
  have cc2 := HC1.out.cell 2
  have cc3 := HC1.out.cell 3
  have ca3 := HA1.out.aud.cell 3
  have d1 : (cx == s.next) = false := beq_eq_false_iff_ne.2 HBX.out
  have d1' : (cx != s.next) = true := by simp [bne, d1]
  go_wp2
  go_quiet (fail)
  go_wp2
  go_ret
  exact Out.no rfl rfl (HA1.out.below.drewN _)
set_option maxHeartbeats 4000000 in
set_option maxRecDepth 100000 in
theorem boot_unknown (F : Nat → Prop) (w0 : World) (a b1 b2 b3 N : Nat) (blk : Int → Nat) (s : AS) (cx cf ch : Int) (w : World) (hA : AWb F w0 a b1 b2 b3 N blk s w) (hN : N ≤ 100000) (hI : Inv s N) (hx : W64 cx) (hxf : W64 cf) (hxh : W64 ch) (hb : cx = s.next) (hk : (MapI.get s.mem cf).isSome = false) : CALLC a ⟨true, cx, cf, ch⟩ w (Out F w0 a b1 b2 b3 (N + 1) (s.command ⟨true, cx, cf, ch⟩)) := by
  have hcm : s.command ⟨true, cx, cf, ch⟩ = none := by unfold AS.command; rw [if_neg (show ¬ (true = false) by decide)]; simp only; rw [if_pos (.inr (.inl hk))]
  rw [hcm]
  clear hcm
  have HBX := Lib.hid hb
  have HK := Lib.hid hk
  clear hb hk
  unfold CALLC
  simp only
  have hA1 := hA.next ((Below.refl _ _).alloc (Nat.le_refl _) (.cells #[.bool true, .int .i64 cx, .int .i64 cf, .int .i64 ch] 59))
  have hC1 := Blk.new w 59 #[.bool true, .int .i64 cx, .int .i64 cf, .int .i64 ch]
  obtain ⟨g, hg⟩ : ∃ g, g = w.heap.size := ⟨_, rfl⟩
  rw [← hg] at hC1
  go_enter Try.func47, Try.ntmps47
  go_wp2_with fail
  rw [← hg]
  generalize w.alloc _ = W at hA1 hC1 ⊢
  have HA1 := Lib.hid hA1
  have HC1 := Lib.hid hC1
  clear hA hA1 hC1 hg
  have ca0 := HA1.out.aud.cell 0
  have cc0 := HC1.out.cell 0
  have cc1 := HC1.out.cell 1
  have cc2 := HC1.out.cell 2
  have cc3 := HC1.out.cell 3
  have hlk := HA1.out.look hx (v := (s.find cx).elim (.pointer none) (fun t => .pointer (some ⟨blk t.id, 0, none⟩))) rfl
  obtain ⟨bv, hbv⟩ : ∃ v : Value, v = (s.find cx).elim (.pointer none) (fun t => .pointer (some ⟨blk t.id, 0, none⟩)) := ⟨_, rfl⟩
  rw [← hbv] at hlk
  clear hbv
  go_quiet (fail)
  clear hlk ca0 cc0 cc1 cc2 cc3
  generalize hgen : W.drewN _ = W2
  have hA1 : AWb F w0 a b1 b2 b3 N blk s W2 := by rw [← hgen]; exact HA1.out.next (below_drewN (Below.refl _ _) _)
  have hC1 : Blk W2 g 59 #[.bool true, .int .i64 cx, .int .i64 cf, .int .i64 ch] := by rw [← hgen]; exact HC1.out.drewN _
  clear hgen HA1 HC1
  have HA1 := Lib.hid hA1
  have HC1 := Lib.hid hC1
  clear hA1 hC1
  have ca0 := HA1.out.aud.cell 0
  have cc0 := HC1.out.cell 0
  have cc1 := HC1.out.cell 1
  have cc2 := HC1.out.cell 2
  have cc3 := HC1.out.cell 3
  have ca2 := HA1.out.aud.cell 2
  have hlk : ∀ n, (Instr.lookup 75 (.map (some b3)) (.int .i64 cf) true).run Try.prog (W2.drewN n) = _ := fun n => looki_ok (HA1.out.m3.drewN n) HA1.out.me hxf
  obtain ⟨mv, hmv⟩ : ∃ v, v = num s.mem cf := ⟨_, rfl⟩
  obtain ⟨kn, hkn⟩ : ∃ v, v = (MapI.get s.mem cf).isSome := ⟨_, rfl⟩
  have hmb := num_small HA1.out.me cf
  rw [← hmv] at hmb
  rw [← hmv, ← hkn] at hlk
  rw [HK.out] at hkn
  subst hkn
  clear hmv hmb hN hI
  go_wp2
  go_quiet (fail)
  clear hlk ca0 ca2 cc0 cc1 cc2 cc3
  generalize hgen : W2.drewN _ = W3
  have hA1 : AWb F w0 a b1 b2 b3 N blk s W3 := by rw [← hgen]; exact HA1.out.next (below_drewN (Below.refl _ _) _)
  have hC1 : Blk W3 g 59 #[.bool true, .int .i64 cx, .int .i64 cf, .int .i64 ch] := by rw [← hgen]; exact HC1.out.drewN _
  clear hgen HA1 HC1
  have HA1 := Lib.hid hA1
  have HC1 := Lib.hid hC1
  clear hA1 hC1
  have ca0 := HA1.out.aud.cell 0
  have cc0 := HC1.out.cell 0
  have cc1 := HC1.out.cell 1
  have cc2 := HC1.out.cell 2
  have cc3 := HC1.out.cell 3
  have ca3 := HA1.out.aud.cell 3
  have d1 : (cx == s.next) = true := by rw [HBX.out]; simp
  have d1' : (cx != s.next) = false := by simp [bne, d1]
  go_wp2
  go_quiet (fail)
  go_wp2
  go_ret
  exact Out.no rfl rfl (HA1.out.below.drewN _)
set_option maxHeartbeats 4000000 in
set_option maxRecDepth 100000 in
theorem boot_full (F : Nat → Prop) (w0 : World) (a b1 b2 b3 N : Nat) (blk : Int → Nat) (s : AS) (cx cf ch : Int) (w : World) (hA : AWb F w0 a b1 b2 b3 N blk s w) (hN : N ≤ 100000) (hI : Inv s N) (hx : W64 cx) (hxf : W64 cf) (hxh : W64 ch) (hb : cx = s.next) (hk : (MapI.get s.mem cf).isSome = true) (hfull : num s.size ch < sumMem s.mem ch s.boxes + num s.mem cf) : CALLC a ⟨true, cx, cf, ch⟩ w (Out F w0 a b1 b2 b3 (N + 1) (s.command ⟨true, cx, cf, ch⟩)) := by
  have hcm : s.command ⟨true, cx, cf, ch⟩ = none := by unfold AS.command; rw [if_neg (show ¬ (true = false) by decide)]; simp only; rw [if_pos (.inr (.inr hfull))]
  rw [hcm]
  clear hcm
  have HBX := Lib.hid hb
  have HK := Lib.hid hk
  have HFULL := Lib.hid hfull
  clear hb hk hfull
  unfold CALLC
  simp only
  have hA1 := hA.next ((Below.refl _ _).alloc (Nat.le_refl _) (.cells #[.bool true, .int .i64 cx, .int .i64 cf, .int .i64 ch] 59))
  have hC1 := Blk.new w 59 #[.bool true, .int .i64 cx, .int .i64 cf, .int .i64 ch]
  obtain ⟨g, hg⟩ : ∃ g, g = w.heap.size := ⟨_, rfl⟩
  rw [← hg] at hC1
  go_enter Try.func47, Try.ntmps47
  go_wp2_with fail
  rw [← hg]
  generalize w.alloc _ = W at hA1 hC1 ⊢
  have HA1 := Lib.hid hA1
  have HC1 := Lib.hid hC1
  clear hA hA1 hC1 hg
  have ca0 := HA1.out.aud.cell 0
  have cc0 := HC1.out.cell 0
  have cc1 := HC1.out.cell 1
  have cc2 := HC1.out.cell 2
  have cc3 := HC1.out.cell 3
  have hlk := HA1.out.look hx (v := (s.find cx).elim (.pointer none) (fun t => .pointer (some ⟨blk t.id, 0, none⟩))) rfl
  obtain ⟨bv, hbv⟩ : ∃ v : Value, v = (s.find cx).elim (.pointer none) (fun t => .pointer (some ⟨blk t.id, 0, none⟩)) := ⟨_, rfl⟩
  rw [← hbv] at hlk
  clear hbv
  go_quiet (fail)
  clear hlk ca0 cc0 cc1 cc2 cc3
  generalize hgen : W.drewN _ = W2
  have hA1 : AWb F w0 a b1 b2 b3 N blk s W2 := by rw [← hgen]; exact HA1.out.next (below_drewN (Below.refl _ _) _)
  have hC1 : Blk W2 g 59 #[.bool true, .int .i64 cx, .int .i64 cf, .int .i64 ch] := by rw [← hgen]; exact HC1.out.drewN _
  clear hgen HA1 HC1
  have HA1 := Lib.hid hA1
  have HC1 := Lib.hid hC1
  clear hA1 hC1
  have ca0 := HA1.out.aud.cell 0
  have cc0 := HC1.out.cell 0
  have cc1 := HC1.out.cell 1
  have cc2 := HC1.out.cell 2
  have cc3 := HC1.out.cell 3
  have ca2 := HA1.out.aud.cell 2
  have hlk : ∀ n, (Instr.lookup 75 (.map (some b3)) (.int .i64 cf) true).run Try.prog (W2.drewN n) = _ := fun n => looki_ok (HA1.out.m3.drewN n) HA1.out.me hxf
  obtain ⟨mv, hmv⟩ : ∃ v, v = num s.mem cf := ⟨_, rfl⟩
  obtain ⟨kn, hkn⟩ : ∃ v, v = (MapI.get s.mem cf).isSome := ⟨_, rfl⟩
  have hmb := num_small HA1.out.me cf
  rw [← hmv] at hmb
  rw [← hmv, ← hkn] at hlk
  rw [HK.out] at hkn
  subst hkn
  have HMV := Lib.hid hmv
  clear hmv
  go_wp2
  go_quiet (fail)
  clear hlk ca0 ca2 cc0 cc1 cc2 cc3
  generalize hgen : W2.drewN _ = W3
  have hA1 : AWb F w0 a b1 b2 b3 N blk s W3 := by rw [← hgen]; exact HA1.out.next (below_drewN (Below.refl _ _) _)
  have hC1 : Blk W3 g 59 #[.bool true, .int .i64 cx, .int .i64 cf, .int .i64 ch] := by rw [← hgen]; exact HC1.out.drewN _
  clear hgen HA1 HC1
  have HA1 := Lib.hid hA1
  have HC1 := Lib.hid hC1
  clear hA1 hC1
  have ca0 := HA1.out.aud.cell 0
  have cc0 := HC1.out.cell 0
  have cc1 := HC1.out.cell 1
  have cc2 := HC1.out.cell 2
  have cc3 := HC1.out.cell 3
  have ca3 := HA1.out.aud.cell 3
  have d1 : (cx == s.next) = true := by rw [HBX.out]; simp
  have d1' : (cx != s.next) = false := by simp [bne, d1]
  have hmv := HMV.out
  have hfull := HFULL.out
  obtain ⟨sv, hsv⟩ : ∃ v, v = num s.size ch := ⟨_, rfl⟩
  obtain ⟨us, hus⟩ : ∃ v, v = sumMem s.mem ch s.boxes := ⟨_, rfl⟩
  have hsb := num_small HA1.out.sz ch
  have hub := sumMem_bd HA1.out.me ch s.boxes
  have hlen : s.boxes.length ≤ N := by have := HA1.out.m1.le; unfold ents at this; simpa using this
  rw [← hsv] at hsb
  rw [← hus] at hub
  have hub2 : us ≤ 214748364700000 := by omega
  have hub0 := hub.1
  obtain ⟨sb0, sb1⟩ := hsb
  obtain ⟨mb0, mb1⟩ := hmb
  rw [← hsv, ← hus, ← hmv] at hfull
  have KEEP := Lib.hid (fun w' (hb : Below W3.heap.size W3 w') => (⟨((HC1.out).below hb HC1.out.lt).cell 3, (HA1.out.next hb).aud.cell 1, (HA1.out.next hb).aud.cell 3, ((HC1.out).below hb HC1.out.lt).cell 1, by rw [hsv]; exact looki (HA1.out.next hb).m2 HA1.out.sz hxh, hb⟩ :
    w'.cell? ⟨g, 3, none⟩ = some (.int .i64 ch) ∧ w'.cell? ⟨a, 1, none⟩ = some (.map (some b2)) ∧ w'.cell? ⟨a, 3, none⟩ = some (.int .i64 s.next) ∧ w'.cell? ⟨g, 1, none⟩ = some (.int .i64 cx) ∧ (Instr.lookup 75 (.map (some b2)) (.int .i64 ch) false).run Try.prog w' = .ok (.int .i64 sv) w' ∧ Below W3.heap.size W3 w'))
  have HUSED := Lib.hid (fun w' (hb : Below W3.heap.size W3 w') => (by rw [hus]; exact used_any F w0 a b1 b2 b3 N blk s ch w' (HA1.out.next hb) (by omega) : Calls Try.prog 57 #[.pointer (some ⟨a, 0, none⟩), .int .i64 ch] w' (RetN us w')))
  have BR := Below.refl W3.heap.size W3
  have BR2 := BR.drew
  have K2 := KEEP.out _ BR2
  obtain ⟨k1, k2, k3, k4, k5, -⟩ := K2
  have hw1 : IntKind.i64.wrap (us + mv) = us + mv := IntWalk.i64_in _ (by omega)
  have hw2 : wrap64 (us + mv) = us + mv := IntWalk.wrap64_in _ (by omega)
  clear hsv hus hub hlen hmv
  have d3 : decide (sv < us + mv) = true := decide_eq_true hfull
  go_wp2_with fail
  go_region_held3 (fun w' => w'.cell? ⟨g, 3, none⟩ = some (.int .i64 ch) ∧ w'.cell? ⟨a, 1, none⟩ = some (.map (some b2)) ∧ w'.cell? ⟨a, 3, none⟩ = some (.int .i64 s.next) ∧ w'.cell? ⟨g, 1, none⟩ = some (.int .i64 cx) ∧ (Instr.lookup 75 (.map (some b2)) (.int .i64 ch) false).run Try.prog w' = .ok (.int .i64 sv) w' ∧ Below W3.heap.size W3 w')
    (first | exact KEEP.out _ (by assumption) | exact KEEP.out _ (Below.trans (by assumption) (Below.mono (by assumption) (Below.size (by assumption)))) | go_keep)
    (first
      | (go_at_call 57; refine (HUSED.out _ (by first | assumption | exact ‹_ ∧ _ ∧ _ ∧ _ ∧ _ ∧ _›.2.2.2.2.2)).mono ?_; rintro e w' ⟨rfl, hbl⟩))
  all_goals
    have hbelow : Below W3.heap.size W3 w' := by first | assumption | exact ‹_ ∧ _ ∧ _ ∧ _ ∧ _ ∧ Below _ _ _›.2.2.2.2.2
    have HBF := Lib.hid (HA1.out.next hbelow)
    go_wp2
    go_ret
    exact Out.no rfl rfl HBF.out.below
set_option maxHeartbeats 4000000 in
set_option maxRecDepth 100000 in
theorem boot_yes (F : Nat → Prop) (w0 : World) (a b1 b2 b3 N : Nat) (blk : Int → Nat) (s : AS) (cx cf ch : Int) (w : World) (hA : AWb F w0 a b1 b2 b3 N blk s w) (hN : N ≤ 100000) (hI : Inv s N) (hx : W64 cx) (hxf : W64 cf) (hxh : W64 ch) (hb : cx = s.next) (hk : (MapI.get s.mem cf).isSome = true) (hfull : ¬ num s.size ch < sumMem s.mem ch s.boxes + num s.mem cf) : CALLC a ⟨true, cx, cf, ch⟩ w (Out F w0 a b1 b2 b3 (N + 1) (s.command ⟨true, cx, cf, ch⟩)) := by
  have hcm : s.command ⟨true, cx, cf, ch⟩ = some { s with boxes := s.boxes ++ [⟨cx, cf, ch, false, true⟩], next := s.next + 1 } := by unfold AS.command; rw [if_neg (show ¬ (true = false) by decide)]; simp only; rw [if_neg (by rintro (h | h | h); exact h hb; rw [hk] at h; cases h; exact hfull h)]
  rw [hcm]
  clear hcm
  have HBX := Lib.hid hb
  have HK := Lib.hid hk
  have HFULL := Lib.hid hfull
  clear hb hk hfull
  unfold CALLC
  simp only
  have hA1 := hA.next ((Below.refl _ _).alloc (Nat.le_refl _) (.cells #[.bool true, .int .i64 cx, .int .i64 cf, .int .i64 ch] 59))
  have hC1 := Blk.new w 59 #[.bool true, .int .i64 cx, .int .i64 cf, .int .i64 ch]
  obtain ⟨g, hg⟩ : ∃ g, g = w.heap.size := ⟨_, rfl⟩
  rw [← hg] at hC1
  go_enter Try.func47, Try.ntmps47
  go_wp2_with fail
  rw [← hg]
  generalize w.alloc _ = W at hA1 hC1 ⊢
  have HA1 := Lib.hid hA1
  have HC1 := Lib.hid hC1
  clear hA hA1 hC1 hg
  have ca0 := HA1.out.aud.cell 0
  have cc0 := HC1.out.cell 0
  have cc1 := HC1.out.cell 1
  have cc2 := HC1.out.cell 2
  have cc3 := HC1.out.cell 3
  have hlk := HA1.out.look hx (v := (s.find cx).elim (.pointer none) (fun t => .pointer (some ⟨blk t.id, 0, none⟩))) rfl
  obtain ⟨bv, hbv⟩ : ∃ v : Value, v = (s.find cx).elim (.pointer none) (fun t => .pointer (some ⟨blk t.id, 0, none⟩)) := ⟨_, rfl⟩
  rw [← hbv] at hlk
  clear hbv
  go_quiet (fail)
  clear hlk ca0 cc0 cc1 cc2 cc3
  generalize hgen : W.drewN _ = W2
  have hA1 : AWb F w0 a b1 b2 b3 N blk s W2 := by rw [← hgen]; exact HA1.out.next (below_drewN (Below.refl _ _) _)
  have hC1 : Blk W2 g 59 #[.bool true, .int .i64 cx, .int .i64 cf, .int .i64 ch] := by rw [← hgen]; exact HC1.out.drewN _
  clear hgen HA1 HC1
  have HA1 := Lib.hid hA1
  have HC1 := Lib.hid hC1
  clear hA1 hC1
  have ca0 := HA1.out.aud.cell 0
  have cc0 := HC1.out.cell 0
  have cc1 := HC1.out.cell 1
  have cc2 := HC1.out.cell 2
  have cc3 := HC1.out.cell 3
  have ca2 := HA1.out.aud.cell 2
  have hlk : ∀ n, (Instr.lookup 75 (.map (some b3)) (.int .i64 cf) true).run Try.prog (W2.drewN n) = _ := fun n => looki_ok (HA1.out.m3.drewN n) HA1.out.me hxf
  obtain ⟨mv, hmv⟩ : ∃ v, v = num s.mem cf := ⟨_, rfl⟩
  obtain ⟨kn, hkn⟩ : ∃ v, v = (MapI.get s.mem cf).isSome := ⟨_, rfl⟩
  have hmb := num_small HA1.out.me cf
  rw [← hmv] at hmb
  rw [← hmv, ← hkn] at hlk
  rw [HK.out] at hkn
  subst hkn
  have HMV := Lib.hid hmv
  clear hmv
  go_wp2
  go_quiet (fail)
  clear hlk ca0 ca2 cc0 cc1 cc2 cc3
  generalize hgen : W2.drewN _ = W3
  have hA1 : AWb F w0 a b1 b2 b3 N blk s W3 := by rw [← hgen]; exact HA1.out.next (below_drewN (Below.refl _ _) _)
  have hC1 : Blk W3 g 59 #[.bool true, .int .i64 cx, .int .i64 cf, .int .i64 ch] := by rw [← hgen]; exact HC1.out.drewN _
  clear hgen HA1 HC1
  have HA1 := Lib.hid hA1
  have HC1 := Lib.hid hC1
  clear hA1 hC1
  have ca0 := HA1.out.aud.cell 0
  have cc0 := HC1.out.cell 0
  have cc1 := HC1.out.cell 1
  have cc2 := HC1.out.cell 2
  have cc3 := HC1.out.cell 3
  have ca3 := HA1.out.aud.cell 3
  have d1 : (cx == s.next) = true := by rw [HBX.out]; simp
  have d1' : (cx != s.next) = false := by simp [bne, d1]
  have hmv := HMV.out
  have hfull := HFULL.out
  obtain ⟨sv, hsv⟩ : ∃ v, v = num s.size ch := ⟨_, rfl⟩
  obtain ⟨us, hus⟩ : ∃ v, v = sumMem s.mem ch s.boxes := ⟨_, rfl⟩
  have hsb := num_small HA1.out.sz ch
  have hub := sumMem_bd HA1.out.me ch s.boxes
  have hlen : s.boxes.length ≤ N := by have := HA1.out.m1.le; unfold ents at this; simpa using this
  rw [← hsv] at hsb
  rw [← hus] at hub
  have hub2 : us ≤ 214748364700000 := by omega
  have hub0 := hub.1
  obtain ⟨sb0, sb1⟩ := hsb
  obtain ⟨mb0, mb1⟩ := hmb
  rw [← hsv, ← hus, ← hmv] at hfull
  have KEEP := Lib.hid (fun w' (hb : Below W3.heap.size W3 w') => (⟨((HC1.out).below hb HC1.out.lt).cell 3, (HA1.out.next hb).aud.cell 1, (HA1.out.next hb).aud.cell 3, ((HC1.out).below hb HC1.out.lt).cell 1, by rw [hsv]; exact looki (HA1.out.next hb).m2 HA1.out.sz hxh, hb⟩ :
    w'.cell? ⟨g, 3, none⟩ = some (.int .i64 ch) ∧ w'.cell? ⟨a, 1, none⟩ = some (.map (some b2)) ∧ w'.cell? ⟨a, 3, none⟩ = some (.int .i64 s.next) ∧ w'.cell? ⟨g, 1, none⟩ = some (.int .i64 cx) ∧ (Instr.lookup 75 (.map (some b2)) (.int .i64 ch) false).run Try.prog w' = .ok (.int .i64 sv) w' ∧ Below W3.heap.size W3 w'))
  have HUSED := Lib.hid (fun w' (hb : Below W3.heap.size W3 w') => (by rw [hus]; exact used_any F w0 a b1 b2 b3 N blk s ch w' (HA1.out.next hb) (by omega) : Calls Try.prog 57 #[.pointer (some ⟨a, 0, none⟩), .int .i64 ch] w' (RetN us w')))
  have BR := Below.refl W3.heap.size W3
  have BR2 := BR.drew
  have K2 := KEEP.out _ BR2
  obtain ⟨k1, k2, k3, k4, k5, -⟩ := K2
  have hw1 : IntKind.i64.wrap (us + mv) = us + mv := IntWalk.i64_in _ (by omega)
  have hw2 : wrap64 (us + mv) = us + mv := IntWalk.wrap64_in _ (by omega)
  clear hsv hus hub hlen hmv
  have d3 : decide (sv < us + mv) = false := decide_eq_false (by omega)
  go_wp2_with fail
  go_region_held3 (fun w' => w'.cell? ⟨g, 3, none⟩ = some (.int .i64 ch) ∧ w'.cell? ⟨a, 1, none⟩ = some (.map (some b2)) ∧ w'.cell? ⟨a, 3, none⟩ = some (.int .i64 s.next) ∧ w'.cell? ⟨g, 1, none⟩ = some (.int .i64 cx) ∧ (Instr.lookup 75 (.map (some b2)) (.int .i64 ch) false).run Try.prog w' = .ok (.int .i64 sv) w' ∧ Below W3.heap.size W3 w')
    (first | exact KEEP.out _ (by assumption) | exact KEEP.out _ (Below.trans (by assumption) (Below.mono (by assumption) (Below.size (by assumption)))) | go_keep)
    (first
      | (go_at_call 57; refine (HUSED.out _ (by first | assumption | exact ‹_ ∧ _ ∧ _ ∧ _ ∧ _ ∧ _›.2.2.2.2.2)).mono ?_; rintro e w' ⟨rfl, hbl⟩))
  all_goals
    have hn1 := hI.n1
    have hn2 := hI.n2
    have hn3 : s.next ≤ 100001 := by omega
    have HI2 := Lib.hid hI
    clear hI d1 d1' d3 hw1 hw2 k1 k2 k3 k4 k5 HUSED hfull ca0 cc0 cc1 cc2 cc3 ca3
    have hbelow : Below W3.heap.size W3 w' := by first | assumption | exact ‹_ ∧ _ ∧ _ ∧ _ ∧ _ ∧ Below _ _ _›.2.2.2.2.2
    have HA5 := Lib.hid (HA1.out.next hbelow)
    have HC5 := Lib.hid (HC1.out.below hbelow HC1.out.lt)
    have hB6 := HA5.out.aud.set_ 3 (.int .i64 (s.next + 1))
    have hg6 : g ≠ a := blk_neq HC5.out HA5.out.aud (by decide)
    have hw3 : wrap64 (s.next + 1) = s.next + 1 := IntWalk.wrap64_in _ (by omega)
    have ca3 := HA5.out.aud.cell 3
    have fa3 := HA5.out.aud.frozen 3
    clear hbelow
    go_wp2
    generalize hW6 : w'.setCell _ _ = W6
    have h6 : ∀ i, i ≠ a → W6.heap[i]? = w'.heap[i]? := fun i hi => by rw [← hW6]; exact Below.heap_setCell _ _ _ _ hi
    have hs6 : W6.heap.size = w'.heap.size := by rw [← hW6]; simp [World.setCell]
    have hb6 : Only F w0 W6 := by rw [← hW6]; exact HA5.out.below.setCell HA5.out.na.1 _
    rw [hW6] at hB6
    have hC6 : Blk W6 g _ _ := (h6 g hg6).trans HC5.out
    have ca0 := hB6.cell 0
    have cc1 := hC6.cell 1
    have cc2 := hC6.cell 2
    have cc3 := hC6.cell 3
    have HC6 := Lib.hid hC6
    have H6 := Lib.hid h6
    have HS6 := Lib.hid hs6
    have HB6 := Lib.hid hB6
    have HBL6 := Lib.hid hb6
    clear hW6 h6 hs6 hB6 hb6 hC6 ca3 fa3 hg6
    have HAT := Lib.hid (HA5.out.m1.same (H6.out b1 (map_blk_ne HA5.out.m1 HA5.out.aud).symm))
    clear hw3
    obtain ⟨w7, hrun, hm7, hg7, _⟩ := (At.drew (At.alloc HAT.out (.cells #[.int .i64 cf, .int .i64 ch, .bool false, .bool true] 103))).store (t := 74) Try.underlying3 Try.underlying74 (by unfold maxLen; omega) hx (.pointer (some ⟨W6.heap.size, 0, none⟩))
    have H7 := Lib.hid (And.intro hm7 hg7)
    clear hm7 hg7
    have da0 := (HB6.out.alloc (.cells #[.int .i64 cf, .int .i64 ch, .bool false, .bool true] 103)).cell 0
    have dc1 := (HC6.out.alloc (.cells #[.int .i64 cf, .int .i64 ch, .bool false, .bool true] 103)).cell 1
    have dc2 := (HC6.out.alloc (.cells #[.int .i64 cf, .int .i64 ch, .bool false, .bool true] 103)).cell 2
    have dc3 := (HC6.out.alloc (.cells #[.int .i64 cf, .int .i64 ch, .bool false, .bool true] 103)).cell 3
    go_region
    all_goals
      have hfin := AWb.boot (s := s) HA5.out ⟨cx, cf, ch, false, true⟩ HBX.out HI2.out.ids ⟨hx, hxf, hxh⟩ (w1 := (W6.alloc (.cells #[.int .i64 cf, .int .i64 ch, .bool false, .bool true] 103)).drew) (K := W6.heap.size)
        (fun i hi hne => (Below.heap_alloc W6 _ i (by rw [HS6.out]; exact hi)).trans (H6.out i hne)) (HB6.out.alloc _) (Blk.new _ _ _) (by rw [HS6.out]; exact Nat.le_refl _) (HBL6.out.alloc _).drew H7.out.1 H7.out.2
      have HFIN := Lib.hid hfin
      clear hrun hfin
      go_wp2
      go_ret
      exact Out.yes rfl rfl HFIN.out
end Go.Proofs.Ytopbhdpfakjkjaa.Aud
