/- Proved: what the auditor's ahead and call answer and leave, of whatever event and answer. -/
import Derived.Test.YtopbhdpfakjkjaaAudFail
namespace Go.Proofs.Ytopbhdpfakjkjaa.Aud
open Go.RowKit Go.Proofs.Ytopbhdpfakjkjaa.Histo Go.Proofs.Ytopbhdpfakjkjaa.Event Go.Proofs.Ytopbhdpfakjkjaa.Ring
set_option linter.unusedVariables false
open Go.Proofs.Ytopbhdpfakjkjaa.MapI (AL At Rng W64 At.alloc At.drew)

theorem ahead_all (F : Nat → Prop) (w0 : World) (a b1 b2 b3 N : Nat) (blk : Int → Nat) (s : AS) (e : Ev) (r : Ans) (v : Value) (w : World) (hA : AWb F w0 a b1 b2 b3 N blk s w) (hN : N ≤ 100000) (hn : W64 e.n) (hs : 0 ≤ e.size ∧ e.size ≤ 2147483647) (hm : 0 ≤ e.mem ∧ e.mem ≤ 2147483647) : CALLA a e r v w (Out F w0 a b1 b2 b3 (N + 1) (s.ahead e)) := by
  obtain ⟨k, n, a2, sz, a4, a5, mm, a7, a8, a9⟩ := e
  obtain ⟨r0, r1, r2, r3⟩ := r
  by_cases h3 : k = 3
  · subst h3; exact ahead_host F w0 a b1 b2 b3 N blk s n a2 sz a4 a5 mm a7 a8 a9 r0 r1 r2 r3 v w hA hN hn hs.1 hs.2
  by_cases h2 : k = 2
  · subst h2; exact ahead_func F w0 a b1 b2 b3 N blk s n a2 sz a4 a5 mm a7 a8 a9 r0 r1 r2 r3 v w hA hN hn hm.1 hm.2
  by_cases h5 : k = 5
  · subst h5; exact ahead_fail F w0 a b1 b2 b3 N blk s n a2 sz a4 a5 mm a7 a8 a9 r0 r1 r2 r3 v w hA hN hn
  by_cases h7 : k = 7
  · subst h7
    cases hf : s.find n with
    | none => exact ahead_booted_none F w0 a b1 b2 b3 N blk s n a2 sz a4 a5 mm a7 a8 a9 r0 r1 r2 r3 v w hA hN hn hf
    | some t =>
      cases hb : t.boots with
      | false => exact ahead_booted_no F w0 a b1 b2 b3 N blk s n a2 sz a4 a5 mm a7 a8 a9 r0 r1 r2 r3 v t w hA hN hn hf hb
      | true => exact ahead_booted_yes F w0 a b1 b2 b3 N blk s n a2 sz a4 a5 mm a7 a8 a9 r0 r1 r2 r3 v t w hA hN hn hf hb
  by_cases h9 : k = 9
  · subst h9
    cases hf : s.find n with
    | none => exact ahead_done_none F w0 a b1 b2 b3 N blk s n a2 sz a4 a5 mm a7 a8 a9 r0 r1 r2 r3 v w hA hN hn hf
    | some t =>
      cases hb : t.boots with
      | true => exact ahead_done_boots F w0 a b1 b2 b3 N blk s n a2 sz a4 a5 mm a7 a8 a9 r0 r1 r2 r3 v t w hA hN hn hf hb
      | false =>
        cases hc : t.busy with
        | false => exact ahead_done_idle F w0 a b1 b2 b3 N blk s n a2 sz a4 a5 mm a7 a8 a9 r0 r1 r2 r3 v t w hA hN hn hf hb hc
        | true => exact ahead_done_yes F w0 a b1 b2 b3 N blk s n a2 sz a4 a5 mm a7 a8 a9 r0 r1 r2 r3 v t w hA hN hn hf hb hc
  by_cases h8 : k = 8
  · subst h8
    cases hf : s.find n with
    | none => exact ahead_broke_none F w0 a b1 b2 b3 N blk s n a2 sz a4 a5 mm a7 a8 a9 r0 r1 r2 r3 v w hA hN hn hf
    | some t => exact ahead_broke_yes F w0 a b1 b2 b3 N blk s n a2 sz a4 a5 mm a7 a8 a9 r0 r1 r2 r3 v t w hA hN hn hf
  exact ahead_else F w0 a b1 b2 b3 N blk s k n a2 sz a4 a5 mm a7 a8 a9 r0 r1 r2 r3 v w hA hN hn h2 h3 h5 h7 h8 h9

/-- What a call's answer leaves; none: it may not be. -/
def AS.call (s : AS) (e : Ev) (r : Ans) (n : Nat) : Option AS :=
  if r.kind = 2 then match s.find r.box with | none => none | some t => if t.busy = true ∨ t.boots = true ∨ t.fn ≠ e.n ∨ 0 < n then none else some (s.upd r.box fun t => { t with busy := true })
  else if r.kind = 3 then match s.find r.box with | none => none | some t => if t.boots = false ∨ t.busy = true ∨ t.fn ≠ e.n ∨ r.box ≠ s.next - 1 then none else some (s.upd r.box fun t => { t with busy := true })
  else if r.kind ≠ 0 ∧ n = 0 then some s else none
abbrev CALLK (a : Nat) (e : Ev) (r : Ans) (v : Value) (w : World) (Q : Ending → World → Prop) := Calls Try.prog 48 #[.pointer (some ⟨a, 0, none⟩), .agg (scells e r v)] w Q
set_option maxHeartbeats 4000000 in
set_option maxRecDepth 100000 in
theorem call_warm_none (F : Nat → Prop) (w0 : World) (a b1 b2 b3 N : Nat) (blk : Int → Nat) (s : AS) (ek en e2 es e4 e5 em e7 e8 e9 bx r2 r3 : Int) (ad : Option Addr) (n cap : Nat) (w : World) (hA : AWb F w0 a b1 b2 b3 N blk s w) (hN : N ≤ 100000) (hn : W64 bx) (hl : n ≤ 1000000) (hx0 : 1 ≤ s.next) (hx1 : s.next ≤ 1000000) (hf : s.find bx = none) : CALLK a ⟨ek, en, e2, es, e4, e5, em, e7, e8, e9⟩ ⟨2, bx, r2, r3⟩ (.slice ad n cap) w (Out F w0 a b1 b2 b3 N (s.call ⟨ek, en, e2, es, e4, e5, em, e7, e8, e9⟩ ⟨2, bx, r2, r3⟩ n)) := by
  have hcm : s.call ⟨ek, en, e2, es, e4, e5, em, e7, e8, e9⟩ ⟨2, bx, r2, r3⟩ n = none := by unfold AS.call; simp [hf]
  rw [hcm]
  clear hcm
  have HF := Lib.hid hf
  clear hf
  unfold CALLK scells
  simp only
  have hA1 := hA.next ((Below.refl _ _).alloc (Nat.le_refl _) (.cells (scells ⟨ek, en, e2, es, e4, e5, em, e7, e8, e9⟩ ⟨2, bx, r2, r3⟩ (.slice ad n cap)) 55))
  have hC1 := Blk.new w 55 (scells ⟨ek, en, e2, es, e4, e5, em, e7, e8, e9⟩ ⟨2, bx, r2, r3⟩ (.slice ad n cap))
  obtain ⟨g, hg⟩ : ∃ g, g = w.heap.size := ⟨_, rfl⟩
  rw [← hg] at hC1
  go_enter Try.func48, Try.ntmps48
  go_wp2_with fail
  rw [← hg]
  generalize w.alloc _ = W at hA1 hC1 ⊢
  have HA1 := Lib.hid hA1
  have HC1 := Lib.hid hC1
  clear hA hA1 hC1 hg
  have ca0 := HA1.out.aud.cell 0
  have ca3 := HA1.out.aud.cell 3
  have cc1 := HC1.out.cell 1
  have cc10 := HC1.out.cell 10
  have cc11 := HC1.out.cell 11
  have cc14 := HC1.out.cell 14
  have hlk := HA1.out.look hn (v := (s.find bx).elim (.pointer none) (fun t => .pointer (some ⟨blk t.id, 0, none⟩))) rfl
  rw [HF.out] at hlk
  simp only [Option.elim] at hlk
  go_quiet (fail)
  clear hlk
  clear ca0 ca3 cc1 cc10 cc11 cc14
  generalize hgen : W.drewN _ = W2
  have hA1 : AWb F w0 a b1 b2 b3 N blk s W2 := by rw [← hgen]; exact HA1.out.next (below_drewN (Below.refl _ _) _)
  have hC1 : Blk W2 g 55 (scells ⟨ek, en, e2, es, e4, e5, em, e7, e8, e9⟩ ⟨2, bx, r2, r3⟩ (.slice ad n cap)) := by rw [← hgen]; exact HC1.out.drewN _
  clear hgen HA1 HC1
  have HA1 := Lib.hid hA1
  have HC1 := Lib.hid hC1
  clear hA1 hC1
  have ca0 := HA1.out.aud.cell 0
  have ca3 := HA1.out.aud.cell 3
  have cc1 := HC1.out.cell 1
  have cc10 := HC1.out.cell 10
  have cc11 := HC1.out.cell 11
  have cc14 := HC1.out.cell 14
  go_wp2
  go_quiet (fail)
  go_wp2
  go_ret
  exact Out.no rfl rfl (HA1.out.below.drewN _)
set_option maxHeartbeats 4000000 in
set_option maxRecDepth 100000 in
theorem call_warm_busy (F : Nat → Prop) (w0 : World) (a b1 b2 b3 N : Nat) (blk : Int → Nat) (s : AS) (ek en e2 es e4 e5 em e7 e8 e9 bx r2 r3 : Int) (ad : Option Addr) (n cap : Nat) (t : Th) (w : World) (hA : AWb F w0 a b1 b2 b3 N blk s w) (hN : N ≤ 100000) (hn : W64 bx) (hl : n ≤ 1000000) (hx0 : 1 ≤ s.next) (hx1 : s.next ≤ 1000000) (hf : s.find bx = some t) (hb : t.busy = true) : CALLK a ⟨ek, en, e2, es, e4, e5, em, e7, e8, e9⟩ ⟨2, bx, r2, r3⟩ (.slice ad n cap) w (Out F w0 a b1 b2 b3 N (s.call ⟨ek, en, e2, es, e4, e5, em, e7, e8, e9⟩ ⟨2, bx, r2, r3⟩ n)) := by
  have hcm : s.call ⟨ek, en, e2, es, e4, e5, em, e7, e8, e9⟩ ⟨2, bx, r2, r3⟩ n = none := by unfold AS.call; simp [hf, hb]
  rw [hcm]
  clear hcm
  have HF := Lib.hid hf
  clear hf
  unfold CALLK scells
  simp only
  have hA1 := hA.next ((Below.refl _ _).alloc (Nat.le_refl _) (.cells (scells ⟨ek, en, e2, es, e4, e5, em, e7, e8, e9⟩ ⟨2, bx, r2, r3⟩ (.slice ad n cap)) 55))
  have hC1 := Blk.new w 55 (scells ⟨ek, en, e2, es, e4, e5, em, e7, e8, e9⟩ ⟨2, bx, r2, r3⟩ (.slice ad n cap))
  obtain ⟨g, hg⟩ : ∃ g, g = w.heap.size := ⟨_, rfl⟩
  rw [← hg] at hC1
  go_enter Try.func48, Try.ntmps48
  go_wp2_with fail
  rw [← hg]
  generalize w.alloc _ = W at hA1 hC1 ⊢
  have HA1 := Lib.hid hA1
  have HC1 := Lib.hid hC1
  clear hA hA1 hC1 hg
  have ca0 := HA1.out.aud.cell 0
  have ca3 := HA1.out.aud.cell 3
  have cc1 := HC1.out.cell 1
  have cc10 := HC1.out.cell 10
  have cc11 := HC1.out.cell 11
  have cc14 := HC1.out.cell 14
  have hlk := HA1.out.look hn (v := (s.find bx).elim (.pointer none) (fun t => .pointer (some ⟨blk t.id, 0, none⟩))) rfl
  rw [HF.out] at hlk
  simp only [Option.elim] at hlk
  go_quiet (fail)
  clear hlk
  clear ca0 ca3 cc1 cc10 cc11 cc14
  generalize hgen : W.drewN _ = W2
  have hA1 : AWb F w0 a b1 b2 b3 N blk s W2 := by rw [← hgen]; exact HA1.out.next (below_drewN (Below.refl _ _) _)
  have hC1 : Blk W2 g 55 (scells ⟨ek, en, e2, es, e4, e5, em, e7, e8, e9⟩ ⟨2, bx, r2, r3⟩ (.slice ad n cap)) := by rw [← hgen]; exact HC1.out.drewN _
  clear hgen HA1 HC1
  have HA1 := Lib.hid hA1
  have HC1 := Lib.hid hC1
  clear hA1 hC1
  have ca0 := HA1.out.aud.cell 0
  have ca3 := HA1.out.aud.cell 3
  have cc1 := HC1.out.cell 1
  have cc10 := HC1.out.cell 10
  have cc11 := HC1.out.cell 11
  have cc14 := HC1.out.cell 14
  have hmt := find_mem HF.out
  have hbt := HA1.out.th t hmt.1
  have ct0 : W2.cell? ⟨blk t.id, 0, none⟩ = some (.int .i64 t.fn) := hbt.cell 0
  have ct2 : W2.cell? ⟨blk t.id, 2, none⟩ = some (.bool t.busy) := hbt.cell 2
  have ct3 : W2.cell? ⟨blk t.id, 3, none⟩ = some (.bool t.boots) := hbt.cell 3
  have cf2 := hbt.frozen 2
  have HMT := Lib.hid hmt
  clear hmt hbt
  go_wp2
  go_quiet (fail)
  go_wp2
  go_ret
  exact Out.no rfl rfl (HA1.out.below.drewN _)
set_option maxHeartbeats 4000000 in
set_option maxRecDepth 100000 in
theorem call_warm_boots (F : Nat → Prop) (w0 : World) (a b1 b2 b3 N : Nat) (blk : Int → Nat) (s : AS) (ek en e2 es e4 e5 em e7 e8 e9 bx r2 r3 : Int) (ad : Option Addr) (n cap : Nat) (t : Th) (w : World) (hA : AWb F w0 a b1 b2 b3 N blk s w) (hN : N ≤ 100000) (hn : W64 bx) (hl : n ≤ 1000000) (hx0 : 1 ≤ s.next) (hx1 : s.next ≤ 1000000) (hf : s.find bx = some t) (hb : t.busy = false) (hc : t.boots = true) : CALLK a ⟨ek, en, e2, es, e4, e5, em, e7, e8, e9⟩ ⟨2, bx, r2, r3⟩ (.slice ad n cap) w (Out F w0 a b1 b2 b3 N (s.call ⟨ek, en, e2, es, e4, e5, em, e7, e8, e9⟩ ⟨2, bx, r2, r3⟩ n)) := by
  have hcm : s.call ⟨ek, en, e2, es, e4, e5, em, e7, e8, e9⟩ ⟨2, bx, r2, r3⟩ n = none := by unfold AS.call; simp [hf, hb, hc]
  rw [hcm]
  clear hcm
  have HF := Lib.hid hf
  clear hf
  unfold CALLK scells
  simp only
  have hA1 := hA.next ((Below.refl _ _).alloc (Nat.le_refl _) (.cells (scells ⟨ek, en, e2, es, e4, e5, em, e7, e8, e9⟩ ⟨2, bx, r2, r3⟩ (.slice ad n cap)) 55))
  have hC1 := Blk.new w 55 (scells ⟨ek, en, e2, es, e4, e5, em, e7, e8, e9⟩ ⟨2, bx, r2, r3⟩ (.slice ad n cap))
  obtain ⟨g, hg⟩ : ∃ g, g = w.heap.size := ⟨_, rfl⟩
  rw [← hg] at hC1
  go_enter Try.func48, Try.ntmps48
  go_wp2_with fail
  rw [← hg]
  generalize w.alloc _ = W at hA1 hC1 ⊢
  have HA1 := Lib.hid hA1
  have HC1 := Lib.hid hC1
  clear hA hA1 hC1 hg
  have ca0 := HA1.out.aud.cell 0
  have ca3 := HA1.out.aud.cell 3
  have cc1 := HC1.out.cell 1
  have cc10 := HC1.out.cell 10
  have cc11 := HC1.out.cell 11
  have cc14 := HC1.out.cell 14
  have hlk := HA1.out.look hn (v := (s.find bx).elim (.pointer none) (fun t => .pointer (some ⟨blk t.id, 0, none⟩))) rfl
  rw [HF.out] at hlk
  simp only [Option.elim] at hlk
  go_quiet (fail)
  clear hlk
  clear ca0 ca3 cc1 cc10 cc11 cc14
  generalize hgen : W.drewN _ = W2
  have hA1 : AWb F w0 a b1 b2 b3 N blk s W2 := by rw [← hgen]; exact HA1.out.next (below_drewN (Below.refl _ _) _)
  have hC1 : Blk W2 g 55 (scells ⟨ek, en, e2, es, e4, e5, em, e7, e8, e9⟩ ⟨2, bx, r2, r3⟩ (.slice ad n cap)) := by rw [← hgen]; exact HC1.out.drewN _
  clear hgen HA1 HC1
  have HA1 := Lib.hid hA1
  have HC1 := Lib.hid hC1
  clear hA1 hC1
  have ca0 := HA1.out.aud.cell 0
  have ca3 := HA1.out.aud.cell 3
  have cc1 := HC1.out.cell 1
  have cc10 := HC1.out.cell 10
  have cc11 := HC1.out.cell 11
  have cc14 := HC1.out.cell 14
  have hmt := find_mem HF.out
  have hbt := HA1.out.th t hmt.1
  have ct0 : W2.cell? ⟨blk t.id, 0, none⟩ = some (.int .i64 t.fn) := hbt.cell 0
  have ct2 : W2.cell? ⟨blk t.id, 2, none⟩ = some (.bool t.busy) := hbt.cell 2
  have ct3 : W2.cell? ⟨blk t.id, 3, none⟩ = some (.bool t.boots) := hbt.cell 3
  have cf2 := hbt.frozen 2
  have HMT := Lib.hid hmt
  clear hmt hbt
  go_wp2
  go_quiet (fail)
  go_wp2
  go_ret
  exact Out.no rfl rfl (HA1.out.below.drewN _)
set_option maxHeartbeats 4000000 in
set_option maxRecDepth 100000 in
theorem call_warm_fn (F : Nat → Prop) (w0 : World) (a b1 b2 b3 N : Nat) (blk : Int → Nat) (s : AS) (ek en e2 es e4 e5 em e7 e8 e9 bx r2 r3 : Int) (ad : Option Addr) (n cap : Nat) (t : Th) (w : World) (hA : AWb F w0 a b1 b2 b3 N blk s w) (hN : N ≤ 100000) (hn : W64 bx) (hl : n ≤ 1000000) (hx0 : 1 ≤ s.next) (hx1 : s.next ≤ 1000000) (hf : s.find bx = some t) (hb : t.busy = false) (hc : t.boots = false) (hq : t.fn ≠ en) : CALLK a ⟨ek, en, e2, es, e4, e5, em, e7, e8, e9⟩ ⟨2, bx, r2, r3⟩ (.slice ad n cap) w (Out F w0 a b1 b2 b3 N (s.call ⟨ek, en, e2, es, e4, e5, em, e7, e8, e9⟩ ⟨2, bx, r2, r3⟩ n)) := by
  have hcm : s.call ⟨ek, en, e2, es, e4, e5, em, e7, e8, e9⟩ ⟨2, bx, r2, r3⟩ n = none := by unfold AS.call; simp [hf, hb, hc, hq]
  rw [hcm]
  clear hcm
  have HF := Lib.hid hf
  clear hf
  unfold CALLK scells
  simp only
  have hA1 := hA.next ((Below.refl _ _).alloc (Nat.le_refl _) (.cells (scells ⟨ek, en, e2, es, e4, e5, em, e7, e8, e9⟩ ⟨2, bx, r2, r3⟩ (.slice ad n cap)) 55))
  have hC1 := Blk.new w 55 (scells ⟨ek, en, e2, es, e4, e5, em, e7, e8, e9⟩ ⟨2, bx, r2, r3⟩ (.slice ad n cap))
  obtain ⟨g, hg⟩ : ∃ g, g = w.heap.size := ⟨_, rfl⟩
  rw [← hg] at hC1
  go_enter Try.func48, Try.ntmps48
  go_wp2_with fail
  rw [← hg]
  generalize w.alloc _ = W at hA1 hC1 ⊢
  have HA1 := Lib.hid hA1
  have HC1 := Lib.hid hC1
  clear hA hA1 hC1 hg
  have ca0 := HA1.out.aud.cell 0
  have ca3 := HA1.out.aud.cell 3
  have cc1 := HC1.out.cell 1
  have cc10 := HC1.out.cell 10
  have cc11 := HC1.out.cell 11
  have cc14 := HC1.out.cell 14
  have hlk := HA1.out.look hn (v := (s.find bx).elim (.pointer none) (fun t => .pointer (some ⟨blk t.id, 0, none⟩))) rfl
  rw [HF.out] at hlk
  simp only [Option.elim] at hlk
  go_quiet (fail)
  clear hlk
  clear ca0 ca3 cc1 cc10 cc11 cc14
  generalize hgen : W.drewN _ = W2
  have hA1 : AWb F w0 a b1 b2 b3 N blk s W2 := by rw [← hgen]; exact HA1.out.next (below_drewN (Below.refl _ _) _)
  have hC1 : Blk W2 g 55 (scells ⟨ek, en, e2, es, e4, e5, em, e7, e8, e9⟩ ⟨2, bx, r2, r3⟩ (.slice ad n cap)) := by rw [← hgen]; exact HC1.out.drewN _
  clear hgen HA1 HC1
  have HA1 := Lib.hid hA1
  have HC1 := Lib.hid hC1
  clear hA1 hC1
  have ca0 := HA1.out.aud.cell 0
  have ca3 := HA1.out.aud.cell 3
  have cc1 := HC1.out.cell 1
  have cc10 := HC1.out.cell 10
  have cc11 := HC1.out.cell 11
  have cc14 := HC1.out.cell 14
  have hmt := find_mem HF.out
  have hbt := HA1.out.th t hmt.1
  have ct0 : W2.cell? ⟨blk t.id, 0, none⟩ = some (.int .i64 t.fn) := hbt.cell 0
  have ct2 : W2.cell? ⟨blk t.id, 2, none⟩ = some (.bool t.busy) := hbt.cell 2
  have ct3 : W2.cell? ⟨blk t.id, 3, none⟩ = some (.bool t.boots) := hbt.cell 3
  have cf2 := hbt.frozen 2
  have HMT := Lib.hid hmt
  clear hmt hbt
  have d1 : (t.fn == en) = false := beq_eq_false_iff_ne.2 hq
  have d1' : (t.fn != en) = true := by simp [bne, d1]
  clear hq
  go_wp2
  go_quiet (fail)
  go_wp2
  go_ret
  exact Out.no rfl rfl (HA1.out.below.drewN _)
set_option maxHeartbeats 4000000 in
set_option maxRecDepth 100000 in
theorem call_warm_many (F : Nat → Prop) (w0 : World) (a b1 b2 b3 N : Nat) (blk : Int → Nat) (s : AS) (ek en e2 es e4 e5 em e7 e8 e9 bx r2 r3 : Int) (ad : Option Addr) (n cap : Nat) (t : Th) (w : World) (hA : AWb F w0 a b1 b2 b3 N blk s w) (hN : N ≤ 100000) (hn : W64 bx) (hl : n ≤ 1000000) (hx0 : 1 ≤ s.next) (hx1 : s.next ≤ 1000000) (hf : s.find bx = some t) (hb : t.busy = false) (hc : t.boots = false) (hq : t.fn = en) (hm : 0 < n) : CALLK a ⟨ek, en, e2, es, e4, e5, em, e7, e8, e9⟩ ⟨2, bx, r2, r3⟩ (.slice ad n cap) w (Out F w0 a b1 b2 b3 N (s.call ⟨ek, en, e2, es, e4, e5, em, e7, e8, e9⟩ ⟨2, bx, r2, r3⟩ n)) := by
  have hcm : s.call ⟨ek, en, e2, es, e4, e5, em, e7, e8, e9⟩ ⟨2, bx, r2, r3⟩ n = none := by unfold AS.call; simp [hf, hb, hc, hq, hm]
  rw [hcm]
  clear hcm
  have HF := Lib.hid hf
  clear hf
  have HQ := Lib.hid hq
  clear hq
  unfold CALLK scells
  simp only
  have hA1 := hA.next ((Below.refl _ _).alloc (Nat.le_refl _) (.cells (scells ⟨ek, en, e2, es, e4, e5, em, e7, e8, e9⟩ ⟨2, bx, r2, r3⟩ (.slice ad n cap)) 55))
  have hC1 := Blk.new w 55 (scells ⟨ek, en, e2, es, e4, e5, em, e7, e8, e9⟩ ⟨2, bx, r2, r3⟩ (.slice ad n cap))
  obtain ⟨g, hg⟩ : ∃ g, g = w.heap.size := ⟨_, rfl⟩
  rw [← hg] at hC1
  go_enter Try.func48, Try.ntmps48
  go_wp2_with fail
  rw [← hg]
  generalize w.alloc _ = W at hA1 hC1 ⊢
  have HA1 := Lib.hid hA1
  have HC1 := Lib.hid hC1
  clear hA hA1 hC1 hg
  have ca0 := HA1.out.aud.cell 0
  have ca3 := HA1.out.aud.cell 3
  have cc1 := HC1.out.cell 1
  have cc10 := HC1.out.cell 10
  have cc11 := HC1.out.cell 11
  have cc14 := HC1.out.cell 14
  have hlk := HA1.out.look hn (v := (s.find bx).elim (.pointer none) (fun t => .pointer (some ⟨blk t.id, 0, none⟩))) rfl
  rw [HF.out] at hlk
  simp only [Option.elim] at hlk
  go_quiet (fail)
  clear hlk
  clear ca0 ca3 cc1 cc10 cc11 cc14
  generalize hgen : W.drewN _ = W2
  have hA1 : AWb F w0 a b1 b2 b3 N blk s W2 := by rw [← hgen]; exact HA1.out.next (below_drewN (Below.refl _ _) _)
  have hC1 : Blk W2 g 55 (scells ⟨ek, en, e2, es, e4, e5, em, e7, e8, e9⟩ ⟨2, bx, r2, r3⟩ (.slice ad n cap)) := by rw [← hgen]; exact HC1.out.drewN _
  clear hgen HA1 HC1
  have HA1 := Lib.hid hA1
  have HC1 := Lib.hid hC1
  clear hA1 hC1
  have ca0 := HA1.out.aud.cell 0
  have ca3 := HA1.out.aud.cell 3
  have cc1 := HC1.out.cell 1
  have cc10 := HC1.out.cell 10
  have cc11 := HC1.out.cell 11
  have cc14 := HC1.out.cell 14
  have hmt := find_mem HF.out
  have hbt := HA1.out.th t hmt.1
  have ct0 : W2.cell? ⟨blk t.id, 0, none⟩ = some (.int .i64 t.fn) := hbt.cell 0
  have ct2 : W2.cell? ⟨blk t.id, 2, none⟩ = some (.bool t.busy) := hbt.cell 2
  have ct3 : W2.cell? ⟨blk t.id, 3, none⟩ = some (.bool t.boots) := hbt.cell 3
  have cf2 := hbt.frozen 2
  have HMT := Lib.hid hmt
  clear hmt hbt
  have d1 : (t.fn == en) = true := by rw [HQ.out]; simp
  have d1' : (t.fn != en) = false := by simp [bne, d1]
  have d2 : decide (0 < (n : Int)) = true := decide_eq_true (by omega)
  go_wp2
  go_quiet (fail)
  go_wp2
  go_ret
  exact Out.no rfl rfl (HA1.out.below.drewN _)
set_option maxHeartbeats 4000000 in
set_option maxRecDepth 100000 in
theorem call_warm_yes (F : Nat → Prop) (w0 : World) (a b1 b2 b3 N : Nat) (blk : Int → Nat) (s : AS) (ek en e2 es e4 e5 em e7 e8 e9 bx r2 r3 : Int) (ad : Option Addr) (n cap : Nat) (t : Th) (w : World) (hA : AWb F w0 a b1 b2 b3 N blk s w) (hN : N ≤ 100000) (hn : W64 bx) (hl : n ≤ 1000000) (hx0 : 1 ≤ s.next) (hx1 : s.next ≤ 1000000) (hf : s.find bx = some t) (hb : t.busy = false) (hc : t.boots = false) (hq : t.fn = en) (hm : n = 0) : CALLK a ⟨ek, en, e2, es, e4, e5, em, e7, e8, e9⟩ ⟨2, bx, r2, r3⟩ (.slice ad n cap) w (Out F w0 a b1 b2 b3 N (s.call ⟨ek, en, e2, es, e4, e5, em, e7, e8, e9⟩ ⟨2, bx, r2, r3⟩ n)) := by
  have hcm : s.call ⟨ek, en, e2, es, e4, e5, em, e7, e8, e9⟩ ⟨2, bx, r2, r3⟩ n = some (s.upd bx fun t => { t with busy := true }) := by unfold AS.call; simp [hf, hb, hc, hq, hm]
  rw [hcm]
  clear hcm
  have HF := Lib.hid hf
  clear hf
  have HQ := Lib.hid hq
  clear hq
  have HM := Lib.hid hm
  clear hm
  unfold CALLK scells
  simp only
  have hA1 := hA.next ((Below.refl _ _).alloc (Nat.le_refl _) (.cells (scells ⟨ek, en, e2, es, e4, e5, em, e7, e8, e9⟩ ⟨2, bx, r2, r3⟩ (.slice ad n cap)) 55))
  have hC1 := Blk.new w 55 (scells ⟨ek, en, e2, es, e4, e5, em, e7, e8, e9⟩ ⟨2, bx, r2, r3⟩ (.slice ad n cap))
  obtain ⟨g, hg⟩ : ∃ g, g = w.heap.size := ⟨_, rfl⟩
  rw [← hg] at hC1
  go_enter Try.func48, Try.ntmps48
  go_wp2_with fail
  rw [← hg]
  generalize w.alloc _ = W at hA1 hC1 ⊢
  have HA1 := Lib.hid hA1
  have HC1 := Lib.hid hC1
  clear hA hA1 hC1 hg
  have ca0 := HA1.out.aud.cell 0
  have ca3 := HA1.out.aud.cell 3
  have cc1 := HC1.out.cell 1
  have cc10 := HC1.out.cell 10
  have cc11 := HC1.out.cell 11
  have cc14 := HC1.out.cell 14
  have hlk := HA1.out.look hn (v := (s.find bx).elim (.pointer none) (fun t => .pointer (some ⟨blk t.id, 0, none⟩))) rfl
  rw [HF.out] at hlk
  simp only [Option.elim] at hlk
  go_quiet (fail)
  clear hlk
  clear ca0 ca3 cc1 cc10 cc11 cc14
  generalize hgen : W.drewN _ = W2
  have hA1 : AWb F w0 a b1 b2 b3 N blk s W2 := by rw [← hgen]; exact HA1.out.next (below_drewN (Below.refl _ _) _)
  have hC1 : Blk W2 g 55 (scells ⟨ek, en, e2, es, e4, e5, em, e7, e8, e9⟩ ⟨2, bx, r2, r3⟩ (.slice ad n cap)) := by rw [← hgen]; exact HC1.out.drewN _
  clear hgen HA1 HC1
  have HA1 := Lib.hid hA1
  have HC1 := Lib.hid hC1
  clear hA1 hC1
  have ca0 := HA1.out.aud.cell 0
  have ca3 := HA1.out.aud.cell 3
  have cc1 := HC1.out.cell 1
  have cc10 := HC1.out.cell 10
  have cc11 := HC1.out.cell 11
  have cc14 := HC1.out.cell 14
  have hmt := find_mem HF.out
  have hbt := HA1.out.th t hmt.1
  have ct0 : W2.cell? ⟨blk t.id, 0, none⟩ = some (.int .i64 t.fn) := hbt.cell 0
  have ct2 : W2.cell? ⟨blk t.id, 2, none⟩ = some (.bool t.busy) := hbt.cell 2
  have ct3 : W2.cell? ⟨blk t.id, 3, none⟩ = some (.bool t.boots) := hbt.cell 3
  have cf2 := hbt.frozen 2
  have HMT := Lib.hid hmt
  clear hmt hbt
  have d1 : (t.fn == en) = true := by rw [HQ.out]; simp
  have d1' : (t.fn != en) = false := by simp [bne, d1]
  have d2 : decide (0 < (n : Int)) = false := decide_eq_false (by have := HM.out; omega)
  have d3 : decide (0 < n) = false := decide_eq_false (by have := HM.out; omega)
  have d4 : ¬ 0 < n := by have := HM.out; omega
  go_wp2
  go_quiet (fail)
  clear ct0 ct2 ct3 cf2
  clear ca0 ca3 cc1 cc10 cc11 cc14
  generalize hgen : W2.drewN _ = W3
  have hA1 : AWb F w0 a b1 b2 b3 N blk s W3 := by rw [← hgen]; exact HA1.out.next (below_drewN (Below.refl _ _) _)
  have hC1 : Blk W3 g 55 (scells ⟨ek, en, e2, es, e4, e5, em, e7, e8, e9⟩ ⟨2, bx, r2, r3⟩ (.slice ad n cap)) := by rw [← hgen]; exact HC1.out.drewN _
  clear hgen HA1 HC1
  have HA1 := Lib.hid hA1
  have HC1 := Lib.hid hC1
  clear hA1 hC1
  have hbt := HA1.out.th t HMT.out.1
  have ct2 : W3.cell? ⟨blk t.id, 2, none⟩ = some (.bool t.busy) := hbt.cell 2
  have cf2 := hbt.frozen 2
  have hT : AWb F w0 a b1 b2 b3 N blk (s.upd bx fun t => { t with busy := true }) (W3.setCell ⟨blk t.id, 2, none⟩ (.bool true)) := by
    rw [show (s.upd bx fun t => { t with busy := true }) = s.upd t.id fun t => { t with busy := true } by rw [HMT.out.2]]
    exact HA1.out.turn HMT.out.1 (fun t => { t with busy := true }) ⟨rfl, rfl, rfl⟩ 2 (.bool true) rfl
  have HT := Lib.hid hT
  clear hT hbt
  go_wp2
  go_ret
  exact Out.yes rfl rfl HT.out
set_option maxHeartbeats 4000000 in
set_option maxRecDepth 100000 in
theorem call_cold_none (F : Nat → Prop) (w0 : World) (a b1 b2 b3 N : Nat) (blk : Int → Nat) (s : AS) (ek en e2 es e4 e5 em e7 e8 e9 bx r2 r3 : Int) (ad : Option Addr) (n cap : Nat) (w : World) (hA : AWb F w0 a b1 b2 b3 N blk s w) (hN : N ≤ 100000) (hn : W64 bx) (hl : n ≤ 1000000) (hx0 : 1 ≤ s.next) (hx1 : s.next ≤ 1000000) (hf : s.find bx = none) : CALLK a ⟨ek, en, e2, es, e4, e5, em, e7, e8, e9⟩ ⟨3, bx, r2, r3⟩ (.slice ad n cap) w (Out F w0 a b1 b2 b3 N (s.call ⟨ek, en, e2, es, e4, e5, em, e7, e8, e9⟩ ⟨3, bx, r2, r3⟩ n)) := by
  have hcm : s.call ⟨ek, en, e2, es, e4, e5, em, e7, e8, e9⟩ ⟨3, bx, r2, r3⟩ n = none := by unfold AS.call; simp [hf]
  rw [hcm]
  clear hcm
  have HF := Lib.hid hf
  clear hf
  unfold CALLK scells
  simp only
  have hA1 := hA.next ((Below.refl _ _).alloc (Nat.le_refl _) (.cells (scells ⟨ek, en, e2, es, e4, e5, em, e7, e8, e9⟩ ⟨3, bx, r2, r3⟩ (.slice ad n cap)) 55))
  have hC1 := Blk.new w 55 (scells ⟨ek, en, e2, es, e4, e5, em, e7, e8, e9⟩ ⟨3, bx, r2, r3⟩ (.slice ad n cap))
  obtain ⟨g, hg⟩ : ∃ g, g = w.heap.size := ⟨_, rfl⟩
  rw [← hg] at hC1
  go_enter Try.func48, Try.ntmps48
  go_wp2_with fail
  rw [← hg]
  generalize w.alloc _ = W at hA1 hC1 ⊢
  have HA1 := Lib.hid hA1
  have HC1 := Lib.hid hC1
  clear hA hA1 hC1 hg
  have ca0 := HA1.out.aud.cell 0
  have ca3 := HA1.out.aud.cell 3
  have cc1 := HC1.out.cell 1
  have cc10 := HC1.out.cell 10
  have cc11 := HC1.out.cell 11
  have cc14 := HC1.out.cell 14
  have hlk := HA1.out.look hn (v := (s.find bx).elim (.pointer none) (fun t => .pointer (some ⟨blk t.id, 0, none⟩))) rfl
  rw [HF.out] at hlk
  simp only [Option.elim] at hlk
  go_quiet (fail)
  clear hlk
  clear ca0 ca3 cc1 cc10 cc11 cc14
  generalize hgen : W.drewN _ = W2
  have hA1 : AWb F w0 a b1 b2 b3 N blk s W2 := by rw [← hgen]; exact HA1.out.next (below_drewN (Below.refl _ _) _)
  have hC1 : Blk W2 g 55 (scells ⟨ek, en, e2, es, e4, e5, em, e7, e8, e9⟩ ⟨3, bx, r2, r3⟩ (.slice ad n cap)) := by rw [← hgen]; exact HC1.out.drewN _
  clear hgen HA1 HC1
  have HA1 := Lib.hid hA1
  have HC1 := Lib.hid hC1
  clear hA1 hC1
  have ca0 := HA1.out.aud.cell 0
  have ca3 := HA1.out.aud.cell 3
  have cc1 := HC1.out.cell 1
  have cc10 := HC1.out.cell 10
  have cc11 := HC1.out.cell 11
  have cc14 := HC1.out.cell 14
  go_wp2
  go_quiet (fail)
  go_wp2
  go_ret
  exact Out.no rfl rfl (HA1.out.below.drewN _)
set_option maxHeartbeats 4000000 in
set_option maxRecDepth 100000 in
theorem call_cold_boots (F : Nat → Prop) (w0 : World) (a b1 b2 b3 N : Nat) (blk : Int → Nat) (s : AS) (ek en e2 es e4 e5 em e7 e8 e9 bx r2 r3 : Int) (ad : Option Addr) (n cap : Nat) (t : Th) (w : World) (hA : AWb F w0 a b1 b2 b3 N blk s w) (hN : N ≤ 100000) (hn : W64 bx) (hl : n ≤ 1000000) (hx0 : 1 ≤ s.next) (hx1 : s.next ≤ 1000000) (hf : s.find bx = some t) (hb : t.boots = false) : CALLK a ⟨ek, en, e2, es, e4, e5, em, e7, e8, e9⟩ ⟨3, bx, r2, r3⟩ (.slice ad n cap) w (Out F w0 a b1 b2 b3 N (s.call ⟨ek, en, e2, es, e4, e5, em, e7, e8, e9⟩ ⟨3, bx, r2, r3⟩ n)) := by
  have hcm : s.call ⟨ek, en, e2, es, e4, e5, em, e7, e8, e9⟩ ⟨3, bx, r2, r3⟩ n = none := by unfold AS.call; simp [hf, hb]
  rw [hcm]
  clear hcm
  have HF := Lib.hid hf
  clear hf
  unfold CALLK scells
  simp only
  have hA1 := hA.next ((Below.refl _ _).alloc (Nat.le_refl _) (.cells (scells ⟨ek, en, e2, es, e4, e5, em, e7, e8, e9⟩ ⟨3, bx, r2, r3⟩ (.slice ad n cap)) 55))
  have hC1 := Blk.new w 55 (scells ⟨ek, en, e2, es, e4, e5, em, e7, e8, e9⟩ ⟨3, bx, r2, r3⟩ (.slice ad n cap))
  obtain ⟨g, hg⟩ : ∃ g, g = w.heap.size := ⟨_, rfl⟩
  rw [← hg] at hC1
  go_enter Try.func48, Try.ntmps48
  go_wp2_with fail
  rw [← hg]
  generalize w.alloc _ = W at hA1 hC1 ⊢
  have HA1 := Lib.hid hA1
  have HC1 := Lib.hid hC1
  clear hA hA1 hC1 hg
  have ca0 := HA1.out.aud.cell 0
  have ca3 := HA1.out.aud.cell 3
  have cc1 := HC1.out.cell 1
  have cc10 := HC1.out.cell 10
  have cc11 := HC1.out.cell 11
  have cc14 := HC1.out.cell 14
  have hlk := HA1.out.look hn (v := (s.find bx).elim (.pointer none) (fun t => .pointer (some ⟨blk t.id, 0, none⟩))) rfl
  rw [HF.out] at hlk
  simp only [Option.elim] at hlk
  go_quiet (fail)
  clear hlk
  clear ca0 ca3 cc1 cc10 cc11 cc14
  generalize hgen : W.drewN _ = W2
  have hA1 : AWb F w0 a b1 b2 b3 N blk s W2 := by rw [← hgen]; exact HA1.out.next (below_drewN (Below.refl _ _) _)
  have hC1 : Blk W2 g 55 (scells ⟨ek, en, e2, es, e4, e5, em, e7, e8, e9⟩ ⟨3, bx, r2, r3⟩ (.slice ad n cap)) := by rw [← hgen]; exact HC1.out.drewN _
  clear hgen HA1 HC1
  have HA1 := Lib.hid hA1
  have HC1 := Lib.hid hC1
  clear hA1 hC1
  have ca0 := HA1.out.aud.cell 0
  have ca3 := HA1.out.aud.cell 3
  have cc1 := HC1.out.cell 1
  have cc10 := HC1.out.cell 10
  have cc11 := HC1.out.cell 11
  have cc14 := HC1.out.cell 14
  have hmt := find_mem HF.out
  have hbt := HA1.out.th t hmt.1
  have ct0 : W2.cell? ⟨blk t.id, 0, none⟩ = some (.int .i64 t.fn) := hbt.cell 0
  have ct2 : W2.cell? ⟨blk t.id, 2, none⟩ = some (.bool t.busy) := hbt.cell 2
  have ct3 : W2.cell? ⟨blk t.id, 3, none⟩ = some (.bool t.boots) := hbt.cell 3
  have cf2 := hbt.frozen 2
  have HMT := Lib.hid hmt
  clear hmt hbt
  go_wp2
  go_quiet (fail)
  go_wp2
  go_ret
  exact Out.no rfl rfl (HA1.out.below.drewN _)
set_option maxHeartbeats 4000000 in
set_option maxRecDepth 100000 in
theorem call_cold_busy (F : Nat → Prop) (w0 : World) (a b1 b2 b3 N : Nat) (blk : Int → Nat) (s : AS) (ek en e2 es e4 e5 em e7 e8 e9 bx r2 r3 : Int) (ad : Option Addr) (n cap : Nat) (t : Th) (w : World) (hA : AWb F w0 a b1 b2 b3 N blk s w) (hN : N ≤ 100000) (hn : W64 bx) (hl : n ≤ 1000000) (hx0 : 1 ≤ s.next) (hx1 : s.next ≤ 1000000) (hf : s.find bx = some t) (hb : t.boots = true) (hc : t.busy = true) : CALLK a ⟨ek, en, e2, es, e4, e5, em, e7, e8, e9⟩ ⟨3, bx, r2, r3⟩ (.slice ad n cap) w (Out F w0 a b1 b2 b3 N (s.call ⟨ek, en, e2, es, e4, e5, em, e7, e8, e9⟩ ⟨3, bx, r2, r3⟩ n)) := by
  have hcm : s.call ⟨ek, en, e2, es, e4, e5, em, e7, e8, e9⟩ ⟨3, bx, r2, r3⟩ n = none := by unfold AS.call; simp [hf, hb, hc]
  rw [hcm]
  clear hcm
  have HF := Lib.hid hf
  clear hf
  unfold CALLK scells
  simp only
  have hA1 := hA.next ((Below.refl _ _).alloc (Nat.le_refl _) (.cells (scells ⟨ek, en, e2, es, e4, e5, em, e7, e8, e9⟩ ⟨3, bx, r2, r3⟩ (.slice ad n cap)) 55))
  have hC1 := Blk.new w 55 (scells ⟨ek, en, e2, es, e4, e5, em, e7, e8, e9⟩ ⟨3, bx, r2, r3⟩ (.slice ad n cap))
  obtain ⟨g, hg⟩ : ∃ g, g = w.heap.size := ⟨_, rfl⟩
  rw [← hg] at hC1
  go_enter Try.func48, Try.ntmps48
  go_wp2_with fail
  rw [← hg]
  generalize w.alloc _ = W at hA1 hC1 ⊢
  have HA1 := Lib.hid hA1
  have HC1 := Lib.hid hC1
  clear hA hA1 hC1 hg
  have ca0 := HA1.out.aud.cell 0
  have ca3 := HA1.out.aud.cell 3
  have cc1 := HC1.out.cell 1
  have cc10 := HC1.out.cell 10
  have cc11 := HC1.out.cell 11
  have cc14 := HC1.out.cell 14
  have hlk := HA1.out.look hn (v := (s.find bx).elim (.pointer none) (fun t => .pointer (some ⟨blk t.id, 0, none⟩))) rfl
  rw [HF.out] at hlk
  simp only [Option.elim] at hlk
  go_quiet (fail)
  clear hlk
  clear ca0 ca3 cc1 cc10 cc11 cc14
  generalize hgen : W.drewN _ = W2
  have hA1 : AWb F w0 a b1 b2 b3 N blk s W2 := by rw [← hgen]; exact HA1.out.next (below_drewN (Below.refl _ _) _)
  have hC1 : Blk W2 g 55 (scells ⟨ek, en, e2, es, e4, e5, em, e7, e8, e9⟩ ⟨3, bx, r2, r3⟩ (.slice ad n cap)) := by rw [← hgen]; exact HC1.out.drewN _
  clear hgen HA1 HC1
  have HA1 := Lib.hid hA1
  have HC1 := Lib.hid hC1
  clear hA1 hC1
  have ca0 := HA1.out.aud.cell 0
  have ca3 := HA1.out.aud.cell 3
  have cc1 := HC1.out.cell 1
  have cc10 := HC1.out.cell 10
  have cc11 := HC1.out.cell 11
  have cc14 := HC1.out.cell 14
  have hmt := find_mem HF.out
  have hbt := HA1.out.th t hmt.1
  have ct0 : W2.cell? ⟨blk t.id, 0, none⟩ = some (.int .i64 t.fn) := hbt.cell 0
  have ct2 : W2.cell? ⟨blk t.id, 2, none⟩ = some (.bool t.busy) := hbt.cell 2
  have ct3 : W2.cell? ⟨blk t.id, 3, none⟩ = some (.bool t.boots) := hbt.cell 3
  have cf2 := hbt.frozen 2
  have HMT := Lib.hid hmt
  clear hmt hbt
  go_wp2
  go_quiet (fail)
  go_wp2
  go_ret
  exact Out.no rfl rfl (HA1.out.below.drewN _)
set_option maxHeartbeats 4000000 in
set_option maxRecDepth 100000 in
theorem call_cold_fn (F : Nat → Prop) (w0 : World) (a b1 b2 b3 N : Nat) (blk : Int → Nat) (s : AS) (ek en e2 es e4 e5 em e7 e8 e9 bx r2 r3 : Int) (ad : Option Addr) (n cap : Nat) (t : Th) (w : World) (hA : AWb F w0 a b1 b2 b3 N blk s w) (hN : N ≤ 100000) (hn : W64 bx) (hl : n ≤ 1000000) (hx0 : 1 ≤ s.next) (hx1 : s.next ≤ 1000000) (hf : s.find bx = some t) (hb : t.boots = true) (hc : t.busy = false) (hq : t.fn ≠ en) : CALLK a ⟨ek, en, e2, es, e4, e5, em, e7, e8, e9⟩ ⟨3, bx, r2, r3⟩ (.slice ad n cap) w (Out F w0 a b1 b2 b3 N (s.call ⟨ek, en, e2, es, e4, e5, em, e7, e8, e9⟩ ⟨3, bx, r2, r3⟩ n)) := by
  have hcm : s.call ⟨ek, en, e2, es, e4, e5, em, e7, e8, e9⟩ ⟨3, bx, r2, r3⟩ n = none := by unfold AS.call; simp [hf, hb, hc, hq]
  rw [hcm]
  clear hcm
  have HF := Lib.hid hf
  clear hf
  unfold CALLK scells
  simp only
  have hA1 := hA.next ((Below.refl _ _).alloc (Nat.le_refl _) (.cells (scells ⟨ek, en, e2, es, e4, e5, em, e7, e8, e9⟩ ⟨3, bx, r2, r3⟩ (.slice ad n cap)) 55))
  have hC1 := Blk.new w 55 (scells ⟨ek, en, e2, es, e4, e5, em, e7, e8, e9⟩ ⟨3, bx, r2, r3⟩ (.slice ad n cap))
  obtain ⟨g, hg⟩ : ∃ g, g = w.heap.size := ⟨_, rfl⟩
  rw [← hg] at hC1
  go_enter Try.func48, Try.ntmps48
  go_wp2_with fail
  rw [← hg]
  generalize w.alloc _ = W at hA1 hC1 ⊢
  have HA1 := Lib.hid hA1
  have HC1 := Lib.hid hC1
  clear hA hA1 hC1 hg
  have ca0 := HA1.out.aud.cell 0
  have ca3 := HA1.out.aud.cell 3
  have cc1 := HC1.out.cell 1
  have cc10 := HC1.out.cell 10
  have cc11 := HC1.out.cell 11
  have cc14 := HC1.out.cell 14
  have hlk := HA1.out.look hn (v := (s.find bx).elim (.pointer none) (fun t => .pointer (some ⟨blk t.id, 0, none⟩))) rfl
  rw [HF.out] at hlk
  simp only [Option.elim] at hlk
  go_quiet (fail)
  clear hlk
  clear ca0 ca3 cc1 cc10 cc11 cc14
  generalize hgen : W.drewN _ = W2
  have hA1 : AWb F w0 a b1 b2 b3 N blk s W2 := by rw [← hgen]; exact HA1.out.next (below_drewN (Below.refl _ _) _)
  have hC1 : Blk W2 g 55 (scells ⟨ek, en, e2, es, e4, e5, em, e7, e8, e9⟩ ⟨3, bx, r2, r3⟩ (.slice ad n cap)) := by rw [← hgen]; exact HC1.out.drewN _
  clear hgen HA1 HC1
  have HA1 := Lib.hid hA1
  have HC1 := Lib.hid hC1
  clear hA1 hC1
  have ca0 := HA1.out.aud.cell 0
  have ca3 := HA1.out.aud.cell 3
  have cc1 := HC1.out.cell 1
  have cc10 := HC1.out.cell 10
  have cc11 := HC1.out.cell 11
  have cc14 := HC1.out.cell 14
  have hmt := find_mem HF.out
  have hbt := HA1.out.th t hmt.1
  have ct0 : W2.cell? ⟨blk t.id, 0, none⟩ = some (.int .i64 t.fn) := hbt.cell 0
  have ct2 : W2.cell? ⟨blk t.id, 2, none⟩ = some (.bool t.busy) := hbt.cell 2
  have ct3 : W2.cell? ⟨blk t.id, 3, none⟩ = some (.bool t.boots) := hbt.cell 3
  have cf2 := hbt.frozen 2
  have HMT := Lib.hid hmt
  clear hmt hbt
  have d1 : (t.fn == en) = false := beq_eq_false_iff_ne.2 hq
  have d1' : (t.fn != en) = true := by simp [bne, d1]
  clear hq
  go_wp2
  go_quiet (fail)
  go_wp2
  go_ret
  exact Out.no rfl rfl (HA1.out.below.drewN _)
set_option maxHeartbeats 4000000 in
set_option maxRecDepth 100000 in
theorem call_cold_last (F : Nat → Prop) (w0 : World) (a b1 b2 b3 N : Nat) (blk : Int → Nat) (s : AS) (ek en e2 es e4 e5 em e7 e8 e9 bx r2 r3 : Int) (ad : Option Addr) (n cap : Nat) (t : Th) (w : World) (hA : AWb F w0 a b1 b2 b3 N blk s w) (hN : N ≤ 100000) (hn : W64 bx) (hl : n ≤ 1000000) (hx0 : 1 ≤ s.next) (hx1 : s.next ≤ 1000000) (hf : s.find bx = some t) (hb : t.boots = true) (hc : t.busy = false) (hq : t.fn = en) (hm : bx ≠ s.next - 1) : CALLK a ⟨ek, en, e2, es, e4, e5, em, e7, e8, e9⟩ ⟨3, bx, r2, r3⟩ (.slice ad n cap) w (Out F w0 a b1 b2 b3 N (s.call ⟨ek, en, e2, es, e4, e5, em, e7, e8, e9⟩ ⟨3, bx, r2, r3⟩ n)) := by
  have hcm : s.call ⟨ek, en, e2, es, e4, e5, em, e7, e8, e9⟩ ⟨3, bx, r2, r3⟩ n = none := by unfold AS.call; simp [hf, hb, hc, hq, hm]
  rw [hcm]
  clear hcm
  have HF := Lib.hid hf
  clear hf
  have HQ := Lib.hid hq
  clear hq
  unfold CALLK scells
  simp only
  have hA1 := hA.next ((Below.refl _ _).alloc (Nat.le_refl _) (.cells (scells ⟨ek, en, e2, es, e4, e5, em, e7, e8, e9⟩ ⟨3, bx, r2, r3⟩ (.slice ad n cap)) 55))
  have hC1 := Blk.new w 55 (scells ⟨ek, en, e2, es, e4, e5, em, e7, e8, e9⟩ ⟨3, bx, r2, r3⟩ (.slice ad n cap))
  obtain ⟨g, hg⟩ : ∃ g, g = w.heap.size := ⟨_, rfl⟩
  rw [← hg] at hC1
  go_enter Try.func48, Try.ntmps48
  go_wp2_with fail
  rw [← hg]
  generalize w.alloc _ = W at hA1 hC1 ⊢
  have HA1 := Lib.hid hA1
  have HC1 := Lib.hid hC1
  clear hA hA1 hC1 hg
  have ca0 := HA1.out.aud.cell 0
  have ca3 := HA1.out.aud.cell 3
  have cc1 := HC1.out.cell 1
  have cc10 := HC1.out.cell 10
  have cc11 := HC1.out.cell 11
  have cc14 := HC1.out.cell 14
  have hlk := HA1.out.look hn (v := (s.find bx).elim (.pointer none) (fun t => .pointer (some ⟨blk t.id, 0, none⟩))) rfl
  rw [HF.out] at hlk
  simp only [Option.elim] at hlk
  go_quiet (fail)
  clear hlk
  clear ca0 ca3 cc1 cc10 cc11 cc14
  generalize hgen : W.drewN _ = W2
  have hA1 : AWb F w0 a b1 b2 b3 N blk s W2 := by rw [← hgen]; exact HA1.out.next (below_drewN (Below.refl _ _) _)
  have hC1 : Blk W2 g 55 (scells ⟨ek, en, e2, es, e4, e5, em, e7, e8, e9⟩ ⟨3, bx, r2, r3⟩ (.slice ad n cap)) := by rw [← hgen]; exact HC1.out.drewN _
  clear hgen HA1 HC1
  have HA1 := Lib.hid hA1
  have HC1 := Lib.hid hC1
  clear hA1 hC1
  have ca0 := HA1.out.aud.cell 0
  have ca3 := HA1.out.aud.cell 3
  have cc1 := HC1.out.cell 1
  have cc10 := HC1.out.cell 10
  have cc11 := HC1.out.cell 11
  have cc14 := HC1.out.cell 14
  have hmt := find_mem HF.out
  have hbt := HA1.out.th t hmt.1
  have ct0 : W2.cell? ⟨blk t.id, 0, none⟩ = some (.int .i64 t.fn) := hbt.cell 0
  have ct2 : W2.cell? ⟨blk t.id, 2, none⟩ = some (.bool t.busy) := hbt.cell 2
  have ct3 : W2.cell? ⟨blk t.id, 3, none⟩ = some (.bool t.boots) := hbt.cell 3
  have cf2 := hbt.frozen 2
  have HMT := Lib.hid hmt
  clear hmt hbt
  have d1 : (t.fn == en) = true := by rw [HQ.out]; simp
  have d1' : (t.fn != en) = false := by simp [bne, d1]
  have hw1 : IntKind.i64.wrap (s.next - 1) = s.next - 1 := IntWalk.i64_in _ (by omega)
  have hw2 : wrap64 (s.next - 1) = s.next - 1 := IntWalk.wrap64_in _ (by omega)
  have d2 : (bx == s.next - 1) = false := beq_eq_false_iff_ne.2 hm
  have d2' : (bx != s.next - 1) = true := by simp [bne, d2]
  clear hm
  go_wp2
  go_quiet (fail)
  go_wp2
  go_ret
  exact Out.no rfl rfl (HA1.out.below.drewN _)
set_option maxHeartbeats 4000000 in
set_option maxRecDepth 100000 in
theorem call_cold_yes (F : Nat → Prop) (w0 : World) (a b1 b2 b3 N : Nat) (blk : Int → Nat) (s : AS) (ek en e2 es e4 e5 em e7 e8 e9 bx r2 r3 : Int) (ad : Option Addr) (n cap : Nat) (t : Th) (w : World) (hA : AWb F w0 a b1 b2 b3 N blk s w) (hN : N ≤ 100000) (hn : W64 bx) (hl : n ≤ 1000000) (hx0 : 1 ≤ s.next) (hx1 : s.next ≤ 1000000) (hf : s.find bx = some t) (hb : t.boots = true) (hc : t.busy = false) (hq : t.fn = en) (hm : bx = s.next - 1) : CALLK a ⟨ek, en, e2, es, e4, e5, em, e7, e8, e9⟩ ⟨3, bx, r2, r3⟩ (.slice ad n cap) w (Out F w0 a b1 b2 b3 N (s.call ⟨ek, en, e2, es, e4, e5, em, e7, e8, e9⟩ ⟨3, bx, r2, r3⟩ n)) := by
  have hcm : s.call ⟨ek, en, e2, es, e4, e5, em, e7, e8, e9⟩ ⟨3, bx, r2, r3⟩ n = some (s.upd bx fun t => { t with busy := true }) := by unfold AS.call; simp [hf, hb, hc, hq, ← hm]
  rw [hcm]
  clear hcm
  have HF := Lib.hid hf
  clear hf
  have HQ := Lib.hid hq
  clear hq
  have HM := Lib.hid hm
  clear hm
  unfold CALLK scells
  simp only
  have hA1 := hA.next ((Below.refl _ _).alloc (Nat.le_refl _) (.cells (scells ⟨ek, en, e2, es, e4, e5, em, e7, e8, e9⟩ ⟨3, bx, r2, r3⟩ (.slice ad n cap)) 55))
  have hC1 := Blk.new w 55 (scells ⟨ek, en, e2, es, e4, e5, em, e7, e8, e9⟩ ⟨3, bx, r2, r3⟩ (.slice ad n cap))
  obtain ⟨g, hg⟩ : ∃ g, g = w.heap.size := ⟨_, rfl⟩
  rw [← hg] at hC1
  go_enter Try.func48, Try.ntmps48
  go_wp2_with fail
  rw [← hg]
  generalize w.alloc _ = W at hA1 hC1 ⊢
  have HA1 := Lib.hid hA1
  have HC1 := Lib.hid hC1
  clear hA hA1 hC1 hg
  have ca0 := HA1.out.aud.cell 0
  have ca3 := HA1.out.aud.cell 3
  have cc1 := HC1.out.cell 1
  have cc10 := HC1.out.cell 10
  have cc11 := HC1.out.cell 11
  have cc14 := HC1.out.cell 14
  have hlk := HA1.out.look hn (v := (s.find bx).elim (.pointer none) (fun t => .pointer (some ⟨blk t.id, 0, none⟩))) rfl
  rw [HF.out] at hlk
  simp only [Option.elim] at hlk
  go_quiet (fail)
  clear hlk
  clear ca0 ca3 cc1 cc10 cc11 cc14
  generalize hgen : W.drewN _ = W2
  have hA1 : AWb F w0 a b1 b2 b3 N blk s W2 := by rw [← hgen]; exact HA1.out.next (below_drewN (Below.refl _ _) _)
  have hC1 : Blk W2 g 55 (scells ⟨ek, en, e2, es, e4, e5, em, e7, e8, e9⟩ ⟨3, bx, r2, r3⟩ (.slice ad n cap)) := by rw [← hgen]; exact HC1.out.drewN _
  clear hgen HA1 HC1
  have HA1 := Lib.hid hA1
  have HC1 := Lib.hid hC1
  clear hA1 hC1
  have ca0 := HA1.out.aud.cell 0
  have ca3 := HA1.out.aud.cell 3
  have cc1 := HC1.out.cell 1
  have cc10 := HC1.out.cell 10
  have cc11 := HC1.out.cell 11
  have cc14 := HC1.out.cell 14
  have hmt := find_mem HF.out
  have hbt := HA1.out.th t hmt.1
  have ct0 : W2.cell? ⟨blk t.id, 0, none⟩ = some (.int .i64 t.fn) := hbt.cell 0
  have ct2 : W2.cell? ⟨blk t.id, 2, none⟩ = some (.bool t.busy) := hbt.cell 2
  have ct3 : W2.cell? ⟨blk t.id, 3, none⟩ = some (.bool t.boots) := hbt.cell 3
  have cf2 := hbt.frozen 2
  have HMT := Lib.hid hmt
  clear hmt hbt
  have d1 : (t.fn == en) = true := by rw [HQ.out]; simp
  have d1' : (t.fn != en) = false := by simp [bne, d1]
  have hw1 : IntKind.i64.wrap (s.next - 1) = s.next - 1 := IntWalk.i64_in _ (by omega)
  have hw2 : wrap64 (s.next - 1) = s.next - 1 := IntWalk.wrap64_in _ (by omega)
  have d2 : (bx == s.next - 1) = true := by rw [← HM.out]; simp
  have d2' : (bx != s.next - 1) = false := by simp [bne, d2]
  go_wp2
  go_quiet (fail)
  clear ct0 ct2 ct3 cf2
  clear ca0 ca3 cc1 cc10 cc11 cc14
  generalize hgen : W2.drewN _ = W3
  have hA1 : AWb F w0 a b1 b2 b3 N blk s W3 := by rw [← hgen]; exact HA1.out.next (below_drewN (Below.refl _ _) _)
  have hC1 : Blk W3 g 55 (scells ⟨ek, en, e2, es, e4, e5, em, e7, e8, e9⟩ ⟨3, bx, r2, r3⟩ (.slice ad n cap)) := by rw [← hgen]; exact HC1.out.drewN _
  clear hgen HA1 HC1
  have HA1 := Lib.hid hA1
  have HC1 := Lib.hid hC1
  clear hA1 hC1
  have hbt := HA1.out.th t HMT.out.1
  have ct2 : W3.cell? ⟨blk t.id, 2, none⟩ = some (.bool t.busy) := hbt.cell 2
  have cf2 := hbt.frozen 2
  have hT : AWb F w0 a b1 b2 b3 N blk (s.upd bx fun t => { t with busy := true }) (W3.setCell ⟨blk t.id, 2, none⟩ (.bool true)) := by
    rw [show (s.upd bx fun t => { t with busy := true }) = s.upd t.id fun t => { t with busy := true } by rw [HMT.out.2]]
    exact HA1.out.turn HMT.out.1 (fun t => { t with busy := true }) ⟨rfl, rfl, rfl⟩ 2 (.bool true) rfl
  have HT := Lib.hid hT
  clear hT hbt
  go_wp2
  go_ret
  exact Out.yes rfl rfl HT.out
set_option maxHeartbeats 4000000 in
set_option maxRecDepth 100000 in
theorem call_else_taken (F : Nat → Prop) (w0 : World) (a b1 b2 b3 N : Nat) (blk : Int → Nat) (s : AS) (KK ek en e2 es e4 e5 em e7 e8 e9 bx r2 r3 : Int) (ad : Option Addr) (n cap : Nat) (w : World) (hA : AWb F w0 a b1 b2 b3 N blk s w) (hN : N ≤ 100000) (hn : W64 bx) (hl : n ≤ 1000000) (hx0 : 1 ≤ s.next) (hx1 : s.next ≤ 1000000) (hk2 : ¬ KK = 2) (hk3 : ¬ KK = 3) (h0 : KK = 0) : CALLK a ⟨ek, en, e2, es, e4, e5, em, e7, e8, e9⟩ ⟨KK, bx, r2, r3⟩ (.slice ad n cap) w (Out F w0 a b1 b2 b3 N (s.call ⟨ek, en, e2, es, e4, e5, em, e7, e8, e9⟩ ⟨KK, bx, r2, r3⟩ n)) := by
  have hcm : s.call ⟨ek, en, e2, es, e4, e5, em, e7, e8, e9⟩ ⟨KK, bx, r2, r3⟩ n = none := by unfold AS.call; rw [if_neg hk2, if_neg hk3]; simp [h0]
  rw [hcm]
  clear hcm
  have H0 := Lib.hid h0
  clear h0
  unfold CALLK scells
  simp only
  have hA1 := hA.next ((Below.refl _ _).alloc (Nat.le_refl _) (.cells (scells ⟨ek, en, e2, es, e4, e5, em, e7, e8, e9⟩ ⟨KK, bx, r2, r3⟩ (.slice ad n cap)) 55))
  have hC1 := Blk.new w 55 (scells ⟨ek, en, e2, es, e4, e5, em, e7, e8, e9⟩ ⟨KK, bx, r2, r3⟩ (.slice ad n cap))
  obtain ⟨g, hg⟩ : ∃ g, g = w.heap.size := ⟨_, rfl⟩
  rw [← hg] at hC1
  go_enter Try.func48, Try.ntmps48
  go_wp2_with fail
  rw [← hg]
  generalize w.alloc _ = W at hA1 hC1 ⊢
  have HA1 := Lib.hid hA1
  have HC1 := Lib.hid hC1
  clear hA hA1 hC1 hg
  have ca0 := HA1.out.aud.cell 0
  have ca3 := HA1.out.aud.cell 3
  have cc1 := HC1.out.cell 1
  have cc10 := HC1.out.cell 10
  have cc11 := HC1.out.cell 11
  have cc14 := HC1.out.cell 14
  have hlk := HA1.out.look hn (v := (s.find bx).elim (.pointer none) (fun t => .pointer (some ⟨blk t.id, 0, none⟩))) rfl
  obtain ⟨bv, hbv⟩ : ∃ v : Value, v = (s.find bx).elim (.pointer none) (fun t => .pointer (some ⟨blk t.id, 0, none⟩)) := ⟨_, rfl⟩
  rw [← hbv] at hlk
  clear hbv
  go_quiet (fail)
  clear hlk
  clear ca0 ca3 cc1 cc10 cc11 cc14
  generalize hgen : W.drewN _ = W2
  have hA1 : AWb F w0 a b1 b2 b3 N blk s W2 := by rw [← hgen]; exact HA1.out.next (below_drewN (Below.refl _ _) _)
  have hC1 : Blk W2 g 55 (scells ⟨ek, en, e2, es, e4, e5, em, e7, e8, e9⟩ ⟨KK, bx, r2, r3⟩ (.slice ad n cap)) := by rw [← hgen]; exact HC1.out.drewN _
  clear hgen HA1 HC1
  have HA1 := Lib.hid hA1
  have HC1 := Lib.hid hC1
  clear hA1 hC1
  have ca0 := HA1.out.aud.cell 0
  have ca3 := HA1.out.aud.cell 3
  have cc1 := HC1.out.cell 1
  have cc10 := HC1.out.cell 10
  have cc11 := HC1.out.cell 11
  have cc14 := HC1.out.cell 14
  have k2 : (KK == 2) = false := beq_eq_false_iff_ne.2 hk2
  have k3 : (KK == 3) = false := beq_eq_false_iff_ne.2 hk3
  have k0 : (KK == 0) = true := by rw [H0.out]; rfl
  have k0' : (KK != 0) = false := by rw [H0.out]; rfl
  go_wp2
  go_ret
  exact Out.no rfl rfl HA1.out.below
set_option maxHeartbeats 4000000 in
set_option maxRecDepth 100000 in
theorem call_else_many (F : Nat → Prop) (w0 : World) (a b1 b2 b3 N : Nat) (blk : Int → Nat) (s : AS) (KK ek en e2 es e4 e5 em e7 e8 e9 bx r2 r3 : Int) (ad : Option Addr) (n cap : Nat) (w : World) (hA : AWb F w0 a b1 b2 b3 N blk s w) (hN : N ≤ 100000) (hn : W64 bx) (hl : n ≤ 1000000) (hx0 : 1 ≤ s.next) (hx1 : s.next ≤ 1000000) (hk2 : ¬ KK = 2) (hk3 : ¬ KK = 3) (h0 : ¬ KK = 0) (hm : 0 < n) : CALLK a ⟨ek, en, e2, es, e4, e5, em, e7, e8, e9⟩ ⟨KK, bx, r2, r3⟩ (.slice ad n cap) w (Out F w0 a b1 b2 b3 N (s.call ⟨ek, en, e2, es, e4, e5, em, e7, e8, e9⟩ ⟨KK, bx, r2, r3⟩ n)) := by
  have hcm : s.call ⟨ek, en, e2, es, e4, e5, em, e7, e8, e9⟩ ⟨KK, bx, r2, r3⟩ n = none := by unfold AS.call; rw [if_neg hk2, if_neg hk3]; simp [h0]; omega
  rw [hcm]
  clear hcm
  unfold CALLK scells
  simp only
  have hA1 := hA.next ((Below.refl _ _).alloc (Nat.le_refl _) (.cells (scells ⟨ek, en, e2, es, e4, e5, em, e7, e8, e9⟩ ⟨KK, bx, r2, r3⟩ (.slice ad n cap)) 55))
  have hC1 := Blk.new w 55 (scells ⟨ek, en, e2, es, e4, e5, em, e7, e8, e9⟩ ⟨KK, bx, r2, r3⟩ (.slice ad n cap))
  obtain ⟨g, hg⟩ : ∃ g, g = w.heap.size := ⟨_, rfl⟩
  rw [← hg] at hC1
  go_enter Try.func48, Try.ntmps48
  go_wp2_with fail
  rw [← hg]
  generalize w.alloc _ = W at hA1 hC1 ⊢
  have HA1 := Lib.hid hA1
  have HC1 := Lib.hid hC1
  clear hA hA1 hC1 hg
  have ca0 := HA1.out.aud.cell 0
  have ca3 := HA1.out.aud.cell 3
  have cc1 := HC1.out.cell 1
  have cc10 := HC1.out.cell 10
  have cc11 := HC1.out.cell 11
  have cc14 := HC1.out.cell 14
  have hlk := HA1.out.look hn (v := (s.find bx).elim (.pointer none) (fun t => .pointer (some ⟨blk t.id, 0, none⟩))) rfl
  obtain ⟨bv, hbv⟩ : ∃ v : Value, v = (s.find bx).elim (.pointer none) (fun t => .pointer (some ⟨blk t.id, 0, none⟩)) := ⟨_, rfl⟩
  rw [← hbv] at hlk
  clear hbv
  go_quiet (fail)
  clear hlk
  clear ca0 ca3 cc1 cc10 cc11 cc14
  generalize hgen : W.drewN _ = W2
  have hA1 : AWb F w0 a b1 b2 b3 N blk s W2 := by rw [← hgen]; exact HA1.out.next (below_drewN (Below.refl _ _) _)
  have hC1 : Blk W2 g 55 (scells ⟨ek, en, e2, es, e4, e5, em, e7, e8, e9⟩ ⟨KK, bx, r2, r3⟩ (.slice ad n cap)) := by rw [← hgen]; exact HC1.out.drewN _
  clear hgen HA1 HC1
  have HA1 := Lib.hid hA1
  have HC1 := Lib.hid hC1
  clear hA1 hC1
  have ca0 := HA1.out.aud.cell 0
  have ca3 := HA1.out.aud.cell 3
  have cc1 := HC1.out.cell 1
  have cc10 := HC1.out.cell 10
  have cc11 := HC1.out.cell 11
  have cc14 := HC1.out.cell 14
  have k2 : (KK == 2) = false := beq_eq_false_iff_ne.2 hk2
  have k3 : (KK == 3) = false := beq_eq_false_iff_ne.2 hk3
  have k0 : (KK == 0) = false := beq_eq_false_iff_ne.2 h0
  have k0' : (KK != 0) = true := by simp [bne, k0]
  have d2 : ((n : Int) == 0) = false := beq_eq_false_iff_ne.2 (by omega)
  go_wp2
  go_ret
  exact Out.no rfl rfl HA1.out.below
set_option maxHeartbeats 4000000 in
set_option maxRecDepth 100000 in
theorem call_else_yes (F : Nat → Prop) (w0 : World) (a b1 b2 b3 N : Nat) (blk : Int → Nat) (s : AS) (KK ek en e2 es e4 e5 em e7 e8 e9 bx r2 r3 : Int) (ad : Option Addr) (n cap : Nat) (w : World) (hA : AWb F w0 a b1 b2 b3 N blk s w) (hN : N ≤ 100000) (hn : W64 bx) (hl : n ≤ 1000000) (hx0 : 1 ≤ s.next) (hx1 : s.next ≤ 1000000) (hk2 : ¬ KK = 2) (hk3 : ¬ KK = 3) (h0 : ¬ KK = 0) (hm : n = 0) : CALLK a ⟨ek, en, e2, es, e4, e5, em, e7, e8, e9⟩ ⟨KK, bx, r2, r3⟩ (.slice ad n cap) w (Out F w0 a b1 b2 b3 N (s.call ⟨ek, en, e2, es, e4, e5, em, e7, e8, e9⟩ ⟨KK, bx, r2, r3⟩ n)) := by
  have hcm : s.call ⟨ek, en, e2, es, e4, e5, em, e7, e8, e9⟩ ⟨KK, bx, r2, r3⟩ n = some s := by unfold AS.call; rw [if_neg hk2, if_neg hk3]; simp [h0, hm]
  rw [hcm]
  clear hcm
  have HM := Lib.hid hm
  clear hm
  unfold CALLK scells
  simp only
  have hA1 := hA.next ((Below.refl _ _).alloc (Nat.le_refl _) (.cells (scells ⟨ek, en, e2, es, e4, e5, em, e7, e8, e9⟩ ⟨KK, bx, r2, r3⟩ (.slice ad n cap)) 55))
  have hC1 := Blk.new w 55 (scells ⟨ek, en, e2, es, e4, e5, em, e7, e8, e9⟩ ⟨KK, bx, r2, r3⟩ (.slice ad n cap))
  obtain ⟨g, hg⟩ : ∃ g, g = w.heap.size := ⟨_, rfl⟩
  rw [← hg] at hC1
  go_enter Try.func48, Try.ntmps48
  go_wp2_with fail
  rw [← hg]
  generalize w.alloc _ = W at hA1 hC1 ⊢
  have HA1 := Lib.hid hA1
  have HC1 := Lib.hid hC1
  clear hA hA1 hC1 hg
  have ca0 := HA1.out.aud.cell 0
  have ca3 := HA1.out.aud.cell 3
  have cc1 := HC1.out.cell 1
  have cc10 := HC1.out.cell 10
  have cc11 := HC1.out.cell 11
  have cc14 := HC1.out.cell 14
  have hlk := HA1.out.look hn (v := (s.find bx).elim (.pointer none) (fun t => .pointer (some ⟨blk t.id, 0, none⟩))) rfl
  obtain ⟨bv, hbv⟩ : ∃ v : Value, v = (s.find bx).elim (.pointer none) (fun t => .pointer (some ⟨blk t.id, 0, none⟩)) := ⟨_, rfl⟩
  rw [← hbv] at hlk
  clear hbv
  go_quiet (fail)
  clear hlk
  clear ca0 ca3 cc1 cc10 cc11 cc14
  generalize hgen : W.drewN _ = W2
  have hA1 : AWb F w0 a b1 b2 b3 N blk s W2 := by rw [← hgen]; exact HA1.out.next (below_drewN (Below.refl _ _) _)
  have hC1 : Blk W2 g 55 (scells ⟨ek, en, e2, es, e4, e5, em, e7, e8, e9⟩ ⟨KK, bx, r2, r3⟩ (.slice ad n cap)) := by rw [← hgen]; exact HC1.out.drewN _
  clear hgen HA1 HC1
  have HA1 := Lib.hid hA1
  have HC1 := Lib.hid hC1
  clear hA1 hC1
  have ca0 := HA1.out.aud.cell 0
  have ca3 := HA1.out.aud.cell 3
  have cc1 := HC1.out.cell 1
  have cc10 := HC1.out.cell 10
  have cc11 := HC1.out.cell 11
  have cc14 := HC1.out.cell 14
  have k2 : (KK == 2) = false := beq_eq_false_iff_ne.2 hk2
  have k3 : (KK == 3) = false := beq_eq_false_iff_ne.2 hk3
  have k0 : (KK == 0) = false := beq_eq_false_iff_ne.2 h0
  have k0' : (KK != 0) = true := by simp [bne, k0]
  have d2 : ((n : Int) == 0) = true := by rw [HM.out]; rfl
  go_wp2
  go_ret
  exact Out.yes rfl rfl HA1.out

theorem call_all (F : Nat → Prop) (w0 : World) (a b1 b2 b3 N : Nat) (blk : Int → Nat) (s : AS) (e : Ev) (r : Ans) (ad : Option Addr) (n cap : Nat) (w : World) (hA : AWb F w0 a b1 b2 b3 N blk s w) (hN : N ≤ 100000) (hn : W64 r.box) (hl : n ≤ 1000000) (hx0 : 1 ≤ s.next) (hx1 : s.next ≤ 1000000) : CALLK a e r (.slice ad n cap) w (Out F w0 a b1 b2 b3 N (s.call e r n)) := by
  obtain ⟨k, en, e2, es, e4, e5, em, e7, e8, e9⟩ := e
  obtain ⟨r0, bx, r2, r3⟩ := r
  by_cases h2 : r0 = 2
  · subst h2
    cases hf : s.find bx with
    | none => exact call_warm_none F w0 a b1 b2 b3 N blk s k en e2 es e4 e5 em e7 e8 e9 bx r2 r3 ad n cap w hA hN hn hl hx0 hx1 hf
    | some t =>
      cases hb : t.busy with
      | true => exact call_warm_busy F w0 a b1 b2 b3 N blk s k en e2 es e4 e5 em e7 e8 e9 bx r2 r3 ad n cap t w hA hN hn hl hx0 hx1 hf hb
      | false =>
        cases hc : t.boots with
        | true => exact call_warm_boots F w0 a b1 b2 b3 N blk s k en e2 es e4 e5 em e7 e8 e9 bx r2 r3 ad n cap t w hA hN hn hl hx0 hx1 hf hb hc
        | false =>
          by_cases hq : t.fn = en
          · by_cases hm : n = 0
            · exact call_warm_yes F w0 a b1 b2 b3 N blk s k en e2 es e4 e5 em e7 e8 e9 bx r2 r3 ad n cap t w hA hN hn hl hx0 hx1 hf hb hc hq hm
            · exact call_warm_many F w0 a b1 b2 b3 N blk s k en e2 es e4 e5 em e7 e8 e9 bx r2 r3 ad n cap t w hA hN hn hl hx0 hx1 hf hb hc hq (by omega)
          · exact call_warm_fn F w0 a b1 b2 b3 N blk s k en e2 es e4 e5 em e7 e8 e9 bx r2 r3 ad n cap t w hA hN hn hl hx0 hx1 hf hb hc hq
  by_cases h3 : r0 = 3
  · subst h3
    cases hf : s.find bx with
    | none => exact call_cold_none F w0 a b1 b2 b3 N blk s k en e2 es e4 e5 em e7 e8 e9 bx r2 r3 ad n cap w hA hN hn hl hx0 hx1 hf
    | some t =>
      cases hb : t.boots with
      | false => exact call_cold_boots F w0 a b1 b2 b3 N blk s k en e2 es e4 e5 em e7 e8 e9 bx r2 r3 ad n cap t w hA hN hn hl hx0 hx1 hf hb
      | true =>
        cases hc : t.busy with
        | true => exact call_cold_busy F w0 a b1 b2 b3 N blk s k en e2 es e4 e5 em e7 e8 e9 bx r2 r3 ad n cap t w hA hN hn hl hx0 hx1 hf hb hc
        | false =>
          by_cases hq : t.fn = en
          · by_cases hm : bx = s.next - 1
            · exact call_cold_yes F w0 a b1 b2 b3 N blk s k en e2 es e4 e5 em e7 e8 e9 bx r2 r3 ad n cap t w hA hN hn hl hx0 hx1 hf hb hc hq hm
            · exact call_cold_last F w0 a b1 b2 b3 N blk s k en e2 es e4 e5 em e7 e8 e9 bx r2 r3 ad n cap t w hA hN hn hl hx0 hx1 hf hb hc hq hm
          · exact call_cold_fn F w0 a b1 b2 b3 N blk s k en e2 es e4 e5 em e7 e8 e9 bx r2 r3 ad n cap t w hA hN hn hl hx0 hx1 hf hb hc hq
  by_cases h0 : r0 = 0
  · exact call_else_taken F w0 a b1 b2 b3 N blk s r0 k en e2 es e4 e5 em e7 e8 e9 bx r2 r3 ad n cap w hA hN hn hl hx0 hx1 h2 h3 h0
  by_cases hm : n = 0
  · exact call_else_yes F w0 a b1 b2 b3 N blk s r0 k en e2 es e4 e5 em e7 e8 e9 bx r2 r3 ad n cap w hA hN hn hl hx0 hx1 h2 h3 h0 hm
  · exact call_else_many F w0 a b1 b2 b3 N blk s r0 k en e2 es e4 e5 em e7 e8 e9 bx r2 r3 ad n cap w hA hN hn hl hx0 hx1 h2 h3 h0 (by omega)
end Go.Proofs.Ytopbhdpfakjkjaa.Aud
