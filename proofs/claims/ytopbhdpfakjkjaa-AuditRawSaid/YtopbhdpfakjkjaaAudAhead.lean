/- Proved: what the auditor's ahead answers and leaves. -/
import Derived.Test.YtopbhdpfakjkjaaAudBoot
namespace Go.Proofs.Ytopbhdpfakjkjaa.Aud
open Go.RowKit Go.Proofs.Ytopbhdpfakjkjaa.Histo Go.Proofs.Ytopbhdpfakjkjaa.Event Go.Proofs.Ytopbhdpfakjkjaa.Ring
set_option linter.unusedVariables false
open Go.Proofs.Ytopbhdpfakjkjaa.MapI (AL At Rng W64 At.alloc At.drew)

def AS.upd (s : AS) (id : Int) (f : Th → Th) : AS := { s with boxes := s.boxes.map fun t => if t.id = id then f t else t }
def AS.fail (s : AS) (h : Int) : AS := { s with boxes := s.boxes.filter (fun t => t.host != h), size := MapI.put s.size h (.int .i64 0) }
/-- What happens ahead of the commands; none: it may not be. -/
def AS.ahead (s : AS) (e : Ev) : Option AS :=
  if e.k = 3 then some { s with size := MapI.put s.size e.n (.int .i64 e.size) }
  else if e.k = 2 then some { s with mem := MapI.put s.mem e.n (.int .i64 e.mem) }
  else if e.k = 7 then match s.find e.n with | none => none | some t => if t.boots = false then none else some (s.upd e.n fun t => { t with boots := false })
  else if e.k = 9 then match s.find e.n with | none => none | some t => if t.boots = true ∨ t.busy = false then none else some (s.upd e.n fun t => { t with busy := false })
  else if e.k = 8 then match s.find e.n with | none => none | some _ => some (s.drop e.n)
  else if e.k = 5 then some (s.fail e.n)
  else some s
abbrev scells (e : Ev) (a : Ans) (v : Value) : Array Value := #[.int .i64 e.k, .int .i64 e.n, .int .i64 e.limit, .int .i64 e.size, .int .i64 e.refill, .int .i64 e.acct, .int .i64 e.mem, .int .i64 e.cost, .int .i64 e.res, .int .i64 e.keep, .int .i64 a.kind, .int .i64 a.box, .int .i64 a.why, .int .i64 a.err, v]
theorem Small.put {l : AL} (h : Small l) (k x : Int) (h0 : 0 ≤ x) (h1 : x ≤ 2147483647) : Small (MapI.put l k (.int .i64 x)) := by
  intro y v hv
  rw [MapI.get_put] at hv
  by_cases he : y = k
  · rw [if_pos he] at hv; injection hv with hv; exact ⟨x, hv.symm, h0, h1⟩
  · rw [if_neg he] at hv; exact h y v hv
theorem AWb.setSize {F : Nat → Prop} {w0 w w' : World} {a b1 b2 b3 N : Nat} {blk : Int → Nat} {s : AS} {l : AL} (h : AWb F w0 a b1 b2 b3 N blk s w) (hm : At Try.prog 3 w' b2 (N + 1) l) (hg : w.grownBy w' (some b2)) (hs : Small l) : AWb F w0 a b1 b2 b3 (N + 1) blk { s with size := l } w' :=
  ⟨h.aud.grown hg (fun e => map_blk_ne h.m2 h.aud (by injection e)), (h.m1.same (hg.block _ h.m1.lt (fun e => h.d12 (by injection e)))).mono (by omega), hm, (h.m3.same (hg.block _ h.m3.lt (fun e => h.d23 (by injection e with e; exact e.symm)))).mono (by omega),
    fun t ht => (h.th t ht).grown hg (fun e => map_blk_ne h.m2 (h.th t ht) (by injection e)), h.inj, h.d12, h.d13, h.d23, h.below.grown hg (fun k e => by injection e with e; subst e; exact h.na.2.2.1), h.hF, h.na, h.nt, h.wf, hs, h.me⟩
theorem AWb.setMem {F : Nat → Prop} {w0 w w' : World} {a b1 b2 b3 N : Nat} {blk : Int → Nat} {s : AS} {l : AL} (h : AWb F w0 a b1 b2 b3 N blk s w) (hm : At Try.prog 3 w' b3 (N + 1) l) (hg : w.grownBy w' (some b3)) (hs : Small l) : AWb F w0 a b1 b2 b3 (N + 1) blk { s with mem := l } w' :=
  ⟨h.aud.grown hg (fun e => map_blk_ne h.m3 h.aud (by injection e)), (h.m1.same (hg.block _ h.m1.lt (fun e => h.d13 (by injection e)))).mono (by omega), (h.m2.same (hg.block _ h.m2.lt (fun e => h.d23 (by injection e)))).mono (by omega), hm,
    fun t ht => (h.th t ht).grown hg (fun e => map_blk_ne h.m3 (h.th t ht) (by injection e)), h.inj, h.d12, h.d13, h.d23, h.below.grown hg (fun k e => by injection e with e; subst e; exact h.na.2.2.2), h.hF, h.na, h.nt, h.wf, h.sz, hs⟩
/-- One sandbox is turned in its place. -/
theorem AWb.turn {F : Nat → Prop} {w0 w : World} {a b1 b2 b3 N : Nat} {blk : Int → Nat} {s : AS} (h : AWb F w0 a b1 b2 b3 N blk s w) {t : Th} (ht : t ∈ s.boxes) (f : Th → Th) (hf : (f t).id = t.id ∧ (f t).fn = t.fn ∧ (f t).host = t.host) (i : Nat) (v : Value) (hc : (f t).cells = t.cells.setIfInBounds i v) :
    AWb F w0 a b1 b2 b3 N blk (s.upd t.id f) (w.setCell ⟨blk t.id, i, none⟩ v) := by
  have hbt := h.th t ht
  have hs := ents_sorted (h.m1.sorted Try.underlying3)
  have huniq : ∀ u ∈ s.boxes, u.id = t.id → u = t := by
    intro u hu he
    have key : ∀ l : List Th, l.Pairwise (fun a b => a.id < b.id) → u ∈ l → t ∈ l → u = t := by
      intro l
      induction l with
      | nil => intro _ h; cases h
      | cons x r ih =>
        intro hp h1 h2
        rw [List.pairwise_cons] at hp
        rcases List.mem_cons.1 h1 with k1 | k1
        · rcases List.mem_cons.1 h2 with k2 | k2
          · rw [k1, k2]
          · have := hp.1 t k2; rw [k1] at he; omega
        · rcases List.mem_cons.1 h2 with k2 | k2
          · have := hp.1 u k1; rw [k2] at he; omega
          · exact ih hp.2 k1 k2
    exact key _ hs hu ht
  have hid : ∀ u ∈ s.boxes, (if u.id = t.id then f u else u).id = u.id ∧ (if u.id = t.id then f u else u).fn = u.fn ∧ (if u.id = t.id then f u else u).host = u.host := fun u hu => by
    by_cases he : u.id = t.id
    · rw [if_pos he, huniq u hu he]; exact hf
    · rw [if_neg he]; exact ⟨rfl, rfl, rfl⟩
  have hents : ents blk (s.upd t.id f).boxes = ents blk s.boxes := by
    unfold ents AS.upd
    rw [List.map_map]
    refine List.map_congr_left fun u hu => ?_
    show ((if u.id = t.id then f u else u).id, _) = _
    simp only [Function.comp_apply]
    rw [(hid u hu).1]
  have hmem : ∀ x ∈ (s.upd t.id f).boxes, ∃ u ∈ s.boxes, x = (if u.id = t.id then f u else u) := fun x hx => by
    obtain ⟨u, hu, he⟩ := List.mem_map.1 hx
    exact ⟨u, hu, he.symm⟩
  refine ⟨h.aud.far (blk_neq h.aud hbt (by decide)) _, by rw [hents]; exact h.m1.same (Below.heap_setCell _ _ _ _ (fun e => map_blk_ne h.m1 hbt e.symm)), h.m2.same (Below.heap_setCell _ _ _ _ (fun e => map_blk_ne h.m2 hbt e.symm)), h.m3.same (Below.heap_setCell _ _ _ _ (fun e => map_blk_ne h.m3 hbt e.symm)), ?_, ?_, h.d12, h.d13, h.d23, h.below.setCell (h.nt t ht) _, h.hF, h.na, ?_, ?_, h.sz, h.me⟩
  · intro x hx
    obtain ⟨u, hu, rfl⟩ := hmem x hx
    rw [(hid u hu).1]
    by_cases he : u.id = t.id
    · rw [if_pos he]
      obtain rfl := huniq u hu he
      rw [hc]
      exact hbt.set_ i v
    · rw [if_neg he]
      exact (h.th u hu).far (fun e => he (h.inj u hu t ht e)) _
  · intro x hx y hy hxy
    obtain ⟨u, hu, rfl⟩ := hmem x hx
    obtain ⟨u', hu', rfl⟩ := hmem y hy
    rw [(hid u hu).1, (hid u' hu').1] at hxy ⊢
    exact h.inj u hu u' hu' hxy
  · intro x hx
    obtain ⟨u, hu, rfl⟩ := hmem x hx
    rw [(hid u hu).1]
    exact h.nt u hu
  · intro x hx
    obtain ⟨u, hu, rfl⟩ := hmem x hx
    rw [(hid u hu).1, (hid u hu).2.1, (hid u hu).2.2]
    exact h.wf u hu
theorem AWb.drew {F : Nat → Prop} {w0 w : World} {a b1 b2 b3 N : Nat} {blk : Int → Nat} {s : AS} (h : AWb F w0 a b1 b2 b3 N blk s w) : AWb F w0 a b1 b2 b3 N blk s w.drew := h.next ((Below.refl _ _).drew)
abbrev CALLA (a : Nat) (e : Ev) (r : Ans) (v : Value) (w : World) (Q : Ending → World → Prop) := Calls Try.prog 46 #[.pointer (some ⟨a, 0, none⟩), .agg (scells e r v)] w Q
set_option maxHeartbeats 4000000 in
set_option maxRecDepth 100000 in
theorem ahead_host (F : Nat → Prop) (w0 : World) (a b1 b2 b3 N : Nat) (blk : Int → Nat) (s : AS) (en e2 es e4 e5 em e7 e8 e9 r0 r1 r2 r3 : Int) (v : Value) (w : World) (hA : AWb F w0 a b1 b2 b3 N blk s w) (hN : N ≤ 100000) (hn : W64 en) (hx0 : 0 ≤ es) (hx1 : es ≤ 2147483647) : CALLA a ⟨3, en, e2, es, e4, e5, em, e7, e8, e9⟩ ⟨r0, r1, r2, r3⟩ v w (Out F w0 a b1 b2 b3 (N + 1) (s.ahead ⟨3, en, e2, es, e4, e5, em, e7, e8, e9⟩)) := by
  have hcm : s.ahead ⟨3, en, e2, es, e4, e5, em, e7, e8, e9⟩ = some { s with size := MapI.put s.size en (.int .i64 es) } := by unfold AS.ahead; simp
  rw [hcm]
  clear hcm
  unfold CALLA scells
  simp only
  have hA1 := hA.next ((Below.refl _ _).alloc (Nat.le_refl _) (.cells (scells ⟨3, en, e2, es, e4, e5, em, e7, e8, e9⟩ ⟨r0, r1, r2, r3⟩ v) 55))
  have hC1 := Blk.new w 55 (scells ⟨3, en, e2, es, e4, e5, em, e7, e8, e9⟩ ⟨r0, r1, r2, r3⟩ v)
  obtain ⟨g, hg⟩ : ∃ g, g = w.heap.size := ⟨_, rfl⟩
  rw [← hg] at hC1
  go_enter Try.func46, Try.ntmps46
  go_wp2_with fail
  rw [← hg]
  generalize w.alloc _ = W at hA1 hC1 ⊢
  have HA1 := Lib.hid hA1
  have HC1 := Lib.hid hC1
  clear hA hA1 hC1 hg
  have ca0 := HA1.out.aud.cell 0
  have ca1 := HA1.out.aud.cell 1
  have ca2 := HA1.out.aud.cell 2
  have cc0 := HC1.out.cell 0
  have cc1 := HC1.out.cell 1
  have cc3 := HC1.out.cell 3
  have cc6 := HC1.out.cell 6
  have hlk := HA1.out.look hn (v := (s.find en).elim (.pointer none) (fun t => .pointer (some ⟨blk t.id, 0, none⟩))) rfl
  obtain ⟨bv, hbv⟩ : ∃ v : Value, v = (s.find en).elim (.pointer none) (fun t => .pointer (some ⟨blk t.id, 0, none⟩)) := ⟨_, rfl⟩
  rw [← hbv] at hlk
  clear hbv
  go_quiet (fail)
  clear hlk
  clear ca0 ca1 ca2 cc0 cc1 cc3 cc6
  generalize hgen : W.drewN _ = W2
  have hA1 : AWb F w0 a b1 b2 b3 N blk s W2 := by rw [← hgen]; exact HA1.out.next (below_drewN (Below.refl _ _) _)
  have hC1 : Blk W2 g 55 (scells ⟨3, en, e2, es, e4, e5, em, e7, e8, e9⟩ ⟨r0, r1, r2, r3⟩ v) := by rw [← hgen]; exact HC1.out.drewN _
  clear hgen HA1 HC1
  have HA1 := Lib.hid hA1
  have HC1 := Lib.hid hC1
  clear hA1 hC1
  have ca0 := HA1.out.aud.cell 0
  have ca1 := HA1.out.aud.cell 1
  have ca2 := HA1.out.aud.cell 2
  have cc0 := HC1.out.cell 0
  have cc1 := HC1.out.cell 1
  have cc3 := HC1.out.cell 3
  have cc6 := HC1.out.cell 6
  obtain ⟨w7, hrun, hm7, hg7, _⟩ := (At.drew HA1.out.m2).store (t := 75) Try.underlying3 Try.underlying75 (by unfold maxLen; omega) hn (.int .i64 es)
  have hfin := HA1.out.drew.setSize hm7 hg7 (HA1.out.sz.put en es hx0 hx1)
  have HFIN := Lib.hid hfin
  have HX := Lib.hid (And.intro hx0 hx1)
  clear hm7 hg7 hfin hx0 hx1
  go_wp2
  go_region
  go_wp2
  go_ret
  exact Out.yes rfl rfl HFIN.out
set_option maxHeartbeats 4000000 in
set_option maxRecDepth 100000 in
theorem ahead_func (F : Nat → Prop) (w0 : World) (a b1 b2 b3 N : Nat) (blk : Int → Nat) (s : AS) (en e2 es e4 e5 em e7 e8 e9 r0 r1 r2 r3 : Int) (v : Value) (w : World) (hA : AWb F w0 a b1 b2 b3 N blk s w) (hN : N ≤ 100000) (hn : W64 en) (hx0 : 0 ≤ em) (hx1 : em ≤ 2147483647) : CALLA a ⟨2, en, e2, es, e4, e5, em, e7, e8, e9⟩ ⟨r0, r1, r2, r3⟩ v w (Out F w0 a b1 b2 b3 (N + 1) (s.ahead ⟨2, en, e2, es, e4, e5, em, e7, e8, e9⟩)) := by
  have hcm : s.ahead ⟨2, en, e2, es, e4, e5, em, e7, e8, e9⟩ = some { s with mem := MapI.put s.mem en (.int .i64 em) } := by unfold AS.ahead; simp
  rw [hcm]
  clear hcm
  unfold CALLA scells
  simp only
  have hA1 := hA.next ((Below.refl _ _).alloc (Nat.le_refl _) (.cells (scells ⟨2, en, e2, es, e4, e5, em, e7, e8, e9⟩ ⟨r0, r1, r2, r3⟩ v) 55))
  have hC1 := Blk.new w 55 (scells ⟨2, en, e2, es, e4, e5, em, e7, e8, e9⟩ ⟨r0, r1, r2, r3⟩ v)
  obtain ⟨g, hg⟩ : ∃ g, g = w.heap.size := ⟨_, rfl⟩
  rw [← hg] at hC1
  go_enter Try.func46, Try.ntmps46
  go_wp2_with fail
  rw [← hg]
  generalize w.alloc _ = W at hA1 hC1 ⊢
  have HA1 := Lib.hid hA1
  have HC1 := Lib.hid hC1
  clear hA hA1 hC1 hg
  have ca0 := HA1.out.aud.cell 0
  have ca1 := HA1.out.aud.cell 1
  have ca2 := HA1.out.aud.cell 2
  have cc0 := HC1.out.cell 0
  have cc1 := HC1.out.cell 1
  have cc3 := HC1.out.cell 3
  have cc6 := HC1.out.cell 6
  have hlk := HA1.out.look hn (v := (s.find en).elim (.pointer none) (fun t => .pointer (some ⟨blk t.id, 0, none⟩))) rfl
  obtain ⟨bv, hbv⟩ : ∃ v : Value, v = (s.find en).elim (.pointer none) (fun t => .pointer (some ⟨blk t.id, 0, none⟩)) := ⟨_, rfl⟩
  rw [← hbv] at hlk
  clear hbv
  go_quiet (fail)
  clear hlk
  clear ca0 ca1 ca2 cc0 cc1 cc3 cc6
  generalize hgen : W.drewN _ = W2
  have hA1 : AWb F w0 a b1 b2 b3 N blk s W2 := by rw [← hgen]; exact HA1.out.next (below_drewN (Below.refl _ _) _)
  have hC1 : Blk W2 g 55 (scells ⟨2, en, e2, es, e4, e5, em, e7, e8, e9⟩ ⟨r0, r1, r2, r3⟩ v) := by rw [← hgen]; exact HC1.out.drewN _
  clear hgen HA1 HC1
  have HA1 := Lib.hid hA1
  have HC1 := Lib.hid hC1
  clear hA1 hC1
  have ca0 := HA1.out.aud.cell 0
  have ca1 := HA1.out.aud.cell 1
  have ca2 := HA1.out.aud.cell 2
  have cc0 := HC1.out.cell 0
  have cc1 := HC1.out.cell 1
  have cc3 := HC1.out.cell 3
  have cc6 := HC1.out.cell 6
  obtain ⟨w7, hrun, hm7, hg7, _⟩ := (At.drew HA1.out.m3).store (t := 75) Try.underlying3 Try.underlying75 (by unfold maxLen; omega) hn (.int .i64 em)
  have hfin := HA1.out.drew.setMem hm7 hg7 (HA1.out.me.put en em hx0 hx1)
  have HFIN := Lib.hid hfin
  have HX := Lib.hid (And.intro hx0 hx1)
  clear hm7 hg7 hfin hx0 hx1
  go_wp2
  go_region
  go_wp2
  go_ret
  exact Out.yes rfl rfl HFIN.out
set_option maxHeartbeats 4000000 in
set_option maxRecDepth 100000 in
theorem ahead_booted_none (F : Nat → Prop) (w0 : World) (a b1 b2 b3 N : Nat) (blk : Int → Nat) (s : AS) (en e2 es e4 e5 em e7 e8 e9 r0 r1 r2 r3 : Int) (v : Value) (w : World) (hA : AWb F w0 a b1 b2 b3 N blk s w) (hN : N ≤ 100000) (hn : W64 en) (hf : s.find en = none) : CALLA a ⟨7, en, e2, es, e4, e5, em, e7, e8, e9⟩ ⟨r0, r1, r2, r3⟩ v w (Out F w0 a b1 b2 b3 (N + 1) (s.ahead ⟨7, en, e2, es, e4, e5, em, e7, e8, e9⟩)) := by
  have hcm : s.ahead ⟨7, en, e2, es, e4, e5, em, e7, e8, e9⟩ = none := by unfold AS.ahead; simp [hf]
  rw [hcm]
  clear hcm
  have HF := Lib.hid hf
  clear hf
  unfold CALLA scells
  simp only
  have hA1 := hA.next ((Below.refl _ _).alloc (Nat.le_refl _) (.cells (scells ⟨7, en, e2, es, e4, e5, em, e7, e8, e9⟩ ⟨r0, r1, r2, r3⟩ v) 55))
  have hC1 := Blk.new w 55 (scells ⟨7, en, e2, es, e4, e5, em, e7, e8, e9⟩ ⟨r0, r1, r2, r3⟩ v)
  obtain ⟨g, hg⟩ : ∃ g, g = w.heap.size := ⟨_, rfl⟩
  rw [← hg] at hC1
  go_enter Try.func46, Try.ntmps46
  go_wp2_with fail
  rw [← hg]
  generalize w.alloc _ = W at hA1 hC1 ⊢
  have HA1 := Lib.hid hA1
  have HC1 := Lib.hid hC1
  clear hA hA1 hC1 hg
  have ca0 := HA1.out.aud.cell 0
  have ca1 := HA1.out.aud.cell 1
  have ca2 := HA1.out.aud.cell 2
  have cc0 := HC1.out.cell 0
  have cc1 := HC1.out.cell 1
  have cc3 := HC1.out.cell 3
  have cc6 := HC1.out.cell 6
  have hlk := HA1.out.look hn (v := (s.find en).elim (.pointer none) (fun t => .pointer (some ⟨blk t.id, 0, none⟩))) rfl
  rw [HF.out] at hlk
  simp only [Option.elim] at hlk
  go_quiet (fail)
  clear hlk
  clear ca0 ca1 ca2 cc0 cc1 cc3 cc6
  generalize hgen : W.drewN _ = W2
  have hA1 : AWb F w0 a b1 b2 b3 N blk s W2 := by rw [← hgen]; exact HA1.out.next (below_drewN (Below.refl _ _) _)
  have hC1 : Blk W2 g 55 (scells ⟨7, en, e2, es, e4, e5, em, e7, e8, e9⟩ ⟨r0, r1, r2, r3⟩ v) := by rw [← hgen]; exact HC1.out.drewN _
  clear hgen HA1 HC1
  have HA1 := Lib.hid hA1
  have HC1 := Lib.hid hC1
  clear hA1 hC1
  have ca0 := HA1.out.aud.cell 0
  have ca1 := HA1.out.aud.cell 1
  have ca2 := HA1.out.aud.cell 2
  have cc0 := HC1.out.cell 0
  have cc1 := HC1.out.cell 1
  have cc3 := HC1.out.cell 3
  have cc6 := HC1.out.cell 6
  go_wp2
  go_ret
  exact Out.no rfl rfl HA1.out.below
set_option maxHeartbeats 4000000 in
set_option maxRecDepth 100000 in
theorem ahead_done_none (F : Nat → Prop) (w0 : World) (a b1 b2 b3 N : Nat) (blk : Int → Nat) (s : AS) (en e2 es e4 e5 em e7 e8 e9 r0 r1 r2 r3 : Int) (v : Value) (w : World) (hA : AWb F w0 a b1 b2 b3 N blk s w) (hN : N ≤ 100000) (hn : W64 en) (hf : s.find en = none) : CALLA a ⟨9, en, e2, es, e4, e5, em, e7, e8, e9⟩ ⟨r0, r1, r2, r3⟩ v w (Out F w0 a b1 b2 b3 (N + 1) (s.ahead ⟨9, en, e2, es, e4, e5, em, e7, e8, e9⟩)) := by
  have hcm : s.ahead ⟨9, en, e2, es, e4, e5, em, e7, e8, e9⟩ = none := by unfold AS.ahead; simp [hf]
  rw [hcm]
  clear hcm
  have HF := Lib.hid hf
  clear hf
  unfold CALLA scells
  simp only
  have hA1 := hA.next ((Below.refl _ _).alloc (Nat.le_refl _) (.cells (scells ⟨9, en, e2, es, e4, e5, em, e7, e8, e9⟩ ⟨r0, r1, r2, r3⟩ v) 55))
  have hC1 := Blk.new w 55 (scells ⟨9, en, e2, es, e4, e5, em, e7, e8, e9⟩ ⟨r0, r1, r2, r3⟩ v)
  obtain ⟨g, hg⟩ : ∃ g, g = w.heap.size := ⟨_, rfl⟩
  rw [← hg] at hC1
  go_enter Try.func46, Try.ntmps46
  go_wp2_with fail
  rw [← hg]
  generalize w.alloc _ = W at hA1 hC1 ⊢
  have HA1 := Lib.hid hA1
  have HC1 := Lib.hid hC1
  clear hA hA1 hC1 hg
  have ca0 := HA1.out.aud.cell 0
  have ca1 := HA1.out.aud.cell 1
  have ca2 := HA1.out.aud.cell 2
  have cc0 := HC1.out.cell 0
  have cc1 := HC1.out.cell 1
  have cc3 := HC1.out.cell 3
  have cc6 := HC1.out.cell 6
  have hlk := HA1.out.look hn (v := (s.find en).elim (.pointer none) (fun t => .pointer (some ⟨blk t.id, 0, none⟩))) rfl
  rw [HF.out] at hlk
  simp only [Option.elim] at hlk
  go_quiet (fail)
  clear hlk
  clear ca0 ca1 ca2 cc0 cc1 cc3 cc6
  generalize hgen : W.drewN _ = W2
  have hA1 : AWb F w0 a b1 b2 b3 N blk s W2 := by rw [← hgen]; exact HA1.out.next (below_drewN (Below.refl _ _) _)
  have hC1 : Blk W2 g 55 (scells ⟨9, en, e2, es, e4, e5, em, e7, e8, e9⟩ ⟨r0, r1, r2, r3⟩ v) := by rw [← hgen]; exact HC1.out.drewN _
  clear hgen HA1 HC1
  have HA1 := Lib.hid hA1
  have HC1 := Lib.hid hC1
  clear hA1 hC1
  have ca0 := HA1.out.aud.cell 0
  have ca1 := HA1.out.aud.cell 1
  have ca2 := HA1.out.aud.cell 2
  have cc0 := HC1.out.cell 0
  have cc1 := HC1.out.cell 1
  have cc3 := HC1.out.cell 3
  have cc6 := HC1.out.cell 6
  go_wp2
  go_ret
  exact Out.no rfl rfl HA1.out.below
set_option maxHeartbeats 4000000 in
set_option maxRecDepth 100000 in
theorem ahead_broke_none (F : Nat → Prop) (w0 : World) (a b1 b2 b3 N : Nat) (blk : Int → Nat) (s : AS) (en e2 es e4 e5 em e7 e8 e9 r0 r1 r2 r3 : Int) (v : Value) (w : World) (hA : AWb F w0 a b1 b2 b3 N blk s w) (hN : N ≤ 100000) (hn : W64 en) (hf : s.find en = none) : CALLA a ⟨8, en, e2, es, e4, e5, em, e7, e8, e9⟩ ⟨r0, r1, r2, r3⟩ v w (Out F w0 a b1 b2 b3 (N + 1) (s.ahead ⟨8, en, e2, es, e4, e5, em, e7, e8, e9⟩)) := by
  have hcm : s.ahead ⟨8, en, e2, es, e4, e5, em, e7, e8, e9⟩ = none := by unfold AS.ahead; simp [hf]
  rw [hcm]
  clear hcm
  have HF := Lib.hid hf
  clear hf
  unfold CALLA scells
  simp only
  have hA1 := hA.next ((Below.refl _ _).alloc (Nat.le_refl _) (.cells (scells ⟨8, en, e2, es, e4, e5, em, e7, e8, e9⟩ ⟨r0, r1, r2, r3⟩ v) 55))
  have hC1 := Blk.new w 55 (scells ⟨8, en, e2, es, e4, e5, em, e7, e8, e9⟩ ⟨r0, r1, r2, r3⟩ v)
  obtain ⟨g, hg⟩ : ∃ g, g = w.heap.size := ⟨_, rfl⟩
  rw [← hg] at hC1
  go_enter Try.func46, Try.ntmps46
  go_wp2_with fail
  rw [← hg]
  generalize w.alloc _ = W at hA1 hC1 ⊢
  have HA1 := Lib.hid hA1
  have HC1 := Lib.hid hC1
  clear hA hA1 hC1 hg
  have ca0 := HA1.out.aud.cell 0
  have ca1 := HA1.out.aud.cell 1
  have ca2 := HA1.out.aud.cell 2
  have cc0 := HC1.out.cell 0
  have cc1 := HC1.out.cell 1
  have cc3 := HC1.out.cell 3
  have cc6 := HC1.out.cell 6
  have hlk := HA1.out.look hn (v := (s.find en).elim (.pointer none) (fun t => .pointer (some ⟨blk t.id, 0, none⟩))) rfl
  rw [HF.out] at hlk
  simp only [Option.elim] at hlk
  go_quiet (fail)
  clear hlk
  clear ca0 ca1 ca2 cc0 cc1 cc3 cc6
  generalize hgen : W.drewN _ = W2
  have hA1 : AWb F w0 a b1 b2 b3 N blk s W2 := by rw [← hgen]; exact HA1.out.next (below_drewN (Below.refl _ _) _)
  have hC1 : Blk W2 g 55 (scells ⟨8, en, e2, es, e4, e5, em, e7, e8, e9⟩ ⟨r0, r1, r2, r3⟩ v) := by rw [← hgen]; exact HC1.out.drewN _
  clear hgen HA1 HC1
  have HA1 := Lib.hid hA1
  have HC1 := Lib.hid hC1
  clear hA1 hC1
  have ca0 := HA1.out.aud.cell 0
  have ca1 := HA1.out.aud.cell 1
  have ca2 := HA1.out.aud.cell 2
  have cc0 := HC1.out.cell 0
  have cc1 := HC1.out.cell 1
  have cc3 := HC1.out.cell 3
  have cc6 := HC1.out.cell 6
  go_wp2
  go_ret
  exact Out.no rfl rfl HA1.out.below
set_option maxHeartbeats 4000000 in
set_option maxRecDepth 100000 in
theorem ahead_booted_no (F : Nat → Prop) (w0 : World) (a b1 b2 b3 N : Nat) (blk : Int → Nat) (s : AS) (en e2 es e4 e5 em e7 e8 e9 r0 r1 r2 r3 : Int) (v : Value) (t : Th) (w : World) (hA : AWb F w0 a b1 b2 b3 N blk s w) (hN : N ≤ 100000) (hn : W64 en) (hf : s.find en = some t) (hb : t.boots = false) : CALLA a ⟨7, en, e2, es, e4, e5, em, e7, e8, e9⟩ ⟨r0, r1, r2, r3⟩ v w (Out F w0 a b1 b2 b3 (N + 1) (s.ahead ⟨7, en, e2, es, e4, e5, em, e7, e8, e9⟩)) := by
  have hcm : s.ahead ⟨7, en, e2, es, e4, e5, em, e7, e8, e9⟩ = none := by unfold AS.ahead; simp [hf, hb]
  rw [hcm]
  clear hcm
  have HF := Lib.hid hf
  clear hf
  unfold CALLA scells
  simp only
  have hA1 := hA.next ((Below.refl _ _).alloc (Nat.le_refl _) (.cells (scells ⟨7, en, e2, es, e4, e5, em, e7, e8, e9⟩ ⟨r0, r1, r2, r3⟩ v) 55))
  have hC1 := Blk.new w 55 (scells ⟨7, en, e2, es, e4, e5, em, e7, e8, e9⟩ ⟨r0, r1, r2, r3⟩ v)
  obtain ⟨g, hg⟩ : ∃ g, g = w.heap.size := ⟨_, rfl⟩
  rw [← hg] at hC1
  go_enter Try.func46, Try.ntmps46
  go_wp2_with fail
  rw [← hg]
  generalize w.alloc _ = W at hA1 hC1 ⊢
  have HA1 := Lib.hid hA1
  have HC1 := Lib.hid hC1
  clear hA hA1 hC1 hg
  have ca0 := HA1.out.aud.cell 0
  have ca1 := HA1.out.aud.cell 1
  have ca2 := HA1.out.aud.cell 2
  have cc0 := HC1.out.cell 0
  have cc1 := HC1.out.cell 1
  have cc3 := HC1.out.cell 3
  have cc6 := HC1.out.cell 6
  have hlk := HA1.out.look hn (v := (s.find en).elim (.pointer none) (fun t => .pointer (some ⟨blk t.id, 0, none⟩))) rfl
  rw [HF.out] at hlk
  simp only [Option.elim] at hlk
  go_quiet (fail)
  clear hlk
  clear ca0 ca1 ca2 cc0 cc1 cc3 cc6
  generalize hgen : W.drewN _ = W2
  have hA1 : AWb F w0 a b1 b2 b3 N blk s W2 := by rw [← hgen]; exact HA1.out.next (below_drewN (Below.refl _ _) _)
  have hC1 : Blk W2 g 55 (scells ⟨7, en, e2, es, e4, e5, em, e7, e8, e9⟩ ⟨r0, r1, r2, r3⟩ v) := by rw [← hgen]; exact HC1.out.drewN _
  clear hgen HA1 HC1
  have HA1 := Lib.hid hA1
  have HC1 := Lib.hid hC1
  clear hA1 hC1
  have ca0 := HA1.out.aud.cell 0
  have ca1 := HA1.out.aud.cell 1
  have ca2 := HA1.out.aud.cell 2
  have cc0 := HC1.out.cell 0
  have cc1 := HC1.out.cell 1
  have cc3 := HC1.out.cell 3
  have cc6 := HC1.out.cell 6
  have hmt := find_mem HF.out
  have hbt := HA1.out.th t hmt.1
  have ct2 : W2.cell? ⟨blk t.id, 2, none⟩ = some (.bool t.busy) := hbt.cell 2
  have ct3 : W2.cell? ⟨blk t.id, 3, none⟩ = some (.bool t.boots) := hbt.cell 3
  have cf2 := hbt.frozen 2
  have cf3 := hbt.frozen 3
  have HMT := Lib.hid hmt
  clear hmt hbt
  go_wp2
  go_ret
  exact Out.no rfl rfl HA1.out.below
set_option maxHeartbeats 4000000 in
set_option maxRecDepth 100000 in
theorem ahead_booted_yes (F : Nat → Prop) (w0 : World) (a b1 b2 b3 N : Nat) (blk : Int → Nat) (s : AS) (en e2 es e4 e5 em e7 e8 e9 r0 r1 r2 r3 : Int) (v : Value) (t : Th) (w : World) (hA : AWb F w0 a b1 b2 b3 N blk s w) (hN : N ≤ 100000) (hn : W64 en) (hf : s.find en = some t) (hb : t.boots = true) : CALLA a ⟨7, en, e2, es, e4, e5, em, e7, e8, e9⟩ ⟨r0, r1, r2, r3⟩ v w (Out F w0 a b1 b2 b3 (N + 1) (s.ahead ⟨7, en, e2, es, e4, e5, em, e7, e8, e9⟩)) := by
  have hcm : s.ahead ⟨7, en, e2, es, e4, e5, em, e7, e8, e9⟩ = some (s.upd en fun t => { t with boots := false }) := by unfold AS.ahead; simp [hf, hb]
  rw [hcm]
  clear hcm
  have HF := Lib.hid hf
  clear hf
  unfold CALLA scells
  simp only
  have hA1 := hA.next ((Below.refl _ _).alloc (Nat.le_refl _) (.cells (scells ⟨7, en, e2, es, e4, e5, em, e7, e8, e9⟩ ⟨r0, r1, r2, r3⟩ v) 55))
  have hC1 := Blk.new w 55 (scells ⟨7, en, e2, es, e4, e5, em, e7, e8, e9⟩ ⟨r0, r1, r2, r3⟩ v)
  obtain ⟨g, hg⟩ : ∃ g, g = w.heap.size := ⟨_, rfl⟩
  rw [← hg] at hC1
  go_enter Try.func46, Try.ntmps46
  go_wp2_with fail
  rw [← hg]
  generalize w.alloc _ = W at hA1 hC1 ⊢
  have HA1 := Lib.hid hA1
  have HC1 := Lib.hid hC1
  clear hA hA1 hC1 hg
  have ca0 := HA1.out.aud.cell 0
  have ca1 := HA1.out.aud.cell 1
  have ca2 := HA1.out.aud.cell 2
  have cc0 := HC1.out.cell 0
  have cc1 := HC1.out.cell 1
  have cc3 := HC1.out.cell 3
  have cc6 := HC1.out.cell 6
  have hlk := HA1.out.look hn (v := (s.find en).elim (.pointer none) (fun t => .pointer (some ⟨blk t.id, 0, none⟩))) rfl
  rw [HF.out] at hlk
  simp only [Option.elim] at hlk
  go_quiet (fail)
  clear hlk
  clear ca0 ca1 ca2 cc0 cc1 cc3 cc6
  generalize hgen : W.drewN _ = W2
  have hA1 : AWb F w0 a b1 b2 b3 N blk s W2 := by rw [← hgen]; exact HA1.out.next (below_drewN (Below.refl _ _) _)
  have hC1 : Blk W2 g 55 (scells ⟨7, en, e2, es, e4, e5, em, e7, e8, e9⟩ ⟨r0, r1, r2, r3⟩ v) := by rw [← hgen]; exact HC1.out.drewN _
  clear hgen HA1 HC1
  have HA1 := Lib.hid hA1
  have HC1 := Lib.hid hC1
  clear hA1 hC1
  have ca0 := HA1.out.aud.cell 0
  have ca1 := HA1.out.aud.cell 1
  have ca2 := HA1.out.aud.cell 2
  have cc0 := HC1.out.cell 0
  have cc1 := HC1.out.cell 1
  have cc3 := HC1.out.cell 3
  have cc6 := HC1.out.cell 6
  have hmt := find_mem HF.out
  have hbt := HA1.out.th t hmt.1
  have ct2 : W2.cell? ⟨blk t.id, 2, none⟩ = some (.bool t.busy) := hbt.cell 2
  have ct3 : W2.cell? ⟨blk t.id, 3, none⟩ = some (.bool t.boots) := hbt.cell 3
  have cf2 := hbt.frozen 2
  have cf3 := hbt.frozen 3
  have HMT := Lib.hid hmt
  clear hmt hbt
  have hT : AWb F w0 a b1 b2 b3 N blk (s.upd en fun t => { t with boots := false }) (W2.setCell ⟨blk t.id, 3, none⟩ (.bool false)) := by
    rw [show (s.upd en fun t => { t with boots := false }) = s.upd t.id fun t => { t with boots := false } by rw [HMT.out.2]]
    exact HA1.out.turn HMT.out.1 (fun t => { t with boots := false }) ⟨rfl, rfl, rfl⟩ 3 (.bool false) rfl
  have HT := Lib.hid (hT.mono (show N ≤ N + 1 by omega))
  clear hT
  go_wp2
  go_ret
  exact Out.yes rfl rfl HT.out
set_option maxHeartbeats 4000000 in
set_option maxRecDepth 100000 in
theorem ahead_done_boots (F : Nat → Prop) (w0 : World) (a b1 b2 b3 N : Nat) (blk : Int → Nat) (s : AS) (en e2 es e4 e5 em e7 e8 e9 r0 r1 r2 r3 : Int) (v : Value) (t : Th) (w : World) (hA : AWb F w0 a b1 b2 b3 N blk s w) (hN : N ≤ 100000) (hn : W64 en) (hf : s.find en = some t) (hb : t.boots = true) : CALLA a ⟨9, en, e2, es, e4, e5, em, e7, e8, e9⟩ ⟨r0, r1, r2, r3⟩ v w (Out F w0 a b1 b2 b3 (N + 1) (s.ahead ⟨9, en, e2, es, e4, e5, em, e7, e8, e9⟩)) := by
  have hcm : s.ahead ⟨9, en, e2, es, e4, e5, em, e7, e8, e9⟩ = none := by unfold AS.ahead; simp [hf, hb]
  rw [hcm]
  clear hcm
  have HF := Lib.hid hf
  clear hf
  unfold CALLA scells
  simp only
  have hA1 := hA.next ((Below.refl _ _).alloc (Nat.le_refl _) (.cells (scells ⟨9, en, e2, es, e4, e5, em, e7, e8, e9⟩ ⟨r0, r1, r2, r3⟩ v) 55))
  have hC1 := Blk.new w 55 (scells ⟨9, en, e2, es, e4, e5, em, e7, e8, e9⟩ ⟨r0, r1, r2, r3⟩ v)
  obtain ⟨g, hg⟩ : ∃ g, g = w.heap.size := ⟨_, rfl⟩
  rw [← hg] at hC1
  go_enter Try.func46, Try.ntmps46
  go_wp2_with fail
  rw [← hg]
  generalize w.alloc _ = W at hA1 hC1 ⊢
  have HA1 := Lib.hid hA1
  have HC1 := Lib.hid hC1
  clear hA hA1 hC1 hg
  have ca0 := HA1.out.aud.cell 0
  have ca1 := HA1.out.aud.cell 1
  have ca2 := HA1.out.aud.cell 2
  have cc0 := HC1.out.cell 0
  have cc1 := HC1.out.cell 1
  have cc3 := HC1.out.cell 3
  have cc6 := HC1.out.cell 6
  have hlk := HA1.out.look hn (v := (s.find en).elim (.pointer none) (fun t => .pointer (some ⟨blk t.id, 0, none⟩))) rfl
  rw [HF.out] at hlk
  simp only [Option.elim] at hlk
  go_quiet (fail)
  clear hlk
  clear ca0 ca1 ca2 cc0 cc1 cc3 cc6
  generalize hgen : W.drewN _ = W2
  have hA1 : AWb F w0 a b1 b2 b3 N blk s W2 := by rw [← hgen]; exact HA1.out.next (below_drewN (Below.refl _ _) _)
  have hC1 : Blk W2 g 55 (scells ⟨9, en, e2, es, e4, e5, em, e7, e8, e9⟩ ⟨r0, r1, r2, r3⟩ v) := by rw [← hgen]; exact HC1.out.drewN _
  clear hgen HA1 HC1
  have HA1 := Lib.hid hA1
  have HC1 := Lib.hid hC1
  clear hA1 hC1
  have ca0 := HA1.out.aud.cell 0
  have ca1 := HA1.out.aud.cell 1
  have ca2 := HA1.out.aud.cell 2
  have cc0 := HC1.out.cell 0
  have cc1 := HC1.out.cell 1
  have cc3 := HC1.out.cell 3
  have cc6 := HC1.out.cell 6
  have hmt := find_mem HF.out
  have hbt := HA1.out.th t hmt.1
  have ct2 : W2.cell? ⟨blk t.id, 2, none⟩ = some (.bool t.busy) := hbt.cell 2
  have ct3 : W2.cell? ⟨blk t.id, 3, none⟩ = some (.bool t.boots) := hbt.cell 3
  have cf2 := hbt.frozen 2
  have cf3 := hbt.frozen 3
  have HMT := Lib.hid hmt
  clear hmt hbt
  go_wp2
  go_ret
  exact Out.no rfl rfl HA1.out.below
set_option maxHeartbeats 4000000 in
set_option maxRecDepth 100000 in
theorem ahead_done_idle (F : Nat → Prop) (w0 : World) (a b1 b2 b3 N : Nat) (blk : Int → Nat) (s : AS) (en e2 es e4 e5 em e7 e8 e9 r0 r1 r2 r3 : Int) (v : Value) (t : Th) (w : World) (hA : AWb F w0 a b1 b2 b3 N blk s w) (hN : N ≤ 100000) (hn : W64 en) (hf : s.find en = some t) (hb : t.boots = false) (hc : t.busy = false) : CALLA a ⟨9, en, e2, es, e4, e5, em, e7, e8, e9⟩ ⟨r0, r1, r2, r3⟩ v w (Out F w0 a b1 b2 b3 (N + 1) (s.ahead ⟨9, en, e2, es, e4, e5, em, e7, e8, e9⟩)) := by
  have hcm : s.ahead ⟨9, en, e2, es, e4, e5, em, e7, e8, e9⟩ = none := by unfold AS.ahead; simp [hf, hb, hc]
  rw [hcm]
  clear hcm
  have HF := Lib.hid hf
  clear hf
  unfold CALLA scells
  simp only
  have hA1 := hA.next ((Below.refl _ _).alloc (Nat.le_refl _) (.cells (scells ⟨9, en, e2, es, e4, e5, em, e7, e8, e9⟩ ⟨r0, r1, r2, r3⟩ v) 55))
  have hC1 := Blk.new w 55 (scells ⟨9, en, e2, es, e4, e5, em, e7, e8, e9⟩ ⟨r0, r1, r2, r3⟩ v)
  obtain ⟨g, hg⟩ : ∃ g, g = w.heap.size := ⟨_, rfl⟩
  rw [← hg] at hC1
  go_enter Try.func46, Try.ntmps46
  go_wp2_with fail
  rw [← hg]
  generalize w.alloc _ = W at hA1 hC1 ⊢
  have HA1 := Lib.hid hA1
  have HC1 := Lib.hid hC1
  clear hA hA1 hC1 hg
  have ca0 := HA1.out.aud.cell 0
  have ca1 := HA1.out.aud.cell 1
  have ca2 := HA1.out.aud.cell 2
  have cc0 := HC1.out.cell 0
  have cc1 := HC1.out.cell 1
  have cc3 := HC1.out.cell 3
  have cc6 := HC1.out.cell 6
  have hlk := HA1.out.look hn (v := (s.find en).elim (.pointer none) (fun t => .pointer (some ⟨blk t.id, 0, none⟩))) rfl
  rw [HF.out] at hlk
  simp only [Option.elim] at hlk
  go_quiet (fail)
  clear hlk
  clear ca0 ca1 ca2 cc0 cc1 cc3 cc6
  generalize hgen : W.drewN _ = W2
  have hA1 : AWb F w0 a b1 b2 b3 N blk s W2 := by rw [← hgen]; exact HA1.out.next (below_drewN (Below.refl _ _) _)
  have hC1 : Blk W2 g 55 (scells ⟨9, en, e2, es, e4, e5, em, e7, e8, e9⟩ ⟨r0, r1, r2, r3⟩ v) := by rw [← hgen]; exact HC1.out.drewN _
  clear hgen HA1 HC1
  have HA1 := Lib.hid hA1
  have HC1 := Lib.hid hC1
  clear hA1 hC1
  have ca0 := HA1.out.aud.cell 0
  have ca1 := HA1.out.aud.cell 1
  have ca2 := HA1.out.aud.cell 2
  have cc0 := HC1.out.cell 0
  have cc1 := HC1.out.cell 1
  have cc3 := HC1.out.cell 3
  have cc6 := HC1.out.cell 6
  have hmt := find_mem HF.out
  have hbt := HA1.out.th t hmt.1
  have ct2 : W2.cell? ⟨blk t.id, 2, none⟩ = some (.bool t.busy) := hbt.cell 2
  have ct3 : W2.cell? ⟨blk t.id, 3, none⟩ = some (.bool t.boots) := hbt.cell 3
  have cf2 := hbt.frozen 2
  have cf3 := hbt.frozen 3
  have HMT := Lib.hid hmt
  clear hmt hbt
  go_wp2
  go_ret
  exact Out.no rfl rfl HA1.out.below
set_option maxHeartbeats 4000000 in
set_option maxRecDepth 100000 in
theorem ahead_done_yes (F : Nat → Prop) (w0 : World) (a b1 b2 b3 N : Nat) (blk : Int → Nat) (s : AS) (en e2 es e4 e5 em e7 e8 e9 r0 r1 r2 r3 : Int) (v : Value) (t : Th) (w : World) (hA : AWb F w0 a b1 b2 b3 N blk s w) (hN : N ≤ 100000) (hn : W64 en) (hf : s.find en = some t) (hb : t.boots = false) (hc : t.busy = true) : CALLA a ⟨9, en, e2, es, e4, e5, em, e7, e8, e9⟩ ⟨r0, r1, r2, r3⟩ v w (Out F w0 a b1 b2 b3 (N + 1) (s.ahead ⟨9, en, e2, es, e4, e5, em, e7, e8, e9⟩)) := by
  have hcm : s.ahead ⟨9, en, e2, es, e4, e5, em, e7, e8, e9⟩ = some (s.upd en fun t => { t with busy := false }) := by unfold AS.ahead; simp [hf, hb, hc]
  rw [hcm]
  clear hcm
  have HF := Lib.hid hf
  clear hf
  unfold CALLA scells
  simp only
  have hA1 := hA.next ((Below.refl _ _).alloc (Nat.le_refl _) (.cells (scells ⟨9, en, e2, es, e4, e5, em, e7, e8, e9⟩ ⟨r0, r1, r2, r3⟩ v) 55))
  have hC1 := Blk.new w 55 (scells ⟨9, en, e2, es, e4, e5, em, e7, e8, e9⟩ ⟨r0, r1, r2, r3⟩ v)
  obtain ⟨g, hg⟩ : ∃ g, g = w.heap.size := ⟨_, rfl⟩
  rw [← hg] at hC1
  go_enter Try.func46, Try.ntmps46
  go_wp2_with fail
  rw [← hg]
  generalize w.alloc _ = W at hA1 hC1 ⊢
  have HA1 := Lib.hid hA1
  have HC1 := Lib.hid hC1
  clear hA hA1 hC1 hg
  have ca0 := HA1.out.aud.cell 0
  have ca1 := HA1.out.aud.cell 1
  have ca2 := HA1.out.aud.cell 2
  have cc0 := HC1.out.cell 0
  have cc1 := HC1.out.cell 1
  have cc3 := HC1.out.cell 3
  have cc6 := HC1.out.cell 6
  have hlk := HA1.out.look hn (v := (s.find en).elim (.pointer none) (fun t => .pointer (some ⟨blk t.id, 0, none⟩))) rfl
  rw [HF.out] at hlk
  simp only [Option.elim] at hlk
  go_quiet (fail)
  clear hlk
  clear ca0 ca1 ca2 cc0 cc1 cc3 cc6
  generalize hgen : W.drewN _ = W2
  have hA1 : AWb F w0 a b1 b2 b3 N blk s W2 := by rw [← hgen]; exact HA1.out.next (below_drewN (Below.refl _ _) _)
  have hC1 : Blk W2 g 55 (scells ⟨9, en, e2, es, e4, e5, em, e7, e8, e9⟩ ⟨r0, r1, r2, r3⟩ v) := by rw [← hgen]; exact HC1.out.drewN _
  clear hgen HA1 HC1
  have HA1 := Lib.hid hA1
  have HC1 := Lib.hid hC1
  clear hA1 hC1
  have ca0 := HA1.out.aud.cell 0
  have ca1 := HA1.out.aud.cell 1
  have ca2 := HA1.out.aud.cell 2
  have cc0 := HC1.out.cell 0
  have cc1 := HC1.out.cell 1
  have cc3 := HC1.out.cell 3
  have cc6 := HC1.out.cell 6
  have hmt := find_mem HF.out
  have hbt := HA1.out.th t hmt.1
  have ct2 : W2.cell? ⟨blk t.id, 2, none⟩ = some (.bool t.busy) := hbt.cell 2
  have ct3 : W2.cell? ⟨blk t.id, 3, none⟩ = some (.bool t.boots) := hbt.cell 3
  have cf2 := hbt.frozen 2
  have cf3 := hbt.frozen 3
  have HMT := Lib.hid hmt
  clear hmt hbt
  have hT : AWb F w0 a b1 b2 b3 N blk (s.upd en fun t => { t with busy := false }) (W2.setCell ⟨blk t.id, 2, none⟩ (.bool false)) := by
    rw [show (s.upd en fun t => { t with busy := false }) = s.upd t.id fun t => { t with busy := false } by rw [HMT.out.2]]
    exact HA1.out.turn HMT.out.1 (fun t => { t with busy := false }) ⟨rfl, rfl, rfl⟩ 2 (.bool false) rfl
  have HT := Lib.hid (hT.mono (show N ≤ N + 1 by omega))
  clear hT
  go_wp2
  go_ret
  exact Out.yes rfl rfl HT.out
set_option maxHeartbeats 4000000 in
set_option maxRecDepth 100000 in
theorem ahead_broke_yes (F : Nat → Prop) (w0 : World) (a b1 b2 b3 N : Nat) (blk : Int → Nat) (s : AS) (en e2 es e4 e5 em e7 e8 e9 r0 r1 r2 r3 : Int) (v : Value) (t : Th) (w : World) (hA : AWb F w0 a b1 b2 b3 N blk s w) (hN : N ≤ 100000) (hn : W64 en) (hf : s.find en = some t) : CALLA a ⟨8, en, e2, es, e4, e5, em, e7, e8, e9⟩ ⟨r0, r1, r2, r3⟩ v w (Out F w0 a b1 b2 b3 (N + 1) (s.ahead ⟨8, en, e2, es, e4, e5, em, e7, e8, e9⟩)) := by
  have hcm : s.ahead ⟨8, en, e2, es, e4, e5, em, e7, e8, e9⟩ = some (s.drop en) := by unfold AS.ahead; simp [hf]
  rw [hcm]
  clear hcm
  have HF := Lib.hid hf
  clear hf
  unfold CALLA scells
  simp only
  have hA1 := hA.next ((Below.refl _ _).alloc (Nat.le_refl _) (.cells (scells ⟨8, en, e2, es, e4, e5, em, e7, e8, e9⟩ ⟨r0, r1, r2, r3⟩ v) 55))
  have hC1 := Blk.new w 55 (scells ⟨8, en, e2, es, e4, e5, em, e7, e8, e9⟩ ⟨r0, r1, r2, r3⟩ v)
  obtain ⟨g, hg⟩ : ∃ g, g = w.heap.size := ⟨_, rfl⟩
  rw [← hg] at hC1
  go_enter Try.func46, Try.ntmps46
  go_wp2_with fail
  rw [← hg]
  generalize w.alloc _ = W at hA1 hC1 ⊢
  have HA1 := Lib.hid hA1
  have HC1 := Lib.hid hC1
  clear hA hA1 hC1 hg
  have ca0 := HA1.out.aud.cell 0
  have ca1 := HA1.out.aud.cell 1
  have ca2 := HA1.out.aud.cell 2
  have cc0 := HC1.out.cell 0
  have cc1 := HC1.out.cell 1
  have cc3 := HC1.out.cell 3
  have cc6 := HC1.out.cell 6
  have hlk := HA1.out.look hn (v := (s.find en).elim (.pointer none) (fun t => .pointer (some ⟨blk t.id, 0, none⟩))) rfl
  rw [HF.out] at hlk
  simp only [Option.elim] at hlk
  go_quiet (fail)
  clear hlk
  clear ca0 ca1 ca2 cc0 cc1 cc3 cc6
  generalize hgen : W.drewN _ = W2
  have hA1 : AWb F w0 a b1 b2 b3 N blk s W2 := by rw [← hgen]; exact HA1.out.next (below_drewN (Below.refl _ _) _)
  have hC1 : Blk W2 g 55 (scells ⟨8, en, e2, es, e4, e5, em, e7, e8, e9⟩ ⟨r0, r1, r2, r3⟩ v) := by rw [← hgen]; exact HC1.out.drewN _
  clear hgen HA1 HC1
  have HA1 := Lib.hid hA1
  have HC1 := Lib.hid hC1
  clear hA1 hC1
  have ca0 := HA1.out.aud.cell 0
  have ca1 := HA1.out.aud.cell 1
  have ca2 := HA1.out.aud.cell 2
  have cc0 := HC1.out.cell 0
  have cc1 := HC1.out.cell 1
  have cc3 := HC1.out.cell 3
  have cc6 := HC1.out.cell 6
  have hmt := find_mem HF.out
  have hbt := HA1.out.th t hmt.1
  have ct2 : W2.cell? ⟨blk t.id, 2, none⟩ = some (.bool t.busy) := hbt.cell 2
  have ct3 : W2.cell? ⟨blk t.id, 3, none⟩ = some (.bool t.boots) := hbt.cell 3
  have cf2 := hbt.frozen 2
  have cf3 := hbt.frozen 3
  have HMT := Lib.hid hmt
  clear hmt hbt
  go_wp2
  go_still_tail 7, (by kernel_rfl)
  have hA2 := HA1.out.drew
  change wpList _ _ _ _ _ W2.drew
  generalize W2.drew = W4 at hA2 ⊢
  refine MapI.wp_del _ rfl _ _ 74 3 rfl 101 Try.underlying3 Try.underlying74 b1 N _ rfl hA2.m1 en rfl hn ?_
  intro w5 hm5 hg5 _
  have hA5 := (hA2.del en hm5 hg5).mono (show N ≤ N + 1 by omega)
  have HA5 := Lib.hid hA5
  clear hA2 hm5 hg5 hA5
  go_wp2
  go_ret
  exact Out.yes rfl rfl HA5.out
set_option maxHeartbeats 4000000 in
set_option maxRecDepth 100000 in
theorem ahead_else (F : Nat → Prop) (w0 : World) (a b1 b2 b3 N : Nat) (blk : Int → Nat) (s : AS) (KK en e2 es e4 e5 em e7 e8 e9 r0 r1 r2 r3 : Int) (v : Value) (w : World) (hA : AWb F w0 a b1 b2 b3 N blk s w) (hN : N ≤ 100000) (hn : W64 en) (hk2 : ¬ KK = 2) (hk3 : ¬ KK = 3) (hk5 : ¬ KK = 5) (hk7 : ¬ KK = 7) (hk8 : ¬ KK = 8) (hk9 : ¬ KK = 9) : CALLA a ⟨KK, en, e2, es, e4, e5, em, e7, e8, e9⟩ ⟨r0, r1, r2, r3⟩ v w (Out F w0 a b1 b2 b3 (N + 1) (s.ahead ⟨KK, en, e2, es, e4, e5, em, e7, e8, e9⟩)) := by
  have hcm : s.ahead ⟨KK, en, e2, es, e4, e5, em, e7, e8, e9⟩ = some s := by unfold AS.ahead; rw [if_neg hk3, if_neg hk2, if_neg hk7, if_neg hk9, if_neg hk8, if_neg hk5]
  rw [hcm]
  clear hcm
  unfold CALLA scells
  simp only
  have hA1 := hA.next ((Below.refl _ _).alloc (Nat.le_refl _) (.cells (scells ⟨KK, en, e2, es, e4, e5, em, e7, e8, e9⟩ ⟨r0, r1, r2, r3⟩ v) 55))
  have hC1 := Blk.new w 55 (scells ⟨KK, en, e2, es, e4, e5, em, e7, e8, e9⟩ ⟨r0, r1, r2, r3⟩ v)
  obtain ⟨g, hg⟩ : ∃ g, g = w.heap.size := ⟨_, rfl⟩
  rw [← hg] at hC1
  go_enter Try.func46, Try.ntmps46
  go_wp2_with fail
  rw [← hg]
  generalize w.alloc _ = W at hA1 hC1 ⊢
  have HA1 := Lib.hid hA1
  have HC1 := Lib.hid hC1
  clear hA hA1 hC1 hg
  have ca0 := HA1.out.aud.cell 0
  have ca1 := HA1.out.aud.cell 1
  have ca2 := HA1.out.aud.cell 2
  have cc0 := HC1.out.cell 0
  have cc1 := HC1.out.cell 1
  have cc3 := HC1.out.cell 3
  have cc6 := HC1.out.cell 6
  have hlk := HA1.out.look hn (v := (s.find en).elim (.pointer none) (fun t => .pointer (some ⟨blk t.id, 0, none⟩))) rfl
  obtain ⟨bv, hbv⟩ : ∃ v : Value, v = (s.find en).elim (.pointer none) (fun t => .pointer (some ⟨blk t.id, 0, none⟩)) := ⟨_, rfl⟩
  rw [← hbv] at hlk
  clear hbv
  go_quiet (fail)
  clear hlk
  clear ca0 ca1 ca2 cc0 cc1 cc3 cc6
  generalize hgen : W.drewN _ = W2
  have hA1 : AWb F w0 a b1 b2 b3 N blk s W2 := by rw [← hgen]; exact HA1.out.next (below_drewN (Below.refl _ _) _)
  have hC1 : Blk W2 g 55 (scells ⟨KK, en, e2, es, e4, e5, em, e7, e8, e9⟩ ⟨r0, r1, r2, r3⟩ v) := by rw [← hgen]; exact HC1.out.drewN _
  clear hgen HA1 HC1
  have HA1 := Lib.hid hA1
  have HC1 := Lib.hid hC1
  clear hA1 hC1
  have ca0 := HA1.out.aud.cell 0
  have ca1 := HA1.out.aud.cell 1
  have ca2 := HA1.out.aud.cell 2
  have cc0 := HC1.out.cell 0
  have cc1 := HC1.out.cell 1
  have cc3 := HC1.out.cell 3
  have cc6 := HC1.out.cell 6
  have k2 : (KK == 2) = false := beq_eq_false_iff_ne.2 hk2
  have k3 : (KK == 3) = false := beq_eq_false_iff_ne.2 hk3
  have k5 : (KK == 5) = false := beq_eq_false_iff_ne.2 hk5
  have k7 : (KK == 7) = false := beq_eq_false_iff_ne.2 hk7
  have k8 : (KK == 8) = false := beq_eq_false_iff_ne.2 hk8
  have k9 : (KK == 9) = false := beq_eq_false_iff_ne.2 hk9
  have HT := Lib.hid (HA1.out.mono (show N ≤ N + 1 by omega))
  go_wp2
  go_ret
  exact Out.yes rfl rfl HT.out
end Go.Proofs.Ytopbhdpfakjkjaa.Aud
