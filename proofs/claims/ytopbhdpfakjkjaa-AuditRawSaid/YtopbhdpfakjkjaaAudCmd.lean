/- Proved: what the auditor's command answers and leaves. -/
import Derived.Test.YtopbhdpfakjkjaaAud
import Derived.StillTailTactics
namespace Go.Proofs.Ytopbhdpfakjkjaa.Aud
open Go.RowKit Go.Proofs.Ytopbhdpfakjkjaa.Histo Go.Proofs.Ytopbhdpfakjkjaa.Event Go.Proofs.Ytopbhdpfakjkjaa.Ring
set_option linter.unusedVariables false
open Go.Proofs.Ytopbhdpfakjkjaa.MapI (AL At Rng W64)

/-- A command. -/
structure Cmd where
  boot : Bool
  box : Int
  fn : Int
  host : Int
def Cmd.cells (c : Cmd) : Array Value := #[.bool c.boot, .int .i64 c.box, .int .i64 c.fn, .int .i64 c.host]
def AS.find (s : AS) (id : Int) : Option Th := s.boxes.find? (fun t => t.id == id)
def AS.drop (s : AS) (id : Int) : AS := { s with boxes := s.boxes.filter (fun t => t.id != id) }
/-- What a command leaves; none: it may not be. -/
def AS.command (s : AS) (c : Cmd) : Option AS :=
  if c.boot = false then
    match s.find c.box with
    | none => none
    | some t => if t.busy = true ∨ t.fn ≠ c.fn ∨ t.host ≠ c.host then none else some (s.drop c.box)
  else if c.box ≠ s.next ∨ (MapI.get s.mem c.fn).isSome = false ∨ num s.size c.host < sumMem s.mem c.host s.boxes + num s.mem c.fn then none
  else some { s with boxes := s.boxes ++ [⟨c.box, c.fn, c.host, false, true⟩], next := s.next + 1 }
structure Inv (s : AS) (N : Nat) : Prop where
  ids : ∀ t ∈ s.boxes, t.id < s.next
  n1 : 1 ≤ s.next
  n2 : s.next ≤ N + 1
/-- It may not be; or the auditor is so behind it. -/
def Out (F : Nat → Prop) (w0 : World) (a b1 b2 b3 N : Nat) (r : Option AS) (e : Ending) (w' : World) : Prop :=
  (r = none ∧ e = .returned (.bool false) ∧ Only F w0 w') ∨ ∃ s blk, r = some s ∧ e = .returned (.bool true) ∧ AWb F w0 a b1 b2 b3 N blk s w'
theorem Out.no {F : Nat → Prop} {w0 w' : World} {a b1 b2 b3 N : Nat} {r : Option AS} {b : Bool} (h : r = none) (hb : b = false) (hw : Only F w0 w') : Out F w0 a b1 b2 b3 N r (.returned (.bool b)) w' := by subst hb; exact .inl ⟨h, rfl, hw⟩
theorem Out.yes {F : Nat → Prop} {w0 w' : World} {a b1 b2 b3 N : Nat} {r : Option AS} {b : Bool} {s : AS} {blk : Int → Nat} (h : r = some s) (hb : b = true) (hw : AWb F w0 a b1 b2 b3 N blk s w') : Out F w0 a b1 b2 b3 N r (.returned (.bool b)) w' := by subst hb; exact .inr ⟨s, blk, h, rfl, hw⟩

theorem AWb.next {F : Nat → Prop} {w0 w w' : World} {a b1 b2 b3 N : Nat} {blk : Int → Nat} {s : AS} (h : AWb F w0 a b1 b2 b3 N blk s w) (hb : Below w.heap.size w w') : AWb F w0 a b1 b2 b3 N blk s w' :=
  ⟨h.aud.below hb h.aud.lt, h.m1.same (hb.block _ h.m1.lt), h.m2.same (hb.block _ h.m2.lt), h.m3.same (hb.block _ h.m3.lt), fun t ht => (h.th t ht).below hb (h.th t ht).lt, h.inj, h.d12, h.d13, h.d23, h.below.next hb, h.hF, h.na, h.nt, h.wf, h.sz, h.me⟩
theorem AWb.mono {F : Nat → Prop} {w0 w : World} {a b1 b2 b3 N M : Nat} {blk : Int → Nat} {s : AS} (h : AWb F w0 a b1 b2 b3 N blk s w) (hm : N ≤ M) : AWb F w0 a b1 b2 b3 M blk s w :=
  ⟨h.aud, h.m1.mono hm, h.m2.mono hm, h.m3.mono hm, h.th, h.inj, h.d12, h.d13, h.d23, h.below, h.hF, h.na, h.nt, h.wf, h.sz, h.me⟩
theorem map_blk_ne {P : Program} {k : TypeId} {w : World} {b n g : Nat} {l : AL} {t : TypeId} {cs : Array Value} (h : At P k w b n l) (h' : Blk w g t cs) : g ≠ b := by
  intro e
  subst e
  obtain ⟨es, clock, h1, _⟩ := h
  unfold Blk at h'
  rw [h1] at h'
  cases h'
theorem ents_del (blk : Int → Nat) (l : List Th) (x : Int) : MapI.del (ents blk l) x = ents blk (l.filter fun t => t.id != x) := by
  unfold MapI.del ents
  rw [List.filter_map]
  rfl
/-- A sandbox is struck from the map. -/
theorem AWb.del {F : Nat → Prop} {w0 w w' : World} {a b1 b2 b3 N : Nat} {blk : Int → Nat} {s : AS} (h : AWb F w0 a b1 b2 b3 N blk s w) (x : Int) (hm : At Try.prog 3 w' b1 N (MapI.del (ents blk s.boxes) x)) (hg : w.grownBy w' (some b1)) : AWb F w0 a b1 b2 b3 N blk (s.drop x) w' := by
  have hsub : ∀ t ∈ (s.drop x).boxes, t ∈ s.boxes := fun t ht => (List.mem_filter.1 ht).1
  refine ⟨h.aud.grown hg (fun e => map_blk_ne h.m1 h.aud (by injection e)), by rw [ents_del] at hm; exact hm, h.m2.same (hg.block _ h.m2.lt (fun e => h.d12 (by injection e with e; exact e.symm))), h.m3.same (hg.block _ h.m3.lt (fun e => h.d13 (by injection e with e; exact e.symm))),
    fun t ht => (h.th t (hsub t ht)).grown hg (fun e => map_blk_ne h.m1 (h.th t (hsub t ht)) (by injection e)), fun t ht u hu => h.inj t (hsub t ht) u (hsub u hu), h.d12, h.d13, h.d23, h.below.grown hg (fun k e => by injection e with e; subst e; exact h.na.2.1), h.hF, h.na, fun t ht => h.nt t (hsub t ht), fun t ht => h.wf t (hsub t ht), h.sz, h.me⟩
theorem find_mem {s : AS} {id : Int} {t : Th} (h : s.find id = some t) : t ∈ s.boxes ∧ t.id = id := ⟨List.mem_of_find?_eq_some h, by simpa using List.find?_some h⟩
theorem AWb.look {F : Nat → Prop} {w0 w : World} {a b1 b2 b3 N : Nat} {blk : Int → Nat} {s : AS} (h : AWb F w0 a b1 b2 b3 N blk s w) {x : Int} (hx : W64 x) {v : Value} (hv : (s.find x).elim (.pointer none) (fun t => .pointer (some ⟨blk t.id, 0, none⟩)) = v) (n : Nat) :
    (Instr.lookup 74 (.map (some b1)) (.int .i64 x) false).run Try.prog (w.drewN n) = .ok v (w.drewN n) := by
  have := (h.m1.drewN n).look (t := 74) Try.underlying3 Try.underlying74 (zero_ptr _) hx
  rw [this, ents_get, ← hv]
  unfold AS.find
  cases s.boxes.find? (fun t => t.id == x) <;> rfl

abbrev CALLC (a : Nat) (c : Cmd) (w : World) (Q : Ending → World → Prop) := Calls Try.prog 47 #[.pointer (some ⟨a, 0, none⟩), .agg #[.bool c.boot, .int .i64 c.box, .int .i64 c.fn, .int .i64 c.host]] w Q
set_option maxHeartbeats 4000000 in
set_option maxRecDepth 100000 in
theorem kill_none (F : Nat → Prop) (w0 : World) (a b1 b2 b3 N : Nat) (blk : Int → Nat) (s : AS) (cx cf ch : Int) (w : World) (hA : AWb F w0 a b1 b2 b3 N blk s w) (hx : W64 cx) (hf : s.find cx = none) : CALLC a ⟨false, cx, cf, ch⟩ w (Out F w0 a b1 b2 b3 N (s.command ⟨false, cx, cf, ch⟩)) := by
  have hcm : s.command ⟨false, cx, cf, ch⟩ = none := by unfold AS.command; rw [if_pos rfl]; simp only [hf]
  rw [hcm]
  clear hcm
  unfold CALLC
  simp only
  have hA1 := hA.next ((Below.refl _ _).alloc (Nat.le_refl _) (.cells #[.bool false, .int .i64 cx, .int .i64 cf, .int .i64 ch] 59))
  have hC1 := Blk.new w 59 #[.bool false, .int .i64 cx, .int .i64 cf, .int .i64 ch]
  obtain ⟨g, hg⟩ : ∃ g, g = w.heap.size := ⟨_, rfl⟩
  rw [← hg] at hC1
  go_enter Try.func47, Try.ntmps47
  go_wp2_with fail
  rw [← hg]
  generalize w.alloc _ = W at hA1 hC1 ⊢
  have HA1 := Lib.hid hA1
  have HC1 := Lib.hid hC1
  clear hA hA1 hC1 hg
  have ca0 := HA1.out.aud.cell 0
  have cc0 := HC1.out.cell 0
  have cc1 := HC1.out.cell 1
  have cc2 := HC1.out.cell 2
  have cc3 := HC1.out.cell 3
  have hlk := HA1.out.look hx (v := .pointer none) (by rw [hf]; rfl)
  have HF := Lib.hid hf
  clear hf
  go_quiet (fail)
  clear hlk ca0 cc0 cc1 cc2 cc3
  generalize hgen : W.drewN _ = W2
  have hA1 : AWb F w0 a b1 b2 b3 N blk s W2 := by rw [← hgen]; exact HA1.out.next (below_drewN (Below.refl _ _) _)
  have hC1 : Blk W2 g 59 #[.bool false, .int .i64 cx, .int .i64 cf, .int .i64 ch] := by rw [← hgen]; exact HC1.out.drewN _
  clear hgen HA1 HC1
  have HA1 := Lib.hid hA1
  have HC1 := Lib.hid hC1
  clear hA1 hC1
  have ca0 := HA1.out.aud.cell 0
  have cc0 := HC1.out.cell 0
  have cc1 := HC1.out.cell 1
  have cc2 := HC1.out.cell 2
  have cc3 := HC1.out.cell 3
  go_wp2
  go_quiet (fail)
  go_wp2
  go_ret
  exact Out.no rfl rfl (HA1.out.below.drewN _)
set_option maxHeartbeats 4000000 in
set_option maxRecDepth 100000 in
theorem kill_busy (F : Nat → Prop) (w0 : World) (a b1 b2 b3 N : Nat) (blk : Int → Nat) (s : AS) (cx cf ch : Int) (t : Th) (w : World) (hA : AWb F w0 a b1 b2 b3 N blk s w) (hx : W64 cx) (hf : s.find cx = some t) (hb : t.busy = true) : CALLC a ⟨false, cx, cf, ch⟩ w (Out F w0 a b1 b2 b3 N (s.command ⟨false, cx, cf, ch⟩)) := by
  have hcm : s.command ⟨false, cx, cf, ch⟩ = none := by unfold AS.command; rw [if_pos rfl]; simp only [hf]; rw [if_pos (.inl hb)]
  rw [hcm]
  clear hcm
  unfold CALLC
  simp only
  have hA1 := hA.next ((Below.refl _ _).alloc (Nat.le_refl _) (.cells #[.bool false, .int .i64 cx, .int .i64 cf, .int .i64 ch] 59))
  have hC1 := Blk.new w 59 #[.bool false, .int .i64 cx, .int .i64 cf, .int .i64 ch]
  obtain ⟨g, hg⟩ : ∃ g, g = w.heap.size := ⟨_, rfl⟩
  rw [← hg] at hC1
  go_enter Try.func47, Try.ntmps47
  go_wp2_with fail
  rw [← hg]
  generalize w.alloc _ = W at hA1 hC1 ⊢
  have HA1 := Lib.hid hA1
  have HC1 := Lib.hid hC1
  clear hA hA1 hC1 hg
  have ca0 := HA1.out.aud.cell 0
  have cc0 := HC1.out.cell 0
  have cc1 := HC1.out.cell 1
  have cc2 := HC1.out.cell 2
  have cc3 := HC1.out.cell 3
  have hlk := HA1.out.look hx (v := .pointer (some ⟨blk t.id, 0, none⟩)) (by rw [hf]; rfl)
  have HF := Lib.hid hf
  clear hf
  go_quiet (fail)
  clear hlk ca0 cc0 cc1 cc2 cc3
  generalize hgen : W.drewN _ = W2
  have hA1 : AWb F w0 a b1 b2 b3 N blk s W2 := by rw [← hgen]; exact HA1.out.next (below_drewN (Below.refl _ _) _)
  have hC1 : Blk W2 g 59 #[.bool false, .int .i64 cx, .int .i64 cf, .int .i64 ch] := by rw [← hgen]; exact HC1.out.drewN _
  clear hgen HA1 HC1
  have HA1 := Lib.hid hA1
  have HC1 := Lib.hid hC1
  clear hA1 hC1
  have ca0 := HA1.out.aud.cell 0
  have cc0 := HC1.out.cell 0
  have cc1 := HC1.out.cell 1
  have cc2 := HC1.out.cell 2
  have cc3 := HC1.out.cell 3
  have hmt := find_mem HF.out
  have hbt := HA1.out.th t hmt.1
  have ct0 : W2.cell? ⟨blk t.id, 0, none⟩ = some (.int .i64 t.fn) := hbt.cell 0
  have ct1 : W2.cell? ⟨blk t.id, 1, none⟩ = some (.int .i64 t.host) := hbt.cell 1
  have ct2 : W2.cell? ⟨blk t.id, 2, none⟩ = some (.bool t.busy) := hbt.cell 2
  clear hmt hbt
  go_wp2
  go_quiet (fail)
  go_wp2
  go_ret
  exact Out.no rfl rfl (HA1.out.below.drewN _)
set_option maxHeartbeats 4000000 in
set_option maxRecDepth 100000 in
theorem kill_fn (F : Nat → Prop) (w0 : World) (a b1 b2 b3 N : Nat) (blk : Int → Nat) (s : AS) (cx cf ch : Int) (t : Th) (w : World) (hA : AWb F w0 a b1 b2 b3 N blk s w) (hx : W64 cx) (hf : s.find cx = some t) (hb : t.busy = false) (hn : t.fn ≠ cf) : CALLC a ⟨false, cx, cf, ch⟩ w (Out F w0 a b1 b2 b3 N (s.command ⟨false, cx, cf, ch⟩)) := by
  have hcm : s.command ⟨false, cx, cf, ch⟩ = none := by unfold AS.command; rw [if_pos rfl]; simp only [hf]; rw [if_pos (.inr (.inl hn))]
  rw [hcm]
  clear hcm
  unfold CALLC
  simp only
  have hA1 := hA.next ((Below.refl _ _).alloc (Nat.le_refl _) (.cells #[.bool false, .int .i64 cx, .int .i64 cf, .int .i64 ch] 59))
  have hC1 := Blk.new w 59 #[.bool false, .int .i64 cx, .int .i64 cf, .int .i64 ch]
  obtain ⟨g, hg⟩ : ∃ g, g = w.heap.size := ⟨_, rfl⟩
  rw [← hg] at hC1
  go_enter Try.func47, Try.ntmps47
  go_wp2_with fail
  rw [← hg]
  generalize w.alloc _ = W at hA1 hC1 ⊢
  have HA1 := Lib.hid hA1
  have HC1 := Lib.hid hC1
  clear hA hA1 hC1 hg
  have ca0 := HA1.out.aud.cell 0
  have cc0 := HC1.out.cell 0
  have cc1 := HC1.out.cell 1
  have cc2 := HC1.out.cell 2
  have cc3 := HC1.out.cell 3
  have hlk := HA1.out.look hx (v := .pointer (some ⟨blk t.id, 0, none⟩)) (by rw [hf]; rfl)
  have HF := Lib.hid hf
  clear hf
  go_quiet (fail)
  clear hlk ca0 cc0 cc1 cc2 cc3
  generalize hgen : W.drewN _ = W2
  have hA1 : AWb F w0 a b1 b2 b3 N blk s W2 := by rw [← hgen]; exact HA1.out.next (below_drewN (Below.refl _ _) _)
  have hC1 : Blk W2 g 59 #[.bool false, .int .i64 cx, .int .i64 cf, .int .i64 ch] := by rw [← hgen]; exact HC1.out.drewN _
  clear hgen HA1 HC1
  have HA1 := Lib.hid hA1
  have HC1 := Lib.hid hC1
  clear hA1 hC1
  have ca0 := HA1.out.aud.cell 0
  have cc0 := HC1.out.cell 0
  have cc1 := HC1.out.cell 1
  have cc2 := HC1.out.cell 2
  have cc3 := HC1.out.cell 3
  have hmt := find_mem HF.out
  have hbt := HA1.out.th t hmt.1
  have ct0 : W2.cell? ⟨blk t.id, 0, none⟩ = some (.int .i64 t.fn) := hbt.cell 0
  have ct1 : W2.cell? ⟨blk t.id, 1, none⟩ = some (.int .i64 t.host) := hbt.cell 1
  have ct2 : W2.cell? ⟨blk t.id, 2, none⟩ = some (.bool t.busy) := hbt.cell 2
  clear hmt hbt
  have d1 : (t.fn == cf) = false := beq_eq_false_iff_ne.2 hn
  have d1' : (t.fn != cf) = true := by simp [bne, d1]
  clear hn
  go_wp2
  go_quiet (fail)
  go_wp2
  go_ret
  exact Out.no rfl rfl (HA1.out.below.drewN _)
set_option maxHeartbeats 4000000 in
set_option maxRecDepth 100000 in
theorem kill_host (F : Nat → Prop) (w0 : World) (a b1 b2 b3 N : Nat) (blk : Int → Nat) (s : AS) (cx cf ch : Int) (t : Th) (w : World) (hA : AWb F w0 a b1 b2 b3 N blk s w) (hx : W64 cx) (hf : s.find cx = some t) (hb : t.busy = false) (hn : t.fn = cf) (hh : t.host ≠ ch) : CALLC a ⟨false, cx, cf, ch⟩ w (Out F w0 a b1 b2 b3 N (s.command ⟨false, cx, cf, ch⟩)) := by
  have hcm : s.command ⟨false, cx, cf, ch⟩ = none := by unfold AS.command; rw [if_pos rfl]; simp only [hf]; rw [if_pos (.inr (.inr hh))]
  rw [hcm]
  clear hcm
  unfold CALLC
  simp only
  have hA1 := hA.next ((Below.refl _ _).alloc (Nat.le_refl _) (.cells #[.bool false, .int .i64 cx, .int .i64 cf, .int .i64 ch] 59))
  have hC1 := Blk.new w 59 #[.bool false, .int .i64 cx, .int .i64 cf, .int .i64 ch]
  obtain ⟨g, hg⟩ : ∃ g, g = w.heap.size := ⟨_, rfl⟩
  rw [← hg] at hC1
  go_enter Try.func47, Try.ntmps47
  go_wp2_with fail
  rw [← hg]
  generalize w.alloc _ = W at hA1 hC1 ⊢
  have HA1 := Lib.hid hA1
  have HC1 := Lib.hid hC1
  clear hA hA1 hC1 hg
  have ca0 := HA1.out.aud.cell 0
  have cc0 := HC1.out.cell 0
  have cc1 := HC1.out.cell 1
  have cc2 := HC1.out.cell 2
  have cc3 := HC1.out.cell 3
  have hlk := HA1.out.look hx (v := .pointer (some ⟨blk t.id, 0, none⟩)) (by rw [hf]; rfl)
  have HF := Lib.hid hf
  clear hf
  go_quiet (fail)
  clear hlk ca0 cc0 cc1 cc2 cc3
  generalize hgen : W.drewN _ = W2
  have hA1 : AWb F w0 a b1 b2 b3 N blk s W2 := by rw [← hgen]; exact HA1.out.next (below_drewN (Below.refl _ _) _)
  have hC1 : Blk W2 g 59 #[.bool false, .int .i64 cx, .int .i64 cf, .int .i64 ch] := by rw [← hgen]; exact HC1.out.drewN _
  clear hgen HA1 HC1
  have HA1 := Lib.hid hA1
  have HC1 := Lib.hid hC1
  clear hA1 hC1
  have ca0 := HA1.out.aud.cell 0
  have cc0 := HC1.out.cell 0
  have cc1 := HC1.out.cell 1
  have cc2 := HC1.out.cell 2
  have cc3 := HC1.out.cell 3
  have hmt := find_mem HF.out
  have hbt := HA1.out.th t hmt.1
  have ct0 : W2.cell? ⟨blk t.id, 0, none⟩ = some (.int .i64 t.fn) := hbt.cell 0
  have ct1 : W2.cell? ⟨blk t.id, 1, none⟩ = some (.int .i64 t.host) := hbt.cell 1
  have ct2 : W2.cell? ⟨blk t.id, 2, none⟩ = some (.bool t.busy) := hbt.cell 2
  clear hmt hbt
  have d1 : (t.fn == cf) = true := by rw [hn]; simp
  have d1' : (t.fn != cf) = false := by simp [bne, d1]
  have d2 : (t.host == ch) = false := beq_eq_false_iff_ne.2 hh
  have d2' : (t.host != ch) = true := by simp [bne, d2]
  clear hn hh
  go_wp2
  go_quiet (fail)
  go_wp2
  go_ret
  exact Out.no rfl rfl (HA1.out.below.drewN _)
set_option maxHeartbeats 4000000 in
set_option maxRecDepth 100000 in
theorem kill_yes (F : Nat → Prop) (w0 : World) (a b1 b2 b3 N : Nat) (blk : Int → Nat) (s : AS) (cx cf ch : Int) (t : Th) (w : World) (hA : AWb F w0 a b1 b2 b3 N blk s w) (hx : W64 cx) (hf : s.find cx = some t) (hb : t.busy = false) (hn : t.fn = cf) (hh : t.host = ch) : CALLC a ⟨false, cx, cf, ch⟩ w (Out F w0 a b1 b2 b3 N (s.command ⟨false, cx, cf, ch⟩)) := by
  have hcm : s.command ⟨false, cx, cf, ch⟩ = some (s.drop cx) := by unfold AS.command; rw [if_pos rfl]; simp only [hf]; rw [if_neg (by simp [hb, hn, hh])]
  rw [hcm]
  clear hcm
  unfold CALLC
  simp only
  have hA1 := hA.next ((Below.refl _ _).alloc (Nat.le_refl _) (.cells #[.bool false, .int .i64 cx, .int .i64 cf, .int .i64 ch] 59))
  have hC1 := Blk.new w 59 #[.bool false, .int .i64 cx, .int .i64 cf, .int .i64 ch]
  obtain ⟨g, hg⟩ : ∃ g, g = w.heap.size := ⟨_, rfl⟩
  rw [← hg] at hC1
  go_enter Try.func47, Try.ntmps47
  go_wp2_with fail
  rw [← hg]
  generalize w.alloc _ = W at hA1 hC1 ⊢
  have HA1 := Lib.hid hA1
  have HC1 := Lib.hid hC1
  clear hA hA1 hC1 hg
  have ca0 := HA1.out.aud.cell 0
  have cc0 := HC1.out.cell 0
  have cc1 := HC1.out.cell 1
  have cc2 := HC1.out.cell 2
  have cc3 := HC1.out.cell 3
  have hlk := HA1.out.look hx (v := .pointer (some ⟨blk t.id, 0, none⟩)) (by rw [hf]; rfl)
  have HF := Lib.hid hf
  clear hf
  go_quiet (fail)
  clear hlk ca0 cc0 cc1 cc2 cc3
  generalize hgen : W.drewN _ = W2
  have hA1 : AWb F w0 a b1 b2 b3 N blk s W2 := by rw [← hgen]; exact HA1.out.next (below_drewN (Below.refl _ _) _)
  have hC1 : Blk W2 g 59 #[.bool false, .int .i64 cx, .int .i64 cf, .int .i64 ch] := by rw [← hgen]; exact HC1.out.drewN _
  clear hgen HA1 HC1
  have HA1 := Lib.hid hA1
  have HC1 := Lib.hid hC1
  clear hA1 hC1
  have ca0 := HA1.out.aud.cell 0
  have cc0 := HC1.out.cell 0
  have cc1 := HC1.out.cell 1
  have cc2 := HC1.out.cell 2
  have cc3 := HC1.out.cell 3
  have hmt := find_mem HF.out
  have hbt := HA1.out.th t hmt.1
  have ct0 : W2.cell? ⟨blk t.id, 0, none⟩ = some (.int .i64 t.fn) := hbt.cell 0
  have ct1 : W2.cell? ⟨blk t.id, 1, none⟩ = some (.int .i64 t.host) := hbt.cell 1
  have ct2 : W2.cell? ⟨blk t.id, 2, none⟩ = some (.bool t.busy) := hbt.cell 2
  clear hmt hbt
  have d1 : (t.fn == cf) = true := by rw [hn]; simp
  have d1' : (t.fn != cf) = false := by simp [bne, d1]
  have d2 : (t.host == ch) = true := by rw [hh]; simp
  have d2' : (t.host != ch) = false := by simp [bne, d2]
  clear hn hh
  go_wp2
  go_quiet (fail)
  go_wp2
  clear ct0 ct1 ct2 ca0 cc0 cc1 cc2 cc3 hb d1 d2 d1' d2'
  generalize hgen : W2.drewN _ = W3
  have hA1 : AWb F w0 a b1 b2 b3 N blk s W3 := by rw [← hgen]; exact HA1.out.next (below_drewN (Below.refl _ _) _)
  have hC1 : Blk W3 g 59 #[.bool false, .int .i64 cx, .int .i64 cf, .int .i64 ch] := by rw [← hgen]; exact HC1.out.drewN _
  clear hgen HA1 HC1
  have HA1 := Lib.hid hA1
  have HC1 := Lib.hid hC1
  clear hA1 hC1
  have ca0 := HA1.out.aud.cell 0
  have cc0 := HC1.out.cell 0
  have cc1 := HC1.out.cell 1
  have cc2 := HC1.out.cell 2
  have cc3 := HC1.out.cell 3
  go_still_tail 6, (by kernel_rfl)
  have hA2 := HA1.out.next ((Below.refl W3.heap.size W3).drew)
  change wpList _ _ _ _ _ W3.drew
  generalize W3.drew = W4 at hA2 ⊢
  have HA4 := Lib.hid hA2
  refine MapI.wp_del _ rfl _ _ 74 3 rfl 101 Try.underlying3 Try.underlying74 b1 N _ rfl hA2.m1 cx rfl hx ?_
  intro w5 hm5 hg5 _
  have hA5 := hA2.del cx hm5 hg5
  have HA5 := Lib.hid hA5
  clear hA2 hm5 hg5 hA5
  go_wp2
  go_ret
  exact Out.yes rfl rfl HA5.out
end Go.Proofs.Ytopbhdpfakjkjaa.Aud
