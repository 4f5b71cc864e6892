/- Proved: what the auditor's step answers and leaves, and which step audit.First tells. -/
import Derived.Test.YtopbhdpfakjkjaaAudCall
namespace Go.Proofs.Ytopbhdpfakjkjaa.Aud
open Go.RowKit Go.Proofs.Ytopbhdpfakjkjaa.Histo Go.Proofs.Ytopbhdpfakjkjaa.Event Go.Proofs.Ytopbhdpfakjkjaa.Ring
set_option linter.unusedVariables false
open Go.Proofs.Ytopbhdpfakjkjaa.MapI (AL At Rng W64 At.alloc At.drew)

/-- A step. -/
structure Stp where
  ev : Ev
  ans : Ans
  cmds : List Cmd
def AS.cmds (s : AS) : List Cmd → Option AS | [] => some s | c :: r => match s.command c with | none => none | some s' => s'.cmds r
def AS.tell (o : Option AS) (e : Ev) (r : Ans) (n : Nat) : Option AS := match o with | none => none | some s2 => s2.call e r n
def AS.step (s : AS) (x : Stp) : Option AS :=
  if x.ev.right = false then none
  else if x.ans.right = false then none
  else if x.ans.kind = 1 then (if x.cmds.length = 0 then some s else none)
  else match (if x.ev.k = 6 then some s else if x.ans.kind ≠ 0 then none else s.ahead x.ev) with
    | none => none
    | some s1 => match s1.cmds x.cmds with
      | none => none
      | some s2 => if x.ev.k = 6 then s2.call x.ev x.ans x.cmds.length else some s2
theorem AS.cmds_snoc (l : List Cmd) (c : Cmd) : ∀ s : AS, s.cmds (l ++ [c]) = match s.cmds l with | none => none | some s' => s'.command c := by
  induction l with
  | nil => intro s; simp only [List.nil_append, AS.cmds]; cases s.command c <;> rfl
  | cons d r ih =>
    intro s
    simp only [List.cons_append, AS.cmds]
    cases s.command d with
    | none => rfl
    | some s' => exact ih s'
theorem AS.cmds_none {l : List Cmd} {s : AS} {n : Nat} (h : s.cmds (l.take n) = none) : s.cmds l = none := by
  induction l generalizing s n with
  | nil => simp at h; exact h
  | cons d r ih =>
    cases n with
    | zero => simp [AS.cmds] at h
    | succ n =>
      simp only [List.take_succ_cons, AS.cmds] at h ⊢
      cases hd : s.command d with
      | none => rfl
      | some s' => rw [hd] at h; exact ih h
/-! ### what is kept -/
theorem Inv.mono {s : AS} {N M : Nat} (h : Inv s N) (hm : N ≤ M) : Inv s M := ⟨h.ids, h.n1, by have := h.n2; omega⟩
theorem Inv.command {s s' : AS} {N : Nat} {c : Cmd} (h : Inv s N) (hc : s.command c = some s') : Inv s' (N + 1) := by
  unfold AS.command at hc
  split at hc
  · split at hc
    · cases hc
    · split at hc
      · cases hc
      · injection hc with hc; subst hc
        exact ⟨fun t ht => h.ids t (List.mem_filter.1 ht).1, h.n1, by have := h.n2; show s.next ≤ _; omega⟩
  · split at hc
    · cases hc
    · next hn =>
      injection hc with hc; subst hc
      have hb : c.box = s.next := by
        by_cases e : c.box = s.next
        · exact e
        · exact absurd (.inl e) hn
      refine ⟨fun t ht => ?_, by have := h.n1; show 1 ≤ s.next + 1; omega, by have := h.n2; show s.next + 1 ≤ _; omega⟩
      rcases List.mem_append.1 ht with ht | ht
      · have := h.ids t ht; show t.id < s.next + 1; omega
      · rw [List.mem_singleton] at ht; subst ht; show c.box < s.next + 1; omega
theorem Inv.sub {s : AS} {N : Nat} (h : Inv s N) {l : List Th} (hl : ∀ t ∈ l, ∃ u ∈ s.boxes, t.id = u.id) {sz me : AL} : Inv ⟨l, sz, me, s.next⟩ N :=
  ⟨fun t ht => by obtain ⟨u, hu, he⟩ := hl t ht; have := h.ids u hu; show t.id < s.next; omega, h.n1, h.n2⟩
theorem Inv.upd {s : AS} {N : Nat} (h : Inv s N) (id : Int) (f : Th → Th) (hf : ∀ t, (f t).id = t.id) : Inv (s.upd id f) N := by
  refine h.sub fun t ht => ?_
  obtain ⟨u, hu, rfl⟩ := List.mem_map.1 ht
  refine ⟨u, hu, ?_⟩
  split
  · exact hf u
  · rfl
theorem Inv.ahead {s s' : AS} {N : Nat} {e : Ev} (h : Inv s N) (hc : s.ahead e = some s') : Inv s' N := by
  have hd : ∀ id, Inv (s.drop id) N := fun id => h.sub fun t ht => ⟨t, (List.mem_filter.1 ht).1, rfl⟩
  unfold AS.ahead at hc
  repeat' split at hc
  all_goals first
    | (cases hc; done)
    | (injection hc with hc; subst hc; first
        | exact h
        | exact ⟨h.ids, h.n1, h.n2⟩
        | exact h.upd _ _ (fun _ => rfl)
        | exact hd _
        | exact h.sub fun t ht => ⟨t, (List.mem_filter.1 ht).1, rfl⟩)
theorem Inv.call {s s' : AS} {N : Nat} {e : Ev} {r : Ans} {n : Nat} (h : Inv s N) (hc : s.call e r n = some s') : Inv s' N := by
  unfold AS.call at hc
  repeat' split at hc
  all_goals first
    | (cases hc; done)
    | (injection hc with hc; subst hc; first | exact h | exact h.upd _ _ (fun _ => rfl))
/-! ### bounds of what is right -/
theorem inR_bd {x : Int} (h : inR x = true) : 0 ≤ x ∧ x ≤ 2147483647 := by
  unfold inR at h
  simp only [Bool.and_eq_true, decide_eq_true_eq] at h
  exact h
theorem right_bd {e : Ev} (h : e.right = true) {o : Nat} (h0 : 0 < o) (h1 : o < 10) : 0 ≤ e.at o ∧ e.at o ≤ 2147483647 := by
  unfold Ev.right at h
  split at h
  · cases h
  · next L hL =>
    simp only [Bool.and_eq_true, List.all_eq_true] at h
    have h2 := h.2 o (List.mem_range.2 h1)
    simp only [Bool.or_eq_true, beq_iff_eq, List.contains_iff_mem] at h2
    rcases h2 with (h2 | h2) | h2
    · omega
    · exact inR_bd (h.1 o h2)
    · rw [h2]; omega
theorem aright_box {r : Ans} (h : r.right = true) : 0 ≤ r.box ∧ r.box ≤ 2147483647 := by
  unfold Ans.right at h
  simp only [Bool.or_eq_true, Bool.and_eq_true, beq_iff_eq, decide_eq_true_eq] at h
  omega
theorem w31 {x : Int} (h : 0 ≤ x ∧ x ≤ 2147483647) : W64 x := MapI.w64 (by omega) (by omega)

structure CW (c : Cmd) : Prop where
  x : W64 c.box
  f : W64 c.fn
  h : W64 c.host

theorem Only.trans {F G : Nat → Prop} {a b c : World} (h : Only F a b) (k : Only G b c) (hG : ∀ i, i < a.heap.size → G i → F i) : Only F a c :=
  ⟨k.os.trans h.os, k.tape.trans h.tape, k.output.trans h.output, Nat.le_trans h.size k.size, fun i hi hn => (k.block i (Nat.lt_of_lt_of_le hi h.size) (fun hg => hn (hG i hi hg))).trans (h.block i hi hn)⟩
/-- The auditor's own blocks, and what is new. -/
def FS (a b1 b2 b3 : Nat) (blk : Int → Nat) (l : List Th) (w : World) (i : Nat) : Prop := i = a ∨ i = b1 ∨ i = b2 ∨ i = b3 ∨ (∃ t ∈ l, i = blk t.id) ∨ w.heap.size ≤ i
theorem AWb.base {F : Nat → Prop} {w0 w : World} {a b1 b2 b3 N : Nat} {blk : Int → Nat} {s : AS} (h : AWb F w0 a b1 b2 b3 N blk s w) : AWb (FS a b1 b2 b3 blk s.boxes w) w a b1 b2 b3 N blk s w :=
  ⟨h.aud, h.m1, h.m2, h.m3, h.th, h.inj, h.d12, h.d13, h.d23, Only.refl _, fun i hi => .inr (.inr (.inr (.inr (.inr hi)))), ⟨.inl rfl, .inr (.inl rfl), .inr (.inr (.inl rfl)), .inr (.inr (.inr (.inl rfl)))⟩, fun t ht => .inr (.inr (.inr (.inr (.inl ⟨t, ht, rfl⟩)))), h.wf, h.sz, h.me⟩
theorem AWb.fs {F : Nat → Prop} {w0 w : World} {a b1 b2 b3 N : Nat} {blk : Int → Nat} {s : AS} (h : AWb F w0 a b1 b2 b3 N blk s w) {i : Nat} (hi : FS a b1 b2 b3 blk s.boxes w i) : F i := by
  rcases hi with rfl | rfl | rfl | rfl | ⟨t, ht, rfl⟩ | hi
  · exact h.na.1
  · exact h.na.2.1
  · exact h.na.2.2.1
  · exact h.na.2.2.2
  · exact h.nt t ht
  · exact h.hF i (Nat.le_trans h.below.size hi)
theorem AWb.rebase {F : Nat → Prop} {w0 w w' : World} {a b1 b2 b3 N M : Nat} {blk blk' : Int → Nat} {s s' : AS} (h : AWb F w0 a b1 b2 b3 N blk s w) (k : AWb (FS a b1 b2 b3 blk s.boxes w) w a b1 b2 b3 M blk' s' w') : AWb F w0 a b1 b2 b3 M blk' s' w' :=
  ⟨k.aud, k.m1, k.m2, k.m3, k.th, k.inj, k.d12, k.d13, k.d23, h.below.trans k.below (fun i _ hg => h.fs hg), h.hF, h.na, fun t ht => h.fs (k.nt t ht), k.wf, k.sz, k.me⟩
theorem Only.far {w w' : World} {F : Nat → Prop} {w0 : World} {a b1 b2 b3 N : Nat} {blk : Int → Nat} {s : AS} (h : AWb F w0 a b1 b2 b3 N blk s w) (k : Only (FS a b1 b2 b3 blk s.boxes w) w w') {g : Nat} {t : TypeId} {cs : Array Value} (hg : Blk w g t cs) (h1 : t ≠ 77) (h2 : t ≠ 103) : Blk w' g t cs := by
  refine (k.block g hg.lt ?_).trans hg
  rintro (e | e | e | e | ⟨u, hu, e⟩ | e)
  · exact blk_neq hg h.aud h1 e
  · exact map_blk_ne h.m1 hg e
  · exact map_blk_ne h.m2 hg e
  · exact map_blk_ne h.m3 hg e
  · exact blk_neq hg (h.th u hu) h2 e
  · have := hg.lt; omega
theorem Out.mono {F : Nat → Prop} {w0 : World} {a b1 b2 b3 N M : Nat} {r : Option AS} {e : Ending} {w' : World} (h : Out F w0 a b1 b2 b3 N r e w') (hm : N ≤ M) : Out F w0 a b1 b2 b3 M r e w' := by
  rcases h with h | ⟨s, blk, h1, h2, h3⟩
  · exact .inl h
  · exact .inr ⟨s, blk, h1, h2, h3.mono hm⟩
theorem command_all (F : Nat → Prop) (w0 : World) (a b1 b2 b3 N : Nat) (blk : Int → Nat) (s : AS) (c : Cmd) (w : World) (hA : AWb F w0 a b1 b2 b3 N blk s w) (hN : N ≤ 100000) (hI : Inv s N) (hw : CW c) : CALLC a c w (Out F w0 a b1 b2 b3 (N + 1) (s.command c)) := by
  obtain ⟨bt, cx, cf, ch⟩ := c
  cases bt with
  | false => exact (kill_all F w0 a b1 b2 b3 N blk s cx cf ch w hA hw.x).mono fun _ _ h => h.mono (by omega)
  | true =>
    by_cases hb : cx = s.next
    · cases hk : (MapI.get s.mem cf).isSome with
      | false => exact boot_unknown F w0 a b1 b2 b3 N blk s cx cf ch w hA hN hI hw.x hw.f hw.h hb hk
      | true =>
        by_cases hf : num s.size ch < sumMem s.mem ch s.boxes + num s.mem cf
        · exact boot_full F w0 a b1 b2 b3 N blk s cx cf ch w hA hN hI hw.x hw.f hw.h hb hk hf
        · exact boot_yes F w0 a b1 b2 b3 N blk s cx cf ch w hA hN hI hw.x hw.f hw.h hb hk hf
    · exact boot_box F w0 a b1 b2 b3 N blk s cx cf ch w hA hN hI hw.x hw.f hw.h hb
/-! ### commands that lie one behind the other -/
def Cmds (F : Nat → Prop) (w : World) (ad : Option Addr) (cs : List Cmd) : Prop := ∀ i c, cs[i]? = some c → CW c ∧ ∃ b off, ad = some ⟨b, off, none⟩ ∧ b < w.heap.size ∧ ¬ F b ∧ (w.cell? ⟨b, off + i * 4, none⟩ = some (.bool c.boot) ∧ w.cell? ⟨b, off + i * 4 + 1, none⟩ = some (.int .i64 c.box) ∧ w.cell? ⟨b, off + i * 4 + 2, none⟩ = some (.int .i64 c.fn) ∧ w.cell? ⟨b, off + i * 4 + 3, none⟩ = some (.int .i64 c.host))
abbrev CALLS (a : Nat) (e : Ev) (r : Ans) (v : Value) (w : World) (Q : Ending → World → Prop) := Calls Try.prog 38 #[.pointer (some ⟨a, 0, none⟩), .agg (scells e r v)] w Q

set_option maxHeartbeats 4000000 in
set_option maxRecDepth 100000 in
theorem step_ev (F : Nat → Prop) (w0 : World) (a b1 b2 b3 N : Nat) (blk : Int → Nat) (s : AS) (ek en e2 es e4 e5 em e7 e8 e9 rk bx r2 r3 : Int) (ad : Option Addr) (n cap : Nat) (w : World) (hA : AWb F w0 a b1 b2 b3 N blk s w) (hr : Ev.right ⟨ek, en, e2, es, e4, e5, em, e7, e8, e9⟩ = false) : CALLS a ⟨ek, en, e2, es, e4, e5, em, e7, e8, e9⟩ ⟨rk, bx, r2, r3⟩ (.slice ad n cap) w (Out F w0 a b1 b2 b3 (N) none) := by
  unfold CALLS scells
  simp only
  have hA1 := hA.next ((Below.refl _ _).alloc (Nat.le_refl _) (.cells (scells ⟨ek, en, e2, es, e4, e5, em, e7, e8, e9⟩ ⟨rk, bx, r2, r3⟩ (.slice ad n cap)) 55))
  have hC1 := Blk.new w 55 (scells ⟨ek, en, e2, es, e4, e5, em, e7, e8, e9⟩ ⟨rk, bx, r2, r3⟩ (.slice ad n cap))
  obtain ⟨g, hg⟩ : ∃ g, g = w.heap.size := ⟨_, rfl⟩
  rw [← hg] at hC1
  go_enter Try.func38, Try.ntmps38
  go_wp2_with fail
  rw [← hg]
  generalize w.alloc _ = W at hA1 hC1 ⊢
  have HA1 := Lib.hid hA1
  have HC1 := Lib.hid hC1
  clear hA hA1 hC1 hg
  refine (right_any ⟨ek, en, e2, es, e4, e5, em, e7, e8, e9⟩ W).mono ?_
  rintro e1 w1 ⟨rfl, hb1⟩
  rw [hr]
  have hA2 : AWb F w0 a b1 b2 b3 N blk s w1 := HA1.out.next hb1
  have hC2 : Blk w1 g 55 (scells ⟨ek, en, e2, es, e4, e5, em, e7, e8, e9⟩ ⟨rk, bx, r2, r3⟩ (.slice ad n cap)) := HC1.out.below hb1 HC1.out.lt
  clear HA1 HC1
  have HA1 := Lib.hid hA2
  have HC1 := Lib.hid hC2
  clear hA2 hC2
  clear hb1 hr
  go_wp2
  go_ret
  exact Out.no rfl rfl HA1.out.below

set_option maxHeartbeats 4000000 in
set_option maxRecDepth 100000 in
theorem step_ans (F : Nat → Prop) (w0 : World) (a b1 b2 b3 N : Nat) (blk : Int → Nat) (s : AS) (ek en e2 es e4 e5 em e7 e8 e9 rk bx r2 r3 : Int) (ad : Option Addr) (n cap : Nat) (w : World) (hA : AWb F w0 a b1 b2 b3 N blk s w) (hr : Ev.right ⟨ek, en, e2, es, e4, e5, em, e7, e8, e9⟩ = true) (har : Ans.right ⟨rk, bx, r2, r3⟩ = false) : CALLS a ⟨ek, en, e2, es, e4, e5, em, e7, e8, e9⟩ ⟨rk, bx, r2, r3⟩ (.slice ad n cap) w (Out F w0 a b1 b2 b3 (N) none) := by
  unfold CALLS scells
  simp only
  have hA1 := hA.next ((Below.refl _ _).alloc (Nat.le_refl _) (.cells (scells ⟨ek, en, e2, es, e4, e5, em, e7, e8, e9⟩ ⟨rk, bx, r2, r3⟩ (.slice ad n cap)) 55))
  have hC1 := Blk.new w 55 (scells ⟨ek, en, e2, es, e4, e5, em, e7, e8, e9⟩ ⟨rk, bx, r2, r3⟩ (.slice ad n cap))
  obtain ⟨g, hg⟩ : ∃ g, g = w.heap.size := ⟨_, rfl⟩
  rw [← hg] at hC1
  go_enter Try.func38, Try.ntmps38
  go_wp2_with fail
  rw [← hg]
  generalize w.alloc _ = W at hA1 hC1 ⊢
  have HA1 := Lib.hid hA1
  have HC1 := Lib.hid hC1
  clear hA hA1 hC1 hg
  refine (right_any ⟨ek, en, e2, es, e4, e5, em, e7, e8, e9⟩ W).mono ?_
  rintro e1 w1 ⟨rfl, hb1⟩
  rw [hr]
  have hA2 : AWb F w0 a b1 b2 b3 N blk s w1 := HA1.out.next hb1
  have hC2 : Blk w1 g 55 (scells ⟨ek, en, e2, es, e4, e5, em, e7, e8, e9⟩ ⟨rk, bx, r2, r3⟩ (.slice ad n cap)) := HC1.out.below hb1 HC1.out.lt
  clear HA1 HC1
  have HA1 := Lib.hid hA2
  have HC1 := Lib.hid hC2
  clear hA2 hC2
  clear hb1 hr
  have cc10 := HC1.out.cell 10
  have cc11 := HC1.out.cell 11
  have cc12 := HC1.out.cell 12
  have cc13 := HC1.out.cell 13
  go_wp2_with fail
  refine (aright_any ⟨rk, bx, r2, r3⟩ w1).mono ?_
  rintro e1 w2 ⟨rfl, hb2⟩
  rw [har]
  clear cc10 cc11 cc12 cc13
  have hA2 : AWb F w0 a b1 b2 b3 N blk s w2 := HA1.out.next hb2
  have hC2 : Blk w2 g 55 (scells ⟨ek, en, e2, es, e4, e5, em, e7, e8, e9⟩ ⟨rk, bx, r2, r3⟩ (.slice ad n cap)) := HC1.out.below hb2 HC1.out.lt
  clear HA1 HC1
  have HA1 := Lib.hid hA2
  have HC1 := Lib.hid hC2
  clear hA2 hC2
  clear hb2 har
  go_wp2
  go_ret
  exact Out.no rfl rfl HA1.out.below

set_option maxHeartbeats 4000000 in
set_option maxRecDepth 100000 in
theorem step_refused (F : Nat → Prop) (w0 : World) (a b1 b2 b3 N : Nat) (blk : Int → Nat) (s : AS) (ek en e2 es e4 e5 em e7 e8 e9 rk bx r2 r3 : Int) (ad : Option Addr) (n cap : Nat) (w : World) (hA : AWb F w0 a b1 b2 b3 N blk s w) (hr : Ev.right ⟨ek, en, e2, es, e4, e5, em, e7, e8, e9⟩ = true) (har : Ans.right ⟨rk, bx, r2, r3⟩ = true) (hk : rk = 1) (hn : n = 0) : CALLS a ⟨ek, en, e2, es, e4, e5, em, e7, e8, e9⟩ ⟨rk, bx, r2, r3⟩ (.slice ad n cap) w (Out F w0 a b1 b2 b3 (N) (some s)) := by
  have H1 := Lib.hid hk
  clear hk
  have HN := Lib.hid hn
  clear hn
  unfold CALLS scells
  simp only
  have hA1 := hA.next ((Below.refl _ _).alloc (Nat.le_refl _) (.cells (scells ⟨ek, en, e2, es, e4, e5, em, e7, e8, e9⟩ ⟨rk, bx, r2, r3⟩ (.slice ad n cap)) 55))
  have hC1 := Blk.new w 55 (scells ⟨ek, en, e2, es, e4, e5, em, e7, e8, e9⟩ ⟨rk, bx, r2, r3⟩ (.slice ad n cap))
  obtain ⟨g, hg⟩ : ∃ g, g = w.heap.size := ⟨_, rfl⟩
  rw [← hg] at hC1
  go_enter Try.func38, Try.ntmps38
  go_wp2_with fail
  rw [← hg]
  generalize w.alloc _ = W at hA1 hC1 ⊢
  have HA1 := Lib.hid hA1
  have HC1 := Lib.hid hC1
  clear hA hA1 hC1 hg
  refine (right_any ⟨ek, en, e2, es, e4, e5, em, e7, e8, e9⟩ W).mono ?_
  rintro e1 w1 ⟨rfl, hb1⟩
  rw [hr]
  have hA2 : AWb F w0 a b1 b2 b3 N blk s w1 := HA1.out.next hb1
  have hC2 : Blk w1 g 55 (scells ⟨ek, en, e2, es, e4, e5, em, e7, e8, e9⟩ ⟨rk, bx, r2, r3⟩ (.slice ad n cap)) := HC1.out.below hb1 HC1.out.lt
  clear HA1 HC1
  have HA1 := Lib.hid hA2
  have HC1 := Lib.hid hC2
  clear hA2 hC2
  clear hb1 hr
  have cc10 := HC1.out.cell 10
  have cc11 := HC1.out.cell 11
  have cc12 := HC1.out.cell 12
  have cc13 := HC1.out.cell 13
  go_wp2_with fail
  refine (aright_any ⟨rk, bx, r2, r3⟩ w1).mono ?_
  rintro e1 w2 ⟨rfl, hb2⟩
  rw [har]
  clear cc10 cc11 cc12 cc13
  have hA2 : AWb F w0 a b1 b2 b3 N blk s w2 := HA1.out.next hb2
  have hC2 : Blk w2 g 55 (scells ⟨ek, en, e2, es, e4, e5, em, e7, e8, e9⟩ ⟨rk, bx, r2, r3⟩ (.slice ad n cap)) := HC1.out.below hb2 HC1.out.lt
  clear HA1 HC1
  have HA1 := Lib.hid hA2
  have HC1 := Lib.hid hC2
  clear hA2 hC2
  clear hb2 har
  have cc10 := HC1.out.cell 10
  have cc14 := HC1.out.cell 14
  have k1 : (rk == 1) = true := by rw [H1.out]; rfl
  have d1 : ((n : Int) == 0) = true := by rw [HN.out]; rfl
  go_wp2
  go_ret
  exact Out.yes rfl rfl HA1.out

set_option maxHeartbeats 4000000 in
set_option maxRecDepth 100000 in
theorem step_refused_no (F : Nat → Prop) (w0 : World) (a b1 b2 b3 N : Nat) (blk : Int → Nat) (s : AS) (ek en e2 es e4 e5 em e7 e8 e9 rk bx r2 r3 : Int) (ad : Option Addr) (n cap : Nat) (w : World) (hA : AWb F w0 a b1 b2 b3 N blk s w) (hr : Ev.right ⟨ek, en, e2, es, e4, e5, em, e7, e8, e9⟩ = true) (har : Ans.right ⟨rk, bx, r2, r3⟩ = true) (hk : rk = 1) (hn : n ≠ 0) : CALLS a ⟨ek, en, e2, es, e4, e5, em, e7, e8, e9⟩ ⟨rk, bx, r2, r3⟩ (.slice ad n cap) w (Out F w0 a b1 b2 b3 (N) none) := by
  have H1 := Lib.hid hk
  clear hk
  unfold CALLS scells
  simp only
  have hA1 := hA.next ((Below.refl _ _).alloc (Nat.le_refl _) (.cells (scells ⟨ek, en, e2, es, e4, e5, em, e7, e8, e9⟩ ⟨rk, bx, r2, r3⟩ (.slice ad n cap)) 55))
  have hC1 := Blk.new w 55 (scells ⟨ek, en, e2, es, e4, e5, em, e7, e8, e9⟩ ⟨rk, bx, r2, r3⟩ (.slice ad n cap))
  obtain ⟨g, hg⟩ : ∃ g, g = w.heap.size := ⟨_, rfl⟩
  rw [← hg] at hC1
  go_enter Try.func38, Try.ntmps38
  go_wp2_with fail
  rw [← hg]
  generalize w.alloc _ = W at hA1 hC1 ⊢
  have HA1 := Lib.hid hA1
  have HC1 := Lib.hid hC1
  clear hA hA1 hC1 hg
  refine (right_any ⟨ek, en, e2, es, e4, e5, em, e7, e8, e9⟩ W).mono ?_
  rintro e1 w1 ⟨rfl, hb1⟩
  rw [hr]
  have hA2 : AWb F w0 a b1 b2 b3 N blk s w1 := HA1.out.next hb1
  have hC2 : Blk w1 g 55 (scells ⟨ek, en, e2, es, e4, e5, em, e7, e8, e9⟩ ⟨rk, bx, r2, r3⟩ (.slice ad n cap)) := HC1.out.below hb1 HC1.out.lt
  clear HA1 HC1
  have HA1 := Lib.hid hA2
  have HC1 := Lib.hid hC2
  clear hA2 hC2
  clear hb1 hr
  have cc10 := HC1.out.cell 10
  have cc11 := HC1.out.cell 11
  have cc12 := HC1.out.cell 12
  have cc13 := HC1.out.cell 13
  go_wp2_with fail
  refine (aright_any ⟨rk, bx, r2, r3⟩ w1).mono ?_
  rintro e1 w2 ⟨rfl, hb2⟩
  rw [har]
  clear cc10 cc11 cc12 cc13
  have hA2 : AWb F w0 a b1 b2 b3 N blk s w2 := HA1.out.next hb2
  have hC2 : Blk w2 g 55 (scells ⟨ek, en, e2, es, e4, e5, em, e7, e8, e9⟩ ⟨rk, bx, r2, r3⟩ (.slice ad n cap)) := HC1.out.below hb2 HC1.out.lt
  clear HA1 HC1
  have HA1 := Lib.hid hA2
  have HC1 := Lib.hid hC2
  clear hA2 hC2
  clear hb2 har
  have cc10 := HC1.out.cell 10
  have cc14 := HC1.out.cell 14
  have k1 : (rk == 1) = true := by rw [H1.out]; rfl
  have d1 : ((n : Int) == 0) = false := beq_eq_false_iff_ne.2 (by omega)
  go_wp2
  go_ret
  exact Out.no rfl rfl HA1.out.below

set_option maxHeartbeats 4000000 in
set_option maxRecDepth 100000 in
theorem step_kind (F : Nat → Prop) (w0 : World) (a b1 b2 b3 N : Nat) (blk : Int → Nat) (s : AS) (ek en e2 es e4 e5 em e7 e8 e9 rk bx r2 r3 : Int) (ad : Option Addr) (n cap : Nat) (w : World) (hA : AWb F w0 a b1 b2 b3 N blk s w) (hr : Ev.right ⟨ek, en, e2, es, e4, e5, em, e7, e8, e9⟩ = true) (har : Ans.right ⟨rk, bx, r2, r3⟩ = true) (hk : ¬ rk = 1) (hk6 : ¬ ek = 6) (h0 : ¬ rk = 0) : CALLS a ⟨ek, en, e2, es, e4, e5, em, e7, e8, e9⟩ ⟨rk, bx, r2, r3⟩ (.slice ad n cap) w (Out F w0 a b1 b2 b3 (N) none) := by
  unfold CALLS scells
  simp only
  have hA1 := hA.next ((Below.refl _ _).alloc (Nat.le_refl _) (.cells (scells ⟨ek, en, e2, es, e4, e5, em, e7, e8, e9⟩ ⟨rk, bx, r2, r3⟩ (.slice ad n cap)) 55))
  have hC1 := Blk.new w 55 (scells ⟨ek, en, e2, es, e4, e5, em, e7, e8, e9⟩ ⟨rk, bx, r2, r3⟩ (.slice ad n cap))
  obtain ⟨g, hg⟩ : ∃ g, g = w.heap.size := ⟨_, rfl⟩
  rw [← hg] at hC1
  go_enter Try.func38, Try.ntmps38
  go_wp2_with fail
  rw [← hg]
  generalize w.alloc _ = W at hA1 hC1 ⊢
  have HA1 := Lib.hid hA1
  have HC1 := Lib.hid hC1
  clear hA hA1 hC1 hg
  refine (right_any ⟨ek, en, e2, es, e4, e5, em, e7, e8, e9⟩ W).mono ?_
  rintro e1 w1 ⟨rfl, hb1⟩
  rw [hr]
  have hA2 : AWb F w0 a b1 b2 b3 N blk s w1 := HA1.out.next hb1
  have hC2 : Blk w1 g 55 (scells ⟨ek, en, e2, es, e4, e5, em, e7, e8, e9⟩ ⟨rk, bx, r2, r3⟩ (.slice ad n cap)) := HC1.out.below hb1 HC1.out.lt
  clear HA1 HC1
  have HA1 := Lib.hid hA2
  have HC1 := Lib.hid hC2
  clear hA2 hC2
  clear hb1 hr
  have cc10 := HC1.out.cell 10
  have cc11 := HC1.out.cell 11
  have cc12 := HC1.out.cell 12
  have cc13 := HC1.out.cell 13
  go_wp2_with fail
  refine (aright_any ⟨rk, bx, r2, r3⟩ w1).mono ?_
  rintro e1 w2 ⟨rfl, hb2⟩
  rw [har]
  clear cc10 cc11 cc12 cc13
  have hA2 : AWb F w0 a b1 b2 b3 N blk s w2 := HA1.out.next hb2
  have hC2 : Blk w2 g 55 (scells ⟨ek, en, e2, es, e4, e5, em, e7, e8, e9⟩ ⟨rk, bx, r2, r3⟩ (.slice ad n cap)) := HC1.out.below hb2 HC1.out.lt
  clear HA1 HC1
  have HA1 := Lib.hid hA2
  have HC1 := Lib.hid hC2
  clear hA2 hC2
  clear hb2 har
  have cc0 := HC1.out.cell 0
  have cc10 := HC1.out.cell 10
  have k1 : (rk == 1) = false := beq_eq_false_iff_ne.2 hk
  have k6 : (ek == 6) = false := beq_eq_false_iff_ne.2 hk6
  have k6' : (ek != 6) = true := by simp [bne, k6]
  have k0 : (rk == 0) = false := beq_eq_false_iff_ne.2 h0
  have k0' : (rk != 0) = true := by simp [bne, k0]
  go_wp2
  go_ret
  exact Out.no rfl rfl HA1.out.below

set_option maxHeartbeats 4000000 in
set_option maxRecDepth 100000 in
theorem step_ahead_no (F : Nat → Prop) (w0 : World) (a b1 b2 b3 N : Nat) (blk : Int → Nat) (s : AS) (ek en e2 es e4 e5 em e7 e8 e9 rk bx r2 r3 : Int) (ad : Option Addr) (n cap : Nat) (w : World) (hA : AWb F w0 a b1 b2 b3 N blk s w) (hr : Ev.right ⟨ek, en, e2, es, e4, e5, em, e7, e8, e9⟩ = true) (har : Ans.right ⟨rk, bx, r2, r3⟩ = true) (hN : N ≤ 100000) (hk : ¬ rk = 1) (hk6 : ¬ ek = 6) (h0 : rk = 0) (hs : s.ahead ⟨ek, en, e2, es, e4, e5, em, e7, e8, e9⟩ = none) : CALLS a ⟨ek, en, e2, es, e4, e5, em, e7, e8, e9⟩ ⟨rk, bx, r2, r3⟩ (.slice ad n cap) w (Out F w0 a b1 b2 b3 (N) none) := by
  have H0 := Lib.hid h0
  clear h0
  have HBD := Lib.hid (And.intro (right_bd (e := ⟨ek, en, e2, es, e4, e5, em, e7, e8, e9⟩) hr (o := 1) (by omega) (by omega)) (And.intro (right_bd (e := ⟨ek, en, e2, es, e4, e5, em, e7, e8, e9⟩) hr (o := 3) (by omega) (by omega)) (right_bd (e := ⟨ek, en, e2, es, e4, e5, em, e7, e8, e9⟩) hr (o := 6) (by omega) (by omega))))
  have HS := Lib.hid hs
  clear hs
  unfold CALLS scells
  simp only
  have hA1 := hA.next ((Below.refl _ _).alloc (Nat.le_refl _) (.cells (scells ⟨ek, en, e2, es, e4, e5, em, e7, e8, e9⟩ ⟨rk, bx, r2, r3⟩ (.slice ad n cap)) 55))
  have hC1 := Blk.new w 55 (scells ⟨ek, en, e2, es, e4, e5, em, e7, e8, e9⟩ ⟨rk, bx, r2, r3⟩ (.slice ad n cap))
  obtain ⟨g, hg⟩ : ∃ g, g = w.heap.size := ⟨_, rfl⟩
  rw [← hg] at hC1
  go_enter Try.func38, Try.ntmps38
  go_wp2_with fail
  rw [← hg]
  generalize w.alloc _ = W at hA1 hC1 ⊢
  have HA1 := Lib.hid hA1
  have HC1 := Lib.hid hC1
  clear hA hA1 hC1 hg
  refine (right_any ⟨ek, en, e2, es, e4, e5, em, e7, e8, e9⟩ W).mono ?_
  rintro e1 w1 ⟨rfl, hb1⟩
  rw [hr]
  have hA2 : AWb F w0 a b1 b2 b3 N blk s w1 := HA1.out.next hb1
  have hC2 : Blk w1 g 55 (scells ⟨ek, en, e2, es, e4, e5, em, e7, e8, e9⟩ ⟨rk, bx, r2, r3⟩ (.slice ad n cap)) := HC1.out.below hb1 HC1.out.lt
  clear HA1 HC1
  have HA1 := Lib.hid hA2
  have HC1 := Lib.hid hC2
  clear hA2 hC2
  clear hb1 hr
  have cc10 := HC1.out.cell 10
  have cc11 := HC1.out.cell 11
  have cc12 := HC1.out.cell 12
  have cc13 := HC1.out.cell 13
  go_wp2_with fail
  refine (aright_any ⟨rk, bx, r2, r3⟩ w1).mono ?_
  rintro e1 w2 ⟨rfl, hb2⟩
  rw [har]
  clear cc10 cc11 cc12 cc13
  have hA2 : AWb F w0 a b1 b2 b3 N blk s w2 := HA1.out.next hb2
  have hC2 : Blk w2 g 55 (scells ⟨ek, en, e2, es, e4, e5, em, e7, e8, e9⟩ ⟨rk, bx, r2, r3⟩ (.slice ad n cap)) := HC1.out.below hb2 HC1.out.lt
  clear HA1 HC1
  have HA1 := Lib.hid hA2
  have HC1 := Lib.hid hC2
  clear hA2 hC2
  clear hb2 har
  have AH := Lib.hid (ahead_all (FS a b1 b2 b3 blk s.boxes w2) w2 a b1 b2 b3 N blk s ⟨ek, en, e2, es, e4, e5, em, e7, e8, e9⟩ ⟨rk, bx, r2, r3⟩ (.slice ad n cap) w2 HA1.out.base hN (w31 HBD.out.1) HBD.out.2.1 HBD.out.2.2)
  have cc0 := HC1.out.cell 0
  have cc1 := HC1.out.cell 1
  have cc2 := HC1.out.cell 2
  have cc3 := HC1.out.cell 3
  have cc4 := HC1.out.cell 4
  have cc5 := HC1.out.cell 5
  have cc6 := HC1.out.cell 6
  have cc7 := HC1.out.cell 7
  have cc8 := HC1.out.cell 8
  have cc9 := HC1.out.cell 9
  have cc10 := HC1.out.cell 10
  have cc11 := HC1.out.cell 11
  have cc12 := HC1.out.cell 12
  have cc13 := HC1.out.cell 13
  have cc14 := HC1.out.cell 14
  have k1 : (rk == 1) = false := beq_eq_false_iff_ne.2 hk
  have k6 : (ek == 6) = false := beq_eq_false_iff_ne.2 hk6
  have k6' : (ek != 6) = true := by simp [bne, k6]
  have k0 : (rk == 0) = true := by rw [H0.out]; rfl
  have k0' : (rk != 0) = false := by rw [H0.out]; rfl
  go_wp2_with fail
  refine (AH.out).mono ?_
  rintro e1 w3 (⟨ho, rfl, hb3⟩ | ⟨s', blk', ho, rfl, hb3⟩)
  · have HB3 := Lib.hid (HA1.out.below.trans hb3 (fun i _ hg => HA1.out.fs hg))
    clear hb3 ho
    go_wp2
    go_ret
    exact Out.no rfl rfl HB3.out
  · exfalso; rw [HS.out] at ho; cases ho

set_option maxHeartbeats 4000000 in
set_option maxRecDepth 100000 in
theorem step_ahead_yes (F : Nat → Prop) (w0 : World) (a b1 b2 b3 N : Nat) (blk : Int → Nat) (s : AS) (ek en e2 es e4 e5 em e7 e8 e9 rk bx r2 r3 : Int) (ad : Option Addr) (n cap : Nat) (w : World) (hA : AWb F w0 a b1 b2 b3 N blk s w) (hr : Ev.right ⟨ek, en, e2, es, e4, e5, em, e7, e8, e9⟩ = true) (har : Ans.right ⟨rk, bx, r2, r3⟩ = true) (hN : N ≤ 100000) (hk : ¬ rk = 1) (hk6 : ¬ ek = 6) (h0 : rk = 0) (s1 : AS) (hs : s.ahead ⟨ek, en, e2, es, e4, e5, em, e7, e8, e9⟩ = some s1) (hI : Inv s N) (hM : N + 1 + n ≤ 100000) (cs : List Cmd) (hcs : Cmds F w0 ad cs) (hcn : cs.length = n) : CALLS a ⟨ek, en, e2, es, e4, e5, em, e7, e8, e9⟩ ⟨rk, bx, r2, r3⟩ (.slice ad n cap) w (Out F w0 a b1 b2 b3 (N + 1 + n) (s1.cmds cs)) := by
  have H0 := Lib.hid h0
  clear h0
  have HBD := Lib.hid (And.intro (right_bd (e := ⟨ek, en, e2, es, e4, e5, em, e7, e8, e9⟩) hr (o := 1) (by omega) (by omega)) (And.intro (right_bd (e := ⟨ek, en, e2, es, e4, e5, em, e7, e8, e9⟩) hr (o := 3) (by omega) (by omega)) (right_bd (e := ⟨ek, en, e2, es, e4, e5, em, e7, e8, e9⟩) hr (o := 6) (by omega) (by omega))))
  have hI1 : Inv s1 (N + 1) := (hI.ahead hs).mono (by omega)
  have HS := Lib.hid hs
  clear hs hI
  unfold CALLS scells
  simp only
  have hA1 := hA.next ((Below.refl _ _).alloc (Nat.le_refl _) (.cells (scells ⟨ek, en, e2, es, e4, e5, em, e7, e8, e9⟩ ⟨rk, bx, r2, r3⟩ (.slice ad n cap)) 55))
  have hC1 := Blk.new w 55 (scells ⟨ek, en, e2, es, e4, e5, em, e7, e8, e9⟩ ⟨rk, bx, r2, r3⟩ (.slice ad n cap))
  obtain ⟨g, hg⟩ : ∃ g, g = w.heap.size := ⟨_, rfl⟩
  rw [← hg] at hC1
  go_enter Try.func38, Try.ntmps38
  go_wp2_with fail
  rw [← hg]
  generalize w.alloc _ = W at hA1 hC1 ⊢
  have HA1 := Lib.hid hA1
  have HC1 := Lib.hid hC1
  clear hA hA1 hC1 hg
  refine (right_any ⟨ek, en, e2, es, e4, e5, em, e7, e8, e9⟩ W).mono ?_
  rintro e1 w1 ⟨rfl, hb1⟩
  rw [hr]
  have hA2 : AWb F w0 a b1 b2 b3 N blk s w1 := HA1.out.next hb1
  have hC2 : Blk w1 g 55 (scells ⟨ek, en, e2, es, e4, e5, em, e7, e8, e9⟩ ⟨rk, bx, r2, r3⟩ (.slice ad n cap)) := HC1.out.below hb1 HC1.out.lt
  clear HA1 HC1
  have HA1 := Lib.hid hA2
  have HC1 := Lib.hid hC2
  clear hA2 hC2
  clear hb1 hr
  have cc10 := HC1.out.cell 10
  have cc11 := HC1.out.cell 11
  have cc12 := HC1.out.cell 12
  have cc13 := HC1.out.cell 13
  go_wp2_with fail
  refine (aright_any ⟨rk, bx, r2, r3⟩ w1).mono ?_
  rintro e1 w2 ⟨rfl, hb2⟩
  rw [har]
  clear cc10 cc11 cc12 cc13
  have hA2 : AWb F w0 a b1 b2 b3 N blk s w2 := HA1.out.next hb2
  have hC2 : Blk w2 g 55 (scells ⟨ek, en, e2, es, e4, e5, em, e7, e8, e9⟩ ⟨rk, bx, r2, r3⟩ (.slice ad n cap)) := HC1.out.below hb2 HC1.out.lt
  clear HA1 HC1
  have HA1 := Lib.hid hA2
  have HC1 := Lib.hid hC2
  clear hA2 hC2
  clear hb2 har
  have AH := Lib.hid (ahead_all (FS a b1 b2 b3 blk s.boxes w2) w2 a b1 b2 b3 N blk s ⟨ek, en, e2, es, e4, e5, em, e7, e8, e9⟩ ⟨rk, bx, r2, r3⟩ (.slice ad n cap) w2 HA1.out.base hN (w31 HBD.out.1) HBD.out.2.1 HBD.out.2.2)
  have cc0 := HC1.out.cell 0
  have cc1 := HC1.out.cell 1
  have cc2 := HC1.out.cell 2
  have cc3 := HC1.out.cell 3
  have cc4 := HC1.out.cell 4
  have cc5 := HC1.out.cell 5
  have cc6 := HC1.out.cell 6
  have cc7 := HC1.out.cell 7
  have cc8 := HC1.out.cell 8
  have cc9 := HC1.out.cell 9
  have cc10 := HC1.out.cell 10
  have cc11 := HC1.out.cell 11
  have cc12 := HC1.out.cell 12
  have cc13 := HC1.out.cell 13
  have cc14 := HC1.out.cell 14
  have k1 : (rk == 1) = false := beq_eq_false_iff_ne.2 hk
  have k6 : (ek == 6) = false := beq_eq_false_iff_ne.2 hk6
  have k6' : (ek != 6) = true := by simp [bne, k6]
  have k0 : (rk == 0) = true := by rw [H0.out]; rfl
  have k0' : (rk != 0) = false := by rw [H0.out]; rfl
  go_wp2_with fail
  refine (AH.out).mono ?_
  rintro e1 w3 (⟨ho, rfl, hb3⟩ | ⟨s', blk', ho, rfl, hb3⟩)
  · exfalso; rw [HS.out] at ho; cases ho
  rw [HS.out] at ho
  injection ho with ho
  subst ho
  have hC3 := Only.far HA1.out hb3.below HC1.out (by decide) (by decide)
  have hA3 := HA1.out.rebase hb3
  clear cc0 cc1 cc2 cc3 cc4 cc5 cc6 cc7 cc8 cc9 cc10 cc11 cc12 cc13 cc14
  clear HA1 HC1 hb3
  have HA1 := Lib.hid hA3
  have HC1 := Lib.hid hC3
  clear hA3 hC3 AH
  have HI := Lib.hid hI1
  have HM := Lib.hid hM
  have HCS := Lib.hid hcs
  have HCN := Lib.hid hcn
  clear hI1 hM hcs hcn
  have cc14 := HC1.out.cell 14
  go_wp2_with fail
  clear cc14 
  go_loopw [42] (fun iv wr => ∃ i : Nat, i ≤ n ∧ iv = .int .i64 i ∧ ∃ s' blk', s1.cmds (cs.take i) = some s' ∧ AWb F w0 a b1 b2 b3 (N + 1 + i) blk' s' wr ∧ Inv s' (N + 1 + i) ∧ Blk wr g 55 (scells ⟨ek, en, e2, es, e4, e5, em, e7, e8, e9⟩ ⟨rk, bx, r2, r3⟩ (.slice ad n cap))) (fun iv _ => n - (intOf iv).toNat)
  case atStart => exact ⟨0, by omega, rfl, s1, _, rfl, HA1.out, HI.out, HC1.out⟩
  case round =>
    obtain ⟨i, hi, rfl, s', blk', hst, hAr, hIr, hCr⟩ := hrel
    have hM := HM.out
    have hcn := HCN.out
    by_cases hlt : i < n
    · have hil : i < cs.length := by omega
      obtain ⟨c, hc⟩ : ∃ c, c = cs[i] := ⟨_, rfl⟩
      obtain ⟨hw, b, off, rfl, hb, hnf, h0, h1, h2, h3⟩ := HCS.out i c (by rw [List.getElem?_eq_getElem hil, hc])
      have hbk := hAr.below.block b hb hnf
      have d0 : wr.cell? ⟨b, off + i * 4, none⟩ = some (.bool c.boot) := by rw [← h0]; exact World.cell?_of_block (w := w0) hbk
      have d1 : wr.cell? ⟨b, off + i * 4 + 1, none⟩ = some (.int .i64 c.box) := by rw [← h1]; exact World.cell?_of_block (w := w0) hbk
      have d2 : wr.cell? ⟨b, off + i * 4 + 2, none⟩ = some (.int .i64 c.fn) := by rw [← h2]; exact World.cell?_of_block (w := w0) hbk
      have d3 : wr.cell? ⟨b, off + i * 4 + 3, none⟩ = some (.int .i64 c.host) := by rw [← h3]; exact World.cell?_of_block (w := w0) hbk
      have hsn : s1.cmds (cs.take (i + 1)) = s'.command c := by rw [List.take_succ_eq_append_getElem hil, AS.cmds_snoc, hst, ← hc]
      have HSN := Lib.hid hsn
      have HAr := Lib.hid hAr
      have HIr := Lib.hid hIr
      have HCr := Lib.hid hCr
      have HW := Lib.hid hw
      clear hsn hAr hIr hCr hw hst hc h0 h1 h2 h3 hbk hb hnf hcn
      go_wp2_with fail
      generalize hW : wr.alloc _ = wq
      have bq : Below wr.heap.size wr wq := by rw [← hW]; exact (Below.refl _ _).alloc (Nat.le_refl _) _
      have hAq := HAr.out.next bq
      have hCq := HCr.out.below bq HCr.out.lt
      have hcall := command_all (FS a b1 b2 b3 blk' s'.boxes wq) wq a b1 b2 b3 (N + 1 + i) blk' s' c wq hAq.base (by omega) HIr.out HW.out
      have HAq := Lib.hid hAq
      have HCq := Lib.hid hCq
      have HCALL := Lib.hid hcall
      clear hW bq hAq hCq hcall d0 d1 d2 d3
      refine (HCALL.out).mono ?_
      rintro e1 w3 (⟨ho, rfl, hb3⟩ | ⟨s3, blk3, ho, rfl, hb3⟩)
      · have hnone : s1.cmds cs = none := AS.cmds_none (n := i + 1) (by rw [HSN.out]; exact ho)
        have HN := Lib.hid hnone
        have HB3 := Lib.hid (HAq.out.below.trans hb3 (fun i _ hg => HAq.out.fs hg))
        clear hnone hb3 ho
        go_wp2
        go_ret
        exact Out.no HN.out rfl HB3.out
      · have hC3 := Only.far HAq.out hb3.below HCq.out (by decide) (by decide)
        have hA3 := HAq.out.rebase hb3
        have hI3 := HIr.out.command ho
        have hS3 : s1.cmds (cs.take (i + 1)) = some s3 := by rw [HSN.out]; exact ho
        have H3 := Lib.hid (And.intro hS3 (And.intro hA3 (And.intro hI3 hC3)))
        clear hb3 ho hC3 hA3 hI3 hS3
        go_wp2
        go_roundw
        case rel => exact ⟨i + 1, by omega, by go_num, s3, blk3, H3.out.1, H3.out.2.1, H3.out.2.2.1, H3.out.2.2.2⟩
        case measure => simp [intOf]; omega
    · obtain rfl : n = i := by omega
      have hall : s1.cmds cs = some s' := by rw [← hst, List.take_of_length_le (by omega)]
      have HALL := Lib.hid hall
      have HAr := Lib.hid hAr
      have HIr := Lib.hid hIr
      have HCr := Lib.hid hCr
      clear hall hAr hIr hCr hst hcn
      have cc0 := HCr.out.cell 0
      go_wp2
      go_ret
      exact Out.yes HALL.out rfl HAr.out

set_option maxHeartbeats 4000000 in
set_option maxRecDepth 100000 in
theorem step_call (F : Nat → Prop) (w0 : World) (a b1 b2 b3 N : Nat) (blk : Int → Nat) (s : AS) (ek en e2 es e4 e5 em e7 e8 e9 rk bx r2 r3 : Int) (ad : Option Addr) (n cap : Nat) (w : World) (hA : AWb F w0 a b1 b2 b3 N blk s w) (hr : Ev.right ⟨ek, en, e2, es, e4, e5, em, e7, e8, e9⟩ = true) (har : Ans.right ⟨rk, bx, r2, r3⟩ = true) (hN : N ≤ 100000) (hk : ¬ rk = 1) (hk6 : ek = 6) (hI : Inv s N) (hM : N + n ≤ 100000) (cs : List Cmd) (hcs : Cmds F w0 ad cs) (hcn : cs.length = n) : CALLS a ⟨ek, en, e2, es, e4, e5, em, e7, e8, e9⟩ ⟨rk, bx, r2, r3⟩ (.slice ad n cap) w (Out F w0 a b1 b2 b3 (N + n) (AS.tell (s.cmds cs) ⟨ek, en, e2, es, e4, e5, em, e7, e8, e9⟩ ⟨rk, bx, r2, r3⟩ n)) := by
  have HBX := Lib.hid (w31 (aright_box (r := ⟨rk, bx, r2, r3⟩) har))
  have H6 := Lib.hid hk6
  clear hk6
  have hI1 := hI
  clear hI
  obtain ⟨s1, hs1⟩ : ∃ x, x = s := ⟨_, rfl⟩
  have HS1 := Lib.hid hs1
  clear hs1
  unfold CALLS scells
  simp only
  have hA1 := hA.next ((Below.refl _ _).alloc (Nat.le_refl _) (.cells (scells ⟨ek, en, e2, es, e4, e5, em, e7, e8, e9⟩ ⟨rk, bx, r2, r3⟩ (.slice ad n cap)) 55))
  have hC1 := Blk.new w 55 (scells ⟨ek, en, e2, es, e4, e5, em, e7, e8, e9⟩ ⟨rk, bx, r2, r3⟩ (.slice ad n cap))
  obtain ⟨g, hg⟩ : ∃ g, g = w.heap.size := ⟨_, rfl⟩
  rw [← hg] at hC1
  go_enter Try.func38, Try.ntmps38
  go_wp2_with fail
  rw [← hg]
  generalize w.alloc _ = W at hA1 hC1 ⊢
  have HA1 := Lib.hid hA1
  have HC1 := Lib.hid hC1
  clear hA hA1 hC1 hg
  refine (right_any ⟨ek, en, e2, es, e4, e5, em, e7, e8, e9⟩ W).mono ?_
  rintro e1 w1 ⟨rfl, hb1⟩
  rw [hr]
  have hA2 : AWb F w0 a b1 b2 b3 N blk s w1 := HA1.out.next hb1
  have hC2 : Blk w1 g 55 (scells ⟨ek, en, e2, es, e4, e5, em, e7, e8, e9⟩ ⟨rk, bx, r2, r3⟩ (.slice ad n cap)) := HC1.out.below hb1 HC1.out.lt
  clear HA1 HC1
  have HA1 := Lib.hid hA2
  have HC1 := Lib.hid hC2
  clear hA2 hC2
  clear hb1 hr
  have cc10 := HC1.out.cell 10
  have cc11 := HC1.out.cell 11
  have cc12 := HC1.out.cell 12
  have cc13 := HC1.out.cell 13
  go_wp2_with fail
  refine (aright_any ⟨rk, bx, r2, r3⟩ w1).mono ?_
  rintro e1 w2 ⟨rfl, hb2⟩
  rw [har]
  clear cc10 cc11 cc12 cc13
  have hA2 : AWb F w0 a b1 b2 b3 N blk s w2 := HA1.out.next hb2
  have hC2 : Blk w2 g 55 (scells ⟨ek, en, e2, es, e4, e5, em, e7, e8, e9⟩ ⟨rk, bx, r2, r3⟩ (.slice ad n cap)) := HC1.out.below hb2 HC1.out.lt
  clear HA1 HC1
  have HA1 := Lib.hid hA2
  have HC1 := Lib.hid hC2
  clear hA2 hC2
  clear hb2 har
  have cc0 := HC1.out.cell 0
  have cc10 := HC1.out.cell 10
  have cc14 := HC1.out.cell 14
  have k1 : (rk == 1) = false := beq_eq_false_iff_ne.2 hk
  have k6 : (ek == 6) = true := by rw [H6.out]; rfl
  have k6' : (ek != 6) = false := by rw [H6.out]; rfl
  go_wp2_with fail
  clear cc0 cc10 cc14
  have hs := HS1.out
  subst hs
  have HI := Lib.hid hI1
  have HM := Lib.hid hM
  have HCS := Lib.hid hcs
  have HCN := Lib.hid hcn
  clear hI1 hM hcs hcn
  have cc14 := HC1.out.cell 14
  go_wp2_with fail
  clear cc14 
  go_loopw [42] (fun iv wr => ∃ i : Nat, i ≤ n ∧ iv = .int .i64 i ∧ ∃ s' blk', s1.cmds (cs.take i) = some s' ∧ AWb F w0 a b1 b2 b3 (N + i) blk' s' wr ∧ Inv s' (N + i) ∧ Blk wr g 55 (scells ⟨ek, en, e2, es, e4, e5, em, e7, e8, e9⟩ ⟨rk, bx, r2, r3⟩ (.slice ad n cap))) (fun iv _ => n - (intOf iv).toNat)
  case atStart => exact ⟨0, by omega, rfl, s1, _, rfl, HA1.out, HI.out, HC1.out⟩
  case round =>
    obtain ⟨i, hi, rfl, s', blk', hst, hAr, hIr, hCr⟩ := hrel
    have hM := HM.out
    have hcn := HCN.out
    by_cases hlt : i < n
    · have hil : i < cs.length := by omega
      obtain ⟨c, hc⟩ : ∃ c, c = cs[i] := ⟨_, rfl⟩
      obtain ⟨hw, b, off, rfl, hb, hnf, h0, h1, h2, h3⟩ := HCS.out i c (by rw [List.getElem?_eq_getElem hil, hc])
      have hbk := hAr.below.block b hb hnf
      have d0 : wr.cell? ⟨b, off + i * 4, none⟩ = some (.bool c.boot) := by rw [← h0]; exact World.cell?_of_block (w := w0) hbk
      have d1 : wr.cell? ⟨b, off + i * 4 + 1, none⟩ = some (.int .i64 c.box) := by rw [← h1]; exact World.cell?_of_block (w := w0) hbk
      have d2 : wr.cell? ⟨b, off + i * 4 + 2, none⟩ = some (.int .i64 c.fn) := by rw [← h2]; exact World.cell?_of_block (w := w0) hbk
      have d3 : wr.cell? ⟨b, off + i * 4 + 3, none⟩ = some (.int .i64 c.host) := by rw [← h3]; exact World.cell?_of_block (w := w0) hbk
      have hsn : s1.cmds (cs.take (i + 1)) = s'.command c := by rw [List.take_succ_eq_append_getElem hil, AS.cmds_snoc, hst, ← hc]
      have HSN := Lib.hid hsn
      have HAr := Lib.hid hAr
      have HIr := Lib.hid hIr
      have HCr := Lib.hid hCr
      have HW := Lib.hid hw
      clear hsn hAr hIr hCr hw hst hc h0 h1 h2 h3 hbk hb hnf hcn
      go_wp2_with fail
      generalize hW : wr.alloc _ = wq
      have bq : Below wr.heap.size wr wq := by rw [← hW]; exact (Below.refl _ _).alloc (Nat.le_refl _) _
      have hAq := HAr.out.next bq
      have hCq := HCr.out.below bq HCr.out.lt
      have hcall := command_all (FS a b1 b2 b3 blk' s'.boxes wq) wq a b1 b2 b3 (N + i) blk' s' c wq hAq.base (by omega) HIr.out HW.out
      have HAq := Lib.hid hAq
      have HCq := Lib.hid hCq
      have HCALL := Lib.hid hcall
      clear hW bq hAq hCq hcall d0 d1 d2 d3
      refine (HCALL.out).mono ?_
      rintro e1 w3 (⟨ho, rfl, hb3⟩ | ⟨s3, blk3, ho, rfl, hb3⟩)
      · have hnone : s1.cmds cs = none := AS.cmds_none (n := i + 1) (by rw [HSN.out]; exact ho)
        have HN := Lib.hid hnone
        have HB3 := Lib.hid (HAq.out.below.trans hb3 (fun i _ hg => HAq.out.fs hg))
        clear hnone hb3 ho
        go_wp2
        go_ret
        exact Out.no (by rw [HN.out]; rfl) rfl HB3.out
      · have hC3 := Only.far HAq.out hb3.below HCq.out (by decide) (by decide)
        have hA3 := HAq.out.rebase hb3
        have hI3 := HIr.out.command ho
        have hS3 : s1.cmds (cs.take (i + 1)) = some s3 := by rw [HSN.out]; exact ho
        have H3 := Lib.hid (And.intro hS3 (And.intro hA3 (And.intro hI3 hC3)))
        clear hb3 ho hC3 hA3 hI3 hS3
        go_wp2
        go_roundw
        case rel => exact ⟨i + 1, by omega, by go_num, s3, blk3, H3.out.1, H3.out.2.1, H3.out.2.2.1, H3.out.2.2.2⟩
        case measure => simp [intOf]; omega
    · obtain rfl : n = i := by omega
      have hall : s1.cmds cs = some s' := by rw [← hst, List.take_of_length_le (by omega)]
      have HALL := Lib.hid hall
      have HAr := Lib.hid hAr
      have HIr := Lib.hid hIr
      have HCr := Lib.hid hCr
      clear hall hAr hIr hCr hst hcn
      have cc0 := HCr.out.cell 0
      have cc1 := HCr.out.cell 1
      have cc2 := HCr.out.cell 2
      have cc3 := HCr.out.cell 3
      have cc4 := HCr.out.cell 4
      have cc5 := HCr.out.cell 5
      have cc6 := HCr.out.cell 6
      have cc7 := HCr.out.cell 7
      have cc8 := HCr.out.cell 8
      have cc9 := HCr.out.cell 9
      have cc10 := HCr.out.cell 10
      have cc11 := HCr.out.cell 11
      have cc12 := HCr.out.cell 12
      have cc13 := HCr.out.cell 13
      have cc14 := HCr.out.cell 14
      have hn1 := HIr.out.n1
      have hn2 := HIr.out.n2
      have CALLX := Lib.hid (call_all F w0 a b1 b2 b3 (N + n) blk' s' ⟨ek, en, e2, es, e4, e5, em, e7, e8, e9⟩ ⟨rk, bx, r2, r3⟩ ad n cap wr HAr.out (by omega) HBX.out (by omega) hn1 (by omega))
      clear hn1 hn2
      go_wp2_with fail
      refine (CALLX.out).mono ?_
      rintro e1 w3 (⟨ho, rfl, hb3⟩ | ⟨s3, blk3, ho, rfl, hb3⟩)
      · have HO := Lib.hid ho
        have HB3 := Lib.hid hb3
        clear ho hb3
        go_wp2
        go_ret
        exact Out.no (by rw [HALL.out]; exact HO.out) rfl HB3.out
      · have HO := Lib.hid ho
        have HB3 := Lib.hid hb3
        clear ho hb3
        go_wp2
        go_ret
        exact Out.yes (by rw [HALL.out]; exact HO.out) rfl HB3.out
end Go.Proofs.Ytopbhdpfakjkjaa.Aud
