/- Proved: the walk of greenhouselaw19.AuditMemory. -/
import Derived.Test.YtopbhdpfakjkjaaAudHead
import Derived.Test.YtopbhdpfakjkjaaAudMemLaw
namespace Go.Proofs.Ytopbhdpfakjkjaa.Aud
open Go.RowKit Go.Proofs.Ytopbhdpfakjkjaa.Histo Go.Proofs.Ytopbhdpfakjkjaa.Event Go.Proofs.Ytopbhdpfakjkjaa.Ring
set_option linter.unusedVariables false
open Go.Proofs.Ytopbhdpfakjkjaa.MapI (AL At Rng W64 At.alloc At.drew)
abbrev zeroStep : Value := .agg #[.int .i64 0, .int .i64 0, .int .i64 0, .int .i64 0, .int .i64 0, .int .i64 0, .int .i64 0, .int .i64 0, .int .i64 0, .int .i64 0, .int .i64 0, .int .i64 0, .int .i64 0, .int .i64 0, .slice none 0 0]
theorem infoStep : (Try.prog.info? 55).map (fun i => (i.zero, i.size, i.bytes)) = some (some zeroStep, 15, 136) := by kernel_rfl
/-- A step's commands lie in a block of their own. -/
def SVok (w : World) (p : SV) : Prop := p.1.cmds = [] ∨ ∃ b c, p.1.cmds = [c] ∧ p.2.1 = some ⟨b, 0, none⟩ ∧ CW c ∧ Blk w b 59 c.cells
theorem own_ne {w : World} {base size n : Nat} {v : Value} {xs : List Value} (h : w.ownsRow base 55 size v n xs) {b : Nat} {cs : Array Value} (hb : Blk w b 59 cs) : some b ≠ v.ownBlock := by
  intro e
  rcases h.2 with ⟨rfl, _⟩ | ⟨g, cap, cur, rfl, _, hg, _⟩
  · cases e
  · injection e with e
    subst e
    unfold Blk at hb
    rw [hg] at hb
    injection hb with hb
    injection hb with _ hb
    exact absurd hb (by decide)
theorem SVok.grown {w w' : World} {base size n : Nat} {v : Value} {xs : List Value} (h : w.ownsRow base 55 size v n xs) (hg : w.grownBy w' v.ownBlock) {p : SV} (hp : SVok w p) : SVok w' p := by
  rcases hp with hp | ⟨b, c, h1, h2, h3, h4⟩
  · exact .inl hp
  · exact .inr ⟨b, c, h1, h2, h3, h4.grown hg (own_ne h h4)⟩
theorem SVok.below {w w' : World} (hb : Below w.heap.size w w') {p : SV} (hp : SVok w p) : SVok w' p := by
  rcases hp with hp | ⟨b, c, h1, h2, h3, h4⟩
  · exact .inl hp
  · exact .inr ⟨b, c, h1, h2, h3, h4.below hb h4.lt⟩
theorem SVok.cmds {w : World} {p : SV} (hp : SVok w p) : p.1.cmds.length ≤ 40 ∧ Cmds (w.heap.size ≤ ·) w p.2.1 p.1.cmds := by
  rcases hp with hp | ⟨b, c, h1, h2, h3, h4⟩
  · rw [hp]; exact ⟨by decide, fun i c hc => by cases hc⟩
  · rw [h1]
    refine ⟨Nat.le_of_ble_eq_true rfl, fun i c' hc => ?_⟩
    cases i with
    | zero =>
      injection hc with hc; subst hc
      exact ⟨h3, b, 0, h2, h4.lt, Nat.not_le.2 h4.lt, h4.cell 0, h4.cell 1, h4.cell 2, h4.cell 3⟩
    | succ i => cases hc
theorem own_cell {w : World} {base size n g cap : Nat} {t : TypeId} {xs : List Value} (h : w.ownsRow base t size (.slice (some ⟨g, 0, none⟩) n cap) n xs) {o : Nat} {u : Value} (hu : xs[o]? = some u) : w.cell? ⟨g, o, none⟩ = some u := by
  have := h.cells (g := g) rfl o u hu
  by_cases ho : o = 0
  · subst ho; simpa [Addr.add] using this
  · simpa [Addr.add, ho] using this
theorem call_own (ps : List SV) (v : Value) (base : Nat) (w : World) (n : Nat) (x : Int) (hn0 : 0 < n) (h : w.ownsRow base 55 15 v n (lay ps)) (hs : ∀ p ∈ ps, SVok w p) (hn : ps.length = n) (hl : n ≤ 2000) (hx : firstP (ps.map (·.1)) = x) : Calls Try.prog 23 #[v] w (RetN x w) := by
  have h2 := h
  rcases h2.2 with ⟨_, h0⟩ | ⟨g, cap, cur, rfl, hg, hlt, _⟩
  · omega
  have hgl : g < w.heap.size := (h.lt g rfl).2
  have hst : Stps (w.heap.size ≤ ·) w (some ⟨g, 0, none⟩) (ps.map (·.1)) := stps_of hgl (Nat.not_le.2 hgl) (fun o u hu => own_cell h hu) (fun p hp => (hs p hp).cmds)
  have hlen : (ps.map (·.1)).length = n := by rw [List.length_map]; exact hn
  have := first_any (ps.map (·.1)) (some ⟨g, 0, none⟩) cap w hst (by omega)
  rw [hlen, hx] at this
  exact this
/-- The list of i boots, so far. -/
def ML (w : World) (s m : Int) (i : Nat) (v : Value) (wr : World) : Prop := ∃ ps : List SV, wr.ownsRow w.heap.size 55 15 v (i + 2) (lay ps) ∧ ps.map (·.1) = memL s m i ∧ (∀ p ∈ ps, SVok wr p) ∧ Below w.heap.size w wr
theorem news_cell (w : World) (t : TypeId) (L : List Value) {g : Nat} (hg : g = w.heap.size) : ∀ j u, L[j]? = some u → (w.alloc (.cells L.toArray t)).cell? ((⟨g, 0, none⟩ : Addr).add j) = some u := by
  intro j u hu
  subst hg
  have h := (Blk.new w t L.toArray).cell j
  rw [List.getElem?_toArray, hu] at h
  by_cases hj : j = 0
  · subst hj; simpa [Addr.add] using h
  · simpa [Addr.add, hj] using h
theorem sv_one (p : SV) : ∀ u ∈ p.list, u.oneCell' = true := by
  intro u hu
  unfold SV.list at hu
  simp only [List.mem_cons, List.not_mem_nil, or_false] at hu
  rcases hu with rfl | rfl | rfl | rfl | rfl | rfl | rfl | rfl | rfl | rfl | rfl | rfl | rfl | rfl | rfl <;> rfl
theorem lay_snoc (ps : List SV) (p : SV) : lay (ps ++ [p]) = lay ps ++ p.list := by
  unfold lay
  rw [List.flatMap_append, List.flatMap_cons, List.flatMap_nil, List.append_nil]
theorem w31' {x : Int} (h0 : 0 ≤ x) (h1 : x ≤ 2147483647) : W64 x := w31 ⟨h0, h1⟩
theorem cw_boot {i : Nat} (hi : i ≤ 31) : CW ⟨true, (i : Int) + 1, 0, 0⟩ := ⟨w31' (x := (i : Int) + 1) (by omega) (by omega), w31' (x := 0) (by omega) (by omega), w31' (x := 0) (by omega) (by omega)⟩
theorem ML.next {w wr w2 : World} {s m : Int} {i : Nat} {v v' : Value} {ps : List SV} {o2 : Obj} (hi : i ≤ 31) (hown : wr.ownsRow w.heap.size 55 15 v (i + 2) (lay ps)) (hmap : ps.map (·.1) = memL s m i) (hok : ∀ p ∈ ps, SVok wr p) (hbel : Below w.heap.size w wr)
    (hown2 : w2.ownsRow w.heap.size 55 15 v' (i + 2 + 1) (lay ps ++ SV.list (bootS ((i : Int) + 1) 0 0, some ⟨wr.heap.size, 0, none⟩, 1)))
    (hg : ((wr.alloc (.cells #[.bool true, .int .i64 ((i : Int) + 1), .int .i64 0, .int .i64 0] 59)).alloc o2).grownBy w2 v.ownBlock) : ML w s m (i + 1) v' w2 := by
  have hb1 : Below wr.heap.size wr (wr.alloc (.cells #[.bool true, .int .i64 ((i : Int) + 1), .int .i64 0, .int .i64 0] 59)) := (Below.refl _ _).alloc (Nat.le_refl _) _
  have hB := Blk.new wr 59 #[.bool true, .int .i64 ((i : Int) + 1), .int .i64 0, .int .i64 0]
  have hb2 : ∀ (x : World) (o : Obj), Below x.heap.size x (x.alloc o) := fun x o => (Below.refl _ _).alloc (Nat.le_refl _) _
  have hoA := (hown.alloc (.cells #[.bool true, .int .i64 ((i : Int) + 1), .int .i64 0, .int .i64 0] 59)).alloc o2
  refine ⟨ps ++ [(bootS ((i : Int) + 1) 0 0, some ⟨wr.heap.size, 0, none⟩, 1)], by rw [lay_snoc]; exact hown2, by rw [List.map_append, hmap, memL_succ]; rfl, fun p hp => ?_, ?_⟩
  · rcases List.mem_append.1 hp with hp | hp
    · exact (((hok p hp).below hb1).below (hb2 _ o2)).grown hoA hg
    · rw [List.mem_singleton] at hp; subst hp
      refine SVok.grown hoA hg (.inr ⟨wr.heap.size, ⟨true, (i : Int) + 1, 0, 0⟩, rfl, rfl, cw_boot hi, hB.below (hb2 _ o2) hB.lt⟩)
  · have h1 := hbel.alloc hbel.size (.cells #[.bool true, .int .i64 ((i : Int) + 1), .int .i64 0, .int .i64 0] 59)
    have h2 := h1.alloc h1.size o2
    exact h2.grown hg h2.size (fun q hq => (hown.lt q hq).1)
theorem own_open {w : World} {base n : Nat} {v : Value} {t : TypeId} {xs : List Value} (hn : 0 < n) (h : w.ownsRow base t 15 v n xs) : ∃ g cap, v = .slice (some ⟨g, 0, none⟩) n cap ∧ n ≤ cap ∧ g < w.heap.size := by
  have h2 := h
  rcases h2.2 with ⟨_, h0⟩ | ⟨g, cap, cur, rfl, hg, hlt, hc, _⟩
  · omega
  · exact ⟨g, cap, rfl, hc, (h.lt g rfl).2⟩
theorem ml_open {s m : Int} {n : Nat} {ps : List SV} (h : ps.map (·.1) = memL s m n) : ∃ p0 p1 pr, ps = p0 :: p1 :: pr ∧ p0.1 = funcS m ∧ p1.1 = hostS s := by
  unfold memL at h
  match ps, h with
  | [], h => cases h
  | [p], h => simp at h
  | p0 :: p1 :: pr, h =>
    simp only [List.map_cons, List.cons_append, List.nil_append, List.cons.injEq] at h
    exact ⟨p0, p1, pr, rfl, h.1, h.2.1⟩
theorem lay_one (ps : List SV) : ∀ u ∈ lay ps, u.oneCell' = true := by
  intro u hu
  unfold lay at hu
  obtain ⟨p, _, hp⟩ := List.mem_flatMap.1 hu
  exact sv_one p u hp
/-- A list of steps of the call's own, its blocks from a number on. -/
def Own (base n : Nat) (ps : List SV) (v : Value) (wr : World) : Prop := wr.ownsRow base 55 15 v n (lay ps) ∧ ∀ p ∈ ps, SVok wr p
theorem Own.below {base n : Nat} {ps : List SV} {v : Value} {wr w' : World} (h : Own base n ps v wr) (hb : Below wr.heap.size wr w') : Own base n ps v w' := by
  refine ⟨?_, fun p hp => (h.2 p hp).below hb⟩
  refine ⟨h.1.1, ?_⟩
  rcases h.1.2 with h0 | ⟨g, cap, cur, h1, h2, h3, h4⟩
  · exact .inl h0
  · refine .inr ⟨g, cap, cur, h1, h2, (hb.block g ?_).trans h3, h4⟩
    exact (h.1.lt g (by rw [h1]; rfl)).2
theorem Own.kept {base n base' n' : Nat} {ps : List SV} {v v' : Value} {xs : List Value} {wr w' : World} (h : Own base n ps v wr) (h' : wr.ownsRow base' 55 15 v' n' xs) (hg : wr.grownBy w' v'.ownBlock) (hne : v.ownBlock = none ∨ v.ownBlock ≠ v'.ownBlock) : Own base n ps v w' :=
  ⟨h.1.kept hg hne, fun p hp => (h.2 p hp).grown h' hg⟩
theorem Own.ne {base n base' n' : Nat} {ps : List SV} {v v' : Value} {xs : List Value} {wr w0 : World} (h : Own base n ps v w0) (h' : wr.ownsRow base' 55 15 v' n' xs) (hb : w0.heap.size ≤ base') : v.ownBlock = none ∨ v.ownBlock ≠ v'.ownBlock := by
  cases hv : v.ownBlock with
  | none => exact .inl rfl
  | some k =>
    refine .inr fun e => ?_
    have h1 := (h.1.lt k hv).2
    have h2 := (h'.lt k e.symm).1
    omega
theorem main_news {w : World} {base n g cap : Nat} {ps pr : List SV} {p0 p1 : SV} (h : Own base n ps (.slice (some ⟨g, 0, none⟩) n cap) w) (hps : ps = p0 :: p1 :: pr) (o : Obj) : ∀ j u, (lay [p0, p1])[j]? = some u → (w.alloc o).cell? ((⟨g, 0, none⟩ : Addr).add j) = some u := by
  intro j u hu
  refine (h.1.alloc _).cells (g := g) rfl j u ?_
  rw [hps]
  have : lay (p0 :: p1 :: pr) = lay [p0, p1] ++ lay pr := by unfold lay; simp
  rw [this, List.getElem?_append_left (List.getElem?_eq_some_iff.1 hu).1]
  exact hu
theorem sub2 {p p0 p1 : SV} {pr : List SV} (h : p ∈ [p0, p1]) : p ∈ p0 :: p1 :: pr := by
  simp only [List.mem_cons, List.not_mem_nil, or_false] at h ⊢
  rcases h with h | h
  · exact .inl h
  · exact .inr (.inl h)
theorem two_size (w : World) (o1 o2 : Obj) : w.heap.size ≤ ((w.alloc o1).alloc o2).heap.size := by
  rw [show ((w.alloc o1).alloc o2).heap.size = w.heap.size + 1 + 1 from (Array.size_push ..).trans (congrArg (· + 1) (Array.size_push ..))]; omega
theorem own_below {w wr w2 : World} {base n : Nat} {v : Value} {xs : List Value} {o1 o2 : Obj} (h : Below w.heap.size w wr) (ho : wr.ownsRow base 55 15 v n xs) (hb : w.heap.size ≤ base) (hg : ((wr.alloc o1).alloc o2).grownBy w2 v.ownBlock) : Below w.heap.size w w2 := by
  have h1 := h.alloc h.size o1
  have h2 := h1.alloc h1.size o2
  exact h2.grown hg h2.size (fun q hq => Nat.le_trans hb (ho.lt q hq).1)
theorem Own.boot {base n : Nat} {ps : List SV} {v v' : Value} {wr w2 : World} {b f h : Int} {o2 : Obj} (k : Own base n ps v wr) (hc : CW ⟨true, b, f, h⟩) (hown2 : w2.ownsRow base 55 15 v' (n + 1) (lay ps ++ SV.list (bootS b f h, some ⟨wr.heap.size, 0, none⟩, 1)))
    (hg : ((wr.alloc (.cells #[.bool true, .int .i64 b, .int .i64 f, .int .i64 h] 59)).alloc o2).grownBy w2 v.ownBlock) : Own base (n + 1) (ps ++ [(bootS b f h, some ⟨wr.heap.size, 0, none⟩, 1)]) v' w2 := by
  have hb1 : Below wr.heap.size wr (wr.alloc (.cells #[.bool true, .int .i64 b, .int .i64 f, .int .i64 h] 59)) := (Below.refl _ _).alloc (Nat.le_refl _) _
  have hB := Blk.new wr 59 #[.bool true, .int .i64 b, .int .i64 f, .int .i64 h]
  have hb2 : ∀ (x : World) (o : Obj), Below x.heap.size x (x.alloc o) := fun x o => (Below.refl _ _).alloc (Nat.le_refl _) _
  have hoA := (k.1.alloc (.cells #[.bool true, .int .i64 b, .int .i64 f, .int .i64 h] 59)).alloc o2
  refine ⟨by rw [lay_snoc]; exact hown2, fun p hp => ?_⟩
  rcases List.mem_append.1 hp with hp | hp
  · exact (((k.2 p hp).below hb1).below (hb2 _ o2)).grown hoA hg
  · rw [List.mem_singleton] at hp; subst hp
    exact SVok.grown hoA hg (.inr ⟨wr.heap.size, ⟨true, b, f, h⟩, rfl, rfl, hc, hB.below (hb2 _ o2) hB.lt⟩)
theorem Own.call {base n : Nat} {ps : List SV} {v : Value} {w : World} {x : Int} (h : Own base n ps v w) (hn0 : 0 < n) (hn : ps.length = n) (hl : n ≤ 2000) (hx : firstP (ps.map (·.1)) = x) : Calls Try.prog 23 #[v] w (RetN x w) := call_own ps v base w n x hn0 h.1 h.2 hn hl hx
theorem ML.start {w w1 : World} (s m : Int) (hb : Below w.heap.size w w1) : ML w s m 0 (.slice (some ⟨w1.heap.size, 0, none⟩) 2 2) (w1.alloc (.cells #[.int .i64 2, .int .i64 0, .int .i64 0, .int .i64 0, .int .i64 0, .int .i64 0, .int .i64 m, .int .i64 0, .int .i64 0, .int .i64 0, .int .i64 0, .int .i64 0, .int .i64 0, .int .i64 0, .slice none 0 0, .int .i64 3, .int .i64 0, .int .i64 0, .int .i64 s, .int .i64 0, .int .i64 0, .int .i64 0, .int .i64 0, .int .i64 0, .int .i64 0, .int .i64 0, .int .i64 0, .int .i64 0, .int .i64 0, .slice none 0 0] 55)) :=
  ⟨[(funcS m, none, 0), (hostS s, none, 0)], World.ownsRow_lit w1 _ 2 hb.size (by decide) rfl, rfl, fun p hp => by
    rcases List.mem_cons.1 hp with rfl | hp
    · exact .inl rfl
    · rw [List.mem_singleton] at hp; subst hp; exact .inl rfl, hb.alloc hb.size _⟩
set_option maxHeartbeats 4000000 in
set_option maxRecDepth 100000 in
theorem memory_any (s0 m0 n0 : Int) (w : World) : Calls Try.prog 9 #[.int .i64 s0, .int .i64 m0, .int .i64 n0] w (RetB1 true w) := by
  go_enter Try.func9, Try.ntmps9
  go_wp2_with fail
  refine (head_any w).mono ?_
  rintro e1 w1 ⟨rfl, hb1⟩
  obtain ⟨s, hs⟩ : ∃ s, s = s0 % 64 := ⟨_, rfl⟩
  obtain ⟨m, hm⟩ : ∃ m, m = 1 + m0 % 16 := ⟨_, rfl⟩
  obtain ⟨n, hn⟩ : ∃ n : Nat, (n : Int) = n0 % 32 := ⟨(n0 % 32).toNat, by omega⟩
  have hS : 0 ≤ s ∧ s ≤ 63 := by omega
  have hM : 1 ≤ m ∧ m ≤ 16 := by omega
  have hN : n ≤ 31 := by omega
  have e1 : Go.bits .and .i64 s0 63 = s := by rw [and_63, hs]
  have e2 : wrap64 (1 + Go.bits .and .i64 m0 15) = m := by rw [and_15, hm]; exact IntWalk.wrap64_in _ (by omega)
  have e3 : Go.bits .and .i64 n0 31 = (n : Int) := by rw [and_31, hn]
  clear hs hm hn
  obtain ⟨i0, hi, hz0, hz1, hz2⟩ := info_parts infoStep
  have HI := Lib.hid hi
  have HZ0 := Lib.hid hz0
  have HZ1 := Lib.hid hz1
  have HZ2 := Lib.hid hz2
  have HS := Lib.hid hS
  have HM := Lib.hid hM
  have HB1 := Lib.hid hb1
  clear hi hz0 hz1 hz2 hS hM hb1
  go_wp2_with fail
  simp only [e2]
  clear e1 e2 e3
  have HST := Lib.hid (ML.start s m HB1.out)
  go_loopw [7, 8] (fun v iv wr => ∃ i : Nat, i ≤ n ∧ iv = .int .i64 i ∧ ML w s m i v wr) (fun _ iv _ => n - (intOf iv).toNat)
  case atStart => exact ⟨0, by omega, rfl, HST.out⟩
  case round =>
    obtain ⟨i, hi, rfl, hml⟩ := hrel
    by_cases hlt : i < n
    · have HML := Lib.hid hml
      clear hml
      obtain ⟨ps, hown, hmap, hok, hbel⟩ := HML.out
      have HO := Lib.hid hown
      have HMAP := Lib.hid hmap
      have HOK := Lib.hid hok
      have HBL := Lib.hid hbel
      clear hown hmap hok hbel
      go_wp2_with (at_builtin; refine wpList_append_own _ rfl _ _ 44 rfl w.heap.size 55 i0 zeroStep 15 136 Try.underlying44 HI.out HZ0.out HZ1.out HZ2.out rfl (by decide) _ (i + 2) (lay ps) rfl ((HO.out.alloc _).alloc _) ⟨wr.heap.size + 1, 0, none⟩ 1 1 (SV.list (bootS ((i : Int) + 1) 0 0, some ⟨wr.heap.size, 0, none⟩, 1)) rfl rfl ?c1 ?c2 ?c3 ?c4 ?c5 ?_)
      case c1 => exact news_cell (wr.alloc _) 55 (SV.list (bootS ((i : Int) + 1) 0 0, some ⟨wr.heap.size, 0, none⟩, 1)) (Array.size_push ..).symm
      case c2 => exact sv_one _
      case c3 => unfold maxLen; omega
      case c4 => omega
      case c5 => have := HBL.out.size; simp; omega
      intro v' w2 hown2 hgrow2 _
      have HN := Lib.hid (ML.next (by omega) HO.out HMAP.out HOK.out HBL.out hown2 hgrow2)
      clear hown2 hgrow2
      go_wp2
      go_roundw
      case rel => exact ⟨i + 1, by omega, by go_num, HN.out⟩
      case measure => simp [intOf]; omega
    · obtain rfl : n = i := by omega
      obtain ⟨ps, hown, hmap, hok, hbel⟩ := hml
      obtain ⟨g, cap, rfl, hcap, hg⟩ := own_open (by omega) hown
      obtain ⟨x, hx⟩ : ∃ x : Int, x = n * m := ⟨_, rfl⟩
      have hxb : 0 ≤ x ∧ x ≤ 496 := by
        rw [hx]
        exact ⟨Int.mul_nonneg (by omega) (by have := HM.out; omega), by
          have h1 : (n : Int) * m ≤ 31 * m := Int.mul_le_mul_of_nonneg_right (by omega) (by have := HM.out; omega)
          have := HM.out; omega⟩
      obtain ⟨q, hq⟩ : ∃ q, q = s / m := ⟨_, rfl⟩
      have hqb : 0 ≤ q ∧ q ≤ 63 := by
        rw [hq]
        exact ⟨Int.ediv_nonneg HS.out.1 (by have := HM.out; omega), Int.le_trans (Int.ediv_le_self _ HS.out.1) HS.out.2⟩
      have e4 : (n : Int) * m = x := hx.symm
      have e5 : wrap64 x = x := IntWalk.wrap64_in _ (by omega)
      have e6 : s.tdiv m = q := by rw [hq]; exact Int.tdiv_eq_ediv_of_nonneg HS.out.1
      have e7 : wrap64 q = q := IntWalk.wrap64_in _ (by omega)
      have e8 : wrap64 (2 + q) = 2 + q := IntWalk.wrap64_in _ (by omega)
      have e9 : (m == 0) = false := beq_eq_false_iff_ne.2 (by have := HM.out; omega)
      have e10 : ¬ m = 0 := by have := HM.out; omega
      have e11 : decide (m = 0) = false := decide_eq_false e10
      have HX := Lib.hid hx
      have HQ := Lib.hid hq
      have HO := Lib.hid hown
      have HMAP := Lib.hid hmap
      have HOK := Lib.hid hok
      have HBL := Lib.hid hbel
      clear hx hq hown hmap hok hbel hxb hqb
      obtain ⟨p0, p1, pr, hps, hp0, hp1⟩ := ml_open HMAP.out
      have hok0 := HOK.out p0 (by rw [hps]; simp)
      have hok1 := HOK.out p1 (by rw [hps]; simp)
      have hnews : ∀ j u, (lay [p0, p1])[j]? = some u → (wr.alloc (.cells #[] 55)).cell? ((⟨g, 0, none⟩ : Addr).add j) = some u := by
        intro j u hu
        refine (HO.out.alloc _).cells (g := g) rfl j u ?_
        rw [hps]
        have : lay (p0 :: p1 :: pr) = lay [p0, p1] ++ lay pr := by unfold lay; simp
        rw [this, List.getElem?_append_left (List.getElem?_eq_some_iff.1 hu).1]
        exact hu
      have HOKS := Lib.hid (And.intro hok0 hok1)
      have HNEWS := Lib.hid hnews
      have HP := Lib.hid (And.intro hp0 hp1)
      have HPS := Lib.hid hps
      clear hps hok0 hok1 hnews hp0 hp1
      have hc2 : (2 : Int) ≤ cap := by omega
      have hwant : firstP (ps.map (·.1)) = if s < x then 2 + q else -1 := by
        rw [HMAP.out]
        by_cases hc : s < x
        · rw [if_pos hc, HQ.out]; rw [HX.out] at hc; exact mem_first_at HS.out.1 HS.out.2 HM.out.1 HM.out.2 n hc
        · rw [if_neg hc]; rw [HX.out] at hc; exact mem_first_all HS.out.1 HS.out.2 HM.out.1 HM.out.2 n (by omega)
      have hlen : ps.length = n + 2 := by have := congrArg List.length HMAP.out; rw [List.length_map, memL_len] at this; exact this
      have HLEN := Lib.hid hlen
      have HOT := Lib.hid (And.intro (mem_other (b := 1) (f := 1) (h := 0) HS.out.1 HS.out.2 HM.out.1 HM.out.2 (.inl rfl) (.inr rfl)) (mem_other (b := 1) (f := 0) (h := 1) HS.out.1 HS.out.2 HM.out.1 HM.out.2 (.inr rfl) (.inl rfl)))
      clear hlen
      rcases Decidable.em (s < x) with hc | hc
      all_goals
        first
          | (have t1 : decide (s < x) = true := decide_eq_true hc
             rw [if_pos hc] at hwant)
          | (have t1 : decide (s < x) = false := decide_eq_false hc
             rw [if_neg hc] at hwant)
        have HW := Lib.hid hwant
        clear hwant hc
        go_wp2_with (at_builtin; refine wpList_append_own _ rfl (.tmp 50) (.tmp 52) 44 rfl wr.heap.size 55 i0 zeroStep 15 136 Try.underlying44 HI.out HZ0.out HZ1.out HZ2.out rfl (by decide) _ 0 [] rfl (World.ownsRow_lit wr #[] 0 (Nat.le_refl _) (by decide) rfl) ⟨g, 0, none⟩ 2 cap (lay [p0, p1]) rfl rfl HNEWS.out (lay_one _) (by decide) (by decide) ?c5 ?_)
        case c5 => rw [show (wr.alloc (.cells #[] 55)).heap.size = wr.heap.size + 1 from Array.size_push ..]; omega
        intro v1 w2 hown1 hg1 _
        have hb0 : Below wr.heap.size wr (wr.alloc (.cells #[] 55)) := (Below.refl _ _).alloc (Nat.le_refl _) _
        have hlit := World.ownsRow_lit (e := 55) (size := 15) wr #[] 0 (Nat.le_refl _) (by decide) rfl
        have hL0 : Own w.heap.size (n + 2) ps (.slice (some ⟨g, 0, none⟩) (n + 2) cap) wr := ⟨HO.out, HOK.out⟩
        have hL2 := (hL0.below hb0).kept hlit hg1 (hL0.ne hlit (Nat.le_refl _))
        have hA2 : Own wr.heap.size 2 [p0, p1] v1 w2 := ⟨hown1, fun p hp => by
          rcases List.mem_cons.1 hp with rfl | hp
          · exact (HOKS.out.1.below hb0).grown hlit hg1
          · rw [List.mem_singleton] at hp; subst hp; exact (HOKS.out.2.below hb0).grown hlit hg1⟩
        have hB2 : Below w.heap.size w w2 := (HBL.out.alloc HBL.out.size _).grown hg1 (by rw [show (wr.alloc (.cells #[] 55)).heap.size = wr.heap.size + 1 from Array.size_push ..]; have := HBL.out.size; omega) (fun q hq => by have := (hlit.lt q hq).1; have := HBL.out.size; omega)
        have hsz2 : wr.heap.size ≤ w2.heap.size := Nat.le_trans hb0.size hg1.size
        have HSZ2 := Lib.hid hsz2
        have HL0 := Lib.hid hL0
        have HL2 := Lib.hid hL2
        have HA2 := Lib.hid hA2
        have HB2 := Lib.hid hB2
        clear hsz2 hb0 hlit hL0 hL2 hA2 hB2 hown1 hg1
        go_wp2_with (at_builtin; refine wpList_append_own _ rfl (.tmp 53) (.tmp 57) 44 rfl wr.heap.size 55 i0 zeroStep 15 136 Try.underlying44 HI.out HZ0.out HZ1.out HZ2.out rfl (by decide) _ 2 (lay [p0, p1]) rfl ((HA2.out.1.alloc _).alloc _) ⟨w2.heap.size + 1, 0, none⟩ 1 1 (SV.list (bootS 1 1 0, some ⟨w2.heap.size, 0, none⟩, 1)) rfl rfl (news_cell (w2.alloc _) 55 (SV.list (bootS 1 1 0, some ⟨w2.heap.size, 0, none⟩, 1)) (Array.size_push ..).symm) (sv_one _) (by decide) (by decide) ?c6 ?_)
        case c6 => rw [show ((w2.alloc (.cells #[.bool true, .int .i64 1, .int .i64 1, .int .i64 0] 59)).alloc _).heap.size = w2.heap.size + 1 + 1 from (Array.size_push ..).trans (congrArg (· + 1) (Array.size_push ..))]; have := HSZ2.out; omega
        intro v2 w3 hown3 hg3 _
        have hA3 := HA2.out.boot ⟨w31' (x := 1) (by omega) (by omega), w31' (x := 1) (by omega) (by omega), w31' (x := 0) (by omega) (by omega)⟩ hown3 hg3
        have hL3 := ((HL2.out.below ((Below.refl _ _).alloc (Nat.le_refl _) _)).below ((Below.refl _ _).alloc (Nat.le_refl _) _)).kept ((HA2.out.1.alloc _).alloc _) hg3 (HL0.out.ne HA2.out.1 (Nat.le_refl _))
        have hB3 := own_below HB2.out HA2.out.1 (Nat.le_trans HBL.out.size (Nat.le_refl _)) hg3
        have hsz3 : w2.heap.size ≤ w3.heap.size := Nat.le_trans (two_size w2 _ _) hg3.size
        have HSZ3 := Lib.hid hsz3
        have HL3 := Lib.hid hL3
        have HA3 := Lib.hid hA3
        have HB3 := Lib.hid hB3
        clear hsz3 hL3 hA3 hB3 hown3 hg3 HL2 HA2 HB2
        go_wp2_with (at_builtin; refine wpList_append_own _ rfl (.tmp 59) (.tmp 61) 44 rfl w3.heap.size 55 i0 zeroStep 15 136 Try.underlying44 HI.out HZ0.out HZ1.out HZ2.out rfl (by decide) _ 0 [] rfl (World.ownsRow_lit w3 #[] 0 (Nat.le_refl _) (by decide) rfl) ⟨g, 0, none⟩ 2 cap (lay [p0, p1]) rfl rfl (main_news HL3.out HPS.out _) (lay_one _) (by decide) (by decide) ?c7 ?_)
        case c7 => rw [show (w3.alloc (.cells #[] 55)).heap.size = w3.heap.size + 1 from Array.size_push ..]; omega
        intro v3 w4 hown4 hg4 _
        have hlit := World.ownsRow_lit (e := 55) (size := 15) w3 #[] 0 (Nat.le_refl _) (by decide) rfl
        have hb0 : Below w3.heap.size w3 (w3.alloc (.cells #[] 55)) := (Below.refl _ _).alloc (Nat.le_refl _) _
        have hL4 := (HL3.out.below hb0).kept hlit hg4 (HL3.out.ne hlit (Nat.le_refl _))
        have hA4 := (HA3.out.below hb0).kept hlit hg4 (HA3.out.ne hlit (Nat.le_refl _))
        have hC4 : Own w3.heap.size 2 [p0, p1] v3 w4 := ⟨hown4, fun p hp => by
          exact hL4.2 p (by rw [HPS.out]; exact sub2 hp)⟩
        have hB4 : Below w.heap.size w w4 := (HB3.out.alloc HB3.out.size _).grown hg4 (by rw [show (w3.alloc (.cells #[] 55)).heap.size = w3.heap.size + 1 from Array.size_push ..]; have := HB3.out.size; omega) (fun q hq => by have := (hlit.lt q hq).1; have := HB3.out.size; omega)
        have hsz4 : w3.heap.size ≤ w4.heap.size := Nat.le_trans hb0.size hg4.size
        have HSZ4 := Lib.hid hsz4
        have HL4 := Lib.hid hL4
        have HA4 := Lib.hid hA4
        have HC4 := Lib.hid hC4
        have HB4 := Lib.hid hB4
        clear hsz4 hb0 hlit hL4 hA4 hC4 hB4 hown4 hg4
        go_wp2_with (at_builtin; refine wpList_append_own _ rfl (.tmp 62) (.tmp 66) 44 rfl w3.heap.size 55 i0 zeroStep 15 136 Try.underlying44 HI.out HZ0.out HZ1.out HZ2.out rfl (by decide) _ 2 (lay [p0, p1]) rfl ((HC4.out.1.alloc _).alloc _) ⟨w4.heap.size + 1, 0, none⟩ 1 1 (SV.list (bootS 1 0 1, some ⟨w4.heap.size, 0, none⟩, 1)) rfl rfl (news_cell (w4.alloc _) 55 (SV.list (bootS 1 0 1, some ⟨w4.heap.size, 0, none⟩, 1)) (Array.size_push ..).symm) (sv_one _) (by decide) (by decide) ?c8 ?_)
        case c8 => rw [show ((w4.alloc (.cells #[.bool true, .int .i64 1, .int .i64 0, .int .i64 1] 59)).alloc _).heap.size = w4.heap.size + 1 + 1 from (Array.size_push ..).trans (congrArg (· + 1) (Array.size_push ..))]; have := HSZ4.out; omega
        intro v4 w5 hown5 hg5 _
        have hC5 := HC4.out.boot ⟨w31' (x := 1) (by omega) (by omega), w31' (x := 0) (by omega) (by omega), w31' (x := 1) (by omega) (by omega)⟩ hown5 hg5
        have hL5 := ((HL4.out.below ((Below.refl _ _).alloc (Nat.le_refl _) _)).below ((Below.refl _ _).alloc (Nat.le_refl _) _)).kept ((HC4.out.1.alloc _).alloc _) hg5 (HL3.out.ne HC4.out.1 (Nat.le_refl _))
        have hA5 := ((HA4.out.below ((Below.refl _ _).alloc (Nat.le_refl _) _)).below ((Below.refl _ _).alloc (Nat.le_refl _) _)).kept ((HC4.out.1.alloc _).alloc _) hg5 (HA3.out.ne HC4.out.1 (Nat.le_refl _))
        have hB5 := own_below HB4.out HC4.out.1 HB3.out.size hg5
        have HL5 := Lib.hid hL5
        have HA5 := Lib.hid hA5
        have HC5 := Lib.hid hC5
        have HB5 := Lib.hid hB5
        clear hL5 hA5 hC5 hB5 hown5 hg5 HL4 HA4 HC4 HB4 HL3 HA3 HB3 HSZ3 HSZ4 HSZ2 HL0
        go_wp2_with fail
        refine (HL5.out.call (by omega) HLEN.out (by omega) HW.out).mono ?_
        rintro e6 w6 ⟨rfl, hb6⟩
        have hA6 := HA5.out.below hb6
        have hC6 := HC5.out.below hb6
        have hB6 : Below w.heap.size w w6 := HB5.out.trans (hb6.mono HB5.out.size)
        have HA6 := Lib.hid hA6
        have HC6 := Lib.hid hC6
        have HB6 := Lib.hid hB6
        clear hA6 hC6 hB6 hb6 HL5 HA5 HC5 HB5
        go_wp2_with fail
        refine (HA6.out.call (x := 2) (by omega) rfl (by omega) (by show firstP [p0.1, p1.1, bootS 1 1 0] = 2; rw [HP.out.1, HP.out.2]; exact HOT.out.1)).mono ?_
        rintro e7 w7 ⟨rfl, hb7⟩
        have hC7 := HC6.out.below hb7
        have hB7 : Below w.heap.size w w7 := HB6.out.trans (hb7.mono HB6.out.size)
        have HC7 := Lib.hid hC7
        have HB7 := Lib.hid hB7
        clear hC7 hB7 hb7 HA6 HC6 HB6
        go_wp2_with fail
        refine (HC7.out.call (x := 2) (by omega) rfl (by omega) (by show firstP [p0.1, p1.1, bootS 1 0 1] = 2; rw [HP.out.1, HP.out.2]; exact HOT.out.2)).mono ?_
        rintro e8 w8 ⟨rfl, hb8⟩
        have hB8 : Below w.heap.size w w8 := HB7.out.trans (hb8.mono HB7.out.size)
        have HB8 := Lib.hid hB8
        clear hB8 hb8
        go_wp2
        go_ret
        exact ⟨rfl, HB8.out⟩
end Go.Proofs.Ytopbhdpfakjkjaa.Aud
