/- Proved: what lies in memory when the core is in a given state, part by part, and that each part stands while other blocks turn. -/
import Derived.Test.YtjmdgicdpggljaaGreatM06
import Derived.Test.YtjmdgicdpggljaaGreatM19
import Derived.Test.YtjmdgicdpggljaaGreatM08
import Derived.Test.YtjmdgicdpggljaaGreatM09
import Derived.Test.YtjmdgicdpggljaaGreatM07
import Derived.Test.YtjmdgicdpggljaaGreatM03
import Derived.Test.YtjmdgicdpggljaaGreatM02
import Derived.Deep.DeepCutAuto
import Derived.Deep.CutBlock
set_option linter.all false
namespace Go.Proofs.YtjmdgicdpggljaaGreat.GH
open Go.RowKit Go.Proofs.YtjmdgicdpggljaaGreat.Histo Go.Proofs.YtjmdgicdpggljaaGreat.Event Go.Proofs.YtjmdgicdpggljaaGreat.Ring
set_option linter.unusedVariables false
open Go.Proofs.YtjmdgicdpggljaaGreat.MapG (Codec Mk)
open Go.Proofs.YtjmdgicdpggljaaGreat.MapI (AL At Rng W64)

abbrev ptr (p : Nat) : Value := .pointer (some ⟨p, 0, none⟩)
/-- A host's cache as its map holds it. -/
def cval (p : Nat) : Option Cache → Value
  | some _ => ptr p
  | none => .pointer none
/-- The row behind a slice lies in the block of this name, if it lies anywhere. -/
def RowTag (w : World) (g : G) (t : Tag) (v : Value) : Prop := ∀ q, v.ownBlock = some q → Lv w g t ∧ q = g.ad t
def Cmd.cells (c : Cmd) : List Value := [.bool c.boot, .int .i64 c.box, .int .i64 c.fn, .int .i64 c.host]
def Fn.cells (x : Fn) (h r : Nat) : Array Value := #[.int .i64 x.acc, .int .i64 x.mem, .int .i64 x.cost, .int .i64 x.keep, .int .i64 x.often, .int .i64 x.last, .int .i64 x.til, ptr h, ptr r]
section
variable {T : Tag → Prop} {w w' : World} {g g' : G}
theorem RowTag.step {t : Tag} {v : Value} (h : RowTag w g t v) (st : Step T w g w' g') (hn : ¬ T t) : RowTag w' g' t v := fun q hq => ⟨(h q hq).1.step st hn, by rw [st.ad t hn]; exact (h q hq).2⟩
theorem RowTag.heap {t : Tag} {v : Value} (h : RowTag w g t v) (st : Step T w g w' g') (hn : ¬ T t) : ∀ q, v.ownBlock = some q → w'.heap[q]? = w.heap[q]? := fun q hq => by
  obtain ⟨h1, h2⟩ := h q hq
  have := h1.heap st hn
  rw [st.ad t hn, ← h2] at this
  exact this
/-- A block of a name with these cells. -/
structure Nm (w : World) (g : G) (t : Tag) (ty : TypeId) (cs : Array Value) : Prop where
  lv : Lv w g t
  blk : Blk w (g.ad t) ty cs
theorem Nm.step {t : Tag} {ty : TypeId} {cs : Array Value} (h : Nm w g t ty cs) (st : Step T w g w' g') (hn : ¬ T t) : Nm w' g' t ty cs := ⟨h.lv.step st hn, (h.lv.heap st hn).trans h.blk⟩

/-! ### the parts -/
structure ToksAt (w : World) (g : G) (l : FM Bkt) : Prop where
  lv : Lv w g .toks
  map : Mp 3 w (g.ad .toks) (FM.vals (fun a _ => ptr (g.ad (.tok a))) l)
  each : ∀ a b, FM.get l a = some b → Nm w g (.tok a) 161 b.cells
structure BoxesAt (w : World) (g : G) (l : FM Box) : Prop where
  lv : Lv w g .boxes
  map : Mp 3 w (g.ad .boxes) (FM.vals (fun id _ => ptr (g.ad (.box id))) l)
  each : ∀ id b, FM.get l id = some b → Nm w g (.box id) 72 b.cells
structure TilAt (w : World) (g : G) (l : FM Int) : Prop where
  lv : Lv w g .til
  map : Mp 3 w (g.ad .til) (FM.vals (fun _ x => .int .i64 x) l)
structure FnAt (w : World) (g : G) (f : Int) (x : Fn) : Prop where
  blk : Nm w g (.fn f) 130 (x.cells (g.ad (.hist f)) (g.ad (.ring f)))
  hist : Nm w g (.hist f) 170 x.hist.cells
  ok : Histo.Ok x.hist
  rlv : Lv w g (.ring f)
  ring : Rg w (g.ad (.ring f)) x.ring
structure FnsAt (w : World) (g : G) (l : FM Fn) : Prop where
  lv : Lv w g .fns
  map : Mp 3 w (g.ad .fns) (FM.vals (fun f _ => ptr (g.ad (.fn f))) l)
  each : ∀ f x, FM.get l f = some x → FnAt w g f x
structure CacheG (w : World) (g : G) (h : Int) (c : Cache) : Prop where
  l1 : Lv w g (.cache h)
  l2 : Lv w g (.heap h)
  l3 : Lv w g (.hat h)
  at_ : ∃ v, CacheAt w (g.ad (.cache h)) (g.ad (.heap h)) (g.ad (.hat h)) v c ∧ RowTag w g (.items h) v
structure CachesAt (w : World) (g : G) (l : FM (Option Cache)) : Prop where
  lv : Lv w g .caches
  map : Mp 3 w (g.ad .caches) (FM.vals (fun h c => cval (g.ad (.cache h)) c) l)
  each : ∀ h c, FM.get l h = some (some c) → CacheG w g h c
structure TimersG (w : World) (g : G) (t : Timers) : Prop where
  l1 : Lv w g .timers
  l2 : Lv w g .theap
  l3 : Lv w g .tat
  at_ : ∃ v, TimersAt w (g.ad .timers) (g.ad .theap) (g.ad .tat) v t ∧ RowTag w g .titems v

/-! ### each part stands while other blocks turn -/
theorem vals_ad {α : Type} (k : Int → Tag) (f f' : Int → α → Value) (l : FM α) (h : ∀ a b, (a, b) ∈ l → f' a b = f a b) : FM.vals f' l = FM.vals f l := by
  unfold FM.vals
  exact List.map_congr_left fun p hp => by rw [h p.1 p.2 hp]
theorem ToksAt.step {l : FM Bkt} (h : ToksAt w g l) (st : Step T w g w' g') (h0 : ¬ T .toks) (h1 : ∀ a, ¬ T (.tok a)) : ToksAt w' g' l := by
  refine ⟨h.lv.step st h0, ?_, fun a b hb => (h.each a b hb).step st (h1 a)⟩
  rw [show (fun (a : Int) (_ : Bkt) => ptr (g'.ad (.tok a))) = fun a _ => ptr (g.ad (.tok a)) from funext fun a => funext fun _ => by rw [st.ad _ (h1 a)], st.ad _ h0]
  have := h.lv.heap st h0
  rw [st.ad _ h0] at this
  exact h.map.same this
theorem BoxesAt.step {l : FM Box} (h : BoxesAt w g l) (st : Step T w g w' g') (h0 : ¬ T .boxes) (h1 : ∀ a, ¬ T (.box a)) : BoxesAt w' g' l := by
  refine ⟨h.lv.step st h0, ?_, fun a b hb => (h.each a b hb).step st (h1 a)⟩
  rw [show (fun (a : Int) (_ : Box) => ptr (g'.ad (.box a))) = fun a _ => ptr (g.ad (.box a)) from funext fun a => funext fun _ => by rw [st.ad _ (h1 a)], st.ad _ h0]
  have := h.lv.heap st h0
  rw [st.ad _ h0] at this
  exact h.map.same this
theorem TilAt.step {l : FM Int} (h : TilAt w g l) (st : Step T w g w' g') (h0 : ¬ T .til) : TilAt w' g' l := by
  refine ⟨h.lv.step st h0, ?_⟩
  have := h.lv.heap st h0
  rw [st.ad _ h0] at this ⊢
  exact h.map.same this
theorem FnAt.step {f : Int} {x : Fn} (h : FnAt w g f x) (st : Step T w g w' g') (h1 : ¬ T (.fn f)) (h2 : ¬ T (.hist f)) (h3 : ¬ T (.ring f)) : FnAt w' g' f x := by
  refine ⟨?_, h.hist.step st h2, h.ok, h.rlv.step st h3, ?_⟩
  · rw [st.ad _ h2, st.ad _ h3]; exact h.blk.step st h1
  · obtain ⟨xs, n, a, b⟩ := h.ring
    exact ⟨xs, n, a, (h.rlv.heap st h3).trans b⟩
theorem FnsAt.step {l : FM Fn} (h : FnsAt w g l) (st : Step T w g w' g') (h0 : ¬ T .fns) (h1 : ∀ a, ¬ T (.fn a)) (h2 : ∀ a, ¬ T (.hist a)) (h3 : ∀ a, ¬ T (.ring a)) : FnsAt w' g' l := by
  refine ⟨h.lv.step st h0, ?_, fun a b hb => (h.each a b hb).step st (h1 a) (h2 a) (h3 a)⟩
  rw [show (fun (a : Int) (_ : Fn) => ptr (g'.ad (.fn a))) = fun a _ => ptr (g.ad (.fn a)) from funext fun a => funext fun _ => by rw [st.ad _ (h1 a)], st.ad _ h0]
  have := h.lv.heap st h0
  rw [st.ad _ h0] at this
  exact h.map.same this
theorem CacheG.step {h : Int} {c : Cache} (k : CacheG w g h c) (st : Step T w g w' g') (h1 : ¬ T (.cache h)) (h2 : ¬ T (.heap h)) (h3 : ¬ T (.hat h)) (h4 : ¬ T (.items h)) : CacheG w' g' h c := by
  obtain ⟨v, a, b⟩ := k.at_
  refine ⟨k.l1.step st h1, k.l2.step st h2, k.l3.step st h3, v, ⟨(k.l1.heap st h1).trans a.head |> fun e => ?_, ?_, a.clock⟩, b.step st h4⟩
  · rw [st.ad _ h2]; exact e
  · have e1 := k.l2.heap st h2
    have e2 := k.l3.heap st h3
    rw [st.ad _ h2] at e1 ⊢
    rw [st.ad _ h3] at e2 ⊢
    exact a.heap.same e1 e2 (b.heap st h4)
theorem TimersG.step {t : Timers} (k : TimersG w g t) (st : Step T w g w' g') (h1 : ¬ T .timers) (h2 : ¬ T .theap) (h3 : ¬ T .tat) (h4 : ¬ T .titems) : TimersG w' g' t := by
  obtain ⟨v, a, b⟩ := k.at_
  refine ⟨k.l1.step st h1, k.l2.step st h2, k.l3.step st h3, v, ⟨(k.l1.heap st h1).trans a.head |> fun e => ?_, ?_⟩, b.step st h4⟩
  · rw [st.ad _ h2]; exact e
  · have e1 := k.l2.heap st h2
    have e2 := k.l3.heap st h3
    rw [st.ad _ h2] at e1 ⊢
    rw [st.ad _ h3] at e2 ⊢
    exact a.heap.same e1 e2 (b.heap st h4)
theorem CachesAt.step {l : FM (Option Cache)} (h : CachesAt w g l) (st : Step T w g w' g') (h0 : ¬ T .caches) (h1 : ∀ a, ¬ T (.cache a)) (h2 : ∀ a, ¬ T (.heap a)) (h3 : ∀ a, ¬ T (.hat a)) (h4 : ∀ a, ¬ T (.items a)) : CachesAt w' g' l := by
  refine ⟨h.lv.step st h0, ?_, fun a b hb => (h.each a b hb).step st (h1 a) (h2 a) (h3 a) (h4 a)⟩
  rw [show (fun (a : Int) (c : Option Cache) => cval (g'.ad (.cache a)) c) = fun a c => cval (g.ad (.cache a)) c from funext fun a => funext fun c => by rw [st.ad _ (h1 a)], st.ad _ h0]
  have := h.lv.heap st h0
  rw [st.ad _ h0] at this
  exact h.map.same this
/-! ### all of it -/
def Core.cells (s : Core) (g : G) (ov : Value) : Array Value :=
  (([Value.int .i64 s.now, Value.int .i64 s.next, ptr (g.ad .quota), Value.map (some (g.ad .toks)), Value.map (some (g.ad .fns)), ptr (g.ad .hosts), Value.map (some (g.ad .caches)), Value.map (some (g.ad .boxes)), Value.map (some (g.ad .til)), ptr (g.ad .timers), ov] : List Value) ++ s.ans.map (fun x => Value.int .i64 x)).toArray
structure OutAt (w : World) (g : G) (ov : Value) (l : List Cmd) : Prop where
  row : w.ownsRow 0 44 4 ov l.length (l.flatMap Cmd.cells)
  tag : RowTag w g .out ov
theorem OutAt.step {ov : Value} {l : List Cmd} (h : OutAt w g ov l) (st : Step T w g w' g') (hn : ¬ T .out) : OutAt w' g' ov l := by
  refine ⟨⟨h.row.1, ?_⟩, h.tag.step st hn⟩
  rcases h.row.2 with h0 | ⟨q, cap, cur, e1, e2, e3, e4⟩
  · exact .inl h0
  · exact .inr ⟨q, cap, cur, e1, e2, (h.tag.heap st hn q (by rw [e1]; rfl)).trans e3, e4⟩
structure Mem (w : World) (g : G) (s : Core) (ov : Value) : Prop where
  core : Nm w g .core 65 (s.cells g ov)
  out : OutAt w g ov s.out
  quota : Nm w g .quota 81 s.quota.cells
  qok : s.quota.Ok
  toks : ToksAt w g s.toks
  fns : FnsAt w g s.fns
  hosts : Nm w g .hosts 86 s.hosts.cells
  hok : s.hosts.Ok
  caches : CachesAt w g s.caches
  boxes : BoxesAt w g s.boxes
  til : TilAt w g s.til
  timers : TimersG w g s.timers
  ans : s.ans.length = 5
theorem Mem.below {s : Core} {ov : Value} (h : Mem w g s ov) (hb : Below w.heap.size w w') : Mem w' g s ov := by
  have st := Step.of_below hb g (fun _ => False)
  exact ⟨h.core.step st id, h.out.step st id, h.quota.step st id, h.qok, h.toks.step st id (fun _ => id), h.fns.step st id (fun _ => id) (fun _ => id) (fun _ => id), h.hosts.step st id, h.hok, h.caches.step st id (fun _ => id) (fun _ => id) (fun _ => id) (fun _ => id), h.boxes.step st id (fun _ => id), h.til.step st id, h.timers.step st id id id id, h.ans⟩
end
end Go.Proofs.YtjmdgicdpggljaaGreat.GH

/- Proved: core.New leaves the memory of a core without anything. -/
namespace Go.Proofs.YtjmdgicdpggljaaGreat.GH
open Go.RowKit Go.Proofs.YtjmdgicdpggljaaGreat.Histo Go.Proofs.YtjmdgicdpggljaaGreat.Event Go.Proofs.YtjmdgicdpggljaaGreat.Ring
set_option linter.unusedVariables false
open Go.Proofs.YtjmdgicdpggljaaGreat.MapG (Codec Mk)
open Go.Proofs.YtjmdgicdpggljaaGreat.MapI (AL At Rng W64)

set_option maxRecDepth 100000 in
theorem qnew_any (w : World) : Calls Tryz.prog 11 #[] w fun e w' => e = .returned (.pointer (some ⟨w.heap.size, 0, none⟩)) ∧ w' = w.alloc (.cells Quota.none.cells 81) := by
  go_enter Tryz.func11, Tryz.ntmps11
  go_wp2
  go_ret
  exact ⟨rfl, rfl⟩
/-- Where the parts of a new core lie. -/
def g0 (n : Nat) : G := ⟨fun t => match t with
  | .quota => n | .toks => n + 1 | .fns => n + 2 | .hosts => n + 3 | .caches => n + 4 | .boxes => n + 5 | .til => n + 6 | .tat => n + 7 | .theap => n + 8 | .timers => n + 9 | .core => n + 10 | _ => 0,
  fun p => if p = n then .quota else if p = n + 1 then .toks else if p = n + 2 then .fns else if p = n + 3 then .hosts else if p = n + 4 then .caches else if p = n + 5 then .boxes else if p = n + 6 then .til else if p = n + 7 then .tat else if p = n + 8 then .theap else if p = n + 9 then .timers else if p = n + 10 then .core else .none⟩
abbrev W7 (w : World) : World := ((((((w.alloc (.cells Quota.none.cells 81)).alloc (.map #[] 0)).alloc (.map #[] 0)).alloc (.cells (Hosts.cells (List.replicate 32 Mach.none)) 86)).alloc (.map #[] 0)).alloc (.map #[] 0)).alloc (.map #[] 0)
theorem alloc_le (w : World) (o : Obj) (b : Nat) (h : b < w.heap.size) : (w.alloc o).heap[b]? = w.heap[b]? := Below.heap_alloc w o b h
theorem qnone_ok : Quota.none.Ok := by constructor <;> simp [Quota.none]
theorem al {W : World} {o x : Obj} {b : Nat} (h : W.heap[b]? = some x) : (W.alloc o).heap[b]? = some x := (alloc_le W o b (by
  rcases Nat.lt_or_ge b W.heap.size with h1 | h1
  · exact h1
  · rw [Array.getElem?_eq_none h1] at h; cases h)).trans h
theorem an {W : World} {o : Obj} {b : Nat} (h : W.heap.size = b) : (W.alloc o).heap[b]? = some o := by rw [← h]; exact heap_alloc_new W o
theorem alloc7 (w : World) (o0 o1 o2 o3 o4 o5 o6 : Obj) (W : World) (hW : W = ((((((w.alloc o0).alloc o1).alloc o2).alloc o3).alloc o4).alloc o5).alloc o6) :
    W.heap[w.heap.size]? = some o0 ∧ W.heap[w.heap.size + 1]? = some o1 ∧ W.heap[w.heap.size + 2]? = some o2 ∧ W.heap[w.heap.size + 3]? = some o3 ∧ W.heap[w.heap.size + 4]? = some o4 ∧ W.heap[w.heap.size + 5]? = some o5 ∧ W.heap[w.heap.size + 6]? = some o6 := by
  subst hW
  exact ⟨al (al (al (al (al (al (an rfl)))))), al (al (al (al (al (an (by simp)))))), al (al (al (al (an (by simp))))), al (al (al (an (by simp)))), al (al (an (by simp))), al (an (by simp)), an (by simp)⟩
theorem hnone_ok : Hosts.Ok (List.replicate 32 Mach.none) := by constructor <;> simp [Mach.none]
theorem new_mem (w w8 : World) (hb8 : Below (W7 w).heap.size (W7 w) w8) (hs8 : w8.heap.size = w.heap.size + 10) (ht : TimersAt w8 (w.heap.size + 9) (w.heap.size + 8) (w.heap.size + 7) (.slice none 0 0) []) :
    Mem (w8.alloc (.cells (Core.new.cells (g0 w.heap.size) (.slice none 0 0)) 65)) (g0 w.heap.size) Core.new (.slice none 0 0) := by
  have hsz : (W7 w).heap.size = w.heap.size + 7 := by simp
  have hw9 : (w8.alloc (.cells (Core.new.cells (g0 w.heap.size) (.slice none 0 0)) 65)).heap.size = w.heap.size + 11 := by rw [World.size_alloc, hs8]
  have hlv : ∀ t, (g0 w.heap.size).own ((g0 w.heap.size).ad t) = t → (g0 w.heap.size).ad t < w.heap.size + 11 → Lv (w8.alloc (.cells (Core.new.cells (g0 w.heap.size) (.slice none 0 0)) 65)) (g0 w.heap.size) t := fun t h2 h3 => ⟨h2, by rw [hw9]; exact h3⟩
  have hto : ∀ b, b < w.heap.size + 7 → (w8.alloc (.cells (Core.new.cells (g0 w.heap.size) (.slice none 0 0)) 65)).heap[b]? = (W7 w).heap[b]? := fun b hb => (alloc_le _ _ _ (by omega)).trans (hb8.block b (by omega))
  have hmap : ∀ (k : TypeId) b, (W7 w).heap[b]? = some (.map #[] 0) → b < w.heap.size + 7 → Mp k (w8.alloc (.cells (Core.new.cells (g0 w.heap.size) (.slice none 0 0)) 65)) b [] := fun k b hb hlt => by
    have h0 := MapI.At.made (P := Tryz.prog) (k := k) ({ w with heap := Array.replicate b (.map #[] 0) } : World)
    have h1 := heap_alloc_new ({ w with heap := Array.replicate b (.map #[] 0) } : World) (.map #[] 0)
    have hs : ({ w with heap := Array.replicate b (.map #[] 0) } : World).heap.size = b := Array.size_replicate ..
    rw [hs] at h0 h1
    exact MapI.At.same h0 ((hto b hlt).trans (hb.trans h1.symm))
  have no : ∀ {α : Type} (a : Int) (b : α), FM.get ([] : FM α) a = some b → False := fun a b h => by simp [FM.get] at h
  obtain ⟨q0, q1, q2, q3, q4, q5, q6⟩ := alloc7 w _ _ _ _ _ _ _ (W7 w) rfl
  have hbl : Below w8.heap.size w8 (w8.alloc (.cells (Core.new.cells (g0 w.heap.size) (.slice none 0 0)) 65)) := (Below.refl _ _).alloc (Nat.le_refl _) _
  exact {
    core := ⟨hlv _ (by simp [g0]) (by simp [g0]), by show Blk _ (w.heap.size + 10) _ _; rw [← hs8]; exact Blk.new w8 _ _⟩
    out := ⟨World.ownsRow_nil _ _ _ _, fun q hq => by cases hq⟩
    quota := ⟨hlv _ (by simp [g0]) (by simp [g0]), (hto _ (by simp [g0])).trans q0⟩
    qok := qnone_ok
    toks := ⟨hlv _ (by simp [g0]) (by simp [g0]), hmap _ _ q1 (by simp [g0]), fun a b h => (no a b h).elim⟩
    fns := ⟨hlv _ (by simp [g0]) (by simp [g0]), hmap _ _ q2 (by simp [g0]), fun a b h => (no a b h).elim⟩
    hosts := ⟨hlv _ (by simp [g0]) (by simp [g0]), (hto _ (by simp [g0])).trans q3⟩
    hok := hnone_ok
    caches := ⟨hlv _ (by simp [g0]) (by simp [g0]), hmap _ _ q4 (by simp [g0]), fun a b h => (no a _ h).elim⟩
    boxes := ⟨hlv _ (by simp [g0]) (by simp [g0]), hmap _ _ q5 (by simp [g0]), fun a b h => (no a b h).elim⟩
    til := ⟨hlv _ (by simp [g0]) (by simp [g0]), hmap _ _ q6 (by simp [g0])⟩
    timers := ⟨hlv _ (by simp [g0]) (by simp [g0]), hlv _ (by simp [g0]) (by simp [g0]), hlv _ (by simp [g0]) (by simp [g0]), _, ht.below hbl, fun q hq => by cases hq⟩
    ans := rfl }
theorem below_W7 (w : World) : Below w.heap.size w (W7 w) := ((((((((Below.refl w.heap.size w).alloc (Nat.le_refl _) _).alloc (by simp) _).alloc (by simp; omega) _).alloc (by simp; omega) _).alloc (by simp; omega) _).alloc (by simp; omega) _).alloc (by simp; omega) _)
set_option maxRecDepth 100000 in
set_option maxHeartbeats 4000000 in
theorem corenew_any (w : World) : Calls Tryz.prog 5 #[] w fun e w' => e = .returned (ptr (w.heap.size + 10)) ∧ Mem w' (g0 w.heap.size) Core.new (.slice none 0 0) ∧ Below w.heap.size w w' := by
  have hmm := @run_makeMap Tryz.prog
  go_enter Tryz.func5, Tryz.ntmps5
  go_wp2_with (first
    | (go_at_call 11; refine (qnew_any _).mono ?_; rintro e w1 ⟨rfl, rfl⟩)
    | (go_at_call 12; refine (hnew_any _).mono ?_; rintro e w1 ⟨rfl, rfl⟩)
    | (go_at_call 13; refine (tnew_any _).mono ?_; rintro e w8 ⟨rfl, ht, hb8, hs8⟩))
  have e7 : (W7 w).heap.size = w.heap.size + 7 := by simp
  have ht' : TimersAt w8 ((W7 w).heap.size + 2) ((W7 w).heap.size + 1) (W7 w).heap.size (.slice none 0 0) [] := ht
  have hs' : w8.heap.size = (W7 w).heap.size + 3 := hs8
  have hb' : Below (W7 w).heap.size (W7 w) w8 := hb8
  rw [e7] at ht' hs'
  have hm := new_mem w w8 hb' hs' ht'
  have hbw : Below w.heap.size w w8 := below_step (below_W7 w) hb'
  clear ht hb8 hs8 ht' hs' hb' hmm
  go_ret
  exact ⟨rfl, hm, hbw.alloc hbw.size _⟩
end Go.Proofs.YtjmdgicdpggljaaGreat.GH

/- Proved: what a method of a part leaves, as a step over the named blocks. -/
namespace Go.Proofs.YtjmdgicdpggljaaGreat.GH
open Go.RowKit Go.Proofs.YtjmdgicdpggljaaGreat.Histo Go.Proofs.YtjmdgicdpggljaaGreat.Event Go.Proofs.YtjmdgicdpggljaaGreat.Ring
set_option linter.unusedVariables false
open Go.Proofs.YtjmdgicdpggljaaGreat.MapG (Codec Mk)
open Go.Proofs.YtjmdgicdpggljaaGreat.MapI (AL At Rng W64)

theorem Step.of_only {T : Tag → Prop} {F : Nat → Prop} {w w' : World} (g : G) (h : Only F w w') (hF : ∀ q, q < w.heap.size → F q → T (g.own q)) : Step T w g w' g :=
  ⟨h.os, h.tape, h.output, h.size, fun _ _ => rfl, fun p hp hn => h.block p hp (fun e => hn (hF p hp e)), fun _ _ => rfl⟩
theorem Lv.grow {w w' : World} {g : G} {t : Tag} (h : Lv w g t) (hs : w.heap.size ≤ w'.heap.size) : Lv w' g t := ⟨h.own, Nat.lt_of_lt_of_le h.lt hs⟩
theorem Lv.set_ {w w' : World} {g : G} {t u : Tag} {q : Nat} (h : Lv w g t) (hs : w.heap.size ≤ w'.heap.size) (hq : w.heap.size ≤ q) (hn : t ≠ u) : Lv w' (g.set_ u q) t := by
  refine ⟨?_, ?_⟩
  · rw [G.set_ad_ne _ _ _ _ hn]
    have := h.lt
    unfold G.set_
    simp only
    rw [if_neg (by omega)]
    exact h.own
  · rw [G.set_ad_ne _ _ _ _ hn]; exact Nat.lt_of_lt_of_le h.lt hs
abbrev CacheTags (h : Int) (t : Tag) : Prop := t = .cache h ∨ t = .heap h ∨ t = .hat h ∨ t = .items h
theorem cache_step {w w' : World} {g : G} {h : Int} {v : Value} {c' : Cache} (l1 : Lv w g (.cache h)) (l2 : Lv w g (.heap h)) (l3 : Lv w g (.hat h)) (r : RowTag w g (.items h) v)
    (ht : CacheTo w (g.ad (.cache h)) (g.ad (.heap h)) (g.ad (.hat h)) v c' w') :
    ∃ g', Step (CacheTags h) w g w' g' ∧ CacheG w' g' h c' ∧ ∀ t, t ≠ .items h → g'.ad t = g.ad t := by
  obtain ⟨v', h1, h2, h3⟩ := ht
  have st : Step (CacheTags h) w g w' g := Step.of_only g h3 (fun q _ hq => by
    rcases hq with rfl | rfl | rfl | hq
    · exact .inl l1.own
    · exact .inr (.inl l2.own)
    · exact .inr (.inr (.inl l3.own))
    · obtain ⟨a, rfl⟩ := r q hq
      exact .inr (.inr (.inr a.own)))
  rcases h2 with h2 | ⟨q, h2, hq⟩
  · exact ⟨g, st, ⟨l1.grow st.size, l2.grow st.size, l3.grow st.size, v', h1, fun q hq => ⟨(r q (by rw [← h2]; exact hq)).1.grow st.size, (r q (by rw [← h2]; exact hq)).2⟩⟩, fun _ _ => rfl⟩
  · have hql := (h1.heap.row.lt q h2).2
    refine ⟨g.set_ (.items h) q, st.name (.items h) q hq (.inr (.inr (.inr rfl))), ⟨l1.set_ st.size hq (by simp), l2.set_ st.size hq (by simp), l3.set_ st.size hq (by simp), v', ?_, ?_⟩, fun t ht => G.set_ad_ne _ _ _ _ ht⟩
    · rw [G.set_ad_ne _ _ _ _ (by simp), G.set_ad_ne _ _ _ _ (by simp), G.set_ad_ne _ _ _ _ (by simp)]; exact h1
    · intro p hp
      rw [h2] at hp
      cases hp
      exact ⟨Lv.named _ _ hql, by rw [G.set_ad]⟩
abbrev TimerTags (t : Tag) : Prop := t = .theap ∨ t = .tat ∨ t = .titems
theorem timers_step {w w' : World} {g : G} {v : Value} {c' : Timers} (l1 : Lv w g .timers) (l2 : Lv w g .theap) (l3 : Lv w g .tat) (r : RowTag w g .titems v)
    (ht : TimersTo w (g.ad .timers) (g.ad .theap) (g.ad .tat) v c' w') :
    ∃ g', Step TimerTags w g w' g' ∧ TimersG w' g' c' ∧ ∀ t, t ≠ .titems → g'.ad t = g.ad t := by
  obtain ⟨v', h1, h2, h3⟩ := ht
  have st : Step TimerTags w g w' g := Step.of_only g h3 (fun q _ hq => by
    rcases hq with rfl | rfl | hq
    · exact .inl l2.own
    · exact .inr (.inl l3.own)
    · obtain ⟨a, rfl⟩ := r q hq
      exact .inr (.inr a.own))
  rcases h2 with h2 | ⟨q, h2, hq⟩
  · exact ⟨g, st, ⟨l1.grow st.size, l2.grow st.size, l3.grow st.size, v', h1, fun q hq => ⟨(r q (by rw [← h2]; exact hq)).1.grow st.size, (r q (by rw [← h2]; exact hq)).2⟩⟩, fun _ _ => rfl⟩
  · have hql := (h1.heap.row.lt q h2).2
    refine ⟨g.set_ .titems q, st.name .titems q hq (.inr (.inr rfl)), ⟨l1.set_ st.size hq (by simp), l2.set_ st.size hq (by simp), l3.set_ st.size hq (by simp), v', ?_, ?_⟩, fun t ht => G.set_ad_ne _ _ _ _ ht⟩
    · rw [G.set_ad_ne _ _ _ _ (by simp), G.set_ad_ne _ _ _ _ (by simp), G.set_ad_ne _ _ _ _ (by simp)]; exact h1
    · intro p hp
      rw [h2] at hp
      cases hp
      exact ⟨Lv.named _ _ hql, by rw [G.set_ad]⟩
end Go.Proofs.YtjmdgicdpggljaaGreat.GH

/- Proved: what core's cache answers where a host's cache is there. -/
namespace Go.Proofs.YtjmdgicdpggljaaGreat.GH
open Go.RowKit Go.Proofs.YtjmdgicdpggljaaGreat.Histo Go.Proofs.YtjmdgicdpggljaaGreat.Event Go.Proofs.YtjmdgicdpggljaaGreat.Ring
set_option linter.unusedVariables false
open Go.Proofs.YtjmdgicdpggljaaGreat.MapG (Codec Mk)
open Go.Proofs.YtjmdgicdpggljaaGreat.MapI (AL At Rng W64)

theorem zero_cacheW (w : World) : (zeroValue 101).run Tryz.prog w = .ok (.pointer none) w := by kernel_rfl
theorem caches_look {w : World} {g : G} {l : FM (Option Cache)} (m : CachesAt w g l) {h : Int} (hh : W64 h) {W : World} (e : W.heap[g.ad .caches]? = w.heap[g.ad .caches]?) :
    (Instr.lookup 51 (.map (some (g.ad .caches))) (.int .i64 h) false).run Tryz.prog W = .ok (((FM.get l h).map (cval (g.ad (.cache h)))).getD (.pointer none)) W := by
  have := MapI.At.look (m.map.same e) (by kernel_rfl) Tryz.underlying51 (zero_cacheW W) hh
  rw [this, FM.get_vals]
set_option maxRecDepth 100000 in
set_option maxHeartbeats 4000000 in
theorem ccache_there (w : World) (g : G) (s : Core) (ov : Value) (h : Int) (c : Cache) (m : Mem w g s ov) (hh : W64 h) (hc : FM.get s.caches h = some (some c)) :
    Calls Tryz.prog 109 #[ptr (g.ad .core), .int .i64 h] w (RetV (ptr (g.ad (.cache h))) w) := by
  have c6 : w.cell? ⟨g.ad .core, 6, none⟩ = some (.map (some (g.ad .caches))) := m.core.blk.cell 6
  have hl := caches_look m.caches hh (W := w) rfl
  rw [hc] at hl
  simp only [Option.map_some, Option.getD_some, cval] at hl
  clear m hc
  generalize g.ad .core = p at c6 ⊢
  generalize g.ad .caches = q at c6 hl
  generalize g.ad (.cache h) = r at hl ⊢
  go_enter Tryz.func109, Tryz.ntmps109
  go_wp2
  go_ret
  exact ⟨rfl, 0, rfl⟩
/-- The tags that a new cache of a host turns. -/
abbrev NewTags (h : Int) (t : Tag) : Prop := t = .caches ∨ CacheTags h t
def gcache (g : G) (h : Int) (n : Nat) : G := ((g.set_ (.hat h) n).set_ (.heap h) (n + 1)).set_ (.cache h) (n + 2)
theorem gcache_ne (g : G) (h : Int) (n : Nat) (t : Tag) (ht : ¬ CacheTags h t) : (gcache g h n).ad t = g.ad t := by
  unfold gcache
  rw [G.set_ad_ne _ _ _ _ (fun e => ht (.inl e)), G.set_ad_ne _ _ _ _ (fun e => ht (.inr (.inl e))), G.set_ad_ne _ _ _ _ (fun e => ht (.inr (.inr (.inl e))))]
theorem put_turn {α : Type} {f f' : Int → α → Value} {l : FM α} {k : Int} {a : α} (h : ∀ x b, x ≠ k → f' x b = f x b) : MapI.put (FM.vals f l) k (f' k a) = FM.vals f' (FM.put l k a) := by
  rw [← FM.put_vals]
  unfold MapI.put
  rw [FM.del_vals, FM.del_vals, FM.vals_congr (f := f') (g := f) (fun p hp => ?_)]
  have : p.1 ≠ k := by
    unfold FM.del at hp
    simpa using (List.mem_filter.1 hp).2
  exact h _ _ this
theorem mem_newcache {w w1 w2 : World} {g : G} {s : Core} {ov : Value} {h : Int} (m : Mem w g s ov) (hca : CacheAt w1 (w.heap.size + 2) (w.heap.size + 1) w.heap.size (.slice none 0 0) ⟨[], 0⟩) (hb : Below w.heap.size w w1) (hs1 : w1.heap.size = w.heap.size + 3)
    {N : Nat} (hm : At Tryz.prog 3 w2 (g.ad .caches) N (MapI.put (FM.vals (fun h c => cval (g.ad (.cache h)) c) s.caches) h (ptr (w.heap.size + 2)))) (hg : w1.grownBy w2 (some (g.ad .caches))) (hs2 : w2.heap.size = w1.heap.size) :
    Mem w2 (gcache g h w.heap.size) (s.setCache h ⟨[], 0⟩) ov ∧ Step (NewTags h) w g w2 (gcache g h w.heap.size) := by
  have st1 : Step (NewTags h) w g w2 g := (Step.of_below hb g _).trans (Step.of_grown hg (fun k e => by cases e; exact .inl m.caches.lv.own))
  have st : Step (NewTags h) w g w2 (gcache g h w.heap.size) := ((st1.name (.hat h) w.heap.size (Nat.le_refl _) (.inr (.inr (.inr (.inl rfl))))).name (.heap h) (w.heap.size + 1) (by omega) (.inr (.inr (.inl rfl)))).name (.cache h) (w.heap.size + 2) (by omega) (.inr (.inl rfl))
  have hcl := m.caches.lv.lt
  have ec : ∀ k, k ≠ h → (gcache g h w.heap.size).ad (.cache k) = g.ad (.cache k) := fun k hk => gcache_ne _ _ _ _ (by simp [CacheTags, hk])
  have eh : (gcache g h w.heap.size).ad (.cache h) = w.heap.size + 2 := by unfold gcache; rw [G.set_ad]
  have eh1 : (gcache g h w.heap.size).ad (.heap h) = w.heap.size + 1 := by unfold gcache; rw [G.set_ad_ne _ _ _ _ (by simp), G.set_ad]
  have eh2 : (gcache g h w.heap.size).ad (.hat h) = w.heap.size := by unfold gcache; rw [G.set_ad_ne _ _ _ _ (by simp), G.set_ad_ne _ _ _ _ (by simp), G.set_ad]
  have ecs : (gcache g h w.heap.size).ad .caches = g.ad .caches := gcache_ne _ _ _ _ (by simp [CacheTags])
  have lcs : Lv w2 (gcache g h w.heap.size) .caches := ((m.caches.lv.set_ (u := .hat h) (q := w.heap.size) (Nat.le_refl _) (Nat.le_refl _) (by simp)).set_ (u := .heap h) (q := w.heap.size + 1) (Nat.le_refl _) (by omega) (by simp)).set_ (u := .cache h) (q := w.heap.size + 2) st.size (by omega) (by simp)
  have nw : ∀ b, w.heap.size ≤ b → b < w.heap.size + 3 → w2.heap[b]? = w1.heap[b]? := fun b h1 h2 => hg.block b (by omega) (fun e => by cases e; omega)
  have hnew : CacheG w2 (gcache g h w.heap.size) h ⟨[], 0⟩ := by
    refine ⟨⟨by rw [eh]; unfold gcache; rw [G.set_own], by rw [eh]; omega⟩, ⟨by rw [eh1]; simp [gcache, G.set_], by rw [eh1]; omega⟩, ⟨by rw [eh2]; simp [gcache, G.set_], by rw [eh2]; omega⟩, .slice none 0 0, ?_, fun q hq => by cases hq⟩
    rw [eh, eh1, eh2]
    exact ⟨(nw _ (by omega) (by omega)).trans hca.head, hca.heap.same (nw _ (by omega) (by omega)) (nw _ (by omega) (by omega)) (fun r hr => by cases hr), hca.clock⟩
  have ecore : Core.cells (s.setCache h ⟨[], 0⟩) (gcache g h w.heap.size) ov = s.cells g ov := by
    unfold Core.cells
    rw [ecs, gcache_ne _ _ _ .quota (by simp [CacheTags]), gcache_ne _ _ _ .toks (by simp [CacheTags]), gcache_ne _ _ _ .fns (by simp [CacheTags]), gcache_ne _ _ _ .hosts (by simp [CacheTags]), gcache_ne _ _ _ .boxes (by simp [CacheTags]), gcache_ne _ _ _ .til (by simp [CacheTags]), gcache_ne _ _ _ .timers (by simp [CacheTags])]
    rfl
  refine ⟨?_, st⟩
  have nt : ∀ t, t ≠ .caches → ¬ CacheTags h t → ¬ NewTags h t := fun t h1 h2 h3 => by rcases h3 with h3 | h3; exact h1 h3; exact h2 h3
  exact {
    core := by rw [ecore]; exact m.core.step st (by simp [NewTags, CacheTags])
    out := m.out.step st (by simp [NewTags, CacheTags])
    quota := m.quota.step st (by simp [NewTags, CacheTags])
    qok := m.qok
    toks := m.toks.step st (by simp [NewTags, CacheTags]) (by simp [NewTags, CacheTags])
    fns := m.fns.step st (by simp [NewTags, CacheTags]) (by simp [NewTags, CacheTags]) (by simp [NewTags, CacheTags]) (by simp [NewTags, CacheTags])
    hosts := m.hosts.step st (by simp [NewTags, CacheTags])
    hok := m.hok
    caches := by
      refine ⟨lcs, ?_, fun k c hk => ?_⟩
      · rw [ecs]
        have hp := put_turn (f := fun h c => cval (g.ad (.cache h)) c) (f' := fun k c => cval ((gcache g h w.heap.size).ad (.cache k)) c) (l := s.caches) (k := h) (a := some ⟨[], 0⟩) (fun x b hx => by rw [ec x hx])
        have e0 : cval ((gcache g h w.heap.size).ad (.cache h)) (some ⟨[], 0⟩) = ptr (w.heap.size + 2) := by rw [eh]; rfl
        have hm2 := Mp.of hm
        rw [← e0] at hm2
        have hm3 := hm2
        rw [show MapI.put (FM.vals (fun h c => cval (g.ad (.cache h)) c) s.caches) h (cval ((gcache g h w.heap.size).ad (.cache h)) (some ⟨[], 0⟩)) = _ from hp] at hm3
        exact hm3
      · have hk2 : FM.get (FM.put s.caches h (some ⟨[], 0⟩)) k = some (some c) := hk
        rw [FM.get_put] at hk2
        by_cases e : k = h
        · subst e
          rw [if_pos rfl] at hk2
          cases hk2
          exact hnew
        · rw [if_neg e] at hk2
          exact (m.caches.each k c hk2).step st (by simp [NewTags, CacheTags, e]) (by simp [NewTags, CacheTags, e]) (by simp [NewTags, CacheTags, e]) (by simp [NewTags, CacheTags, e])
    boxes := m.boxes.step st (by simp [NewTags, CacheTags]) (by simp [NewTags, CacheTags])
    til := m.til.step st (by simp [NewTags, CacheTags])
    timers := m.timers.step st (by simp [NewTags, CacheTags]) (by simp [NewTags, CacheTags]) (by simp [NewTags, CacheTags]) (by simp [NewTags, CacheTags])
    ans := m.ans }
end Go.Proofs.YtjmdgicdpggljaaGreat.GH

/- Proved: what core's cache answers and leaves where a host's cache is not there yet. -/
namespace Go.Proofs.YtjmdgicdpggljaaGreat.GH
open Go.RowKit Go.Proofs.YtjmdgicdpggljaaGreat.Histo Go.Proofs.YtjmdgicdpggljaaGreat.Event Go.Proofs.YtjmdgicdpggljaaGreat.Ring
set_option linter.unusedVariables false
open Go.Proofs.YtjmdgicdpggljaaGreat.MapG (Codec Mk)
open Go.Proofs.YtjmdgicdpggljaaGreat.MapI (AL At Rng W64)

set_option maxRecDepth 100000 in
set_option maxHeartbeats 4000000 in
theorem ccache_new (w : World) (g : G) (s : Core) (ov : Value) (h : Int) (m : Mem w g s ov) (hh : W64 h) (hc : ∀ c, FM.get s.caches h ≠ some (some c)) (hlen : s.caches.length < 1099511627776) :
    Calls Tryz.prog 109 #[ptr (g.ad .core), .int .i64 h] w fun e w' => e = .returned (ptr (w.heap.size + 2)) ∧ Mem w' (gcache g h w.heap.size) (s.setCache h ⟨[], 0⟩) ov ∧ Step (NewTags h) w g w' (gcache g h w.heap.size) := by
  have c6 : w.cell? ⟨g.ad .core, 6, none⟩ = some (.map (some (g.ad .caches))) := m.core.blk.cell 6
  have hl := caches_look m.caches hh (W := w) rfl
  have hn : ((FM.get s.caches h).map (cval (g.ad (.cache h)))).getD (.pointer none) = .pointer none := by
    cases e : FM.get s.caches h with
    | none => rfl
    | some c => cases c with
      | none => rfl
      | some c => exact absurd e (hc c)
  rw [hn] at hl
  have hend : ∀ w1 w2 N, CacheAt w1 (w.heap.size + 2) (w.heap.size + 1) w.heap.size (.slice none 0 0) ⟨[], 0⟩ → Below w.heap.size w w1 → w1.heap.size = w.heap.size + 3 → At Tryz.prog 3 w2 (g.ad .caches) N (MapI.put (FM.vals (fun h c => cval (g.ad (.cache h)) c) s.caches) h (ptr (w.heap.size + 2))) → w1.grownBy w2 (some (g.ad .caches)) → w2.heap.size = w1.heap.size →
      Mem w2 (gcache g h w.heap.size) (s.setCache h ⟨[], 0⟩) ov ∧ Step (NewTags h) w g w2 (gcache g h w.heap.size) ∧ w2.cell? ⟨g.ad .core, 6, none⟩ = some (.map (some (g.ad .caches))) ∧
      (Instr.lookup 51 (.map (some (g.ad .caches))) (.int .i64 h) false).run Tryz.prog w2 = .ok (ptr (w.heap.size + 2)) w2 := fun w1 w2 N a1 a2 a3 a4 a5 a6 => by
    obtain ⟨m2, st2⟩ := mem_newcache m a1 a2 a3 a4 a5 a6
    have ecs : (gcache g h w.heap.size).ad .caches = g.ad .caches := gcache_ne _ _ _ _ (by simp [CacheTags])
    have eco : (gcache g h w.heap.size).ad .core = g.ad .core := gcache_ne _ _ _ _ (by simp [CacheTags])
    have eh : (gcache g h w.heap.size).ad (.cache h) = w.heap.size + 2 := by unfold gcache; rw [G.set_ad]
    refine ⟨m2, st2, ?_, ?_⟩
    · have := m2.core.blk.cell 6
      rw [eco] at this
      rw [← ecs]; exact this
    · have := caches_look m2.caches hh (W := w2) rfl
      rw [show FM.get (s.setCache h ⟨[], 0⟩).caches h = some (some ⟨[], 0⟩) from by show FM.get (FM.put s.caches h _) h = _; rw [FM.get_put, if_pos rfl]] at this
      simp only [Option.map_some, Option.getD_some, cval, eh, ecs] at this
      exact this
  have HEND := Lib.hid hend
  have HMAP := Lib.hid m.caches.map
  have HLT := Lib.hid m.caches.lv.lt
  have hmx : (FM.vals (fun h c => cval (g.ad (.cache h)) c) s.caches).length < maxLen := by rw [FM.length_vals]; unfold maxLen; omega
  have HMX := Lib.hid hmx
  have hcc : (g.ad .core) < w.heap.size := m.core.lv.lt
  have HHH := Lib.hid hh
  clear hend hc hn hmx hlen m hh
  generalize hp : g.ad .core = p at c6 hcc HEND ⊢
  generalize hq : g.ad .caches = q at c6 hl HEND HMAP HLT
  generalize hv : FM.vals (fun h c => cval (g.ad (.cache h)) c) s.caches = L at HEND HMAP HMX
  generalize hR : Mem = RR at HEND ⊢
  clear hp hq hv hR
  go_enter Tryz.func109, Tryz.ntmps109
  go_upto_region 2 with (fail)
  go_region_with (go_at_call 127; refine (cnew_any _).mono ?_; rintro e w1 ⟨rfl, hca, hb, hs⟩; have hb' : Below w.heap.size w w1 := ⟨hb.os, hb.tape, hb.output, hb.size, hb.block⟩; have k6 := (hb'.cell (p := ⟨p, 6, none⟩) hcc).trans c6; obtain ⟨w2, hrun, hm2, hg2, hs2⟩ := MapI.At.store (t := 51) (MapI.At.same HMAP.out (hb'.block q HLT.out)) (by kernel_rfl) Tryz.underlying51 HMX.out HHH.out (ptr (w.heap.size + 2)); obtain ⟨m2, st2, d6, hl2⟩ := HEND.out w1 w2 _ hca hb' hs hm2 hg2 hs2; have M2 := Lib.hid m2; have S2 := Lib.hid st2; clear m2 st2 hm2 hg2 hs2 hca hb hb' hs)
  all_goals
    go_wp2
    go_ret
    exact ⟨rfl, M2.out, S2.out⟩
end Go.Proofs.YtjmdgicdpggljaaGreat.GH
