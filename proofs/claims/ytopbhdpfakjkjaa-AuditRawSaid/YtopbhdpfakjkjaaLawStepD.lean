/- Proved: what a step's test in the document's world (greenhouselaw19) answers and leaves. -/
import Derived.Test.YtopbhdpfakjkjaaLawTurn
import Derived.Test.YtopbhdpfakjkjaaLawRight
import Derived.Deep.DeepCutAuto
import Derived.Deep.CutBlock
import Derived.Handy
namespace Go.Proofs.Ytopbhdpfakjkjaa.Aud
open Go.RowKit Go.Proofs.Ytopbhdpfakjkjaa.Histo Go.Proofs.Ytopbhdpfakjkjaa.Event Go.Proofs.Ytopbhdpfakjkjaa.Ring
set_option linter.unusedVariables false
open Go.Proofs.Ytopbhdpfakjkjaa.MapI (AL At Rng W64 At.alloc At.drew)
theorem LOut.mono {F : Nat → Prop} {w0 : World} {a b2 b3 N M : Nat} {r : Option AS} {e : Ending} {w' : World} (h : LOut F w0 a b2 b3 N r e w') (hm : N ≤ M) : LOut F w0 a b2 b3 M r e w' := by
  rcases h with h | ⟨s, h1, h2, h3⟩
  · exact .inl h
  · exact .inr ⟨s, h1, h2, h3.mono hm⟩
theorem lcommand_all (F : Nat → Prop) (w0 : World) (a b2 b3 N : Nat) (s : AS) (c : Cmd) (w : World) (hA : LWb F w0 a b2 b3 N s w) (hN : N ≤ 100000) (hI : Inv s N) (hw : CW c) : CALLW a c w (LOut F w0 a b2 b3 (N + 1) (s.command c)) := by
  obtain ⟨bt, cx, cf, ch⟩ := c
  cases bt with
  | false => exact (lkill_all F w0 a b2 b3 N s cx cf ch w hA hN).mono fun _ _ h => h.mono (by omega)
  | true => exact lboot_all F w0 a b2 b3 N s cx cf ch w hA hN hI hw
def AS.tell2 (o : Option AS) (x : Stp) : Option AS := match o with | none => none | some s2 => if x.ev.k = 6 then s2.call x.ev x.ans x.cmds.length else some s2
abbrev CALLT (a : Nat) (e : Ev) (r : Ans) (v : Value) (w : World) (Q : Ending → World → Prop) := Calls Try.prog 39 #[.pointer (some ⟨a, 0, none⟩), .agg (scells e r v)] w Q
/-- The three copies that a step's test makes for itself. -/
structure Cp (g ge ga : Nat) (e : Ev) (r : Ans) (v : Value) (w : World) : Prop where
  g : Blk w g 55 (scells e r v)
  e : Blk w ge 47 (ecells e.k e.n e.limit e.size e.refill e.acct e.mem e.cost e.res e.keep)
  a : Blk w ga 52 #[.int .i64 r.kind, .int .i64 r.box, .int .i64 r.why, .int .i64 r.err]
theorem Cp.next {g ge ga : Nat} {e : Ev} {r : Ans} {v : Value} {w w' : World} (h : Cp g ge ga e r v w) (hb : Below w.heap.size w w') : Cp g ge ga e r v w' := ⟨h.g.below hb h.g.lt, h.e.below hb h.e.lt, h.a.below hb h.a.lt⟩
theorem Cp.only {G : Nat → Prop} {g ge ga : Nat} {e : Ev} {r : Ans} {v : Value} {w w' : World} (h : Cp g ge ga e r v w) (hb : Only G w w') (hG : ∀ g t cs, Blk w g t cs → t ≠ 82 → t ≠ 92 → ¬ G g) : Cp g ge ga e r v w' :=
  ⟨(hb.block _ h.g.lt (hG _ _ _ h.g (by decide) (by decide))).trans h.g, (hb.block _ h.e.lt (hG _ _ _ h.e (by decide) (by decide))).trans h.e, (hb.block _ h.a.lt (hG _ _ _ h.a (by decide) (by decide))).trans h.a⟩
theorem cp_new (w : World) (e : Ev) (r : Ans) (v : Value) : Cp w.heap.size (w.heap.size + 1) (w.heap.size + 1 + 1) e r v (((w.alloc (.cells (scells e r v) 55)).alloc (.cells (ecells e.k e.n e.limit e.size e.refill e.acct e.mem e.cost e.res e.keep) 47)).alloc (.cells #[.int .i64 r.kind, .int .i64 r.box, .int .i64 r.why, .int .i64 r.err] 52)) := by
  have s1 : ∀ (w : World) (o : Obj), (w.alloc o).heap.size = w.heap.size + 1 := fun w o => Array.size_push ..
  refine ⟨((Blk.new w _ _).alloc _).alloc _, ?_, ?_⟩
  · have := (Blk.new (w.alloc (.cells (scells e r v) 55)) 47 (ecells e.k e.n e.limit e.size e.refill e.acct e.mem e.cost e.res e.keep)).alloc (.cells #[.int .i64 r.kind, .int .i64 r.box, .int .i64 r.why, .int .i64 r.err] 52)
    rw [s1] at this; exact this
  · have := Blk.new ((w.alloc (.cells (scells e r v) 55)).alloc (.cells (ecells e.k e.n e.limit e.size e.refill e.acct e.mem e.cost e.res e.keep) 47)) 52 #[.int .i64 r.kind, .int .i64 r.box, .int .i64 r.why, .int .i64 r.err]
    rw [s1, s1] at this; exact this
theorem Cp.grown {g ge ga b m : Nat} {l : AL} {e : Ev} {r : Ans} {v : Value} {w w' : World} (h : Cp g ge ga e r v w) (hm : At Try.prog 3 w b m l) (hb : w.grownBy w' (some b)) : Cp g ge ga e r v w' :=
  ⟨h.g.grown hb (fun e => map_blk_ne hm h.g (by injection e)), h.e.grown hb (fun e => map_blk_ne hm h.e (by injection e)), h.a.grown hb (fun e => map_blk_ne hm h.a (by injection e))⟩
theorem Cp.far {g ge ga : Nat} {e : Ev} {r : Ans} {v : Value} {w : World} (h : Cp g ge ga e r v w) {p : Addr} {u : Value} (h1 : g ≠ p.block) (h2 : ge ≠ p.block) (h3 : ga ≠ p.block) : Cp g ge ga e r v (w.setCell p u) := ⟨h.g.far h1 u, h.e.far h2 u, h.a.far h3 u⟩
theorem Cp.drew {g ge ga : Nat} {e : Ev} {r : Ans} {v : Value} {w : World} (h : Cp g ge ga e r v w) : Cp g ge ga e r v w.drew := ⟨h.g, h.e, h.a⟩
theorem Cp.drewN {g ge ga : Nat} {e : Ev} {r : Ans} {v : Value} {w : World} (h : Cp g ge ga e r v w) (n : Nat) : Cp g ge ga e r v (w.drewN n) := ⟨h.g, h.e, h.a⟩
theorem LWb.drew {F : Nat → Prop} {w0 w : World} {a b2 b3 N : Nat} {s : AS} (h : LWb F w0 a b2 b3 N s w) : LWb F w0 a b2 b3 N s w.drew := h.next (Below.refl _ _).drew
/-- The row's block is no other's, and may be written. -/
theorem LWb.frz {F : Nat → Prop} {w0 w : World} {a b2 b3 N : Nat} {s : AS} (h : LWb F w0 a b2 b3 N s w) {g cap : Nat} (ha : Blk w a 82 #[.slice (some ⟨g, 0, none⟩) s.boxes.length cap, .map (some b2), .map (some b3), .int .i64 s.next]) :
    (∀ j, w.frozen? ⟨g, j, none⟩ = false) ∧ ∀ k t cs, Blk w k t cs → t ≠ 92 → k ≠ g := by
  obtain ⟨v, ha', hrow, _⟩ := h.row
  have hv : v = .slice (some ⟨g, 0, none⟩) s.boxes.length cap := by
    have h1 := ha.cell 0
    have h2 := ha'.cell 0
    rw [h1] at h2
    injection h2 with h2
    exact h2.symm
  subst hv
  exact ⟨fun j => hrow.frozenAt j, fun k t cs hk ht e => own_neq hrow hk ht (by rw [e]; rfl)⟩
theorem aright_kind {r : Ans} (h : r.right = true) : 0 ≤ r.kind ∧ r.kind ≤ 4 := by
  unfold Ans.right at h
  simp only [Bool.or_eq_true, Bool.and_eq_true, beq_iff_eq, decide_eq_true_eq] at h
  omega
theorem th_one (t : Th) : ∀ u ∈ t.row, u.oneCell' = true := by
  intro u hu
  unfold Th.row at hu
  simp only [List.mem_cons, List.not_mem_nil, or_false] at hu
  rcases hu with rfl | rfl | rfl | rfl | rfl <;> rfl
theorem row_news (w : World) (t : Th) {g : Nat} (hg : g = w.heap.size) : ∀ j u, t.row[j]? = some u → (w.alloc (.cells #[.int .i64 t.id, .int .i64 t.fn, .int .i64 t.host, .bool t.boots, .bool t.busy] 92)).cell? ((⟨g, 0, none⟩ : Addr).add j) = some u := by
  subst hg
  exact World.news_of_block (heap_alloc_new w _)
theorem step_tail {s : AS} {x : Stp} (h1 : x.ev.right = true) (h2 : x.ans.right = true) (h3 : ¬ x.ans.kind = 1) (h4 : (x.ev.k = 6 ∧ ¬ x.ans.kind = 0) ∨ (¬ x.ev.k = 6 ∧ x.ans.kind = 0)) :
    s.step x = match s.ahead x.ev with | none => none | some s1 => AS.tell2 (s1.cmds x.cmds) x := by
  unfold AS.step AS.tell2
  rw [if_neg (by simp [h1]), if_neg (by simp [h2]), if_neg h3]
  rcases h4 with ⟨h4, h5⟩ | ⟨h4, h5⟩
  · have : s.ahead x.ev = some s := by
      unfold AS.ahead
      simp [h4]
    rw [this, if_pos h4]
    simp only [h4, if_true]
    cases h : s.cmds x.cmds <;> simp [h]
  · rw [if_neg h4, if_neg (by simp [h5])]
    cases s.ahead x.ev with
    | none => rfl
    | some s1 => cases h : s1.cmds x.cmds <;> simp [h, h4]
end Go.Proofs.Ytopbhdpfakjkjaa.Aud
