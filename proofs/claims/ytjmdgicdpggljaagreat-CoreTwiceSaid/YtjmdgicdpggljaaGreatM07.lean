/- Proved: what the methods of box.Box answer, and leave in its block. -/
import Derived.Test.YtjmdgicdpggljaaGreatM06
set_option linter.all false
namespace Go.Proofs.YtjmdgicdpggljaaGreat.GH
open Go.RowKit Go.Proofs.YtjmdgicdpggljaaGreat.Histo
set_option linter.unusedVariables false

def Box.cells (b : Box) : Array Value := #[.int .i64 b.id, .int .i64 b.fn, .int .i64 b.host, .int .i64 b.mem, .int .i64 b.st, .bool b.bound, .bool b.pinned, .int .i64 b.since]
abbrev BoxAt (w : World) (p : Nat) (b : Box) : Prop := Blk w p 72 b.cells
/-- What a method that writes the one block leaves. -/
def Wrote (p : Nat) (t : TypeId) (cs : Array Value) (v : Value) (w : World) (e : Ending) (w' : World) : Prop := e = .returned v ∧ Blk w' p t cs ∧ w.grownBy w' (some p)
theorem Wrote.mk {p : Nat} {t : TypeId} {cs cs' : Array Value} {v v' : Value} {w w' : World} (hv : v' = v) (h : Blk w' p t cs') (hc : cs' = cs) (hg : w.grownBy w' (some p)) : Wrote p t cs v w (.returned v') w' := by subst hv; subst hc; exact ⟨rfl, h, hg⟩
theorem only_at {a w : World} {g : Nat} (h : a.grownBy w (some g)) (i : Nat) (u : Value) : a.grownBy (w.setCell ⟨g, i, none⟩ u) (some g) := only_setCell h (.inl rfl) u
/-- What a method that only reads leaves. -/
def RetV (v : Value) (w : World) (e : Ending) (w' : World) : Prop := e = .returned v ∧ ∃ n, w' = w.drewN n
theorem RetV.mk {v v' : Value} {w w' : World} (h : v' = v) (hw : ∃ n, w' = w.drewN n) : RetV v w (.returned v') w' := by subst h; exact ⟨rfl, hw⟩

set_option maxHeartbeats 4000000 in
theorem runs_any (p : Nat) (b : Box) (w : World) (h : BoxAt w p b) : Calls Tryz.prog 55 #[.pointer (some ⟨p, 0, none⟩)] w (RetV (.bool b.runs) w) := by
  have c4 : w.cell? ⟨p, 4, none⟩ = some (.int .i64 b.st) := h.cell 4
  have c5 : w.cell? ⟨p, 5, none⟩ = some (.bool b.bound) := h.cell 5
  clear h
  unfold Box.runs
  obtain ⟨x, hx⟩ : ∃ x, x = (b.st == 2) := ⟨_, rfl⟩
  obtain ⟨y, hy⟩ : ∃ y, y = (b.st == 0) := ⟨_, rfl⟩
  obtain ⟨z, hz⟩ : ∃ z, z = b.bound := ⟨_, rfl⟩
  rw [← hx, ← hy, ← hz]
  rw [← hz] at c5
  have hx' := hx.symm
  have hy' := hy.symm
  clear hx hy hz
  cases x <;> cases y <;> cases z <;>
  · go_enter Tryz.func55, Tryz.ntmps55
    go_wp2
    go_ret
    exact ⟨rfl, 0, rfl⟩
set_option maxHeartbeats 4000000 in
theorem idle_any (p : Nat) (b : Box) (w : World) (h : BoxAt w p b) : Calls Tryz.prog 69 #[.pointer (some ⟨p, 0, none⟩)] w (RetV (.bool b.idle) w) := by
  have c4 : w.cell? ⟨p, 4, none⟩ = some (.int .i64 b.st) := h.cell 4
  clear h
  unfold Box.idle
  obtain ⟨x, hx⟩ : ∃ x, x = (b.st == 1) := ⟨_, rfl⟩
  rw [← hx]
  have hx' := hx.symm
  clear hx
  go_enter Tryz.func69, Tryz.ntmps69
  go_wp2
  go_ret
  exact ⟨rfl, 0, rfl⟩
set_option maxHeartbeats 4000000 in
theorem bcall_any (p : Nat) (b : Box) (now : Int) (w : World) (h : BoxAt w p b) : Calls Tryz.prog 106 #[.pointer (some ⟨p, 0, none⟩), .int .i64 now] w (Wrote p 72 (b.call now).cells (.bool b.callOk) w) := by
  obtain ⟨R, hR⟩ : ∃ R, R = (b.call now).cells := ⟨_, rfl⟩
  obtain ⟨V, hV⟩ : ∃ V : Value, V = (.bool b.callOk) := ⟨_, rfl⟩
  rw [← hR, ← hV]
  have HR := Lib.hid hR
  have HV := Lib.hid hV
  clear hR hV
  have c4 : w.cell? ⟨p, 4, none⟩ = some (.int .i64 b.st) := h.cell 4
  have c5 : w.cell? ⟨p, 5, none⟩ = some (.bool b.bound) := h.cell 5
  have c7 : w.cell? ⟨p, 7, none⟩ = some (.int .i64 b.since) := h.cell 7
  have f4 := h.frozen 4
  have f5 := h.frozen 5
  have f7 := h.frozen 7
  have H := Lib.hid h
  clear h
  by_cases h1 : b.st = 1
  · have e1 : (b.st == 1) = true := by simp [h1]
    have H1 := Lib.hid h1
    clear h1
    go_enter Tryz.func106, Tryz.ntmps106
    go_wp2
    go_ret
    exact Wrote.mk (by rw [HV.out]; simp [Box.callOk, H1.out]) ((H.out.set_ 4 _).set_ 7 _) (by rw [HR.out]; simp [Box.call, Box.booted, Box.dead, Box.cells, H1.out]) (only_at (only_at (only_refl _ _) _ _) _ _)
  · have e1 : (b.st == 1) = false := by simpa using h1
    have H1 := Lib.hid h1
    clear h1
    by_cases h0 : b.st = 0
    · have e0 : (b.st == 0) = true := by simp [h0]
      have H0 := Lib.hid h0
      clear h0
      obtain ⟨z, hz⟩ : ∃ z, z = b.bound := ⟨_, rfl⟩
      have HZ := Lib.hid hz
      rw [← hz] at c5
      clear hz
      cases z
      · go_enter Tryz.func106, Tryz.ntmps106
        go_wp2
        go_ret
        exact Wrote.mk (by rw [HV.out]; simp [Box.callOk, H1.out, H0.out, ← HZ.out]) (H.out.set_ 5 _) (by rw [HR.out]; simp [Box.call, Box.booted, Box.dead, Box.cells, H1.out, H0.out, ← HZ.out]) (only_at (only_refl _ _) _ _)
      · go_enter Tryz.func106, Tryz.ntmps106
        go_wp2
        go_ret
        exact Wrote.mk (by rw [HV.out]; simp [Box.callOk, H1.out, H0.out, ← HZ.out]) H.out (by rw [HR.out]; simp [Box.call, Box.booted, Box.dead, Box.cells, H1.out, H0.out, ← HZ.out]) (only_refl _ _)
    · have e0 : (b.st == 0) = false := by simpa using h0
      have H0 := Lib.hid h0
      clear h0
      go_enter Tryz.func106, Tryz.ntmps106
      go_wp2
      go_ret
      exact Wrote.mk (by rw [HV.out]; simp [Box.callOk, H1.out, H0.out]) H.out (by rw [HR.out]; simp [Box.call, Box.booted, Box.dead, Box.cells, H1.out, H0.out]) (only_refl _ _)
set_option maxHeartbeats 4000000 in
theorem booted_any (p : Nat) (b : Box) (now : Int) (w : World) (h : BoxAt w p b) : Calls Tryz.prog 67 #[.pointer (some ⟨p, 0, none⟩), .int .i64 now] w (Wrote p 72 (if b.st = 0 then b.booted now else b).cells (.bool (b.st == 0)) w) := by
  obtain ⟨R, hR⟩ : ∃ R, R = (if b.st = 0 then b.booted now else b).cells := ⟨_, rfl⟩
  obtain ⟨V, hV⟩ : ∃ V : Value, V = (.bool (b.st == 0)) := ⟨_, rfl⟩
  rw [← hR, ← hV]
  have HR := Lib.hid hR
  have HV := Lib.hid hV
  clear hR hV
  have c4 : w.cell? ⟨p, 4, none⟩ = some (.int .i64 b.st) := h.cell 4
  have c5 : w.cell? ⟨p, 5, none⟩ = some (.bool b.bound) := h.cell 5
  have c7 : w.cell? ⟨p, 7, none⟩ = some (.int .i64 b.since) := h.cell 7
  have f4 := h.frozen 4
  have f5 := h.frozen 5
  have f7 := h.frozen 7
  have H := Lib.hid h
  clear h
  by_cases h0 : b.st = 0
  · have e0 : (b.st == 0) = true := by simp [h0]
    have e0' : (b.st != 0) = false := by simp [h0]
    have H0 := Lib.hid h0
    clear h0
    obtain ⟨z, hz⟩ : ∃ z, z = b.bound := ⟨_, rfl⟩
    have HZ := Lib.hid hz
    rw [← hz] at c5
    clear hz
    cases z
    · go_enter Tryz.func67, Tryz.ntmps67
      go_wp2
      go_ret
      exact Wrote.mk (by rw [HV.out]; simp [Box.callOk, H0.out, ← HZ.out]) ((H.out.set_ 4 _).set_ 7 _) (by rw [HR.out]; simp [Box.call, Box.booted, Box.dead, Box.cells, H0.out, ← HZ.out]) (only_at (only_at (only_refl _ _) _ _) _ _)
    · go_enter Tryz.func67, Tryz.ntmps67
      go_wp2
      go_ret
      exact Wrote.mk (by rw [HV.out]; simp [Box.callOk, H0.out, ← HZ.out]) ((((H.out.set_ 4 _).set_ 7 _).set_ 4 _).set_ 5 _) (by rw [HR.out]; simp [Box.call, Box.booted, Box.dead, Box.cells, H0.out, ← HZ.out]) (only_at (only_at (only_at (only_at (only_refl _ _) _ _) _ _) _ _) _ _)
  · have e0 : (b.st == 0) = false := by simpa using h0
    have e0' : (b.st != 0) = true := by simpa using h0
    have H0 := Lib.hid h0
    clear h0
    go_enter Tryz.func67, Tryz.ntmps67
    go_wp2
    go_ret
    exact Wrote.mk (by rw [HV.out]; simp [Box.callOk, H0.out]) H.out (by rw [HR.out]; simp [Box.call, Box.booted, Box.dead, Box.cells, H0.out]) (only_refl _ _)
set_option maxHeartbeats 4000000 in
theorem bdone_any (p : Nat) (b : Box) (now : Int) (w : World) (h : BoxAt w p b) : Calls Tryz.prog 71 #[.pointer (some ⟨p, 0, none⟩), .int .i64 now] w (Wrote p 72 (if b.st = 2 then { b with st := 1, since := now } else b).cells (.bool (b.st == 2)) w) := by
  obtain ⟨R, hR⟩ : ∃ R, R = (if b.st = 2 then { b with st := 1, since := now } else b).cells := ⟨_, rfl⟩
  obtain ⟨V, hV⟩ : ∃ V : Value, V = (.bool (b.st == 2)) := ⟨_, rfl⟩
  rw [← hR, ← hV]
  have HR := Lib.hid hR
  have HV := Lib.hid hV
  clear hR hV
  have c4 : w.cell? ⟨p, 4, none⟩ = some (.int .i64 b.st) := h.cell 4
  have c7 : w.cell? ⟨p, 7, none⟩ = some (.int .i64 b.since) := h.cell 7
  have f4 := h.frozen 4
  have f7 := h.frozen 7
  have H := Lib.hid h
  clear h
  by_cases h0 : b.st = 2
  · have e0 : (b.st == 2) = true := by simp [h0]
    have e0' : (b.st != 2) = false := by simp [h0]
    have H0 := Lib.hid h0
    clear h0
    go_enter Tryz.func71, Tryz.ntmps71
    go_wp2
    go_ret
    exact Wrote.mk (by rw [HV.out]; simp [Box.callOk, H0.out]) ((H.out.set_ 4 _).set_ 7 _) (by rw [HR.out]; simp [Box.call, Box.booted, Box.dead, Box.cells, H0.out]) (only_at (only_at (only_refl _ _) _ _) _ _)
  · have e0 : (b.st == 2) = false := by simpa using h0
    have e0' : (b.st != 2) = true := by simpa using h0
    have H0 := Lib.hid h0
    clear h0
    go_enter Tryz.func71, Tryz.ntmps71
    go_wp2
    go_ret
    exact Wrote.mk (by rw [HV.out]; simp [Box.callOk, H0.out]) H.out (by rw [HR.out]; simp [Box.call, Box.booted, Box.dead, Box.cells, H0.out]) (only_refl _ _)
set_option maxHeartbeats 4000000 in
theorem bkill_any (p : Nat) (b : Box) (now : Int) (w : World) (h : BoxAt w p b) : Calls Tryz.prog 97 #[.pointer (some ⟨p, 0, none⟩), .int .i64 now] w (Wrote p 72 (b.dead now).cells (.bool (b.st != 3)) w) := by
  obtain ⟨R, hR⟩ : ∃ R, R = (b.dead now).cells := ⟨_, rfl⟩
  obtain ⟨V, hV⟩ : ∃ V : Value, V = (.bool (b.st != 3)) := ⟨_, rfl⟩
  rw [← hR, ← hV]
  have HR := Lib.hid hR
  have HV := Lib.hid hV
  clear hR hV
  have c4 : w.cell? ⟨p, 4, none⟩ = some (.int .i64 b.st) := h.cell 4
  have c5 : w.cell? ⟨p, 5, none⟩ = some (.bool b.bound) := h.cell 5
  have c6 : w.cell? ⟨p, 6, none⟩ = some (.bool b.pinned) := h.cell 6
  have c7 : w.cell? ⟨p, 7, none⟩ = some (.int .i64 b.since) := h.cell 7
  have f4 := h.frozen 4
  have f5 := h.frozen 5
  have f6 := h.frozen 6
  have f7 := h.frozen 7
  have H := Lib.hid h
  clear h
  by_cases h0 : b.st = 3
  · have e0 : (b.st == 3) = true := by simp [h0]
    have e0' : (b.st != 3) = false := by simp [h0]
    have H0 := Lib.hid h0
    clear h0
    go_enter Tryz.func97, Tryz.ntmps97
    go_wp2
    go_ret
    exact Wrote.mk (by rw [HV.out]; simp [Box.callOk, H0.out]) H.out (by rw [HR.out]; simp [Box.call, Box.booted, Box.dead, Box.cells, H0.out]) (only_refl _ _)
  · have e0 : (b.st == 3) = false := by simpa using h0
    have e0' : (b.st != 3) = true := by simpa using h0
    have H0 := Lib.hid h0
    clear h0
    go_enter Tryz.func97, Tryz.ntmps97
    go_wp2
    go_ret
    exact Wrote.mk (by rw [HV.out]; simp [Box.callOk, H0.out]) ((((H.out.set_ 4 _).set_ 5 _).set_ 6 _).set_ 7 _) (by rw [HR.out]; simp [Box.call, Box.booted, Box.dead, Box.cells, H0.out]) (only_at (only_at (only_at (only_at (only_refl _ _) _ _) _ _) _ _) _ _)
theorem bnew_any (id f h mem now : Int) (w : World) : Calls Tryz.prog 112 #[.int .i64 id, .int .i64 f, .int .i64 h, .int .i64 mem, .int .i64 now] w fun e w' => e = .returned (.pointer (some ⟨w.heap.size, 0, none⟩)) ∧ w' = w.alloc (.cells (Core.boot f h id mem now).cells 72) := by
  go_enter Tryz.func112, Tryz.ntmps112
  go_wp2
  go_ret
  exact ⟨rfl, rfl⟩
end Go.Proofs.YtjmdgicdpggljaaGreat.GH

/- Rows of structs, cell by cell: what stands where, and what a store turns. -/
namespace Go.Proofs.YtjmdgicdpggljaaGreat.GH
open Go.RowKit Go.Proofs.YtjmdgicdpggljaaGreat.Histo
set_option linter.unusedVariables false

section
variable {α : Type} {enc : α → List Value} {z : Nat}
theorem flat_len (hz : ∀ a, (enc a).length = z) : ∀ xs : List α, (xs.flatMap enc).length = z * xs.length
  | [] => rfl
  | x :: r => by rw [List.flatMap_cons, List.length_append, flat_len hz r, hz, List.length_cons, Nat.mul_succ]; omega
theorem flat_get (hz : ∀ a, (enc a).length = z) {r : Nat} (hr : r < z) : ∀ (xs : List α) (i : Nat), (xs.flatMap enc)[z * i + r]? = (xs[i]?).bind fun a => (enc a)[r]?
  | [], i => by simp
  | x :: l, 0 => by
    rw [List.flatMap_cons, List.getElem?_append_left (by rw [hz]; omega)]
    simp
  | x :: l, i + 1 => by
    rw [List.flatMap_cons, List.getElem?_append_right (by rw [hz, Nat.mul_succ]; omega), hz, show z * (i + 1) + r - z = z * i + r by rw [Nat.mul_succ]; omega, flat_get hz hr l i]
    simp
theorem flat_set (hz : ∀ a, (enc a).length = z) {r : Nat} (hr : r < z) {v : Value} {x y : α} (hy : enc y = (enc x).set r v) : ∀ (xs : List α) (i : Nat), xs[i]? = some x → (xs.flatMap enc).set (z * i + r) v = (xs.set i y).flatMap enc
  | [], i, h => by simp at h
  | a :: l, 0, h => by
    obtain rfl : a = x := by simpa using h
    rw [List.set_cons_zero, List.flatMap_cons, List.flatMap_cons, List.set_append_left _ _ (by rw [hz]; omega), hy]
    simp
  | a :: l, i + 1, h => by
    rw [List.set_cons_succ, List.flatMap_cons, List.flatMap_cons, List.set_append_right _ _ (by rw [hz, Nat.mul_succ]; omega), hz, show z * (i + 1) + r - z = z * i + r by rw [Nat.mul_succ]; omega,
      flat_set hz hr hy l i (by simpa using h)]
theorem flat_cut (hz : ∀ a, (enc a).length = z) : ∀ (xs : List α) (i : Nat) (x : α), xs[i]? = some x → ((xs.flatMap enc).drop (z * i)).take z = enc x
  | [], i, x, h => by simp at h
  | a :: l, 0, x, h => by
    obtain rfl : a = x := by simpa using h
    rw [List.flatMap_cons, Nat.mul_zero, List.drop_zero, ← hz a, List.take_left']
    rfl
  | a :: l, i + 1, x, h => by
    rw [List.flatMap_cons, Nat.mul_succ, Nat.add_comm, ← List.drop_drop, ← hz a, List.drop_left, hz]
    exact flat_cut hz l i x (by simpa using h)
theorem getD_some {xs : List α} {i : Nat} (h : i < xs.length) (d : α) : xs[i]? = some (xs.getD i d) := by
  rw [List.getD_eq_getElem?_getD, List.getElem?_eq_getElem h]; rfl
end

/-- An array that lies within a block, loaded whole. -/
theorem run_loadVar_at {P : Program} (w : World) (g off : Nat) (ty n e : Nat) (l : List Value) (hl : ∀ j v, l[j]? = some v → w.cell? ⟨g, off + j, none⟩ = some v) (hu : P.underlying ty = some (.array n e)) (hi : (P.info? ty).map (·.size) = some l.length) :
    (loadVar ty ⟨g, off, none⟩).run P w = .ok (.agg l.toArray) w := by
  have hl' : (loadCells ⟨g, off, none⟩ l.length).run P w = .ok l.toArray w :=
    run_loadCells_list (P := P) w ⟨g, off, none⟩ l (fun j v hv => by
      have hadd : (⟨g, off, none⟩ : Addr).add j = ⟨g, off + j, none⟩ := by unfold Addr.add; split <;> simp_all
      rw [hadd]
      exact hl j v hv)
  cases hq : P.info? ty with
  | none => simp [hq] at hi
  | some i =>
    have hs : i.size = l.length := by simpa [hq] using hi
    have hagg : (isAgg ty).run P w = .ok true w := by
      unfold isAgg
      rw [Sem.run_bind, run_underlying hu w]
      rfl
    simp [loadVar, Sem.run_bind, hagg, sizeOf, typeInfo, hq, hs, hl']
theorem wpList_load_at {P : Program} {ops : Array Oper} {rest : List Oper} {o : Oper} {a : Act} {w : World} {Q : Exit → Act → World → Prop} (hgd : o.guard = none) (ty : TypeId) (x : Operand) (ho : o.op = .load ty x)
    (g off n e : Nat) (hx : a.eval x = .pointer (some ⟨g, off, none⟩)) (l : List Value) (hl : ∀ j v, l[j]? = some v → w.cell? ⟨g, off + j, none⟩ = some v)
    (hu : P.underlying ty = some (.array n e)) (hi : (P.info? ty).map (·.size) = some l.length)
    (h : wpList P ops Q rest (a.put o.dst (.agg l.toArray)) w) : wpList P ops Q (o :: rest) a w :=
  wpList_plain hgd fun _ hK => by
    unfold Oper.wp execOp
    simp only [ho, hx, Instr.loadAt, Instr.sureAddr, Sem.run_bind, Sem.run_pure, Result.andThen_ok, run_loadVar_at w g off ty n e l hl hu hi]
    exact hK _ _ h
/-- An element that is a struct, of an array that was loaded whole. -/
theorem run_index_row {P : Program} {α : Type} {enc : α → List Value} {z : Nat} (hz : ∀ a, (enc a).length = z) {ty n e : Nat} (xs : List α) (k : Nat) (x : α) (hx : xs[k]? = some x) (hn : xs.length = n) (w : World)
    (hu : P.underlying ty = some (.array n e)) (ha : ∀ w, (isAgg e).run P w = .ok true w) (hs : ∀ w, (Go.sizeOf e).run P w = .ok z w) :
    (Instr.index ty (.agg (xs.flatMap enc).toArray) (.int .i64 (k : Int))).run P w = .ok (.agg (enc x).toArray) w := by
  have hk : k < xs.length := (List.getElem?_eq_some_iff.1 hx).1
  have hp : (part e (xs.flatMap enc).toArray (k * z)).run P w = .ok (.agg (enc x).toArray) w := by
    simp only [part, Sem.run_bind, ha, hs, Result.andThen_ok, if_true, Sem.run_pure]
    rw [List.extract_toArray]
    congr 3
    rw [Nat.mul_comm k z, ← flat_cut hz xs k x hx, List.extract_eq_drop_take]
    congr 1
    omega
  simp [Instr.index, asIntOf, run_underlying hu, hs]
  rw [if_pos (by omega)]
  exact hp
end Go.Proofs.YtjmdgicdpggljaaGreat.GH

/- Proved: what the methods of quota.Ledger answer, and leave in its block. -/
namespace Go.Proofs.YtjmdgicdpggljaaGreat.GH
open Go.RowKit Go.Proofs.YtjmdgicdpggljaaGreat.Histo
set_option linter.unusedVariables false

def QA.cells (x : QA) : List Value := [.bool x.there, .int .i64 x.lim]
def QF.cells (x : QF) : List Value := [.bool x.there, .int .i64 x.acc, .int .i64 x.res, .int .i64 x.busy]
def Quota.cells (q : Quota) : Array Value := (q.acs.flatMap QA.cells ++ q.fs.flatMap QF.cells).toArray
structure Quota.Ok (q : Quota) : Prop where
  na : q.acs.length = 16
  nf : q.fs.length = 64
  lim : ∀ x ∈ q.acs, 0 ≤ x.lim ∧ x.lim ≤ 1000
  f : ∀ x ∈ q.fs, 0 ≤ x.acc ∧ x.acc < 16 ∧ 0 ≤ x.res ∧ x.res ≤ 1000 ∧ 0 ≤ x.busy ∧ x.busy ≤ 1000
abbrev QuotaAt (w : World) (p : Nat) (q : Quota) : Prop := Blk w p 81 q.cells
theorem qf_cell {w : World} {p : Nat} {q : Quota} (h : QuotaAt w p q) (ok : q.Ok) {k r : Nat} (hk : k < 64) (hr : r < 4) : w.cell? ⟨p, 32 + k * 4 + r, none⟩ = (q.fs.getD k ⟨false, 0, 0, 0⟩).cells[r]? := by
  rw [h.cell, Quota.cells, List.getElem?_toArray, List.getElem?_append_right (by rw [flat_len (z := 2) (fun _ => rfl), ok.na]; omega), flat_len (z := 2) (fun _ => rfl), ok.na,
    show 32 + k * 4 + r - 2 * 16 = 4 * k + r by omega, flat_get (z := 4) (fun _ => rfl) hr, getD_some (by rw [ok.nf]; exact hk)]
  rfl
theorem qa_cell {w : World} {p : Nat} {q : Quota} (h : QuotaAt w p q) (ok : q.Ok) {k r : Nat} (hk : k < 16) (hr : r < 2) : w.cell? ⟨p, k * 2 + r, none⟩ = (q.acs.getD k ⟨false, 0⟩).cells[r]? := by
  rw [h.cell, Quota.cells, List.getElem?_toArray, List.getElem?_append_left (by rw [flat_len (z := 2) (fun _ => rfl), ok.na]; omega),
    show k * 2 + r = 2 * k + r by omega, flat_get (z := 2) (fun _ => rfl) hr, getD_some (by rw [ok.na]; exact hk)]
  rfl
set_option maxHeartbeats 4000000 in
theorem known_any (p : Nat) (q : Quota) (k : Int) (w : World) (h : QuotaAt w p q) (ok : q.Ok) : Calls Tryz.prog 99 #[.pointer (some ⟨p, 0, none⟩), .int .i64 k] w (RetV (.bool (q.known k)) w) := by
  by_cases h0 : 0 ≤ k
  · by_cases h1 : k < 64
    · obtain ⟨n, rfl⟩ : ∃ n : Nat, k = n := ⟨k.toNat, by omega⟩
      have c0 : w.cell? ⟨p, 32 + n * 4, none⟩ = some (.bool (q.fs.getD n ⟨false, 0, 0, 0⟩).there) := qf_cell (k := n) (r := 0) h ok (by omega) (by omega)
      have e : q.known (n : Int) = (q.fs.getD n ⟨false, 0, 0, 0⟩).there := by unfold Quota.known Quota.f; simp [h1]
      rw [e]
      obtain ⟨x, hx⟩ : ∃ x, x = (q.fs.getD n ⟨false, 0, 0, 0⟩).there := ⟨_, rfl⟩
      rw [← hx] at c0 ⊢
      clear hx e
      go_enter Tryz.func99, Tryz.ntmps99
      go_wp2
      go_ret
      exact ⟨rfl, 0, rfl⟩
    · have e : q.known k = false := by unfold Quota.known; simp [h1]
      rw [e]
      clear e
      go_enter Tryz.func99, Tryz.ntmps99
      go_wp2
      go_ret
      exact ⟨rfl, 0, rfl⟩
  · have e : q.known k = false := by unfold Quota.known; simp [h0]
    rw [e]
    clear e
    go_enter Tryz.func99, Tryz.ntmps99
    go_wp2
    go_ret
    exact ⟨rfl, 0, rfl⟩
set_option maxHeartbeats 4000000 in
theorem qbusy_any (p : Nat) (q : Quota) (k : Int) (w : World) (h : QuotaAt w p q) (ok : q.Ok) : Calls Tryz.prog 101 #[.pointer (some ⟨p, 0, none⟩), .int .i64 k] w (RetV (.int .i64 (q.busyOf k)) w) := by
  have hk := known_any p q k w h ok
  unfold Quota.busyOf
  cases e : q.known k
  · rw [e] at hk
    clear e
    go_enter Tryz.func101, Tryz.ntmps101
    go_wp2_with (go_at_call 99; refine hk.mono ?_; rintro e w1 ⟨rfl, n1, rfl⟩)
    go_ret
    exact ⟨rfl, _, rfl⟩
  · rw [e] at hk
    have hb : 0 ≤ k ∧ k < 64 := by unfold Quota.known at e; simp at e; omega
    obtain ⟨n, rfl⟩ : ∃ n : Nat, k = n := ⟨k.toNat, by omega⟩
    obtain ⟨b0, b1⟩ := hb
    have c3 : w.cell? ⟨p, 32 + n * 4 + 3, none⟩ = some (.int .i64 (q.fs.getD n ⟨false, 0, 0, 0⟩).busy) := qf_cell (k := n) (r := 3) h ok (by omega) (by omega)
    have e2 : (q.f (n : Int)).busy = (q.fs.getD n ⟨false, 0, 0, 0⟩).busy := rfl
    rw [e2]
    obtain ⟨x, hx⟩ : ∃ x, x = (q.fs.getD n ⟨false, 0, 0, 0⟩).busy := ⟨_, rfl⟩
    rw [← hx] at c3 ⊢
    clear hx e2 e
    go_enter Tryz.func101, Tryz.ntmps101
    go_wp2_with (go_at_call 99; refine hk.mono ?_; rintro e w1 ⟨rfl, n1, rfl⟩)
    go_ret
    exact ⟨rfl, _, rfl⟩
theorem quota_set {w : World} {p : Nat} {q : Quota} (h : QuotaAt w p q) (ok : q.Ok) {k r : Nat} (hk : k < 64) (hr : r < 4) {v : Value} {y : QF} (hy : y.cells = (q.fs.getD k ⟨false, 0, 0, 0⟩).cells.set r v) :
    QuotaAt (w.setCell ⟨p, 32 + k * 4 + r, none⟩ v) p { q with fs := q.fs.set k y } := by
  have := h.set_ (32 + k * 4 + r) v
  have e : q.cells.setIfInBounds (32 + k * 4 + r) v = Quota.cells { q with fs := q.fs.set k y } := by
    unfold Quota.cells
    rw [List.setIfInBounds_toArray, List.set_append_right _ _ (by rw [flat_len (z := 2) (fun _ => rfl), ok.na]; omega), flat_len (z := 2) (fun _ => rfl), ok.na,
      show 32 + k * 4 + r - 2 * 16 = 4 * k + r by omega, flat_set (z := 4) (fun _ => rfl) hr hy _ _ (getD_some (by rw [ok.nf]; exact hk) _)]
  rw [e] at this
  exact this
theorem quota_setA {w : World} {p : Nat} {q : Quota} (h : QuotaAt w p q) (ok : q.Ok) {k r : Nat} (hk : k < 16) (hr : r < 2) {v : Value} {y : QA} (hy : y.cells = (q.acs.getD k ⟨false, 0⟩).cells.set r v) :
    QuotaAt (w.setCell ⟨p, k * 2 + r, none⟩ v) p { q with acs := q.acs.set k y } := by
  have := h.set_ (k * 2 + r) v
  have e : q.cells.setIfInBounds (k * 2 + r) v = Quota.cells { q with acs := q.acs.set k y } := by
    unfold Quota.cells
    rw [List.setIfInBounds_toArray, List.set_append_left _ _ (by rw [flat_len (z := 2) (fun _ => rfl), ok.na]; omega),
      show k * 2 + r = 2 * k + r by omega, flat_set (z := 2) (fun _ => rfl) hr hy _ _ (getD_some (by rw [ok.na]; exact hk) _)]
  rw [e] at this
  exact this
theorem mem_set {α : Type} {l : List α} {i : Nat} {y x : α} (h : x ∈ l.set i y) : x = y ∨ x ∈ l := by
  rcases List.mem_or_eq_of_mem_set h with h | h
  · exact .inr h
  · exact .inl h
/-- What a method of the ledger leaves. -/
def QWrote (p : Nat) (q' : Quota) (v : Value) (w : World) (e : Ending) (w' : World) : Prop := e = .returned v ∧ QuotaAt w' p q' ∧ w.grownBy w' (some p)
set_option maxHeartbeats 4000000 in
theorem qend_any (p : Nat) (q : Quota) (k : Int) (w : World) (h : QuotaAt w p q) (ok : q.Ok) : Calls Tryz.prog 72 #[.pointer (some ⟨p, 0, none⟩), .int .i64 k] w (fun e w' => ∃ b, QWrote p (q.fin k) (.bool b) w e w') := by
  have hk := known_any p q k w h ok
  have H := Lib.hid h
  unfold Quota.fin
  cases e : q.known k
  · rw [e] at hk
    rw [if_neg (by simp)]
    clear e h
    go_enter Tryz.func72, Tryz.ntmps72
    go_wp2_with (go_at_call 99; refine hk.mono ?_; rintro e w1 ⟨rfl, n1, rfl⟩)
    go_ret
    exact ⟨_, rfl, H.out.drewN _, only_drewN (only_refl _ _) _⟩
  · rw [e] at hk
    have hb : 0 ≤ k ∧ k < 64 := by unfold Quota.known at e; simp at e; omega
    obtain ⟨n, rfl⟩ : ∃ n : Nat, k = n := ⟨k.toNat, by omega⟩
    obtain ⟨b0, b1⟩ := hb
    have c3 : w.cell? ⟨p, 32 + n * 4 + 3, none⟩ = some (.int .i64 (q.fs.getD n ⟨false, 0, 0, 0⟩).busy) := qf_cell (k := n) (r := 3) h ok (by omega) (by omega)
    have f3 := h.frozen (32 + n * 4 + 3)
    have e2 : (q.f (n : Int)).busy = (q.fs.getD n ⟨false, 0, 0, 0⟩).busy := rfl
    rw [e2]
    have hbd := (ok.f _ (List.mem_of_getElem? (getD_some (xs := q.fs) (i := n) (by rw [ok.nf]; omega) ⟨false, 0, 0, 0⟩))).2.2.2.2
    have hset := fun W (hW : QuotaAt W p q) v => quota_set (k := n) (r := 3) (v := .int .i64 v) (y := { q.f (n : Int) with busy := v }) hW ok (by omega) (by omega) rfl
    have HS := Lib.hid hset
    clear hset
    obtain ⟨x, hx⟩ : ∃ x, x = (q.fs.getD n ⟨false, 0, 0, 0⟩).busy := ⟨_, rfl⟩
    rw [← hx] at c3 hbd ⊢
    obtain ⟨x0, x1⟩ := hbd
    clear hx e2 e h
    by_cases h0 : x = 0
    · have e0 : (x == 0) = true := by simp [h0]
      rw [if_neg (by simp [h0])]
      clear h0
      go_enter Tryz.func72, Tryz.ntmps72
      go_wp2_with (go_at_call 99; refine hk.mono ?_; rintro e w1 ⟨rfl, n1, rfl⟩)
      go_ret
      exact ⟨_, rfl, H.out.drewN _, only_drewN (only_refl _ _) _⟩
    · have e0 : (x == 0) = false := by simpa using h0
      rw [if_pos ⟨rfl, h0⟩]
      clear h0
      obtain ⟨Y, hY⟩ : ∃ Y : Quota, Y = { q with fs := q.fs.set (n : Int).toNat { q.f (n : Int) with busy := x - 1 } } := ⟨_, rfl⟩
      rw [← hY]
      have HY := Lib.hid hY
      clear hY
      go_enter Tryz.func72, Tryz.ntmps72
      go_wp2_with (go_at_call 99; refine hk.mono ?_; rintro e w1 ⟨rfl, n1, rfl⟩)
      go_region
      go_wp2
      go_ret
      refine ⟨_, rfl, ?_, ?_⟩
      · rw [HY.out]; exact (HS.out _ (H.out.drewN _) _).drew
      · exact only_at (only_drewN (only_refl _ _) _) _ _
end Go.Proofs.YtjmdgicdpggljaaGreat.GH

/- Proved: what quota.Ledger's sums come to. -/
namespace Go.Proofs.YtjmdgicdpggljaaGreat.GH
open Go.RowKit Go.Proofs.YtjmdgicdpggljaaGreat.Histo
set_option linter.unusedVariables false

theorem sumBy_snoc (g : QF → Int) (x : Int) : ∀ (l : List QF) (y : QF), Quota.sumBy g x (l ++ [y]) = Quota.sumBy g x l + if y.there = true ∧ y.acc = x then g y else 0
  | [], y => by simp [Quota.sumBy]
  | a :: r, y => by rw [List.cons_append, Quota.sumBy, Quota.sumBy, sumBy_snoc g x r y]; omega
theorem sumBy_bd (g : QF → Int) (x : Int) (hg : ∀ y, 0 ≤ y.res ∧ y.res ≤ 1000 ∧ 0 ≤ y.busy ∧ y.busy ≤ 1000 → 0 ≤ g y ∧ g y ≤ 1000) : ∀ l : List QF, (∀ y ∈ l, 0 ≤ y.res ∧ y.res ≤ 1000 ∧ 0 ≤ y.busy ∧ y.busy ≤ 1000) → 0 ≤ Quota.sumBy g x l ∧ Quota.sumBy g x l ≤ 1000 * l.length
  | [], _ => by simp [Quota.sumBy]
  | a :: r, h => by
    have h1 := sumBy_bd g x hg r fun y hy => h y (List.mem_cons_of_mem _ hy)
    have h2 := hg a (h a List.mem_cons_self)
    rw [Quota.sumBy, List.length_cons]
    split <;> omega
def gOpen (y : QF) : Int := if y.res = 0 then y.busy else 0
theorem Quota.Ok.small {q : Quota} (ok : q.Ok) : ∀ y ∈ q.fs, 0 ≤ y.res ∧ y.res ≤ 1000 ∧ 0 ≤ y.busy ∧ y.busy ≤ 1000 := fun y hy => ⟨(ok.f y hy).2.2.1, (ok.f y hy).2.2.2.1, (ok.f y hy).2.2.2.2⟩
theorem qsum_bd {q : Quota} (ok : q.Ok) (x : Int) (k : Nat) (hk : k ≤ 64) : (0 ≤ Quota.sumBy (·.res) x (q.fs.take k) ∧ Quota.sumBy (·.res) x (q.fs.take k) ≤ 64000) ∧ (0 ≤ Quota.sumBy (·.busy) x (q.fs.take k) ∧ Quota.sumBy (·.busy) x (q.fs.take k) ≤ 64000) ∧ (0 ≤ Quota.sumBy gOpen x (q.fs.take k) ∧ Quota.sumBy gOpen x (q.fs.take k) ≤ 64000) := by
  have hl : (q.fs.take k).length ≤ 64 := by rw [List.length_take]; omega
  have hs : ∀ y ∈ q.fs.take k, 0 ≤ y.res ∧ y.res ≤ 1000 ∧ 0 ≤ y.busy ∧ y.busy ≤ 1000 := fun y hy => ok.small y (List.mem_of_mem_take hy)
  have h1 := sumBy_bd (·.res) x (fun y h => ⟨h.1, h.2.1⟩) _ hs
  have h2 := sumBy_bd (·.busy) x (fun y h => ⟨h.2.2.1, h.2.2.2⟩) _ hs
  have h3 := sumBy_bd gOpen x (fun y h => by unfold gOpen; split <;> omega) _ hs
  omega
theorem qsum_all {q : Quota} (ok : q.Ok) (x : Int) : Quota.sumBy (·.res) x (q.fs.take 64) = q.res x ∧ Quota.sumBy (·.busy) x (q.fs.take 64) = q.busy x ∧ Quota.sumBy gOpen x (q.fs.take 64) = q.open_ x := by
  rw [List.take_of_length_le (by rw [ok.nf]; omega)]
  exact ⟨rfl, rfl, rfl⟩
theorem take_next {l : List QF} {k : Nat} (h : k < l.length) (d : QF) : l.take (k + 1) = l.take k ++ [l.getD k d] := by
  rw [List.take_succ_eq_append_getElem h, List.getD_eq_getElem?_getD, List.getElem?_eq_getElem h]; rfl
theorem info_fns : (Tryz.prog.info? 79).map (·.size) = some 256 := by kernel_rfl
/-- What sums leaves: three numbers, and new blocks. -/
def Sums (a b c : Int) (w : World) (e : Ending) (w' : World) : Prop := e = .returned (.tuple #[.int .i64 a, .int .i64 b, .int .i64 c]) ∧ Below w.heap.size w w'
set_option maxRecDepth 100000 in
set_option maxHeartbeats 4000000 in
theorem sums_any (p : Nat) (q : Quota) (x : Int) (w : World) (h : QuotaAt w p q) (ok : q.Ok) : Calls Tryz.prog 86 #[.pointer (some ⟨p, 0, none⟩), .int .i64 x] w (Sums (q.res x) (q.busy x) (q.open_ x) w) := by
  have hld : ∀ j v, (q.fs.flatMap QF.cells)[j]? = some v → w.cell? ⟨p, 32 + j, none⟩ = some v := by
    intro j v hv
    rw [h.cell, Quota.cells, List.getElem?_toArray, List.getElem?_append_right (by rw [flat_len (z := 2) (fun _ => rfl), ok.na]; omega), flat_len (z := 2) (fun _ => rfl), ok.na, show 32 + j - 2 * 16 = j by omega]
    exact hv
  have hsz : (Tryz.prog.info? 79).map (·.size) = some (q.fs.flatMap QF.cells).length := by rw [info_fns, flat_len (z := 4) (fun _ => rfl), ok.nf]
  have HLD := Lib.hid hld
  have HSZ := Lib.hid hsz
  have HO := Lib.hid ok
  clear h hld hsz ok
  go_enter Tryz.func86, Tryz.ntmps86
  go_wp2_with (refine wpList_load_at rfl 79 (.tmp 14) rfl p 32 64 78 rfl (q.fs.flatMap QF.cells) HLD.out Tryz.underlying79 HSZ.out ?_)
  obtain ⟨A, hA⟩ : ∃ A, A = (q.fs.flatMap QF.cells).toArray := ⟨_, rfl⟩
  rw [← hA]
  have HAA := Lib.hid hA
  clear hA
  go_loopw [7, 8, 9, 16] (fun rv bv ov iv wr => ∃ k : Nat, k ≤ 64 ∧ iv = .int .i64 k ∧ rv = .int .i64 (Quota.sumBy (·.res) x (q.fs.take k)) ∧ bv = .int .i64 (Quota.sumBy (·.busy) x (q.fs.take k)) ∧ ov = .int .i64 (Quota.sumBy gOpen x (q.fs.take k)) ∧ Below w.heap.size w wr) (fun _ _ _ iv _ => 64 - (intOf iv).toNat)
  case atStart => exact ⟨0, by omega, rfl, rfl, rfl, rfl, Below.refl _ _⟩
  case round =>
    obtain ⟨k, hk, rfl, rfl, rfl, rfl, hb⟩ := hrel
    obtain ⟨⟨r0, r1⟩, ⟨b0, b1⟩, ⟨o0, o1⟩⟩ := qsum_bd HO.out x k hk
    by_cases hlt : k < 64
    · have hk' : k < q.fs.length := by rw [HO.out.nf]; exact hlt
      have hidx := fun W => run_index_row (P := Tryz.prog) (enc := QF.cells) (z := 4) (fun _ => rfl) q.fs k _ (getD_some hk' ⟨false, 0, 0, 0⟩) HO.out.nf W Tryz.underlying79 Tryz.isAgg78 Tryz.sizeOf78
      rw [← HAA.out] at hidx
      have hn := take_next hk' ⟨false, 0, 0, 0⟩
      have hsm := HO.out.small _ (List.mem_of_getElem? (getD_some hk' ⟨false, 0, 0, 0⟩))
      obtain ⟨y, hy⟩ : ∃ y, y = q.fs.getD k ⟨false, 0, 0, 0⟩ := ⟨_, rfl⟩
      rw [← hy] at hidx hn hsm
      have n1 := sumBy_snoc (·.res) x (q.fs.take k) y
      have n2 := sumBy_snoc (·.busy) x (q.fs.take k) y
      have n3 := sumBy_snoc gOpen x (q.fs.take k) y
      rw [← hn] at n1 n2 n3
      obtain ⟨R, hR⟩ : ∃ R, R = Quota.sumBy (·.res) x (q.fs.take k) := ⟨_, rfl⟩
      obtain ⟨B, hB⟩ : ∃ B, B = Quota.sumBy (·.busy) x (q.fs.take k) := ⟨_, rfl⟩
      obtain ⟨O, hO⟩ : ∃ O, O = Quota.sumBy gOpen x (q.fs.take k) := ⟨_, rfl⟩
      rw [← hR] at r0 r1 n1 ⊢
      rw [← hB] at b0 b1 n2 ⊢
      rw [← hO] at o0 o1 n3 ⊢
      obtain ⟨s0, s1, t0, t1⟩ := hsm
      have N1 := Lib.hid n1
      have N2 := Lib.hid n2
      have N3 := Lib.hid n3
      have HB := Lib.hid hb
      obtain ⟨yt, ya, yr, yb⟩ := y
      simp only [QF.cells] at hidx s0 s1 t0 t1
      clear hn hy hR hB hO n1 n2 n3 hb
      have hfin : Below w.heap.size w (wr.alloc (.cells #[.bool yt, .int .i64 ya, .int .i64 yr, .int .i64 yb] 78)) := HB.out.alloc HB.out.size _
      have HF := Lib.hid hfin
      clear hfin
      cases yt
      · go_wp2
        go_roundw
        case rel => exact ⟨k + 1, by omega, by go_num, by rw [N1.out]; simp, by rw [N2.out]; simp, by rw [N3.out]; simp, HF.out⟩
        case measure => simp [intOf]; omega
      · by_cases ha : ya = x
        · have e1 : (ya == x) = true := by simp [ha]
          have e2 : (ya != x) = false := by simp [ha]
          have HA := Lib.hid ha
          clear ha
          by_cases hr : yr = 0
          · have e3 : (yr == 0) = true := by simp [hr]
            have HR := Lib.hid hr
            clear hr
            go_wp2
            go_roundw
            case rel => exact ⟨k + 1, by omega, by go_num, by rw [N1.out]; simp [HA.out], by rw [N2.out]; simp [HA.out], by rw [N3.out]; simp [HA.out, gOpen, HR.out], HF.out⟩
            case measure => simp [intOf]; omega
          · have e3 : (yr == 0) = false := by simpa using hr
            have HR := Lib.hid hr
            clear hr
            go_wp2
            go_roundw
            case rel => exact ⟨k + 1, by omega, by go_num, by rw [N1.out]; simp [HA.out], by rw [N2.out]; simp [HA.out], by rw [N3.out]; simp [gOpen, HR.out], HF.out⟩
            case measure => simp [intOf]; omega
        · have e1 : (ya == x) = false := by simpa using ha
          have e2 : (ya != x) = true := by simpa using ha
          have HA := Lib.hid ha
          clear ha
          go_wp2
          go_roundw
          case rel => exact ⟨k + 1, by omega, by go_num, by rw [N1.out]; simp [HA.out], by rw [N2.out]; simp [HA.out], by rw [N3.out]; simp [HA.out], HF.out⟩
          case measure => simp [intOf]; omega
    · obtain rfl : k = 64 := by omega
      obtain ⟨a1, a2, a3⟩ := qsum_all HO.out x
      rw [a1, a2, a3]
      have HB := Lib.hid hb
      clear a1 a2 a3 hb r0 r1 b0 b1 o0 o1
      go_wp2
      go_ret3
      exact ⟨rfl, HB.out⟩
end Go.Proofs.YtjmdgicdpggljaaGreat.GH

/- Proved: what quota.Ledger's SetAccount, SetFunc, Ask and Begin answer, and leave in its block. -/
namespace Go.Proofs.YtjmdgicdpggljaaGreat.GH
open Go.RowKit Go.Proofs.YtjmdgicdpggljaaGreat.Histo
set_option linter.unusedVariables false

def askVal (x : Int) : Value := .tuple #[.int .i64 (if x = -1 then 0 else x), .bool (decide (x ≠ -1))]
/-- What Ask leaves: its answer, and new blocks. -/
def Asked (x : Int) (w : World) (e : Ending) (w' : World) : Prop := e = .returned (askVal x) ∧ Below w.heap.size w w'
theorem Asked.mk {x : Int} {v : Value} {w w' : World} (h : v = askVal x) (hb : Below w.heap.size w w') : Asked x w (.returned v) w' := by subst h; exact ⟨rfl, hb⟩
theorem qok_f {q : Quota} (ok : q.Ok) {n : Nat} (h : n < 64) : 0 ≤ (q.fs.getD n ⟨false, 0, 0, 0⟩).acc ∧ (q.fs.getD n ⟨false, 0, 0, 0⟩).acc < 16 ∧ 0 ≤ (q.fs.getD n ⟨false, 0, 0, 0⟩).res ∧ (q.fs.getD n ⟨false, 0, 0, 0⟩).res ≤ 1000 ∧ 0 ≤ (q.fs.getD n ⟨false, 0, 0, 0⟩).busy ∧ (q.fs.getD n ⟨false, 0, 0, 0⟩).busy ≤ 1000 :=
  ok.f _ (List.mem_of_getElem? (getD_some (by rw [ok.nf]; exact h) _))
theorem qok_a {q : Quota} (ok : q.Ok) {n : Nat} (h : n < 16) : 0 ≤ (q.acs.getD n ⟨false, 0⟩).lim ∧ (q.acs.getD n ⟨false, 0⟩).lim ≤ 1000 :=
  ok.lim _ (List.mem_of_getElem? (getD_some (by rw [ok.na]; exact h) _))
theorem qsum_bd' {q : Quota} (ok : q.Ok) (x : Int) : (0 ≤ q.res x ∧ q.res x ≤ 64000) ∧ (0 ≤ q.busy x ∧ q.busy x ≤ 64000) ∧ (0 ≤ q.open_ x ∧ q.open_ x ≤ 64000) := by
  obtain ⟨a1, a2, a3⟩ := qsum_all ok x
  rw [← a1, ← a2, ← a3]
  exact qsum_bd ok x 64 (by omega)
set_option maxRecDepth 100000 in
set_option maxHeartbeats 8000000 in
theorem ask_any (p : Nat) (q : Quota) (k : Int) (w : World) (h : QuotaAt w p q) (ok : q.Ok) : Calls Tryz.prog 60 #[.pointer (some ⟨p, 0, none⟩), .int .i64 k] w (Asked (q.ask k) w) := by
  have hk := known_any p q k w h ok
  cases e : q.known k
  · have ea : q.ask k = -1 := by unfold Quota.ask; rw [if_pos e]
    rw [e] at hk
    rw [ea]
    clear e ea h
    go_enter Tryz.func60, Tryz.ntmps60
    go_wp2_with (go_at_call 99; refine hk.mono ?_; rintro e w1 ⟨rfl, n1, rfl⟩)
    go_ret2
    exact ⟨rfl, below_drewN (Below.refl _ _) _⟩
  · rw [e] at hk
    have hb : 0 ≤ k ∧ k < 64 := by unfold Quota.known at e; simp at e; omega
    obtain ⟨n, rfl⟩ : ∃ n : Nat, k = n := ⟨k.toNat, by omega⟩
    obtain ⟨b0, b1⟩ := hb
    have hf : q.f (n : Int) = q.fs.getD n ⟨false, 0, 0, 0⟩ := rfl
    have ea : q.ask (n : Int) = if 0 < (q.f (n : Int)).res ∧ (q.f (n : Int)).res ≤ (q.f (n : Int)).busy then 1
        else if (q.a (q.f (n : Int)).acc).lim ≤ q.busy (q.f (n : Int)).acc ∨ ((q.f (n : Int)).res = 0 ∧ (q.a (q.f (n : Int)).acc).lim - q.res (q.f (n : Int)).acc ≤ q.open_ (q.f (n : Int)).acc) then 2 else 0 := by
      unfold Quota.ask; rw [if_neg (by rw [e]; simp)]
    rw [hf] at ea
    have c0 : w.cell? ⟨p, 32 + n * 4, none⟩ = some (.bool (q.fs.getD n ⟨false, 0, 0, 0⟩).there) := qf_cell (k := n) (r := 0) h ok (by omega) (by omega)
    have c1 : w.cell? ⟨p, 32 + n * 4 + 1, none⟩ = some (.int .i64 (q.fs.getD n ⟨false, 0, 0, 0⟩).acc) := qf_cell (k := n) (r := 1) h ok (by omega) (by omega)
    have c2 : w.cell? ⟨p, 32 + n * 4 + 2, none⟩ = some (.int .i64 (q.fs.getD n ⟨false, 0, 0, 0⟩).res) := qf_cell (k := n) (r := 2) h ok (by omega) (by omega)
    have c3 : w.cell? ⟨p, 32 + n * 4 + 3, none⟩ = some (.int .i64 (q.fs.getD n ⟨false, 0, 0, 0⟩).busy) := qf_cell (k := n) (r := 3) h ok (by omega) (by omega)
    obtain ⟨a0, a1, r0, r1, y0, y1⟩ := qok_f ok (n := n) (by omega)
    have hlt := h.lt
    obtain ⟨y, hy⟩ : ∃ y, y = q.fs.getD n ⟨false, 0, 0, 0⟩ := ⟨_, rfl⟩
    rw [← hy] at c0 c1 c2 c3 a0 a1 r0 r1 y0 y1 ea
    obtain ⟨yt, ya, yr, yb⟩ := y
    simp only at c0 c1 c2 c3 a0 a1 r0 r1 y0 y1 ea
    obtain ⟨m, rfl⟩ : ∃ m : Nat, ya = m := ⟨ya.toNat, by omega⟩
    have d1 : w.cell? ⟨p, m * 2 + 1, none⟩ = some (.int .i64 (q.acs.getD m ⟨false, 0⟩).lim) := qa_cell (k := m) (r := 1) h ok (by omega) (by omega)
    have ha : q.a (m : Int) = q.acs.getD m ⟨false, 0⟩ := rfl
    rw [ha] at ea
    obtain ⟨l0, l1⟩ := qok_a ok (n := m) (by omega)
    obtain ⟨L, hL⟩ : ∃ L, L = (q.acs.getD m ⟨false, 0⟩).lim := ⟨_, rfl⟩
    rw [← hL] at d1 ea l0 l1
    obtain ⟨⟨u0, u1⟩, ⟨v0, v1⟩, ⟨o0, o1⟩⟩ := qsum_bd' ok (m : Int)
    have hsum : ∀ W, QuotaAt W p q → Calls Tryz.prog 86 #[.pointer (some ⟨p, 0, none⟩), .int .i64 (m : Int)] W (Sums (q.res m) (q.busy m) (q.open_ m) W) := fun W hW => sums_any p q m W hW ok
    obtain ⟨U, hU⟩ : ∃ U, U = q.res (m : Int) := ⟨_, rfl⟩
    obtain ⟨V, hV⟩ : ∃ V, V = q.busy (m : Int) := ⟨_, rfl⟩
    obtain ⟨O, hO⟩ : ∃ O, O = q.open_ (m : Int) := ⟨_, rfl⟩
    rw [← hU] at u0 u1 ea hsum
    rw [← hV] at v0 v1 ea hsum
    rw [← hO] at o0 o1 ea hsum
    have HSUM := Lib.hid hsum
    have H := Lib.hid h
    obtain ⟨X, hX⟩ : ∃ X, X = q.ask (n : Int) := ⟨_, rfl⟩
    rw [← hX] at ea ⊢
    have EA := Lib.hid ea
    clear hU hV hO hL ha hy hf hsum h ea e hX
    have hcs : ∀ W, QuotaAt W p q → W.cell? ⟨p, 32 + n * 4, none⟩ = some (.bool yt) ∧ W.cell? ⟨p, 32 + n * 4 + 1, none⟩ = some (.int .i64 (m : Int)) ∧ W.cell? ⟨p, 32 + n * 4 + 2, none⟩ = some (.int .i64 yr) ∧ W.cell? ⟨p, 32 + n * 4 + 3, none⟩ = some (.int .i64 yb) ∧ W.cell? ⟨p, m * 2 + 1, none⟩ = some (.int .i64 L) := fun W hW => by
      have e : W.heap[p]? = w.heap[p]? := hW.trans H.out.symm
      unfold World.cell? at c0 c1 c2 c3 d1 ⊢
      rw [e]
      exact ⟨c0, c1, c2, c3, d1⟩
    have HCS := Lib.hid hcs
    clear hcs c0 c1 c2 c3 d1
    go_enter Tryz.func60, Tryz.ntmps60
    go_wp2_with (go_at_call 99; refine hk.mono ?_; rintro e w1 ⟨rfl, n1, hw1⟩; have hq1 : QuotaAt w1 p q := (by rw [hw1]; exact H.out.drewN n1); have hb1 : Below w.heap.size w w1 := (by rw [hw1]; exact below_drewN (Below.refl _ _) _); have H1 := Lib.hid hq1; have HB1 := Lib.hid hb1; obtain ⟨c0, c1, c2, c3, d1⟩ := HCS.out w1 hq1; have hp1 := hq1.lt; clear hw1 hq1 hb1)
    go_quiet (fail)
    have hW : ∀ k2 : Nat, QuotaAt ((w1.alloc (.cells #[.bool yt, .int .i64 (m : Int), .int .i64 yr, .int .i64 yb] 78)).drewN k2) p q := fun k2 => (H1.out.alloc _).drewN _
    have HW := Lib.hid hW
    clear hW
    go_wp2_with (go_at_call 86; refine (HSUM.out _ (HW.out _)).mono ?_; rintro e w2 ⟨rfl, hb2⟩; have g2 : w2.cell? ⟨w1.heap.size, 2, none⟩ = some (.int .i64 yr) := (hb2.cell (p := ⟨w1.heap.size, 2, none⟩) (by simp)).trans (by simp); have g3 : w2.cell? ⟨w1.heap.size, 3, none⟩ = some (.int .i64 yb) := (hb2.cell (p := ⟨w1.heap.size, 3, none⟩) (by simp)).trans (by simp); have HF := Lib.hid (show Below w.heap.size w w2 from (below_drewN (HB1.out.alloc HB1.out.size _) _).trans (hb2.mono (by have := HB1.out.size; simp; omega))); clear hb2 c0 c1 c2 c3 d1)
    all_goals
      go_ret2
      refine Asked.mk ?_ HF.out
      rw [EA.out]
      first
        | (rw [if_pos (by omega)]; rfl)
        | (rw [if_neg (by omega), if_pos (by omega)]; rfl)
        | (rw [if_neg (by omega), if_neg (by omega)]; rfl)
theorem grown_below {w w' : World} (h : Below w.heap.size w w') (r : Option Nat) : w.grownBy w' r := ⟨h.os, h.tape, h.output, h.size, fun i hi _ => h.block i hi⟩
theorem QWrote.mk {p : Nat} {q q' : Quota} {v v' : Value} {w w' : World} (hv : v = v') (hq : QuotaAt w' p q) (he : q = q') (hg : w.grownBy w' (some p)) : QWrote p q' v' w (.returned v) w' := by subst hv; subst he; exact ⟨rfl, hq, hg⟩
set_option maxRecDepth 100000 in
set_option maxHeartbeats 8000000 in
theorem setAccount_any (p : Nat) (q : Quota) (x lim : Int) (w : World) (h : QuotaAt w p q) (ok : q.Ok) : Calls Tryz.prog 44 #[.pointer (some ⟨p, 0, none⟩), .int .i64 x, .int .i64 lim] w (QWrote p (q.setAccount x lim).2 (.int .i64 (q.setAccount x lim).1) w) := by
  have es : q.setAccount x lim = if x < 0 ∨ 16 ≤ x ∨ lim < 0 ∨ 1000 < lim then (1, q) else if lim < q.res x then (4, q) else (0, { q with acs := q.acs.set x.toNat ⟨true, lim⟩ }) := rfl
  have hs := sums_any p q x w h ok
  have H := Lib.hid h
  by_cases h0 : x < 0
  · rw [if_pos (by omega)] at es
    rw [es]
    clear es h hs
    go_enter Tryz.func44, Tryz.ntmps44
    go_wp2
    go_ret
    exact QWrote.mk rfl H.out rfl (only_refl _ _)
  by_cases h1 : 16 ≤ x
  · rw [if_pos (by omega)] at es
    rw [es]
    clear es h hs
    go_enter Tryz.func44, Tryz.ntmps44
    go_wp2
    go_ret
    exact QWrote.mk rfl H.out rfl (only_refl _ _)
  by_cases h2 : lim < 0
  · rw [if_pos (by omega)] at es
    rw [es]
    clear es h hs
    go_enter Tryz.func44, Tryz.ntmps44
    go_wp2
    go_ret
    exact QWrote.mk rfl H.out rfl (only_refl _ _)
  by_cases h3 : 1000 < lim
  · rw [if_pos (by omega)] at es
    rw [es]
    clear es h hs
    go_enter Tryz.func44, Tryz.ntmps44
    go_wp2
    go_ret
    exact QWrote.mk rfl H.out rfl (only_refl _ _)
  rw [if_neg (by omega)] at es
  obtain ⟨⟨r0, r1⟩, _, _⟩ := qsum_bd' ok x
  obtain ⟨R, hR⟩ : ∃ R, R = q.res x := ⟨_, rfl⟩
  rw [← hR] at es hs r0 r1
  clear hR
  by_cases h4 : lim < R
  · rw [if_pos h4] at es
    rw [es]
    clear es h
    go_enter Tryz.func44, Tryz.ntmps44
    go_wp2_with (go_at_call 86; refine hs.mono ?_; rintro e w2 ⟨rfl, hb2⟩)
    go_ret
    exact QWrote.mk rfl (H.out.below hb2 H.out.lt) rfl (grown_below hb2 _)
  rw [if_neg h4] at es
  rw [es]
  obtain ⟨n, rfl⟩ : ∃ n : Nat, x = n := ⟨x.toNat, by omega⟩
  have c0 : w.cell? ⟨p, n * 2, none⟩ = some (.bool (q.acs.getD n ⟨false, 0⟩).there) := qa_cell (k := n) (r := 0) h ok (by omega) (by omega)
  have c1 : w.cell? ⟨p, n * 2 + 1, none⟩ = some (.int .i64 (q.acs.getD n ⟨false, 0⟩).lim) := qa_cell (k := n) (r := 1) h ok (by omega) (by omega)
  have f0 := h.frozen (n * 2)
  have f1 := h.frozen (n * 2 + 1)
  have hp := h.lt
  have hset : ∀ W, QuotaAt W p q → QuotaAt ((W.setCell ⟨p, n * 2, none⟩ (.bool true)).setCell ⟨p, n * 2 + 1, none⟩ (.int .i64 lim)) p { q with acs := q.acs.set n ⟨true, lim⟩ } := fun W hW => by
    have a := quota_setA (k := n) (r := 0) (v := .bool true) (y := ⟨true, (q.acs.getD n ⟨false, 0⟩).lim⟩) hW ok (by omega) (by omega) rfl
    have l1 : (q.acs.set n ⟨true, (q.acs.getD n ⟨false, 0⟩).lim⟩)[n]? = some ⟨true, (q.acs.getD n ⟨false, 0⟩).lim⟩ := by rw [List.getElem?_set_self]; rw [ok.na]; omega
    have b := a.set_ (n * 2 + 1) (.int .i64 lim)
    have e : (Quota.cells { q with acs := q.acs.set n ⟨true, (q.acs.getD n ⟨false, 0⟩).lim⟩ }).setIfInBounds (n * 2 + 1) (.int .i64 lim) = Quota.cells { q with acs := q.acs.set n ⟨true, lim⟩ } := by
      unfold Quota.cells
      simp only
      rw [List.setIfInBounds_toArray, List.set_append_left _ _ (by rw [flat_len (z := 2) (fun _ => rfl), List.length_set, ok.na]; omega), show n * 2 + 1 = 2 * n + 1 by omega,
        flat_set (z := 2) (r := 1) (y := (⟨true, lim⟩ : QA)) (fun _ => rfl) (by omega) rfl _ _ l1, List.set_set]
    rw [e] at b
    exact b
  have HS := Lib.hid hset
  have ht : (n : Int).toNat = n := by omega
  rw [ht]
  obtain ⟨Y, hY⟩ : ∃ Y : Quota, Y = { q with acs := q.acs.set n ⟨true, lim⟩ } := ⟨_, rfl⟩
  rw [← hY]
  have HY := Lib.hid hY
  clear hset hY es h ht
  go_enter Tryz.func44, Tryz.ntmps44
  go_wp2_with (go_at_call 86; refine hs.mono ?_; rintro e w2 ⟨rfl, hb2⟩; have g0 := (hb2.cell (p := ⟨p, n * 2, none⟩) hp).trans c0; have g1 := (hb2.cell (p := ⟨p, n * 2 + 1, none⟩) hp).trans c1; have k0 := (hb2.frozen (p := ⟨p, n * 2, none⟩) hp).trans f0; have k1 := (hb2.frozen (p := ⟨p, n * 2 + 1, none⟩) hp).trans f1; have HB := Lib.hid hb2; clear hb2)
  go_ret
  exact QWrote.mk rfl (HS.out w2 (H.out.below HB.out hp)) HY.out.symm (only_at (only_at (grown_below HB.out _) _ _) _ _)
set_option maxRecDepth 100000 in
set_option maxHeartbeats 8000000 in
theorem qbegin_any (p : Nat) (q : Quota) (k : Int) (w : World) (h : QuotaAt w p q) (ok : q.Ok) : Calls Tryz.prog 105 #[.pointer (some ⟨p, 0, none⟩), .int .i64 k] w (fun e w' => ∃ b, QWrote p (q.begin k) (.bool b) w e w') := by
  have ha := ask_any p q k w h ok
  have H := Lib.hid h
  have eb : q.begin k = if q.ask k = 0 then { q with fs := q.fs.set k.toNat { q.f k with busy := (q.f k).busy + 1 } } else q := rfl
  by_cases h0 : q.ask k = 0
  · rw [if_pos h0] at eb
    rw [h0] at ha
    have hk : q.known k = true := by
      cases e : q.known k
      · have ea : q.ask k = -1 := by unfold Quota.ask; rw [if_pos e]
        omega
      · rfl
    have hb : 0 ≤ k ∧ k < 64 := by unfold Quota.known at hk; simp at hk; omega
    obtain ⟨n, rfl⟩ : ∃ n : Nat, k = n := ⟨k.toNat, by omega⟩
    have hf : q.f (n : Int) = q.fs.getD n ⟨false, 0, 0, 0⟩ := rfl
    have ht : (n : Int).toNat = n := by omega
    rw [hf, ht] at eb
    have c3 : w.cell? ⟨p, 32 + n * 4 + 3, none⟩ = some (.int .i64 (q.fs.getD n ⟨false, 0, 0, 0⟩).busy) := qf_cell (k := n) (r := 3) h ok (by omega) (by omega)
    have f3 := h.frozen (32 + n * 4 + 3)
    have hp := h.lt
    obtain ⟨_, _, _, _, y0, y1⟩ := qok_f ok (n := n) (by omega)
    have hset := fun W (hW : QuotaAt W p q) v => quota_set (k := n) (r := 3) (v := .int .i64 v) (y := { q.fs.getD n ⟨false, 0, 0, 0⟩ with busy := v }) hW ok (by omega) (by omega) rfl
    have HS := Lib.hid hset
    obtain ⟨x, hx⟩ : ∃ x, x = (q.fs.getD n ⟨false, 0, 0, 0⟩).busy := ⟨_, rfl⟩
    rw [← hx] at c3 y0 y1 eb
    obtain ⟨Y, hY⟩ : ∃ Y, Y = q.begin (n : Int) := ⟨_, rfl⟩
    rw [← hY] at eb ⊢
    have EB := Lib.hid eb
    obtain ⟨b0, b1⟩ := hb
    clear hx hY hset eb h hf ht hk h0
    go_enter Tryz.func105, Tryz.ntmps105
    go_wp2_with (go_at_call 60; refine ha.mono ?_; rintro e w2 ⟨rfl, hb2⟩; have g3 := (hb2.cell (p := ⟨p, 32 + n * 4 + 3, none⟩) hp).trans c3; have k3 := (hb2.frozen (p := ⟨p, 32 + n * 4 + 3, none⟩) hp).trans f3; have HB := Lib.hid hb2; unfold askVal; clear hb2 c3 f3)
    go_region
    go_wp2
    go_ret
    exact ⟨_, QWrote.mk rfl (HS.out _ ((H.out.below HB.out hp).drew) (x + 1)) EB.out.symm (only_at (only_drew (grown_below HB.out _)) _ _)⟩
  · rw [if_neg h0] at eb
    rw [eb]
    have hx : q.ask k = -1 ∨ q.ask k = 1 ∨ q.ask k = 2 := by
      have hd : q.ask k = -1 ∨ q.ask k = 1 ∨ q.ask k = 2 ∨ q.ask k = 0 := by unfold Quota.ask; split <;> (try split) <;> (try split) <;> simp
      omega
    obtain ⟨x, hxx⟩ : ∃ x, x = q.ask k := ⟨_, rfl⟩
    rw [← hxx] at ha hx
    clear hxx eb h h0
    rcases hx with rfl | rfl | rfl <;>
    · go_enter Tryz.func105, Tryz.ntmps105
      go_wp2_with (go_at_call 60; refine ha.mono ?_; rintro e w2 ⟨rfl, hb2⟩; unfold askVal)
      go_ret
      exact ⟨_, QWrote.mk rfl (H.out.below hb2 H.out.lt) rfl (grown_below hb2 _)⟩
end Go.Proofs.YtjmdgicdpggljaaGreat.GH
