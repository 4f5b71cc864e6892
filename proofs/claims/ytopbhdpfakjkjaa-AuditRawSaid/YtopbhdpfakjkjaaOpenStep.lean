/- Proved: a slice of audit.Step that a law is handed, opened: its steps lie one behind the other. -/
import Derived.Test.YtopbhdpfakjkjaaAudFirst
import Derived.Deep.Slices
import Derived.ChangeArms
import Derived.WideShapes
import Derived.KernelRfl
namespace Go.Proofs.Ytopbhdpfakjkjaa.Aud
open Go.RowKit Go.Proofs.Ytopbhdpfakjkjaa.Histo Go.Proofs.Ytopbhdpfakjkjaa.Event Go.Proofs.Ytopbhdpfakjkjaa.Ring
set_option linter.unusedVariables false
open Go.Proofs.Ytopbhdpfakjkjaa.MapI (AL At Rng W64 At.alloc At.drew)
theorem add_none (a : Addr) (k : Nat) : (a.add (0 * k)).add 0 = a := by simp [Addr.add]
theorem list_of {α : Type} (P : Nat → α → Prop) : ∀ n : Nat, (∀ i, i < n → ∃ x, P i x) → ∃ xs : List α, xs.length = n ∧ ∀ i x, xs[i]? = some x → P i x
  | 0, _ => ⟨[], rfl, fun i x h => by cases h⟩
  | n + 1, h => by
    obtain ⟨xs, hl, hx⟩ := list_of P n fun i hi => h i (by omega)
    obtain ⟨y, hy⟩ := h n (by omega)
    refine ⟨xs ++ [y], by simp [hl], fun i x hi => ?_⟩
    by_cases hlt : i < n
    · rw [List.getElem?_append_left (by omega)] at hi
      exact hx i x hi
    · have hil := (List.getElem?_eq_some_iff.1 hi).1
      simp [hl] at hil
      obtain rfl : i = n := by omega
      rw [List.getElem?_append_right (by omega), hl] at hi
      simp at hi
      subst hi
      exact hy
section
variable {H : Type} {enc : TypeId × Value → H} {w : World} {base : Nat} {spare : Nat → Bool} {held : Bool}
theorem fld {t : TypeId} {fs : Array Field} {fuel : Nat} {cs : List Value} {x : DataW H × List MemPlace} (ht : Try.prog.underlying t = some (.struct fs)) (h : DataW.trod enc Try.prog w base spare held fuel t cs = some x) (j e o c : Nat) (hf : (fs[j]?).map (fun f => (f.type, f.offset)) = some (e, o)) (hc : Try.prog.cellsOf e = c) :
    ∃ n y, DataW.trod enc Try.prog w base spare held n e ((cs.drop o).take c) = some y := by
  obtain ⟨xs, n, _, _, _, hl, hx⟩ := DataW.trod_struct ht h
  rw [Option.map_eq_some_iff] at hf
  obtain ⟨f, hf, he⟩ := hf
  simp only [Prod.mk.injEq] at he
  have h1 := hx j f hf
  rw [he.1, he.2, hc] at h1
  have hj := (Array.getElem?_eq_some_iff.1 hf).1
  exact ⟨n, _, h1.trans (List.getElem?_eq_getElem (by omega))⟩
theorem fld_int {t : TypeId} {fs : Array Field} {fuel : Nat} {cs : List Value} {x : DataW H × List MemPlace} (ht : Try.prog.underlying t = some (.struct fs)) (h : DataW.trod enc Try.prog w base spare held fuel t cs = some x) (j e o : Nat) (hf : (fs[j]?).map (fun f => (f.type, f.offset)) = some (e, o)) (hc : Try.prog.cellsOf e = 1) (he : Try.prog.underlying e = some (.int .i64)) :
    ∃ v, cs[o]? = some (.int .i64 v) ∧ W64 v := by
  obtain ⟨n, y, h1⟩ := fld ht h j e o 1 hf hc
  obtain ⟨v, hv, _, hw⟩ := DataW.trod_int he h1
  refine ⟨v, ?_, hw⟩
  have := congrArg (fun l => l[0]?) hv
  simpa using this
theorem fld_bool {t : TypeId} {fs : Array Field} {fuel : Nat} {cs : List Value} {x : DataW H × List MemPlace} (ht : Try.prog.underlying t = some (.struct fs)) (h : DataW.trod enc Try.prog w base spare held fuel t cs = some x) (j e o : Nat) (hf : (fs[j]?).map (fun f => (f.type, f.offset)) = some (e, o)) (hc : Try.prog.cellsOf e = 1) (he : Try.prog.underlying e = some .bool) :
    ∃ v, cs[o]? = some (.bool v) := by
  obtain ⟨n, y, h1⟩ := fld ht h j e o 1 hf hc
  obtain ⟨v, hv, _⟩ := DataW.trod_bool he h1
  refine ⟨v, ?_⟩
  have := congrArg (fun l => l[0]?) hv
  simpa using this
theorem open_cmds {fuel : Nat} {v : Value} {x : DataW H × List MemPlace} (h : DataW.trod enc Try.prog w base spare held fuel 53 [v] = some x) :
    ∃ (cs : List Cmd) (ad : Option Addr) (cap : Nat), v = .slice ad cs.length cap ∧ Cmds (w.heap.size ≤ ·) w ad cs := by
  rcases Go.Deep.open_slice Try.underlying53 h with ⟨hv, _⟩ | ⟨a, len, cap, m, n, D, Pl, hv, _, hlc, _, hm, _, hi⟩
  · injection hv with hv
    exact ⟨[], none, 0, hv, fun i c hc => by cases hc⟩
  · injection hv with hv
    have hlm : len ≤ m := by rw [hm]; split <;> omega
    have hcc : Try.prog.cellsOf 59 = 4 := by kernel_rfl
    rw [hcc] at hi
    clear hcc
    have hsp : 0 < len → a.spot = none := fun h0 => by
      obtain ⟨cs', hc, _⟩ := hi 0 (by omega)
      obtain ⟨_, hcl, hat⟩ := World.cells?_some hc
      obtain ⟨v, hv⟩ : ∃ v, cs'[0]? = some v := ⟨_, List.getElem?_eq_getElem (show 0 < cs'.length by omega)⟩
      have h1 := (hat 0 (by omega)).trans hv
      have h2 : w.cell? a = some v := (congrArg w.cell? (add_none a 4)).symm.trans h1
      exact World.cell?_spot h2
    obtain ⟨cs, hl, hx⟩ := list_of (fun i (c : Cmd) => CW c ∧ ∃ b off, some a = some ⟨b, off, none⟩ ∧ b < w.heap.size ∧ ¬ (w.heap.size ≤ b) ∧ (w.cell? ⟨b, off + i * 4, none⟩ = some (.bool c.boot) ∧ w.cell? ⟨b, off + i * 4 + 1, none⟩ = some (.int .i64 c.box) ∧ w.cell? ⟨b, off + i * 4 + 2, none⟩ = some (.int .i64 c.fn) ∧ w.cell? ⟨b, off + i * 4 + 3, none⟩ = some (.int .i64 c.host))) len (fun i hil => by
      obtain ⟨cs', hc, ht⟩ := hi i (by omega)
      obtain ⟨_, hcl, hat⟩ := World.cells?_some hc
      obtain ⟨v0, e0⟩ := fld_bool Try.underlying59 ht 0 4 0 (by kernel_rfl) (by kernel_rfl) Try.underlying4
      obtain ⟨v1, e1, w1⟩ := fld_int Try.underlying59 ht 1 3 1 (by kernel_rfl) (by kernel_rfl) Try.underlying3
      obtain ⟨v2, e2, w2⟩ := fld_int Try.underlying59 ht 2 3 2 (by kernel_rfl) (by kernel_rfl) Try.underlying3
      obtain ⟨v3, e3, w3⟩ := fld_int Try.underlying59 ht 3 3 3 (by kernel_rfl) (by kernel_rfl) Try.underlying3
      have g : ∀ (k : Nat) (u : Value), cs'[k]? = some u → w.cell? ((a.add (i * 4)).add k) = some u := fun k u hk => by
        rw [hat k (by have := (List.getElem?_eq_some_iff.1 hk).1; omega)]; exact hk
      have hs := hsp (by omega)
      obtain ⟨b, off, spot⟩ := a
      simp only at hs
      subst hs
      simp only [Go.WideShapes.add_plain] at g
      have g0 := g 0 _ e0
      have hb : b < w.heap.size := World.block_lt_of_cell? w _ g0
      exact ⟨⟨v0, v1, v2, v3⟩, ⟨w1, w2, w3⟩, b, off, rfl, hb, Nat.not_le.2 hb, g0, g 1 _ e1, g 2 _ e2, g 3 _ e3⟩)
    refine ⟨cs, some a, cap, by rw [hl]; exact hv, fun i c hc => ?_⟩
    obtain ⟨h1, b, off, h2⟩ := hx i c hc
    exact ⟨h1, b, off, h2⟩
/-- Steps that lie one behind the other, with however many commands. -/
def Raw (w : World) (ad : Option Addr) (xs : List Stp) : Prop := ∀ i x, xs[i]? = some x → ∃ b off ad' cap, ad = some ⟨b, off, none⟩ ∧ b < w.heap.size ∧ Cmds (w.heap.size ≤ ·) w ad' x.cmds ∧ At15 w b (off + i * 15) x (.slice ad' x.cmds.length cap)
theorem open_steps {fuel : Nat} {ad : Option Addr} {len cap : Nat} {x : DataW H × List MemPlace} (h : DataW.trod enc Try.prog w base spare held fuel 44 [.slice ad len cap] = some x) :
    ∃ xs : List Stp, len = xs.length ∧ Raw w ad xs := by
  rcases Go.Deep.open_slice Try.underlying44 h with ⟨hv, _⟩ | ⟨a, len', cap', m, n, D, Pl, hv, _, hlc, _, hm, _, hi⟩
  · injection hv with hv
    injection hv with h1 h2 h3
    subst h2
    exact ⟨[], rfl, fun i c hc => by cases hc⟩
  · injection hv with hv
    injection hv with h1 h2 h3
    subst h1; subst h2; subst h3
    have hlm : len ≤ m := by rw [hm]; split <;> omega
    have hcc : Try.prog.cellsOf 55 = 15 := by kernel_rfl
    rw [hcc] at hi
    clear hcc
    have hsp : 0 < len → a.spot = none := fun h0 => by
      obtain ⟨cs', hc, _⟩ := hi 0 (by omega)
      obtain ⟨_, hcl, hat⟩ := World.cells?_some hc
      obtain ⟨v, hv⟩ : ∃ v, cs'[0]? = some v := ⟨_, List.getElem?_eq_getElem (show 0 < cs'.length by omega)⟩
      have h1 := (hat 0 (by omega)).trans hv
      have h2 : w.cell? a = some v := (congrArg w.cell? (add_none a 15)).symm.trans h1
      exact World.cell?_spot h2
    obtain ⟨xs, hl, hx⟩ := list_of (fun i (x : Stp) => ∃ b off ad' cap, some a = some (⟨b, off, none⟩ : Addr) ∧ b < w.heap.size ∧ Cmds (w.heap.size ≤ ·) w ad' x.cmds ∧ At15 w b (off + i * 15) x (.slice ad' x.cmds.length cap)) len (fun i hil => by
      obtain ⟨cs', hc, ht⟩ := hi i (by omega)
      obtain ⟨_, hcl, hat⟩ := World.cells?_some hc
      obtain ⟨n1, y1, he⟩ := fld Try.underlying55 ht 0 47 0 10 (by kernel_rfl) (by kernel_rfl)
      obtain ⟨n2, y2, ha⟩ := fld Try.underlying55 ht 1 52 10 4 (by kernel_rfl) (by kernel_rfl)
      obtain ⟨n3, y3, hcm⟩ := fld Try.underlying55 ht 2 53 14 1 (by kernel_rfl) (by kernel_rfl)
      obtain ⟨v0, e0', _⟩ := fld_int Try.underlying47 he 0 45 0 (by kernel_rfl) (by kernel_rfl) Try.underlying45
      have e0 : cs'[0]? = some (.int .i64 v0) := by simpa using e0'
      obtain ⟨v1, e1', _⟩ := fld_int Try.underlying47 he 1 3 1 (by kernel_rfl) (by kernel_rfl) Try.underlying3
      have e1 : cs'[1]? = some (.int .i64 v1) := by simpa using e1'
      obtain ⟨v2, e2', _⟩ := fld_int Try.underlying47 he 2 3 2 (by kernel_rfl) (by kernel_rfl) Try.underlying3
      have e2 : cs'[2]? = some (.int .i64 v2) := by simpa using e2'
      obtain ⟨v3, e3', _⟩ := fld_int Try.underlying47 he 3 3 3 (by kernel_rfl) (by kernel_rfl) Try.underlying3
      have e3 : cs'[3]? = some (.int .i64 v3) := by simpa using e3'
      obtain ⟨v4, e4', _⟩ := fld_int Try.underlying47 he 4 3 4 (by kernel_rfl) (by kernel_rfl) Try.underlying3
      have e4 : cs'[4]? = some (.int .i64 v4) := by simpa using e4'
      obtain ⟨v5, e5', _⟩ := fld_int Try.underlying47 he 5 3 5 (by kernel_rfl) (by kernel_rfl) Try.underlying3
      have e5 : cs'[5]? = some (.int .i64 v5) := by simpa using e5'
      obtain ⟨v6, e6', _⟩ := fld_int Try.underlying47 he 6 3 6 (by kernel_rfl) (by kernel_rfl) Try.underlying3
      have e6 : cs'[6]? = some (.int .i64 v6) := by simpa using e6'
      obtain ⟨v7, e7', _⟩ := fld_int Try.underlying47 he 7 3 7 (by kernel_rfl) (by kernel_rfl) Try.underlying3
      have e7 : cs'[7]? = some (.int .i64 v7) := by simpa using e7'
      obtain ⟨v8, e8', _⟩ := fld_int Try.underlying47 he 8 3 8 (by kernel_rfl) (by kernel_rfl) Try.underlying3
      have e8 : cs'[8]? = some (.int .i64 v8) := by simpa using e8'
      obtain ⟨v9, e9', _⟩ := fld_int Try.underlying47 he 9 3 9 (by kernel_rfl) (by kernel_rfl) Try.underlying3
      have e9 : cs'[9]? = some (.int .i64 v9) := by simpa using e9'
      obtain ⟨u0, f0', _⟩ := fld_int Try.underlying52 ha 0 48 0 (by kernel_rfl) (by kernel_rfl) Try.underlying48
      have f0 : cs'[10]? = some (.int .i64 u0) := by simpa using f0'
      obtain ⟨u1, f1', _⟩ := fld_int Try.underlying52 ha 1 3 1 (by kernel_rfl) (by kernel_rfl) Try.underlying3
      have f1 : cs'[11]? = some (.int .i64 u1) := by simpa using f1'
      obtain ⟨u2, f2', _⟩ := fld_int Try.underlying52 ha 2 49 2 (by kernel_rfl) (by kernel_rfl) Try.underlying49
      have f2 : cs'[12]? = some (.int .i64 u2) := by simpa using f2'
      obtain ⟨u3, f3', _⟩ := fld_int Try.underlying52 ha 3 50 3 (by kernel_rfl) (by kernel_rfl) Try.underlying50
      have f3 : cs'[13]? = some (.int .i64 u3) := by simpa using f3'
      have hv14 : (cs'.drop 14).take 1 = [cs'[14]'(by omega)] := by
        rw [List.drop_eq_getElem_cons (by omega)]; rfl
      rw [hv14] at hcm
      obtain ⟨cs, ad', cap2, hv, hcmds⟩ := open_cmds hcm
      have g : ∀ (k : Nat) (u : Value), cs'[k]? = some u → w.cell? ((a.add (i * 15)).add k) = some u := fun k u hk => by
        rw [hat k (by have := (List.getElem?_eq_some_iff.1 hk).1; omega)]; exact hk
      have e14 : cs'[14]? = some (.slice ad' cs.length cap2) := by rw [List.getElem?_eq_getElem (by omega), hv]
      have hs := hsp (by omega)
      obtain ⟨b, off, spot⟩ := a
      simp only at hs
      subst hs
      simp only [Go.WideShapes.add_plain] at g
      have hb : b < w.heap.size := World.block_lt_of_cell? w _ (g 14 _ e14)
      exact ⟨⟨⟨v0, v1, v2, v3, v4, v5, v6, v7, v8, v9⟩, ⟨u0, u1, u2, u3⟩, cs⟩, b, off, ad', cap2, rfl, hb, hcmds, g 0 _ e0, g 1 _ e1, g 2 _ e2, g 3 _ e3, g 4 _ e4, g 5 _ e5, g 6 _ e6, g 7 _ e7, g 8 _ e8, g 9 _ e9, g 10 _ f0, g 11 _ f1, g 12 _ f2, g 13 _ f3, g 14 _ e14⟩)
    exact ⟨xs, hl.symm, hx⟩
end
end Go.Proofs.Ytopbhdpfakjkjaa.Aud
