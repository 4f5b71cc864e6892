/- Proved: laws on a block that is a map keyed by int, as a list of keys with values in rising order: look-up, store, delete, len, range. -/
import Derived.Maps.RangeWalk
import Derived.Maps.Ext
import Derived.WalkKit
import Derived.Lib.Hide
import Derived.IntWalk
import Derived.Deep.Draws
import Derived.Deep.RegionLaw
import Derived.Below
import Derived.WideKeyEntry
import Derived.Test.YtjmdgicdpggljaaGreatM05
set_option linter.all false
namespace Go.Proofs.YtjmdgicdpggljaaGreat.MapI
open Go.Maps (Keyed)
set_option linter.unusedVariables false
open Go.RowKit

abbrev AL := List (Int × Value)
def enc (l : AL) : List (Lit × DataW Value) := l.map fun p => (.int .i64 p.1, .held p.2)
def hR (v : Value) : Option (DataW Value × List MemPlace) := some (.held v, [])
def get (l : AL) (x : Int) : Option Value := (l.find? fun p => p.1 == x).map (·.2)
def ins (p : Int × Value) : AL → AL
  | [] => [p]
  | q :: r => if p.1 < q.1 then p :: q :: r else q :: ins p r
def del (l : AL) (x : Int) : AL := l.filter fun p => p.1 != x
def put (l : AL) (x : Int) (v : Value) : AL := ins (x, v) (del l x)
abbrev W64 (x : Int) : Prop := (Lit.int .i64 x).wf = true
theorem w64 {x : Int} (h0 : -9223372036854775808 ≤ x) (h1 : x ≤ 9223372036854775807) : W64 x := WalkArith.wf_i64 ⟨h0, h1⟩

theorem same_enc (p : Int × Value) (x : Int) : ((Lit.int .i64 p.1).sameKey (.int .i64 x)) = (p.1 == x) := by
  simp only [Lit.sameKey, true_and]
  rw [Bool.eq_iff_iff]; simp
theorem at_enc (l : AL) (x : Int) (z : DataW Value) : (DataW.map (enc l)).atKey (.int .i64 x) z = ((get l x).map DataW.held).getD z := by
  unfold DataW.atKey get enc
  simp only
  induction l with
  | nil => rfl
  | cons p r ih =>
    simp only [List.map_cons, List.find?_cons, same_enc]
    cases h : p.1 == x
    · exact ih
    · rfl
theorem has_enc (l : AL) (x : Int) : Maps.has (.map (enc l)) (.int .i64 x) = (get l x).isSome := by
  unfold get enc
  rw [Maps.has_eq]
  induction l with
  | nil => rfl
  | cons p r ih =>
    simp only [List.map_cons, List.any_cons, List.find?_cons, same_enc]
    cases h : p.1 == x
    · simpa using ih
    · rfl
theorem del_enc (l : AL) (x : Int) : (DataW.map (enc l)).del (.int .i64 x) = .map (enc (del l x)) := by
  unfold DataW.del enc del
  simp only
  congr 1
  induction l with
  | nil => rfl
  | cons p r ih =>
    simp only [List.map_cons, List.filter_cons, same_enc]
    cases h : p.1 == x
    · simp only [bne, h, Bool.not_false, if_true, List.map_cons]; rw [ih]; rfl
    · simp only [bne, h, Bool.not_true, Bool.false_eq_true, if_false]; exact ih
theorem ins_enc (x : Int) (v : Value) (l : AL) : DataW.insert (.int .i64 x, .held v) (enc l) = enc (ins (x, v) l) := by
  induction l with
  | nil => rfl
  | cons p r ih =>
    show DataW.insert _ ((.int .i64 p.1, .held p.2) :: enc r) = enc (if x < p.1 then _ else _)
    unfold DataW.insert
    by_cases h : x < p.1
    · rw [if_pos (by simp [Lit.before, h]), if_pos h]; rfl
    · rw [if_neg (by simp [Lit.before, h]), if_neg h, ih]; rfl
theorem put_enc (l : AL) (x : Int) (v : Value) : (DataW.map (enc l)).put (.int .i64 x) (.held v) = .map (enc (put l x v)) := by
  have h := del_enc l x
  unfold DataW.del at h
  unfold DataW.put put
  simp only at h ⊢
  rw [DataW.map.injEq] at h
  rw [h, ins_enc]

/-- Block b of w is a map of at most n entries that reads as l. -/
def At (P : Program) (k : TypeId) (w : World) (b n : Nat) (l : AL) : Prop := w.ownsMap P k hR b n (.map (enc l))
section
variable {P : Program} {k e t : TypeId} {w w' : World} {b n : Nat} {l : AL}
theorem At.made (w : World) : At P k (w.alloc (.map #[] 0)) w.heap.size 0 [] := World.ownsMap_made _ _ _ _
theorem At.lt (h : At P k w b n l) : b < w.heap.size := World.ownsMap.lt h
theorem At.mono (h : At P k w b n l) {n' : Nat} (hn : n ≤ n') : At P k w b n' l := World.ownsMap.mono h hn
theorem At.same (h : At P k w b n l) (hb : w'.heap[b]? = w.heap[b]?) : At P k w' b n l := by
  obtain ⟨es, clock, h1, h2⟩ := h
  exact ⟨es, clock, hb.trans h1, h2⟩
theorem At.alloc (h : At P k w b n l) (o : Obj) : At P k (w.alloc o) b n l := h.same (Below.heap_alloc w o b h.lt)
theorem At.drew (h : At P k w b n l) : At P k w.drew b n l := h
theorem At.drewN (h : At P k w b n l) (m : Nat) : At P k (w.drewN m) b n l := h
theorem At.sorted (h : At P k w b n l) (hk : P.underlying k = some (.int .i64)) : l.Pairwise fun p q => p.1 < q.1 := by
  obtain ⟨es, he, hp, _⟩ := World.ownsMap.canon h (Maps.int_keyed hk)
  rw [DataW.map.injEq] at he
  rw [← he] at hp
  unfold enc at hp
  rw [List.pairwise_map] at hp
  exact hp.imp fun h => by simpa [Lit.before] using h
theorem key (hk : P.underlying k = some (.int .i64)) {x : Int} (hx : W64 x) : keyOf P k (.int .i64 x) = some (.int .i64 x) := Maps.keyOf_int_mk hk hx
theorem held_inv {v : Value} {d : DataW Value} {ps : List MemPlace} (h : hR v = some (d, ps)) : d = .held v := by
  unfold hR at h; injection h with h; injection h with h1 h2; exact h1.symm
theorem at_getD (l : AL) (x : Int) (z : Value) : (DataW.map (enc l)).atKey (.int .i64 x) (.held z) = .held ((get l x).getD z) := by
  rw [at_enc]; cases get l x <;> rfl
theorem At.look_ok (h : At P k w b n l) (hk : P.underlying k = some (.int .i64)) (ht : P.underlying t = some (.map k e)) {z : Value} (hz : (zeroValue e).run P w = .ok z w) {x : Int} (hx : W64 x) :
    (Instr.lookup t (.map (some b)) (.int .i64 x) true).run P w = .ok (.tuple #[(get l x).getD z, .bool (get l x).isSome]) w := by
  obtain ⟨v, ps, hrun, hv⟩ := World.ownsMap.look_ok h (Maps.int_keyed hk) ht hz (zd := .held z) (zp := []) rfl (key hk hx)
  have := held_inv hv
  rw [at_getD] at this
  injection this with this
  rw [hrun, ← this, has_enc]
theorem At.look (h : At P k w b n l) (hk : P.underlying k = some (.int .i64)) (ht : P.underlying t = some (.map k e)) {z : Value} (hz : (zeroValue e).run P w = .ok z w) {x : Int} (hx : W64 x) :
    (Instr.lookup t (.map (some b)) (.int .i64 x) false).run P w = .ok ((get l x).getD z) w := by
  obtain ⟨v, ps, hrun, hv⟩ := World.ownsMap.lookup h (Maps.int_keyed hk) ht hz (zd := .held z) (zp := []) rfl (key hk hx)
  have := held_inv hv
  rw [at_getD] at this
  injection this with this
  rw [hrun, ← this]
theorem At.store (h : At P k w b n l) (hk : P.underlying k = some (.int .i64)) (ht : P.underlying t = some (.map k e)) (hn : n < maxLen) {x : Int} (hx : W64 x) (v : Value) :
    ∃ w', (Instr.mapUpdate t (.map (some b)) (.int .i64 x) v).run P w = .ok () w' ∧ At P k w' b (n + 1) (put l x v) ∧ w.grownBy w' (some b) ∧ w'.heap.size = w.heap.size := by
  obtain ⟨w', hrun, h1, h2⟩ := World.ownsMap.store h (Maps.int_keyed hk) ht hn (key hk hx) (val := v) (d := .held v) (ps := []) rfl
  rw [put_enc] at h1
  refine ⟨w', hrun, h1, h2.grown, ?_⟩
  obtain ⟨_, _, es'', clock'', _, rfl⟩ := h2
  simp [Go.ChangeMaps.setBlock]
theorem At.drop (h : At P k w b n l) (hk : P.underlying k = some (.int .i64)) (ht : P.underlying t = some (.map k e)) {x : Int} (hx : W64 x) (ty : TypeId) :
    ∃ w', (Builtin.delete_ #[t, k] ty #[.map (some b), .int .i64 x]).run P w = .ok (.tuple #[]) w' ∧ At P k w' b n (del l x) ∧ w.grownBy w' (some b) ∧ w'.heap.size = w.heap.size := by
  obtain ⟨w', hrun, h1, h2⟩ := World.ownsMap.drop h (Maps.int_keyed hk) ht (key hk hx) ty
  rw [del_enc] at h1
  refine ⟨w', hrun, h1, h2.grown, ?_⟩
  obtain ⟨_, _, es'', clock'', _, rfl⟩ := h2
  simp [Go.ChangeMaps.setBlock]
theorem At.len (h : At P k w b n l) (ht : P.underlying t = some (.map k e)) (ty : TypeId) : (Builtin.len_ #[t] ty #[.map (some b)]).run P w = .ok (.int .i64 l.length) w := by
  have := World.ownsMap.len h ht ty
  rw [Maps.size_eq] at this
  simpa [enc] using this
theorem At.le (h : At P k w b n l) : l.length ≤ n := by
  have := World.ownsMap.size_le h
  rw [Maps.size_eq] at this
  simpa [enc] using this
end

/-! ### the lists -/
theorem get_nil (x : Int) : get [] x = none := rfl
theorem get_cons (p : Int × Value) (l : AL) (x : Int) : get (p :: l) x = if p.1 = x then some p.2 else get l x := by
  unfold get
  rw [List.find?_cons]
  by_cases h : p.1 = x
  · rw [if_pos h, show (p.1 == x) = true by simpa using h]; rfl
  · rw [if_neg h, show (p.1 == x) = false by simpa using h]
theorem get_del (l : AL) (x y : Int) : get (del l x) y = if y = x then none else get l y := by
  unfold del
  induction l with
  | nil => simp [get_nil]
  | cons p r ih =>
    rw [List.filter_cons]
    by_cases h : p.1 = x
    · rw [if_neg (by simp [h]), ih, get_cons]
      by_cases hy : y = x
      · rw [if_pos hy, if_pos hy]
      · rw [if_neg hy, if_neg hy, if_neg (by omega)]
    · rw [if_pos (by simp [h]), get_cons, get_cons, ih]
      by_cases hy : p.1 = y
      · rw [if_pos hy, if_pos hy, if_neg (by omega)]
      · rw [if_neg hy, if_neg hy]
theorem get_ins (x : Int) (v : Value) (l : AL) (hl : get l x = none) (y : Int) : get (ins (x, v) l) y = if y = x then some v else get l y := by
  induction l with
  | nil => unfold ins; rw [get_cons, get_nil]; simp only [eq_comm]
  | cons p r ih =>
    rw [get_cons] at hl
    by_cases hp : p.1 = x
    · rw [if_pos hp] at hl; cases hl
    · rw [if_neg hp] at hl
      unfold ins
      split
      · rw [get_cons]
        by_cases h : y = x
        · rw [if_pos h.symm, if_pos h]
        · rw [if_neg (Ne.symm h), if_neg h]
      · rw [get_cons, ih hl, get_cons]
        by_cases h : p.1 = y
        · rw [if_pos h, if_pos h, if_neg (by omega)]
        · rw [if_neg h, if_neg h]
theorem get_put (l : AL) (x : Int) (v : Value) (y : Int) : get (put l x v) y = if y = x then some v else get l y := by
  unfold put
  rw [get_ins x v _ (by rw [get_del, if_pos rfl]), get_del]
  by_cases h : y = x
  · rw [if_pos h, if_pos h]
  · rw [if_neg h, if_neg h, if_neg h]
theorem mem_of_get {l : AL} {x : Int} {v : Value} (h : get l x = some v) : (x, v) ∈ l := by
  unfold get at h
  rw [Option.map_eq_some_iff] at h
  obtain ⟨⟨a, c⟩, h1, rfl⟩ := h
  have h2 := List.find?_some h1
  simp at h2
  subst h2
  exact List.mem_of_find?_eq_some h1
theorem get_of_mem {l : AL} (hs : l.Pairwise fun p q => p.1 < q.1) {x : Int} {v : Value} (h : (x, v) ∈ l) : get l x = some v := by
  induction l with
  | nil => cases h
  | cons p r ih =>
    rw [List.pairwise_cons] at hs
    rw [get_cons]
    rcases List.mem_cons.1 h with rfl | h
    · rw [if_pos rfl]
    · have := hs.1 _ h
      rw [if_neg (by simp only at this; omega), ih hs.2 h]

/-! ### at the operation -/
section
variable {P : Program} (w : World) {ops : Array Oper} {rest : List Oper} {o : Oper} {a : Act} {Q : Exit → Act → World → Prop}
theorem wp_look (hg : o.guard = none) (m x : Operand) (t : TypeId) (hop : o.op = Op.lookup t m x false)
    (k e : TypeId) (hk : P.underlying k = some (.int .i64)) (ht : P.underlying t = some (.map k e)) {z : Value} (hz : (zeroValue e).run P w = .ok z w) (b n : Nat) (l : AL)
    (hm : a.eval m = .map (some b)) (hown : At P k w b n l) (y : Int) (hx : a.eval x = .int .i64 y) (hy : W64 y) (v : Value) (hv : (get l y).getD z = v)
    (hK : wpList P ops Q rest (a.put o.dst v) w) : wpList P ops Q (o :: rest) a w := by
  refine wpList_plain hg fun K' hK' => ?_
  have hrun := hown.look hk ht hz hy
  unfold Oper.wp
  simp [execOp, hop, hm, hx, hrun, Result.andThen]
  rw [hv]
  exact hK' _ _ hK
theorem wp_look_ok (hg : o.guard = none) (m x : Operand) (t : TypeId) (hop : o.op = Op.lookup t m x true)
    (k e : TypeId) (hk : P.underlying k = some (.int .i64)) (ht : P.underlying t = some (.map k e)) {z : Value} (hz : (zeroValue e).run P w = .ok z w) (b n : Nat) (l : AL)
    (hm : a.eval m = .map (some b)) (hown : At P k w b n l) (y : Int) (hx : a.eval x = .int .i64 y) (hy : W64 y) (v : Value) (c : Bool) (hv : (get l y).getD z = v) (hc : (get l y).isSome = c)
    (hK : wpList P ops Q rest (a.put o.dst (.tuple #[v, .bool c])) w) : wpList P ops Q (o :: rest) a w := by
  refine wpList_plain hg fun K' hK' => ?_
  have hrun := hown.look_ok hk ht hz hy
  unfold Oper.wp
  simp [execOp, hop, hm, hx, hrun, Result.andThen]
  rw [hv, hc]
  exact hK' _ _ hK
theorem wp_store (hg : o.guard = none) (m x v : Operand) (t : TypeId) (hop : o.op = Op.mapUpdate t m x v)
    (k e : TypeId) (hk : P.underlying k = some (.int .i64)) (ht : P.underlying t = some (.map k e)) (b n : Nat) (l : AL)
    (hm : a.eval m = .map (some b)) (hown : At P k w b n l) (hn : n < maxLen) (y : Int) (hx : a.eval x = .int .i64 y) (hy : W64 y) (u : Value) (hv : a.eval v = u)
    (hK : ∀ w', At P k w' b (n + 1) (put l y u) → w.grownBy w' (some b) → w'.heap.size = w.heap.size → wpList P ops Q rest (a.put o.dst undef) w') : wpList P ops Q (o :: rest) a w := by
  refine wpList_plain hg fun K' hK' => ?_
  obtain ⟨w', hrun, h1, h2, h3⟩ := hown.store hk ht hn hy u
  unfold Oper.wp
  simp [execOp, hop, hm, hx, hv, hrun, Result.andThen]
  exact hK' _ _ (hK w' h1 h2 h3)
theorem wp_del (hg : o.guard = none) (m x : Operand) (t k : TypeId) (hop : o.op = Op.call { callee := Callee.builtin Builtin.delete, args := #[m, x], argTypes := #[t, k] })
    (e : TypeId) (hk : P.underlying k = some (.int .i64)) (ht : P.underlying t = some (.map k e)) (b n : Nat) (l : AL)
    (hm : a.eval m = .map (some b)) (hown : At P k w b n l) (y : Int) (hx : a.eval x = .int .i64 y) (hy : W64 y)
    (hK : ∀ w', At P k w' b n (del l y) → w.grownBy w' (some b) → w'.heap.size = w.heap.size → wpList P ops Q rest (a.put o.dst (.tuple #[])) w') : wpList P ops Q (o :: rest) a w := by
  refine wpList_plain hg fun K' hK' => ?_
  obtain ⟨w', hrun, h1, h2, h3⟩ := hown.drop hk ht hy o.type
  unfold Oper.wp
  simp [execOp, hop, resolve, invoke, builtin, hm, hx, hrun, Result.andThen]
  exact hK' _ _ (hK w' h1 h2 h3)
theorem wp_len (hg : o.guard = none) (m : Operand) (t : TypeId) (hop : o.op = Op.call { callee := Callee.builtin Builtin.len, args := #[m], argTypes := #[t] })
    (k e : TypeId) (ht : P.underlying t = some (.map k e)) (b n : Nat) (l : AL) (hm : a.eval m = .map (some b)) (hown : At P k w b n l)
    (hK : wpList P ops Q rest (a.put o.dst (.int .i64 l.length)) w) : wpList P ops Q (o :: rest) a w := by
  refine wpList_plain hg fun K' hK' => ?_
  unfold Oper.wp
  simp [execOp, hop, resolve, invoke, builtin, hm, hown.len ht o.type, Result.andThen]
  exact hK' _ _ hK
end

section
variable {P : Program} (w : World) {ops : Array Oper} {o : Oper} {a : Act} {K : Act → World → Prop} {Q : Exit → Act → World → Prop} {E : Prop}
theorem step_store (hg : o.guard = none) (m x v : Operand) (t : TypeId) (hop : o.op = Op.mapUpdate t m x v)
    (k e : TypeId) (hk : P.underlying k = some (.int .i64)) (ht : P.underlying t = some (.map k e)) (b n : Nat) (l : AL)
    (hm : a.eval m = .map (some b)) (hown : At P k w b n l) (hn : n < maxLen) (y : Int) (hx : a.eval x = .int .i64 y) (hy : W64 y) (u : Value) (hv : a.eval v = u)
    (hK : ∀ w', At P k w' b (n + 1) (put l y u) → w.grownBy w' (some b) → w'.heap.size = w.heap.size → K (a.put o.dst undef) w') : if Region.wanted o (yielded ops a.tmps) = true then Oper.wp P o a w K Q else E := by
  have hw : Region.wanted o (yielded ops a.tmps) = true := by simp [Region.wanted, hg]
  rw [if_pos hw]
  obtain ⟨w', hrun, h1, h2, h3⟩ := hown.store hk ht hn hy u
  unfold Oper.wp
  simp [execOp, hop, hm, hx, hv, hrun, Result.andThen]
  exact hK w' h1 h2 h3
end

/-! ### ranging -/
/-- Block r is an iterator over the map in block b; the keys of which 'left' holds are still to come. -/
def Rng (P : Program) (k : TypeId) (w : World) (b r n : Nat) (l : AL) (left : Int → Bool) (cnt : Nat) : Prop :=
  ∃ L : Lit → Bool, w.ranges P k hR b r n (.map (enc l)) L cnt ∧ ∀ x, W64 x → L (.int .i64 x) = left x
section
variable {P : Program} {k e t : TypeId} {w w' : World} {b r n : Nat} {l : AL} {left : Int → Bool} {cnt : Nat}
theorem Rng.owns (h : Rng P k w b r n l left cnt) : At P k w b n l := by obtain ⟨L, h, _⟩ := h; exact h.owns
theorem Rng.left_eq (h : Rng P k w b r n l left cnt) : w.rangeLeft b r = cnt := by obtain ⟨L, h, _⟩ := h; exact h.left_eq
theorem Rng.ne (h : Rng P k w b r n l left cnt) : r ≠ b := by obtain ⟨L, h, _⟩ := h; exact h.ne
theorem Rng.lt (h : Rng P k w b r n l left cnt) : r < w.heap.size := by obtain ⟨L, h, _⟩ := h; exact h.lt
theorem Rng.kept {row : Option Nat} (h : Rng P k w b r n l left cnt) (hg : w.grownBy w' row) (hb' : some b ≠ row) (hr' : some r ≠ row) : Rng P k w' b r n l left cnt := by
  obtain ⟨L, h, h2⟩ := h
  exact ⟨L, h.kept hg hb' hr', h2⟩
theorem Rng.same (h : Rng P k w b r n l left cnt) (hb : w'.heap[b]? = w.heap[b]?) (hr : w'.heap[r]? = w.heap[r]?) : Rng P k w' b r n l left cnt := by
  obtain ⟨L, ⟨es, clock, since, seen, c0, h1, h2, h3, h4, h5, h6⟩, hL⟩ := h
  exact ⟨L, ⟨es, clock, since, seen, c0, hb.trans h1, h2, h3, h4, hr.trans h5, h6⟩, hL⟩
theorem Rng.drewN (h : Rng P k w b r n l left cnt) (m : Nat) : Rng P k (w.drewN m) b r n l left cnt := h
end
section
variable {P : Program} (w : World) {ops : Array Oper} {rest : List Oper} {o : Oper} {a : Act} {Q : Exit → Act → World → Prop}
theorem wp_range (hg : o.guard = none) (m : Operand) (t : TypeId) (hop : o.op = Op.range t m) (k e : TypeId) (hk : P.underlying k = some (.int .i64)) (ht : P.underlying t = some (.map k e)) (b n : Nat) (l : AL)
    (hm : a.eval m = .map (some b)) (hown : At P k w b n l)
    (hK : ∀ w', Rng P k w' b w.heap.size n l (fun x => (get l x).isSome) l.length → w.grownBy w' none → w'.heap.size = w.heap.size + 1 → wpList P ops Q rest (a.put o.dst (.pointer (some ⟨w.heap.size, 0, none⟩))) w') :
    wpList P ops Q (o :: rest) a w := by
  refine wpList_range_own w hg m t hop k e (Maps.int_keyed hk) ht hR b n _ hm hown fun w' h1 h2 h3 => hK w' ⟨_, ?_, fun x _ => has_enc l x⟩ h2 h3
  rw [Maps.size_eq] at h1
  simpa [enc] using h1
theorem wp_next (hg : o.guard = none) (it : Operand) (hop : o.op = Op.next it false) (k : TypeId) (hk : P.underlying k = some (.int .i64)) (b r n : Nat) (l : AL) (left : Int → Bool) (cnt : Nat)
    (hit : a.eval it = .pointer (some ⟨r, 0, none⟩)) (h : Rng P k w b r n l left cnt)
    (hDone : cnt = 0 → (∀ x, W64 x → left x = false) → wpList P ops Q rest (a.put o.dst (.tuple #[.bool false])) w)
    (hMore : ∀ (x : Int) (v : Value) (w' : World) (cnt' : Nat), W64 x → left x = true → get l x = some v → Rng P k w' b r n l (fun z => left z && z != x) cnt' → cnt' < cnt →
      w.grownBy w' (some r) → w'.heap.size = w.heap.size → (Instr.entry (.pointer (some ⟨r, 0, none⟩))).run P w' = .ok (.tuple #[.int .i64 x, v]) w' → wpList P ops Q rest (a.put o.dst (.tuple #[.bool true, .int .i64 x, v])) w') :
    wpList P ops Q (o :: rest) a w := by
  obtain ⟨L, h1, h2⟩ := h
  refine wpList_next_ranges w hg it hop k (Maps.int_keyed hk) hR (Value.int .i64) id (fun key kl hkey => by obtain ⟨x, rfl, _⟩ := Maps.keyOf_int_inv hk hkey; exact ⟨x, rfl⟩) (fun v _ _ => ⟨v, rfl⟩)
    b r n _ L cnt hit h1 (fun h0 hl => hDone h0 fun x hx => by rw [← h2 x hx]; exact hl _) (fun x c kl y w' cnt' hkey hlk hv hat hrg hlt hgr hsz hen => ?_)
  obtain ⟨x', ex, rfl, hwx⟩ := Maps.keyOf_int_inv hk hkey
  cases ex
  refine hMore x c w' cnt' hwx (by rw [← h2 x hwx]; exact hlk) ?_ ⟨_, hrg, fun z hz => ?_⟩ hlt hgr hsz hen
  · obtain ⟨d, ps⟩ := y
    have := held_inv hv
    simp only at hat
    have h3 := hat .nil
    rw [at_enc, this] at h3
    cases hgt : get l x with
    | none => rw [hgt] at h3; cases h3
    | some u => rw [hgt] at h3; simp at h3; rw [h3]
  · simp only
    rw [h2 z hz]
    congr 1
    rw [same_enc (z, .bool false) x]; rfl
theorem wp_del_range (hg : o.guard = none) (m x : Operand) (t k : TypeId) (hop : o.op = Op.call { callee := Callee.builtin Builtin.delete, args := #[m, x], argTypes := #[t, k] })
    (e : TypeId) (hk : P.underlying k = some (.int .i64)) (ht : P.underlying t = some (.map k e)) (b r n : Nat) (l : AL) (left : Int → Bool) (cnt : Nat)
    (hm : a.eval m = .map (some b)) (h : Rng P k w b r n l left cnt) (y : Int) (hx : a.eval x = .int .i64 y) (hy : W64 y)
    (hK : ∀ w' cnt', Rng P k w' b r n (del l y) (fun z => left z && z != y) cnt' → cnt' ≤ cnt → w.grownBy w' (some b) → w'.heap.size = w.heap.size → wpList P ops Q rest (a.put o.dst (.tuple #[])) w') :
    wpList P ops Q (o :: rest) a w := by
  obtain ⟨L, h1, h2⟩ := h
  refine wpList_delete_ranges w hg m x t k hop e (Maps.int_keyed hk) ht hR b r n _ L cnt hm h1 _ _ hx (key hk hy) fun w' cnt' h3 h4 h5 => hK w' cnt' ⟨_, del_enc l y ▸ h3, fun z hz => ?_⟩ h4 h5.grown ?_
  · simp only
    rw [h2 z hz]
    congr 1
    rw [same_enc (z, .bool false) y]; rfl
  · obtain ⟨_, _, es'', clock'', _, rfl⟩ := h5
    simp [Go.ChangeMaps.setBlock]
end
end Go.Proofs.YtjmdgicdpggljaaGreat.MapI

/- Proved: laws on a block that is a map whose keys are of any kind that reads as a literal: look-up, store, delete, and the two halves of a store within a statement of several. -/
namespace Go.Proofs.YtjmdgicdpggljaaGreat.MapG
open Go.Maps (Keyed)
set_option linter.unusedVariables false
open Go.RowKit

theorem setBlock_self {w : World} {b : Nat} {o : Obj} (h : w.heap[b]? = some o) : Go.ChangeMaps.setBlock w b o = w := by
  unfold Go.ChangeMaps.setBlock
  have : w.heap.setIfInBounds b o = w.heap := by
    apply Array.ext_getElem?
    intro i
    rw [Array.getElem?_setIfInBounds]
    by_cases e : b = i
    · subst e
      rw [if_pos rfl, h, if_pos (Array.getElem?_eq_some_iff.1 h).1]
    · rw [if_neg e]
  rw [this]
/-- How keys of a kind read. -/
structure Codec (K : Type) [DecidableEq K] where
  lit : K → Lit
  val : K → Value
  ok : K → Prop
  same : ∀ a b, ok a → ok b → (lit a).sameKey (lit b) = decide (a = b)
section
variable {K : Type} [DecidableEq K] (C : Codec K)
abbrev AL (K : Type) := List (K × Value)
def enc (l : AL K) : List (Lit × DataW Value) := l.map fun p => (C.lit p.1, .held p.2)
def hR (v : Value) : Option (DataW Value × List MemPlace) := some (.held v, [])
def get (l : AL K) (x : K) : Option Value := (l.find? fun p => decide (p.1 = x)).map (·.2)
def ins (p : K × Value) : AL K → AL K
  | [] => [p]
  | q :: r => if (C.lit p.1).before (C.lit q.1) = true then p :: q :: r else q :: ins p r
def del (l : AL K) (x : K) : AL K := l.filter fun p => !decide (p.1 = x)
def put (l : AL K) (x : K) (v : Value) : AL K := ins C (x, v) (del l x)
variable {C}
theorem at_enc (l : AL K) (hl : ∀ p ∈ l, C.ok p.1) (x : K) (hx : C.ok x) (z : DataW Value) : (DataW.map (enc C l)).atKey (C.lit x) z = ((get l x).map DataW.held).getD z := by
  unfold DataW.atKey get enc
  simp only
  induction l with
  | nil => rfl
  | cons p r ih =>
    simp only [List.map_cons, List.find?_cons, C.same _ _ (hl p List.mem_cons_self) hx]
    cases h : decide (p.1 = x)
    · exact ih fun q hq => hl q (List.mem_cons_of_mem _ hq)
    · rfl
theorem has_enc (l : AL K) (hl : ∀ p ∈ l, C.ok p.1) (x : K) (hx : C.ok x) : Maps.has (.map (enc C l)) (C.lit x) = (get l x).isSome := by
  unfold get enc
  rw [Maps.has_eq]
  induction l with
  | nil => rfl
  | cons p r ih =>
    simp only [List.map_cons, List.any_cons, List.find?_cons, C.same _ _ (hl p List.mem_cons_self) hx]
    cases h : decide (p.1 = x)
    · simpa using ih fun q hq => hl q (List.mem_cons_of_mem _ hq)
    · rfl
theorem del_enc (l : AL K) (hl : ∀ p ∈ l, C.ok p.1) (x : K) (hx : C.ok x) : (DataW.map (enc C l)).del (C.lit x) = .map (enc C (del l x)) := by
  unfold DataW.del enc del
  simp only
  congr 1
  induction l with
  | nil => rfl
  | cons p r ih =>
    simp only [List.map_cons, List.filter_cons, C.same _ _ (hl p List.mem_cons_self) hx]
    have ih := ih fun q hq => hl q (List.mem_cons_of_mem _ hq)
    cases h : decide (p.1 = x)
    · simp only [Bool.not_false, if_true, List.map_cons]; rw [ih]
    · simp only [Bool.not_true, Bool.false_eq_true, if_false]; exact ih
theorem ins_enc (x : K) (v : Value) (l : AL K) : DataW.insert (C.lit x, .held v) (enc C l) = enc C (ins C (x, v) l) := by
  induction l with
  | nil => rfl
  | cons p r ih =>
    show DataW.insert _ ((C.lit p.1, .held p.2) :: enc C r) = enc C (if (C.lit x).before (C.lit p.1) = true then _ else _)
    unfold DataW.insert
    by_cases h : (C.lit x).before (C.lit p.1) = true
    · rw [if_pos h, if_pos h]; rfl
    · rw [if_neg h, if_neg h, ih]; rfl
theorem put_enc (l : AL K) (hl : ∀ p ∈ l, C.ok p.1) (x : K) (hx : C.ok x) (v : Value) : (DataW.map (enc C l)).put (C.lit x) (.held v) = .map (enc C (put C l x v)) := by
  have h := del_enc (C := C) l hl x hx
  unfold DataW.del at h
  unfold DataW.put put
  simp only at h ⊢
  rw [DataW.map.injEq] at h
  rw [h, ins_enc]

theorem ok_del {l : AL K} (hl : ∀ p ∈ l, C.ok p.1) (x : K) : ∀ p ∈ del l x, C.ok p.1 := fun p hp => hl p (List.mem_filter.1 hp).1
theorem ok_ins {l : AL K} {x : K × Value} (hx : C.ok x.1) (hl : ∀ p ∈ l, C.ok p.1) : ∀ p ∈ ins C x l, C.ok p.1 := by
  induction l with
  | nil => intro p hp; unfold ins at hp; simp at hp; subst hp; exact hx
  | cons q r ih =>
    intro p hp
    unfold ins at hp
    split at hp
    · rcases List.mem_cons.1 hp with rfl | hp
      · exact hx
      · exact hl p hp
    · rcases List.mem_cons.1 hp with rfl | hp
      · exact hl _ List.mem_cons_self
      · exact ih (fun z hz => hl z (List.mem_cons_of_mem _ hz)) p hp
theorem ok_put {l : AL K} (hl : ∀ p ∈ l, C.ok p.1) {x : K} (hx : C.ok x) (v : Value) : ∀ p ∈ put C l x v, C.ok p.1 := ok_ins hx (ok_del hl x)
/-- Block b of w is a map that reads as l. -/
structure Mk (C : Codec K) (P : Program) (k : TypeId) (w : World) (b : Nat) (l : AL K) : Prop where
  own : w.ownsMap P k hR b l.length (.map (enc C l))
  ok : ∀ p ∈ l, C.ok p.1
variable {P : Program} {k e t : TypeId} {w w' : World} {b : Nat} {l : AL K}
theorem Mk.of {n : Nat} (h : w.ownsMap P k hR b n (.map (enc C l))) (hl : ∀ p ∈ l, C.ok p.1) : Mk C P k w b l := by
  refine ⟨?_, hl⟩
  obtain ⟨es, clock, h1, h2, h3, h4⟩ := h
  refine ⟨es, clock, h1, h2, ?_, h4⟩
  rw [DataW.map.injEq] at h4
  have : (enc C l).length = es.size := by rw [h4, length_sorted]; simp
  unfold enc at this
  rw [List.length_map] at this
  omega
theorem Mk.made (w : World) : Mk C P k (w.alloc (.map #[] 0)) w.heap.size [] := ⟨World.ownsMap_made _ _ _ _, fun _ h => (by cases h)⟩
theorem Mk.lt (h : Mk C P k w b l) : b < w.heap.size := World.ownsMap.lt h.own
theorem Mk.block (h : Mk C P k w b l) : ∃ es clock, w.heap[b]? = some (.map es clock) := by obtain ⟨es, clock, h1, _⟩ := h.own; exact ⟨es, clock, h1⟩
theorem Mk.same (h : Mk C P k w b l) (hb : w'.heap[b]? = w.heap[b]?) : Mk C P k w' b l := by
  obtain ⟨⟨es, clock, h1, h2⟩, hl⟩ := h
  exact ⟨⟨es, clock, hb.trans h1, h2⟩, hl⟩
theorem Mk.alloc (h : Mk C P k w b l) (o : Obj) : Mk C P k (w.alloc o) b l := h.same (Below.heap_alloc w o b h.lt)
theorem Mk.drewN (h : Mk C P k w b l) (m : Nat) : Mk C P k (w.drewN m) b l := h.same rfl
theorem held_inv {v : Value} {d : DataW Value} {ps : List MemPlace} (h : hR v = some (d, ps)) : d = .held v := by
  unfold hR at h; injection h with h; injection h with h1 h2; exact h1.symm
theorem at_getD (l : AL K) (hl : ∀ p ∈ l, C.ok p.1) (x : K) (hx : C.ok x) (z : Value) : (DataW.map (enc C l)).atKey (C.lit x) (.held z) = .held ((get l x).getD z) := by
  rw [at_enc l hl x hx]; cases get l x <;> rfl
variable (KL : Keyed P k) (hkv : ∀ x, C.ok x → keyOf P k (C.val x) = some (C.lit x))
include KL hkv
theorem Mk.look_ok (h : Mk C P k w b l) (ht : P.underlying t = some (.map k e)) {z : Value} (hz : (zeroValue e).run P w = .ok z w) {x : K} (hx : C.ok x) :
    (Instr.lookup t (.map (some b)) (C.val x) true).run P w = .ok (.tuple #[(get l x).getD z, .bool (get l x).isSome]) w := by
  obtain ⟨v, ps, hrun, hv⟩ := World.ownsMap.look_ok h.own KL ht hz (zd := .held z) (zp := []) rfl (hkv x hx)
  have := held_inv hv
  rw [at_getD l h.ok x hx] at this
  injection this with this
  rw [hrun, ← this, has_enc l h.ok x hx]
theorem Mk.look (h : Mk C P k w b l) (ht : P.underlying t = some (.map k e)) {z : Value} (hz : (zeroValue e).run P w = .ok z w) {x : K} (hx : C.ok x) :
    (Instr.lookup t (.map (some b)) (C.val x) false).run P w = .ok ((get l x).getD z) w := by
  obtain ⟨v, ps, hrun, hv⟩ := World.ownsMap.lookup h.own KL ht hz (zd := .held z) (zp := []) rfl (hkv x hx)
  have := held_inv hv
  rw [at_getD l h.ok x hx] at this
  injection this with this
  rw [hrun, ← this]
theorem Mk.store (h : Mk C P k w b l) (ht : P.underlying t = some (.map k e)) (hn : l.length < maxLen) {x : K} (hx : C.ok x) (v : Value) :
    ∃ w', (Instr.mapUpdate t (.map (some b)) (C.val x) v).run P w = .ok () w' ∧ Mk C P k w' b (put C l x v) ∧ w.grownBy w' (some b) ∧ w'.heap.size = w.heap.size := by
  obtain ⟨w', hrun, h1, h2⟩ := World.ownsMap.store h.own KL ht hn (hkv x hx) (val := v) (d := .held v) (ps := []) rfl
  rw [put_enc l h.ok x hx] at h1
  refine ⟨w', hrun, Mk.of h1 (ok_put h.ok hx v), h2.grown, ?_⟩
  obtain ⟨_, _, es'', clock'', _, rfl⟩ := h2
  simp [Go.ChangeMaps.setBlock]
theorem Mk.drop (h : Mk C P k w b l) (ht : P.underlying t = some (.map k e)) {x : K} (hx : C.ok x) (ty : TypeId) :
    ∃ w', (Builtin.delete_ #[t, k] ty #[.map (some b), C.val x]).run P w = .ok (.tuple #[]) w' ∧ Mk C P k w' b (del l x) ∧ w.grownBy w' (some b) ∧ w'.heap.size = w.heap.size := by
  obtain ⟨w', hrun, h1, h2⟩ := World.ownsMap.drop h.own KL ht (hkv x hx) ty
  rw [del_enc l h.ok x hx] at h1
  refine ⟨w', hrun, Mk.of h1 (ok_del h.ok x), h2.grown, ?_⟩
  obtain ⟨_, _, es'', clock'', _, rfl⟩ := h2
  simp [Go.ChangeMaps.setBlock]
/-- The two halves of a store at a key that is there: the first leaves all as it is and hands a stamp; the second is the store. -/
theorem Mk.entry (h : Mk C P k w b l) (ht : P.underlying t = some (.map k e)) {z : Value} (hz : (zeroValue e).run P w = .ok z w) {x : K} (hx : C.ok x) {v0 : Value} (hin : get l x = some v0) :
    ∃ st, (Instr.mapEntry t (.map (some b)) (C.val x)).run P w = .ok (.tuple #[v0, goInt st]) w ∧
      ∀ val, (Instr.entryStore t (.map (some b)) (goInt st) val).run P w = (Instr.mapUpdate t (.map (some b)) (C.val x) val).run P w := by
  have hlook := Mk.look_ok KL hkv h ht hz hx
  rw [hin] at hlook
  obtain ⟨⟨es, clock, hb, F, h3, h4⟩, _⟩ := h
  obtain ⟨s1, s2, _⟩ := F.stamped
  have hkey := hkv x hx
  rcases KL.find w hkey es.toList F.keys with ⟨h1, h2⟩ | ⟨j, e0, h1, h2, h3⟩
  · simp [Instr.lookup, run_underlying ht, MapKept.run_getObj_map hb, KL.check w _ hkey, h1, hz, Result.andThen] at hlook
  · have hj : es[j]? = some e0 := by simpa using h2
    have hv : e0.val = v0 := by
      simp [Instr.lookup, run_underlying ht, MapKept.run_getObj_map hb, KL.check w _ hkey, h1, hz, Result.andThen] at hlook
      exact hlook
    have hsame : es.modify j (fun e => { e with key := C.val x }) = es := by
      apply Array.ext'
      rw [Array.toList_modify, ChangeMaps.modify_eq_set _ _ _ _ h2]
      have : ({ e0 with key := C.val x } : MapEntry) = e0 := by rw [← h3]
      rw [this]
      exact WideElems.set_self _ _ _ h2
    have hset : Go.ChangeMaps.setBlock w b (.map es clock) = w := setBlock_self hb
    refine ⟨e0.born, ?_, fun val => ?_⟩
    · simp [Instr.mapEntry, run_underlying ht, MapKept.run_getObj_map hb, KL.check w false hkey, h1, hj, h3, KL.stays w hkey, hsame, MapKept.run_setObj_map _ hb, Result.andThen, hv]
      exact hset
    · have hidx : es.findIdx? (fun e => ((e.born : Nat) : Int) == ((e0.born : Nat) : Int)) = some j := by
        rw [WideElems.findIdx_arr]
        exact WideElems.findIdx_born s2 h2
      have hmod : es.modify j (fun e => { e with val := val }) = es.modify j (fun e' => { e' with key := C.val x, val := val }) := by
        apply Array.ext'
        rw [Array.toList_modify, Array.toList_modify, ChangeMaps.modify_eq_set _ _ _ _ h2, ChangeMaps.modify_eq_set _ _ _ _ h2, ← h3]
      simp [Instr.entryStore, Instr.mapUpdate, run_underlying ht, MapKept.run_getObj_map hb, KL.check w false hkey, h1, hj, h3, KL.stays w hkey, asInt, asIntOf, goInt, hidx, hmod, MapKept.run_setObj_map _ hb, Result.andThen]
end

/-! ### at the operation -/
section
variable {K : Type} [DecidableEq K] {C : Codec K} {P : Program} {k e t : TypeId} {b : Nat} {l : AL K} (KL : Keyed P k) (hkv : ∀ x, C.ok x → keyOf P k (C.val x) = some (C.lit x))
  (w : World) {ops : Array Oper} {rest : List Oper} {o : Oper} {a : Act} {Q : Exit → Act → World → Prop}
include KL hkv
theorem wp_store (hg : o.guard = none) (m x v : Operand) (t : TypeId) (hop : o.op = Op.mapUpdate t m x v) (ht : P.underlying t = some (.map k e))
    (hm : a.eval m = .map (some b)) (hown : Mk C P k w b l) (hn : l.length < maxLen) (y : K) (hx : a.eval x = C.val y) (hy : C.ok y) (u : Value) (hv : a.eval v = u)
    (hK : ∀ w', Mk C P k w' b (put C l y u) → w.grownBy w' (some b) → w'.heap.size = w.heap.size → wpList P ops Q rest (a.put o.dst undef) w') : wpList P ops Q (o :: rest) a w := by
  refine wpList_plain hg fun K' hK' => ?_
  obtain ⟨w', hrun, h1, h2, h3⟩ := hown.store KL hkv ht hn hy u
  unfold Oper.wp
  simp [execOp, hop, hm, hx, hv, hrun, Result.andThen]
  exact hK' _ _ (hK w' h1 h2 h3)
theorem wp_del (hg : o.guard = none) (m x : Operand) (t : TypeId) (hop : o.op = Op.call { callee := Callee.builtin Builtin.delete, args := #[m, x], argTypes := #[t, k] }) (ht : P.underlying t = some (.map k e))
    (hm : a.eval m = .map (some b)) (hown : Mk C P k w b l) (y : K) (hx : a.eval x = C.val y) (hy : C.ok y)
    (hK : ∀ w', Mk C P k w' b (del l y) → w.grownBy w' (some b) → w'.heap.size = w.heap.size → wpList P ops Q rest (a.put o.dst (.tuple #[])) w') : wpList P ops Q (o :: rest) a w := by
  refine wpList_plain hg fun K' hK' => ?_
  obtain ⟨w', hrun, h1, h2, h3⟩ := hown.drop KL hkv ht hy o.type
  unfold Oper.wp
  simp [execOp, hop, resolve, invoke, builtin, hm, hx, hrun, Result.andThen]
  exact hK' _ _ (hK w' h1 h2 h3)
end

/-! ### the lists -/
section
variable {K : Type} [DecidableEq K] {C : Codec K}
theorem get_nil (x : K) : get ([] : AL K) x = none := rfl
theorem get_cons (p : K × Value) (l : AL K) (x : K) : get (p :: l) x = if p.1 = x then some p.2 else get l x := by
  unfold get
  rw [List.find?_cons]
  by_cases h : p.1 = x
  · rw [if_pos h, show decide (p.1 = x) = true by simpa using h]; rfl
  · rw [if_neg h, show decide (p.1 = x) = false by simpa using h]
theorem get_del (l : AL K) (x y : K) : get (del l x) y = if y = x then none else get l y := by
  unfold del
  induction l with
  | nil => simp [get_nil]
  | cons p r ih =>
    rw [List.filter_cons]
    by_cases h : p.1 = x
    · rw [if_neg (by simp [h]), ih, get_cons]
      by_cases hy : y = x
      · rw [if_pos hy, if_pos hy]
      · rw [if_neg hy, if_neg hy, if_neg (fun e => hy (e.symm.trans h))]
    · rw [if_pos (by simp [h]), get_cons, get_cons, ih]
      by_cases hy : p.1 = y
      · rw [if_pos hy, if_pos hy, if_neg (fun e => h (hy.trans e))]
      · rw [if_neg hy, if_neg hy]
theorem get_ins (x : K) (v : Value) (l : AL K) (hl : get l x = none) (y : K) : get (ins C (x, v) l) y = if y = x then some v else get l y := by
  induction l with
  | nil => unfold ins; rw [get_cons, get_nil]; simp only [eq_comm]
  | cons p r ih =>
    rw [get_cons] at hl
    by_cases hp : p.1 = x
    · rw [if_pos hp] at hl; cases hl
    · rw [if_neg hp] at hl
      unfold ins
      split
      · rw [get_cons]
        by_cases h : y = x
        · rw [if_pos h.symm, if_pos h]
        · rw [if_neg (Ne.symm h), if_neg h]
      · rw [get_cons, ih hl, get_cons]
        by_cases h : p.1 = y
        · rw [if_pos h, if_pos h, if_neg (fun e => hp (h.trans e))]
        · rw [if_neg h, if_neg h]
theorem get_put (l : AL K) (x : K) (v : Value) (y : K) : get (put C l x v) y = if y = x then some v else get l y := by
  unfold put
  rw [get_ins x v _ (by rw [get_del, if_pos rfl]), get_del]
  by_cases h : y = x
  · rw [if_pos h, if_pos h]
  · rw [if_neg h, if_neg h, if_neg h]
theorem get_isSome {l : AL K} {p : K × Value} (h : p ∈ l) : (get l p.1).isSome = true := by
  unfold get
  rw [Option.isSome_map, List.find?_isSome]
  exact ⟨p, h, by simp⟩
theorem Mk.nodup {P : Program} {k : TypeId} {w : World} {b : Nat} {l : AL K} (h : Mk C P k w b l) (KL : Keyed P k) : (l.map (·.1)).Nodup := by
  obtain ⟨es, he, hp, _⟩ := World.ownsMap.canon h.own KL
  rw [DataW.map.injEq] at he
  rw [← he] at hp
  unfold enc at hp
  rw [List.pairwise_map] at hp
  unfold List.Nodup
  rw [List.pairwise_map]
  exact hp.imp fun {a b} hab e => by
    simp only at hab
    rw [e, WideShapes.before_irrefl] at hab
    cases hab
end
end Go.Proofs.YtjmdgicdpggljaaGreat.MapG

/- The core's functions as plain Lean: lists in the order of keys, numbers, no memory; 'none' where the program would end in a panic, or a number would leave its bounds. -/
namespace Go.Proofs.YtjmdgicdpggljaaGreat.GH
open Go.Proofs.YtjmdgicdpggljaaGreat.Histo (S)
set_option linter.unusedVariables false
open Go.Proofs.YtjmdgicdpggljaaGreat.Policy (Win win)

/-! ### maps keyed by numbers -/
abbrev FM (α : Type) := List (Int × α)
namespace FM
variable {α : Type}
def get (l : FM α) (k : Int) : Option α := (l.find? fun p => p.1 == k).map (·.2)
def ins (p : Int × α) : FM α → FM α
  | [] => [p]
  | q :: r => if p.1 < q.1 then p :: q :: r else q :: ins p r
def del (l : FM α) (k : Int) : FM α := l.filter fun p => p.1 != k
def put (l : FM α) (k : Int) (a : α) : FM α := ins (k, a) (del l k)
def keys (l : FM α) : List Int := l.map (·.1)
end FM

/-! ### heaps -/
section
variable {K V : Type} [BEq K] [Inhabited K] [Inhabited V]
abbrev HL (K V : Type) := List (K × V)
def hkey (xs : HL K V) (i : Nat) : K := (xs.getD i default).1
def hval (xs : HL K V) (i : Nat) : V := (xs.getD i default).2
def hswap (xs : HL K V) (i j : Nat) : HL K V := (xs.set i (xs.getD j default)).set j (xs.getD i default)
def hup (lt : V → V → Bool) : Nat → HL K V → Nat → HL K V × Nat
  | 0, xs, i => (xs, i)
  | n + 1, xs, i => if 0 < i ∧ lt (hval xs i) (hval xs ((i - 1) / 2)) = true then hup lt n (hswap xs i ((i - 1) / 2)) ((i - 1) / 2) else (xs, i)
def hpick (lt : V → V → Bool) (xs : HL K V) (m c : Nat) : Nat := if c < xs.length ∧ lt (hval xs c) (hval xs m) = true then c else m
def hleast (lt : V → V → Bool) (xs : HL K V) (i : Nat) : Nat := hpick lt xs (hpick lt xs i (2 * i + 1)) (2 * i + 2)
def hdown (lt : V → V → Bool) : Nat → HL K V → Nat → HL K V
  | 0, xs, _ => xs
  | n + 1, xs, i => if hleast lt xs i = i then xs else hdown lt n (hswap xs i (hleast lt xs i)) (hleast lt xs i)
def hfix (lt : V → V → Bool) (xs : HL K V) (i : Nat) : HL K V :=
  if (hup lt i xs i).2 = i then hdown lt xs.length (hup lt i xs i).1 i else (hup lt i xs i).1
def hidx (xs : HL K V) (k : K) : Option Nat := xs.findIdx? fun p => p.1 == k
def hset (lt : V → V → Bool) (xs : HL K V) (k : K) (v : V) : HL K V :=
  match hidx xs k with
  | none => hfix lt (xs ++ [(k, v)]) xs.length
  | some i => hfix lt (xs.set i (hkey xs i, v)) i
def hcut (xs : HL K V) (i : Nat) : HL K V := (hswap xs i (xs.length - 1)).take (xs.length - 1)
def hdrop (lt : V → V → Bool) (xs : HL K V) (k : K) : HL K V :=
  match hidx xs k with
  | none => xs
  | some i => if i < xs.length - 1 then hfix lt (hcut xs i) i else hcut xs i
def hget (xs : HL K V) (k : K) : Option V := (hidx xs k).map (hval xs)
end

/-! ### the parts -/
structure Box where
  id : Int
  fn : Int
  host : Int
  mem : Int
  st : Int
  bound : Bool
  pinned : Bool
  since : Int
def Box.runs (b : Box) : Bool := b.st == 2 || (b.st == 0 && b.bound)
def Box.idle (b : Box) : Bool := b.st == 1
def Box.call (b : Box) (now : Int) : Box := if b.st = 1 then { b with st := 2, since := now } else if b.st = 0 ∧ b.bound = false then { b with bound := true } else b
def Box.callOk (b : Box) : Bool := b.st == 1 || (b.st == 0 && !b.bound)
def Box.booted (b : Box) (now : Int) : Box := if b.bound then { b with st := 2, bound := false, since := now } else { b with st := 1, since := now }
def Box.dead (b : Box) (now : Int) : Box := if b.st = 3 then b else { b with st := 3, bound := false, pinned := false, since := now }

structure Mach where
  there : Bool
  drain : Bool
  size : Int
  used : Int
def Mach.none : Mach := ⟨false, false, 0, 0⟩
abbrev Hosts := List Mach
namespace Hosts
def at_ (s : Hosts) (h : Int) : Mach := s.getD h.toNat Mach.none
def ok (h : Int) : Bool := decide (0 ≤ h) && decide (h < 32)
def there (s : Hosts) (h : Int) : Bool := ok h && (at_ s h).there
def up (s : Hosts) (h : Int) : Bool := there s h && !(at_ s h).drain
def free (s : Hosts) (h : Int) : Int := if there s h = true then (at_ s h).size - (at_ s h).used else 0
def put (s : Hosts) (h : Int) (m : Mach) : Hosts := s.set h.toNat m
def sweep (s : Hosts) (h : Int) : Hosts := if (at_ s h).drain = true ∧ (at_ s h).used = 0 then put s h Mach.none else s
def add (s : Hosts) (h size : Int) : Int × Hosts :=
  if h < 0 ∨ 32 ≤ h ∨ size < 1 ∨ 4096 < size then (1, s) else if (at_ s h).there = true then (3, s) else (0, put s h ⟨true, false, size, 0⟩)
def drain (s : Hosts) (h : Int) : Int × Hosts :=
  if there s h = false then (2, s) else if (at_ s h).drain = true then (3, s) else (0, sweep (put s h { at_ s h with drain := true }) h)
def fail (s : Hosts) (h : Int) : Hosts := if there s h = false then s else put s h Mach.none
def takes (s : Hosts) (h mem : Int) : Bool := up s h && decide (0 ≤ mem) && decide (mem ≤ free s h)
def take (s : Hosts) (h mem : Int) : Hosts := if takes s h mem = true then put s h { at_ s h with used := (at_ s h).used + mem } else s
def gives (s : Hosts) (h mem : Int) : Bool := there s h && decide (0 ≤ mem) && decide (mem ≤ (at_ s h).used)
def give (s : Hosts) (h mem : Int) : Hosts := if gives s h mem = true then sweep (put s h { at_ s h with used := (at_ s h).used - mem }) h else s
def better (s : Hosts) (mem : Int) (best : Int) (h : Nat) : Int :=
  if up s h = true ∧ 0 ≤ mem ∧ mem ≤ free s h ∧ (best < 0 ∨ free s h < free s best) then h else best
def fitTo (s : Hosts) (mem : Int) : Nat → Int
  | 0 => -1
  | k + 1 => better s mem (fitTo s mem k) k
def fit (s : Hosts) (mem : Int) : Int := fitTo s mem 32
end Hosts

structure QF where
  there : Bool
  acc : Int
  res : Int
  busy : Int
structure QA where
  there : Bool
  lim : Int
structure Quota where
  acs : List QA
  fs : List QF
namespace Quota
def a (q : Quota) (k : Int) : QA := q.acs.getD k.toNat ⟨false, 0⟩
def f (q : Quota) (k : Int) : QF := q.fs.getD k.toNat ⟨false, 0, 0, 0⟩
def sumBy (g : QF → Int) (x : Int) : List QF → Int
  | [] => 0
  | y :: r => (if y.there = true ∧ y.acc = x then g y else 0) + sumBy g x r
def res (q : Quota) (x : Int) : Int := sumBy (·.res) x q.fs
def busy (q : Quota) (x : Int) : Int := sumBy (·.busy) x q.fs
def open_ (q : Quota) (x : Int) : Int := sumBy (fun y => if y.res = 0 then y.busy else 0) x q.fs
def setAccount (q : Quota) (x lim : Int) : Int × Quota :=
  if x < 0 ∨ 16 ≤ x ∨ lim < 0 ∨ 1000 < lim then (1, q) else if lim < q.res x then (4, q) else (0, { q with acs := q.acs.set x.toNat ⟨true, lim⟩ })
def setFunc (q : Quota) (k x r : Int) : Int × Quota :=
  if k < 0 ∨ 64 ≤ k ∨ x < 0 ∨ 16 ≤ x ∨ r < 0 ∨ 1000 < r then (1, q)
  else if (q.a x).there = false then (2, q)
  else if (q.f k).there = true ∧ (q.f k).acc ≠ x then (3, q)
  else if (q.a x).lim < q.res x - (q.f k).res + r then (4, q)
  else (0, { q with fs := q.fs.set k.toNat { q.f k with there := true, acc := x, res := r } })
def known (q : Quota) (k : Int) : Bool := decide (0 ≤ k) && decide (k < 64) && (q.f k).there
/-- 0: it may; 1: the function's are all used; 2: the account's; -1: there is no such function. -/
def ask (q : Quota) (k : Int) : Int :=
  if q.known k = false then -1
  else if 0 < (q.f k).res ∧ (q.f k).res ≤ (q.f k).busy then 1
  else if (q.a (q.f k).acc).lim ≤ q.busy (q.f k).acc ∨ ((q.f k).res = 0 ∧ (q.a (q.f k).acc).lim - q.res (q.f k).acc ≤ q.open_ (q.f k).acc) then 2
  else 0
def begin (q : Quota) (k : Int) : Quota := if q.ask k = 0 then { q with fs := q.fs.set k.toNat { q.f k with busy := (q.f k).busy + 1 } } else q
def fin (q : Quota) (k : Int) : Quota := if q.known k = true ∧ (q.f k).busy ≠ 0 then { q with fs := q.fs.set k.toNat { q.f k with busy := (q.f k).busy - 1 } } else q
def busyOf (q : Quota) (k : Int) : Int := if q.known k = true then (q.f k).busy else 0
def none : Quota := ⟨List.replicate 16 ⟨false, 0⟩, List.replicate 64 ⟨false, 0, 0, 0⟩⟩
end Quota

structure Bkt where
  size : Int
  refill : Int
  tok : Int
namespace Bkt
def bd (n : Int) : Int := max 0 (min n 1000)
def new (s r : Int) : Bkt := ⟨bd s, bd r, bd s⟩
def set_ (b : Bkt) (s r : Int) : Bkt := ⟨bd s, bd r, min b.tok (bd s)⟩
def take (b : Bkt) : Bkt := if b.tok = 0 then b else { b with tok := b.tok - 1 }
def tick (b : Bkt) : Bkt := { b with tok := min (b.tok + b.refill) b.size }
end Bkt

structure Fn where
  acc : Int
  mem : Int
  cost : Int
  keep : Int
  often : Int
  last : Int
  til : Int
  hist : S
  ring : List Int

/-- What a sandbox is worth. -/
structure Mark where
  num : Nat
  den : Nat
  id : Int
deriving Inhabited
def Mark.lt (a b : Mark) : Bool := decide (a.num * b.den < b.num * a.den) || (a.num * b.den == b.num * a.den && decide (a.id < b.id))
structure Cache where
  items : HL Int Mark
  clock : Nat
namespace Cache
def set_ (c : Cache) (id : Int) (often cost mem : Nat) : Cache :=
  if c.clock * mem < 18446744073709551616 ∧ c.clock * mem + often * cost < 18446744073709551616 ∧ mem ≠ 0 then { c with items := hset Mark.lt c.items id ⟨c.clock * mem + often * cost, mem, id⟩ } else c
def drop (c : Cache) (id : Int) : Cache := { c with items := hdrop Mark.lt c.items id }
def evict (c : Cache) : Cache := if c.items = [] then c else ⟨hdrop Mark.lt c.items (hkey c.items 0), max c.clock (if (hval c.items 0).den = 0 then 0 else (hval c.items 0).num / (hval c.items 0).den)⟩
def least (c : Cache) : Int := if c.items = [] then 0 else hkey c.items 0
end Cache

structure TKey where
  kind : Int
  id : Int
deriving DecidableEq, Inhabited
structure TMark where
  at_ : Int
  key : TKey
deriving Inhabited
def TMark.lt (a b : TMark) : Bool := decide (a.at_ < b.at_) || (a.at_ == b.at_ && (decide (a.key.kind < b.key.kind) || (a.key.kind == b.key.kind && decide (a.key.id < b.key.id))))
abbrev Timers := HL TKey TMark
namespace Timers
def set_ (t : Timers) (k : TKey) (x : Int) : Timers := hset TMark.lt t k ⟨x, k⟩
def drop (t : Timers) (k : TKey) : Timers := hdrop TMark.lt t k
def at_ (t : Timers) (k : TKey) : Option Int := (hget t k).map (·.at_)
/-- The key whose time comes first, if that is no later. -/
def due (t : Timers) (now : Int) : Option TKey := if t = [] ∨ now < (hval t 0).at_ then none else some (hkey t 0)
end Timers

structure Cmd where
  boot : Bool
  box : Int
  fn : Int
  host : Int
deriving DecidableEq, Inhabited
structure Core where
  now : Int
  next : Int
  quota : Quota
  toks : FM Bkt
  fns : FM Fn
  hosts : Hosts
  caches : FM (Option Cache)
  boxes : FM Box
  til : FM Int
  timers : Timers
  out : List Cmd
  ans : List Int

/-! ### the core -/
namespace Core
def new : Core := ⟨0, 1, Quota.none, [], [], List.replicate 32 Mach.none, [], [], [], [], [], [0, 0, 0, 0, 0]⟩
def cache (s : Core) (h : Int) : Cache := match FM.get s.caches h with | some (some c) => c | _ => ⟨[], 0⟩
def setCache (s : Core) (h : Int) (c : Cache) : Core := { s with caches := FM.put s.caches h (some c) }
def where_ (s : Core) (p : Box → Bool) : List Int := (s.boxes.filter fun x => p x.2).map (·.1)
def setBox (s : Core) (b : Box) : Core := { s with boxes := FM.put s.boxes b.id b }
/-- 'take': a sandbox that doesn't go by itself any more. -/
def take (s : Core) (b : Box) : Core := { (s.setCache b.host ((s.cache b.host).drop b.id)) with timers := s.timers.drop ⟨0, b.id⟩ }
def gone (s : Core) (b : Box) : Option Core :=
  let s1 := s.take b
  if b.runs = true then
    match FM.get s1.fns b.fn with
    | none => none
    | some x => some { s1 with quota := s1.quota.fin b.fn, fns := FM.put s1.fns b.fn { x with last := s1.now }, hosts := s1.hosts.give b.host b.mem, boxes := FM.del s1.boxes b.id, til := FM.del s1.til b.id }
  else some { s1 with hosts := s1.hosts.give b.host b.mem, boxes := FM.del s1.boxes b.id, til := FM.del s1.til b.id }
def kill (s : Core) (b : Box) : Option Core := (s.gone b).map fun t => { t with out := t.out ++ [⟨false, b.id, b.fn, b.host⟩] }
def idle (s : Core) (b : Box) (fin : Int) : Option Core :=
  if fin ≤ s.now then s.kill b
  else match FM.get s.fns b.fn with
    | none => none
    | some x => if (s.cache b.host).items.length < 1099511627776 ∧ s.timers.length < 1099511627776 then some { (s.setCache b.host ((s.cache b.host).set_ b.id x.often.toNat x.cost.toNat x.mem.toNat)) with timers := s.timers.set_ ⟨0, b.id⟩ fin } else none
noncomputable def window (s : Core) (f : Int) : Option Win := (FM.get s.fns f).map fun x => win x.hist x.ring
def boot (f h id mem now : Int) : Box := ⟨id, f, h, mem, 0, false, false, now⟩
def start (s : Core) (f h : Int) : Option (Core × Box) :=
  match FM.get s.fns f with
  | none => none
  | some x => if s.next < 1099511627776 then some ({ s with hosts := s.hosts.take h x.mem, next := s.next + 1, boxes := FM.put s.boxes s.next (boot f h s.next x.mem s.now), out := s.out ++ [⟨true, s.next, f, h⟩] }, boot f h s.next x.mem s.now) else none
def idles (s : Core) (h : Int) : Int := ((s.boxes.filter fun x => x.2.host == h && x.2.idle && !x.2.pinned).map fun x => x.2.mem).sum
def evicts : Nat → Core → Int → Int → Option Core
  | 0, _, _, _ => none
  | n + 1, s, h, mem =>
    if s.hosts.free h < mem then
      match FM.get s.boxes (s.cache h).least with
      | none => none
      | some b => match (s.setCache h (s.cache h).evict).kill b with
        | none => none
        | some t => evicts n t h mem
    else some s
/-- From which host on; how many hosts are left. -/
def rooms : Nat → Core → Int → Int → Option (Core × Int)
  | 0, s, _, _ => some (s, -1)
  | n + 1, s, mem, h =>
    if s.hosts.up h = false ∨ s.hosts.free h + s.idles h < mem then rooms n s mem (h + 1)
    else match evicts (s.boxes.length + 1) s h mem with
      | none => none
      | some t => some (t, h)
def room (s : Core) (mem : Int) : Option (Core × Int) := if 0 ≤ s.hosts.fit mem then some (s, s.hosts.fit mem) else rooms 32 s mem 0
def pinned (s : Core) (f : Int) : List Int := s.where_ fun b => b.fn == f && b.pinned
def spareOf (s : Core) (f st : Int) : Option Box := (s.boxes.find? fun x => x.2.fn == f && !x.2.pinned && x.2.st == st && s.hosts.up x.2.host).map (·.2)
def spare (s : Core) (f : Int) : Option Box :=
  match s.spareOf f 1 with
  | some b => some b
  | none => match s.spareOf f 0 with
    | some b => some b
    | none => s.spareOf f 2
noncomputable def unpin (f : Int) : List Int → Core → Option Core
  | [], s => some s
  | id :: r, s =>
    match FM.get s.boxes id with
    | none => none
    | some b =>
      if b.idle = true then
        match s.window f with
        | none => none
        | some w => match (s.setBox { b with pinned := false }).idle { b with pinned := false } (s.now + w.fin) with
          | none => none
          | some t => unpin f r t
      else unpin f r (s.setBox { b with pinned := false })
def pinBox (s : Core) (b : Box) : Core := (s.take b).setBox { b with pinned := true }
def pins (f : Int) : Nat → Core → Option Core
  | 0, s => some s
  | n + 1, s =>
    match s.spare f with
    | some b => pins f n (s.pinBox b)
    | none => match FM.get s.fns f with
      | none => none
      | some x => match s.room x.mem with
        | none => none
        | some (t, h) => if h < 0 then some t else match t.start f h with
          | none => none
          | some (u, b) => pins f n (u.pinBox b)
noncomputable def keep (s : Core) (f : Int) : Option Core :=
  match FM.get s.fns f with
  | none => none
  | some x => match unpin f ((s.pinned f).drop x.keep.toNat).reverse s with
    | none => none
    | some t => pins f (x.keep.toNat - (t.pinned f).length) t
noncomputable def keeps : List Int → Core → Option Core
  | [], s => some s
  | f :: r, s => match s.keep f with
    | none => none
    | some t => keeps r t
noncomputable def keepAll (s : Core) : Option Core := keeps (FM.keys s.fns) s
def ahead (s : Core) (f : Int) : Option Core :=
  match FM.get s.fns f with
  | none => none
  | some x => if (s.where_ fun b => b.fn == f) ≠ [] ∨ s.hosts.fit x.mem < 0 then some s
    else match s.start f (s.hosts.fit x.mem) with
      | none => none
      | some (t, b) => match FM.get t.fns f with
        | none => none
        | some y => some { t with til := FM.put t.til b.id y.til }
def due : Nat → Core → Option Core
  | 0, _ => none
  | n + 1, s =>
    match s.timers.due s.now with
    | none => some s
    | some k =>
      let s1 : Core := { s with timers := s.timers.drop k }
      if k.kind = 0 then
        match FM.get s1.boxes k.id with
        | none => none
        | some b => match s1.kill b with
          | none => none
          | some t => due n t
      else match s1.ahead k.id with
        | none => none
        | some t => due n t
noncomputable def tick (s : Core) : Option Core :=
  if s.now = 1099511627776 then some s
  else match due (s.timers.length + 1) { s with now := s.now + 1, toks := s.toks.map fun p => (p.1, p.2.tick) } with
    | none => none
    | some t => t.keepAll
end Core
namespace Core
open Go.Proofs.YtjmdgicdpggljaaGreat.Event (Ev)
def account (s : Core) (e : Ev) : Int × Core :=
  if 1000 < e.size ∨ 1000 < e.refill then (1, s)
  else if (s.quota.setAccount e.n e.limit).1 ≠ 0 then ((s.quota.setAccount e.n e.limit).1, s)
  else (0, { s with quota := (s.quota.setAccount e.n e.limit).2, toks := match FM.get s.toks e.n with
    | some b => FM.put s.toks e.n (b.set_ e.size e.refill)
    | none => FM.put s.toks e.n (Bkt.new e.size e.refill) })
def function1 (s : Core) (e : Ev) : Int × Core :=
  if 64 ≤ e.n ∨ 16 ≤ e.acct ∨ 1000 < e.res ∨ 1000 < e.keep ∨ e.mem < 1 ∨ 4096 < e.mem ∨ e.cost < 1 ∨ 1000 < e.cost then (1, s)
  else if (FM.get s.toks e.acct).isSome = false then (2, s)
  else if (match FM.get s.fns e.n with | some x => x.acc != e.acct || x.mem != e.mem | none => false) = true then (3, s)
  else if 0 < e.res ∧ e.res < e.keep then (4, s)
  else if (s.quota.setFunc e.n e.acct e.res).1 ≠ 0 then ((s.quota.setFunc e.n e.acct e.res).1, s)
  else (0, { s with quota := (s.quota.setFunc e.n e.acct e.res).2, fns := match FM.get s.fns e.n with
    | some x => FM.put s.fns e.n { x with cost := e.cost, keep := e.keep }
    | none => FM.put s.fns e.n ⟨e.acct, e.mem, e.cost, e.keep, 0, -1, 0, S.empty, []⟩ })
noncomputable def function (s : Core) (e : Ev) : Option (Int × Core) :=
  if (s.function1 e).1 ≠ 0 then some (s.function1 e) else match (s.function1 e).2.keep e.n with
    | none => none
    | some t => some (0, t)
def on (s : Core) (h : Int) : List Int := s.where_ fun b => b.host == h
def drains : List Int → Core → Option Core
  | [], s => some s
  | id :: r, s => match FM.get s.boxes id with
    | none => none
    | some b => if b.runs = true then drains r (s.setBox { b with pinned := false }) else match s.kill b with
      | none => none
      | some t => drains r t
noncomputable def drain (s : Core) (h : Int) : Option (Int × Core) :=
  if (s.hosts.drain h).1 ≠ 0 then some ((s.hosts.drain h).1, s)
  else match drains (s.on h) { s with hosts := (s.hosts.drain h).2 } with
    | none => none
    | some t => t.keepAll.map fun u => (0, u)
def fails : List Int → Core → Option Core
  | [], s => some s
  | id :: r, s => match FM.get s.boxes id with
    | none => none
    | some b => match s.gone b with
      | none => none
      | some t => fails r t
noncomputable def fail (s : Core) (h : Int) : Option (Int × Core) :=
  if s.hosts.there h = false then some (2, s)
  else match fails (s.on h) s with
    | none => none
    | some t => ({ t with hosts := t.hosts.fail h } : Core).keepAll.map fun u => (0, u)
noncomputable def host (s : Core) (h size : Int) : Option (Int × Core) :=
  if (s.hosts.add h size).1 ≠ 0 then some ((s.hosts.add h size).1, s)
  else ({ s with hosts := (s.hosts.add h size).2, caches := FM.put s.caches h none } : Core).keepAll.map fun u => (0, u)
def last (best : Option Box) (b : Box) : Option Box := match best with
  | none => some b
  | some c => if c.since < b.since then some b else some c
def free (s : Core) (f : Int) : Option Box := ((s.boxes.filter fun x => x.2.fn == f && x.2.idle).map (·.2)).foldl last none
def begin (s : Core) (f : Int) (b : Box) : Option Core :=
  match FM.get s.fns f with
  | none => none
  | some x =>
    let y : Fn := if s.quota.busyOf f = 0 ∧ 0 ≤ x.last then { x with hist := x.hist.add (s.now - x.last), ring := x.ring ++ [s.now - x.last] } else x
    some ((({ s with fns := FM.put s.fns f { y with often := min (x.often + 1) 1000 }, timers := s.timers.drop ⟨1, f⟩, quota := s.quota.begin f } : Core).take b).setBox (b.call s.now))
open Go.Proofs.YtjmdgicdpggljaaGreat.Event (Ans)
def call (s : Core) (f : Int) : Option (Ans × Core) :=
  if s.quota.ask f = -1 then some (⟨1, 0, 0, 2⟩, s)
  else if s.quota.ask f = 1 then some (⟨4, 0, 1, 0⟩, s)
  else if s.quota.ask f = 2 then some (⟨4, 0, 2, 0⟩, s)
  else match FM.get s.fns f with
    | none => none
    | some x => match s.free f with
      | some b => (s.begin f b).map fun t => (⟨2, b.id, 0, 0⟩, t)
      | none => match FM.get s.toks x.acc with
        | none => none
        | some k => if k.tok = 0 then some (⟨4, 0, 3, 0⟩, s) else match s.room x.mem with
          | none => none
          | some (t, h) => if h < 0 then some (⟨4, 0, 4, 0⟩, t) else match ({ t with toks := FM.put t.toks x.acc k.take } : Core).start f h with
            | none => none
            | some (u, b) => (u.begin f b).map fun v => (⟨3, b.id, 0, 0⟩, v)
noncomputable def booted (s : Core) (id : Int) : Option (Int × Core) :=
  match FM.get s.boxes id with
  | none => some (2, s)
  | some b => if b.st ≠ 0 then some (3, s) else
    let s1 := s.setBox (b.booted s.now)
    let s2 : Core := { s1 with til := FM.del s1.til id }
    match (match FM.get s.til id with | some t => some t | none => (s2.window b.fn).map fun w => s2.now + w.fin) with
    | none => none
    | some t => if (b.booted s.now).idle = true ∧ b.pinned = false then (s2.idle (b.booted s.now) t).map fun u => (0, u) else some (0, s2)
noncomputable def broke (s : Core) (id : Int) : Option (Int × Core) :=
  match FM.get s.boxes id with
  | none => some (2, s)
  | some b => match s.gone b with
    | none => none
    | some t => (t.keep b.fn).map fun u => (0, u)
noncomputable def done (s : Core) (id : Int) : Option (Int × Core) :=
  match FM.get s.boxes id with
  | none => some (2, s)
  | some b => if b.st ≠ 2 then some (3, s) else
    match FM.get s.fns b.fn, s.window b.fn with
    | some x, some w =>
      let b1 : Box := { b with st := 1, since := s.now }
      let s1 : Core := { (s.setBox b1) with quota := s.quota.fin b.fn, fns := FM.put s.fns b.fn { x with last := s.now } }
      if s.hosts.up b.host = false then (s1.kill b1).map fun u => (0, u)
      else if b.pinned = true then some (0, s1)
      else if 0 < w.pre then if 1099511627776 ≤ s.timers.length then none else (({ s1 with fns := FM.put s1.fns b.fn { x with last := s.now, til := s.now + w.fin }, timers := s1.timers.set_ ⟨1, b.fn⟩ (s.now + w.pre) } : Core).kill b1).map fun u => (0, u)
      else (s1.idle b1 (s.now + w.fin)).map fun u => (0, u)
    | _, _ => none
def told (r : Option (Int × Core)) : Option (Ans × Core) := r.map fun p => (if p.1 ≠ 0 then ⟨1, 0, 0, p.1⟩ else ⟨0, 0, 0, 0⟩, p.2)
noncomputable def act (s : Core) (e : Ev) : Option (Ans × Core) :=
  if e.k = 0 then told (s.tick.map fun t => (0, t))
  else if e.k = 1 then told (some (s.account e))
  else if e.k = 2 then told (s.function e)
  else if e.k = 3 then told (s.host e.n e.size)
  else if e.k = 4 then told (s.drain e.n)
  else if e.k = 5 then told (s.fail e.n)
  else if e.k = 6 then s.call e.n
  else if e.k = 7 then told (s.booted e.n)
  else if e.k = 8 then told (s.broke e.n)
  else told (s.done e.n)
def count (s : Core) (k : Int) : Core := { s with ans := s.ans.set k.toNat (s.ans.getD k.toNat 0 + 1) }
/-- What happens: the answer, the commands, and what there is then. -/
noncomputable def do_ (s : Core) (e : Ev) : Option (Ans × List Cmd × Core) :=
  if e.right = false then some (⟨1, 0, 0, 1⟩, [], s)
  else match ({ s with out := [] } : Core).act e with
    | none => none
    | some (a, t) => if t.ans.getD a.kind.toNat 0 < 4611686018427387904 then some (a, t.out, t.count a.kind) else none
end Core
end Go.Proofs.YtjmdgicdpggljaaGreat.GH

/- Which block of memory is what: a name for each block of the core's own; what a step leaves as it was; maps keyed by numbers over plain lists. -/
namespace Go.Proofs.YtjmdgicdpggljaaGreat.GH
open Go.RowKit Go.Proofs.YtjmdgicdpggljaaGreat.Histo
set_option linter.unusedVariables false
open Go.Proofs.YtjmdgicdpggljaaGreat.MapI (AL At Rng W64)

/-- What a block is. -/
inductive Tag where
  | none | core | quota | toks | fns | hosts | caches | boxes | til | timers | theap | titems | tat | out
  | tok (a : Int) | fn (f : Int) | hist (f : Int) | ring (f : Int) | cache (h : Int) | heap (h : Int) | items (h : Int) | hat (h : Int) | box (id : Int)
deriving DecidableEq
/-- Where each lies, and what each block is. -/
structure G where
  ad : Tag → Nat
  own : Nat → Tag
/-- A block that is there. -/
structure Lv (w : World) (g : G) (t : Tag) : Prop where
  own : g.own (g.ad t) = t
  lt : g.ad t < w.heap.size
/-- What lies in blocks of other names is as it was. -/
structure Step (T : Tag → Prop) (w : World) (g : G) (w' : World) (g' : G) : Prop where
  os : w'.os = w.os
  tape : w'.tape = w.tape
  output : w'.output = w.output
  size : w.heap.size ≤ w'.heap.size
  own : ∀ p, p < w.heap.size → g'.own p = g.own p
  block : ∀ p, p < w.heap.size → ¬ T (g.own p) → w'.heap[p]? = w.heap[p]?
  ad : ∀ t, ¬ T t → g'.ad t = g.ad t
section
variable {T U : Tag → Prop} {w w' w'' : World} {g g' g'' : G} {t u : Tag}
theorem Step.refl (T : Tag → Prop) (w : World) (g : G) : Step T w g w g := ⟨rfl, rfl, rfl, Nat.le_refl _, fun _ _ => rfl, fun _ _ _ => rfl, fun _ _ => rfl⟩
theorem Step.mono (h : Step T w g w' g') (hTU : ∀ t, T t → U t) : Step U w g w' g' := ⟨h.os, h.tape, h.output, h.size, h.own, fun p hp hn => h.block p hp (fun ht => hn (hTU _ ht)), fun t hn => h.ad t (fun ht => hn (hTU _ ht))⟩
theorem Step.trans (h : Step T w g w' g') (k : Step T w' g' w'' g'') : Step T w g w'' g'' :=
  ⟨k.os.trans h.os, k.tape.trans h.tape, k.output.trans h.output, Nat.le_trans h.size k.size, fun p hp => (k.own p (Nat.lt_of_lt_of_le hp h.size)).trans (h.own p hp),
    fun p hp hn => (k.block p (Nat.lt_of_lt_of_le hp h.size) (by rw [h.own p hp]; exact hn)).trans (h.block p hp hn), fun t hn => (k.ad t hn).trans (h.ad t hn)⟩
theorem Step.drewN (h : Step T w g w' g') (n : Nat) : Step T w g (w'.drewN n) g' := ⟨h.os, h.tape, h.output, h.size, h.own, h.block, h.ad⟩
theorem Step.drew (h : Step T w g w' g') : Step T w g w'.drew g' := ⟨h.os, h.tape, h.output, h.size, h.own, h.block, h.ad⟩
theorem Step.of_below (hb : Below w.heap.size w w') (g : G) (T : Tag → Prop) : Step T w g w' g := ⟨hb.os, hb.tape, hb.output, hb.size, fun _ _ => rfl, fun p hp _ => hb.block p hp, fun _ _ => rfl⟩
theorem Step.of_drewN (w : World) (n : Nat) (g : G) (T : Tag → Prop) : Step T w g (w.drewN n) g := (Step.refl T w g).drewN n
theorem Step.of_grown {r : Option Nat} (hg : w.grownBy w' r) (hr : ∀ k, r = some k → T (g.own k)) : Step T w g w' g :=
  ⟨hg.os, hg.tape, hg.output, hg.size, fun _ _ => rfl, fun p hp hn => hg.block p hp (fun e => hn (hr p e.symm)), fun _ _ => rfl⟩
theorem Lv.step (h : Lv w g t) (st : Step T w g w' g') (hn : ¬ T t) : Lv w' g' t := ⟨by rw [st.ad t hn, st.own _ h.lt]; exact h.own, by rw [st.ad t hn]; exact Nat.lt_of_lt_of_le h.lt st.size⟩
theorem Lv.heap (h : Lv w g t) (st : Step T w g w' g') (hn : ¬ T t) : w'.heap[g'.ad t]? = w.heap[g.ad t]? := by rw [st.ad t hn]; exact st.block _ h.lt (by rw [h.own]; exact hn)
theorem Lv.ne (h : Lv w g t) (k : Lv w g u) (hn : t ≠ u) : g.ad t ≠ g.ad u := fun e => hn (by rw [← h.own, ← k.own, e])
end
def G.set_ (g : G) (t : Tag) (p : Nat) : G := ⟨fun u => if u = t then p else g.ad u, fun q => if q = p then t else g.own q⟩
theorem G.set_ad (g : G) (t : Tag) (p : Nat) : (g.set_ t p).ad t = p := if_pos rfl
theorem G.set_ad_ne (g : G) (t u : Tag) (p : Nat) (h : u ≠ t) : (g.set_ t p).ad u = g.ad u := if_neg h
theorem G.set_own (g : G) (t : Tag) (p : Nat) : (g.set_ t p).own p = t := if_pos rfl
/-- A new block is given a name. -/
theorem Step.name {T : Tag → Prop} {w w' : World} {g g' : G} (h : Step T w g w' g') (t : Tag) (p : Nat) (hp : w.heap.size ≤ p) (ht : T t) : Step T w g w' (g'.set_ t p) :=
  ⟨h.os, h.tape, h.output, h.size, fun q hq => by unfold G.set_; simp only; rw [if_neg (by omega)]; exact h.own q hq, h.block, fun u hu => by
    rw [G.set_ad_ne _ _ _ _ (fun e => hu (by rw [e]; exact ht))]; exact h.ad u hu⟩
theorem Lv.named {w : World} {g : G} (t : Tag) (p : Nat) (hp : p < w.heap.size) : Lv w (g.set_ t p) t := ⟨by rw [G.set_ad, G.set_own], by rw [G.set_ad]; exact hp⟩

/-! ### maps over plain lists -/
namespace FM
variable {α : Type}
/-- What a map's block holds. -/
def vals (f : Int → α → Value) (l : FM α) : AL := l.map fun p => (p.1, f p.1 p.2)
theorem get_vals (f : Int → α → Value) (l : FM α) (k : Int) : MapI.get (vals f l) k = (FM.get l k).map (f k) := by
  unfold vals MapI.get FM.get
  rw [List.find?_map]
  induction l with
  | nil => rfl
  | cons p r ih =>
    simp only [List.find?_cons, Function.comp]
    cases h : p.1 == k
    · exact ih
    · have : p.1 = k := by simpa using h
      subst this; rfl
theorem del_vals (f : Int → α → Value) (l : FM α) (k : Int) : MapI.del (vals f l) k = vals f (FM.del l k) := by
  unfold vals MapI.del FM.del
  rw [List.filter_map]
  rfl
theorem ins_vals (f : Int → α → Value) (l : FM α) (k : Int) (a : α) : MapI.ins (k, f k a) (vals f l) = vals f (FM.ins (k, a) l) := by
  induction l with
  | nil => rfl
  | cons p r ih =>
    show (if k < p.1 then _ else _) = vals f (if k < p.1 then _ else _)
    split
    · rfl
    · show _ :: MapI.ins (k, f k a) (vals f r) = _
      rw [ih]; rfl
theorem put_vals (f : Int → α → Value) (l : FM α) (k : Int) (a : α) : MapI.put (vals f l) k (f k a) = vals f (FM.put l k a) := by
  unfold MapI.put FM.put
  rw [del_vals, ins_vals]
theorem vals_congr {f g : Int → α → Value} {l : FM α} (h : ∀ p ∈ l, f p.1 p.2 = g p.1 p.2) : vals f l = vals g l := by
  unfold vals
  exact List.map_congr_left fun p hp => by rw [h p hp]
theorem mem_del {l : FM α} {k : Int} {p : Int × α} : p ∈ del l k ↔ p ∈ l ∧ p.1 ≠ k := by unfold del; simp
theorem mem_ins {l : FM α} {x p : Int × α} : p ∈ ins x l ↔ p = x ∨ p ∈ l := by
  induction l with
  | nil => simp [ins]
  | cons q r ih =>
    unfold ins
    split
    · simp
    · rw [List.mem_cons, ih, List.mem_cons]
      constructor
      · rintro (h | h | h)
        · exact .inr (.inl h)
        · exact .inl h
        · exact .inr (.inr h)
      · rintro (h | h | h)
        · exact .inr (.inl h)
        · exact .inl h
        · exact .inr (.inr h)
theorem mem_put {l : FM α} {k : Int} {a : α} {p : Int × α} : p ∈ put l k a ↔ p = (k, a) ∨ (p ∈ l ∧ p.1 ≠ k) := by unfold put; rw [mem_ins, mem_del]
theorem get_nil (k : Int) : get ([] : FM α) k = none := rfl
theorem get_cons (p : Int × α) (l : FM α) (k : Int) : get (p :: l) k = if p.1 = k then some p.2 else get l k := by
  unfold get
  rw [List.find?_cons]
  by_cases h : p.1 = k
  · rw [if_pos h, show (p.1 == k) = true by simpa using h]; rfl
  · rw [if_neg h, show (p.1 == k) = false by simpa using h]
theorem get_del (l : FM α) (x y : Int) : get (del l x) y = if y = x then none else get l y := by
  unfold del
  induction l with
  | nil => simp [get_nil]
  | cons p r ih =>
    rw [List.filter_cons]
    by_cases h : p.1 = x
    · rw [if_neg (by simp [h]), ih, get_cons]
      by_cases hy : y = x
      · rw [if_pos hy, if_pos hy]
      · rw [if_neg hy, if_neg hy, if_neg (by omega)]
    · rw [if_pos (by simp [h]), get_cons, get_cons, ih]
      by_cases hy : p.1 = y
      · rw [if_pos hy, if_pos hy, if_neg (by omega)]
      · rw [if_neg hy, if_neg hy]
theorem get_ins (x : Int) (v : α) (l : FM α) (hl : get l x = none) (y : Int) : get (ins (x, v) l) y = if y = x then some v else get l y := by
  induction l with
  | nil => unfold ins; rw [get_cons, get_nil]; simp only [eq_comm]
  | cons p r ih =>
    rw [get_cons] at hl
    by_cases hp : p.1 = x
    · rw [if_pos hp] at hl; cases hl
    · rw [if_neg hp] at hl
      unfold ins
      split
      · rw [get_cons]
        by_cases h : y = x
        · rw [if_pos h.symm, if_pos h]
        · rw [if_neg (Ne.symm h), if_neg h]
      · rw [get_cons, ih hl, get_cons]
        by_cases h : p.1 = y
        · rw [if_pos h, if_pos h, if_neg (by omega)]
        · rw [if_neg h, if_neg h]
theorem get_put (l : FM α) (x : Int) (v : α) (y : Int) : get (put l x v) y = if y = x then some v else get l y := by
  unfold put
  rw [get_ins x v _ (by rw [get_del, if_pos rfl]), get_del]
  by_cases h : y = x
  · rw [if_pos h, if_pos h]
  · rw [if_neg h, if_neg h, if_neg h]
theorem mem_of_get {l : FM α} {x : Int} {v : α} (h : get l x = some v) : (x, v) ∈ l := by
  unfold get at h
  rw [Option.map_eq_some_iff] at h
  obtain ⟨⟨a, c⟩, h1, rfl⟩ := h
  have h2 := List.find?_some h1
  simp at h2
  subst h2
  exact List.mem_of_find?_eq_some h1
/-- The keys rise. -/
def Sorted (l : FM α) : Prop := l.Pairwise fun p q => p.1 < q.1
theorem get_of_mem {l : FM α} (hs : Sorted l) {x : Int} {v : α} (h : (x, v) ∈ l) : get l x = some v := by
  unfold Sorted at hs
  induction l with
  | nil => cases h
  | cons p r ih =>
    rw [List.pairwise_cons] at hs
    rw [get_cons]
    rcases List.mem_cons.1 h with rfl | h
    · rw [if_pos rfl]
    · have := hs.1 _ h
      rw [if_neg (by simp only at this; omega), ih hs.2 h]
theorem Sorted.nil : Sorted ([] : FM α) := List.Pairwise.nil
theorem Sorted.del {l : FM α} (h : Sorted l) (k : Int) : Sorted (del l k) := List.Pairwise.filter _ h
theorem Sorted.ins {l : FM α} (h : Sorted l) {x : Int × α} (hx : ∀ p ∈ l, p.1 ≠ x.1) : Sorted (ins x l) := by
  unfold Sorted at h ⊢
  induction l with
  | nil => exact List.pairwise_singleton _ _
  | cons q r ih =>
    rw [List.pairwise_cons] at h
    unfold FM.ins
    split
    · next hlt =>
      rw [List.pairwise_cons]
      refine ⟨fun p hp => ?_, List.pairwise_cons.2 h⟩
      rcases List.mem_cons.1 hp with rfl | hp
      · exact hlt
      · have := h.1 p hp; omega
    · next hge =>
      rw [List.pairwise_cons]
      refine ⟨fun p hp => ?_, ih h.2 fun p hp => hx p (List.mem_cons_of_mem _ hp)⟩
      rcases mem_ins.1 hp with rfl | hp
      · have := hx q List.mem_cons_self; omega
      · exact h.1 p hp
theorem Sorted.put {l : FM α} (h : Sorted l) (k : Int) (a : α) : Sorted (put l k a) := by
  unfold FM.put
  exact (h.del k).ins fun p hp => (mem_del.1 hp).2
theorem length_ins (x : Int × α) (l : FM α) : (ins x l).length = l.length + 1 := by
  induction l with
  | nil => rfl
  | cons q r ih =>
    unfold ins
    split
    · rfl
    · rw [List.length_cons, ih]; rfl
theorem length_del (l : FM α) (k : Int) : (del l k).length ≤ l.length := by unfold del; exact List.length_filter_le _ _
theorem length_put (l : FM α) (k : Int) (a : α) : (put l k a).length ≤ l.length + 1 := by
  unfold put
  rw [length_ins]
  have := length_del l k
  omega
theorem length_vals (f : Int → α → Value) (l : FM α) : (vals f l).length = l.length := by unfold vals; simp
end FM
/-- A block that is a map of just these entries. -/
def Mp (k : TypeId) (w : World) (b : Nat) (l : AL) : Prop := At Tryz.prog k w b l.length l
theorem Mp.of {k : TypeId} {w : World} {b n : Nat} {l : AL} (h : At Tryz.prog k w b n l) : Mp k w b l := by
  obtain ⟨es, clock, h1, h2, h3, h4⟩ := h
  refine ⟨es, clock, h1, h2, ?_, h4⟩
  rw [DataW.map.injEq] at h4
  have : (MapI.enc l).length = es.size := by rw [h4, length_sorted]; simp
  unfold MapI.enc at this
  rw [List.length_map] at this
  omega
theorem Mp.same {k : TypeId} {w w' : World} {b : Nat} {l : AL} (h : Mp k w b l) (hb : w'.heap[b]? = w.heap[b]?) : Mp k w' b l := MapI.At.same h hb
end Go.Proofs.YtjmdgicdpggljaaGreat.GH
