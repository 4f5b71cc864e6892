/- Proved: laws on a block that is a map keyed by int, as a list of keys with values in rising order: look-up, store, delete, len, range. -/
import Derived.Maps.RangeWalk
import Derived.Maps.Ext
import Derived.WalkKit
import Derived.Lib.Hide
import Derived.IntWalk
import Derived.Deep.Draws
import Derived.Deep.RegionLaw
import Derived.Below
namespace Go.Proofs.Ytopbhdpfakjkjaa.MapI
open Go.Maps (Keyed)
set_option linter.unusedVariables false
open Go.RowKit

abbrev AL := List (Int × Value)
def enc (l : AL) : List (Lit × DataW Value) := l.map fun p => (.int .i64 p.1, .held p.2)
def hR (v : Value) : Option (DataW Value × List MemPlace) := some (.held v, [])
def get (l : AL) (x : Int) : Option Value := (l.find? fun p => p.1 == x).map (·.2)
def ins (p : Int × Value) : AL → AL
  | [] => [p]
  | q :: r => if p.1 < q.1 then p :: q :: r else q :: ins p r
def del (l : AL) (x : Int) : AL := l.filter fun p => p.1 != x
def put (l : AL) (x : Int) (v : Value) : AL := ins (x, v) (del l x)
abbrev W64 (x : Int) : Prop := (Lit.int .i64 x).wf = true
theorem w64 {x : Int} (h0 : -9223372036854775808 ≤ x) (h1 : x ≤ 9223372036854775807) : W64 x := WalkArith.wf_i64 ⟨h0, h1⟩

theorem same_enc (p : Int × Value) (x : Int) : ((Lit.int .i64 p.1).sameKey (.int .i64 x)) = (p.1 == x) := by
  simp only [Lit.sameKey, true_and]
  rw [Bool.eq_iff_iff]; simp
theorem at_enc (l : AL) (x : Int) (z : DataW Value) : (DataW.map (enc l)).atKey (.int .i64 x) z = ((get l x).map DataW.held).getD z := by
  unfold DataW.atKey get enc
  simp only
  induction l with
  | nil => rfl
  | cons p r ih =>
    simp only [List.map_cons, List.find?_cons, same_enc]
    cases h : p.1 == x
    · exact ih
    · rfl
theorem has_enc (l : AL) (x : Int) : Maps.has (.map (enc l)) (.int .i64 x) = (get l x).isSome := by
  unfold get enc
  rw [Maps.has_eq]
  induction l with
  | nil => rfl
  | cons p r ih =>
    simp only [List.map_cons, List.any_cons, List.find?_cons, same_enc]
    cases h : p.1 == x
    · simpa using ih
    · rfl
theorem del_enc (l : AL) (x : Int) : (DataW.map (enc l)).del (.int .i64 x) = .map (enc (del l x)) := by
  unfold DataW.del enc del
  simp only
  congr 1
  induction l with
  | nil => rfl
  | cons p r ih =>
    simp only [List.map_cons, List.filter_cons, same_enc]
    cases h : p.1 == x
    · simp only [bne, h, Bool.not_false, if_true, List.map_cons]; rw [ih]; rfl
    · simp only [bne, h, Bool.not_true, Bool.false_eq_true, if_false]; exact ih
theorem ins_enc (x : Int) (v : Value) (l : AL) : DataW.insert (.int .i64 x, .held v) (enc l) = enc (ins (x, v) l) := by
  induction l with
  | nil => rfl
  | cons p r ih =>
    show DataW.insert _ ((.int .i64 p.1, .held p.2) :: enc r) = enc (if x < p.1 then _ else _)
    unfold DataW.insert
    by_cases h : x < p.1
    · rw [if_pos (by simp [Lit.before, h]), if_pos h]; rfl
    · rw [if_neg (by simp [Lit.before, h]), if_neg h, ih]; rfl
theorem put_enc (l : AL) (x : Int) (v : Value) : (DataW.map (enc l)).put (.int .i64 x) (.held v) = .map (enc (put l x v)) := by
  have h := del_enc l x
  unfold DataW.del at h
  unfold DataW.put put
  simp only at h ⊢
  rw [DataW.map.injEq] at h
  rw [h, ins_enc]

/-- Block b of w is a map of at most n entries that reads as l. -/
def At (P : Program) (k : TypeId) (w : World) (b n : Nat) (l : AL) : Prop := w.ownsMap P k hR b n (.map (enc l))
section
variable {P : Program} {k e t : TypeId} {w w' : World} {b n : Nat} {l : AL}
theorem At.made (w : World) : At P k (w.alloc (.map #[] 0)) w.heap.size 0 [] := World.ownsMap_made _ _ _ _
theorem At.lt (h : At P k w b n l) : b < w.heap.size := World.ownsMap.lt h
theorem At.mono (h : At P k w b n l) {n' : Nat} (hn : n ≤ n') : At P k w b n' l := World.ownsMap.mono h hn
theorem At.same (h : At P k w b n l) (hb : w'.heap[b]? = w.heap[b]?) : At P k w' b n l := by
  obtain ⟨es, clock, h1, h2⟩ := h
  exact ⟨es, clock, hb.trans h1, h2⟩
theorem At.alloc (h : At P k w b n l) (o : Obj) : At P k (w.alloc o) b n l := h.same (Below.heap_alloc w o b h.lt)
theorem At.drew (h : At P k w b n l) : At P k w.drew b n l := h
theorem At.drewN (h : At P k w b n l) (m : Nat) : At P k (w.drewN m) b n l := h
theorem At.sorted (h : At P k w b n l) (hk : P.underlying k = some (.int .i64)) : l.Pairwise fun p q => p.1 < q.1 := by
  obtain ⟨es, he, hp, _⟩ := World.ownsMap.canon h (Maps.int_keyed hk)
  rw [DataW.map.injEq] at he
  rw [← he] at hp
  unfold enc at hp
  rw [List.pairwise_map] at hp
  exact hp.imp fun h => by simpa [Lit.before] using h
theorem key (hk : P.underlying k = some (.int .i64)) {x : Int} (hx : W64 x) : keyOf P k (.int .i64 x) = some (.int .i64 x) := Maps.keyOf_int_mk hk hx
theorem held_inv {v : Value} {d : DataW Value} {ps : List MemPlace} (h : hR v = some (d, ps)) : d = .held v := by
  unfold hR at h; injection h with h; injection h with h1 h2; exact h1.symm
theorem at_getD (l : AL) (x : Int) (z : Value) : (DataW.map (enc l)).atKey (.int .i64 x) (.held z) = .held ((get l x).getD z) := by
  rw [at_enc]; cases get l x <;> rfl
theorem At.look_ok (h : At P k w b n l) (hk : P.underlying k = some (.int .i64)) (ht : P.underlying t = some (.map k e)) {z : Value} (hz : (zeroValue e).run P w = .ok z w) {x : Int} (hx : W64 x) :
    (Instr.lookup t (.map (some b)) (.int .i64 x) true).run P w = .ok (.tuple #[(get l x).getD z, .bool (get l x).isSome]) w := by
  obtain ⟨v, ps, hrun, hv⟩ := World.ownsMap.look_ok h (Maps.int_keyed hk) ht hz (zd := .held z) (zp := []) rfl (key hk hx)
  have := held_inv hv
  rw [at_getD] at this
  injection this with this
  rw [hrun, ← this, has_enc]
theorem At.look (h : At P k w b n l) (hk : P.underlying k = some (.int .i64)) (ht : P.underlying t = some (.map k e)) {z : Value} (hz : (zeroValue e).run P w = .ok z w) {x : Int} (hx : W64 x) :
    (Instr.lookup t (.map (some b)) (.int .i64 x) false).run P w = .ok ((get l x).getD z) w := by
  obtain ⟨v, ps, hrun, hv⟩ := World.ownsMap.lookup h (Maps.int_keyed hk) ht hz (zd := .held z) (zp := []) rfl (key hk hx)
  have := held_inv hv
  rw [at_getD] at this
  injection this with this
  rw [hrun, ← this]
theorem At.store (h : At P k w b n l) (hk : P.underlying k = some (.int .i64)) (ht : P.underlying t = some (.map k e)) (hn : n < maxLen) {x : Int} (hx : W64 x) (v : Value) :
    ∃ w', (Instr.mapUpdate t (.map (some b)) (.int .i64 x) v).run P w = .ok () w' ∧ At P k w' b (n + 1) (put l x v) ∧ w.grownBy w' (some b) ∧ w'.heap.size = w.heap.size := by
  obtain ⟨w', hrun, h1, h2⟩ := World.ownsMap.store h (Maps.int_keyed hk) ht hn (key hk hx) (val := v) (d := .held v) (ps := []) rfl
  rw [put_enc] at h1
  refine ⟨w', hrun, h1, h2.grown, ?_⟩
  obtain ⟨_, _, es'', clock'', _, rfl⟩ := h2
  simp [Go.ChangeMaps.setBlock]
theorem At.drop (h : At P k w b n l) (hk : P.underlying k = some (.int .i64)) (ht : P.underlying t = some (.map k e)) {x : Int} (hx : W64 x) (ty : TypeId) :
    ∃ w', (Builtin.delete_ #[t, k] ty #[.map (some b), .int .i64 x]).run P w = .ok (.tuple #[]) w' ∧ At P k w' b n (del l x) ∧ w.grownBy w' (some b) ∧ w'.heap.size = w.heap.size := by
  obtain ⟨w', hrun, h1, h2⟩ := World.ownsMap.drop h (Maps.int_keyed hk) ht (key hk hx) ty
  rw [del_enc] at h1
  refine ⟨w', hrun, h1, h2.grown, ?_⟩
  obtain ⟨_, _, es'', clock'', _, rfl⟩ := h2
  simp [Go.ChangeMaps.setBlock]
theorem At.len (h : At P k w b n l) (ht : P.underlying t = some (.map k e)) (ty : TypeId) : (Builtin.len_ #[t] ty #[.map (some b)]).run P w = .ok (.int .i64 l.length) w := by
  have := World.ownsMap.len h ht ty
  rw [Maps.size_eq] at this
  simpa [enc] using this
theorem At.le (h : At P k w b n l) : l.length ≤ n := by
  have := World.ownsMap.size_le h
  rw [Maps.size_eq] at this
  simpa [enc] using this
end

/-! ### the lists -/
theorem get_nil (x : Int) : get [] x = none := rfl
theorem get_cons (p : Int × Value) (l : AL) (x : Int) : get (p :: l) x = if p.1 = x then some p.2 else get l x := by
  unfold get
  rw [List.find?_cons]
  by_cases h : p.1 = x
  · rw [if_pos h, show (p.1 == x) = true by simpa using h]; rfl
  · rw [if_neg h, show (p.1 == x) = false by simpa using h]
theorem get_del (l : AL) (x y : Int) : get (del l x) y = if y = x then none else get l y := by
  unfold del
  induction l with
  | nil => simp [get_nil]
  | cons p r ih =>
    rw [List.filter_cons]
    by_cases h : p.1 = x
    · rw [if_neg (by simp [h]), ih, get_cons]
      by_cases hy : y = x
      · rw [if_pos hy, if_pos hy]
      · rw [if_neg hy, if_neg hy, if_neg (by omega)]
    · rw [if_pos (by simp [h]), get_cons, get_cons, ih]
      by_cases hy : p.1 = y
      · rw [if_pos hy, if_pos hy, if_neg (by omega)]
      · rw [if_neg hy, if_neg hy]
theorem get_ins (x : Int) (v : Value) (l : AL) (hl : get l x = none) (y : Int) : get (ins (x, v) l) y = if y = x then some v else get l y := by
  induction l with
  | nil => unfold ins; rw [get_cons, get_nil]; simp only [eq_comm]
  | cons p r ih =>
    rw [get_cons] at hl
    by_cases hp : p.1 = x
    · rw [if_pos hp] at hl; cases hl
    · rw [if_neg hp] at hl
      unfold ins
      split
      · rw [get_cons]
        by_cases h : y = x
        · rw [if_pos h.symm, if_pos h]
        · rw [if_neg (Ne.symm h), if_neg h]
      · rw [get_cons, ih hl, get_cons]
        by_cases h : p.1 = y
        · rw [if_pos h, if_pos h, if_neg (by omega)]
        · rw [if_neg h, if_neg h]
theorem get_put (l : AL) (x : Int) (v : Value) (y : Int) : get (put l x v) y = if y = x then some v else get l y := by
  unfold put
  rw [get_ins x v _ (by rw [get_del, if_pos rfl]), get_del]
  by_cases h : y = x
  · rw [if_pos h, if_pos h]
  · rw [if_neg h, if_neg h, if_neg h]
theorem mem_of_get {l : AL} {x : Int} {v : Value} (h : get l x = some v) : (x, v) ∈ l := by
  unfold get at h
  rw [Option.map_eq_some_iff] at h
  obtain ⟨⟨a, c⟩, h1, rfl⟩ := h
  have h2 := List.find?_some h1
  simp at h2
  subst h2
  exact List.mem_of_find?_eq_some h1
theorem get_of_mem {l : AL} (hs : l.Pairwise fun p q => p.1 < q.1) {x : Int} {v : Value} (h : (x, v) ∈ l) : get l x = some v := by
  induction l with
  | nil => cases h
  | cons p r ih =>
    rw [List.pairwise_cons] at hs
    rw [get_cons]
    rcases List.mem_cons.1 h with rfl | h
    · rw [if_pos rfl]
    · have := hs.1 _ h
      rw [if_neg (by simp only at this; omega), ih hs.2 h]

/-! ### at the operation -/
section
variable {P : Program} (w : World) {ops : Array Oper} {rest : List Oper} {o : Oper} {a : Act} {Q : Exit → Act → World → Prop}
theorem wp_look (hg : o.guard = none) (m x : Operand) (t : TypeId) (hop : o.op = Op.lookup t m x false)
    (k e : TypeId) (hk : P.underlying k = some (.int .i64)) (ht : P.underlying t = some (.map k e)) {z : Value} (hz : (zeroValue e).run P w = .ok z w) (b n : Nat) (l : AL)
    (hm : a.eval m = .map (some b)) (hown : At P k w b n l) (y : Int) (hx : a.eval x = .int .i64 y) (hy : W64 y) (v : Value) (hv : (get l y).getD z = v)
    (hK : wpList P ops Q rest (a.put o.dst v) w) : wpList P ops Q (o :: rest) a w := by
  refine wpList_plain hg fun K' hK' => ?_
  have hrun := hown.look hk ht hz hy
  unfold Oper.wp
  simp [execOp, hop, hm, hx, hrun, Result.andThen]
  rw [hv]
  exact hK' _ _ hK
theorem wp_look_ok (hg : o.guard = none) (m x : Operand) (t : TypeId) (hop : o.op = Op.lookup t m x true)
    (k e : TypeId) (hk : P.underlying k = some (.int .i64)) (ht : P.underlying t = some (.map k e)) {z : Value} (hz : (zeroValue e).run P w = .ok z w) (b n : Nat) (l : AL)
    (hm : a.eval m = .map (some b)) (hown : At P k w b n l) (y : Int) (hx : a.eval x = .int .i64 y) (hy : W64 y) (v : Value) (c : Bool) (hv : (get l y).getD z = v) (hc : (get l y).isSome = c)
    (hK : wpList P ops Q rest (a.put o.dst (.tuple #[v, .bool c])) w) : wpList P ops Q (o :: rest) a w := by
  refine wpList_plain hg fun K' hK' => ?_
  have hrun := hown.look_ok hk ht hz hy
  unfold Oper.wp
  simp [execOp, hop, hm, hx, hrun, Result.andThen]
  rw [hv, hc]
  exact hK' _ _ hK
theorem wp_store (hg : o.guard = none) (m x v : Operand) (t : TypeId) (hop : o.op = Op.mapUpdate t m x v)
    (k e : TypeId) (hk : P.underlying k = some (.int .i64)) (ht : P.underlying t = some (.map k e)) (b n : Nat) (l : AL)
    (hm : a.eval m = .map (some b)) (hown : At P k w b n l) (hn : n < maxLen) (y : Int) (hx : a.eval x = .int .i64 y) (hy : W64 y) (u : Value) (hv : a.eval v = u)
    (hK : ∀ w', At P k w' b (n + 1) (put l y u) → w.grownBy w' (some b) → w'.heap.size = w.heap.size → wpList P ops Q rest (a.put o.dst undef) w') : wpList P ops Q (o :: rest) a w := by
  refine wpList_plain hg fun K' hK' => ?_
  obtain ⟨w', hrun, h1, h2, h3⟩ := hown.store hk ht hn hy u
  unfold Oper.wp
  simp [execOp, hop, hm, hx, hv, hrun, Result.andThen]
  exact hK' _ _ (hK w' h1 h2 h3)
theorem wp_del (hg : o.guard = none) (m x : Operand) (t k : TypeId) (hop : o.op = Op.call { callee := Callee.builtin Builtin.delete, args := #[m, x], argTypes := #[t, k] })
    (e : TypeId) (hk : P.underlying k = some (.int .i64)) (ht : P.underlying t = some (.map k e)) (b n : Nat) (l : AL)
    (hm : a.eval m = .map (some b)) (hown : At P k w b n l) (y : Int) (hx : a.eval x = .int .i64 y) (hy : W64 y)
    (hK : ∀ w', At P k w' b n (del l y) → w.grownBy w' (some b) → w'.heap.size = w.heap.size → wpList P ops Q rest (a.put o.dst (.tuple #[])) w') : wpList P ops Q (o :: rest) a w := by
  refine wpList_plain hg fun K' hK' => ?_
  obtain ⟨w', hrun, h1, h2, h3⟩ := hown.drop hk ht hy o.type
  unfold Oper.wp
  simp [execOp, hop, resolve, invoke, builtin, hm, hx, hrun, Result.andThen]
  exact hK' _ _ (hK w' h1 h2 h3)
theorem wp_len (hg : o.guard = none) (m : Operand) (t : TypeId) (hop : o.op = Op.call { callee := Callee.builtin Builtin.len, args := #[m], argTypes := #[t] })
    (k e : TypeId) (ht : P.underlying t = some (.map k e)) (b n : Nat) (l : AL) (hm : a.eval m = .map (some b)) (hown : At P k w b n l)
    (hK : wpList P ops Q rest (a.put o.dst (.int .i64 l.length)) w) : wpList P ops Q (o :: rest) a w := by
  refine wpList_plain hg fun K' hK' => ?_
  unfold Oper.wp
  simp [execOp, hop, resolve, invoke, builtin, hm, hown.len ht o.type, Result.andThen]
  exact hK' _ _ hK
end

section
variable {P : Program} (w : World) {ops : Array Oper} {o : Oper} {a : Act} {K : Act → World → Prop} {Q : Exit → Act → World → Prop} {E : Prop}
theorem step_store (hg : o.guard = none) (m x v : Operand) (t : TypeId) (hop : o.op = Op.mapUpdate t m x v)
    (k e : TypeId) (hk : P.underlying k = some (.int .i64)) (ht : P.underlying t = some (.map k e)) (b n : Nat) (l : AL)
    (hm : a.eval m = .map (some b)) (hown : At P k w b n l) (hn : n < maxLen) (y : Int) (hx : a.eval x = .int .i64 y) (hy : W64 y) (u : Value) (hv : a.eval v = u)
    (hK : ∀ w', At P k w' b (n + 1) (put l y u) → w.grownBy w' (some b) → w'.heap.size = w.heap.size → K (a.put o.dst undef) w') : if Region.wanted o (yielded ops a.tmps) = true then Oper.wp P o a w K Q else E := by
  have hw : Region.wanted o (yielded ops a.tmps) = true := by simp [Region.wanted, hg]
  rw [if_pos hw]
  obtain ⟨w', hrun, h1, h2, h3⟩ := hown.store hk ht hn hy u
  unfold Oper.wp
  simp [execOp, hop, hm, hx, hv, hrun, Result.andThen]
  exact hK w' h1 h2 h3
end

/-! ### ranging -/
/-- Block r is an iterator over the map in block b; the keys of which 'left' holds are still to come. -/
def Rng (P : Program) (k : TypeId) (w : World) (b r n : Nat) (l : AL) (left : Int → Bool) (cnt : Nat) : Prop :=
  ∃ L : Lit → Bool, w.ranges P k hR b r n (.map (enc l)) L cnt ∧ ∀ x, W64 x → L (.int .i64 x) = left x
section
variable {P : Program} {k e t : TypeId} {w w' : World} {b r n : Nat} {l : AL} {left : Int → Bool} {cnt : Nat}
theorem Rng.owns (h : Rng P k w b r n l left cnt) : At P k w b n l := by obtain ⟨L, h, _⟩ := h; exact h.owns
theorem Rng.left_eq (h : Rng P k w b r n l left cnt) : w.rangeLeft b r = cnt := by obtain ⟨L, h, _⟩ := h; exact h.left_eq
theorem Rng.ne (h : Rng P k w b r n l left cnt) : r ≠ b := by obtain ⟨L, h, _⟩ := h; exact h.ne
theorem Rng.lt (h : Rng P k w b r n l left cnt) : r < w.heap.size := by obtain ⟨L, h, _⟩ := h; exact h.lt
theorem Rng.kept {row : Option Nat} (h : Rng P k w b r n l left cnt) (hg : w.grownBy w' row) (hb' : some b ≠ row) (hr' : some r ≠ row) : Rng P k w' b r n l left cnt := by
  obtain ⟨L, h, h2⟩ := h
  exact ⟨L, h.kept hg hb' hr', h2⟩
theorem Rng.same (h : Rng P k w b r n l left cnt) (hb : w'.heap[b]? = w.heap[b]?) (hr : w'.heap[r]? = w.heap[r]?) : Rng P k w' b r n l left cnt := by
  obtain ⟨L, ⟨es, clock, since, seen, c0, h1, h2, h3, h4, h5, h6⟩, hL⟩ := h
  exact ⟨L, ⟨es, clock, since, seen, c0, hb.trans h1, h2, h3, h4, hr.trans h5, h6⟩, hL⟩
theorem Rng.drewN (h : Rng P k w b r n l left cnt) (m : Nat) : Rng P k (w.drewN m) b r n l left cnt := h
end
section
variable {P : Program} (w : World) {ops : Array Oper} {rest : List Oper} {o : Oper} {a : Act} {Q : Exit → Act → World → Prop}
theorem wp_range (hg : o.guard = none) (m : Operand) (t : TypeId) (hop : o.op = Op.range t m) (k e : TypeId) (hk : P.underlying k = some (.int .i64)) (ht : P.underlying t = some (.map k e)) (b n : Nat) (l : AL)
    (hm : a.eval m = .map (some b)) (hown : At P k w b n l)
    (hK : ∀ w', Rng P k w' b w.heap.size n l (fun x => (get l x).isSome) l.length → w.grownBy w' none → w'.heap.size = w.heap.size + 1 → wpList P ops Q rest (a.put o.dst (.pointer (some ⟨w.heap.size, 0, none⟩))) w') :
    wpList P ops Q (o :: rest) a w := by
  refine wpList_range_own w hg m t hop k e (Maps.int_keyed hk) ht hR b n _ hm hown fun w' h1 h2 h3 => hK w' ⟨_, ?_, fun x _ => has_enc l x⟩ h2 h3
  rw [Maps.size_eq] at h1
  simpa [enc] using h1
theorem wp_next (hg : o.guard = none) (it : Operand) (hop : o.op = Op.next it false) (k : TypeId) (hk : P.underlying k = some (.int .i64)) (b r n : Nat) (l : AL) (left : Int → Bool) (cnt : Nat)
    (hit : a.eval it = .pointer (some ⟨r, 0, none⟩)) (h : Rng P k w b r n l left cnt)
    (hDone : cnt = 0 → (∀ x, W64 x → left x = false) → wpList P ops Q rest (a.put o.dst (.tuple #[.bool false])) w)
    (hMore : ∀ (x : Int) (v : Value) (w' : World) (cnt' : Nat), W64 x → left x = true → get l x = some v → Rng P k w' b r n l (fun z => left z && z != x) cnt' → cnt' < cnt →
      w.grownBy w' (some r) → w'.heap.size = w.heap.size → (Instr.entry (.pointer (some ⟨r, 0, none⟩))).run P w' = .ok (.tuple #[.int .i64 x, v]) w' → wpList P ops Q rest (a.put o.dst (.tuple #[.bool true, .int .i64 x, v])) w') :
    wpList P ops Q (o :: rest) a w := by
  obtain ⟨L, h1, h2⟩ := h
  refine wpList_next_ranges w hg it hop k (Maps.int_keyed hk) hR (Value.int .i64) id (fun key kl hkey => by obtain ⟨x, rfl, _⟩ := Maps.keyOf_int_inv hk hkey; exact ⟨x, rfl⟩) (fun v _ _ => ⟨v, rfl⟩)
    b r n _ L cnt hit h1 (fun h0 hl => hDone h0 fun x hx => by rw [← h2 x hx]; exact hl _) (fun x c kl y w' cnt' hkey hlk hv hat hrg hlt hgr hsz hen => ?_)
  obtain ⟨x', ex, rfl, hwx⟩ := Maps.keyOf_int_inv hk hkey
  cases ex
  refine hMore x c w' cnt' hwx (by rw [← h2 x hwx]; exact hlk) ?_ ⟨_, hrg, fun z hz => ?_⟩ hlt hgr hsz hen
  · obtain ⟨d, ps⟩ := y
    have := held_inv hv
    simp only at hat
    have h3 := hat .nil
    rw [at_enc, this] at h3
    cases hgt : get l x with
    | none => rw [hgt] at h3; cases h3
    | some u => rw [hgt] at h3; simp at h3; rw [h3]
  · simp only
    rw [h2 z hz]
    congr 1
    rw [same_enc (z, .bool false) x]; rfl
theorem wp_del_range (hg : o.guard = none) (m x : Operand) (t k : TypeId) (hop : o.op = Op.call { callee := Callee.builtin Builtin.delete, args := #[m, x], argTypes := #[t, k] })
    (e : TypeId) (hk : P.underlying k = some (.int .i64)) (ht : P.underlying t = some (.map k e)) (b r n : Nat) (l : AL) (left : Int → Bool) (cnt : Nat)
    (hm : a.eval m = .map (some b)) (h : Rng P k w b r n l left cnt) (y : Int) (hx : a.eval x = .int .i64 y) (hy : W64 y)
    (hK : ∀ w' cnt', Rng P k w' b r n (del l y) (fun z => left z && z != y) cnt' → cnt' ≤ cnt → w.grownBy w' (some b) → w'.heap.size = w.heap.size → wpList P ops Q rest (a.put o.dst (.tuple #[])) w') :
    wpList P ops Q (o :: rest) a w := by
  obtain ⟨L, h1, h2⟩ := h
  refine wpList_delete_ranges w hg m x t k hop e (Maps.int_keyed hk) ht hR b r n _ L cnt hm h1 _ _ hx (key hk hy) fun w' cnt' h3 h4 h5 => hK w' cnt' ⟨_, del_enc l y ▸ h3, fun z hz => ?_⟩ h4 h5.grown ?_
  · simp only
    rw [h2 z hz]
    congr 1
    rw [same_enc (z, .bool false) y]; rfl
  · obtain ⟨_, _, es'', clock'', _, rfl⟩ := h5
    simp [Go.ChangeMaps.setBlock]
end
end Go.Proofs.Ytopbhdpfakjkjaa.MapI
