/- Heaps as lists: where a key stands; what an exchange, an append, a cut turn; no memory. -/
import Derived.Test.YtjmdgicdpggljaaGreatM10
import Derived.Test.YtjmdgicdpggljaaGreatM06
import Derived.Test.YtjmdgicdpggljaaGreatM07
import Derived.BigRegion
import Derived.ArgAppend
import Derived.OwnWalk
import Derived.DeepKeys4
set_option linter.all false
namespace Go.Proofs.YtjmdgicdpggljaaGreat.GH
open Go.RowKit
set_option linter.unusedVariables false
open Go.Proofs.YtjmdgicdpggljaaGreat.MapG (Codec)

section
variable {K V : Type} [DecidableEq K] [Inhabited K] [Inhabited V]
theorem hidx_some {xs : HL K V} (hn : (xs.map (·.1)).Nodup) {k : K} {i : Nat} : hidx xs k = some i ↔ i < xs.length ∧ hkey xs i = k := by
  unfold hidx hkey
  rw [List.findIdx?_eq_some_iff_getElem]
  constructor
  · rintro ⟨h, h1, _⟩
    refine ⟨h, ?_⟩
    rw [List.getD_eq_getElem?_getD, List.getElem?_eq_getElem h]
    simpa using h1
  · rintro ⟨h, h1⟩
    rw [List.getD_eq_getElem?_getD, List.getElem?_eq_getElem h] at h1
    simp only [Option.getD_some] at h1
    refine ⟨h, by simpa using h1, fun j hj => ?_⟩
    have hjl : j < xs.length := by omega
    simp only [beq_iff_eq]
    intro e
    have h2 := (List.getElem_inj (i := j) (j := i) (h₀ := by rw [List.length_map]; exact hjl) (h₁ := by rw [List.length_map]; exact h) hn).1 (by simp [e, h1])
    omega
theorem hidx_none {xs : HL K V} {k : K} : hidx xs k = none ↔ ∀ p ∈ xs, p.1 ≠ k := by
  unfold hidx
  rw [List.findIdx?_eq_none_iff]
  simp
theorem hkey_mem {xs : HL K V} {i : Nat} (h : i < xs.length) : (hkey xs i, hval xs i) ∈ xs := by
  unfold hkey hval
  rw [List.getD_eq_getElem?_getD, List.getElem?_eq_getElem h]
  exact List.getElem_mem h
theorem hget_pair {xs : HL K V} {i : Nat} (h : i < xs.length) : xs[i]? = some (hkey xs i, hval xs i) := by
  unfold hkey hval
  rw [List.getD_eq_getElem?_getD, List.getElem?_eq_getElem h]; rfl
theorem hswap_len (xs : HL K V) (i j : Nat) : (hswap xs i j).length = xs.length := by unfold hswap; rw [List.length_set, List.length_set]
theorem hswap_get {xs : HL K V} {i j : Nat} (hi : i < xs.length) (hj : j < xs.length) (n : Nat) : (hswap xs i j)[n]? = if n = j then xs[i]? else if n = i then xs[j]? else xs[n]? := by
  unfold hswap
  rw [List.getElem?_set]
  by_cases h1 : j = n
  · subst h1
    rw [if_pos rfl, if_pos rfl, if_pos (by rw [List.length_set]; exact hj), List.getD_eq_getElem?_getD, List.getElem?_eq_getElem hi]; rfl
  · rw [if_neg h1, if_neg (Ne.symm h1), List.getElem?_set]
    by_cases h2 : i = n
    · subst h2
      rw [if_pos rfl, if_pos rfl, if_pos hi, List.getD_eq_getElem?_getD, List.getElem?_eq_getElem hj]; rfl
    · rw [if_neg h2, if_neg (Ne.symm h2)]
theorem hswap_perm {xs : HL K V} {i j : Nat} (hi : i < xs.length) (hj : j < xs.length) : (hswap xs i j).Perm xs := by
  unfold hswap
  rw [List.getD_eq_getElem?_getD, List.getD_eq_getElem?_getD, List.getElem?_eq_getElem hi, List.getElem?_eq_getElem hj]
  simp only [Option.getD_some]
  exact List.set_set_perm hi hj
theorem hswap_nodup {xs : HL K V} (hn : (xs.map (·.1)).Nodup) {i j : Nat} (hi : i < xs.length) (hj : j < xs.length) : ((hswap xs i j).map (·.1)).Nodup :=
  ((hswap_perm hi hj).map _).nodup_iff.2 hn
theorem hkey_get {xs : HL K V} {i : Nat} : hkey xs i = (xs[i]?.getD default).1 := by unfold hkey; rw [List.getD_eq_getElem?_getD]
theorem hval_get {xs : HL K V} {i : Nat} : hval xs i = (xs[i]?.getD default).2 := by unfold hval; rw [List.getD_eq_getElem?_getD]
/-- Where each key stands, as a map tells it. -/
def Idx (l : MapG.AL K) (xs : HL K V) : Prop := ∀ k, MapG.get l k = Option.map (fun i : Nat => Value.int .i64 (i : Int)) (hidx xs k)
theorem Idx.at_ {l : MapG.AL K} {xs : HL K V} (h : Idx l xs) (hn : (xs.map (·.1)).Nodup) {i : Nat} (hi : i < xs.length) : MapG.get l (hkey xs i) = some (.int .i64 (i : Int)) := by
  rw [h, (hidx_some hn).2 ⟨hi, rfl⟩]; rfl
theorem Idx.le {l : MapG.AL K} {xs : HL K V} (h : Idx l xs) (hl : (l.map (·.1)).Nodup) : l.length ≤ xs.length := by
  have hsub : (l.map (·.1)) ⊆ (xs.map (·.1)) := fun k hk => by
    obtain ⟨p, hp, rfl⟩ := List.mem_map.1 hk
    have h1 := MapG.get_isSome hp
    rw [h, Option.isSome_map] at h1
    cases h2 : hidx xs p.1 with
    | none => rw [h2] at h1; cases h1
    | some i =>
      apply Classical.byContradiction
      intro hno
      have : hidx xs p.1 = none := hidx_none.2 fun q hq e => hno (List.mem_map.2 ⟨q, hq, e⟩)
      rw [this] at h2; cases h2
  have := List.Nodup.length_le_of_subset hl hsub
  simpa using this
theorem Idx.swap {C : Codec K} {l : MapG.AL K} {xs : HL K V} (h : Idx l xs) (hn : (xs.map (·.1)).Nodup) {i j : Nat} (hi : i < xs.length) (hj : j < xs.length) :
    Idx (MapG.put C (MapG.put C l (hkey xs j) (.int .i64 (i : Int))) (hkey xs i) (.int .i64 (j : Int))) (hswap xs i j) := by
  intro k
  have hn2 := hswap_nodup hn hi hj
  have hkj : hkey (hswap xs i j) j = hkey xs i := by rw [hkey_get, hkey_get, hswap_get hi hj, if_pos rfl]
  have hki : hkey (hswap xs i j) i = hkey xs j := by
    rw [hkey_get, hkey_get, hswap_get hi hj]
    by_cases e : i = j
    · subst e; rw [if_pos rfl]
    · rw [if_neg e, if_pos rfl]
  rw [MapG.get_put, MapG.get_put]
  by_cases h1 : k = hkey xs i
  · rw [if_pos h1, (hidx_some hn2).2 ⟨by rw [hswap_len]; exact hj, by rw [hkj, h1]⟩]; rfl
  · rw [if_neg h1]
    by_cases h2 : k = hkey xs j
    · rw [if_pos h2, (hidx_some hn2).2 ⟨by rw [hswap_len]; exact hi, by rw [hki, h2]⟩]; rfl
    · rw [if_neg h2, h]
      congr 1
      cases h3 : hidx xs k with
      | none =>
        symm
        rw [hidx_none] at h3 ⊢
        intro p hp
        exact h3 p ((hswap_perm hi hj).mem_iff.1 hp)
      | some n =>
        symm
        obtain ⟨a, b⟩ := (hidx_some hn).1 h3
        refine (hidx_some hn2).2 ⟨by rw [hswap_len]; exact a, ?_⟩
        rw [hkey_get, hswap_get hi hj, if_neg (fun e => h2 (by rw [← b, e])), if_neg (fun e => h1 (by rw [← b, e])), ← hkey_get, b]
end
end Go.Proofs.YtjmdgicdpggljaaGreat.GH

/- Proved: what heap.Heap's swap leaves: a struct, a row of items, a map of where each key stands. -/
namespace Go.Proofs.YtjmdgicdpggljaaGreat.GH
open Go.RowKit Go.Proofs.YtjmdgicdpggljaaGreat.Histo
set_option linter.unusedVariables false
open Go.Proofs.YtjmdgicdpggljaaGreat.MapG (Codec Mk)
open Go.Proofs.YtjmdgicdpggljaaGreat.MapI (W64)

/-- What was there is as it was, but for the blocks of a set. -/
structure Only (F : Nat → Prop) (a c : World) : Prop where
  os : c.os = a.os
  tape : c.tape = a.tape
  output : c.output = a.output
  size : a.heap.size ≤ c.heap.size
  block : ∀ i, i < a.heap.size → ¬ F i → c.heap[i]? = a.heap[i]?
section
variable {F : Nat → Prop} {a w w' : World}
theorem Only.refl (a : World) : Only F a a := ⟨rfl, rfl, rfl, Nat.le_refl _, fun _ _ _ => rfl⟩
theorem Only.trans {G : Nat → Prop} (h : Only F a w) (k : Only G w w') (hG : ∀ i, i < a.heap.size → G i → F i) : Only F a w' := ⟨k.os.trans h.os, k.tape.trans h.tape, k.output.trans h.output, Nat.le_trans h.size k.size, fun i hi hn => (k.block i (Nat.lt_of_lt_of_le hi h.size) (fun e => hn (hG i hi e))).trans (h.block i hi hn)⟩
theorem Only.mono {G : Nat → Prop} (h : Only F a w) (hG : ∀ i, i < a.heap.size → F i → G i) : Only G a w := ⟨h.os, h.tape, h.output, h.size, fun i hi hn => h.block i hi (fun e => hn (hG i hi e))⟩
theorem Only.below (h : Only F a w) (hb : Below w.heap.size w w') : Only F a w' := ⟨hb.os.trans h.os, hb.tape.trans h.tape, hb.output.trans h.output, Nat.le_trans h.size hb.size, fun i hi hn => (hb.block i (Nat.lt_of_lt_of_le hi h.size)).trans (h.block i hi hn)⟩
theorem Only.grown (h : Only F a w) {r : Option Nat} (hg : w.grownBy w' r) (hr : ∀ k, k < a.heap.size → r = some k → F k) : Only F a w' := ⟨hg.os.trans h.os, hg.tape.trans h.tape, hg.output.trans h.output, Nat.le_trans h.size hg.size, fun i hi hn => (hg.block i (Nat.lt_of_lt_of_le hi h.size) (fun e => hn (hr i hi e.symm))).trans (h.block i hi hn)⟩
theorem Only.alloc (h : Only F a w) (o : Obj) : Only F a (w.alloc o) := h.below ((Below.refl _ _).alloc (Nat.le_refl _) _)
theorem Only.drew (h : Only F a w) : Only F a w.drew := ⟨h.os, h.tape, h.output, h.size, h.block⟩
theorem Only.drewN (h : Only F a w) (n : Nat) : Only F a (w.drewN n) := ⟨h.os, h.tape, h.output, h.size, h.block⟩
theorem Only.setCell (h : Only F a w) {g : Nat} (hp : g < a.heap.size → F g) (n : Nat) (u : Value) : Only F a (w.setCell ⟨g, n, none⟩ u) := ⟨h.os, h.tape, h.output, by simpa [World.setCell] using h.size, fun i hi hn => (Below.heap_setCell w _ u i (fun e => hn (by rw [show i = g from e]; exact hp (by rw [← show i = g from e]; exact hi)))).trans (h.block i hi hn)⟩
end

theorem ownsRow_zero {w : World} {b : Nat} {e : TypeId} {z : Nat} {v : Value} {n : Nat} {xs : List Value} (h : w.ownsRow b e z v n xs) : w.ownsRow 0 e z v n xs := by
  obtain ⟨h1, h2⟩ := h
  refine ⟨h1, ?_⟩
  rcases h2 with h2 | ⟨g, cap, cur, h3, _, h4⟩
  · exact .inl h2
  · exact .inr ⟨g, cap, cur, h3, Nat.zero_le _, h4⟩
/-- append: the row stands where it stood, or in a new block. -/
theorem wp_append {P : Program} (w : World) {ops : Array Oper} {rest : List Oper} {o : Oper} {a : Act} {Q : Exit → Act → World → Prop} (hgd : o.guard = none) (s x : Operand) (t : TypeId)
    (ho : o.op = .call { callee := .builtin .append, args := #[s, x], argTypes := #[t, t] })
    (e : TypeId) (i : TypeInfo) (z : Value) (size bytes : Nat) (ht : P.underlying t = some (.slice e)) (hi : P.info? e = some i) (hz : i.zero = some z)
    (hsize : i.size = size) (hby : i.bytes = bytes) (hzs : z.cells.size = size) (hsz : 0 < size)
    (v : Value) (n : Nat) (xs : List Value) (hs : a.eval s = v) (hown : w.ownsRow 0 e size v n xs)
    (ad : Addr) (m c : Nat) (news : List Value) (hx : a.eval x = .slice (some ad) m c) (hl : news.length = m * size) (hnews : ∀ j u, news[j]? = some u → w.cell? (ad.add j) = some u) (h1 : ∀ u ∈ news, u.oneCell' = true)
    (h63 : n + m ≤ maxLen) (hbytes : (n + m) * bytes ≤ 140737488355328) (hm : 0 < m)
    (h : ∀ v' w', w'.ownsRow 0 e size v' (n + m) (xs ++ news) → w.grownBy w' v.ownBlock → (v'.ownBlock = v.ownBlock ∨ ∃ p, v'.ownBlock = some p ∧ w.heap.size ≤ p) → wpList P ops Q rest (a.put o.dst v') w') : wpList P ops Q (o :: rest) a w := by
  have fresh : ∀ {v' : Value} {w' : World}, w'.ownsRow w.heap.size e size v' (n + m) (xs ++ news) → v'.ownBlock = v.ownBlock ∨ ∃ p, v'.ownBlock = some p ∧ w.heap.size ≤ p := fun {v' w'} h2 => by
    rcases h2.2 with ⟨_, h3⟩ | ⟨g, cap, cur, h3, h4, _⟩
    · omega
    · exact .inr ⟨g, by rw [h3]; rfl, h4⟩
  have wide : ∀ {w' : World}, w.grownBy w' none → w.grownBy w' v.ownBlock := fun hg => ⟨hg.os, hg.tape, hg.output, hg.size, fun k hk _ => hg.block k hk (by simp)⟩
  rcases hown.2 with ⟨rfl, rfl⟩ | ⟨g, cap, cur, rfl, _⟩
  · have hxs : xs = [] := by have := hown.1; simp at this; exact this
    subst hxs
    refine wpList_append_grows w hgd s x t ho e i z size bytes ht hi hz hsize hby hzs hsz none 0 0 [] hs (fun _ => ⟨rfl, rfl⟩) (by simp) (fun b hb => by cases hb) ad m c news hx hl hnews h1 (by omega) h63 hbytes fun v' w' h2 h3 => ?_
    exact h v' w' (ownsRow_zero h2) (wide h3) (fresh h2)
  · by_cases hc : n + m ≤ cap
    · exact wpList_append_fits w hgd s x t ho 0 e i size ht hi hsize g n cap xs hs hown ad m c news hx hl hnews h1 hc fun w' h2 h3 => h _ w' h2 h3 (.inl rfl)
    · refine wpList_append_grows w hgd s x t ho e i z size bytes ht hi hz hsize hby hzs hsz (some ⟨g, 0, none⟩) n cap xs hs (fun hb => by cases hb) hown.1 (fun b hb => by cases hb; exact hown.cells rfl) ad m c news hx hl hnews h1 (by omega) h63 hbytes fun v' w' h2 h3 => ?_
      exact h v' w' (ownsRow_zero h2) (wide h3) (fresh h2)
def ivW (p : Int × Mark) : List Value := .int .i64 p.1 :: p.2.vals
structure EntW (p : Int × Mark) : Prop where
  k : W64 p.1
  v : p.2.Ok
def kW : Codec Int := ⟨fun x => .int .i64 x, fun x => .int .i64 x, W64, fun a b _ _ => by simp [Lit.sameKey]⟩
theorem keyedW : Maps.Keyed Tryz.prog 3 := Maps.int_keyed Tryz.underlying3
theorem kvW (x : Int) (h : kW.ok x) : keyOf Tryz.prog 3 (kW.val x) = some (kW.lit x) := Maps.keyOf_int_mk Tryz.underlying3 h
structure HeapAtW (w : World) (hb ab : Nat) (v : Value) (xs : HL Int Mark) : Prop where
  head : Blk w hb 231 #[.func (.func 157) #[] #[], v, .map (some ab)]
  row : w.ownsRow 0 233 4 v xs.length (xs.flatMap ivW)
  map : ∃ l, Mk kW Tryz.prog 3 w ab l ∧ Idx l xs
  nodup : (xs.map (·.1)).Nodup
  ok : ∀ p ∈ xs, EntW p
  le : xs.length ≤ 1099511627776
theorem zero_intW (w : World) : (zeroValue 3).run Tryz.prog w = .ok (.int .i64 0) w := by kernel_rfl
theorem row_cell {α : Type} {enc : α → List Value} {z : Nat} {e : TypeId} {w : World} {r cap : Nat} {xs : List α} (hz : ∀ a, (enc a).length = z) (h : w.ownsRow 0 e z (.slice (some ⟨r, 0, none⟩) xs.length cap) xs.length (xs.flatMap enc)) {i q : Nat} {x : α} (hx : xs[i]? = some x) (hq : q < z) :
    w.cell? ⟨r, i * z + q, none⟩ = (enc x)[q]? ∧ w.frozen? ⟨r, i * z + q, none⟩ = false := by
  obtain ⟨h1, h2⟩ := h
  rcases h2 with ⟨h2, _⟩ | ⟨g, cap', cur, h2, _, hg, _, _, hs, ht⟩
  · cases h2
  · simp only [Value.slice.injEq, Option.some.injEq, Addr.mk.injEq, true_and, and_true] at h2
    obtain ⟨rfl, rfl⟩ := h2
    have hB : Blk w r e cur := hg
    refine ⟨?_, hB.frozen _⟩
    rw [hB.cell]
    have hi : i < xs.length := (List.getElem?_eq_some_iff.1 hx).1
    have hlt : i * z + q < xs.length * z := by
      have : (i + 1) * z ≤ xs.length * z := Nat.mul_le_mul_right z hi
      rw [Nat.add_mul] at this
      omega
    have h3 := flat_get hz hq xs i
    rw [hx] at h3
    simp only [Option.bind_some] at h3
    rw [← h3, ← ht, List.getElem?_take_of_lt (by rw [Nat.mul_comm z i]; exact hlt), Nat.mul_comm z i]
    simp
/-- A store into a row. -/
theorem row_set {α : Type} {enc : α → List Value} {z : Nat} {e : TypeId} {w : World} {r cap : Nat} {xs : List α} {v : Value} (hz : ∀ a, (enc a).length = z) (h : w.ownsRow 0 e z (.slice (some ⟨r, 0, none⟩) xs.length cap) xs.length (xs.flatMap enc)) {i q : Nat} {x y : α} (hx : xs[i]? = some x) (hq : q < z) (hy : enc y = (enc x).set q v) :
    (w.setCell ⟨r, i * z + q, none⟩ v).ownsRow 0 e z (.slice (some ⟨r, 0, none⟩) (xs.set i y).length cap) (xs.set i y).length ((xs.set i y).flatMap enc) := by
  obtain ⟨h1, h2⟩ := h
  rcases h2 with ⟨h2, _⟩ | ⟨g, cap', cur, h2, h0, hg, hc, hm, hs, ht⟩
  · cases h2
  · simp only [Value.slice.injEq, Option.some.injEq, Addr.mk.injEq, true_and, and_true] at h2
    obtain ⟨rfl, rfl⟩ := h2
    have hB : Blk w r e cur := hg
    have hi : i < xs.length := (List.getElem?_eq_some_iff.1 hx).1
    refine ⟨by rw [flat_len hz, Nat.mul_comm], .inr ⟨r, cap, _, by rw [List.length_set], h0, hB.set_ (i * z + q) v, by rw [List.length_set]; exact hc, hm, by rw [Array.size_setIfInBounds]; exact hs, ?_⟩⟩
    rw [List.length_set, ← flat_set hz hq hy xs i hx, ← ht, Array.toList_setIfInBounds, Nat.mul_comm z i, List.take_set]
/-- Values written one behind the other. -/
def setAll : List Value → Nat → List Value → List Value
  | l, _, [] => l
  | l, n, v :: r => setAll (l.set n v) (n + 1) r
def setCells : World → Nat → Nat → List Value → World
  | w, _, _, [] => w
  | w, r, n, v :: vs => setCells (w.setCell ⟨r, n, none⟩ v) r (n + 1) vs
theorem setAll_app (A : List Value) : ∀ (vs B : List Value) (k : Nat), setAll (A ++ B) (A.length + k) vs = A ++ setAll B k vs
  | [], _, _ => rfl
  | v :: r, B, k => by
    unfold setAll
    rw [List.set_append_right _ _ (by omega), show A.length + k - A.length = k by omega, Nat.add_assoc, setAll_app A r]
theorem setAll_head : ∀ (vs A B : List Value), vs.length = A.length → setAll (A ++ B) 0 vs = vs ++ B
  | [], [], _, _ => rfl
  | [], _ :: _, _, h => by simp at h
  | _ :: _, [], _, h => by simp at h
  | v :: r, a :: A, B, h => by
    unfold setAll
    rw [List.cons_append, List.set_cons_zero]
    have := setAll_app [v] r (A ++ B) 0
    simp only [List.length_singleton, List.singleton_append] at this
    rw [show (0 : Nat) + 1 = 1 + 0 by omega, this, setAll_head r A B (by simpa using h)]
    rfl
theorem setAll_flat {α : Type} {enc : α → List Value} {z : Nat} (hz : ∀ a, (enc a).length = z) (y : α) : ∀ (xs : List α) (i : Nat), i < xs.length → setAll (xs.flatMap enc) (z * i) (enc y) = (xs.set i y).flatMap enc
  | [], i, h => by simp at h
  | a :: l, 0, _ => by
    rw [List.flatMap_cons, List.set_cons_zero, List.flatMap_cons, Nat.mul_zero, setAll_head _ _ _ (by rw [hz, hz])]
  | a :: l, i + 1, h => by
    rw [List.flatMap_cons, List.set_cons_succ, List.flatMap_cons, Nat.mul_succ, Nat.add_comm, ← hz a, setAll_app, hz, setAll_flat hz y l i (by simpa using h)]
theorem raw_set {e : TypeId} {z n m r cap : Nat} {w : World} {raw : List Value} (h : w.ownsRow 0 e z (.slice (some ⟨r, 0, none⟩) m cap) n raw) (off : Nat) (v : Value) :
    (w.setCell ⟨r, off, none⟩ v).ownsRow 0 e z (.slice (some ⟨r, 0, none⟩) m cap) n (raw.set off v) := by
  obtain ⟨h1, h2⟩ := h
  rcases h2 with ⟨h2, _⟩ | ⟨g, cap', cur, h2, h0, hg, hc, hm, hs, ht⟩
  · cases h2
  · have h2' := h2
    simp only [Value.slice.injEq, Option.some.injEq, Addr.mk.injEq, true_and, and_true] at h2'
    obtain ⟨rfl, _⟩ := h2'
    have hB : Blk w r e cur := hg
    exact ⟨by rw [List.length_set]; exact h1, .inr ⟨r, cap', _, h2, h0, hB.set_ off v, hc, hm, by rw [Array.size_setIfInBounds]; exact hs, by rw [← ht, Array.toList_setIfInBounds, List.take_set]⟩⟩
theorem raw_sets {e : TypeId} {z n m r cap : Nat} : ∀ (vs : List Value) {w : World} {raw : List Value} (_ : w.ownsRow 0 e z (.slice (some ⟨r, 0, none⟩) m cap) n raw) (off : Nat), (setCells w r off vs).ownsRow 0 e z (.slice (some ⟨r, 0, none⟩) m cap) n (setAll raw off vs)
  | [], _, _, h, _ => h
  | v :: vs, _, _, h, off => raw_sets vs (raw_set h off v) (off + 1)
/-- A whole element written. -/
theorem row_put {α : Type} {enc : α → List Value} {z : Nat} {e : TypeId} {w : World} {r cap : Nat} {xs : List α} (hz : ∀ a, (enc a).length = z) (h : w.ownsRow 0 e z (.slice (some ⟨r, 0, none⟩) xs.length cap) xs.length (xs.flatMap enc)) {i : Nat} (hi : i < xs.length) (y : α) :
    (setCells w r (i * z) (enc y)).ownsRow 0 e z (.slice (some ⟨r, 0, none⟩) (xs.set i y).length cap) (xs.set i y).length ((xs.set i y).flatMap enc) := by
  have := raw_sets (enc y) h (i * z)
  rw [Nat.mul_comm i z, setAll_flat hz y xs i hi] at this
  rw [List.length_set, Nat.mul_comm i z]
  exact this
theorem only_sets {F : Nat → Prop} {a : World} : ∀ (vs : List Value) {w : World} (_ : Only F a w) {g : Nat} (_ : g < a.heap.size → F g) (n : Nat), Only F a (setCells w g n vs)
  | [], _, h, _, _, _ => h
  | v :: vs, _, h, _, hp, n => only_sets vs (h.setCell hp n v) hp (n + 1)
theorem cell_sets : ∀ (vs : List Value) {w : World} {g b o : Nat} (_ : b ≠ g) (n : Nat), (setCells w g n vs).cell? ⟨b, o, none⟩ = w.cell? ⟨b, o, none⟩
  | [], _, _, _, _, _, _ => rfl
  | v :: vs, w, g, b, o, h, n => by
    show (setCells (w.setCell ⟨g, n, none⟩ v) g (n + 1) vs).cell? _ = _
    rw [cell_sets vs h (n + 1)]
    unfold World.cell?
    rw [Below.heap_setCell w ⟨g, n, none⟩ v b h]
theorem heap_sets : ∀ (vs : List Value) {w : World} {g b : Nat} (_ : b ≠ g) (n : Nat), (setCells w g n vs).heap[b]? = w.heap[b]?
  | [], _, _, _, _, _ => rfl
  | v :: vs, w, g, b, h, n => by
    show (setCells (w.setCell ⟨g, n, none⟩ v) g (n + 1) vs).heap[b]? = _
    rw [heap_sets vs h (n + 1), Below.heap_setCell w ⟨g, n, none⟩ v b h]
theorem ownsRow_drew {w : World} {b : Nat} {e : TypeId} {z : Nat} {v : Value} {n : Nat} {xs : List Value} (h : w.ownsRow b e z v n xs) : w.drew.ownsRow b e z v n xs := h
theorem ivW_len (p : Int × Mark) : (ivW p).length = 4 := rfl
theorem ownsRow_blk {w : World} {e : TypeId} {z n r k m : Nat} {xs : List Value} (h : w.ownsRow 0 e z (.slice (some ⟨r, 0, none⟩) k m) n xs) : ∃ cur, Blk w r e cur := by
  obtain ⟨_, h2⟩ := h
  rcases h2 with ⟨h2, _⟩ | ⟨g, cap', cur, h2, h0, hg, _⟩
  · cases h2
  · simp only [Value.slice.injEq, Option.some.injEq, Addr.mk.injEq, true_and, and_true] at h2
    obtain ⟨rfl, _⟩ := h2
    exact ⟨cur, hg⟩
theorem ne_of_types {w : World} {a b : Nat} {t u : TypeId} {c d : Array Value} (h : Blk w a t c) (k : Blk w b u d) (hn : t ≠ u) : a ≠ b := by
  intro e; subst e
  unfold Blk at h k
  rw [h] at k
  injection k with k
  injection k with k1 k2
  exact hn k2
theorem ne_of_map {C : Type} {w : World} {a b : Nat} {t : TypeId} {c : Array Value} [DecidableEq C] {K : Codec C} {P : Program} {k : TypeId} {l : MapG.AL C} (h : Blk w a t c) (m : Mk K P k w b l) : a ≠ b := by
  intro e; subst e
  obtain ⟨es, clock, h1⟩ := m.block
  unfold Blk at h
  rw [h] at h1
  injection h1 with h1
  cases h1
theorem HeapAtW.same {w w' : World} {hb ab : Nat} {v : Value} {xs : HL Int Mark} (h : HeapAtW w hb ab v xs) (e1 : w'.heap[hb]? = w.heap[hb]?) (e2 : w'.heap[ab]? = w.heap[ab]?) (e3 : ∀ r, v.ownBlock = some r → w'.heap[r]? = w.heap[r]?) : HeapAtW w' hb ab v xs := by
  refine ⟨e1.trans h.head, ?_, ?_, h.nodup, h.ok, h.le⟩
  · obtain ⟨h1, h2⟩ := h.row
    refine ⟨h1, ?_⟩
    rcases h2 with h2 | ⟨g, cap, cur, h2, h0, hg, hc⟩
    · exact .inl h2
    · exact .inr ⟨g, cap, cur, h2, h0, (e3 g (by rw [h2]; rfl)).trans hg, hc⟩
  · obtain ⟨l, hm, hi⟩ := h.map
    exact ⟨l, hm.same e2, hi⟩
theorem HeapAtW.below {w w' : World} {hb ab : Nat} {v : Value} {xs : HL Int Mark} (h : HeapAtW w hb ab v xs) (hb' : Below w.heap.size w w') : HeapAtW w' hb ab v xs :=
  h.same (hb'.block _ h.head.lt) (by obtain ⟨l, hm, _⟩ := h.map; exact hb'.block _ hm.lt) fun r hr => hb'.block _ (h.row.lt r hr).2
theorem HeapAtW.drewN {w : World} {hb ab : Nat} {v : Value} {xs : HL Int Mark} (h : HeapAtW w hb ab v xs) (n : Nat) : HeapAtW (w.drewN n) hb ab v xs := h.same rfl rfl fun _ _ => rfl
theorem HeapAtW.drew {w : World} {hb ab : Nat} {v : Value} {xs : HL Int Mark} (h : HeapAtW w hb ab v xs) : HeapAtW w.drew hb ab v xs := h.same rfl rfl fun _ _ => rfl
end Go.Proofs.YtjmdgicdpggljaaGreat.GH

/- Proved: heaps whose keys are pairs of numbers: the key's law, and what a heap is in memory. -/
namespace Go.Proofs.YtjmdgicdpggljaaGreat.GH
open Go.RowKit Go.Proofs.YtjmdgicdpggljaaGreat.Histo
set_option linter.unusedVariables false
open Go.Proofs.YtjmdgicdpggljaaGreat.MapG (Codec Mk)
open Go.Proofs.YtjmdgicdpggljaaGreat.MapI (W64)

def kvalT (k : TKey) : Value := .agg #[.int .i64 k.kind, .int .i64 k.id]
def klitT (k : TKey) : Lit := .string (keyBytes [.int .i64 k.kind, .int .i64 k.id])
structure KeyOkT (k : TKey) : Prop where
  a : W64 k.kind
  b : W64 k.id
theorem lawT : WideMaps.KeyLaw Tryz.prog 90 := deep_law_laid (by kernel_rfl) (m := 2) (by omega) (of_decide_eq_true (by kernel_rfl)) (by kernel_rfl) (by kernel_rfl)
theorem keyedT : Maps.Keyed Tryz.prog 90 := Maps.Keyed.of_law lawT
theorem keyTypeT : Tryz.prog.keyType 90 = true := by kernel_rfl
theorem cellsT : Tryz.prog.cellsOf 90 = 2 := by kernel_rfl
theorem cellsI : Tryz.prog.cellsOf 3 = 1 := by kernel_rfl
theorem sizeT : ∃ n, Tryz.prog.types.size = n + 1 := ⟨Tryz.prog.types.size - 1, by have : 0 < Tryz.prog.types.size := of_decide_eq_true (by kernel_rfl); omega⟩
theorem kvT0 (k : TKey) (h : KeyOkT k) : keyOf Tryz.prog 90 (kvalT k) = some (klitT k) := by
  obtain ⟨n, hn⟩ := sizeT
  unfold keyOf kvalT
  rw [Tryz.underlying90]
  simp only [keyTypeT, Value.formed, Tryz.underlying90, cellsT, Bool.true_and, Value.cells]
  rw [hn]
  simp [Program.keyLits, Tryz.underlying90, Tryz.underlying3, cellsT, cellsI, h.a, h.b, klitT]
theorem klT (k : TKey) (h : KeyOkT k) : Tryz.prog.keyLits (Tryz.prog.types.size + 1) 90 [.int .i64 k.kind, .int .i64 k.id] = some [.int .i64 k.kind, .int .i64 k.id] := by
  obtain ⟨n, hn⟩ := sizeT
  rw [hn]
  simp [Program.keyLits, Tryz.underlying90, Tryz.underlying3, cellsT, cellsI, h.a, h.b]
theorem keyBytesT (a b c d : Int) (h1 : W64 a) (h2 : W64 b) (h3 : W64 c) (h4 : W64 d) (h : keyBytes [.int .i64 a, .int .i64 b] = keyBytes [.int .i64 c, .int .i64 d]) : a = c ∧ b = d := by
  have := keyLits_inj (klT ⟨a, b⟩ ⟨h1, h2⟩) (klT ⟨c, d⟩ ⟨h3, h4⟩) h
  simpa using this
def kT : Codec TKey := ⟨klitT, kvalT, KeyOkT, fun a b ha hb => by
  unfold klitT
  simp only [Lit.sameKey]
  rw [Bool.eq_iff_iff]
  simp only [beq_iff_eq, decide_eq_true_eq]
  constructor
  · intro h
    obtain ⟨e1, e2⟩ := keyBytesT _ _ _ _ ha.a ha.b hb.a hb.b h
    cases a; cases b; simp at e1 e2; simp [e1, e2]
  · intro h; rw [h]⟩
theorem kvT (x : TKey) (h : kT.ok x) : keyOf Tryz.prog 90 (kT.val x) = some (kT.lit x) := kvT0 x h
def ivT (p : TKey × TMark) : List Value := .int .i64 p.1.kind :: .int .i64 p.1.id :: p.2.vals
structure EntT (p : TKey × TMark) : Prop where
  k : KeyOkT p.1
  v : True
structure HeapAtT (w : World) (hb ab : Nat) (v : Value) (xs : HL TKey TMark) : Prop where
  head : Blk w hb 114 #[.func (.func 19) #[] #[], v, .map (some ab)]
  row : w.ownsRow 0 193 5 v xs.length (xs.flatMap ivT)
  map : ∃ l, Mk kT Tryz.prog 90 w ab l ∧ Idx l xs
  nodup : (xs.map (·.1)).Nodup
  ok : ∀ p ∈ xs, EntT p
  le : xs.length ≤ 1099511627776
theorem ivT_len (p : TKey × TMark) : (ivT p).length = 5 := rfl
theorem HeapAtT.same {w w' : World} {hb ab : Nat} {v : Value} {xs : HL TKey TMark} (h : HeapAtT w hb ab v xs) (e1 : w'.heap[hb]? = w.heap[hb]?) (e2 : w'.heap[ab]? = w.heap[ab]?) (e3 : ∀ r, v.ownBlock = some r → w'.heap[r]? = w.heap[r]?) : HeapAtT w' hb ab v xs := by
  refine ⟨e1.trans h.head, ?_, ?_, h.nodup, h.ok, h.le⟩
  · obtain ⟨h1, h2⟩ := h.row
    refine ⟨h1, ?_⟩
    rcases h2 with h2 | ⟨g, cap, cur, h2, h0, hg, hc⟩
    · exact .inl h2
    · exact .inr ⟨g, cap, cur, h2, h0, (e3 g (by rw [h2]; rfl)).trans hg, hc⟩
  · obtain ⟨l, hm, hi⟩ := h.map
    exact ⟨l, hm.same e2, hi⟩
theorem HeapAtT.below {w w' : World} {hb ab : Nat} {v : Value} {xs : HL TKey TMark} (h : HeapAtT w hb ab v xs) (hb' : Below w.heap.size w w') : HeapAtT w' hb ab v xs :=
  h.same (hb'.block _ h.head.lt) (by obtain ⟨l, hm, _⟩ := h.map; exact hb'.block _ hm.lt) fun r hr => hb'.block _ (h.row.lt r hr).2
theorem HeapAtT.drewN {w : World} {hb ab : Nat} {v : Value} {xs : HL TKey TMark} (h : HeapAtT w hb ab v xs) (n : Nat) : HeapAtT (w.drewN n) hb ab v xs := h.same rfl rfl fun _ _ => rfl
theorem HeapAtT.drew {w : World} {hb ab : Nat} {v : Value} {xs : HL TKey TMark} (h : HeapAtT w hb ab v xs) : HeapAtT w.drew hb ab v xs := h.same rfl rfl fun _ _ => rfl
end Go.Proofs.YtjmdgicdpggljaaGreat.GH
