/- Proved: what find and drop of the document's world (greenhouselaw19) answer and leave. Its sandboxes lie in one slice, one behind the other. -/
import Derived.Test.YtopbhdpfakjkjaaAudCmd
import Derived.Maps.AppendAt
namespace Go.Proofs.Ytopbhdpfakjkjaa.Aud
open Go.RowKit Go.Proofs.Ytopbhdpfakjkjaa.Histo Go.Proofs.Ytopbhdpfakjkjaa.Event Go.Proofs.Ytopbhdpfakjkjaa.Ring
set_option linter.unusedVariables false
open Go.Proofs.Ytopbhdpfakjkjaa.MapI (AL At Rng W64 At.alloc At.drew)

/-! ### lists whose members take the same number of cells -/
theorem flat_get {α : Type} (f : α → List Value) (c : Nat) (hc : ∀ a, (f a).length = c) (l : List α) : ∀ (i k : Nat) (a : α), l[i]? = some a → k < c → (l.flatMap f)[i * c + k]? = (f a)[k]? := by
  induction l with
  | nil => intro i k p h; cases h
  | cons q r ih =>
    intro i k p h hk
    rw [List.flatMap_cons]
    cases i with
    | zero =>
      injection h with h; subst h
      rw [List.getElem?_append_left (by rw [hc]; omega), Nat.zero_mul, Nat.zero_add]
    | succ i =>
      rw [List.getElem?_append_right (by rw [hc, Nat.succ_mul]; omega), hc, ← ih i k p h hk]
      congr 1
      rw [Nat.succ_mul]; omega
theorem flat_len {α : Type} (f : α → List Value) (c : Nat) (hc : ∀ a, (f a).length = c) (l : List α) : (l.flatMap f).length = l.length * c := by
  induction l with
  | nil => simp
  | cons q r ih => rw [List.flatMap_cons, List.length_append, ih, hc, List.length_cons, Nat.succ_mul]; omega
theorem flat_take {α : Type} (f : α → List Value) (c : Nat) (hc : ∀ a, (f a).length = c) (l : List α) : ∀ i, (l.flatMap f).take (i * c) = (l.take i).flatMap f := by
  induction l with
  | nil => simp
  | cons q r ih =>
    intro i
    cases i with
    | zero => simp
    | succ i =>
      rw [List.take_succ_cons, List.flatMap_cons, List.flatMap_cons, ← ih i, Nat.succ_mul, ← hc q, Nat.add_comm, List.take_length_add_append]
theorem flat_drop {α : Type} (f : α → List Value) (c : Nat) (hc : ∀ a, (f a).length = c) (l : List α) : ∀ i, (l.flatMap f).drop (i * c) = (l.drop i).flatMap f := by
  induction l with
  | nil => simp
  | cons q r ih =>
    intro i
    cases i with
    | zero => simp
    | succ i =>
      rw [List.drop_succ_cons, List.flatMap_cons, ← ih i, Nat.succ_mul, ← hc q, Nat.add_comm, List.drop_length_add_append]
theorem row_open {w : World} {base size n : Nat} {t : TypeId} {v : Value} {xs : List Value} (h : w.ownsRow base t size v n xs) :
    ∃ ad cap, v = .slice ad n cap ∧ n ≤ cap ∧ ∀ j u, xs[j]? = some u → ∃ g, ad = some ⟨g, 0, none⟩ ∧ g < w.heap.size ∧ w.cell? ⟨g, j, none⟩ = some u ∧ v.ownBlock = some g := by
  have h2 := h
  rcases h2.2 with ⟨rfl, rfl⟩ | ⟨g, cap, cur, rfl, hb, hg, hc, _⟩
  · refine ⟨none, 0, rfl, Nat.le_refl _, fun j u hj => ?_⟩
    have := h2.1
    simp at this
    rw [this] at hj; cases hj
  · refine ⟨some ⟨g, 0, none⟩, cap, rfl, hc, fun j u hj => ⟨g, rfl, (h.lt g rfl).2, ?_, rfl⟩⟩
    have hlt := (List.getElem?_eq_some_iff.1 hj).1
    rw [h.cellAt j (by rw [← h2.1]; exact hlt)]; exact hj

/-! ### the world -/
def Th.row (t : Th) : List Value := [.int .i64 t.id, .int .i64 t.fn, .int .i64 t.host, .bool t.boots, .bool t.busy]
def rowL (l : List Th) : List Value := l.flatMap Th.row
theorem Th.row_len (t : Th) : t.row.length = 5 := rfl
theorem rowL_get {l : List Th} {i k : Nat} {t : Th} (h : l[i]? = some t) (hk : k < 5) : (rowL l)[i * 5 + k]? = t.row[k]? := flat_get _ 5 Th.row_len l i k t h hk
structure LWb (F : Nat → Prop) (w0 : World) (a b2 b3 N : Nat) (s : AS) (w : World) : Prop where
  row : ∃ v, Blk w a 82 #[v, .map (some b2), .map (some b3), .int .i64 s.next] ∧ w.ownsRow 0 92 5 v s.boxes.length (rowL s.boxes) ∧ ∀ k, v.ownBlock = some k → F k
  m2 : At Try.prog 3 w b2 N s.size
  m3 : At Try.prog 3 w b3 N s.mem
  d23 : b2 ≠ b3
  below : Only F w0 w
  hF : ∀ i, w0.heap.size ≤ i → F i
  na : F a ∧ F b2 ∧ F b3
  len : s.boxes.length ≤ N
  srt : s.boxes.Pairwise fun x y => x.id < y.id
  wf : ∀ t ∈ s.boxes, W64 t.id ∧ W64 t.fn ∧ W64 t.host
  sz : Small s.size
  me : Small s.mem
theorem LWb.next {F : Nat → Prop} {w0 w w' : World} {a b2 b3 N : Nat} {s : AS} (h : LWb F w0 a b2 b3 N s w) (hb : Below w.heap.size w w') : LWb F w0 a b2 b3 N s w' := by
  obtain ⟨v, h1, h2, h3⟩ := h.row
  refine ⟨⟨v, h1.below hb h1.lt, ⟨h2.1, ?_⟩, h3⟩, h.m2.same (hb.block _ h.m2.lt), h.m3.same (hb.block _ h.m3.lt), h.d23, h.below.next hb, h.hF, h.na, h.len, h.srt, h.wf, h.sz, h.me⟩
  rcases h2.2 with h0 | ⟨g, cap, cur, e1, e2, e3, e4⟩
  · exact .inl h0
  · exact .inr ⟨g, cap, cur, e1, e2, (hb.block g (h2.lt g (by rw [e1]; rfl)).2).trans e3, e4⟩
/-- The place of a sandbox; below nought: there is none. -/
def idx (id : Int) : List Th → Int → Int | [], _ => -1 | t :: r, k => if t.id = id then k else idx id r (k + 1)
theorem idx_none (id : Int) : ∀ (l : List Th) (k : Int), (l.find? fun t => t.id == id) = none → idx id l k = -1
  | [], _, _ => rfl
  | t :: r, k, h => by
    rw [List.find?_cons] at h
    cases ht : t.id == id with
    | true => rw [ht] at h; cases h
    | false =>
      rw [ht] at h
      have : ¬ t.id = id := by simpa using ht
      show (if t.id = id then k else idx id r (k + 1)) = -1
      rw [if_neg this]
      exact idx_none id r (k + 1) h
theorem idx_some (id : Int) : ∀ (l : List Th) (k : Int) (t : Th), (l.find? fun t => t.id == id) = some t → ∃ i : Nat, idx id l k = k + i ∧ l[i]? = some t ∧ i < l.length ∧ t.id = id
  | [], _, _, h => by cases h
  | u :: r, k, t, h => by
    rw [List.find?_cons] at h
    cases hu : u.id == id with
    | true =>
      rw [hu] at h
      injection h with h; subst h
      have : u.id = id := by simpa using hu
      exact ⟨0, by show (if u.id = id then k else _) = _; rw [if_pos this]; omega, rfl, by simp, this⟩
    | false =>
      rw [hu] at h
      have : ¬ u.id = id := by simpa using hu
      obtain ⟨i, h1, h2, h3, h4⟩ := idx_some id r (k + 1) t h
      exact ⟨i + 1, by show (if u.id = id then k else idx id r (k + 1)) = _; rw [if_neg this, h1]; omega, by simpa using h2, by simp; omega, h4⟩
theorem idx_drop (id : Int) (l : List Th) (i : Nat) (t : Th) (h : l[i]? = some t) : idx id (l.drop i) i = if t.id = id then (i : Int) else idx id (l.drop (i + 1)) ((i + 1 : Nat) : Int) := by
  have hi := (List.getElem?_eq_some_iff.1 h)
  obtain ⟨hlt, he⟩ := hi
  rw [List.drop_eq_getElem_cons hlt, he]
  rfl
set_option maxHeartbeats 4000000 in
set_option maxRecDepth 100000 in
theorem lfind_any (F : Nat → Prop) (w0 : World) (a b2 b3 N : Nat) (s : AS) (id : Int) (w : World) (hA : LWb F w0 a b2 b3 N s w) (hN : N ≤ 100000) : Calls Try.prog 50 #[.pointer (some ⟨a, 0, none⟩), .int .i64 id] w (RetN (idx id s.boxes 0) w) := by
  obtain ⟨v, ha, hrow, _⟩ := hA.row
  obtain ⟨ad, cap, rfl, hcap, hcell⟩ := row_open hrow
  have c0 := ha.cell 0
  obtain ⟨n, hn⟩ : ∃ n, n = s.boxes.length := ⟨_, rfl⟩
  rw [← hn] at c0 hcap
  have hn2 : n ≤ 100000 := by rw [hn]; have := hA.len; omega
  have HN := Lib.hid hn
  have HC := Lib.hid hcell
  have HA := Lib.hid hA
  clear hrow hcell hcap ha hN hn hA
  go_enter Try.func50, Try.ntmps50
  go_wp2_with fail
  clear c0
  go_loopw [12] (fun iv wr => ∃ i : Nat, i ≤ n ∧ iv = .int .i64 i ∧ idx id (s.boxes.drop i) i = idx id s.boxes 0 ∧ Below w.heap.size w wr) (fun iv _ => n - (intOf iv).toNat)
  case atStart => exact ⟨0, by omega, rfl, by simp, Below.refl _ _⟩
  case round =>
    obtain ⟨i, hi, rfl, hix, hbl⟩ := hrel
    by_cases hlt : i < n
    · have hil : i < s.boxes.length := by have := HN.out; omega
      obtain ⟨t, ht⟩ : ∃ t, s.boxes[i]? = some t := ⟨_, List.getElem?_eq_getElem hil⟩
      rw [idx_drop id _ i t ht] at hix
      obtain ⟨g, rfl, hg, e0, _⟩ := HC.out (i * 5 + 0) (.int .i64 t.id) (by rw [rowL_get ht (by omega)]; rfl)
      obtain ⟨g1, hg1, _, e1, _⟩ := HC.out (i * 5 + 1) (.int .i64 t.fn) (by rw [rowL_get ht (by omega)]; rfl)
      obtain ⟨g2, hg2, _, e2, _⟩ := HC.out (i * 5 + 2) (.int .i64 t.host) (by rw [rowL_get ht (by omega)]; rfl)
      obtain ⟨g3, hg3, _, e3, _⟩ := HC.out (i * 5 + 3) (.bool t.boots) (by rw [rowL_get ht (by omega)]; rfl)
      obtain ⟨g4, hg4, _, e4, _⟩ := HC.out (i * 5 + 4) (.bool t.busy) (by rw [rowL_get ht (by omega)]; rfl)
      cases hg1; cases hg2; cases hg3; cases hg4
      have f := hbl.block g hg
      have d0 : wr.cell? ⟨g, i * 5, none⟩ = some (.int .i64 t.id) := by rw [← e0]; exact World.cell?_of_block (w := w) f
      have d1 : wr.cell? ⟨g, i * 5 + 1, none⟩ = some (.int .i64 t.fn) := by rw [← e1]; exact World.cell?_of_block (w := w) f
      have d2 : wr.cell? ⟨g, i * 5 + 2, none⟩ = some (.int .i64 t.host) := by rw [← e2]; exact World.cell?_of_block (w := w) f
      have d3 : wr.cell? ⟨g, i * 5 + 3, none⟩ = some (.bool t.boots) := by rw [← e3]; exact World.cell?_of_block (w := w) f
      have d4 : wr.cell? ⟨g, i * 5 + 4, none⟩ = some (.bool t.busy) := by rw [← e4]; exact World.cell?_of_block (w := w) f
      have HBL := Lib.hid (hbl.alloc hbl.size (.cells #[.int .i64 t.id, .int .i64 t.fn, .int .i64 t.host, .bool t.boots, .bool t.busy] 92))
      clear e0 e1 e2 e3 e4 f hbl hg ht
      by_cases heq : t.id = id
      · rw [if_pos heq] at hix
        have hq : (t.id == id) = true := by simpa using heq
        have HIX := Lib.hid hix
        clear hix heq
        go_wp2
        go_ret
        exact RetN.mk HIX.out HBL.out
      · rw [if_neg heq] at hix
        have hq : (t.id == id) = false := by simpa using heq
        have HIX := Lib.hid hix
        clear hix heq
        go_wp2
        go_roundw
        case rel => exact ⟨i + 1, by omega, by go_num, HIX.out, HBL.out⟩
        case measure => simp [intOf]; omega
    · have hz : idx id s.boxes 0 = -1 := by rw [← hix, List.drop_eq_nil_of_le (by have := HN.out; omega)]; rfl
      have HZ := Lib.hid hz
      have HBL := Lib.hid hbl
      clear hz hix hbl
      go_wp2
      go_ret
      exact RetN.mk HZ.out.symm HBL.out
end Go.Proofs.Ytopbhdpfakjkjaa.Aud
