/- Proved: how the document's world (greenhouselaw19) is turned by a step's parts. -/
import Derived.Test.YtopbhdpfakjkjaaLawBoot
namespace Go.Proofs.Ytopbhdpfakjkjaa.Aud
open Go.RowKit Go.Proofs.Ytopbhdpfakjkjaa.Histo Go.Proofs.Ytopbhdpfakjkjaa.Event Go.Proofs.Ytopbhdpfakjkjaa.Ring
set_option linter.unusedVariables false
open Go.Proofs.Ytopbhdpfakjkjaa.MapI (AL At Rng W64 At.alloc At.drew)
theorem own_map_ne {w : World} {base size n m b : Nat} {e : TypeId} {v : Value} {xs : List Value} {l : AL} (h : w.ownsRow base e size v n xs) (hm : At Try.prog 3 w b m l) : ∀ k, v.ownBlock = some k → k ≠ b := by
  intro k hk e
  subst e
  rcases h.2 with ⟨rfl, _⟩ | ⟨g, cap, cur, rfl, _, hgg, _⟩
  · cases hk
  · injection hk with hk; subst hk
    exact map_blk_ne hm hgg rfl
/-- A set that holds what of the world's blocks may turn, and what is new, and no other's block. -/
theorem LWb.base {F : Nat → Prop} {w0 w : World} {a b2 b3 N : Nat} {s : AS} (h : LWb F w0 a b2 b3 N s w) :
    ∃ G : Nat → Prop, LWb G w a b2 b3 N s w ∧ (∀ i, G i → F i) ∧ ∀ g t cs, Blk w g t cs → t ≠ 82 → t ≠ 92 → ¬ G g := by
  obtain ⟨v, ha, hrow, hvF⟩ := h.row
  refine ⟨fun i => i = a ∨ i = b2 ∨ i = b3 ∨ v.ownBlock = some i ∨ w.heap.size ≤ i, ⟨⟨v, ha, hrow, fun k hk => .inr (.inr (.inr (.inl hk)))⟩, h.m2, h.m3, h.d23, Only.refl _, fun i hi => .inr (.inr (.inr (.inr hi))), ⟨.inl rfl, .inr (.inl rfl), .inr (.inr (.inl rfl))⟩, h.len, h.srt, h.wf, h.sz, h.me⟩, ?_, ?_⟩
  · rintro i (rfl | rfl | rfl | hi | hi)
    · exact h.na.1
    · exact h.na.2.1
    · exact h.na.2.2
    · exact hvF i hi
    · exact h.hF i (Nat.le_trans h.below.size hi)
  · rintro g t cs hg h1 h2 (rfl | rfl | rfl | hi | hi)
    · exact blk_neq hg ha h1 rfl
    · exact map_blk_ne h.m2 hg rfl
    · exact map_blk_ne h.m3 hg rfl
    · exact own_neq hrow hg h2 hi.symm
    · have := hg.lt; omega
theorem LWb.rebase {F G : Nat → Prop} {w0 w w' : World} {a b2 b3 N M : Nat} {s s' : AS} (h : LWb F w0 a b2 b3 N s w) (k : LWb G w a b2 b3 M s' w') (hG : ∀ i, G i → F i) : LWb F w0 a b2 b3 M s' w' := by
  obtain ⟨v, h1, h2, h3⟩ := k.row
  exact ⟨⟨v, h1, h2, fun i hi => hG i (h3 i hi)⟩, k.m2, k.m3, k.d23, h.below.trans k.below (fun i _ hg => hG i hg), h.hF, h.na, k.len, k.srt, k.wf, k.sz, k.me⟩
theorem LWb.setSize {F : Nat → Prop} {w0 w w' : World} {a b2 b3 N : Nat} {s : AS} {l : AL} (h : LWb F w0 a b2 b3 N s w) (hm : At Try.prog 3 w' b2 (N + 1) l) (hg : w.grownBy w' (some b2)) (hs : Small l) : LWb F w0 a b2 b3 (N + 1) { s with size := l } w' := by
  obtain ⟨v, h1, h2, h3⟩ := h.row
  exact ⟨⟨v, h1.grown hg (fun e => map_blk_ne h.m2 h1 (by injection e)), own_same h2 (fun k hk => hg.block k (h2.lt k hk).2 (fun e => own_map_ne h2 h.m2 k hk (by injection e))), h3⟩, hm, (h.m3.same (hg.block _ h.m3.lt (fun e => h.d23 (by injection e with e; exact e.symm)))).mono (by omega), h.d23,
    h.below.grown hg (fun k e => by injection e with e; subst e; exact h.na.2.1), h.hF, h.na, Nat.le_trans h.len (by omega), h.srt, h.wf, hs, h.me⟩
theorem LWb.setMem {F : Nat → Prop} {w0 w w' : World} {a b2 b3 N : Nat} {s : AS} {l : AL} (h : LWb F w0 a b2 b3 N s w) (hm : At Try.prog 3 w' b3 (N + 1) l) (hg : w.grownBy w' (some b3)) (hs : Small l) : LWb F w0 a b2 b3 (N + 1) { s with mem := l } w' := by
  obtain ⟨v, h1, h2, h3⟩ := h.row
  exact ⟨⟨v, h1.grown hg (fun e => map_blk_ne h.m3 h1 (by injection e)), own_same h2 (fun k hk => hg.block k (h2.lt k hk).2 (fun e => own_map_ne h2 h.m3 k hk (by injection e))), h3⟩, (h.m2.same (hg.block _ h.m2.lt (fun e => h.d23 (by injection e)))).mono (by omega), hm, h.d23,
    h.below.grown hg (fun k e => by injection e with e; subst e; exact h.na.2.2), h.hF, h.na, Nat.le_trans h.len (by omega), h.srt, h.wf, h.sz, hs⟩
theorem rowL_set {u : Value} {j : Nat} (hj : j < 5) : ∀ (l : List Th) (i : Nat) (t t' : Th), l[i]? = some t → t'.row = t.row.set j u → rowL (l.set i t') = (rowL l).set (i * 5 + j) u
  | [], _, _, _, h, _ => by cases h
  | q :: r, 0, t, t', h, ht => by
    injection h with h; subst h
    show t'.row ++ rowL r = (q.row ++ rowL r).set (0 * 5 + j) u
    rw [Nat.zero_mul, Nat.zero_add, List.set_append_left _ _ (by rw [Th.row_len]; exact hj), ht]
  | q :: r, i + 1, t, t', h, ht => by
    show q.row ++ rowL (r.set i t') = (q.row ++ rowL r).set ((i + 1) * 5 + j) u
    rw [List.set_append_right _ _ (by rw [Th.row_len]; omega), rowL_set hj r i t t' (by simpa using h) ht, Th.row_len]
    congr 2
    omega
theorem upd_at (f : Th → Th) : ∀ (l : List Th) (i : Nat) (t : Th), (l.Pairwise fun x y => x.id < y.id) → l[i]? = some t → (l.map fun u => if u.id = t.id then f u else u) = l.set i (f t)
  | [], _, _, _, h => by cases h
  | u :: r, 0, t, hp, h => by
    injection h with h; subst h
    rw [List.pairwise_cons] at hp
    rw [List.map_cons, if_pos rfl, List.set_cons_zero]
    congr 1
    conv => rhs; rw [← List.map_id r]
    refine List.map_congr_left fun x hx => ?_
    have := hp.1 x hx
    rw [if_neg (by omega)]; rfl
  | u :: r, i + 1, t, hp, h => by
    rw [List.pairwise_cons] at hp
    have ht : r[i]? = some t := by simpa using h
    have := hp.1 t (List.mem_of_getElem? ht)
    rw [List.map_cons, if_neg (by omega), List.set_cons_succ, upd_at f r i t hp.2 ht]
theorem LWb.turn {F : Nat → Prop} {w0 w : World} {a b2 b3 N : Nat} {s : AS} (h : LWb F w0 a b2 b3 N s w) {i : Nat} {t : Th} (ht : s.boxes[i]? = some t) (f : Th → Th) (hf : ∀ u : Th, (f u).id = u.id ∧ (f u).fn = u.fn ∧ (f u).host = u.host) (j : Nat) (u : Value) (hj : j < 5) (hr : (f t).row = t.row.set j u) {g cap : Nat}
    (ha : Blk w a 82 #[.slice (some ⟨g, 0, none⟩) s.boxes.length cap, .map (some b2), .map (some b3), .int .i64 s.next]) : LWb F w0 a b2 b3 N (s.upd t.id f) (w.setCell ⟨g, i * 5 + j, none⟩ u) := by
  obtain ⟨v, ha', hrow, hvF⟩ := h.row
  have hv : v = .slice (some ⟨g, 0, none⟩) s.boxes.length cap := by
    have h1 := ha.cell 0
    have h2 := ha'.cell 0
    rw [h1] at h2
    injection h2 with h2
    exact h2.symm
  subst hv
  have hu : (s.upd t.id f).boxes = s.boxes.set i (f t) := upd_at f _ i t h.srt ht
  obtain ⟨h1, h2⟩ := hrow.stored (i * 5 + j) u
  have hl : (s.upd t.id f).boxes.length = s.boxes.length := by rw [hu, List.length_set]
  have hne : ∀ k, (Value.slice (some ⟨g, 0, none⟩) s.boxes.length cap).ownBlock = some k → k = g := fun k hk => by injection hk with hk; exact hk.symm
  refine ⟨⟨.slice (some ⟨g, 0, none⟩) (s.upd t.id f).boxes.length cap, ?_, ?_, fun k hk => hvF k hk⟩, h.m2.same (h2.block _ h.m2.lt (fun e => own_map_ne hrow h.m2 g rfl (by injection e with e; exact e.symm))), h.m3.same (h2.block _ h.m3.lt (fun e => own_map_ne hrow h.m3 g rfl (by injection e with e; exact e.symm))), h.d23, h.below.setCell (hvF g rfl) u, h.hF, h.na, ?_, ?_, ?_, h.sz, h.me⟩
  · rw [hl]; exact ha.grown h2 (own_neq hrow ha (by decide))
  · rw [hl, hu, rowL_set hj _ i t (f t) ht hr]; exact h1
  · rw [hl]; exact h.len
  · show (s.boxes.map _).Pairwise _
    rw [List.pairwise_map]
    refine h.srt.imp fun {x y} hxy => ?_
    split <;> split <;> first | exact hxy | (simp only [(hf _).1]; exact hxy)
  · intro x hx
    obtain ⟨y, hy, rfl⟩ := List.mem_map.1 hx
    have := h.wf y hy
    split
    · rw [(hf y).1, (hf y).2.1, (hf y).2.2]; exact this
    · exact this
/-- The sandboxes of a host are gone: the others lie in a new slice. -/
theorem LWb.rest {F : Nat → Prop} {w0 w w' : World} {a b2 b3 N : Nat} {s : AS} {p : Th → Bool} {v' : Value} (h : LWb F w0 a b2 b3 N s w) (hb : Below w.heap.size w w') (hown : w'.ownsRow w.heap.size 92 5 v' (s.boxes.filter p).length (rowL (s.boxes.filter p))) : LWb F w0 a b2 b3 N { s with boxes := s.boxes.filter p } (w'.setCell ⟨a, 0, none⟩ v') := by
  obtain ⟨v, ha, _, _⟩ := h.row
  have hset : ∀ k, k ≠ a → (w'.setCell ⟨a, 0, none⟩ v').heap[k]? = w'.heap[k]? := fun k hk => Below.heap_setCell w' ⟨a, 0, none⟩ v' k hk
  have hm2 : (w'.setCell ⟨a, 0, none⟩ v').heap[b2]? = w.heap[b2]? := (hset _ (fun e => map_blk_ne h.m2 ha e.symm)).trans (hb.block _ h.m2.lt)
  have hm3 : (w'.setCell ⟨a, 0, none⟩ v').heap[b3]? = w.heap[b3]? := (hset _ (fun e => map_blk_ne h.m3 ha e.symm)).trans (hb.block _ h.m3.lt)
  refine ⟨⟨v', (ha.below hb ha.lt).set_ 0 v', ?_, fun k hk => h.hF k (Nat.le_trans h.below.size (hown.lt k hk).1)⟩, h.m2.same hm2, h.m3.same hm3, h.d23, (h.below.next hb).setCell h.na.1 v', h.hF, h.na, Nat.le_trans (List.length_filter_le _ _) h.len, h.srt.filter _, fun u hu => h.wf u (List.mem_filter.1 hu).1, h.sz, h.me⟩
  exact own_mono (own_same (w' := w'.setCell ⟨a, 0, none⟩ v') hown (fun k hk => hset k (by have := (hown.lt k hk).1; have := ha.lt; omega))) (Nat.zero_le _)
end Go.Proofs.Ytopbhdpfakjkjaa.Aud
