/- Proved: what the auditor's used answers: how much memory of a host is used. The auditor lies in one block, three maps and a block for each sandbox. -/
import Derived.Test.YtopbhdpfakjkjaaAnswer
import Derived.Test.YtopbhdpfakjkjaaRing
import Derived.Test.YtopbhdpfakjkjaaMapI
namespace Go.Proofs.Ytopbhdpfakjkjaa.Aud
open Go.RowKit Go.Proofs.Ytopbhdpfakjkjaa.Histo Go.Proofs.Ytopbhdpfakjkjaa.Event Go.Proofs.Ytopbhdpfakjkjaa.Ring
set_option linter.unusedVariables false
open Go.Proofs.Ytopbhdpfakjkjaa.MapI (AL At Rng W64)

/-- A sandbox, as it is known from outside. -/
structure Th where
  id : Int
  fn : Int
  host : Int
  busy : Bool
  boots : Bool
def Th.cells (t : Th) : Array Value := #[.int .i64 t.fn, .int .i64 t.host, .bool t.busy, .bool t.boots]
/-- What is known from outside. -/
structure AS where
  boxes : List Th
  size : AL
  mem : AL
  next : Int
def num (l : AL) (k : Int) : Int := match MapI.get l k with | some (.int _ v) => v | _ => 0
def ents (blk : Int → Nat) (l : List Th) : AL := l.map fun t => (t.id, .pointer (some ⟨blk t.id, 0, none⟩))
def sumMem (mem : AL) (h : Int) : List Th → Int | [] => 0 | t :: r => (if t.host = h then num mem t.fn else 0) + sumMem mem h r
/-- Numbers from 0 to 2^31 - 1. -/
def Small (l : AL) : Prop := ∀ k v, MapI.get l k = some v → ∃ x, v = .int .i64 x ∧ 0 ≤ x ∧ x ≤ 2147483647

/-- What was there is as it was, but for the blocks of a set. -/
structure Only (F : Nat → Prop) (a c : World) : Prop where
  os : c.os = a.os
  tape : c.tape = a.tape
  output : c.output = a.output
  size : a.heap.size ≤ c.heap.size
  block : ∀ i, i < a.heap.size → ¬ F i → c.heap[i]? = a.heap[i]?
section
variable {F : Nat → Prop} {a w w' : World}
theorem Only.refl (a : World) : Only F a a := ⟨rfl, rfl, rfl, Nat.le_refl _, fun _ _ _ => rfl⟩
theorem Only.next (h : Only F a w) (hb : Below w.heap.size w w') : Only F a w' := ⟨hb.os.trans h.os, hb.tape.trans h.tape, hb.output.trans h.output, Nat.le_trans h.size hb.size, fun i hi hn => (hb.block i (Nat.lt_of_lt_of_le hi h.size)).trans (h.block i hi hn)⟩
theorem Only.grown (h : Only F a w) {r : Option Nat} (hg : w.grownBy w' r) (hr : ∀ k, r = some k → F k) : Only F a w' := ⟨hg.os.trans h.os, hg.tape.trans h.tape, hg.output.trans h.output, Nat.le_trans h.size hg.size, fun i hi hn => (hg.block i (Nat.lt_of_lt_of_le hi h.size) (fun e => hn (hr i e.symm))).trans (h.block i hi hn)⟩
theorem Only.alloc (h : Only F a w) (o : Obj) : Only F a (w.alloc o) := h.next ((Below.refl _ _).alloc (Nat.le_refl _) _)
theorem Only.drew (h : Only F a w) : Only F a w.drew := ⟨h.os, h.tape, h.output, h.size, h.block⟩
theorem Only.drewN (h : Only F a w) (n : Nat) : Only F a (w.drewN n) := ⟨h.os, h.tape, h.output, h.size, h.block⟩
theorem Only.setCell (h : Only F a w) {p : Addr} (hp : F p.block) (u : Value) : Only F a (w.setCell p u) := ⟨h.os, h.tape, h.output, by simpa [World.setCell] using h.size, fun i hi hn => (Below.heap_setCell w p u i (fun e => hn (by rw [e]; exact hp))).trans (h.block i hi hn)⟩
theorem Only.below {B : Nat} (h : Only (B ≤ ·) a w) : Below B a w ∨ a.heap.size < B := by
  by_cases hB : B ≤ a.heap.size
  · exact .inl ⟨h.os, h.tape, h.output, h.size, fun i hi => h.block i (by omega) (by omega)⟩
  · exact .inr (by omega)
end
structure AWb (F : Nat → Prop) (w0 : World) (a b1 b2 b3 N : Nat) (blk : Int → Nat) (s : AS) (w : World) : Prop where
  aud : Blk w a 77 #[.map (some b1), .map (some b2), .map (some b3), .int .i64 s.next]
  m1 : At Try.prog 3 w b1 N (ents blk s.boxes)
  m2 : At Try.prog 3 w b2 N s.size
  m3 : At Try.prog 3 w b3 N s.mem
  th : ∀ t ∈ s.boxes, Blk w (blk t.id) 103 t.cells
  inj : ∀ t ∈ s.boxes, ∀ u ∈ s.boxes, blk t.id = blk u.id → t.id = u.id
  d12 : b1 ≠ b2
  d13 : b1 ≠ b3
  d23 : b2 ≠ b3
  below : Only F w0 w
  hF : ∀ i, w0.heap.size ≤ i → F i
  na : F a ∧ F b1 ∧ F b2 ∧ F b3
  nt : ∀ t ∈ s.boxes, F (blk t.id)
  wf : ∀ t ∈ s.boxes, W64 t.id ∧ W64 t.fn ∧ W64 t.host
  sz : Small s.size
  me : Small s.mem

theorem num_small {l : AL} (h : Small l) (k : Int) : 0 ≤ num l k ∧ num l k ≤ 2147483647 := by
  unfold num
  cases hg : MapI.get l k with
  | none => simp
  | some v => obtain ⟨x, rfl, h0, h1⟩ := h k v hg; exact ⟨h0, h1⟩
theorem num_getD {l : AL} (h : Small l) (k : Int) : (MapI.get l k).getD (.int .i64 0) = .int .i64 (num l k) := by
  unfold num
  cases hg : MapI.get l k with
  | none => rfl
  | some v => obtain ⟨x, rfl, h0, h1⟩ := h k v hg; rfl
theorem sumMem_bd {mem : AL} (h : Small mem) (x : Int) : ∀ l : List Th, 0 ≤ sumMem mem x l ∧ sumMem mem x l ≤ 2147483647 * l.length
  | [] => by simp [sumMem]
  | t :: r => by
    have h1 := sumMem_bd h x r
    have h2 := num_small h t.fn
    simp only [sumMem, List.length_cons]
    split <;> omega
theorem ents_get (blk : Int → Nat) (l : List Th) (k : Int) : MapI.get (ents blk l) k = (l.find? fun t => t.id == k).map fun t => .pointer (some ⟨blk t.id, 0, none⟩) := by
  unfold ents MapI.get
  rw [List.find?_map, Option.map_map]
  rfl
theorem zero_ptr (w : World) : (zeroValue 101).run Try.prog w = .ok (.pointer none) w := by kernel_rfl
theorem zero_int (w : World) : (zeroValue 3).run Try.prog w = .ok (.int .i64 0) w := by kernel_rfl

/-- A sum over those that are no longer to come. -/
def sumDone (mem : AL) (h : Int) (left : Int → Bool) : List Th → Int | [] => 0 | t :: r => (if t.host = h ∧ left t.id = false then num mem t.fn else 0) + sumDone mem h left r
theorem sumDone_bd {mem : AL} (h : Small mem) (x : Int) (left : Int → Bool) : ∀ l : List Th, 0 ≤ sumDone mem x left l ∧ sumDone mem x left l ≤ 2147483647 * l.length
  | [] => by simp [sumDone]
  | t :: r => by
    have h1 := sumDone_bd h x left r
    have h2 := num_small h t.fn
    simp only [sumDone, List.length_cons]
    split <;> omega
theorem sumDone_all (mem : AL) (x : Int) (left : Int → Bool) : ∀ l : List Th, (∀ t ∈ l, left t.id = false) → sumDone mem x left l = sumMem mem x l
  | [], _ => rfl
  | t :: r, h => by
    simp only [sumDone, sumMem]
    rw [sumDone_all mem x left r (fun u hu => h u (List.mem_cons_of_mem _ hu)), h t List.mem_cons_self]
    simp
theorem sumDone_none (mem : AL) (x : Int) (left : Int → Bool) : ∀ l : List Th, (∀ t ∈ l, left t.id = true) → sumDone mem x left l = 0
  | [], _ => rfl
  | t :: r, h => by
    simp only [sumDone]
    rw [sumDone_none mem x left r (fun u hu => h u (List.mem_cons_of_mem _ hu)), h t List.mem_cons_self]
    simp
theorem sumDone_congr (mem : AL) (x : Int) (left left' : Int → Bool) : ∀ l : List Th, (∀ t ∈ l, left t.id = left' t.id) → sumDone mem x left l = sumDone mem x left' l
  | [], _ => rfl
  | t :: r, h => by
    simp only [sumDone]
    rw [sumDone_congr mem x left left' r (fun u hu => h u (List.mem_cons_of_mem _ hu)), h t List.mem_cons_self]
theorem sumDone_step (mem : AL) (x : Int) (left : Int → Bool) : ∀ (l : List Th) (t : Th), l.Pairwise (fun a b => a.id < b.id) → t ∈ l → left t.id = true →
    sumDone mem x (fun z => left z && z != t.id) l = sumDone mem x left l + if t.host = x then num mem t.fn else 0
  | [], _, _, h, _ => by cases h
  | u :: r, t, hp, h, hl => by
    rw [List.pairwise_cons] at hp
    simp only [sumDone]
    rcases List.mem_cons.1 h with rfl | h
    · rw [sumDone_congr mem x (fun z => left z && z != t.id) left r (fun v hv => by
        have := hp.1 v hv
        have : (v.id != t.id) = true := by simp; omega
        simp [this])]
      simp [hl]
      omega
    · have hne := hp.1 t h
      rw [sumDone_step mem x left r t hp.2 h hl]
      have : (u.id != t.id) = true := by simp; omega
      simp only [this, Bool.and_true]
      omega

theorem ents_mem {blk : Int → Nat} {l : List Th} {x : Int} {v : Value} (h : MapI.get (ents blk l) x = some v) : ∃ t ∈ l, t.id = x ∧ v = .pointer (some ⟨blk t.id, 0, none⟩) := by
  rw [ents_get, Option.map_eq_some_iff] at h
  obtain ⟨t, h1, rfl⟩ := h
  have h2 := List.find?_some h1
  exact ⟨t, List.mem_of_find?_eq_some h1, by simpa using h2, rfl⟩
theorem ents_sorted {blk : Int → Nat} {l : List Th} (h : (ents blk l).Pairwise fun p q => p.1 < q.1) : l.Pairwise fun a b => a.id < b.id := by
  unfold ents at h
  rw [List.pairwise_map] at h
  exact h
section
variable {P : Program} (w : World) {ops : Array Oper} {rest : List Oper} {o : Oper} {a : Act} {Q : Exit → Act → World → Prop}
theorem next_th (hg : o.guard = none) (it : Operand) (hop : o.op = Op.next it false) (k : TypeId) (hk : P.underlying k = some (.int .i64)) (b r n : Nat) (blk : Int → Nat) (l : List Th) (left : Int → Bool) (cnt : Nat)
    (hit : a.eval it = .pointer (some ⟨r, 0, none⟩)) (h : Rng P k w b r n (ents blk l) left cnt) (hw : ∀ t ∈ l, W64 t.id)
    (hDone : (∀ t ∈ l, left t.id = false) → wpList P ops Q rest (a.put o.dst (.tuple #[.bool false])) w)
    (hMore : ∀ (t : Th) (w' : World) (cnt' : Nat), t ∈ l → left t.id = true → Rng P k w' b r n (ents blk l) (fun z => left z && z != t.id) cnt' → cnt' < cnt →
      w.grownBy w' (some r) → (Instr.entry (.pointer (some ⟨r, 0, none⟩))).run P w' = .ok (.tuple #[.int .i64 t.id, .pointer (some ⟨blk t.id, 0, none⟩)]) w' → wpList P ops Q rest (a.put o.dst (.tuple #[.bool true, .int .i64 t.id, .pointer (some ⟨blk t.id, 0, none⟩)])) w') :
    wpList P ops Q (o :: rest) a w :=
  MapI.wp_next w hg it hop k hk b r n _ left cnt hit h (fun _ hd => hDone fun t ht => hd t.id (hw t ht)) (fun x v w' cnt' _ hl hget hr hlt hgr _ hen => by
    obtain ⟨t, ht, rfl, rfl⟩ := ents_mem hget
    exact hMore t w' cnt' ht hl hr hlt hgr hen)
end
/-- What a call that makes new blocks alone leaves. -/
def RetN (x : Int) (w : World) (e : Ending) (w' : World) : Prop := e = .returned (.int .i64 x) ∧ Below w.heap.size w w'
theorem RetN.mk {x y : Int} {w w' : World} (h : y = x) (hw : Below w.heap.size w w') : RetN x w (.returned (.int .i64 y)) w' := by subst h; exact ⟨rfl, hw⟩

set_option maxHeartbeats 4000000 in
theorem used_any (F : Nat → Prop) (w0 : World) (a b1 b2 b3 N : Nat) (blk : Int → Nat) (s : AS) (h : Int) (w : World) (hA : AWb F w0 a b1 b2 b3 N blk s w) (hN : N ≤ 1000000) : Calls Try.prog 57 #[.pointer (some ⟨a, 0, none⟩), .int .i64 h] w (RetN (sumMem s.mem h s.boxes) w) := by
  have c0 := hA.aud.cell 0
  have c2 := hA.aud.cell 2
  have hs := ents_sorted (hA.m1.sorted Try.underlying3)
  have hlen : s.boxes.length ≤ N := by have := hA.m1.le; unfold ents at this; simpa using this
  have HA := Lib.hid hA
  have HS := Lib.hid hs
  have HLEN := Lib.hid hlen
  clear hA hs hlen
  go_enter Try.func57, Try.ntmps57
  go_wp2_with (at_range; refine MapI.wp_range w rfl _ 74 rfl 3 101 Try.underlying3 Try.underlying74 b1 N _ rfl HA.out.m1 ?_; intro w1 hrg hg1 _)
  go_frame
  obtain ⟨r, hr⟩ : ∃ r, r = w.heap.size := ⟨_, rfl⟩
  rw [← hr] at hrg ⊢
  have hbl : Below r w w1 := by rw [hr]; exact (Below.refl _ _).grown hg1 (Nat.le_refl _) (fun _ e => by cases e)
  have st : ∃ left cnt, Rng Try.prog 3 w1 b1 r N (ents blk s.boxes) left cnt ∧ sumDone s.mem h left s.boxes = 0 ∧ Below r w w1 := by
    refine ⟨_, _, hrg, sumDone_none _ _ _ _ fun t ht => ?_, hbl⟩
    show (MapI.get (ents blk s.boxes) t.id).isSome = true
    rw [ents_get, Option.isSome_map]
    exact List.find?_isSome.2 ⟨t, ht, by simp⟩
  have ST := Lib.hid st
  have HR := Lib.hid hr
  clear st hrg hg1 hbl hr
  go_loopw [5] (fun nv wr => ∃ left cnt, Rng Try.prog 3 wr b1 r N (ents blk s.boxes) left cnt ∧ nv = .int .i64 (sumDone s.mem h left s.boxes) ∧ Below r w wr) (fun _ wr => wr.rangeLeft b1 r)
  case atStart =>
    obtain ⟨left, cnt, h1, h2, h3⟩ := ST.out
    exact ⟨left, cnt, h1, by rw [h2], h3⟩
  case round =>
    obtain ⟨left, cnt, hrg, rfl, hbl⟩ := hrel
    have hbd := sumDone_bd HA.out.me h left s.boxes
    have hlen := HLEN.out
    go_wp2_with (at_next; refine next_th wr rfl _ rfl 3 Try.underlying3 b1 r N blk s.boxes left cnt rfl hrg (fun t ht => (HA.out.wf t ht).1) ?_ ?_)
    · intro hd
      have hsum := sumDone_all s.mem h left s.boxes hd
      have HSUM := Lib.hid hsum
      have HBL := Lib.hid hbl
      clear hd hsum hrg hbl
      go_wp2
      go_ret
      exact RetN.mk HSUM.out (by rw [← HR.out]; exact HBL.out)
    · intro t w2 cnt2 ht hl hrg2 hlt hg2 hen
      have hbl2 : Below r w w2 := hbl.grown hg2 (by rw [HR.out]; exact hbl.size) (fun _ e => by injection e with e; omega)
      have hat := HA.out.th t ht
      have hb := hat.below hbl2 (by rw [HR.out]; exact hat.lt)
      have haud := HA.out.aud.below hbl2 (by rw [HR.out]; exact HA.out.aud.lt)
      have hm3 := HA.out.m3.same (hbl2.block b3 (by rw [HR.out]; exact HA.out.m3.lt))
      have ct0 : w2.cell? ⟨blk t.id, 0, none⟩ = some (.int .i64 t.fn) := hb.cell 0
      have ct1 : w2.cell? ⟨blk t.id, 1, none⟩ = some (.int .i64 t.host) := hb.cell 1
      have ca2 : w2.cell? ⟨a, 2, none⟩ = some (.map (some b3)) := haud.cell 2
      have hlk : ∀ n, (Instr.lookup 75 (.map (some b3)) (.int .i64 t.fn) false).run Try.prog (w2.drewN n) = .ok (.int .i64 (num s.mem t.fn)) (w2.drewN n) := fun n => by
        have := (hm3.drewN n).look (t := 75) Try.underlying3 Try.underlying75 (zero_int _) (HA.out.wf t ht).2.1
        rw [this, num_getD HA.out.me]
      have hstep := sumDone_step s.mem h left s.boxes t HS.out ht hl
      have hnb := num_small HA.out.me t.fn
      have REL := Lib.hid (And.intro hrg2 (And.intro hbl2 hstep))
      have LEFT := Lib.hid (And.intro hrg.left_eq (And.intro hrg2.left_eq hlt))
      have hbd2 : sumDone s.mem h left s.boxes ≤ 2147483647 * 1000000 := by omega
      have hbd0 := hbd.1
      clear hstep hrg2 hrg hbl hg2 hat hb haud hm3 hbl2 hlt hl hbd
      obtain ⟨u, hu⟩ : ∃ u, u = sumDone s.mem h left s.boxes := ⟨_, rfl⟩
      rw [← hu] at hbd2 hbd0 REL ⊢
      obtain ⟨y, hy⟩ : ∃ y, y = num s.mem t.fn := ⟨_, rfl⟩
      rw [← hy] at hlk hnb REL
      obtain ⟨y0, y1⟩ := hnb
      clear hu hy
      by_cases hh : t.host = h
      · have e1 : (t.host == h) = true := by rw [hh]; simp
        have HH := Lib.hid hh
        clear hh
        go_wp2
        go_quiet (fail)
        go_wp2
        go_roundw
        case rel => exact ⟨_, cnt2, REL.out.1, vi (by have := REL.out.2.2; rw [if_pos HH.out] at this; omega), below_drewN REL.out.2.1 _⟩
        case measure => show w2.rangeLeft b1 r < wr.rangeLeft b1 r; rw [LEFT.out.1, LEFT.out.2.1]; exact LEFT.out.2.2
      · have e1 : (t.host == h) = false := by simpa using hh
        have HH := Lib.hid hh
        clear hh
        go_wp2
        go_roundw
        case rel => exact ⟨_, cnt2, REL.out.1, vi (by have := REL.out.2.2; rw [if_neg HH.out] at this; omega), REL.out.2.1⟩
        case measure => show w2.rangeLeft b1 r < wr.rangeLeft b1 r; rw [LEFT.out.1, LEFT.out.2.1]; exact LEFT.out.2.2
end Go.Proofs.Ytopbhdpfakjkjaa.Aud
