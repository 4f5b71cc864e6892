/- Proved: what the law's own mul answers. -/
import Derived.Test.YtnhonhdomgmhgaaNumWide
import Derived.Laws.AppendOwn
import Derived.Laws.Rows
namespace Go.Proofs.Ytnhonhdomgmhgaa.Num
open Go.RowKit

def Blk (w : World) (g : Nat) (t : TypeId) (cs : Array Value) : Prop := w.heap[g]? = some (.cells cs t (0, 0))
section
variable {w w' : World} {g : Nat} {t : TypeId} {cs : Array Value}
theorem Blk.lt (h : Blk w g t cs) : g < w.heap.size := by
  rcases Nat.lt_or_ge g w.heap.size with hlt | hge
  · exact hlt
  · unfold Blk at h; rw [Array.getElem?_eq_none hge] at h; cases h
theorem Blk.cell (h : Blk w g t cs) (i : Nat) : w.cell? ⟨g, i, none⟩ = cs[i]? := by unfold Blk at h; simp [World.cell?, h]
theorem Blk.frozen (h : Blk w g t cs) (i : Nat) : w.frozen? ⟨g, i, none⟩ = false := by
  unfold Blk at h
  simp [World.frozen?, h]
theorem Blk.new (w : World) (t : TypeId) (cs : Array Value) : Blk (w.alloc (.cells cs t)) w.heap.size t cs := heap_alloc_new w _
theorem Blk.alloc (h : Blk w g t cs) (o : Obj) : Blk (w.alloc o) g t cs := (Below.heap_alloc w o g h.lt).trans h
theorem Blk.set_ (h : Blk w g t cs) (i : Nat) (u : Value) : Blk (w.setCell ⟨g, i, none⟩ u) g t (cs.setIfInBounds i u) := by
  unfold Blk at h ⊢
  simp [World.setCell, Array.getElem?_modify, h]
theorem Blk.far (h : Blk w g t cs) {p : Addr} (hp : g ≠ p.block) (u : Value) : Blk (w.setCell p u) g t cs := (Below.heap_setCell w p u g hp).trans h
theorem Blk.below {B : Nat} (h : Blk w g t cs) (hb : Below B w w') (hg : g < B) : Blk w' g t cs := (hb.block g hg).trans h
end
theorem Blk.set2 {w : World} {g : Nat} {a b : Value} (h : Blk w g 40 #[a, b]) (c d : Value) : Blk ((w.setCell ⟨g, 0, none⟩ c).setCell ⟨g, 1, none⟩ d) g 40 #[c, d] := by
  have := (h.set_ 0 c).set_ 1 d
  simpa using this
theorem Blk.far2 {w : World} {g g' : Nat} {cs : Array Value} (h : Blk w g 40 cs) (hn : g ≠ g') (c d : Value) : Blk ((w.setCell ⟨g', 0, none⟩ c).setCell ⟨g', 1, none⟩ d) g 40 cs :=
  (h.far (p := ⟨g', 0, none⟩) hn c).far (p := ⟨g', 1, none⟩) hn d
def V2 (V : Int) : Array Value := #[.int .u64 (hi V : Int), .int .u64 (lo V : Int)]

/-- The one block holds V, the block of the result is there, and all else lies as it lay. -/
structure HM (w : World) (r0 : Nat) (z : Array Value) (B : World) : Prop where
  z : Blk B r0 40 z
  below : Below w.heap.size w B
  new : w.heap.size ≤ r0
theorem HM.call {w B B' : World} {r0 : Nat} {z : Array Value} (h : HM w r0 z B) (hb : Below B.heap.size B B') : HM w r0 z B' :=
  ⟨h.z.below hb h.z.lt, h.below.trans (hb.mono h.below.size), h.new⟩
theorem HM.alloc {w B : World} {r0 : Nat} {z : Array Value} (h : HM w r0 z B) (o : Obj) : HM w r0 z (B.alloc o) :=
  ⟨h.z.alloc o, h.below.alloc h.below.size o, h.new⟩
theorem HM.set2 {w B : World} {r0 g : Nat} {z : Array Value} (h : HM w r0 z B) (hg : w.heap.size ≤ g) (hn : r0 ≠ g) (c d : Value) : HM w r0 z ((B.setCell ⟨g, 0, none⟩ c).setCell ⟨g, 1, none⟩ d) :=
  ⟨h.z.far2 hn c d, (h.below.setCell (by exact hg) _).setCell (by exact hg) _, h.new⟩

theorem mul_v (X Y : Int) (w : World) (x0 : 0 ≤ X) (x1 : X ≤ 9223372036854775808) (y0 : 0 ≤ Y) (y1 : Y ≤ 9223372036854775808) :
    Calls Try.prog 23 #[.int .u64 (lo X : Int), .int .u64 (lo Y : Int)] w fun e w' => e = .returned (.tuple #[.int .u64 (hi (X * Y) : Int), .int .u64 (lo (X * Y) : Int)]) ∧ w = w' := by
  have h := mul64_any (lo X) (lo Y) (lo_le X) (lo_le Y) w
  have e1 : (lo X : Int) = X := by rw [lo_eq]; omega
  have e2 : (lo Y : Int) = Y := by rw [lo_eq]; omega
  have e3 : ((lo X * lo Y : Nat) : Int) = X * Y := by rw [Int.natCast_mul, e1, e2]
  have e4 : X * Y ≤ 9223372036854775808 * 9223372036854775808 := Int.mul_le_mul x1 y1 y0 (by omega)
  have e5 : 0 ≤ X * Y := Int.mul_nonneg x0 y0
  have h1 := hi_eq (X * Y)
  have h2 := lo_eq (X * Y)
  have a1 : lo X * lo Y / 18446744073709551616 = hi (X * Y) := by
    generalize lo X * lo Y = p at *
    generalize X * Y = q at *
    omega
  have a2 : lo X * lo Y % 18446744073709551616 = lo (X * Y) := by
    generalize lo X * lo Y = p at *
    generalize X * Y = q at *
    omega
  rw [a1, a2] at h
  exact h

set_option maxRecDepth 100000 in
set_option maxHeartbeats 4000000 in
theorem wmul_pp (x y : Int) (w : World) (hx : In x) (hy : In y) (x0 : ¬ x < 0) (y0 : ¬ y < 0) : Calls Try.prog 32 #[.int .i64 x, .int .i64 y] w (RetW (hi (x * y)) (lo (x * y)) w) := by
  have d1 : decide (x < 0) = false := by simp; omega
  have d2 : decide (y < 0) = false := by simp; omega
  have C1 := Lib.hid (fun w => of_v x w hx)
  have C2 := Lib.hid (fun w => of_v y w hy)
  unfold In at hx hy
  have C3 := Lib.hid (fun w => mul_v (x) (y) w (by omega) (by omega) (by omega) (by omega))
  clear hx hy
  obtain ⟨P, hP⟩ : ∃ P, P = x * y := ⟨_, rfl⟩
  rw [← hP] at C3
  have hxy : x * y = P := by rw [hP]
  rw [hxy]
  obtain ⟨HX, hHX⟩ : ∃ H, H = hi x := ⟨_, rfl⟩
  obtain ⟨LX, hLX⟩ : ∃ H, H = lo x := ⟨_, rfl⟩
  obtain ⟨HY, hHY⟩ : ∃ H, H = hi y := ⟨_, rfl⟩
  obtain ⟨LY, hLY⟩ : ∃ H, H = lo y := ⟨_, rfl⟩
  rw [← hHX, ← hLX] at C1
  rw [← hHY, ← hLY] at C2
  rw [← hLX] at C3
  rw [← hLY] at C3
  obtain ⟨HP, hHP⟩ : ∃ H, H = hi P := ⟨_, rfl⟩
  obtain ⟨LP, hLP⟩ : ∃ H, H = lo P := ⟨_, rfl⟩
  rw [← hHP, ← hLP] at C3 ⊢
  clear hP hxy hHX hLX hHY hLY hHP hLP
  go_enter Try.func32, Try.ntmps32
  go_wp2_with fail
  refine (C1.out _).mono ?_
  rintro e w1 ⟨rfl, hb1⟩
  have m0 : HM w w.heap.size #[.int .u64 0, .int .u64 0] (w.alloc (.cells #[.int .u64 0, .int .u64 0] 40)) := ⟨Blk.new _ _ _, (Below.refl _ _).alloc (Nat.le_refl _) _, Nat.le_refl _⟩
  have m1 := m0.call hb1
  obtain ⟨r0, hr0⟩ : ∃ r, r = w.heap.size := ⟨_, rfl⟩
  have M1 : Hid (HM w r0 #[.int .u64 0, .int .u64 0] w1) := Lib.hid (by rw [hr0]; exact m1)
  rw [← hr0]
  clear m0 m1 hb1 hr0
  obtain ⟨ra, hra⟩ : ∃ r, r = w1.heap.size := ⟨_, rfl⟩
  have hr1 : r0 < ra := by rw [hra]; exact M1.out.z.lt
  have hne1 : ¬ ra = r0 := by omega
  have hne2 : ¬ r0 = ra := by omega
  have MA := Lib.hid (M1.out.alloc (.cells #[.int .u64 (HX : Int), .int .u64 (LX : Int)] 40))
  have BA : Hid (Blk (w1.alloc (.cells #[.int .u64 (HX : Int), .int .u64 (LX : Int)] 40)) ra 40 #[.int .u64 (HX : Int), .int .u64 (LX : Int)]) := Lib.hid (by rw [hra]; exact Blk.new _ _ _)
  go_wp2_with fail
  rw [← hra]
  obtain ⟨B, hB⟩ : ∃ B, B = w1.alloc (.cells #[.int .u64 (HX : Int), .int .u64 (LX : Int)] 40) := ⟨_, rfl⟩
  rw [← hB] at MA BA ⊢
  clear hB hra M1
  refine (C2.out _).mono ?_
  rintro e w3 ⟨rfl, hb3⟩
  have M3 := Lib.hid (MA.out.call hb3)
  have B3 := Lib.hid (BA.out.below hb3 BA.out.lt)
  clear MA BA hb3
  obtain ⟨rb, hrb⟩ : ∃ r, r = w3.heap.size := ⟨_, rfl⟩
  have hr2 : ra < rb := by rw [hrb]; exact B3.out.lt
  have hne3 : ¬ rb = r0 := by omega
  have hne4 : ¬ r0 = rb := by omega
  have hne5 : ¬ rb = ra := by omega
  have hne6 : ¬ ra = rb := by omega
  have M4 := Lib.hid (M3.out.alloc (.cells #[.int .u64 (HY : Int), .int .u64 (LY : Int)] 40))
  have B4 := Lib.hid (B3.out.alloc (.cells #[.int .u64 (HY : Int), .int .u64 (LY : Int)] 40))
  have D4 : Hid (Blk (w3.alloc (.cells #[.int .u64 (HY : Int), .int .u64 (LY : Int)] 40)) rb 40 #[.int .u64 (HY : Int), .int .u64 (LY : Int)]) := Lib.hid (by rw [hrb]; exact Blk.new _ _ _)
  have cX := B4.out.cell 1
  have cY := D4.out.cell 1
  simp only [List.getElem?_toArray, List.getElem?_cons_zero, List.getElem?_cons_succ] at cX cY
  rw [hrb] at cY
  go_wp2_with fail
  obtain ⟨B6, hB⟩ : ∃ B, B = w3.alloc (.cells #[.int .u64 (HY : Int), .int .u64 (LY : Int)] 40) := ⟨_, rfl⟩
  rw [← hB] at M4 ⊢
  rw [← hrb]
  clear hB hrb M3 B3 B4 D4 cX cY
  refine (C3.out _).mono ?_
  rintro e w5 ⟨rfl, rfl⟩
  have z := M4.out.z
  have c0 := z.cell 0
  have c1 := z.cell 1
  have f0 := z.frozen 0
  have f1 := z.frozen 1
  have hz := z.lt
  clear z
  simp only [List.getElem?_toArray, List.getElem?_cons_zero, List.getElem?_cons_succ] at c0 c1
  go_wp2
  refine bodyPost_ret (v := .agg #[.int .u64 (HP : Int), .int .u64 (LP : Int)]) (by simp [results, Try.results32, go_sem, c0, c1]) rfl ⟨rfl, ?_⟩
  exact (M4.out.below.setCell M4.out.new _).setCell M4.out.new _

set_option maxRecDepth 100000 in
set_option maxHeartbeats 4000000 in
theorem wmul_pn (x y : Int) (w : World) (hx : In x) (hy : In y) (x0 : ¬ x < 0) (y0 : y < 0) : Calls Try.prog 32 #[.int .i64 x, .int .i64 y] w (RetW (hi (x * y)) (lo (x * y)) w) := by
  have d1 : decide (x < 0) = false := by simp; omega
  have d2 : decide (y < 0) = true := by simp [y0]
  have C1 := Lib.hid (fun w => of_v x w hx)
  have C2 := Lib.hid (fun w => of_v y w hy)
  unfold In at hx hy
  have C3 := Lib.hid (fun w => mul_v (x) (-y) w (by omega) (by omega) (by omega) (by omega))
  clear hx hy
  have N2 : Hid (∀ w, Calls Try.prog 31 #[.agg #[.int .u64 (hi y : Int), .int .u64 (lo y : Int)]] w (RetW (hi (-y)) (lo (-y)) w)) := Lib.hid (fun w => neg_v y w)
  obtain ⟨P, hP⟩ : ∃ P, P = x * (-y) := ⟨_, rfl⟩
  rw [← hP] at C3
  have hxy : x * y = -P := by rw [hP]; rw [Int.mul_neg, Int.neg_neg]
  rw [hxy]
  have N3 : Hid (∀ w, Calls Try.prog 31 #[.agg #[.int .u64 (hi P : Int), .int .u64 (lo P : Int)]] w (RetW (hi (-P)) (lo (-P)) w)) := Lib.hid (fun w => neg_v P w)
  obtain ⟨HX, hHX⟩ : ∃ H, H = hi x := ⟨_, rfl⟩
  obtain ⟨LX, hLX⟩ : ∃ H, H = lo x := ⟨_, rfl⟩
  obtain ⟨HY, hHY⟩ : ∃ H, H = hi y := ⟨_, rfl⟩
  obtain ⟨LY, hLY⟩ : ∃ H, H = lo y := ⟨_, rfl⟩
  rw [← hHX, ← hLX] at C1
  rw [← hHY, ← hLY] at C2 N2
  rw [← hLX] at C3
  obtain ⟨HY2, hHY2⟩ : ∃ H, H = hi (-y) := ⟨_, rfl⟩
  obtain ⟨LY2, hLY2⟩ : ∃ H, H = lo (-y) := ⟨_, rfl⟩
  rw [← hHY2, ← hLY2] at N2
  rw [← hLY2] at C3
  obtain ⟨HP, hHP⟩ : ∃ H, H = hi P := ⟨_, rfl⟩
  obtain ⟨LP, hLP⟩ : ∃ H, H = lo P := ⟨_, rfl⟩
  rw [← hHP, ← hLP] at C3 N3
  obtain ⟨HP2, hHP2⟩ : ∃ H, H = hi (-P) := ⟨_, rfl⟩
  obtain ⟨LP2, hLP2⟩ : ∃ H, H = lo (-P) := ⟨_, rfl⟩
  rw [← hHP2, ← hLP2] at N3 ⊢
  clear hP hxy hHX hLX hHY hLY hHY2 hLY2 hHP hLP hHP2 hLP2
  go_enter Try.func32, Try.ntmps32
  go_wp2_with fail
  refine (C1.out _).mono ?_
  rintro e w1 ⟨rfl, hb1⟩
  have m0 : HM w w.heap.size #[.int .u64 0, .int .u64 0] (w.alloc (.cells #[.int .u64 0, .int .u64 0] 40)) := ⟨Blk.new _ _ _, (Below.refl _ _).alloc (Nat.le_refl _) _, Nat.le_refl _⟩
  have m1 := m0.call hb1
  obtain ⟨r0, hr0⟩ : ∃ r, r = w.heap.size := ⟨_, rfl⟩
  have M1 : Hid (HM w r0 #[.int .u64 0, .int .u64 0] w1) := Lib.hid (by rw [hr0]; exact m1)
  rw [← hr0]
  clear m0 m1 hb1 hr0
  obtain ⟨ra, hra⟩ : ∃ r, r = w1.heap.size := ⟨_, rfl⟩
  have hr1 : r0 < ra := by rw [hra]; exact M1.out.z.lt
  have hne1 : ¬ ra = r0 := by omega
  have hne2 : ¬ r0 = ra := by omega
  have MA := Lib.hid (M1.out.alloc (.cells #[.int .u64 (HX : Int), .int .u64 (LX : Int)] 40))
  have BA : Hid (Blk (w1.alloc (.cells #[.int .u64 (HX : Int), .int .u64 (LX : Int)] 40)) ra 40 #[.int .u64 (HX : Int), .int .u64 (LX : Int)]) := Lib.hid (by rw [hra]; exact Blk.new _ _ _)
  go_wp2_with fail
  rw [← hra]
  obtain ⟨B, hB⟩ : ∃ B, B = w1.alloc (.cells #[.int .u64 (HX : Int), .int .u64 (LX : Int)] 40) := ⟨_, rfl⟩
  rw [← hB] at MA BA ⊢
  clear hB hra M1
  refine (C2.out _).mono ?_
  rintro e w3 ⟨rfl, hb3⟩
  have M3 := Lib.hid (MA.out.call hb3)
  have B3 := Lib.hid (BA.out.below hb3 BA.out.lt)
  clear MA BA hb3
  obtain ⟨rb, hrb⟩ : ∃ r, r = w3.heap.size := ⟨_, rfl⟩
  have hr2 : ra < rb := by rw [hrb]; exact B3.out.lt
  have hne3 : ¬ rb = r0 := by omega
  have hne4 : ¬ r0 = rb := by omega
  have hne5 : ¬ rb = ra := by omega
  have hne6 : ¬ ra = rb := by omega
  have M4 := Lib.hid (M3.out.alloc (.cells #[.int .u64 (HY : Int), .int .u64 (LY : Int)] 40))
  have B4 := Lib.hid (B3.out.alloc (.cells #[.int .u64 (HY : Int), .int .u64 (LY : Int)] 40))
  have D4 : Hid (Blk (w3.alloc (.cells #[.int .u64 (HY : Int), .int .u64 (LY : Int)] 40)) rb 40 #[.int .u64 (HY : Int), .int .u64 (LY : Int)]) := Lib.hid (by rw [hrb]; exact Blk.new _ _ _)
  go_wp2_with fail
  rw [← hrb]
  obtain ⟨B5, hB⟩ : ∃ B, B = w3.alloc (.cells #[.int .u64 (HY : Int), .int .u64 (LY : Int)] 40) := ⟨_, rfl⟩
  rw [← hB] at M4 B4 D4 ⊢
  clear hB hrb M3 B3
  refine (N2.out _).mono ?_
  rintro e w4 ⟨rfl, hb4⟩
  have m2 := M4.out.call hb4
  have ba2 := B4.out.below hb4 B4.out.lt
  have bd2 := D4.out.below hb4 D4.out.lt
  have c0 := bd2.cell 0
  have c1 := bd2.cell 1
  have f0 := bd2.frozen 0
  have f1 := bd2.frozen 1
  have hz := bd2.lt
  have cX := (ba2.far2 hne6 (.int .u64 (HY2 : Int)) (.int .u64 (LY2 : Int))).cell 1
  have cY := (bd2.set2 (.int .u64 (HY2 : Int)) (.int .u64 (LY2 : Int))).cell 1
  have M4 := Lib.hid (m2.set2 (by have := m2.new; omega) hne4 (.int .u64 (HY2 : Int)) (.int .u64 (LY2 : Int)))
  clear m2 ba2 bd2 hb4 B4 D4
  simp only [List.getElem?_toArray, List.getElem?_cons_zero, List.getElem?_cons_succ] at c0 c1 cX cY
  go_wp2_with fail
  obtain ⟨B6, hB⟩ : ∃ B, B = (w4.setCell ⟨rb, 0, none⟩ (.int .u64 (HY2 : Int))).setCell ⟨rb, 1, none⟩ (.int .u64 (LY2 : Int)) := ⟨_, rfl⟩
  rw [← hB] at M4 ⊢
  clear hB c0 c1 f0 f1 hz cX cY
  refine (C3.out _).mono ?_
  rintro e w5 ⟨rfl, rfl⟩
  go_wp2_with fail
  refine (N3.out _).mono ?_
  rintro e w6 ⟨rfl, hb6⟩
  have M4 := Lib.hid (M4.out.call hb6)
  clear hb6
  have z := M4.out.z
  have c0 := z.cell 0
  have c1 := z.cell 1
  have f0 := z.frozen 0
  have f1 := z.frozen 1
  have hz := z.lt
  clear z
  simp only [List.getElem?_toArray, List.getElem?_cons_zero, List.getElem?_cons_succ] at c0 c1
  go_wp2
  refine bodyPost_ret (v := .agg #[.int .u64 (HP2 : Int), .int .u64 (LP2 : Int)]) (by simp [results, Try.results32, go_sem, c0, c1]) rfl ⟨rfl, ?_⟩
  exact (M4.out.below.setCell M4.out.new _).setCell M4.out.new _

set_option maxRecDepth 100000 in
set_option maxHeartbeats 4000000 in
theorem wmul_np (x y : Int) (w : World) (hx : In x) (hy : In y) (x0 : x < 0) (y0 : ¬ y < 0) : Calls Try.prog 32 #[.int .i64 x, .int .i64 y] w (RetW (hi (x * y)) (lo (x * y)) w) := by
  have d1 : decide (x < 0) = true := by simp [x0]
  have d2 : decide (y < 0) = false := by simp; omega
  have C1 := Lib.hid (fun w => of_v x w hx)
  have C2 := Lib.hid (fun w => of_v y w hy)
  unfold In at hx hy
  have C3 := Lib.hid (fun w => mul_v (-x) (y) w (by omega) (by omega) (by omega) (by omega))
  clear hx hy
  have N1 : Hid (∀ w, Calls Try.prog 31 #[.agg #[.int .u64 (hi x : Int), .int .u64 (lo x : Int)]] w (RetW (hi (-x)) (lo (-x)) w)) := Lib.hid (fun w => neg_v x w)
  obtain ⟨P, hP⟩ : ∃ P, P = (-x) * y := ⟨_, rfl⟩
  rw [← hP] at C3
  have hxy : x * y = -P := by rw [hP]; rw [Int.neg_mul, Int.neg_neg]
  rw [hxy]
  have N3 : Hid (∀ w, Calls Try.prog 31 #[.agg #[.int .u64 (hi P : Int), .int .u64 (lo P : Int)]] w (RetW (hi (-P)) (lo (-P)) w)) := Lib.hid (fun w => neg_v P w)
  obtain ⟨HX, hHX⟩ : ∃ H, H = hi x := ⟨_, rfl⟩
  obtain ⟨LX, hLX⟩ : ∃ H, H = lo x := ⟨_, rfl⟩
  obtain ⟨HY, hHY⟩ : ∃ H, H = hi y := ⟨_, rfl⟩
  obtain ⟨LY, hLY⟩ : ∃ H, H = lo y := ⟨_, rfl⟩
  rw [← hHX, ← hLX] at C1 N1
  rw [← hHY, ← hLY] at C2
  obtain ⟨HX2, hHX2⟩ : ∃ H, H = hi (-x) := ⟨_, rfl⟩
  obtain ⟨LX2, hLX2⟩ : ∃ H, H = lo (-x) := ⟨_, rfl⟩
  rw [← hHX2, ← hLX2] at N1
  rw [← hLX2] at C3
  rw [← hLY] at C3
  obtain ⟨HP, hHP⟩ : ∃ H, H = hi P := ⟨_, rfl⟩
  obtain ⟨LP, hLP⟩ : ∃ H, H = lo P := ⟨_, rfl⟩
  rw [← hHP, ← hLP] at C3 N3
  obtain ⟨HP2, hHP2⟩ : ∃ H, H = hi (-P) := ⟨_, rfl⟩
  obtain ⟨LP2, hLP2⟩ : ∃ H, H = lo (-P) := ⟨_, rfl⟩
  rw [← hHP2, ← hLP2] at N3 ⊢
  clear hP hxy hHX hLX hHY hLY hHX2 hLX2 hHP hLP hHP2 hLP2
  go_enter Try.func32, Try.ntmps32
  go_wp2_with fail
  refine (C1.out _).mono ?_
  rintro e w1 ⟨rfl, hb1⟩
  have m0 : HM w w.heap.size #[.int .u64 0, .int .u64 0] (w.alloc (.cells #[.int .u64 0, .int .u64 0] 40)) := ⟨Blk.new _ _ _, (Below.refl _ _).alloc (Nat.le_refl _) _, Nat.le_refl _⟩
  have m1 := m0.call hb1
  obtain ⟨r0, hr0⟩ : ∃ r, r = w.heap.size := ⟨_, rfl⟩
  have M1 : Hid (HM w r0 #[.int .u64 0, .int .u64 0] w1) := Lib.hid (by rw [hr0]; exact m1)
  rw [← hr0]
  clear m0 m1 hb1 hr0
  obtain ⟨ra, hra⟩ : ∃ r, r = w1.heap.size := ⟨_, rfl⟩
  have hr1 : r0 < ra := by rw [hra]; exact M1.out.z.lt
  have hne1 : ¬ ra = r0 := by omega
  have hne2 : ¬ r0 = ra := by omega
  have MA := Lib.hid (M1.out.alloc (.cells #[.int .u64 (HX : Int), .int .u64 (LX : Int)] 40))
  have BA : Hid (Blk (w1.alloc (.cells #[.int .u64 (HX : Int), .int .u64 (LX : Int)] 40)) ra 40 #[.int .u64 (HX : Int), .int .u64 (LX : Int)]) := Lib.hid (by rw [hra]; exact Blk.new _ _ _)
  go_wp2_with fail
  rw [← hra]
  obtain ⟨B, hB⟩ : ∃ B, B = w1.alloc (.cells #[.int .u64 (HX : Int), .int .u64 (LX : Int)] 40) := ⟨_, rfl⟩
  rw [← hB] at MA BA ⊢
  clear hB hra M1
  refine (N1.out _).mono ?_
  rintro e w2 ⟨rfl, hb2⟩
  have m2 := MA.out.call hb2
  have ba2 := BA.out.below hb2 BA.out.lt
  have c0 := ba2.cell 0
  have c1 := ba2.cell 1
  have f0 := ba2.frozen 0
  have f1 := ba2.frozen 1
  have hz := ba2.lt
  have MA := Lib.hid (m2.set2 (by have := m2.new; omega) hne2 (.int .u64 (HX2 : Int)) (.int .u64 (LX2 : Int)))
  have BA := Lib.hid (ba2.set2 (.int .u64 (HX2 : Int)) (.int .u64 (LX2 : Int)))
  clear m2 ba2 hb2
  simp only [List.getElem?_toArray, List.getElem?_cons_zero, List.getElem?_cons_succ] at c0 c1
  go_wp2_with fail
  obtain ⟨B2, hB⟩ : ∃ B, B = (w2.setCell ⟨ra, 0, none⟩ (.int .u64 (HX2 : Int))).setCell ⟨ra, 1, none⟩ (.int .u64 (LX2 : Int)) := ⟨_, rfl⟩
  rw [← hB] at MA BA ⊢
  clear hB c0 c1 f0 f1 hz
  refine (C2.out _).mono ?_
  rintro e w3 ⟨rfl, hb3⟩
  have M3 := Lib.hid (MA.out.call hb3)
  have B3 := Lib.hid (BA.out.below hb3 BA.out.lt)
  clear MA BA hb3
  obtain ⟨rb, hrb⟩ : ∃ r, r = w3.heap.size := ⟨_, rfl⟩
  have hr2 : ra < rb := by rw [hrb]; exact B3.out.lt
  have hne3 : ¬ rb = r0 := by omega
  have hne4 : ¬ r0 = rb := by omega
  have hne5 : ¬ rb = ra := by omega
  have hne6 : ¬ ra = rb := by omega
  have M4 := Lib.hid (M3.out.alloc (.cells #[.int .u64 (HY : Int), .int .u64 (LY : Int)] 40))
  have B4 := Lib.hid (B3.out.alloc (.cells #[.int .u64 (HY : Int), .int .u64 (LY : Int)] 40))
  have D4 : Hid (Blk (w3.alloc (.cells #[.int .u64 (HY : Int), .int .u64 (LY : Int)] 40)) rb 40 #[.int .u64 (HY : Int), .int .u64 (LY : Int)]) := Lib.hid (by rw [hrb]; exact Blk.new _ _ _)
  have cX := B4.out.cell 1
  have cY := D4.out.cell 1
  simp only [List.getElem?_toArray, List.getElem?_cons_zero, List.getElem?_cons_succ] at cX cY
  rw [hrb] at cY
  go_wp2_with fail
  obtain ⟨B6, hB⟩ : ∃ B, B = w3.alloc (.cells #[.int .u64 (HY : Int), .int .u64 (LY : Int)] 40) := ⟨_, rfl⟩
  rw [← hB] at M4 ⊢
  rw [← hrb]
  clear hB hrb M3 B3 B4 D4 cX cY
  refine (C3.out _).mono ?_
  rintro e w5 ⟨rfl, rfl⟩
  go_wp2_with fail
  refine (N3.out _).mono ?_
  rintro e w6 ⟨rfl, hb6⟩
  have M4 := Lib.hid (M4.out.call hb6)
  clear hb6
  have z := M4.out.z
  have c0 := z.cell 0
  have c1 := z.cell 1
  have f0 := z.frozen 0
  have f1 := z.frozen 1
  have hz := z.lt
  clear z
  simp only [List.getElem?_toArray, List.getElem?_cons_zero, List.getElem?_cons_succ] at c0 c1
  go_wp2
  refine bodyPost_ret (v := .agg #[.int .u64 (HP2 : Int), .int .u64 (LP2 : Int)]) (by simp [results, Try.results32, go_sem, c0, c1]) rfl ⟨rfl, ?_⟩
  exact (M4.out.below.setCell M4.out.new _).setCell M4.out.new _

set_option maxRecDepth 100000 in
set_option maxHeartbeats 4000000 in
theorem wmul_nn (x y : Int) (w : World) (hx : In x) (hy : In y) (x0 : x < 0) (y0 : y < 0) : Calls Try.prog 32 #[.int .i64 x, .int .i64 y] w (RetW (hi (x * y)) (lo (x * y)) w) := by
  have d1 : decide (x < 0) = true := by simp [x0]
  have d2 : decide (y < 0) = true := by simp [y0]
  have C1 := Lib.hid (fun w => of_v x w hx)
  have C2 := Lib.hid (fun w => of_v y w hy)
  unfold In at hx hy
  have C3 := Lib.hid (fun w => mul_v (-x) (-y) w (by omega) (by omega) (by omega) (by omega))
  clear hx hy
  have N1 : Hid (∀ w, Calls Try.prog 31 #[.agg #[.int .u64 (hi x : Int), .int .u64 (lo x : Int)]] w (RetW (hi (-x)) (lo (-x)) w)) := Lib.hid (fun w => neg_v x w)
  have N2 : Hid (∀ w, Calls Try.prog 31 #[.agg #[.int .u64 (hi y : Int), .int .u64 (lo y : Int)]] w (RetW (hi (-y)) (lo (-y)) w)) := Lib.hid (fun w => neg_v y w)
  obtain ⟨P, hP⟩ : ∃ P, P = (-x) * (-y) := ⟨_, rfl⟩
  rw [← hP] at C3
  have hxy : x * y = P := by rw [hP]; rw [Int.neg_mul_neg]
  rw [hxy]
  obtain ⟨HX, hHX⟩ : ∃ H, H = hi x := ⟨_, rfl⟩
  obtain ⟨LX, hLX⟩ : ∃ H, H = lo x := ⟨_, rfl⟩
  obtain ⟨HY, hHY⟩ : ∃ H, H = hi y := ⟨_, rfl⟩
  obtain ⟨LY, hLY⟩ : ∃ H, H = lo y := ⟨_, rfl⟩
  rw [← hHX, ← hLX] at C1 N1
  rw [← hHY, ← hLY] at C2 N2
  obtain ⟨HX2, hHX2⟩ : ∃ H, H = hi (-x) := ⟨_, rfl⟩
  obtain ⟨LX2, hLX2⟩ : ∃ H, H = lo (-x) := ⟨_, rfl⟩
  rw [← hHX2, ← hLX2] at N1
  rw [← hLX2] at C3
  obtain ⟨HY2, hHY2⟩ : ∃ H, H = hi (-y) := ⟨_, rfl⟩
  obtain ⟨LY2, hLY2⟩ : ∃ H, H = lo (-y) := ⟨_, rfl⟩
  rw [← hHY2, ← hLY2] at N2
  rw [← hLY2] at C3
  obtain ⟨HP, hHP⟩ : ∃ H, H = hi P := ⟨_, rfl⟩
  obtain ⟨LP, hLP⟩ : ∃ H, H = lo P := ⟨_, rfl⟩
  rw [← hHP, ← hLP] at C3 ⊢
  clear hP hxy hHX hLX hHY hLY hHX2 hLX2 hHY2 hLY2 hHP hLP
  go_enter Try.func32, Try.ntmps32
  go_wp2_with fail
  refine (C1.out _).mono ?_
  rintro e w1 ⟨rfl, hb1⟩
  have m0 : HM w w.heap.size #[.int .u64 0, .int .u64 0] (w.alloc (.cells #[.int .u64 0, .int .u64 0] 40)) := ⟨Blk.new _ _ _, (Below.refl _ _).alloc (Nat.le_refl _) _, Nat.le_refl _⟩
  have m1 := m0.call hb1
  obtain ⟨r0, hr0⟩ : ∃ r, r = w.heap.size := ⟨_, rfl⟩
  have M1 : Hid (HM w r0 #[.int .u64 0, .int .u64 0] w1) := Lib.hid (by rw [hr0]; exact m1)
  rw [← hr0]
  clear m0 m1 hb1 hr0
  obtain ⟨ra, hra⟩ : ∃ r, r = w1.heap.size := ⟨_, rfl⟩
  have hr1 : r0 < ra := by rw [hra]; exact M1.out.z.lt
  have hne1 : ¬ ra = r0 := by omega
  have hne2 : ¬ r0 = ra := by omega
  have MA := Lib.hid (M1.out.alloc (.cells #[.int .u64 (HX : Int), .int .u64 (LX : Int)] 40))
  have BA : Hid (Blk (w1.alloc (.cells #[.int .u64 (HX : Int), .int .u64 (LX : Int)] 40)) ra 40 #[.int .u64 (HX : Int), .int .u64 (LX : Int)]) := Lib.hid (by rw [hra]; exact Blk.new _ _ _)
  go_wp2_with fail
  rw [← hra]
  obtain ⟨B, hB⟩ : ∃ B, B = w1.alloc (.cells #[.int .u64 (HX : Int), .int .u64 (LX : Int)] 40) := ⟨_, rfl⟩
  rw [← hB] at MA BA ⊢
  clear hB hra M1
  refine (N1.out _).mono ?_
  rintro e w2 ⟨rfl, hb2⟩
  have m2 := MA.out.call hb2
  have ba2 := BA.out.below hb2 BA.out.lt
  have c0 := ba2.cell 0
  have c1 := ba2.cell 1
  have f0 := ba2.frozen 0
  have f1 := ba2.frozen 1
  have hz := ba2.lt
  have MA := Lib.hid (m2.set2 (by have := m2.new; omega) hne2 (.int .u64 (HX2 : Int)) (.int .u64 (LX2 : Int)))
  have BA := Lib.hid (ba2.set2 (.int .u64 (HX2 : Int)) (.int .u64 (LX2 : Int)))
  clear m2 ba2 hb2
  simp only [List.getElem?_toArray, List.getElem?_cons_zero, List.getElem?_cons_succ] at c0 c1
  go_wp2_with fail
  obtain ⟨B2, hB⟩ : ∃ B, B = (w2.setCell ⟨ra, 0, none⟩ (.int .u64 (HX2 : Int))).setCell ⟨ra, 1, none⟩ (.int .u64 (LX2 : Int)) := ⟨_, rfl⟩
  rw [← hB] at MA BA ⊢
  clear hB c0 c1 f0 f1 hz
  refine (C2.out _).mono ?_
  rintro e w3 ⟨rfl, hb3⟩
  have M3 := Lib.hid (MA.out.call hb3)
  have B3 := Lib.hid (BA.out.below hb3 BA.out.lt)
  clear MA BA hb3
  obtain ⟨rb, hrb⟩ : ∃ r, r = w3.heap.size := ⟨_, rfl⟩
  have hr2 : ra < rb := by rw [hrb]; exact B3.out.lt
  have hne3 : ¬ rb = r0 := by omega
  have hne4 : ¬ r0 = rb := by omega
  have hne5 : ¬ rb = ra := by omega
  have hne6 : ¬ ra = rb := by omega
  have M4 := Lib.hid (M3.out.alloc (.cells #[.int .u64 (HY : Int), .int .u64 (LY : Int)] 40))
  have B4 := Lib.hid (B3.out.alloc (.cells #[.int .u64 (HY : Int), .int .u64 (LY : Int)] 40))
  have D4 : Hid (Blk (w3.alloc (.cells #[.int .u64 (HY : Int), .int .u64 (LY : Int)] 40)) rb 40 #[.int .u64 (HY : Int), .int .u64 (LY : Int)]) := Lib.hid (by rw [hrb]; exact Blk.new _ _ _)
  go_wp2_with fail
  rw [← hrb]
  obtain ⟨B5, hB⟩ : ∃ B, B = w3.alloc (.cells #[.int .u64 (HY : Int), .int .u64 (LY : Int)] 40) := ⟨_, rfl⟩
  rw [← hB] at M4 B4 D4 ⊢
  clear hB hrb M3 B3
  refine (N2.out _).mono ?_
  rintro e w4 ⟨rfl, hb4⟩
  have m2 := M4.out.call hb4
  have ba2 := B4.out.below hb4 B4.out.lt
  have bd2 := D4.out.below hb4 D4.out.lt
  have c0 := bd2.cell 0
  have c1 := bd2.cell 1
  have f0 := bd2.frozen 0
  have f1 := bd2.frozen 1
  have hz := bd2.lt
  have cX := (ba2.far2 hne6 (.int .u64 (HY2 : Int)) (.int .u64 (LY2 : Int))).cell 1
  have cY := (bd2.set2 (.int .u64 (HY2 : Int)) (.int .u64 (LY2 : Int))).cell 1
  have M4 := Lib.hid (m2.set2 (by have := m2.new; omega) hne4 (.int .u64 (HY2 : Int)) (.int .u64 (LY2 : Int)))
  clear m2 ba2 bd2 hb4 B4 D4
  simp only [List.getElem?_toArray, List.getElem?_cons_zero, List.getElem?_cons_succ] at c0 c1 cX cY
  go_wp2_with fail
  obtain ⟨B6, hB⟩ : ∃ B, B = (w4.setCell ⟨rb, 0, none⟩ (.int .u64 (HY2 : Int))).setCell ⟨rb, 1, none⟩ (.int .u64 (LY2 : Int)) := ⟨_, rfl⟩
  rw [← hB] at M4 ⊢
  clear hB c0 c1 f0 f1 hz cX cY
  refine (C3.out _).mono ?_
  rintro e w5 ⟨rfl, rfl⟩
  have z := M4.out.z
  have c0 := z.cell 0
  have c1 := z.cell 1
  have f0 := z.frozen 0
  have f1 := z.frozen 1
  have hz := z.lt
  clear z
  simp only [List.getElem?_toArray, List.getElem?_cons_zero, List.getElem?_cons_succ] at c0 c1
  go_wp2
  refine bodyPost_ret (v := .agg #[.int .u64 (HP : Int), .int .u64 (LP : Int)]) (by simp [results, Try.results32, go_sem, c0, c1]) rfl ⟨rfl, ?_⟩
  exact (M4.out.below.setCell M4.out.new _).setCell M4.out.new _

theorem wmul_v (x y : Int) (w : World) (hx : In x) (hy : In y) : Calls Try.prog 32 #[.int .i64 x, .int .i64 y] w (RetW (hi (x * y)) (lo (x * y)) w) := by
  by_cases x0 : x < 0 <;> by_cases y0 : y < 0
  · exact wmul_nn x y w hx hy x0 y0
  · exact wmul_np x y w hx hy x0 y0
  · exact wmul_pn x y w hx hy x0 y0
  · exact wmul_pp x y w hx hy x0 y0

end Go.Proofs.Ytnhonhdomgmhgaa.Num
