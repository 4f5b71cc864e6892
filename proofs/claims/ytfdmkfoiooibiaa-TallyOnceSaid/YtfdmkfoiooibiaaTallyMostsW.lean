/- Proved: the walk of the law TallyMosts: it answers true, for every list of 64-bit numbers. -/
import Derived.Test.YtfdmkfoiooibiaaTallyMosts
import Derived.ProofKit
import Derived.OpenShut
namespace Go.Proofs.Ytfdmkfoiooibiaa.Tally
open Go.RowKit

/-- The greatest of the first k, or nought; of the last k. -/
def mxA (xs : List Int) : Nat → Int | 0 => 0 | k + 1 => max (mxA xs k) (xs.getD k 0)
def mxB (xs : List Int) : Nat → Int | 0 => 0 | k + 1 => max (mxB xs k) (xs.getD (xs.length - 1 - k) 0)

theorem mxA_ge (xs : List Int) : ∀ k i, i < k → xs.getD i 0 ≤ mxA xs k
  | 0, _, h => by omega
  | k + 1, i, h => by
    simp only [mxA]
    by_cases e : i = k
    · subst e; omega
    · have := mxA_ge xs k i (by omega); omega
theorem mxA_is (xs : List Int) : ∀ k, mxA xs k = 0 ∨ ∃ i, i < k ∧ mxA xs k = xs.getD i 0
  | 0 => .inl rfl
  | k + 1 => by
    simp only [mxA]
    by_cases e : mxA xs k ≤ xs.getD k 0
    · exact .inr ⟨k, by omega, by omega⟩
    · rcases mxA_is xs k with h | ⟨i, hi, h⟩
      · exact .inl (by omega)
      · exact .inr ⟨i, by omega, by omega⟩
theorem mxA_0 (xs : List Int) : ∀ k, 0 ≤ mxA xs k
  | 0 => Int.le_refl _
  | k + 1 => by have := mxA_0 xs k; simp only [mxA]; omega
theorem mxB_ge (xs : List Int) : ∀ k i, i < k → xs.getD (xs.length - 1 - i) 0 ≤ mxB xs k
  | 0, _, h => by omega
  | k + 1, i, h => by
    simp only [mxB]
    by_cases e : i = k
    · subst e; omega
    · have := mxB_ge xs k i (by omega); omega
theorem mxB_is (xs : List Int) : ∀ k, mxB xs k = 0 ∨ ∃ i, i < k ∧ mxB xs k = xs.getD (xs.length - 1 - i) 0
  | 0 => .inl rfl
  | k + 1 => by
    simp only [mxB]
    by_cases e : mxB xs k ≤ xs.getD (xs.length - 1 - k) 0
    · exact .inr ⟨k, by omega, by omega⟩
    · rcases mxB_is xs k with h | ⟨i, hi, h⟩
      · exact .inl (by omega)
      · exact .inr ⟨i, by omega, by omega⟩
theorem mxB_0 (xs : List Int) : ∀ k, 0 ≤ mxB xs k
  | 0 => Int.le_refl _
  | k + 1 => by have := mxB_0 xs k; simp only [mxB]; omega
theorem mx_same (xs : List Int) : mxB xs xs.length = mxA xs xs.length := by
  have a0 := mxA_0 xs xs.length
  have b0 := mxB_0 xs xs.length
  rcases mxA_is xs xs.length with h | ⟨i, hi, h⟩ <;> rcases mxB_is xs xs.length with g | ⟨j, hj, g⟩
  · omega
  · have := mxA_ge xs xs.length (xs.length - 1 - j) (by omega); omega
  · have := mxB_ge xs xs.length (xs.length - 1 - i) (by omega)
    rw [show xs.length - 1 - (xs.length - 1 - i) = i by omega] at this; omega
  · have h1 := mxA_ge xs xs.length (xs.length - 1 - j) (by omega)
    have h2 := mxB_ge xs xs.length (xs.length - 1 - i) (by omega)
    rw [show xs.length - 1 - (xs.length - 1 - i) = i by omega] at h2; omega

set_option maxHeartbeats 400000 in
theorem mosts_many (a : Option Addr) (len cap : Nat) (hl : 100 < len) (hm : len ≤ maxLen) (w : World) : Calls Try.prog 4 #[.slice a len cap] w (RetB w) := by
  unfold maxLen at hm
  have d1 : (100 : Int) < (len : Int) := by omega
  go_enter Try.func4, Try.ntmps4
  go_wp2_with (go_at_call 14; refine (head_any _).mono ?_; rintro e w1 ⟨rfl, hb1⟩)
  go_ret
  exact RetB.mk rfl (by assumption)

/-- What the loop of TallyMosts keeps. -/
structure MI (w : World) (B ga gb : Nat) (xs : List Int) (k : Nat) (wr : World) : Prop where
  a : Blk wr ga 31 #[.int .i64 (mxA xs k)]
  b : Blk wr gb 31 #[.int .i64 (mxB xs k)]
  below : Below B w wr

set_option maxHeartbeats 1000000 in
theorem mosts_few (b off cap : Nat) (xs : List Int) (hl : xs.length ≤ 100) (w : World) (hin : ∀ i, i < xs.length → w.cell? ⟨b, off + i, none⟩ = some (.int .i64 (xs.getD i 0))) (hb : b < w.heap.size) :
    Calls Try.prog 4 #[.slice (some ⟨b, off, none⟩) xs.length cap] w (RetB w) := by
  have d1 : ¬ (100 : Int) < (xs.length : Int) := by omega
  have HS := Lib.hid (mx_same xs)
  have HI := Lib.hid hin
  clear hin
  obtain ⟨n, hn⟩ : ∃ n, n = xs.length := ⟨_, rfl⟩
  rw [← hn] at hl d1 ⊢
  have HN := Lib.hid hn
  clear hn
  go_enter Try.func4, Try.ntmps4
  go_wp2_with fail
  refine (head_any _).mono ?_
  rintro e w1 ⟨rfl, hb1⟩
  go_wp2
  go_loopw [5, 18] (fun m i wr => ∃ k : Nat, k ≤ n ∧ i = .int .i64 k ∧ m = .int .i64 (mxA xs k) ∧ MI w w.heap.size w1.heap.size (w1.heap.size + 1) xs k wr) (fun _ i _ => n - (intOf i).toNat)
  case atStart =>
    refine ⟨0, Nat.zero_le _, rfl, rfl, (Blk.new w1 31 _).alloc _, ?_, ?_⟩
    · have := Blk.new (w1.alloc (.cells #[.int .i64 0] 31)) 31 #[.int .i64 0]
      rwa [World.size_alloc] at this
    · exact (hb1.alloc (by have := hb1.size; omega) _).alloc (by have := hb1.size; simp; omega) _
  case round =>
    obtain ⟨k, hk, rfl, rfl, hM⟩ := hrel
    have hsz := hb1.size
    by_cases hlt : k < n
    · obtain ⟨v, hv⟩ : ∃ v, v = xs.getD k 0 := ⟨_, rfl⟩
      obtain ⟨j, hj⟩ : ∃ j, j = n - 1 - k := ⟨_, rfl⟩
      obtain ⟨u, hu⟩ : ∃ u, u = xs.getD j 0 := ⟨_, rfl⟩
      have c1 : wr.cell? ⟨b, off + k, none⟩ = some (.int .i64 v) := by rw [hM.below.cell (p := ⟨b, off + k, none⟩) hb, hv]; exact HI.out k (by rw [← HN.out]; exact hlt)
      have m1 : max (mxA xs k) v = mxA xs (k + 1) := by rw [hv]; rfl
      have m2 : max (mxB xs k) u = mxB xs (k + 1) := by rw [hu, hj, HN.out]; rfl
      have p1 := most_any (w1.heap.size) 31 (mxA xs k) v wr hM.a
      rw [m1] at p1
      have b2 := hM.b.far (p := ⟨w1.heap.size, 0, none⟩) (by simp) (.int .i64 (mxA xs (k + 1)))
      have p2 := most_any (w1.heap.size + 1) 31 (mxB xs k) u _ b2
      rw [m2] at p2
      have hB2 : Below w.heap.size w (wr.setCell ⟨w1.heap.size, 0, none⟩ (.int .i64 (mxA xs (k + 1)))) := hM.below.setCell (by simpa using hsz) _
      have c2 : (wr.setCell ⟨w1.heap.size, 0, none⟩ (.int .i64 (mxA xs (k + 1)))).cell? ⟨b, off + j, none⟩ = some (.int .i64 u) := by
        rw [hB2.cell (p := ⟨b, off + j, none⟩) hb, hu]; exact HI.out j (by rw [← HN.out]; omega)
      have hM' : MI w w.heap.size w1.heap.size (w1.heap.size + 1) xs (k + 1) ((wr.setCell ⟨w1.heap.size, 0, none⟩ (.int .i64 (mxA xs (k + 1)))).setCell ⟨w1.heap.size + 1, 0, none⟩ (.int .i64 (mxB xs (k + 1)))) :=
        ⟨(hM.a.set_ 0 _).far (by simp) _, b2.set_ 0 _, hB2.setCell (by simp; omega) _⟩
      have ej : (n : Int) - 1 - (k : Int) = (j : Int) := by omega
      have hjn : j < n := by omega
      have P1 := Lib.hid p1
      have P2 := Lib.hid p2
      have HM := Lib.hid hM'
      have HJ := Lib.hid hj
      clear p1 p2 hM' hM b2 hB2 hv hu hj hk hsz m2
      generalize hME : mxA xs (k + 1) = M' at *
      have HE := Lib.hid hME
      clear hME
      generalize mxA xs k = M at *
      generalize hw2 : wr.setCell ⟨w1.heap.size, 0, none⟩ (.int .i64 M') = w2 at *
      have HW := Lib.hid hw2
      clear hw2
      clear HW
      have hcase : (M < v ∧ M' = v) ∨ (¬ M < v ∧ M' = M) := by omega
      clear m1
      rcases hcase with ⟨hc, rfl⟩ | ⟨hc, rfl⟩
      all_goals
        go_wp2_with fail
        refine (P1.out).mono ?_
        rintro e w' ⟨rfl, rfl⟩
        go_wp2_with fail
        refine (P2.out).mono ?_
        rintro e w3 ⟨rfl, rfl⟩
        go_wp2
        go_roundw
        case rel => exact ⟨k + 1, by omega, by go_num, by rw [HE.out], HM.out⟩
        case measure => simp [intOf]; omega
    · obtain rfl : k = n := by omega
      have q1 := load_blk _ _ _ _ hM.a
      have q2 := load_blk _ _ _ _ hM.b
      have hsame : mxB xs k = mxA xs k := by rw [HN.out]; exact HS.out
      rw [hsame] at q2
      have HB := Lib.hid hM.below
      have Q1 := Lib.hid q1
      have Q2 := Lib.hid q2
      clear q1 q2 hM hsame
      generalize mxA xs k = M at *
      go_wp2_with (first
        | (go_at_call 15; ((with_reducible refine (Q1.out).mono ?_); rintro e w' ⟨rfl, rfl⟩))
        | (go_at_call 15; ((with_reducible refine (Q2.out).mono ?_); rintro e w' ⟨rfl, rfl⟩)))
      go_ret
      exact RetB.mk (by simp) HB.out
set_option maxHeartbeats 1000000 in
theorem mosts_none (a : Option Addr) (cap : Nat) (w : World) : Calls Try.prog 4 #[.slice a 0 cap] w (RetB w) := by
  go_enter Try.func4, Try.ntmps4
  go_wp2_with fail
  refine (head_any _).mono ?_
  rintro e w1 ⟨rfl, hb1⟩
  have hsz := hb1.size
  obtain ⟨W, hW⟩ : ∃ W, W = (w1.alloc (.cells #[.int .i64 0] 31)).alloc (.cells #[.int .i64 0] 31) := ⟨_, rfl⟩
  have q1 : Blk W w1.heap.size 31 #[.int .i64 0] := by rw [hW]; exact (Blk.new w1 31 _).alloc _
  have q2 : Blk W (w1.heap.size + 1) 31 #[.int .i64 0] := by
    rw [hW]
    have := Blk.new (w1.alloc (.cells #[.int .i64 0] 31)) 31 #[.int .i64 0]
    rwa [World.size_alloc] at this
  have hB : Below w.heap.size w W := by rw [hW]; exact (hb1.alloc (by omega) _).alloc (by simp; omega) _
  have Q1 := Lib.hid (load_blk _ _ _ _ q1)
  have Q2 := Lib.hid (load_blk _ _ _ _ q2)
  have HB := Lib.hid hB
  have HW := Lib.hid hW
  clear q1 q2 hB hW
  go_wp2
  refine wp_loop_rounds 1 ?_
  rw [rounds_succ]
  go_wp2_with fail
  rw [← HW.out]
  go_wp2_with (first
    | (go_at_call 15; ((with_reducible refine (Q1.out).mono ?_); rintro e w' ⟨rfl, rfl⟩))
    | (go_at_call 15; ((with_reducible refine (Q2.out).mono ?_); rintro e w' ⟨rfl, rfl⟩)))
  go_ret
  exact RetB.mk (by simp) HB.out

/-- A slice of 64-bit numbers, as it was opened. -/
def IsRow (w : World) (a : Option Addr) (len cap : Nat) (zs : List Int) : Prop :=
  (a = none ∧ len = 0 ∧ cap = 0 ∧ zs = []) ∨
  ∃ x, a = some x ∧ len ≤ cap ∧ cap ≤ maxLen ∧ zs.length = cap ∧ (∀ i, i < zs.length → w.cell? (x.add i) = some (.int .i64 (zs.getD i 0))) ∧ ∀ n ∈ zs, (Lit.int .i64 n).wf = true

theorem in_of {x : Int} (h : (Lit.int .i64 x).wf = true) : In x := by
  unfold In
  simp [Lit.wf, IntKind.min, IntKind.max, IntKind.signed, IntKind.bits] at h
  omega

/-- Its elements, and where they lie. -/
theorem IsRow.open_ {w : World} {a : Option Addr} {len cap : Nat} {zs : List Int} (h : IsRow w a len cap zs) (h0 : 0 < len) :
    ∃ b off, a = some ⟨b, off, none⟩ ∧ b < w.heap.size ∧ (∀ i, i < len → w.cell? ⟨b, off + i, none⟩ = some (.int .i64 ((zs.take len).getD i 0))) ∧ (zs.take len).length = len ∧ ∀ n ∈ zs.take len, In n := by
  rcases h with ⟨_, h, _⟩ | ⟨x, rfl, hl, hm, hz, hc, hw⟩
  · omega
  · obtain ⟨b, off, spot⟩ := x
    have hspot : spot = none := by simpa [Addr.add] using World.cell?_spot (hc 0 (by omega))
    subst hspot
    have hc' : ∀ i, i < zs.length → w.cell? ⟨b, off + i, none⟩ = some (.int .i64 (zs.getD i 0)) := fun i hi => by
      have := hc i hi
      rwa [Go.WideShapes.add_plain] at this
    refine ⟨b, off, rfl, ?_, fun i hi => ?_, by rw [List.length_take]; omega, fun n hn => in_of (hw n (List.mem_of_mem_take hn))⟩
    · have := hc' 0 (by omega)
      unfold World.cell? at this
      rcases Nat.lt_or_ge b w.heap.size with hlt | hge
      · exact hlt
      · simp [Array.getElem?_eq_none hge] at this
    · rw [hc' i (by omega)]
      rw [List.getD_eq_getElem?_getD, List.getD_eq_getElem?_getD, List.getElem?_take, if_pos hi]
theorem IsRow.le {w : World} {a : Option Addr} {len cap : Nat} {zs : List Int} (h : IsRow w a len cap zs) : len ≤ maxLen := by
  rcases h with ⟨_, h, _⟩ | ⟨x, rfl, hl, hm, hz, hc, hw⟩
  · omega
  · omega

theorem mosts_walk (a : Option Addr) (len cap : Nat) (zs : List Int) (w : World) (h : IsRow w a len cap zs) : Calls Try.prog 4 #[.slice a len cap] w (RetB w) := by
  by_cases h1 : 100 < len
  · exact mosts_many a len cap h1 h.le w
  · by_cases h0 : 0 < len
    · obtain ⟨b, off, rfl, hb, hc, hl, _⟩ := h.open_ h0
      have := mosts_few b off cap (zs.take len) (by omega) w (fun i hi => hc i (by omega)) hb
      rwa [hl] at this
    · obtain rfl : len = 0 := by omega
      exact mosts_none a cap w

end Go.Proofs.Ytfdmkfoiooibiaa.Tally
