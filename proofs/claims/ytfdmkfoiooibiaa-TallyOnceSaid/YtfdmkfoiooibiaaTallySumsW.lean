/- Proved: the walk of the law TallySums: it answers true, for every list of 64-bit numbers and every place. -/
import Derived.Test.YtfdmkfoiooibiaaTallyMostsW
namespace Go.Proofs.Ytfdmkfoiooibiaa.Tally
open Go.RowKit

theorem i64_mask (n m : Int) (j : Nat) (h : (BitVec.ofInt 64 m).toNat = 2 ^ j - 1) : Go.bits .and .i64 n m = IntKind.i64.wrap (((n % ((2 ^ 64 : Nat) : Int)).toNat % 2 ^ j : Nat) : Int) := by
  have key : (BitVec.ofInt 64 n &&& BitVec.ofInt 64 m).toNat = (n % ((2 ^ 64 : Nat) : Int)).toNat % 2 ^ j := by
    rw [BitVec.toNat_and, BitVec.toNat_ofInt, h, Nat.and_two_pow_sub_one_eq_mod]
  show IntKind.i64.wrap ((BitVec.ofInt 64 n &&& BitVec.ofInt 64 m).toNat : Nat) = _
  rw [key]
theorem and_max (n : Int) : Go.bits .and .i64 n 9223372036854775807 = n % 9223372036854775808 := by rw [i64_mask n 9223372036854775807 63 (by decide), IntKind.wrap_i64]; omega
theorem and_u16 (n : Int) : Go.bits .and .i64 n 65535 = n % 65536 := by rw [i64_mask n 65535 16 (by decide), IntKind.wrap_i64]; omega

/-- A sum of f at 0, 1, .., k - 1; the same, begun at r, round and round. -/
def sumTo (f : Nat → Int) : Nat → Int | 0 => 0 | k + 1 => sumTo f k + f k
theorem sumTo_step (f : Nat → Int) (n r : Nat) : ∀ k, sumTo (fun i => f ((i + (r + 1)) % n)) k + f (r % n) = sumTo (fun i => f ((i + r) % n)) (k + 1)
  | 0 => by simp [sumTo]
  | k + 1 => by
    have h := sumTo_step f n r k
    have e1 : sumTo (fun i => f ((i + (r + 1)) % n)) (k + 1) = sumTo (fun i => f ((i + (r + 1)) % n)) k + f ((k + (r + 1)) % n) := rfl
    have e2 : sumTo (fun i => f ((i + r) % n)) (k + 1 + 1) = sumTo (fun i => f ((i + r) % n)) (k + 1) + f ((k + 1 + r) % n) := rfl
    rw [e1, e2, ← h, show k + (r + 1) = k + 1 + r by omega]
    omega
theorem sumTo_turn (f : Nat → Int) (n : Nat) : ∀ r, sumTo (fun i => f ((i + r) % n)) n = sumTo (fun i => f (i % n)) n
  | 0 => rfl
  | r + 1 => by
    have h := sumTo_step f n r n
    have e2 : sumTo (fun i => f ((i + r) % n)) (n + 1) = sumTo (fun i => f ((i + r) % n)) n + f ((n + r) % n) := rfl
    rw [e2, Nat.add_mod_left, sumTo_turn f n r] at h
    omega
theorem sumTo_congr (f g : Nat → Int) : ∀ n, (∀ i, i < n → f i = g i) → sumTo f n = sumTo g n
  | 0, _ => rfl
  | n + 1, h => by simp only [sumTo]; rw [sumTo_congr f g n (fun i hi => h i (by omega)), h n (by omega)]
theorem sumTo_same (f : Nat → Int) (n r : Nat) : sumTo (fun i => f ((i + r) % n)) n = sumTo f n := by
  rw [sumTo_turn]
  exact sumTo_congr _ _ n fun i hi => by rw [Nat.mod_eq_of_lt hi]
theorem sumTo_0 (f : Nat → Int) (h : ∀ i, 0 ≤ f i) : ∀ k, 0 ≤ sumTo f k
  | 0 => Int.le_refl _
  | k + 1 => by have := sumTo_0 f h k; have := h k; simp only [sumTo]; omega
theorem sat_add {s m : Int} (hs : 0 ≤ s) (hm : 0 ≤ m) : sat (sat s + m) = sat (s + m) := by
  unfold sat
  repeat' split
  all_goals omega
theorem sat_0 {s : Int} (hs : 0 ≤ s) : 0 ≤ sat s := by unfold sat; repeat' split
                                                       all_goals omega
theorem sat_mono {x y : Int} (h : x ≤ y) : sat x ≤ sat y := by
  unfold sat
  repeat' split
  all_goals omega

/-- The numbers that are put. -/
def low (xs : List Int) (i : Nat) : Int := xs.getD i 0 % 9223372036854775808
theorem low_0 (xs : List Int) (i : Nat) : 0 ≤ low xs i := by unfold low; omega
theorem low_in (xs : List Int) (i : Nat) : In (low xs i) := by unfold low In; omega
def sA (xs : List Int) (k : Nat) : Int := sat (sumTo (low xs) k)
def sB (xs : List Int) (r k : Nat) : Int := sat (sumTo (fun i => low xs ((i + r) % xs.length)) k)
theorem sA_next (xs : List Int) (k : Nat) : sat (sA xs k + low xs k) = sA xs (k + 1) := sat_add (sumTo_0 _ (low_0 xs) k) (low_0 xs k)
theorem sB_next (xs : List Int) (r k : Nat) : sat (sB xs r k + low xs ((k + r) % xs.length)) = sB xs r (k + 1) := sat_add (sumTo_0 _ (fun _ => low_0 xs _) k) (low_0 xs _)
theorem sAB (xs : List Int) (r : Nat) : sB xs r xs.length = sA xs xs.length := by unfold sB sA; rw [sumTo_same]
theorem sA_le (xs : List Int) (k : Nat) : sA xs k ≤ sA xs (k + 1) := sat_mono (by have := low_0 xs k; simp only [sumTo]; omega)
theorem sA_0 (xs : List Int) (k : Nat) : 0 ≤ sA xs k := sat_0 (sumTo_0 _ (low_0 xs) k)

set_option maxHeartbeats 400000 in
theorem sums_many (a : Option Addr) (len cap : Nat) (p : Int) (hl : 100 < len) (hm : len ≤ maxLen) (w : World) : Calls Try.prog 3 #[.slice a len cap, .int .i64 p] w (RetB w) := by
  unfold maxLen at hm
  have d1 : (100 : Int) < (len : Int) := by omega
  go_enter Try.func3, Try.ntmps3
  go_wp2_with (go_at_call 14; refine (head_any _).mono ?_; rintro e w1 ⟨rfl, hb1⟩)
  go_ret
  exact RetB.mk rfl (by assumption)

/-- What the loop of TallySums keeps. -/
structure SI (w : World) (B ga gb : Nat) (xs : List Int) (r k : Nat) (wr : World) : Prop where
  a : Blk wr ga 31 #[.int .i64 (sA xs k)]
  b : Blk wr gb 31 #[.int .i64 (sB xs r k)]
  below : Below B w wr

set_option maxHeartbeats 1000000 in
theorem sums_none (a : Option Addr) (cap : Nat) (p : Int) (w : World) : Calls Try.prog 3 #[.slice a 0 cap, .int .i64 p] w (RetB w) := by
  go_enter Try.func3, Try.ntmps3
  go_wp2_with fail
  refine (head_any _).mono ?_
  rintro e w1 ⟨rfl, hb1⟩
  have hsz := hb1.size
  obtain ⟨W, hW⟩ : ∃ W, W = (w1.alloc (.cells #[.int .i64 0] 31)).alloc (.cells #[.int .i64 0] 31) := ⟨_, rfl⟩
  have q1 : Blk W w1.heap.size 31 #[.int .i64 0] := by rw [hW]; exact (Blk.new w1 31 _).alloc _
  have q2 : Blk W (w1.heap.size + 1) 31 #[.int .i64 0] := by
    rw [hW]
    have := Blk.new (w1.alloc (.cells #[.int .i64 0] 31)) 31 #[.int .i64 0]
    rwa [World.size_alloc] at this
  have hB : Below w.heap.size w W := by rw [hW]; exact (hb1.alloc (by omega) _).alloc (by simp; omega) _
  have Q1 := Lib.hid (load_blk _ _ _ _ q1)
  have Q2 := Lib.hid (load_blk _ _ _ _ q2)
  have HB := Lib.hid hB
  have HW := Lib.hid hW
  clear q1 q2 hB hW
  go_wp2
  refine wp_loop_rounds 1 ?_
  rw [rounds_succ]
  go_wp2_with fail
  rw [← HW.out]
  go_wp2_with (first
    | (go_at_call 15; ((with_reducible refine (Q1.out).mono ?_); rintro e w' ⟨rfl, rfl⟩))
    | (go_at_call 15; ((with_reducible refine (Q2.out).mono ?_); rintro e w' ⟨rfl, rfl⟩)))
  go_ret
  exact RetB.mk (by simp) HB.out

set_option maxHeartbeats 2000000 in
theorem sums_few (b off cap : Nat) (p : Int) (xs : List Int) (h0 : 0 < xs.length) (hl : xs.length ≤ 100) (w : World) (hin : ∀ i, i < xs.length → w.cell? ⟨b, off + i, none⟩ = some (.int .i64 (xs.getD i 0))) (hb : b < w.heap.size) :
    Calls Try.prog 3 #[.slice (some ⟨b, off, none⟩) xs.length cap, .int .i64 p] w (RetB w) := by
  have d1 : ¬ (100 : Int) < (xs.length : Int) := by omega
  obtain ⟨r, hr⟩ : ∃ r : Nat, (r : Int) = p % 65536 := ⟨(p % 65536).toNat, by omega⟩
  have er : Go.bits .and .i64 p 65535 = (r : Int) := by rw [and_u16, hr]
  have hr' : r ≤ 65535 := by omega
  clear hr
  have HS := Lib.hid (sAB xs r)
  have HI := Lib.hid hin
  clear hin
  obtain ⟨n, hn⟩ : ∃ n, n = xs.length := ⟨_, rfl⟩
  rw [← hn] at hl d1 h0 ⊢
  have HN := Lib.hid hn
  clear hn
  go_enter Try.func3, Try.ntmps3
  go_wp2_with fail
  refine (head_any _).mono ?_
  rintro e w1 ⟨rfl, hb1⟩
  go_wp2
  go_loopw [23] (fun i wr => ∃ k : Nat, k ≤ n ∧ i = .int .i64 k ∧ SI w w.heap.size w1.heap.size (w1.heap.size + 1) xs r k wr) (fun i _ => n - (intOf i).toNat)
  case atStart =>
    refine ⟨0, Nat.zero_le _, rfl, (Blk.new w1 31 _).alloc _, ?_, ?_⟩
    · have := Blk.new (w1.alloc (.cells #[.int .i64 0] 31)) 31 #[.int .i64 0]
      rwa [World.size_alloc] at this
    · exact (hb1.alloc (by have := hb1.size; omega) _).alloc (by have := hb1.size; simp; omega) _
  case round =>
    obtain ⟨k, hk, rfl, hM⟩ := hrel
    have hsz := hb1.size
    by_cases hlt : k < n
    · obtain ⟨v, hv⟩ : ∃ v, v = xs.getD k 0 := ⟨_, rfl⟩
      obtain ⟨j, hj⟩ : ∃ j, j = (k + r) % n := ⟨_, rfl⟩
      obtain ⟨u, hu⟩ : ∃ u, u = xs.getD j 0 := ⟨_, rfl⟩
      have hjn : j < n := by rw [hj]; exact Nat.mod_lt _ h0
      have c1 : wr.cell? ⟨b, off + k, none⟩ = some (.int .i64 v) := by rw [hM.below.cell (p := ⟨b, off + k, none⟩) hb, hv]; exact HI.out k (by rw [← HN.out]; exact hlt)
      obtain ⟨v2, hv2⟩ : ∃ v2, v2 = low xs k := ⟨_, rfl⟩
      obtain ⟨u2, hu2⟩ : ∃ u2, u2 = low xs j := ⟨_, rfl⟩
      have a1 : Go.bits .and .i64 v 9223372036854775807 = v2 := by rw [and_max, hv2, hv]; rfl
      have a2 : Go.bits .and .i64 u 9223372036854775807 = u2 := by rw [and_max, hu2, hu]; rfl
      have m1 : sat (sA xs k + v2) = sA xs (k + 1) := by rw [hv2]; exact sA_next xs k
      have m2 : sat (sB xs r k + u2) = sB xs r (k + 1) := by rw [hu2, hj, HN.out]; exact sB_next xs r k
      have p0 := load_blk _ _ _ _ hM.a
      have p1 := put_blk (w1.heap.size) 31 (sA xs k) v2 wr hM.a (sat_in _) (by rw [hv2]; exact low_in xs k)
      rw [m1] at p1
      have b2 := hM.b.far (p := ⟨w1.heap.size, 0, none⟩) (by simp) (.int .i64 (sA xs (k + 1)))
      have p2 := put_blk (w1.heap.size + 1) 31 (sB xs r k) u2 _ b2 (sat_in _) (by rw [hu2]; exact low_in xs j)
      rw [m2] at p2
      have hB2 : Below w.heap.size w (wr.setCell ⟨w1.heap.size, 0, none⟩ (.int .i64 (sA xs (k + 1)))) := hM.below.setCell (by simpa using hsz) _
      have c2 : (wr.setCell ⟨w1.heap.size, 0, none⟩ (.int .i64 (sA xs (k + 1)))).cell? ⟨b, off + j, none⟩ = some (.int .i64 u) := by
        rw [hB2.cell (p := ⟨b, off + j, none⟩) hb, hu]; exact HI.out j (by rw [← HN.out]; exact hjn)
      have hM' : SI w w.heap.size w1.heap.size (w1.heap.size + 1) xs r (k + 1) ((wr.setCell ⟨w1.heap.size, 0, none⟩ (.int .i64 (sA xs (k + 1)))).setCell ⟨w1.heap.size + 1, 0, none⟩ (.int .i64 (sB xs r (k + 1)))) :=
        ⟨(hM.a.set_ 0 _).far (by simp) _, b2.set_ 0 _, hB2.setCell (by simp; omega) _⟩
      have ej : ((k : Int) + (r : Int)) % (n : Int) = (j : Int) := by rw [hj]; simp
      have ej2 : ((k : Int) + (r : Int)).tmod (n : Int) = (j : Int) := by rw [Int.tmod_eq_emod_of_nonneg (by omega)]; exact ej
      have hle : ¬ sA xs (k + 1) < sA xs k := by have := sA_le xs k; omega
      have hn0 : ¬ (n : Int) = 0 := by omega
      have hn1 : ¬ n = 0 := by omega
      have P0 := Lib.hid p0
      have P1 := Lib.hid p1
      have P2 := Lib.hid p2
      have HM := Lib.hid hM'
      clear p0 p1 p2 hM' hM b2 hB2 hv hu hj hk hsz m1 m2 hv2 hu2 h0
      generalize sA xs (k + 1) = M' at *
      generalize sA xs k = M at *
      generalize hw2 : wr.setCell ⟨w1.heap.size, 0, none⟩ (.int .i64 M') = w2 at *
      clear hw2
      go_wp2_with fail
      refine (P0.out).mono ?_
      rintro e w' ⟨rfl, rfl⟩
      go_wp2_with fail
      refine (P1.out).mono ?_
      rintro e w' ⟨rfl, rfl⟩
      go_wp2_with fail
      refine (P2.out).mono ?_
      rintro e w3 ⟨rfl, rfl⟩
      go_wp2
      go_roundw
      case rel => exact ⟨k + 1, by omega, by go_num, HM.out⟩
      case measure => simp [intOf]; omega
    · obtain rfl : k = n := by omega
      have q1 := load_blk _ _ _ _ hM.a
      have q2 := load_blk _ _ _ _ hM.b
      have hsame : sB xs r k = sA xs k := by rw [HN.out]; exact HS.out
      rw [hsame] at q2
      have hpos := sA_0 xs k
      have HB := Lib.hid hM.below
      have Q1 := Lib.hid q1
      have Q2 := Lib.hid q2
      clear q1 q2 hM hsame
      generalize sA xs k = M at *
      go_wp2_with (first
        | (go_at_call 15; ((with_reducible refine (Q1.out).mono ?_); rintro e w' ⟨rfl, rfl⟩))
        | (go_at_call 15; ((with_reducible refine (Q2.out).mono ?_); rintro e w' ⟨rfl, rfl⟩)))
      go_ret
      exact RetB.mk (by simp) HB.out

theorem sums_walk (a : Option Addr) (len cap : Nat) (zs : List Int) (p : Int) (w : World) (h : IsRow w a len cap zs) : Calls Try.prog 3 #[.slice a len cap, .int .i64 p] w (RetB w) := by
  by_cases h1 : 100 < len
  · exact sums_many a len cap p h1 h.le w
  · by_cases h0 : 0 < len
    · obtain ⟨b, off, rfl, hb, hc, hl, _⟩ := h.open_ h0
      have := sums_few b off cap p (zs.take len) (by omega) (by omega) w (fun i hi => hc i (by omega)) hb
      rwa [hl] at this
    · obtain rfl : len = 0 := by omega
      exact sums_none a cap p w

end Go.Proofs.Ytfdmkfoiooibiaa.Tally
