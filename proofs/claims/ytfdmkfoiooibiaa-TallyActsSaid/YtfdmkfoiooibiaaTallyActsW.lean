/- Proved: the walk of the law TallyActs: it answers true, for every list of acts. -/
import Derived.Test.YtfdmkfoiooibiaaTallySumsW
import Derived.Deep.Slices
import Derived.Deep.Fields
import Derived.ChangeSame
namespace Go.Proofs.Ytfdmkfoiooibiaa.Tally
open Go.RowKit

/-- What it is behind the first k acts. -/
def val (ks ns : Nat → Int) : Nat → Int | 0 => 0 | k + 1 => if ks k % 4 = 2 then max (val ks ns k) (ns k) else sat (val ks ns k + ns k)
theorem bq {x y : Int} (h : x = y) : (x == y) = true := beq_iff_eq.2 h
theorem nq {x y : Int} (h : ¬ x = y) : (x == y) = false := beq_eq_false_iff_ne.2 h
theorem and_3 (n : Int) : Go.bits .and .i64 n 3 = n % 4 := by rw [i64_mask n 3 2 (by decide), IntKind.wrap_i64]; omega

set_option maxHeartbeats 400000 in
theorem acts_many (a : Option Addr) (len cap : Nat) (hl : 200 < len) (hm : len ≤ maxLen) (w : World) : Calls Try.prog 5 #[.slice a len cap] w (RetB w) := by
  unfold maxLen at hm
  have d1 : (200 : Int) < (len : Int) := by omega
  go_enter Try.func5, Try.ntmps5
  go_wp2_with (go_at_call 14; refine (head_any _).mono ?_; rintro e w1 ⟨rfl, hb1⟩)
  go_ret
  exact RetB.mk rfl (by assumption)

/-- What the loop of TallyActs keeps. -/
structure CI (w : World) (B gc : Nat) (ks ns : Nat → Int) (k : Nat) (wr : World) : Prop where
  c : Blk wr gc 31 #[.int .i64 (val ks ns k)]
  i : In (val ks ns k)
  below : Below B w wr

set_option maxHeartbeats 1000000 in
theorem acts_few (b off cap n : Nat) (ks ns : Nat → Int) (hl : n ≤ 200) (w : World) (hin : ∀ i, i < n → w.cell? ⟨b, off + i * 2, none⟩ = some (.int .i64 (ks i)) ∧ w.cell? ⟨b, off + i * 2 + 1, none⟩ = some (.int .i64 (ns i)) ∧ In (ns i)) (hb : b < w.heap.size) :
    Calls Try.prog 5 #[.slice (some ⟨b, off, none⟩) n cap] w (RetB w) := by
  have d1 : ¬ (200 : Int) < (n : Int) := by omega
  have HI := Lib.hid hin
  clear hin
  go_enter Try.func5, Try.ntmps5
  go_wp2_with fail
  refine (head_any _).mono ?_
  rintro e w1 ⟨rfl, hb1⟩
  obtain ⟨g, hg⟩ : ∃ g, g = w1.heap.size := ⟨_, rfl⟩
  have eg : w1.heap.size = g := hg.symm
  have hsz : w.heap.size ≤ g := by rw [hg]; exact hb1.size
  have hst : CI w w.heap.size g ks ns 0 (w1.alloc (.cells #[.int .i64 0] 31)) := by
    rw [hg]
    exact ⟨Blk.new w1 31 _, ⟨by simp [val], by simp [val]⟩, hb1.alloc hb1.size _⟩
  have HST := Lib.hid hst
  have HSZ := Lib.hid hsz
  clear hst hsz hg
  go_wp2
  clear eg
  go_loopw [4, 17] (fun m i wr => ∃ k : Nat, k ≤ n ∧ i = .int .i64 k ∧ m = .int .i64 (val ks ns k) ∧ CI w w.heap.size g ks ns k wr) (fun _ i _ => n - (intOf i).toNat)
  case atStart => exact ⟨0, Nat.zero_le _, rfl, rfl, HST.out⟩
  case round =>
    obtain ⟨k, hk, rfl, rfl, hM⟩ := hrel
    have hsz := HSZ.out
    by_cases hlt : k < n
    · obtain ⟨h1, h2, h3⟩ := HI.out k hlt
      obtain ⟨v, hv⟩ : ∃ v, v = ks k := ⟨_, rfl⟩
      obtain ⟨x, hx⟩ : ∃ x, x = ns k := ⟨_, rfl⟩
      rw [← hv] at h1
      rw [← hx] at h2 h3
      have c1 : wr.cell? ⟨b, off + k * 2, none⟩ = some (.int .i64 v) := by rw [hM.below.cell (p := ⟨b, off + k * 2, none⟩) hb]; exact h1
      have c2 : wr.cell? ⟨b, off + k * 2 + 1, none⟩ = some (.int .i64 x) := by rw [hM.below.cell (p := ⟨b, off + k * 2 + 1, none⟩) hb]; exact h2
      obtain ⟨M, hMv⟩ : ∃ M, M = val ks ns k := ⟨_, rfl⟩
      obtain ⟨M', hMv'⟩ : ∃ M', M' = val ks ns (k + 1) := ⟨_, rfl⟩
      have hnext : M' = if v % 4 = 2 then max M x else sat (M + x) := by rw [hMv', hMv, hv, hx]; rfl
      obtain ⟨gn, hgn⟩ : ∃ gn, gn = wr.heap.size := ⟨_, rfl⟩
      have hc := hM.c
      rw [← hMv] at hc
      have hi := hM.i
      rw [← hMv] at hi
      have hglt := hc.lt
      obtain ⟨W1, hW1⟩ : ∃ W1, W1 = wr.alloc (.cells #[.int .i64 v, .int .i64 x] 38) := ⟨_, rfl⟩
      have q1 : Blk W1 g 31 #[.int .i64 M] := by rw [hW1]; exact hc.alloc _
      have q2 : Blk W1 gn 38 #[.int .i64 v, .int .i64 x] := by rw [hW1, hgn]; exact Blk.new wr 38 _
      have hBe : Below w.heap.size w (W1.setCell ⟨g, 0, none⟩ (.int .i64 M')) := by
        rw [hW1]; exact (hM.below.alloc hM.below.size _).setCell hsz _
      have q3 := q1.set_ 0 (.int .i64 M')
      have q4 := q2.far (p := ⟨g, 0, none⟩) (by simp; omega) (.int .i64 M')
      have iM' : In M' := by
        rw [hnext]; split
        · unfold In at *; omega
        · exact sat_in _
      have hfin : CI w w.heap.size g ks ns (k + 1) (W1.setCell ⟨g, 0, none⟩ (.int .i64 M')) := ⟨by rw [← hMv']; exact q3, by rw [← hMv']; exact iM', hBe⟩
      have z0 : W1.cell? ⟨gn, 0, none⟩ = some (.int .i64 v) := by rw [q2.cell]; rfl
      have z1 : W1.cell? ⟨gn, 1, none⟩ = some (.int .i64 x) := by rw [q2.cell]; rfl
      have ea : Go.bits .and .i64 v 3 = v % 4 := and_3 v
      have egn : wr.heap.size = gn := hgn.symm
      have HE := Lib.hid hMv'
      have HF := Lib.hid hfin
      have HW := Lib.hid hW1
      have em : val ks ns k = M := hMv.symm
      clear hM hMv hMv' hv hx h1 h2 hBe hW1 hgn hsz hglt hc hk hfin iM'
      by_cases h2 : v % 4 = 2
      · rw [if_pos h2] at hnext
        have p1 := most_any g 31 M x W1 q1
        rw [← hnext] at p1
        obtain ⟨W2, hW2⟩ : ∃ W2, W2 = W1.setCell ⟨g, 0, none⟩ (.int .i64 M') := ⟨_, rfl⟩
        rw [← hW2] at p1 q3 q4
        have y1 : W2.cell? ⟨gn, 1, none⟩ = some (.int .i64 x) := by rw [q4.cell]; rfl
        have p2 := load_blk _ _ _ _ q3
        have p3 := full_blk _ _ _ _ q3
        have P1 := Lib.hid p1
        have P2 := Lib.hid p2
        have P3 := Lib.hid p3
        have HW2 := Lib.hid hW2
        have b2 : (v % 4 == 2) = true := bq h2
        have hcase : (M < x ∧ M' = x) ∨ (¬ M < x ∧ M' = M) := by omega
        clear p1 p2 p3 hW2 hnext q1 q2 q3 q4 h2 h3 hi
        rcases hcase with ⟨hcc, rfl⟩ | ⟨hcc, rfl⟩
        all_goals
          go_wp2_with fail
          rw [← HW.out]
          refine (P1.out).mono ?_
          rintro e w' ⟨rfl, rfl⟩
          go_wp2_with (first
            | (go_at_call 15; ((with_reducible refine (P2.out).mono ?_); rintro e w' ⟨rfl, rfl⟩))
            | (go_at_call 19; ((with_reducible refine (P3.out).mono ?_); rintro e w' ⟨rfl, rfl⟩)))
          go_roundw
          case rel => exact ⟨k + 1, by omega, by go_num, by rw [HE.out], by rw [HW2.out]; exact HF.out⟩
          case measure => simp [intOf]; omega
      · rw [if_neg h2] at hnext
        have p1 := put_blk g 31 M x W1 q1 hi h3
        have p4 := fun w => add_any M x w hi h3
        rw [← hnext] at p1 p4
        obtain ⟨W2, hW2⟩ : ∃ W2, W2 = W1.setCell ⟨g, 0, none⟩ (.int .i64 M') := ⟨_, rfl⟩
        rw [← hW2] at p1 q3 q4
        have y1 : W2.cell? ⟨gn, 1, none⟩ = some (.int .i64 x) := by rw [q4.cell]; rfl
        have p2 := load_blk _ _ _ _ q3
        have p3 := full_blk _ _ _ _ q3
        have P1 := Lib.hid p1
        have P2 := Lib.hid p2
        have P3 := Lib.hid p3
        have P4 := Lib.hid p4
        have HW2 := Lib.hid hW2
        have b2 : (v % 4 == 2) = false := nq h2
        clear p1 p2 p3 p4 hW2 hnext q1 q2 q3 q4 h2 h3 hi
        go_wp2_with fail
        rw [← HW.out]
        refine (P1.out).mono ?_
        rintro e w' ⟨rfl, rfl⟩
        go_wp2_with (first
          | (go_at_call 18; ((with_reducible refine (P4.out _).mono ?_); rintro e w' ⟨rfl, rfl⟩))
          | (go_at_call 15; ((with_reducible refine (P2.out).mono ?_); rintro e w' ⟨rfl, rfl⟩))
          | (go_at_call 19; ((with_reducible refine (P3.out).mono ?_); rintro e w' ⟨rfl, rfl⟩)))
        go_roundw
        case rel => exact ⟨k + 1, by omega, by go_num, by rw [HE.out], by rw [HW2.out]; exact HF.out⟩
        case measure => simp [intOf]; omega
    · obtain rfl : k = n := by omega
      have HB := Lib.hid hM.below
      clear hM
      go_wp2
      go_ret
      exact RetB.mk rfl HB.out
/-- A slice of acts, as it was opened. -/
def IsActs (w : World) (a : Option Addr) (len : Nat) : Prop :=
  len ≤ maxLen ∧ (0 < len → ∃ (b off : Nat) (ks ns : Nat → Int), a = some ⟨b, off, none⟩ ∧ b < w.heap.size ∧
    ∀ i, i < len → w.cell? ⟨b, off + i * 2, none⟩ = some (.int .i64 (ks i)) ∧ w.cell? ⟨b, off + i * 2 + 1, none⟩ = some (.int .i64 (ns i)) ∧ In (ns i))

set_option maxHeartbeats 1000000 in
theorem acts_none (a : Option Addr) (cap : Nat) (w : World) : Calls Try.prog 5 #[.slice a 0 cap] w (RetB w) := by
  go_enter Try.func5, Try.ntmps5
  go_wp2_with fail
  refine (head_any _).mono ?_
  rintro e w1 ⟨rfl, hb1⟩
  have HB := Lib.hid (hb1.alloc hb1.size (.cells #[.int .i64 0] 31))
  go_wp2
  refine wp_loop_rounds 1 ?_
  rw [rounds_succ]
  go_wp2
  go_ret
  exact RetB.mk rfl HB.out

theorem acts_walk (a : Option Addr) (len cap : Nat) (w : World) (h : IsActs w a len) : Calls Try.prog 5 #[.slice a len cap] w (RetB w) := by
  by_cases h1 : 200 < len
  · exact acts_many a len cap h1 h.1 w
  · by_cases h0 : 0 < len
    · obtain ⟨b, off, ks, ns, rfl, hb, hc⟩ := h.2 h0
      exact acts_few b off cap len ks ns (by omega) w hc hb
    · obtain rfl : len = 0 := by omega
      exact acts_none a cap w

end Go.Proofs.Ytfdmkfoiooibiaa.Tally
namespace Go.Proofs.Ytfdmkfoiooibiaa.Tally
open Go.ChangeShapes Go.WideShapes Go.Deep
section
variable {H : Type} {enc : TypeId × Value → H} {P : Program} {w : World} {base : Nat} {spare : Nat → Bool} {held : Bool}
theorem open_slice_fields {t e : TypeId} {fs : Array Field} {fuel : Nat} {cs : List Value} {x : DataW H × List MemPlace} (ht : P.underlying t = some (.slice e)) (he : P.underlying e = some (.struct fs))
    (hone : oneCellFields P fs = true) (hC : P.cellsOf e = fs.size) (h : DataW.trod enc P w base spare held fuel t cs = some x) :
    (cs = [.slice none 0 0] ∧ x = (.nil, [])) ∨
    ∃ (a : Addr) (len cap m : Nat) (D : Nat → DataW H) (Pl : Nat → List MemPlace), cs = [.slice (some a) len cap] ∧ base ≤ a.block ∧ len ≤ cap ∧ cap ≤ maxLen ∧ m = (if spare a.block then cap else len) ∧
      x = (.slice ((List.range len).map D) ((List.range (m - len)).map fun j => D (len + j)), MemPlace.row a (m * fs.size) ++ (List.range m).flatMap Pl) ∧
      ∀ i, i < m → ∃ (ys : List (DataW H × List MemPlace)) (n : Nat), D i = .agg (ys.map (·.1)) ∧ Pl i = ys.flatMap (·.2) ∧ ys.length = fs.size ∧
        ∀ (j : Nat) (f : Field), fs[j]? = some f → ∃ (v : Value) (y : DataW H × List MemPlace), w.cell? (a.add (i * fs.size + j)) = some v ∧ ys[j]? = some y ∧ DataW.trod enc P w base spare held n f.type [v] = some y := by
  rcases open_slice ht h with h0 | ⟨a, len, cap, m, n, D, Pl, hcs, hb, hl, hm, hmm, hx, hi⟩
  · exact .inl h0
  · refine .inr ⟨a, len, cap, m, D, Pl, hcs, hb, hl, hm, hmm, by rw [hC] at hx; exact hx, fun i him => ?_⟩
    obtain ⟨cs', hc, ht'⟩ := hi i him
    rw [hC] at hc
    obtain ⟨ys, n', hn', hy, hlen, hyl, hf⟩ := DataW.trod_struct he ht'
    obtain ⟨_, hcl, hat⟩ := World.cells?_some hc
    simp only [Prod.mk.injEq] at hy
    refine ⟨ys, n', hy.1, hy.2, hyl, fun j f hj => ?_⟩
    obtain ⟨ho, hk⟩ := hone_of hone j f hj
    have hjl : j < fs.size := (Array.getElem?_eq_some_iff.1 hj).1
    have hcell := hat j hjl
    have hv : cs'[j]? = some (cs'[j]'(by omega)) := List.getElem?_eq_getElem (by omega)
    have h1 := hf j f hj
    rw [ho, hk] at h1
    have hone' : (cs'.drop j).take 1 = [cs'[j]'(by omega)] := by
      rw [List.drop_eq_getElem_cons (by omega)]
      rfl
    rw [hone'] at h1
    have hys : ys[j]? = some (ys[j]'(by omega)) := List.getElem?_eq_getElem (by omega)
    refine ⟨_, _, ?_, hys, h1.trans hys⟩
    rw [← Go.Deep.add_add, hcell, hv]
end

theorem pick {P : Nat → Int → Prop} {n : Nat} (h : ∀ i, i < n → ∃ x, P i x) : ∃ f : Nat → Int, ∀ i, i < n → P i (f i) := by
  have h' : ∀ i, ∃ x, i < n → P i x := fun i => by
    by_cases hi : i < n
    · obtain ⟨x, hx⟩ := h i hi
      exact ⟨x, fun _ => hx⟩
    · exact ⟨0, fun hh => absurd hh hi⟩
  exact ⟨fun i => Classical.choose (h' i), fun i hi => Classical.choose_spec (h' i) hi⟩

theorem open_acts {H : Type} {enc : TypeId × Value → H} {w : World} {base : Nat} {spare : Nat → Bool} {held : Bool} {fuel : Nat} {a : Option Addr} {len cap : Nat} {x : DataW H × List MemPlace}
    (h : DataW.trod enc Try.prog w base spare held fuel 36 (Value.slice a len cap).cells.toList = some x) : IsActs w a len := by
  have h' : DataW.trod enc Try.prog w base spare held fuel 36 [Value.slice a len cap] = some x := h
  rcases open_slice_fields Try.underlying36 Try.underlying38 (by kernel_rfl) (by kernel_rfl) h' with ⟨hcs, _⟩ | ⟨a', len', cap', m, D, Pl, hcs, _, hl, hm, hmm, _, hF⟩
  · simp at hcs
    obtain ⟨rfl, rfl, rfl⟩ := hcs
    exact ⟨by unfold maxLen; omega, fun h => by omega⟩
  · simp at hcs
    obtain ⟨rfl, rfl, rfl⟩ := hcs
    refine ⟨by omega, fun h0 => ?_⟩
    have hlm : len ≤ m := by rw [hmm]; split <;> omega
    have cells : ∀ i, i < len → (∃ k, w.cell? (a'.add (i * 2)) = some (.int .i64 k)) ∧ ∃ n, w.cell? (a'.add (i * 2 + 1)) = some (.int .i64 n) ∧ In n := by
      intro i hi
      obtain ⟨ys, n, _, _, _, hf⟩ := hF i (by omega)
      obtain ⟨v0, y0, hc0, _, ht0⟩ := hf 0 _ rfl
      obtain ⟨v1, y1, hc1, _, ht1⟩ := hf 1 _ rfl
      obtain ⟨x0, e0, _, _⟩ := DataW.trod_int Try.underlying3 ht0
      obtain ⟨x1, e1, _, hw1⟩ := DataW.trod_int Try.underlying2 ht1
      simp at e0 e1
      subst e0 e1
      exact ⟨⟨x0, hc0⟩, x1, hc1, in_of hw1⟩
    obtain ⟨b, off, spot⟩ := a'
    obtain ⟨k0, hk0⟩ := (cells 0 h0).1
    have hspot : spot = none := by simpa [Addr.add] using World.cell?_spot hk0
    subst hspot
    obtain ⟨ks, hks⟩ := pick fun i hi => (cells i hi).1
    obtain ⟨ns, hns⟩ := pick fun i hi => (cells i hi).2
    refine ⟨b, off, ks, ns, rfl, ?_, fun i hi => ?_⟩
    · unfold World.cell? at hk0
      rcases Nat.lt_or_ge b w.heap.size with hlt | hge
      · exact hlt
      · have e : (Addr.add ⟨b, off, none⟩ (0 * 2)).block = b := by simp [Addr.add]
        rw [e] at hk0
        simp [Array.getElem?_eq_none hge] at hk0
    · have q1 := hks i hi
      have q2 := hns i hi
      rw [Go.WideShapes.add_plain] at q1 q2
      exact ⟨q1, q2.1, q2.2⟩

end Go.Proofs.Ytfdmkfoiooibiaa.Tally
