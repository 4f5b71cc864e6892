/- Proved: slices of 64-bit numbers as the laws of histo open them; what few idle times leave in a histogram. -/
import Derived.Test.YtopbhdpfakjkjaaHistoSpreadsW
import Derived.ProofKit
import Derived.OpenShut
namespace Go.Proofs.Ytopbhdpfakjkjaa.Histo
open Go.RowKit
set_option linter.unusedVariables false

/-- A slice of 64-bit numbers, as it was opened. -/
def IsRow (w : World) (a : Option Addr) (len cap : Nat) (zs : List Int) : Prop :=
  (a = none ∧ len = 0 ∧ cap = 0 ∧ zs = []) ∨
  ∃ x, a = some x ∧ len ≤ cap ∧ cap ≤ maxLen ∧ zs.length = cap ∧ (∀ i, i < zs.length → w.cell? (x.add i) = some (.int .i64 (zs.getD i 0))) ∧ ∀ n ∈ zs, (Lit.int .i64 n).wf = true

/-- Its elements, and where they lie. -/
def Elems (w : World) (a : Option Addr) (n : Nat) (xs : Nat → Int) : Prop := ∀ k, k < n → ∃ b off, a = some ⟨b, off, none⟩ ∧ b < w.heap.size ∧ ∀ j, j < n → w.cell? ⟨b, off + j, none⟩ = some (.int .i64 (xs j))
theorem IsRow.le {w : World} {a : Option Addr} {len cap : Nat} {zs : List Int} (h : IsRow w a len cap zs) : len ≤ maxLen := by
  rcases h with ⟨_, h, _⟩ | ⟨x, rfl, hl, hm, hz, hc, hw⟩
  · omega
  · omega
theorem IsRow.elems {w : World} {a : Option Addr} {len cap : Nat} {zs : List Int} (h : IsRow w a len cap zs) : Elems w a len (fun i => zs.getD i 0) := by
  intro k h0
  rcases h with ⟨_, h, _⟩ | ⟨x, rfl, hl, hm, hz, hc, hw⟩
  · omega
  · obtain ⟨b, off, spot⟩ := x
    have hspot : spot = none := by simpa [Addr.add] using World.cell?_spot (hc 0 (by omega))
    subst hspot
    have hc' : ∀ i, i < zs.length → w.cell? ⟨b, off + i, none⟩ = some (.int .i64 (zs.getD i 0)) := fun i hi => by
      have := hc i hi
      rwa [Go.WideShapes.add_plain] at this
    refine ⟨b, off, rfl, ?_, fun i hi => hc' i (by omega)⟩
    have := hc' 0 (by omega)
    unfold World.cell? at this
    rcases Nat.lt_or_ge b w.heap.size with hlt | hge
    · exact hlt
    · simp [Array.getElem?_eq_none hge] at this

/-- A histogram behind the first k idle times. -/
def st (xs : Nat → Int) : Nat → S | 0 => S.empty | k + 1 => (st xs k).add (xs k)
theorem st_ok (xs : Nat → Int) : ∀ k, Ok (st xs k)
  | 0 => Ok.none
  | k + 1 => (st_ok xs k).add _
theorem Ok.add_few {s : S} (h : Ok s) {t : Int} (hf : s.a + s.o < 4095) : s.add t = if t < 0 then s else s.raw t := by
  unfold S.add
  split
  · rfl
  · have := (h.raw_all t).2.2
    rw [if_neg (by omega)]
theorem st_few (xs : Nat → Int) : ∀ k, k ≤ 4000 → (st xs k).a + (st xs k).o ≤ k
  | 0, _ => by simp [st, S.empty]
  | k + 1, h => by
    have h1 := st_few xs k (by omega)
    have h2 := (st_ok xs k).raw_all (xs k)
    show ((st xs k).add (xs k)).a + ((st xs k).add (xs k)).o ≤ _
    rw [(st_ok xs k).add_few (by omega)]
    split <;> omega
theorem st_next (xs : Nat → Int) (k : Nat) (h : k ≤ 4000) : st xs (k + 1) = if xs k < 0 then st xs k else (st xs k).raw (xs k) :=
  (st_ok xs k).add_few (by have := st_few xs k h; omega)

theorem raw_get {s : S} (h : Ok s) {t : Int} (h0 : 0 ≤ t) (v : Nat) (hv : v < 240) : (s.raw t).bs.getD v 0 = s.bs.getD v 0 + if t = v then 1 else 0 := by
  unfold S.raw
  split
  · next ht =>
    simp only
    rw [List.getD_eq_getElem?_getD, List.getElem?_set]
    by_cases e : t = v
    · rw [if_pos e, if_pos (by omega), if_pos (by rw [h.len]; omega)]
      rw [show t.toNat = v by omega]; rfl
    · rw [if_neg e, if_neg (by omega), ← List.getD_eq_getElem?_getD]; omega
  · next ht => rw [if_neg (by omega)]; simp only; omega

theorem ps_zero (bs : List Int) : ∀ k, k ≤ bs.length → (∀ i, i < k → bs.getD i 0 = 0) → ps bs k = 0
  | 0, _, _ => rfl
  | k + 1, h, hz => by rw [ps_next (by omega), ps_zero bs k (by omega) (fun i hi => hz i (by omega)), hz k (by omega)]; rfl
theorem ps_le {s : S} (ok : Ok s) {i : Nat} : ∀ {m : Nat}, i < m → m ≤ 240 → ps s.bs i + s.bs.getD i 0 ≤ ps s.bs m
  | 0, h, _ => by omega
  | m + 1, h, hm => by
    have hb := ok.bd _ (getD_mem (show m < s.bs.length by rw [ok.len]; omega))
    rw [ps_next (show m < s.bs.length by rw [ok.len]; omega)]
    by_cases e : i = m
    · subst e; omega
    · have := ps_le ok (show i < m by omega) (by omega)
      omega
theorem ps_rest {s : S} (ok : Ok s) {j : Nat} (hz : ∀ i, j ≤ i → i < 240 → s.bs.getD i 0 = 0) : ∀ m, j ≤ m → m ≤ 240 → ps s.bs m = ps s.bs j
  | 0, h, _ => by have : j = 0 := by omega
                  subst this; rfl
  | m + 1, h, hm => by
    by_cases e : j = m + 1
    · subst e; rfl
    · rw [ps_next (show m < s.bs.length by rw [ok.len]; omega), ps_rest ok hz m (by omega) (by omega), hz m (by omega) (by omega)]; omega
theorem getD_pos {s : S} (ok : Ok s) (i : Nat) (hi : i < 240) : 0 ≤ s.bs.getD i 0 := (ok.bd _ (getD_mem (show i < s.bs.length by rw [ok.len]; exact hi))).1

/-- The least and the greatest of those that are counted one by one. -/
def le (xs : Nat → Int) : Nat → Int | 0 => 240 | k + 1 => if 0 ≤ xs k ∧ xs k < 240 then min (le xs k) (xs k) else le xs k
def mo (xs : Nat → Int) : Nat → Int | 0 => -1 | k + 1 => if 0 ≤ xs k ∧ xs k < 240 then max (mo xs k) (xs k) else mo xs k
structure LM (s : S) (l m : Int) : Prop where
  all : ∀ v : Nat, v < 240 → 0 < s.bs.getD v 0 → l ≤ v ∧ (v : Int) ≤ m
  non : m < 0 → l = 240 ∧ m = -1 ∧ s.a = 0
  some : 0 ≤ m → 0 ≤ l ∧ l ≤ m ∧ m < 240 ∧ 0 < s.bs.getD m.toNat 0 ∧ 0 < s.bs.getD l.toNat 0
theorem lm (xs : Nat → Int) : ∀ k, k ≤ 4000 → LM (st xs k) (le xs k) (mo xs k)
  | 0, _ => ⟨fun v hv h => by
      have e : (st xs 0).bs = zeros := rfl
      rw [e, zeros_get] at h; omega, fun _ => ⟨rfl, rfl, rfl⟩, fun h => by simp [mo] at h⟩
  | k + 1, hk => by
    have ih := lm xs k (by omega)
    have ok := st_ok xs k
    rw [st_next xs k (by omega)]
    simp only [le, mo]
    by_cases h0 : xs k < 0
    · rw [if_pos h0, if_neg (by omega), if_neg (by omega)]; exact ih
    · rw [if_neg h0]
      by_cases h1 : xs k < 240
      · rw [if_pos ⟨by omega, h1⟩, if_pos ⟨by omega, h1⟩]
        have hg := fun v hv => raw_get ok (show 0 ≤ xs k by omega) v hv
        obtain ⟨x, hx⟩ : ∃ x : Nat, xs k = x := ⟨(xs k).toNat, by omega⟩
        rw [hx] at h1 hg ⊢
        have hge : ∀ v : Nat, v < 240 → 0 ≤ (st xs k).bs.getD v 0 := fun v hv => getD_pos ok v hv
        refine ⟨fun v hv hp => ?_, fun h => by omega, fun _ => ?_⟩
        · rw [hg v hv] at hp
          by_cases e : (x : Int) = (v : Int)
          · omega
          · rw [if_neg e] at hp
            have := ih.all v hv (by omega)
            omega
        · refine ⟨?_, by omega, ?_, ?_, ?_⟩
          · by_cases hm : mo xs k < 0
            · have := ih.non hm; omega
            · have := ih.some (by omega); omega
          · by_cases hm : mo xs k < 0
            · omega
            · have := ih.some (by omega); omega
          · have hb : (max (mo xs k) (x : Int)).toNat < 240 := by
              by_cases hm : mo xs k < 0
              · omega
              · have := ih.some (by omega); omega
            rw [hg _ hb]
            have := hge _ hb
            by_cases e : max (mo xs k) (x : Int) = x
            · rw [if_pos (by omega)]; omega
            · have e2 : max (mo xs k) (x : Int) = mo xs k := by omega
              rw [e2] at hb this ⊢
              have q := (ih.some (by omega)).2.2.2.1
              split <;> omega
          · have hb : (min (le xs k) (x : Int)).toNat < 240 := by omega
            rw [hg _ hb]
            have := hge _ hb
            by_cases e : min (le xs k) (x : Int) = x
            · rw [if_pos (by omega)]; omega
            · have e2 : min (le xs k) (x : Int) = le xs k := by omega
              rw [e2] at *
              by_cases hm : mo xs k < 0
              · have := ih.non hm; omega
              · have q := ih.some (by omega)
                have := q.2.2.2.2
                split <;> omega
      · rw [if_neg (by omega), if_neg (by omega)]
        have e : (st xs k).raw (xs k) = ⟨(st xs k).bs, (st xs k).a, (st xs k).o + 1⟩ := by unfold S.raw; rw [if_neg h1]
        rw [e]
        exact ⟨ih.all, ih.non, ih.some⟩

theorem LM.pos {s : S} {l m : Int} (h : LM s l m) (ok : Ok s) (hm : 0 ≤ m) : 0 < s.a := by
  obtain ⟨h1, h2, h3, h4, h5⟩ := h.some hm
  have := ps_le ok (show m.toNat < 240 by omega) (Nat.le_refl 240)
  have := (ps_mono ok m.toNat).1
  rw [ps_all ok] at *
  omega
theorem LM.cut0 {s : S} {l m : Int} (h : LM s l m) (ok : Ok s) (hm : 0 ≤ m) : (s.cut 0 : Int) = l := by
  obtain ⟨h1, h2, h3, h4, h5⟩ := h.some hm
  have e : s.cut 0 = l.toNat := by
    refine cut_of ⟨by omega, ⟨?_, ?_⟩, fun j hj hs => ?_⟩
    · have := ps_le ok (show l.toNat < l.toNat + 1 by omega) (by omega)
      have := (ps_mono ok l.toNat).1
      omega
    · rw [show pc 0 * s.a = 0 by rw [show pc 0 = 0 by decide]; omega]
      have := (ps_mono ok (l.toNat + 1)).1
      omega
    · have hz := ps_zero s.bs (j + 1) (by rw [ok.len]; omega) (fun i hi => by
        by_cases hp : 0 < s.bs.getD i 0
        · have := h.all i (by omega) hp; omega
        · have := getD_pos ok i (by omega); omega)
      have := hs.1
      omega
  omega
theorem LM.cut100 {s : S} {l m : Int} (h : LM s l m) (ok : Ok s) (hm : 0 ≤ m) : (s.cut 100 : Int) = m := by
  obtain ⟨h1, h2, h3, h4, h5⟩ := h.some hm
  have hpos := h.pos ok hm
  have hpc : pc 100 = 100 := by decide
  have hall : ps s.bs (m.toNat + 1) = s.a := by
    rw [← ps_all ok]
    exact (ps_rest ok (fun i hi hi' => by
      by_cases hp : 0 < s.bs.getD i 0
      · have := h.all i (by omega) hp; omega
      · have := getD_pos ok i (by omega); omega) 240 (by omega) (Nat.le_refl _)).symm
  have e : s.cut 100 = m.toNat := by
    refine cut_of ⟨by omega, ⟨by rw [hall]; exact hpos, by rw [hall, hpc]; omega⟩, fun j hj hs => ?_⟩
    have h6 := ps_le ok (show m.toNat < 240 by omega) (Nat.le_refl 240)
    rw [ps_all ok] at h6
    have h7 : ps s.bs (j + 1) ≤ ps s.bs m.toNat := by
      by_cases e : j + 1 = m.toNat
      · rw [e]; exact Int.le_refl _
      · have := ps_le ok (show j + 1 < m.toNat by omega) (by omega)
        have := getD_pos ok (j + 1) (by omega)
        omega
    have := hs.2
    rw [hpc] at this
    omega
  omega
theorem cut_mono {s : S} (ok : Ok s) {p q : Int} (h : p ≤ q) (ha : 0 < s.a) : s.cut p ≤ s.cut q := by
  have hp := cut_first ok p ha
  have hq := cut_first ok q ha
  rcases Nat.lt_or_ge (s.cut q) (s.cut p) with hlt | hge
  · exfalso
    refine hp.no _ hlt ⟨hq.yes.1, Int.le_trans ?_ hq.yes.2⟩
    exact Int.mul_le_mul_of_nonneg_right (by unfold pc; omega) (by omega)
  · exact hge
theorem cut_pc {s : S} {p q : Int} (h : pc p = pc q) : s.cut p = s.cut q := by unfold S.cut; rw [h]
theorem cut_ge0 {s : S} (ok : Ok s) (p : Int) (ha : 0 < s.a) : s.cut 0 ≤ s.cut p := by
  by_cases h : 0 ≤ p
  · exact cut_mono ok h ha
  · rw [cut_pc (show pc p = pc 0 by unfold pc; omega)]; exact Nat.le_refl _
theorem cut_le100 {s : S} (ok : Ok s) (p : Int) (ha : 0 < s.a) : s.cut p ≤ s.cut 100 := by
  by_cases h : p ≤ 100
  · exact cut_mono ok h ha
  · rw [cut_pc (show pc p = pc 100 by unfold pc; omega)]; exact Nat.le_refl _
theorem spread_none {s : S} (h : s.a = 0) : s.spread = false := by unfold S.spread; rw [h]; rfl

end Go.Proofs.Ytopbhdpfakjkjaa.Histo
