/- Proved: what reply.Parse answers: the answer that has just these words, or none. -/
import Derived.Test.YtopbhdpfakjkjaaDoorReplyNum
namespace Go.Proofs.YtopbhdpfakjkjaaDoor.Reply
open Go.RowKit Go.Proofs.YtopbhdpfakjkjaaDoor.Histo Go.Proofs.YtopbhdpfakjkjaaDoor.Event Go.Proofs.YtopbhdpfakjkjaaDoor.Once
set_option linter.unusedVariables false
def errOf (rest : List UInt8) : Nat → Int | 0 => 0 | j + 1 => if wordB ((j : Int) + 1) = rest then (j : Int) + 1 else errOf rest j
def whyOf (rest : List UInt8) : Nat → Int | 0 => 0 | j + 1 => if whyB (j : Int) = rest then (j : Int) else whyOf rest j
/-- The answer of a kind that such words behind the first one tell. -/
def build (k : Int) (rest : List UInt8) : Ans := ⟨k, if k = 2 ∨ k = 3 then (numOf rest).getD 0 else 0, if k = 4 then whyOf rest 5 else 0, if k = 1 then errOf rest 6 else 0⟩
def hit (l word rest : List UInt8) (k : Nat) : Prop := kindB (k : Int) = word ∧ text (build k rest) = l
def Ans.val4 (a : Ans) : Value := .agg #[.int .i64 a.kind, .int .i64 a.box, .int .i64 a.why, .int .i64 a.err]
/-- The first kind that fits; none: no answer has these words. -/
def ParseP (l : List UInt8) (w : World) (e : Ending) (w' : World) : Prop := Below w.heap.size w w' ∧
  ((∃ k : Nat, k < 5 ∧ hit l (Lib.cut l [32]).1 (Lib.cut l [32]).2.1 k ∧ e = .returned (.tuple #[Ans.val4 (build k (Lib.cut l [32]).2.1), .int .i64 0])) ∨
   ((∀ k : Nat, k < 5 → ¬ hit l (Lib.cut l [32]).1 (Lib.cut l [32]).2.1 k) ∧ e = .returned (.tuple #[Ans.val4 ⟨0, 0, 0, 0⟩, .int .i64 5])))
theorem below_drewN' {B : Nat} {a w : World} (h : Below B a w) (n : Nat) : Below B a (w.drewN n) := ⟨h.os, h.tape, h.output, h.size, h.block⟩
theorem four (ok : Bool) (i : Int) : (ok = true ∧ i = 2) ∨ (ok = true ∧ i = 3) ∨ ok = false ∨ (ok = true ∧ ¬ i = 2 ∧ ¬ i = 3) := by
  cases ok
  · exact .inr (.inr (.inl rfl))
  · by_cases h2 : i = 2
    · exact .inl ⟨rfl, h2⟩
    · by_cases h3 : i = 3
      · exact .inr (.inl ⟨rfl, h3⟩)
      · exact .inr (.inr (.inr ⟨rfl, h2, h3⟩))
theorem whyB_lit : (#[.string ⟨#[]⟩, .string ⟨#[102, 117, 110, 99, 116, 105, 111, 110]⟩, .string ⟨#[97, 99, 99, 111, 117, 110, 116]⟩, .string ⟨#[116, 111, 107, 101, 110, 115]⟩, .string ⟨#[114, 111, 111, 109]⟩] : Array Value) = ([0, 1, 2, 3, 4].map fun y : Int => Value.string ⟨(whyB y).toArray⟩).toArray := by rfl
theorem kindB_lit : W1 = ([0, 1, 2, 3, 4].map fun y : Int => Value.string ⟨(kindB y).toArray⟩).toArray := by rfl
theorem W2_lit : W2 = ([0, 1, 2, 3, 4].map fun y : Int => Value.string ⟨(whyB y).toArray⟩).toArray := by rfl
theorem five_get (f : Int → Value) (i : Nat) (h : i < 5) : (([0, 1, 2, 3, 4] : List Int).map f).toArray[i]? = some (f i) := by
  match i, h with
  | 0, _ => rfl
  | 1, _ => rfl
  | 2, _ => rfl
  | 3, _ => rfl
  | 4, _ => rfl
set_option maxHeartbeats 8000000 in
set_option maxRecDepth 100000 in
theorem parse_any (s : ByteArray) (w : World) (hG : GW w) (hs : s.size < 4294967281) : Calls Tryd.prog 11 #[.string s] w (ParseP s.data.toList w) := by
  obtain ⟨l, hl⟩ : ∃ l, l = s.data.toList := ⟨_, rfl⟩
  have hse : s = ⟨l.toArray⟩ := by rw [hl]
  have hsl : l.length < 4294967281 := by rw [hl]; simpa using hs
  have HL := Lib.hid hl
  rw [← hl]
  subst hse
  clear hl
  obtain ⟨m, hm⟩ := hG.max
  have hml := World.block_lt_of_cell? w _ hm
  have h1 := (Below.refl w.heap.size w).alloc (Nat.le_refl _) (.cells #[.int .i64 0, .int .i64 0, .int .i64 0, .int .i64 0] 26)
  have hr1 := Blk.new w 26 #[.int .i64 0, .int .i64 0, .int .i64 0, .int .i64 0]
  have KC := Lib.hid (fun (W : World) (hb : Below w.heap.size w W) => Go.Proofs.Tryd.strings_Cut ⟨l.toArray⟩ ⟨#[32]⟩ m W hs ((hb.cell (p := ⟨0, 0, none⟩) hml).trans hm))
  obtain ⟨word, hword⟩ : ∃ x, x = (Lib.cut l [32]).1 := ⟨_, rfl⟩
  obtain ⟨rest, hrest⟩ : ∃ x, x = (Lib.cut l [32]).2.1 := ⟨_, rfl⟩
  obtain ⟨fnd, hfnd⟩ : ∃ x, x = (Lib.cut l [32]).2.2 := ⟨_, rfl⟩
  have hrl : rest.length ≤ l.length := by
    rw [hrest]; unfold Lib.cut; split
    · simp
    · simp
  have HWR := Lib.hid (And.intro hword (And.intro hrest hfnd))
  have HS := Lib.hid (And.intro hsl hrl)
  have HG := Lib.hid hG
  have HB1 := Lib.hid h1
  have HR1 := Lib.hid hr1
  clear hword hrest hfnd hsl hrl hs hG hm hml h1 hr1 HL
  go_enter Tryd.func11, Tryd.ntmps11
  go_wp2_with fail
  have hb1 := HB1.out
  have hr1 := HR1.out
  clear HB1 HR1
  obtain ⟨rc, hrc⟩ : ∃ g, g = w.heap.size := ⟨_, rfl⟩
  rw [← hrc] at hr1
  rw [← hrc]
  generalize w.alloc _ = Wa at hb1 hr1 ⊢
  have K1 := KC.out Wa hb1
  simp only [← HWR.out.1, ← HWR.out.2.1, ← HWR.out.2.2] at K1
  have HB1 := Lib.hid hb1
  have HR1 := Lib.hid hr1
  have HRCE := Lib.hid hrc
  have HK1 := Lib.hid K1
  clear K1 hb1 hr1 hrc KC
  refine (HK1.out).mono ?_
  rintro e w1 ⟨rfl, n, hw1⟩
  have hb1 : Below w.heap.size w w1 := by rw [hw1]; exact below_drewN' HB1.out n
  have hr1 : Blk w1 rc 26 #[.int .i64 0, .int .i64 0, .int .i64 0, .int .i64 0] := by rw [hw1]; exact HR1.out
  clear hw1 HB1 HR1 HK1
  have HB1 := Lib.hid hb1
  have HR1 := Lib.hid hr1
  clear hb1 hr1
  go_wp2_with fail
  refine (told_any w1).mono ?_
  rintro e w2 ⟨rfl, rfl⟩
  go_wp2_with fail
  refine (get_any w1).mono ?_
  rintro e w3 ⟨b1, b2, rfl, hw1, hw2, hl1, hl2, hb3⟩
  have h4 := (Below.refl w3.heap.size w3).alloc (Nat.le_refl _) (.cells #[.slice (some ⟨b1, 0, none⟩) 5 5, .slice (some ⟨b2, 0, none⟩) 5 5] 40)
  have hb4 : Below w.heap.size w (w3.alloc (.cells #[.slice (some ⟨b1, 0, none⟩) 5 5, .slice (some ⟨b2, 0, none⟩) 5 5] 40)) := (HB1.out.trans (hb3.mono HB1.out.size)).trans (h4.mono (Nat.le_trans HB1.out.size hb3.size))
  have hr4 := (HR1.out.below hb3 HR1.out.lt).below h4 (Nat.lt_of_lt_of_le HR1.out.lt hb3.size)
  have hx1 := hw1.below h4 hw1.lt
  have hx2 := hw2.below h4 hw2.lt
  have hwc := Blk.new w3 40 #[.slice (some ⟨b1, 0, none⟩) 5 5, .slice (some ⟨b2, 0, none⟩) 5 5]
  have HS4 := Lib.hid (And.intro hb4 (And.intro hr4 (And.intro hx1 (And.intro hx2 hwc))))
  clear hb4 hr4 hx1 hx2 hwc h4 hw1 hw2 hl1 hl2 hb3 HB1 HR1
  go_wp2_with fail
  obtain ⟨hb4, hr4, hx1, hx2, hwc⟩ := HS4.out
  clear HS4
  obtain ⟨wc, hwce⟩ : ∃ g, g = w3.heap.size := ⟨_, rfl⟩
  rw [← hwce] at hwc ⊢
  clear hwce
  generalize w3.alloc _ = W at hb4 hr4 hx1 hx2 hwc ⊢
  have HBW := Lib.hid hb4
  have HRW := Lib.hid hr4
  have HX1 := Lib.hid hx1
  have HX2 := Lib.hid hx2
  have HWC := Lib.hid hwc
  clear hb4 hr4 hx1 hx2 hwc
  go_loopw [27] (fun iv wr => ∃ i : Nat, i ≤ 5 ∧ iv = .int .i64 i ∧ (∀ k : Nat, k < i → ¬ hit l word rest k) ∧ Below W.heap.size W wr) (fun iv _ => 5 - (intOf iv).toNat)
  case atStart => exact ⟨0, by omega, rfl, fun k hk => by omega, Below.refl _ _⟩
  case round =>
    obtain ⟨i, hi, rfl, hno, hbl⟩ := hrel
    obtain ⟨wo, rfl⟩ : ∃ x, x = wr := ⟨_, rfl⟩
    have hGr := (HG.out.below HBW.out).below hbl
    have HGr := Lib.hid hGr
    have HBL := Lib.hid hbl
    have hrr := HRW.out.below hbl HRW.out.lt
    by_cases hlt : i < 5
    · have ck : wo.cell? ⟨b1, i, none⟩ = some (.string ⟨(kindB (i : Int)).toArray⟩) := by
        rw [(HX1.out.below hbl HX1.out.lt).cell, kindB_lit, five_get _ i hlt]
      have HNO := Lib.hid hno
      have HRR := Lib.hid hrr
      clear hGr hbl hno hrr
      by_cases hkw : kindB (i : Int) = word
      rotate_left
      · have q : (kindB (i : Int) == word) = false := beq_eq_false_iff_ne.2 hkw
        have q' : (kindB (i : Int) != word) = true := by simp [bne, q]
        have HN := Lib.hid (show ∀ k : Nat, k < i + 1 → ¬ hit l word rest k from fun k hk => by
          by_cases h : k < i
          · exact HNO.out k h
          · have hki : k = i := by omega
            rw [hki]; exact fun hh => hkw hh.1)
        clear hkw
        go_wp2
        go_roundw
        case rel => exact ⟨i + 1, by omega, by go_num, HN.out, HBL.out⟩
        case measure => simp [intOf]; omega
      have q : (kindB (i : Int) == word) = true := by simp [hkw]
      have q' : (kindB (i : Int) != word) = false := by simp [bne, q]
      have HKW := Lib.hid hkw
      clear hkw
      go_wp2_with fail
      have hbq := (Below.refl wo.heap.size wo).alloc (Nat.le_refl _) (.cells #[.int .i64 (i : Int), .int .i64 0, .int .i64 0, .int .i64 0] 26)
      have hgq := Blk.new wo 26 #[.int .i64 (i : Int), .int .i64 0, .int .i64 0, .int .i64 0]
      obtain ⟨ga, hga⟩ : ∃ g, g = wo.heap.size := ⟨_, rfl⟩
      rw [← hga] at hgq
      rw [← hga]
      generalize wo.alloc _ = W5 at hbq hgq ⊢
      have HBQ := Lib.hid hbq
      have HGQ := Lib.hid hgq
      have HGA := Lib.hid hga
      have hi5 : (i : Int) ≤ 4 := by omega
      clear hbq hgq hga ck
      go_loopw [11] (fun ev wq => ∃ j : Nat, j ≤ 6 ∧ ev = .int .i64 ((j : Int) + 1) ∧ Blk wq ga 26 #[.int .i64 (i : Int), .int .i64 0, .int .i64 0, .int .i64 (if (i : Int) = 1 then errOf rest j else 0)] ∧ Below wo.heap.size wo wq) (fun ev _ => 7 - (intOf ev).toNat)
      case atStart => exact ⟨0, by omega, rfl, by simpa [errOf] using HGQ.out, HBQ.out⟩
      case round =>
        obtain ⟨j, hj, rfl, hgb, hbq⟩ := hrel
        obtain ⟨wq, rfl⟩ : ∃ x, x = wr := ⟨_, rfl⟩
        have HGB := Lib.hid hgb
        have HBQ2 := Lib.hid hbq
        have c0 : wq.cell? ⟨ga, 0, none⟩ = some (.int .i64 (i : Int)) := hgb.cell 0
        have c3 := hgb.cell 3
        have f3 := hgb.frozen 3
        by_cases hj6 : j < 6
        · have dj : decide ((j : Int) + 1 ≤ 6) = true := decide_eq_true (by omega)
          by_cases hi1 : (i : Int) = 1
          · have q1 : ((i : Int) == 1) = true := by simp [hi1]
            have c3' : wq.cell? ⟨ga, 3, none⟩ = some (.int .i64 (errOf rest j)) := by rw [hgb.cell 3]; simp [hi1]
            have HI1 := Lib.hid hi1
            clear hi1 hgb hbq c3
            go_wp2_with fail
            refine (word_any ((j : Int) + 1) wq).mono ?_
            rintro e wq2 ⟨rfl, hb2⟩
            have hg2 := HGB.out.below hb2 HGB.out.lt
            have c3 : wq2.cell? ⟨ga, 3, none⟩ = some (.int .i64 (errOf rest j)) := by rw [hg2.cell 3]; simp [HI1.out]
            have f3 := hg2.frozen 3
            have HG2 := Lib.hid hg2
            have HB2 := Lib.hid (show Below wo.heap.size wo wq2 from HBQ2.out.trans (hb2.mono HBQ2.out.size))
            clear hg2 hb2 c3'
            by_cases hw : wordB ((j : Int) + 1) = rest
            · have p1 : (wordB ((j : Int) + 1) == rest) = true := by simp [hw]
              have HF := Lib.hid (show Blk (wq2.setCell ⟨ga, 3, none⟩ (.int .i64 ((j : Int) + 1))) ga 26 #[.int .i64 (i : Int), .int .i64 0, .int .i64 0, .int .i64 (if (i : Int) = 1 then errOf rest (j + 1) else 0)] from by
                have := HG2.out.set_ 3 (.int .i64 ((j : Int) + 1))
                rw [if_pos HI1.out]
                simp only [errOf]
                rw [if_pos hw]
                exact this)
              have HF2 := Lib.hid (HB2.out.setCell (p := ⟨ga, 3, none⟩) (show wo.heap.size ≤ ga by rw [HGA.out]; exact Nat.le_refl _) (.int .i64 ((j : Int) + 1)))
              clear hw
              go_wp2
              go_roundw
              case rel => exact ⟨j + 1, by omega, by go_num, (by first | exact HF.out | (have h := HF.out; rw [HI1.out, if_pos rfl] at h; exact h)), HF2.out⟩
              case measure => simp [intOf]; omega
            · have p1 : (wordB ((j : Int) + 1) == rest) = false := beq_eq_false_iff_ne.2 hw
              have HF := Lib.hid (show Blk wq2 ga 26 #[.int .i64 (i : Int), .int .i64 0, .int .i64 0, .int .i64 (if (i : Int) = 1 then errOf rest (j + 1) else 0)] from by
                have := HG2.out
                rw [if_pos HI1.out] at this ⊢
                simp only [errOf]
                rw [if_neg hw]
                exact this)
              clear hw
              go_wp2
              go_roundw
              case rel => exact ⟨j + 1, by omega, by go_num, (by first | exact HF.out | (have h := HF.out; rw [HI1.out, if_pos rfl] at h; exact h)), HB2.out⟩
              case measure => simp [intOf]; omega
          · have q1 : ((i : Int) == 1) = false := beq_eq_false_iff_ne.2 hi1
            have HF := Lib.hid (show Blk wq ga 26 #[.int .i64 (i : Int), .int .i64 0, .int .i64 0, .int .i64 (if (i : Int) = 1 then errOf rest (j + 1) else 0)] from by
              rw [if_neg hi1] at hgb ⊢; exact hgb)
            clear hi1 hgb hbq c3
            go_wp2
            go_roundw
            case rel => exact ⟨j + 1, by omega, by go_num, HF.out, HBQ2.out⟩
            case measure => simp [intOf]; omega
        · have hj6' : j = 6 := by omega
          subst hj6'
          clear hj6 hj c3 f3 c0
          obtain ⟨er, her⟩ : ∃ x, x = (if (i : Int) = 1 then errOf rest 6 else 0) := ⟨_, rfl⟩
          rw [← her] at HGB
          have HER := Lib.hid her
          have w1' : wq.cell? ⟨wc, 1, none⟩ = some (.slice (some ⟨b2, 0, none⟩) 5 5) := ((HWC.out.below HBL.out HWC.out.lt).below HBQ2.out (Nat.lt_of_lt_of_le HWC.out.lt HBL.out.size)).cell 1
          clear hgb hbq her
          go_wp2_with fail
          clear w1'
          go_loopw [55] (fun yv wy => ∃ y : Nat, y ≤ 5 ∧ yv = .int .i64 y ∧ Blk wy ga 26 #[.int .i64 (i : Int), .int .i64 0, .int .i64 (if (i : Int) = 4 then whyOf rest y else 0), .int .i64 er] ∧ Below wo.heap.size wo wy) (fun yv _ => 5 - (intOf yv).toNat)
          case atStart => exact ⟨0, by omega, rfl, by simpa [whyOf] using HGB.out, HBQ2.out⟩
          case round =>
            obtain ⟨y, hy, rfl, hgb, hby⟩ := hrel
            obtain ⟨wy, rfl⟩ : ∃ x, x = wr := ⟨_, rfl⟩
            have c0 : wy.cell? ⟨ga, 0, none⟩ = some (.int .i64 (i : Int)) := hgb.cell 0
            have f2 := hgb.frozen 2
            have HGB := Lib.hid hgb
            have HBY := Lib.hid hby
            by_cases hy5 : y < 5
            · have cw : wy.cell? ⟨b2, y, none⟩ = some (.string ⟨(whyB (y : Int)).toArray⟩) := by
                have := (HX2.out.below HBL.out HX2.out.lt).below hby (Nat.lt_of_lt_of_le HX2.out.lt HBL.out.size)
                rw [this.cell, W2_lit, five_get _ y hy5]
              by_cases hi4 : (i : Int) = 4
              · have q4 : ((i : Int) == 4) = true := by simp [hi4]
                have c2 : wy.cell? ⟨ga, 2, none⟩ = some (.int .i64 (whyOf rest y)) := by rw [hgb.cell 2]; simp [hi4]
                by_cases hw : whyB (y : Int) = rest
                · have p1 : (whyB (y : Int) == rest) = true := by simp [hw]
                  have HF := Lib.hid (show Blk (wy.setCell ⟨ga, 2, none⟩ (.int .i64 (y : Int))) ga 26 #[.int .i64 (i : Int), .int .i64 0, .int .i64 (if (i : Int) = 4 then whyOf rest (y + 1) else 0), .int .i64 er] from by
                    have := hgb.set_ 2 (.int .i64 (y : Int))
                    rw [if_pos hi4]
                    simp only [whyOf]
                    rw [if_pos hw]
                    exact this)
                  have HF2 := Lib.hid (hby.setCell (p := ⟨ga, 2, none⟩) (show wo.heap.size ≤ ga by rw [HGA.out]; exact Nat.le_refl _) (.int .i64 (y : Int)))
                  clear hw hi4 hgb hby
                  go_wp2
                  go_roundw
                  case rel => exact ⟨y + 1, by omega, by go_num, HF.out, HF2.out⟩
                  case measure => simp [intOf]; omega
                · have p1 : (whyB (y : Int) == rest) = false := beq_eq_false_iff_ne.2 hw
                  have HF := Lib.hid (show Blk wy ga 26 #[.int .i64 (i : Int), .int .i64 0, .int .i64 (if (i : Int) = 4 then whyOf rest (y + 1) else 0), .int .i64 er] from by
                    rw [if_pos hi4] at hgb ⊢
                    simp only [whyOf]
                    rw [if_neg hw]
                    exact hgb)
                  clear hw hi4 hgb hby
                  go_wp2
                  go_roundw
                  case rel => exact ⟨y + 1, by omega, by go_num, HF.out, HBY.out⟩
                  case measure => simp [intOf]; omega
              · have q4 : ((i : Int) == 4) = false := beq_eq_false_iff_ne.2 hi4
                have HF := Lib.hid (show Blk wy ga 26 #[.int .i64 (i : Int), .int .i64 0, .int .i64 (if (i : Int) = 4 then whyOf rest (y + 1) else 0), .int .i64 er] from by
                  rw [if_neg hi4] at hgb ⊢; exact hgb)
                clear hi4 hgb hby
                go_wp2
                go_roundw
                case rel => exact ⟨y + 1, by omega, by go_num, HF.out, HBY.out⟩
                case measure => simp [intOf]; omega
            · have hy5' : y = 5 := by omega
              subst hy5'
              clear hy5 hy c0 f2
              obtain ⟨yr, hyr⟩ : ∃ x, x = (if (i : Int) = 4 then whyOf rest 5 else 0) := ⟨_, rfl⟩
              rw [← hyr] at HGB
              have HYR := Lib.hid hyr
              have hGy := HGr.out.below hby
              have HGY := Lib.hid hGy
              have hrs : (⟨rest.toArray⟩ : ByteArray).size ≤ 281474976710656 := by
                have h1 := HS.out.1; have h2 := HS.out.2
                show rest.toArray.size ≤ _
                rw [List.size_toArray]; omega
              have KN := number_any ⟨rest.toArray⟩ wy hGy hrs
              dsimp only at KN
              have KN := Lib.hid KN
              clear hgb hby hyr hGy hrs
              go_wp2_with fail
              refine (KN.out).mono ?_
              rintro e wn ⟨v, rfl, hv, hbn⟩
              have hgn := HGB.out.below hbn HGB.out.lt
              have c0 : wn.cell? ⟨ga, 0, none⟩ = some (.int .i64 (i : Int)) := hgn.cell 0
              have c1 : wn.cell? ⟨ga, 1, none⟩ = some (.int .i64 0) := hgn.cell 1
              have c2 : wn.cell? ⟨ga, 2, none⟩ = some (.int .i64 yr) := hgn.cell 2
              have c3 : wn.cell? ⟨ga, 3, none⟩ = some (.int .i64 er) := hgn.cell 3
              have f1 := hgn.frozen 1
              have HGN := Lib.hid hgn
              have HBN := Lib.hid (show Below wo.heap.size wo wn from HBY.out.trans (hbn.mono HBY.out.size))
              have HGW := Lib.hid (HGY.out.below hbn)
              have HV := Lib.hid hv
              obtain ⟨ok, hok⟩ : ∃ b, b = (numOf rest).isSome := ⟨_, rfl⟩
              rw [← hok]
              have HOK := Lib.hid hok
              clear hgn hbn hv hok KN
              have hbd : ∀ bx, bx = (if (i : Int) = 2 ∨ (i : Int) = 3 then (numOf rest).getD 0 else 0) → build (i : Int) rest = ⟨(i : Int), bx, yr, er⟩ := fun bx h => by
                unfold build; rw [h, HYR.out, HER.out]
              have HBD := Lib.hid hbd
              clear hbd
              rcases four ok (i : Int) with ⟨rfl, t⟩ | ⟨rfl, t⟩ | rfl | ⟨rfl, t, t'⟩
              · have q2 : ((i : Int) == 2) = true := by simp [t]
                have hu : ∃ u, numOf rest = some u := Option.isSome_iff_exists.1 HOK.out.symm
                have hvv : v = (numOf rest).getD 0 := by obtain ⟨u, hu⟩ := hu; rw [HV.out u hu, hu]; rfl
                have HX := Lib.hid (show (⟨(i : Int), v, yr, er⟩ : Ans) = build (i : Int) rest from (HBD.out v (by rw [if_pos (by omega)]; exact hvv)).symm)
                have HGX := Lib.hid (show Blk (wn.setCell ⟨ga, 1, none⟩ (.int .i64 v)) ga 26 #[.int .i64 (i : Int), .int .i64 v, .int .i64 yr, .int .i64 er] ∧ Below wo.heap.size wo (wn.setCell ⟨ga, 1, none⟩ (.int .i64 v)) ∧ GW (wn.setCell ⟨ga, 1, none⟩ (.int .i64 v)) from by
                  have hB := HBN.out.setCell (p := ⟨ga, 1, none⟩) (show wo.heap.size ≤ ga by rw [HGA.out]; exact Nat.le_refl _) (.int .i64 v)
                  exact ⟨HGN.out.set_ 1 (.int .i64 v), hB, HGr.out.below hB⟩)
                clear hu hvv
                clear t
                go_wp2_with fail
                refine (string_any (i : Int) _ yr er _ HGX.out.2.2).mono ?_
                rintro e w8 ⟨rfl, hb8⟩
                have hg8 := HGX.out.1.below hb8 HGX.out.1.lt
                have hB8 : Below wo.heap.size wo w8 := HGX.out.2.1.trans (hb8.mono HGX.out.2.1.size)
                have d0 := hg8.cell 0
                have d1 := hg8.cell 1
                have d2 := hg8.cell 2
                have d3 := hg8.cell 3
                rw [HX.out]
                have HB8 := Lib.hid hB8
                by_cases ht : text (build (i : Int) rest) = l
                rotate_left
                · have p1 : (text (build (i : Int) rest) == l) = false := beq_eq_false_iff_ne.2 ht
                  have HN := Lib.hid (show ∀ k : Nat, k < i + 1 → ¬ hit l word rest k from fun k hk => by
                    by_cases h : k < i
                    · exact HNO.out k h
                    · have hki : k = i := by omega
                      rw [hki]; exact fun hh => ht hh.2)
                  have HFB := Lib.hid (show Below W.heap.size W w8 from HBL.out.trans (HB8.out.mono HBL.out.size))
                  clear ht hb8 hg8 hB8
                  go_wp2
                  go_roundw
                  case rel => exact ⟨i + 1, by omega, by go_num, HN.out, HFB.out⟩
                  case measure => simp [intOf]; omega
                · have p1 : (text (build (i : Int) rest) == l) = true := by simp [ht]
                  have hr8 : Blk w8 rc 26 #[.int .i64 0, .int .i64 0, .int .i64 0, .int .i64 0] := HRR.out.below HB8.out HRR.out.lt
                  have e0 := hr8.cell 0
                  have e1 := hr8.cell 1
                  have e2 := hr8.cell 2
                  have e3 := hr8.cell 3
                  have z0 := hr8.frozen 0
                  have z1 := hr8.frozen 1
                  have z2 := hr8.frozen 2
                  have z3 := hr8.frozen 3
                  have hrc : w.heap.size ≤ rc := by rw [HRCE.out]; exact Nat.le_refl _
                  have HFB := Lib.hid (show Below w.heap.size w w8 from (HBW.out.trans (HBL.out.mono HBW.out.size)).trans (HB8.out.mono (Nat.le_trans HBW.out.size HBL.out.size)))
                  have HHIT := Lib.hid (show hit l word rest i from ⟨HKW.out, ht⟩)
                  have HXX := Lib.hid (congrArg Ans.val4 HX.out)
                  unfold Ans.val4 at HXX
                  simp only at HXX
                  clear ht hb8 hg8 hB8
                  have hF := (((hr8.set_ 0 (.int .i64 (i : Int))).set_ 1 (.int .i64 v)).set_ 2 (.int .i64 yr)).set_ 3 (.int .i64 er)
                  have y0 := hF.cell 0
                  have y1 := hF.cell 1
                  have y2 := hF.cell 2
                  have y3 := hF.cell 3
                  have HW := Lib.hid ((((HFB.out.setCell (p := ⟨rc, 0, none⟩) hrc (.int .i64 (i : Int))).setCell (p := ⟨rc, 1, none⟩) hrc (.int .i64 v)).setCell (p := ⟨rc, 2, none⟩) hrc (.int .i64 yr)).setCell (p := ⟨rc, 3, none⟩) hrc (.int .i64 er))
                  clear hF hr8
                  go_wp2
                  refine bodyPost_ret (by simp [results, Tryd.results11, go_sem, y0, y1, y2, y3]; try rfl) rfl ?_
                  exact ⟨HW.out, .inl ⟨i, hlt, by rw [← HWR.out.1, ← HWR.out.2.1]; exact HHIT.out, by rw [← HWR.out.2.1, ← HX.out]; rfl⟩⟩
              · have q2 : ((i : Int) == 2) = false := beq_eq_false_iff_ne.2 (by omega)
                have q3 : ((i : Int) == 3) = true := by simp [t]
                have hu : ∃ u, numOf rest = some u := Option.isSome_iff_exists.1 HOK.out.symm
                have hvv : v = (numOf rest).getD 0 := by obtain ⟨u, hu⟩ := hu; rw [HV.out u hu, hu]; rfl
                have HX := Lib.hid (show (⟨(i : Int), v, yr, er⟩ : Ans) = build (i : Int) rest from (HBD.out v (by rw [if_pos (by omega)]; exact hvv)).symm)
                have HGX := Lib.hid (show Blk (wn.setCell ⟨ga, 1, none⟩ (.int .i64 v)) ga 26 #[.int .i64 (i : Int), .int .i64 v, .int .i64 yr, .int .i64 er] ∧ Below wo.heap.size wo (wn.setCell ⟨ga, 1, none⟩ (.int .i64 v)) ∧ GW (wn.setCell ⟨ga, 1, none⟩ (.int .i64 v)) from by
                  have hB := HBN.out.setCell (p := ⟨ga, 1, none⟩) (show wo.heap.size ≤ ga by rw [HGA.out]; exact Nat.le_refl _) (.int .i64 v)
                  exact ⟨HGN.out.set_ 1 (.int .i64 v), hB, HGr.out.below hB⟩)
                clear hu hvv
                clear t
                go_wp2_with fail
                refine (string_any (i : Int) _ yr er _ HGX.out.2.2).mono ?_
                rintro e w8 ⟨rfl, hb8⟩
                have hg8 := HGX.out.1.below hb8 HGX.out.1.lt
                have hB8 : Below wo.heap.size wo w8 := HGX.out.2.1.trans (hb8.mono HGX.out.2.1.size)
                have d0 := hg8.cell 0
                have d1 := hg8.cell 1
                have d2 := hg8.cell 2
                have d3 := hg8.cell 3
                rw [HX.out]
                have HB8 := Lib.hid hB8
                by_cases ht : text (build (i : Int) rest) = l
                rotate_left
                · have p1 : (text (build (i : Int) rest) == l) = false := beq_eq_false_iff_ne.2 ht
                  have HN := Lib.hid (show ∀ k : Nat, k < i + 1 → ¬ hit l word rest k from fun k hk => by
                    by_cases h : k < i
                    · exact HNO.out k h
                    · have hki : k = i := by omega
                      rw [hki]; exact fun hh => ht hh.2)
                  have HFB := Lib.hid (show Below W.heap.size W w8 from HBL.out.trans (HB8.out.mono HBL.out.size))
                  clear ht hb8 hg8 hB8
                  go_wp2
                  go_roundw
                  case rel => exact ⟨i + 1, by omega, by go_num, HN.out, HFB.out⟩
                  case measure => simp [intOf]; omega
                · have p1 : (text (build (i : Int) rest) == l) = true := by simp [ht]
                  have hr8 : Blk w8 rc 26 #[.int .i64 0, .int .i64 0, .int .i64 0, .int .i64 0] := HRR.out.below HB8.out HRR.out.lt
                  have e0 := hr8.cell 0
                  have e1 := hr8.cell 1
                  have e2 := hr8.cell 2
                  have e3 := hr8.cell 3
                  have z0 := hr8.frozen 0
                  have z1 := hr8.frozen 1
                  have z2 := hr8.frozen 2
                  have z3 := hr8.frozen 3
                  have hrc : w.heap.size ≤ rc := by rw [HRCE.out]; exact Nat.le_refl _
                  have HFB := Lib.hid (show Below w.heap.size w w8 from (HBW.out.trans (HBL.out.mono HBW.out.size)).trans (HB8.out.mono (Nat.le_trans HBW.out.size HBL.out.size)))
                  have HHIT := Lib.hid (show hit l word rest i from ⟨HKW.out, ht⟩)
                  have HXX := Lib.hid (congrArg Ans.val4 HX.out)
                  unfold Ans.val4 at HXX
                  simp only at HXX
                  clear ht hb8 hg8 hB8
                  have hF := (((hr8.set_ 0 (.int .i64 (i : Int))).set_ 1 (.int .i64 v)).set_ 2 (.int .i64 yr)).set_ 3 (.int .i64 er)
                  have y0 := hF.cell 0
                  have y1 := hF.cell 1
                  have y2 := hF.cell 2
                  have y3 := hF.cell 3
                  have HW := Lib.hid ((((HFB.out.setCell (p := ⟨rc, 0, none⟩) hrc (.int .i64 (i : Int))).setCell (p := ⟨rc, 1, none⟩) hrc (.int .i64 v)).setCell (p := ⟨rc, 2, none⟩) hrc (.int .i64 yr)).setCell (p := ⟨rc, 3, none⟩) hrc (.int .i64 er))
                  clear hF hr8
                  go_wp2
                  refine bodyPost_ret (by simp [results, Tryd.results11, go_sem, y0, y1, y2, y3]; try rfl) rfl ?_
                  exact ⟨HW.out, .inl ⟨i, hlt, by rw [← HWR.out.1, ← HWR.out.2.1]; exact HHIT.out, by rw [← HWR.out.2.1, ← HX.out]; rfl⟩⟩
              · have HX := Lib.hid (show (⟨(i : Int), 0, yr, er⟩ : Ans) = build (i : Int) rest from (HBD.out 0 (by 
                  by_cases h : (i : Int) = 2 ∨ (i : Int) = 3
                  · rw [if_pos h]
                    cases hn : numOf rest with
                    | none => rfl
                    | some u => have h3 := HOK.out; rw [hn] at h3; cases h3
                  · rw [if_neg h])).symm)
                have HGX := Lib.hid (And.intro HGN.out (And.intro HBN.out HGW.out))
                go_wp2_with fail
                refine (string_any (i : Int) _ yr er _ HGX.out.2.2).mono ?_
                rintro e w8 ⟨rfl, hb8⟩
                have hg8 := HGX.out.1.below hb8 HGX.out.1.lt
                have hB8 : Below wo.heap.size wo w8 := HGX.out.2.1.trans (hb8.mono HGX.out.2.1.size)
                have d0 := hg8.cell 0
                have d1 := hg8.cell 1
                have d2 := hg8.cell 2
                have d3 := hg8.cell 3
                rw [HX.out]
                have HB8 := Lib.hid hB8
                by_cases ht : text (build (i : Int) rest) = l
                rotate_left
                · have p1 : (text (build (i : Int) rest) == l) = false := beq_eq_false_iff_ne.2 ht
                  have HN := Lib.hid (show ∀ k : Nat, k < i + 1 → ¬ hit l word rest k from fun k hk => by
                    by_cases h : k < i
                    · exact HNO.out k h
                    · have hki : k = i := by omega
                      rw [hki]; exact fun hh => ht hh.2)
                  have HFB := Lib.hid (show Below W.heap.size W w8 from HBL.out.trans (HB8.out.mono HBL.out.size))
                  clear ht hb8 hg8 hB8
                  go_wp2
                  go_roundw
                  case rel => exact ⟨i + 1, by omega, by go_num, HN.out, HFB.out⟩
                  case measure => simp [intOf]; omega
                · have p1 : (text (build (i : Int) rest) == l) = true := by simp [ht]
                  have hr8 : Blk w8 rc 26 #[.int .i64 0, .int .i64 0, .int .i64 0, .int .i64 0] := HRR.out.below HB8.out HRR.out.lt
                  have e0 := hr8.cell 0
                  have e1 := hr8.cell 1
                  have e2 := hr8.cell 2
                  have e3 := hr8.cell 3
                  have z0 := hr8.frozen 0
                  have z1 := hr8.frozen 1
                  have z2 := hr8.frozen 2
                  have z3 := hr8.frozen 3
                  have hrc : w.heap.size ≤ rc := by rw [HRCE.out]; exact Nat.le_refl _
                  have HFB := Lib.hid (show Below w.heap.size w w8 from (HBW.out.trans (HBL.out.mono HBW.out.size)).trans (HB8.out.mono (Nat.le_trans HBW.out.size HBL.out.size)))
                  have HHIT := Lib.hid (show hit l word rest i from ⟨HKW.out, ht⟩)
                  have HXX := Lib.hid (congrArg Ans.val4 HX.out)
                  unfold Ans.val4 at HXX
                  simp only at HXX
                  clear ht hb8 hg8 hB8
                  have hF := (((hr8.set_ 0 (.int .i64 (i : Int))).set_ 1 (.int .i64 0)).set_ 2 (.int .i64 yr)).set_ 3 (.int .i64 er)
                  have y0 := hF.cell 0
                  have y1 := hF.cell 1
                  have y2 := hF.cell 2
                  have y3 := hF.cell 3
                  have HW := Lib.hid ((((HFB.out.setCell (p := ⟨rc, 0, none⟩) hrc (.int .i64 (i : Int))).setCell (p := ⟨rc, 1, none⟩) hrc (.int .i64 0)).setCell (p := ⟨rc, 2, none⟩) hrc (.int .i64 yr)).setCell (p := ⟨rc, 3, none⟩) hrc (.int .i64 er))
                  clear hF hr8
                  go_wp2
                  refine bodyPost_ret (by simp [results, Tryd.results11, go_sem, y0, y1, y2, y3]; try rfl) rfl ?_
                  exact ⟨HW.out, .inl ⟨i, hlt, by rw [← HWR.out.1, ← HWR.out.2.1]; exact HHIT.out, by rw [← HWR.out.2.1, ← HX.out]; rfl⟩⟩
              · have q2 : ((i : Int) == 2) = false := beq_eq_false_iff_ne.2 t
                have q3 : ((i : Int) == 3) = false := beq_eq_false_iff_ne.2 t'
                have HX := Lib.hid (show (⟨(i : Int), 0, yr, er⟩ : Ans) = build (i : Int) rest from (HBD.out 0 (by rw [if_neg (by omega)])).symm)
                have HGX := Lib.hid (And.intro HGN.out (And.intro HBN.out HGW.out))
                clear t t'
                go_wp2_with fail
                refine (string_any (i : Int) _ yr er _ HGX.out.2.2).mono ?_
                rintro e w8 ⟨rfl, hb8⟩
                have hg8 := HGX.out.1.below hb8 HGX.out.1.lt
                have hB8 : Below wo.heap.size wo w8 := HGX.out.2.1.trans (hb8.mono HGX.out.2.1.size)
                have d0 := hg8.cell 0
                have d1 := hg8.cell 1
                have d2 := hg8.cell 2
                have d3 := hg8.cell 3
                rw [HX.out]
                have HB8 := Lib.hid hB8
                by_cases ht : text (build (i : Int) rest) = l
                rotate_left
                · have p1 : (text (build (i : Int) rest) == l) = false := beq_eq_false_iff_ne.2 ht
                  have HN := Lib.hid (show ∀ k : Nat, k < i + 1 → ¬ hit l word rest k from fun k hk => by
                    by_cases h : k < i
                    · exact HNO.out k h
                    · have hki : k = i := by omega
                      rw [hki]; exact fun hh => ht hh.2)
                  have HFB := Lib.hid (show Below W.heap.size W w8 from HBL.out.trans (HB8.out.mono HBL.out.size))
                  clear ht hb8 hg8 hB8
                  go_wp2
                  go_roundw
                  case rel => exact ⟨i + 1, by omega, by go_num, HN.out, HFB.out⟩
                  case measure => simp [intOf]; omega
                · have p1 : (text (build (i : Int) rest) == l) = true := by simp [ht]
                  have hr8 : Blk w8 rc 26 #[.int .i64 0, .int .i64 0, .int .i64 0, .int .i64 0] := HRR.out.below HB8.out HRR.out.lt
                  have e0 := hr8.cell 0
                  have e1 := hr8.cell 1
                  have e2 := hr8.cell 2
                  have e3 := hr8.cell 3
                  have z0 := hr8.frozen 0
                  have z1 := hr8.frozen 1
                  have z2 := hr8.frozen 2
                  have z3 := hr8.frozen 3
                  have hrc : w.heap.size ≤ rc := by rw [HRCE.out]; exact Nat.le_refl _
                  have HFB := Lib.hid (show Below w.heap.size w w8 from (HBW.out.trans (HBL.out.mono HBW.out.size)).trans (HB8.out.mono (Nat.le_trans HBW.out.size HBL.out.size)))
                  have HHIT := Lib.hid (show hit l word rest i from ⟨HKW.out, ht⟩)
                  have HXX := Lib.hid (congrArg Ans.val4 HX.out)
                  unfold Ans.val4 at HXX
                  simp only at HXX
                  clear ht hb8 hg8 hB8
                  have hF := (((hr8.set_ 0 (.int .i64 (i : Int))).set_ 1 (.int .i64 0)).set_ 2 (.int .i64 yr)).set_ 3 (.int .i64 er)
                  have y0 := hF.cell 0
                  have y1 := hF.cell 1
                  have y2 := hF.cell 2
                  have y3 := hF.cell 3
                  have HW := Lib.hid ((((HFB.out.setCell (p := ⟨rc, 0, none⟩) hrc (.int .i64 (i : Int))).setCell (p := ⟨rc, 1, none⟩) hrc (.int .i64 0)).setCell (p := ⟨rc, 2, none⟩) hrc (.int .i64 yr)).setCell (p := ⟨rc, 3, none⟩) hrc (.int .i64 er))
                  clear hF hr8
                  go_wp2
                  refine bodyPost_ret (by simp [results, Tryd.results11, go_sem, y0, y1, y2, y3]; try rfl) rfl ?_
                  exact ⟨HW.out, .inl ⟨i, hlt, by rw [← HWR.out.1, ← HWR.out.2.1]; exact HHIT.out, by rw [← HWR.out.2.1, ← HX.out]; rfl⟩⟩
    · have hi5 : i = 5 := by omega
      subst hi5
      have hF := (((hrr.set_ 0 (.int .i64 0)).set_ 1 (.int .i64 0)).set_ 2 (.int .i64 0)).set_ 3 (.int .i64 0)
      have y0 := hF.cell 0
      have y1 := hF.cell 1
      have y2 := hF.cell 2
      have y3 := hF.cell 3
      have e0 := hrr.cell 0
      have e1 := hrr.cell 1
      have e2 := hrr.cell 2
      have e3 := hrr.cell 3
      have z0 := hrr.frozen 0
      have z1 := hrr.frozen 1
      have z2 := hrr.frozen 2
      have z3 := hrr.frozen 3
      have hrc : w.heap.size ≤ rc := by rw [HRCE.out]; exact Nat.le_refl _
      have hfb : Below w.heap.size w wo := HBW.out.trans (hbl.mono HBW.out.size)
      have HW := Lib.hid ((((hfb.setCell (p := ⟨rc, 0, none⟩) hrc (.int .i64 0)).setCell (p := ⟨rc, 1, none⟩) hrc (.int .i64 0)).setCell (p := ⟨rc, 2, none⟩) hrc (.int .i64 0)).setCell (p := ⟨rc, 3, none⟩) hrc (.int .i64 0))
      have HNO := Lib.hid hno
      clear hF hrr hfb hbl hno hGr
      go_wp2
      refine bodyPost_ret (by simp [results, Tryd.results11, go_sem, y0, y1, y2, y3]; try rfl) rfl ?_
      exact ⟨HW.out, .inr ⟨by rw [← HWR.out.1, ← HWR.out.2.1]; exact HNO.out, rfl⟩⟩
end Go.Proofs.YtopbhdpfakjkjaaDoor.Reply
