/- Proved: what reply.Command.String answers: a command as words. -/
import Derived.Test.YtopbhdpfakjkjaaDoorReplyFns
namespace Go.Proofs.YtopbhdpfakjkjaaDoor.Reply
open Go.RowKit Go.Proofs.YtopbhdpfakjkjaaDoor.Histo Go.Proofs.YtopbhdpfakjkjaaDoor.Event Go.Proofs.YtopbhdpfakjkjaaDoor.Once
set_option linter.unusedVariables false
def cmdHead (b : Bool) : List UInt8 := if b then [98, 111, 111, 116] else [107, 105, 108, 108]
def nums (l : List Int) : List UInt8 := l.flatMap fun x => 32 :: Lib.itoa x
/-- A command as words. -/
def cmdText (b : Bool) (x f h : Int) : List UInt8 := cmdHead b ++ nums [x, f, h]
theorem cmdHead_len (b : Bool) : (cmdHead b).length = 4 := by cases b <;> rfl
theorem sapp (p y : List UInt8) : (⟨p.toArray⟩ : ByteArray) ++ (⟨#[32]⟩ ++ ⟨y.toArray⟩) = ⟨(p ++ 32 :: y).toArray⟩ := bapp p y
set_option maxHeartbeats 4000000 in
set_option maxRecDepth 100000 in
theorem cmd_any (b : Bool) (x f h : Int) (w : World) (hG : GW w) (hx : -9223372036854775808 ≤ x ∧ x ≤ 9223372036854775807) (hf : -9223372036854775808 ≤ f ∧ f ≤ 9223372036854775807) (hh : -9223372036854775808 ≤ h ∧ h ≤ 9223372036854775807) :
    Calls Tryd.prog 13 #[.agg #[.bool b, .int .i64 x, .int .i64 f, .int .i64 h]] w (RetS (cmdText b x f h) w) := by
  have HG := Lib.hid hG
  have HB := Lib.hid (And.intro hx (And.intro hf hh))
  have lx := itoa_len x hx.1 hx.2
  have lf := itoa_len f hf.1 hf.2
  have lh := itoa_len h hh.1 hh.2
  have HL := Lib.hid (And.intro lx (And.intro lf lh))
  clear hG hx hf hh lx lf lh
  obtain ⟨hd, hhd⟩ : ∃ l, l = cmdHead b := ⟨_, rfl⟩
  have hdl : hd.length = 4 := by rw [hhd, cmdHead_len]
  have HHD := Lib.hid (And.intro hhd hdl)
  clear hhd hdl
  have hb2 := two_new w (.cells #[.bool b, .int .i64 x, .int .i64 f, .int .i64 h] 37) (.cells #[.int .i64 x, .int .i64 f, .int .i64 h] 3)
  have hr2 := two_blk w (.cells #[.bool b, .int .i64 x, .int .i64 f, .int .i64 h] 37) 3 #[.int .i64 x, .int .i64 f, .int .i64 h]
  have HB2' := Lib.hid hb2
  have HR2' := Lib.hid hr2
  clear hb2 hr2
  go_enter Tryd.func13, Tryd.ntmps13
  cases b
  all_goals
    go_wp2_with fail
    have hb2 := HB2'.out
    have hr2 := HR2'.out
    clear HB2' HR2'
    generalize (w.alloc _).alloc _ = W at hb2 hr2 ⊢
    generalize w.heap.size + 1 = rb at hr2 ⊢
    have HB2 := Lib.hid hb2
    have HR2 := Lib.hid hr2
    clear hb2 hr2
    go_loopw [3, 16] (fun sv iv wr => ∃ i : Nat, i ≤ 3 ∧ iv = .int .i64 i ∧ sv = .string ⟨(hd ++ nums ([x, f, h].take i)).toArray⟩ ∧ Below W.heap.size W wr) (fun _ iv _ => 3 - (intOf iv).toNat)
    case atStart => exact ⟨0, by omega, rfl, by rw [HHD.out.1]; rfl, Below.refl _ _⟩
    case round =>
      obtain ⟨i, hi, rfl, rfl, hbl⟩ := hrel
      have hG := (HG.out.below HB2.out).below hbl
      have hr := HR2.out.below hbl HR2.out.lt
      have HBL := Lib.hid hbl
      have HGR := Lib.hid hG
      by_cases hlt : i < 3
      · obtain ⟨v, hv, hvb, hvl⟩ : ∃ v, [x, f, h][i]? = some v ∧ (-9223372036854775808 ≤ v ∧ v ≤ 9223372036854775807) ∧ (Lib.itoa v).length ≤ 22 := by
          match i, hlt with
          | 0, _ => exact ⟨x, rfl, HB.out.1, HL.out.1⟩
          | 1, _ => exact ⟨f, rfl, HB.out.2.1, HL.out.2.1⟩
          | 2, _ => exact ⟨h, rfl, HB.out.2.2, HL.out.2.2⟩
        have cv : wr.cell? ⟨rb, i, none⟩ = some (.int .i64 v) := by
          rw [hr.cell, show (#[Value.int .i64 x, .int .i64 f, .int .i64 h] : Array Value) = ([x, f, h].map (Value.int .i64)).toArray from rfl, List.getElem?_toArray, List.getElem?_map, hv]
          rfl
        have hsnoc : nums ([x, f, h].take (i + 1)) = nums ([x, f, h].take i) ++ 32 :: Lib.itoa v := by
          have hil : i < [x, f, h].length := hlt
          rw [List.getElem?_eq_getElem hil] at hv
          injection hv with hv
          rw [List.take_succ_eq_append_getElem hil, hv]
          unfold nums
          rw [List.flatMap_append]; simp
        obtain ⟨pre, hpre⟩ : ∃ l, l = hd ++ nums ([x, f, h].take i) := ⟨_, rfl⟩
        have hpl : pre.length ≤ 100 := by
          rw [hpre, List.length_append, HHD.out.2]
          have : (nums ([x, f, h].take i)).length ≤ 69 := by
            have h1 := HL.out.1; have h2 := HL.out.2.1; have h3 := HL.out.2.2
            match i, hlt with
            | 0, _ => simp [nums]
            | 1, _ => simp [nums]; omega
            | 2, _ => simp [nums]; omega
          omega
        rw [← hpre]
        have n1 : ¬ 9223372036854775807 < 1 + (Lib.itoa v).length := by omega
        have n2 : ¬ 9223372036854775807 < pre.length + (1 + (Lib.itoa v).length) := by omega
        have HS := Lib.hid (show hd ++ nums ([x, f, h].take (i + 1)) = pre ++ 32 :: Lib.itoa v by rw [hsnoc, hpre, List.append_assoc])
        have HV := Lib.hid hvb
        clear hv hvb hvl hr hG hbl hsnoc hpre hpl
        go_wp2_with fail
        refine (itoa_any v wr HV.out.1 HV.out.2 HGR.out).mono ?_
        rintro e w5 ⟨rfl, hb5⟩
        have HB5 := Lib.hid (show Below W.heap.size W w5 from HBL.out.trans (hb5.mono HBL.out.size))
        clear hb5
        go_wp2
        go_roundw
        case rel => exact ⟨i + 1, by omega, by go_num, by rw [HS.out, ← sapp], HB5.out⟩
        case measure => simp [intOf]; omega
      · obtain rfl : i = 3 := by omega
        have HT := Lib.hid (show cmdText _ x f h = hd ++ nums ([x, f, h].take 3) by rw [HHD.out.1]; rfl)
        have HF := Lib.hid (show Below w.heap.size w wr from HB2.out.trans (HBL.out.mono HB2.out.size))
        clear hr hG hbl
        go_wp2
        go_ret
        exact RetS.mk (by rw [HT.out]) HF.out
end Go.Proofs.YtopbhdpfakjkjaaDoor.Reply
