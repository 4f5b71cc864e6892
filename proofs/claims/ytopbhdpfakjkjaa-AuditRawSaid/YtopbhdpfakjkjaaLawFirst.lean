/- Proved: which step the document's first (greenhouselaw19) tells: the same as audit.First. -/
import Derived.Test.YtopbhdpfakjkjaaLawStep
import Derived.Test.YtopbhdpfakjkjaaAudHead
namespace Go.Proofs.Ytopbhdpfakjkjaa.Aud
open Go.RowKit Go.Proofs.Ytopbhdpfakjkjaa.Histo Go.Proofs.Ytopbhdpfakjkjaa.Event Go.Proofs.Ytopbhdpfakjkjaa.Ring
set_option linter.unusedVariables false
open Go.Proofs.Ytopbhdpfakjkjaa.MapI (AL At Rng W64 At.alloc At.drew)
def LDone (xs : List Stp) (w : World) (a b2 b3 i : Nat) (wr : World) : Prop := ∃ s', AS.new.steps (xs.take i) = some s' ∧ LWb (w.heap.size ≤ ·) w a b2 b3 (i * 41) s' wr ∧ Inv s' (i * 41)
theorem LDone.next {xs : List Stp} {w wr : World} {a b2 b3 i : Nat} {s' s3 : AS} {x : Stp} {n : Nat} (hs : AS.new.steps (xs.take (i + 1)) = s'.step x) (hI : Inv s' (i * 41)) (ho : s'.step x = some s3) (hn : x.cmds.length = n) (hb : LWb (w.heap.size ≤ ·) w a b2 b3 (i * 41 + 1 + n) s3 wr) (hc : n ≤ 40) : LDone xs w a b2 b3 (i + 1) wr := by
  subst hn
  exact ⟨s3, hs.trans ho, hb.mono (nM hc), (hI.step ho).mono (nM hc)⟩
theorem new_law (w : World) : LWb (w.heap.size ≤ ·) w (w.heap.size + 1 + 1) w.heap.size (w.heap.size + 1) 0 AS.new (((w.alloc (.map #[] 0)).alloc (.map #[] 0)).alloc (.cells #[.slice none 0 0, .map (some w.heap.size), .map (some (w.heap.size + 1)), .int .i64 1] 82)) := by
  have sz : ∀ (v : World) (o : Obj), (v.alloc o).heap.size = v.heap.size + 1 := fun v o => Array.size_push ..
  have m1 := MapI.At.made (P := Try.prog) (k := 3) w
  have m2 := MapI.At.made (P := Try.prog) (k := 3) (w.alloc (.map #[] 0))
  have ha := Blk.new ((w.alloc (.map #[] 0)).alloc (.map #[] 0)) 82 #[.slice none 0 0, .map (some w.heap.size), .map (some (w.heap.size + 1)), .int .i64 1]
  simp only [sz] at m2 ha
  refine ⟨⟨_, ha, World.ownsRow_nil _ _ _ _, fun k hk => by cases hk⟩, (m1.alloc _).alloc _, m2.alloc _, by omega, ((Only.refl w).alloc _).alloc _ |>.alloc _, fun _ h => h, ⟨?_, ?_, ?_⟩, Nat.le_refl _, List.Pairwise.nil, ?_, ?_, ?_⟩
  all_goals first
    | exact fun _ h => (List.not_mem_nil h).elim
    | (intro k v h; cases h)
    | (show w.heap.size ≤ _; omega)
set_option maxHeartbeats 4000000 in
set_option maxRecDepth 100000 in
theorem lfirst_any (xs : List Stp) (ad : Option Addr) (cap : Nat) (w : World) (hx : Stps (w.heap.size ≤ ·) w ad xs) (hl : xs.length ≤ 2000) : Calls Try.prog 24 #[.slice ad xs.length cap] w (RetN (firstP xs) w) := by
  have hmm := @run_makeMap Try.prog
  obtain ⟨n, hn⟩ : ∃ n, n = xs.length := ⟨_, rfl⟩
  rw [← hn]
  have HX := Lib.hid hx
  have HL := Lib.hid hl
  have HNX := Lib.hid hn
  clear hx hl hn
  go_enter Try.func24, Try.ntmps24
  go_wp2_with fail
  clear hmm
  have st := new_law w
  have ST := Lib.hid st
  clear st
  revert ST
  generalize (((w.alloc (.map #[] 0)).alloc (.map #[] 0)).alloc (.cells #[.slice none 0 0, .map (some w.heap.size), .map (some (w.heap.size + 1)), .int .i64 1] 82)) = W
  generalize w.heap.size + 1 + 1 = a
  generalize w.heap.size + 1 = b3
  generalize hb1 : w.heap.size = b2
  have HB1 := Lib.hid hb1
  clear hb1
  intro ST
  go_loopw [12] (fun iv wr => ∃ i : Nat, i ≤ n ∧ iv = .int .i64 i ∧ LDone xs w a b2 b3 i wr) (fun iv _ => n - (intOf iv).toNat)
  case atStart => exact ⟨0, by omega, rfl, AS.new, rfl, by rw [HB1.out]; exact ST.out, ⟨fun _ h => (List.not_mem_nil h).elim, by decide, by decide⟩⟩
  case round =>
    obtain ⟨i, hi, rfl, s', hst, hAr, hIr⟩ := hrel
    have hcn := HNX.out
    have hl := HL.out
    have hn2 : n ≤ 2000 := by omega
    by_cases hlt : i < n
    · have hil : i < xs.length := by omega
      obtain ⟨x, hx⟩ : ∃ x, x = xs[i] := ⟨_, rfl⟩
      obtain ⟨b, off, ad', cap', rfl, hb, hnf, hcl, hcs, hat⟩ := HX.out i x (by rw [List.getElem?_eq_getElem hil, hx])
      have hat2 := hat.below (hAr.below.block b hb hnf)
      unfold At15 at hat2
      obtain ⟨d0, d1, d2, d3, d4, d5, d6, d7, d8, d9, d10, d11, d12, d13, d14⟩ := hat2
      have hsn : AS.new.steps (xs.take (i + 1)) = s'.step x := by rw [List.take_succ_eq_append_getElem hil, AS.steps_snoc, hst, ← hx]
      have hsp : xs = xs.take i ++ x :: xs.drop (i + 1) := by rw [hx, List.getElem_cons_drop hil, List.take_append_drop]
      have HSP := Lib.hid hsp
      have HSN := Lib.hid hsn
      have HAr := Lib.hid hAr
      have HIr := Lib.hid hIr
      have HCS := Lib.hid hcs
      have HST := Lib.hid hst
      have HCL := Lib.hid hcl
      obtain ⟨⟨ek, en, e2, es, e4, e5, em, e7, e8, e9⟩, ⟨rk, bx, r2, r3⟩, cs⟩ := x
      simp only at d0 d1 d2 d3 d4 d5 d6 d7 d8 d9 d10 d11 d12 d13 d14
      clear hsp hsn hAr hIr hcs hst hx hb hnf hcn hat hcl hl
      go_wp2_with fail
      generalize hW : wr.alloc _ = wq
      have bq : Below wr.heap.size wr wq := by rw [← hW]; exact (Below.refl _ _).alloc (Nat.le_refl _) _
      have hAq := HAr.out.next bq
      have hN : i * 41 + 1 + cs.length ≤ 100000 := nN HCL.out (by have := HL.out; have := HNX.out; omega)
      have hcall := lstep_all (w.heap.size ≤ ·) w a b2 b3 (i * 41) s' ek en e2 es e4 e5 em e7 e8 e9 rk bx r2 r3 cs ad' cs.length cap' wq hAq HIr.out hN HCS.out rfl
      have HAq := Lib.hid hAq
      have HCALL := Lib.hid hcall
      clear hW bq hAq hN hcall d0 d1 d2 d3 d4 d5 d6 d7 d8 d9 d10 d11 d12 d13 d14
      refine (HCALL.out).mono ?_
      rintro e1 w3 (⟨ho, rfl, hb3⟩ | ⟨s3, ho, rfl, hb3⟩)
      · have hres : firstP xs = (i : Int) := by
          unfold firstP
          rw [HSP.out, AS.first_at _ _ _ _ _ _ HST.out ho, List.length_take]
          omega
        have HRES := Lib.hid hres
        have HB3 := Lib.hid hb3
        clear hres hb3 ho
        go_wp2
        go_ret
        refine RetN.mk HRES.out.symm ?_
        rcases HB3.out.below with h | h
        · exact h
        · exact (Nat.lt_irrefl _ h).elim
      · have H3 := Lib.hid (LDone.next HSN.out HIr.out ho rfl hb3 HCL.out)
        clear hb3 ho
        go_wp2
        go_roundw
        case rel => exact ⟨i + 1, by omega, by go_num, H3.out⟩
        case measure => simp [intOf]; omega
    · have hall : AS.new.steps xs = some s' := by rw [← hst, List.take_of_length_le (by omega)]
      have hres : firstP xs = -1 := AS.first_all _ _ _ _ hall
      have HRES := Lib.hid hres
      have HAr := Lib.hid hAr
      clear hall hAr hIr hst hcn hres hl
      go_wp2
      go_ret
      refine RetN.mk HRES.out.symm ?_
      rcases HAr.out.below.below with h | h
      · exact h
      · exact (Nat.lt_irrefl _ h).elim
end Go.Proofs.Ytopbhdpfakjkjaa.Aud
