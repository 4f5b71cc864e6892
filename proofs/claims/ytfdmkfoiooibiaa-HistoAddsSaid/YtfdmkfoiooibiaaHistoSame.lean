/- Proved: what the law's own Model's Same answers where the two hold the same: true. -/
import Derived.Test.YtfdmkfoiooibiaaHistoModelAdd
namespace Go.Proofs.Ytfdmkfoiooibiaa.Histo
open Go.RowKit

set_option maxRecDepth 100000 in
set_option maxHeartbeats 4000000 in
theorem same_any (g2 g : Nat) (s : S) (w : World) (h : Blk w g 68 s.cells) (h2 : Blk w g2 56 (mc s.bs s.o)) (ok : Ok s) : Calls Try.prog 31 #[.pointer (some ⟨g2, 0, none⟩), .pointer (some ⟨g, 0, none⟩)] w fun e w' => e = .returned (.bool true) ∧ w.grownBy w' none := by
  have P1 := Lib.hid (counts_any g s w h ok)
  have H := Lib.hid h
  have H2 := Lib.hid h2
  have OK := Lib.hid ok
  clear h h2 ok
  go_enter Try.func31, Try.ntmps31
  go_wp2_with fail
  refine (P1.out).mono ?_
  rintro e w4 ⟨rfl, hB, hG⟩
  have k4 := H.out.grown hG (by simp)
  have m4 := H2.out.grown hG (by simp)
  obtain ⟨l, hl⟩ : ∃ l, l = w.heap.size := ⟨_, rfl⟩
  rw [← hl] at hB ⊢
  have c1 := fun n => in_any g _ _ _ (w4.drewN n) (k4.drewN n) OK.out.len
  have c2 := fun n => over_any g _ _ _ (w4.drewN n) (k4.drewN n) OK.out.len
  have c3 := fun n => min_any g2 s.bs s.o (w4.drewN n) (m4.drewN n) OK.out.len (fun x hx => by have := OK.out.bd x hx; omega)
  have c4 : w4.cell? ⟨g2, 240, none⟩ = some (.int .i64 s.o) := by rw [m4.cell, mc_over OK.out.len]
  have hld := fun n => mc_cell (m4.drewN n)
  have hall := fun n => And.intro (hB.drewN n) (And.intro (k4.drewN n) (only_drewN hG n))
  have hsz : (Try.prog.info? 54).map (·.size) = some (bc s.bs).length := by rw [info54]; unfold bc; rw [List.length_map, OK.out.len]
  rw [← OK.out.sum] at c3
  obtain ⟨X, hX⟩ : ∃ X : Int, X = s.a := ⟨_, rfl⟩
  obtain ⟨Y, hY⟩ : ∃ X : Int, X = s.o := ⟨_, rfl⟩
  rw [← hX] at c1 c3
  rw [← hY] at c2 c4
  have C1 := Lib.hid c1
  have C2 := Lib.hid c2
  have C3 := Lib.hid c3
  have HLD := Lib.hid hld
  have HALL := Lib.hid hall
  have HSZ := Lib.hid hsz
  clear c1 c2 c3 hld hall hB hG k4 m4 hl hX hY hsz
  go_wp2_with fail
  go_quiet (first | (go_at_call 23; exact Calls.quiet_of (C1.out _)) | (go_at_call 24; exact Calls.quiet_of (C2.out _)) | (go_at_call 40; exact Calls.quiet_of (C3.out _)))
  clear c4
  go_wp2_with (refine wpList_load_arr rfl 54 (.tmp 31) rfl g2 240 3 rfl (bc s.bs) (HLD.out nq) Try.underlying54 HSZ.out ?_)
  obtain ⟨A, hA⟩ : ∃ A, A = (bc s.bs).toArray := ⟨_, rfl⟩
  rw [← hA]
  have HAA := Lib.hid hA
  clear hA
  go_loopw [33] (fun iv wr => ∃ k : Nat, k ≤ 240 ∧ iv = .int .i64 k ∧ ∃ n, wr = w4.drewN n) (fun iv _ => 240 - (intOf iv).toNat)
  case atStart => exact ⟨0, by omega, rfl, _, rfl⟩
  case round =>
    obtain ⟨k, hk, rfl, n, rfl⟩ := hrel
    by_cases hlt : k < 240
    · have hk' : k < s.bs.length := by rw [OK.out.len]; exact hlt
      have hidx := fun W => run_index s.bs k hk' OK.out.len W
      rw [← HAA.out] at hidx
      obtain ⟨hB, hH, -⟩ := HALL.out n
      have cl : (w4.drewN n).cell? ⟨l, k, none⟩ = some (.int .i64 (s.bs.getD k 0)) := by rw [hB.cell, List.getElem?_toArray]; exact bc_get hk'
      have cb := fun m => bin_in g k s ((w4.drewN n).drewN m) (hH.drewN m) OK.out hlt
      obtain ⟨x, hx⟩ : ∃ x, x = s.bs.getD k 0 := ⟨_, rfl⟩
      rw [← hx] at hidx cl cb
      have CB := Lib.hid cb
      clear hx hB hH cb hk'
      go_wp2_with fail
      refine (CB.out 0).mono ?_
      rintro e w' ⟨rfl, n1, rfl⟩
      go_wp2
      go_roundw
      case rel => exact ⟨k + 1, by omega, by go_num, _, rfl⟩
      case measure => simp [intOf]; omega
    · obtain rfl : k = 240 := by omega
      have B1 := Lib.hid (fun V => bin_out (.pointer (some ⟨g, 0, none⟩)) (-1) V (.inl (by omega)))
      have B2 := Lib.hid (fun V => bin_out (.pointer (some ⟨g, 0, none⟩)) 240 V (.inr (by omega)))
      go_wp2_with fail
      refine (B1.out _).mono ?_
      rintro e w' ⟨rfl, n1, rfl⟩
      go_wp2_with fail
      refine (B2.out _).mono ?_
      rintro e w' ⟨rfl, n2, rfl⟩
      go_wp2
      go_ret
      exact ⟨by simp, (HALL.out _).2.2⟩

end Go.Proofs.Ytfdmkfoiooibiaa.Histo
