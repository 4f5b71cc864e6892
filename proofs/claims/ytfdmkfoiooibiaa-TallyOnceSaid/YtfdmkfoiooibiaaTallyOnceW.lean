/- Proved: the walk of the law TallyOnce: it answers true, for all names and numbers. -/
import Derived.Test.YtfdmkfoiooibiaaTallyOnceGet
import Derived.Test.YtfdmkfoiooibiaaTallySumsW
import Derived.Lib.MinMax
namespace Go.Proofs.Ytfdmkfoiooibiaa.Tally
open Go.RowKit

theorem and_31 (n : Int) : Go.bits .and .i64 n 31 = n % 32 := by rw [i64_mask n 31 5 (by decide), IntKind.wrap_i64]; omega
theorem OS.start {w w1 : World} (nm : ByteArray) (hb : Below w.heap.size w w1) :
    OS w.heap.size w (w1.heap.size + 1) w1.heap.size 0 0 ⟨#[]⟩ nm 0 ((w1.alloc (.cells (mak nm 0) 61)).alloc (.cells (mem w1.heap.size 0 0 0 ⟨#[]⟩) 80)) := by
  have hz := hb.size
  refine ⟨?_, (Blk.new w1 61 _).alloc _, (hb.alloc hz _).alloc (by simp; omega) _, by simp; omega, by omega, hz, by omega⟩
  have := Blk.new (w1.alloc (.cells (mak nm 0) 61)) 80 (mem w1.heap.size 0 0 0 ⟨#[]⟩)
  rwa [World.size_alloc] at this
theorem OS.again {B : Nat} {w0 w : World} {g m : Nat} {d md c : Int} {v nm : ByteArray} (h : OS B w0 g m d md v nm c w) : OS B w0 w.heap.size m 0 0 ⟨#[]⟩ nm c (w.alloc (.cells (mem m 0 0 0 ⟨#[]⟩) 80)) :=
  ⟨Blk.new w 80 _, h.zm.alloc _, h.below.alloc h.big _, by have := h.big; simp; omega, h.big, h.bm, by have := h.zm.lt; omega⟩

set_option maxRecDepth 100000 in
set_option maxHeartbeats 8000000 in
theorem once_walk (nm : ByteArray) (n0 : Int) (w : World) : Calls Try.prog 13 #[.string nm, .int .i64 n0] w fun e w' => e = .returned (.bool true) ∧ Below w.heap.size w w' := by
  obtain ⟨N, hN⟩ : ∃ M : Nat, (M : Int) = n0 % 32 := ⟨(n0 % 32).toNat, by omega⟩
  have e1 : Go.bits .and .i64 n0 31 = (N : Int) := by rw [and_31, hN]
  have hN1 : N ≤ 31 := by omega
  have hmf : ∀ (fn : Fn) (first cap : Array Value) (w : World), (Instr.makeFunc fn first cap).run Try.prog w = .ok (.func fn first cap) w := fun _ _ _ _ => rfl
  clear hN
  go_enter Try.func13, Try.ntmps13
  go_wp2_with fail
  refine (head_any _).mono ?_
  rintro e w1 ⟨rfl, hb1⟩
  have S0 := OS.start nm hb1
  have K := new_any_memo w1.heap.size (w1.alloc (.cells (mak nm 0) 61))
  rw [World.size_alloc] at K
  obtain ⟨m, hm⟩ : ∃ m, m = w1.heap.size := ⟨_, rfl⟩
  rw [← hm] at S0 K
  obtain ⟨W, hW⟩ : ∃ W, W = w1.alloc (.cells (mak nm 0) 61) := ⟨_, rfl⟩
  rw [← hW] at S0 K
  obtain ⟨W2, hW2⟩ : ∃ W2, W2 = W.alloc (.cells (mem m 0 0 0 ⟨#[]⟩) 80) := ⟨_, rfl⟩
  rw [← hW2] at S0 K
  obtain ⟨g, hg⟩ : ∃ g, g = m + 1 := ⟨_, rfl⟩
  rw [← hg] at S0 K
  have KK := Lib.hid K
  have SS := Lib.hid S0
  have HM := Lib.hid hm
  have HW := Lib.hid (show w1.alloc (.cells #[.string nm, .int .i64 0] 61) = W from hW.symm)
  have M0 := Lib.hid (made_any g 0 W2 (by rw [S0.zg.cell]; rfl))
  have z1 : W2.cell? ⟨m, 1, none⟩ = some (.int .i64 0) := by rw [S0.zm.cell]; rfl
  clear S0 K hm hb1 hW hW2 hg
  go_wp2_with fail
  rw [← HM.out, HW.out]
  refine (KK.out).mono ?_
  rintro e w2 ⟨rfl, rfl⟩
  go_wp2_with fail
  refine (M0.out).mono ?_
  rintro e w2 ⟨rfl, rfl⟩
  go_wp2_with fail
  clear z1
  go_loopw [7] (fun iv wr => ∃ k : Nat, k ≤ N ∧ iv = .int .i64 k ∧ ((k = 0 ∧ OS w.heap.size w g m 0 0 ⟨#[]⟩ nm 0 wr) ∨ (0 < k ∧ OS w.heap.size w g m 1 1 nm nm 1 wr))) (fun iv _ => N - (intOf iv).toNat)
  case atStart => exact ⟨0, by omega, rfl, .inl ⟨rfl, SS.out⟩⟩
  case round =>
    clear SS
    obtain ⟨k, hk, rfl, hS⟩ := hrel
    by_cases hlt : k < N
    · have hget : Calls Try.prog 36 #[.pointer (some ⟨g, 0, none⟩)] wr fun e w' => e = .returned (.string nm) ∧ OS w.heap.size w g m 1 1 nm nm 1 w' := by
        rcases hS with ⟨_, hS⟩ | ⟨_, hS⟩
        · exact get_first _ _ g m _ nm 0 wr hS (by omega) (by omega)
        · exact get_again _ _ g m _ _ nm 1 wr hS
      have G := Lib.hid hget
      clear hget hS
      go_wp2_with fail
      refine (G.out).mono ?_
      rintro e w3 ⟨rfl, hO⟩
      have M1 := Lib.hid (made_any g 1 w3 (by rw [hO.zg.cell]; rfl))
      have z1 : w3.cell? ⟨m, 1, none⟩ = some (.int .i64 1) := by rw [hO.zm.cell]; rfl
      have HO := Lib.hid hO
      clear hO
      go_wp2_with fail
      refine (M1.out).mono ?_
      rintro e w4 ⟨rfl, rfl⟩
      go_wp2
      go_roundw
      case rel => exact ⟨k + 1, by omega, by go_num, .inr ⟨by omega, HO.out⟩⟩
      case measure => simp [intOf]; omega
    · obtain rfl : k = N := by omega
      obtain ⟨c, d, md, v, hc, hS⟩ : ∃ (c d md : Int) (v : ByteArray), c = min (k : Int) 1 ∧ OS w.heap.size w g m d md v nm c wr := by
        rcases hS with ⟨h0, hS⟩ | ⟨h0, hS⟩
        · exact ⟨0, 0, 0, _, by omega, hS⟩
        · exact ⟨1, 1, 1, _, by omega, hS⟩
      have hmin : min (k : Int) 1 = c := hc.symm
      have c0 : 0 ≤ c := by omega
      have c1 : c ≤ 1 := by omega
      have K := new_any_memo m wr
      have S2 := hS.again
      obtain ⟨g2, hg2⟩ : ∃ g2, g2 = wr.heap.size := ⟨_, rfl⟩
      obtain ⟨W3, hW3⟩ : ∃ W3, W3 = wr.alloc (.cells (mem m 0 0 0 ⟨#[]⟩) 80) := ⟨_, rfl⟩
      rw [← hg2] at K S2
      rw [← hW3] at K S2
      have KN := Lib.hid K
      have M2 := Lib.hid (made_any g2 0 W3 (by rw [S2.zg.cell]; rfl))
      have G2 := Lib.hid (get_first _ _ g2 m _ nm c W3 S2 c0 (by omega))
      clear K S2 hS hg2 hW3 hc hlt hk
      go_wp2_with fail
      refine (KN.out).mono ?_
      rintro e w4 ⟨rfl, rfl⟩
      go_wp2_with fail
      refine (M2.out).mono ?_
      rintro e w4 ⟨rfl, rfl⟩
      go_wp2_with fail
      refine (G2.out).mono ?_
      rintro e w5 ⟨rfl, hO⟩
      have z1 : w5.cell? ⟨m, 1, none⟩ = some (.int .i64 (c + 1)) := by rw [hO.zm.cell]; rfl
      have HO := Lib.hid hO
      clear hO
      go_wp2
      go_ret
      exact ⟨by simp, HO.out.below⟩

end Go.Proofs.Ytfdmkfoiooibiaa.Tally
