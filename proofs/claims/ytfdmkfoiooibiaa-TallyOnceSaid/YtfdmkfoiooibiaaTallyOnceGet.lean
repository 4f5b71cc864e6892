/- Proved: tally.Memo's New, Get and Made around the maker's text, in a run of one goroutine. -/
import Derived.Test.YtfdmkfoiooibiaaTallyOnceDo
namespace Go.Proofs.Ytfdmkfoiooibiaa.Tally
open Go.RowKit

set_option maxRecDepth 100000 in
set_option maxHeartbeats 4000000 in
theorem do_first (g m pb : Nat) (nm v0 : ByteArray) (c : Int) (w : World) (hgm : ¬ g = m) (hpg : ¬ pb = g) (hpm : ¬ pb = m) (hp : w.cell? ⟨pb, 0, none⟩ = some (.pointer (some ⟨g, 0, none⟩)))
    (hG : Blk w g 80 (mem m 0 0 0 v0)) (hM : Blk w m 61 (mak nm c)) (c0 : 0 ≤ c) (c1 : c ≤ 100) :
    Calls Try.prog 42 #[.pointer (some ⟨g, 0, none⟩), .func (.func 43) #[] #[.pointer (some ⟨pb, 0, none⟩)]] w fun e w' => e = .returned (.tuple #[]) ∧ Blk w' g 80 (mem m 1 0 1 nm) ∧ Blk w' m 61 (mak nm (c + 1)) ∧ Two g m w w' := by
  have KB := Lib.hid (load_bool ⟨g, 0, none⟩ 0 w (by rw [hG.cell]; rfl))
  have KS := Lib.hid (slow_any g m pb nm v0 c w hgm hpg hpm hp hG hM c0 c1)
  have hnot : ∀ (x : Bool) (w : World), (Op.unary .not (.bool x)).run Try.prog w = .ok (.bool (!x)) w := fun _ _ => rfl
  clear hG hM hp hgm hpg hpm
  go_enter Try.func42, Try.ntmps42
  go_wp2_with fail
  refine (KB.out).mono ?_
  rintro e w' ⟨rfl, rfl⟩
  go_wp2_with fail
  refine (KS.out).mono ?_
  rintro e w' ⟨rfl, hr⟩
  have HR := Lib.hid hr
  clear hr
  go_wp2
  first | go_end0 | refine bodyPost_ret (results_none rfl _ _ _) rfl ?_
  exact ⟨rfl, HR.out⟩

set_option maxRecDepth 100000 in
set_option maxHeartbeats 4000000 in
theorem do_done (g : Nat) (fv : Value) (w : World) (h0 : w.cell? ⟨g, 0, none⟩ = some (.int .u32 1)) :
    Calls Try.prog 42 #[.pointer (some ⟨g, 0, none⟩), fv] w fun e w' => e = .returned (.tuple #[]) ∧ w' = w := by
  have KB := Lib.hid (load_bool ⟨g, 0, none⟩ 1 w h0)
  have hnot : ∀ (x : Bool) (w : World), (Op.unary .not (.bool x)).run Try.prog w = .ok (.bool (!x)) w := fun _ _ => rfl
  clear h0
  go_enter Try.func42, Try.ntmps42
  go_wp2_with fail
  refine (KB.out).mono ?_
  rintro e w' ⟨rfl, rfl⟩
  go_wp2
  first | go_end0 | refine bodyPost_ret (results_none rfl _ _ _) rfl ?_
  exact ⟨rfl, rfl⟩

/-- A memo and its maker in blocks of the call's own. -/
structure OS (B : Nat) (w0 : World) (g m : Nat) (d md : Int) (v nm : ByteArray) (c : Int) (w : World) : Prop where
  zg : Blk w g 80 (mem m d 0 md v)
  zm : Blk w m 61 (mak nm c)
  below : Below B w0 w
  big : B ≤ w.heap.size
  bg : B ≤ g
  bm : B ≤ m
  ne : ¬ g = m
theorem below_two {B : Nat} {w0 w w' : World} {g m : Nat} (h : Below B w0 w) (t : Two g m w w') (hg : B ≤ g) (hm : B ≤ m) : Below B w0 w' :=
  ⟨t.os.trans h.os, t.tape.trans h.tape, t.output.trans h.output, by have := h.size; have := t.size; omega, fun k hk => (t.block k (by omega) (by omega)).trans (h.block k hk)⟩

set_option maxRecDepth 100000 in
set_option maxHeartbeats 4000000 in
theorem get_first (B : Nat) (w0 : World) (g m : Nat) (v0 nm : ByteArray) (c : Int) (w : World) (h : OS B w0 g m 0 0 v0 nm c w) (c0 : 0 ≤ c) (c1 : c ≤ 100) :
    Calls Try.prog 36 #[.pointer (some ⟨g, 0, none⟩)] w fun e w' => e = .returned (.string nm) ∧ OS B w0 g m 1 1 nm nm (c + 1) w' := by
  have hmf : ∀ (fn : Fn) (first cap : Array Value) (w : World), (Instr.makeFunc fn first cap).run Try.prog w = .ok (.func fn first cap) w := fun _ _ _ _ => rfl
  have lg := h.zg.lt
  have lm := h.zm.lt
  have p0 : (w.alloc (.cells #[.pointer (some ⟨g, 0, none⟩)] 62)).cell? ⟨w.heap.size, 0, none⟩ = some (.pointer (some ⟨g, 0, none⟩)) := by simp
  have K := do_first g m w.heap.size nm v0 c _ h.ne (by omega) (by omega) p0 (h.zg.alloc _) (h.zm.alloc _) c0 c1
  have bel := h.below.alloc h.big (.cells #[.pointer (some ⟨g, 0, none⟩)] 62)
  have big : B ≤ (w.alloc (.cells #[.pointer (some ⟨g, 0, none⟩)] 62)).heap.size := by have := h.big; simp; omega
  obtain ⟨pb, hpb⟩ : ∃ p, p = w.heap.size := ⟨_, rfl⟩
  have npg : ¬ pb = g := by omega
  have npm : ¬ pb = m := by omega
  rw [← hpb] at K p0
  obtain ⟨W, hW⟩ : ∃ W, W = w.alloc (.cells #[.pointer (some ⟨g, 0, none⟩)] 62) := ⟨_, rfl⟩
  rw [← hW] at K p0 bel big
  have KK := Lib.hid K
  have P0 := Lib.hid p0
  have BE := Lib.hid (And.intro bel big)
  have HH := Lib.hid h
  have HPB := Lib.hid hpb
  have HWW := Lib.hid hW
  clear K p0 bel big h lg lm hpb hW
  go_enter Try.func36, Try.ntmps36
  go_wp2_with fail
  rw [← HWW.out, ← HPB.out]
  refine (KK.out).mono ?_
  rintro e w' ⟨rfl, hg, hm, ht⟩
  have c2 : w'.cell? ⟨pb, 0, none⟩ = some (.pointer (some ⟨g, 0, none⟩)) := by
    have := P0.out
    unfold World.cell? at this ⊢
    rw [ht.block pb npg npm]; exact this
  have c3 : w'.cell? ⟨g, 5, none⟩ = some (.string nm) := by rw [hg.cell]; rfl
  have HF : Hid (OS B w0 g m 1 1 nm nm (c + 1) w') := Lib.hid ⟨hg, hm, below_two BE.out.1 ht HH.out.bg HH.out.bm, by have := BE.out.2; have := ht.size; omega, HH.out.bg, HH.out.bm, HH.out.ne⟩
  clear hg hm ht
  go_wp2
  go_ret
  exact ⟨rfl, HF.out⟩

set_option maxRecDepth 100000 in
set_option maxHeartbeats 4000000 in
theorem get_again (B : Nat) (w0 : World) (g m : Nat) (md : Int) (v nm : ByteArray) (c : Int) (w : World) (h : OS B w0 g m 1 md v nm c w) :
    Calls Try.prog 36 #[.pointer (some ⟨g, 0, none⟩)] w fun e w' => e = .returned (.string v) ∧ OS B w0 g m 1 md v nm c w' := by
  have hmf : ∀ (fn : Fn) (first cap : Array Value) (w : World), (Instr.makeFunc fn first cap).run Try.prog w = .ok (.func fn first cap) w := fun _ _ _ _ => rfl
  have hf : OS B w0 g m 1 md v nm c (w.alloc (.cells #[.pointer (some ⟨g, 0, none⟩)] 62)) := ⟨h.zg.alloc _, h.zm.alloc _, h.below.alloc h.big _, by have := h.big; simp; omega, h.bg, h.bm, h.ne⟩
  have p0 : (w.alloc (.cells #[.pointer (some ⟨g, 0, none⟩)] 62)).cell? ⟨w.heap.size, 0, none⟩ = some (.pointer (some ⟨g, 0, none⟩)) := by simp
  obtain ⟨pb, hpb⟩ : ∃ p, p = w.heap.size := ⟨_, rfl⟩
  rw [← hpb] at p0
  obtain ⟨W, hW⟩ : ∃ W, W = w.alloc (.cells #[.pointer (some ⟨g, 0, none⟩)] 62) := ⟨_, rfl⟩
  rw [← hW] at p0 hf
  have c3 : W.cell? ⟨g, 5, none⟩ = some (.string v) := by rw [hf.zg.cell]; rfl
  have K := Lib.hid (fun fv => do_done g fv W (by rw [hf.zg.cell]; rfl))
  have HF := Lib.hid hf
  have HPB := Lib.hid hpb
  have HWW := Lib.hid hW
  clear h hf hpb hW
  go_enter Try.func36, Try.ntmps36
  go_wp2_with fail
  rw [← HWW.out, ← HPB.out]
  refine (K.out _).mono ?_
  rintro e w' ⟨rfl, rfl⟩
  go_wp2
  go_ret
  exact ⟨rfl, HF.out⟩

set_option maxRecDepth 100000 in
set_option maxHeartbeats 4000000 in
theorem made_any (g : Nat) (md : Int) (w : World) (h : w.cell? ⟨g, 4, none⟩ = some (.int .u32 md)) :
    Calls Try.prog 35 #[.pointer (some ⟨g, 0, none⟩)] w fun e w' => e = .returned (.bool (md != 0)) ∧ w' = w := by
  have K := Lib.hid (load_bool ⟨g, 4, none⟩ md w h)
  clear h
  go_enter Try.func35, Try.ntmps35
  go_wp2_with fail
  refine (K.out).mono ?_
  rintro e w' ⟨rfl, rfl⟩
  go_wp2
  go_ret
  exact ⟨rfl, rfl⟩

set_option maxRecDepth 100000 in
set_option maxHeartbeats 4000000 in
theorem new_any_memo (m : Nat) (w : World) :
    Calls Try.prog 33 #[F m] w fun e w' => e = .returned (.pointer (some ⟨w.heap.size, 0, none⟩)) ∧ w' = w.alloc (.cells (mem m 0 0 0 ⟨#[]⟩) 80) := by
  unfold F
  go_enter Try.func33, Try.ntmps33
  go_wp2
  go_ret
  exact ⟨rfl, rfl⟩

end Go.Proofs.Ytfdmkfoiooibiaa.Tally
