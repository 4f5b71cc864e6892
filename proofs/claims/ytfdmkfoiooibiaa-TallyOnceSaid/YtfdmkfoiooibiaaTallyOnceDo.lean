/- Proved: (*sync.Once).doSlow and Do around the maker's text, in a run of one goroutine. -/
import Derived.Test.YtfdmkfoiooibiaaTallyOnceSlow
namespace Go.Proofs.Ytfdmkfoiooibiaa.Tally
open Go.RowKit

def F (m : Nat) : Value := .func (.func 34) #[.pointer (some ⟨m, 0, none⟩)] #[]
/-- The cells of a memo and of a maker. -/
def mem (m : Nat) (d st md : Int) (v : ByteArray) : Array Value := #[.int .u32 d, .int .i32 st, .int .u32 0, F m, .int .u32 md, .string v]
def mak (nm : ByteArray) (c : Int) : Array Value := #[.string nm, .int .i64 c]
theorem Two.refl (g m : Nat) (w : World) : Two g m w w := ⟨rfl, rfl, rfl, rfl, fun _ _ _ => rfl⟩
theorem Two.drew {g m : Nat} {w w' : World} (h : Two g m w w') : Two g m w w'.drew := ⟨h.os, h.tape, h.output, h.size, h.block⟩
theorem Two.set_ {g m : Nat} {w w' : World} (h : Two g m w w') (p : Addr) (hp : p.block = g ∨ p.block = m) (u : Value) : Two g m w (w'.setCell p u) :=
  ⟨h.os, h.tape, h.output, by simpa [World.setCell] using h.size, fun k h1 h2 => (Below.heap_setCell w' p u k (by rintro rfl; rcases hp with hp | hp <;> simp_all)).trans (h.block k h1 h2)⟩

set_option maxRecDepth 100000 in
set_option maxHeartbeats 4000000 in
theorem slow_any (g m pb : Nat) (nm v0 : ByteArray) (c : Int) (w : World) (hgm : ¬ g = m) (hpg : ¬ pb = g) (hpm : ¬ pb = m) (hp : w.cell? ⟨pb, 0, none⟩ = some (.pointer (some ⟨g, 0, none⟩)))
    (hG : Blk w g 80 (mem m 0 0 0 v0)) (hM : Blk w m 61 (mak nm c)) (c0 : 0 ≤ c) (c1 : c ≤ 100) :
    Calls Try.prog 48 #[.pointer (some ⟨g, 0, none⟩), .func (.func 43) #[] #[.pointer (some ⟨pb, 0, none⟩)]] w fun e w' => e = .returned (.tuple #[]) ∧ Blk w' g 80 (mem m 1 0 1 nm) ∧ Blk w' m 61 (mak nm (c + 1)) ∧ Two g m w w' := by
  have hgm' : m ≠ g := fun h => hgm h.symm
  obtain ⟨W1, hW1⟩ : ∃ W, W = w.setCell ⟨g, 1, none⟩ (.int .i32 1) := ⟨_, rfl⟩
  have b1 : Blk W1 g 80 (mem m 0 1 0 v0) := by rw [hW1]; have := hG.set_ 1 (.int .i32 1); simpa [mem] using this
  have m1 : Blk W1 m 61 (mak nm c) := by rw [hW1]; exact hM.far (p := ⟨g, 1, none⟩) hgm' _
  have p1 : W1.cell? ⟨pb, 0, none⟩ = some (.pointer (some ⟨g, 0, none⟩)) := by rw [hW1]; exact (World.cell?_setCell_other _ ⟨g, 1, none⟩ ⟨pb, 0, none⟩ _ (by simp)).trans hp
  have t1 : Two g m w W1 := by rw [hW1]; exact (Two.refl g m w).set_ ⟨g, 1, none⟩ (.inl rfl) _
  have K1 := clos_any g m pb nm v0 c W1 hgm hpg hpm p1 (by rw [b1.cell]; rfl) (by rw [b1.cell]; rfl) (by rw [b1.cell]; rfl) (b1.frozen 4) (b1.frozen 5) (by rw [m1.cell]; rfl) (by rw [m1.cell]; rfl) (m1.frozen 1) c0 c1
  obtain ⟨W2, hW2⟩ : ∃ W, W = ((W1.drew.setCell ⟨m, 1, none⟩ (.int .i64 (c + 1))).setCell ⟨g, 5, none⟩ (.string nm)).drew.setCell ⟨g, 4, none⟩ (.int .u32 1) := ⟨_, rfl⟩
  rw [← hW2] at K1
  have b2 : Blk W2 g 80 (mem m 0 1 1 nm) := by
    rw [hW2]
    have d1 : Blk (W1.drew.setCell ⟨m, 1, none⟩ (.int .i64 (c + 1))) g 80 (mem m 0 1 0 v0) := Blk.far (w := W1.drew) b1 (p := ⟨m, 1, none⟩) hgm _
    have d2 : Blk ((W1.drew.setCell ⟨m, 1, none⟩ (.int .i64 (c + 1))).setCell ⟨g, 5, none⟩ (.string nm)) g 80 (mem m 0 1 0 nm) := by have := d1.set_ 5 (.string nm); simpa [mem] using this
    have := Blk.set_ (w := ((W1.drew.setCell ⟨m, 1, none⟩ (.int .i64 (c + 1))).setCell ⟨g, 5, none⟩ (.string nm)).drew) d2 4 (.int .u32 1)
    simpa [mem] using this
  have m2 : Blk W2 m 61 (mak nm (c + 1)) := by
    rw [hW2]
    have d1 : Blk (W1.drew.setCell ⟨m, 1, none⟩ (.int .i64 (c + 1))) m 61 (mak nm (c + 1)) := by have := Blk.set_ (w := W1.drew) m1 1 (.int .i64 (c + 1)); simpa [mak] using this
    exact Blk.far (w := ((W1.drew.setCell ⟨m, 1, none⟩ (.int .i64 (c + 1))).setCell ⟨g, 5, none⟩ (.string nm)).drew) (d1.far (p := ⟨g, 5, none⟩) hgm' _) (p := ⟨g, 4, none⟩) hgm' _
  have t2 : Two g m w W2 := by
    rw [hW2]
    exact ((((t1.drew).set_ ⟨m, 1, none⟩ (.inr rfl) _).set_ ⟨g, 5, none⟩ (.inl rfl) _).drew).set_ ⟨g, 4, none⟩ (.inl rfl) _
  obtain ⟨W3, hW3⟩ : ∃ W, W = W2.drew.setCell ⟨g, 0, none⟩ (.int .u32 1) := ⟨_, rfl⟩
  have b3 : Blk W3 g 80 (mem m 1 1 1 nm) := by rw [hW3]; have := Blk.set_ (w := W2.drew) b2 0 (.int .u32 1); simpa [mem] using this
  have m3 : Blk W3 m 61 (mak nm (c + 1)) := by rw [hW3]; exact Blk.far (w := W2.drew) m2 (p := ⟨g, 0, none⟩) hgm' _
  have t3 : Two g m w W3 := by rw [hW3]; exact (t2.drew).set_ ⟨g, 0, none⟩ (.inl rfl) _
  obtain ⟨W4, hW4⟩ : ∃ W, W = W3.setCell ⟨g, 1, none⟩ (.int .i32 0) := ⟨_, rfl⟩
  have b4 : Blk W4 g 80 (mem m 1 0 1 nm) := by rw [hW4]; have := b3.set_ 1 (.int .i32 0); simpa [mem] using this
  have m4 : Blk W4 m 61 (mak nm (c + 1)) := by rw [hW4]; exact m3.far (p := ⟨g, 1, none⟩) hgm' _
  have t4 : Two g m w W4 := by rw [hW4]; exact t3.set_ ⟨g, 1, none⟩ (.inl rfl) _
  have KL := lock_free ⟨g, 1, none⟩ w (by rw [hG.cell]; rfl) (hG.frozen 1)
  rw [← hW1] at KL
  have KB := load_bool ⟨g, 0, none⟩ 0 W1 (by rw [b1.cell]; rfl)
  have KS := fun u => store_deferred ⟨g, 0, none⟩ (.int .u32 0) u W2 (by rw [b2.cell]; rfl) (b2.frozen 0)
  rw [← hW3] at KS
  have KU := fun u => unlock_deferred ⟨g, 1, none⟩ u W3 (by rw [b3.cell]; rfl) (b3.frozen 1)
  rw [← hW4] at KU
  have HF := Lib.hid (And.intro b4 (And.intro m4 t4))
  have KL := Lib.hid KL
  have KB := Lib.hid KB
  have KC := Lib.hid K1
  have KS := Lib.hid KS
  have KU := Lib.hid KU
  have hnot : ∀ (x : Bool) (w : World), (Op.unary .not (.bool x)).run Try.prog w = .ok (.bool (!x)) w := fun _ _ => rfl
  clear hG hM hp b1 m1 p1 t1 K1 b2 m2 t2 b3 m3 t3 b4 m4 t4 hW1 hW2 hW3 hW4 hgm hgm' hpg hpm
  go_enter_defers Try.func48, Try.ntmps48
  go_wp2_with fail
  refine (KL.out).mono ?_
  rintro e w' ⟨rfl, rfl⟩
  go_wp2_with fail
  refine (KB.out).mono ?_
  rintro e w' ⟨rfl, rfl⟩
  go_wp2_with fail
  refine (KC.out).mono ?_
  rintro e w' ⟨rfl, rfl⟩
  go_wp2
  refine leaves_cons (f := 44) (args := #[.pointer (some ⟨g, 0, none⟩), .bool true]) (by simp) (by simp [go_sem]) ?_
  refine (KS.out .returning).mono ?_
  rintro e u' w'' ⟨rfl, rfl, rfl⟩
  refine leaves_cons (f := 52) (args := #[.pointer (some ⟨g, 1, none⟩)]) (by simp [settle]) (by simp [go_sem]) ?_
  refine (KU.out _).mono ?_
  rintro e u' w'' ⟨rfl, rfl, rfl⟩
  simp [Leaves, settle, results, Try.results48]
  exact HF.out

end Go.Proofs.Ytfdmkfoiooibiaa.Tally
