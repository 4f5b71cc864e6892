/- Proved: what (*histo.Histo).Counts answers: a new row of the bins. What a turned list of idle times leaves in a histogram. -/
import Derived.Test.YtfdmkfoiooibiaaHistoRow
import Derived.Laws.CopyOwn
import Derived.Deep.OwnRows
namespace Go.Proofs.Ytfdmkfoiooibiaa.Histo
open Go.RowKit

def CountsPost (s : S) (w : World) (e : Ending) (w' : World) : Prop :=
  e = .returned (.slice (some ⟨w.heap.size, 0, none⟩) 240 240) ∧ Blk w' w.heap.size 3 (bc s.bs).toArray ∧ w.grownBy w' none
theorem bc_len {s : S} (ok : Ok s) : (bc s.bs).length = 240 := by unfold bc; rw [List.length_map, ok.len]

theorem info3 : (Try.prog.info? 3).map (fun i => (i.zero, i.size, i.bytes)) = some (some (Value.int .i64 0), 1, 8) := by kernel_rfl

set_option maxRecDepth 100000 in
set_option maxHeartbeats 2000000 in
theorem counts_any (g : Nat) (s : S) (w : World) (h : Blk w g 68 s.cells) (ok : Ok s) : Calls Try.prog 25 #[.pointer (some ⟨g, 0, none⟩)] w (CountsPost s w) := by
  have hmk : (Instr.makeSlice 46 (.int .i64 240) (.int .i64 240)).run Try.prog w = .ok (.slice (some ⟨w.heap.size, 0, none⟩) 240 240) (w.alloc (.cells (madeCells #[Value.int .i64 0] 240) 3)) := run_make_row' (P := Try.prog) 46 3 (.int .i64 0) 8 Try.underlying46 info3 rfl .i64 .i64 240 (by omega) (by omega) w
  have hb : Blk (w.alloc (.cells (madeCells #[Value.int .i64 0] 240) 3)) w.heap.size 3 (madeCells #[Value.int .i64 0] 240) := Blk.new w 3 _
  have hh := h.alloc (.cells (madeCells #[Value.int .i64 0] 240) 3)
  have hcell := bc_cell hh
  have hcp := run_copy_row (P := Try.prog) (w.alloc (.cells (madeCells #[Value.int .i64 0] 240) 3)) 46 46 3 3 w.heap.size 0 240 240 ⟨g, 0, none⟩ 240 240 (madeCells #[Value.int .i64 0] 240) 3 (bc s.bs)
    Try.underlying46 (by kernel_rfl) hb (by rw [bc_len ok]; rfl) (fun j v hv => by
      have hadd : (⟨g, 0, none⟩ : Addr).add j = ⟨g, j, none⟩ := by unfold Addr.add; split <;> simp_all
      rw [hadd]; exact hcell j v hv) (by rw [bc_len ok, size_madeCells]; omega) (by
      intro v hv
      unfold bc at hv
      obtain ⟨x, _, rfl⟩ := List.mem_map.1 hv
      rfl)
  have e1 : ((madeCells #[Value.int .i64 0] 240).toList.take 0 ++ bc s.bs ++ (madeCells #[Value.int .i64 0] 240).toList.drop (0 + (bc s.bs).length)).toArray = (bc s.bs).toArray := by
    rw [List.take_zero, List.nil_append, List.drop_of_length_le (by rw [Array.length_toList, size_madeCells, bc_len ok]; omega), List.append_nil]
  rw [e1, bc_len ok] at hcp
  have hb2 : Blk ((w.alloc (.cells (madeCells #[Value.int .i64 0] 240) 3)).setRow w.heap.size (bc s.bs).toArray) w.heap.size 3 (bc s.bs).toArray := setRow_heap _ _ _ _ _ _ hb
  have hg : w.grownBy ((w.alloc (.cells (madeCells #[Value.int .i64 0] 240) 3)).setRow w.heap.size (bc s.bs).toArray) none :=
    ⟨rfl, rfl, rfl, by simp [World.setRow], fun k hk _ => by
      rw [setRow_other _ _ _ _ (by omega)]
      exact (Below.refl w.heap.size w).alloc (Nat.le_refl _) _ |>.block k hk⟩
  generalize w.alloc (.cells (madeCells #[Value.int .i64 0] 240) 3) = w1 at hmk hcp hb2 hg hh
  generalize w1.setRow w.heap.size (bc s.bs).toArray = w2 at hcp hb2 hg
  have HB2 := Lib.hid hb2
  have HG := Lib.hid hg
  obtain ⟨gs, hgs⟩ : ∃ gs, gs = w.heap.size := ⟨_, rfl⟩
  rw [← hgs] at hmk hcp
  have HGS := Lib.hid hgs
  clear hb hcell h hh ok e1 hb2 hg hgs
  go_enter Try.func25, Try.ntmps25
  go_wp2
  go_ret
  exact ⟨by have := HGS.out; subst this; rfl, HB2.out, HG.out⟩

end Go.Proofs.Ytfdmkfoiooibiaa.Histo
