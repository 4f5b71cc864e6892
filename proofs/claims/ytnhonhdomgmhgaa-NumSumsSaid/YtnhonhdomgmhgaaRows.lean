/-
  No cell of these rows narrows 'for every input' (looked for: loops, veiled, ifaces, maps, wideKeys, modest, calm, conditions, laid).
  DERIVED. THE GIVEN ROWS OF THIS SEAT. 12 by the template 'for every input the law returns true; each argument reads behind the call as it read before'; 0 by the template 'total and deterministic' (their statements: YtnhonhdomgmhgaaTotals.lean).
  GIVEN WITH THE SEED: the statements are not yours to turn. If you find one false, say at which input.
  Laid BY PROGRAM, IN A SANDBOX (cutbox-rows.mjs): the forced cells as the released guide's own fill.sh prints them over the translation 51db8a2c4057705d… (all of the seat's roots in one cut). By AI agents, Wed Nov 11 2026. No macro, syntax, notation, axiom, sorry.
-/
import Derived.Test.YtnhonhdomgmhgaaChecked
import GoSem.Claim
import GoSem.ClaimJoined
import GoSem.ClaimMapViews
import Derived.JoinedTies
import Derived.KernelRfl
namespace Go.Proofs.Ytnhonhdomgmhgaa
/- THE CELL 'sum', in the pinned program and in every row, IS THE sha256 OF THE DUMP (.gsa) THAT YtnhonhdomgmhgaaProg.lean LOADS. Nothing in Lean hashes anything: it is a label: what it is worth is what the hold of that sum in a sandbox is worth. -/
noncomputable def Try.pinned : Pinned := { name := "ytnhonhdomgmhgaa", sum := "51db8a2c4057705d671cebd7c84426e18a72fbdb4f216b0e613c0b0942a4d06f", checked := Try.checked }
namespace Rows
def none {H : Type} : Left H := { results := [], args := [] }

/-- 'greenhouselaw06.CastNexts': WHATEVER THE INPUT: true; the input reads as it did. -/
def castNextsSpec : ChangeSpec := { name := "castNexts", fn := fun _ => fun
  | [d] => { results := [.lit (.bool true)], args := [d] }
  | _ => none }
def castNextsRow : OpenClaim := { program := "ytnhonhdomgmhgaa", sum := "51db8a2c4057705d671cebd7c84426e18a72fbdb4f216b0e613c0b0942a4d06f", func := "greenhouse/greenhouselaw06.CastNexts", spec := "castNexts", apart := false }
def CastNextsSaid : Prop := castNextsRow.holds Try.pinned (OpenSpec.ofChange castNextsSpec)

/-- ITS FALSE NEIGHBOUR: 'it returns false'. Refute it at one input. -/
def castNextsWrong : ChangeSpec := { name := "castNexts", fn := fun _ => fun
  | [d] => { results := [.lit (.bool false)], args := [d] }
  | _ => none }
def CastNextsWrongFalsely : Prop := castNextsRow.holds Try.pinned (OpenSpec.ofChange castNextsWrong)

/-- 'greenhouselaw06.CastLines': WHATEVER THE INPUT: true; the input reads as it did. -/
def castLinesSpec : ChangeSpec := { name := "castLines", fn := fun _ => fun
  | [d1, d2, d3] => { results := [.lit (.bool true)], args := [d1, d2, d3] }
  | _ => none }
def castLinesRow : OpenClaim := { program := "ytnhonhdomgmhgaa", sum := "51db8a2c4057705d671cebd7c84426e18a72fbdb4f216b0e613c0b0942a4d06f", func := "greenhouse/greenhouselaw06.CastLines", spec := "castLines", apart := false }
def CastLinesSaid : Prop := castLinesRow.holds Try.pinned (OpenSpec.ofChange castLinesSpec)

/-- ITS FALSE NEIGHBOUR: 'it returns false'. Refute it at one input. -/
def castLinesWrong : ChangeSpec := { name := "castLines", fn := fun _ => fun
  | [d1, d2, d3] => { results := [.lit (.bool false)], args := [d1, d2, d3] }
  | _ => none }
def CastLinesWrongFalsely : Prop := castLinesRow.holds Try.pinned (OpenSpec.ofChange castLinesWrong)

/-- 'greenhouselaw06.CastBounds': WHATEVER THE INPUT: true; the input reads as it did. -/
def castBoundsSpec : ChangeSpec := { name := "castBounds", fn := fun _ => fun
  | [d1, d2, d3, d4] => { results := [.lit (.bool true)], args := [d1, d2, d3, d4] }
  | _ => none }
def castBoundsRow : OpenClaim := { program := "ytnhonhdomgmhgaa", sum := "51db8a2c4057705d671cebd7c84426e18a72fbdb4f216b0e613c0b0942a4d06f", func := "greenhouse/greenhouselaw06.CastBounds", spec := "castBounds", apart := false }
def CastBoundsSaid : Prop := castBoundsRow.holds Try.pinned (OpenSpec.ofChange castBoundsSpec)

/-- ITS FALSE NEIGHBOUR: 'it returns false'. Refute it at one input. -/
def castBoundsWrong : ChangeSpec := { name := "castBounds", fn := fun _ => fun
  | [d1, d2, d3, d4] => { results := [.lit (.bool false)], args := [d1, d2, d3, d4] }
  | _ => none }
def CastBoundsWrongFalsely : Prop := castBoundsRow.holds Try.pinned (OpenSpec.ofChange castBoundsWrong)

/-- 'greenhouselaw06.CastShifts': WHATEVER THE INPUT: true; the input reads as it did. -/
def castShiftsSpec : ChangeSpec := { name := "castShifts", fn := fun _ => fun
  | [d1, d2] => { results := [.lit (.bool true)], args := [d1, d2] }
  | _ => none }
def castShiftsRow : OpenClaim := { program := "ytnhonhdomgmhgaa", sum := "51db8a2c4057705d671cebd7c84426e18a72fbdb4f216b0e613c0b0942a4d06f", func := "greenhouse/greenhouselaw06.CastShifts", spec := "castShifts", apart := false }
def CastShiftsSaid : Prop := castShiftsRow.holds Try.pinned (OpenSpec.ofChange castShiftsSpec)

/-- ITS FALSE NEIGHBOUR: 'it returns false'. Refute it at one input. -/
def castShiftsWrong : ChangeSpec := { name := "castShifts", fn := fun _ => fun
  | [d1, d2] => { results := [.lit (.bool false)], args := [d1, d2] }
  | _ => none }
def CastShiftsWrongFalsely : Prop := castShiftsRow.holds Try.pinned (OpenSpec.ofChange castShiftsWrong)

/-- 'greenhouselaw06.CastTwos': WHATEVER THE INPUT: true; the input reads as it did. -/
def castTwosSpec : ChangeSpec := { name := "castTwos", fn := fun _ => fun
  | [d1, d2] => { results := [.lit (.bool true)], args := [d1, d2] }
  | _ => none }
def castTwosRow : OpenClaim := { program := "ytnhonhdomgmhgaa", sum := "51db8a2c4057705d671cebd7c84426e18a72fbdb4f216b0e613c0b0942a4d06f", func := "greenhouse/greenhouselaw06.CastTwos", spec := "castTwos", apart := false }
def CastTwosSaid : Prop := castTwosRow.holds Try.pinned (OpenSpec.ofChange castTwosSpec)

/-- ITS FALSE NEIGHBOUR: 'it returns false'. Refute it at one input. -/
def castTwosWrong : ChangeSpec := { name := "castTwos", fn := fun _ => fun
  | [d1, d2] => { results := [.lit (.bool false)], args := [d1, d2] }
  | _ => none }
def CastTwosWrongFalsely : Prop := castTwosRow.holds Try.pinned (OpenSpec.ofChange castTwosWrong)

/-- 'greenhouselaw01.NumWholes': WHATEVER THE INPUT: true; the input reads as it did. -/
def numWholesSpec : ChangeSpec := { name := "numWholes", fn := fun _ => fun
  | [d1, d2, d3] => { results := [.lit (.bool true)], args := [d1, d2, d3] }
  | _ => none }
def numWholesRow : OpenClaim := { program := "ytnhonhdomgmhgaa", sum := "51db8a2c4057705d671cebd7c84426e18a72fbdb4f216b0e613c0b0942a4d06f", func := "greenhouse/greenhouselaw01.NumWholes", spec := "numWholes", named := ["math/bits.divideError", "math/bits.overflowError"], apart := false }
def NumWholesSaid : Prop := numWholesRow.holds Try.pinned (OpenSpec.ofChange numWholesSpec)

/-- ITS FALSE NEIGHBOUR: 'it returns false'. Refute it at one input. -/
def numWholesWrong : ChangeSpec := { name := "numWholes", fn := fun _ => fun
  | [d1, d2, d3] => { results := [.lit (.bool false)], args := [d1, d2, d3] }
  | _ => none }
def NumWholesWrongFalsely : Prop := numWholesRow.holds Try.pinned (OpenSpec.ofChange numWholesWrong)

/-- 'greenhouselaw01.NumSplits': WHATEVER THE INPUT: true; the input reads as it did. -/
def numSplitsSpec : ChangeSpec := { name := "numSplits", fn := fun _ => fun
  | [d1, d2] => { results := [.lit (.bool true)], args := [d1, d2] }
  | _ => none }
def numSplitsRow : OpenClaim := { program := "ytnhonhdomgmhgaa", sum := "51db8a2c4057705d671cebd7c84426e18a72fbdb4f216b0e613c0b0942a4d06f", func := "greenhouse/greenhouselaw01.NumSplits", spec := "numSplits", named := ["math/bits.divideError", "math/bits.overflowError"], apart := false }
def NumSplitsSaid : Prop := numSplitsRow.holds Try.pinned (OpenSpec.ofChange numSplitsSpec)

/-- ITS FALSE NEIGHBOUR: 'it returns false'. Refute it at one input. -/
def numSplitsWrong : ChangeSpec := { name := "numSplits", fn := fun _ => fun
  | [d1, d2] => { results := [.lit (.bool false)], args := [d1, d2] }
  | _ => none }
def NumSplitsWrongFalsely : Prop := numSplitsRow.holds Try.pinned (OpenSpec.ofChange numSplitsWrong)

/-- 'greenhouselaw01.NumClamps': WHATEVER THE INPUT: true; the input reads as it did. -/
def numClampsSpec : ChangeSpec := { name := "numClamps", fn := fun _ => fun
  | [d1, d2, d3] => { results := [.lit (.bool true)], args := [d1, d2, d3] }
  | _ => none }
def numClampsRow : OpenClaim := { program := "ytnhonhdomgmhgaa", sum := "51db8a2c4057705d671cebd7c84426e18a72fbdb4f216b0e613c0b0942a4d06f", func := "greenhouse/greenhouselaw01.NumClamps", spec := "numClamps", named := ["math/bits.divideError", "math/bits.overflowError"], apart := false }
def NumClampsSaid : Prop := numClampsRow.holds Try.pinned (OpenSpec.ofChange numClampsSpec)

/-- ITS FALSE NEIGHBOUR: 'it returns false'. Refute it at one input. -/
def numClampsWrong : ChangeSpec := { name := "numClamps", fn := fun _ => fun
  | [d1, d2, d3] => { results := [.lit (.bool false)], args := [d1, d2, d3] }
  | _ => none }
def NumClampsWrongFalsely : Prop := numClampsRow.holds Try.pinned (OpenSpec.ofChange numClampsWrong)

/-- 'greenhouselaw01.NumParts': WHATEVER THE INPUT: true; the input reads as it did. -/
def numPartsSpec : ChangeSpec := { name := "numParts", fn := fun _ => fun
  | [d1, d2, d3] => { results := [.lit (.bool true)], args := [d1, d2, d3] }
  | _ => none }
def numPartsRow : OpenClaim := { program := "ytnhonhdomgmhgaa", sum := "51db8a2c4057705d671cebd7c84426e18a72fbdb4f216b0e613c0b0942a4d06f", func := "greenhouse/greenhouselaw01.NumParts", spec := "numParts", inPlace := ["math/bits.Sub64"], named := ["math/bits.divideError", "math/bits.overflowError"], apart := false }
def NumPartsSaid : Prop := numPartsRow.holds Try.pinned (OpenSpec.ofChange numPartsSpec)

/-- ITS FALSE NEIGHBOUR: 'it returns false'. Refute it at one input. -/
def numPartsWrong : ChangeSpec := { name := "numParts", fn := fun _ => fun
  | [d1, d2, d3] => { results := [.lit (.bool false)], args := [d1, d2, d3] }
  | _ => none }
def NumPartsWrongFalsely : Prop := numPartsRow.holds Try.pinned (OpenSpec.ofChange numPartsWrong)

/-- 'greenhouselaw01.NumTurns': WHATEVER THE INPUT: true; the input reads as it did. -/
def numTurnsSpec : ChangeSpec := { name := "numTurns", fn := fun _ => fun
  | [d1, d2, d3] => { results := [.lit (.bool true)], args := [d1, d2, d3] }
  | _ => none }
def numTurnsRow : OpenClaim := { program := "ytnhonhdomgmhgaa", sum := "51db8a2c4057705d671cebd7c84426e18a72fbdb4f216b0e613c0b0942a4d06f", func := "greenhouse/greenhouselaw01.NumTurns", spec := "numTurns", named := ["math/bits.divideError", "math/bits.overflowError"], apart := false }
def NumTurnsSaid : Prop := numTurnsRow.holds Try.pinned (OpenSpec.ofChange numTurnsSpec)

/-- ITS FALSE NEIGHBOUR: 'it returns false'. Refute it at one input. -/
def numTurnsWrong : ChangeSpec := { name := "numTurns", fn := fun _ => fun
  | [d1, d2, d3] => { results := [.lit (.bool false)], args := [d1, d2, d3] }
  | _ => none }
def NumTurnsWrongFalsely : Prop := numTurnsRow.holds Try.pinned (OpenSpec.ofChange numTurnsWrong)

/-- 'greenhouselaw01.NumBacks': WHATEVER THE INPUT: true; the input reads as it did. -/
def numBacksSpec : ChangeSpec := { name := "numBacks", fn := fun _ => fun
  | [d1, d2] => { results := [.lit (.bool true)], args := [d1, d2] }
  | _ => none }
def numBacksRow : OpenClaim := { program := "ytnhonhdomgmhgaa", sum := "51db8a2c4057705d671cebd7c84426e18a72fbdb4f216b0e613c0b0942a4d06f", func := "greenhouse/greenhouselaw01.NumBacks", spec := "numBacks", named := ["math/bits.divideError", "math/bits.overflowError"], apart := false }
def NumBacksSaid : Prop := numBacksRow.holds Try.pinned (OpenSpec.ofChange numBacksSpec)

/-- ITS FALSE NEIGHBOUR: 'it returns false'. Refute it at one input. -/
def numBacksWrong : ChangeSpec := { name := "numBacks", fn := fun _ => fun
  | [d1, d2] => { results := [.lit (.bool false)], args := [d1, d2] }
  | _ => none }
def NumBacksWrongFalsely : Prop := numBacksRow.holds Try.pinned (OpenSpec.ofChange numBacksWrong)

/-- 'greenhouselaw01.NumSums': WHATEVER THE INPUT: true; the input reads as it did. -/
def numSumsSpec : ChangeSpec := { name := "numSums", fn := fun _ => fun
  | [d1, d2] => { results := [.lit (.bool true)], args := [d1, d2] }
  | _ => none }
def numSumsRow : OpenClaim := { program := "ytnhonhdomgmhgaa", sum := "51db8a2c4057705d671cebd7c84426e18a72fbdb4f216b0e613c0b0942a4d06f", func := "greenhouse/greenhouselaw01.NumSums", spec := "numSums", inPlace := ["math/bits.Add64"], named := ["math/bits.divideError", "math/bits.overflowError"], apart := false }
def NumSumsSaid : Prop := numSumsRow.holds Try.pinned (OpenSpec.ofChange numSumsSpec)

/-- ITS FALSE NEIGHBOUR: 'it returns false'. Refute it at one input. -/
def numSumsWrong : ChangeSpec := { name := "numSums", fn := fun _ => fun
  | [d1, d2] => { results := [.lit (.bool false)], args := [d1, d2] }
  | _ => none }
def NumSumsWrongFalsely : Prop := numSumsRow.holds Try.pinned (OpenSpec.ofChange numSumsWrong)

/- THE SECOND FORM. 'bulk': how many values and letters a reading holds, each counted each time it is reached (what is shared counts as often as it is met; a slice's spare places count too). A statement '..UptoSaid' is the law's where the arguments, and the package variables that the reading takes, are together of bulk at most 1048576: NARROWER than '..Said'. Prove '..Said' where nothing that the law and all that it calls make is longer than what came in: it says more and counts as full. Else prove '..UptoSaid'. A law counts once. -/
mutual
def uptoBulk {H : Type} : DataW H → Nat
  | .lit (.string bytes) => bytes.length + 1
  | .lit _ => 1
  | .nil => 1
  | .ptr d => uptoBulk d + 1
  | .slice elems spare => uptoBulkAll elems + uptoBulkAll spare + 1
  | .agg parts => uptoBulkAll parts + 1
  | .iface _ d => uptoBulk d + 1
  | .map entries => uptoBulkEntries entries + 1
  | .held _ => 1
def uptoBulkAll {H : Type} : List (DataW H) → Nat
  | [] => 0
  | d :: r => uptoBulk d + uptoBulkAll r
def uptoBulkEntries {H : Type} : List (Lit × DataW H) → Nat
  | [] => 0
  | x :: r => uptoBulkEntry x + uptoBulkEntries r
def uptoBulkEntry {H : Type} : Lit × DataW H → Nat
  | (.string bytes, d) => bytes.length + uptoBulk d + 1
  | (_, d) => uptoBulk d + 1
 end
def uptoSmall : (H : Type) → List (DataW H) → Bool := fun _ ds => decide (uptoBulkAll ds ≤ 1048576)
def OpenSpec.upto (s : _root_.Go.ChangeSpec) : _root_.Go.OpenSpec := { _root_.Go.OpenSpec.ofChange s with cond := some uptoSmall }

/-- 'greenhouselaw06.CastNexts', WHERE WHAT IT READS IS OF BULK AT MOST 1048576: true; the input reads as it did. -/
def castNextsUptoRow : OpenClaim := { program := "ytnhonhdomgmhgaa", sum := "51db8a2c4057705d671cebd7c84426e18a72fbdb4f216b0e613c0b0942a4d06f", func := "greenhouse/greenhouselaw06.CastNexts", spec := "castNexts", apart := false, narrowed := true }
def CastNextsUptoSaid : Prop := castNextsUptoRow.holds Try.pinned (OpenSpec.upto castNextsSpec)

/-- 'greenhouselaw06.CastLines', WHERE WHAT IT READS IS OF BULK AT MOST 1048576: true; the input reads as it did. -/
def castLinesUptoRow : OpenClaim := { program := "ytnhonhdomgmhgaa", sum := "51db8a2c4057705d671cebd7c84426e18a72fbdb4f216b0e613c0b0942a4d06f", func := "greenhouse/greenhouselaw06.CastLines", spec := "castLines", apart := false, narrowed := true }
def CastLinesUptoSaid : Prop := castLinesUptoRow.holds Try.pinned (OpenSpec.upto castLinesSpec)

/-- 'greenhouselaw06.CastBounds', WHERE WHAT IT READS IS OF BULK AT MOST 1048576: true; the input reads as it did. -/
def castBoundsUptoRow : OpenClaim := { program := "ytnhonhdomgmhgaa", sum := "51db8a2c4057705d671cebd7c84426e18a72fbdb4f216b0e613c0b0942a4d06f", func := "greenhouse/greenhouselaw06.CastBounds", spec := "castBounds", apart := false, narrowed := true }
def CastBoundsUptoSaid : Prop := castBoundsUptoRow.holds Try.pinned (OpenSpec.upto castBoundsSpec)

/-- 'greenhouselaw06.CastShifts', WHERE WHAT IT READS IS OF BULK AT MOST 1048576: true; the input reads as it did. -/
def castShiftsUptoRow : OpenClaim := { program := "ytnhonhdomgmhgaa", sum := "51db8a2c4057705d671cebd7c84426e18a72fbdb4f216b0e613c0b0942a4d06f", func := "greenhouse/greenhouselaw06.CastShifts", spec := "castShifts", apart := false, narrowed := true }
def CastShiftsUptoSaid : Prop := castShiftsUptoRow.holds Try.pinned (OpenSpec.upto castShiftsSpec)

/-- 'greenhouselaw06.CastTwos', WHERE WHAT IT READS IS OF BULK AT MOST 1048576: true; the input reads as it did. -/
def castTwosUptoRow : OpenClaim := { program := "ytnhonhdomgmhgaa", sum := "51db8a2c4057705d671cebd7c84426e18a72fbdb4f216b0e613c0b0942a4d06f", func := "greenhouse/greenhouselaw06.CastTwos", spec := "castTwos", apart := false, narrowed := true }
def CastTwosUptoSaid : Prop := castTwosUptoRow.holds Try.pinned (OpenSpec.upto castTwosSpec)

/-- 'greenhouselaw01.NumWholes', WHERE WHAT IT READS IS OF BULK AT MOST 1048576: true; the input reads as it did. -/
def numWholesUptoRow : OpenClaim := { program := "ytnhonhdomgmhgaa", sum := "51db8a2c4057705d671cebd7c84426e18a72fbdb4f216b0e613c0b0942a4d06f", func := "greenhouse/greenhouselaw01.NumWholes", spec := "numWholes", named := ["math/bits.divideError", "math/bits.overflowError"], apart := false, narrowed := true }
def NumWholesUptoSaid : Prop := numWholesUptoRow.holds Try.pinned (OpenSpec.upto numWholesSpec)

/-- 'greenhouselaw01.NumSplits', WHERE WHAT IT READS IS OF BULK AT MOST 1048576: true; the input reads as it did. -/
def numSplitsUptoRow : OpenClaim := { program := "ytnhonhdomgmhgaa", sum := "51db8a2c4057705d671cebd7c84426e18a72fbdb4f216b0e613c0b0942a4d06f", func := "greenhouse/greenhouselaw01.NumSplits", spec := "numSplits", named := ["math/bits.divideError", "math/bits.overflowError"], apart := false, narrowed := true }
def NumSplitsUptoSaid : Prop := numSplitsUptoRow.holds Try.pinned (OpenSpec.upto numSplitsSpec)

/-- 'greenhouselaw01.NumClamps', WHERE WHAT IT READS IS OF BULK AT MOST 1048576: true; the input reads as it did. -/
def numClampsUptoRow : OpenClaim := { program := "ytnhonhdomgmhgaa", sum := "51db8a2c4057705d671cebd7c84426e18a72fbdb4f216b0e613c0b0942a4d06f", func := "greenhouse/greenhouselaw01.NumClamps", spec := "numClamps", named := ["math/bits.divideError", "math/bits.overflowError"], apart := false, narrowed := true }
def NumClampsUptoSaid : Prop := numClampsUptoRow.holds Try.pinned (OpenSpec.upto numClampsSpec)

/-- 'greenhouselaw01.NumParts', WHERE WHAT IT READS IS OF BULK AT MOST 1048576: true; the input reads as it did. -/
def numPartsUptoRow : OpenClaim := { program := "ytnhonhdomgmhgaa", sum := "51db8a2c4057705d671cebd7c84426e18a72fbdb4f216b0e613c0b0942a4d06f", func := "greenhouse/greenhouselaw01.NumParts", spec := "numParts", inPlace := ["math/bits.Sub64"], named := ["math/bits.divideError", "math/bits.overflowError"], apart := false, narrowed := true }
def NumPartsUptoSaid : Prop := numPartsUptoRow.holds Try.pinned (OpenSpec.upto numPartsSpec)

/-- 'greenhouselaw01.NumTurns', WHERE WHAT IT READS IS OF BULK AT MOST 1048576: true; the input reads as it did. -/
def numTurnsUptoRow : OpenClaim := { program := "ytnhonhdomgmhgaa", sum := "51db8a2c4057705d671cebd7c84426e18a72fbdb4f216b0e613c0b0942a4d06f", func := "greenhouse/greenhouselaw01.NumTurns", spec := "numTurns", named := ["math/bits.divideError", "math/bits.overflowError"], apart := false, narrowed := true }
def NumTurnsUptoSaid : Prop := numTurnsUptoRow.holds Try.pinned (OpenSpec.upto numTurnsSpec)

/-- 'greenhouselaw01.NumBacks', WHERE WHAT IT READS IS OF BULK AT MOST 1048576: true; the input reads as it did. -/
def numBacksUptoRow : OpenClaim := { program := "ytnhonhdomgmhgaa", sum := "51db8a2c4057705d671cebd7c84426e18a72fbdb4f216b0e613c0b0942a4d06f", func := "greenhouse/greenhouselaw01.NumBacks", spec := "numBacks", named := ["math/bits.divideError", "math/bits.overflowError"], apart := false, narrowed := true }
def NumBacksUptoSaid : Prop := numBacksUptoRow.holds Try.pinned (OpenSpec.upto numBacksSpec)

/-- 'greenhouselaw01.NumSums', WHERE WHAT IT READS IS OF BULK AT MOST 1048576: true; the input reads as it did. -/
def numSumsUptoRow : OpenClaim := { program := "ytnhonhdomgmhgaa", sum := "51db8a2c4057705d671cebd7c84426e18a72fbdb4f216b0e613c0b0942a4d06f", func := "greenhouse/greenhouselaw01.NumSums", spec := "numSums", inPlace := ["math/bits.Add64"], named := ["math/bits.divideError", "math/bits.overflowError"], apart := false, narrowed := true }
def NumSumsUptoSaid : Prop := numSumsUptoRow.holds Try.pinned (OpenSpec.upto numSumsSpec)

end Rows
end Go.Proofs.Ytnhonhdomgmhgaa
