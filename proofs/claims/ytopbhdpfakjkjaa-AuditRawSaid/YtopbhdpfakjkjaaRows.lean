/-
  No cell of these rows narrows 'for every input' (looked for: loops, veiled, ifaces, maps, wideKeys, modest, calm, conditions, laid).
  DERIVED. THE GIVEN ROWS OF THIS SEAT. 7 by the template 'for every input the law returns true; each argument reads behind the call as it read before'; 0 by the template 'total and deterministic' (their statements: YtopbhdpfakjkjaaTotals.lean).
  GIVEN WITH THE SEED: the statements are not yours to turn. If you find one false, say at which input.
  Laid BY PROGRAM, IN A SANDBOX (cutbox-rows.mjs): the forced cells as the released guide's own fill.sh prints them over the translation bcec9548aa9d2b4e… (all of the seat's roots in one cut). By AI agents, Wed Nov 11 2026. No macro, syntax, notation, axiom, sorry.
-/
import Derived.Test.YtopbhdpfakjkjaaChecked
import GoSem.Claim
import GoSem.ClaimJoined
import GoSem.ClaimMapViews
import Derived.JoinedTies
import Derived.KernelRfl
namespace Go.Proofs.Ytopbhdpfakjkjaa
/- THE CELL 'sum', in the pinned program and in every row, IS THE sha256 OF THE DUMP (.gsa) THAT YtopbhdpfakjkjaaProg.lean LOADS. Nothing in Lean hashes anything: it is a label: what it is worth is what the hold of that sum in a sandbox is worth. -/
noncomputable def Try.pinned : Pinned := { name := "ytopbhdpfakjkjaa", sum := "bcec9548aa9d2b4e9e3cefd4d555adca41f29735c1a02d89537e6fcd8fdb962f", checked := Try.checked }
namespace Rows
def none {H : Type} : Left H := { results := [], args := [] }

/-- 'greenhouselaw07.PolicyWindows': WHATEVER THE INPUT: true; the input reads as it did. -/
def policyWindowsSpec : ChangeSpec := { name := "policyWindows", fn := fun _ => fun
  | [d] => { results := [.lit (.bool true)], args := [d] }
  | _ => none }
def policyWindowsRow : OpenClaim := { program := "ytopbhdpfakjkjaa", sum := "bcec9548aa9d2b4e9e3cefd4d555adca41f29735c1a02d89537e6fcd8fdb962f", func := "greenhouse/greenhouselaw07.PolicyWindows", spec := "policyWindows", named := ["math/bits.divideError", "math/bits.overflowError"], apart := false }
def PolicyWindowsSaid : Prop := policyWindowsRow.holds Try.pinned (OpenSpec.ofChange policyWindowsSpec)

/-- ITS FALSE NEIGHBOUR: 'it returns false'. Refute it at one input. -/
def policyWindowsWrong : ChangeSpec := { name := "policyWindows", fn := fun _ => fun
  | [d] => { results := [.lit (.bool false)], args := [d] }
  | _ => none }
def PolicyWindowsWrongFalsely : Prop := policyWindowsRow.holds Try.pinned (OpenSpec.ofChange policyWindowsWrong)

/-- 'greenhouselaw07.PolicySteady': WHATEVER THE INPUT: true; the input reads as it did. -/
def policySteadySpec : ChangeSpec := { name := "policySteady", fn := fun _ => fun
  | [d1, d2] => { results := [.lit (.bool true)], args := [d1, d2] }
  | _ => none }
def policySteadyRow : OpenClaim := { program := "ytopbhdpfakjkjaa", sum := "bcec9548aa9d2b4e9e3cefd4d555adca41f29735c1a02d89537e6fcd8fdb962f", func := "greenhouse/greenhouselaw07.PolicySteady", spec := "policySteady", named := ["math/bits.divideError", "math/bits.overflowError"], apart := false }
def PolicySteadySaid : Prop := policySteadyRow.holds Try.pinned (OpenSpec.ofChange policySteadySpec)

/-- ITS FALSE NEIGHBOUR: 'it returns false'. Refute it at one input. -/
def policySteadyWrong : ChangeSpec := { name := "policySteady", fn := fun _ => fun
  | [d1, d2] => { results := [.lit (.bool false)], args := [d1, d2] }
  | _ => none }
def PolicySteadyWrongFalsely : Prop := policySteadyRow.holds Try.pinned (OpenSpec.ofChange policySteadyWrong)

/-- 'greenhouselaw07.PolicyHolds': WHATEVER THE INPUT: true; the input reads as it did. -/
def policyHoldsSpec : ChangeSpec := { name := "policyHolds", fn := fun _ => fun
  | [d] => { results := [.lit (.bool true)], args := [d] }
  | _ => none }
def policyHoldsRow : OpenClaim := { program := "ytopbhdpfakjkjaa", sum := "bcec9548aa9d2b4e9e3cefd4d555adca41f29735c1a02d89537e6fcd8fdb962f", func := "greenhouse/greenhouselaw07.PolicyHolds", spec := "policyHolds", named := ["math/bits.divideError", "math/bits.overflowError"], apart := false }
def PolicyHoldsSaid : Prop := policyHoldsRow.holds Try.pinned (OpenSpec.ofChange policyHoldsSpec)

/-- ITS FALSE NEIGHBOUR: 'it returns false'. Refute it at one input. -/
def policyHoldsWrong : ChangeSpec := { name := "policyHolds", fn := fun _ => fun
  | [d] => { results := [.lit (.bool false)], args := [d] }
  | _ => none }
def PolicyHoldsWrongFalsely : Prop := policyHoldsRow.holds Try.pinned (OpenSpec.ofChange policyHoldsWrong)

/-- 'greenhouselaw07.PolicyFar': WHATEVER THE INPUT: true; the input reads as it did. -/
def policyFarSpec : ChangeSpec := { name := "policyFar", fn := fun _ => fun
  | [d1, d2] => { results := [.lit (.bool true)], args := [d1, d2] }
  | _ => none }
def policyFarRow : OpenClaim := { program := "ytopbhdpfakjkjaa", sum := "bcec9548aa9d2b4e9e3cefd4d555adca41f29735c1a02d89537e6fcd8fdb962f", func := "greenhouse/greenhouselaw07.PolicyFar", spec := "policyFar", named := ["math/bits.divideError", "math/bits.overflowError"], apart := false }
def PolicyFarSaid : Prop := policyFarRow.holds Try.pinned (OpenSpec.ofChange policyFarSpec)

/-- ITS FALSE NEIGHBOUR: 'it returns false'. Refute it at one input. -/
def policyFarWrong : ChangeSpec := { name := "policyFar", fn := fun _ => fun
  | [d1, d2] => { results := [.lit (.bool false)], args := [d1, d2] }
  | _ => none }
def PolicyFarWrongFalsely : Prop := policyFarRow.holds Try.pinned (OpenSpec.ofChange policyFarWrong)

/-- 'greenhouselaw07.PolicyTurns': WHATEVER THE INPUT: true; the input reads as it did. -/
def policyTurnsSpec : ChangeSpec := { name := "policyTurns", fn := fun _ => fun
  | [d1, d2] => { results := [.lit (.bool true)], args := [d1, d2] }
  | _ => none }
def policyTurnsRow : OpenClaim := { program := "ytopbhdpfakjkjaa", sum := "bcec9548aa9d2b4e9e3cefd4d555adca41f29735c1a02d89537e6fcd8fdb962f", func := "greenhouse/greenhouselaw07.PolicyTurns", spec := "policyTurns", named := ["math/bits.divideError", "math/bits.overflowError"], apart := false }
def PolicyTurnsSaid : Prop := policyTurnsRow.holds Try.pinned (OpenSpec.ofChange policyTurnsSpec)

/-- ITS FALSE NEIGHBOUR: 'it returns false'. Refute it at one input. -/
def policyTurnsWrong : ChangeSpec := { name := "policyTurns", fn := fun _ => fun
  | [d1, d2] => { results := [.lit (.bool false)], args := [d1, d2] }
  | _ => none }
def PolicyTurnsWrongFalsely : Prop := policyTurnsRow.holds Try.pinned (OpenSpec.ofChange policyTurnsWrong)

/-- 'greenhouselaw19.AuditRaw': WHATEVER THE INPUT: true; the input reads as it did. -/
def auditRawSpec : ChangeSpec := { name := "auditRaw", fn := fun _ => fun
  | [d] => { results := [.lit (.bool true)], args := [d] }
  | _ => none }
def auditRawRow : OpenClaim := { program := "ytopbhdpfakjkjaa", sum := "bcec9548aa9d2b4e9e3cefd4d555adca41f29735c1a02d89537e6fcd8fdb962f", func := "greenhouse/greenhouselaw19.AuditRaw", spec := "auditRaw", apart := false }
def AuditRawSaid : Prop := auditRawRow.holds Try.pinned (OpenSpec.ofChange auditRawSpec)

/-- ITS FALSE NEIGHBOUR: 'it returns false'. Refute it at one input. -/
def auditRawWrong : ChangeSpec := { name := "auditRaw", fn := fun _ => fun
  | [d] => { results := [.lit (.bool false)], args := [d] }
  | _ => none }
def AuditRawWrongFalsely : Prop := auditRawRow.holds Try.pinned (OpenSpec.ofChange auditRawWrong)

/-- 'greenhouselaw19.AuditMemory': WHATEVER THE INPUT: true; the input reads as it did. -/
def auditMemorySpec : ChangeSpec := { name := "auditMemory", fn := fun _ => fun
  | [d1, d2, d3] => { results := [.lit (.bool true)], args := [d1, d2, d3] }
  | _ => none }
def auditMemoryRow : OpenClaim := { program := "ytopbhdpfakjkjaa", sum := "bcec9548aa9d2b4e9e3cefd4d555adca41f29735c1a02d89537e6fcd8fdb962f", func := "greenhouse/greenhouselaw19.AuditMemory", spec := "auditMemory", apart := false }
def AuditMemorySaid : Prop := auditMemoryRow.holds Try.pinned (OpenSpec.ofChange auditMemorySpec)

/-- ITS FALSE NEIGHBOUR: 'it returns false'. Refute it at one input. -/
def auditMemoryWrong : ChangeSpec := { name := "auditMemory", fn := fun _ => fun
  | [d1, d2, d3] => { results := [.lit (.bool false)], args := [d1, d2, d3] }
  | _ => none }
def AuditMemoryWrongFalsely : Prop := auditMemoryRow.holds Try.pinned (OpenSpec.ofChange auditMemoryWrong)

/- THE SECOND FORM. 'bulk': how many values and letters a reading holds, each counted each time it is reached (what is shared counts as often as it is met; a slice's spare places count too). A statement '..UptoSaid' is the law's where the arguments, and the package variables that the reading takes, are together of bulk at most 1048576: NARROWER than '..Said'. Prove '..Said' where nothing that the law and all that it calls make is longer than what came in: it says more and counts as full. Else prove '..UptoSaid'. A law counts once. -/
mutual
def uptoBulk {H : Type} : DataW H → Nat
  | .lit (.string bytes) => bytes.length + 1
  | .lit _ => 1
  | .nil => 1
  | .ptr d => uptoBulk d + 1
  | .slice elems spare => uptoBulkAll elems + uptoBulkAll spare + 1
  | .agg parts => uptoBulkAll parts + 1
  | .iface _ d => uptoBulk d + 1
  | .map entries => uptoBulkEntries entries + 1
  | .held _ => 1
def uptoBulkAll {H : Type} : List (DataW H) → Nat
  | [] => 0
  | d :: r => uptoBulk d + uptoBulkAll r
def uptoBulkEntries {H : Type} : List (Lit × DataW H) → Nat
  | [] => 0
  | x :: r => uptoBulkEntry x + uptoBulkEntries r
def uptoBulkEntry {H : Type} : Lit × DataW H → Nat
  | (.string bytes, d) => bytes.length + uptoBulk d + 1
  | (_, d) => uptoBulk d + 1
 end
def uptoSmall : (H : Type) → List (DataW H) → Bool := fun _ ds => decide (uptoBulkAll ds ≤ 1048576)
def OpenSpec.upto (s : _root_.Go.ChangeSpec) : _root_.Go.OpenSpec := { _root_.Go.OpenSpec.ofChange s with cond := some uptoSmall }

/-- 'greenhouselaw07.PolicyWindows', WHERE WHAT IT READS IS OF BULK AT MOST 1048576: true; the input reads as it did. -/
def policyWindowsUptoRow : OpenClaim := { program := "ytopbhdpfakjkjaa", sum := "bcec9548aa9d2b4e9e3cefd4d555adca41f29735c1a02d89537e6fcd8fdb962f", func := "greenhouse/greenhouselaw07.PolicyWindows", spec := "policyWindows", named := ["math/bits.divideError", "math/bits.overflowError"], apart := false, narrowed := true }
def PolicyWindowsUptoSaid : Prop := policyWindowsUptoRow.holds Try.pinned (OpenSpec.upto policyWindowsSpec)

/-- 'greenhouselaw07.PolicySteady', WHERE WHAT IT READS IS OF BULK AT MOST 1048576: true; the input reads as it did. -/
def policySteadyUptoRow : OpenClaim := { program := "ytopbhdpfakjkjaa", sum := "bcec9548aa9d2b4e9e3cefd4d555adca41f29735c1a02d89537e6fcd8fdb962f", func := "greenhouse/greenhouselaw07.PolicySteady", spec := "policySteady", named := ["math/bits.divideError", "math/bits.overflowError"], apart := false, narrowed := true }
def PolicySteadyUptoSaid : Prop := policySteadyUptoRow.holds Try.pinned (OpenSpec.upto policySteadySpec)

/-- 'greenhouselaw07.PolicyHolds', WHERE WHAT IT READS IS OF BULK AT MOST 1048576: true; the input reads as it did. -/
def policyHoldsUptoRow : OpenClaim := { program := "ytopbhdpfakjkjaa", sum := "bcec9548aa9d2b4e9e3cefd4d555adca41f29735c1a02d89537e6fcd8fdb962f", func := "greenhouse/greenhouselaw07.PolicyHolds", spec := "policyHolds", named := ["math/bits.divideError", "math/bits.overflowError"], apart := false, narrowed := true }
def PolicyHoldsUptoSaid : Prop := policyHoldsUptoRow.holds Try.pinned (OpenSpec.upto policyHoldsSpec)

/-- 'greenhouselaw07.PolicyFar', WHERE WHAT IT READS IS OF BULK AT MOST 1048576: true; the input reads as it did. -/
def policyFarUptoRow : OpenClaim := { program := "ytopbhdpfakjkjaa", sum := "bcec9548aa9d2b4e9e3cefd4d555adca41f29735c1a02d89537e6fcd8fdb962f", func := "greenhouse/greenhouselaw07.PolicyFar", spec := "policyFar", named := ["math/bits.divideError", "math/bits.overflowError"], apart := false, narrowed := true }
def PolicyFarUptoSaid : Prop := policyFarUptoRow.holds Try.pinned (OpenSpec.upto policyFarSpec)

/-- 'greenhouselaw07.PolicyTurns', WHERE WHAT IT READS IS OF BULK AT MOST 1048576: true; the input reads as it did. -/
def policyTurnsUptoRow : OpenClaim := { program := "ytopbhdpfakjkjaa", sum := "bcec9548aa9d2b4e9e3cefd4d555adca41f29735c1a02d89537e6fcd8fdb962f", func := "greenhouse/greenhouselaw07.PolicyTurns", spec := "policyTurns", named := ["math/bits.divideError", "math/bits.overflowError"], apart := false, narrowed := true }
def PolicyTurnsUptoSaid : Prop := policyTurnsUptoRow.holds Try.pinned (OpenSpec.upto policyTurnsSpec)

/-- 'greenhouselaw19.AuditRaw', WHERE WHAT IT READS IS OF BULK AT MOST 1048576: true; the input reads as it did. -/
def auditRawUptoRow : OpenClaim := { program := "ytopbhdpfakjkjaa", sum := "bcec9548aa9d2b4e9e3cefd4d555adca41f29735c1a02d89537e6fcd8fdb962f", func := "greenhouse/greenhouselaw19.AuditRaw", spec := "auditRaw", apart := false, narrowed := true }
def AuditRawUptoSaid : Prop := auditRawUptoRow.holds Try.pinned (OpenSpec.upto auditRawSpec)

/-- 'greenhouselaw19.AuditMemory', WHERE WHAT IT READS IS OF BULK AT MOST 1048576: true; the input reads as it did. -/
def auditMemoryUptoRow : OpenClaim := { program := "ytopbhdpfakjkjaa", sum := "bcec9548aa9d2b4e9e3cefd4d555adca41f29735c1a02d89537e6fcd8fdb962f", func := "greenhouse/greenhouselaw19.AuditMemory", spec := "auditMemory", apart := false, narrowed := true }
def AuditMemoryUptoSaid : Prop := auditMemoryUptoRow.holds Try.pinned (OpenSpec.upto auditMemorySpec)

end Rows
end Go.Proofs.Ytopbhdpfakjkjaa
