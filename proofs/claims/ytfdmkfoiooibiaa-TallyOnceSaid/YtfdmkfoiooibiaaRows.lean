/-
  No cell of these rows narrows 'for every input' (looked for: loops, veiled, ifaces, maps, wideKeys, modest, calm, conditions, laid).
  DERIVED. THE GIVEN ROWS OF THIS SEAT. 11 by the template 'for every input the law returns true; each argument reads behind the call as it read before'; 0 by the template 'total and deterministic' (their statements: YtfdmkfoiooibiaaTotals.lean).
  GIVEN WITH THE SEED: the statements are not yours to turn. If you find one false, say at which input.
  Laid BY PROGRAM, IN A SANDBOX (cutbox-rows.mjs): the forced cells as the released guide's own fill.sh prints them over the translation ad5a63c401fc6b99… (all of the seat's roots in one cut). By AI agents, Wed Nov 11 2026. No macro, syntax, notation, axiom, sorry.
-/
import Derived.Test.YtfdmkfoiooibiaaChecked
import GoSem.Claim
import GoSem.ClaimJoined
import GoSem.ClaimMapViews
import Derived.JoinedTies
import Derived.KernelRfl
namespace Go.Proofs.Ytfdmkfoiooibiaa
/- THE CELL 'sum', in the pinned program and in every row, IS THE sha256 OF THE DUMP (.gsa) THAT YtfdmkfoiooibiaaProg.lean LOADS. Nothing in Lean hashes anything: it is a label: what it is worth is what the hold of that sum in a sandbox is worth. -/
noncomputable def Try.pinned : Pinned := { name := "ytfdmkfoiooibiaa", sum := "ad5a63c401fc6b998770cdc66aade23131f8fd84f6339fad2f7d076e0a6d2f60", checked := Try.checked }
namespace Rows
def none {H : Type} : Left H := { results := [], args := [] }

/-- 'greenhouselaw15.TallySums': WHATEVER THE INPUT: true; the input reads as it did. -/
def tallySumsSpec : ChangeSpec := { name := "tallySums", fn := fun _ => fun
  | [d1, d2] => { results := [.lit (.bool true)], args := [d1, d2] }
  | _ => none }
def tallySumsRow : OpenClaim := { program := "ytfdmkfoiooibiaa", sum := "ad5a63c401fc6b998770cdc66aade23131f8fd84f6339fad2f7d076e0a6d2f60", func := "greenhouse/greenhouselaw15.TallySums", spec := "tallySums", inPlace := ["sync/atomic.LoadInt64", "sync/atomic.CompareAndSwapInt64"], apart := false }
def TallySumsSaid : Prop := tallySumsRow.holds Try.pinned (OpenSpec.ofChange tallySumsSpec)

/-- ITS FALSE NEIGHBOUR: 'it returns false'. Refute it at one input. -/
def tallySumsWrong : ChangeSpec := { name := "tallySums", fn := fun _ => fun
  | [d1, d2] => { results := [.lit (.bool false)], args := [d1, d2] }
  | _ => none }
def TallySumsWrongFalsely : Prop := tallySumsRow.holds Try.pinned (OpenSpec.ofChange tallySumsWrong)

/-- 'greenhouselaw15.TallyMosts': WHATEVER THE INPUT: true; the input reads as it did. -/
def tallyMostsSpec : ChangeSpec := { name := "tallyMosts", fn := fun _ => fun
  | [d] => { results := [.lit (.bool true)], args := [d] }
  | _ => none }
def tallyMostsRow : OpenClaim := { program := "ytfdmkfoiooibiaa", sum := "ad5a63c401fc6b998770cdc66aade23131f8fd84f6339fad2f7d076e0a6d2f60", func := "greenhouse/greenhouselaw15.TallyMosts", spec := "tallyMosts", inPlace := ["sync/atomic.LoadInt64", "sync/atomic.CompareAndSwapInt64"], apart := false }
def TallyMostsSaid : Prop := tallyMostsRow.holds Try.pinned (OpenSpec.ofChange tallyMostsSpec)

/-- ITS FALSE NEIGHBOUR: 'it returns false'. Refute it at one input. -/
def tallyMostsWrong : ChangeSpec := { name := "tallyMosts", fn := fun _ => fun
  | [d] => { results := [.lit (.bool false)], args := [d] }
  | _ => none }
def TallyMostsWrongFalsely : Prop := tallyMostsRow.holds Try.pinned (OpenSpec.ofChange tallyMostsWrong)

/-- 'greenhouselaw15.TallyActs': WHATEVER THE INPUT: true; the input reads as it did. -/
def tallyActsSpec : ChangeSpec := { name := "tallyActs", fn := fun _ => fun
  | [d] => { results := [.lit (.bool true)], args := [d] }
  | _ => none }
def tallyActsRow : OpenClaim := { program := "ytfdmkfoiooibiaa", sum := "ad5a63c401fc6b998770cdc66aade23131f8fd84f6339fad2f7d076e0a6d2f60", func := "greenhouse/greenhouselaw15.TallyActs", spec := "tallyActs", inPlace := ["sync/atomic.LoadInt64", "sync/atomic.CompareAndSwapInt64"], apart := false }
def TallyActsSaid : Prop := tallyActsRow.holds Try.pinned (OpenSpec.ofChange tallyActsSpec)

/-- ITS FALSE NEIGHBOUR: 'it returns false'. Refute it at one input. -/
def tallyActsWrong : ChangeSpec := { name := "tallyActs", fn := fun _ => fun
  | [d] => { results := [.lit (.bool false)], args := [d] }
  | _ => none }
def TallyActsWrongFalsely : Prop := tallyActsRow.holds Try.pinned (OpenSpec.ofChange tallyActsWrong)

/-- 'greenhouselaw04.HistoHalves': WHATEVER THE INPUT: true; the input reads as it did. -/
def histoHalvesSpec : ChangeSpec := { name := "histoHalves", fn := fun _ => fun
  | [d1, d2, d3, d4] => { results := [.lit (.bool true)], args := [d1, d2, d3, d4] }
  | _ => none }
def histoHalvesRow : OpenClaim := { program := "ytfdmkfoiooibiaa", sum := "ad5a63c401fc6b998770cdc66aade23131f8fd84f6339fad2f7d076e0a6d2f60", func := "greenhouse/greenhouselaw04.HistoHalves", spec := "histoHalves", apart := false }
def HistoHalvesSaid : Prop := histoHalvesRow.holds Try.pinned (OpenSpec.ofChange histoHalvesSpec)

/-- ITS FALSE NEIGHBOUR: 'it returns false'. Refute it at one input. -/
def histoHalvesWrong : ChangeSpec := { name := "histoHalves", fn := fun _ => fun
  | [d1, d2, d3, d4] => { results := [.lit (.bool false)], args := [d1, d2, d3, d4] }
  | _ => none }
def HistoHalvesWrongFalsely : Prop := histoHalvesRow.holds Try.pinned (OpenSpec.ofChange histoHalvesWrong)

/-- 'greenhouselaw04.HistoTurns': WHATEVER THE INPUT: true; the input reads as it did. -/
def histoTurnsSpec : ChangeSpec := { name := "histoTurns", fn := fun _ => fun
  | [d1, d2] => { results := [.lit (.bool true)], args := [d1, d2] }
  | _ => none }
def histoTurnsRow : OpenClaim := { program := "ytfdmkfoiooibiaa", sum := "ad5a63c401fc6b998770cdc66aade23131f8fd84f6339fad2f7d076e0a6d2f60", func := "greenhouse/greenhouselaw04.HistoTurns", spec := "histoTurns", apart := false }
def HistoTurnsSaid : Prop := histoTurnsRow.holds Try.pinned (OpenSpec.ofChange histoTurnsSpec)

/-- ITS FALSE NEIGHBOUR: 'it returns false'. Refute it at one input. -/
def histoTurnsWrong : ChangeSpec := { name := "histoTurns", fn := fun _ => fun
  | [d1, d2] => { results := [.lit (.bool false)], args := [d1, d2] }
  | _ => none }
def HistoTurnsWrongFalsely : Prop := histoTurnsRow.holds Try.pinned (OpenSpec.ofChange histoTurnsWrong)

/-- 'greenhouselaw04.HistoCuts': WHATEVER THE INPUT: true; the input reads as it did. -/
def histoCutsSpec : ChangeSpec := { name := "histoCuts", fn := fun _ => fun
  | [d1, d2, d3] => { results := [.lit (.bool true)], args := [d1, d2, d3] }
  | _ => none }
def histoCutsRow : OpenClaim := { program := "ytfdmkfoiooibiaa", sum := "ad5a63c401fc6b998770cdc66aade23131f8fd84f6339fad2f7d076e0a6d2f60", func := "greenhouse/greenhouselaw04.HistoCuts", spec := "histoCuts", apart := false }
def HistoCutsSaid : Prop := histoCutsRow.holds Try.pinned (OpenSpec.ofChange histoCutsSpec)

/-- ITS FALSE NEIGHBOUR: 'it returns false'. Refute it at one input. -/
def histoCutsWrong : ChangeSpec := { name := "histoCuts", fn := fun _ => fun
  | [d1, d2, d3] => { results := [.lit (.bool false)], args := [d1, d2, d3] }
  | _ => none }
def HistoCutsWrongFalsely : Prop := histoCutsRow.holds Try.pinned (OpenSpec.ofChange histoCutsWrong)

/-- 'greenhouselaw04.HistoSpreads': WHATEVER THE INPUT: true; the input reads as it did. -/
def histoSpreadsSpec : ChangeSpec := { name := "histoSpreads", fn := fun _ => fun
  | [d1, d2, d3] => { results := [.lit (.bool true)], args := [d1, d2, d3] }
  | _ => none }
def histoSpreadsRow : OpenClaim := { program := "ytfdmkfoiooibiaa", sum := "ad5a63c401fc6b998770cdc66aade23131f8fd84f6339fad2f7d076e0a6d2f60", func := "greenhouse/greenhouselaw04.HistoSpreads", spec := "histoSpreads", apart := false }
def HistoSpreadsSaid : Prop := histoSpreadsRow.holds Try.pinned (OpenSpec.ofChange histoSpreadsSpec)

/-- ITS FALSE NEIGHBOUR: 'it returns false'. Refute it at one input. -/
def histoSpreadsWrong : ChangeSpec := { name := "histoSpreads", fn := fun _ => fun
  | [d1, d2, d3] => { results := [.lit (.bool false)], args := [d1, d2, d3] }
  | _ => none }
def HistoSpreadsWrongFalsely : Prop := histoSpreadsRow.holds Try.pinned (OpenSpec.ofChange histoSpreadsWrong)

/-- 'greenhouselaw04.HistoOnes': WHATEVER THE INPUT: true; the input reads as it did. -/
def histoOnesSpec : ChangeSpec := { name := "histoOnes", fn := fun _ => fun
  | [d1, d2, d3] => { results := [.lit (.bool true)], args := [d1, d2, d3] }
  | _ => none }
def histoOnesRow : OpenClaim := { program := "ytfdmkfoiooibiaa", sum := "ad5a63c401fc6b998770cdc66aade23131f8fd84f6339fad2f7d076e0a6d2f60", func := "greenhouse/greenhouselaw04.HistoOnes", spec := "histoOnes", apart := false }
def HistoOnesSaid : Prop := histoOnesRow.holds Try.pinned (OpenSpec.ofChange histoOnesSpec)

/-- ITS FALSE NEIGHBOUR: 'it returns false'. Refute it at one input. -/
def histoOnesWrong : ChangeSpec := { name := "histoOnes", fn := fun _ => fun
  | [d1, d2, d3] => { results := [.lit (.bool false)], args := [d1, d2, d3] }
  | _ => none }
def HistoOnesWrongFalsely : Prop := histoOnesRow.holds Try.pinned (OpenSpec.ofChange histoOnesWrong)

/-- 'greenhouselaw04.HistoOvers': WHATEVER THE INPUT: true; the input reads as it did. -/
def histoOversSpec : ChangeSpec := { name := "histoOvers", fn := fun _ => fun
  | [d1, d2, d3] => { results := [.lit (.bool true)], args := [d1, d2, d3] }
  | _ => none }
def histoOversRow : OpenClaim := { program := "ytfdmkfoiooibiaa", sum := "ad5a63c401fc6b998770cdc66aade23131f8fd84f6339fad2f7d076e0a6d2f60", func := "greenhouse/greenhouselaw04.HistoOvers", spec := "histoOvers", apart := false }
def HistoOversSaid : Prop := histoOversRow.holds Try.pinned (OpenSpec.ofChange histoOversSpec)

/-- ITS FALSE NEIGHBOUR: 'it returns false'. Refute it at one input. -/
def histoOversWrong : ChangeSpec := { name := "histoOvers", fn := fun _ => fun
  | [d1, d2, d3] => { results := [.lit (.bool false)], args := [d1, d2, d3] }
  | _ => none }
def HistoOversWrongFalsely : Prop := histoOversRow.holds Try.pinned (OpenSpec.ofChange histoOversWrong)

/-- 'greenhouselaw04.HistoAdds': WHATEVER THE INPUT: true; the input reads as it did. -/
def histoAddsSpec : ChangeSpec := { name := "histoAdds", fn := fun _ => fun
  | [d1, d2, d3] => { results := [.lit (.bool true)], args := [d1, d2, d3] }
  | _ => none }
def histoAddsRow : OpenClaim := { program := "ytfdmkfoiooibiaa", sum := "ad5a63c401fc6b998770cdc66aade23131f8fd84f6339fad2f7d076e0a6d2f60", func := "greenhouse/greenhouselaw04.HistoAdds", spec := "histoAdds", apart := false }
def HistoAddsSaid : Prop := histoAddsRow.holds Try.pinned (OpenSpec.ofChange histoAddsSpec)

/-- ITS FALSE NEIGHBOUR: 'it returns false'. Refute it at one input. -/
def histoAddsWrong : ChangeSpec := { name := "histoAdds", fn := fun _ => fun
  | [d1, d2, d3] => { results := [.lit (.bool false)], args := [d1, d2, d3] }
  | _ => none }
def HistoAddsWrongFalsely : Prop := histoAddsRow.holds Try.pinned (OpenSpec.ofChange histoAddsWrong)

/-- 'greenhouselaw15.TallyOnce': WHATEVER THE INPUT: true; the input reads as it did. -/
def tallyOnceSpec : ChangeSpec := { name := "tallyOnce", fn := fun _ => fun
  | [d1, d2] => { results := [.lit (.bool true)], args := [d1, d2] }
  | _ => none }
def tallyOnceRow : OpenClaim := { program := "ytfdmkfoiooibiaa", sum := "ad5a63c401fc6b998770cdc66aade23131f8fd84f6339fad2f7d076e0a6d2f60", func := "greenhouse/greenhouselaw15.TallyOnce", spec := "tallyOnce", inPlace := ["sync/atomic.LoadInt64", "sync/atomic.CompareAndSwapInt64", "sync/atomic.LoadUint32", "sync/atomic.StoreUint32", "(*internal/sync.Mutex).Lock", "internal/race.Disable", "sync/atomic.CompareAndSwapInt32", "internal/race.Enable", "internal/race.Acquire", "(*internal/sync.Mutex).lockSlow", "internal/sync.runtime_canSpin", "internal/sync.runtime_doSpin", "internal/sync.throw", "internal/sync.runtime_nanotime", "internal/sync.runtime_SemacquireMutex", "sync/atomic.AddInt32", "(*internal/sync.Mutex).Unlock", "internal/race.ReleaseMerge", "(*internal/sync.Mutex).unlockSlow", "internal/sync.fatal", "internal/sync.runtime_Semrelease"], unfollowed := true, recurses := true, apart := false }
def TallyOnceSaid : Prop := tallyOnceRow.holds Try.pinned (OpenSpec.ofChange tallyOnceSpec)

/-- ITS FALSE NEIGHBOUR: 'it returns false'. Refute it at one input. -/
def tallyOnceWrong : ChangeSpec := { name := "tallyOnce", fn := fun _ => fun
  | [d1, d2] => { results := [.lit (.bool false)], args := [d1, d2] }
  | _ => none }
def TallyOnceWrongFalsely : Prop := tallyOnceRow.holds Try.pinned (OpenSpec.ofChange tallyOnceWrong)

/- THE SECOND FORM. 'bulk': how many values and letters a reading holds, each counted each time it is reached (what is shared counts as often as it is met; a slice's spare places count too). A statement '..UptoSaid' is the law's where the arguments, and the package variables that the reading takes, are together of bulk at most 1048576: NARROWER than '..Said'. Prove '..Said' where nothing that the law and all that it calls make is longer than what came in: it says more and counts as full. Else prove '..UptoSaid'. A law counts once. -/
mutual
def uptoBulk {H : Type} : DataW H → Nat
  | .lit (.string bytes) => bytes.length + 1
  | .lit _ => 1
  | .nil => 1
  | .ptr d => uptoBulk d + 1
  | .slice elems spare => uptoBulkAll elems + uptoBulkAll spare + 1
  | .agg parts => uptoBulkAll parts + 1
  | .iface _ d => uptoBulk d + 1
  | .map entries => uptoBulkEntries entries + 1
  | .held _ => 1
def uptoBulkAll {H : Type} : List (DataW H) → Nat
  | [] => 0
  | d :: r => uptoBulk d + uptoBulkAll r
def uptoBulkEntries {H : Type} : List (Lit × DataW H) → Nat
  | [] => 0
  | x :: r => uptoBulkEntry x + uptoBulkEntries r
def uptoBulkEntry {H : Type} : Lit × DataW H → Nat
  | (.string bytes, d) => bytes.length + uptoBulk d + 1
  | (_, d) => uptoBulk d + 1
 end
def uptoSmall : (H : Type) → List (DataW H) → Bool := fun _ ds => decide (uptoBulkAll ds ≤ 1048576)
def OpenSpec.upto (s : _root_.Go.ChangeSpec) : _root_.Go.OpenSpec := { _root_.Go.OpenSpec.ofChange s with cond := some uptoSmall }

/-- 'greenhouselaw15.TallySums', WHERE WHAT IT READS IS OF BULK AT MOST 1048576: true; the input reads as it did. -/
def tallySumsUptoRow : OpenClaim := { program := "ytfdmkfoiooibiaa", sum := "ad5a63c401fc6b998770cdc66aade23131f8fd84f6339fad2f7d076e0a6d2f60", func := "greenhouse/greenhouselaw15.TallySums", spec := "tallySums", inPlace := ["sync/atomic.LoadInt64", "sync/atomic.CompareAndSwapInt64"], apart := false, narrowed := true }
def TallySumsUptoSaid : Prop := tallySumsUptoRow.holds Try.pinned (OpenSpec.upto tallySumsSpec)

/-- 'greenhouselaw15.TallyMosts', WHERE WHAT IT READS IS OF BULK AT MOST 1048576: true; the input reads as it did. -/
def tallyMostsUptoRow : OpenClaim := { program := "ytfdmkfoiooibiaa", sum := "ad5a63c401fc6b998770cdc66aade23131f8fd84f6339fad2f7d076e0a6d2f60", func := "greenhouse/greenhouselaw15.TallyMosts", spec := "tallyMosts", inPlace := ["sync/atomic.LoadInt64", "sync/atomic.CompareAndSwapInt64"], apart := false, narrowed := true }
def TallyMostsUptoSaid : Prop := tallyMostsUptoRow.holds Try.pinned (OpenSpec.upto tallyMostsSpec)

/-- 'greenhouselaw15.TallyActs', WHERE WHAT IT READS IS OF BULK AT MOST 1048576: true; the input reads as it did. -/
def tallyActsUptoRow : OpenClaim := { program := "ytfdmkfoiooibiaa", sum := "ad5a63c401fc6b998770cdc66aade23131f8fd84f6339fad2f7d076e0a6d2f60", func := "greenhouse/greenhouselaw15.TallyActs", spec := "tallyActs", inPlace := ["sync/atomic.LoadInt64", "sync/atomic.CompareAndSwapInt64"], apart := false, narrowed := true }
def TallyActsUptoSaid : Prop := tallyActsUptoRow.holds Try.pinned (OpenSpec.upto tallyActsSpec)

/-- 'greenhouselaw04.HistoHalves', WHERE WHAT IT READS IS OF BULK AT MOST 1048576: true; the input reads as it did. -/
def histoHalvesUptoRow : OpenClaim := { program := "ytfdmkfoiooibiaa", sum := "ad5a63c401fc6b998770cdc66aade23131f8fd84f6339fad2f7d076e0a6d2f60", func := "greenhouse/greenhouselaw04.HistoHalves", spec := "histoHalves", apart := false, narrowed := true }
def HistoHalvesUptoSaid : Prop := histoHalvesUptoRow.holds Try.pinned (OpenSpec.upto histoHalvesSpec)

/-- 'greenhouselaw04.HistoTurns', WHERE WHAT IT READS IS OF BULK AT MOST 1048576: true; the input reads as it did. -/
def histoTurnsUptoRow : OpenClaim := { program := "ytfdmkfoiooibiaa", sum := "ad5a63c401fc6b998770cdc66aade23131f8fd84f6339fad2f7d076e0a6d2f60", func := "greenhouse/greenhouselaw04.HistoTurns", spec := "histoTurns", apart := false, narrowed := true }
def HistoTurnsUptoSaid : Prop := histoTurnsUptoRow.holds Try.pinned (OpenSpec.upto histoTurnsSpec)

/-- 'greenhouselaw04.HistoCuts', WHERE WHAT IT READS IS OF BULK AT MOST 1048576: true; the input reads as it did. -/
def histoCutsUptoRow : OpenClaim := { program := "ytfdmkfoiooibiaa", sum := "ad5a63c401fc6b998770cdc66aade23131f8fd84f6339fad2f7d076e0a6d2f60", func := "greenhouse/greenhouselaw04.HistoCuts", spec := "histoCuts", apart := false, narrowed := true }
def HistoCutsUptoSaid : Prop := histoCutsUptoRow.holds Try.pinned (OpenSpec.upto histoCutsSpec)

/-- 'greenhouselaw04.HistoSpreads', WHERE WHAT IT READS IS OF BULK AT MOST 1048576: true; the input reads as it did. -/
def histoSpreadsUptoRow : OpenClaim := { program := "ytfdmkfoiooibiaa", sum := "ad5a63c401fc6b998770cdc66aade23131f8fd84f6339fad2f7d076e0a6d2f60", func := "greenhouse/greenhouselaw04.HistoSpreads", spec := "histoSpreads", apart := false, narrowed := true }
def HistoSpreadsUptoSaid : Prop := histoSpreadsUptoRow.holds Try.pinned (OpenSpec.upto histoSpreadsSpec)

/-- 'greenhouselaw04.HistoOnes', WHERE WHAT IT READS IS OF BULK AT MOST 1048576: true; the input reads as it did. -/
def histoOnesUptoRow : OpenClaim := { program := "ytfdmkfoiooibiaa", sum := "ad5a63c401fc6b998770cdc66aade23131f8fd84f6339fad2f7d076e0a6d2f60", func := "greenhouse/greenhouselaw04.HistoOnes", spec := "histoOnes", apart := false, narrowed := true }
def HistoOnesUptoSaid : Prop := histoOnesUptoRow.holds Try.pinned (OpenSpec.upto histoOnesSpec)

/-- 'greenhouselaw04.HistoOvers', WHERE WHAT IT READS IS OF BULK AT MOST 1048576: true; the input reads as it did. -/
def histoOversUptoRow : OpenClaim := { program := "ytfdmkfoiooibiaa", sum := "ad5a63c401fc6b998770cdc66aade23131f8fd84f6339fad2f7d076e0a6d2f60", func := "greenhouse/greenhouselaw04.HistoOvers", spec := "histoOvers", apart := false, narrowed := true }
def HistoOversUptoSaid : Prop := histoOversUptoRow.holds Try.pinned (OpenSpec.upto histoOversSpec)

/-- 'greenhouselaw04.HistoAdds', WHERE WHAT IT READS IS OF BULK AT MOST 1048576: true; the input reads as it did. -/
def histoAddsUptoRow : OpenClaim := { program := "ytfdmkfoiooibiaa", sum := "ad5a63c401fc6b998770cdc66aade23131f8fd84f6339fad2f7d076e0a6d2f60", func := "greenhouse/greenhouselaw04.HistoAdds", spec := "histoAdds", apart := false, narrowed := true }
def HistoAddsUptoSaid : Prop := histoAddsUptoRow.holds Try.pinned (OpenSpec.upto histoAddsSpec)

/-- 'greenhouselaw15.TallyOnce', WHERE WHAT IT READS IS OF BULK AT MOST 1048576: true; the input reads as it did. -/
def tallyOnceUptoRow : OpenClaim := { program := "ytfdmkfoiooibiaa", sum := "ad5a63c401fc6b998770cdc66aade23131f8fd84f6339fad2f7d076e0a6d2f60", func := "greenhouse/greenhouselaw15.TallyOnce", spec := "tallyOnce", inPlace := ["sync/atomic.LoadInt64", "sync/atomic.CompareAndSwapInt64", "sync/atomic.LoadUint32", "sync/atomic.StoreUint32", "(*internal/sync.Mutex).Lock", "internal/race.Disable", "sync/atomic.CompareAndSwapInt32", "internal/race.Enable", "internal/race.Acquire", "(*internal/sync.Mutex).lockSlow", "internal/sync.runtime_canSpin", "internal/sync.runtime_doSpin", "internal/sync.throw", "internal/sync.runtime_nanotime", "internal/sync.runtime_SemacquireMutex", "sync/atomic.AddInt32", "(*internal/sync.Mutex).Unlock", "internal/race.ReleaseMerge", "(*internal/sync.Mutex).unlockSlow", "internal/sync.fatal", "internal/sync.runtime_Semrelease"], unfollowed := true, recurses := true, apart := false, narrowed := true }
def TallyOnceUptoSaid : Prop := tallyOnceUptoRow.holds Try.pinned (OpenSpec.upto tallyOnceSpec)

end Rows
end Go.Proofs.Ytfdmkfoiooibiaa
