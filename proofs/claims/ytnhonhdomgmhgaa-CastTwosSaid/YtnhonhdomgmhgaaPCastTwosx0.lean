-- PRINTED BY print.sh 35421559b90ae4d0a3588c463048766b98c2df88dd9212a6774a882060cdf62d: not written by this session
import Derived.Test.YtnhonhdomgmhgaaProg
import Derived.Below
import Derived.Deep.Draws
import Derived.Deep.AppendLies
import Derived.Maps.AppendAt
import Derived.OwnWalk
import Derived.Laws.BytesArg
import Derived.Laws.MakeOwn
import Derived.Laws.OwnMore
import Derived.Deep.OwnRows
import Derived.Tactics
import Derived.Lib.ConvBytes
import Derived.Laws.Slices
import Derived.WalkKit
import Derived.KernelRfl
import Derived.RowKit3
import Derived.Deep.LoopGhost
import Derived.Deep.QuietTactic
import Derived.BigQuiet
import Derived.WideLaws
import Derived.Deep.DeepCutAuto
import Derived.Deep.CutBlock
import Derived.Deep.RegionHeld3
import Derived.Laws.Rows
import Derived.Lib.AppendStr
import Derived.ArgAppend
import Derived.Laws.IdiomCopy
import Derived.OrdersHeld
import Derived.Laws.BitsLemmas
import Derived.RowKit
import Derived.Test.YtnhonhdomgmhgaaWWords
import Derived.Test.YtnhonhdomgmhgaaWLast
import Derived.Test.YtnhonhdomgmhgaaWTab
import Derived.Test.YtnhonhdomgmhgaaWFour
import Derived.Test.YtnhonhdomgmhgaaWQPut
import Derived.Test.YtnhonhdomgmhgaaWApart
import Derived.Test.YtnhonhdomgmhgaaWArr
import Derived.Test.YtnhonhdomgmhgaaWZeros
import Derived.Test.YtnhonhdomgmhgaaWFoot
import Derived.Test.YtnhonhdomgmhgaaWKept
import Derived.Test.YtnhonhdomgmhgaaWShare
import Derived.Test.YtnhonhdomgmhgaaWN
import Derived.Test.YtnhonhdomgmhgaaWFootNe
import Derived.Test.YtnhonhdomgmhgaaWAt
import Derived.Test.YtnhonhdomgmhgaaWEqStruct
import Derived.Test.YtnhonhdomgmhgaaWRepsOne
import Derived.Test.YtnhonhdomgmhgaaWInv
import Derived.Test.YtnhonhdomgmhgaaWInvWords
import Derived.Test.YtnhonhdomgmhgaaWGuard
import Derived.Test.YtnhonhdomgmhgaaWNEv
import Derived.Test.YtnhonhdomgmhgaaWMore
namespace Go.Proofs.Ytnhonhdomgmhgaa.PCastTwos
open Go.RowKit Go.Proofs.YtnhonhdomgmhgaaW.PrintWords Go.Proofs.YtnhonhdomgmhgaaW.PrintLast Go.Proofs.YtnhonhdomgmhgaaW.PrintMore
attribute [local go_sem] max2_int min2_int max_two min_two max_three min_three max_four min_four   -- for this text's walks alone
set_option linter.unusedVariables false
set_option linter.unusedSimpArgs false



def errW : Option Int → Value
  | none => .nilIface
  | some c => .iface 0 (.int .i64 c)
theorem errW_none : errW none = .nilIface := rfl
theorem errW_some (c : Int) : errW (some c) = .iface 0 (.int .i64 c) := rfl

theorem info2 : (Try.prog.info? 2).map (fun i => (i.zero, i.size, i.bytes)) = some (some (.int .i64 0), 1, 8) := by kernel_rfl
-- the values' own types

end Go.Proofs.Ytnhonhdomgmhgaa.PCastTwos
