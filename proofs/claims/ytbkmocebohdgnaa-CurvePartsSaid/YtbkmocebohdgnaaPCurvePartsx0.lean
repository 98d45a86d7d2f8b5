-- Written by a program of this session (a driver over the kit's print), with hand-proved parts.
import Derived.Test.YtbkmocebohdgnaaProg
import Derived.Below
import Derived.Deep.Draws
import Derived.Deep.AppendLies
import Derived.Maps.AppendAt
import Derived.OwnWalk
import Derived.Laws.BytesArg
import Derived.Laws.MakeOwn
import Derived.Laws.OwnMore
import Derived.Deep.OwnRows
import Derived.Tactics
import Derived.Lib.ConvBytes
import Derived.Laws.Slices
import Derived.WalkKit
import Derived.KernelRfl
import Derived.RowKit3
import Derived.Deep.LoopGhost
import Derived.Deep.QuietTactic
import Derived.BigQuiet
import Derived.WideLaws
import Derived.Deep.DeepCutAuto
import Derived.Deep.CutBlock
import Derived.Deep.RegionHeld3
import Derived.Laws.Rows
import Derived.Lib.AppendStr
import Derived.ArgAppend
import Derived.Laws.IdiomCopy
import Derived.OrdersHeld
import Derived.Laws.BitsLemmas
import Derived.RowKit
import Derived.Great.BuildSlice
import Derived.Lib.Strings
import Derived.Lib.Slices
import Derived.Lib.Small
import Derived.Lib.Walk
import Derived.Lib.BitFns
import Derived.Test.YtbkmocebohdgnaaELen64
import Derived.Test.YtbkmocebohdgnaaEPlain
import Derived.Test.YtbkmocebohdgnaaEShift
import Derived.Test.YtbkmocebohdgnaaWWords
import Derived.Test.YtbkmocebohdgnaaWLast
import Derived.Test.YtbkmocebohdgnaaWTab
import Derived.Test.YtbkmocebohdgnaaWFour
import Derived.Test.YtbkmocebohdgnaaWQPut
import Derived.Test.YtbkmocebohdgnaaWApart
import Derived.Test.YtbkmocebohdgnaaWArr
import Derived.Test.YtbkmocebohdgnaaWZeros
import Derived.Test.YtbkmocebohdgnaaWFoot
import Derived.Test.YtbkmocebohdgnaaWKept
import Derived.Test.YtbkmocebohdgnaaWShare
import Derived.Test.YtbkmocebohdgnaaWN
import Derived.Test.YtbkmocebohdgnaaWFootNe
import Derived.Test.YtbkmocebohdgnaaWAt
import Derived.Test.YtbkmocebohdgnaaWEqStruct
import Derived.Test.YtbkmocebohdgnaaWRepsOne
import Derived.Test.YtbkmocebohdgnaaWInv
import Derived.Test.YtbkmocebohdgnaaWInvWords
import Derived.Test.YtbkmocebohdgnaaWGuard
import Derived.Test.YtbkmocebohdgnaaWNEv
import Derived.Test.YtbkmocebohdgnaaWMore
namespace Go.Proofs.Ytbkmocebohdgnaa.PCurveParts
open Go.RowKit Go.Proofs.YtbkmocebohdgnaaW.PrintWords Go.Proofs.YtbkmocebohdgnaaW.PrintLast Go.Proofs.YtbkmocebohdgnaaW.PrintMore
attribute [local go_sem] max2_int min2_int max_two min_two max_three min_three max_four min_four   -- for this text's walks alone
set_option linter.unusedVariables false
set_option linter.unusedSimpArgs false



def errW : Option Int → Value
  | none => .nilIface
  | some c => .iface 0 (.int .i64 c)
theorem errW_none : errW none = .nilIface := rfl
theorem errW_some (c : Int) : errW (some c) = .iface 0 (.int .i64 c) := rfl

theorem info21 : (Try.prog.info? 21).map (fun i => (i.zero, i.size, i.bytes)) = some (some (.int .i32 0), 1, 4) := by kernel_rfl
-- the values' own types

end Go.Proofs.Ytbkmocebohdgnaa.PCurveParts
