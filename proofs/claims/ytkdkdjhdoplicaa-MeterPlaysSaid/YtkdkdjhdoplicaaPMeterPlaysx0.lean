-- PRINTED BY print.sh 35421559b90ae4d0a3588c463048766b98c2df88dd9212a6774a882060cdf62d: not written by this session
import Derived.Test.YtkdkdjhdoplicaaProg
import Derived.Below
import Derived.Deep.Draws
import Derived.Deep.AppendLies
import Derived.Maps.AppendAt
import Derived.OwnWalk
import Derived.Laws.BytesArg
import Derived.Laws.MakeOwn
import Derived.Laws.OwnMore
import Derived.Deep.OwnRows
import Derived.Tactics
import Derived.Lib.ConvBytes
import Derived.Laws.Slices
import Derived.WalkKit
import Derived.KernelRfl
import Derived.RowKit3
import Derived.Deep.LoopGhost
import Derived.Deep.QuietTactic
import Derived.BigQuiet
import Derived.WideLaws
import Derived.Deep.DeepCutAuto
import Derived.Deep.CutBlock
import Derived.Deep.RegionHeld3
import Derived.Laws.Rows
import Derived.Lib.AppendStr
import Derived.ArgAppend
import Derived.Laws.IdiomCopy
import Derived.OrdersHeld
import Derived.Laws.BitsLemmas
import Derived.RowKit
import Derived.Test.YtkdkdjhdoplicaaWWords
import Derived.Test.YtkdkdjhdoplicaaWLast
import Derived.Test.YtkdkdjhdoplicaaWTab
import Derived.Test.YtkdkdjhdoplicaaWFour
import Derived.Test.YtkdkdjhdoplicaaWQPut
import Derived.Test.YtkdkdjhdoplicaaWApart
import Derived.Test.YtkdkdjhdoplicaaWArr
import Derived.Test.YtkdkdjhdoplicaaWZeros
import Derived.Test.YtkdkdjhdoplicaaWFoot
import Derived.Test.YtkdkdjhdoplicaaWKept
import Derived.Test.YtkdkdjhdoplicaaWShare
import Derived.Test.YtkdkdjhdoplicaaWN
import Derived.Test.YtkdkdjhdoplicaaWFootNe
import Derived.Test.YtkdkdjhdoplicaaWAt
import Derived.Test.YtkdkdjhdoplicaaWEqStruct
import Derived.Test.YtkdkdjhdoplicaaWRepsOne
import Derived.Test.YtkdkdjhdoplicaaWInv
import Derived.Test.YtkdkdjhdoplicaaWInvWords
import Derived.Test.YtkdkdjhdoplicaaWGuard
import Derived.Test.YtkdkdjhdoplicaaWNEv
import Derived.Test.YtkdkdjhdoplicaaWMore
namespace Go.Proofs.Ytkdkdjhdoplicaa.PMeterPlays
open Go.RowKit Go.Proofs.YtkdkdjhdoplicaaW.PrintWords Go.Proofs.YtkdkdjhdoplicaaW.PrintLast Go.Proofs.YtkdkdjhdoplicaaW.PrintMore
attribute [local go_sem] max2_int min2_int max_two min_two max_three min_three max_four min_four   -- for this text's walks alone
set_option linter.unusedVariables false
set_option linter.unusedSimpArgs false



def errW : Option Int → Value
  | none => .nilIface
  | some c => .iface 0 (.int .i64 c)
theorem errW_none : errW none = .nilIface := rfl
theorem errW_some (c : Int) : errW (some c) = .iface 0 (.int .i64 c) := rfl

-- the values' own types

end Go.Proofs.Ytkdkdjhdoplicaa.PMeterPlays
