-- PRINTED BY print.sh 35421559b90ae4d0a3588c463048766b98c2df88dd9212a6774a882060cdf62d: not written by this session
import Derived.Test.YtfcpjblogeofpaaProg
import Derived.Below
import Derived.Deep.Draws
import Derived.Deep.AppendLies
import Derived.Maps.AppendAt
import Derived.OwnWalk
import Derived.Laws.BytesArg
import Derived.Laws.MakeOwn
import Derived.Laws.OwnMore
import Derived.Deep.OwnRows
import Derived.Tactics
import Derived.Lib.ConvBytes
import Derived.Laws.Slices
import Derived.WalkKit
import Derived.KernelRfl
import Derived.RowKit3
import Derived.Deep.LoopGhost
import Derived.Deep.QuietTactic
import Derived.BigQuiet
import Derived.WideLaws
import Derived.Deep.DeepCutAuto
import Derived.Deep.CutBlock
import Derived.Deep.RegionHeld3
import Derived.Laws.Rows
import Derived.Lib.AppendStr
import Derived.ArgAppend
import Derived.Laws.IdiomCopy
import Derived.OrdersHeld
import Derived.Laws.BitsLemmas
import Derived.RowKit
import Derived.Test.YtfcpjblogeofpaaWWords
import Derived.Test.YtfcpjblogeofpaaWLast
import Derived.Test.YtfcpjblogeofpaaWTab
import Derived.Test.YtfcpjblogeofpaaWFour
import Derived.Test.YtfcpjblogeofpaaWQPut
import Derived.Test.YtfcpjblogeofpaaWApart
import Derived.Test.YtfcpjblogeofpaaWArr
import Derived.Test.YtfcpjblogeofpaaWZeros
import Derived.Test.YtfcpjblogeofpaaWFoot
import Derived.Test.YtfcpjblogeofpaaWKept
import Derived.Test.YtfcpjblogeofpaaWShare
import Derived.Test.YtfcpjblogeofpaaWN
import Derived.Test.YtfcpjblogeofpaaWFootNe
import Derived.Test.YtfcpjblogeofpaaWAt
import Derived.Test.YtfcpjblogeofpaaWEqStruct
import Derived.Test.YtfcpjblogeofpaaWRepsOne
import Derived.Test.YtfcpjblogeofpaaWInv
import Derived.Test.YtfcpjblogeofpaaWInvWords
import Derived.Test.YtfcpjblogeofpaaWGuard
import Derived.Test.YtfcpjblogeofpaaWNEv
import Derived.Test.YtfcpjblogeofpaaWMore
namespace Go.Proofs.Ytfcpjblogeofpaa.PSumTexts
open Go.RowKit Go.Proofs.YtfcpjblogeofpaaW.PrintWords Go.Proofs.YtfcpjblogeofpaaW.PrintLast Go.Proofs.YtfcpjblogeofpaaW.PrintMore
attribute [local go_sem] max2_int min2_int max_two min_two max_three min_three max_four min_four   -- for this text's walks alone
set_option linter.unusedVariables false
set_option linter.unusedSimpArgs false



def errW : Option Int → Value
  | none => .nilIface
  | some c => .iface 0 (.int .i64 c)
theorem errW_none : errW none = .nilIface := rfl
theorem errW_some (c : Int) : errW (some c) = .iface 0 (.int .i64 c) := rfl

-- the values' own types

end Go.Proofs.Ytfcpjblogeofpaa.PSumTexts
