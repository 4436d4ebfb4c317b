-- Written by this session's program xprint.py over the kit's print, with contracts given by hand. Not trusted: Lean checks it.
import Derived.Test.YteffhomollmpdaaProg
import Derived.Below
import Derived.Deep.Draws
import Derived.Deep.AppendLies
import Derived.Maps.AppendAt
import Derived.OwnWalk
import Derived.Laws.BytesArg
import Derived.Laws.MakeOwn
import Derived.Laws.OwnMore
import Derived.Deep.OwnRows
import Derived.Tactics
import Derived.Lib.ConvBytes
import Derived.Laws.Slices
import Derived.WalkKit
import Derived.KernelRfl
import Derived.RowKit3
import Derived.Deep.LoopGhost
import Derived.Deep.QuietTactic
import Derived.BigQuiet
import Derived.WideLaws
import Derived.Deep.DeepCutAuto
import Derived.Deep.CutBlock
import Derived.Deep.RegionHeld3
import Derived.Laws.Rows
import Derived.Lib.AppendStr
import Derived.ArgAppend
import Derived.Laws.IdiomCopy
import Derived.OrdersHeld
import Derived.Laws.BitsLemmas
import Derived.RowKit
import Derived.Test.YteffhomollmpdaaXRTurns
import Derived.Test.YteffhomollmpdaaWWords
import Derived.Test.YteffhomollmpdaaWLast
import Derived.Test.YteffhomollmpdaaWTab
import Derived.Test.YteffhomollmpdaaWFour
import Derived.Test.YteffhomollmpdaaWQPut
import Derived.Test.YteffhomollmpdaaWApart
import Derived.Test.YteffhomollmpdaaWArr
import Derived.Test.YteffhomollmpdaaWZeros
import Derived.Test.YteffhomollmpdaaWFoot
import Derived.Test.YteffhomollmpdaaWKept
import Derived.Test.YteffhomollmpdaaWShare
import Derived.Test.YteffhomollmpdaaWN
import Derived.Test.YteffhomollmpdaaWFootNe
import Derived.Test.YteffhomollmpdaaWAt
import Derived.Test.YteffhomollmpdaaWEqStruct
import Derived.Test.YteffhomollmpdaaWRepsOne
import Derived.Test.YteffhomollmpdaaWInv
import Derived.Test.YteffhomollmpdaaWInvWords
import Derived.Test.YteffhomollmpdaaWGuard
import Derived.Test.YteffhomollmpdaaWNEv
import Derived.Test.YteffhomollmpdaaWMore
namespace Go.Proofs.Yteffhomollmpdaa.PRobinTurns
open Go.RowKit Go.Proofs.YteffhomollmpdaaW.PrintWords Go.Proofs.YteffhomollmpdaaW.PrintLast Go.Proofs.YteffhomollmpdaaW.PrintMore
attribute [local go_sem] max2_int min2_int max_two min_two max_three min_three max_four min_four   -- for this text's walks alone
set_option linter.unusedVariables false
set_option linter.unusedSimpArgs false



def errW : Option Int → Value
  | none => .nilIface
  | some c => .iface 0 (.int .i64 c)
theorem errW_none : errW none = .nilIface := rfl
theorem errW_some (c : Int) : errW (some c) = .iface 0 (.int .i64 c) := rfl

theorem xsz_rest (s : ByteArray) (a : Nat) : (s.extract a s.size).size = s.size - a := by simp
theorem xsz_app (a b : ByteArray) : (a ++ b).size = a.size + b.size := by simp [ByteArray.size_append]
theorem xsz_mk (l : List UInt8) : (⟨⟨l⟩⟩ : ByteArray).size = l.length := rfl
-- the values' own types

end Go.Proofs.Yteffhomollmpdaa.PRobinTurns
