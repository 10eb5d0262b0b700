-- PRINTED by print.py (a twelfth state) out of the translation. Not trusted: Lean checks it.
import Derived.Test.YtljfagagopaidaaProg
import Derived.Below
import Derived.Deep.Draws
import Derived.Deep.AppendLies
import Derived.Maps.AppendAt
import Derived.OwnWalk
import Derived.Laws.BytesArg
import Derived.Laws.MakeOwn
import Derived.Laws.OwnMore
import Derived.Deep.OwnRows
import Derived.Tactics
import Derived.Lib.ConvBytes
import Derived.Laws.Slices
import Derived.WalkKit
import Derived.KernelRfl
import Derived.RowKit3
import Derived.Deep.LoopGhost
import Derived.Deep.QuietTactic
import Derived.BigQuiet
import Derived.WideLaws
import Derived.Deep.DeepCutAuto
import Derived.Deep.CutBlock
import Derived.Deep.RegionHeld3
import Derived.Laws.Rows
import Derived.Lib.AppendStr
import Derived.ArgAppend
import Derived.Laws.IdiomCopy
import Derived.OrdersHeld
import Derived.Laws.BitsLemmas
import Derived.RowKit
import Derived.Test.YtljfagagopaidaaWWords
import Derived.Test.YtljfagagopaidaaWLast
import Derived.Test.YtljfagagopaidaaWTab
import Derived.Test.YtljfagagopaidaaWFour
import Derived.Test.YtljfagagopaidaaWQPut
import Derived.Test.YtljfagagopaidaaWApart
import Derived.Test.YtljfagagopaidaaWArr
import Derived.Test.YtljfagagopaidaaWZeros
import Derived.Test.YtljfagagopaidaaWFoot
import Derived.Test.YtljfagagopaidaaWKept
import Derived.Test.YtljfagagopaidaaWShare
import Derived.Test.YtljfagagopaidaaWN
import Derived.Test.YtljfagagopaidaaWFootNe
import Derived.Test.YtljfagagopaidaaWAt
import Derived.Test.YtljfagagopaidaaWEqStruct
import Derived.Test.YtljfagagopaidaaWRepsOne
import Derived.Test.YtljfagagopaidaaWInv
import Derived.Test.YtljfagagopaidaaWInvWords
import Derived.Test.YtljfagagopaidaaWGuard
import Derived.Test.YtljfagagopaidaaWNEv
import Derived.Test.YtljfagagopaidaaWMore
namespace Go.Proofs.Ytljfagagopaidaa.Lf
open Go.RowKit Go.Proofs.YtljfagagopaidaaW.PrintWords Go.Proofs.YtljfagagopaidaaW.PrintLast Go.Proofs.YtljfagagopaidaaW.PrintMore
attribute [local go_sem] max2_int min2_int max_two min_two max_three min_three max_four min_four   -- for this text's walks alone
set_option linter.unusedVariables false
set_option linter.unusedSimpArgs false



def errW : Option Int → Value
  | none => .nilIface
  | some c => .iface 0 (.int .i64 c)
theorem errW_none : errW none = .nilIface := rfl
theorem errW_some (c : Int) : errW (some c) = .iface 0 (.int .i64 c) := rfl

theorem info5 : (Try.prog.info? 5).map (fun i => (i.zero, i.size, i.bytes)) = some (some (.int .u8 0), 1, 1) := by kernel_rfl
theorem info9 : (Try.prog.info? 9).map (fun i => (i.zero, i.size, i.bytes)) = some (some (.string ⟨#[]⟩), 1, 16) := by kernel_rfl
-- the values' own types

end Go.Proofs.Ytljfagagopaidaa.Lf
