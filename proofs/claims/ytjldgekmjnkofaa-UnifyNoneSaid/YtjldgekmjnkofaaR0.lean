/- The seat's closed facts. -/
import Derived.Test.YtjldgekmjnkofaaS10
import Derived.Test.YtjldgekmjnkofaaRows
import Derived.HandedShaped
set_option linter.unusedVariables false
set_option linter.unusedSimpArgs false
namespace Go.Proofs.Ytjldgekmjnkofaa
open Go Go.Eng Go.Proofs Go.ChangeShapes Go.WideShapes Go.ChangeAt Go.RowKit

theorem own0 : ownKnob Try.prog.godebug = none := by kernel_rfl
theorem laid0 : laidOutB Try.prog = true := by kernel_rfl
theorem mix0 : Try.prog.follows .mixedOrders = true := by kernel_rfl

def dataL : List TypeId := [3, 4, 9, 22, 23, 24, 26, 27, 29, 30, 32, 57, 59, 79, 83, 86]
theorem dataOk : dataSet ty dataL = true := by kernel_rfl

end Go.Proofs.Ytjldgekmjnkofaa
