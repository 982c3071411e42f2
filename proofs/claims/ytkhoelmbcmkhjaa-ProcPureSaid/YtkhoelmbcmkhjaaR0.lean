/- What all rows of this seat ask. -/
import Derived.Test.YtkhoelmbcmkhjaaBr
import Derived.Test.YtkhoelmbcmkhjaaAq
import Derived.Test.YtkhoelmbcmkhjaaRows
namespace Go.Proofs.Ytkhoelmbcmkhjaa
open Go.ChangeShapes Go.WideShapes Go.ChangeAt Go.WideMaps Go.WideElems Go.RowKit
theorem own : ownKnob Try.prog.godebug = none := by kernel_rfl
theorem laidOut : laidOutB Try.prog = true := by kernel_rfl
end Go.Proofs.Ytkhoelmbcmkhjaa
