/- The plain model of Components. -/
import Derived.Test.YtngfoinceakgdaaGroups
namespace Go.Proofs.Ytngfoinceakgdaa

end Go.Proofs.Ytngfoinceakgdaa
