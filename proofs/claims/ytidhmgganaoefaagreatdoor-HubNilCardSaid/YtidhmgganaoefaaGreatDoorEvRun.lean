/-
  The evaluator runs HubNil: true. 
-/
import Derived.Test.YtidhmgganaoefaaGreatDoorEvExt
import Derived.Test.YtidhmgganaoefaaGreatDoorEvTabOk
import Derived.Test.YtidhmgganaoefaaGreatDoorEvFacts
namespace Go.AM
theorem run3 : okR (exec env [fact0, fact1, fact2, fact3, fact4, fact5] 100 (.func 3 []) [] .leaf .h) = true := by decide +kernel
end Go.AM
