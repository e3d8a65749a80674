/-
  What slots hold, as updates: several at once. No condition.
-/
import Derived.Test.YtecedifkjafneaaDoorFwE
namespace Go.Fw
section
variable {f : Fr}
end
end Go.Fw
