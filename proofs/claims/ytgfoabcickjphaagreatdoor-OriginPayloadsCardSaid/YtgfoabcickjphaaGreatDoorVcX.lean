/- Sorted lists of numbers: the element of a rank, and how many are at most it. -/
import Derived.Test.YtgfoabcickjphaaGreatDoorVcS
namespace Go.Vc
open Go
end Go.Vc
