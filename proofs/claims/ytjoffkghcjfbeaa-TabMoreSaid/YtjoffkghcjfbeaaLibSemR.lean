/- Where a formula holds: the answer. -/
import Derived.Test.YtjoffkghcjfbeaaLibSemA
namespace Lg
open Go
end Lg

