/- Where a formula holds: the answer's walk. -/
import Derived.Test.YtjoffkghcjfbeaaLibSemR
namespace Lg
open Go
section
end
end Lg

