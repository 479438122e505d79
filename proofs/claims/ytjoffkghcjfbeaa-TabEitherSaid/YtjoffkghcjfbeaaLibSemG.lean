/- What is turned until it stays. -/
import Derived.Test.YtjoffkghcjfbeaaLibSemF
namespace Lg
open Go
end Lg

