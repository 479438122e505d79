/- A row that a call made, and that nobody writes any more: a list; the own rows at hand are as they were. -/
import Derived.Test.YtjoffkghcjfbeaaLibAcc
namespace Lg
open Go
end Lg

