import Derived.Test.YtjoffkghcjfbeaaLibNnfS
/- The answer's turn of formulas. -/
namespace Lg
open Go
end Lg


/- The answer's formulas that are right. -/
namespace Lg
open Go
end Lg


/- The answer's Of and Not, and whether a formula is right. -/
namespace Lg
open Go
end Lg

