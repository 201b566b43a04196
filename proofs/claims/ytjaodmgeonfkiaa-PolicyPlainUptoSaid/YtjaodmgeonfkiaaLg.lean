/-
  Contracts, part g: tables.
-/
import Derived.Test.YtjaodmgeonfkiaaLf
namespace Go.Ab
open Go.Proofs

end Go.Ab
