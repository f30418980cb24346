/- functions without a body of the seat Try -/
import Derived.Test.YtbgjkpokmlkgiaaF1
namespace Go.VL.Try
open Go Go.VL Go.Proofs
def extBits : List PV → Option PV
  | [.d (.flt b)] => some (.d (.int .u64 b))
  | _ => none
def extFrom : List PV → Option PV
  | [.d (.int .u64 b)] => some (.d (.flt b.toNat))
  | _ => none
end Go.VL.Try
