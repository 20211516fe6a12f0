/- errors.as, one round: (*api.Fault).Unwrap at a fault. -/
import Derived.Test.YtkkgimhjjhhkjaaDoorH
namespace Go.Proofs.YtkkgimhjjhhkjaaDoor
open Go Go.Pev

theorem unwrap_ok (k a : Int) (e : Err) : Contract Tryd.prog cfg 93 [.elt FSh ((k, a), e) 0] (.err e) := done noSpecs (A := A0) rfl (by kernel_rfl) (by kernel_rfl)
end Go.Proofs.YtkkgimhjjhhkjaaDoor
