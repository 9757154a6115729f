/- Contracts of the reference's typed. -/
import Derived.Test.YtojcabnjodfdmaaGreatDoorFg
import Derived.Test.YtojcabnjodfdmaaGreatDoorBd
namespace Go.Proofs.YtojcabnjodfdmaaGreatDoor
open Go.RowKit

end Go.Proofs.YtojcabnjodfdmaaGreatDoor
