/- Nothing of its own. -/
import Derived.Test.YtjbaebgdebcipaaGreatDoorOwn
namespace Go.Proofs.YtjbaebgdebcipaaGreatDoor
end Go.Proofs.YtjbaebgdebcipaaGreatDoor
