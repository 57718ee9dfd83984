/- Nothing of its own. -/
import Derived.Test.YtjbaebgdebcipaaGreatDoorL3
namespace Go.Proofs.YtjbaebgdebcipaaGreatDoor
end Go.Proofs.YtjbaebgdebcipaaGreatDoor
