/- What has turned: the text L6. -/
import Derived.Test.YtjbaebgdebcipaaGreatDoorL6
namespace Go.Proofs.YtjbaebgdebcipaaGreatDoor
end Go.Proofs.YtjbaebgdebcipaaGreatDoor
