/- All numbers of a list: the text W26. -/
import Derived.Test.YtjbaebgdebcipaaGreatDoorW26
namespace Go.Proofs.YtjbaebgdebcipaaGreatDoor
end Go.Proofs.YtjbaebgdebcipaaGreatDoor
