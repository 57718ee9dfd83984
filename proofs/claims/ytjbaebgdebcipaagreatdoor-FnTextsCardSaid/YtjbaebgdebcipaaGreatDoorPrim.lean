/- Blocks of cells: the texts W27, L6. -/
import Derived.Test.YtjbaebgdebcipaaGreatDoorW27
import Derived.Test.YtjbaebgdebcipaaGreatDoorL6
namespace Go.Proofs.YtjbaebgdebcipaaGreatDoor
end Go.Proofs.YtjbaebgdebcipaaGreatDoor
