/- Rows of cells: the text Tree. -/
import Derived.Test.YtjbaebgdebcipaaGreatDoorTree
namespace Go.Proofs.YtjbaebgdebcipaaGreatDoor
end Go.Proofs.YtjbaebgdebcipaaGreatDoor
