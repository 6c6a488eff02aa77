import Derived.Test.YtlpgigdegnbkmaaGreatDoorM01
namespace Tab
open Go.Lib
end Tab
namespace Go.Proofs.YtlpgigdegnbkmaaGreatDoor
open Go.RowKit Tab
set_option maxRecDepth 100000
end Go.Proofs.YtlpgigdegnbkmaaGreatDoor
