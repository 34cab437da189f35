/- The tactics that the walks use. -/
import Derived.Test.YtnocbkhnmdmfhaaOpen
import Derived.Deep.LoopGhost
import Derived.Deep.QuietTactic
import Derived.BigQuiet
import Derived.Deep.Cut
import Derived.Deep.CutBlock
import Derived.Deep.DeepCutAuto
import Derived.Deep.RegionHeld3
import Derived.IntWalk
import Derived.StillTailTactics
namespace Go.Proofs.Ytnocbkhnmdmfhaa
end Go.Proofs.Ytnocbkhnmdmfhaa
