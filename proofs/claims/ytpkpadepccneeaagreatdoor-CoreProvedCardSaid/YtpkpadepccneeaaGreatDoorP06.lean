/- The kit's tactics for regions that draw, together. No condition. -/
import Derived.Test.YtpkpadepccneeaaGreatDoorP03
import Derived.Deep.RegionHeld3
import Derived.Deep.CutRange
import Derived.Deep.RegionWith
import Derived.Deep.RegionLaw
import Derived.StillTailTactics
namespace Go.Proofs.YtpkpadepccneeaaGreatDoor
end Go.Proofs.YtpkpadepccneeaaGreatDoor
