/- The type byte. No condition. -/
import Derived.Test.YtpaiideboodaeaaGreatDoorJFlat
namespace Go.Proofs.YtpaiideboodaeaaGreatDoor
open Go.RowKit
theorem byteInfo8 : (Tryz.prog.info? 5).map (fun i => (i.zero, i.size, i.bytes)) = some (some (.int .u8 0), 1, 1) := by kernel_rfl
end Go.Proofs.YtpaiideboodaeaaGreatDoor
