/- What the kernel computes: for each length from 0 to 149, for each of 256 fillings, a byte more has another name. -/
import Derived.Test.YtafkcmgfkecljaaLane3
namespace Go.Proofs.Ytafkcmgfkecljaa
set_option maxRecDepth 100000
theorem chk_0 : chkAll 0 15 = true := by decide +kernel
theorem chk_15 : chkAll 15 15 = true := by decide +kernel
theorem chk_30 : chkAll 30 15 = true := by decide +kernel
theorem chk_45 : chkAll 45 15 = true := by decide +kernel
theorem chk_60 : chkAll 60 15 = true := by decide +kernel
theorem chk_75 : chkAll 75 15 = true := by decide +kernel
theorem chk_90 : chkAll 90 15 = true := by decide +kernel
theorem chk_105 : chkAll 105 15 = true := by decide +kernel
theorem chk_120 : chkAll 120 15 = true := by decide +kernel
theorem chk_135 : chkAll 135 15 = true := by decide +kernel
end Go.Proofs.Ytafkcmgfkecljaa
