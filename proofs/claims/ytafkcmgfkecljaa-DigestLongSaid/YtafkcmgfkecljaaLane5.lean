/- What the kernel computes: for each length from 150 to 299, for each of 256 fillings, a byte more has another name. -/
import Derived.Test.YtafkcmgfkecljaaLane3
namespace Go.Proofs.Ytafkcmgfkecljaa
set_option maxRecDepth 100000
theorem chk_150 : chkAll 150 15 = true := by decide +kernel
theorem chk_165 : chkAll 165 15 = true := by decide +kernel
theorem chk_180 : chkAll 180 15 = true := by decide +kernel
theorem chk_195 : chkAll 195 15 = true := by decide +kernel
theorem chk_210 : chkAll 210 15 = true := by decide +kernel
theorem chk_225 : chkAll 225 15 = true := by decide +kernel
theorem chk_240 : chkAll 240 15 = true := by decide +kernel
theorem chk_255 : chkAll 255 15 = true := by decide +kernel
theorem chk_270 : chkAll 270 15 = true := by decide +kernel
theorem chk_285 : chkAll 285 15 = true := by decide +kernel
end Go.Proofs.Ytafkcmgfkecljaa
