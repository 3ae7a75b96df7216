/- A part of the proof of the statement Rows.TopMissingCardSaid (at every argument the law returns true on every schedule, and its argument reads as before; the listed variables as laid). This text: a part of the run of the program, or closed facts of it. -/
import Derived.Test.YtgabhijnigpbdaaGreatDoorCards
import Derived.KernelRfl
import Derived.JoinedOf
/-! The program is laid out; where it is entered. -/
namespace Go.Proofs.YtgabhijnigpbdaaGreatDoor
open Go
set_option maxRecDepth 100000
theorem progLaidOut : laidOutB Tryz.prog = true := by kernel_rfl
theorem progMapsRowed : mapsRowed Tryz.prog = true := by kernel_rfl
theorem progStopsHeard : Tryz.prog.stopsHeard = true := by kernel_rfl
theorem progMayEnter : Tryz.prog.mayEnter = true := by kernel_rfl
theorem rowFunc : Tryz.prog.funcNamed "graftbed/graftbedtop.TopMissing" = some 3 := by kernel_rfl
end Go.Proofs.YtgabhijnigpbdaaGreatDoor
