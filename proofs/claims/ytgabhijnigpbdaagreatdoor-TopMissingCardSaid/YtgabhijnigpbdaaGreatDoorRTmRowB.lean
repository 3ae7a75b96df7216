/- A part of the proof of the statement Rows.TopMissingCardSaid (at every argument the law returns true on every schedule, and its argument reads as before; the listed variables as laid). This text: a part of the run of the program, or closed facts of it. -/
import Derived.Test.YtgabhijnigpbdaaGreatDoorCards
import Derived.KernelRfl
import Derived.JoinedOf
/-! What the row says of the functions reached, second part. -/
namespace Go.Proofs.YtgabhijnigpbdaaGreatDoor
open Go
set_option maxRecDepth 100000
theorem rowRecurses : (Rows.topMissingRow.recurses == Tryz.prog.recurses 3) = true := by kernel_rfl
theorem rowNamed : (Rows.topMissingRow.named == Tryz.prog.varsNamed 3) = true := by kernel_rfl
end Go.Proofs.YtgabhijnigpbdaaGreatDoor
