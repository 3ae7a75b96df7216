/- A part of the proof of the statement Rows.TopMissingCardSaid (at every argument the law returns true on every schedule, and its argument reads as before; the listed variables as laid). This text: a part of the run of the program, or closed facts of it. -/
import Derived.Test.YtgabhijnigpbdaaGreatDoorRTmFacts
namespace Go.Proofs.YtgabhijnigpbdaaGreatDoor
open Go Go.Gb
set_option maxRecDepth 100000
theorem run4 : goAll Tryz.prog.types.toList Tryz.prog.funcs.toList (flatsL Tryz.prog) marks (.o (.o .z)) (.node .nil (some (.par .u8 5 4)) .nil) 64 17 9 4 17 = some [] := by kernel_rfl
end Go.Proofs.YtgabhijnigpbdaaGreatDoor
