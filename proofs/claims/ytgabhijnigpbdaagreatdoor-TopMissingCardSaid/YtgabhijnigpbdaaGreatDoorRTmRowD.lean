/- A part of the proof of the statement Rows.TopMissingCardSaid (at every argument the law returns true on every schedule, and its argument reads as before; the listed variables as laid). This text: a part of the run of the program, or closed facts of it. -/
import Derived.Test.YtgabhijnigpbdaaGreatDoorRTmRowA
import Derived.Test.YtgabhijnigpbdaaGreatDoorRTmRowC
import GoSem.ClaimGoes
/-! The call can start goroutines. -/
namespace Go.Proofs.YtgabhijnigpbdaaGreatDoor
open Go
set_option maxRecDepth 100000
theorem goesBy_of {P : Program} {c : OpenClaim} {f : FuncId} (hn : P.funcNamed c.func = some f) (hu : P.unfollowed f = true) (hg : P.funcs.any Func.goes = true) : true = c.goesBy P := by
  unfold OpenClaim.goesBy Program.goesAt Program.goesFrom
  rw [hn]
  simp [Program.goes, hu, hg]
theorem anyGoes : Tryz.prog.funcs.any Func.goes = true := by kernel_rfl
theorem unfollowed3 : Tryz.prog.unfollowed 3 = true := (beq_iff_eq.1 rowUnfollowed).symm
theorem cardGoes : true = Rows.topMissingRow.goesBy Tryz.pinned.checked.prog := goesBy_of rowFunc unfollowed3 anyGoes
end Go.Proofs.YtgabhijnigpbdaaGreatDoor
