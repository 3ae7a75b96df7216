/- A part of the proof of the statement Rows.TopMissingCardSaid (at every argument the law returns true on every schedule, and its argument reads as before; the listed variables as laid). This text: a part of the run of the program, or closed facts of it. -/
import Derived.Test.YtgabhijnigpbdaaGreatDoorRTmRowA
import Derived.Test.YtgabhijnigpbdaaGreatDoorRTmRowB
import Derived.Test.YtgabhijnigpbdaaGreatDoorRTmRowC
/-! The closed facts of the row. -/
namespace Go.Proofs.YtgabhijnigpbdaaGreatDoor
open Go
set_option maxRecDepth 100000
theorem ff : (Tryz.f3.params.all (Tryz.prog.readableRec ·) && namedTie Tryz.prog Rows.topMissingRow.named Rows.topMissingSpec.vars) = true := by kernel_rfl
theorem fStops : (([] : List String) == Tryz.prog.stops) = true := by kernel_rfl
theorem fKnobs : (Tryz.prog.stopKnobs == []) = true := by kernel_rfl
theorem fKeys : (Rows.topMissingRow.plainKeys == Tryz.prog.plainKeys) = true := by kernel_rfl
theorem fLifted : (Rows.topMissingRow.lifted == Tryz.prog.liftsFinal) = true := by kernel_rfl
theorem fMake : (Tryz.prog.make == some Rows.topMissingRow.make) = true := by kernel_rfl
theorem fWf : Rows.topMissingRow.wf (OpenSpec.ofChange Rows.topMissingSpec) = true := by kernel_rfl
theorem fMaps : (Rows.topMissingRow.maps == (Tryz.f3.params.toList ++ Rows.topMissingSpec.plain.varTypes Tryz.prog).any (Tryz.prog.mapsRec ·)) = true := by kernel_rfl
theorem fIfaces : (Rows.topMissingRow.ifaces == (Tryz.f3.params.toList ++ Rows.topMissingSpec.plain.varTypes Tryz.prog).any (Tryz.prog.ifacesRec ·)) = true := by kernel_rfl
theorem fMapsOut : (Rows.topMissingRow.mapsOut == Tryz.prog.mapsAmong Tryz.f3.resultTypes.toList) = true := by kernel_rfl
theorem fLoops : (Rows.topMissingRow.loops == (Tryz.f3.params.toList ++ Rows.topMissingSpec.plain.varTypes Tryz.prog).any (Tryz.prog.loopsFrom ·)) = true := by kernel_rfl
theorem fWide : (Rows.topMissingRow.wideKeys == (Tryz.f3.params.toList ++ Rows.topMissingSpec.plain.varTypes Tryz.prog ++ Tryz.f3.resultTypes.toList).any (Tryz.prog.wideKeysFrom ·)) = true := by kernel_rfl
theorem fVars : Rows.topMissingSpec.vars.all (Tryz.prog.varReadable ·) = true := by kernel_rfl
theorem fRes : Tryz.f3.resultTypes.all (fun t => Tryz.prog.readableRec t && decide (t < Tryz.prog.types.size)) = true := by kernel_rfl
theorem fIfacesOut : (Rows.topMissingRow.ifacesOut == Tryz.f3.resultTypes.toList.any (Tryz.prog.ifacesRec ·)) = true := by kernel_rfl
theorem fLoopsOut : (Rows.topMissingRow.loopsOut == Tryz.f3.resultTypes.toList.any (Tryz.prog.loopsFrom ·)) = true := by kernel_rfl
theorem fKinds : (Rows.topMissingRow.kinds == (if Rows.topMissingRow.domain.isEmpty then [] else Tryz.f3.params.toList.map fun t => match Tryz.prog.underlying t with | some (.int k) => some k | _ => none)) = true := by kernel_rfl
theorem fPinned : (Rows.topMissingRow.pinned == Rows.topMissingRow.pinnedBy) = true := by kernel_rfl
theorem fVeiled : (Rows.topMissingRow.veiled == (Tryz.f3.params.toList ++ Rows.topMissingSpec.plain.varTypes Tryz.prog ++ Tryz.f3.resultTypes.toList).any (Tryz.prog.veiledRec ·)) = true := by kernel_rfl
theorem fVeiledFits : Rows.topMissingRow.veiledFits Tryz.prog Tryz.f3.params.toList (Tryz.f3.params.toList ++ Rows.topMissingSpec.plain.varTypes Tryz.prog ++ Tryz.f3.resultTypes.toList) = true := by kernel_rfl
theorem fShort : Rows.topMissingRow.shortTexts.isNone = true := by kernel_rfl
theorem closedFacts : joinedFacts Tryz.prog 3 Tryz.f3 Rows.topMissingSpec Rows.topMissingRow = true := by
  have h4 := Bool.and_eq_true_iff.1 ff
  unfold joinedFacts
  simp only [Bool.and_eq_true]
  exact ⟨⟨⟨⟨⟨⟨⟨⟨⟨⟨⟨⟨⟨⟨⟨⟨⟨⟨⟨⟨⟨⟨⟨⟨⟨⟨⟨⟨⟨⟨⟨fWf, progLaidOut⟩, progMapsRowed⟩, h4.1⟩, h4.2⟩, rfl⟩, by rw [beq_iff_eq] at *; exact (beq_iff_eq.1 fStops).symm⟩, rfl⟩, fKnobs⟩, rowInPlace⟩, rowUnfollowed⟩, rowRecurses⟩, rowNamed⟩, fMaps⟩, fIfaces⟩, fMapsOut⟩, fLoops⟩, fWide⟩, fVars⟩, fRes⟩, fIfacesOut⟩, fLoopsOut⟩, fKeys⟩, fShort⟩, progStopsHeard⟩, progMayEnter⟩, fLifted⟩, fMake⟩, fKinds⟩, fPinned⟩, fVeiled⟩, fVeiledFits⟩
theorem fInstance : Tryz.f3.isInstance Tryz.pinned.checked.prog Rows.topMissingRow.origin Rows.topMissingRow.targs := of_decide_eq_true (by kernel_rfl)
theorem fWrapper : Tryz.f3.isWrapper Tryz.pinned.checked.prog Rows.topMissingRow.wrapper Rows.topMissingRow.mainSum := by unfold Func.isWrapper; first | (rw [if_pos (by decide +kernel)]; kernel_rfl) | (rw [if_neg (by decide +kernel)]; exact ⟨rfl, rfl⟩)
end Go.Proofs.YtgabhijnigpbdaaGreatDoor
