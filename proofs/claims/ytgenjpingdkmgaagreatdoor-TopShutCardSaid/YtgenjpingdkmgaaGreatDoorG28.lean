/- Contracts of functions that this seat's law calls. No condition. -/
import Derived.Test.YtgenjpingdkmgaaGreatDoorRows
import Derived.JoinedOf
set_option maxRecDepth 100000
set_option linter.unusedSimpArgs false
set_option linter.unusedVariables false
open Go.Proofs.Tryz
namespace Go.Proofs.YtgenjpingdkmgaaGreatDoor
theorem topShutF0 : prog.funcNamed Rows.topShutRow.func = some 4 := by kernel_rfl
theorem topShutF1 : Rows.topShutRow.wf (OpenSpec.ofChange Rows.topShutSpec) = true := by kernel_rfl
theorem topShutF2 : laidOutB prog = true := by kernel_rfl
theorem topShutF3 : mapsRowed prog = true := by kernel_rfl
theorem topShutF4 : Tryz.f4.params.all (prog.readableRec ·) = true := by kernel_rfl
theorem topShutF5 : namedTie prog Rows.topShutRow.named Rows.topShutSpec.vars = true := by kernel_rfl
theorem topShutF6 : (Rows.topShutRow.stops == []) = true := by kernel_rfl
theorem topShutF7 : (prog.stops == []) = true := by kernel_rfl
theorem topShutF8 : (Rows.topShutRow.knobs == []) = true := by kernel_rfl
theorem topShutF9 : (prog.stopKnobs == []) = true := by kernel_rfl
theorem topShutF10 : (Rows.topShutRow.inPlace == prog.inPlace 4) = true := by kernel_rfl
theorem topShutF11 : (Rows.topShutRow.unfollowed == prog.unfollowed 4) = true := by kernel_rfl
theorem topShutF12 : (Rows.topShutRow.recurses == prog.recurses 4) = true := by kernel_rfl
theorem topShutF13 : (Rows.topShutRow.named == prog.varsNamed 4) = true := by kernel_rfl
theorem topShutF14 : (Rows.topShutRow.maps == (Tryz.f4.params.toList ++ Rows.topShutSpec.plain.varTypes prog).any (prog.mapsRec ·)) = true := by kernel_rfl
theorem topShutF15 : (Rows.topShutRow.ifaces == (Tryz.f4.params.toList ++ Rows.topShutSpec.plain.varTypes prog).any (prog.ifacesRec ·)) = true := by kernel_rfl
theorem topShutF16 : (Rows.topShutRow.mapsOut == prog.mapsAmong Tryz.f4.resultTypes.toList) = true := by kernel_rfl
theorem topShutF17 : (Rows.topShutRow.loops == (Tryz.f4.params.toList ++ Rows.topShutSpec.plain.varTypes prog).any (prog.loopsFrom ·)) = true := by kernel_rfl
theorem topShutF18 : (Rows.topShutRow.wideKeys == (Tryz.f4.params.toList ++ Rows.topShutSpec.plain.varTypes prog ++ Tryz.f4.resultTypes.toList).any (prog.wideKeysFrom ·)) = true := by kernel_rfl
theorem topShutF19 : Rows.topShutSpec.vars.all (prog.varReadable ·) = true := by kernel_rfl
theorem topShutF20 : Tryz.f4.resultTypes.all (fun t => prog.readableRec t && decide (t < prog.types.size)) = true := by kernel_rfl
theorem topShutF21 : (Rows.topShutRow.ifacesOut == Tryz.f4.resultTypes.toList.any (prog.ifacesRec ·)) = true := by kernel_rfl
theorem topShutF22 : (Rows.topShutRow.loopsOut == Tryz.f4.resultTypes.toList.any (prog.loopsFrom ·)) = true := by kernel_rfl
theorem topShutF23 : (Rows.topShutRow.plainKeys == prog.plainKeys) = true := by kernel_rfl
theorem topShutF24 : Rows.topShutRow.shortTexts.isNone = true := by kernel_rfl
theorem topShutF25 : prog.stopsHeard = true := by kernel_rfl
theorem topShutF26 : prog.mayEnter = true := by kernel_rfl
theorem topShutF27 : (Rows.topShutRow.lifted == prog.liftsFinal) = true := by kernel_rfl
theorem topShutF28 : (prog.make == some Rows.topShutRow.make) = true := by kernel_rfl
theorem topShutF29 : (Rows.topShutRow.kinds == (if Rows.topShutRow.domain.isEmpty then [] else Tryz.f4.params.toList.map fun t => match prog.underlying t with | some (.int k) => some k | _ => none)) = true := by kernel_rfl
theorem topShutF30 : (Rows.topShutRow.pinned == Rows.topShutRow.pinnedBy) = true := by kernel_rfl
theorem topShutF31 : (Rows.topShutRow.veiled == (Tryz.f4.params.toList ++ Rows.topShutSpec.plain.varTypes prog ++ Tryz.f4.resultTypes.toList).any (prog.veiledRec ·)) = true := by kernel_rfl
theorem topShutF32 : Rows.topShutRow.veiledFits prog Tryz.f4.params.toList (Tryz.f4.params.toList ++ Rows.topShutSpec.plain.varTypes prog ++ Tryz.f4.resultTypes.toList) = true := by kernel_rfl
theorem topShutFi : Tryz.f4.isInstance prog Rows.topShutRow.origin Rows.topShutRow.targs := of_decide_eq_true (by kernel_rfl)
theorem topShutFw : Tryz.f4.isWrapper prog Rows.topShutRow.wrapper Rows.topShutRow.mainSum := by unfold Func.isWrapper; first | (rw [if_pos (by decide +kernel)]; kernel_rfl) | (rw [if_neg (by decide +kernel)]; exact ⟨rfl, rfl⟩)
theorem topShutFc : joinedFacts prog 4 Tryz.f4 Rows.topShutSpec Rows.topShutRow = true := by
  unfold joinedFacts;simp only [Bool.and_eq_true];exact ⟨⟨⟨⟨⟨⟨⟨⟨⟨⟨⟨⟨⟨⟨⟨⟨⟨⟨⟨⟨⟨⟨⟨⟨⟨⟨⟨⟨⟨⟨⟨topShutF1, topShutF2⟩, topShutF3⟩, topShutF4⟩, topShutF5⟩, topShutF6⟩, topShutF7⟩, topShutF8⟩, topShutF9⟩, topShutF10⟩, topShutF11⟩, topShutF12⟩, topShutF13⟩, topShutF14⟩, topShutF15⟩, topShutF16⟩, topShutF17⟩, topShutF18⟩, topShutF19⟩, topShutF20⟩, topShutF21⟩, topShutF22⟩, topShutF23⟩, topShutF24⟩, topShutF25⟩, topShutF26⟩, topShutF27⟩, topShutF28⟩, topShutF29⟩, topShutF30⟩, topShutF31⟩, topShutF32⟩
end Go.Proofs.YtgenjpingdkmgaaGreatDoor
