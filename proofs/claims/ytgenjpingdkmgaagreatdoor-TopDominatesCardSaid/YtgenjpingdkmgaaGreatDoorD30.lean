/- Contracts of functions that this seat's law calls. No condition. -/
import Derived.Test.YtgenjpingdkmgaaGreatDoorRows
import Derived.JoinedOf
set_option maxRecDepth 100000
set_option linter.unusedSimpArgs false
set_option linter.unusedVariables false
open Go.Proofs.Tryz
namespace Go.Proofs.YtgenjpingdkmgaaGreatDoor
theorem topDominatesF0 : prog.funcNamed Rows.topDominatesRow.func = some 5 := by kernel_rfl
theorem topDominatesF1 : Rows.topDominatesRow.wf (OpenSpec.ofChange Rows.topDominatesSpec) = true := by kernel_rfl
theorem topDominatesF2 : laidOutB prog = true := by kernel_rfl
theorem topDominatesF3 : mapsRowed prog = true := by kernel_rfl
theorem topDominatesF4 : Tryz.f5.params.all (prog.readableRec ·) = true := by kernel_rfl
theorem topDominatesF5 : namedTie prog Rows.topDominatesRow.named Rows.topDominatesSpec.vars = true := by kernel_rfl
theorem topDominatesF6 : (Rows.topDominatesRow.stops == []) = true := by kernel_rfl
theorem topDominatesF7 : (prog.stops == []) = true := by kernel_rfl
theorem topDominatesF8 : (Rows.topDominatesRow.knobs == []) = true := by kernel_rfl
theorem topDominatesF9 : (prog.stopKnobs == []) = true := by kernel_rfl
theorem topDominatesF10 : (Rows.topDominatesRow.inPlace == prog.inPlace 5) = true := by kernel_rfl
theorem topDominatesF11 : (Rows.topDominatesRow.unfollowed == prog.unfollowed 5) = true := by kernel_rfl
theorem topDominatesF12 : (Rows.topDominatesRow.recurses == prog.recurses 5) = true := by kernel_rfl
theorem topDominatesF13 : (Rows.topDominatesRow.named == prog.varsNamed 5) = true := by kernel_rfl
theorem topDominatesF14 : (Rows.topDominatesRow.maps == (Tryz.f5.params.toList ++ Rows.topDominatesSpec.plain.varTypes prog).any (prog.mapsRec ·)) = true := by kernel_rfl
theorem topDominatesF15 : (Rows.topDominatesRow.ifaces == (Tryz.f5.params.toList ++ Rows.topDominatesSpec.plain.varTypes prog).any (prog.ifacesRec ·)) = true := by kernel_rfl
theorem topDominatesF16 : (Rows.topDominatesRow.mapsOut == prog.mapsAmong Tryz.f5.resultTypes.toList) = true := by kernel_rfl
theorem topDominatesF17 : (Rows.topDominatesRow.loops == (Tryz.f5.params.toList ++ Rows.topDominatesSpec.plain.varTypes prog).any (prog.loopsFrom ·)) = true := by kernel_rfl
theorem topDominatesF18 : (Rows.topDominatesRow.wideKeys == (Tryz.f5.params.toList ++ Rows.topDominatesSpec.plain.varTypes prog ++ Tryz.f5.resultTypes.toList).any (prog.wideKeysFrom ·)) = true := by kernel_rfl
theorem topDominatesF19 : Rows.topDominatesSpec.vars.all (prog.varReadable ·) = true := by kernel_rfl
theorem topDominatesF20 : Tryz.f5.resultTypes.all (fun t => prog.readableRec t && decide (t < prog.types.size)) = true := by kernel_rfl
theorem topDominatesF21 : (Rows.topDominatesRow.ifacesOut == Tryz.f5.resultTypes.toList.any (prog.ifacesRec ·)) = true := by kernel_rfl
theorem topDominatesF22 : (Rows.topDominatesRow.loopsOut == Tryz.f5.resultTypes.toList.any (prog.loopsFrom ·)) = true := by kernel_rfl
theorem topDominatesF23 : (Rows.topDominatesRow.plainKeys == prog.plainKeys) = true := by kernel_rfl
theorem topDominatesF24 : Rows.topDominatesRow.shortTexts.isNone = true := by kernel_rfl
theorem topDominatesF25 : prog.stopsHeard = true := by kernel_rfl
theorem topDominatesF26 : prog.mayEnter = true := by kernel_rfl
theorem topDominatesF27 : (Rows.topDominatesRow.lifted == prog.liftsFinal) = true := by kernel_rfl
theorem topDominatesF28 : (prog.make == some Rows.topDominatesRow.make) = true := by kernel_rfl
theorem topDominatesF29 : (Rows.topDominatesRow.kinds == (if Rows.topDominatesRow.domain.isEmpty then [] else Tryz.f5.params.toList.map fun t => match prog.underlying t with | some (.int k) => some k | _ => none)) = true := by kernel_rfl
theorem topDominatesF30 : (Rows.topDominatesRow.pinned == Rows.topDominatesRow.pinnedBy) = true := by kernel_rfl
theorem topDominatesF31 : (Rows.topDominatesRow.veiled == (Tryz.f5.params.toList ++ Rows.topDominatesSpec.plain.varTypes prog ++ Tryz.f5.resultTypes.toList).any (prog.veiledRec ·)) = true := by kernel_rfl
theorem topDominatesF32 : Rows.topDominatesRow.veiledFits prog Tryz.f5.params.toList (Tryz.f5.params.toList ++ Rows.topDominatesSpec.plain.varTypes prog ++ Tryz.f5.resultTypes.toList) = true := by kernel_rfl
theorem topDominatesFi : Tryz.f5.isInstance prog Rows.topDominatesRow.origin Rows.topDominatesRow.targs := of_decide_eq_true (by kernel_rfl)
theorem topDominatesFw : Tryz.f5.isWrapper prog Rows.topDominatesRow.wrapper Rows.topDominatesRow.mainSum := by unfold Func.isWrapper; first | (rw [if_pos (by decide +kernel)]; kernel_rfl) | (rw [if_neg (by decide +kernel)]; exact ⟨rfl, rfl⟩)
theorem topDominatesFc : joinedFacts prog 5 Tryz.f5 Rows.topDominatesSpec Rows.topDominatesRow = true := by
  unfold joinedFacts;simp only [Bool.and_eq_true];exact ⟨⟨⟨⟨⟨⟨⟨⟨⟨⟨⟨⟨⟨⟨⟨⟨⟨⟨⟨⟨⟨⟨⟨⟨⟨⟨⟨⟨⟨⟨⟨topDominatesF1, topDominatesF2⟩, topDominatesF3⟩, topDominatesF4⟩, topDominatesF5⟩, topDominatesF6⟩, topDominatesF7⟩, topDominatesF8⟩, topDominatesF9⟩, topDominatesF10⟩, topDominatesF11⟩, topDominatesF12⟩, topDominatesF13⟩, topDominatesF14⟩, topDominatesF15⟩, topDominatesF16⟩, topDominatesF17⟩, topDominatesF18⟩, topDominatesF19⟩, topDominatesF20⟩, topDominatesF21⟩, topDominatesF22⟩, topDominatesF23⟩, topDominatesF24⟩, topDominatesF25⟩, topDominatesF26⟩, topDominatesF27⟩, topDominatesF28⟩, topDominatesF29⟩, topDominatesF30⟩, topDominatesF31⟩, topDominatesF32⟩
end Go.Proofs.YtgenjpingdkmgaaGreatDoor
