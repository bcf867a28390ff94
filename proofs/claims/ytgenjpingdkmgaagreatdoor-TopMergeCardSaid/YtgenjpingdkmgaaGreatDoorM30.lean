/- Contracts of functions that this seat's law calls. No condition. -/
import Derived.Test.YtgenjpingdkmgaaGreatDoorRows
import Derived.JoinedOf
set_option maxRecDepth 100000
set_option linter.unusedSimpArgs false
set_option linter.unusedVariables false
namespace Go.Proofs.YtgenjpingdkmgaaGreatDoor
theorem topMergeF0 : Tryz.prog.funcNamed Rows.topMergeRow.func = some 3 := by kernel_rfl
theorem topMergeF1 : Rows.topMergeRow.wf (OpenSpec.ofChange Rows.topMergeSpec) = true := by kernel_rfl
theorem topMergeF2 : laidOutB Tryz.prog = true := by kernel_rfl
theorem topMergeF3 : mapsRowed Tryz.prog = true := by kernel_rfl
theorem topMergeF4 : Tryz.f3.params.all (Tryz.prog.readableRec ·) = true := by kernel_rfl
theorem topMergeF5 : namedTie Tryz.prog Rows.topMergeRow.named Rows.topMergeSpec.vars = true := by kernel_rfl
theorem topMergeF6 : (Rows.topMergeRow.stops == []) = true := by kernel_rfl
theorem topMergeF7 : (Tryz.prog.stops == []) = true := by kernel_rfl
theorem topMergeF8 : (Rows.topMergeRow.knobs == []) = true := by kernel_rfl
theorem topMergeF9 : (Tryz.prog.stopKnobs == []) = true := by kernel_rfl
theorem topMergeF10 : (Rows.topMergeRow.inPlace == Tryz.prog.inPlace 3) = true := by kernel_rfl
theorem topMergeF11 : (Rows.topMergeRow.unfollowed == Tryz.prog.unfollowed 3) = true := by kernel_rfl
theorem topMergeF12 : (Rows.topMergeRow.recurses == Tryz.prog.recurses 3) = true := by kernel_rfl
theorem topMergeF13 : (Rows.topMergeRow.named == Tryz.prog.varsNamed 3) = true := by kernel_rfl
theorem topMergeF14 : (Rows.topMergeRow.maps == (Tryz.f3.params.toList ++ Rows.topMergeSpec.plain.varTypes Tryz.prog).any (Tryz.prog.mapsRec ·)) = true := by kernel_rfl
theorem topMergeF15 : (Rows.topMergeRow.ifaces == (Tryz.f3.params.toList ++ Rows.topMergeSpec.plain.varTypes Tryz.prog).any (Tryz.prog.ifacesRec ·)) = true := by kernel_rfl
theorem topMergeF16 : (Rows.topMergeRow.mapsOut == Tryz.prog.mapsAmong Tryz.f3.resultTypes.toList) = true := by kernel_rfl
theorem topMergeF17 : (Rows.topMergeRow.loops == (Tryz.f3.params.toList ++ Rows.topMergeSpec.plain.varTypes Tryz.prog).any (Tryz.prog.loopsFrom ·)) = true := by kernel_rfl
theorem topMergeF18 : (Rows.topMergeRow.wideKeys == (Tryz.f3.params.toList ++ Rows.topMergeSpec.plain.varTypes Tryz.prog ++ Tryz.f3.resultTypes.toList).any (Tryz.prog.wideKeysFrom ·)) = true := by kernel_rfl
theorem topMergeF19 : Rows.topMergeSpec.vars.all (Tryz.prog.varReadable ·) = true := by kernel_rfl
theorem topMergeF20 : Tryz.f3.resultTypes.all (fun t => Tryz.prog.readableRec t && decide (t < Tryz.prog.types.size)) = true := by kernel_rfl
theorem topMergeF21 : (Rows.topMergeRow.ifacesOut == Tryz.f3.resultTypes.toList.any (Tryz.prog.ifacesRec ·)) = true := by kernel_rfl
theorem topMergeF22 : (Rows.topMergeRow.loopsOut == Tryz.f3.resultTypes.toList.any (Tryz.prog.loopsFrom ·)) = true := by kernel_rfl
theorem topMergeF23 : (Rows.topMergeRow.plainKeys == Tryz.prog.plainKeys) = true := by kernel_rfl
theorem topMergeF24 : Rows.topMergeRow.shortTexts.isNone = true := by kernel_rfl
theorem topMergeF25 : Tryz.prog.stopsHeard = true := by kernel_rfl
theorem topMergeF26 : Tryz.prog.mayEnter = true := by kernel_rfl
theorem topMergeF27 : (Rows.topMergeRow.lifted == Tryz.prog.liftsFinal) = true := by kernel_rfl
theorem topMergeF28 : (Tryz.prog.make == some Rows.topMergeRow.make) = true := by kernel_rfl
theorem topMergeF29 : (Rows.topMergeRow.kinds == (if Rows.topMergeRow.domain.isEmpty then [] else Tryz.f3.params.toList.map fun t => match Tryz.prog.underlying t with | some (.int k) => some k | _ => none)) = true := by kernel_rfl
theorem topMergeF30 : (Rows.topMergeRow.pinned == Rows.topMergeRow.pinnedBy) = true := by kernel_rfl
theorem topMergeF31 : (Rows.topMergeRow.veiled == (Tryz.f3.params.toList ++ Rows.topMergeSpec.plain.varTypes Tryz.prog ++ Tryz.f3.resultTypes.toList).any (Tryz.prog.veiledRec ·)) = true := by kernel_rfl
theorem topMergeF32 : Rows.topMergeRow.veiledFits Tryz.prog Tryz.f3.params.toList (Tryz.f3.params.toList ++ Rows.topMergeSpec.plain.varTypes Tryz.prog ++ Tryz.f3.resultTypes.toList) = true := by kernel_rfl
theorem topMergeFi : Tryz.f3.isInstance Tryz.prog Rows.topMergeRow.origin Rows.topMergeRow.targs := of_decide_eq_true (by kernel_rfl)
theorem topMergeFw : Tryz.f3.isWrapper Tryz.prog Rows.topMergeRow.wrapper Rows.topMergeRow.mainSum := by unfold Func.isWrapper; first | (rw [if_pos (by decide +kernel)]; kernel_rfl) | (rw [if_neg (by decide +kernel)]; exact ⟨rfl, rfl⟩)
theorem topMergeFc : joinedFacts Tryz.prog 3 Tryz.f3 Rows.topMergeSpec Rows.topMergeRow = true := by
  unfold joinedFacts
  simp only [Bool.and_eq_true]
  exact ⟨⟨⟨⟨⟨⟨⟨⟨⟨⟨⟨⟨⟨⟨⟨⟨⟨⟨⟨⟨⟨⟨⟨⟨⟨⟨⟨⟨⟨⟨⟨topMergeF1, topMergeF2⟩, topMergeF3⟩, topMergeF4⟩, topMergeF5⟩, topMergeF6⟩, topMergeF7⟩, topMergeF8⟩, topMergeF9⟩, topMergeF10⟩, topMergeF11⟩, topMergeF12⟩, topMergeF13⟩, topMergeF14⟩, topMergeF15⟩, topMergeF16⟩, topMergeF17⟩, topMergeF18⟩, topMergeF19⟩, topMergeF20⟩, topMergeF21⟩, topMergeF22⟩, topMergeF23⟩, topMergeF24⟩, topMergeF25⟩, topMergeF26⟩, topMergeF27⟩, topMergeF28⟩, topMergeF29⟩, topMergeF30⟩, topMergeF31⟩, topMergeF32⟩
end Go.Proofs.YtgenjpingdkmgaaGreatDoor
