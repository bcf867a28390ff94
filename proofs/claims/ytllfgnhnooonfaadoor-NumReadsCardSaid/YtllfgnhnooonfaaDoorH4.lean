/- The law NumReads holds, as the tied card says: whatever the input, true, and each argument reads behind the call as it did; the package-level variables that the row lists are tied to the program's text by the given tie. -/
import Derived.Test.YtllfgnhnooonfaaDoorCards
import Derived.Test.YtllfgnhnooonfaaDoorTie
import Derived.Test.YtllfgnhnooonfaaDoorArgs
import Derived.Test.YtllfgnhnooonfaaDoorZ8
import Derived.Test.YtllfgnhnooonfaaDoorZ9
import Derived.Lay
import Derived.LaidMore
import Derived.Handed
import Derived.SevenTiedAt
import Derived.Stop.Joined
set_option autoImplicit false
set_option linter.unusedSimpArgs false
set_option linter.unusedVariables false
set_option maxRecDepth 100000
set_option linter.constructorNameAsVariable false
namespace Go.Proofs.YtllfgnhnooonfaaDoor
open Go.ChangeShapes Go.WideShapes Go.ChangeAt Go.RowKit
theorem numReads_lifted (os : Os) (started : os.Started) (H : Type) (enc : TypeId × Value → H) :
    ReturnsInHanded {} Tryd.checked os 4 .any (fun w args => (Rows.numReadsSpec.pre enc Tryd.prog Tryd.f4 Rows.numReadsRow.domain false w args ∧ laidMetH Tryd.prog Rows.numReadsRow.laid w) ∧ sizedMet enc Tryd.prog Tryd.f4 (OpenSpec.ofChange Rows.numReadsSpec) false w args)
      (Rows.numReadsSpec.post enc Tryd.prog Tryd.f4 false true false false) := by
  refine returnsInHanded_of_change_and (C := Tryd.checked) (X := fun w _ => laidMetH Tryd.prog Rows.numReadsRow.laid w) (fun _ _ _ hh h => h.of_heap hh) Eng.own_none started (by kernel_rfl) Tryd.func4
    (ChangeSpec.witness_shaped (enc := enc) (C := Tryd.checked) (os := os) (X := fun w _ => laidMetH Tryd.prog Rows.numReadsRow.laid w) false (World.laidAll Tryd.prog os Rows.numReadsRow.laid) #[.string ⟨#[]⟩, .int .i64 0] 8 (World.laidAll_os _ _ _)
      (World.shaped_of_ZipB (by kernel_rfl) (by kernel_rfl)) (by kernel_rfl) (by kernel_rfl) (by kernel_rfl)
      (by rw [MakeChecks.laidMetH_plain _ _ _ (by kernel_rfl)]; exact laidMet_laidAll _ (by kernel_rfl) (by kernel_rfl))) ?_
  intro W base args ds gs before hval0 hW hcnd _ hX2 _
  refine Eng.law_contract (P := Tryd.prog) (fn := Tryd.f4) (s := Rows.numReadsSpec) (tb := 4) Eng.laid_out rfl rfl (by kernel_rfl) ?_ ?_ (Eng.ArgsRd.cons (Eng.arg_string (by kernel_rfl)) (Eng.ArgsRd.cons (Eng.arg_int (k := .i64) (by kernel_rfl)) Eng.ArgsRd.nil)) ?_ W base args ds gs before hval0 hW (Eng.glob_of (by rw [MakeChecks.laidMetH_plain _ _ _ (by kernel_rfl)] at hX2; exact hX2))
  · intro t ht
    have e : Tryd.f4.params.toList = [9, 2] := rfl
    rw [e] at ht
    simp only [List.mem_cons, List.not_mem_nil, or_false] at ht
    rcases ht with rfl | rfl <;> exact ⟨by kernel_rfl, of_decide_eq_true (by kernel_rfl)⟩
  · intro H ds hl
    match ds, hl with
    | [d1, d2], _ => exact ⟨rfl, rfl, rfl⟩
  · rintro Ds ⟨_, _, ⟨x1, u1, rfl⟩, ⟨_, _, ⟨x2, l2, u2, rfl⟩, rfl, rfl⟩, rfl⟩
    exact Eng.reads_c x1 x2 u1
theorem numReads_row : Rows.NumReadsSaid :=
  OpenClaim.holds_of_wide 4 Tryd.f4 rfl rfl rfl rfl rfl rfl rfl ⟨rfl, rfl, rfl, rfl, rfl⟩ rfl rfl rfl rfl rfl (by kernel_rfl) Tryd.func4 (by kernel_rfl)
    (of_decide_eq_true (by kernel_rfl)) (by unfold Func.isWrapper; first | (rw [if_pos (by decide +kernel)]; kernel_rfl) | (rw [if_neg (by decide +kernel)]; exact ⟨rfl, rfl⟩))
    (fun os started H enc _ => numReads_lifted os started H enc)
theorem numReads_card : Rows.NumReadsCardSaid :=
  Claim7.holds_tied_plain_at .later [] [.data, .data, .data, .sentinel, .sentinel] true (true, "9aca4b21a07cd80f96981ea419f4d24a24dc402779fac86041eb5623730f5d24") true numReads_row (fun _ h => by cases h) (by kernel_rfl) (fun _ h => by cases h) numReads_row_tie rfl ⟨rfl, rfl⟩ (by kernel_rfl) rfl
    (fun f fn hf hfn => by
      obtain rfl : f = 4 := Option.some.inj ((show Tryd.prog.funcNamed "checkroll/checkrolllaw01.NumReads" = some 4 by kernel_rfl).symm.trans hf) |>.symm
      obtain rfl : fn = Tryd.f4 := (Option.some.inj (Tryd.func4.symm.trans hfn)).symm
      exact ⟨by kernel_rfl, fun j t ht => by
        rw [Tryd.params4] at ht
        have hm : t ∈ [9, 2] := by simpa using Array.mem_of_getElem? ht
        have hall : ([9, 2].all fun u => !Tryd.prog.wantsStandIn u) = true := by kernel_rfl
        exact (show Tryd.prog.wantsStandIn t = false by simpa using List.all_eq_true.1 hall t hm)⟩)
    (by kernel_rfl)
end Go.Proofs.YtllfgnhnooonfaaDoor
