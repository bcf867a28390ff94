/- The law NumBack holds, as the tied card says: whatever the input, true, and each argument reads behind the call as it did; the package-level variables that the row lists are tied to the program's text by the given tie. -/
import Derived.Test.YtllfgnhnooonfaaDoorCards
import Derived.Test.YtllfgnhnooonfaaDoorTie
import Derived.Test.YtllfgnhnooonfaaDoorArgs
import Derived.Test.YtllfgnhnooonfaaDoorL8
import Derived.Test.YtllfgnhnooonfaaDoorZ9
import Derived.Lay
import Derived.LaidMore
import Derived.Handed
import Derived.SevenTiedAt
import Derived.Stop.Joined
set_option autoImplicit false
set_option linter.unusedSimpArgs false
set_option linter.unusedVariables false
set_option maxRecDepth 100000
set_option linter.constructorNameAsVariable false
namespace Go.Proofs.YtllfgnhnooonfaaDoor
open Go.ChangeShapes Go.WideShapes Go.ChangeAt Go.RowKit
theorem numBack_lifted (os : Os) (started : os.Started) (H : Type) (enc : TypeId × Value → H) :
    ReturnsInHanded {} Tryd.checked os 8 .any (fun w args => (Rows.numBackSpec.pre enc Tryd.prog Tryd.f8 Rows.numBackRow.domain false w args ∧ laidMetH Tryd.prog Rows.numBackRow.laid w) ∧ sizedMet enc Tryd.prog Tryd.f8 (OpenSpec.ofChange Rows.numBackSpec) false w args)
      (Rows.numBackSpec.post enc Tryd.prog Tryd.f8 false true false false) := by
  refine returnsInHanded_of_change_and (C := Tryd.checked) (X := fun w _ => laidMetH Tryd.prog Rows.numBackRow.laid w) (fun _ _ _ hh h => h.of_heap hh) Eng.own_none started (by kernel_rfl) Tryd.func8
    (ChangeSpec.witness_shaped (enc := enc) (C := Tryd.checked) (os := os) (X := fun w _ => laidMetH Tryd.prog Rows.numBackRow.laid w) false (World.laidAll Tryd.prog os Rows.numBackRow.laid) #[.int .i64 0, .string ⟨#[]⟩, .slice none 0 0, .int .u16 0] 8 (World.laidAll_os _ _ _)
      (World.shaped_of_ZipB (by kernel_rfl) (by kernel_rfl)) (by kernel_rfl) (by kernel_rfl) (by kernel_rfl)
      (by rw [MakeChecks.laidMetH_plain _ _ _ (by kernel_rfl)]; exact laidMet_laidAll _ (by kernel_rfl) (by kernel_rfl))) ?_
  intro W base args ds gs before hval0 hW hcnd _ hX2 _
  refine Eng.law_contract (P := Tryd.prog) (fn := Tryd.f8) (s := Rows.numBackSpec) (tb := 4) Eng.laid_out rfl rfl (by kernel_rfl) ?_ ?_ (Eng.ArgsRd.cons (Eng.arg_int (k := .i64) (by kernel_rfl)) (Eng.ArgsRd.cons (Eng.arg_string (by kernel_rfl)) (Eng.ArgsRd.cons Eng.arg_ints (Eng.ArgsRd.cons (Eng.arg_int (k := .u16) (by kernel_rfl)) Eng.ArgsRd.nil)))) ?_ W base args ds gs before hval0 hW (Eng.glob_of (by rw [MakeChecks.laidMetH_plain _ _ _ (by kernel_rfl)] at hX2; exact hX2))
  · intro t ht
    have e : Tryd.f8.params.toList = [2, 9, 35, 38] := rfl
    rw [e] at ht
    simp only [List.mem_cons, List.not_mem_nil, or_false] at ht
    rcases ht with rfl | rfl | rfl | rfl <;> exact ⟨by kernel_rfl, of_decide_eq_true (by kernel_rfl)⟩
  · intro H ds hl
    match ds, hl with
    | [d1, d2, d3, d4], _ => exact ⟨rfl, rfl, rfl⟩
  · rintro Ds ⟨_, _, ⟨x1, l1, u1, rfl⟩, ⟨_, _, ⟨x2, u2, rfl⟩, ⟨_, _, ⟨x3, hx3x1, rfl⟩, ⟨_, _, ⟨x4, l4, u4, rfl⟩, rfl, rfl⟩, rfl⟩, rfl⟩, rfl⟩
    exact Eng.back_c x1 x2 x3 x4 u2 hx3x1 ⟨l4, u4⟩
theorem numBack_row : Rows.NumBackSaid :=
  OpenClaim.holds_of_wide 8 Tryd.f8 rfl rfl rfl rfl rfl rfl rfl ⟨rfl, rfl, rfl, rfl, rfl⟩ rfl rfl rfl rfl rfl (by kernel_rfl) Tryd.func8 (by kernel_rfl)
    (of_decide_eq_true (by kernel_rfl)) (by unfold Func.isWrapper; first | (rw [if_pos (by decide +kernel)]; kernel_rfl) | (rw [if_neg (by decide +kernel)]; exact ⟨rfl, rfl⟩))
    (fun os started H enc _ => numBack_lifted os started H enc)
theorem numBack_card : Rows.NumBackCardSaid :=
  Claim7.holds_tied_plain_at .later [] [.data, .data, .data, .sentinel, .sentinel] true (true, "9aca4b21a07cd80f96981ea419f4d24a24dc402779fac86041eb5623730f5d24") true numBack_row (fun _ h => by cases h) (by kernel_rfl) (fun _ h => by cases h) numBack_row_tie rfl ⟨rfl, rfl⟩ (by kernel_rfl) rfl
    (fun f fn hf hfn => by
      obtain rfl : f = 8 := Option.some.inj ((show Tryd.prog.funcNamed "checkroll/checkrolllaw01.NumBack" = some 8 by kernel_rfl).symm.trans hf) |>.symm
      obtain rfl : fn = Tryd.f8 := (Option.some.inj (Tryd.func8.symm.trans hfn)).symm
      exact ⟨by kernel_rfl, fun j t ht => by
        rw [Tryd.params8] at ht
        have hm : t ∈ [2, 9, 35, 38] := by simpa using Array.mem_of_getElem? ht
        have hall : ([2, 9, 35, 38].all fun u => !Tryd.prog.wantsStandIn u) = true := by kernel_rfl
        exact (show Tryd.prog.wantsStandIn t = false by simpa using List.all_eq_true.1 hall t hm)⟩)
    (by kernel_rfl)
end Go.Proofs.YtllfgnhnooonfaaDoor
