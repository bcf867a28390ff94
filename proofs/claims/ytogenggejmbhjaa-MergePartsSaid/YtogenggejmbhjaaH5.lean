/- The law MergeParts holds: whatever the input, true, and each argument reads behind the call as it did. No condition. -/
import Derived.Test.YtogenggejmbhjaaTie14
import Derived.Test.YtogenggejmbhjaaL5
set_option autoImplicit false
set_option linter.unusedSimpArgs false
set_option linter.unusedVariables false
set_option maxRecDepth 100000
set_option linter.constructorNameAsVariable false
namespace Go.Proofs.Ytogenggejmbhjaa
open Go.ChangeShapes Go.WideShapes Go.ChangeAt Go.RowKit
theorem mergeParts_lifted (os : Os) (started : os.Started) (H : Type) (enc : TypeId × Value → H) :
    ReturnsInHanded {} Try.checked os 5 .any (Rows.mergePartsSpec.pre6 enc Try.prog Try.f5 Rows.mergePartsRow.domain false) (Rows.mergePartsSpec.post enc Try.prog Try.f5 false true false false) := by
  refine returnsInHanded_of_change (C := Try.checked) Eng.own_none started (by kernel_rfl) Try.func5
    (ChangeSpec.witness6 (enc := enc) (C := Try.checked) false ⟨#[], #[.slice none 0 0, .int .u8 0], []⟩ 8 (by kernel_rfl) (by kernel_rfl) (by kernel_rfl) (by kernel_rfl)) ?_
  intro W base args ds gs before hval0 hW hcnd _
  refine Eng.law_contract (P := Try.prog) (fn := Try.f5) (s := Rows.mergePartsSpec) (tb := 4) Eng.laid_out rfl rfl (by kernel_rfl) ?_ ?_ (Eng.ArgsRd.cons Eng.arg_lists (Eng.ArgsRd.cons (Eng.arg_int (k := .u8) (by kernel_rfl)) Eng.ArgsRd.nil)) ?_ W base args ds gs before hval0 hW
  · intro t ht
    have e : Try.f5.params.toList = [22, 5] := rfl
    rw [e] at ht
    simp only [List.mem_cons, List.not_mem_nil, or_false] at ht
    rcases ht with rfl | rfl <;> exact ⟨by kernel_rfl, of_decide_eq_true (by kernel_rfl)⟩
  · intro H ds hl
    match ds, hl with
    | [d1, d2], _ => exact ⟨rfl, rfl, rfl⟩
  · rintro Ds ⟨_, _, ⟨x1, hx1x1, rfl⟩, ⟨_, _, ⟨x2, l2, u2, rfl⟩, rfl, rfl⟩, rfl⟩
    exact Eng.mparts_c x1 x2 l2 u2 hx1x1
theorem mergeParts_holds : Rows.MergePartsSaid :=
  OpenClaim.holds_of_wide 5 Try.f5 rfl rfl rfl rfl rfl rfl rfl ⟨rfl, rfl, rfl, rfl, rfl⟩ rfl rfl rfl rfl rfl (by kernel_rfl) Try.func5 (by kernel_rfl)
    (of_decide_eq_true (by kernel_rfl)) (by unfold Func.isWrapper; first | (rw [if_pos (by decide +kernel)]; kernel_rfl) | (rw [if_neg (by decide +kernel)]; exact ⟨rfl, rfl⟩))
    (fun os started H enc _ => mergeParts_lifted os started H enc)
end Go.Proofs.Ytogenggejmbhjaa
