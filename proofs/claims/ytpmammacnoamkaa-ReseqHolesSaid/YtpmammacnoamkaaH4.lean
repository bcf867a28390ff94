/- The law ReseqHoles holds: whatever the input, true, and each argument reads behind the call as it did. No condition. -/
import Derived.Test.YtpmammacnoamkaaTie6
import Derived.Test.YtpmammacnoamkaaL4
set_option autoImplicit false
set_option linter.unusedSimpArgs false
set_option linter.unusedVariables false
set_option maxRecDepth 100000
set_option linter.constructorNameAsVariable false
namespace Go.Proofs.Ytpmammacnoamkaa
open Go.ChangeShapes Go.WideShapes Go.ChangeAt Go.RowKit
theorem reseqHoles_lifted (os : Os) (started : os.Started) (H : Type) (enc : TypeId × Value → H) :
    ReturnsInHanded {} Try.checked os 4 .any (Rows.reseqHolesSpec.pre6 enc Try.prog Try.f4 Rows.reseqHolesRow.domain false) (Rows.reseqHolesSpec.post enc Try.prog Try.f4 false true false false) := by
  refine returnsInHanded_of_change (C := Try.checked) Eng.own_none started (by kernel_rfl) Try.func4
    (ChangeSpec.witness6 (enc := enc) (C := Try.checked) false ⟨#[], #[.agg #[.int .i64 0, .slice none 0 0], .slice none 0 0], []⟩ 8 (by kernel_rfl) (by kernel_rfl) (by kernel_rfl) (by kernel_rfl)) ?_
  intro W base args ds gs before hval0 hW hcnd _
  refine Eng.law_contract (P := Try.prog) (fn := Try.f4) (s := Rows.reseqHolesSpec) (tb := 4) Eng.laid_out rfl rfl (by kernel_rfl) ?_ ?_ (Eng.ArgsRd.cons Eng.arg_line (Eng.ArgsRd.cons Eng.arg_items Eng.ArgsRd.nil)) ?_ W base args ds gs before hval0 hW
  · intro t ht
    have e : Try.f4.params.toList = [26, 24] := rfl
    rw [e] at ht
    simp only [List.mem_cons, List.not_mem_nil, or_false] at ht
    rcases ht with rfl | rfl <;> exact ⟨by kernel_rfl, of_decide_eq_true (by kernel_rfl)⟩
  · intro H ds hl
    match ds, hl with
    | [d1, d2], _ => exact ⟨rfl, rfl, rfl⟩
  · rintro Ds ⟨_, _, ⟨x1, x2, hx2x2, rfl⟩, ⟨_, _, ⟨x3, hx3x1, rfl⟩, rfl, rfl⟩, rfl⟩
    exact Eng.holes_law x1 x2 x3 hx2x2.1 hx2x2.2 hx3x1
theorem reseqHoles_holds : Rows.ReseqHolesSaid :=
  OpenClaim.holds_of_wide 4 Try.f4 rfl rfl rfl rfl rfl rfl rfl ⟨rfl, rfl, rfl, rfl, rfl⟩ rfl rfl rfl rfl rfl (by kernel_rfl) Try.func4 (by kernel_rfl)
    (of_decide_eq_true (by kernel_rfl)) (by unfold Func.isWrapper; first | (rw [if_pos (by decide +kernel)]; kernel_rfl) | (rw [if_neg (by decide +kernel)]; exact ⟨rfl, rfl⟩))
    (fun os started H enc _ => reseqHoles_lifted os started H enc)
end Go.Proofs.Ytpmammacnoamkaa
