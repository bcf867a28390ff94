/- The law DiskCuts holds: whatever the input, true, and each argument reads behind the call as it did. No condition. -/
import Derived.Test.YtgpjbcgbjpmgaaaTie
import Derived.Test.YtgpjbcgbjpmgaaaL11
set_option autoImplicit false
set_option linter.unusedSimpArgs false
set_option linter.unusedVariables false
set_option maxRecDepth 100000
set_option linter.constructorNameAsVariable false
namespace Go.Proofs.Ytgpjbcgbjpmgaaa
open Go.ChangeShapes Go.WideShapes Go.ChangeAt Go.RowKit
theorem diskCuts_lifted (os : Os) (started : os.Started) (H : Type) (enc : TypeId × Value → H) :
    ReturnsInHanded {} Try.checked os 11 .any (Rows.diskCutsSpec.pre6 enc Try.prog Try.f11 Rows.diskCutsRow.domain false) (Rows.diskCutsSpec.post enc Try.prog Try.f11 false true false false) := by
  refine returnsInHanded_of_change (C := Try.checked) Eng.own_none started (by kernel_rfl) Try.func11
    (ChangeSpec.witness6 (enc := enc) (C := Try.checked) false ⟨#[], #[.agg #[.slice none 0 0, .slice none 0 0, .slice none 0 0, .slice none 0 0], .int .u8 0, .int .u16 0, .slice none 0 0, .agg #[.int .i64 0, .int .i64 0]], []⟩ 8 (by kernel_rfl) (by kernel_rfl) (by kernel_rfl) (by kernel_rfl)) ?_
  intro W base args ds gs before hval0 hW hcnd _
  refine Eng.law_contract (P := Try.prog) (fn := Try.f11) (s := Rows.diskCutsSpec) (tb := 4) Eng.laid_out rfl rfl (by kernel_rfl) ?_ ?_ (Eng.ArgsRd.cons Eng.arg_disk (Eng.ArgsRd.cons (Eng.arg_int (k := .u8) (by kernel_rfl)) (Eng.ArgsRd.cons (Eng.arg_int (k := .u16) (by kernel_rfl)) (Eng.ArgsRd.cons Eng.arg_bytes (Eng.ArgsRd.cons Eng.arg_keep Eng.ArgsRd.nil))))) ?_ W base args ds gs before hval0 hW
  · intro t ht
    have e : Try.f11.params.toList = [67, 5, 23, 22, 74] := rfl
    rw [e] at ht
    simp only [List.mem_cons, List.not_mem_nil, or_false] at ht
    rcases ht with rfl | rfl | rfl | rfl | rfl <;> exact ⟨by kernel_rfl, of_decide_eq_true (by kernel_rfl)⟩
  · intro H ds hl
    match ds, hl with
    | [d1, d2, d3, d4, d5], _ => exact ⟨rfl, rfl, rfl⟩
  · rintro Ds ⟨_, _, ⟨x1, x2, x3, x4, rfl⟩, ⟨_, _, ⟨x5, l5, u5, rfl⟩, ⟨_, _, ⟨x6, l6, u6, rfl⟩, ⟨_, _, ⟨x7, hx7x1, rfl⟩, ⟨_, _, ⟨x8, x9, rfl⟩, rfl, rfl⟩, rfl⟩, rfl⟩, rfl⟩, rfl⟩
    exact Eng.diskCuts_c x1 x2 x3 x4 x5 l5 u5 x6 l6 u6 x7 x8 x9
theorem diskCuts_holds : Rows.DiskCutsSaid :=
  OpenClaim.holds_of_wide 11 Try.f11 rfl rfl rfl rfl rfl rfl rfl ⟨rfl, rfl, rfl, rfl, rfl⟩ rfl rfl rfl rfl rfl (by kernel_rfl) Try.func11 (by kernel_rfl)
    (of_decide_eq_true (by kernel_rfl)) (by unfold Func.isWrapper; first | (rw [if_pos (by decide +kernel)]; kernel_rfl) | (rw [if_neg (by decide +kernel)]; exact ⟨rfl, rfl⟩))
    (fun os started H enc _ => diskCuts_lifted os started H enc)
end Go.Proofs.Ytgpjbcgbjpmgaaa
