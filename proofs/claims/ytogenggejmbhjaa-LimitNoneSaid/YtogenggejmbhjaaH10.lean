/- The law LimitNone holds: whatever the input, true, and each argument reads behind the call as it did. No condition. -/
import Derived.Test.YtogenggejmbhjaaTie17
import Derived.Test.YtogenggejmbhjaaL10
set_option autoImplicit false
set_option linter.unusedSimpArgs false
set_option linter.unusedVariables false
set_option maxRecDepth 100000
set_option linter.constructorNameAsVariable false
namespace Go.Proofs.Ytogenggejmbhjaa
open Go.ChangeShapes Go.WideShapes Go.ChangeAt Go.RowKit
theorem limitNone_lifted (os : Os) (started : os.Started) (H : Type) (enc : TypeId × Value → H) :
    ReturnsInHanded {} Try.checked os 10 .any (Rows.limitNoneSpec.pre6 enc Try.prog Try.f10 Rows.limitNoneRow.domain false) (Rows.limitNoneSpec.post enc Try.prog Try.f10 false true false false) := by
  refine returnsInHanded_of_change (C := Try.checked) Eng.own_none started (by kernel_rfl) Try.func10
    (ChangeSpec.witness6 (enc := enc) (C := Try.checked) false ⟨#[], #[.agg #[.string ⟨#[]⟩, .string ⟨#[]⟩, .string ⟨#[]⟩, .bool false, .int .i64 0, .int .i64 0, .int .i64 0, .bool false], .agg #[.int .i64 0, .int .i64 0], .agg #[.string ⟨#[]⟩, .string ⟨#[]⟩, .int .i64 0, .int .i64 0, .int .i64 0, .int .i64 0]], []⟩ 8 (by kernel_rfl) (by kernel_rfl) (by kernel_rfl) (by kernel_rfl)) ?_
  intro W base args ds gs before hval0 hW hcnd _
  refine Eng.law_contract (P := Try.prog) (fn := Try.f10) (s := Rows.limitNoneSpec) (tb := 4) Eng.laid_out rfl rfl (by kernel_rfl) ?_ ?_ (Eng.ArgsRd.cons Eng.arg_ord (Eng.ArgsRd.cons Eng.arg_worst (Eng.ArgsRd.cons Eng.arg_lim Eng.ArgsRd.nil))) ?_ W base args ds gs before hval0 hW
  · intro t ht
    have e : Try.f10.params.toList = [42, 44, 40] := rfl
    rw [e] at ht
    simp only [List.mem_cons, List.not_mem_nil, or_false] at ht
    rcases ht with rfl | rfl | rfl <;> exact ⟨by kernel_rfl, of_decide_eq_true (by kernel_rfl)⟩
  · intro H ds hl
    match ds, hl with
    | [d1, d2, d3], _ => exact ⟨rfl, rfl, rfl⟩
  · rintro Ds ⟨_, _, ⟨x1, hx1x1, rfl⟩, ⟨_, _, ⟨x2, x3, hx3x2, rfl⟩, ⟨_, _, ⟨x4, hx4x1, rfl⟩, rfl, rfl⟩, rfl⟩, rfl⟩
    exact Eng.none_c x1 x2 x3 x4 hx3x2.1 hx3x2.2 hx1x1.1 hx1x1.2 hx4x1.1 hx4x1.2
theorem limitNone_holds : Rows.LimitNoneSaid :=
  OpenClaim.holds_of_wide 10 Try.f10 rfl rfl rfl rfl rfl rfl rfl ⟨rfl, rfl, rfl, rfl, rfl⟩ rfl rfl rfl rfl rfl (by kernel_rfl) Try.func10 (by kernel_rfl)
    (of_decide_eq_true (by kernel_rfl)) (by unfold Func.isWrapper; first | (rw [if_pos (by decide +kernel)]; kernel_rfl) | (rw [if_neg (by decide +kernel)]; exact ⟨rfl, rfl⟩))
    (fun os started H enc _ => limitNone_lifted os started H enc)
end Go.Proofs.Ytogenggejmbhjaa
