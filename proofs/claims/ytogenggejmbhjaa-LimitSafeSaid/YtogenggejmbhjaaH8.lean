/- The law LimitSafe holds: whatever the input, true, and each argument reads behind the call as it did. No condition. -/
import Derived.Test.YtogenggejmbhjaaTie17
import Derived.Test.YtogenggejmbhjaaL8
set_option autoImplicit false
set_option linter.unusedSimpArgs false
set_option linter.unusedVariables false
set_option maxRecDepth 100000
set_option linter.constructorNameAsVariable false
namespace Go.Proofs.Ytogenggejmbhjaa
open Go.ChangeShapes Go.WideShapes Go.ChangeAt Go.RowKit
theorem limitSafe_lifted (os : Os) (started : os.Started) (H : Type) (enc : TypeId × Value → H) :
    ReturnsInHanded {} Try.checked os 8 .any (Rows.limitSafeSpec.pre6 enc Try.prog Try.f8 Rows.limitSafeRow.domain false) (Rows.limitSafeSpec.post enc Try.prog Try.f8 false true false false) := by
  refine returnsInHanded_of_change (C := Try.checked) Eng.own_none started (by kernel_rfl) Try.func8
    (ChangeSpec.witness6 (enc := enc) (C := Try.checked) false ⟨#[], #[.slice none 0 0, .agg #[.string ⟨#[]⟩, .string ⟨#[]⟩, .string ⟨#[]⟩, .bool false, .int .i64 0, .int .i64 0, .int .i64 0, .bool false], .agg #[.int .i64 0, .int .i64 0], .int .u16 0], []⟩ 8 (by kernel_rfl) (by kernel_rfl) (by kernel_rfl) (by kernel_rfl)) ?_
  intro W base args ds gs before hval0 hW hcnd _
  refine Eng.law_contract (P := Try.prog) (fn := Try.f8) (s := Rows.limitSafeSpec) (tb := 4) Eng.laid_out rfl rfl (by kernel_rfl) ?_ ?_ (Eng.ArgsRd.cons Eng.arg_lims (Eng.ArgsRd.cons Eng.arg_ord (Eng.ArgsRd.cons Eng.arg_worst (Eng.ArgsRd.cons (Eng.arg_int (k := .u16) (by kernel_rfl)) Eng.ArgsRd.nil)))) ?_ W base args ds gs before hval0 hW
  · intro t ht
    have e : Try.f8.params.toList = [38, 42, 44, 55] := rfl
    rw [e] at ht
    simp only [List.mem_cons, List.not_mem_nil, or_false] at ht
    rcases ht with rfl | rfl | rfl | rfl <;> exact ⟨by kernel_rfl, of_decide_eq_true (by kernel_rfl)⟩
  · intro H ds hl
    match ds, hl with
    | [d1, d2, d3, d4], _ => exact ⟨rfl, rfl, rfl⟩
  · rintro Ds ⟨_, _, ⟨x1, hx1x1, rfl⟩, ⟨_, _, ⟨x2, hx2x1, rfl⟩, ⟨_, _, ⟨x3, x4, hx4x2, rfl⟩, ⟨_, _, ⟨x5, l5, u5, rfl⟩, rfl, rfl⟩, rfl⟩, rfl⟩, rfl⟩
    exact Eng.safe_c x1 x2 x3 x4 x5 hx1x1 hx4x2.1 hx4x2.2 hx2x1.1 hx2x1.2 ⟨l5, u5⟩
theorem limitSafe_holds : Rows.LimitSafeSaid :=
  OpenClaim.holds_of_wide 8 Try.f8 rfl rfl rfl rfl rfl rfl rfl ⟨rfl, rfl, rfl, rfl, rfl⟩ rfl rfl rfl rfl rfl (by kernel_rfl) Try.func8 (by kernel_rfl)
    (of_decide_eq_true (by kernel_rfl)) (by unfold Func.isWrapper; first | (rw [if_pos (by decide +kernel)]; kernel_rfl) | (rw [if_neg (by decide +kernel)]; exact ⟨rfl, rfl⟩))
    (fun os started H enc _ => limitSafe_lifted os started H enc)
end Go.Proofs.Ytogenggejmbhjaa
