/- The law RateNext holds: whatever the input, true, and each argument reads behind the call as it did. No condition. -/
import Derived.Test.YtfndbcebbdbhaaaTie
import Derived.Test.YtfndbcebbdbhaaaL4
set_option autoImplicit false
set_option linter.unusedSimpArgs false
set_option linter.unusedVariables false
namespace Go.Proofs.Ytfndbcebbdbhaaa
open Go.ChangeShapes Go.WideShapes Go.ChangeAt Go.RowKit
theorem rateNext_lifted (os : Os) (started : os.Started) (H : Type) (enc : TypeId × Value → H) :
    ReturnsInHanded {} Try.checked os 4 .any (Rows.rateNextSpec.pre6 enc Try.prog Try.f4 Rows.rateNextRow.domain false) (Rows.rateNextSpec.post enc Try.prog Try.f4 false true false false) := by
  refine returnsInHanded_of_change (C := Try.checked) Eng.own_none started (by kernel_rfl) Try.func4
    (ChangeSpec.witness6 (enc := enc) (C := Try.checked) false ⟨#[], #[.agg #[.int .i64 0, .int .i64 0, .slice none 0 0], .int .i64 0, .int .u16 0], []⟩ 8 (by kernel_rfl) (by kernel_rfl) (by kernel_rfl) (by kernel_rfl)) ?_
  intro W base args ds gs before hval0 hW hcnd _
  refine Eng.law_contract (P := Try.prog) (fn := Try.f4) (s := Rows.rateNextSpec) (tb := 4) Eng.laid_out rfl rfl (by kernel_rfl) ?_ ?_ (Eng.ArgsRd.cons Eng.arg_rate (Eng.ArgsRd.cons (Eng.arg_int (k := .i64) (by kernel_rfl)) (Eng.ArgsRd.cons (Eng.arg_int (k := .u16) (by kernel_rfl)) Eng.ArgsRd.nil))) ?_ W base args ds gs before hval0 hW
  · intro t ht
    have e : Try.f4.params.toList = [24, 2, 36] := rfl
    rw [e] at ht
    simp only [List.mem_cons, List.not_mem_nil, or_false] at ht
    rcases ht with rfl | rfl | rfl <;> exact ⟨by kernel_rfl, of_decide_eq_true (by kernel_rfl)⟩
  · intro H ds hl
    match ds, hl with
    | [d1, d2, d3], _ => exact ⟨rfl, rfl, rfl⟩
  · rintro Ds ⟨_, _, ⟨x1, x2, x3, rfl⟩, ⟨_, _, ⟨x4, l4, u4, rfl⟩, ⟨_, _, ⟨x5, l5, u5, rfl⟩, rfl, rfl⟩, rfl⟩, rfl⟩
    exact Eng.rateNext_c x1 x2 x4 x3 x5 l5 u5
theorem rateNext_holds : Rows.RateNextSaid :=
  OpenClaim.holds_of_wide 4 Try.f4 rfl rfl rfl rfl rfl rfl rfl ⟨rfl, rfl, rfl, rfl, rfl⟩ rfl rfl rfl rfl rfl (by kernel_rfl) Try.func4 (by kernel_rfl)
    (of_decide_eq_true (by kernel_rfl)) (by unfold Func.isWrapper; first | (rw [if_pos (by decide +kernel)]; kernel_rfl) | (rw [if_neg (by decide +kernel)]; exact ⟨rfl, rfl⟩))
    (fun os started H enc _ => rateNext_lifted os started H enc)
end Go.Proofs.Ytfndbcebbdbhaaa
