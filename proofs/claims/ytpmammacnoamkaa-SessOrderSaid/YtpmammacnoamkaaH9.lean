/- The law SessOrder holds: whatever the input, true, and each argument reads behind the call as it did. No condition. -/
import Derived.Test.YtpmammacnoamkaaTie8
import Derived.Test.YtpmammacnoamkaaL9
set_option autoImplicit false
set_option linter.unusedSimpArgs false
set_option linter.unusedVariables false
set_option maxRecDepth 100000
set_option linter.constructorNameAsVariable false
namespace Go.Proofs.Ytpmammacnoamkaa
open Go.ChangeShapes Go.WideShapes Go.ChangeAt Go.RowKit
theorem sessOrder_lifted (os : Os) (started : os.Started) (H : Type) (enc : TypeId × Value → H) :
    ReturnsInHanded {} Try.checked os 9 .any (Rows.sessOrderSpec.pre6 enc Try.prog Try.f9 Rows.sessOrderRow.domain false) (Rows.sessOrderSpec.post enc Try.prog Try.f9 false true false false) := by
  refine returnsInHanded_of_change (C := Try.checked) Eng.own_none started (by kernel_rfl) Try.func9
    (ChangeSpec.witness6 (enc := enc) (C := Try.checked) false ⟨#[], #[.int .u8 0, .slice none 0 0], []⟩ 8 (by kernel_rfl) (by kernel_rfl) (by kernel_rfl) (by kernel_rfl)) ?_
  intro W base args ds gs before hval0 hW hcnd _
  refine Eng.law_contract (P := Try.prog) (fn := Try.f9) (s := Rows.sessOrderSpec) (tb := 4) Eng.laid_out rfl rfl (by kernel_rfl) ?_ ?_ (Eng.ArgsRd.cons (Eng.arg_int (k := .u8) (by kernel_rfl)) (Eng.ArgsRd.cons Eng.arg_acts Eng.ArgsRd.nil)) ?_ W base args ds gs before hval0 hW
  · intro t ht
    have e : Try.f9.params.toList = [5, 59] := rfl
    rw [e] at ht
    simp only [List.mem_cons, List.not_mem_nil, or_false] at ht
    rcases ht with rfl | rfl <;> exact ⟨by kernel_rfl, of_decide_eq_true (by kernel_rfl)⟩
  · intro H ds hl
    match ds, hl with
    | [d1, d2], _ => exact ⟨rfl, rfl, rfl⟩
  · rintro Ds ⟨_, _, ⟨x1, l1, u1, rfl⟩, ⟨_, _, ⟨x2, hx2x1, rfl⟩, rfl, rfl⟩, rfl⟩
    exact Eng.sess_order_law x1 x2 ⟨l1, u1⟩ hx2x1.1 hx2x1.2
theorem sessOrder_holds : Rows.SessOrderSaid :=
  OpenClaim.holds_of_wide 9 Try.f9 rfl rfl rfl rfl rfl rfl rfl ⟨rfl, rfl, rfl, rfl, rfl⟩ rfl rfl rfl rfl rfl (by kernel_rfl) Try.func9 (by kernel_rfl)
    (of_decide_eq_true (by kernel_rfl)) (by unfold Func.isWrapper; first | (rw [if_pos (by decide +kernel)]; kernel_rfl) | (rw [if_neg (by decide +kernel)]; exact ⟨rfl, rfl⟩))
    (fun os started H enc _ => sessOrder_lifted os started H enc)
end Go.Proofs.Ytpmammacnoamkaa
