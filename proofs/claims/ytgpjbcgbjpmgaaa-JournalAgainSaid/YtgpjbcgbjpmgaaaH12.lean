/- The law JournalAgain holds: whatever the input, true, and each argument reads behind the call as it did. No condition. -/
import Derived.Test.YtgpjbcgbjpmgaaaTie10
import Derived.Test.YtgpjbcgbjpmgaaaL12
set_option autoImplicit false
set_option linter.unusedSimpArgs false
set_option linter.unusedVariables false
set_option maxRecDepth 100000
set_option linter.constructorNameAsVariable false
namespace Go.Proofs.Ytgpjbcgbjpmgaaa
open Go.ChangeShapes Go.WideShapes Go.ChangeAt Go.RowKit
theorem journalAgain_lifted (os : Os) (started : os.Started) (H : Type) (enc : TypeId × Value → H) :
    ReturnsInHanded {} Try.checked os 12 .any (Rows.journalAgainSpec.pre6 enc Try.prog Try.f12 Rows.journalAgainRow.domain false) (Rows.journalAgainSpec.post enc Try.prog Try.f12 false true false false) := by
  refine returnsInHanded_of_change (C := Try.checked) Eng.own_none started (by kernel_rfl) Try.func12
    (ChangeSpec.witness6 (enc := enc) (C := Try.checked) false ⟨#[], #[.agg #[.slice none 0 0, .slice none 0 0, .slice none 0 0, .slice none 0 0], .slice none 0 0], []⟩ 8 (by kernel_rfl) (by kernel_rfl) (by kernel_rfl) (by kernel_rfl)) ?_
  intro W base args ds gs before hval0 hW hcnd _
  refine Eng.law_contract (P := Try.prog) (fn := Try.f12) (s := Rows.journalAgainSpec) (tb := 4) Eng.laid_out rfl rfl (by kernel_rfl) ?_ ?_ (Eng.ArgsRd.cons Eng.arg_diskB (Eng.ArgsRd.cons Eng.arg_byt Eng.ArgsRd.nil)) ?_ W base args ds gs before hval0 hW
  · intro t ht
    have e : Try.f12.params.toList = [67, 22] := rfl
    rw [e] at ht
    simp only [List.mem_cons, List.not_mem_nil, or_false] at ht
    rcases ht with rfl | rfl <;> exact ⟨by kernel_rfl, of_decide_eq_true (by kernel_rfl)⟩
  · intro H ds hl
    match ds, hl with
    | [d1, d2], _ => exact ⟨rfl, rfl, rfl⟩
  · rintro Ds ⟨_, _, ⟨x1, x2, x3, x4, hx4x4, rfl⟩, ⟨_, _, ⟨x5, hx5x1, rfl⟩, rfl, rfl⟩, rfl⟩
    exact Eng.again_c x1 x2 x3 x4 x5 (Eng.byt_app hx4x4.1.1.2 hx4x4.1.2.2) (Eng.byt_app hx4x4.2.1.2 hx4x4.2.2.2) hx5x1.2 hx4x4.1.1.1 hx4x4.1.2.1 hx4x4.2.1.1 hx4x4.2.2.1 hx5x1.1
theorem journalAgain_holds : Rows.JournalAgainSaid :=
  OpenClaim.holds_of_wide 12 Try.f12 rfl rfl rfl rfl rfl rfl rfl ⟨rfl, rfl, rfl, rfl, rfl⟩ rfl rfl rfl rfl rfl (by kernel_rfl) Try.func12 (by kernel_rfl)
    (of_decide_eq_true (by kernel_rfl)) (by unfold Func.isWrapper; first | (rw [if_pos (by decide +kernel)]; kernel_rfl) | (rw [if_neg (by decide +kernel)]; exact ⟨rfl, rfl⟩))
    (fun os started H enc _ => journalAgain_lifted os started H enc)
end Go.Proofs.Ytgpjbcgbjpmgaaa
