/- The law JournalKeeps holds: whatever the input, true, and each argument reads behind the call as it did. No condition. -/
import Derived.Test.YtgpjbcgbjpmgaaaTie10
import Derived.Test.YtgpjbcgbjpmgaaaL13
set_option autoImplicit false
set_option linter.unusedSimpArgs false
set_option linter.unusedVariables false
set_option maxRecDepth 100000
set_option linter.constructorNameAsVariable false
namespace Go.Proofs.Ytgpjbcgbjpmgaaa
open Go.ChangeShapes Go.WideShapes Go.ChangeAt Go.RowKit
theorem journalKeeps_lifted (os : Os) (started : os.Started) (H : Type) (enc : TypeId × Value → H) :
    ReturnsInHanded {} Try.checked os 13 .any (Rows.journalKeepsSpec.pre6 enc Try.prog Try.f13 Rows.journalKeepsRow.domain false) (Rows.journalKeepsSpec.post enc Try.prog Try.f13 false true false false) := by
  refine returnsInHanded_of_change (C := Try.checked) Eng.own_none started (by kernel_rfl) Try.func13
    (ChangeSpec.witness6 (enc := enc) (C := Try.checked) false ⟨#[], #[.slice none 0 0], []⟩ 8 (by kernel_rfl) (by kernel_rfl) (by kernel_rfl) (by kernel_rfl)) ?_
  intro W base args ds gs before hval0 hW hcnd _
  refine Eng.law_contract (P := Try.prog) (fn := Try.f13) (s := Rows.journalKeepsSpec) (tb := 4) Eng.laid_out rfl rfl (by kernel_rfl) ?_ ?_ (Eng.ArgsRd.cons Eng.arg_dosJ Eng.ArgsRd.nil) ?_ W base args ds gs before hval0 hW
  · intro t ht
    have e : Try.f13.params.toList = [89] := rfl
    rw [e] at ht
    simp only [List.mem_cons, List.not_mem_nil, or_false] at ht
    rcases ht with rfl <;> exact ⟨by kernel_rfl, of_decide_eq_true (by kernel_rfl)⟩
  · intro H ds hl
    match ds, hl with
    | [d1], _ => exact ⟨rfl, rfl, rfl⟩
  · rintro Ds ⟨_, _, ⟨x1, hx1x1, rfl⟩, rfl, rfl⟩
    exact Eng.keepsJ_c x1 hx1x1.2 hx1x1.1
theorem journalKeeps_holds : Rows.JournalKeepsSaid :=
  OpenClaim.holds_of_wide 13 Try.f13 rfl rfl rfl rfl rfl rfl rfl ⟨rfl, rfl, rfl, rfl, rfl⟩ rfl rfl rfl rfl rfl (by kernel_rfl) Try.func13 (by kernel_rfl)
    (of_decide_eq_true (by kernel_rfl)) (by unfold Func.isWrapper; first | (rw [if_pos (by decide +kernel)]; kernel_rfl) | (rw [if_neg (by decide +kernel)]; exact ⟨rfl, rfl⟩))
    (fun os started H enc _ => journalKeeps_lifted os started H enc)
end Go.Proofs.Ytgpjbcgbjpmgaaa
