/- The law ReseqRoom holds: whatever the input, true, and each argument reads behind the call as it did. No condition. -/
import Derived.Test.YtpmammacnoamkaaTie6
import Derived.Test.YtpmammacnoamkaaL5
set_option autoImplicit false
set_option linter.unusedSimpArgs false
set_option linter.unusedVariables false
set_option maxRecDepth 100000
set_option linter.constructorNameAsVariable false
namespace Go.Proofs.Ytpmammacnoamkaa
open Go.ChangeShapes Go.WideShapes Go.ChangeAt Go.RowKit
theorem reseqRoom_lifted (os : Os) (started : os.Started) (H : Type) (enc : TypeId × Value → H) :
    ReturnsInHanded {} Try.checked os 5 .any (Rows.reseqRoomSpec.pre6 enc Try.prog Try.f5 Rows.reseqRoomRow.domain false) (Rows.reseqRoomSpec.post enc Try.prog Try.f5 false true false false) := by
  refine returnsInHanded_of_change (C := Try.checked) Eng.own_none started (by kernel_rfl) Try.func5
    (ChangeSpec.witness6 (enc := enc) (C := Try.checked) false ⟨#[], #[.int .u16 0, .int .u8 0, .bool false], []⟩ 8 (by kernel_rfl) (by kernel_rfl) (by kernel_rfl) (by kernel_rfl)) ?_
  intro W base args ds gs before hval0 hW hcnd _
  refine Eng.law_contract (P := Try.prog) (fn := Try.f5) (s := Rows.reseqRoomSpec) (tb := 4) Eng.laid_out rfl rfl (by kernel_rfl) ?_ ?_ (Eng.ArgsRd.cons (Eng.arg_int (k := .u16) (by kernel_rfl)) (Eng.ArgsRd.cons (Eng.arg_int (k := .u8) (by kernel_rfl)) (Eng.ArgsRd.cons (Eng.arg_bool (by kernel_rfl)) Eng.ArgsRd.nil))) ?_ W base args ds gs before hval0 hW
  · intro t ht
    have e : Try.f5.params.toList = [41, 5, 4] := rfl
    rw [e] at ht
    simp only [List.mem_cons, List.not_mem_nil, or_false] at ht
    rcases ht with rfl | rfl | rfl <;> exact ⟨by kernel_rfl, of_decide_eq_true (by kernel_rfl)⟩
  · intro H ds hl
    match ds, hl with
    | [d1, d2, d3], _ => exact ⟨rfl, rfl, rfl⟩
  · rintro Ds ⟨_, _, ⟨x1, l1, u1, rfl⟩, ⟨_, _, ⟨x2, l2, u2, rfl⟩, ⟨_, _, ⟨x3, rfl⟩, rfl, rfl⟩, rfl⟩, rfl⟩
    exact Eng.room_law x1 x2 x3 ⟨l1, u1⟩ ⟨l2, u2⟩
theorem reseqRoom_holds : Rows.ReseqRoomSaid :=
  OpenClaim.holds_of_wide 5 Try.f5 rfl rfl rfl rfl rfl rfl rfl ⟨rfl, rfl, rfl, rfl, rfl⟩ rfl rfl rfl rfl rfl (by kernel_rfl) Try.func5 (by kernel_rfl)
    (of_decide_eq_true (by kernel_rfl)) (by unfold Func.isWrapper; first | (rw [if_pos (by decide +kernel)]; kernel_rfl) | (rw [if_neg (by decide +kernel)]; exact ⟨rfl, rfl⟩))
    (fun os started H enc _ => reseqRoom_lifted os started H enc)
end Go.Proofs.Ytpmammacnoamkaa
