/- The types, read off the program. -/
import Derived.Test.YtgpjbcgbjpmgaaaEngW
set_option autoImplicit false
set_option linter.unusedSimpArgs false
set_option linter.unusedVariables false
namespace Go.Proofs.Ytgpjbcgbjpmgaaa
namespace Eng

def tyOf (P : Program) (t : Nat) : Option Ty :=
  match P.underlying t, P.info? t with
  | some d, some i => match i.zero with
    | some z => if okVal z && z.cells.size == i.size && (isAggD d || i.size == 1) then some ⟨d, z, i.size, i.bytes⟩ else none
    | none => none
  | _, _ => none

theorem tyOf_ok (P : Program) : TysOk P (tyOf P) := by
  intro t ty h
  unfold tyOf at h
  split at h
  · rename_i d i hd hi
    split at h
    · rename_i z hz
      split at h
      · rename_i hc
        simp only [Bool.and_eq_true, beq_iff_eq, Bool.or_eq_true] at hc
        cases h
        exact ⟨hd, ⟨i, hi, hz, rfl, rfl⟩, hc.1.1, hc.1.2, fun ha => by
          rcases hc.2 with h | h
          · rw [ha] at h; cases h
          · exact h⟩
      · cases h
    · cases h
  · cases h

end Eng
end Go.Proofs.Ytgpjbcgbjpmgaaa
