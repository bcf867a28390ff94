/- What bytes and numbers, as arguments, read as. No condition. -/
import Derived.Test.YtgpjbcgbjpmgaaaRows
import Derived.Test.YtgpjbcgbjpmgaaaEngQ
import Derived.Test.YtgpjbcgbjpmgaaaB0
set_option autoImplicit false
set_option linter.unusedSimpArgs false
set_option linter.unusedVariables false
namespace Go.Proofs.Ytgpjbcgbjpmgaaa
namespace Eng
open Go.ChangeShapes Go.WideShapes Go.ChangeAt Go.RowKit
theorem own_none : ownKnob Try.prog.godebug = none := by kernel_rfl
theorem laid_out : laidOutB Try.prog = true := by kernel_rfl
theorem arg_int {t : TypeId} {k : IntKind} (hu : Try.prog.underlying t = some (.int k)) : ArgRd Try.prog t fun x => ∃ n : Int, k.min ≤ n ∧ n ≤ k.max ∧ x = .e (.c (.v (.x (.int k n)))) :=
  (arg_one hu rfl (rd_int hu) (fun vs ⟨n, _, _, h⟩ => by rw [h]; rfl)).imp fun x ⟨a, ⟨n, h1, h2, h⟩, hx⟩ => ⟨n, h1, h2, by rw [hx]; simp only [List.cons.injEq, and_true] at h; rw [h]⟩
theorem rdL_cons {P : Program} {off off' : Nat} {t : TypeId} {fs : List (Nat × TypeId)} {A B : List V → Prop} (ho : off + P.cellsOf t = off') (h : Rd P t A) (hs : RdL P off' fs B) : RdL P off ((off, t) :: fs) fun vs => ∃ a b, A a ∧ B b ∧ vs = a ++ b := by
  subst ho; exact .cons h hs
theorem rd_bytes : Rd Try.prog 22 fun vs => ∃ xs : List Int, xs.length ≤ maxLen ∧ vs = [sB xs] := by
  refine (rd_slice (e := 5) (by kernel_rfl) (rd_int (k := .u8) (by kernel_rfl))).imp ?_
  rintro vs ⟨rows, hr, hl, rfl⟩
  obtain ⟨xs, _, rfl, e⟩ := rows_map (f := fun n : Int => [V.x (.int .u8 n)]) (Q := fun _ => True) (rows := rows) fun r h => let ⟨n, _, _, e⟩ := hr r h; ⟨n, trivial, e⟩
  exact ⟨xs, by rw [e]; exact hl, by rw [show Try.prog.cellsOf 5 = 1 by kernel_rfl]⟩
theorem arg_bytes : ArgRd Try.prog 22 fun x => ∃ xs : List Int, xs.length ≤ maxLen ∧ x = SB xs :=
  (arg_one (ds := .slice 5) (by kernel_rfl) rfl rd_bytes (fun vs ⟨n, _, h⟩ => by rw [h]; rfl)).imp fun x ⟨a, ⟨n, h1, h⟩, hx⟩ => ⟨n, h1, by rw [hx]; simp only [List.cons.injEq, and_true] at h; rw [h]⟩
end Eng
end Go.Proofs.Ytgpjbcgbjpmgaaa
