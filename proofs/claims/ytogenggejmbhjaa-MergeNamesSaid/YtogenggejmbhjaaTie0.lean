/- What the arguments of the laws read as. No condition. -/
import Derived.Test.YtogenggejmbhjaaRows
import Derived.Test.YtogenggejmbhjaaEngQ
import Derived.Test.YtogenggejmbhjaaTys
set_option autoImplicit false
set_option linter.unusedSimpArgs false
set_option linter.unusedVariables false
set_option maxRecDepth 100000
namespace Go.Proofs.Ytogenggejmbhjaa
namespace Eng
open Go.ChangeShapes Go.WideShapes Go.ChangeAt Go.RowKit
theorem own_none : ownKnob Try.prog.godebug = none := by kernel_rfl
theorem laid_out : laidOutB Try.prog = true := by kernel_rfl
theorem arg_int {t : TypeId} {k : IntKind} (hu : Try.prog.underlying t = some (.int k)) : ArgRd Try.prog t fun x => ∃ n : Int, k.min ≤ n ∧ n ≤ k.max ∧ x = .e (.c (.v (.x (.int k n)))) :=
  (arg_one hu rfl (rd_int hu) (fun vs ⟨n, _, _, h⟩ => by rw [h]; rfl)).imp fun x ⟨a, ⟨n, h1, h2, h⟩, hx⟩ => ⟨n, h1, h2, by rw [hx]; simp only [List.cons.injEq, and_true] at h; rw [h]⟩
theorem rdL_cons {P : Program} {off off' : Nat} {t : TypeId} {fs : List (Nat × TypeId)} {A B : List V → Prop} (ho : off + P.cellsOf t = off') (h : Rd P t A) (hs : RdL P off' fs B) : RdL P off ((off, t) :: fs) fun vs => ∃ a b, A a ∧ B b ∧ vs = a ++ b := by
  subst ho; exact .cons h hs
def i64R (n : Int) : Prop := -9223372036854775808 ≤ n ∧ n ≤ 9223372036854775807
theorem i64_of {n : Int} (h1 : IntKind.i64.min ≤ n) (h2 : n ≤ IntKind.i64.max) : i64R n := ⟨h1, h2⟩
end Eng
end Go.Proofs.Ytogenggejmbhjaa
