/- num.Sum: sums in 128 bits. -/
import Derived.Test.YtllfgnhnooonfaaDoorT2
import Derived.Laws.Externs
set_option autoImplicit false
set_option linter.unusedSimpArgs false
set_option linter.unusedVariables false
set_option maxRecDepth 100000
namespace Go.Proofs.YtllfgnhnooonfaaDoor
namespace Eng
theorem add64_x (x y c : Int) (hx : 0 ≤ x) (hy : 0 ≤ y) (hc0 : 0 ≤ c) (hc : c ≤ 1) : XCall Tryd.prog 27 [] [U x, U y, U c] (.t [.c (.v (.x (.int .u64 ((x + y + c) % 18446744073709551616)))), .c (.v (.x (.int .u64 ((x + y + c) / 18446744073709551616))))]) [] := by
  intro own0 w ρ vs hm ha
  match vs, ha with
  | [a, b, d], ⟨h1, h2, h3, _⟩ =>
    obtain ⟨rfl, _⟩ := rep_x h1
    obtain ⟨rfl, _⟩ := rep_x h2
    obtain ⟨rfl, _⟩ := rep_x h3
    refine ⟨.tuple #[.int .u64 ((x + y + c) % 18446744073709551616), .int .u64 ((x + y + c) / 18446744073709551616)], ρ, ?_, Sub.refl _, ⟨[.int .u64 ((x + y + c) % 18446744073709551616), .int .u64 ((x + y + c) / 18446744073709551616)], rfl, ?_, ?_, trivial⟩, hm⟩
    · show (callFunc 27 #[.int .u64 x, .int .u64 y, .int .u64 c]).run Tryd.prog w = _
      rw [run_callFunc_extern Tryd.func27 (by kernel_rfl) (by kernel_rfl) (by kernel_rfl) (e := add64Entry) (by kernel_rfl), run_add64 x y c hx hy hc0 hc]
      rfl
    · exact rep_x_mk rfl
    · exact rep_x_mk rfl
end Eng
end Go.Proofs.YtllfgnhnooonfaaDoor
