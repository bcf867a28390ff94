/- A part of the proofs of this seat's laws: contracts of the functions that they call. No condition. -/
import Derived.Test.YtgpjbcgbjpmgaaaTys
set_option autoImplicit false
set_option linter.unusedSimpArgs false
set_option linter.unusedVariables false
namespace Go.Proofs.Ytgpjbcgbjpmgaaa
namespace Eng
abbrev diskD (s0 t0 s1 t1 : List Int) : D := .e (.a [.v (sB s0), .v (sB t0), .v (sB s1), .v (sB t1)])
abbrev SB (xs : List Int) : D := .e (.c (.v (sB xs)))
end Eng
end Go.Proofs.Ytgpjbcgbjpmgaaa
