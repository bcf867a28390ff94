/- Lists of lists of bytes, and how long their beginnings are. -/
import Derived.Test.YtgpjbcgbjpmgaaaB0
set_option autoImplicit false
set_option linter.unusedSimpArgs false
set_option linter.unusedVariables false
namespace Go.Proofs.Ytgpjbcgbjpmgaaa
namespace Eng
def tot (xss : List (List Int)) (k : Nat) : Nat := ((xss.take k).flatten).length
theorem take_succ_flat (xss : List (List Int)) (k : Nat) (h : k < xss.length) : (xss.take (k + 1)).flatten = (xss.take k).flatten ++ xss.getD k default := by
  rw [List.take_add_one, List.flatten_append]
  simp [List.getElem?_eq_getElem h, List.getD_eq_getElem?_getD]
theorem tot_succ (xss : List (List Int)) (k : Nat) (h : k < xss.length) : tot xss (k + 1) = tot xss k + (xss.getD k default).length := by
  simp only [tot, take_succ_flat xss k h, List.length_append]
theorem tot_map (xss : List (List Int)) (k : Nat) (f : Int → List V) : ((xss.take k).flatten.map f).length = tot xss k := by rw [List.length_map, tot]
theorem tot_zero (xss : List (List Int)) : tot xss 0 = 0 := rfl
theorem tot_all (xss : List (List Int)) : tot xss xss.length = xss.flatten.length := by simp [tot]
theorem tot_le (xss : List (List Int)) (k : Nat) : tot xss k ≤ xss.flatten.length := by
  have : xss.flatten = (xss.take k).flatten ++ (xss.drop k).flatten := by rw [← List.flatten_append, List.take_append_drop]
  rw [this, List.length_append, tot]; omega
abbrev SS (xss : List (List Int)) : D := .e (.c (.v (.s 1 (xss.map fun x => [sB x]))))
end Eng
end Go.Proofs.Ytgpjbcgbjpmgaaa
