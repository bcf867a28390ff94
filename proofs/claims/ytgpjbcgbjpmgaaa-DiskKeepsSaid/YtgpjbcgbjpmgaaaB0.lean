/- A part of the proofs of this seat's laws: contracts of the functions that they call. No condition. -/
import Derived.Test.YtgpjbcgbjpmgaaaTys
set_option autoImplicit false
set_option linter.unusedSimpArgs false
set_option linter.unusedVariables false
namespace Go.Proofs.Ytgpjbcgbjpmgaaa
namespace Eng
def strB (xs : List Int) : ByteArray := ⟨(xs.map fun n => UInt8.ofNat n.toNat).toArray⟩
theorem strRows_map (xs : List Int) : strRows (xs.map fun n => [V.x (.int .u8 n)]) = strB xs := by
  simp only [strRows, strB, List.map_map]; rfl
theorem areBytes_map (xs : List Int) : areBytes (xs.map fun n => [V.x (.int .u8 n)]) = True := by
  refine eq_true fun r hr => ?_
  obtain ⟨n, _, rfl⟩ := List.mem_map.1 hr
  exact trivial
theorem strB_append (xs ys : List Int) : strB xs ++ strB ys = strB (xs ++ ys) := by
  apply ByteArray.ext
  simp [strB, ByteArray.data_append]
theorem strB_size (xs : List Int) : (strB xs).size = xs.length := by simp [strB, ByteArray.size]
theorem among2 {α : Type} (q : Bool) (i : Int) (f : Nat → Tr α) : among q i f 2 = .ite (decide (i = 1)) (f 1) (.ask (q = true → i = 0) (f 0)) := rfl
theorem getD_mapD {α : Type} [Inhabited α] (f : α → List V) (xs : List α) (i : Nat) (d : List V) (h : i < xs.length) : (xs.map f).getD i d = f (xs.getD i default) := by
  simp [List.getD_eq_getElem?_getD, h]
abbrev diskD (s0 t0 s1 t1 : List Int) : D := .e (.a [.v (sB s0), .v (sB t0), .v (sB s1), .v (sB t1)])
abbrev SB (xs : List Int) : D := .e (.c (.v (sB xs)))
end Eng
end Go.Proofs.Ytgpjbcgbjpmgaaa
