/- What the package-level variables hold that the contracts lean on: from the row's list. -/
import Derived.Test.YtllfgnhnooonfaaDoorRows
import Derived.Test.YtllfgnhnooonfaaDoorZ2
import Derived.Lib.LaidTab
import Derived.Stop.LaidErr
set_option autoImplicit false
set_option linter.unusedSimpArgs false
set_option linter.unusedVariables false
set_option maxRecDepth 100000
namespace Go.Proofs.YtllfgnhnooonfaaDoor
namespace Eng
open Go.RowKit
theorem heap_of_var {W : World} {n : String} {g : Nat} {cs : Array Value} (hg : Tryd.prog.globalNamed n = some g) (h : W.var? Tryd.prog n = some cs) : ∃ t z, W.heap[g]? = some (.cells cs t z) := by
  unfold World.var? at h
  rw [hg, Option.bind_some] at h
  split at h
  · rename_i c t z he
    cases h
    exact ⟨t, z, he⟩
  · cases h
theorem row80 (u : TypeId) (h : Tryd.prog.typeName? 3 u = some "*errors.errorString") : u = 80 :=
  typeName_ptr_named (nm := "errors.errorString") (by rw [show "*" ++ "errors.errorString" = "*errors.errorString" by decide]; kernel_rfl) (by kernel_rfl) (by decide) u (by rw [show "*" ++ "errors.errorString" = "*errors.errorString" by decide]; exact h)
theorem glob_of {W : World} (hL : laidMet Tryd.prog Rows.numReadsRow.laid W) : Glob (Hd fun _ => none) W := by
  have hL : laidMet Tryd.prog [("math/bits.deBruijn32tab", Rows.laid_math_bits_deBruijn32tab), ("math/bits.deBruijn64tab", Rows.laid_math_bits_deBruijn64tab), ("internal/strconv.uint64pow10", Rows.laid_internal_strconv_uint64pow10), ("strconv.ErrRange", Rows.laid_strconv_ErrRange), ("strconv.ErrSyntax", Rows.laid_strconv_ErrSyntax)] W := hL
  have h2 := hL.tail.tail
  have e2 : (Rows.laid_internal_strconv_uint64pow10 : DataW Unit) = Lib.tabData .u64 Lib.pow10Tab := by kernel_rfl
  rw [e2] at h2
  have ht := Lib.tabIs_of_head (g := 2) (t := 74) (e := 40) (n := 20) (by kernel_rfl) (by kernel_rfl) Tryd.underlying74 Tryd.underlying40 (by kernel_rfl) (by kernel_rfl) h2
  obtain ⟨t2, z2, k2⟩ := heap_of_var (g := 2) (by kernel_rfl) ht
  have h3 := h2.tail
  obtain ⟨a, s, hv, _, _, _⟩ := laid_sentinel h3 (g := 1) (ti := 47) (tp := 80) (te := 82) (ts := 9) (by kernel_rfl) (by kernel_rfl) Tryd.underlying47 row80 Tryd.underlying80 Tryd.underlying82 rfl rfl Tryd.underlying9 (by kernel_rfl) (by kernel_rfl)
  obtain ⟨t1, z1, k1⟩ := heap_of_var (g := 1) (by kernel_rfl) hv
  intro x hx
  have nh : ∀ b, ¬ Hd (fun _ => none) b := fun b ⟨_, _, _, h⟩ => by cases h
  rcases List.mem_cons.1 hx with rfl | hx
  · exact ⟨(Array.getElem?_eq_some_iff.1 k1).1, nh _, 80, _, t1, z1, k1⟩
  · rw [List.mem_singleton.1 hx]
    exact ⟨(Array.getElem?_eq_some_iff.1 k2).1, nh _, t2, z2, k2⟩
end Eng
end Go.Proofs.YtllfgnhnooonfaaDoor
