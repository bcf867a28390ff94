/- What the arguments of the laws of layer 27 read as: sums as 32-bit numbers. No condition. -/
import Derived.Test.YtgpjbcgbjpmgaaaTie8
import Derived.Test.YtgpjbcgbjpmgaaaA1
set_option autoImplicit false
set_option linter.unusedSimpArgs false
set_option linter.unusedVariables false
namespace Go.Proofs.Ytgpjbcgbjpmgaaa
namespace Eng
open Go.ChangeShapes Go.WideShapes Go.ChangeAt Go.RowKit
theorem bv_of (n : Int) (h1 : IntKind.u32.min ≤ n) (h2 : n ≤ IntKind.u32.max) : n = ((BitVec.ofInt 32 n).toNat : Int) := by
  have h1 : (0 : Int) ≤ n := h1
  have h2 : n ≤ 4294967295 := h2
  obtain ⟨m, rfl⟩ : ∃ m : Nat, n = m := ⟨n.toNat, by omega⟩
  rw [BitVec.ofInt_natCast, BitVec.toNat_ofNat]
  omega
theorem rd_bv : Rd Try.prog 32 fun vs => ∃ n : BitVec 32, vs = [V.x (.int .u32 (n.toNat : Int))] :=
  (rd_int (k := .u32) (by kernel_rfl)).imp fun vs ⟨n, h1, h2, h⟩ => ⟨BitVec.ofInt 32 n, by rw [← bv_of n h1 h2]; exact h⟩
theorem arg_bv : ArgRd Try.prog 32 fun x => ∃ n : BitVec 32, x = W32 n :=
  (arg_int (k := .u32) (by kernel_rfl)).imp fun x ⟨n, h1, h2, h⟩ => ⟨BitVec.ofInt 32 n, by unfold W32; rw [← bv_of n h1 h2]; exact h⟩
theorem arg_bvs : ArgRd Try.prog 45 fun x => ∃ l : List (BitVec 32), l.length ≤ maxLen ∧ x = SU l := by
  refine (arg_one (ds := .slice 32) (by kernel_rfl) rfl (rd_slice (e := 32) (by kernel_rfl) rd_bv) (fun vs ⟨n, _, _, h⟩ => by rw [h]; rfl)).imp ?_
  rintro x ⟨a, ⟨rows, hr, hlen, h⟩, rfl⟩
  obtain ⟨l, _, rfl, e⟩ := rows_map (f := fun n : BitVec 32 => [V.x (.int .u32 (n.toNat : Int))]) (Q := fun _ => True) (rows := rows) fun r h => let ⟨n, e⟩ := hr r h; ⟨n, trivial, e⟩
  simp only [List.cons.injEq, and_true] at h
  exact ⟨l, by rw [e]; exact hlen, by rw [h, show Try.prog.cellsOf 32 = 1 by kernel_rfl]⟩
end Eng
end Go.Proofs.Ytgpjbcgbjpmgaaa
