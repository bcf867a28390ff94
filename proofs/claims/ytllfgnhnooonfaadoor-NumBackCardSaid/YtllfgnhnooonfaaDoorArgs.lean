/- What the arguments of the laws of layer 1 read as. No condition. -/
import Derived.Test.YtllfgnhnooonfaaDoorRows
import Derived.Test.YtllfgnhnooonfaaDoorEngQ
import Derived.Test.YtllfgnhnooonfaaDoorT1
set_option autoImplicit false
set_option linter.unusedSimpArgs false
set_option linter.unusedVariables false
set_option maxRecDepth 100000
namespace Go.Proofs.YtllfgnhnooonfaaDoor
namespace Eng
open Go.ChangeShapes Go.WideShapes Go.ChangeAt Go.RowKit
theorem own_none : ownKnob Tryd.prog.godebug = none := by kernel_rfl
theorem laid_out : laidOutB Tryd.prog = true := by kernel_rfl
theorem arg_int {t : TypeId} {k : IntKind} (hu : Tryd.prog.underlying t = some (.int k)) : ArgRd Tryd.prog t fun x => ∃ n : Int, k.min ≤ n ∧ n ≤ k.max ∧ x = .e (.c (.v (.x (.int k n)))) :=
  (arg_one hu rfl (rd_int hu) (fun vs ⟨n, _, _, h⟩ => by rw [h]; rfl)).imp fun x ⟨a, ⟨n, h1, h2, h⟩, hx⟩ => ⟨n, h1, h2, by rw [hx]; simp only [List.cons.injEq, and_true] at h; rw [h]⟩
theorem arg_string {t : TypeId} (hu : Tryd.prog.underlying t = some .string) : ArgRd Tryd.prog t fun x => ∃ l : List UInt8, l.length ≤ maxLen ∧ x = .e (.c (.v (.x (.string ⟨l.toArray⟩)))) :=
  (arg_one hu rfl (rd_string hu) (fun vs ⟨n, _, h⟩ => by rw [h]; rfl)).imp fun x ⟨a, ⟨n, h1, h⟩, hx⟩ => ⟨n.data.toList, h1, by rw [hx]; simp only [List.cons.injEq, and_true] at h; rw [h]⟩
theorem rd_ints : Rd Tryd.prog 35 fun vs => ∃ xs : List Int, xs.length ≤ maxLen ∧ vs = [V.s 1 (xs.map fun n => [V.x (.int .i64 n)])] := by
  refine (rd_slice (e := 2) (by kernel_rfl) (rd_int (k := .i64) (by kernel_rfl))).imp ?_
  rintro vs ⟨rows, hr, hl, rfl⟩
  obtain ⟨xs, _, rfl, e⟩ := rows_map (f := fun n : Int => [V.x (.int .i64 n)]) (Q := fun _ => True) (rows := rows) fun r h => let ⟨n, _, _, e⟩ := hr r h; ⟨n, trivial, e⟩
  exact ⟨xs, by rw [e]; exact hl, by rw [show Tryd.prog.cellsOf 2 = 1 by kernel_rfl]⟩
theorem arg_ints : ArgRd Tryd.prog 35 fun x => ∃ xs : List Int, xs.length ≤ maxLen ∧ x = .e (.c (.v (.s 1 (xs.map fun n => [V.x (.int .i64 n)])))) :=
  (arg_one (ds := .slice 2) (by kernel_rfl) rfl rd_ints (fun vs ⟨n, _, h⟩ => by rw [h]; rfl)).imp fun x ⟨a, ⟨n, h1, h⟩, hx⟩ => ⟨n, h1, by rw [hx]; simp only [List.cons.injEq, and_true] at h; rw [h]⟩
end Eng
end Go.Proofs.YtllfgnhnooonfaaDoor
