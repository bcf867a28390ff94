/- What a slice of bytes reads as. No condition. -/
import Derived.Test.YtfndbcebbdbhaaaTie
import Derived.Test.YtfndbcebbdbhaaaL5
set_option autoImplicit false
set_option linter.unusedSimpArgs false
set_option linter.unusedVariables false
namespace Go.Proofs.Ytfndbcebbdbhaaa
namespace Eng
open Go.ChangeShapes Go.WideShapes Go.ChangeAt Go.RowKit
theorem arg_bytes : ArgRd Try.prog 40 fun x => ∃ (ws : List Int) (_ : ∀ i, i < ws.length → 0 ≤ ws.getD i 0 ∧ ws.getD i 0 ≤ 255), x = .e (.c (.v (sB ws))) := by
  refine (arg_one (Pred := fun vs => ∃ rows : List (List V), (∀ r, r ∈ rows → ∃ n : Int, IntKind.u8.min ≤ n ∧ n ≤ IntKind.u8.max ∧ r = [.x (.int .u8 n)]) ∧ rows.length ≤ maxLen ∧ vs = [.s (Try.prog.cellsOf 5) rows]) (ds := .slice 5) (by kernel_rfl) rfl (rd_slice (by kernel_rfl) (rd_int (by kernel_rfl))) (fun vs ⟨rows, _, _, h⟩ => by rw [h]; rfl)).imp ?_
  rintro x ⟨a, ⟨rows, hr, _, h⟩, rfl⟩
  simp only [List.cons.injEq, and_true] at h
  subst h
  obtain ⟨xs, hq, rfl, _⟩ := rows_map (f := fun n : Int => [.x (.int .u8 n)]) (Q := fun n => 0 ≤ n ∧ n ≤ 255) (rows := rows) fun r h => let ⟨n, h1, h2, e⟩ := hr r h; ⟨n, ⟨h1, h2⟩, e⟩
  refine ⟨xs, fun i hi => ?_, by rw [show Try.prog.cellsOf 5 = 1 by kernel_rfl]⟩
  rw [List.getD_eq_getElem?_getD, List.getElem?_eq_getElem hi]
  exact hq _ (List.getElem_mem hi)
end Eng
end Go.Proofs.Ytfndbcebbdbhaaa
