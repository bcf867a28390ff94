/- What the arguments of the laws of layer 26 read as: a rate is two integers and a slice of integers. No condition. -/
import Derived.Test.YtfndbcebbdbhaaaRows
import Derived.Test.YtfndbcebbdbhaaaEngQ
import Derived.Test.YtfndbcebbdbhaaaT1
set_option autoImplicit false
set_option linter.unusedSimpArgs false
set_option linter.unusedVariables false
namespace Go.Proofs.Ytfndbcebbdbhaaa
namespace Eng
open Go.ChangeShapes Go.WideShapes Go.ChangeAt Go.RowKit
theorem own_none : ownKnob Try.prog.godebug = none := by kernel_rfl
theorem laid_out : laidOutB Try.prog = true := by kernel_rfl
theorem rd_i64 {t : TypeId} (hu : Try.prog.underlying t = some (.int .i64)) : Rd Try.prog t fun vs => ∃ n : Int, vs = [vI n] := (rd_int hu).imp fun vs ⟨n, _, _, h⟩ => ⟨n, h⟩
theorem rd_times : Rd Try.prog 22 fun vs => ∃ ts : List Int, vs = [sI ts] := by
  refine (rd_slice (e := 2) (by kernel_rfl) (rd_i64 (by kernel_rfl))).imp ?_
  rintro vs ⟨rows, hr, _, rfl⟩
  obtain ⟨xs, _, rfl, _⟩ := rows_map (f := fun n : Int => [vI n]) (Q := fun _ => True) (rows := rows) fun r h => let ⟨n, e⟩ := hr r h; ⟨n, trivial, e⟩
  exact ⟨xs, by rw [show Try.prog.cellsOf 2 = 1 by kernel_rfl]⟩
theorem rd_rate : Rd Try.prog 24 fun vs => ∃ (most span : Int) (ts : List Int), vs = [vI most, vI span, sI ts] := by
  refine (rd_structL (l := [(0, 3), (1, 2), (2, 22)]) (by kernel_rfl) (by kernel_rfl) (RdL.cons (rd_i64 (by kernel_rfl)) (RdL.cons (rd_i64 (by kernel_rfl)) (RdL.cons rd_times (RdL.nil _))))).imp ?_
  rintro vs ⟨a, b, ⟨m, rfl⟩, ⟨c, d, ⟨s, rfl⟩, ⟨e, f, ⟨ts, rfl⟩, rfl, rfl⟩, rfl⟩, rfl⟩
  exact ⟨m, s, ts, rfl⟩
theorem arg_rate : ArgRd Try.prog 24 fun x => ∃ (most span : Int) (ts : List Int), x = rateD most span ts :=
  (arg_struct (l := [(0, 3), (1, 2), (2, 22)]) (by kernel_rfl) rd_rate).imp fun x ⟨vs, ⟨m, s, ts, h⟩, hx⟩ => ⟨m, s, ts, by rw [hx, h]; rfl⟩
theorem arg_int {t : TypeId} {k : IntKind} (hu : Try.prog.underlying t = some (.int k)) : ArgRd Try.prog t fun x => ∃ n : Int, k.min ≤ n ∧ n ≤ k.max ∧ x = .e (.c (.v (.x (.int k n)))) :=
  (arg_one hu rfl (rd_int hu) (fun vs ⟨n, _, _, h⟩ => by rw [h]; rfl)).imp fun x ⟨a, ⟨n, h1, h2, h⟩, hx⟩ => ⟨n, h1, h2, by rw [hx]; simp only [List.cons.injEq, and_true] at h; rw [h]⟩
end Eng
end Go.Proofs.Ytfndbcebbdbhaaa
