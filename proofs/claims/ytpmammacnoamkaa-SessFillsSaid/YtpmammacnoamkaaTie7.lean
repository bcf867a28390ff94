/- What the arguments of the laws of layer 7 read as. No condition. -/
import Derived.Test.YtpmammacnoamkaaTie6
import Derived.Test.YtpmammacnoamkaaS1
set_option autoImplicit false
set_option linter.unusedSimpArgs false
set_option linter.unusedVariables false
set_option maxRecDepth 100000
namespace Go.Proofs.Ytpmammacnoamkaa
namespace Eng
open Go.ChangeShapes Go.WideShapes Go.ChangeAt Go.RowKit
theorem rd_sess : Rd Try.prog 45 fun vs => ∃ s : Ses, s.hd.length ≤ maxLen ∧ vs = [.x (.int .i64 s.st), .x (.int .i64 s.nx), .s 20 (s.hd.map iV), .x (.int .i64 s.out), .x (.int .i64 s.ev), .x (.int .i64 s.he), .x (.int .i64 s.sa), .x (.int .i64 s.qa), .x (.int .i64 s.wh), .x (.bool s.te)] := by
  have hi : Rd Try.prog 2 _ := rd_int (k := .i64) (by kernel_rfl)
  have hk : Rd Try.prog 3 _ := rd_int (k := .i64) (by kernel_rfl)
  have hb : Rd Try.prog 4 _ := rd_bool (by kernel_rfl)
  refine (rd_structL (l := [(0, 3), (1, 26), (3, 2), (4, 2), (5, 2), (6, 2), (7, 2), (8, 2), (9, 4)]) (by kernel_rfl) (by kernel_rfl)
    (rdL_cons (off' := 1) (by kernel_rfl) hk (rdL_cons (off' := 3) (by kernel_rfl) rd_line (rdL_cons (off' := 4) (by kernel_rfl) hi (rdL_cons (off' := 5) (by kernel_rfl) hi (rdL_cons (off' := 6) (by kernel_rfl) hi (rdL_cons (off' := 7) (by kernel_rfl) hi (rdL_cons (off' := 8) (by kernel_rfl) hi (rdL_cons (off' := 9) (by kernel_rfl) hi (rdL_cons (off' := 10) (by kernel_rfl) hb (RdL.nil _))))))))))).imp ?_
  rintro vs ⟨_, _, ⟨a, _, _, rfl⟩, ⟨_, _, ⟨n, l, h, rfl⟩, ⟨_, _, ⟨b, _, _, rfl⟩, ⟨_, _, ⟨c, _, _, rfl⟩, ⟨_, _, ⟨d, _, _, rfl⟩, ⟨_, _, ⟨e, _, _, rfl⟩, ⟨_, _, ⟨f, _, _, rfl⟩, ⟨_, _, ⟨g, _, _, rfl⟩, ⟨_, _, ⟨t, rfl⟩, rfl, rfl⟩, rfl⟩, rfl⟩, rfl⟩, rfl⟩, rfl⟩, rfl⟩, rfl⟩, rfl⟩
  exact ⟨⟨a, n, l, b, c, d, e, f, g, t⟩, h.2, rfl⟩
theorem arg_sess : ArgRd Try.prog 45 fun x => ∃ s : Ses, s.hd.length ≤ maxLen ∧ x = sD s := by
  refine (arg_struct (l := [(0, 3), (1, 26), (3, 2), (4, 2), (5, 2), (6, 2), (7, 2), (8, 2), (9, 4)]) (by kernel_rfl) rd_sess).imp ?_
  rintro x ⟨vs, ⟨s, h, rfl⟩, rfl⟩
  exact ⟨s, h, rfl⟩
theorem arg_bools : ArgRd Try.prog 43 fun x => ∃ xs : List Bool, xs.length ≤ maxLen ∧ x = .e (.c (.v (.s 1 (xs.map fun b => [V.x (.bool b)])))) := by
  have hr : Rd Try.prog 43 fun vs => ∃ xs : List Bool, xs.length ≤ maxLen ∧ vs = [.s 1 (xs.map fun b => [V.x (.bool b)])] := by
    refine (rd_slice (e := 4) (by kernel_rfl) (rd_bool (by kernel_rfl))).imp ?_
    rintro vs ⟨rows, hr, hl, rfl⟩
    obtain ⟨xs, hx, rfl, e⟩ := rows_map (f := fun b : Bool => [V.x (.bool b)]) (Q := fun _ => True) (rows := rows) fun r h => let ⟨b, e⟩ := hr r h; ⟨b, trivial, e⟩
    exact ⟨xs, by rw [e]; exact hl, by rw [show Try.prog.cellsOf 4 = 1 by kernel_rfl]⟩
  exact (arg_one (ds := .slice 4) (by kernel_rfl) rfl hr (fun vs ⟨n, _, h⟩ => by rw [h]; rfl)).imp fun x ⟨a, ⟨n, h1, h⟩, hx⟩ => ⟨n, h1, by rw [hx]; simp only [List.cons.injEq, and_true] at h; rw [h]⟩
end Eng
end Go.Proofs.Ytpmammacnoamkaa
