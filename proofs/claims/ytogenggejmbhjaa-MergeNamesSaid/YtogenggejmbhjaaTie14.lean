/- What the arguments of the laws of layer 14 read as. No condition. -/
import Derived.Test.YtogenggejmbhjaaTie0
import Derived.Test.YtogenggejmbhjaaK4
set_option autoImplicit false
set_option linter.unusedSimpArgs false
set_option linter.unusedVariables false
set_option maxRecDepth 100000
namespace Go.Proofs.Ytogenggejmbhjaa
namespace Eng
open Go.ChangeShapes Go.WideShapes Go.ChangeAt Go.RowKit
theorem arg_string {t : TypeId} (hu : Try.prog.underlying t = some .string) : ArgRd Try.prog t fun x => ∃ s : ByteArray, s.size ≤ maxLen ∧ x = .e (.c (.v (.x (.string s)))) :=
  (arg_one hu rfl (rd_string hu) (fun vs ⟨n, _, h⟩ => by rw [h]; rfl)).imp fun x ⟨a, ⟨n, h1, h⟩, hx⟩ => ⟨n, h1, by rw [hx]; simp only [List.cons.injEq, and_true] at h; rw [h]⟩
theorem rd_pos : Rd Try.prog 34 fun vs => ∃ x : Pos, vs = pV x := by
  have hi : Rd Try.prog 2 _ := rd_int (k := .i64) (by kernel_rfl)
  have hs : Rd Try.prog 9 _ := rd_string (by kernel_rfl)
  have hb : Rd Try.prog 4 _ := rd_bool (by kernel_rfl)
  refine (rd_structL (l := [(0, 9), (1, 9), (2, 2), (3, 2), (4, 4)]) (by kernel_rfl) (by kernel_rfl)
    (rdL_cons (off' := 1) (by kernel_rfl) hs (rdL_cons (off' := 2) (by kernel_rfl) hs (rdL_cons (off' := 3) (by kernel_rfl) hi (rdL_cons (off' := 4) (by kernel_rfl) hi (rdL_cons (off' := 5) (by kernel_rfl) hb (RdL.nil _))))))).imp ?_
  rintro vs ⟨_, _, ⟨a, _, rfl⟩, ⟨_, _, ⟨b, _, rfl⟩, ⟨_, _, ⟨c, _, _, rfl⟩, ⟨_, _, ⟨d, _, _, rfl⟩, ⟨_, _, ⟨e, rfl⟩, rfl, rfl⟩, rfl⟩, rfl⟩, rfl⟩, rfl⟩
  exact ⟨⟨a, b, c, d, e⟩, rfl⟩
theorem rd_poss : Rd Try.prog 25 fun vs => ∃ l : List Pos, vs = [V.s 5 (pR l)] := by
  refine (rd_slice (e := 34) (by kernel_rfl) rd_pos).imp ?_
  rintro vs ⟨rows, hr, hl, rfl⟩
  obtain ⟨l, _, rfl, _⟩ := rows_map (f := fun x : Pos => [V.x (.string x.acc), V.x (.string x.sym), V.x (.int .i64 x.qty), V.x (.int .i64 x.value), V.x (.bool x.over)]) (Q := fun _ => True) (rows := rows) fun r h => let ⟨o, e⟩ := hr r h; ⟨o, trivial, e⟩
  exact ⟨l, by rw [show Try.prog.cellsOf 34 = 5 by kernel_rfl]⟩
theorem arg_lists : ArgRd Try.prog 22 fun x => ∃ ls : List (List Pos), ls.length ≤ maxLen ∧ x = LL ls := by
  refine (arg_one (ds := .slice 25) (by kernel_rfl) rfl (rd_slice (e := 25) (by kernel_rfl) rd_poss) (fun vs ⟨n, _, _, h⟩ => by rw [h]; rfl)).imp ?_
  rintro x ⟨a, ⟨rows, hr, hlen, h⟩, rfl⟩
  obtain ⟨l, _, rfl, e⟩ := rows_map (f := fun l : List Pos => [V.s 5 (pR l)]) (Q := fun _ => True) (rows := rows) fun r h => let ⟨o, e⟩ := hr r h; ⟨o, trivial, e⟩
  simp only [List.cons.injEq, and_true] at h
  exact ⟨l, by rw [e]; exact hlen, by rw [h, show Try.prog.cellsOf 25 = 1 by kernel_rfl]⟩
end Eng
end Go.Proofs.Ytogenggejmbhjaa
