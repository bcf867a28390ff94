/- What the arguments of the laws of layer 7, with acts read as. No condition. -/
import Derived.Test.YtpmammacnoamkaaTie6
import Derived.Test.YtpmammacnoamkaaS11
set_option autoImplicit false
set_option linter.unusedSimpArgs false
set_option linter.unusedVariables false
set_option maxRecDepth 100000
namespace Go.Proofs.Ytpmammacnoamkaa
namespace Eng
open Go.ChangeShapes Go.WideShapes Go.ChangeAt Go.RowKit
theorem rd_sess : Rd Try.prog 45 fun vs => ∃ s : Ses, s.hd.length ≤ maxLen ∧ vs = [.x (.int .i64 s.st), .x (.int .i64 s.nx), .s 20 (s.hd.map iV), .x (.int .i64 s.out), .x (.int .i64 s.ev), .x (.int .i64 s.he), .x (.int .i64 s.sa), .x (.int .i64 s.qa), .x (.int .i64 s.wh), .x (.bool s.te)] := by
  have hi : Rd Try.prog 2 _ := rd_int (k := .i64) (by kernel_rfl)
  have hk : Rd Try.prog 3 _ := rd_int (k := .i64) (by kernel_rfl)
  have hb : Rd Try.prog 4 _ := rd_bool (by kernel_rfl)
  refine (rd_structL (l := [(0, 3), (1, 26), (3, 2), (4, 2), (5, 2), (6, 2), (7, 2), (8, 2), (9, 4)]) (by kernel_rfl) (by kernel_rfl)
    (rdL_cons (off' := 1) (by kernel_rfl) hk (rdL_cons (off' := 3) (by kernel_rfl) rd_line (rdL_cons (off' := 4) (by kernel_rfl) hi (rdL_cons (off' := 5) (by kernel_rfl) hi (rdL_cons (off' := 6) (by kernel_rfl) hi (rdL_cons (off' := 7) (by kernel_rfl) hi (rdL_cons (off' := 8) (by kernel_rfl) hi (rdL_cons (off' := 9) (by kernel_rfl) hi (rdL_cons (off' := 10) (by kernel_rfl) hb (RdL.nil _))))))))))).imp ?_
  rintro vs ⟨_, _, ⟨a, _, _, rfl⟩, ⟨_, _, ⟨n, l, h, rfl⟩, ⟨_, _, ⟨b, _, _, rfl⟩, ⟨_, _, ⟨c, _, _, rfl⟩, ⟨_, _, ⟨d, _, _, rfl⟩, ⟨_, _, ⟨e, _, _, rfl⟩, ⟨_, _, ⟨f, _, _, rfl⟩, ⟨_, _, ⟨g, _, _, rfl⟩, ⟨_, _, ⟨t, rfl⟩, rfl, rfl⟩, rfl⟩, rfl⟩, rfl⟩, rfl⟩, rfl⟩, rfl⟩, rfl⟩, rfl⟩
  exact ⟨⟨a, n, l, b, c, d, e, f, g, t⟩, h.2, rfl⟩
theorem arg_sess : ArgRd Try.prog 45 fun x => ∃ s : Ses, s.hd.length ≤ maxLen ∧ x = sD s := by
  refine (arg_struct (l := [(0, 3), (1, 26), (3, 2), (4, 2), (5, 2), (6, 2), (7, 2), (8, 2), (9, 4)]) (by kernel_rfl) rd_sess).imp ?_
  rintro x ⟨vs, ⟨s, h, rfl⟩, rfl⟩
  exact ⟨s, h, rfl⟩
theorem arg_bools : ArgRd Try.prog 43 fun x => ∃ xs : List Bool, xs.length ≤ maxLen ∧ x = .e (.c (.v (.s 1 (xs.map fun b => [V.x (.bool b)])))) := by
  have hr : Rd Try.prog 43 fun vs => ∃ xs : List Bool, xs.length ≤ maxLen ∧ vs = [.s 1 (xs.map fun b => [V.x (.bool b)])] := by
    refine (rd_slice (e := 4) (by kernel_rfl) (rd_bool (by kernel_rfl))).imp ?_
    rintro vs ⟨rows, hr, hl, rfl⟩
    obtain ⟨xs, hx, rfl, e⟩ := rows_map (f := fun b : Bool => [V.x (.bool b)]) (Q := fun _ => True) (rows := rows) fun r h => let ⟨b, e⟩ := hr r h; ⟨b, trivial, e⟩
    exact ⟨xs, by rw [e]; exact hl, by rw [show Try.prog.cellsOf 4 = 1 by kernel_rfl]⟩
  exact (arg_one (ds := .slice 4) (by kernel_rfl) rfl hr (fun vs ⟨n, _, h⟩ => by rw [h]; rfl)).imp fun x ⟨a, ⟨n, h1, h⟩, hx⟩ => ⟨n, h1, by rw [hx]; simp only [List.cons.injEq, and_true] at h; rw [h]⟩
theorem rd_act : Rd Try.prog 62 fun vs => ∃ a : Act, (0 ≤ a.more ∧ a.more ≤ 255) ∧ vs = aV a := by
  have hi : Rd Try.prog 5 _ := rd_int (k := .u8) (by kernel_rfl)
  refine (rd_structL (l := [(0, 5), (1, 33), (19, 5)]) (by kernel_rfl) (by kernel_rfl)
    (rdL_cons (off' := 1) (by kernel_rfl) hi (rdL_cons (off' := 19) (by kernel_rfl) rd_msg (rdL_cons (off' := 20) (by kernel_rfl) hi (RdL.nil _))))).imp ?_
  rintro vs ⟨_, _, ⟨a, _, _, rfl⟩, ⟨_, _, ⟨m, rfl⟩, ⟨_, _, ⟨b, b1, b2, rfl⟩, rfl, rfl⟩, rfl⟩, rfl⟩
  exact ⟨⟨a, m, b⟩, ⟨b1, b2⟩, rfl⟩
theorem more_of {l : List Act} (h : ∀ a, a ∈ l → 0 ≤ a.more ∧ a.more ≤ 255) : ∀ j, 0 ≤ (l.getD j default).more ∧ (l.getD j default).more ≤ 255 := fun j => by
  rw [List.getD_eq_getElem?_getD]
  rcases Nat.lt_or_ge j l.length with hj | hj
  · rw [List.getElem?_eq_getElem hj]
    exact h _ (List.getElem_mem hj)
  · rw [List.getElem?_eq_none hj]
    exact ⟨Int.le_refl _, by decide⟩
theorem arg_acts : ArgRd Try.prog 59 fun x => ∃ l : List Act, (l.length ≤ maxLen ∧ ∀ j, 0 ≤ (l.getD j default).more ∧ (l.getD j default).more ≤ 255) ∧ x = .e (.c (.v (.s 20 (l.map aV)))) := by
  refine (arg_one (ds := .slice 62) (by kernel_rfl) rfl (rd_slice (e := 62) (by kernel_rfl) rd_act) (fun vs ⟨n, _, _, h⟩ => by rw [h]; rfl)).imp ?_
  rintro x ⟨a, ⟨rows, hr, hlen, h⟩, rfl⟩
  obtain ⟨l, hl, rfl, e⟩ := rows_map (f := aV) (Q := fun a => 0 ≤ a.more ∧ a.more ≤ 255) (rows := rows) fun r h => let ⟨o, h1, e⟩ := hr r h; ⟨o, h1, e⟩
  simp only [List.cons.injEq, and_true] at h
  exact ⟨l, ⟨by rw [e]; exact hlen, more_of hl⟩, by rw [h, show Try.prog.cellsOf 62 = 20 by kernel_rfl]⟩
end Eng
end Go.Proofs.Ytpmammacnoamkaa
