/- What the arguments of the laws of layers 8, 27 and 10 read as, bytes with their range. No condition. -/
import Derived.Test.YtgpjbcgbjpmgaaaTie0
import Derived.Test.YtgpjbcgbjpmgaaaP7
set_option autoImplicit false
set_option linter.unusedSimpArgs false
set_option linter.unusedVariables false
namespace Go.Proofs.Ytgpjbcgbjpmgaaa
namespace Eng
open Go.ChangeShapes Go.WideShapes Go.ChangeAt Go.RowKit
theorem byt_of {xs : List Int} (h : ∀ x, x ∈ xs → 0 ≤ x ∧ x ≤ 255) : Byt xs := fun j => by
  rw [List.getD_eq_getElem?_getD]
  rcases Nat.lt_or_ge j xs.length with hj | hj
  · rw [List.getElem?_eq_getElem hj]
    exact h _ (List.getElem_mem hj)
  · rw [List.getElem?_eq_none hj]
    simp
theorem rd_byt : Rd Try.prog 22 fun vs => ∃ xs : List Int, (xs.length ≤ maxLen ∧ Byt xs) ∧ vs = [sB xs] := by
  refine (rd_slice (e := 5) (by kernel_rfl) (rd_int (k := .u8) (by kernel_rfl))).imp ?_
  rintro vs ⟨rows, hr, hl, rfl⟩
  obtain ⟨xs, hx, rfl, e⟩ := rows_map (f := fun n : Int => [V.x (.int .u8 n)]) (Q := fun n => 0 ≤ n ∧ n ≤ 255) (rows := rows) fun r h => let ⟨n, h1, h2, e⟩ := hr r h; ⟨n, ⟨h1, h2⟩, e⟩
  exact ⟨xs, ⟨by rw [e]; exact hl, byt_of hx⟩, by rw [show Try.prog.cellsOf 5 = 1 by kernel_rfl]⟩
theorem arg_byt : ArgRd Try.prog 22 fun x => ∃ xs : List Int, (xs.length ≤ maxLen ∧ Byt xs) ∧ x = SB xs :=
  (arg_one (ds := .slice 5) (by kernel_rfl) rfl rd_byt (fun vs ⟨n, _, h⟩ => by rw [h]; rfl)).imp fun x ⟨a, ⟨n, h1, h⟩, hx⟩ => ⟨n, h1, by rw [hx]; simp only [List.cons.injEq, and_true] at h; rw [h]⟩
theorem arg_byts : ArgRd Try.prog 38 fun x => ∃ l : List (List Int), (l.length ≤ maxLen ∧ ∀ xs, xs ∈ l → xs.length ≤ maxLen ∧ Byt xs) ∧ x = SS l := by
  refine (arg_one (ds := .slice 22) (by kernel_rfl) rfl (rd_slice (e := 22) (by kernel_rfl) rd_byt) (fun vs ⟨n, _, _, h⟩ => by rw [h]; rfl)).imp ?_
  rintro x ⟨a, ⟨rows, hr, hlen, h⟩, rfl⟩
  obtain ⟨l, hl, rfl, e⟩ := rows_map (f := fun xs : List Int => [sB xs]) (Q := fun xs => xs.length ≤ maxLen ∧ Byt xs) (rows := rows) hr
  simp only [List.cons.injEq, and_true] at h
  exact ⟨l, ⟨by rw [e]; exact hlen, hl⟩, by rw [h, show Try.prog.cellsOf 22 = 1 by kernel_rfl]⟩
end Eng
end Go.Proofs.Ytgpjbcgbjpmgaaa
