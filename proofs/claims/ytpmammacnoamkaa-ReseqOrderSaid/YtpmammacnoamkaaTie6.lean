/- What the arguments of the laws of layers 6 and 7 read as. No condition. -/
import Derived.Test.YtpmammacnoamkaaRows
import Derived.Test.YtpmammacnoamkaaEngQ
import Derived.Test.YtpmammacnoamkaaR1
set_option autoImplicit false
set_option linter.unusedSimpArgs false
set_option linter.unusedVariables false
set_option maxRecDepth 100000
namespace Go.Proofs.Ytpmammacnoamkaa
namespace Eng
open Go.ChangeShapes Go.WideShapes Go.ChangeAt Go.RowKit
theorem own_none : ownKnob Try.prog.godebug = none := by kernel_rfl
theorem laid_out : laidOutB Try.prog = true := by kernel_rfl
theorem arg_int {t : TypeId} {k : IntKind} (hu : Try.prog.underlying t = some (.int k)) : ArgRd Try.prog t fun x => ∃ n : Int, k.min ≤ n ∧ n ≤ k.max ∧ x = .e (.c (.v (.x (.int k n)))) :=
  (arg_one hu rfl (rd_int hu) (fun vs ⟨n, _, _, h⟩ => by rw [h]; rfl)).imp fun x ⟨a, ⟨n, h1, h2, h⟩, hx⟩ => ⟨n, h1, h2, by rw [hx]; simp only [List.cons.injEq, and_true] at h; rw [h]⟩
theorem arg_bool {t : TypeId} (hu : Try.prog.underlying t = some .bool) : ArgRd Try.prog t fun x => ∃ b : Bool, x = .e (.c (.v (.x (.bool b)))) :=
  (arg_one hu rfl (rd_bool hu) (fun vs ⟨n, h⟩ => by rw [h]; rfl)).imp fun x ⟨a, ⟨n, h⟩, hx⟩ => ⟨n, by rw [hx]; simp only [List.cons.injEq, and_true] at h; rw [h]⟩
theorem rdL_cons {P : Program} {off off' : Nat} {t : TypeId} {fs : List (Nat × TypeId)} {A B : List V → Prop} (ho : off + P.cellsOf t = off') (h : Rd P t A) (hs : RdL P off' fs B) : RdL P off ((off, t) :: fs) fun vs => ∃ a b, A a ∧ B b ∧ vs = a ++ b := by
  subst ho; exact .cons h hs
theorem byt_of {xs : List Int} (h : ∀ x, x ∈ xs → 0 ≤ x ∧ x ≤ 255) : ∀ j, 0 ≤ xs.getD j 0 ∧ xs.getD j 0 ≤ 255 := fun j => by
  rw [List.getD_eq_getElem?_getD]
  rcases Nat.lt_or_ge j xs.length with hj | hj
  · rw [List.getElem?_eq_getElem hj]
    exact h _ (List.getElem_mem hj)
  · rw [List.getElem?_eq_none hj]
    simp
theorem arg_byt : ArgRd Try.prog 22 fun x => ∃ xs : List Int, (xs.length ≤ maxLen ∧ ∀ j, 0 ≤ xs.getD j 0 ∧ xs.getD j 0 ≤ 255) ∧ x = .e (.c (.v (.s 1 (xs.map fun n => [V.x (.int .u8 n)])))) := by
  have hr : Rd Try.prog 22 fun vs => ∃ xs : List Int, (xs.length ≤ maxLen ∧ ∀ j, 0 ≤ xs.getD j 0 ∧ xs.getD j 0 ≤ 255) ∧ vs = [sB xs] := by
    refine (rd_slice (e := 5) (by kernel_rfl) (rd_int (k := .u8) (by kernel_rfl))).imp ?_
    rintro vs ⟨rows, hr, hl, rfl⟩
    obtain ⟨xs, hx, rfl, e⟩ := rows_map (f := fun n : Int => [V.x (.int .u8 n)]) (Q := fun n => 0 ≤ n ∧ n ≤ 255) (rows := rows) fun r h => let ⟨n, h1, h2, e⟩ := hr r h; ⟨n, ⟨h1, h2⟩, e⟩
    exact ⟨xs, ⟨by rw [e]; exact hl, byt_of hx⟩, by rw [show Try.prog.cellsOf 5 = 1 by kernel_rfl]⟩
  exact (arg_one (ds := .slice 5) (by kernel_rfl) rfl hr (fun vs ⟨n, _, h⟩ => by rw [h]; rfl)).imp fun x ⟨a, ⟨n, h1, h⟩, hx⟩ => ⟨n, h1, by rw [hx]; simp only [List.cons.injEq, and_true] at h; rw [h]⟩
end Eng
end Go.Proofs.Ytpmammacnoamkaa
