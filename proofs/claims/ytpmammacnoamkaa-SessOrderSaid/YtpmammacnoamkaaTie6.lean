/- What the arguments of the laws of layers 6 and 7 read as. No condition. -/
import Derived.Test.YtpmammacnoamkaaRows
import Derived.Test.YtpmammacnoamkaaEngQ
import Derived.Test.YtpmammacnoamkaaR1
set_option autoImplicit false
set_option linter.unusedSimpArgs false
set_option linter.unusedVariables false
set_option maxRecDepth 100000
namespace Go.Proofs.Ytpmammacnoamkaa
namespace Eng
open Go.ChangeShapes Go.WideShapes Go.ChangeAt Go.RowKit
theorem own_none : ownKnob Try.prog.godebug = none := by kernel_rfl
theorem laid_out : laidOutB Try.prog = true := by kernel_rfl
theorem arg_int {t : TypeId} {k : IntKind} (hu : Try.prog.underlying t = some (.int k)) : ArgRd Try.prog t fun x => ∃ n : Int, k.min ≤ n ∧ n ≤ k.max ∧ x = .e (.c (.v (.x (.int k n)))) :=
  (arg_one hu rfl (rd_int hu) (fun vs ⟨n, _, _, h⟩ => by rw [h]; rfl)).imp fun x ⟨a, ⟨n, h1, h2, h⟩, hx⟩ => ⟨n, h1, h2, by rw [hx]; simp only [List.cons.injEq, and_true] at h; rw [h]⟩
theorem arg_bool {t : TypeId} (hu : Try.prog.underlying t = some .bool) : ArgRd Try.prog t fun x => ∃ b : Bool, x = .e (.c (.v (.x (.bool b)))) :=
  (arg_one hu rfl (rd_bool hu) (fun vs ⟨n, h⟩ => by rw [h]; rfl)).imp fun x ⟨a, ⟨n, h⟩, hx⟩ => ⟨n, by rw [hx]; simp only [List.cons.injEq, and_true] at h; rw [h]⟩
theorem rdL_cons {P : Program} {off off' : Nat} {t : TypeId} {fs : List (Nat × TypeId)} {A B : List V → Prop} (ho : off + P.cellsOf t = off') (h : Rd P t A) (hs : RdL P off' fs B) : RdL P off ((off, t) :: fs) fun vs => ∃ a b, A a ∧ B b ∧ vs = a ++ b := by
  subst ho; exact .cons h hs
theorem byt_of {xs : List Int} (h : ∀ x, x ∈ xs → 0 ≤ x ∧ x ≤ 255) : ∀ j, 0 ≤ xs.getD j 0 ∧ xs.getD j 0 ≤ 255 := fun j => by
  rw [List.getD_eq_getElem?_getD]
  rcases Nat.lt_or_ge j xs.length with hj | hj
  · rw [List.getElem?_eq_getElem hj]
    exact h _ (List.getElem_mem hj)
  · rw [List.getElem?_eq_none hj]
    simp
theorem arg_byt : ArgRd Try.prog 22 fun x => ∃ xs : List Int, (xs.length ≤ maxLen ∧ ∀ j, 0 ≤ xs.getD j 0 ∧ xs.getD j 0 ≤ 255) ∧ x = .e (.c (.v (.s 1 (xs.map fun n => [V.x (.int .u8 n)])))) := by
  have hr : Rd Try.prog 22 fun vs => ∃ xs : List Int, (xs.length ≤ maxLen ∧ ∀ j, 0 ≤ xs.getD j 0 ∧ xs.getD j 0 ≤ 255) ∧ vs = [sB xs] := by
    refine (rd_slice (e := 5) (by kernel_rfl) (rd_int (k := .u8) (by kernel_rfl))).imp ?_
    rintro vs ⟨rows, hr, hl, rfl⟩
    obtain ⟨xs, hx, rfl, e⟩ := rows_map (f := fun n : Int => [V.x (.int .u8 n)]) (Q := fun n => 0 ≤ n ∧ n ≤ 255) (rows := rows) fun r h => let ⟨n, h1, h2, e⟩ := hr r h; ⟨n, ⟨h1, h2⟩, e⟩
    exact ⟨xs, ⟨by rw [e]; exact hl, byt_of hx⟩, by rw [show Try.prog.cellsOf 5 = 1 by kernel_rfl]⟩
  exact (arg_one (ds := .slice 5) (by kernel_rfl) rfl hr (fun vs ⟨n, _, h⟩ => by rw [h]; rfl)).imp fun x ⟨a, ⟨n, h1, h⟩, hx⟩ => ⟨n, h1, by rw [hx]; simp only [List.cons.injEq, and_true] at h; rw [h]⟩
def i64R (n : Int) : Prop := -9223372036854775808 ≤ n ∧ n ≤ 9223372036854775807
theorem i64_of {n : Int} (h1 : IntKind.i64.min ≤ n) (h2 : n ≤ IntKind.i64.max) : i64R n := ⟨h1, h2⟩
theorem rd_exec : Rd Try.prog 31 fun vs => ∃ a b c d e : ByteArray, ∃ f : Int, ∃ g : Bool, ∃ h i j : Int, vs = [vS a, vS b, vS c, vS d, vS e, vI f, vB g, vI h, vI i, vI j] := by
  have hi : Rd Try.prog 2 _ := rd_int (k := .i64) (by kernel_rfl)
  have hk : Rd Try.prog 3 _ := rd_int (k := .i64) (by kernel_rfl)
  have hs : Rd Try.prog 9 _ := rd_string (by kernel_rfl)
  have hb : Rd Try.prog 4 _ := rd_bool (by kernel_rfl)
  refine (rd_structL (l := [(0, 9), (1, 9), (2, 9), (3, 9), (4, 9), (5, 3), (6, 4), (7, 2), (8, 2), (9, 2)]) (by kernel_rfl) (by kernel_rfl)
    (rdL_cons (off' := 1) (by kernel_rfl) hs (rdL_cons (off' := 2) (by kernel_rfl) hs (rdL_cons (off' := 3) (by kernel_rfl) hs (rdL_cons (off' := 4) (by kernel_rfl) hs (rdL_cons (off' := 5) (by kernel_rfl) hs (rdL_cons (off' := 6) (by kernel_rfl) hk (rdL_cons (off' := 7) (by kernel_rfl) hb (rdL_cons (off' := 8) (by kernel_rfl) hi (rdL_cons (off' := 9) (by kernel_rfl) hi (rdL_cons (off' := 10) (by kernel_rfl) hi (RdL.nil _)))))))))))).imp ?_
  rintro vs ⟨_, _, ⟨a, _, rfl⟩, ⟨_, _, ⟨b, _, rfl⟩, ⟨_, _, ⟨c, _, rfl⟩, ⟨_, _, ⟨d, _, rfl⟩, ⟨_, _, ⟨e, _, rfl⟩, ⟨_, _, ⟨f, _, _, rfl⟩, ⟨_, _, ⟨g, rfl⟩, ⟨_, _, ⟨h, _, _, rfl⟩, ⟨_, _, ⟨i, _, _, rfl⟩, ⟨_, _, ⟨j, _, _, rfl⟩, rfl, rfl⟩, rfl⟩, rfl⟩, rfl⟩, rfl⟩, rfl⟩, rfl⟩, rfl⟩, rfl⟩, rfl⟩
  exact ⟨a, b, c, d, e, f, g, h, i, j, rfl⟩
theorem rd_msg : Rd Try.prog 33 fun vs => ∃ m : Msg, vs = mV m := by
  have hi : Rd Try.prog 2 _ := rd_int (k := .i64) (by kernel_rfl)
  have hk : Rd Try.prog 3 _ := rd_int (k := .i64) (by kernel_rfl)
  have hs : Rd Try.prog 9 _ := rd_string (by kernel_rfl)
  have hb : Rd Try.prog 4 _ := rd_bool (by kernel_rfl)
  refine (rd_structL (l := [(0, 3), (1, 2), (2, 2), (3, 4), (4, 2), (5, 2), (6, 4), (7, 9), (8, 31)]) (by kernel_rfl) (by kernel_rfl)
    (rdL_cons (off' := 1) (by kernel_rfl) hk (rdL_cons (off' := 2) (by kernel_rfl) hi (rdL_cons (off' := 3) (by kernel_rfl) hi (rdL_cons (off' := 4) (by kernel_rfl) hb (rdL_cons (off' := 5) (by kernel_rfl) hi (rdL_cons (off' := 6) (by kernel_rfl) hi (rdL_cons (off' := 7) (by kernel_rfl) hb (rdL_cons (off' := 8) (by kernel_rfl) hs (rdL_cons (off' := 18) (by kernel_rfl) rd_exec (RdL.nil _))))))))))).imp ?_
  rintro vs ⟨_, _, ⟨a, _, _, rfl⟩, ⟨_, _, ⟨b, _, _, rfl⟩, ⟨_, _, ⟨c, _, _, rfl⟩, ⟨_, _, ⟨d, rfl⟩, ⟨_, _, ⟨e, _, _, rfl⟩, ⟨_, _, ⟨f, _, _, rfl⟩, ⟨_, _, ⟨g, rfl⟩, ⟨_, _, ⟨h, _, rfl⟩, ⟨_, _, ⟨e1, e2, e3, e4, e5, e6, e7, e8, e9, e10, rfl⟩, rfl, rfl⟩, rfl⟩, rfl⟩, rfl⟩, rfl⟩, rfl⟩, rfl⟩, rfl⟩, rfl⟩
  exact ⟨⟨a, b, c, d, e, f, g, h, e1, e2, e3, e4, e5, e6, e7, e8, e9, e10⟩, rfl⟩
theorem rd_item : Rd Try.prog 35 fun vs => ∃ x : Itm, vs = iV x := by
  have hi : Rd Try.prog 2 _ := rd_int (k := .i64) (by kernel_rfl)
  refine (rd_structL (l := [(0, 2), (1, 2), (2, 33)]) (by kernel_rfl) (by kernel_rfl)
    (rdL_cons (off' := 1) (by kernel_rfl) hi (rdL_cons (off' := 2) (by kernel_rfl) hi (rdL_cons (off' := 20) (by kernel_rfl) rd_msg (RdL.nil _))))).imp ?_
  rintro vs ⟨_, _, ⟨a, _, _, rfl⟩, ⟨_, _, ⟨b, _, _, rfl⟩, ⟨_, _, ⟨m, rfl⟩, rfl, rfl⟩, rfl⟩, rfl⟩
  exact ⟨⟨a, b, m⟩, by rw [List.append_nil]; rfl⟩
theorem rd_items : Rd Try.prog 24 fun vs => ∃ l : List Itm, l.length ≤ maxLen ∧ vs = [.s 20 (l.map iV)] := by
  refine (rd_slice (e := 35) (by kernel_rfl) rd_item).imp ?_
  rintro vs ⟨rows, hr, hlen, h⟩
  obtain ⟨l, hl, rfl, e⟩ := rows_map (f := iV) (Q := fun _ => True) (rows := rows) fun r h => let ⟨o, e⟩ := hr r h; ⟨o, trivial, e⟩
  exact ⟨l, by rw [e]; exact hlen, by rw [h, show Try.prog.cellsOf 35 = 20 by kernel_rfl]⟩
theorem arg_items : ArgRd Try.prog 24 fun x => ∃ l : List Itm, l.length ≤ maxLen ∧ x = isD l := by
  refine (arg_one (ds := .slice 35) (by kernel_rfl) rfl rd_items (fun vs ⟨n, _, h⟩ => by rw [h]; rfl)).imp ?_
  rintro x ⟨a, ⟨l, hlen, h⟩, rfl⟩
  simp only [List.cons.injEq, and_true] at h
  exact ⟨l, hlen, by rw [h]⟩
theorem rd_line : Rd Try.prog 26 fun vs => ∃ n : Int, ∃ l : List Itm, (i64R n ∧ l.length ≤ maxLen) ∧ vs = [vI n, .s 20 (l.map iV)] := by
  have hi : Rd Try.prog 2 _ := rd_int (k := .i64) (by kernel_rfl)
  refine (rd_structL (l := [(0, 2), (1, 24)]) (by kernel_rfl) (by kernel_rfl) (rdL_cons (off' := 1) (by kernel_rfl) hi (rdL_cons (off' := 2) (by kernel_rfl) rd_items (RdL.nil _)))).imp ?_
  rintro vs ⟨_, _, ⟨a, a1, a2, rfl⟩, ⟨_, _, ⟨l, hl, rfl⟩, rfl, rfl⟩, rfl⟩
  exact ⟨a, l, ⟨i64_of a1 a2, hl⟩, rfl⟩
theorem arg_line : ArgRd Try.prog 26 fun x => ∃ n : Int, ∃ l : List Itm, (i64R n ∧ l.length ≤ maxLen) ∧ x = lnD n l := by
  refine (arg_struct (l := [(0, 2), (1, 24)]) (by kernel_rfl) rd_line).imp ?_
  rintro x ⟨vs, ⟨a, b, h, rfl⟩, rfl⟩
  exact ⟨a, b, h, rfl⟩
end Eng
end Go.Proofs.Ytpmammacnoamkaa
