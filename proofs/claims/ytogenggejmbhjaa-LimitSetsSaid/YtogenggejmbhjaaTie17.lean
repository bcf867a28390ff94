/- What the arguments of the laws of layer 17 read as. No condition. -/
import Derived.Test.YtogenggejmbhjaaRows
import Derived.Test.YtogenggejmbhjaaEngQ
import Derived.Test.YtogenggejmbhjaaM3
set_option autoImplicit false
set_option linter.unusedSimpArgs false
set_option linter.unusedVariables false
set_option maxRecDepth 100000
namespace Go.Proofs.Ytogenggejmbhjaa
namespace Eng
open Go.ChangeShapes Go.WideShapes Go.ChangeAt Go.RowKit
theorem own_none : ownKnob Try.prog.godebug = none := by kernel_rfl
theorem laid_out : laidOutB Try.prog = true := by kernel_rfl
theorem arg_int {t : TypeId} {k : IntKind} (hu : Try.prog.underlying t = some (.int k)) : ArgRd Try.prog t fun x => ∃ n : Int, k.min ≤ n ∧ n ≤ k.max ∧ x = .e (.c (.v (.x (.int k n)))) :=
  (arg_one hu rfl (rd_int hu) (fun vs ⟨n, _, _, h⟩ => by rw [h]; rfl)).imp fun x ⟨a, ⟨n, h1, h2, h⟩, hx⟩ => ⟨n, h1, h2, by rw [hx]; simp only [List.cons.injEq, and_true] at h; rw [h]⟩
theorem rdL_cons {P : Program} {off off' : Nat} {t : TypeId} {fs : List (Nat × TypeId)} {A B : List V → Prop} (ho : off + P.cellsOf t = off') (h : Rd P t A) (hs : RdL P off' fs B) : RdL P off ((off, t) :: fs) fun vs => ∃ a b, A a ∧ B b ∧ vs = a ++ b := by
  subst ho; exact .cons h hs
def i64R (n : Int) : Prop := -9223372036854775808 ≤ n ∧ n ≤ 9223372036854775807
theorem i64_of {n : Int} (h1 : IntKind.i64.min ≤ n) (h2 : n ≤ IntKind.i64.max) : i64R n := ⟨h1, h2⟩
theorem rd_lim : Rd Try.prog 40 fun vs => ∃ x : Lim, (i64R x.long ∧ i64R x.short) ∧ vs = lV x := by
  have hi : Rd Try.prog 2 _ := rd_int (k := .i64) (by kernel_rfl)
  have hs : Rd Try.prog 9 _ := rd_string (by kernel_rfl)
  refine (rd_structL (l := [(0, 9), (1, 9), (2, 2), (3, 2), (4, 2), (5, 2)]) (by kernel_rfl) (by kernel_rfl)
    (rdL_cons (off' := 1) (by kernel_rfl) hs (rdL_cons (off' := 2) (by kernel_rfl) hs (rdL_cons (off' := 3) (by kernel_rfl) hi (rdL_cons (off' := 4) (by kernel_rfl) hi (rdL_cons (off' := 5) (by kernel_rfl) hi (rdL_cons (off' := 6) (by kernel_rfl) hi (RdL.nil _)))))))).imp ?_
  rintro vs ⟨_, _, ⟨a, _, rfl⟩, ⟨_, _, ⟨b, _, rfl⟩, ⟨_, _, ⟨c, c1, c2, rfl⟩, ⟨_, _, ⟨d, d1, d2, rfl⟩, ⟨_, _, ⟨e, _, _, rfl⟩, ⟨_, _, ⟨f, _, _, rfl⟩, rfl, rfl⟩, rfl⟩, rfl⟩, rfl⟩, rfl⟩, rfl⟩
  exact ⟨⟨a, b, c, d, e, f⟩, ⟨i64_of c1 c2, i64_of d1 d2⟩, rfl⟩
theorem arg_lim : ArgRd Try.prog 40 fun x => ∃ w : Lim, (i64R w.long ∧ i64R w.short) ∧ x = lD w := by
  refine (arg_struct (l := [(0, 9), (1, 9), (2, 2), (3, 2), (4, 2), (5, 2)]) (by kernel_rfl) rd_lim).imp ?_
  rintro x ⟨vs, ⟨w, h, rfl⟩, rfl⟩
  exact ⟨w, h, rfl⟩
theorem arg_lims : ArgRd Try.prog 38 fun x => ∃ l : List Lim, l.length ≤ maxLen ∧ x = lsD l := by
  refine (arg_one (ds := .slice 40) (by kernel_rfl) rfl (rd_slice (e := 40) (by kernel_rfl) rd_lim) (fun vs ⟨n, _, _, h⟩ => by rw [h]; rfl)).imp ?_
  rintro x ⟨a, ⟨rows, hr, hlen, h⟩, rfl⟩
  obtain ⟨l, hl, rfl, e⟩ := rows_map (f := fun x : Lim => [V.x (.string x.acc), V.x (.string x.sym), V.x (.int .i64 x.long), V.x (.int .i64 x.short), V.x (.int .i64 x.qty), V.x (.int .i64 x.value)]) (Q := fun _ => True) (rows := rows) fun r h => let ⟨o, _, e⟩ := hr r h; ⟨o, trivial, e⟩
  simp only [List.cons.injEq, and_true] at h
  exact ⟨l, by rw [e]; exact hlen, by rw [h, show Try.prog.cellsOf 40 = 6 by kernel_rfl]⟩
theorem rd_ord : Rd Try.prog 42 fun vs => ∃ o : Ord, (i64R o.qty ∧ i64R o.price) ∧ vs = [V.x (.string o.id), V.x (.string o.acc), V.x (.string o.sym), V.x (.bool o.buy), V.x (.int .i64 o.qty), V.x (.int .i64 o.price), V.x (.int .i64 o.done), V.x (.bool o.op)] := by
  have hi : Rd Try.prog 2 _ := rd_int (k := .i64) (by kernel_rfl)
  have hs : Rd Try.prog 9 _ := rd_string (by kernel_rfl)
  have hb : Rd Try.prog 4 _ := rd_bool (by kernel_rfl)
  refine (rd_structL (l := [(0, 9), (1, 9), (2, 9), (3, 4), (4, 2), (5, 2), (6, 2), (7, 4)]) (by kernel_rfl) (by kernel_rfl)
    (rdL_cons (off' := 1) (by kernel_rfl) hs (rdL_cons (off' := 2) (by kernel_rfl) hs (rdL_cons (off' := 3) (by kernel_rfl) hs (rdL_cons (off' := 4) (by kernel_rfl) hb (rdL_cons (off' := 5) (by kernel_rfl) hi (rdL_cons (off' := 6) (by kernel_rfl) hi (rdL_cons (off' := 7) (by kernel_rfl) hi (rdL_cons (off' := 8) (by kernel_rfl) hb (RdL.nil _)))))))))).imp ?_
  rintro vs ⟨_, _, ⟨a, _, rfl⟩, ⟨_, _, ⟨b, _, rfl⟩, ⟨_, _, ⟨c, _, rfl⟩, ⟨_, _, ⟨d, rfl⟩, ⟨_, _, ⟨e, e1, e2, rfl⟩, ⟨_, _, ⟨f, f1, f2, rfl⟩, ⟨_, _, ⟨g, _, _, rfl⟩, ⟨_, _, ⟨h, rfl⟩, rfl, rfl⟩, rfl⟩, rfl⟩, rfl⟩, rfl⟩, rfl⟩, rfl⟩, rfl⟩
  exact ⟨⟨a, b, c, d, e, f, g, h⟩, ⟨i64_of e1 e2, i64_of f1 f2⟩, rfl⟩
theorem arg_ord : ArgRd Try.prog 42 fun x => ∃ o : Ord, (i64R o.qty ∧ i64R o.price) ∧ x = oD o := by
  refine (arg_struct (l := [(0, 9), (1, 9), (2, 9), (3, 4), (4, 2), (5, 2), (6, 2), (7, 4)]) (by kernel_rfl) rd_ord).imp ?_
  rintro x ⟨vs, ⟨w, h, rfl⟩, rfl⟩
  exact ⟨w, h, rfl⟩
theorem rd_worst : Rd Try.prog 44 fun vs => ∃ a b : Int, (i64R a ∧ i64R b) ∧ vs = [vI a, vI b] := by
  have hi : Rd Try.prog 2 _ := rd_int (k := .i64) (by kernel_rfl)
  refine (rd_structL (l := [(0, 2), (1, 2)]) (by kernel_rfl) (by kernel_rfl) (rdL_cons (off' := 1) (by kernel_rfl) hi (rdL_cons (off' := 2) (by kernel_rfl) hi (RdL.nil _)))).imp ?_
  rintro vs ⟨_, _, ⟨a, a1, a2, rfl⟩, ⟨_, _, ⟨b, b1, b2, rfl⟩, rfl, rfl⟩, rfl⟩
  exact ⟨a, b, ⟨i64_of a1 a2, i64_of b1 b2⟩, rfl⟩
theorem arg_worst : ArgRd Try.prog 44 fun x => ∃ a b : Int, (i64R a ∧ i64R b) ∧ x = wD a b := by
  refine (arg_struct (l := [(0, 2), (1, 2)]) (by kernel_rfl) rd_worst).imp ?_
  rintro x ⟨vs, ⟨a, b, h, rfl⟩, rfl⟩
  exact ⟨a, b, h, rfl⟩
end Eng
end Go.Proofs.Ytogenggejmbhjaa
