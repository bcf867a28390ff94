/- What the arguments of the laws of layer 11 read as. No condition. -/
import Derived.Test.YtlophiihkbojfaaRows
import Derived.Test.YtlophiihkbojfaaEngQ
import Derived.Test.YtlophiihkbojfaaT7
set_option autoImplicit false
set_option linter.unusedSimpArgs false
set_option linter.unusedVariables false
set_option maxRecDepth 100000
namespace Go.Proofs.Ytlophiihkbojfaa
namespace Eng
open Go.ChangeShapes Go.WideShapes Go.ChangeAt Go.RowKit
theorem own_none : ownKnob Try.prog.godebug = none := by kernel_rfl
theorem laid_out : laidOutB Try.prog = true := by kernel_rfl
theorem arg_int {t : TypeId} {k : IntKind} (hu : Try.prog.underlying t = some (.int k)) : ArgRd Try.prog t fun x => ∃ n : Int, k.min ≤ n ∧ n ≤ k.max ∧ x = .e (.c (.v (.x (.int k n)))) :=
  (arg_one hu rfl (rd_int hu) (fun vs ⟨n, _, _, h⟩ => by rw [h]; rfl)).imp fun x ⟨a, ⟨n, h1, h2, h⟩, hx⟩ => ⟨n, h1, h2, by rw [hx]; simp only [List.cons.injEq, and_true] at h; rw [h]⟩
theorem arg_string {t : TypeId} (hu : Try.prog.underlying t = some .string) : ArgRd Try.prog t fun x => ∃ s : ByteArray, s.size ≤ maxLen ∧ x = SD s :=
  (arg_one hu rfl (rd_string hu) (fun vs ⟨n, _, h⟩ => by rw [h]; rfl)).imp fun x ⟨a, ⟨n, h1, h⟩, hx⟩ => ⟨n, h1, by rw [hx]; simp only [List.cons.injEq, and_true] at h; rw [h]⟩
theorem rdL_cons {P : Program} {off off' : Nat} {t : TypeId} {fs : List (Nat × TypeId)} {A B : List V → Prop} (ho : off + P.cellsOf t = off') (h : Rd P t A) (hs : RdL P off' fs B) : RdL P off ((off, t) :: fs) fun vs => ∃ a b, A a ∧ B b ∧ vs = a ++ b := by
  subst ho; exact .cons h hs
theorem rd_ord : Rd Try.prog 30 fun vs => ∃ o : Ord, vs = [V.x (.string o.id), V.x (.string o.acc), V.x (.string o.sym), V.x (.bool o.buy), V.x (.int .i64 o.qty), V.x (.int .i64 o.price), V.x (.int .i64 o.done), V.x (.bool o.op)] := by
  have hi : Rd Try.prog 2 _ := rd_int (k := .i64) (by kernel_rfl)
  have hs : Rd Try.prog 9 _ := rd_string (by kernel_rfl)
  have hb : Rd Try.prog 4 _ := rd_bool (by kernel_rfl)
  refine (rd_structL (l := [(0, 9), (1, 9), (2, 9), (3, 4), (4, 2), (5, 2), (6, 2), (7, 4)]) (by kernel_rfl) (by kernel_rfl)
    (rdL_cons (off' := 1) (by kernel_rfl) hs (rdL_cons (off' := 2) (by kernel_rfl) hs (rdL_cons (off' := 3) (by kernel_rfl) hs (rdL_cons (off' := 4) (by kernel_rfl) hb (rdL_cons (off' := 5) (by kernel_rfl) hi (rdL_cons (off' := 6) (by kernel_rfl) hi (rdL_cons (off' := 7) (by kernel_rfl) hi (rdL_cons (off' := 8) (by kernel_rfl) hb (RdL.nil _)))))))))).imp ?_
  rintro vs ⟨_, _, ⟨a, _, rfl⟩, ⟨_, _, ⟨b, _, rfl⟩, ⟨_, _, ⟨c, _, rfl⟩, ⟨_, _, ⟨d, rfl⟩, ⟨_, _, ⟨e, _, _, rfl⟩, ⟨_, _, ⟨f, _, _, rfl⟩, ⟨_, _, ⟨g, _, _, rfl⟩, ⟨_, _, ⟨h, rfl⟩, rfl, rfl⟩, rfl⟩, rfl⟩, rfl⟩, rfl⟩, rfl⟩, rfl⟩, rfl⟩
  exact ⟨⟨a, b, c, d, e, f, g, h⟩, rfl⟩
theorem arg_ords : ArgRd Try.prog 22 fun x => ∃ l : List Ord, x = osD l := by
  refine (arg_one (ds := .slice 30) (by kernel_rfl) rfl (rd_slice (e := 30) (by kernel_rfl) rd_ord) (fun vs ⟨n, _, _, h⟩ => by rw [h]; rfl)).imp ?_
  rintro x ⟨a, ⟨rows, hr, _, h⟩, rfl⟩
  obtain ⟨l, hl, rfl, _⟩ := rows_map (f := fun o : Ord => [V.x (.string o.id), V.x (.string o.acc), V.x (.string o.sym), V.x (.bool o.buy), V.x (.int .i64 o.qty), V.x (.int .i64 o.price), V.x (.int .i64 o.done), V.x (.bool o.op)]) (Q := fun _ => True) (rows := rows) fun r h => let ⟨o, e⟩ := hr r h; ⟨o, trivial, e⟩
  simp only [List.cons.injEq, and_true] at h
  exact ⟨l, by rw [h, show Try.prog.cellsOf 30 = 8 by kernel_rfl]⟩
theorem rd_wh : Rd Try.prog 35 fun vs => ∃ w : Wh, vs = [V.x (.int .u8 w.kind), V.x (.string w.ord.id), V.x (.string w.ord.acc), V.x (.string w.ord.sym), V.x (.bool w.ord.buy), V.x (.int .i64 w.ord.qty), V.x (.int .i64 w.ord.price), V.x (.int .i64 w.ord.done), V.x (.bool w.ord.op), V.x (.string w.id), V.x (.int .i64 w.qty), V.x (.int .i64 w.price)] := by
  have hi : Rd Try.prog 2 _ := rd_int (k := .i64) (by kernel_rfl)
  have hs : Rd Try.prog 9 _ := rd_string (by kernel_rfl)
  have hk : Rd Try.prog 5 _ := rd_int (k := .u8) (by kernel_rfl)
  refine (rd_structL (l := [(0, 5), (1, 30), (9, 9), (10, 2), (11, 2)]) (by kernel_rfl) (by kernel_rfl)
    (rdL_cons (off' := 1) (by kernel_rfl) hk (rdL_cons (off' := 9) (by kernel_rfl) rd_ord (rdL_cons (off' := 10) (by kernel_rfl) hs (rdL_cons (off' := 11) (by kernel_rfl) hi (rdL_cons (off' := 12) (by kernel_rfl) hi (RdL.nil _))))))).imp ?_
  rintro vs ⟨_, _, ⟨a, _, _, rfl⟩, ⟨_, _, ⟨o, rfl⟩, ⟨_, _, ⟨c, _, rfl⟩, ⟨_, _, ⟨d, _, _, rfl⟩, ⟨_, _, ⟨e, _, _, rfl⟩, rfl, rfl⟩, rfl⟩, rfl⟩, rfl⟩, rfl⟩
  exact ⟨⟨a, o, c, d, e⟩, rfl⟩
theorem arg_whs : ArgRd Try.prog 44 fun x => ∃ ws : List Wh, x = .e (.c (.v (.s 12 (ws.map fun w => [V.x (.int .u8 w.kind), V.x (.string w.ord.id), V.x (.string w.ord.acc), V.x (.string w.ord.sym), V.x (.bool w.ord.buy), V.x (.int .i64 w.ord.qty), V.x (.int .i64 w.ord.price), V.x (.int .i64 w.ord.done), V.x (.bool w.ord.op), V.x (.string w.id), V.x (.int .i64 w.qty), V.x (.int .i64 w.price)])))) := by
  refine (arg_one (ds := .slice 35) (by kernel_rfl) rfl (rd_slice (e := 35) (by kernel_rfl) rd_wh) (fun vs ⟨n, _, _, h⟩ => by rw [h]; rfl)).imp ?_
  rintro x ⟨a, ⟨rows, hr, _, h⟩, rfl⟩
  obtain ⟨l, hl, rfl, _⟩ := rows_map (f := fun w : Wh => [V.x (.int .u8 w.kind), V.x (.string w.ord.id), V.x (.string w.ord.acc), V.x (.string w.ord.sym), V.x (.bool w.ord.buy), V.x (.int .i64 w.ord.qty), V.x (.int .i64 w.ord.price), V.x (.int .i64 w.ord.done), V.x (.bool w.ord.op), V.x (.string w.id), V.x (.int .i64 w.qty), V.x (.int .i64 w.price)]) (Q := fun _ => True) (rows := rows) fun r h => let ⟨o, e⟩ := hr r h; ⟨o, trivial, e⟩
  simp only [List.cons.injEq, and_true] at h
  exact ⟨l, by rw [h, show Try.prog.cellsOf 35 = 12 by kernel_rfl]⟩
theorem arg_wh : ArgRd Try.prog 35 fun x => ∃ w : Wh, x = wD w := by
  refine (arg_struct (l := [(0, 5), (1, 30), (9, 9), (10, 2), (11, 2)]) (by kernel_rfl) rd_wh).imp ?_
  rintro x ⟨vs, ⟨w, rfl⟩, rfl⟩
  exact ⟨w, rfl⟩
end Eng
end Go.Proofs.Ytlophiihkbojfaa
