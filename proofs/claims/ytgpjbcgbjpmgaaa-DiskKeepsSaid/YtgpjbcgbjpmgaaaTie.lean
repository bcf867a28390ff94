/- What the arguments of the laws of layer 9 read as. No condition. -/
import Derived.Test.YtgpjbcgbjpmgaaaRows
import Derived.Test.YtgpjbcgbjpmgaaaEngQ
import Derived.Test.YtgpjbcgbjpmgaaaT8
set_option autoImplicit false
set_option linter.unusedSimpArgs false
set_option linter.unusedVariables false
namespace Go.Proofs.Ytgpjbcgbjpmgaaa
namespace Eng
open Go.ChangeShapes Go.WideShapes Go.ChangeAt Go.RowKit
theorem own_none : ownKnob Try.prog.godebug = none := by kernel_rfl
theorem laid_out : laidOutB Try.prog = true := by kernel_rfl
theorem arg_int {t : TypeId} {k : IntKind} (hu : Try.prog.underlying t = some (.int k)) : ArgRd Try.prog t fun x => ∃ n : Int, k.min ≤ n ∧ n ≤ k.max ∧ x = .e (.c (.v (.x (.int k n)))) :=
  (arg_one hu rfl (rd_int hu) (fun vs ⟨n, _, _, h⟩ => by rw [h]; rfl)).imp fun x ⟨a, ⟨n, h1, h2, h⟩, hx⟩ => ⟨n, h1, h2, by rw [hx]; simp only [List.cons.injEq, and_true] at h; rw [h]⟩
theorem rdL_cons {P : Program} {off off' : Nat} {t : TypeId} {fs : List (Nat × TypeId)} {A B : List V → Prop} (ho : off + P.cellsOf t = off') (h : Rd P t A) (hs : RdL P off' fs B) : RdL P off ((off, t) :: fs) fun vs => ∃ a b, A a ∧ B b ∧ vs = a ++ b := by
  subst ho; exact .cons h hs
theorem rd_bytes : Rd Try.prog 22 fun vs => ∃ xs : List Int, xs.length ≤ maxLen ∧ vs = [sB xs] := by
  refine (rd_slice (e := 5) (by kernel_rfl) (rd_int (k := .u8) (by kernel_rfl))).imp ?_
  rintro vs ⟨rows, hr, hl, rfl⟩
  obtain ⟨xs, _, rfl, e⟩ := rows_map (f := fun n : Int => [V.x (.int .u8 n)]) (Q := fun _ => True) (rows := rows) fun r h => let ⟨n, _, _, e⟩ := hr r h; ⟨n, trivial, e⟩
  exact ⟨xs, by rw [e]; exact hl, by rw [show Try.prog.cellsOf 5 = 1 by kernel_rfl]⟩
theorem arg_bytes : ArgRd Try.prog 22 fun x => ∃ xs : List Int, xs.length ≤ maxLen ∧ x = SB xs :=
  (arg_one (ds := .slice 5) (by kernel_rfl) rfl rd_bytes (fun vs ⟨n, _, h⟩ => by rw [h]; rfl)).imp fun x ⟨a, ⟨n, h1, h⟩, hx⟩ => ⟨n, h1, by rw [hx]; simp only [List.cons.injEq, and_true] at h; rw [h]⟩
theorem rd_file : Rd Try.prog 64 fun vs => ∃ s t : List Int, vs = [sB s, sB t] := by
  refine (rd_structL (l := [(0, 22), (1, 22)]) (by kernel_rfl) (by kernel_rfl) (rdL_cons (off' := 1) (by kernel_rfl) rd_bytes (rdL_cons (off' := 2) (by kernel_rfl) rd_bytes (RdL.nil _)))).imp ?_
  rintro vs ⟨a, b, ⟨s, _, rfl⟩, ⟨c, d, ⟨t, _, rfl⟩, rfl, rfl⟩, rfl⟩
  exact ⟨s, t, rfl⟩
theorem rd_disk : Rd Try.prog 67 fun vs => ∃ s0 t0 s1 t1 : List Int, vs = [sB s0, sB t0, sB s1, sB t1] := by
  refine (rd_structL (l := [(0, 65)]) (by kernel_rfl) (by kernel_rfl) (rdL_cons (off' := 4) (by kernel_rfl) (rd_array (n := 2) (e := 64) (by kernel_rfl) (by kernel_rfl) rd_file) (RdL.nil _))).imp ?_
  rintro vs ⟨a, b, ⟨rows, hl, hr, rfl⟩, rfl, rfl⟩
  match rows, hl with
  | [r0, r1], _ =>
    obtain ⟨s0, t0, rfl⟩ := hr r0 (by simp)
    obtain ⟨s1, t1, rfl⟩ := hr r1 (by simp)
    exact ⟨s0, t0, s1, t1, rfl⟩
theorem arg_disk : ArgRd Try.prog 67 fun x => ∃ s0 t0 s1 t1 : List Int, x = diskD s0 t0 s1 t1 :=
  (arg_struct (l := [(0, 65)]) (by kernel_rfl) rd_disk).imp fun x ⟨vs, ⟨s0, t0, s1, t1, h⟩, hx⟩ => ⟨s0, t0, s1, t1, by rw [hx, h]; rfl⟩
theorem rd_keep : Rd Try.prog 74 fun vs => ∃ k0 k1 : Int, vs = [vI k0, vI k1] := by
  refine (rd_array (n := 2) (e := 3) (by kernel_rfl) (by kernel_rfl) (rd_int (k := .i64) (by kernel_rfl))).imp ?_
  rintro vs ⟨rows, hl, hr, rfl⟩
  match rows, hl with
  | [r0, r1], _ =>
    obtain ⟨a, _, _, rfl⟩ := hr r0 (by simp)
    obtain ⟨b, _, _, rfl⟩ := hr r1 (by simp)
    exact ⟨a, b, rfl⟩
theorem arg_keep : ArgRd Try.prog 74 fun x => ∃ k0 k1 : Int, x = keepD k0 k1 :=
  (arg_agg (ds := .array 2 3) (by kernel_rfl) rfl rd_keep).imp fun x ⟨vs, ⟨k0, k1, h⟩, hx⟩ => ⟨k0, k1, by rw [hx, h]; rfl⟩
theorem rd_do : Rd Try.prog 69 fun vs => ∃ d : Int × List Int × Int, (0 ≤ d.2.2 ∧ d.2.2 ≤ 255) ∧ vs = [V.x (.int .u8 d.1), sB d.2.1, V.x (.int .u8 d.2.2)] := by
  refine (rd_structL (l := [(0, 5), (1, 22), (2, 5)]) (by kernel_rfl) (by kernel_rfl) (rdL_cons (off' := 1) (by kernel_rfl) (rd_int (k := .u8) (by kernel_rfl)) (rdL_cons (off' := 2) (by kernel_rfl) rd_bytes (rdL_cons (off' := 3) (by kernel_rfl) (rd_int (k := .u8) (by kernel_rfl)) (RdL.nil _))))).imp ?_
  rintro vs ⟨a, b, ⟨k, _, _, rfl⟩, ⟨c, d, ⟨xs, _, rfl⟩, ⟨e, f, ⟨n, h1, h2, rfl⟩, rfl, rfl⟩, rfl⟩, rfl⟩
  exact ⟨(k, xs, n), ⟨h1, h2⟩, rfl⟩
theorem arg_dos : ArgRd Try.prog 62 fun x => ∃ l : List (Int × List Int × Int), (∀ d, d ∈ l → 0 ≤ d.2.2 ∧ d.2.2 ≤ 255) ∧ x = .e (.c (.v (.s 3 (l.map fun d => [V.x (.int .u8 d.1), sB d.2.1, V.x (.int .u8 d.2.2)])))) := by
  refine (arg_one (ds := .slice 69) (by kernel_rfl) rfl (rd_slice (e := 69) (by kernel_rfl) rd_do) (fun vs ⟨n, _, _, h⟩ => by rw [h]; rfl)).imp ?_
  rintro x ⟨a, ⟨rows, hr, _, h⟩, rfl⟩
  obtain ⟨l, hl, rfl, _⟩ := rows_map (f := fun d : Int × List Int × Int => [V.x (.int .u8 d.1), sB d.2.1, V.x (.int .u8 d.2.2)]) (Q := fun d => 0 ≤ d.2.2 ∧ d.2.2 ≤ 255) (rows := rows) hr
  simp only [List.cons.injEq, and_true] at h
  exact ⟨l, hl, by rw [h, show Try.prog.cellsOf 69 = 3 by kernel_rfl]⟩
end Eng
end Go.Proofs.Ytgpjbcgbjpmgaaa
