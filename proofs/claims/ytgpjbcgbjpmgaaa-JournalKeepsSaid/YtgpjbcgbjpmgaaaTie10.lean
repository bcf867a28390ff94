/- What the arguments of the laws of layer 10 read as: disks of bytes. No condition. -/
import Derived.Test.YtgpjbcgbjpmgaaaTie8
set_option autoImplicit false
set_option linter.unusedSimpArgs false
set_option linter.unusedVariables false
namespace Go.Proofs.Ytgpjbcgbjpmgaaa
namespace Eng
open Go.ChangeShapes Go.WideShapes Go.ChangeAt Go.RowKit
theorem rd_fileB : Rd Try.prog 64 fun vs => ∃ s t : List Int, ((s.length ≤ maxLen ∧ Byt s) ∧ t.length ≤ maxLen ∧ Byt t) ∧ vs = [sB s, sB t] := by
  refine (rd_structL (l := [(0, 22), (1, 22)]) (by kernel_rfl) (by kernel_rfl) (rdL_cons (off' := 1) (by kernel_rfl) rd_byt (rdL_cons (off' := 2) (by kernel_rfl) rd_byt (RdL.nil _)))).imp ?_
  rintro vs ⟨a, b, ⟨s, hs, rfl⟩, ⟨c, d, ⟨t, ht, rfl⟩, rfl, rfl⟩, rfl⟩
  exact ⟨s, t, ⟨hs, ht⟩, rfl⟩
theorem rd_diskB : Rd Try.prog 67 fun vs => ∃ s0 t0 s1 t1 : List Int, (((s0.length ≤ maxLen ∧ Byt s0) ∧ t0.length ≤ maxLen ∧ Byt t0) ∧ (s1.length ≤ maxLen ∧ Byt s1) ∧ t1.length ≤ maxLen ∧ Byt t1) ∧ vs = [sB s0, sB t0, sB s1, sB t1] := by
  refine (rd_structL (l := [(0, 65)]) (by kernel_rfl) (by kernel_rfl) (rdL_cons (off' := 4) (by kernel_rfl) (rd_array (n := 2) (e := 64) (by kernel_rfl) (by kernel_rfl) rd_fileB) (RdL.nil _))).imp ?_
  rintro vs ⟨a, b, ⟨rows, hl, hr, rfl⟩, rfl, rfl⟩
  match rows, hl with
  | [r0, r1], _ =>
    obtain ⟨s0, t0, h0, rfl⟩ := hr r0 (by simp)
    obtain ⟨s1, t1, h1, rfl⟩ := hr r1 (by simp)
    exact ⟨s0, t0, s1, t1, ⟨h0, h1⟩, rfl⟩
theorem arg_diskB : ArgRd Try.prog 67 fun x => ∃ s0 t0 s1 t1 : List Int, (((s0.length ≤ maxLen ∧ Byt s0) ∧ t0.length ≤ maxLen ∧ Byt t0) ∧ (s1.length ≤ maxLen ∧ Byt s1) ∧ t1.length ≤ maxLen ∧ Byt t1) ∧ x = diskD s0 t0 s1 t1 :=
  (arg_struct (l := [(0, 65)]) (by kernel_rfl) rd_diskB).imp fun x ⟨vs, ⟨s0, t0, s1, t1, hh, h⟩, hx⟩ => ⟨s0, t0, s1, t1, hh, by rw [hx, h]; rfl⟩
theorem rd_doJ : Rd Try.prog 90 fun vs => ∃ d : Int × List Int × Int, (Byt d.2.1 ∧ 0 ≤ d.2.2 ∧ d.2.2 ≤ 255) ∧ vs = [V.x (.int .u8 d.1), sB d.2.1, V.x (.int .u8 d.2.2)] := by
  refine (rd_structL (l := [(0, 5), (1, 22), (2, 5)]) (by kernel_rfl) (by kernel_rfl) (rdL_cons (off' := 1) (by kernel_rfl) (rd_int (k := .u8) (by kernel_rfl)) (rdL_cons (off' := 2) (by kernel_rfl) rd_byt (rdL_cons (off' := 3) (by kernel_rfl) (rd_int (k := .u8) (by kernel_rfl)) (RdL.nil _))))).imp ?_
  rintro vs ⟨a, b, ⟨k, _, _, rfl⟩, ⟨c, d, ⟨xs, hx, rfl⟩, ⟨e, f, ⟨n, h1, h2, rfl⟩, rfl, rfl⟩, rfl⟩, rfl⟩
  exact ⟨(k, xs, n), ⟨hx.2, h1, h2⟩, rfl⟩
theorem arg_dosJ : ArgRd Try.prog 89 fun x => ∃ l : List (Int × List Int × Int), (l.length ≤ maxLen ∧ ∀ d, d ∈ l → Byt d.2.1 ∧ 0 ≤ d.2.2 ∧ d.2.2 ≤ 255) ∧ x = .e (.c (.v (.s 3 (l.map fun d => [V.x (.int .u8 d.1), sB d.2.1, V.x (.int .u8 d.2.2)])))) := by
  refine (arg_one (ds := .slice 90) (by kernel_rfl) rfl (rd_slice (e := 90) (by kernel_rfl) rd_doJ) (fun vs ⟨n, _, _, h⟩ => by rw [h]; rfl)).imp ?_
  rintro x ⟨a, ⟨rows, hr, hlen, h⟩, rfl⟩
  obtain ⟨l, hl, rfl, e⟩ := rows_map (f := fun d : Int × List Int × Int => [V.x (.int .u8 d.1), sB d.2.1, V.x (.int .u8 d.2.2)]) (Q := fun d => Byt d.2.1 ∧ 0 ≤ d.2.2 ∧ d.2.2 ≤ 255) (rows := rows) hr
  simp only [List.cons.injEq, and_true] at h
  exact ⟨l, ⟨by rw [e]; exact hlen, hl⟩, by rw [h, show Try.prog.cellsOf 90 = 3 by kernel_rfl]⟩
end Eng
end Go.Proofs.Ytgpjbcgbjpmgaaa
