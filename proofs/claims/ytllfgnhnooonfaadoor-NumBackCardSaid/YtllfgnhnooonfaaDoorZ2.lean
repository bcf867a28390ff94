/- What a plain walk shows, as a contract; strconv.FormatInt, strings.CutPrefix, num.Show. -/
import Derived.Test.YtllfgnhnooonfaaDoorZ1
import Derived.Test.YtllfgnhnooonfaaDoorPN
import Derived.Test.YtllfgnhnooonfaaDoorEngZ
import Derived.Lib.AppendIntMem
set_option autoImplicit false
set_option linter.unusedSimpArgs false
set_option linter.unusedVariables false
set_option maxRecDepth 100000
namespace Go.Proofs.YtllfgnhnooonfaaDoor
namespace Eng
open Go.RowKit
variable {P : Program}
theorem acall_raw {f : FuncId} {args : List D} {val : D} (hp : Plain P f) (h : ∀ (w : World) (vs : List Value) (ow : Nat → Prop) (ρ : Nat → Option Pl), Glob (fun _ => False) w → All2 (RepD w ow ρ) args vs →
    Calls P f vs.toArray w fun e w' => ∃ u, e = .returned u ∧ Below w.heap.size w w' ∧ ∀ ow' ρ', RepD w' ow' ρ' val u) : ACall P f [] args val [] :=
  ⟨hp, fun own0 w ρ vs hm ha => (h w vs _ _ (fun x hx => ⟨(hm.glob x hx).1, fun e => e, (hm.glob x hx).2.2⟩) ha).mono fun e w' ⟨u, he, hb, hd⟩ =>
    ⟨u, ρ, he, .refl _, hd _ _, (Step.grow hm ⟨hb.os, hb.tape, hb.output, hb.size, fun b h _ => hb.block b h⟩).mem⟩⟩
theorem raw_call {f : FuncId} {args : List D} {val : D} {vs : List Value} {w : World} (h : ACall P f [] args val []) (hG : Glob (fun _ => False) w) (ha : ∀ ow ρ, All2 (RepD w ow ρ) args vs) :
    Calls P f vs.toArray w fun e w' => ∃ u ow ρ, e = .returned u ∧ Below w.heap.size w w' ∧ RepD w' ow ρ val u := by
  have hmem : Mem (fun _ => False) (Hd fun _ => none) w (fun _ => none) (fun i => ([] : List Blk)[i]?) w :=
    { blks := fun i b h => by simp at h
      defd := fun _ _ => rfl
      inj := fun _ _ _ _ _ _ _ _ h _ => by simp [solid] at h
      fresh := fun _ _ _ _ h => by cases h
      keep := KeepM.refl _ _
      own0 := fun _ h => h.elim
      glob := fun x hx => ⟨(hG x hx).1, fun ⟨_, _, _, h⟩ => (by cases h), (hG x hx).2.2⟩ }
  refine (h.2 (fun _ => False) w (fun _ => none) vs hmem (ha _ _)).mono ?_
  rintro e w' ⟨u, ρ', rfl, _, hd, hm⟩
  exact ⟨u, _, ρ', rfl, ⟨hm.keep.os, hm.keep.tape, hm.keep.output, hm.keep.size, fun k hk => hm.keep.block k hk fun ⟨_, _, _, h⟩ => by cases h⟩, hd⟩
theorem glob_below {w w' : World} (h : Glob (fun _ => False) w) (k : Below w.heap.size w w') : Glob (fun _ => False) w' := fun x hx => by
  obtain ⟨h1, h2, h3⟩ := h x hx
  exact ⟨Nat.lt_of_lt_of_le h1 k.size, h2, by rw [k.block _ h1]; exact h3⟩
theorem glob_tab {w : World} (h : Glob (fun _ => False) w) : Lib.TabIs Tryd.prog w "internal/strconv.uint64pow10" .u64 Lib.pow10Tab := by
  obtain ⟨_, _, t, z, h⟩ := h _ (List.mem_cons_of_mem _ (List.mem_cons_self ..))
  unfold Lib.TabIs World.var?
  rw [show Tryd.prog.globalNamed "internal/strconv.uint64pow10" = some 2 by kernel_rfl]
  dsimp only at h
  rw [Option.bind_some, h]
  rfl
theorem glob_err {w : World} (h : Glob (fun _ => False) w) : ∃ tp p, w.cell? ⟨1, 0, none⟩ = some (.iface tp p) := by
  obtain ⟨_, _, tp, p, t, z, h⟩ := h _ (List.mem_cons_self ..)
  dsimp only at h
  exact ⟨tp, p, by unfold World.cell?; simp only [h]; rfl⟩
theorem fmt_c (n : Int) (h0 : -9223372036854775808 ≤ n) (h1 : n ≤ 9223372036854775807) : ACall Tryd.prog 26 [] [I n, I 10] (.e (.c (.v (.x (.string ⟨(Lib.itoa n).toArray⟩))))) [] := by
  refine acall_raw ⟨_, Tryd.func26, by kernel_rfl, by kernel_rfl⟩ fun w vs ow ρ hG ha => ?_
  match vs, ha with
  | [a, b], ⟨h2, h3, _⟩ =>
    obtain ⟨rfl, _⟩ := rep_x (v := .int .i64 n) h2
    obtain ⟨rfl, _⟩ := rep_x (v := .int .i64 10) h3
    refine (Any.strconv_FormatInt_10 layFi n h0 h1 w (glob_tab hG)).mono ?_
    rintro e w' ⟨rfl, k, os, rfl⟩
    exact ⟨_, rfl, Lib.below_grow _ _ (Nat.le_refl _) _ _, fun _ _ => RepV.x _ rfl⟩
end Eng
end Go.Proofs.YtllfgnhnooonfaaDoor
