/- Contracts of functions that this seat's law calls. No condition. -/
import Derived.Test.YtgenjpingdkmgaaGreatDoorCards
import Derived.Test.YtgenjpingdkmgaaGreatDoorTie
import Derived.Lay
import Derived.LaidMore
import Derived.Handed
import Derived.Stop.Joined
import Derived.Test.YtgenjpingdkmgaaGreatDoorM29
import Derived.Test.YtgenjpingdkmgaaGreatDoorM30
import Derived.Test.YtgenjpingdkmgaaGreatDoorM31
import Derived.Test.YtgenjpingdkmgaaGreatDoorM32
set_option maxRecDepth 100000
set_option linter.unusedSimpArgs false
set_option linter.unusedVariables false
namespace Go.Proofs.YtgenjpingdkmgaaGreatDoor
open Go.ChangeShapes Go.WideShapes Go.ChangeAt Go.RowKit
theorem topMerge_lifted (os : Os) (started : os.Started) (H : Type) (enc : TypeId × Value → H) :
    ReturnsInHanded {} Tryz.checked os 3 .any (fun w args => (Rows.topMergeSpec.pre enc Tryz.prog Tryz.f3 Rows.topMergeRow.domain false w args ∧ laidMetH Tryz.prog Rows.topMergeRow.laid w) ∧ sizedMet enc Tryz.prog Tryz.f3 (OpenSpec.ofChange Rows.topMergeSpec) false w args)
      (Rows.topMergeSpec.post enc Tryz.prog Tryz.f3 false true false false) := by
  refine returnsInHanded_of_change_and (C := Tryz.checked) (X := fun w _ => laidMetH Tryz.prog Rows.topMergeRow.laid w) (fun _ _ _ hh h => h.of_heap hh) Eng.own_none started (by kernel_rfl) Tryz.func3
    (ChangeSpec.witness_shaped (enc := enc) (C := Tryz.checked) (os := os) (X := fun w _ => laidMetH Tryz.prog Rows.topMergeRow.laid w) false (World.laidAll Tryz.prog os Rows.topMergeRow.laid) #[.slice none 0 0, .int .u8 0] 8 (World.laidAll_os _ _ _)
      (World.shaped_of_ZipB (by kernel_rfl) (by kernel_rfl)) (by kernel_rfl) (by kernel_rfl) (by kernel_rfl)
      (by rw [MakeChecks.laidMetH_plain _ _ _ (by kernel_rfl)]; exact laidMet_laidAll _ (by kernel_rfl) (by kernel_rfl))) ?_
  intro W base args ds gs before hval0 hW hcnd _ hX2 _
  refine Eng.law_contract (P := Tryz.prog) (fn := Tryz.f3) (s := Rows.topMergeSpec) (tb := 4) Eng.laid_out rfl rfl (by kernel_rfl) ?_ ?_ (Eng.ArgsRd.cons Eng.arg_asks (Eng.ArgsRd.cons (Eng.arg_int (k := .u8) (by kernel_rfl)) Eng.ArgsRd.nil)) ?_ W base args ds gs before hval0 hW (Eng.glob_of (by rw [MakeChecks.laidMetH_plain _ _ _ (by kernel_rfl)] at hX2; exact hX2))
  · intro t ht
    have e : Tryz.f3.params.toList = [22, 5] := rfl
    rw [e] at ht
    simp only [List.mem_cons, List.not_mem_nil, or_false] at ht
    rcases ht with rfl | rfl <;> exact ⟨by kernel_rfl, of_decide_eq_true (by kernel_rfl)⟩
  · intro H ds hl
    match ds, hl with
    | [d1, d2], _ => exact ⟨rfl, rfl, rfl⟩
  · rintro Ds ⟨_, _, ⟨x1, rfl⟩, ⟨_, _, ⟨x2, l2, u2, rfl⟩, rfl, rfl⟩, rfl⟩
    exact Eng.topMerge_c x1 x2 l2 u2
theorem topMerge_row : Rows.TopMergeSaid :=
  OpenClaim.holds_of_wide 3 Tryz.f3 rfl rfl rfl rfl rfl rfl rfl ⟨rfl, rfl, rfl, rfl, rfl⟩ rfl rfl rfl rfl rfl topMergeF0 Tryz.func3 topMergeFc topMergeFi topMergeFw
    (fun os started H enc _ => topMerge_lifted os started H enc)
theorem topMerge_card : Rows.TopMergeCardSaid :=
  Claim7.holds_tied_plain_at .later [] [.data, .data, .data, .data, .sentinel, .sentinel, .data, .data, .pinned] true (true, "3af1291ab02ba808d63791fc384557b6b4027fa74574e977795b14a6c85d7802") true topMerge_row (fun _ h => by cases h) topMergeFt (fun _ h => by cases h) topMerge_row_tie rfl ⟨rfl, rfl⟩ topMergeFm rfl
    (fun f fn hf hfn => by
      obtain rfl : f = 3 := Option.some.inj (topMergeF0.symm.trans hf) |>.symm
      obtain rfl : fn = Tryz.f3 := (Option.some.inj (Tryz.func3.symm.trans hfn)).symm
      exact ⟨topMergeFl, fun j t ht => by
        rw [Tryz.params3] at ht
        have hm : t ∈ [22, 5] := by simpa using Array.mem_of_getElem? ht
        exact (show Tryz.prog.wantsStandIn t = false by simpa using List.all_eq_true.1 topMergeFs t hm)⟩)
    topMergeFg
end Go.Proofs.YtgenjpingdkmgaaGreatDoor
