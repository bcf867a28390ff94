/- Contracts of functions that this seat's law calls. No condition. -/
import Derived.Test.YtgenjpingdkmgaaGreatDoorCards
import Derived.Test.YtgenjpingdkmgaaGreatDoorTie
import Derived.Lay
import Derived.LaidMore
import Derived.Handed
import Derived.Stop.Joined
import Derived.Test.YtgenjpingdkmgaaGreatDoorD29
import Derived.Test.YtgenjpingdkmgaaGreatDoorD30
import Derived.Test.YtgenjpingdkmgaaGreatDoorD31
import Derived.Test.YtgenjpingdkmgaaGreatDoorD32
set_option maxRecDepth 100000
set_option linter.unusedSimpArgs false
set_option linter.unusedVariables false
open Go.Proofs.Tryz
namespace Go.Proofs.YtgenjpingdkmgaaGreatDoor
open Go.ChangeShapes Go.WideShapes Go.ChangeAt Go.RowKit
theorem topDominates_lifted (os : Os) (started : os.Started) (H : Type) (enc : TypeId × Value -> H) :
    ReturnsInHanded {} Tryz.checked os 5 .any (fun w args => (Rows.topDominatesSpec.pre enc prog Tryz.f5 Rows.topDominatesRow.domain false w args /\ laidMetH prog Rows.topDominatesRow.laid w) /\ sizedMet enc prog Tryz.f5 (OpenSpec.ofChange Rows.topDominatesSpec) false w args)
      (Rows.topDominatesSpec.post enc prog Tryz.f5 false true false false) := by
  refine returnsInHanded_of_change_and (C := Tryz.checked) (X := fun w _ => laidMetH prog Rows.topDominatesRow.laid w) (fun _ _ _ hh h => h.of_heap hh) Eng.own_none started (by kernel_rfl) func5
    (ChangeSpec.witness_shaped (enc := enc) (C := Tryz.checked) (os := os) (X := fun w _ => laidMetH prog Rows.topDominatesRow.laid w) false (World.laidAll prog os Rows.topDominatesRow.laid) #[.slice none 0 0, .slice none 0 0] 8 (World.laidAll_os _ _ _)
      (World.shaped_of_ZipB (by kernel_rfl) (by kernel_rfl)) (by kernel_rfl) (by kernel_rfl) (by kernel_rfl)
      (by rw [MakeChecks.laidMetH_plain _ _ _ (by kernel_rfl)]; exact laidMet_laidAll _ (by kernel_rfl) (by kernel_rfl))) ?_
  intro W base args ds gs before hval0 hW hcnd _ hX2 _;refine Eng.law_contract (P := prog) (fn := Tryz.f5) (s := Rows.topDominatesSpec) (tb := 4) Eng.laid_out rfl rfl (by kernel_rfl) ?_ ?_ (Eng.ArgsRd.cons Eng.arg_lims (Eng.ArgsRd.cons Eng.arg_trds Eng.ArgsRd.nil)) ?_ W base args ds gs before hval0 hW (Eng.glob_of (by rw [MakeChecks.laidMetH_plain _ _ _ (by kernel_rfl)] at hX2; exact hX2))
  · intro t ht;have e : Tryz.f5.params.toList = [33, 83] := rfl;rw [e] at ht;simp only [List.mem_cons, List.not_mem_nil, or_false] at ht;rcases ht with rfl | rfl <;> exact ⟨by kernel_rfl, of_decide_eq_true (by kernel_rfl)⟩
  · intro H ds hl
    match ds, hl with
    | [d1, d2], _ => exact ⟨rfl, rfl, rfl⟩
  · rintro Ds ⟨_, _, ⟨x1, rfl⟩, ⟨_, _, ⟨x2, hx2x1, rfl⟩, rfl, rfl⟩, rfl⟩;exact Eng.topDominates_c x1 x2 hx2x1
theorem topDominates_row : Rows.TopDominatesSaid :=
  OpenClaim.holds_of_wide 5 Tryz.f5 rfl rfl rfl rfl rfl rfl rfl ⟨rfl, rfl, rfl, rfl, rfl⟩ rfl rfl rfl rfl rfl topDominatesF0 func5 topDominatesFc topDominatesFi topDominatesFw
    (fun os started H enc _ => topDominates_lifted os started H enc)
theorem topDominates_card : Rows.TopDominatesCardSaid :=
  Claim7.holds_tied_plain_at .later [] [.data, .data, .data, .data, .sentinel, .sentinel, .data, .data, .pinned] true (true, "3af1291ab02ba808d63791fc384557b6b4027fa74574e977795b14a6c85d7802") true topDominates_row (fun _ h => by cases h) topDominatesFt (fun _ h => by cases h) topDominates_row_tie rfl ⟨rfl, rfl⟩ topDominatesFm rfl
    (fun f fn hf hfn => by
      obtain rfl : f = 5 := Option.some.inj (topDominatesF0.symm.trans hf) |>.symm;obtain rfl : fn = Tryz.f5 := (Option.some.inj (func5.symm.trans hfn)).symm
      exact ⟨topDominatesFl, fun j t ht => by
        rw [params5] at ht;have hm : t ∈ [33, 83] := by simpa using Array.mem_of_getElem? ht
        exact (show prog.wantsStandIn t = false by simpa using List.all_eq_true.1 topDominatesFs t hm)⟩)
    topDominatesFg
end Go.Proofs.YtgenjpingdkmgaaGreatDoor
