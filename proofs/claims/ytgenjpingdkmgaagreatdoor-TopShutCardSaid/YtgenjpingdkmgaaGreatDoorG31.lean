/- Contracts of functions that this seat's law calls. No condition. -/
import Derived.Test.YtgenjpingdkmgaaGreatDoorCards
import Derived.Test.YtgenjpingdkmgaaGreatDoorTie
import Derived.Lay
import Derived.LaidMore
import Derived.Handed
import Derived.Stop.Joined
import Derived.Test.YtgenjpingdkmgaaGreatDoorG27
import Derived.Test.YtgenjpingdkmgaaGreatDoorG28
import Derived.Test.YtgenjpingdkmgaaGreatDoorG29
import Derived.Test.YtgenjpingdkmgaaGreatDoorG30
set_option maxRecDepth 100000
set_option linter.unusedSimpArgs false
set_option linter.unusedVariables false
open Go.Proofs.Tryz
namespace Go.Proofs.YtgenjpingdkmgaaGreatDoor
open Go.ChangeShapes Go.WideShapes Go.ChangeAt Go.RowKit
theorem topShut_lifted (os : Os) (started : os.Started) (H : Type) (enc : TypeId × Value -> H) :
    ReturnsInHanded {} Tryz.checked os 4 .any (fun w args => (Rows.topShutSpec.pre enc prog Tryz.f4 Rows.topShutRow.domain false w args /\ laidMetH prog Rows.topShutRow.laid w) /\ sizedMet enc prog Tryz.f4 (OpenSpec.ofChange Rows.topShutSpec) false w args)
      (Rows.topShutSpec.post enc prog Tryz.f4 false true false false) := by
  refine returnsInHanded_of_change_and (C := Tryz.checked) (X := fun w _ => laidMetH prog Rows.topShutRow.laid w) (fun _ _ _ hh h => h.of_heap hh) Eng.own_none started (by kernel_rfl) func4
    (ChangeSpec.witness_shaped (enc := enc) (C := Tryz.checked) (os := os) (X := fun w _ => laidMetH prog Rows.topShutRow.laid w) false (World.laidAll prog os Rows.topShutRow.laid) #[.slice none 0 0, .agg #[.string ⟨#[]⟩, .string ⟨#[]⟩, .string ⟨#[]⟩, .bool false, .int .i64 0, .int .i64 0, .int .i64 0, .bool false], .slice none 0 0] 8 (World.laidAll_os _ _ _)
      (World.shaped_of_ZipB (by kernel_rfl) (by kernel_rfl)) (by kernel_rfl) (by kernel_rfl) (by kernel_rfl)
      (by rw [MakeChecks.laidMetH_plain _ _ _ (by kernel_rfl)]; exact laidMet_laidAll _ (by kernel_rfl) (by kernel_rfl))) ?_
  intro W base args ds gs before hval0 hW hcnd _ hX2 _;refine Eng.law_contract (P := prog) (fn := Tryz.f4) (s := Rows.topShutSpec) (tb := 4) Eng.laid_out rfl rfl (by kernel_rfl) ?_ ?_ (Eng.ArgsRd.cons Eng.arg_asks (Eng.ArgsRd.cons Eng.arg_ord (Eng.ArgsRd.cons Eng.arg_lims Eng.ArgsRd.nil))) ?_ W base args ds gs before hval0 hW (Eng.glob_of (by rw [MakeChecks.laidMetH_plain _ _ _ (by kernel_rfl)] at hX2; exact hX2))
  · intro t ht;have e : Tryz.f4.params.toList = [22, 44, 33] := rfl;rw [e] at ht;simp only [List.mem_cons, List.not_mem_nil, or_false] at ht;rcases ht with rfl | rfl | rfl <;> exact ⟨by kernel_rfl, of_decide_eq_true (by kernel_rfl)⟩
  · intro H ds hl
    match ds, hl with
    | [d1, d2, d3], _ => exact ⟨rfl, rfl, rfl⟩
  · rintro Ds ⟨_, _, ⟨x1, rfl⟩, ⟨_, _, ⟨x2, rfl⟩, ⟨_, _, ⟨x3, rfl⟩, rfl, rfl⟩, rfl⟩, rfl⟩;exact Eng.topShut_c x1 x2 x3
theorem topShut_row : Rows.TopShutSaid :=
  OpenClaim.holds_of_wide 4 Tryz.f4 rfl rfl rfl rfl rfl rfl rfl ⟨rfl, rfl, rfl, rfl, rfl⟩ rfl rfl rfl rfl rfl topShutF0 func4 topShutFc topShutFi topShutFw
    (fun os started H enc _ => topShut_lifted os started H enc)
theorem topShut_card : Rows.TopShutCardSaid :=
  Claim7.holds_tied_plain_at .later [] [.data, .data, .data, .data, .sentinel, .sentinel, .data, .data, .pinned] true (true, "3af1291ab02ba808d63791fc384557b6b4027fa74574e977795b14a6c85d7802") true topShut_row (fun _ h => by cases h) topShutFt (fun _ h => by cases h) topShut_row_tie rfl ⟨rfl, rfl⟩ topShutFm rfl
    (fun f fn hf hfn => by
      obtain rfl : f = 4 := Option.some.inj (topShutF0.symm.trans hf) |>.symm;obtain rfl : fn = Tryz.f4 := (Option.some.inj (func4.symm.trans hfn)).symm
      exact ⟨topShutFl, fun j t ht => by
        rw [params4] at ht;have hm : t ∈ [22, 44, 33] := by simpa using Array.mem_of_getElem? ht
        exact (show prog.wantsStandIn t = false by simpa using List.all_eq_true.1 topShutFs t hm)⟩)
    topShutFg
end Go.Proofs.YtgenjpingdkmgaaGreatDoor
