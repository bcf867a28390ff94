/- The types of this translation, printed by program (wip/tools/gen.lean). -/
import Derived.Test.YtfndbcebbdbhaaaChecked
import Derived.Test.YtfndbcebbdbhaaaEngZ
set_option autoImplicit false
set_option linter.unusedSimpArgs false
set_option linter.unusedVariables false
namespace Go.Proofs.Ytfndbcebbdbhaaa
namespace Eng

noncomputable def tG : Nat → Option Ty := tyOf Try.prog
theorem tG_ok : TysOk Try.prog tG := tyOf_ok _
theorem mixed : Try.prog.follows .mixedOrders = true := by kernel_rfl

noncomputable def ty2 : Ty := (tyOf Try.prog 2).getD ⟨.bool, .bool false, 0, 0⟩
theorem tl2 : tG 2 = some ty2 ∧
    ty2.size = 1 ∧
    ty2.bytes = 8 ∧
    isAggD ty2.desc = false ∧
    zeroC ty2 = [.v (.x (.int .i64 0))] ∧
    zeroV ty2 = [.x (.int .i64 0)] ∧
    ty2.desc = .int .i64 := ⟨by kernel_rfl, by kernel_rfl, by kernel_rfl, by kernel_rfl, by kernel_rfl, by kernel_rfl, by kernel_rfl⟩
noncomputable def ty3 : Ty := (tyOf Try.prog 3).getD ⟨.bool, .bool false, 0, 0⟩
theorem tl3 : tG 3 = some ty3 ∧
    ty3.size = 1 ∧
    ty3.bytes = 8 ∧
    isAggD ty3.desc = false ∧
    zeroC ty3 = [.v (.x (.int .i64 0))] ∧
    zeroV ty3 = [.x (.int .i64 0)] ∧
    ty3.desc = .int .i64 := ⟨by kernel_rfl, by kernel_rfl, by kernel_rfl, by kernel_rfl, by kernel_rfl, by kernel_rfl, by kernel_rfl⟩
noncomputable def ty4 : Ty := (tyOf Try.prog 4).getD ⟨.bool, .bool false, 0, 0⟩
theorem tl4 : tG 4 = some ty4 ∧
    ty4.size = 1 ∧
    ty4.bytes = 1 ∧
    isAggD ty4.desc = false ∧
    zeroC ty4 = [.v (.x (.bool false))] ∧
    zeroV ty4 = [.x (.bool false)] ∧
    ty4.desc = .bool := ⟨by kernel_rfl, by kernel_rfl, by kernel_rfl, by kernel_rfl, by kernel_rfl, by kernel_rfl, by kernel_rfl⟩
noncomputable def ty5 : Ty := (tyOf Try.prog 5).getD ⟨.bool, .bool false, 0, 0⟩
theorem tl5 : tG 5 = some ty5 ∧
    ty5.size = 1 ∧
    ty5.bytes = 1 ∧
    isAggD ty5.desc = false ∧
    zeroC ty5 = [.v (.x (.int .u8 0))] ∧
    zeroV ty5 = [.x (.int .u8 0)] ∧
    ty5.desc = .int .u8 := ⟨by kernel_rfl, by kernel_rfl, by kernel_rfl, by kernel_rfl, by kernel_rfl, by kernel_rfl, by kernel_rfl⟩
noncomputable def ty22 : Ty := (tyOf Try.prog 22).getD ⟨.bool, .bool false, 0, 0⟩
theorem tl22 : tG 22 = some ty22 ∧
    ty22.size = 1 ∧
    ty22.bytes = 24 ∧
    isAggD ty22.desc = false ∧
    zeroC ty22 = [.v (.x (.slice none 0 0))] ∧
    zeroV ty22 = [.x (.slice none 0 0)] ∧
    ty22.desc = .slice 2 := ⟨by kernel_rfl, by kernel_rfl, by kernel_rfl, by kernel_rfl, by kernel_rfl, by kernel_rfl, by kernel_rfl⟩
noncomputable def ty24 : Ty := (tyOf Try.prog 24).getD ⟨.bool, .bool false, 0, 0⟩
theorem tl24 : tG 24 = some ty24 ∧
    ty24.size = 3 ∧
    ty24.bytes = 40 ∧
    isAggD ty24.desc = true ∧
    zeroC ty24 = [.v (.x (.int .i64 0)), .v (.x (.int .i64 0)), .v (.x (.slice none 0 0))] ∧
    zeroV ty24 = [.x (.int .i64 0), .x (.int .i64 0), .x (.slice none 0 0)] ∧
    buildOk tG ty24 = true ∧
    fieldInfo tG ty24 0 = some (0, 1, false) ∧
    placeD tG ty24 0 = some (0, 1) ∧
    fieldInfo tG ty24 1 = some (1, 1, false) ∧
    placeD tG ty24 1 = some (1, 1) ∧
    fieldInfo tG ty24 2 = some (2, 1, false) ∧
    placeD tG ty24 2 = some (2, 1) := ⟨by kernel_rfl, by kernel_rfl, by kernel_rfl, by kernel_rfl, by kernel_rfl, by kernel_rfl, by kernel_rfl, by kernel_rfl, by kernel_rfl, by kernel_rfl, by kernel_rfl, by kernel_rfl, by kernel_rfl⟩
noncomputable def ty26 : Ty := (tyOf Try.prog 26).getD ⟨.bool, .bool false, 0, 0⟩
theorem tl26 : tG 26 = some ty26 ∧
    ty26.size = 1 ∧
    ty26.bytes = 8 ∧
    isAggD ty26.desc = false ∧
    zeroC ty26 = [.v (.x (.int .i64 0))] ∧
    zeroV ty26 = [.x (.int .i64 0)] ∧
    ty26.desc = .int .i64 := ⟨by kernel_rfl, by kernel_rfl, by kernel_rfl, by kernel_rfl, by kernel_rfl, by kernel_rfl, by kernel_rfl⟩
noncomputable def ty36 : Ty := (tyOf Try.prog 36).getD ⟨.bool, .bool false, 0, 0⟩
theorem tl36 : tG 36 = some ty36 ∧
    ty36.size = 1 ∧
    ty36.bytes = 2 ∧
    isAggD ty36.desc = false ∧
    zeroC ty36 = [.v (.x (.int .u16 0))] ∧
    zeroV ty36 = [.x (.int .u16 0)] ∧
    ty36.desc = .int .u16 := ⟨by kernel_rfl, by kernel_rfl, by kernel_rfl, by kernel_rfl, by kernel_rfl, by kernel_rfl, by kernel_rfl⟩
noncomputable def ty40 : Ty := (tyOf Try.prog 40).getD ⟨.bool, .bool false, 0, 0⟩
theorem tl40 : tG 40 = some ty40 ∧
    ty40.size = 1 ∧
    ty40.bytes = 24 ∧
    isAggD ty40.desc = false ∧
    zeroC ty40 = [.v (.x (.slice none 0 0))] ∧
    zeroV ty40 = [.x (.slice none 0 0)] ∧
    ty40.desc = .slice 5 := ⟨by kernel_rfl, by kernel_rfl, by kernel_rfl, by kernel_rfl, by kernel_rfl, by kernel_rfl, by kernel_rfl⟩

end Eng
end Go.Proofs.Ytfndbcebbdbhaaa
