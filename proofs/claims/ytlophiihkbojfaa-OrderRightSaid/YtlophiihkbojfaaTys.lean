/- The types of this translation, printed by program (wip/tools/gen.lean). -/
import Derived.Test.YtlophiihkbojfaaChecked
import Derived.Test.YtlophiihkbojfaaEngZ
set_option autoImplicit false
set_option linter.unusedSimpArgs false
set_option linter.unusedVariables false
namespace Go.Proofs.Ytlophiihkbojfaa
namespace Eng

noncomputable def tG : Nat → Option Ty := tyOf Try.prog
theorem tG_ok : TysOk Try.prog tG := tyOf_ok _
theorem mixed : Try.prog.follows .mixedOrders = true := by kernel_rfl

noncomputable def ty2 : Ty := (tyOf Try.prog 2).getD ⟨.bool, .bool false, 0, 0, none⟩
theorem tl2 : tG 2 = some ty2 ∧
    ty2.size = 1 ∧
    ty2.bytes = 8 ∧
    isAggD ty2.desc = false ∧
    zeroC ty2 = [.v (.x (.int .i64 0))] ∧
    zeroV ty2 = [.x (.int .i64 0)] ∧
    ty2.desc = .int .i64 := ⟨by kernel_rfl, by kernel_rfl, by kernel_rfl, by kernel_rfl, by kernel_rfl, by kernel_rfl, by kernel_rfl⟩
noncomputable def ty3 : Ty := (tyOf Try.prog 3).getD ⟨.bool, .bool false, 0, 0, none⟩
theorem tl3 : tG 3 = some ty3 ∧
    ty3.size = 1 ∧
    ty3.bytes = 8 ∧
    isAggD ty3.desc = false ∧
    zeroC ty3 = [.v (.x (.int .i64 0))] ∧
    zeroV ty3 = [.x (.int .i64 0)] ∧
    ty3.desc = .int .i64 := ⟨by kernel_rfl, by kernel_rfl, by kernel_rfl, by kernel_rfl, by kernel_rfl, by kernel_rfl, by kernel_rfl⟩
noncomputable def ty4 : Ty := (tyOf Try.prog 4).getD ⟨.bool, .bool false, 0, 0, none⟩
theorem tl4 : tG 4 = some ty4 ∧
    ty4.size = 1 ∧
    ty4.bytes = 1 ∧
    isAggD ty4.desc = false ∧
    zeroC ty4 = [.v (.x (.bool false))] ∧
    zeroV ty4 = [.x (.bool false)] ∧
    ty4.desc = .bool := ⟨by kernel_rfl, by kernel_rfl, by kernel_rfl, by kernel_rfl, by kernel_rfl, by kernel_rfl, by kernel_rfl⟩
noncomputable def ty5 : Ty := (tyOf Try.prog 5).getD ⟨.bool, .bool false, 0, 0, none⟩
theorem tl5 : tG 5 = some ty5 ∧
    ty5.size = 1 ∧
    ty5.bytes = 1 ∧
    isAggD ty5.desc = false ∧
    zeroC ty5 = [.v (.x (.int .u8 0))] ∧
    zeroV ty5 = [.x (.int .u8 0)] ∧
    ty5.desc = .int .u8 := ⟨by kernel_rfl, by kernel_rfl, by kernel_rfl, by kernel_rfl, by kernel_rfl, by kernel_rfl, by kernel_rfl⟩
noncomputable def ty9 : Ty := (tyOf Try.prog 9).getD ⟨.bool, .bool false, 0, 0, none⟩
theorem tl9 : tG 9 = some ty9 ∧
    ty9.size = 1 ∧
    ty9.bytes = 16 ∧
    isAggD ty9.desc = false ∧
    zeroC ty9 = [.v (.x (.string ⟨#[]⟩))] ∧
    zeroV ty9 = [.x (.string ⟨#[]⟩)] ∧
    ty9.desc = .string := ⟨by kernel_rfl, by kernel_rfl, by kernel_rfl, by kernel_rfl, by kernel_rfl, by kernel_rfl, by kernel_rfl⟩
noncomputable def ty22 : Ty := (tyOf Try.prog 22).getD ⟨.bool, .bool false, 0, 0, none⟩
theorem tl22 : tG 22 = some ty22 ∧
    ty22.size = 1 ∧
    ty22.bytes = 24 ∧
    isAggD ty22.desc = false ∧
    zeroC ty22 = [.v (.x (.slice none 0 0))] ∧
    zeroV ty22 = [.x (.slice none 0 0)] ∧
    ty22.desc = .slice 30 := ⟨by kernel_rfl, by kernel_rfl, by kernel_rfl, by kernel_rfl, by kernel_rfl, by kernel_rfl, by kernel_rfl⟩
noncomputable def ty25 : Ty := (tyOf Try.prog 25).getD ⟨.bool, .bool false, 0, 0, none⟩
theorem tl25 : tG 25 = some ty25 ∧
    ty25.size = 1 ∧
    ty25.bytes = 8 ∧
    isAggD ty25.desc = false ∧
    zeroC ty25 = [.v (.x (.int .i64 0))] ∧
    zeroV ty25 = [.x (.int .i64 0)] ∧
    ty25.desc = .int .i64 := ⟨by kernel_rfl, by kernel_rfl, by kernel_rfl, by kernel_rfl, by kernel_rfl, by kernel_rfl, by kernel_rfl⟩
noncomputable def ty30 : Ty := (tyOf Try.prog 30).getD ⟨.bool, .bool false, 0, 0, none⟩
theorem tl30 : tG 30 = some ty30 ∧
    ty30.size = 8 ∧
    ty30.bytes = 88 ∧
    isAggD ty30.desc = true ∧
    zeroC ty30 = [.v (.x (.string ⟨#[]⟩)), .v (.x (.string ⟨#[]⟩)), .v (.x (.string ⟨#[]⟩)), .v (.x (.bool false)), .v (.x (.int .i64 0)), .v (.x (.int .i64 0)), .v (.x (.int .i64 0)), .v (.x (.bool false))] ∧
    zeroV ty30 = [.x (.string ⟨#[]⟩), .x (.string ⟨#[]⟩), .x (.string ⟨#[]⟩), .x (.bool false), .x (.int .i64 0), .x (.int .i64 0), .x (.int .i64 0), .x (.bool false)] ∧
    buildOk tG ty30 = true ∧
    ty30.eqL = some [(0, 2), (1, 2), (2, 2), (3, 0), (4, 1), (5, 1), (6, 1), (7, 0)] ∧
    fieldInfo tG ty30 0 = some (0, 1, false) ∧
    placeD tG ty30 0 = some (0, 1) ∧
    fieldInfo tG ty30 1 = some (1, 1, false) ∧
    placeD tG ty30 1 = some (1, 1) ∧
    fieldInfo tG ty30 2 = some (2, 1, false) ∧
    placeD tG ty30 2 = some (2, 1) ∧
    fieldInfo tG ty30 3 = some (3, 1, false) ∧
    placeD tG ty30 3 = some (3, 1) ∧
    fieldInfo tG ty30 4 = some (4, 1, false) ∧
    placeD tG ty30 4 = some (4, 1) ∧
    fieldInfo tG ty30 5 = some (5, 1, false) ∧
    placeD tG ty30 5 = some (5, 1) ∧
    fieldInfo tG ty30 6 = some (6, 1, false) ∧
    placeD tG ty30 6 = some (6, 1) ∧
    fieldInfo tG ty30 7 = some (7, 1, false) ∧
    placeD tG ty30 7 = some (7, 1) := ⟨by kernel_rfl, by kernel_rfl, by kernel_rfl, by kernel_rfl, by kernel_rfl, by kernel_rfl, by kernel_rfl, by kernel_rfl, by kernel_rfl, by kernel_rfl, by kernel_rfl, by kernel_rfl, by kernel_rfl, by kernel_rfl, by kernel_rfl, by kernel_rfl, by kernel_rfl, by kernel_rfl, by kernel_rfl, by kernel_rfl, by kernel_rfl, by kernel_rfl, by kernel_rfl, by kernel_rfl⟩
noncomputable def ty35 : Ty := (tyOf Try.prog 35).getD ⟨.bool, .bool false, 0, 0, none⟩
theorem tl35 : tG 35 = some ty35 ∧
    ty35.size = 12 ∧
    ty35.bytes = 128 ∧
    isAggD ty35.desc = true ∧
    zeroC ty35 = [.v (.x (.int .u8 0)), .v (.x (.string ⟨#[]⟩)), .v (.x (.string ⟨#[]⟩)), .v (.x (.string ⟨#[]⟩)), .v (.x (.bool false)), .v (.x (.int .i64 0)), .v (.x (.int .i64 0)), .v (.x (.int .i64 0)), .v (.x (.bool false)), .v (.x (.string ⟨#[]⟩)), .v (.x (.int .i64 0)), .v (.x (.int .i64 0))] ∧
    zeroV ty35 = [.x (.int .u8 0), .x (.string ⟨#[]⟩), .x (.string ⟨#[]⟩), .x (.string ⟨#[]⟩), .x (.bool false), .x (.int .i64 0), .x (.int .i64 0), .x (.int .i64 0), .x (.bool false), .x (.string ⟨#[]⟩), .x (.int .i64 0), .x (.int .i64 0)] ∧
    buildOk tG ty35 = true ∧
    fieldInfo tG ty35 0 = some (0, 1, false) ∧
    placeD tG ty35 0 = some (0, 1) ∧
    fieldInfo tG ty35 1 = some (1, 8, true) ∧
    placeD tG ty35 1 = some (1, 8) ∧
    fieldInfo tG ty35 2 = some (9, 1, false) ∧
    placeD tG ty35 2 = some (9, 1) ∧
    fieldInfo tG ty35 3 = some (10, 1, false) ∧
    placeD tG ty35 3 = some (10, 1) ∧
    fieldInfo tG ty35 4 = some (11, 1, false) ∧
    placeD tG ty35 4 = some (11, 1) := ⟨by kernel_rfl, by kernel_rfl, by kernel_rfl, by kernel_rfl, by kernel_rfl, by kernel_rfl, by kernel_rfl, by kernel_rfl, by kernel_rfl, by kernel_rfl, by kernel_rfl, by kernel_rfl, by kernel_rfl, by kernel_rfl, by kernel_rfl, by kernel_rfl, by kernel_rfl⟩
noncomputable def ty41 : Ty := (tyOf Try.prog 41).getD ⟨.bool, .bool false, 0, 0, none⟩
theorem tl41 : tG 41 = some ty41 ∧
    ty41.size = 1 ∧
    ty41.bytes = 8 ∧
    isAggD ty41.desc = false ∧
    zeroC ty41 = [.v (.x (.nilFunc))] ∧
    zeroV ty41 = [.x (.nilFunc)] := ⟨by kernel_rfl, by kernel_rfl, by kernel_rfl, by kernel_rfl, by kernel_rfl, by kernel_rfl⟩
noncomputable def ty44 : Ty := (tyOf Try.prog 44).getD ⟨.bool, .bool false, 0, 0, none⟩
theorem tl44 : tG 44 = some ty44 ∧
    ty44.size = 1 ∧
    ty44.bytes = 24 ∧
    isAggD ty44.desc = false ∧
    zeroC ty44 = [.v (.x (.slice none 0 0))] ∧
    zeroV ty44 = [.x (.slice none 0 0)] ∧
    ty44.desc = .slice 35 := ⟨by kernel_rfl, by kernel_rfl, by kernel_rfl, by kernel_rfl, by kernel_rfl, by kernel_rfl, by kernel_rfl⟩

end Eng
end Go.Proofs.Ytlophiihkbojfaa
