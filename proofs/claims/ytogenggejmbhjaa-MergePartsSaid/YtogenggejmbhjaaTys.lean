/- The types of this translation, printed by program (wip/tools/gen.lean). -/
import Derived.Test.YtogenggejmbhjaaChecked
import Derived.Test.YtogenggejmbhjaaEngZ
set_option autoImplicit false
set_option linter.unusedSimpArgs false
set_option linter.unusedVariables false
namespace Go.Proofs.Ytogenggejmbhjaa
namespace Eng

noncomputable def tG : Nat → Option Ty := tyOf Try.prog
theorem tG_ok : TysOk Try.prog tG := tyOf_ok _
theorem mixed : Try.prog.follows .mixedOrders = true := by kernel_rfl

noncomputable def ty2 : Ty := (tyOf Try.prog 2).getD ⟨.bool, .bool false, 0, 0, none⟩
theorem tl2 : tG 2 = some ty2 ∧
    ty2.size = 1 ∧
    ty2.bytes = 8 ∧
    isAggD ty2.desc = false ∧
    zeroC ty2 = [.v (.x (.int .i64 0))] ∧
    zeroV ty2 = [.x (.int .i64 0)] ∧
    ty2.desc = .int .i64 := ⟨by kernel_rfl, by kernel_rfl, by kernel_rfl, by kernel_rfl, by kernel_rfl, by kernel_rfl, by kernel_rfl⟩
noncomputable def ty3 : Ty := (tyOf Try.prog 3).getD ⟨.bool, .bool false, 0, 0, none⟩
theorem tl3 : tG 3 = some ty3 ∧
    ty3.size = 1 ∧
    ty3.bytes = 8 ∧
    isAggD ty3.desc = false ∧
    zeroC ty3 = [.v (.x (.int .i64 0))] ∧
    zeroV ty3 = [.x (.int .i64 0)] ∧
    ty3.desc = .int .i64 := ⟨by kernel_rfl, by kernel_rfl, by kernel_rfl, by kernel_rfl, by kernel_rfl, by kernel_rfl, by kernel_rfl⟩
noncomputable def ty4 : Ty := (tyOf Try.prog 4).getD ⟨.bool, .bool false, 0, 0, none⟩
theorem tl4 : tG 4 = some ty4 ∧
    ty4.size = 1 ∧
    ty4.bytes = 1 ∧
    isAggD ty4.desc = false ∧
    zeroC ty4 = [.v (.x (.bool false))] ∧
    zeroV ty4 = [.x (.bool false)] ∧
    ty4.desc = .bool := ⟨by kernel_rfl, by kernel_rfl, by kernel_rfl, by kernel_rfl, by kernel_rfl, by kernel_rfl, by kernel_rfl⟩
noncomputable def ty5 : Ty := (tyOf Try.prog 5).getD ⟨.bool, .bool false, 0, 0, none⟩
theorem tl5 : tG 5 = some ty5 ∧
    ty5.size = 1 ∧
    ty5.bytes = 1 ∧
    isAggD ty5.desc = false ∧
    zeroC ty5 = [.v (.x (.int .u8 0))] ∧
    zeroV ty5 = [.x (.int .u8 0)] ∧
    ty5.desc = .int .u8 := ⟨by kernel_rfl, by kernel_rfl, by kernel_rfl, by kernel_rfl, by kernel_rfl, by kernel_rfl, by kernel_rfl⟩
noncomputable def ty9 : Ty := (tyOf Try.prog 9).getD ⟨.bool, .bool false, 0, 0, none⟩
theorem tl9 : tG 9 = some ty9 ∧
    ty9.size = 1 ∧
    ty9.bytes = 16 ∧
    isAggD ty9.desc = false ∧
    zeroC ty9 = [.v (.x (.string ⟨#[]⟩))] ∧
    zeroV ty9 = [.x (.string ⟨#[]⟩)] ∧
    ty9.desc = .string := ⟨by kernel_rfl, by kernel_rfl, by kernel_rfl, by kernel_rfl, by kernel_rfl, by kernel_rfl, by kernel_rfl⟩
noncomputable def ty22 : Ty := (tyOf Try.prog 22).getD ⟨.bool, .bool false, 0, 0, none⟩
theorem tl22 : tG 22 = some ty22 ∧
    ty22.size = 1 ∧
    ty22.bytes = 24 ∧
    isAggD ty22.desc = false ∧
    zeroC ty22 = [.v (.x (.slice none 0 0))] ∧
    zeroV ty22 = [.x (.slice none 0 0)] ∧
    ty22.desc = .slice 25 := ⟨by kernel_rfl, by kernel_rfl, by kernel_rfl, by kernel_rfl, by kernel_rfl, by kernel_rfl, by kernel_rfl⟩
noncomputable def ty25 : Ty := (tyOf Try.prog 25).getD ⟨.bool, .bool false, 0, 0, none⟩
theorem tl25 : tG 25 = some ty25 ∧
    ty25.size = 1 ∧
    ty25.bytes = 24 ∧
    isAggD ty25.desc = false ∧
    zeroC ty25 = [.v (.x (.slice none 0 0))] ∧
    zeroV ty25 = [.x (.slice none 0 0)] ∧
    ty25.desc = .slice 34 := ⟨by kernel_rfl, by kernel_rfl, by kernel_rfl, by kernel_rfl, by kernel_rfl, by kernel_rfl, by kernel_rfl⟩
noncomputable def ty26 : Ty := (tyOf Try.prog 26).getD ⟨.bool, .bool false, 0, 0, none⟩
theorem tl26 : tG 26 = some ty26 ∧
    ty26.size = 1 ∧
    ty26.bytes = 8 ∧
    isAggD ty26.desc = false ∧
    zeroC ty26 = [.v (.x (.int .i64 0))] ∧
    zeroV ty26 = [.x (.int .i64 0)] ∧
    ty26.desc = .int .i64 := ⟨by kernel_rfl, by kernel_rfl, by kernel_rfl, by kernel_rfl, by kernel_rfl, by kernel_rfl, by kernel_rfl⟩
noncomputable def ty34 : Ty := (tyOf Try.prog 34).getD ⟨.bool, .bool false, 0, 0, none⟩
theorem tl34 : tG 34 = some ty34 ∧
    ty34.size = 5 ∧
    ty34.bytes = 56 ∧
    isAggD ty34.desc = true ∧
    zeroC ty34 = [.v (.x (.string ⟨#[]⟩)), .v (.x (.string ⟨#[]⟩)), .v (.x (.int .i64 0)), .v (.x (.int .i64 0)), .v (.x (.bool false))] ∧
    zeroV ty34 = [.x (.string ⟨#[]⟩), .x (.string ⟨#[]⟩), .x (.int .i64 0), .x (.int .i64 0), .x (.bool false)] ∧
    buildOk tG ty34 = true ∧
    ty34.eqL = some [(0, 2), (1, 2), (2, 1), (3, 1), (4, 0)] ∧
    fieldInfo tG ty34 0 = some (0, 1, false) ∧
    placeD tG ty34 0 = some (0, 1) ∧
    fieldInfo tG ty34 1 = some (1, 1, false) ∧
    placeD tG ty34 1 = some (1, 1) ∧
    fieldInfo tG ty34 2 = some (2, 1, false) ∧
    placeD tG ty34 2 = some (2, 1) ∧
    fieldInfo tG ty34 3 = some (3, 1, false) ∧
    placeD tG ty34 3 = some (3, 1) ∧
    fieldInfo tG ty34 4 = some (4, 1, false) ∧
    placeD tG ty34 4 = some (4, 1) := ⟨by kernel_rfl, by kernel_rfl, by kernel_rfl, by kernel_rfl, by kernel_rfl, by kernel_rfl, by kernel_rfl, by kernel_rfl, by kernel_rfl, by kernel_rfl, by kernel_rfl, by kernel_rfl, by kernel_rfl, by kernel_rfl, by kernel_rfl, by kernel_rfl, by kernel_rfl, by kernel_rfl⟩
noncomputable def ty38 : Ty := (tyOf Try.prog 38).getD ⟨.bool, .bool false, 0, 0, none⟩
theorem tl38 : tG 38 = some ty38 ∧
    ty38.size = 1 ∧
    ty38.bytes = 24 ∧
    isAggD ty38.desc = false ∧
    zeroC ty38 = [.v (.x (.slice none 0 0))] ∧
    zeroV ty38 = [.x (.slice none 0 0)] ∧
    ty38.desc = .slice 40 := ⟨by kernel_rfl, by kernel_rfl, by kernel_rfl, by kernel_rfl, by kernel_rfl, by kernel_rfl, by kernel_rfl⟩
noncomputable def ty40 : Ty := (tyOf Try.prog 40).getD ⟨.bool, .bool false, 0, 0, none⟩
theorem tl40 : tG 40 = some ty40 ∧
    ty40.size = 6 ∧
    ty40.bytes = 64 ∧
    isAggD ty40.desc = true ∧
    zeroC ty40 = [.v (.x (.string ⟨#[]⟩)), .v (.x (.string ⟨#[]⟩)), .v (.x (.int .i64 0)), .v (.x (.int .i64 0)), .v (.x (.int .i64 0)), .v (.x (.int .i64 0))] ∧
    zeroV ty40 = [.x (.string ⟨#[]⟩), .x (.string ⟨#[]⟩), .x (.int .i64 0), .x (.int .i64 0), .x (.int .i64 0), .x (.int .i64 0)] ∧
    buildOk tG ty40 = true ∧
    ty40.eqL = some [(0, 2), (1, 2), (2, 1), (3, 1), (4, 1), (5, 1)] ∧
    fieldInfo tG ty40 0 = some (0, 1, false) ∧
    placeD tG ty40 0 = some (0, 1) ∧
    fieldInfo tG ty40 1 = some (1, 1, false) ∧
    placeD tG ty40 1 = some (1, 1) ∧
    fieldInfo tG ty40 2 = some (2, 1, false) ∧
    placeD tG ty40 2 = some (2, 1) ∧
    fieldInfo tG ty40 3 = some (3, 1, false) ∧
    placeD tG ty40 3 = some (3, 1) ∧
    fieldInfo tG ty40 4 = some (4, 1, false) ∧
    placeD tG ty40 4 = some (4, 1) ∧
    fieldInfo tG ty40 5 = some (5, 1, false) ∧
    placeD tG ty40 5 = some (5, 1) := ⟨by kernel_rfl, by kernel_rfl, by kernel_rfl, by kernel_rfl, by kernel_rfl, by kernel_rfl, by kernel_rfl, by kernel_rfl, by kernel_rfl, by kernel_rfl, by kernel_rfl, by kernel_rfl, by kernel_rfl, by kernel_rfl, by kernel_rfl, by kernel_rfl, by kernel_rfl, by kernel_rfl, by kernel_rfl, by kernel_rfl⟩
noncomputable def ty42 : Ty := (tyOf Try.prog 42).getD ⟨.bool, .bool false, 0, 0, none⟩
theorem tl42 : tG 42 = some ty42 ∧
    ty42.size = 8 ∧
    ty42.bytes = 88 ∧
    isAggD ty42.desc = true ∧
    zeroC ty42 = [.v (.x (.string ⟨#[]⟩)), .v (.x (.string ⟨#[]⟩)), .v (.x (.string ⟨#[]⟩)), .v (.x (.bool false)), .v (.x (.int .i64 0)), .v (.x (.int .i64 0)), .v (.x (.int .i64 0)), .v (.x (.bool false))] ∧
    zeroV ty42 = [.x (.string ⟨#[]⟩), .x (.string ⟨#[]⟩), .x (.string ⟨#[]⟩), .x (.bool false), .x (.int .i64 0), .x (.int .i64 0), .x (.int .i64 0), .x (.bool false)] ∧
    buildOk tG ty42 = true ∧
    ty42.eqL = some [(0, 2), (1, 2), (2, 2), (3, 0), (4, 1), (5, 1), (6, 1), (7, 0)] ∧
    fieldInfo tG ty42 0 = some (0, 1, false) ∧
    placeD tG ty42 0 = some (0, 1) ∧
    fieldInfo tG ty42 1 = some (1, 1, false) ∧
    placeD tG ty42 1 = some (1, 1) ∧
    fieldInfo tG ty42 2 = some (2, 1, false) ∧
    placeD tG ty42 2 = some (2, 1) ∧
    fieldInfo tG ty42 3 = some (3, 1, false) ∧
    placeD tG ty42 3 = some (3, 1) ∧
    fieldInfo tG ty42 4 = some (4, 1, false) ∧
    placeD tG ty42 4 = some (4, 1) ∧
    fieldInfo tG ty42 5 = some (5, 1, false) ∧
    placeD tG ty42 5 = some (5, 1) ∧
    fieldInfo tG ty42 6 = some (6, 1, false) ∧
    placeD tG ty42 6 = some (6, 1) ∧
    fieldInfo tG ty42 7 = some (7, 1, false) ∧
    placeD tG ty42 7 = some (7, 1) := ⟨by kernel_rfl, by kernel_rfl, by kernel_rfl, by kernel_rfl, by kernel_rfl, by kernel_rfl, by kernel_rfl, by kernel_rfl, by kernel_rfl, by kernel_rfl, by kernel_rfl, by kernel_rfl, by kernel_rfl, by kernel_rfl, by kernel_rfl, by kernel_rfl, by kernel_rfl, by kernel_rfl, by kernel_rfl, by kernel_rfl, by kernel_rfl, by kernel_rfl, by kernel_rfl, by kernel_rfl⟩
noncomputable def ty44 : Ty := (tyOf Try.prog 44).getD ⟨.bool, .bool false, 0, 0, none⟩
theorem tl44 : tG 44 = some ty44 ∧
    ty44.size = 2 ∧
    ty44.bytes = 16 ∧
    isAggD ty44.desc = true ∧
    zeroC ty44 = [.v (.x (.int .i64 0)), .v (.x (.int .i64 0))] ∧
    zeroV ty44 = [.x (.int .i64 0), .x (.int .i64 0)] ∧
    buildOk tG ty44 = true ∧
    ty44.eqL = some [(0, 1), (1, 1)] ∧
    fieldInfo tG ty44 0 = some (0, 1, false) ∧
    placeD tG ty44 0 = some (0, 1) ∧
    fieldInfo tG ty44 1 = some (1, 1, false) ∧
    placeD tG ty44 1 = some (1, 1) := ⟨by kernel_rfl, by kernel_rfl, by kernel_rfl, by kernel_rfl, by kernel_rfl, by kernel_rfl, by kernel_rfl, by kernel_rfl, by kernel_rfl, by kernel_rfl, by kernel_rfl, by kernel_rfl⟩
noncomputable def ty55 : Ty := (tyOf Try.prog 55).getD ⟨.bool, .bool false, 0, 0, none⟩
theorem tl55 : tG 55 = some ty55 ∧
    ty55.size = 1 ∧
    ty55.bytes = 2 ∧
    isAggD ty55.desc = false ∧
    zeroC ty55 = [.v (.x (.int .u16 0))] ∧
    zeroV ty55 = [.x (.int .u16 0)] ∧
    ty55.desc = .int .u16 := ⟨by kernel_rfl, by kernel_rfl, by kernel_rfl, by kernel_rfl, by kernel_rfl, by kernel_rfl, by kernel_rfl⟩
noncomputable def ty60 : Ty := (tyOf Try.prog 60).getD ⟨.bool, .bool false, 0, 0, none⟩
theorem tl60 : tG 60 = some ty60 ∧
    ty60.size = 1 ∧
    ty60.bytes = 8 ∧
    isAggD ty60.desc = false ∧
    zeroC ty60 = [.v (.x (.nilFunc))] ∧
    zeroV ty60 = [.x (.nilFunc)] := ⟨by kernel_rfl, by kernel_rfl, by kernel_rfl, by kernel_rfl, by kernel_rfl, by kernel_rfl⟩
noncomputable def ty70 : Ty := (tyOf Try.prog 70).getD ⟨.bool, .bool false, 0, 0, none⟩
theorem tl70 : tG 70 = some ty70 ∧
    ty70.size = 1 ∧
    ty70.bytes = 8 ∧
    isAggD ty70.desc = false ∧
    zeroC ty70 = [.v (.x (.nilFunc))] ∧
    zeroV ty70 = [.x (.nilFunc)] := ⟨by kernel_rfl, by kernel_rfl, by kernel_rfl, by kernel_rfl, by kernel_rfl, by kernel_rfl⟩
noncomputable def ty78 : Ty := (tyOf Try.prog 78).getD ⟨.bool, .bool false, 0, 0, none⟩
theorem tl78 : tG 78 = some ty78 ∧
    ty78.size = 1 ∧
    ty78.bytes = 24 ∧
    isAggD ty78.desc = false ∧
    zeroC ty78 = [.v (.x (.slice none 0 0))] ∧
    zeroV ty78 = [.x (.slice none 0 0)] ∧
    ty78.desc = .slice 2 := ⟨by kernel_rfl, by kernel_rfl, by kernel_rfl, by kernel_rfl, by kernel_rfl, by kernel_rfl, by kernel_rfl⟩
noncomputable def ty81 : Ty := (tyOf Try.prog 81).getD ⟨.bool, .bool false, 0, 0, none⟩
theorem tl81 : tG 81 = some ty81 ∧
    ty81.size = 1 ∧
    ty81.bytes = 8 ∧
    isAggD ty81.desc = false ∧
    zeroC ty81 = [.v (.x (.int .u64 0))] ∧
    zeroV ty81 = [.x (.int .u64 0)] ∧
    ty81.desc = .int .u64 := ⟨by kernel_rfl, by kernel_rfl, by kernel_rfl, by kernel_rfl, by kernel_rfl, by kernel_rfl, by kernel_rfl⟩
noncomputable def ty83 : Ty := (tyOf Try.prog 83).getD ⟨.bool, .bool false, 0, 0, none⟩
theorem tl83 : tG 83 = some ty83 ∧
    ty83.size = 1 ∧
    ty83.bytes = 8 ∧
    isAggD ty83.desc = false ∧
    zeroC ty83 = [.v (.x (.int .u64 0))] ∧
    zeroV ty83 = [.x (.int .u64 0)] ∧
    ty83.desc = .int .u64 := ⟨by kernel_rfl, by kernel_rfl, by kernel_rfl, by kernel_rfl, by kernel_rfl, by kernel_rfl, by kernel_rfl⟩
noncomputable def ty89 : Ty := (tyOf Try.prog 89).getD ⟨.bool, .bool false, 0, 0, none⟩
theorem tl89 : tG 89 = some ty89 ∧
    ty89.size = 1 ∧
    ty89.bytes = 24 ∧
    isAggD ty89.desc = false ∧
    zeroC ty89 = [.v (.x (.slice none 0 0))] ∧
    zeroV ty89 = [.x (.slice none 0 0)] ∧
    ty89.desc = .slice 3 := ⟨by kernel_rfl, by kernel_rfl, by kernel_rfl, by kernel_rfl, by kernel_rfl, by kernel_rfl, by kernel_rfl⟩

end Eng
end Go.Proofs.Ytogenggejmbhjaa
