/- The types of this translation, printed by program (wip/tools/gen.lean). -/
import Derived.Test.YtpmammacnoamkaaChecked
import Derived.Test.YtpmammacnoamkaaEngZ
set_option autoImplicit false
set_option linter.unusedSimpArgs false
set_option linter.unusedVariables false
namespace Go.Proofs.Ytpmammacnoamkaa
namespace Eng

noncomputable def tG : Nat → Option Ty := tyOf Try.prog
theorem tG_ok : TysOk Try.prog tG := tyOf_ok _
theorem mixed : Try.prog.follows .mixedOrders = true := by kernel_rfl

noncomputable def ty2 : Ty := (tyOf Try.prog 2).getD ⟨.bool, .bool false, 0, 0, none⟩
theorem tl2 : tG 2 = some ty2 ∧
    ty2.size = 1 ∧
    ty2.bytes = 8 ∧
    isAggD ty2.desc = false ∧
    zeroC ty2 = [.v (.x (.int .i64 0))] ∧
    zeroV ty2 = [.x (.int .i64 0)] ∧
    ty2.desc = .int .i64 := ⟨by kernel_rfl, by kernel_rfl, by kernel_rfl, by kernel_rfl, by kernel_rfl, by kernel_rfl, by kernel_rfl⟩
noncomputable def ty3 : Ty := (tyOf Try.prog 3).getD ⟨.bool, .bool false, 0, 0, none⟩
theorem tl3 : tG 3 = some ty3 ∧
    ty3.size = 1 ∧
    ty3.bytes = 8 ∧
    isAggD ty3.desc = false ∧
    zeroC ty3 = [.v (.x (.int .i64 0))] ∧
    zeroV ty3 = [.x (.int .i64 0)] ∧
    ty3.desc = .int .i64 := ⟨by kernel_rfl, by kernel_rfl, by kernel_rfl, by kernel_rfl, by kernel_rfl, by kernel_rfl, by kernel_rfl⟩
noncomputable def ty4 : Ty := (tyOf Try.prog 4).getD ⟨.bool, .bool false, 0, 0, none⟩
theorem tl4 : tG 4 = some ty4 ∧
    ty4.size = 1 ∧
    ty4.bytes = 1 ∧
    isAggD ty4.desc = false ∧
    zeroC ty4 = [.v (.x (.bool false))] ∧
    zeroV ty4 = [.x (.bool false)] ∧
    ty4.desc = .bool := ⟨by kernel_rfl, by kernel_rfl, by kernel_rfl, by kernel_rfl, by kernel_rfl, by kernel_rfl, by kernel_rfl⟩
noncomputable def ty5 : Ty := (tyOf Try.prog 5).getD ⟨.bool, .bool false, 0, 0, none⟩
theorem tl5 : tG 5 = some ty5 ∧
    ty5.size = 1 ∧
    ty5.bytes = 1 ∧
    isAggD ty5.desc = false ∧
    zeroC ty5 = [.v (.x (.int .u8 0))] ∧
    zeroV ty5 = [.x (.int .u8 0)] ∧
    ty5.desc = .int .u8 := ⟨by kernel_rfl, by kernel_rfl, by kernel_rfl, by kernel_rfl, by kernel_rfl, by kernel_rfl, by kernel_rfl⟩
noncomputable def ty9 : Ty := (tyOf Try.prog 9).getD ⟨.bool, .bool false, 0, 0, none⟩
theorem tl9 : tG 9 = some ty9 ∧
    ty9.size = 1 ∧
    ty9.bytes = 16 ∧
    isAggD ty9.desc = false ∧
    zeroC ty9 = [.v (.x (.string ⟨#[]⟩))] ∧
    zeroV ty9 = [.x (.string ⟨#[]⟩)] ∧
    ty9.desc = .string := ⟨by kernel_rfl, by kernel_rfl, by kernel_rfl, by kernel_rfl, by kernel_rfl, by kernel_rfl, by kernel_rfl⟩
noncomputable def ty22 : Ty := (tyOf Try.prog 22).getD ⟨.bool, .bool false, 0, 0, none⟩
theorem tl22 : tG 22 = some ty22 ∧
    ty22.size = 1 ∧
    ty22.bytes = 24 ∧
    isAggD ty22.desc = false ∧
    zeroC ty22 = [.v (.x (.slice none 0 0))] ∧
    zeroV ty22 = [.x (.slice none 0 0)] ∧
    ty22.desc = .slice 5 := ⟨by kernel_rfl, by kernel_rfl, by kernel_rfl, by kernel_rfl, by kernel_rfl, by kernel_rfl, by kernel_rfl⟩
noncomputable def ty24 : Ty := (tyOf Try.prog 24).getD ⟨.bool, .bool false, 0, 0, none⟩
theorem tl24 : tG 24 = some ty24 ∧
    ty24.size = 1 ∧
    ty24.bytes = 24 ∧
    isAggD ty24.desc = false ∧
    zeroC ty24 = [.v (.x (.slice none 0 0))] ∧
    zeroV ty24 = [.x (.slice none 0 0)] ∧
    ty24.desc = .slice 35 := ⟨by kernel_rfl, by kernel_rfl, by kernel_rfl, by kernel_rfl, by kernel_rfl, by kernel_rfl, by kernel_rfl⟩
noncomputable def ty26 : Ty := (tyOf Try.prog 26).getD ⟨.bool, .bool false, 0, 0, none⟩
theorem tl26 : tG 26 = some ty26 ∧
    ty26.size = 2 ∧
    ty26.bytes = 32 ∧
    isAggD ty26.desc = true ∧
    zeroC ty26 = [.v (.x (.int .i64 0)), .v (.x (.slice none 0 0))] ∧
    zeroV ty26 = [.x (.int .i64 0), .x (.slice none 0 0)] ∧
    buildOk tG ty26 = true ∧
    fieldInfo tG ty26 0 = some (0, 1, false) ∧
    placeD tG ty26 0 = some (0, 1) ∧
    fieldInfo tG ty26 1 = some (1, 1, false) ∧
    placeD tG ty26 1 = some (1, 1) := ⟨by kernel_rfl, by kernel_rfl, by kernel_rfl, by kernel_rfl, by kernel_rfl, by kernel_rfl, by kernel_rfl, by kernel_rfl, by kernel_rfl, by kernel_rfl, by kernel_rfl⟩
noncomputable def ty27 : Ty := (tyOf Try.prog 27).getD ⟨.bool, .bool false, 0, 0, none⟩
theorem tl27 : tG 27 = some ty27 ∧
    ty27.size = 61 ∧
    ty27.bytes = 61 ∧
    isAggD ty27.desc = true ∧
    zeroC ty27 = [.v (.x (.bool false)), .v (.x (.bool false)), .v (.x (.bool false)), .v (.x (.bool false)), .v (.x (.bool false)), .v (.x (.bool false)), .v (.x (.bool false)), .v (.x (.bool false)), .v (.x (.bool false)), .v (.x (.bool false)), .v (.x (.bool false)), .v (.x (.bool false)), .v (.x (.bool false)), .v (.x (.bool false)), .v (.x (.bool false)), .v (.x (.bool false)), .v (.x (.bool false)), .v (.x (.bool false)), .v (.x (.bool false)), .v (.x (.bool false)), .v (.x (.bool false)), .v (.x (.bool false)), .v (.x (.bool false)), .v (.x (.bool false)), .v (.x (.bool false)), .v (.x (.bool false)), .v (.x (.bool false)), .v (.x (.bool false)), .v (.x (.bool false)), .v (.x (.bool false)), .v (.x (.bool false)), .v (.x (.bool false)), .v (.x (.bool false)), .v (.x (.bool false)), .v (.x (.bool false)), .v (.x (.bool false)), .v (.x (.bool false)), .v (.x (.bool false)), .v (.x (.bool false)), .v (.x (.bool false)), .v (.x (.bool false)), .v (.x (.bool false)), .v (.x (.bool false)), .v (.x (.bool false)), .v (.x (.bool false)), .v (.x (.bool false)), .v (.x (.bool false)), .v (.x (.bool false)), .v (.x (.bool false)), .v (.x (.bool false)), .v (.x (.bool false)), .v (.x (.bool false)), .v (.x (.bool false)), .v (.x (.bool false)), .v (.x (.bool false)), .v (.x (.bool false)), .v (.x (.bool false)), .v (.x (.bool false)), .v (.x (.bool false)), .v (.x (.bool false)), .v (.x (.bool false))] ∧
    zeroV ty27 = [.x (.bool false), .x (.bool false), .x (.bool false), .x (.bool false), .x (.bool false), .x (.bool false), .x (.bool false), .x (.bool false), .x (.bool false), .x (.bool false), .x (.bool false), .x (.bool false), .x (.bool false), .x (.bool false), .x (.bool false), .x (.bool false), .x (.bool false), .x (.bool false), .x (.bool false), .x (.bool false), .x (.bool false), .x (.bool false), .x (.bool false), .x (.bool false), .x (.bool false), .x (.bool false), .x (.bool false), .x (.bool false), .x (.bool false), .x (.bool false), .x (.bool false), .x (.bool false), .x (.bool false), .x (.bool false), .x (.bool false), .x (.bool false), .x (.bool false), .x (.bool false), .x (.bool false), .x (.bool false), .x (.bool false), .x (.bool false), .x (.bool false), .x (.bool false), .x (.bool false), .x (.bool false), .x (.bool false), .x (.bool false), .x (.bool false), .x (.bool false), .x (.bool false), .x (.bool false), .x (.bool false), .x (.bool false), .x (.bool false), .x (.bool false), .x (.bool false), .x (.bool false), .x (.bool false), .x (.bool false), .x (.bool false)] ∧
    ty27.desc = .array 61 4 ∧
    buildOk tG ty27 = true ∧
    placeD tG ty27 0 = some (0, 1) ∧
    placeD tG ty27 1 = some (1, 1) ∧
    placeD tG ty27 2 = some (2, 1) ∧
    placeD tG ty27 3 = some (3, 1) ∧
    placeD tG ty27 4 = some (4, 1) ∧
    placeD tG ty27 5 = some (5, 1) ∧
    placeD tG ty27 6 = some (6, 1) ∧
    placeD tG ty27 7 = some (7, 1) ∧
    placeD tG ty27 8 = some (8, 1) ∧
    placeD tG ty27 9 = some (9, 1) ∧
    placeD tG ty27 10 = some (10, 1) ∧
    placeD tG ty27 11 = some (11, 1) ∧
    placeD tG ty27 12 = some (12, 1) ∧
    placeD tG ty27 13 = some (13, 1) ∧
    placeD tG ty27 14 = some (14, 1) ∧
    placeD tG ty27 15 = some (15, 1) ∧
    placeD tG ty27 16 = some (16, 1) ∧
    placeD tG ty27 17 = some (17, 1) ∧
    placeD tG ty27 18 = some (18, 1) ∧
    placeD tG ty27 19 = some (19, 1) ∧
    placeD tG ty27 20 = some (20, 1) ∧
    placeD tG ty27 21 = some (21, 1) ∧
    placeD tG ty27 22 = some (22, 1) ∧
    placeD tG ty27 23 = some (23, 1) ∧
    placeD tG ty27 24 = some (24, 1) ∧
    placeD tG ty27 25 = some (25, 1) ∧
    placeD tG ty27 26 = some (26, 1) ∧
    placeD tG ty27 27 = some (27, 1) ∧
    placeD tG ty27 28 = some (28, 1) ∧
    placeD tG ty27 29 = some (29, 1) ∧
    placeD tG ty27 30 = some (30, 1) ∧
    placeD tG ty27 31 = some (31, 1) ∧
    placeD tG ty27 32 = some (32, 1) ∧
    placeD tG ty27 33 = some (33, 1) ∧
    placeD tG ty27 34 = some (34, 1) ∧
    placeD tG ty27 35 = some (35, 1) ∧
    placeD tG ty27 36 = some (36, 1) ∧
    placeD tG ty27 37 = some (37, 1) ∧
    placeD tG ty27 38 = some (38, 1) ∧
    placeD tG ty27 39 = some (39, 1) := ⟨by kernel_rfl, by kernel_rfl, by kernel_rfl, by kernel_rfl, by kernel_rfl, by kernel_rfl, by kernel_rfl, by kernel_rfl, by kernel_rfl, by kernel_rfl, by kernel_rfl, by kernel_rfl, by kernel_rfl, by kernel_rfl, by kernel_rfl, by kernel_rfl, by kernel_rfl, by kernel_rfl, by kernel_rfl, by kernel_rfl, by kernel_rfl, by kernel_rfl, by kernel_rfl, by kernel_rfl, by kernel_rfl, by kernel_rfl, by kernel_rfl, by kernel_rfl, by kernel_rfl, by kernel_rfl, by kernel_rfl, by kernel_rfl, by kernel_rfl, by kernel_rfl, by kernel_rfl, by kernel_rfl, by kernel_rfl, by kernel_rfl, by kernel_rfl, by kernel_rfl, by kernel_rfl, by kernel_rfl, by kernel_rfl, by kernel_rfl, by kernel_rfl, by kernel_rfl, by kernel_rfl, by kernel_rfl⟩
noncomputable def ty31 : Ty := (tyOf Try.prog 31).getD ⟨.bool, .bool false, 0, 0, none⟩
theorem tl31 : tG 31 = some ty31 ∧
    ty31.size = 10 ∧
    ty31.bytes = 120 ∧
    isAggD ty31.desc = true ∧
    zeroC ty31 = [.v (.x (.string ⟨#[]⟩)), .v (.x (.string ⟨#[]⟩)), .v (.x (.string ⟨#[]⟩)), .v (.x (.string ⟨#[]⟩)), .v (.x (.string ⟨#[]⟩)), .v (.x (.int .i64 0)), .v (.x (.bool false)), .v (.x (.int .i64 0)), .v (.x (.int .i64 0)), .v (.x (.int .i64 0))] ∧
    zeroV ty31 = [.x (.string ⟨#[]⟩), .x (.string ⟨#[]⟩), .x (.string ⟨#[]⟩), .x (.string ⟨#[]⟩), .x (.string ⟨#[]⟩), .x (.int .i64 0), .x (.bool false), .x (.int .i64 0), .x (.int .i64 0), .x (.int .i64 0)] ∧
    buildOk tG ty31 = true ∧
    ty31.eqL = some [(0, 2), (1, 2), (2, 2), (3, 2), (4, 2), (5, 1), (6, 0), (7, 1), (8, 1), (9, 1)] ∧
    fieldInfo tG ty31 0 = some (0, 1, false) ∧
    placeD tG ty31 0 = some (0, 1) ∧
    fieldInfo tG ty31 1 = some (1, 1, false) ∧
    placeD tG ty31 1 = some (1, 1) ∧
    fieldInfo tG ty31 2 = some (2, 1, false) ∧
    placeD tG ty31 2 = some (2, 1) ∧
    fieldInfo tG ty31 3 = some (3, 1, false) ∧
    placeD tG ty31 3 = some (3, 1) ∧
    fieldInfo tG ty31 4 = some (4, 1, false) ∧
    placeD tG ty31 4 = some (4, 1) ∧
    fieldInfo tG ty31 5 = some (5, 1, false) ∧
    placeD tG ty31 5 = some (5, 1) ∧
    fieldInfo tG ty31 6 = some (6, 1, false) ∧
    placeD tG ty31 6 = some (6, 1) ∧
    fieldInfo tG ty31 7 = some (7, 1, false) ∧
    placeD tG ty31 7 = some (7, 1) ∧
    fieldInfo tG ty31 8 = some (8, 1, false) ∧
    placeD tG ty31 8 = some (8, 1) ∧
    fieldInfo tG ty31 9 = some (9, 1, false) ∧
    placeD tG ty31 9 = some (9, 1) := ⟨by kernel_rfl, by kernel_rfl, by kernel_rfl, by kernel_rfl, by kernel_rfl, by kernel_rfl, by kernel_rfl, by kernel_rfl, by kernel_rfl, by kernel_rfl, by kernel_rfl, by kernel_rfl, by kernel_rfl, by kernel_rfl, by kernel_rfl, by kernel_rfl, by kernel_rfl, by kernel_rfl, by kernel_rfl, by kernel_rfl, by kernel_rfl, by kernel_rfl, by kernel_rfl, by kernel_rfl, by kernel_rfl, by kernel_rfl, by kernel_rfl, by kernel_rfl⟩
noncomputable def ty33 : Ty := (tyOf Try.prog 33).getD ⟨.bool, .bool false, 0, 0, none⟩
theorem tl33 : tG 33 = some ty33 ∧
    ty33.size = 18 ∧
    ty33.bytes = 192 ∧
    isAggD ty33.desc = true ∧
    zeroC ty33 = [.v (.x (.int .i64 0)), .v (.x (.int .i64 0)), .v (.x (.int .i64 0)), .v (.x (.bool false)), .v (.x (.int .i64 0)), .v (.x (.int .i64 0)), .v (.x (.bool false)), .v (.x (.string ⟨#[]⟩)), .v (.x (.string ⟨#[]⟩)), .v (.x (.string ⟨#[]⟩)), .v (.x (.string ⟨#[]⟩)), .v (.x (.string ⟨#[]⟩)), .v (.x (.string ⟨#[]⟩)), .v (.x (.int .i64 0)), .v (.x (.bool false)), .v (.x (.int .i64 0)), .v (.x (.int .i64 0)), .v (.x (.int .i64 0))] ∧
    zeroV ty33 = [.x (.int .i64 0), .x (.int .i64 0), .x (.int .i64 0), .x (.bool false), .x (.int .i64 0), .x (.int .i64 0), .x (.bool false), .x (.string ⟨#[]⟩), .x (.string ⟨#[]⟩), .x (.string ⟨#[]⟩), .x (.string ⟨#[]⟩), .x (.string ⟨#[]⟩), .x (.string ⟨#[]⟩), .x (.int .i64 0), .x (.bool false), .x (.int .i64 0), .x (.int .i64 0), .x (.int .i64 0)] ∧
    buildOk tG ty33 = true ∧
    ty33.eqL = some [(0, 1), (1, 1), (2, 1), (3, 0), (4, 1), (5, 1), (6, 0), (7, 2), (8, 2), (9, 2), (10, 2), (11, 2), (12, 2), (13, 1), (14, 0), (15, 1), (16, 1), (17, 1)] ∧
    fieldInfo tG ty33 0 = some (0, 1, false) ∧
    placeD tG ty33 0 = some (0, 1) ∧
    fieldInfo tG ty33 1 = some (1, 1, false) ∧
    placeD tG ty33 1 = some (1, 1) ∧
    fieldInfo tG ty33 2 = some (2, 1, false) ∧
    placeD tG ty33 2 = some (2, 1) ∧
    fieldInfo tG ty33 3 = some (3, 1, false) ∧
    placeD tG ty33 3 = some (3, 1) ∧
    fieldInfo tG ty33 4 = some (4, 1, false) ∧
    placeD tG ty33 4 = some (4, 1) ∧
    fieldInfo tG ty33 5 = some (5, 1, false) ∧
    placeD tG ty33 5 = some (5, 1) ∧
    fieldInfo tG ty33 6 = some (6, 1, false) ∧
    placeD tG ty33 6 = some (6, 1) ∧
    fieldInfo tG ty33 7 = some (7, 1, false) ∧
    placeD tG ty33 7 = some (7, 1) ∧
    fieldInfo tG ty33 8 = some (8, 10, true) ∧
    placeD tG ty33 8 = some (8, 10) := ⟨by kernel_rfl, by kernel_rfl, by kernel_rfl, by kernel_rfl, by kernel_rfl, by kernel_rfl, by kernel_rfl, by kernel_rfl, by kernel_rfl, by kernel_rfl, by kernel_rfl, by kernel_rfl, by kernel_rfl, by kernel_rfl, by kernel_rfl, by kernel_rfl, by kernel_rfl, by kernel_rfl, by kernel_rfl, by kernel_rfl, by kernel_rfl, by kernel_rfl, by kernel_rfl, by kernel_rfl, by kernel_rfl, by kernel_rfl⟩
noncomputable def ty35 : Ty := (tyOf Try.prog 35).getD ⟨.bool, .bool false, 0, 0, none⟩
theorem tl35 : tG 35 = some ty35 ∧
    ty35.size = 20 ∧
    ty35.bytes = 208 ∧
    isAggD ty35.desc = true ∧
    zeroC ty35 = [.v (.x (.int .i64 0)), .v (.x (.int .i64 0)), .v (.x (.int .i64 0)), .v (.x (.int .i64 0)), .v (.x (.int .i64 0)), .v (.x (.bool false)), .v (.x (.int .i64 0)), .v (.x (.int .i64 0)), .v (.x (.bool false)), .v (.x (.string ⟨#[]⟩)), .v (.x (.string ⟨#[]⟩)), .v (.x (.string ⟨#[]⟩)), .v (.x (.string ⟨#[]⟩)), .v (.x (.string ⟨#[]⟩)), .v (.x (.string ⟨#[]⟩)), .v (.x (.int .i64 0)), .v (.x (.bool false)), .v (.x (.int .i64 0)), .v (.x (.int .i64 0)), .v (.x (.int .i64 0))] ∧
    zeroV ty35 = [.x (.int .i64 0), .x (.int .i64 0), .x (.int .i64 0), .x (.int .i64 0), .x (.int .i64 0), .x (.bool false), .x (.int .i64 0), .x (.int .i64 0), .x (.bool false), .x (.string ⟨#[]⟩), .x (.string ⟨#[]⟩), .x (.string ⟨#[]⟩), .x (.string ⟨#[]⟩), .x (.string ⟨#[]⟩), .x (.string ⟨#[]⟩), .x (.int .i64 0), .x (.bool false), .x (.int .i64 0), .x (.int .i64 0), .x (.int .i64 0)] ∧
    buildOk tG ty35 = true ∧
    ty35.eqL = some [(0, 1), (1, 1), (2, 1), (3, 1), (4, 1), (5, 0), (6, 1), (7, 1), (8, 0), (9, 2), (10, 2), (11, 2), (12, 2), (13, 2), (14, 2), (15, 1), (16, 0), (17, 1), (18, 1), (19, 1)] ∧
    fieldInfo tG ty35 0 = some (0, 1, false) ∧
    placeD tG ty35 0 = some (0, 1) ∧
    fieldInfo tG ty35 1 = some (1, 1, false) ∧
    placeD tG ty35 1 = some (1, 1) ∧
    fieldInfo tG ty35 2 = some (2, 18, true) ∧
    placeD tG ty35 2 = some (2, 18) := ⟨by kernel_rfl, by kernel_rfl, by kernel_rfl, by kernel_rfl, by kernel_rfl, by kernel_rfl, by kernel_rfl, by kernel_rfl, by kernel_rfl, by kernel_rfl, by kernel_rfl, by kernel_rfl, by kernel_rfl, by kernel_rfl⟩
noncomputable def ty41 : Ty := (tyOf Try.prog 41).getD ⟨.bool, .bool false, 0, 0, none⟩
theorem tl41 : tG 41 = some ty41 ∧
    ty41.size = 1 ∧
    ty41.bytes = 2 ∧
    isAggD ty41.desc = false ∧
    zeroC ty41 = [.v (.x (.int .u16 0))] ∧
    zeroV ty41 = [.x (.int .u16 0)] ∧
    ty41.desc = .int .u16 := ⟨by kernel_rfl, by kernel_rfl, by kernel_rfl, by kernel_rfl, by kernel_rfl, by kernel_rfl, by kernel_rfl⟩
noncomputable def ty43 : Ty := (tyOf Try.prog 43).getD ⟨.bool, .bool false, 0, 0, none⟩
theorem tl43 : tG 43 = some ty43 ∧
    ty43.size = 1 ∧
    ty43.bytes = 24 ∧
    isAggD ty43.desc = false ∧
    zeroC ty43 = [.v (.x (.slice none 0 0))] ∧
    zeroV ty43 = [.x (.slice none 0 0)] ∧
    ty43.desc = .slice 4 := ⟨by kernel_rfl, by kernel_rfl, by kernel_rfl, by kernel_rfl, by kernel_rfl, by kernel_rfl, by kernel_rfl⟩
noncomputable def ty45 : Ty := (tyOf Try.prog 45).getD ⟨.bool, .bool false, 0, 0, none⟩
theorem tl45 : tG 45 = some ty45 ∧
    ty45.size = 10 ∧
    ty45.bytes = 96 ∧
    isAggD ty45.desc = true ∧
    zeroC ty45 = [.v (.x (.int .i64 0)), .v (.x (.int .i64 0)), .v (.x (.slice none 0 0)), .v (.x (.int .i64 0)), .v (.x (.int .i64 0)), .v (.x (.int .i64 0)), .v (.x (.int .i64 0)), .v (.x (.int .i64 0)), .v (.x (.int .i64 0)), .v (.x (.bool false))] ∧
    zeroV ty45 = [.x (.int .i64 0), .x (.int .i64 0), .x (.slice none 0 0), .x (.int .i64 0), .x (.int .i64 0), .x (.int .i64 0), .x (.int .i64 0), .x (.int .i64 0), .x (.int .i64 0), .x (.bool false)] ∧
    buildOk tG ty45 = true ∧
    fieldInfo tG ty45 0 = some (0, 1, false) ∧
    placeD tG ty45 0 = some (0, 1) ∧
    fieldInfo tG ty45 1 = some (1, 2, true) ∧
    placeD tG ty45 1 = some (1, 2) ∧
    fieldInfo tG ty45 2 = some (3, 1, false) ∧
    placeD tG ty45 2 = some (3, 1) ∧
    fieldInfo tG ty45 3 = some (4, 1, false) ∧
    placeD tG ty45 3 = some (4, 1) ∧
    fieldInfo tG ty45 4 = some (5, 1, false) ∧
    placeD tG ty45 4 = some (5, 1) ∧
    fieldInfo tG ty45 5 = some (6, 1, false) ∧
    placeD tG ty45 5 = some (6, 1) ∧
    fieldInfo tG ty45 6 = some (7, 1, false) ∧
    placeD tG ty45 6 = some (7, 1) ∧
    fieldInfo tG ty45 7 = some (8, 1, false) ∧
    placeD tG ty45 7 = some (8, 1) ∧
    fieldInfo tG ty45 8 = some (9, 1, false) ∧
    placeD tG ty45 8 = some (9, 1) := ⟨by kernel_rfl, by kernel_rfl, by kernel_rfl, by kernel_rfl, by kernel_rfl, by kernel_rfl, by kernel_rfl, by kernel_rfl, by kernel_rfl, by kernel_rfl, by kernel_rfl, by kernel_rfl, by kernel_rfl, by kernel_rfl, by kernel_rfl, by kernel_rfl, by kernel_rfl, by kernel_rfl, by kernel_rfl, by kernel_rfl, by kernel_rfl, by kernel_rfl, by kernel_rfl, by kernel_rfl, by kernel_rfl⟩
noncomputable def ty46 : Ty := (tyOf Try.prog 46).getD ⟨.bool, .bool false, 0, 0, none⟩
theorem tl46 : tG 46 = some ty46 ∧
    ty46.size = 1 ∧
    ty46.bytes = 8 ∧
    isAggD ty46.desc = false ∧
    zeroC ty46 = [.v (.x (.int .i64 0))] ∧
    zeroV ty46 = [.x (.int .i64 0)] ∧
    ty46.desc = .int .i64 := ⟨by kernel_rfl, by kernel_rfl, by kernel_rfl, by kernel_rfl, by kernel_rfl, by kernel_rfl, by kernel_rfl⟩
noncomputable def ty49 : Ty := (tyOf Try.prog 49).getD ⟨.bool, .bool false, 0, 0, none⟩
theorem tl49 : tG 49 = some ty49 ∧
    ty49.size = 1 ∧
    ty49.bytes = 24 ∧
    isAggD ty49.desc = false ∧
    zeroC ty49 = [.v (.x (.slice none 0 0))] ∧
    zeroV ty49 = [.x (.slice none 0 0)] ∧
    ty49.desc = .slice 33 := ⟨by kernel_rfl, by kernel_rfl, by kernel_rfl, by kernel_rfl, by kernel_rfl, by kernel_rfl, by kernel_rfl⟩
noncomputable def ty59 : Ty := (tyOf Try.prog 59).getD ⟨.bool, .bool false, 0, 0, none⟩
theorem tl59 : tG 59 = some ty59 ∧
    ty59.size = 1 ∧
    ty59.bytes = 24 ∧
    isAggD ty59.desc = false ∧
    zeroC ty59 = [.v (.x (.slice none 0 0))] ∧
    zeroV ty59 = [.x (.slice none 0 0)] ∧
    ty59.desc = .slice 62 := ⟨by kernel_rfl, by kernel_rfl, by kernel_rfl, by kernel_rfl, by kernel_rfl, by kernel_rfl, by kernel_rfl⟩
noncomputable def ty62 : Ty := (tyOf Try.prog 62).getD ⟨.bool, .bool false, 0, 0, none⟩
theorem tl62 : tG 62 = some ty62 ∧
    ty62.size = 20 ∧
    ty62.bytes = 208 ∧
    isAggD ty62.desc = true ∧
    zeroC ty62 = [.v (.x (.int .u8 0)), .v (.x (.int .i64 0)), .v (.x (.int .i64 0)), .v (.x (.int .i64 0)), .v (.x (.bool false)), .v (.x (.int .i64 0)), .v (.x (.int .i64 0)), .v (.x (.bool false)), .v (.x (.string ⟨#[]⟩)), .v (.x (.string ⟨#[]⟩)), .v (.x (.string ⟨#[]⟩)), .v (.x (.string ⟨#[]⟩)), .v (.x (.string ⟨#[]⟩)), .v (.x (.string ⟨#[]⟩)), .v (.x (.int .i64 0)), .v (.x (.bool false)), .v (.x (.int .i64 0)), .v (.x (.int .i64 0)), .v (.x (.int .i64 0)), .v (.x (.int .u8 0))] ∧
    zeroV ty62 = [.x (.int .u8 0), .x (.int .i64 0), .x (.int .i64 0), .x (.int .i64 0), .x (.bool false), .x (.int .i64 0), .x (.int .i64 0), .x (.bool false), .x (.string ⟨#[]⟩), .x (.string ⟨#[]⟩), .x (.string ⟨#[]⟩), .x (.string ⟨#[]⟩), .x (.string ⟨#[]⟩), .x (.string ⟨#[]⟩), .x (.int .i64 0), .x (.bool false), .x (.int .i64 0), .x (.int .i64 0), .x (.int .i64 0), .x (.int .u8 0)] ∧
    buildOk tG ty62 = true ∧
    ty62.eqL = some [(0, 1), (1, 1), (2, 1), (3, 1), (4, 0), (5, 1), (6, 1), (7, 0), (8, 2), (9, 2), (10, 2), (11, 2), (12, 2), (13, 2), (14, 1), (15, 0), (16, 1), (17, 1), (18, 1), (19, 1)] ∧
    fieldInfo tG ty62 0 = some (0, 1, false) ∧
    placeD tG ty62 0 = some (0, 1) ∧
    fieldInfo tG ty62 1 = some (1, 18, true) ∧
    placeD tG ty62 1 = some (1, 18) ∧
    fieldInfo tG ty62 2 = some (19, 1, false) ∧
    placeD tG ty62 2 = some (19, 1) := ⟨by kernel_rfl, by kernel_rfl, by kernel_rfl, by kernel_rfl, by kernel_rfl, by kernel_rfl, by kernel_rfl, by kernel_rfl, by kernel_rfl, by kernel_rfl, by kernel_rfl, by kernel_rfl, by kernel_rfl, by kernel_rfl⟩
noncomputable def ty72 : Ty := (tyOf Try.prog 72).getD ⟨.bool, .bool false, 0, 0, none⟩
theorem tl72 : tG 72 = some ty72 ∧
    ty72.size = 12 ∧
    ty72.bytes = 128 ∧
    isAggD ty72.desc = true ∧
    zeroC ty72 = [.v (.x (.int .i64 0)), .v (.x (.int .i64 0)), .v (.x (.slice none 0 0)), .v (.x (.int .i64 0)), .v (.x (.int .i64 0)), .v (.x (.int .i64 0)), .v (.x (.int .i64 0)), .v (.x (.int .i64 0)), .v (.x (.int .i64 0)), .v (.x (.bool false)), .v (.x (.int .i64 0)), .v (.x (.slice none 0 0))] ∧
    zeroV ty72 = [.x (.int .i64 0), .x (.int .i64 0), .x (.slice none 0 0), .x (.int .i64 0), .x (.int .i64 0), .x (.int .i64 0), .x (.int .i64 0), .x (.int .i64 0), .x (.int .i64 0), .x (.bool false), .x (.int .i64 0), .x (.slice none 0 0)] ∧
    buildOk tG ty72 = true ∧
    fieldInfo tG ty72 0 = some (0, 10, true) ∧
    placeD tG ty72 0 = some (0, 10) ∧
    fieldInfo tG ty72 1 = some (10, 1, false) ∧
    placeD tG ty72 1 = some (10, 1) ∧
    fieldInfo tG ty72 2 = some (11, 1, false) ∧
    placeD tG ty72 2 = some (11, 1) := ⟨by kernel_rfl, by kernel_rfl, by kernel_rfl, by kernel_rfl, by kernel_rfl, by kernel_rfl, by kernel_rfl, by kernel_rfl, by kernel_rfl, by kernel_rfl, by kernel_rfl, by kernel_rfl, by kernel_rfl⟩
noncomputable def ty79 : Ty := (tyOf Try.prog 79).getD ⟨.bool, .bool false, 0, 0, none⟩
theorem tl79 : tG 79 = some ty79 ∧
    ty79.size = 1 ∧
    ty79.bytes = 8 ∧
    isAggD ty79.desc = false ∧
    zeroC ty79 = [.v (.x (.pointer none))] ∧
    zeroV ty79 = [.x (.pointer none)] ∧
    ty79.desc = .pointer 72 := ⟨by kernel_rfl, by kernel_rfl, by kernel_rfl, by kernel_rfl, by kernel_rfl, by kernel_rfl, by kernel_rfl⟩

end Eng
end Go.Proofs.Ytpmammacnoamkaa
