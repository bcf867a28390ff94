/- The types of this translation, printed by program (wip/tools/gen.lean). -/
import Derived.Test.YtgpjbcgbjpmgaaaChecked
import Derived.Test.YtgpjbcgbjpmgaaaEngZ
set_option autoImplicit false
set_option linter.unusedSimpArgs false
set_option linter.unusedVariables false
namespace Go.Proofs.Ytgpjbcgbjpmgaaa
namespace Eng

noncomputable def tG : Nat → Option Ty := tyOf Try.prog
theorem tG_ok : TysOk Try.prog tG := tyOf_ok _
theorem mixed : Try.prog.follows .mixedOrders = true := by kernel_rfl

noncomputable def ty1 : Ty := (tyOf Try.prog 1).getD ⟨.bool, .bool false, 0, 0, none⟩
theorem tl1 : tG 1 = some ty1 ∧
    ty1.size = 1 ∧
    ty1.bytes = 8 ∧
    isAggD ty1.desc = false ∧
    zeroC ty1 = [.v (.x (.nilFunc))] ∧
    zeroV ty1 = [.x (.nilFunc)] := ⟨by kernel_rfl, by kernel_rfl, by kernel_rfl, by kernel_rfl, by kernel_rfl, by kernel_rfl⟩
noncomputable def ty2 : Ty := (tyOf Try.prog 2).getD ⟨.bool, .bool false, 0, 0, none⟩
theorem tl2 : tG 2 = some ty2 ∧
    ty2.size = 1 ∧
    ty2.bytes = 8 ∧
    isAggD ty2.desc = false ∧
    zeroC ty2 = [.v (.x (.int .i64 0))] ∧
    zeroV ty2 = [.x (.int .i64 0)] ∧
    ty2.desc = .int .i64 := ⟨by kernel_rfl, by kernel_rfl, by kernel_rfl, by kernel_rfl, by kernel_rfl, by kernel_rfl, by kernel_rfl⟩
noncomputable def ty3 : Ty := (tyOf Try.prog 3).getD ⟨.bool, .bool false, 0, 0, none⟩
theorem tl3 : tG 3 = some ty3 ∧
    ty3.size = 1 ∧
    ty3.bytes = 8 ∧
    isAggD ty3.desc = false ∧
    zeroC ty3 = [.v (.x (.int .i64 0))] ∧
    zeroV ty3 = [.x (.int .i64 0)] ∧
    ty3.desc = .int .i64 := ⟨by kernel_rfl, by kernel_rfl, by kernel_rfl, by kernel_rfl, by kernel_rfl, by kernel_rfl, by kernel_rfl⟩
noncomputable def ty4 : Ty := (tyOf Try.prog 4).getD ⟨.bool, .bool false, 0, 0, none⟩
theorem tl4 : tG 4 = some ty4 ∧
    ty4.size = 1 ∧
    ty4.bytes = 1 ∧
    isAggD ty4.desc = false ∧
    zeroC ty4 = [.v (.x (.bool false))] ∧
    zeroV ty4 = [.x (.bool false)] ∧
    ty4.desc = .bool := ⟨by kernel_rfl, by kernel_rfl, by kernel_rfl, by kernel_rfl, by kernel_rfl, by kernel_rfl, by kernel_rfl⟩
noncomputable def ty5 : Ty := (tyOf Try.prog 5).getD ⟨.bool, .bool false, 0, 0, none⟩
theorem tl5 : tG 5 = some ty5 ∧
    ty5.size = 1 ∧
    ty5.bytes = 1 ∧
    isAggD ty5.desc = false ∧
    zeroC ty5 = [.v (.x (.int .u8 0))] ∧
    zeroV ty5 = [.x (.int .u8 0)] ∧
    ty5.desc = .int .u8 := ⟨by kernel_rfl, by kernel_rfl, by kernel_rfl, by kernel_rfl, by kernel_rfl, by kernel_rfl, by kernel_rfl⟩
noncomputable def ty9 : Ty := (tyOf Try.prog 9).getD ⟨.bool, .bool false, 0, 0, none⟩
theorem tl9 : tG 9 = some ty9 ∧
    ty9.size = 1 ∧
    ty9.bytes = 16 ∧
    isAggD ty9.desc = false ∧
    zeroC ty9 = [.v (.x (.string ⟨#[]⟩))] ∧
    zeroV ty9 = [.x (.string ⟨#[]⟩)] ∧
    ty9.desc = .string := ⟨by kernel_rfl, by kernel_rfl, by kernel_rfl, by kernel_rfl, by kernel_rfl, by kernel_rfl, by kernel_rfl⟩
noncomputable def ty21 : Ty := (tyOf Try.prog 21).getD ⟨.bool, .bool false, 0, 0, none⟩
theorem tl21 : tG 21 = some ty21 ∧
    ty21.size = 1 ∧
    ty21.bytes = 4 ∧
    isAggD ty21.desc = false ∧
    zeroC ty21 = [.v (.x (.int .i32 0))] ∧
    zeroV ty21 = [.x (.int .i32 0)] ∧
    ty21.desc = .int .i32 := ⟨by kernel_rfl, by kernel_rfl, by kernel_rfl, by kernel_rfl, by kernel_rfl, by kernel_rfl, by kernel_rfl⟩
noncomputable def ty22 : Ty := (tyOf Try.prog 22).getD ⟨.bool, .bool false, 0, 0, none⟩
theorem tl22 : tG 22 = some ty22 ∧
    ty22.size = 1 ∧
    ty22.bytes = 24 ∧
    isAggD ty22.desc = false ∧
    zeroC ty22 = [.v (.x (.slice none 0 0))] ∧
    zeroV ty22 = [.x (.slice none 0 0)] ∧
    ty22.desc = .slice 5 := ⟨by kernel_rfl, by kernel_rfl, by kernel_rfl, by kernel_rfl, by kernel_rfl, by kernel_rfl, by kernel_rfl⟩
noncomputable def ty23 : Ty := (tyOf Try.prog 23).getD ⟨.bool, .bool false, 0, 0, none⟩
theorem tl23 : tG 23 = some ty23 ∧
    ty23.size = 1 ∧
    ty23.bytes = 2 ∧
    isAggD ty23.desc = false ∧
    zeroC ty23 = [.v (.x (.int .u16 0))] ∧
    zeroV ty23 = [.x (.int .u16 0)] ∧
    ty23.desc = .int .u16 := ⟨by kernel_rfl, by kernel_rfl, by kernel_rfl, by kernel_rfl, by kernel_rfl, by kernel_rfl, by kernel_rfl⟩
noncomputable def ty25 : Ty := (tyOf Try.prog 25).getD ⟨.bool, .bool false, 0, 0, none⟩
theorem tl25 : tG 25 = some ty25 ∧
    ty25.size = 1 ∧
    ty25.bytes = 8 ∧
    isAggD ty25.desc = false ∧
    zeroC ty25 = [.v (.x (.int .i64 0))] ∧
    zeroV ty25 = [.x (.int .i64 0)] ∧
    ty25.desc = .int .i64 := ⟨by kernel_rfl, by kernel_rfl, by kernel_rfl, by kernel_rfl, by kernel_rfl, by kernel_rfl, by kernel_rfl⟩
noncomputable def ty28 : Ty := (tyOf Try.prog 28).getD ⟨.bool, .bool false, 0, 0, none⟩
theorem tl28 : tG 28 = some ty28 ∧
    ty28.size = 1 ∧
    ty28.bytes = 8 ∧
    isAggD ty28.desc = false ∧
    zeroC ty28 = [.v (.x (.int .u64 0))] ∧
    zeroV ty28 = [.x (.int .u64 0)] ∧
    ty28.desc = .int .u64 := ⟨by kernel_rfl, by kernel_rfl, by kernel_rfl, by kernel_rfl, by kernel_rfl, by kernel_rfl, by kernel_rfl⟩
noncomputable def ty32 : Ty := (tyOf Try.prog 32).getD ⟨.bool, .bool false, 0, 0, none⟩
theorem tl32 : tG 32 = some ty32 ∧
    ty32.size = 1 ∧
    ty32.bytes = 4 ∧
    isAggD ty32.desc = false ∧
    zeroC ty32 = [.v (.x (.int .u32 0))] ∧
    zeroV ty32 = [.x (.int .u32 0)] ∧
    ty32.desc = .int .u32 := ⟨by kernel_rfl, by kernel_rfl, by kernel_rfl, by kernel_rfl, by kernel_rfl, by kernel_rfl, by kernel_rfl⟩
noncomputable def ty38 : Ty := (tyOf Try.prog 38).getD ⟨.bool, .bool false, 0, 0, none⟩
theorem tl38 : tG 38 = some ty38 ∧
    ty38.size = 1 ∧
    ty38.bytes = 24 ∧
    isAggD ty38.desc = false ∧
    zeroC ty38 = [.v (.x (.slice none 0 0))] ∧
    zeroV ty38 = [.x (.slice none 0 0)] ∧
    ty38.desc = .slice 22 := ⟨by kernel_rfl, by kernel_rfl, by kernel_rfl, by kernel_rfl, by kernel_rfl, by kernel_rfl, by kernel_rfl⟩
noncomputable def ty43 : Ty := (tyOf Try.prog 43).getD ⟨.bool, .bool false, 0, 0, none⟩
theorem tl43 : tG 43 = some ty43 ∧
    ty43.size = 1 ∧
    ty43.bytes = 24 ∧
    isAggD ty43.desc = false ∧
    zeroC ty43 = [.v (.x (.slice none 0 0))] ∧
    zeroV ty43 = [.x (.slice none 0 0)] ∧
    ty43.desc = .slice 3 := ⟨by kernel_rfl, by kernel_rfl, by kernel_rfl, by kernel_rfl, by kernel_rfl, by kernel_rfl, by kernel_rfl⟩
noncomputable def ty45 : Ty := (tyOf Try.prog 45).getD ⟨.bool, .bool false, 0, 0, none⟩
theorem tl45 : tG 45 = some ty45 ∧
    ty45.size = 1 ∧
    ty45.bytes = 24 ∧
    isAggD ty45.desc = false ∧
    zeroC ty45 = [.v (.x (.slice none 0 0))] ∧
    zeroV ty45 = [.x (.slice none 0 0)] ∧
    ty45.desc = .slice 32 := ⟨by kernel_rfl, by kernel_rfl, by kernel_rfl, by kernel_rfl, by kernel_rfl, by kernel_rfl, by kernel_rfl⟩
noncomputable def ty62 : Ty := (tyOf Try.prog 62).getD ⟨.bool, .bool false, 0, 0, none⟩
theorem tl62 : tG 62 = some ty62 ∧
    ty62.size = 1 ∧
    ty62.bytes = 24 ∧
    isAggD ty62.desc = false ∧
    zeroC ty62 = [.v (.x (.slice none 0 0))] ∧
    zeroV ty62 = [.x (.slice none 0 0)] ∧
    ty62.desc = .slice 69 := ⟨by kernel_rfl, by kernel_rfl, by kernel_rfl, by kernel_rfl, by kernel_rfl, by kernel_rfl, by kernel_rfl⟩
noncomputable def ty64 : Ty := (tyOf Try.prog 64).getD ⟨.bool, .bool false, 0, 0, none⟩
theorem tl64 : tG 64 = some ty64 ∧
    ty64.size = 2 ∧
    ty64.bytes = 48 ∧
    isAggD ty64.desc = true ∧
    zeroC ty64 = [.v (.x (.slice none 0 0)), .v (.x (.slice none 0 0))] ∧
    zeroV ty64 = [.x (.slice none 0 0), .x (.slice none 0 0)] ∧
    buildOk tG ty64 = true ∧
    fieldInfo tG ty64 0 = some (0, 1, false) ∧
    placeD tG ty64 0 = some (0, 1) ∧
    fieldInfo tG ty64 1 = some (1, 1, false) ∧
    placeD tG ty64 1 = some (1, 1) := ⟨by kernel_rfl, by kernel_rfl, by kernel_rfl, by kernel_rfl, by kernel_rfl, by kernel_rfl, by kernel_rfl, by kernel_rfl, by kernel_rfl, by kernel_rfl, by kernel_rfl⟩
noncomputable def ty65 : Ty := (tyOf Try.prog 65).getD ⟨.bool, .bool false, 0, 0, none⟩
theorem tl65 : tG 65 = some ty65 ∧
    ty65.size = 4 ∧
    ty65.bytes = 96 ∧
    isAggD ty65.desc = true ∧
    zeroC ty65 = [.v (.x (.slice none 0 0)), .v (.x (.slice none 0 0)), .v (.x (.slice none 0 0)), .v (.x (.slice none 0 0))] ∧
    zeroV ty65 = [.x (.slice none 0 0), .x (.slice none 0 0), .x (.slice none 0 0), .x (.slice none 0 0)] ∧
    ty65.desc = .array 2 64 ∧
    buildOk tG ty65 = true ∧
    placeD tG ty65 0 = some (0, 2) ∧
    placeD tG ty65 1 = some (2, 2) := ⟨by kernel_rfl, by kernel_rfl, by kernel_rfl, by kernel_rfl, by kernel_rfl, by kernel_rfl, by kernel_rfl, by kernel_rfl, by kernel_rfl, by kernel_rfl⟩
noncomputable def ty67 : Ty := (tyOf Try.prog 67).getD ⟨.bool, .bool false, 0, 0, none⟩
theorem tl67 : tG 67 = some ty67 ∧
    ty67.size = 4 ∧
    ty67.bytes = 96 ∧
    isAggD ty67.desc = true ∧
    zeroC ty67 = [.v (.x (.slice none 0 0)), .v (.x (.slice none 0 0)), .v (.x (.slice none 0 0)), .v (.x (.slice none 0 0))] ∧
    zeroV ty67 = [.x (.slice none 0 0), .x (.slice none 0 0), .x (.slice none 0 0), .x (.slice none 0 0)] ∧
    buildOk tG ty67 = true ∧
    fieldInfo tG ty67 0 = some (0, 4, true) ∧
    placeD tG ty67 0 = some (0, 4) := ⟨by kernel_rfl, by kernel_rfl, by kernel_rfl, by kernel_rfl, by kernel_rfl, by kernel_rfl, by kernel_rfl, by kernel_rfl, by kernel_rfl⟩
noncomputable def ty69 : Ty := (tyOf Try.prog 69).getD ⟨.bool, .bool false, 0, 0, none⟩
theorem tl69 : tG 69 = some ty69 ∧
    ty69.size = 3 ∧
    ty69.bytes = 40 ∧
    isAggD ty69.desc = true ∧
    zeroC ty69 = [.v (.x (.int .u8 0)), .v (.x (.slice none 0 0)), .v (.x (.int .u8 0))] ∧
    zeroV ty69 = [.x (.int .u8 0), .x (.slice none 0 0), .x (.int .u8 0)] ∧
    buildOk tG ty69 = true ∧
    fieldInfo tG ty69 0 = some (0, 1, false) ∧
    placeD tG ty69 0 = some (0, 1) ∧
    fieldInfo tG ty69 1 = some (1, 1, false) ∧
    placeD tG ty69 1 = some (1, 1) ∧
    fieldInfo tG ty69 2 = some (2, 1, false) ∧
    placeD tG ty69 2 = some (2, 1) := ⟨by kernel_rfl, by kernel_rfl, by kernel_rfl, by kernel_rfl, by kernel_rfl, by kernel_rfl, by kernel_rfl, by kernel_rfl, by kernel_rfl, by kernel_rfl, by kernel_rfl, by kernel_rfl, by kernel_rfl⟩
noncomputable def ty74 : Ty := (tyOf Try.prog 74).getD ⟨.bool, .bool false, 0, 0, none⟩
theorem tl74 : tG 74 = some ty74 ∧
    ty74.size = 2 ∧
    ty74.bytes = 16 ∧
    isAggD ty74.desc = true ∧
    zeroC ty74 = [.v (.x (.int .i64 0)), .v (.x (.int .i64 0))] ∧
    zeroV ty74 = [.x (.int .i64 0), .x (.int .i64 0)] ∧
    ty74.desc = .array 2 3 ∧
    buildOk tG ty74 = true ∧
    placeD tG ty74 0 = some (0, 1) ∧
    placeD tG ty74 1 = some (1, 1) := ⟨by kernel_rfl, by kernel_rfl, by kernel_rfl, by kernel_rfl, by kernel_rfl, by kernel_rfl, by kernel_rfl, by kernel_rfl, by kernel_rfl, by kernel_rfl⟩
noncomputable def ty82 : Ty := (tyOf Try.prog 82).getD ⟨.bool, .bool false, 0, 0, none⟩
theorem tl82 : tG 82 = some ty82 ∧
    ty82.size = 6 ∧
    ty82.bytes = 112 ∧
    isAggD ty82.desc = true ∧
    zeroC ty82 = [.v (.x (.slice none 0 0)), .v (.x (.slice none 0 0)), .v (.x (.slice none 0 0)), .v (.x (.slice none 0 0)), .v (.x (.int .i64 0)), .v (.x (.int .i64 0))] ∧
    zeroV ty82 = [.x (.slice none 0 0), .x (.slice none 0 0), .x (.slice none 0 0), .x (.slice none 0 0), .x (.int .i64 0), .x (.int .i64 0)] ∧
    buildOk tG ty82 = true ∧
    fieldInfo tG ty82 0 = some (0, 4, true) ∧
    placeD tG ty82 0 = some (0, 4) ∧
    fieldInfo tG ty82 1 = some (4, 1, false) ∧
    placeD tG ty82 1 = some (4, 1) ∧
    fieldInfo tG ty82 2 = some (5, 1, false) ∧
    placeD tG ty82 2 = some (5, 1) := ⟨by kernel_rfl, by kernel_rfl, by kernel_rfl, by kernel_rfl, by kernel_rfl, by kernel_rfl, by kernel_rfl, by kernel_rfl, by kernel_rfl, by kernel_rfl, by kernel_rfl, by kernel_rfl, by kernel_rfl⟩
noncomputable def ty89 : Ty := (tyOf Try.prog 89).getD ⟨.bool, .bool false, 0, 0, none⟩
theorem tl89 : tG 89 = some ty89 ∧
    ty89.size = 1 ∧
    ty89.bytes = 24 ∧
    isAggD ty89.desc = false ∧
    zeroC ty89 = [.v (.x (.slice none 0 0))] ∧
    zeroV ty89 = [.x (.slice none 0 0)] ∧
    ty89.desc = .slice 90 := ⟨by kernel_rfl, by kernel_rfl, by kernel_rfl, by kernel_rfl, by kernel_rfl, by kernel_rfl, by kernel_rfl⟩
noncomputable def ty90 : Ty := (tyOf Try.prog 90).getD ⟨.bool, .bool false, 0, 0, none⟩
theorem tl90 : tG 90 = some ty90 ∧
    ty90.size = 3 ∧
    ty90.bytes = 40 ∧
    isAggD ty90.desc = true ∧
    zeroC ty90 = [.v (.x (.int .u8 0)), .v (.x (.slice none 0 0)), .v (.x (.int .u8 0))] ∧
    zeroV ty90 = [.x (.int .u8 0), .x (.slice none 0 0), .x (.int .u8 0)] ∧
    buildOk tG ty90 = true ∧
    fieldInfo tG ty90 0 = some (0, 1, false) ∧
    placeD tG ty90 0 = some (0, 1) ∧
    fieldInfo tG ty90 1 = some (1, 1, false) ∧
    placeD tG ty90 1 = some (1, 1) ∧
    fieldInfo tG ty90 2 = some (2, 1, false) ∧
    placeD tG ty90 2 = some (2, 1) := ⟨by kernel_rfl, by kernel_rfl, by kernel_rfl, by kernel_rfl, by kernel_rfl, by kernel_rfl, by kernel_rfl, by kernel_rfl, by kernel_rfl, by kernel_rfl, by kernel_rfl, by kernel_rfl, by kernel_rfl⟩
noncomputable def ty103 : Ty := (tyOf Try.prog 103).getD ⟨.bool, .bool false, 0, 0, none⟩
theorem tl103 : tG 103 = some ty103 ∧
    ty103.size = 4 ∧
    ty103.bytes = 64 ∧
    isAggD ty103.desc = true ∧
    zeroC ty103 = [.v (.x (.int .i64 0)), .v (.x (.slice none 0 0)), .v (.x (.slice none 0 0)), .v (.x (.int .i64 0))] ∧
    zeroV ty103 = [.x (.int .i64 0), .x (.slice none 0 0), .x (.slice none 0 0), .x (.int .i64 0)] ∧
    buildOk tG ty103 = true ∧
    fieldInfo tG ty103 0 = some (0, 1, false) ∧
    placeD tG ty103 0 = some (0, 1) ∧
    fieldInfo tG ty103 1 = some (1, 1, false) ∧
    placeD tG ty103 1 = some (1, 1) ∧
    fieldInfo tG ty103 2 = some (2, 1, false) ∧
    placeD tG ty103 2 = some (2, 1) ∧
    fieldInfo tG ty103 3 = some (3, 1, false) ∧
    placeD tG ty103 3 = some (3, 1) := ⟨by kernel_rfl, by kernel_rfl, by kernel_rfl, by kernel_rfl, by kernel_rfl, by kernel_rfl, by kernel_rfl, by kernel_rfl, by kernel_rfl, by kernel_rfl, by kernel_rfl, by kernel_rfl, by kernel_rfl, by kernel_rfl, by kernel_rfl⟩
noncomputable def ty110 : Ty := (tyOf Try.prog 110).getD ⟨.bool, .bool false, 0, 0, none⟩
theorem tl110 : tG 110 = some ty110 ∧
    ty110.size = 0 ∧
    ty110.bytes = 0 ∧
    isAggD ty110.desc = true ∧
    zeroC ty110 = [] ∧
    zeroV ty110 = [] ∧
    buildOk tG ty110 = true := ⟨by kernel_rfl, by kernel_rfl, by kernel_rfl, by kernel_rfl, by kernel_rfl, by kernel_rfl, by kernel_rfl⟩
noncomputable def ty111 : Ty := (tyOf Try.prog 111).getD ⟨.bool, .bool false, 0, 0, none⟩
theorem tl111 : tG 111 = some ty111 ∧
    ty111.size = 0 ∧
    ty111.bytes = 0 ∧
    isAggD ty111.desc = true ∧
    zeroC ty111 = [] ∧
    zeroV ty111 = [] ∧
    buildOk tG ty111 = true := ⟨by kernel_rfl, by kernel_rfl, by kernel_rfl, by kernel_rfl, by kernel_rfl, by kernel_rfl, by kernel_rfl⟩
noncomputable def ty113 : Ty := (tyOf Try.prog 113).getD ⟨.bool, .bool false, 0, 0, none⟩
theorem tl113 : tG 113 = some ty113 ∧
    ty113.size = 1 ∧
    ty113.bytes = 4 ∧
    isAggD ty113.desc = true ∧
    zeroC ty113 = [.v (.x (.int .u32 0))] ∧
    zeroV ty113 = [.x (.int .u32 0)] ∧
    buildOk tG ty113 = true ∧
    fieldInfo tG ty113 0 = some (0, 0, true) ∧
    placeD tG ty113 0 = some (0, 0) ∧
    fieldInfo tG ty113 1 = some (0, 1, false) ∧
    placeD tG ty113 1 = some (0, 1) := ⟨by kernel_rfl, by kernel_rfl, by kernel_rfl, by kernel_rfl, by kernel_rfl, by kernel_rfl, by kernel_rfl, by kernel_rfl, by kernel_rfl, by kernel_rfl, by kernel_rfl⟩
noncomputable def ty115 : Ty := (tyOf Try.prog 115).getD ⟨.bool, .bool false, 0, 0, none⟩
theorem tl115 : tG 115 = some ty115 ∧
    ty115.size = 2 ∧
    ty115.bytes = 8 ∧
    isAggD ty115.desc = true ∧
    zeroC ty115 = [.v (.x (.int .i32 0)), .v (.x (.int .u32 0))] ∧
    zeroV ty115 = [.x (.int .i32 0), .x (.int .u32 0)] ∧
    buildOk tG ty115 = true ∧
    fieldInfo tG ty115 0 = some (0, 1, false) ∧
    placeD tG ty115 0 = some (0, 1) ∧
    fieldInfo tG ty115 1 = some (1, 1, false) ∧
    placeD tG ty115 1 = some (1, 1) := ⟨by kernel_rfl, by kernel_rfl, by kernel_rfl, by kernel_rfl, by kernel_rfl, by kernel_rfl, by kernel_rfl, by kernel_rfl, by kernel_rfl, by kernel_rfl, by kernel_rfl⟩
noncomputable def ty117 : Ty := (tyOf Try.prog 117).getD ⟨.bool, .bool false, 0, 0, none⟩
theorem tl117 : tG 117 = some ty117 ∧
    ty117.size = 2 ∧
    ty117.bytes = 8 ∧
    isAggD ty117.desc = true ∧
    zeroC ty117 = [.v (.x (.int .i32 0)), .v (.x (.int .u32 0))] ∧
    zeroV ty117 = [.x (.int .i32 0), .x (.int .u32 0)] ∧
    buildOk tG ty117 = true ∧
    fieldInfo tG ty117 0 = some (0, 0, true) ∧
    placeD tG ty117 0 = some (0, 0) ∧
    fieldInfo tG ty117 1 = some (0, 2, true) ∧
    placeD tG ty117 1 = some (0, 2) := ⟨by kernel_rfl, by kernel_rfl, by kernel_rfl, by kernel_rfl, by kernel_rfl, by kernel_rfl, by kernel_rfl, by kernel_rfl, by kernel_rfl, by kernel_rfl, by kernel_rfl⟩
noncomputable def ty119 : Ty := (tyOf Try.prog 119).getD ⟨.bool, .bool false, 0, 0, none⟩
theorem tl119 : tG 119 = some ty119 ∧
    ty119.size = 3 ∧
    ty119.bytes = 12 ∧
    isAggD ty119.desc = true ∧
    zeroC ty119 = [.v (.x (.int .u32 0)), .v (.x (.int .i32 0)), .v (.x (.int .u32 0))] ∧
    zeroV ty119 = [.x (.int .u32 0), .x (.int .i32 0), .x (.int .u32 0)] ∧
    buildOk tG ty119 = true ∧
    fieldInfo tG ty119 0 = some (0, 0, true) ∧
    placeD tG ty119 0 = some (0, 0) ∧
    fieldInfo tG ty119 1 = some (0, 1, true) ∧
    placeD tG ty119 1 = some (0, 1) ∧
    fieldInfo tG ty119 2 = some (1, 2, true) ∧
    placeD tG ty119 2 = some (1, 2) := ⟨by kernel_rfl, by kernel_rfl, by kernel_rfl, by kernel_rfl, by kernel_rfl, by kernel_rfl, by kernel_rfl, by kernel_rfl, by kernel_rfl, by kernel_rfl, by kernel_rfl, by kernel_rfl, by kernel_rfl⟩
noncomputable def ty120 : Ty := (tyOf Try.prog 120).getD ⟨.bool, .bool false, 0, 0, none⟩
theorem tl120 : tG 120 = some ty120 ∧
    ty120.size = 256 ∧
    ty120.bytes = 1024 ∧
    isAggD ty120.desc = true ∧
    zeroC ty120 = [.v (.x (.int .u32 0)), .v (.x (.int .u32 0)), .v (.x (.int .u32 0)), .v (.x (.int .u32 0)), .v (.x (.int .u32 0)), .v (.x (.int .u32 0)), .v (.x (.int .u32 0)), .v (.x (.int .u32 0)), .v (.x (.int .u32 0)), .v (.x (.int .u32 0)), .v (.x (.int .u32 0)), .v (.x (.int .u32 0)), .v (.x (.int .u32 0)), .v (.x (.int .u32 0)), .v (.x (.int .u32 0)), .v (.x (.int .u32 0)), .v (.x (.int .u32 0)), .v (.x (.int .u32 0)), .v (.x (.int .u32 0)), .v (.x (.int .u32 0)), .v (.x (.int .u32 0)), .v (.x (.int .u32 0)), .v (.x (.int .u32 0)), .v (.x (.int .u32 0)), .v (.x (.int .u32 0)), .v (.x (.int .u32 0)), .v (.x (.int .u32 0)), .v (.x (.int .u32 0)), .v (.x (.int .u32 0)), .v (.x (.int .u32 0)), .v (.x (.int .u32 0)), .v (.x (.int .u32 0)), .v (.x (.int .u32 0)), .v (.x (.int .u32 0)), .v (.x (.int .u32 0)), .v (.x (.int .u32 0)), .v (.x (.int .u32 0)), .v (.x (.int .u32 0)), .v (.x (.int .u32 0)), .v (.x (.int .u32 0)), .v (.x (.int .u32 0)), .v (.x (.int .u32 0)), .v (.x (.int .u32 0)), .v (.x (.int .u32 0)), .v (.x (.int .u32 0)), .v (.x (.int .u32 0)), .v (.x (.int .u32 0)), .v (.x (.int .u32 0)), .v (.x (.int .u32 0)), .v (.x (.int .u32 0)), .v (.x (.int .u32 0)), .v (.x (.int .u32 0)), .v (.x (.int .u32 0)), .v (.x (.int .u32 0)), .v (.x (.int .u32 0)), .v (.x (.int .u32 0)), .v (.x (.int .u32 0)), .v (.x (.int .u32 0)), .v (.x (.int .u32 0)), .v (.x (.int .u32 0)), .v (.x (.int .u32 0)), .v (.x (.int .u32 0)), .v (.x (.int .u32 0)), .v (.x (.int .u32 0)), .v (.x (.int .u32 0)), .v (.x (.int .u32 0)), .v (.x (.int .u32 0)), .v (.x (.int .u32 0)), .v (.x (.int .u32 0)), .v (.x (.int .u32 0)), .v (.x (.int .u32 0)), .v (.x (.int .u32 0)), .v (.x (.int .u32 0)), .v (.x (.int .u32 0)), .v (.x (.int .u32 0)), .v (.x (.int .u32 0)), .v (.x (.int .u32 0)), .v (.x (.int .u32 0)), .v (.x (.int .u32 0)), .v (.x (.int .u32 0)), .v (.x (.int .u32 0)), .v (.x (.int .u32 0)), .v (.x (.int .u32 0)), .v (.x (.int .u32 0)), .v (.x (.int .u32 0)), .v (.x (.int .u32 0)), .v (.x (.int .u32 0)), .v (.x (.int .u32 0)), .v (.x (.int .u32 0)), .v (.x (.int .u32 0)), .v (.x (.int .u32 0)), .v (.x (.int .u32 0)), .v (.x (.int .u32 0)), .v (.x (.int .u32 0)), .v (.x (.int .u32 0)), .v (.x (.int .u32 0)), .v (.x (.int .u32 0)), .v (.x (.int .u32 0)), .v (.x (.int .u32 0)), .v (.x (.int .u32 0)), .v (.x (.int .u32 0)), .v (.x (.int .u32 0)), .v (.x (.int .u32 0)), .v (.x (.int .u32 0)), .v (.x (.int .u32 0)), .v (.x (.int .u32 0)), .v (.x (.int .u32 0)), .v (.x (.int .u32 0)), .v (.x (.int .u32 0)), .v (.x (.int .u32 0)), .v (.x (.int .u32 0)), .v (.x (.int .u32 0)), .v (.x (.int .u32 0)), .v (.x (.int .u32 0)), .v (.x (.int .u32 0)), .v (.x (.int .u32 0)), .v (.x (.int .u32 0)), .v (.x (.int .u32 0)), .v (.x (.int .u32 0)), .v (.x (.int .u32 0)), .v (.x (.int .u32 0)), .v (.x (.int .u32 0)), .v (.x (.int .u32 0)), .v (.x (.int .u32 0)), .v (.x (.int .u32 0)), .v (.x (.int .u32 0)), .v (.x (.int .u32 0)), .v (.x (.int .u32 0)), .v (.x (.int .u32 0)), .v (.x (.int .u32 0)), .v (.x (.int .u32 0)), .v (.x (.int .u32 0)), .v (.x (.int .u32 0)), .v (.x (.int .u32 0)), .v (.x (.int .u32 0)), .v (.x (.int .u32 0)), .v (.x (.int .u32 0)), .v (.x (.int .u32 0)), .v (.x (.int .u32 0)), .v (.x (.int .u32 0)), .v (.x (.int .u32 0)), .v (.x (.int .u32 0)), .v (.x (.int .u32 0)), .v (.x (.int .u32 0)), .v (.x (.int .u32 0)), .v (.x (.int .u32 0)), .v (.x (.int .u32 0)), .v (.x (.int .u32 0)), .v (.x (.int .u32 0)), .v (.x (.int .u32 0)), .v (.x (.int .u32 0)), .v (.x (.int .u32 0)), .v (.x (.int .u32 0)), .v (.x (.int .u32 0)), .v (.x (.int .u32 0)), .v (.x (.int .u32 0)), .v (.x (.int .u32 0)), .v (.x (.int .u32 0)), .v (.x (.int .u32 0)), .v (.x (.int .u32 0)), .v (.x (.int .u32 0)), .v (.x (.int .u32 0)), .v (.x (.int .u32 0)), .v (.x (.int .u32 0)), .v (.x (.int .u32 0)), .v (.x (.int .u32 0)), .v (.x (.int .u32 0)), .v (.x (.int .u32 0)), .v (.x (.int .u32 0)), .v (.x (.int .u32 0)), .v (.x (.int .u32 0)), .v (.x (.int .u32 0)), .v (.x (.int .u32 0)), .v (.x (.int .u32 0)), .v (.x (.int .u32 0)), .v (.x (.int .u32 0)), .v (.x (.int .u32 0)), .v (.x (.int .u32 0)), .v (.x (.int .u32 0)), .v (.x (.int .u32 0)), .v (.x (.int .u32 0)), .v (.x (.int .u32 0)), .v (.x (.int .u32 0)), .v (.x (.int .u32 0)), .v (.x (.int .u32 0)), .v (.x (.int .u32 0)), .v (.x (.int .u32 0)), .v (.x (.int .u32 0)), .v (.x (.int .u32 0)), .v (.x (.int .u32 0)), .v (.x (.int .u32 0)), .v (.x (.int .u32 0)), .v (.x (.int .u32 0)), .v (.x (.int .u32 0)), .v (.x (.int .u32 0)), .v (.x (.int .u32 0)), .v (.x (.int .u32 0)), .v (.x (.int .u32 0)), .v (.x (.int .u32 0)), .v (.x (.int .u32 0)), .v (.x (.int .u32 0)), .v (.x (.int .u32 0)), .v (.x (.int .u32 0)), .v (.x (.int .u32 0)), .v (.x (.int .u32 0)), .v (.x (.int .u32 0)), .v (.x (.int .u32 0)), .v (.x (.int .u32 0)), .v (.x (.int .u32 0)), .v (.x (.int .u32 0)), .v (.x (.int .u32 0)), .v (.x (.int .u32 0)), .v (.x (.int .u32 0)), .v (.x (.int .u32 0)), .v (.x (.int .u32 0)), .v (.x (.int .u32 0)), .v (.x (.int .u32 0)), .v (.x (.int .u32 0)), .v (.x (.int .u32 0)), .v (.x (.int .u32 0)), .v (.x (.int .u32 0)), .v (.x (.int .u32 0)), .v (.x (.int .u32 0)), .v (.x (.int .u32 0)), .v (.x (.int .u32 0)), .v (.x (.int .u32 0)), .v (.x (.int .u32 0)), .v (.x (.int .u32 0)), .v (.x (.int .u32 0)), .v (.x (.int .u32 0)), .v (.x (.int .u32 0)), .v (.x (.int .u32 0)), .v (.x (.int .u32 0)), .v (.x (.int .u32 0)), .v (.x (.int .u32 0)), .v (.x (.int .u32 0)), .v (.x (.int .u32 0)), .v (.x (.int .u32 0)), .v (.x (.int .u32 0)), .v (.x (.int .u32 0)), .v (.x (.int .u32 0)), .v (.x (.int .u32 0)), .v (.x (.int .u32 0)), .v (.x (.int .u32 0)), .v (.x (.int .u32 0)), .v (.x (.int .u32 0)), .v (.x (.int .u32 0)), .v (.x (.int .u32 0)), .v (.x (.int .u32 0)), .v (.x (.int .u32 0)), .v (.x (.int .u32 0)), .v (.x (.int .u32 0)), .v (.x (.int .u32 0)), .v (.x (.int .u32 0)), .v (.x (.int .u32 0)), .v (.x (.int .u32 0))] ∧
    zeroV ty120 = [.x (.int .u32 0), .x (.int .u32 0), .x (.int .u32 0), .x (.int .u32 0), .x (.int .u32 0), .x (.int .u32 0), .x (.int .u32 0), .x (.int .u32 0), .x (.int .u32 0), .x (.int .u32 0), .x (.int .u32 0), .x (.int .u32 0), .x (.int .u32 0), .x (.int .u32 0), .x (.int .u32 0), .x (.int .u32 0), .x (.int .u32 0), .x (.int .u32 0), .x (.int .u32 0), .x (.int .u32 0), .x (.int .u32 0), .x (.int .u32 0), .x (.int .u32 0), .x (.int .u32 0), .x (.int .u32 0), .x (.int .u32 0), .x (.int .u32 0), .x (.int .u32 0), .x (.int .u32 0), .x (.int .u32 0), .x (.int .u32 0), .x (.int .u32 0), .x (.int .u32 0), .x (.int .u32 0), .x (.int .u32 0), .x (.int .u32 0), .x (.int .u32 0), .x (.int .u32 0), .x (.int .u32 0), .x (.int .u32 0), .x (.int .u32 0), .x (.int .u32 0), .x (.int .u32 0), .x (.int .u32 0), .x (.int .u32 0), .x (.int .u32 0), .x (.int .u32 0), .x (.int .u32 0), .x (.int .u32 0), .x (.int .u32 0), .x (.int .u32 0), .x (.int .u32 0), .x (.int .u32 0), .x (.int .u32 0), .x (.int .u32 0), .x (.int .u32 0), .x (.int .u32 0), .x (.int .u32 0), .x (.int .u32 0), .x (.int .u32 0), .x (.int .u32 0), .x (.int .u32 0), .x (.int .u32 0), .x (.int .u32 0), .x (.int .u32 0), .x (.int .u32 0), .x (.int .u32 0), .x (.int .u32 0), .x (.int .u32 0), .x (.int .u32 0), .x (.int .u32 0), .x (.int .u32 0), .x (.int .u32 0), .x (.int .u32 0), .x (.int .u32 0), .x (.int .u32 0), .x (.int .u32 0), .x (.int .u32 0), .x (.int .u32 0), .x (.int .u32 0), .x (.int .u32 0), .x (.int .u32 0), .x (.int .u32 0), .x (.int .u32 0), .x (.int .u32 0), .x (.int .u32 0), .x (.int .u32 0), .x (.int .u32 0), .x (.int .u32 0), .x (.int .u32 0), .x (.int .u32 0), .x (.int .u32 0), .x (.int .u32 0), .x (.int .u32 0), .x (.int .u32 0), .x (.int .u32 0), .x (.int .u32 0), .x (.int .u32 0), .x (.int .u32 0), .x (.int .u32 0), .x (.int .u32 0), .x (.int .u32 0), .x (.int .u32 0), .x (.int .u32 0), .x (.int .u32 0), .x (.int .u32 0), .x (.int .u32 0), .x (.int .u32 0), .x (.int .u32 0), .x (.int .u32 0), .x (.int .u32 0), .x (.int .u32 0), .x (.int .u32 0), .x (.int .u32 0), .x (.int .u32 0), .x (.int .u32 0), .x (.int .u32 0), .x (.int .u32 0), .x (.int .u32 0), .x (.int .u32 0), .x (.int .u32 0), .x (.int .u32 0), .x (.int .u32 0), .x (.int .u32 0), .x (.int .u32 0), .x (.int .u32 0), .x (.int .u32 0), .x (.int .u32 0), .x (.int .u32 0), .x (.int .u32 0), .x (.int .u32 0), .x (.int .u32 0), .x (.int .u32 0), .x (.int .u32 0), .x (.int .u32 0), .x (.int .u32 0), .x (.int .u32 0), .x (.int .u32 0), .x (.int .u32 0), .x (.int .u32 0), .x (.int .u32 0), .x (.int .u32 0), .x (.int .u32 0), .x (.int .u32 0), .x (.int .u32 0), .x (.int .u32 0), .x (.int .u32 0), .x (.int .u32 0), .x (.int .u32 0), .x (.int .u32 0), .x (.int .u32 0), .x (.int .u32 0), .x (.int .u32 0), .x (.int .u32 0), .x (.int .u32 0), .x (.int .u32 0), .x (.int .u32 0), .x (.int .u32 0), .x (.int .u32 0), .x (.int .u32 0), .x (.int .u32 0), .x (.int .u32 0), .x (.int .u32 0), .x (.int .u32 0), .x (.int .u32 0), .x (.int .u32 0), .x (.int .u32 0), .x (.int .u32 0), .x (.int .u32 0), .x (.int .u32 0), .x (.int .u32 0), .x (.int .u32 0), .x (.int .u32 0), .x (.int .u32 0), .x (.int .u32 0), .x (.int .u32 0), .x (.int .u32 0), .x (.int .u32 0), .x (.int .u32 0), .x (.int .u32 0), .x (.int .u32 0), .x (.int .u32 0), .x (.int .u32 0), .x (.int .u32 0), .x (.int .u32 0), .x (.int .u32 0), .x (.int .u32 0), .x (.int .u32 0), .x (.int .u32 0), .x (.int .u32 0), .x (.int .u32 0), .x (.int .u32 0), .x (.int .u32 0), .x (.int .u32 0), .x (.int .u32 0), .x (.int .u32 0), .x (.int .u32 0), .x (.int .u32 0), .x (.int .u32 0), .x (.int .u32 0), .x (.int .u32 0), .x (.int .u32 0), .x (.int .u32 0), .x (.int .u32 0), .x (.int .u32 0), .x (.int .u32 0), .x (.int .u32 0), .x (.int .u32 0), .x (.int .u32 0), .x (.int .u32 0), .x (.int .u32 0), .x (.int .u32 0), .x (.int .u32 0), .x (.int .u32 0), .x (.int .u32 0), .x (.int .u32 0), .x (.int .u32 0), .x (.int .u32 0), .x (.int .u32 0), .x (.int .u32 0), .x (.int .u32 0), .x (.int .u32 0), .x (.int .u32 0), .x (.int .u32 0), .x (.int .u32 0), .x (.int .u32 0), .x (.int .u32 0), .x (.int .u32 0), .x (.int .u32 0), .x (.int .u32 0), .x (.int .u32 0), .x (.int .u32 0), .x (.int .u32 0), .x (.int .u32 0), .x (.int .u32 0), .x (.int .u32 0), .x (.int .u32 0), .x (.int .u32 0), .x (.int .u32 0), .x (.int .u32 0), .x (.int .u32 0), .x (.int .u32 0), .x (.int .u32 0), .x (.int .u32 0), .x (.int .u32 0), .x (.int .u32 0), .x (.int .u32 0), .x (.int .u32 0), .x (.int .u32 0), .x (.int .u32 0), .x (.int .u32 0), .x (.int .u32 0), .x (.int .u32 0), .x (.int .u32 0), .x (.int .u32 0), .x (.int .u32 0)] ∧
    ty120.desc = .array 256 32 ∧
    buildOk tG ty120 = true ∧
    placeD tG ty120 0 = some (0, 1) ∧
    placeD tG ty120 1 = some (1, 1) ∧
    placeD tG ty120 2 = some (2, 1) ∧
    placeD tG ty120 3 = some (3, 1) ∧
    placeD tG ty120 4 = some (4, 1) ∧
    placeD tG ty120 5 = some (5, 1) ∧
    placeD tG ty120 6 = some (6, 1) ∧
    placeD tG ty120 7 = some (7, 1) ∧
    placeD tG ty120 8 = some (8, 1) ∧
    placeD tG ty120 9 = some (9, 1) ∧
    placeD tG ty120 10 = some (10, 1) ∧
    placeD tG ty120 11 = some (11, 1) ∧
    placeD tG ty120 12 = some (12, 1) ∧
    placeD tG ty120 13 = some (13, 1) ∧
    placeD tG ty120 14 = some (14, 1) ∧
    placeD tG ty120 15 = some (15, 1) ∧
    placeD tG ty120 16 = some (16, 1) ∧
    placeD tG ty120 17 = some (17, 1) ∧
    placeD tG ty120 18 = some (18, 1) ∧
    placeD tG ty120 19 = some (19, 1) ∧
    placeD tG ty120 20 = some (20, 1) ∧
    placeD tG ty120 21 = some (21, 1) ∧
    placeD tG ty120 22 = some (22, 1) ∧
    placeD tG ty120 23 = some (23, 1) ∧
    placeD tG ty120 24 = some (24, 1) ∧
    placeD tG ty120 25 = some (25, 1) ∧
    placeD tG ty120 26 = some (26, 1) ∧
    placeD tG ty120 27 = some (27, 1) ∧
    placeD tG ty120 28 = some (28, 1) ∧
    placeD tG ty120 29 = some (29, 1) ∧
    placeD tG ty120 30 = some (30, 1) ∧
    placeD tG ty120 31 = some (31, 1) ∧
    placeD tG ty120 32 = some (32, 1) ∧
    placeD tG ty120 33 = some (33, 1) ∧
    placeD tG ty120 34 = some (34, 1) ∧
    placeD tG ty120 35 = some (35, 1) ∧
    placeD tG ty120 36 = some (36, 1) ∧
    placeD tG ty120 37 = some (37, 1) ∧
    placeD tG ty120 38 = some (38, 1) ∧
    placeD tG ty120 39 = some (39, 1) := ⟨by kernel_rfl, by kernel_rfl, by kernel_rfl, by kernel_rfl, by kernel_rfl, by kernel_rfl, by kernel_rfl, by kernel_rfl, by kernel_rfl, by kernel_rfl, by kernel_rfl, by kernel_rfl, by kernel_rfl, by kernel_rfl, by kernel_rfl, by kernel_rfl, by kernel_rfl, by kernel_rfl, by kernel_rfl, by kernel_rfl, by kernel_rfl, by kernel_rfl, by kernel_rfl, by kernel_rfl, by kernel_rfl, by kernel_rfl, by kernel_rfl, by kernel_rfl, by kernel_rfl, by kernel_rfl, by kernel_rfl, by kernel_rfl, by kernel_rfl, by kernel_rfl, by kernel_rfl, by kernel_rfl, by kernel_rfl, by kernel_rfl, by kernel_rfl, by kernel_rfl, by kernel_rfl, by kernel_rfl, by kernel_rfl, by kernel_rfl, by kernel_rfl, by kernel_rfl, by kernel_rfl, by kernel_rfl⟩
noncomputable def ty122 : Ty := (tyOf Try.prog 122).getD ⟨.bool, .bool false, 0, 0, none⟩
theorem tl122 : tG 122 = some ty122 ∧
    ty122.size = 259 ∧
    ty122.bytes = 1036 ∧
    isAggD ty122.desc = true ∧
    zeroC ty122 = [.v (.x (.int .u32 0)), .v (.x (.int .i32 0)), .v (.x (.int .u32 0)), .v (.x (.int .u32 0)), .v (.x (.int .u32 0)), .v (.x (.int .u32 0)), .v (.x (.int .u32 0)), .v (.x (.int .u32 0)), .v (.x (.int .u32 0)), .v (.x (.int .u32 0)), .v (.x (.int .u32 0)), .v (.x (.int .u32 0)), .v (.x (.int .u32 0)), .v (.x (.int .u32 0)), .v (.x (.int .u32 0)), .v (.x (.int .u32 0)), .v (.x (.int .u32 0)), .v (.x (.int .u32 0)), .v (.x (.int .u32 0)), .v (.x (.int .u32 0)), .v (.x (.int .u32 0)), .v (.x (.int .u32 0)), .v (.x (.int .u32 0)), .v (.x (.int .u32 0)), .v (.x (.int .u32 0)), .v (.x (.int .u32 0)), .v (.x (.int .u32 0)), .v (.x (.int .u32 0)), .v (.x (.int .u32 0)), .v (.x (.int .u32 0)), .v (.x (.int .u32 0)), .v (.x (.int .u32 0)), .v (.x (.int .u32 0)), .v (.x (.int .u32 0)), .v (.x (.int .u32 0)), .v (.x (.int .u32 0)), .v (.x (.int .u32 0)), .v (.x (.int .u32 0)), .v (.x (.int .u32 0)), .v (.x (.int .u32 0)), .v (.x (.int .u32 0)), .v (.x (.int .u32 0)), .v (.x (.int .u32 0)), .v (.x (.int .u32 0)), .v (.x (.int .u32 0)), .v (.x (.int .u32 0)), .v (.x (.int .u32 0)), .v (.x (.int .u32 0)), .v (.x (.int .u32 0)), .v (.x (.int .u32 0)), .v (.x (.int .u32 0)), .v (.x (.int .u32 0)), .v (.x (.int .u32 0)), .v (.x (.int .u32 0)), .v (.x (.int .u32 0)), .v (.x (.int .u32 0)), .v (.x (.int .u32 0)), .v (.x (.int .u32 0)), .v (.x (.int .u32 0)), .v (.x (.int .u32 0)), .v (.x (.int .u32 0)), .v (.x (.int .u32 0)), .v (.x (.int .u32 0)), .v (.x (.int .u32 0)), .v (.x (.int .u32 0)), .v (.x (.int .u32 0)), .v (.x (.int .u32 0)), .v (.x (.int .u32 0)), .v (.x (.int .u32 0)), .v (.x (.int .u32 0)), .v (.x (.int .u32 0)), .v (.x (.int .u32 0)), .v (.x (.int .u32 0)), .v (.x (.int .u32 0)), .v (.x (.int .u32 0)), .v (.x (.int .u32 0)), .v (.x (.int .u32 0)), .v (.x (.int .u32 0)), .v (.x (.int .u32 0)), .v (.x (.int .u32 0)), .v (.x (.int .u32 0)), .v (.x (.int .u32 0)), .v (.x (.int .u32 0)), .v (.x (.int .u32 0)), .v (.x (.int .u32 0)), .v (.x (.int .u32 0)), .v (.x (.int .u32 0)), .v (.x (.int .u32 0)), .v (.x (.int .u32 0)), .v (.x (.int .u32 0)), .v (.x (.int .u32 0)), .v (.x (.int .u32 0)), .v (.x (.int .u32 0)), .v (.x (.int .u32 0)), .v (.x (.int .u32 0)), .v (.x (.int .u32 0)), .v (.x (.int .u32 0)), .v (.x (.int .u32 0)), .v (.x (.int .u32 0)), .v (.x (.int .u32 0)), .v (.x (.int .u32 0)), .v (.x (.int .u32 0)), .v (.x (.int .u32 0)), .v (.x (.int .u32 0)), .v (.x (.int .u32 0)), .v (.x (.int .u32 0)), .v (.x (.int .u32 0)), .v (.x (.int .u32 0)), .v (.x (.int .u32 0)), .v (.x (.int .u32 0)), .v (.x (.int .u32 0)), .v (.x (.int .u32 0)), .v (.x (.int .u32 0)), .v (.x (.int .u32 0)), .v (.x (.int .u32 0)), .v (.x (.int .u32 0)), .v (.x (.int .u32 0)), .v (.x (.int .u32 0)), .v (.x (.int .u32 0)), .v (.x (.int .u32 0)), .v (.x (.int .u32 0)), .v (.x (.int .u32 0)), .v (.x (.int .u32 0)), .v (.x (.int .u32 0)), .v (.x (.int .u32 0)), .v (.x (.int .u32 0)), .v (.x (.int .u32 0)), .v (.x (.int .u32 0)), .v (.x (.int .u32 0)), .v (.x (.int .u32 0)), .v (.x (.int .u32 0)), .v (.x (.int .u32 0)), .v (.x (.int .u32 0)), .v (.x (.int .u32 0)), .v (.x (.int .u32 0)), .v (.x (.int .u32 0)), .v (.x (.int .u32 0)), .v (.x (.int .u32 0)), .v (.x (.int .u32 0)), .v (.x (.int .u32 0)), .v (.x (.int .u32 0)), .v (.x (.int .u32 0)), .v (.x (.int .u32 0)), .v (.x (.int .u32 0)), .v (.x (.int .u32 0)), .v (.x (.int .u32 0)), .v (.x (.int .u32 0)), .v (.x (.int .u32 0)), .v (.x (.int .u32 0)), .v (.x (.int .u32 0)), .v (.x (.int .u32 0)), .v (.x (.int .u32 0)), .v (.x (.int .u32 0)), .v (.x (.int .u32 0)), .v (.x (.int .u32 0)), .v (.x (.int .u32 0)), .v (.x (.int .u32 0)), .v (.x (.int .u32 0)), .v (.x (.int .u32 0)), .v (.x (.int .u32 0)), .v (.x (.int .u32 0)), .v (.x (.int .u32 0)), .v (.x (.int .u32 0)), .v (.x (.int .u32 0)), .v (.x (.int .u32 0)), .v (.x (.int .u32 0)), .v (.x (.int .u32 0)), .v (.x (.int .u32 0)), .v (.x (.int .u32 0)), .v (.x (.int .u32 0)), .v (.x (.int .u32 0)), .v (.x (.int .u32 0)), .v (.x (.int .u32 0)), .v (.x (.int .u32 0)), .v (.x (.int .u32 0)), .v (.x (.int .u32 0)), .v (.x (.int .u32 0)), .v (.x (.int .u32 0)), .v (.x (.int .u32 0)), .v (.x (.int .u32 0)), .v (.x (.int .u32 0)), .v (.x (.int .u32 0)), .v (.x (.int .u32 0)), .v (.x (.int .u32 0)), .v (.x (.int .u32 0)), .v (.x (.int .u32 0)), .v (.x (.int .u32 0)), .v (.x (.int .u32 0)), .v (.x (.int .u32 0)), .v (.x (.int .u32 0)), .v (.x (.int .u32 0)), .v (.x (.int .u32 0)), .v (.x (.int .u32 0)), .v (.x (.int .u32 0)), .v (.x (.int .u32 0)), .v (.x (.int .u32 0)), .v (.x (.int .u32 0)), .v (.x (.int .u32 0)), .v (.x (.int .u32 0)), .v (.x (.int .u32 0)), .v (.x (.int .u32 0)), .v (.x (.int .u32 0)), .v (.x (.int .u32 0)), .v (.x (.int .u32 0)), .v (.x (.int .u32 0)), .v (.x (.int .u32 0)), .v (.x (.int .u32 0)), .v (.x (.int .u32 0)), .v (.x (.int .u32 0)), .v (.x (.int .u32 0)), .v (.x (.int .u32 0)), .v (.x (.int .u32 0)), .v (.x (.int .u32 0)), .v (.x (.int .u32 0)), .v (.x (.int .u32 0)), .v (.x (.int .u32 0)), .v (.x (.int .u32 0)), .v (.x (.int .u32 0)), .v (.x (.int .u32 0)), .v (.x (.int .u32 0)), .v (.x (.int .u32 0)), .v (.x (.int .u32 0)), .v (.x (.int .u32 0)), .v (.x (.int .u32 0)), .v (.x (.int .u32 0)), .v (.x (.int .u32 0)), .v (.x (.int .u32 0)), .v (.x (.int .u32 0)), .v (.x (.int .u32 0)), .v (.x (.int .u32 0)), .v (.x (.int .u32 0)), .v (.x (.int .u32 0)), .v (.x (.int .u32 0)), .v (.x (.int .u32 0)), .v (.x (.int .u32 0)), .v (.x (.int .u32 0)), .v (.x (.int .u32 0)), .v (.x (.int .u32 0)), .v (.x (.int .u32 0)), .v (.x (.int .u32 0)), .v (.x (.int .u32 0)), .v (.x (.int .u32 0)), .v (.x (.int .u32 0)), .v (.x (.int .u32 0)), .v (.x (.int .u32 0)), .v (.x (.int .u32 0)), .v (.x (.int .u32 0)), .v (.x (.int .u32 0)), .v (.x (.int .u32 0)), .v (.x (.int .u32 0)), .v (.x (.int .u32 0)), .v (.x (.int .u32 0)), .v (.x (.int .u32 0)), .v (.x (.int .u32 0)), .v (.x (.int .u32 0)), .v (.x (.int .u32 0)), .v (.x (.int .u32 0)), .v (.x (.int .u32 0)), .v (.x (.int .u32 0))] ∧
    zeroV ty122 = [.x (.int .u32 0), .x (.int .i32 0), .x (.int .u32 0), .x (.int .u32 0), .x (.int .u32 0), .x (.int .u32 0), .x (.int .u32 0), .x (.int .u32 0), .x (.int .u32 0), .x (.int .u32 0), .x (.int .u32 0), .x (.int .u32 0), .x (.int .u32 0), .x (.int .u32 0), .x (.int .u32 0), .x (.int .u32 0), .x (.int .u32 0), .x (.int .u32 0), .x (.int .u32 0), .x (.int .u32 0), .x (.int .u32 0), .x (.int .u32 0), .x (.int .u32 0), .x (.int .u32 0), .x (.int .u32 0), .x (.int .u32 0), .x (.int .u32 0), .x (.int .u32 0), .x (.int .u32 0), .x (.int .u32 0), .x (.int .u32 0), .x (.int .u32 0), .x (.int .u32 0), .x (.int .u32 0), .x (.int .u32 0), .x (.int .u32 0), .x (.int .u32 0), .x (.int .u32 0), .x (.int .u32 0), .x (.int .u32 0), .x (.int .u32 0), .x (.int .u32 0), .x (.int .u32 0), .x (.int .u32 0), .x (.int .u32 0), .x (.int .u32 0), .x (.int .u32 0), .x (.int .u32 0), .x (.int .u32 0), .x (.int .u32 0), .x (.int .u32 0), .x (.int .u32 0), .x (.int .u32 0), .x (.int .u32 0), .x (.int .u32 0), .x (.int .u32 0), .x (.int .u32 0), .x (.int .u32 0), .x (.int .u32 0), .x (.int .u32 0), .x (.int .u32 0), .x (.int .u32 0), .x (.int .u32 0), .x (.int .u32 0), .x (.int .u32 0), .x (.int .u32 0), .x (.int .u32 0), .x (.int .u32 0), .x (.int .u32 0), .x (.int .u32 0), .x (.int .u32 0), .x (.int .u32 0), .x (.int .u32 0), .x (.int .u32 0), .x (.int .u32 0), .x (.int .u32 0), .x (.int .u32 0), .x (.int .u32 0), .x (.int .u32 0), .x (.int .u32 0), .x (.int .u32 0), .x (.int .u32 0), .x (.int .u32 0), .x (.int .u32 0), .x (.int .u32 0), .x (.int .u32 0), .x (.int .u32 0), .x (.int .u32 0), .x (.int .u32 0), .x (.int .u32 0), .x (.int .u32 0), .x (.int .u32 0), .x (.int .u32 0), .x (.int .u32 0), .x (.int .u32 0), .x (.int .u32 0), .x (.int .u32 0), .x (.int .u32 0), .x (.int .u32 0), .x (.int .u32 0), .x (.int .u32 0), .x (.int .u32 0), .x (.int .u32 0), .x (.int .u32 0), .x (.int .u32 0), .x (.int .u32 0), .x (.int .u32 0), .x (.int .u32 0), .x (.int .u32 0), .x (.int .u32 0), .x (.int .u32 0), .x (.int .u32 0), .x (.int .u32 0), .x (.int .u32 0), .x (.int .u32 0), .x (.int .u32 0), .x (.int .u32 0), .x (.int .u32 0), .x (.int .u32 0), .x (.int .u32 0), .x (.int .u32 0), .x (.int .u32 0), .x (.int .u32 0), .x (.int .u32 0), .x (.int .u32 0), .x (.int .u32 0), .x (.int .u32 0), .x (.int .u32 0), .x (.int .u32 0), .x (.int .u32 0), .x (.int .u32 0), .x (.int .u32 0), .x (.int .u32 0), .x (.int .u32 0), .x (.int .u32 0), .x (.int .u32 0), .x (.int .u32 0), .x (.int .u32 0), .x (.int .u32 0), .x (.int .u32 0), .x (.int .u32 0), .x (.int .u32 0), .x (.int .u32 0), .x (.int .u32 0), .x (.int .u32 0), .x (.int .u32 0), .x (.int .u32 0), .x (.int .u32 0), .x (.int .u32 0), .x (.int .u32 0), .x (.int .u32 0), .x (.int .u32 0), .x (.int .u32 0), .x (.int .u32 0), .x (.int .u32 0), .x (.int .u32 0), .x (.int .u32 0), .x (.int .u32 0), .x (.int .u32 0), .x (.int .u32 0), .x (.int .u32 0), .x (.int .u32 0), .x (.int .u32 0), .x (.int .u32 0), .x (.int .u32 0), .x (.int .u32 0), .x (.int .u32 0), .x (.int .u32 0), .x (.int .u32 0), .x (.int .u32 0), .x (.int .u32 0), .x (.int .u32 0), .x (.int .u32 0), .x (.int .u32 0), .x (.int .u32 0), .x (.int .u32 0), .x (.int .u32 0), .x (.int .u32 0), .x (.int .u32 0), .x (.int .u32 0), .x (.int .u32 0), .x (.int .u32 0), .x (.int .u32 0), .x (.int .u32 0), .x (.int .u32 0), .x (.int .u32 0), .x (.int .u32 0), .x (.int .u32 0), .x (.int .u32 0), .x (.int .u32 0), .x (.int .u32 0), .x (.int .u32 0), .x (.int .u32 0), .x (.int .u32 0), .x (.int .u32 0), .x (.int .u32 0), .x (.int .u32 0), .x (.int .u32 0), .x (.int .u32 0), .x (.int .u32 0), .x (.int .u32 0), .x (.int .u32 0), .x (.int .u32 0), .x (.int .u32 0), .x (.int .u32 0), .x (.int .u32 0), .x (.int .u32 0), .x (.int .u32 0), .x (.int .u32 0), .x (.int .u32 0), .x (.int .u32 0), .x (.int .u32 0), .x (.int .u32 0), .x (.int .u32 0), .x (.int .u32 0), .x (.int .u32 0), .x (.int .u32 0), .x (.int .u32 0), .x (.int .u32 0), .x (.int .u32 0), .x (.int .u32 0), .x (.int .u32 0), .x (.int .u32 0), .x (.int .u32 0), .x (.int .u32 0), .x (.int .u32 0), .x (.int .u32 0), .x (.int .u32 0), .x (.int .u32 0), .x (.int .u32 0), .x (.int .u32 0), .x (.int .u32 0), .x (.int .u32 0), .x (.int .u32 0), .x (.int .u32 0), .x (.int .u32 0), .x (.int .u32 0), .x (.int .u32 0), .x (.int .u32 0), .x (.int .u32 0), .x (.int .u32 0), .x (.int .u32 0), .x (.int .u32 0), .x (.int .u32 0), .x (.int .u32 0), .x (.int .u32 0), .x (.int .u32 0), .x (.int .u32 0), .x (.int .u32 0), .x (.int .u32 0), .x (.int .u32 0), .x (.int .u32 0), .x (.int .u32 0), .x (.int .u32 0), .x (.int .u32 0), .x (.int .u32 0), .x (.int .u32 0), .x (.int .u32 0), .x (.int .u32 0)] ∧
    buildOk tG ty122 = true ∧
    fieldInfo tG ty122 0 = some (0, 3, true) ∧
    placeD tG ty122 0 = some (0, 3) ∧
    fieldInfo tG ty122 1 = some (3, 256, true) ∧
    placeD tG ty122 1 = some (3, 256) := ⟨by kernel_rfl, by kernel_rfl, by kernel_rfl, by kernel_rfl, by kernel_rfl, by kernel_rfl, by kernel_rfl, by kernel_rfl, by kernel_rfl, by kernel_rfl, by kernel_rfl⟩
noncomputable def ty125 : Ty := (tyOf Try.prog 125).getD ⟨.bool, .bool false, 0, 0, none⟩
theorem tl125 : tG 125 = some ty125 ∧
    ty125.size = 1 ∧
    ty125.bytes = 8 ∧
    isAggD ty125.desc = false ∧
    zeroC ty125 = [.v (.x (.int .u64 0))] ∧
    zeroV ty125 = [.x (.int .u64 0)] ∧
    ty125.desc = .int .u64 := ⟨by kernel_rfl, by kernel_rfl, by kernel_rfl, by kernel_rfl, by kernel_rfl, by kernel_rfl, by kernel_rfl⟩
noncomputable def ty126 : Ty := (tyOf Try.prog 126).getD ⟨.bool, .bool false, 0, 0, none⟩
theorem tl126 : tG 126 = some ty126 ∧
    ty126.size = 1 ∧
    ty126.bytes = 8 ∧
    isAggD ty126.desc = false ∧
    zeroC ty126 = [.v (.x (.pointer none))] ∧
    zeroV ty126 = [.x (.pointer none)] ∧
    ty126.desc = .pointer 122 := ⟨by kernel_rfl, by kernel_rfl, by kernel_rfl, by kernel_rfl, by kernel_rfl, by kernel_rfl, by kernel_rfl⟩
noncomputable def ty128 : Ty := (tyOf Try.prog 128).getD ⟨.bool, .bool false, 0, 0, none⟩
theorem tl128 : tG 128 = some ty128 ∧
    ty128.size = 1 ∧
    ty128.bytes = 8 ∧
    isAggD ty128.desc = false ∧
    zeroC ty128 = [.v (.x (.pointer none))] ∧
    zeroV ty128 = [.x (.pointer none)] ∧
    ty128.desc = .pointer 119 := ⟨by kernel_rfl, by kernel_rfl, by kernel_rfl, by kernel_rfl, by kernel_rfl, by kernel_rfl, by kernel_rfl⟩
noncomputable def ty129 : Ty := (tyOf Try.prog 129).getD ⟨.bool, .bool false, 0, 0, none⟩
theorem tl129 : tG 129 = some ty129 ∧
    ty129.size = 1 ∧
    ty129.bytes = 8 ∧
    isAggD ty129.desc = false ∧
    zeroC ty129 = [.v (.x (.pointer none))] ∧
    zeroV ty129 = [.x (.pointer none)] ∧
    ty129.desc = .pointer 113 := ⟨by kernel_rfl, by kernel_rfl, by kernel_rfl, by kernel_rfl, by kernel_rfl, by kernel_rfl, by kernel_rfl⟩
noncomputable def ty131 : Ty := (tyOf Try.prog 131).getD ⟨.bool, .bool false, 0, 0, none⟩
theorem tl131 : tG 131 = some ty131 ∧
    ty131.size = 1 ∧
    ty131.bytes = 8 ∧
    isAggD ty131.desc = false ∧
    zeroC ty131 = [.v (.x (.pointer none))] ∧
    zeroV ty131 = [.x (.pointer none)] ∧
    ty131.desc = .pointer 32 := ⟨by kernel_rfl, by kernel_rfl, by kernel_rfl, by kernel_rfl, by kernel_rfl, by kernel_rfl, by kernel_rfl⟩
noncomputable def ty133 : Ty := (tyOf Try.prog 133).getD ⟨.bool, .bool false, 0, 0, none⟩
theorem tl133 : tG 133 = some ty133 ∧
    ty133.size = 1 ∧
    ty133.bytes = 8 ∧
    isAggD ty133.desc = false ∧
    zeroC ty133 = [.v (.x (.pointer none))] ∧
    zeroV ty133 = [.x (.pointer none)] ∧
    ty133.desc = .pointer 117 := ⟨by kernel_rfl, by kernel_rfl, by kernel_rfl, by kernel_rfl, by kernel_rfl, by kernel_rfl, by kernel_rfl⟩
noncomputable def ty136 : Ty := (tyOf Try.prog 136).getD ⟨.bool, .bool false, 0, 0, none⟩
theorem tl136 : tG 136 = some ty136 ∧
    ty136.size = 1 ∧
    ty136.bytes = 8 ∧
    isAggD ty136.desc = false ∧
    zeroC ty136 = [.v (.x (.pointer none))] ∧
    zeroV ty136 = [.x (.pointer none)] ∧
    ty136.desc = .pointer 115 := ⟨by kernel_rfl, by kernel_rfl, by kernel_rfl, by kernel_rfl, by kernel_rfl, by kernel_rfl, by kernel_rfl⟩
noncomputable def ty138 : Ty := (tyOf Try.prog 138).getD ⟨.bool, .bool false, 0, 0, none⟩
theorem tl138 : tG 138 = some ty138 ∧
    ty138.size = 1 ∧
    ty138.bytes = 8 ∧
    isAggD ty138.desc = false ∧
    zeroC ty138 = [.v (.x (.pointer none))] ∧
    zeroV ty138 = [.x (.pointer none)] ∧
    ty138.desc = .pointer 21 := ⟨by kernel_rfl, by kernel_rfl, by kernel_rfl, by kernel_rfl, by kernel_rfl, by kernel_rfl, by kernel_rfl⟩
noncomputable def ty140 : Ty := (tyOf Try.prog 140).getD ⟨.bool, .bool false, 0, 0, none⟩
theorem tl140 : tG 140 = some ty140 ∧
    ty140.size = 1 ∧
    ty140.bytes = 8 ∧
    isAggD ty140.desc = false ∧
    zeroC ty140 = [.v (.x (.pointer none))] ∧
    zeroV ty140 = [.x (.pointer none)] := ⟨by kernel_rfl, by kernel_rfl, by kernel_rfl, by kernel_rfl, by kernel_rfl, by kernel_rfl⟩

end Eng
end Go.Proofs.Ytgpjbcgbjpmgaaa
