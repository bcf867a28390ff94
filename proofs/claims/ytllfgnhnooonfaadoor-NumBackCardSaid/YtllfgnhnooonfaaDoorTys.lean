/- The types of this translation, printed by program (wip/tools/gen.lean). -/
import Derived.Test.YtllfgnhnooonfaaDoorChecked
import Derived.Test.YtllfgnhnooonfaaDoorEngZ
set_option autoImplicit false
set_option linter.unusedSimpArgs false
set_option linter.unusedVariables false
namespace Go.Proofs.YtllfgnhnooonfaaDoor
namespace Eng

noncomputable def tG : Nat → Option Ty := tyOf Tryd.prog
theorem tG_ok : TysOk Tryd.prog tG := tyOf_ok _
theorem mixed : Tryd.prog.follows .mixedOrders = true := by kernel_rfl

noncomputable def ty2 : Ty := (tyOf Tryd.prog 2).getD ⟨.bool, .bool false, 0, 0, none⟩
theorem tl2 : tG 2 = some ty2 ∧
    ty2.size = 1 ∧
    ty2.bytes = 8 ∧
    isAggD ty2.desc = false ∧
    zeroC ty2 = [.v (.x (.int .i64 0))] ∧
    zeroV ty2 = [.x (.int .i64 0)] ∧
    ty2.desc = .int .i64 := ⟨by kernel_rfl, by kernel_rfl, by kernel_rfl, by kernel_rfl, by kernel_rfl, by kernel_rfl, by kernel_rfl⟩
noncomputable def ty3 : Ty := (tyOf Tryd.prog 3).getD ⟨.bool, .bool false, 0, 0, none⟩
theorem tl3 : tG 3 = some ty3 ∧
    ty3.size = 1 ∧
    ty3.bytes = 8 ∧
    isAggD ty3.desc = false ∧
    zeroC ty3 = [.v (.x (.int .i64 0))] ∧
    zeroV ty3 = [.x (.int .i64 0)] ∧
    ty3.desc = .int .i64 := ⟨by kernel_rfl, by kernel_rfl, by kernel_rfl, by kernel_rfl, by kernel_rfl, by kernel_rfl, by kernel_rfl⟩
noncomputable def ty4 : Ty := (tyOf Tryd.prog 4).getD ⟨.bool, .bool false, 0, 0, none⟩
theorem tl4 : tG 4 = some ty4 ∧
    ty4.size = 1 ∧
    ty4.bytes = 1 ∧
    isAggD ty4.desc = false ∧
    zeroC ty4 = [.v (.x (.bool false))] ∧
    zeroV ty4 = [.x (.bool false)] ∧
    ty4.desc = .bool := ⟨by kernel_rfl, by kernel_rfl, by kernel_rfl, by kernel_rfl, by kernel_rfl, by kernel_rfl, by kernel_rfl⟩
noncomputable def ty5 : Ty := (tyOf Tryd.prog 5).getD ⟨.bool, .bool false, 0, 0, none⟩
theorem tl5 : tG 5 = some ty5 ∧
    ty5.size = 1 ∧
    ty5.bytes = 1 ∧
    isAggD ty5.desc = false ∧
    zeroC ty5 = [.v (.x (.int .u8 0))] ∧
    zeroV ty5 = [.x (.int .u8 0)] ∧
    ty5.desc = .int .u8 := ⟨by kernel_rfl, by kernel_rfl, by kernel_rfl, by kernel_rfl, by kernel_rfl, by kernel_rfl, by kernel_rfl⟩
noncomputable def ty9 : Ty := (tyOf Tryd.prog 9).getD ⟨.bool, .bool false, 0, 0, none⟩
theorem tl9 : tG 9 = some ty9 ∧
    ty9.size = 1 ∧
    ty9.bytes = 16 ∧
    isAggD ty9.desc = false ∧
    zeroC ty9 = [.v (.x (.string ⟨#[]⟩))] ∧
    zeroV ty9 = [.x (.string ⟨#[]⟩)] ∧
    ty9.desc = .string := ⟨by kernel_rfl, by kernel_rfl, by kernel_rfl, by kernel_rfl, by kernel_rfl, by kernel_rfl, by kernel_rfl⟩
noncomputable def ty21 : Ty := (tyOf Tryd.prog 21).getD ⟨.bool, .bool false, 0, 0, none⟩
theorem tl21 : tG 21 = some ty21 ∧
    ty21.size = 1 ∧
    ty21.bytes = 4 ∧
    isAggD ty21.desc = false ∧
    zeroC ty21 = [.v (.x (.int .i32 0))] ∧
    zeroV ty21 = [.x (.int .i32 0)] ∧
    ty21.desc = .int .i32 := ⟨by kernel_rfl, by kernel_rfl, by kernel_rfl, by kernel_rfl, by kernel_rfl, by kernel_rfl, by kernel_rfl⟩
noncomputable def ty27 : Ty := (tyOf Tryd.prog 27).getD ⟨.bool, .bool false, 0, 0, none⟩
theorem tl27 : tG 27 = some ty27 ∧
    ty27.size = 1 ∧
    ty27.bytes = 8 ∧
    isAggD ty27.desc = false ∧
    zeroC ty27 = [.v (.x (.int .i64 0))] ∧
    zeroV ty27 = [.x (.int .i64 0)] ∧
    ty27.desc = .int .i64 := ⟨by kernel_rfl, by kernel_rfl, by kernel_rfl, by kernel_rfl, by kernel_rfl, by kernel_rfl, by kernel_rfl⟩
noncomputable def ty35 : Ty := (tyOf Tryd.prog 35).getD ⟨.bool, .bool false, 0, 0, none⟩
theorem tl35 : tG 35 = some ty35 ∧
    ty35.size = 1 ∧
    ty35.bytes = 24 ∧
    isAggD ty35.desc = false ∧
    zeroC ty35 = [.v (.x (.slice none 0 0))] ∧
    zeroV ty35 = [.x (.slice none 0 0)] ∧
    ty35.desc = .slice 2 := ⟨by kernel_rfl, by kernel_rfl, by kernel_rfl, by kernel_rfl, by kernel_rfl, by kernel_rfl, by kernel_rfl⟩
noncomputable def ty38 : Ty := (tyOf Tryd.prog 38).getD ⟨.bool, .bool false, 0, 0, none⟩
theorem tl38 : tG 38 = some ty38 ∧
    ty38.size = 1 ∧
    ty38.bytes = 2 ∧
    isAggD ty38.desc = false ∧
    zeroC ty38 = [.v (.x (.int .u16 0))] ∧
    zeroV ty38 = [.x (.int .u16 0)] ∧
    ty38.desc = .int .u16 := ⟨by kernel_rfl, by kernel_rfl, by kernel_rfl, by kernel_rfl, by kernel_rfl, by kernel_rfl, by kernel_rfl⟩
noncomputable def ty40 : Ty := (tyOf Tryd.prog 40).getD ⟨.bool, .bool false, 0, 0, none⟩
theorem tl40 : tG 40 = some ty40 ∧
    ty40.size = 1 ∧
    ty40.bytes = 8 ∧
    isAggD ty40.desc = false ∧
    zeroC ty40 = [.v (.x (.int .u64 0))] ∧
    zeroV ty40 = [.x (.int .u64 0)] ∧
    ty40.desc = .int .u64 := ⟨by kernel_rfl, by kernel_rfl, by kernel_rfl, by kernel_rfl, by kernel_rfl, by kernel_rfl, by kernel_rfl⟩
noncomputable def ty47 : Ty := (tyOf Tryd.prog 47).getD ⟨.bool, .bool false, 0, 0, none⟩
theorem tl47 : tG 47 = some ty47 ∧
    ty47.size = 1 ∧
    ty47.bytes = 16 ∧
    isAggD ty47.desc = false ∧
    zeroC ty47 = [.v (.x (.nilIface))] ∧
    zeroV ty47 = [.x (.nilIface)] ∧
    isIfaceD ty47.desc = true := ⟨by kernel_rfl, by kernel_rfl, by kernel_rfl, by kernel_rfl, by kernel_rfl, by kernel_rfl, by kernel_rfl⟩
noncomputable def ty52 : Ty := (tyOf Tryd.prog 52).getD ⟨.bool, .bool false, 0, 0, none⟩
theorem tl52 : tG 52 = some ty52 ∧
    ty52.size = 1 ∧
    ty52.bytes = 8 ∧
    isAggD ty52.desc = false ∧
    zeroC ty52 = [.v (.x (.int .u64 0))] ∧
    zeroV ty52 = [.x (.int .u64 0)] ∧
    ty52.desc = .int .u64 := ⟨by kernel_rfl, by kernel_rfl, by kernel_rfl, by kernel_rfl, by kernel_rfl, by kernel_rfl, by kernel_rfl⟩
noncomputable def ty57 : Ty := (tyOf Tryd.prog 57).getD ⟨.bool, .bool false, 0, 0, none⟩
theorem tl57 : tG 57 = some ty57 ∧
    ty57.size = 1 ∧
    ty57.bytes = 24 ∧
    isAggD ty57.desc = false ∧
    zeroC ty57 = [.v (.x (.slice none 0 0))] ∧
    zeroV ty57 = [.x (.slice none 0 0)] ∧
    ty57.desc = .slice 5 := ⟨by kernel_rfl, by kernel_rfl, by kernel_rfl, by kernel_rfl, by kernel_rfl, by kernel_rfl, by kernel_rfl⟩
noncomputable def ty59 : Ty := (tyOf Tryd.prog 59).getD ⟨.bool, .bool false, 0, 0, none⟩
theorem tl59 : tG 59 = some ty59 ∧
    ty59.size = 1 ∧
    ty59.bytes = 8 ∧
    isAggD ty59.desc = false ∧
    zeroC ty59 = [.v (.x (.pointer none))] ∧
    zeroV ty59 = [.x (.pointer none)] ∧
    ty59.desc = .pointer 70 := ⟨by kernel_rfl, by kernel_rfl, by kernel_rfl, by kernel_rfl, by kernel_rfl, by kernel_rfl, by kernel_rfl⟩
noncomputable def ty63 : Ty := (tyOf Tryd.prog 63).getD ⟨.bool, .bool false, 0, 0, none⟩
theorem tl63 : tG 63 = some ty63 ∧
    ty63.size = 24 ∧
    ty63.bytes = 24 ∧
    isAggD ty63.desc = true ∧
    zeroC ty63 = [.v (.x (.int .u8 0)), .v (.x (.int .u8 0)), .v (.x (.int .u8 0)), .v (.x (.int .u8 0)), .v (.x (.int .u8 0)), .v (.x (.int .u8 0)), .v (.x (.int .u8 0)), .v (.x (.int .u8 0)), .v (.x (.int .u8 0)), .v (.x (.int .u8 0)), .v (.x (.int .u8 0)), .v (.x (.int .u8 0)), .v (.x (.int .u8 0)), .v (.x (.int .u8 0)), .v (.x (.int .u8 0)), .v (.x (.int .u8 0)), .v (.x (.int .u8 0)), .v (.x (.int .u8 0)), .v (.x (.int .u8 0)), .v (.x (.int .u8 0)), .v (.x (.int .u8 0)), .v (.x (.int .u8 0)), .v (.x (.int .u8 0)), .v (.x (.int .u8 0))] ∧
    zeroV ty63 = [.x (.int .u8 0), .x (.int .u8 0), .x (.int .u8 0), .x (.int .u8 0), .x (.int .u8 0), .x (.int .u8 0), .x (.int .u8 0), .x (.int .u8 0), .x (.int .u8 0), .x (.int .u8 0), .x (.int .u8 0), .x (.int .u8 0), .x (.int .u8 0), .x (.int .u8 0), .x (.int .u8 0), .x (.int .u8 0), .x (.int .u8 0), .x (.int .u8 0), .x (.int .u8 0), .x (.int .u8 0), .x (.int .u8 0), .x (.int .u8 0), .x (.int .u8 0), .x (.int .u8 0)] ∧
    ty63.desc = .array 24 5 ∧
    buildOk tG ty63 = true ∧
    placeD tG ty63 0 = some (0, 1) ∧
    placeD tG ty63 1 = some (1, 1) ∧
    placeD tG ty63 2 = some (2, 1) ∧
    placeD tG ty63 3 = some (3, 1) ∧
    placeD tG ty63 4 = some (4, 1) ∧
    placeD tG ty63 5 = some (5, 1) ∧
    placeD tG ty63 6 = some (6, 1) ∧
    placeD tG ty63 7 = some (7, 1) ∧
    placeD tG ty63 8 = some (8, 1) ∧
    placeD tG ty63 9 = some (9, 1) ∧
    placeD tG ty63 10 = some (10, 1) ∧
    placeD tG ty63 11 = some (11, 1) ∧
    placeD tG ty63 12 = some (12, 1) ∧
    placeD tG ty63 13 = some (13, 1) ∧
    placeD tG ty63 14 = some (14, 1) ∧
    placeD tG ty63 15 = some (15, 1) ∧
    placeD tG ty63 16 = some (16, 1) ∧
    placeD tG ty63 17 = some (17, 1) ∧
    placeD tG ty63 18 = some (18, 1) ∧
    placeD tG ty63 19 = some (19, 1) ∧
    placeD tG ty63 20 = some (20, 1) ∧
    placeD tG ty63 21 = some (21, 1) ∧
    placeD tG ty63 22 = some (22, 1) ∧
    placeD tG ty63 23 = some (23, 1) := ⟨by kernel_rfl, by kernel_rfl, by kernel_rfl, by kernel_rfl, by kernel_rfl, by kernel_rfl, by kernel_rfl, by kernel_rfl, by kernel_rfl, by kernel_rfl, by kernel_rfl, by kernel_rfl, by kernel_rfl, by kernel_rfl, by kernel_rfl, by kernel_rfl, by kernel_rfl, by kernel_rfl, by kernel_rfl, by kernel_rfl, by kernel_rfl, by kernel_rfl, by kernel_rfl, by kernel_rfl, by kernel_rfl, by kernel_rfl, by kernel_rfl, by kernel_rfl, by kernel_rfl, by kernel_rfl, by kernel_rfl, by kernel_rfl⟩
noncomputable def ty70 : Ty := (tyOf Tryd.prog 70).getD ⟨.bool, .bool false, 0, 0, none⟩
theorem tl70 : tG 70 = some ty70 ∧
    ty70.size = 3 ∧
    ty70.bytes = 48 ∧
    isAggD ty70.desc = true ∧
    zeroC ty70 = [.v (.x (.string ⟨#[]⟩)), .v (.x (.string ⟨#[]⟩)), .v (.x (.nilIface))] ∧
    zeroV ty70 = [.x (.string ⟨#[]⟩), .x (.string ⟨#[]⟩), .x (.nilIface)] ∧
    buildOk tG ty70 = true ∧
    fieldInfo tG ty70 0 = some (0, 1, false) ∧
    placeD tG ty70 0 = some (0, 1) ∧
    fieldInfo tG ty70 1 = some (1, 1, false) ∧
    placeD tG ty70 1 = some (1, 1) ∧
    fieldInfo tG ty70 2 = some (2, 1, false) ∧
    placeD tG ty70 2 = some (2, 1) := ⟨by kernel_rfl, by kernel_rfl, by kernel_rfl, by kernel_rfl, by kernel_rfl, by kernel_rfl, by kernel_rfl, by kernel_rfl, by kernel_rfl, by kernel_rfl, by kernel_rfl, by kernel_rfl, by kernel_rfl⟩
noncomputable def ty74 : Ty := (tyOf Tryd.prog 74).getD ⟨.bool, .bool false, 0, 0, none⟩
theorem tl74 : tG 74 = some ty74 ∧
    ty74.size = 20 ∧
    ty74.bytes = 160 ∧
    isAggD ty74.desc = true ∧
    zeroC ty74 = [.v (.x (.int .u64 0)), .v (.x (.int .u64 0)), .v (.x (.int .u64 0)), .v (.x (.int .u64 0)), .v (.x (.int .u64 0)), .v (.x (.int .u64 0)), .v (.x (.int .u64 0)), .v (.x (.int .u64 0)), .v (.x (.int .u64 0)), .v (.x (.int .u64 0)), .v (.x (.int .u64 0)), .v (.x (.int .u64 0)), .v (.x (.int .u64 0)), .v (.x (.int .u64 0)), .v (.x (.int .u64 0)), .v (.x (.int .u64 0)), .v (.x (.int .u64 0)), .v (.x (.int .u64 0)), .v (.x (.int .u64 0)), .v (.x (.int .u64 0))] ∧
    zeroV ty74 = [.x (.int .u64 0), .x (.int .u64 0), .x (.int .u64 0), .x (.int .u64 0), .x (.int .u64 0), .x (.int .u64 0), .x (.int .u64 0), .x (.int .u64 0), .x (.int .u64 0), .x (.int .u64 0), .x (.int .u64 0), .x (.int .u64 0), .x (.int .u64 0), .x (.int .u64 0), .x (.int .u64 0), .x (.int .u64 0), .x (.int .u64 0), .x (.int .u64 0), .x (.int .u64 0), .x (.int .u64 0)] ∧
    ty74.desc = .array 20 40 ∧
    buildOk tG ty74 = true ∧
    placeD tG ty74 0 = some (0, 1) ∧
    placeD tG ty74 1 = some (1, 1) ∧
    placeD tG ty74 2 = some (2, 1) ∧
    placeD tG ty74 3 = some (3, 1) ∧
    placeD tG ty74 4 = some (4, 1) ∧
    placeD tG ty74 5 = some (5, 1) ∧
    placeD tG ty74 6 = some (6, 1) ∧
    placeD tG ty74 7 = some (7, 1) ∧
    placeD tG ty74 8 = some (8, 1) ∧
    placeD tG ty74 9 = some (9, 1) ∧
    placeD tG ty74 10 = some (10, 1) ∧
    placeD tG ty74 11 = some (11, 1) ∧
    placeD tG ty74 12 = some (12, 1) ∧
    placeD tG ty74 13 = some (13, 1) ∧
    placeD tG ty74 14 = some (14, 1) ∧
    placeD tG ty74 15 = some (15, 1) ∧
    placeD tG ty74 16 = some (16, 1) ∧
    placeD tG ty74 17 = some (17, 1) ∧
    placeD tG ty74 18 = some (18, 1) ∧
    placeD tG ty74 19 = some (19, 1) := ⟨by kernel_rfl, by kernel_rfl, by kernel_rfl, by kernel_rfl, by kernel_rfl, by kernel_rfl, by kernel_rfl, by kernel_rfl, by kernel_rfl, by kernel_rfl, by kernel_rfl, by kernel_rfl, by kernel_rfl, by kernel_rfl, by kernel_rfl, by kernel_rfl, by kernel_rfl, by kernel_rfl, by kernel_rfl, by kernel_rfl, by kernel_rfl, by kernel_rfl, by kernel_rfl, by kernel_rfl, by kernel_rfl, by kernel_rfl, by kernel_rfl, by kernel_rfl⟩
noncomputable def ty75 : Ty := (tyOf Tryd.prog 75).getD ⟨.bool, .bool false, 0, 0, none⟩
theorem tl75 : tG 75 = some ty75 ∧
    ty75.size = 1 ∧
    ty75.bytes = 4 ∧
    isAggD ty75.desc = false ∧
    zeroC ty75 = [.v (.x (.int .u32 0))] ∧
    zeroV ty75 = [.x (.int .u32 0)] ∧
    ty75.desc = .int .u32 := ⟨by kernel_rfl, by kernel_rfl, by kernel_rfl, by kernel_rfl, by kernel_rfl, by kernel_rfl, by kernel_rfl⟩
noncomputable def ty76 : Ty := (tyOf Tryd.prog 76).getD ⟨.bool, .bool false, 0, 0, none⟩
theorem tl76 : tG 76 = some ty76 ∧
    ty76.size = 65 ∧
    ty76.bytes = 65 ∧
    isAggD ty76.desc = true ∧
    zeroC ty76 = [.v (.x (.int .u8 0)), .v (.x (.int .u8 0)), .v (.x (.int .u8 0)), .v (.x (.int .u8 0)), .v (.x (.int .u8 0)), .v (.x (.int .u8 0)), .v (.x (.int .u8 0)), .v (.x (.int .u8 0)), .v (.x (.int .u8 0)), .v (.x (.int .u8 0)), .v (.x (.int .u8 0)), .v (.x (.int .u8 0)), .v (.x (.int .u8 0)), .v (.x (.int .u8 0)), .v (.x (.int .u8 0)), .v (.x (.int .u8 0)), .v (.x (.int .u8 0)), .v (.x (.int .u8 0)), .v (.x (.int .u8 0)), .v (.x (.int .u8 0)), .v (.x (.int .u8 0)), .v (.x (.int .u8 0)), .v (.x (.int .u8 0)), .v (.x (.int .u8 0)), .v (.x (.int .u8 0)), .v (.x (.int .u8 0)), .v (.x (.int .u8 0)), .v (.x (.int .u8 0)), .v (.x (.int .u8 0)), .v (.x (.int .u8 0)), .v (.x (.int .u8 0)), .v (.x (.int .u8 0)), .v (.x (.int .u8 0)), .v (.x (.int .u8 0)), .v (.x (.int .u8 0)), .v (.x (.int .u8 0)), .v (.x (.int .u8 0)), .v (.x (.int .u8 0)), .v (.x (.int .u8 0)), .v (.x (.int .u8 0)), .v (.x (.int .u8 0)), .v (.x (.int .u8 0)), .v (.x (.int .u8 0)), .v (.x (.int .u8 0)), .v (.x (.int .u8 0)), .v (.x (.int .u8 0)), .v (.x (.int .u8 0)), .v (.x (.int .u8 0)), .v (.x (.int .u8 0)), .v (.x (.int .u8 0)), .v (.x (.int .u8 0)), .v (.x (.int .u8 0)), .v (.x (.int .u8 0)), .v (.x (.int .u8 0)), .v (.x (.int .u8 0)), .v (.x (.int .u8 0)), .v (.x (.int .u8 0)), .v (.x (.int .u8 0)), .v (.x (.int .u8 0)), .v (.x (.int .u8 0)), .v (.x (.int .u8 0)), .v (.x (.int .u8 0)), .v (.x (.int .u8 0)), .v (.x (.int .u8 0)), .v (.x (.int .u8 0))] ∧
    zeroV ty76 = [.x (.int .u8 0), .x (.int .u8 0), .x (.int .u8 0), .x (.int .u8 0), .x (.int .u8 0), .x (.int .u8 0), .x (.int .u8 0), .x (.int .u8 0), .x (.int .u8 0), .x (.int .u8 0), .x (.int .u8 0), .x (.int .u8 0), .x (.int .u8 0), .x (.int .u8 0), .x (.int .u8 0), .x (.int .u8 0), .x (.int .u8 0), .x (.int .u8 0), .x (.int .u8 0), .x (.int .u8 0), .x (.int .u8 0), .x (.int .u8 0), .x (.int .u8 0), .x (.int .u8 0), .x (.int .u8 0), .x (.int .u8 0), .x (.int .u8 0), .x (.int .u8 0), .x (.int .u8 0), .x (.int .u8 0), .x (.int .u8 0), .x (.int .u8 0), .x (.int .u8 0), .x (.int .u8 0), .x (.int .u8 0), .x (.int .u8 0), .x (.int .u8 0), .x (.int .u8 0), .x (.int .u8 0), .x (.int .u8 0), .x (.int .u8 0), .x (.int .u8 0), .x (.int .u8 0), .x (.int .u8 0), .x (.int .u8 0), .x (.int .u8 0), .x (.int .u8 0), .x (.int .u8 0), .x (.int .u8 0), .x (.int .u8 0), .x (.int .u8 0), .x (.int .u8 0), .x (.int .u8 0), .x (.int .u8 0), .x (.int .u8 0), .x (.int .u8 0), .x (.int .u8 0), .x (.int .u8 0), .x (.int .u8 0), .x (.int .u8 0), .x (.int .u8 0), .x (.int .u8 0), .x (.int .u8 0), .x (.int .u8 0), .x (.int .u8 0)] ∧
    ty76.desc = .array 65 5 ∧
    buildOk tG ty76 = true ∧
    placeD tG ty76 0 = some (0, 1) ∧
    placeD tG ty76 1 = some (1, 1) ∧
    placeD tG ty76 2 = some (2, 1) ∧
    placeD tG ty76 3 = some (3, 1) ∧
    placeD tG ty76 4 = some (4, 1) ∧
    placeD tG ty76 5 = some (5, 1) ∧
    placeD tG ty76 6 = some (6, 1) ∧
    placeD tG ty76 7 = some (7, 1) ∧
    placeD tG ty76 8 = some (8, 1) ∧
    placeD tG ty76 9 = some (9, 1) ∧
    placeD tG ty76 10 = some (10, 1) ∧
    placeD tG ty76 11 = some (11, 1) ∧
    placeD tG ty76 12 = some (12, 1) ∧
    placeD tG ty76 13 = some (13, 1) ∧
    placeD tG ty76 14 = some (14, 1) ∧
    placeD tG ty76 15 = some (15, 1) ∧
    placeD tG ty76 16 = some (16, 1) ∧
    placeD tG ty76 17 = some (17, 1) ∧
    placeD tG ty76 18 = some (18, 1) ∧
    placeD tG ty76 19 = some (19, 1) ∧
    placeD tG ty76 20 = some (20, 1) ∧
    placeD tG ty76 21 = some (21, 1) ∧
    placeD tG ty76 22 = some (22, 1) ∧
    placeD tG ty76 23 = some (23, 1) ∧
    placeD tG ty76 24 = some (24, 1) ∧
    placeD tG ty76 25 = some (25, 1) ∧
    placeD tG ty76 26 = some (26, 1) ∧
    placeD tG ty76 27 = some (27, 1) ∧
    placeD tG ty76 28 = some (28, 1) ∧
    placeD tG ty76 29 = some (29, 1) ∧
    placeD tG ty76 30 = some (30, 1) ∧
    placeD tG ty76 31 = some (31, 1) ∧
    placeD tG ty76 32 = some (32, 1) ∧
    placeD tG ty76 33 = some (33, 1) ∧
    placeD tG ty76 34 = some (34, 1) ∧
    placeD tG ty76 35 = some (35, 1) ∧
    placeD tG ty76 36 = some (36, 1) ∧
    placeD tG ty76 37 = some (37, 1) ∧
    placeD tG ty76 38 = some (38, 1) ∧
    placeD tG ty76 39 = some (39, 1) := ⟨by kernel_rfl, by kernel_rfl, by kernel_rfl, by kernel_rfl, by kernel_rfl, by kernel_rfl, by kernel_rfl, by kernel_rfl, by kernel_rfl, by kernel_rfl, by kernel_rfl, by kernel_rfl, by kernel_rfl, by kernel_rfl, by kernel_rfl, by kernel_rfl, by kernel_rfl, by kernel_rfl, by kernel_rfl, by kernel_rfl, by kernel_rfl, by kernel_rfl, by kernel_rfl, by kernel_rfl, by kernel_rfl, by kernel_rfl, by kernel_rfl, by kernel_rfl, by kernel_rfl, by kernel_rfl, by kernel_rfl, by kernel_rfl, by kernel_rfl, by kernel_rfl, by kernel_rfl, by kernel_rfl, by kernel_rfl, by kernel_rfl, by kernel_rfl, by kernel_rfl, by kernel_rfl, by kernel_rfl, by kernel_rfl, by kernel_rfl, by kernel_rfl, by kernel_rfl, by kernel_rfl, by kernel_rfl⟩
noncomputable def ty79 : Ty := (tyOf Tryd.prog 79).getD ⟨.bool, .bool false, 0, 0, none⟩
theorem tl79 : tG 79 = some ty79 ∧
    ty79.size = 1 ∧
    ty79.bytes = 8 ∧
    isAggD ty79.desc = false ∧
    zeroC ty79 = [.v (.x (.pointer none))] ∧
    zeroV ty79 = [.x (.pointer none)] ∧
    ty79.desc = .pointer 5 := ⟨by kernel_rfl, by kernel_rfl, by kernel_rfl, by kernel_rfl, by kernel_rfl, by kernel_rfl, by kernel_rfl⟩
noncomputable def ty82 : Ty := (tyOf Tryd.prog 82).getD ⟨.bool, .bool false, 0, 0, none⟩
theorem tl82 : tG 82 = some ty82 ∧
    ty82.size = 1 ∧
    ty82.bytes = 16 ∧
    isAggD ty82.desc = true ∧
    zeroC ty82 = [.v (.x (.string ⟨#[]⟩))] ∧
    zeroV ty82 = [.x (.string ⟨#[]⟩)] ∧
    buildOk tG ty82 = true ∧
    ty82.eqL = some [(0, 2)] ∧
    fieldInfo tG ty82 0 = some (0, 1, false) ∧
    placeD tG ty82 0 = some (0, 1) := ⟨by kernel_rfl, by kernel_rfl, by kernel_rfl, by kernel_rfl, by kernel_rfl, by kernel_rfl, by kernel_rfl, by kernel_rfl, by kernel_rfl, by kernel_rfl⟩
noncomputable def ty84 : Ty := (tyOf Tryd.prog 84).getD ⟨.bool, .bool false, 0, 0, none⟩
theorem tl84 : tG 84 = some ty84 ∧
    ty84.size = 32 ∧
    ty84.bytes = 32 ∧
    isAggD ty84.desc = true ∧
    zeroC ty84 = [.v (.x (.int .u8 0)), .v (.x (.int .u8 0)), .v (.x (.int .u8 0)), .v (.x (.int .u8 0)), .v (.x (.int .u8 0)), .v (.x (.int .u8 0)), .v (.x (.int .u8 0)), .v (.x (.int .u8 0)), .v (.x (.int .u8 0)), .v (.x (.int .u8 0)), .v (.x (.int .u8 0)), .v (.x (.int .u8 0)), .v (.x (.int .u8 0)), .v (.x (.int .u8 0)), .v (.x (.int .u8 0)), .v (.x (.int .u8 0)), .v (.x (.int .u8 0)), .v (.x (.int .u8 0)), .v (.x (.int .u8 0)), .v (.x (.int .u8 0)), .v (.x (.int .u8 0)), .v (.x (.int .u8 0)), .v (.x (.int .u8 0)), .v (.x (.int .u8 0)), .v (.x (.int .u8 0)), .v (.x (.int .u8 0)), .v (.x (.int .u8 0)), .v (.x (.int .u8 0)), .v (.x (.int .u8 0)), .v (.x (.int .u8 0)), .v (.x (.int .u8 0)), .v (.x (.int .u8 0))] ∧
    zeroV ty84 = [.x (.int .u8 0), .x (.int .u8 0), .x (.int .u8 0), .x (.int .u8 0), .x (.int .u8 0), .x (.int .u8 0), .x (.int .u8 0), .x (.int .u8 0), .x (.int .u8 0), .x (.int .u8 0), .x (.int .u8 0), .x (.int .u8 0), .x (.int .u8 0), .x (.int .u8 0), .x (.int .u8 0), .x (.int .u8 0), .x (.int .u8 0), .x (.int .u8 0), .x (.int .u8 0), .x (.int .u8 0), .x (.int .u8 0), .x (.int .u8 0), .x (.int .u8 0), .x (.int .u8 0), .x (.int .u8 0), .x (.int .u8 0), .x (.int .u8 0), .x (.int .u8 0), .x (.int .u8 0), .x (.int .u8 0), .x (.int .u8 0), .x (.int .u8 0)] ∧
    ty84.desc = .array 32 5 ∧
    buildOk tG ty84 = true ∧
    placeD tG ty84 0 = some (0, 1) ∧
    placeD tG ty84 1 = some (1, 1) ∧
    placeD tG ty84 2 = some (2, 1) ∧
    placeD tG ty84 3 = some (3, 1) ∧
    placeD tG ty84 4 = some (4, 1) ∧
    placeD tG ty84 5 = some (5, 1) ∧
    placeD tG ty84 6 = some (6, 1) ∧
    placeD tG ty84 7 = some (7, 1) ∧
    placeD tG ty84 8 = some (8, 1) ∧
    placeD tG ty84 9 = some (9, 1) ∧
    placeD tG ty84 10 = some (10, 1) ∧
    placeD tG ty84 11 = some (11, 1) ∧
    placeD tG ty84 12 = some (12, 1) ∧
    placeD tG ty84 13 = some (13, 1) ∧
    placeD tG ty84 14 = some (14, 1) ∧
    placeD tG ty84 15 = some (15, 1) ∧
    placeD tG ty84 16 = some (16, 1) ∧
    placeD tG ty84 17 = some (17, 1) ∧
    placeD tG ty84 18 = some (18, 1) ∧
    placeD tG ty84 19 = some (19, 1) ∧
    placeD tG ty84 20 = some (20, 1) ∧
    placeD tG ty84 21 = some (21, 1) ∧
    placeD tG ty84 22 = some (22, 1) ∧
    placeD tG ty84 23 = some (23, 1) ∧
    placeD tG ty84 24 = some (24, 1) ∧
    placeD tG ty84 25 = some (25, 1) ∧
    placeD tG ty84 26 = some (26, 1) ∧
    placeD tG ty84 27 = some (27, 1) ∧
    placeD tG ty84 28 = some (28, 1) ∧
    placeD tG ty84 29 = some (29, 1) ∧
    placeD tG ty84 30 = some (30, 1) ∧
    placeD tG ty84 31 = some (31, 1) := ⟨by kernel_rfl, by kernel_rfl, by kernel_rfl, by kernel_rfl, by kernel_rfl, by kernel_rfl, by kernel_rfl, by kernel_rfl, by kernel_rfl, by kernel_rfl, by kernel_rfl, by kernel_rfl, by kernel_rfl, by kernel_rfl, by kernel_rfl, by kernel_rfl, by kernel_rfl, by kernel_rfl, by kernel_rfl, by kernel_rfl, by kernel_rfl, by kernel_rfl, by kernel_rfl, by kernel_rfl, by kernel_rfl, by kernel_rfl, by kernel_rfl, by kernel_rfl, by kernel_rfl, by kernel_rfl, by kernel_rfl, by kernel_rfl, by kernel_rfl, by kernel_rfl, by kernel_rfl, by kernel_rfl, by kernel_rfl, by kernel_rfl, by kernel_rfl, by kernel_rfl⟩
noncomputable def ty85 : Ty := (tyOf Tryd.prog 85).getD ⟨.bool, .bool false, 0, 0, none⟩
theorem tl85 : tG 85 = some ty85 ∧
    ty85.size = 64 ∧
    ty85.bytes = 64 ∧
    isAggD ty85.desc = true ∧
    zeroC ty85 = [.v (.x (.int .u8 0)), .v (.x (.int .u8 0)), .v (.x (.int .u8 0)), .v (.x (.int .u8 0)), .v (.x (.int .u8 0)), .v (.x (.int .u8 0)), .v (.x (.int .u8 0)), .v (.x (.int .u8 0)), .v (.x (.int .u8 0)), .v (.x (.int .u8 0)), .v (.x (.int .u8 0)), .v (.x (.int .u8 0)), .v (.x (.int .u8 0)), .v (.x (.int .u8 0)), .v (.x (.int .u8 0)), .v (.x (.int .u8 0)), .v (.x (.int .u8 0)), .v (.x (.int .u8 0)), .v (.x (.int .u8 0)), .v (.x (.int .u8 0)), .v (.x (.int .u8 0)), .v (.x (.int .u8 0)), .v (.x (.int .u8 0)), .v (.x (.int .u8 0)), .v (.x (.int .u8 0)), .v (.x (.int .u8 0)), .v (.x (.int .u8 0)), .v (.x (.int .u8 0)), .v (.x (.int .u8 0)), .v (.x (.int .u8 0)), .v (.x (.int .u8 0)), .v (.x (.int .u8 0)), .v (.x (.int .u8 0)), .v (.x (.int .u8 0)), .v (.x (.int .u8 0)), .v (.x (.int .u8 0)), .v (.x (.int .u8 0)), .v (.x (.int .u8 0)), .v (.x (.int .u8 0)), .v (.x (.int .u8 0)), .v (.x (.int .u8 0)), .v (.x (.int .u8 0)), .v (.x (.int .u8 0)), .v (.x (.int .u8 0)), .v (.x (.int .u8 0)), .v (.x (.int .u8 0)), .v (.x (.int .u8 0)), .v (.x (.int .u8 0)), .v (.x (.int .u8 0)), .v (.x (.int .u8 0)), .v (.x (.int .u8 0)), .v (.x (.int .u8 0)), .v (.x (.int .u8 0)), .v (.x (.int .u8 0)), .v (.x (.int .u8 0)), .v (.x (.int .u8 0)), .v (.x (.int .u8 0)), .v (.x (.int .u8 0)), .v (.x (.int .u8 0)), .v (.x (.int .u8 0)), .v (.x (.int .u8 0)), .v (.x (.int .u8 0)), .v (.x (.int .u8 0)), .v (.x (.int .u8 0))] ∧
    zeroV ty85 = [.x (.int .u8 0), .x (.int .u8 0), .x (.int .u8 0), .x (.int .u8 0), .x (.int .u8 0), .x (.int .u8 0), .x (.int .u8 0), .x (.int .u8 0), .x (.int .u8 0), .x (.int .u8 0), .x (.int .u8 0), .x (.int .u8 0), .x (.int .u8 0), .x (.int .u8 0), .x (.int .u8 0), .x (.int .u8 0), .x (.int .u8 0), .x (.int .u8 0), .x (.int .u8 0), .x (.int .u8 0), .x (.int .u8 0), .x (.int .u8 0), .x (.int .u8 0), .x (.int .u8 0), .x (.int .u8 0), .x (.int .u8 0), .x (.int .u8 0), .x (.int .u8 0), .x (.int .u8 0), .x (.int .u8 0), .x (.int .u8 0), .x (.int .u8 0), .x (.int .u8 0), .x (.int .u8 0), .x (.int .u8 0), .x (.int .u8 0), .x (.int .u8 0), .x (.int .u8 0), .x (.int .u8 0), .x (.int .u8 0), .x (.int .u8 0), .x (.int .u8 0), .x (.int .u8 0), .x (.int .u8 0), .x (.int .u8 0), .x (.int .u8 0), .x (.int .u8 0), .x (.int .u8 0), .x (.int .u8 0), .x (.int .u8 0), .x (.int .u8 0), .x (.int .u8 0), .x (.int .u8 0), .x (.int .u8 0), .x (.int .u8 0), .x (.int .u8 0), .x (.int .u8 0), .x (.int .u8 0), .x (.int .u8 0), .x (.int .u8 0), .x (.int .u8 0), .x (.int .u8 0), .x (.int .u8 0), .x (.int .u8 0)] ∧
    ty85.desc = .array 64 5 ∧
    buildOk tG ty85 = true ∧
    placeD tG ty85 0 = some (0, 1) ∧
    placeD tG ty85 1 = some (1, 1) ∧
    placeD tG ty85 2 = some (2, 1) ∧
    placeD tG ty85 3 = some (3, 1) ∧
    placeD tG ty85 4 = some (4, 1) ∧
    placeD tG ty85 5 = some (5, 1) ∧
    placeD tG ty85 6 = some (6, 1) ∧
    placeD tG ty85 7 = some (7, 1) ∧
    placeD tG ty85 8 = some (8, 1) ∧
    placeD tG ty85 9 = some (9, 1) ∧
    placeD tG ty85 10 = some (10, 1) ∧
    placeD tG ty85 11 = some (11, 1) ∧
    placeD tG ty85 12 = some (12, 1) ∧
    placeD tG ty85 13 = some (13, 1) ∧
    placeD tG ty85 14 = some (14, 1) ∧
    placeD tG ty85 15 = some (15, 1) ∧
    placeD tG ty85 16 = some (16, 1) ∧
    placeD tG ty85 17 = some (17, 1) ∧
    placeD tG ty85 18 = some (18, 1) ∧
    placeD tG ty85 19 = some (19, 1) ∧
    placeD tG ty85 20 = some (20, 1) ∧
    placeD tG ty85 21 = some (21, 1) ∧
    placeD tG ty85 22 = some (22, 1) ∧
    placeD tG ty85 23 = some (23, 1) ∧
    placeD tG ty85 24 = some (24, 1) ∧
    placeD tG ty85 25 = some (25, 1) ∧
    placeD tG ty85 26 = some (26, 1) ∧
    placeD tG ty85 27 = some (27, 1) ∧
    placeD tG ty85 28 = some (28, 1) ∧
    placeD tG ty85 29 = some (29, 1) ∧
    placeD tG ty85 30 = some (30, 1) ∧
    placeD tG ty85 31 = some (31, 1) ∧
    placeD tG ty85 32 = some (32, 1) ∧
    placeD tG ty85 33 = some (33, 1) ∧
    placeD tG ty85 34 = some (34, 1) ∧
    placeD tG ty85 35 = some (35, 1) ∧
    placeD tG ty85 36 = some (36, 1) ∧
    placeD tG ty85 37 = some (37, 1) ∧
    placeD tG ty85 38 = some (38, 1) ∧
    placeD tG ty85 39 = some (39, 1) := ⟨by kernel_rfl, by kernel_rfl, by kernel_rfl, by kernel_rfl, by kernel_rfl, by kernel_rfl, by kernel_rfl, by kernel_rfl, by kernel_rfl, by kernel_rfl, by kernel_rfl, by kernel_rfl, by kernel_rfl, by kernel_rfl, by kernel_rfl, by kernel_rfl, by kernel_rfl, by kernel_rfl, by kernel_rfl, by kernel_rfl, by kernel_rfl, by kernel_rfl, by kernel_rfl, by kernel_rfl, by kernel_rfl, by kernel_rfl, by kernel_rfl, by kernel_rfl, by kernel_rfl, by kernel_rfl, by kernel_rfl, by kernel_rfl, by kernel_rfl, by kernel_rfl, by kernel_rfl, by kernel_rfl, by kernel_rfl, by kernel_rfl, by kernel_rfl, by kernel_rfl, by kernel_rfl, by kernel_rfl, by kernel_rfl, by kernel_rfl, by kernel_rfl, by kernel_rfl, by kernel_rfl, by kernel_rfl⟩

end Eng
end Go.Proofs.YtllfgnhnooonfaaDoor
