/- The types of the translation, as rows of a table; and that they are what the program says. Written by a program of mine. -/
import Derived.Test.YtgiefnmclahbaaaGreatDoorProg
import Derived.Test.YtgiefnmclahbaaaGreatDoorSymOps
set_option autoImplicit false
namespace Go.Sym.Tab
open Go.Proofs
def r3 : TRow := ⟨(.int .i64), 1, 8, .int .i64 0, false⟩
def r4 : TRow := ⟨.bool, 1, 1, .bool false, false⟩
def r5 : TRow := ⟨(.int .u8), 1, 1, .int .u8 0, false⟩
def r9 : TRow := ⟨.str, 1, 16, .string ByteArray.empty, false⟩
def r21 : TRow := ⟨(.int .i32), 1, 4, .int .i32 0, false⟩
def r22 : TRow := ⟨(.slice 30), 1, 24, .slice none 0 0, false⟩
def r25 : TRow := ⟨(.slice 48), 1, 24, .slice none 0 0, false⟩
def r26 : TRow := ⟨(.slice 51), 1, 24, .slice none 0 0, false⟩
def r28 : TRow := ⟨(.strct [⟨0, 1, false, 3⟩, ⟨1, 1, false, 9⟩, ⟨2, 1, false, 9⟩, ⟨3, 1, false, 3⟩, ⟨4, 1, false, 3⟩]), 5, 56, .agg #[.int .i64 0, .string ByteArray.empty, .string ByteArray.empty, .int .i64 0, .int .i64 0], true⟩
def r30 : TRow := ⟨(.strct [⟨0, 1, false, 3⟩, ⟨1, 1, false, 3⟩, ⟨2, 1, false, 3⟩, ⟨3, 1, false, 3⟩, ⟨4, 1, false, 25⟩, ⟨5, 1, false, 26⟩, ⟨6, 5, true, 28⟩]), 11, 136, .agg #[.int .i64 0, .int .i64 0, .int .i64 0, .int .i64 0, .slice none 0 0, .slice none 0 0, .int .i64 0, .string ByteArray.empty, .string ByteArray.empty, .int .i64 0, .int .i64 0], false⟩
def r31 : TRow := ⟨(.int .i64), 1, 8, .int .i64 0, false⟩
def r35 : TRow := ⟨(.slice 40), 1, 24, .slice none 0 0, false⟩
def r37 : TRow := ⟨(.slice 5), 1, 24, .slice none 0 0, false⟩
def r40 : TRow := ⟨(.strct [⟨0, 1, false, 3⟩, ⟨1, 1, false, 3⟩, ⟨2, 1, false, 3⟩, ⟨3, 1, false, 3⟩, ⟨4, 1, false, 25⟩, ⟨5, 1, false, 26⟩, ⟨6, 5, true, 28⟩]), 11, 136, .agg #[.int .i64 0, .int .i64 0, .int .i64 0, .int .i64 0, .slice none 0 0, .slice none 0 0, .int .i64 0, .string ByteArray.empty, .string ByteArray.empty, .int .i64 0, .int .i64 0], false⟩
def r45 : TRow := ⟨(.slice 81), 1, 24, .slice none 0 0, false⟩
def r46 : TRow := ⟨(.slice 3), 1, 24, .slice none 0 0, false⟩
def r48 : TRow := ⟨(.strct [⟨0, 1, false, 3⟩, ⟨1, 1, false, 9⟩, ⟨2, 1, false, 3⟩, ⟨3, 1, false, 3⟩, ⟨4, 1, false, 9⟩, ⟨5, 1, false, 45⟩, ⟨6, 1, false, 46⟩]), 7, 104, .agg #[.int .i64 0, .string ByteArray.empty, .int .i64 0, .int .i64 0, .string ByteArray.empty, .slice none 0 0, .slice none 0 0], false⟩
def r49 : TRow := ⟨.func, 1, 8, .nilFunc, false⟩
def r51 : TRow := ⟨(.strct [⟨0, 1, false, 3⟩, ⟨1, 1, false, 9⟩]), 2, 24, .agg #[.int .i64 0, .string ByteArray.empty], true⟩
def r54 : TRow := ⟨(.ptr 56), 1, 8, .pointer none, false⟩
def r56 : TRow := ⟨(.strct [⟨0, 1, false, 37⟩, ⟨1, 1, false, 31⟩]), 2, 32, .agg #[.slice none 0 0, .int .i64 0], false⟩
def r57 : TRow := ⟨.func, 1, 8, .nilFunc, false⟩
def r60 : TRow := ⟨(.arr 10 9), 10, 160, .agg #[.string ByteArray.empty, .string ByteArray.empty, .string ByteArray.empty, .string ByteArray.empty, .string ByteArray.empty, .string ByteArray.empty, .string ByteArray.empty, .string ByteArray.empty, .string ByteArray.empty, .string ByteArray.empty], false⟩
def r63 : TRow := ⟨.func, 1, 8, .nilFunc, false⟩
def r66 : TRow := ⟨.func, 1, 8, .nilFunc, false⟩
def r67 : TRow := ⟨.func, 1, 8, .nilFunc, false⟩
def r76 : TRow := ⟨.func, 1, 8, .nilFunc, false⟩
def r79 : TRow := ⟨(.slice 83), 1, 24, .slice none 0 0, false⟩
def r81 : TRow := ⟨(.strct [⟨0, 1, false, 9⟩, ⟨1, 1, false, 9⟩, ⟨2, 1, false, 79⟩]), 3, 56, .agg #[.string ByteArray.empty, .string ByteArray.empty, .slice none 0 0], false⟩
def r83 : TRow := ⟨(.strct [⟨0, 1, false, 9⟩, ⟨1, 1, false, 3⟩]), 2, 24, .agg #[.string ByteArray.empty, .int .i64 0], true⟩
def r88 : TRow := ⟨.func, 1, 8, .nilFunc, false⟩
def r90 : TRow := ⟨.func, 1, 8, .nilFunc, false⟩
def r91 : TRow := ⟨(.int .u64), 1, 8, .int .u64 0, false⟩
def r96 : TRow := ⟨.func, 1, 8, .nilFunc, false⟩
def r100 : TRow := ⟨.func, 1, 8, .nilFunc, false⟩
def r102 : TRow := ⟨(.strct [⟨0, 1, false, 4⟩, ⟨1, 1, false, 4⟩, ⟨2, 1, false, 4⟩, ⟨3, 1, false, 4⟩]), 4, 4, .agg #[.bool false, .bool false, .bool false, .bool false], true⟩
def r106 : TRow := ⟨.func, 1, 8, .nilFunc, false⟩
def r110 : TRow := ⟨.func, 1, 8, .nilFunc, false⟩
def r116 : TRow := ⟨.func, 1, 8, .nilFunc, false⟩
def r122 : TRow := ⟨.func, 1, 8, .nilFunc, false⟩
def r125 : TRow := ⟨.func, 1, 8, .nilFunc, false⟩
def r137 : TRow := ⟨(.strct [⟨0, 1, false, 5⟩, ⟨1, 1, false, 5⟩]), 2, 2, .agg #[.int .u8 0, .int .u8 0], false⟩
def r138 : TRow := ⟨(.arr 16 137), 32, 32, .agg #[.int .u8 0, .int .u8 0, .int .u8 0, .int .u8 0, .int .u8 0, .int .u8 0, .int .u8 0, .int .u8 0, .int .u8 0, .int .u8 0, .int .u8 0, .int .u8 0, .int .u8 0, .int .u8 0, .int .u8 0, .int .u8 0, .int .u8 0, .int .u8 0, .int .u8 0, .int .u8 0, .int .u8 0, .int .u8 0, .int .u8 0, .int .u8 0, .int .u8 0, .int .u8 0, .int .u8 0, .int .u8 0, .int .u8 0, .int .u8 0, .int .u8 0, .int .u8 0], false⟩
def r140 : TRow := ⟨(.int .u32), 1, 4, .int .u32 0, false⟩
def tree : TTree := (.node (.node (.node (.node (.node (.node .leaf 3 r3 .leaf) 4 r4 .leaf) 5 r5 (.node (.node .leaf 9 r9 .leaf) 21 r21 .leaf)) 22 r22 (.node (.node (.node .leaf 25 r25 .leaf) 26 r26 .leaf) 28 r28 (.node (.node .leaf 30 r30 .leaf) 31 r31 .leaf))) 35 r35 (.node (.node (.node (.node .leaf 37 r37 .leaf) 40 r40 .leaf) 45 r45 (.node (.node .leaf 46 r46 .leaf) 48 r48 .leaf)) 49 r49 (.node (.node (.node .leaf 51 r51 .leaf) 54 r54 .leaf) 56 r56 (.node .leaf 57 r57 .leaf)))) 60 r60 (.node (.node (.node (.node (.node .leaf 63 r63 .leaf) 66 r66 .leaf) 67 r67 (.node (.node .leaf 76 r76 .leaf) 79 r79 .leaf)) 81 r81 (.node (.node (.node .leaf 83 r83 .leaf) 88 r88 .leaf) 90 r90 (.node .leaf 91 r91 .leaf))) 96 r96 (.node (.node (.node (.node .leaf 100 r100 .leaf) 102 r102 .leaf) 106 r106 (.node (.node .leaf 110 r110 .leaf) 116 r116 .leaf)) 122 r122 (.node (.node (.node .leaf 125 r125 .leaf) 137 r137 .leaf) 138 r138 (.node .leaf 140 r140 .leaf)))))
def ti : TI := fun t => tree.find t
theorem ok3 : r3.Ok Tryz.prog 3 := ⟨⟨_, info_of Tryz.typeInfo3, rfl, rfl, rfl⟩, ⟨_, Tryz.underlying3, rfl⟩, fun h => nomatch h⟩
theorem ok4 : r4.Ok Tryz.prog 4 := ⟨⟨_, info_of Tryz.typeInfo4, rfl, rfl, rfl⟩, ⟨_, Tryz.underlying4, rfl⟩, fun h => nomatch h⟩
theorem ok5 : r5.Ok Tryz.prog 5 := ⟨⟨_, info_of Tryz.typeInfo5, rfl, rfl, rfl⟩, ⟨_, Tryz.underlying5, rfl⟩, fun h => nomatch h⟩
theorem ok9 : r9.Ok Tryz.prog 9 := ⟨⟨_, info_of Tryz.typeInfo9, rfl, rfl, rfl⟩, ⟨_, Tryz.underlying9, rfl⟩, fun h => nomatch h⟩
theorem ok21 : r21.Ok Tryz.prog 21 := ⟨⟨_, info_of Tryz.typeInfo21, rfl, rfl, rfl⟩, ⟨_, Tryz.underlying21, rfl⟩, fun h => nomatch h⟩
theorem ok22 : r22.Ok Tryz.prog 22 := ⟨⟨_, info_of Tryz.typeInfo22, rfl, rfl, rfl⟩, ⟨_, Tryz.underlying22, rfl⟩, fun h => nomatch h⟩
theorem ok25 : r25.Ok Tryz.prog 25 := ⟨⟨_, info_of Tryz.typeInfo25, rfl, rfl, rfl⟩, ⟨_, Tryz.underlying25, rfl⟩, fun h => nomatch h⟩
theorem ok26 : r26.Ok Tryz.prog 26 := ⟨⟨_, info_of Tryz.typeInfo26, rfl, rfl, rfl⟩, ⟨_, Tryz.underlying26, rfl⟩, fun h => nomatch h⟩
theorem ok28 : r28.Ok Tryz.prog 28 := ⟨⟨_, info_of Tryz.typeInfo28, rfl, rfl, rfl⟩, ⟨_, Tryz.underlying28, struct_match (.cons rfl ⟨_, info_of Tryz.typeInfo3, rfl⟩ ⟨_, Tryz.underlying3, rfl⟩ (by decide) rfl (.cons rfl ⟨_, info_of Tryz.typeInfo9, rfl⟩ ⟨_, Tryz.underlying9, rfl⟩ (by decide) rfl (.cons rfl ⟨_, info_of Tryz.typeInfo9, rfl⟩ ⟨_, Tryz.underlying9, rfl⟩ (by decide) rfl (.cons rfl ⟨_, info_of Tryz.typeInfo3, rfl⟩ ⟨_, Tryz.underlying3, rfl⟩ (by decide) rfl (.cons rfl ⟨_, info_of Tryz.typeInfo3, rfl⟩ ⟨_, Tryz.underlying3, rfl⟩ (by decide) rfl .nil)))))⟩, fun _ => ⟨Tryz.eqGuardType28, Tryz.stoodInHeld28⟩⟩
theorem ok30 : r30.Ok Tryz.prog 30 := ⟨⟨_, info_of Tryz.typeInfo30, rfl, rfl, rfl⟩, ⟨_, Tryz.underlying30, struct_match (.cons rfl ⟨_, info_of Tryz.typeInfo3, rfl⟩ ⟨_, Tryz.underlying3, rfl⟩ (by decide) rfl (.cons rfl ⟨_, info_of Tryz.typeInfo3, rfl⟩ ⟨_, Tryz.underlying3, rfl⟩ (by decide) rfl (.cons rfl ⟨_, info_of Tryz.typeInfo3, rfl⟩ ⟨_, Tryz.underlying3, rfl⟩ (by decide) rfl (.cons rfl ⟨_, info_of Tryz.typeInfo3, rfl⟩ ⟨_, Tryz.underlying3, rfl⟩ (by decide) rfl (.cons rfl ⟨_, info_of Tryz.typeInfo25, rfl⟩ ⟨_, Tryz.underlying25, rfl⟩ (by decide) rfl (.cons rfl ⟨_, info_of Tryz.typeInfo26, rfl⟩ ⟨_, Tryz.underlying26, rfl⟩ (by decide) rfl (.cons rfl ⟨_, info_of Tryz.typeInfo28, rfl⟩ ⟨_, Tryz.underlying28, rfl⟩ (by decide) rfl .nil)))))))⟩, fun h => nomatch h⟩
theorem ok31 : r31.Ok Tryz.prog 31 := ⟨⟨_, info_of Tryz.typeInfo31, rfl, rfl, rfl⟩, ⟨_, Tryz.underlying31, rfl⟩, fun h => nomatch h⟩
theorem ok35 : r35.Ok Tryz.prog 35 := ⟨⟨_, info_of Tryz.typeInfo35, rfl, rfl, rfl⟩, ⟨_, Tryz.underlying35, rfl⟩, fun h => nomatch h⟩
theorem ok37 : r37.Ok Tryz.prog 37 := ⟨⟨_, info_of Tryz.typeInfo37, rfl, rfl, rfl⟩, ⟨_, Tryz.underlying37, rfl⟩, fun h => nomatch h⟩
theorem ok40 : r40.Ok Tryz.prog 40 := ⟨⟨_, info_of Tryz.typeInfo40, rfl, rfl, rfl⟩, ⟨_, Tryz.underlying40, struct_match (.cons rfl ⟨_, info_of Tryz.typeInfo3, rfl⟩ ⟨_, Tryz.underlying3, rfl⟩ (by decide) rfl (.cons rfl ⟨_, info_of Tryz.typeInfo3, rfl⟩ ⟨_, Tryz.underlying3, rfl⟩ (by decide) rfl (.cons rfl ⟨_, info_of Tryz.typeInfo3, rfl⟩ ⟨_, Tryz.underlying3, rfl⟩ (by decide) rfl (.cons rfl ⟨_, info_of Tryz.typeInfo3, rfl⟩ ⟨_, Tryz.underlying3, rfl⟩ (by decide) rfl (.cons rfl ⟨_, info_of Tryz.typeInfo25, rfl⟩ ⟨_, Tryz.underlying25, rfl⟩ (by decide) rfl (.cons rfl ⟨_, info_of Tryz.typeInfo26, rfl⟩ ⟨_, Tryz.underlying26, rfl⟩ (by decide) rfl (.cons rfl ⟨_, info_of Tryz.typeInfo28, rfl⟩ ⟨_, Tryz.underlying28, rfl⟩ (by decide) rfl .nil)))))))⟩, fun h => nomatch h⟩
theorem ok45 : r45.Ok Tryz.prog 45 := ⟨⟨_, info_of Tryz.typeInfo45, rfl, rfl, rfl⟩, ⟨_, Tryz.underlying45, rfl⟩, fun h => nomatch h⟩
theorem ok46 : r46.Ok Tryz.prog 46 := ⟨⟨_, info_of Tryz.typeInfo46, rfl, rfl, rfl⟩, ⟨_, Tryz.underlying46, rfl⟩, fun h => nomatch h⟩
theorem ok48 : r48.Ok Tryz.prog 48 := ⟨⟨_, info_of Tryz.typeInfo48, rfl, rfl, rfl⟩, ⟨_, Tryz.underlying48, struct_match (.cons rfl ⟨_, info_of Tryz.typeInfo3, rfl⟩ ⟨_, Tryz.underlying3, rfl⟩ (by decide) rfl (.cons rfl ⟨_, info_of Tryz.typeInfo9, rfl⟩ ⟨_, Tryz.underlying9, rfl⟩ (by decide) rfl (.cons rfl ⟨_, info_of Tryz.typeInfo3, rfl⟩ ⟨_, Tryz.underlying3, rfl⟩ (by decide) rfl (.cons rfl ⟨_, info_of Tryz.typeInfo3, rfl⟩ ⟨_, Tryz.underlying3, rfl⟩ (by decide) rfl (.cons rfl ⟨_, info_of Tryz.typeInfo9, rfl⟩ ⟨_, Tryz.underlying9, rfl⟩ (by decide) rfl (.cons rfl ⟨_, info_of Tryz.typeInfo45, rfl⟩ ⟨_, Tryz.underlying45, rfl⟩ (by decide) rfl (.cons rfl ⟨_, info_of Tryz.typeInfo46, rfl⟩ ⟨_, Tryz.underlying46, rfl⟩ (by decide) rfl .nil)))))))⟩, fun h => nomatch h⟩
theorem ok49 : r49.Ok Tryz.prog 49 := ⟨⟨_, info_of Tryz.typeInfo49, rfl, rfl, rfl⟩, ⟨_, Tryz.underlying49, ⟨_, _, _, rfl⟩⟩, fun h => nomatch h⟩
theorem ok51 : r51.Ok Tryz.prog 51 := ⟨⟨_, info_of Tryz.typeInfo51, rfl, rfl, rfl⟩, ⟨_, Tryz.underlying51, struct_match (.cons rfl ⟨_, info_of Tryz.typeInfo3, rfl⟩ ⟨_, Tryz.underlying3, rfl⟩ (by decide) rfl (.cons rfl ⟨_, info_of Tryz.typeInfo9, rfl⟩ ⟨_, Tryz.underlying9, rfl⟩ (by decide) rfl .nil))⟩, fun _ => ⟨Tryz.eqGuardType51, Tryz.stoodInHeld51⟩⟩
theorem ok54 : r54.Ok Tryz.prog 54 := ⟨⟨_, info_of Tryz.typeInfo54, rfl, rfl, rfl⟩, ⟨_, Tryz.underlying54, rfl⟩, fun h => nomatch h⟩
theorem ok56 : r56.Ok Tryz.prog 56 := ⟨⟨_, info_of Tryz.typeInfo56, rfl, rfl, rfl⟩, ⟨_, Tryz.underlying56, struct_match (.cons rfl ⟨_, info_of Tryz.typeInfo37, rfl⟩ ⟨_, Tryz.underlying37, rfl⟩ (by decide) rfl (.cons rfl ⟨_, info_of Tryz.typeInfo31, rfl⟩ ⟨_, Tryz.underlying31, rfl⟩ (by decide) rfl .nil))⟩, fun h => nomatch h⟩
theorem ok57 : r57.Ok Tryz.prog 57 := ⟨⟨_, info_of Tryz.typeInfo57, rfl, rfl, rfl⟩, ⟨_, Tryz.underlying57, ⟨_, _, _, rfl⟩⟩, fun h => nomatch h⟩
theorem ok60 : r60.Ok Tryz.prog 60 := ⟨⟨_, info_of Tryz.typeInfo60, rfl, rfl, rfl⟩, ⟨_, Tryz.underlying60, rfl⟩, fun h => nomatch h⟩
theorem ok63 : r63.Ok Tryz.prog 63 := ⟨⟨_, info_of Tryz.typeInfo63, rfl, rfl, rfl⟩, ⟨_, Tryz.underlying63, ⟨_, _, _, rfl⟩⟩, fun h => nomatch h⟩
theorem ok66 : r66.Ok Tryz.prog 66 := ⟨⟨_, info_of Tryz.typeInfo66, rfl, rfl, rfl⟩, ⟨_, Tryz.underlying66, ⟨_, _, _, rfl⟩⟩, fun h => nomatch h⟩
theorem ok67 : r67.Ok Tryz.prog 67 := ⟨⟨_, info_of Tryz.typeInfo67, rfl, rfl, rfl⟩, ⟨_, Tryz.underlying67, ⟨_, _, _, rfl⟩⟩, fun h => nomatch h⟩
theorem ok76 : r76.Ok Tryz.prog 76 := ⟨⟨_, info_of Tryz.typeInfo76, rfl, rfl, rfl⟩, ⟨_, Tryz.underlying76, ⟨_, _, _, rfl⟩⟩, fun h => nomatch h⟩
theorem ok79 : r79.Ok Tryz.prog 79 := ⟨⟨_, info_of Tryz.typeInfo79, rfl, rfl, rfl⟩, ⟨_, Tryz.underlying79, rfl⟩, fun h => nomatch h⟩
theorem ok81 : r81.Ok Tryz.prog 81 := ⟨⟨_, info_of Tryz.typeInfo81, rfl, rfl, rfl⟩, ⟨_, Tryz.underlying81, struct_match (.cons rfl ⟨_, info_of Tryz.typeInfo9, rfl⟩ ⟨_, Tryz.underlying9, rfl⟩ (by decide) rfl (.cons rfl ⟨_, info_of Tryz.typeInfo9, rfl⟩ ⟨_, Tryz.underlying9, rfl⟩ (by decide) rfl (.cons rfl ⟨_, info_of Tryz.typeInfo79, rfl⟩ ⟨_, Tryz.underlying79, rfl⟩ (by decide) rfl .nil)))⟩, fun h => nomatch h⟩
theorem ok83 : r83.Ok Tryz.prog 83 := ⟨⟨_, info_of Tryz.typeInfo83, rfl, rfl, rfl⟩, ⟨_, Tryz.underlying83, struct_match (.cons rfl ⟨_, info_of Tryz.typeInfo9, rfl⟩ ⟨_, Tryz.underlying9, rfl⟩ (by decide) rfl (.cons rfl ⟨_, info_of Tryz.typeInfo3, rfl⟩ ⟨_, Tryz.underlying3, rfl⟩ (by decide) rfl .nil))⟩, fun _ => ⟨Tryz.eqGuardType83, Tryz.stoodInHeld83⟩⟩
theorem ok88 : r88.Ok Tryz.prog 88 := ⟨⟨_, info_of Tryz.typeInfo88, rfl, rfl, rfl⟩, ⟨_, Tryz.underlying88, ⟨_, _, _, rfl⟩⟩, fun h => nomatch h⟩
theorem ok90 : r90.Ok Tryz.prog 90 := ⟨⟨_, info_of Tryz.typeInfo90, rfl, rfl, rfl⟩, ⟨_, Tryz.underlying90, ⟨_, _, _, rfl⟩⟩, fun h => nomatch h⟩
theorem ok91 : r91.Ok Tryz.prog 91 := ⟨⟨_, info_of Tryz.typeInfo91, rfl, rfl, rfl⟩, ⟨_, Tryz.underlying91, rfl⟩, fun h => nomatch h⟩
theorem ok96 : r96.Ok Tryz.prog 96 := ⟨⟨_, info_of Tryz.typeInfo96, rfl, rfl, rfl⟩, ⟨_, Tryz.underlying96, ⟨_, _, _, rfl⟩⟩, fun h => nomatch h⟩
theorem ok100 : r100.Ok Tryz.prog 100 := ⟨⟨_, info_of Tryz.typeInfo100, rfl, rfl, rfl⟩, ⟨_, Tryz.underlying100, ⟨_, _, _, rfl⟩⟩, fun h => nomatch h⟩
theorem ok102 : r102.Ok Tryz.prog 102 := ⟨⟨_, info_of Tryz.typeInfo102, rfl, rfl, rfl⟩, ⟨_, Tryz.underlying102, struct_match (.cons rfl ⟨_, info_of Tryz.typeInfo4, rfl⟩ ⟨_, Tryz.underlying4, rfl⟩ (by decide) rfl (.cons rfl ⟨_, info_of Tryz.typeInfo4, rfl⟩ ⟨_, Tryz.underlying4, rfl⟩ (by decide) rfl (.cons rfl ⟨_, info_of Tryz.typeInfo4, rfl⟩ ⟨_, Tryz.underlying4, rfl⟩ (by decide) rfl (.cons rfl ⟨_, info_of Tryz.typeInfo4, rfl⟩ ⟨_, Tryz.underlying4, rfl⟩ (by decide) rfl .nil))))⟩, fun _ => ⟨Tryz.eqGuardType102, Tryz.stoodInHeld102⟩⟩
theorem ok106 : r106.Ok Tryz.prog 106 := ⟨⟨_, info_of Tryz.typeInfo106, rfl, rfl, rfl⟩, ⟨_, Tryz.underlying106, ⟨_, _, _, rfl⟩⟩, fun h => nomatch h⟩
theorem ok110 : r110.Ok Tryz.prog 110 := ⟨⟨_, info_of Tryz.typeInfo110, rfl, rfl, rfl⟩, ⟨_, Tryz.underlying110, ⟨_, _, _, rfl⟩⟩, fun h => nomatch h⟩
theorem ok116 : r116.Ok Tryz.prog 116 := ⟨⟨_, info_of Tryz.typeInfo116, rfl, rfl, rfl⟩, ⟨_, Tryz.underlying116, ⟨_, _, _, rfl⟩⟩, fun h => nomatch h⟩
theorem ok122 : r122.Ok Tryz.prog 122 := ⟨⟨_, info_of Tryz.typeInfo122, rfl, rfl, rfl⟩, ⟨_, Tryz.underlying122, ⟨_, _, _, rfl⟩⟩, fun h => nomatch h⟩
theorem ok125 : r125.Ok Tryz.prog 125 := ⟨⟨_, info_of Tryz.typeInfo125, rfl, rfl, rfl⟩, ⟨_, Tryz.underlying125, ⟨_, _, _, rfl⟩⟩, fun h => nomatch h⟩
theorem ok137 : r137.Ok Tryz.prog 137 := ⟨⟨_, info_of Tryz.typeInfo137, rfl, rfl, rfl⟩, ⟨_, Tryz.underlying137, struct_match (.cons rfl ⟨_, info_of Tryz.typeInfo5, rfl⟩ ⟨_, Tryz.underlying5, rfl⟩ (by decide) rfl (.cons rfl ⟨_, info_of Tryz.typeInfo5, rfl⟩ ⟨_, Tryz.underlying5, rfl⟩ (by decide) rfl .nil))⟩, fun h => nomatch h⟩
theorem ok138 : r138.Ok Tryz.prog 138 := ⟨⟨_, info_of Tryz.typeInfo138, rfl, rfl, rfl⟩, ⟨_, Tryz.underlying138, rfl⟩, fun h => nomatch h⟩
theorem ok140 : r140.Ok Tryz.prog 140 := ⟨⟨_, info_of Tryz.typeInfo140, rfl, rfl, rfl⟩, ⟨_, Tryz.underlying140, rfl⟩, fun h => nomatch h⟩
theorem ti_ok : TI.Ok Tryz.prog ti := TTree.ok_find (.node (.node (.node (.node (.node (.node .leaf ok3 .leaf) ok4 .leaf) ok5 (.node (.node .leaf ok9 .leaf) ok21 .leaf)) ok22 (.node (.node (.node .leaf ok25 .leaf) ok26 .leaf) ok28 (.node (.node .leaf ok30 .leaf) ok31 .leaf))) ok35 (.node (.node (.node (.node .leaf ok37 .leaf) ok40 .leaf) ok45 (.node (.node .leaf ok46 .leaf) ok48 .leaf)) ok49 (.node (.node (.node .leaf ok51 .leaf) ok54 .leaf) ok56 (.node .leaf ok57 .leaf)))) ok60 (.node (.node (.node (.node (.node .leaf ok63 .leaf) ok66 .leaf) ok67 (.node (.node .leaf ok76 .leaf) ok79 .leaf)) ok81 (.node (.node (.node .leaf ok83 .leaf) ok88 .leaf) ok90 (.node .leaf ok91 .leaf))) ok96 (.node (.node (.node (.node .leaf ok100 .leaf) ok102 .leaf) ok106 (.node (.node .leaf ok110 .leaf) ok116 .leaf)) ok122 (.node (.node (.node .leaf ok125 .leaf) ok137 .leaf) ok138 (.node .leaf ok140 .leaf)))))
end Go.Sym.Tab
