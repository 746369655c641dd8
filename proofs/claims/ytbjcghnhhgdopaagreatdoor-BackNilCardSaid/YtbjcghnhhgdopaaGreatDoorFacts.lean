import Derived.Test.YtbjcghnhhgdopaaGreatDoorAi17
import Derived.Test.YtbjcghnhhgdopaaGreatDoorProg
import Derived.KernelRfl
namespace Go.Proofs.YtbjcghnhhgdopaaGreatDoor.Ai
open Go Go.Proofs
set_option maxRecDepth 100000
@[simp] theorem ty_size1 : tSize Tryz.prog 1 = some 1 := by kernel_rfl
@[simp] theorem ty_agg1 : tAgg Tryz.prog 1 = some false := by kernel_rfl
@[simp] theorem ty_bytes1 : tBytes Tryz.prog 1 = some 8 := by kernel_rfl
@[simp] theorem ty_sort1 : tSort Tryz.prog 1 = 2 := by kernel_rfl
@[simp] theorem ty_zero1 : tZero Tryz.prog 1 = some [.f .nilF] := by kernel_rfl
@[simp] theorem ty_size2 : tSize Tryz.prog 2 = some 1 := by kernel_rfl
@[simp] theorem ty_agg2 : tAgg Tryz.prog 2 = some false := by kernel_rfl
@[simp] theorem ty_bytes2 : tBytes Tryz.prog 2 = some 8 := by kernel_rfl
@[simp] theorem ty_sort2 : tSort Tryz.prog 2 = 3 := by kernel_rfl
@[simp] theorem ty_zero2 : tZero Tryz.prog 2 = some [.f (.int .i64 0)] := by kernel_rfl
@[simp] theorem ty_size3 : tSize Tryz.prog 3 = some 1 := by kernel_rfl
@[simp] theorem ty_agg3 : tAgg Tryz.prog 3 = some false := by kernel_rfl
@[simp] theorem ty_bytes3 : tBytes Tryz.prog 3 = some 8 := by kernel_rfl
@[simp] theorem ty_sort3 : tSort Tryz.prog 3 = 3 := by kernel_rfl
@[simp] theorem ty_zero3 : tZero Tryz.prog 3 = some [.f (.int .i64 0)] := by kernel_rfl
@[simp] theorem ty_size4 : tSize Tryz.prog 4 = some 1 := by kernel_rfl
@[simp] theorem ty_agg4 : tAgg Tryz.prog 4 = some false := by kernel_rfl
@[simp] theorem ty_bytes4 : tBytes Tryz.prog 4 = some 1 := by kernel_rfl
@[simp] theorem ty_sort4 : tSort Tryz.prog 4 = 3 := by kernel_rfl
@[simp] theorem ty_bool4 : tBool Tryz.prog 4 = true := by kernel_rfl
@[simp] theorem ty_zero4 : tZero Tryz.prog 4 = some [.f (.bool false)] := by kernel_rfl
@[simp] theorem ty_size5 : tSize Tryz.prog 5 = some 1 := by kernel_rfl
@[simp] theorem ty_agg5 : tAgg Tryz.prog 5 = some false := by kernel_rfl
@[simp] theorem ty_bytes5 : tBytes Tryz.prog 5 = some 1 := by kernel_rfl
@[simp] theorem ty_sort5 : tSort Tryz.prog 5 = 3 := by kernel_rfl
@[simp] theorem ty_zero5 : tZero Tryz.prog 5 = some [.f (.int .u8 0)] := by kernel_rfl
@[simp] theorem ty_size8 : tSize Tryz.prog 8 = some 4 := by kernel_rfl
@[simp] theorem ty_agg8 : tAgg Tryz.prog 8 = some true := by kernel_rfl
@[simp] theorem ty_bytes8 : tBytes Tryz.prog 8 = some 24 := by kernel_rfl
@[simp] theorem ty_sort8 : tSort Tryz.prog 8 = 3 := by kernel_rfl
@[simp] theorem ty_zero8 : tZero Tryz.prog 8 = some [.f (.int .i64 0), .f (.int .i64 0), .f (.bool false), .f (.int .u8 0)] := by kernel_rfl
@[simp] theorem ty_size9 : tSize Tryz.prog 9 = some 1 := by kernel_rfl
@[simp] theorem ty_agg9 : tAgg Tryz.prog 9 = some false := by kernel_rfl
@[simp] theorem ty_bytes9 : tBytes Tryz.prog 9 = some 16 := by kernel_rfl
@[simp] theorem ty_sort9 : tSort Tryz.prog 9 = 3 := by kernel_rfl
@[simp] theorem ty_zero9 : tZero Tryz.prog 9 = some [.f (.str ⟨#[]⟩)] := by kernel_rfl
@[simp] theorem ty_size10 : tSize Tryz.prog 10 = some 1 := by kernel_rfl
@[simp] theorem ty_agg10 : tAgg Tryz.prog 10 = some false := by kernel_rfl
@[simp] theorem ty_bytes10 : tBytes Tryz.prog 10 = some 16 := by kernel_rfl
@[simp] theorem ty_sort10 : tSort Tryz.prog 10 = 3 := by kernel_rfl
@[simp] theorem ty_zero10 : tZero Tryz.prog 10 = some [.f (.str ⟨#[]⟩)] := by kernel_rfl
@[simp] theorem ty_size11 : tSize Tryz.prog 11 = some 1 := by kernel_rfl
@[simp] theorem ty_agg11 : tAgg Tryz.prog 11 = some false := by kernel_rfl
@[simp] theorem ty_bytes11 : tBytes Tryz.prog 11 = some 16 := by kernel_rfl
@[simp] theorem ty_sort11 : tSort Tryz.prog 11 = 3 := by kernel_rfl
@[simp] theorem ty_zero11 : tZero Tryz.prog 11 = some [.f (.str ⟨#[]⟩)] := by kernel_rfl
@[simp] theorem ty_size12 : tSize Tryz.prog 12 = some 1 := by kernel_rfl
@[simp] theorem ty_agg12 : tAgg Tryz.prog 12 = some false := by kernel_rfl
@[simp] theorem ty_bytes12 : tBytes Tryz.prog 12 = some 8 := by kernel_rfl
@[simp] theorem ty_sort12 : tSort Tryz.prog 12 = 3 := by kernel_rfl
@[simp] theorem ty_zero12 : tZero Tryz.prog 12 = some [.f (.int .u64 0)] := by kernel_rfl
@[simp] theorem ty_size13 : tSize Tryz.prog 13 = some 2 := by kernel_rfl
@[simp] theorem ty_agg13 : tAgg Tryz.prog 13 = some true := by kernel_rfl
@[simp] theorem ty_bytes13 : tBytes Tryz.prog 13 = some 24 := by kernel_rfl
@[simp] theorem ty_sort13 : tSort Tryz.prog 13 = 3 := by kernel_rfl
@[simp] theorem ty_zero13 : tZero Tryz.prog 13 = some [.f (.str ⟨#[]⟩), .f (.int .u64 0)] := by kernel_rfl
@[simp] theorem ty_size14 : tSize Tryz.prog 14 = some 2 := by kernel_rfl
@[simp] theorem ty_agg14 : tAgg Tryz.prog 14 = some true := by kernel_rfl
@[simp] theorem ty_bytes14 : tBytes Tryz.prog 14 = some 24 := by kernel_rfl
@[simp] theorem ty_sort14 : tSort Tryz.prog 14 = 3 := by kernel_rfl
@[simp] theorem ty_zero14 : tZero Tryz.prog 14 = some [.f (.str ⟨#[]⟩), .f (.int .u64 0)] := by kernel_rfl
@[simp] theorem ty_size15 : tSize Tryz.prog 15 = some 1 := by kernel_rfl
@[simp] theorem ty_agg15 : tAgg Tryz.prog 15 = some false := by kernel_rfl
@[simp] theorem ty_bytes15 : tBytes Tryz.prog 15 = some 8 := by kernel_rfl
@[simp] theorem ty_sort15 : tSort Tryz.prog 15 = 0 := by kernel_rfl
@[simp] theorem ty_zero15 : tZero Tryz.prog 15 = some [.f .nilP] := by kernel_rfl
@[simp] theorem ty_size16 : tSize Tryz.prog 16 = some 1 := by kernel_rfl
@[simp] theorem ty_agg16 : tAgg Tryz.prog 16 = some false := by kernel_rfl
@[simp] theorem ty_bytes16 : tBytes Tryz.prog 16 = some 8 := by kernel_rfl
@[simp] theorem ty_sort16 : tSort Tryz.prog 16 = 0 := by kernel_rfl
@[simp] theorem ty_zero16 : tZero Tryz.prog 16 = some [.f .nilP] := by kernel_rfl
@[simp] theorem ty_size21 : tSize Tryz.prog 21 = some 1 := by kernel_rfl
@[simp] theorem ty_agg21 : tAgg Tryz.prog 21 = some false := by kernel_rfl
@[simp] theorem ty_bytes21 : tBytes Tryz.prog 21 = some 4 := by kernel_rfl
@[simp] theorem ty_sort21 : tSort Tryz.prog 21 = 3 := by kernel_rfl
@[simp] theorem ty_zero21 : tZero Tryz.prog 21 = some [.f (.int .i32 0)] := by kernel_rfl
@[simp] theorem ty_size22 : tSize Tryz.prog 22 = some 1 := by kernel_rfl
@[simp] theorem ty_agg22 : tAgg Tryz.prog 22 = some false := by kernel_rfl
@[simp] theorem ty_bytes22 : tBytes Tryz.prog 22 = some 24 := by kernel_rfl
@[simp] theorem ty_elem22 : tElem Tryz.prog 22 = some 85 := by kernel_rfl
@[simp] theorem ty_sort22 : tSort Tryz.prog 22 = 1 := by kernel_rfl
@[simp] theorem ty_zero22 : tZero Tryz.prog 22 = some [.f .nilS] := by kernel_rfl
@[simp] theorem ty_size23 : tSize Tryz.prog 23 = some 1 := by kernel_rfl
@[simp] theorem ty_agg23 : tAgg Tryz.prog 23 = some false := by kernel_rfl
@[simp] theorem ty_bytes23 : tBytes Tryz.prog 23 = some 24 := by kernel_rfl
@[simp] theorem ty_elem23 : tElem Tryz.prog 23 = some 26 := by kernel_rfl
@[simp] theorem ty_sort23 : tSort Tryz.prog 23 = 1 := by kernel_rfl
@[simp] theorem ty_zero23 : tZero Tryz.prog 23 = some [.f .nilS] := by kernel_rfl
@[simp] theorem ty_size24 : tSize Tryz.prog 24 = some 2 := by kernel_rfl
@[simp] theorem ty_agg24 : tAgg Tryz.prog 24 = some true := by kernel_rfl
@[simp] theorem ty_bytes24 : tBytes Tryz.prog 24 = some 16 := by kernel_rfl
@[simp] theorem ty_sort24 : tSort Tryz.prog 24 = 3 := by kernel_rfl
@[simp] theorem ty_zero24 : tZero Tryz.prog 24 = some [.f (.int .i64 0), .f (.int .i64 0)] := by kernel_rfl
@[simp] theorem ty_size25 : tSize Tryz.prog 25 = some 2 := by kernel_rfl
@[simp] theorem ty_agg25 : tAgg Tryz.prog 25 = some true := by kernel_rfl
@[simp] theorem ty_bytes25 : tBytes Tryz.prog 25 = some 16 := by kernel_rfl
@[simp] theorem ty_sort25 : tSort Tryz.prog 25 = 3 := by kernel_rfl
@[simp] theorem ty_zero25 : tZero Tryz.prog 25 = some [.f (.int .i64 0), .f (.int .i64 0)] := by kernel_rfl
@[simp] theorem ty_size26 : tSize Tryz.prog 26 = some 1 := by kernel_rfl
@[simp] theorem ty_agg26 : tAgg Tryz.prog 26 = some false := by kernel_rfl
@[simp] theorem ty_bytes26 : tBytes Tryz.prog 26 = some 2 := by kernel_rfl
@[simp] theorem ty_sort26 : tSort Tryz.prog 26 = 3 := by kernel_rfl
@[simp] theorem ty_zero26 : tZero Tryz.prog 26 = some [.f (.int .u16 0)] := by kernel_rfl
@[simp] theorem ty_size27 : tSize Tryz.prog 27 = some 1 := by kernel_rfl
@[simp] theorem ty_agg27 : tAgg Tryz.prog 27 = some false := by kernel_rfl
@[simp] theorem ty_bytes27 : tBytes Tryz.prog 27 = some 24 := by kernel_rfl
@[simp] theorem ty_elem27 : tElem Tryz.prog 27 = some 45 := by kernel_rfl
@[simp] theorem ty_sort27 : tSort Tryz.prog 27 = 1 := by kernel_rfl
@[simp] theorem ty_zero27 : tZero Tryz.prog 27 = some [.f .nilS] := by kernel_rfl
@[simp] theorem ty_size28 : tSize Tryz.prog 28 = some 1 := by kernel_rfl
@[simp] theorem ty_agg28 : tAgg Tryz.prog 28 = some false := by kernel_rfl
@[simp] theorem ty_bytes28 : tBytes Tryz.prog 28 = some 8 := by kernel_rfl
@[simp] theorem ty_sort28 : tSort Tryz.prog 28 = 2 := by kernel_rfl
@[simp] theorem ty_zero28 : tZero Tryz.prog 28 = some [.f .nilF] := by kernel_rfl
@[simp] theorem ty_size29 : tSize Tryz.prog 29 = some 1 := by kernel_rfl
@[simp] theorem ty_agg29 : tAgg Tryz.prog 29 = some false := by kernel_rfl
@[simp] theorem ty_bytes29 : tBytes Tryz.prog 29 = some 8 := by kernel_rfl
@[simp] theorem ty_sort29 : tSort Tryz.prog 29 = 0 := by kernel_rfl
@[simp] theorem ty_zero29 : tZero Tryz.prog 29 = some [.f .nilP] := by kernel_rfl
@[simp] theorem ty_size30 : tSize Tryz.prog 30 = some 1 := by kernel_rfl
@[simp] theorem ty_agg30 : tAgg Tryz.prog 30 = some false := by kernel_rfl
@[simp] theorem ty_bytes30 : tBytes Tryz.prog 30 = some 8 := by kernel_rfl
@[simp] theorem ty_sort30 : tSort Tryz.prog 30 = 3 := by kernel_rfl
@[simp] theorem ty_zero30 : tZero Tryz.prog 30 = some [.f (.int .i64 0)] := by kernel_rfl
@[simp] theorem ty_size32 : tSize Tryz.prog 32 = some 1 := by kernel_rfl
@[simp] theorem ty_agg32 : tAgg Tryz.prog 32 = some false := by kernel_rfl
@[simp] theorem ty_bytes32 : tBytes Tryz.prog 32 = some 8 := by kernel_rfl
@[simp] theorem ty_sort32 : tSort Tryz.prog 32 = 2 := by kernel_rfl
@[simp] theorem ty_zero32 : tZero Tryz.prog 32 = some [.f .nilF] := by kernel_rfl
@[simp] theorem ty_size33 : tSize Tryz.prog 33 = some 1 := by kernel_rfl
@[simp] theorem ty_agg33 : tAgg Tryz.prog 33 = some false := by kernel_rfl
@[simp] theorem ty_bytes33 : tBytes Tryz.prog 33 = some 8 := by kernel_rfl
@[simp] theorem ty_sort33 : tSort Tryz.prog 33 = 2 := by kernel_rfl
@[simp] theorem ty_zero33 : tZero Tryz.prog 33 = some [.f .nilF] := by kernel_rfl
@[simp] theorem ty_size34 : tSize Tryz.prog 34 = some 1 := by kernel_rfl
@[simp] theorem ty_agg34 : tAgg Tryz.prog 34 = some false := by kernel_rfl
@[simp] theorem ty_bytes34 : tBytes Tryz.prog 34 = some 8 := by kernel_rfl
@[simp] theorem ty_sort34 : tSort Tryz.prog 34 = 2 := by kernel_rfl
@[simp] theorem ty_zero34 : tZero Tryz.prog 34 = some [.f .nilF] := by kernel_rfl
@[simp] theorem ty_size35 : tSize Tryz.prog 35 = some 1 := by kernel_rfl
@[simp] theorem ty_agg35 : tAgg Tryz.prog 35 = some false := by kernel_rfl
@[simp] theorem ty_bytes35 : tBytes Tryz.prog 35 = some 8 := by kernel_rfl
@[simp] theorem ty_sort35 : tSort Tryz.prog 35 = 2 := by kernel_rfl
@[simp] theorem ty_zero35 : tZero Tryz.prog 35 = some [.f .nilF] := by kernel_rfl
@[simp] theorem ty_size36 : tSize Tryz.prog 36 = some 1 := by kernel_rfl
@[simp] theorem ty_agg36 : tAgg Tryz.prog 36 = some false := by kernel_rfl
@[simp] theorem ty_bytes36 : tBytes Tryz.prog 36 = some 8 := by kernel_rfl
@[simp] theorem ty_sort36 : tSort Tryz.prog 36 = 0 := by kernel_rfl
@[simp] theorem ty_zero36 : tZero Tryz.prog 36 = some [.f .nilP] := by kernel_rfl
@[simp] theorem ty_size37 : tSize Tryz.prog 37 = some 1 := by kernel_rfl
@[simp] theorem ty_agg37 : tAgg Tryz.prog 37 = some false := by kernel_rfl
@[simp] theorem ty_bytes37 : tBytes Tryz.prog 37 = some 8 := by kernel_rfl
@[simp] theorem ty_sort37 : tSort Tryz.prog 37 = 2 := by kernel_rfl
@[simp] theorem ty_zero37 : tZero Tryz.prog 37 = some [.f .nilF] := by kernel_rfl
@[simp] theorem ty_size38 : tSize Tryz.prog 38 = some 1 := by kernel_rfl
@[simp] theorem ty_agg38 : tAgg Tryz.prog 38 = some false := by kernel_rfl
@[simp] theorem ty_bytes38 : tBytes Tryz.prog 38 = some 8 := by kernel_rfl
@[simp] theorem ty_sort38 : tSort Tryz.prog 38 = 2 := by kernel_rfl
@[simp] theorem ty_zero38 : tZero Tryz.prog 38 = some [.f .nilF] := by kernel_rfl
@[simp] theorem ty_size39 : tSize Tryz.prog 39 = some 1 := by kernel_rfl
@[simp] theorem ty_agg39 : tAgg Tryz.prog 39 = some false := by kernel_rfl
@[simp] theorem ty_bytes39 : tBytes Tryz.prog 39 = some 8 := by kernel_rfl
@[simp] theorem ty_sort39 : tSort Tryz.prog 39 = 2 := by kernel_rfl
@[simp] theorem ty_zero39 : tZero Tryz.prog 39 = some [.f .nilF] := by kernel_rfl
@[simp] theorem ty_size40 : tSize Tryz.prog 40 = some 1 := by kernel_rfl
@[simp] theorem ty_agg40 : tAgg Tryz.prog 40 = some false := by kernel_rfl
@[simp] theorem ty_bytes40 : tBytes Tryz.prog 40 = some 8 := by kernel_rfl
@[simp] theorem ty_sort40 : tSort Tryz.prog 40 = 2 := by kernel_rfl
@[simp] theorem ty_zero40 : tZero Tryz.prog 40 = some [.f .nilF] := by kernel_rfl
@[simp] theorem ty_size41 : tSize Tryz.prog 41 = some 1 := by kernel_rfl
@[simp] theorem ty_agg41 : tAgg Tryz.prog 41 = some false := by kernel_rfl
@[simp] theorem ty_bytes41 : tBytes Tryz.prog 41 = some 24 := by kernel_rfl
@[simp] theorem ty_elem41 : tElem Tryz.prog 41 = some 3 := by kernel_rfl
@[simp] theorem ty_sort41 : tSort Tryz.prog 41 = 1 := by kernel_rfl
@[simp] theorem ty_zero41 : tZero Tryz.prog 41 = some [.f .nilS] := by kernel_rfl
@[simp] theorem ty_size42 : tSize Tryz.prog 42 = some 1 := by kernel_rfl
@[simp] theorem ty_agg42 : tAgg Tryz.prog 42 = some false := by kernel_rfl
@[simp] theorem ty_bytes42 : tBytes Tryz.prog 42 = some 8 := by kernel_rfl
@[simp] theorem ty_sort42 : tSort Tryz.prog 42 = 2 := by kernel_rfl
@[simp] theorem ty_zero42 : tZero Tryz.prog 42 = some [.f .nilF] := by kernel_rfl
@[simp] theorem ty_size43 : tSize Tryz.prog 43 = some 1 := by kernel_rfl
@[simp] theorem ty_agg43 : tAgg Tryz.prog 43 = some false := by kernel_rfl
@[simp] theorem ty_bytes43 : tBytes Tryz.prog 43 = some 8 := by kernel_rfl
@[simp] theorem ty_sort43 : tSort Tryz.prog 43 = 3 := by kernel_rfl
@[simp] theorem ty_zero43 : tZero Tryz.prog 43 = some [.f (.int .u64 0)] := by kernel_rfl
@[simp] theorem ty_size44 : tSize Tryz.prog 44 = some 2 := by kernel_rfl
@[simp] theorem ty_agg44 : tAgg Tryz.prog 44 = some true := by kernel_rfl
@[simp] theorem ty_bytes44 : tBytes Tryz.prog 44 = some 16 := by kernel_rfl
@[simp] theorem ty_sort44 : tSort Tryz.prog 44 = 3 := by kernel_rfl
@[simp] theorem ty_zero44 : tZero Tryz.prog 44 = some [.f (.int .u64 0), .f (.int .u64 0)] := by kernel_rfl
@[simp] theorem ty_size45 : tSize Tryz.prog 45 = some 2 := by kernel_rfl
@[simp] theorem ty_agg45 : tAgg Tryz.prog 45 = some true := by kernel_rfl
@[simp] theorem ty_bytes45 : tBytes Tryz.prog 45 = some 16 := by kernel_rfl
@[simp] theorem ty_sort45 : tSort Tryz.prog 45 = 3 := by kernel_rfl
@[simp] theorem ty_zero45 : tZero Tryz.prog 45 = some [.f (.int .u64 0), .f (.int .u64 0)] := by kernel_rfl
@[simp] theorem ty_size46 : tSize Tryz.prog 46 = some 1 := by kernel_rfl
@[simp] theorem ty_agg46 : tAgg Tryz.prog 46 = some false := by kernel_rfl
@[simp] theorem ty_bytes46 : tBytes Tryz.prog 46 = some 8 := by kernel_rfl
@[simp] theorem ty_sort46 : tSort Tryz.prog 46 = 2 := by kernel_rfl
@[simp] theorem ty_zero46 : tZero Tryz.prog 46 = some [.f .nilF] := by kernel_rfl
@[simp] theorem ty_size47 : tSize Tryz.prog 47 = some 1 := by kernel_rfl
@[simp] theorem ty_agg47 : tAgg Tryz.prog 47 = some false := by kernel_rfl
@[simp] theorem ty_bytes47 : tBytes Tryz.prog 47 = some 24 := by kernel_rfl
@[simp] theorem ty_elem47 : tElem Tryz.prog 47 = some 43 := by kernel_rfl
@[simp] theorem ty_sort47 : tSort Tryz.prog 47 = 1 := by kernel_rfl
@[simp] theorem ty_zero47 : tZero Tryz.prog 47 = some [.f .nilS] := by kernel_rfl
@[simp] theorem ty_size48 : tSize Tryz.prog 48 = some 1 := by kernel_rfl
@[simp] theorem ty_agg48 : tAgg Tryz.prog 48 = some false := by kernel_rfl
@[simp] theorem ty_bytes48 : tBytes Tryz.prog 48 = some 24 := by kernel_rfl
@[simp] theorem ty_elem48 : tElem Tryz.prog 48 = some 51 := by kernel_rfl
@[simp] theorem ty_sort48 : tSort Tryz.prog 48 = 1 := by kernel_rfl
@[simp] theorem ty_zero48 : tZero Tryz.prog 48 = some [.f .nilS] := by kernel_rfl
@[simp] theorem ty_size49 : tSize Tryz.prog 49 = some 1 := by kernel_rfl
@[simp] theorem ty_agg49 : tAgg Tryz.prog 49 = some false := by kernel_rfl
@[simp] theorem ty_bytes49 : tBytes Tryz.prog 49 = some 8 := by kernel_rfl
@[simp] theorem ty_sort49 : tSort Tryz.prog 49 = 2 := by kernel_rfl
@[simp] theorem ty_zero49 : tZero Tryz.prog 49 = some [.f .nilF] := by kernel_rfl
@[simp] theorem ty_size50 : tSize Tryz.prog 50 = some 2 := by kernel_rfl
@[simp] theorem ty_agg50 : tAgg Tryz.prog 50 = some true := by kernel_rfl
@[simp] theorem ty_bytes50 : tBytes Tryz.prog 50 = some 32 := by kernel_rfl
@[simp] theorem ty_sort50 : tSort Tryz.prog 50 = 3 := by kernel_rfl
@[simp] theorem ty_zero50 : tZero Tryz.prog 50 = some [.f (.int .i64 0), .f .nilS] := by kernel_rfl
@[simp] theorem ty_size51 : tSize Tryz.prog 51 = some 2 := by kernel_rfl
@[simp] theorem ty_agg51 : tAgg Tryz.prog 51 = some true := by kernel_rfl
@[simp] theorem ty_bytes51 : tBytes Tryz.prog 51 = some 32 := by kernel_rfl
@[simp] theorem ty_sort51 : tSort Tryz.prog 51 = 3 := by kernel_rfl
@[simp] theorem ty_zero51 : tZero Tryz.prog 51 = some [.f (.int .i64 0), .f .nilS] := by kernel_rfl
@[simp] theorem ty_size52 : tSize Tryz.prog 52 = some 1 := by kernel_rfl
@[simp] theorem ty_agg52 : tAgg Tryz.prog 52 = some false := by kernel_rfl
@[simp] theorem ty_bytes52 : tBytes Tryz.prog 52 = some 8 := by kernel_rfl
@[simp] theorem ty_sort52 : tSort Tryz.prog 52 = 2 := by kernel_rfl
@[simp] theorem ty_zero52 : tZero Tryz.prog 52 = some [.f .nilF] := by kernel_rfl
@[simp] theorem ty_size53 : tSize Tryz.prog 53 = some 1 := by kernel_rfl
@[simp] theorem ty_agg53 : tAgg Tryz.prog 53 = some false := by kernel_rfl
@[simp] theorem ty_bytes53 : tBytes Tryz.prog 53 = some 8 := by kernel_rfl
@[simp] theorem ty_sort53 : tSort Tryz.prog 53 = 2 := by kernel_rfl
@[simp] theorem ty_zero53 : tZero Tryz.prog 53 = some [.f .nilF] := by kernel_rfl
@[simp] theorem ty_size54 : tSize Tryz.prog 54 = some 1 := by kernel_rfl
@[simp] theorem ty_agg54 : tAgg Tryz.prog 54 = some false := by kernel_rfl
@[simp] theorem ty_bytes54 : tBytes Tryz.prog 54 = some 8 := by kernel_rfl
@[simp] theorem ty_sort54 : tSort Tryz.prog 54 = 2 := by kernel_rfl
@[simp] theorem ty_zero54 : tZero Tryz.prog 54 = some [.f .nilF] := by kernel_rfl
@[simp] theorem ty_size55 : tSize Tryz.prog 55 = some 1 := by kernel_rfl
@[simp] theorem ty_agg55 : tAgg Tryz.prog 55 = some false := by kernel_rfl
@[simp] theorem ty_bytes55 : tBytes Tryz.prog 55 = some 8 := by kernel_rfl
@[simp] theorem ty_sort55 : tSort Tryz.prog 55 = 2 := by kernel_rfl
@[simp] theorem ty_zero55 : tZero Tryz.prog 55 = some [.f .nilF] := by kernel_rfl
@[simp] theorem ty_size56 : tSize Tryz.prog 56 = some 1 := by kernel_rfl
@[simp] theorem ty_agg56 : tAgg Tryz.prog 56 = some false := by kernel_rfl
@[simp] theorem ty_bytes56 : tBytes Tryz.prog 56 = some 8 := by kernel_rfl
@[simp] theorem ty_sort56 : tSort Tryz.prog 56 = 2 := by kernel_rfl
@[simp] theorem ty_zero56 : tZero Tryz.prog 56 = some [.f .nilF] := by kernel_rfl
@[simp] theorem ty_size57 : tSize Tryz.prog 57 = some 1 := by kernel_rfl
@[simp] theorem ty_agg57 : tAgg Tryz.prog 57 = some false := by kernel_rfl
@[simp] theorem ty_bytes57 : tBytes Tryz.prog 57 = some 8 := by kernel_rfl
@[simp] theorem ty_sort57 : tSort Tryz.prog 57 = 2 := by kernel_rfl
@[simp] theorem ty_zero57 : tZero Tryz.prog 57 = some [.f .nilF] := by kernel_rfl
@[simp] theorem ty_size58 : tSize Tryz.prog 58 = some 1 := by kernel_rfl
@[simp] theorem ty_agg58 : tAgg Tryz.prog 58 = some false := by kernel_rfl
@[simp] theorem ty_bytes58 : tBytes Tryz.prog 58 = some 8 := by kernel_rfl
@[simp] theorem ty_sort58 : tSort Tryz.prog 58 = 0 := by kernel_rfl
@[simp] theorem ty_zero58 : tZero Tryz.prog 58 = some [.f .nilP] := by kernel_rfl
@[simp] theorem ty_size59 : tSize Tryz.prog 59 = some 4 := by kernel_rfl
@[simp] theorem ty_agg59 : tAgg Tryz.prog 59 = some true := by kernel_rfl
@[simp] theorem ty_bytes59 : tBytes Tryz.prog 59 = some 48 := by kernel_rfl
@[simp] theorem ty_sort59 : tSort Tryz.prog 59 = 3 := by kernel_rfl
@[simp] theorem ty_zero59 : tZero Tryz.prog 59 = some [.f .nilP, .f (.int .i64 0), .f (.int .i64 0), .f .nilS] := by kernel_rfl
@[simp] theorem ty_size60 : tSize Tryz.prog 60 = some 4 := by kernel_rfl
@[simp] theorem ty_agg60 : tAgg Tryz.prog 60 = some true := by kernel_rfl
@[simp] theorem ty_bytes60 : tBytes Tryz.prog 60 = some 48 := by kernel_rfl
@[simp] theorem ty_sort60 : tSort Tryz.prog 60 = 3 := by kernel_rfl
@[simp] theorem ty_zero60 : tZero Tryz.prog 60 = some [.f .nilP, .f (.int .i64 0), .f (.int .i64 0), .f .nilS] := by kernel_rfl
@[simp] theorem ty_size61 : tSize Tryz.prog 61 = some 1 := by kernel_rfl
@[simp] theorem ty_agg61 : tAgg Tryz.prog 61 = some false := by kernel_rfl
@[simp] theorem ty_bytes61 : tBytes Tryz.prog 61 = some 8 := by kernel_rfl
@[simp] theorem ty_sort61 : tSort Tryz.prog 61 = 2 := by kernel_rfl
@[simp] theorem ty_zero61 : tZero Tryz.prog 61 = some [.f .nilF] := by kernel_rfl
@[simp] theorem ty_size62 : tSize Tryz.prog 62 = some 1 := by kernel_rfl
@[simp] theorem ty_agg62 : tAgg Tryz.prog 62 = some false := by kernel_rfl
@[simp] theorem ty_bytes62 : tBytes Tryz.prog 62 = some 8 := by kernel_rfl
@[simp] theorem ty_sort62 : tSort Tryz.prog 62 = 2 := by kernel_rfl
@[simp] theorem ty_zero62 : tZero Tryz.prog 62 = some [.f .nilF] := by kernel_rfl
@[simp] theorem ty_size63 : tSize Tryz.prog 63 = some 1 := by kernel_rfl
@[simp] theorem ty_agg63 : tAgg Tryz.prog 63 = some false := by kernel_rfl
@[simp] theorem ty_bytes63 : tBytes Tryz.prog 63 = some 24 := by kernel_rfl
@[simp] theorem ty_elem63 : tElem Tryz.prog 63 = some 47 := by kernel_rfl
@[simp] theorem ty_sort63 : tSort Tryz.prog 63 = 1 := by kernel_rfl
@[simp] theorem ty_zero63 : tZero Tryz.prog 63 = some [.f .nilS] := by kernel_rfl
@[simp] theorem ty_size64 : tSize Tryz.prog 64 = some 1 := by kernel_rfl
@[simp] theorem ty_agg64 : tAgg Tryz.prog 64 = some false := by kernel_rfl
@[simp] theorem ty_bytes64 : tBytes Tryz.prog 64 = some 24 := by kernel_rfl
@[simp] theorem ty_elem64 : tElem Tryz.prog 64 = some 66 := by kernel_rfl
@[simp] theorem ty_sort64 : tSort Tryz.prog 64 = 1 := by kernel_rfl
@[simp] theorem ty_zero64 : tZero Tryz.prog 64 = some [.f .nilS] := by kernel_rfl
@[simp] theorem ty_size65 : tSize Tryz.prog 65 = some 1 := by kernel_rfl
@[simp] theorem ty_agg65 : tAgg Tryz.prog 65 = some false := by kernel_rfl
@[simp] theorem ty_bytes65 : tBytes Tryz.prog 65 = some 8 := by kernel_rfl
@[simp] theorem ty_sort65 : tSort Tryz.prog 65 = 2 := by kernel_rfl
@[simp] theorem ty_zero65 : tZero Tryz.prog 65 = some [.f .nilF] := by kernel_rfl
@[simp] theorem ty_size66 : tSize Tryz.prog 66 = some 1 := by kernel_rfl
@[simp] theorem ty_agg66 : tAgg Tryz.prog 66 = some false := by kernel_rfl
@[simp] theorem ty_bytes66 : tBytes Tryz.prog 66 = some 24 := by kernel_rfl
@[simp] theorem ty_elem66 : tElem Tryz.prog 66 = some 4 := by kernel_rfl
@[simp] theorem ty_sort66 : tSort Tryz.prog 66 = 1 := by kernel_rfl
@[simp] theorem ty_zero66 : tZero Tryz.prog 66 = some [.f .nilS] := by kernel_rfl
@[simp] theorem ty_size67 : tSize Tryz.prog 67 = some 1 := by kernel_rfl
@[simp] theorem ty_agg67 : tAgg Tryz.prog 67 = some false := by kernel_rfl
@[simp] theorem ty_bytes67 : tBytes Tryz.prog 67 = some 8 := by kernel_rfl
@[simp] theorem ty_sort67 : tSort Tryz.prog 67 = 2 := by kernel_rfl
@[simp] theorem ty_zero67 : tZero Tryz.prog 67 = some [.f .nilF] := by kernel_rfl
@[simp] theorem ty_size68 : tSize Tryz.prog 68 = some 1 := by kernel_rfl
@[simp] theorem ty_agg68 : tAgg Tryz.prog 68 = some false := by kernel_rfl
@[simp] theorem ty_bytes68 : tBytes Tryz.prog 68 = some 8 := by kernel_rfl
@[simp] theorem ty_sort68 : tSort Tryz.prog 68 = 2 := by kernel_rfl
@[simp] theorem ty_zero68 : tZero Tryz.prog 68 = some [.f .nilF] := by kernel_rfl
@[simp] theorem ty_size69 : tSize Tryz.prog 69 = some 2 := by kernel_rfl
@[simp] theorem ty_agg69 : tAgg Tryz.prog 69 = some true := by kernel_rfl
@[simp] theorem ty_bytes69 : tBytes Tryz.prog 69 = some 48 := by kernel_rfl
@[simp] theorem ty_sort69 : tSort Tryz.prog 69 = 3 := by kernel_rfl
@[simp] theorem ty_zero69 : tZero Tryz.prog 69 = some [.f .nilS, .f .nilS] := by kernel_rfl
@[simp] theorem ty_size70 : tSize Tryz.prog 70 = some 1 := by kernel_rfl
@[simp] theorem ty_agg70 : tAgg Tryz.prog 70 = some false := by kernel_rfl
@[simp] theorem ty_bytes70 : tBytes Tryz.prog 70 = some 8 := by kernel_rfl
@[simp] theorem ty_sort70 : tSort Tryz.prog 70 = 2 := by kernel_rfl
@[simp] theorem ty_zero70 : tZero Tryz.prog 70 = some [.f .nilF] := by kernel_rfl
@[simp] theorem ty_size71 : tSize Tryz.prog 71 = some 1 := by kernel_rfl
@[simp] theorem ty_agg71 : tAgg Tryz.prog 71 = some false := by kernel_rfl
@[simp] theorem ty_bytes71 : tBytes Tryz.prog 71 = some 8 := by kernel_rfl
@[simp] theorem ty_sort71 : tSort Tryz.prog 71 = 2 := by kernel_rfl
@[simp] theorem ty_zero71 : tZero Tryz.prog 71 = some [.f .nilF] := by kernel_rfl
@[simp] theorem ty_size72 : tSize Tryz.prog 72 = some 1 := by kernel_rfl
@[simp] theorem ty_agg72 : tAgg Tryz.prog 72 = some false := by kernel_rfl
@[simp] theorem ty_bytes72 : tBytes Tryz.prog 72 = some 24 := by kernel_rfl
@[simp] theorem ty_elem72 : tElem Tryz.prog 72 = some 9 := by kernel_rfl
@[simp] theorem ty_sort72 : tSort Tryz.prog 72 = 1 := by kernel_rfl
@[simp] theorem ty_zero72 : tZero Tryz.prog 72 = some [.f .nilS] := by kernel_rfl
@[simp] theorem ty_size73 : tSize Tryz.prog 73 = some 1 := by kernel_rfl
@[simp] theorem ty_agg73 : tAgg Tryz.prog 73 = some false := by kernel_rfl
@[simp] theorem ty_bytes73 : tBytes Tryz.prog 73 = some 8 := by kernel_rfl
@[simp] theorem ty_sort73 : tSort Tryz.prog 73 = 2 := by kernel_rfl
@[simp] theorem ty_zero73 : tZero Tryz.prog 73 = some [.f .nilF] := by kernel_rfl
@[simp] theorem ty_size74 : tSize Tryz.prog 74 = some 1 := by kernel_rfl
@[simp] theorem ty_agg74 : tAgg Tryz.prog 74 = some false := by kernel_rfl
@[simp] theorem ty_bytes74 : tBytes Tryz.prog 74 = some 8 := by kernel_rfl
@[simp] theorem ty_sort74 : tSort Tryz.prog 74 = 2 := by kernel_rfl
@[simp] theorem ty_zero74 : tZero Tryz.prog 74 = some [.f .nilF] := by kernel_rfl
@[simp] theorem ty_size75 : tSize Tryz.prog 75 = some 1 := by kernel_rfl
@[simp] theorem ty_agg75 : tAgg Tryz.prog 75 = some false := by kernel_rfl
@[simp] theorem ty_bytes75 : tBytes Tryz.prog 75 = some 8 := by kernel_rfl
@[simp] theorem ty_sort75 : tSort Tryz.prog 75 = 2 := by kernel_rfl
@[simp] theorem ty_zero75 : tZero Tryz.prog 75 = some [.f .nilF] := by kernel_rfl
@[simp] theorem ty_size76 : tSize Tryz.prog 76 = some 1 := by kernel_rfl
@[simp] theorem ty_agg76 : tAgg Tryz.prog 76 = some false := by kernel_rfl
@[simp] theorem ty_bytes76 : tBytes Tryz.prog 76 = some 8 := by kernel_rfl
@[simp] theorem ty_sort76 : tSort Tryz.prog 76 = 2 := by kernel_rfl
@[simp] theorem ty_zero76 : tZero Tryz.prog 76 = some [.f .nilF] := by kernel_rfl
@[simp] theorem ty_size77 : tSize Tryz.prog 77 = some 1 := by kernel_rfl
@[simp] theorem ty_agg77 : tAgg Tryz.prog 77 = some false := by kernel_rfl
@[simp] theorem ty_bytes77 : tBytes Tryz.prog 77 = some 24 := by kernel_rfl
@[simp] theorem ty_elem77 : tElem Tryz.prog 77 = some 131 := by kernel_rfl
@[simp] theorem ty_sort77 : tSort Tryz.prog 77 = 1 := by kernel_rfl
@[simp] theorem ty_zero77 : tZero Tryz.prog 77 = some [.f .nilS] := by kernel_rfl
@[simp] theorem ty_size78 : tSize Tryz.prog 78 = some 2 := by kernel_rfl
@[simp] theorem ty_agg78 : tAgg Tryz.prog 78 = some true := by kernel_rfl
@[simp] theorem ty_bytes78 : tBytes Tryz.prog 78 = some 48 := by kernel_rfl
@[simp] theorem ty_sort78 : tSort Tryz.prog 78 = 3 := by kernel_rfl
@[simp] theorem ty_zero78 : tZero Tryz.prog 78 = some [.f .nilS, .f .nilS] := by kernel_rfl
@[simp] theorem ty_size79 : tSize Tryz.prog 79 = some 2 := by kernel_rfl
@[simp] theorem ty_agg79 : tAgg Tryz.prog 79 = some true := by kernel_rfl
@[simp] theorem ty_bytes79 : tBytes Tryz.prog 79 = some 48 := by kernel_rfl
@[simp] theorem ty_sort79 : tSort Tryz.prog 79 = 3 := by kernel_rfl
@[simp] theorem ty_zero79 : tZero Tryz.prog 79 = some [.f .nilS, .f .nilS] := by kernel_rfl
@[simp] theorem ty_size80 : tSize Tryz.prog 80 = some 1 := by kernel_rfl
@[simp] theorem ty_agg80 : tAgg Tryz.prog 80 = some false := by kernel_rfl
@[simp] theorem ty_bytes80 : tBytes Tryz.prog 80 = some 8 := by kernel_rfl
@[simp] theorem ty_sort80 : tSort Tryz.prog 80 = 2 := by kernel_rfl
@[simp] theorem ty_zero80 : tZero Tryz.prog 80 = some [.f .nilF] := by kernel_rfl
@[simp] theorem ty_size81 : tSize Tryz.prog 81 = some 1 := by kernel_rfl
@[simp] theorem ty_agg81 : tAgg Tryz.prog 81 = some false := by kernel_rfl
@[simp] theorem ty_bytes81 : tBytes Tryz.prog 81 = some 8 := by kernel_rfl
@[simp] theorem ty_sort81 : tSort Tryz.prog 81 = 2 := by kernel_rfl
@[simp] theorem ty_zero81 : tZero Tryz.prog 81 = some [.f .nilF] := by kernel_rfl
@[simp] theorem ty_size82 : tSize Tryz.prog 82 = some 1 := by kernel_rfl
@[simp] theorem ty_agg82 : tAgg Tryz.prog 82 = some false := by kernel_rfl
@[simp] theorem ty_bytes82 : tBytes Tryz.prog 82 = some 8 := by kernel_rfl
@[simp] theorem ty_sort82 : tSort Tryz.prog 82 = 2 := by kernel_rfl
@[simp] theorem ty_zero82 : tZero Tryz.prog 82 = some [.f .nilF] := by kernel_rfl
@[simp] theorem ty_size83 : tSize Tryz.prog 83 = some 1 := by kernel_rfl
@[simp] theorem ty_agg83 : tAgg Tryz.prog 83 = some false := by kernel_rfl
@[simp] theorem ty_bytes83 : tBytes Tryz.prog 83 = some 8 := by kernel_rfl
@[simp] theorem ty_sort83 : tSort Tryz.prog 83 = 2 := by kernel_rfl
@[simp] theorem ty_zero83 : tZero Tryz.prog 83 = some [.f .nilF] := by kernel_rfl
@[simp] theorem ty_size84 : tSize Tryz.prog 84 = some 5 := by kernel_rfl
@[simp] theorem ty_agg84 : tAgg Tryz.prog 84 = some true := by kernel_rfl
@[simp] theorem ty_bytes84 : tBytes Tryz.prog 84 = some 64 := by kernel_rfl
@[simp] theorem ty_sort84 : tSort Tryz.prog 84 = 3 := by kernel_rfl
@[simp] theorem ty_zero84 : tZero Tryz.prog 84 = some [.f (.int .i64 0), .f (.str ⟨#[]⟩), .f (.int .i64 0), .f (.int .i64 0), .f .nilS] := by kernel_rfl
@[simp] theorem ty_size85 : tSize Tryz.prog 85 = some 5 := by kernel_rfl
@[simp] theorem ty_agg85 : tAgg Tryz.prog 85 = some true := by kernel_rfl
@[simp] theorem ty_bytes85 : tBytes Tryz.prog 85 = some 64 := by kernel_rfl
@[simp] theorem ty_sort85 : tSort Tryz.prog 85 = 3 := by kernel_rfl
@[simp] theorem ty_zero85 : tZero Tryz.prog 85 = some [.f (.int .i64 0), .f (.str ⟨#[]⟩), .f (.int .i64 0), .f (.int .i64 0), .f .nilS] := by kernel_rfl
@[simp] theorem ty_size86 : tSize Tryz.prog 86 = some 1 := by kernel_rfl
@[simp] theorem ty_agg86 : tAgg Tryz.prog 86 = some false := by kernel_rfl
@[simp] theorem ty_bytes86 : tBytes Tryz.prog 86 = some 8 := by kernel_rfl
@[simp] theorem ty_sort86 : tSort Tryz.prog 86 = 0 := by kernel_rfl
@[simp] theorem ty_zero86 : tZero Tryz.prog 86 = some [.f .nilP] := by kernel_rfl
@[simp] theorem ty_size88 : tSize Tryz.prog 88 = some 1 := by kernel_rfl
@[simp] theorem ty_agg88 : tAgg Tryz.prog 88 = some false := by kernel_rfl
@[simp] theorem ty_bytes88 : tBytes Tryz.prog 88 = some 8 := by kernel_rfl
@[simp] theorem ty_sort88 : tSort Tryz.prog 88 = 2 := by kernel_rfl
@[simp] theorem ty_zero88 : tZero Tryz.prog 88 = some [.f .nilF] := by kernel_rfl
@[simp] theorem ty_size89 : tSize Tryz.prog 89 = some 4 := by kernel_rfl
@[simp] theorem ty_agg89 : tAgg Tryz.prog 89 = some true := by kernel_rfl
@[simp] theorem ty_bytes89 : tBytes Tryz.prog 89 = some 48 := by kernel_rfl
@[simp] theorem ty_sort89 : tSort Tryz.prog 89 = 3 := by kernel_rfl
@[simp] theorem ty_zero89 : tZero Tryz.prog 89 = some [.f (.int .i64 0), .f (.int .i64 0), .f .nilP, .f .nilS] := by kernel_rfl
@[simp] theorem ty_size90 : tSize Tryz.prog 90 = some 4 := by kernel_rfl
@[simp] theorem ty_agg90 : tAgg Tryz.prog 90 = some true := by kernel_rfl
@[simp] theorem ty_bytes90 : tBytes Tryz.prog 90 = some 48 := by kernel_rfl
@[simp] theorem ty_sort90 : tSort Tryz.prog 90 = 3 := by kernel_rfl
@[simp] theorem ty_zero90 : tZero Tryz.prog 90 = some [.f (.int .i64 0), .f (.int .i64 0), .f .nilP, .f .nilS] := by kernel_rfl
@[simp] theorem ty_size91 : tSize Tryz.prog 91 = some 1 := by kernel_rfl
@[simp] theorem ty_agg91 : tAgg Tryz.prog 91 = some false := by kernel_rfl
@[simp] theorem ty_bytes91 : tBytes Tryz.prog 91 = some 8 := by kernel_rfl
@[simp] theorem ty_sort91 : tSort Tryz.prog 91 = 2 := by kernel_rfl
@[simp] theorem ty_zero91 : tZero Tryz.prog 91 = some [.f .nilF] := by kernel_rfl
@[simp] theorem ty_size92 : tSize Tryz.prog 92 = some 1 := by kernel_rfl
@[simp] theorem ty_agg92 : tAgg Tryz.prog 92 = some false := by kernel_rfl
@[simp] theorem ty_bytes92 : tBytes Tryz.prog 92 = some 8 := by kernel_rfl
@[simp] theorem ty_sort92 : tSort Tryz.prog 92 = 2 := by kernel_rfl
@[simp] theorem ty_zero92 : tZero Tryz.prog 92 = some [.f .nilF] := by kernel_rfl
@[simp] theorem ty_size93 : tSize Tryz.prog 93 = some 1 := by kernel_rfl
@[simp] theorem ty_agg93 : tAgg Tryz.prog 93 = some false := by kernel_rfl
@[simp] theorem ty_bytes93 : tBytes Tryz.prog 93 = some 8 := by kernel_rfl
@[simp] theorem ty_sort93 : tSort Tryz.prog 93 = 0 := by kernel_rfl
@[simp] theorem ty_zero93 : tZero Tryz.prog 93 = some [.f .nilP] := by kernel_rfl
@[simp] theorem ty_size94 : tSize Tryz.prog 94 = some 3 := by kernel_rfl
@[simp] theorem ty_agg94 : tAgg Tryz.prog 94 = some true := by kernel_rfl
@[simp] theorem ty_bytes94 : tBytes Tryz.prog 94 = some 40 := by kernel_rfl
@[simp] theorem ty_sort94 : tSort Tryz.prog 94 = 3 := by kernel_rfl
@[simp] theorem ty_zero94 : tZero Tryz.prog 94 = some [.f .nilS, .f .nilP, .f (.int .i64 0)] := by kernel_rfl
@[simp] theorem ty_size95 : tSize Tryz.prog 95 = some 3 := by kernel_rfl
@[simp] theorem ty_agg95 : tAgg Tryz.prog 95 = some true := by kernel_rfl
@[simp] theorem ty_bytes95 : tBytes Tryz.prog 95 = some 40 := by kernel_rfl
@[simp] theorem ty_sort95 : tSort Tryz.prog 95 = 3 := by kernel_rfl
@[simp] theorem ty_zero95 : tZero Tryz.prog 95 = some [.f .nilS, .f .nilP, .f (.int .i64 0)] := by kernel_rfl
@[simp] theorem ty_size96 : tSize Tryz.prog 96 = some 1 := by kernel_rfl
@[simp] theorem ty_agg96 : tAgg Tryz.prog 96 = some false := by kernel_rfl
@[simp] theorem ty_bytes96 : tBytes Tryz.prog 96 = some 8 := by kernel_rfl
@[simp] theorem ty_sort96 : tSort Tryz.prog 96 = 2 := by kernel_rfl
@[simp] theorem ty_zero96 : tZero Tryz.prog 96 = some [.f .nilF] := by kernel_rfl
@[simp] theorem ty_size97 : tSize Tryz.prog 97 = some 1 := by kernel_rfl
@[simp] theorem ty_agg97 : tAgg Tryz.prog 97 = some false := by kernel_rfl
@[simp] theorem ty_bytes97 : tBytes Tryz.prog 97 = some 24 := by kernel_rfl
@[simp] theorem ty_elem97 : tElem Tryz.prog 97 = some 22 := by kernel_rfl
@[simp] theorem ty_sort97 : tSort Tryz.prog 97 = 1 := by kernel_rfl
@[simp] theorem ty_zero97 : tZero Tryz.prog 97 = some [.f .nilS] := by kernel_rfl
@[simp] theorem ty_size98 : tSize Tryz.prog 98 = some 2 := by kernel_rfl
@[simp] theorem ty_agg98 : tAgg Tryz.prog 98 = some true := by kernel_rfl
@[simp] theorem ty_bytes98 : tBytes Tryz.prog 98 = some 48 := by kernel_rfl
@[simp] theorem ty_sort98 : tSort Tryz.prog 98 = 3 := by kernel_rfl
@[simp] theorem ty_zero98 : tZero Tryz.prog 98 = some [.f .nilS, .f .nilS] := by kernel_rfl
@[simp] theorem ty_size99 : tSize Tryz.prog 99 = some 2 := by kernel_rfl
@[simp] theorem ty_agg99 : tAgg Tryz.prog 99 = some true := by kernel_rfl
@[simp] theorem ty_bytes99 : tBytes Tryz.prog 99 = some 48 := by kernel_rfl
@[simp] theorem ty_sort99 : tSort Tryz.prog 99 = 3 := by kernel_rfl
@[simp] theorem ty_zero99 : tZero Tryz.prog 99 = some [.f .nilS, .f .nilS] := by kernel_rfl
@[simp] theorem ty_size100 : tSize Tryz.prog 100 = some 1 := by kernel_rfl
@[simp] theorem ty_agg100 : tAgg Tryz.prog 100 = some false := by kernel_rfl
@[simp] theorem ty_bytes100 : tBytes Tryz.prog 100 = some 8 := by kernel_rfl
@[simp] theorem ty_sort100 : tSort Tryz.prog 100 = 2 := by kernel_rfl
@[simp] theorem ty_zero100 : tZero Tryz.prog 100 = some [.f .nilF] := by kernel_rfl
@[simp] theorem ty_size101 : tSize Tryz.prog 101 = some 1 := by kernel_rfl
@[simp] theorem ty_agg101 : tAgg Tryz.prog 101 = some false := by kernel_rfl
@[simp] theorem ty_bytes101 : tBytes Tryz.prog 101 = some 8 := by kernel_rfl
@[simp] theorem ty_sort101 : tSort Tryz.prog 101 = 2 := by kernel_rfl
@[simp] theorem ty_zero101 : tZero Tryz.prog 101 = some [.f .nilF] := by kernel_rfl
@[simp] theorem ty_size102 : tSize Tryz.prog 102 = some 1 := by kernel_rfl
@[simp] theorem ty_agg102 : tAgg Tryz.prog 102 = some false := by kernel_rfl
@[simp] theorem ty_bytes102 : tBytes Tryz.prog 102 = some 8 := by kernel_rfl
@[simp] theorem ty_sort102 : tSort Tryz.prog 102 = 2 := by kernel_rfl
@[simp] theorem ty_zero102 : tZero Tryz.prog 102 = some [.f .nilF] := by kernel_rfl
@[simp] theorem ty_size103 : tSize Tryz.prog 103 = some 1 := by kernel_rfl
@[simp] theorem ty_agg103 : tAgg Tryz.prog 103 = some false := by kernel_rfl
@[simp] theorem ty_bytes103 : tBytes Tryz.prog 103 = some 8 := by kernel_rfl
@[simp] theorem ty_sort103 : tSort Tryz.prog 103 = 2 := by kernel_rfl
@[simp] theorem ty_zero103 : tZero Tryz.prog 103 = some [.f .nilF] := by kernel_rfl
@[simp] theorem ty_size104 : tSize Tryz.prog 104 = some 1 := by kernel_rfl
@[simp] theorem ty_agg104 : tAgg Tryz.prog 104 = some false := by kernel_rfl
@[simp] theorem ty_bytes104 : tBytes Tryz.prog 104 = some 8 := by kernel_rfl
@[simp] theorem ty_sort104 : tSort Tryz.prog 104 = 2 := by kernel_rfl
@[simp] theorem ty_zero104 : tZero Tryz.prog 104 = some [.f .nilF] := by kernel_rfl
@[simp] theorem ty_size105 : tSize Tryz.prog 105 = some 2 := by kernel_rfl
@[simp] theorem ty_agg105 : tAgg Tryz.prog 105 = some true := by kernel_rfl
@[simp] theorem ty_bytes105 : tBytes Tryz.prog 105 = some 32 := by kernel_rfl
@[simp] theorem ty_sort105 : tSort Tryz.prog 105 = 3 := by kernel_rfl
@[simp] theorem ty_zero105 : tZero Tryz.prog 105 = some [.f .nilS, .f (.bool false)] := by kernel_rfl
@[simp] theorem ty_size106 : tSize Tryz.prog 106 = some 2 := by kernel_rfl
@[simp] theorem ty_agg106 : tAgg Tryz.prog 106 = some true := by kernel_rfl
@[simp] theorem ty_bytes106 : tBytes Tryz.prog 106 = some 32 := by kernel_rfl
@[simp] theorem ty_sort106 : tSort Tryz.prog 106 = 3 := by kernel_rfl
@[simp] theorem ty_zero106 : tZero Tryz.prog 106 = some [.f .nilS, .f (.bool false)] := by kernel_rfl
@[simp] theorem ty_size107 : tSize Tryz.prog 107 = some 1 := by kernel_rfl
@[simp] theorem ty_agg107 : tAgg Tryz.prog 107 = some false := by kernel_rfl
@[simp] theorem ty_bytes107 : tBytes Tryz.prog 107 = some 8 := by kernel_rfl
@[simp] theorem ty_sort107 : tSort Tryz.prog 107 = 2 := by kernel_rfl
@[simp] theorem ty_zero107 : tZero Tryz.prog 107 = some [.f .nilF] := by kernel_rfl
@[simp] theorem ty_size108 : tSize Tryz.prog 108 = some 1 := by kernel_rfl
@[simp] theorem ty_agg108 : tAgg Tryz.prog 108 = some false := by kernel_rfl
@[simp] theorem ty_bytes108 : tBytes Tryz.prog 108 = some 8 := by kernel_rfl
@[simp] theorem ty_sort108 : tSort Tryz.prog 108 = 2 := by kernel_rfl
@[simp] theorem ty_zero108 : tZero Tryz.prog 108 = some [.f .nilF] := by kernel_rfl
@[simp] theorem ty_size109 : tSize Tryz.prog 109 = some 1 := by kernel_rfl
@[simp] theorem ty_agg109 : tAgg Tryz.prog 109 = some false := by kernel_rfl
@[simp] theorem ty_bytes109 : tBytes Tryz.prog 109 = some 8 := by kernel_rfl
@[simp] theorem ty_sort109 : tSort Tryz.prog 109 = 3 := by kernel_rfl
@[simp] theorem ty_zero109 : tZero Tryz.prog 109 = some [.f (.int .u64 0)] := by kernel_rfl
@[simp] theorem ty_size110 : tSize Tryz.prog 110 = some 1 := by kernel_rfl
@[simp] theorem ty_agg110 : tAgg Tryz.prog 110 = some false := by kernel_rfl
@[simp] theorem ty_bytes110 : tBytes Tryz.prog 110 = some 8 := by kernel_rfl
@[simp] theorem ty_sort110 : tSort Tryz.prog 110 = 2 := by kernel_rfl
@[simp] theorem ty_zero110 : tZero Tryz.prog 110 = some [.f .nilF] := by kernel_rfl
@[simp] theorem ty_size111 : tSize Tryz.prog 111 = some 1 := by kernel_rfl
@[simp] theorem ty_agg111 : tAgg Tryz.prog 111 = some false := by kernel_rfl
@[simp] theorem ty_bytes111 : tBytes Tryz.prog 111 = some 8 := by kernel_rfl
@[simp] theorem ty_sort111 : tSort Tryz.prog 111 = 2 := by kernel_rfl
@[simp] theorem ty_zero111 : tZero Tryz.prog 111 = some [.f .nilF] := by kernel_rfl
@[simp] theorem ty_size112 : tSize Tryz.prog 112 = some 1 := by kernel_rfl
@[simp] theorem ty_agg112 : tAgg Tryz.prog 112 = some false := by kernel_rfl
@[simp] theorem ty_bytes112 : tBytes Tryz.prog 112 = some 8 := by kernel_rfl
@[simp] theorem ty_sort112 : tSort Tryz.prog 112 = 2 := by kernel_rfl
@[simp] theorem ty_zero112 : tZero Tryz.prog 112 = some [.f .nilF] := by kernel_rfl
@[simp] theorem ty_size113 : tSize Tryz.prog 113 = some 1 := by kernel_rfl
@[simp] theorem ty_agg113 : tAgg Tryz.prog 113 = some false := by kernel_rfl
@[simp] theorem ty_bytes113 : tBytes Tryz.prog 113 = some 24 := by kernel_rfl
@[simp] theorem ty_elem113 : tElem Tryz.prog 113 = some 114 := by kernel_rfl
@[simp] theorem ty_sort113 : tSort Tryz.prog 113 = 1 := by kernel_rfl
@[simp] theorem ty_zero113 : tZero Tryz.prog 113 = some [.f .nilS] := by kernel_rfl
@[simp] theorem ty_size114 : tSize Tryz.prog 114 = some 1 := by kernel_rfl
@[simp] theorem ty_agg114 : tAgg Tryz.prog 114 = some false := by kernel_rfl
@[simp] theorem ty_bytes114 : tBytes Tryz.prog 114 = some 24 := by kernel_rfl
@[simp] theorem ty_elem114 : tElem Tryz.prog 114 = some 66 := by kernel_rfl
@[simp] theorem ty_sort114 : tSort Tryz.prog 114 = 1 := by kernel_rfl
@[simp] theorem ty_zero114 : tZero Tryz.prog 114 = some [.f .nilS] := by kernel_rfl
@[simp] theorem ty_size115 : tSize Tryz.prog 115 = some 1 := by kernel_rfl
@[simp] theorem ty_agg115 : tAgg Tryz.prog 115 = some false := by kernel_rfl
@[simp] theorem ty_bytes115 : tBytes Tryz.prog 115 = some 8 := by kernel_rfl
@[simp] theorem ty_sort115 : tSort Tryz.prog 115 = 2 := by kernel_rfl
@[simp] theorem ty_zero115 : tZero Tryz.prog 115 = some [.f .nilF] := by kernel_rfl
@[simp] theorem ty_size116 : tSize Tryz.prog 116 = some 1 := by kernel_rfl
@[simp] theorem ty_agg116 : tAgg Tryz.prog 116 = some false := by kernel_rfl
@[simp] theorem ty_bytes116 : tBytes Tryz.prog 116 = some 8 := by kernel_rfl
@[simp] theorem ty_sort116 : tSort Tryz.prog 116 = 2 := by kernel_rfl
@[simp] theorem ty_zero116 : tZero Tryz.prog 116 = some [.f .nilF] := by kernel_rfl
@[simp] theorem ty_size117 : tSize Tryz.prog 117 = some 1 := by kernel_rfl
@[simp] theorem ty_agg117 : tAgg Tryz.prog 117 = some false := by kernel_rfl
@[simp] theorem ty_bytes117 : tBytes Tryz.prog 117 = some 8 := by kernel_rfl
@[simp] theorem ty_sort117 : tSort Tryz.prog 117 = 2 := by kernel_rfl
@[simp] theorem ty_zero117 : tZero Tryz.prog 117 = some [.f .nilF] := by kernel_rfl
@[simp] theorem ty_size118 : tSize Tryz.prog 118 = some 1 := by kernel_rfl
@[simp] theorem ty_agg118 : tAgg Tryz.prog 118 = some false := by kernel_rfl
@[simp] theorem ty_bytes118 : tBytes Tryz.prog 118 = some 8 := by kernel_rfl
@[simp] theorem ty_sort118 : tSort Tryz.prog 118 = 2 := by kernel_rfl
@[simp] theorem ty_zero118 : tZero Tryz.prog 118 = some [.f .nilF] := by kernel_rfl
@[simp] theorem ty_size119 : tSize Tryz.prog 119 = some 1 := by kernel_rfl
@[simp] theorem ty_agg119 : tAgg Tryz.prog 119 = some false := by kernel_rfl
@[simp] theorem ty_bytes119 : tBytes Tryz.prog 119 = some 8 := by kernel_rfl
@[simp] theorem ty_sort119 : tSort Tryz.prog 119 = 2 := by kernel_rfl
@[simp] theorem ty_zero119 : tZero Tryz.prog 119 = some [.f .nilF] := by kernel_rfl
@[simp] theorem ty_size120 : tSize Tryz.prog 120 = some 1 := by kernel_rfl
@[simp] theorem ty_agg120 : tAgg Tryz.prog 120 = some false := by kernel_rfl
@[simp] theorem ty_bytes120 : tBytes Tryz.prog 120 = some 8 := by kernel_rfl
@[simp] theorem ty_sort120 : tSort Tryz.prog 120 = 2 := by kernel_rfl
@[simp] theorem ty_zero120 : tZero Tryz.prog 120 = some [.f .nilF] := by kernel_rfl
@[simp] theorem ty_size121 : tSize Tryz.prog 121 = some 1 := by kernel_rfl
@[simp] theorem ty_agg121 : tAgg Tryz.prog 121 = some false := by kernel_rfl
@[simp] theorem ty_bytes121 : tBytes Tryz.prog 121 = some 8 := by kernel_rfl
@[simp] theorem ty_sort121 : tSort Tryz.prog 121 = 2 := by kernel_rfl
@[simp] theorem ty_zero121 : tZero Tryz.prog 121 = some [.f .nilF] := by kernel_rfl
@[simp] theorem ty_size122 : tSize Tryz.prog 122 = some 1 := by kernel_rfl
@[simp] theorem ty_agg122 : tAgg Tryz.prog 122 = some false := by kernel_rfl
@[simp] theorem ty_bytes122 : tBytes Tryz.prog 122 = some 8 := by kernel_rfl
@[simp] theorem ty_sort122 : tSort Tryz.prog 122 = 2 := by kernel_rfl
@[simp] theorem ty_zero122 : tZero Tryz.prog 122 = some [.f .nilF] := by kernel_rfl
@[simp] theorem ty_size123 : tSize Tryz.prog 123 = some 1 := by kernel_rfl
@[simp] theorem ty_agg123 : tAgg Tryz.prog 123 = some false := by kernel_rfl
@[simp] theorem ty_bytes123 : tBytes Tryz.prog 123 = some 8 := by kernel_rfl
@[simp] theorem ty_sort123 : tSort Tryz.prog 123 = 2 := by kernel_rfl
@[simp] theorem ty_zero123 : tZero Tryz.prog 123 = some [.f .nilF] := by kernel_rfl
@[simp] theorem ty_size125 : tSize Tryz.prog 125 = some 1 := by kernel_rfl
@[simp] theorem ty_agg125 : tAgg Tryz.prog 125 = some false := by kernel_rfl
@[simp] theorem ty_bytes125 : tBytes Tryz.prog 125 = some 8 := by kernel_rfl
@[simp] theorem ty_sort125 : tSort Tryz.prog 125 = 2 := by kernel_rfl
@[simp] theorem ty_zero125 : tZero Tryz.prog 125 = some [.f .nilF] := by kernel_rfl
@[simp] theorem ty_size126 : tSize Tryz.prog 126 = some 1 := by kernel_rfl
@[simp] theorem ty_agg126 : tAgg Tryz.prog 126 = some false := by kernel_rfl
@[simp] theorem ty_bytes126 : tBytes Tryz.prog 126 = some 8 := by kernel_rfl
@[simp] theorem ty_sort126 : tSort Tryz.prog 126 = 2 := by kernel_rfl
@[simp] theorem ty_zero126 : tZero Tryz.prog 126 = some [.f .nilF] := by kernel_rfl
@[simp] theorem ty_size127 : tSize Tryz.prog 127 = some 1 := by kernel_rfl
@[simp] theorem ty_agg127 : tAgg Tryz.prog 127 = some false := by kernel_rfl
@[simp] theorem ty_bytes127 : tBytes Tryz.prog 127 = some 8 := by kernel_rfl
@[simp] theorem ty_sort127 : tSort Tryz.prog 127 = 2 := by kernel_rfl
@[simp] theorem ty_zero127 : tZero Tryz.prog 127 = some [.f .nilF] := by kernel_rfl
@[simp] theorem ty_size128 : tSize Tryz.prog 128 = some 1 := by kernel_rfl
@[simp] theorem ty_agg128 : tAgg Tryz.prog 128 = some false := by kernel_rfl
@[simp] theorem ty_bytes128 : tBytes Tryz.prog 128 = some 8 := by kernel_rfl
@[simp] theorem ty_sort128 : tSort Tryz.prog 128 = 2 := by kernel_rfl
@[simp] theorem ty_zero128 : tZero Tryz.prog 128 = some [.f .nilF] := by kernel_rfl
@[simp] theorem ty_size129 : tSize Tryz.prog 129 = some 1 := by kernel_rfl
@[simp] theorem ty_agg129 : tAgg Tryz.prog 129 = some false := by kernel_rfl
@[simp] theorem ty_bytes129 : tBytes Tryz.prog 129 = some 8 := by kernel_rfl
@[simp] theorem ty_sort129 : tSort Tryz.prog 129 = 2 := by kernel_rfl
@[simp] theorem ty_zero129 : tZero Tryz.prog 129 = some [.f .nilF] := by kernel_rfl
@[simp] theorem ty_size130 : tSize Tryz.prog 130 = some 2 := by kernel_rfl
@[simp] theorem ty_agg130 : tAgg Tryz.prog 130 = some true := by kernel_rfl
@[simp] theorem ty_bytes130 : tBytes Tryz.prog 130 = some 32 := by kernel_rfl
@[simp] theorem ty_sort130 : tSort Tryz.prog 130 = 3 := by kernel_rfl
@[simp] theorem ty_zero130 : tZero Tryz.prog 130 = some [.f (.int .u64 0), .f .nilS] := by kernel_rfl
@[simp] theorem ty_size131 : tSize Tryz.prog 131 = some 2 := by kernel_rfl
@[simp] theorem ty_agg131 : tAgg Tryz.prog 131 = some true := by kernel_rfl
@[simp] theorem ty_bytes131 : tBytes Tryz.prog 131 = some 32 := by kernel_rfl
@[simp] theorem ty_sort131 : tSort Tryz.prog 131 = 3 := by kernel_rfl
@[simp] theorem ty_zero131 : tZero Tryz.prog 131 = some [.f (.int .u64 0), .f .nilS] := by kernel_rfl
@[simp] theorem ty_size132 : tSize Tryz.prog 132 = some 1 := by kernel_rfl
@[simp] theorem ty_agg132 : tAgg Tryz.prog 132 = some false := by kernel_rfl
@[simp] theorem ty_bytes132 : tBytes Tryz.prog 132 = some 8 := by kernel_rfl
@[simp] theorem ty_sort132 : tSort Tryz.prog 132 = 2 := by kernel_rfl
@[simp] theorem ty_zero132 : tZero Tryz.prog 132 = some [.f .nilF] := by kernel_rfl
@[simp] theorem ty_size133 : tSize Tryz.prog 133 = some 1 := by kernel_rfl
@[simp] theorem ty_agg133 : tAgg Tryz.prog 133 = some false := by kernel_rfl
@[simp] theorem ty_bytes133 : tBytes Tryz.prog 133 = some 8 := by kernel_rfl
@[simp] theorem ty_sort133 : tSort Tryz.prog 133 = 0 := by kernel_rfl
@[simp] theorem ty_zero133 : tZero Tryz.prog 133 = some [.f .nilP] := by kernel_rfl
@[simp] theorem ty_size134 : tSize Tryz.prog 134 = some 4 := by kernel_rfl
@[simp] theorem ty_agg134 : tAgg Tryz.prog 134 = some true := by kernel_rfl
@[simp] theorem ty_bytes134 : tBytes Tryz.prog 134 = some 96 := by kernel_rfl
@[simp] theorem ty_sort134 : tSort Tryz.prog 134 = 3 := by kernel_rfl
@[simp] theorem ty_zero134 : tZero Tryz.prog 134 = some [.f .nilS, .f .nilS, .f .nilS, .f .nilS] := by kernel_rfl
@[simp] theorem ty_size135 : tSize Tryz.prog 135 = some 4 := by kernel_rfl
@[simp] theorem ty_agg135 : tAgg Tryz.prog 135 = some true := by kernel_rfl
@[simp] theorem ty_bytes135 : tBytes Tryz.prog 135 = some 96 := by kernel_rfl
@[simp] theorem ty_sort135 : tSort Tryz.prog 135 = 3 := by kernel_rfl
@[simp] theorem ty_zero135 : tZero Tryz.prog 135 = some [.f .nilS, .f .nilS, .f .nilS, .f .nilS] := by kernel_rfl
@[simp] theorem ty_size136 : tSize Tryz.prog 136 = some 1 := by kernel_rfl
@[simp] theorem ty_agg136 : tAgg Tryz.prog 136 = some false := by kernel_rfl
@[simp] theorem ty_bytes136 : tBytes Tryz.prog 136 = some 8 := by kernel_rfl
@[simp] theorem ty_sort136 : tSort Tryz.prog 136 = 2 := by kernel_rfl
@[simp] theorem ty_zero136 : tZero Tryz.prog 136 = some [.f .nilF] := by kernel_rfl
@[simp] theorem ty_size137 : tSize Tryz.prog 137 = some 1 := by kernel_rfl
@[simp] theorem ty_agg137 : tAgg Tryz.prog 137 = some false := by kernel_rfl
@[simp] theorem ty_bytes137 : tBytes Tryz.prog 137 = some 8 := by kernel_rfl
@[simp] theorem ty_sort137 : tSort Tryz.prog 137 = 0 := by kernel_rfl
@[simp] theorem ty_zero137 : tZero Tryz.prog 137 = some [.f .nilP] := by kernel_rfl
@[simp] theorem ty_size139 : tSize Tryz.prog 139 = some 1 := by kernel_rfl
@[simp] theorem ty_agg139 : tAgg Tryz.prog 139 = some false := by kernel_rfl
@[simp] theorem ty_bytes139 : tBytes Tryz.prog 139 = some 8 := by kernel_rfl
@[simp] theorem ty_sort139 : tSort Tryz.prog 139 = 2 := by kernel_rfl
@[simp] theorem ty_zero139 : tZero Tryz.prog 139 = some [.f .nilF] := by kernel_rfl
@[simp] theorem ty_size140 : tSize Tryz.prog 140 = some 1 := by kernel_rfl
@[simp] theorem ty_agg140 : tAgg Tryz.prog 140 = some false := by kernel_rfl
@[simp] theorem ty_bytes140 : tBytes Tryz.prog 140 = some 8 := by kernel_rfl
@[simp] theorem ty_sort140 : tSort Tryz.prog 140 = 0 := by kernel_rfl
@[simp] theorem ty_zero140 : tZero Tryz.prog 140 = some [.f .nilP] := by kernel_rfl
@[simp] theorem ty_size141 : tSize Tryz.prog 141 = some 1 := by kernel_rfl
@[simp] theorem ty_agg141 : tAgg Tryz.prog 141 = some false := by kernel_rfl
@[simp] theorem ty_bytes141 : tBytes Tryz.prog 141 = some 8 := by kernel_rfl
@[simp] theorem ty_sort141 : tSort Tryz.prog 141 = 2 := by kernel_rfl
@[simp] theorem ty_zero141 : tZero Tryz.prog 141 = some [.f .nilF] := by kernel_rfl
@[simp] theorem ty_size142 : tSize Tryz.prog 142 = some 3 := by kernel_rfl
@[simp] theorem ty_agg142 : tAgg Tryz.prog 142 = some true := by kernel_rfl
@[simp] theorem ty_bytes142 : tBytes Tryz.prog 142 = some 24 := by kernel_rfl
@[simp] theorem ty_sort142 : tSort Tryz.prog 142 = 3 := by kernel_rfl
@[simp] theorem ty_zero142 : tZero Tryz.prog 142 = some [.f .nilP, .f .nilP, .f (.int .i64 0)] := by kernel_rfl
@[simp] theorem ty_size143 : tSize Tryz.prog 143 = some 3 := by kernel_rfl
@[simp] theorem ty_agg143 : tAgg Tryz.prog 143 = some true := by kernel_rfl
@[simp] theorem ty_bytes143 : tBytes Tryz.prog 143 = some 24 := by kernel_rfl
@[simp] theorem ty_sort143 : tSort Tryz.prog 143 = 3 := by kernel_rfl
@[simp] theorem ty_zero143 : tZero Tryz.prog 143 = some [.f .nilP, .f .nilP, .f (.int .i64 0)] := by kernel_rfl
@[simp] theorem ty_size144 : tSize Tryz.prog 144 = some 1 := by kernel_rfl
@[simp] theorem ty_agg144 : tAgg Tryz.prog 144 = some false := by kernel_rfl
@[simp] theorem ty_bytes144 : tBytes Tryz.prog 144 = some 8 := by kernel_rfl
@[simp] theorem ty_sort144 : tSort Tryz.prog 144 = 2 := by kernel_rfl
@[simp] theorem ty_zero144 : tZero Tryz.prog 144 = some [.f .nilF] := by kernel_rfl
@[simp] theorem ty_size145 : tSize Tryz.prog 145 = some 1 := by kernel_rfl
@[simp] theorem ty_agg145 : tAgg Tryz.prog 145 = some false := by kernel_rfl
@[simp] theorem ty_bytes145 : tBytes Tryz.prog 145 = some 8 := by kernel_rfl
@[simp] theorem ty_sort145 : tSort Tryz.prog 145 = 2 := by kernel_rfl
@[simp] theorem ty_zero145 : tZero Tryz.prog 145 = some [.f .nilF] := by kernel_rfl
@[simp] theorem ty_size146 : tSize Tryz.prog 146 = some 1 := by kernel_rfl
@[simp] theorem ty_agg146 : tAgg Tryz.prog 146 = some false := by kernel_rfl
@[simp] theorem ty_bytes146 : tBytes Tryz.prog 146 = some 8 := by kernel_rfl
@[simp] theorem ty_sort146 : tSort Tryz.prog 146 = 2 := by kernel_rfl
@[simp] theorem ty_zero146 : tZero Tryz.prog 146 = some [.f .nilF] := by kernel_rfl
@[simp] theorem ty_size147 : tSize Tryz.prog 147 = some 1 := by kernel_rfl
@[simp] theorem ty_agg147 : tAgg Tryz.prog 147 = some false := by kernel_rfl
@[simp] theorem ty_bytes147 : tBytes Tryz.prog 147 = some 8 := by kernel_rfl
@[simp] theorem ty_sort147 : tSort Tryz.prog 147 = 2 := by kernel_rfl
@[simp] theorem ty_zero147 : tZero Tryz.prog 147 = some [.f .nilF] := by kernel_rfl
@[simp] theorem ty_size148 : tSize Tryz.prog 148 = some 1 := by kernel_rfl
@[simp] theorem ty_agg148 : tAgg Tryz.prog 148 = some false := by kernel_rfl
@[simp] theorem ty_bytes148 : tBytes Tryz.prog 148 = some 24 := by kernel_rfl
@[simp] theorem ty_elem148 : tElem Tryz.prog 148 = some 152 := by kernel_rfl
@[simp] theorem ty_sort148 : tSort Tryz.prog 148 = 1 := by kernel_rfl
@[simp] theorem ty_zero148 : tZero Tryz.prog 148 = some [.f .nilS] := by kernel_rfl
@[simp] theorem ty_size149 : tSize Tryz.prog 149 = some 3 := by kernel_rfl
@[simp] theorem ty_agg149 : tAgg Tryz.prog 149 = some true := by kernel_rfl
@[simp] theorem ty_bytes149 : tBytes Tryz.prog 149 = some 40 := by kernel_rfl
@[simp] theorem ty_sort149 : tSort Tryz.prog 149 = 3 := by kernel_rfl
@[simp] theorem ty_zero149 : tZero Tryz.prog 149 = some [.f (.int .i64 0), .f (.int .i64 0), .f .nilS] := by kernel_rfl
@[simp] theorem ty_size150 : tSize Tryz.prog 150 = some 3 := by kernel_rfl
@[simp] theorem ty_agg150 : tAgg Tryz.prog 150 = some true := by kernel_rfl
@[simp] theorem ty_bytes150 : tBytes Tryz.prog 150 = some 40 := by kernel_rfl
@[simp] theorem ty_sort150 : tSort Tryz.prog 150 = 3 := by kernel_rfl
@[simp] theorem ty_zero150 : tZero Tryz.prog 150 = some [.f (.int .i64 0), .f (.int .i64 0), .f .nilS] := by kernel_rfl
@[simp] theorem ty_size151 : tSize Tryz.prog 151 = some 5 := by kernel_rfl
@[simp] theorem ty_agg151 : tAgg Tryz.prog 151 = some true := by kernel_rfl
@[simp] theorem ty_bytes151 : tBytes Tryz.prog 151 = some 88 := by kernel_rfl
@[simp] theorem ty_sort151 : tSort Tryz.prog 151 = 3 := by kernel_rfl
@[simp] theorem ty_zero151 : tZero Tryz.prog 151 = some [.f .nilS, .f .nilS, .f .nilS, .f (.bool false), .f (.bool false)] := by kernel_rfl
@[simp] theorem ty_size152 : tSize Tryz.prog 152 = some 5 := by kernel_rfl
@[simp] theorem ty_agg152 : tAgg Tryz.prog 152 = some true := by kernel_rfl
@[simp] theorem ty_bytes152 : tBytes Tryz.prog 152 = some 88 := by kernel_rfl
@[simp] theorem ty_sort152 : tSort Tryz.prog 152 = 3 := by kernel_rfl
@[simp] theorem ty_zero152 : tZero Tryz.prog 152 = some [.f .nilS, .f .nilS, .f .nilS, .f (.bool false), .f (.bool false)] := by kernel_rfl
@[simp] theorem ty_size153 : tSize Tryz.prog 153 = some 1 := by kernel_rfl
@[simp] theorem ty_agg153 : tAgg Tryz.prog 153 = some false := by kernel_rfl
@[simp] theorem ty_bytes153 : tBytes Tryz.prog 153 = some 8 := by kernel_rfl
@[simp] theorem ty_sort153 : tSort Tryz.prog 153 = 2 := by kernel_rfl
@[simp] theorem ty_zero153 : tZero Tryz.prog 153 = some [.f .nilF] := by kernel_rfl
@[simp] theorem ty_size154 : tSize Tryz.prog 154 = some 1 := by kernel_rfl
@[simp] theorem ty_agg154 : tAgg Tryz.prog 154 = some false := by kernel_rfl
@[simp] theorem ty_bytes154 : tBytes Tryz.prog 154 = some 8 := by kernel_rfl
@[simp] theorem ty_sort154 : tSort Tryz.prog 154 = 2 := by kernel_rfl
@[simp] theorem ty_zero154 : tZero Tryz.prog 154 = some [.f .nilF] := by kernel_rfl
@[simp] theorem ty_size155 : tSize Tryz.prog 155 = some 1 := by kernel_rfl
@[simp] theorem ty_agg155 : tAgg Tryz.prog 155 = some false := by kernel_rfl
@[simp] theorem ty_bytes155 : tBytes Tryz.prog 155 = some 8 := by kernel_rfl
@[simp] theorem ty_sort155 : tSort Tryz.prog 155 = 2 := by kernel_rfl
@[simp] theorem ty_zero155 : tZero Tryz.prog 155 = some [.f .nilF] := by kernel_rfl
@[simp] theorem ty_size156 : tSize Tryz.prog 156 = some 1 := by kernel_rfl
@[simp] theorem ty_agg156 : tAgg Tryz.prog 156 = some false := by kernel_rfl
@[simp] theorem ty_bytes156 : tBytes Tryz.prog 156 = some 8 := by kernel_rfl
@[simp] theorem ty_sort156 : tSort Tryz.prog 156 = 2 := by kernel_rfl
@[simp] theorem ty_zero156 : tZero Tryz.prog 156 = some [.f .nilF] := by kernel_rfl
@[simp] theorem ty_size158 : tSize Tryz.prog 158 = some 1 := by kernel_rfl
@[simp] theorem ty_agg158 : tAgg Tryz.prog 158 = some false := by kernel_rfl
@[simp] theorem ty_bytes158 : tBytes Tryz.prog 158 = some 8 := by kernel_rfl
@[simp] theorem ty_sort158 : tSort Tryz.prog 158 = 2 := by kernel_rfl
@[simp] theorem ty_zero158 : tZero Tryz.prog 158 = some [.f .nilF] := by kernel_rfl
@[simp] theorem ty_size159 : tSize Tryz.prog 159 = some 1 := by kernel_rfl
@[simp] theorem ty_agg159 : tAgg Tryz.prog 159 = some false := by kernel_rfl
@[simp] theorem ty_bytes159 : tBytes Tryz.prog 159 = some 8 := by kernel_rfl
@[simp] theorem ty_sort159 : tSort Tryz.prog 159 = 2 := by kernel_rfl
@[simp] theorem ty_zero159 : tZero Tryz.prog 159 = some [.f .nilF] := by kernel_rfl
@[simp] theorem ty_size160 : tSize Tryz.prog 160 = some 1 := by kernel_rfl
@[simp] theorem ty_agg160 : tAgg Tryz.prog 160 = some false := by kernel_rfl
@[simp] theorem ty_bytes160 : tBytes Tryz.prog 160 = some 8 := by kernel_rfl
@[simp] theorem ty_sort160 : tSort Tryz.prog 160 = 2 := by kernel_rfl
@[simp] theorem ty_zero160 : tZero Tryz.prog 160 = some [.f .nilF] := by kernel_rfl
@[simp] theorem ty_size161 : tSize Tryz.prog 161 = some 1 := by kernel_rfl
@[simp] theorem ty_agg161 : tAgg Tryz.prog 161 = some false := by kernel_rfl
@[simp] theorem ty_bytes161 : tBytes Tryz.prog 161 = some 8 := by kernel_rfl
@[simp] theorem ty_sort161 : tSort Tryz.prog 161 = 2 := by kernel_rfl
@[simp] theorem ty_zero161 : tZero Tryz.prog 161 = some [.f .nilF] := by kernel_rfl
@[simp] theorem ty_size162 : tSize Tryz.prog 162 = some 1 := by kernel_rfl
@[simp] theorem ty_agg162 : tAgg Tryz.prog 162 = some false := by kernel_rfl
@[simp] theorem ty_bytes162 : tBytes Tryz.prog 162 = some 8 := by kernel_rfl
@[simp] theorem ty_sort162 : tSort Tryz.prog 162 = 2 := by kernel_rfl
@[simp] theorem ty_zero162 : tZero Tryz.prog 162 = some [.f .nilF] := by kernel_rfl
@[simp] theorem ty_size163 : tSize Tryz.prog 163 = some 1 := by kernel_rfl
@[simp] theorem ty_agg163 : tAgg Tryz.prog 163 = some false := by kernel_rfl
@[simp] theorem ty_bytes163 : tBytes Tryz.prog 163 = some 8 := by kernel_rfl
@[simp] theorem ty_sort163 : tSort Tryz.prog 163 = 2 := by kernel_rfl
@[simp] theorem ty_zero163 : tZero Tryz.prog 163 = some [.f .nilF] := by kernel_rfl
@[simp] theorem ty_size165 : tSize Tryz.prog 165 = some 1 := by kernel_rfl
@[simp] theorem ty_agg165 : tAgg Tryz.prog 165 = some false := by kernel_rfl
@[simp] theorem ty_bytes165 : tBytes Tryz.prog 165 = some 8 := by kernel_rfl
@[simp] theorem ty_sort165 : tSort Tryz.prog 165 = 2 := by kernel_rfl
@[simp] theorem ty_zero165 : tZero Tryz.prog 165 = some [.f .nilF] := by kernel_rfl
@[simp] theorem ty_size166 : tSize Tryz.prog 166 = some 1 := by kernel_rfl
@[simp] theorem ty_agg166 : tAgg Tryz.prog 166 = some false := by kernel_rfl
@[simp] theorem ty_bytes166 : tBytes Tryz.prog 166 = some 8 := by kernel_rfl
@[simp] theorem ty_sort166 : tSort Tryz.prog 166 = 2 := by kernel_rfl
@[simp] theorem ty_zero166 : tZero Tryz.prog 166 = some [.f .nilF] := by kernel_rfl
@[simp] theorem ty_size167 : tSize Tryz.prog 167 = some 1 := by kernel_rfl
@[simp] theorem ty_agg167 : tAgg Tryz.prog 167 = some false := by kernel_rfl
@[simp] theorem ty_bytes167 : tBytes Tryz.prog 167 = some 8 := by kernel_rfl
@[simp] theorem ty_sort167 : tSort Tryz.prog 167 = 2 := by kernel_rfl
@[simp] theorem ty_zero167 : tZero Tryz.prog 167 = some [.f .nilF] := by kernel_rfl
@[simp] theorem ty_size168 : tSize Tryz.prog 168 = some 1 := by kernel_rfl
@[simp] theorem ty_agg168 : tAgg Tryz.prog 168 = some false := by kernel_rfl
@[simp] theorem ty_bytes168 : tBytes Tryz.prog 168 = some 8 := by kernel_rfl
@[simp] theorem ty_sort168 : tSort Tryz.prog 168 = 2 := by kernel_rfl
@[simp] theorem ty_zero168 : tZero Tryz.prog 168 = some [.f .nilF] := by kernel_rfl
@[simp] theorem ty_size169 : tSize Tryz.prog 169 = some 1 := by kernel_rfl
@[simp] theorem ty_agg169 : tAgg Tryz.prog 169 = some false := by kernel_rfl
@[simp] theorem ty_bytes169 : tBytes Tryz.prog 169 = some 8 := by kernel_rfl
@[simp] theorem ty_sort169 : tSort Tryz.prog 169 = 2 := by kernel_rfl
@[simp] theorem ty_zero169 : tZero Tryz.prog 169 = some [.f .nilF] := by kernel_rfl
@[simp] theorem ty_size170 : tSize Tryz.prog 170 = some 1 := by kernel_rfl
@[simp] theorem ty_agg170 : tAgg Tryz.prog 170 = some false := by kernel_rfl
@[simp] theorem ty_bytes170 : tBytes Tryz.prog 170 = some 8 := by kernel_rfl
@[simp] theorem ty_sort170 : tSort Tryz.prog 170 = 2 := by kernel_rfl
@[simp] theorem ty_zero170 : tZero Tryz.prog 170 = some [.f .nilF] := by kernel_rfl
@[simp] theorem ty_size171 : tSize Tryz.prog 171 = some 1 := by kernel_rfl
@[simp] theorem ty_agg171 : tAgg Tryz.prog 171 = some false := by kernel_rfl
@[simp] theorem ty_bytes171 : tBytes Tryz.prog 171 = some 8 := by kernel_rfl
@[simp] theorem ty_sort171 : tSort Tryz.prog 171 = 2 := by kernel_rfl
@[simp] theorem ty_zero171 : tZero Tryz.prog 171 = some [.f .nilF] := by kernel_rfl
@[simp] theorem ty_size172 : tSize Tryz.prog 172 = some 1 := by kernel_rfl
@[simp] theorem ty_agg172 : tAgg Tryz.prog 172 = some false := by kernel_rfl
@[simp] theorem ty_bytes172 : tBytes Tryz.prog 172 = some 8 := by kernel_rfl
@[simp] theorem ty_sort172 : tSort Tryz.prog 172 = 2 := by kernel_rfl
@[simp] theorem ty_zero172 : tZero Tryz.prog 172 = some [.f .nilF] := by kernel_rfl
@[simp] theorem ty_size173 : tSize Tryz.prog 173 = some 1 := by kernel_rfl
@[simp] theorem ty_agg173 : tAgg Tryz.prog 173 = some false := by kernel_rfl
@[simp] theorem ty_bytes173 : tBytes Tryz.prog 173 = some 8 := by kernel_rfl
@[simp] theorem ty_sort173 : tSort Tryz.prog 173 = 2 := by kernel_rfl
@[simp] theorem ty_zero173 : tZero Tryz.prog 173 = some [.f .nilF] := by kernel_rfl
@[simp] theorem ty_size174 : tSize Tryz.prog 174 = some 1 := by kernel_rfl
@[simp] theorem ty_agg174 : tAgg Tryz.prog 174 = some false := by kernel_rfl
@[simp] theorem ty_bytes174 : tBytes Tryz.prog 174 = some 8 := by kernel_rfl
@[simp] theorem ty_sort174 : tSort Tryz.prog 174 = 2 := by kernel_rfl
@[simp] theorem ty_zero174 : tZero Tryz.prog 174 = some [.f .nilF] := by kernel_rfl
@[simp] theorem ty_size175 : tSize Tryz.prog 175 = some 1 := by kernel_rfl
@[simp] theorem ty_agg175 : tAgg Tryz.prog 175 = some false := by kernel_rfl
@[simp] theorem ty_bytes175 : tBytes Tryz.prog 175 = some 8 := by kernel_rfl
@[simp] theorem ty_sort175 : tSort Tryz.prog 175 = 2 := by kernel_rfl
@[simp] theorem ty_zero175 : tZero Tryz.prog 175 = some [.f .nilF] := by kernel_rfl
@[simp] theorem ty_size176 : tSize Tryz.prog 176 = some 1 := by kernel_rfl
@[simp] theorem ty_agg176 : tAgg Tryz.prog 176 = some false := by kernel_rfl
@[simp] theorem ty_bytes176 : tBytes Tryz.prog 176 = some 8 := by kernel_rfl
@[simp] theorem ty_sort176 : tSort Tryz.prog 176 = 2 := by kernel_rfl
@[simp] theorem ty_zero176 : tZero Tryz.prog 176 = some [.f .nilF] := by kernel_rfl
@[simp] theorem ty_size177 : tSize Tryz.prog 177 = some 1 := by kernel_rfl
@[simp] theorem ty_agg177 : tAgg Tryz.prog 177 = some false := by kernel_rfl
@[simp] theorem ty_bytes177 : tBytes Tryz.prog 177 = some 8 := by kernel_rfl
@[simp] theorem ty_sort177 : tSort Tryz.prog 177 = 2 := by kernel_rfl
@[simp] theorem ty_zero177 : tZero Tryz.prog 177 = some [.f .nilF] := by kernel_rfl
@[simp] theorem ty_size178 : tSize Tryz.prog 178 = some 1 := by kernel_rfl
@[simp] theorem ty_agg178 : tAgg Tryz.prog 178 = some false := by kernel_rfl
@[simp] theorem ty_bytes178 : tBytes Tryz.prog 178 = some 8 := by kernel_rfl
@[simp] theorem ty_sort178 : tSort Tryz.prog 178 = 2 := by kernel_rfl
@[simp] theorem ty_zero178 : tZero Tryz.prog 178 = some [.f .nilF] := by kernel_rfl
@[simp] theorem ty_size179 : tSize Tryz.prog 179 = some 1 := by kernel_rfl
@[simp] theorem ty_agg179 : tAgg Tryz.prog 179 = some false := by kernel_rfl
@[simp] theorem ty_bytes179 : tBytes Tryz.prog 179 = some 8 := by kernel_rfl
@[simp] theorem ty_sort179 : tSort Tryz.prog 179 = 2 := by kernel_rfl
@[simp] theorem ty_zero179 : tZero Tryz.prog 179 = some [.f .nilF] := by kernel_rfl
@[simp] theorem ty_size180 : tSize Tryz.prog 180 = some 1 := by kernel_rfl
@[simp] theorem ty_agg180 : tAgg Tryz.prog 180 = some false := by kernel_rfl
@[simp] theorem ty_bytes180 : tBytes Tryz.prog 180 = some 8 := by kernel_rfl
@[simp] theorem ty_sort180 : tSort Tryz.prog 180 = 2 := by kernel_rfl
@[simp] theorem ty_zero180 : tZero Tryz.prog 180 = some [.f .nilF] := by kernel_rfl
@[simp] theorem ty_size181 : tSize Tryz.prog 181 = some 1 := by kernel_rfl
@[simp] theorem ty_agg181 : tAgg Tryz.prog 181 = some false := by kernel_rfl
@[simp] theorem ty_bytes181 : tBytes Tryz.prog 181 = some 8 := by kernel_rfl
@[simp] theorem ty_sort181 : tSort Tryz.prog 181 = 2 := by kernel_rfl
@[simp] theorem ty_zero181 : tZero Tryz.prog 181 = some [.f .nilF] := by kernel_rfl
@[simp] theorem ty_size182 : tSize Tryz.prog 182 = some 1 := by kernel_rfl
@[simp] theorem ty_agg182 : tAgg Tryz.prog 182 = some false := by kernel_rfl
@[simp] theorem ty_bytes182 : tBytes Tryz.prog 182 = some 8 := by kernel_rfl
@[simp] theorem ty_sort182 : tSort Tryz.prog 182 = 0 := by kernel_rfl
@[simp] theorem ty_zero182 : tZero Tryz.prog 182 = some [.f .nilP] := by kernel_rfl
@[simp] theorem ty_size183 : tSize Tryz.prog 183 = some 1 := by kernel_rfl
@[simp] theorem ty_agg183 : tAgg Tryz.prog 183 = some false := by kernel_rfl
@[simp] theorem ty_bytes183 : tBytes Tryz.prog 183 = some 8 := by kernel_rfl
@[simp] theorem ty_sort183 : tSort Tryz.prog 183 = 0 := by kernel_rfl
@[simp] theorem ty_zero183 : tZero Tryz.prog 183 = some [.f .nilP] := by kernel_rfl
@[simp] theorem ty_size184 : tSize Tryz.prog 184 = some 1 := by kernel_rfl
@[simp] theorem ty_agg184 : tAgg Tryz.prog 184 = some false := by kernel_rfl
@[simp] theorem ty_bytes184 : tBytes Tryz.prog 184 = some 8 := by kernel_rfl
@[simp] theorem ty_sort184 : tSort Tryz.prog 184 = 0 := by kernel_rfl
@[simp] theorem ty_zero184 : tZero Tryz.prog 184 = some [.f .nilP] := by kernel_rfl
@[simp] theorem ty_size185 : tSize Tryz.prog 185 = some 1 := by kernel_rfl
@[simp] theorem ty_agg185 : tAgg Tryz.prog 185 = some false := by kernel_rfl
@[simp] theorem ty_bytes185 : tBytes Tryz.prog 185 = some 24 := by kernel_rfl
@[simp] theorem ty_elem185 : tElem Tryz.prog 185 = some 5 := by kernel_rfl
@[simp] theorem ty_sort185 : tSort Tryz.prog 185 = 1 := by kernel_rfl
@[simp] theorem ty_zero185 : tZero Tryz.prog 185 = some [.f .nilS] := by kernel_rfl
@[simp] theorem ty_size186 : tSize Tryz.prog 186 = some 2 := by kernel_rfl
@[simp] theorem ty_agg186 : tAgg Tryz.prog 186 = some true := by kernel_rfl
@[simp] theorem ty_bytes186 : tBytes Tryz.prog 186 = some 32 := by kernel_rfl
@[simp] theorem ty_sort186 : tSort Tryz.prog 186 = 3 := by kernel_rfl
@[simp] theorem ty_zero186 : tZero Tryz.prog 186 = some [.f .nilP, .f .nilS] := by kernel_rfl
@[simp] theorem ty_size187 : tSize Tryz.prog 187 = some 2 := by kernel_rfl
@[simp] theorem ty_agg187 : tAgg Tryz.prog 187 = some true := by kernel_rfl
@[simp] theorem ty_bytes187 : tBytes Tryz.prog 187 = some 32 := by kernel_rfl
@[simp] theorem ty_sort187 : tSort Tryz.prog 187 = 3 := by kernel_rfl
@[simp] theorem ty_zero187 : tZero Tryz.prog 187 = some [.f .nilP, .f .nilS] := by kernel_rfl
@[simp] theorem ty_size188 : tSize Tryz.prog 188 = some 3 := by kernel_rfl
@[simp] theorem ty_agg188 : tAgg Tryz.prog 188 = some true := by kernel_rfl
@[simp] theorem ty_bytes188 : tBytes Tryz.prog 188 = some 56 := by kernel_rfl
@[simp] theorem ty_sort188 : tSort Tryz.prog 188 = 3 := by kernel_rfl
@[simp] theorem ty_zero188 : tZero Tryz.prog 188 = some [.f .nilS, .f .nilP, .f .nilS] := by kernel_rfl
@[simp] theorem ty_size189 : tSize Tryz.prog 189 = some 3 := by kernel_rfl
@[simp] theorem ty_agg189 : tAgg Tryz.prog 189 = some true := by kernel_rfl
@[simp] theorem ty_bytes189 : tBytes Tryz.prog 189 = some 56 := by kernel_rfl
@[simp] theorem ty_sort189 : tSort Tryz.prog 189 = 3 := by kernel_rfl
@[simp] theorem ty_zero189 : tZero Tryz.prog 189 = some [.f .nilS, .f .nilP, .f .nilS] := by kernel_rfl
@[simp] theorem ty_size190 : tSize Tryz.prog 190 = some 1 := by kernel_rfl
@[simp] theorem ty_agg190 : tAgg Tryz.prog 190 = some false := by kernel_rfl
@[simp] theorem ty_bytes190 : tBytes Tryz.prog 190 = some 8 := by kernel_rfl
@[simp] theorem ty_sort190 : tSort Tryz.prog 190 = 2 := by kernel_rfl
@[simp] theorem ty_zero190 : tZero Tryz.prog 190 = some [.f .nilF] := by kernel_rfl
@[simp] theorem ty_size191 : tSize Tryz.prog 191 = some 1 := by kernel_rfl
@[simp] theorem ty_agg191 : tAgg Tryz.prog 191 = some false := by kernel_rfl
@[simp] theorem ty_bytes191 : tBytes Tryz.prog 191 = some 8 := by kernel_rfl
@[simp] theorem ty_sort191 : tSort Tryz.prog 191 = 2 := by kernel_rfl
@[simp] theorem ty_zero191 : tZero Tryz.prog 191 = some [.f .nilF] := by kernel_rfl
@[simp] theorem ty_size192 : tSize Tryz.prog 192 = some 1 := by kernel_rfl
@[simp] theorem ty_agg192 : tAgg Tryz.prog 192 = some false := by kernel_rfl
@[simp] theorem ty_bytes192 : tBytes Tryz.prog 192 = some 8 := by kernel_rfl
@[simp] theorem ty_sort192 : tSort Tryz.prog 192 = 2 := by kernel_rfl
@[simp] theorem ty_zero192 : tZero Tryz.prog 192 = some [.f .nilF] := by kernel_rfl
@[simp] theorem ty_size193 : tSize Tryz.prog 193 = some 1 := by kernel_rfl
@[simp] theorem ty_agg193 : tAgg Tryz.prog 193 = some false := by kernel_rfl
@[simp] theorem ty_bytes193 : tBytes Tryz.prog 193 = some 8 := by kernel_rfl
@[simp] theorem ty_sort193 : tSort Tryz.prog 193 = 2 := by kernel_rfl
@[simp] theorem ty_zero193 : tZero Tryz.prog 193 = some [.f .nilF] := by kernel_rfl
@[simp] theorem ty_size194 : tSize Tryz.prog 194 = some 1 := by kernel_rfl
@[simp] theorem ty_agg194 : tAgg Tryz.prog 194 = some false := by kernel_rfl
@[simp] theorem ty_bytes194 : tBytes Tryz.prog 194 = some 8 := by kernel_rfl
@[simp] theorem ty_sort194 : tSort Tryz.prog 194 = 2 := by kernel_rfl
@[simp] theorem ty_zero194 : tZero Tryz.prog 194 = some [.f .nilF] := by kernel_rfl
@[simp] theorem ty_size195 : tSize Tryz.prog 195 = some 1 := by kernel_rfl
@[simp] theorem ty_agg195 : tAgg Tryz.prog 195 = some false := by kernel_rfl
@[simp] theorem ty_bytes195 : tBytes Tryz.prog 195 = some 8 := by kernel_rfl
@[simp] theorem ty_sort195 : tSort Tryz.prog 195 = 2 := by kernel_rfl
@[simp] theorem ty_zero195 : tZero Tryz.prog 195 = some [.f .nilF] := by kernel_rfl
@[simp] theorem ty_size196 : tSize Tryz.prog 196 = some 1 := by kernel_rfl
@[simp] theorem ty_agg196 : tAgg Tryz.prog 196 = some false := by kernel_rfl
@[simp] theorem ty_bytes196 : tBytes Tryz.prog 196 = some 8 := by kernel_rfl
@[simp] theorem ty_sort196 : tSort Tryz.prog 196 = 2 := by kernel_rfl
@[simp] theorem ty_zero196 : tZero Tryz.prog 196 = some [.f .nilF] := by kernel_rfl
@[simp] theorem ty_size197 : tSize Tryz.prog 197 = some 1 := by kernel_rfl
@[simp] theorem ty_agg197 : tAgg Tryz.prog 197 = some false := by kernel_rfl
@[simp] theorem ty_bytes197 : tBytes Tryz.prog 197 = some 8 := by kernel_rfl
@[simp] theorem ty_sort197 : tSort Tryz.prog 197 = 2 := by kernel_rfl
@[simp] theorem ty_zero197 : tZero Tryz.prog 197 = some [.f .nilF] := by kernel_rfl
@[simp] theorem ty_size198 : tSize Tryz.prog 198 = some 1 := by kernel_rfl
@[simp] theorem ty_agg198 : tAgg Tryz.prog 198 = some false := by kernel_rfl
@[simp] theorem ty_bytes198 : tBytes Tryz.prog 198 = some 8 := by kernel_rfl
@[simp] theorem ty_sort198 : tSort Tryz.prog 198 = 2 := by kernel_rfl
@[simp] theorem ty_zero198 : tZero Tryz.prog 198 = some [.f .nilF] := by kernel_rfl
@[simp] theorem ty_size199 : tSize Tryz.prog 199 = some 1 := by kernel_rfl
@[simp] theorem ty_agg199 : tAgg Tryz.prog 199 = some false := by kernel_rfl
@[simp] theorem ty_bytes199 : tBytes Tryz.prog 199 = some 8 := by kernel_rfl
@[simp] theorem ty_sort199 : tSort Tryz.prog 199 = 2 := by kernel_rfl
@[simp] theorem ty_zero199 : tZero Tryz.prog 199 = some [.f .nilF] := by kernel_rfl
@[simp] theorem ty_size200 : tSize Tryz.prog 200 = some 1 := by kernel_rfl
@[simp] theorem ty_agg200 : tAgg Tryz.prog 200 = some false := by kernel_rfl
@[simp] theorem ty_bytes200 : tBytes Tryz.prog 200 = some 8 := by kernel_rfl
@[simp] theorem ty_sort200 : tSort Tryz.prog 200 = 2 := by kernel_rfl
@[simp] theorem ty_zero200 : tZero Tryz.prog 200 = some [.f .nilF] := by kernel_rfl
@[simp] theorem ty_size201 : tSize Tryz.prog 201 = some 1 := by kernel_rfl
@[simp] theorem ty_agg201 : tAgg Tryz.prog 201 = some false := by kernel_rfl
@[simp] theorem ty_bytes201 : tBytes Tryz.prog 201 = some 8 := by kernel_rfl
@[simp] theorem ty_sort201 : tSort Tryz.prog 201 = 2 := by kernel_rfl
@[simp] theorem ty_zero201 : tZero Tryz.prog 201 = some [.f .nilF] := by kernel_rfl
@[simp] theorem ty_size202 : tSize Tryz.prog 202 = some 1 := by kernel_rfl
@[simp] theorem ty_agg202 : tAgg Tryz.prog 202 = some false := by kernel_rfl
@[simp] theorem ty_bytes202 : tBytes Tryz.prog 202 = some 8 := by kernel_rfl
@[simp] theorem ty_sort202 : tSort Tryz.prog 202 = 2 := by kernel_rfl
@[simp] theorem ty_zero202 : tZero Tryz.prog 202 = some [.f .nilF] := by kernel_rfl
@[simp] theorem ty_size203 : tSize Tryz.prog 203 = some 1 := by kernel_rfl
@[simp] theorem ty_agg203 : tAgg Tryz.prog 203 = some false := by kernel_rfl
@[simp] theorem ty_bytes203 : tBytes Tryz.prog 203 = some 8 := by kernel_rfl
@[simp] theorem ty_sort203 : tSort Tryz.prog 203 = 2 := by kernel_rfl
@[simp] theorem ty_zero203 : tZero Tryz.prog 203 = some [.f .nilF] := by kernel_rfl
@[simp] theorem ty_size204 : tSize Tryz.prog 204 = some 3 := by kernel_rfl
@[simp] theorem ty_agg204 : tAgg Tryz.prog 204 = some true := by kernel_rfl
@[simp] theorem ty_bytes204 : tBytes Tryz.prog 204 = some 40 := by kernel_rfl
@[simp] theorem ty_sort204 : tSort Tryz.prog 204 = 3 := by kernel_rfl
@[simp] theorem ty_zero204 : tZero Tryz.prog 204 = some [.f .nilS, .f (.int .i64 0), .f (.int .i64 0)] := by kernel_rfl
@[simp] theorem ty_size205 : tSize Tryz.prog 205 = some 3 := by kernel_rfl
@[simp] theorem ty_agg205 : tAgg Tryz.prog 205 = some true := by kernel_rfl
@[simp] theorem ty_bytes205 : tBytes Tryz.prog 205 = some 40 := by kernel_rfl
@[simp] theorem ty_sort205 : tSort Tryz.prog 205 = 3 := by kernel_rfl
@[simp] theorem ty_zero205 : tZero Tryz.prog 205 = some [.f .nilS, .f (.int .i64 0), .f (.int .i64 0)] := by kernel_rfl
@[simp] theorem ty_size206 : tSize Tryz.prog 206 = some 1 := by kernel_rfl
@[simp] theorem ty_agg206 : tAgg Tryz.prog 206 = some false := by kernel_rfl
@[simp] theorem ty_bytes206 : tBytes Tryz.prog 206 = some 24 := by kernel_rfl
@[simp] theorem ty_elem206 : tElem Tryz.prog 206 = some 219 := by kernel_rfl
@[simp] theorem ty_sort206 : tSort Tryz.prog 206 = 1 := by kernel_rfl
@[simp] theorem ty_zero206 : tZero Tryz.prog 206 = some [.f .nilS] := by kernel_rfl
@[simp] theorem ty_size207 : tSize Tryz.prog 207 = some 3 := by kernel_rfl
@[simp] theorem ty_agg207 : tAgg Tryz.prog 207 = some true := by kernel_rfl
@[simp] theorem ty_bytes207 : tBytes Tryz.prog 207 = some 40 := by kernel_rfl
@[simp] theorem ty_sort207 : tSort Tryz.prog 207 = 3 := by kernel_rfl
@[simp] theorem ty_zero207 : tZero Tryz.prog 207 = some [.f (.int .i64 0), .f .nilS, .f (.int .i64 0)] := by kernel_rfl
@[simp] theorem ty_size208 : tSize Tryz.prog 208 = some 3 := by kernel_rfl
@[simp] theorem ty_agg208 : tAgg Tryz.prog 208 = some true := by kernel_rfl
@[simp] theorem ty_bytes208 : tBytes Tryz.prog 208 = some 40 := by kernel_rfl
@[simp] theorem ty_sort208 : tSort Tryz.prog 208 = 3 := by kernel_rfl
@[simp] theorem ty_zero208 : tZero Tryz.prog 208 = some [.f (.int .i64 0), .f .nilS, .f (.int .i64 0)] := by kernel_rfl
@[simp] theorem ty_size209 : tSize Tryz.prog 209 = some 1 := by kernel_rfl
@[simp] theorem ty_agg209 : tAgg Tryz.prog 209 = some false := by kernel_rfl
@[simp] theorem ty_bytes209 : tBytes Tryz.prog 209 = some 8 := by kernel_rfl
@[simp] theorem ty_sort209 : tSort Tryz.prog 209 = 2 := by kernel_rfl
@[simp] theorem ty_zero209 : tZero Tryz.prog 209 = some [.f .nilF] := by kernel_rfl
@[simp] theorem ty_size210 : tSize Tryz.prog 210 = some 1 := by kernel_rfl
@[simp] theorem ty_agg210 : tAgg Tryz.prog 210 = some false := by kernel_rfl
@[simp] theorem ty_bytes210 : tBytes Tryz.prog 210 = some 8 := by kernel_rfl
@[simp] theorem ty_sort210 : tSort Tryz.prog 210 = 2 := by kernel_rfl
@[simp] theorem ty_zero210 : tZero Tryz.prog 210 = some [.f .nilF] := by kernel_rfl
@[simp] theorem ty_size211 : tSize Tryz.prog 211 = some 3 := by kernel_rfl
@[simp] theorem ty_agg211 : tAgg Tryz.prog 211 = some true := by kernel_rfl
@[simp] theorem ty_bytes211 : tBytes Tryz.prog 211 = some 48 := by kernel_rfl
@[simp] theorem ty_sort211 : tSort Tryz.prog 211 = 3 := by kernel_rfl
@[simp] theorem ty_zero211 : tZero Tryz.prog 211 = some [.f (.str ⟨#[]⟩), .f (.str ⟨#[]⟩), .f (.str ⟨#[]⟩)] := by kernel_rfl
@[simp] theorem ty_size212 : tSize Tryz.prog 212 = some 1 := by kernel_rfl
@[simp] theorem ty_agg212 : tAgg Tryz.prog 212 = some false := by kernel_rfl
@[simp] theorem ty_bytes212 : tBytes Tryz.prog 212 = some 8 := by kernel_rfl
@[simp] theorem ty_sort212 : tSort Tryz.prog 212 = 2 := by kernel_rfl
@[simp] theorem ty_zero212 : tZero Tryz.prog 212 = some [.f .nilF] := by kernel_rfl
@[simp] theorem ty_size213 : tSize Tryz.prog 213 = some 1 := by kernel_rfl
@[simp] theorem ty_agg213 : tAgg Tryz.prog 213 = some false := by kernel_rfl
@[simp] theorem ty_bytes213 : tBytes Tryz.prog 213 = some 8 := by kernel_rfl
@[simp] theorem ty_sort213 : tSort Tryz.prog 213 = 2 := by kernel_rfl
@[simp] theorem ty_zero213 : tZero Tryz.prog 213 = some [.f .nilF] := by kernel_rfl
@[simp] theorem ty_size214 : tSize Tryz.prog 214 = some 1 := by kernel_rfl
@[simp] theorem ty_agg214 : tAgg Tryz.prog 214 = some false := by kernel_rfl
@[simp] theorem ty_bytes214 : tBytes Tryz.prog 214 = some 8 := by kernel_rfl
@[simp] theorem ty_sort214 : tSort Tryz.prog 214 = 2 := by kernel_rfl
@[simp] theorem ty_zero214 : tZero Tryz.prog 214 = some [.f .nilF] := by kernel_rfl
@[simp] theorem ty_size215 : tSize Tryz.prog 215 = some 1 := by kernel_rfl
@[simp] theorem ty_agg215 : tAgg Tryz.prog 215 = some false := by kernel_rfl
@[simp] theorem ty_bytes215 : tBytes Tryz.prog 215 = some 8 := by kernel_rfl
@[simp] theorem ty_sort215 : tSort Tryz.prog 215 = 2 := by kernel_rfl
@[simp] theorem ty_zero215 : tZero Tryz.prog 215 = some [.f .nilF] := by kernel_rfl
@[simp] theorem ty_size216 : tSize Tryz.prog 216 = some 1 := by kernel_rfl
@[simp] theorem ty_agg216 : tAgg Tryz.prog 216 = some false := by kernel_rfl
@[simp] theorem ty_bytes216 : tBytes Tryz.prog 216 = some 8 := by kernel_rfl
@[simp] theorem ty_sort216 : tSort Tryz.prog 216 = 2 := by kernel_rfl
@[simp] theorem ty_zero216 : tZero Tryz.prog 216 = some [.f .nilF] := by kernel_rfl
@[simp] theorem ty_size217 : tSize Tryz.prog 217 = some 1 := by kernel_rfl
@[simp] theorem ty_agg217 : tAgg Tryz.prog 217 = some false := by kernel_rfl
@[simp] theorem ty_bytes217 : tBytes Tryz.prog 217 = some 8 := by kernel_rfl
@[simp] theorem ty_sort217 : tSort Tryz.prog 217 = 0 := by kernel_rfl
@[simp] theorem ty_zero217 : tZero Tryz.prog 217 = some [.f .nilP] := by kernel_rfl
@[simp] theorem ty_size218 : tSize Tryz.prog 218 = some 5 := by kernel_rfl
@[simp] theorem ty_agg218 : tAgg Tryz.prog 218 = some true := by kernel_rfl
@[simp] theorem ty_bytes218 : tBytes Tryz.prog 218 = some 88 := by kernel_rfl
@[simp] theorem ty_sort218 : tSort Tryz.prog 218 = 3 := by kernel_rfl
@[simp] theorem ty_zero218 : tZero Tryz.prog 218 = some [.f .nilS, .f .nilS, .f .nilS, .f (.bool false), .f (.bool false)] := by kernel_rfl
@[simp] theorem ty_size219 : tSize Tryz.prog 219 = some 5 := by kernel_rfl
@[simp] theorem ty_agg219 : tAgg Tryz.prog 219 = some true := by kernel_rfl
@[simp] theorem ty_bytes219 : tBytes Tryz.prog 219 = some 88 := by kernel_rfl
@[simp] theorem ty_sort219 : tSort Tryz.prog 219 = 3 := by kernel_rfl
@[simp] theorem ty_zero219 : tZero Tryz.prog 219 = some [.f .nilS, .f .nilS, .f .nilS, .f (.bool false), .f (.bool false)] := by kernel_rfl
@[simp] theorem ty_size220 : tSize Tryz.prog 220 = some 1 := by kernel_rfl
@[simp] theorem ty_agg220 : tAgg Tryz.prog 220 = some false := by kernel_rfl
@[simp] theorem ty_bytes220 : tBytes Tryz.prog 220 = some 8 := by kernel_rfl
@[simp] theorem ty_sort220 : tSort Tryz.prog 220 = 2 := by kernel_rfl
@[simp] theorem ty_zero220 : tZero Tryz.prog 220 = some [.f .nilF] := by kernel_rfl
@[simp] theorem ty_size221 : tSize Tryz.prog 221 = some 1 := by kernel_rfl
@[simp] theorem ty_agg221 : tAgg Tryz.prog 221 = some false := by kernel_rfl
@[simp] theorem ty_bytes221 : tBytes Tryz.prog 221 = some 8 := by kernel_rfl
@[simp] theorem ty_sort221 : tSort Tryz.prog 221 = 2 := by kernel_rfl
@[simp] theorem ty_zero221 : tZero Tryz.prog 221 = some [.f .nilF] := by kernel_rfl
@[simp] theorem ty_size222 : tSize Tryz.prog 222 = some 1 := by kernel_rfl
@[simp] theorem ty_agg222 : tAgg Tryz.prog 222 = some false := by kernel_rfl
@[simp] theorem ty_bytes222 : tBytes Tryz.prog 222 = some 8 := by kernel_rfl
@[simp] theorem ty_sort222 : tSort Tryz.prog 222 = 2 := by kernel_rfl
@[simp] theorem ty_zero222 : tZero Tryz.prog 222 = some [.f .nilF] := by kernel_rfl
@[simp] theorem ty_size224 : tSize Tryz.prog 224 = some 1 := by kernel_rfl
@[simp] theorem ty_agg224 : tAgg Tryz.prog 224 = some false := by kernel_rfl
@[simp] theorem ty_bytes224 : tBytes Tryz.prog 224 = some 8 := by kernel_rfl
@[simp] theorem ty_sort224 : tSort Tryz.prog 224 = 2 := by kernel_rfl
@[simp] theorem ty_zero224 : tZero Tryz.prog 224 = some [.f .nilF] := by kernel_rfl
@[simp] theorem ty_size225 : tSize Tryz.prog 225 = some 1 := by kernel_rfl
@[simp] theorem ty_agg225 : tAgg Tryz.prog 225 = some false := by kernel_rfl
@[simp] theorem ty_bytes225 : tBytes Tryz.prog 225 = some 8 := by kernel_rfl
@[simp] theorem ty_sort225 : tSort Tryz.prog 225 = 2 := by kernel_rfl
@[simp] theorem ty_zero225 : tZero Tryz.prog 225 = some [.f .nilF] := by kernel_rfl
@[simp] theorem ty_size226 : tSize Tryz.prog 226 = some 1 := by kernel_rfl
@[simp] theorem ty_agg226 : tAgg Tryz.prog 226 = some false := by kernel_rfl
@[simp] theorem ty_bytes226 : tBytes Tryz.prog 226 = some 8 := by kernel_rfl
@[simp] theorem ty_sort226 : tSort Tryz.prog 226 = 2 := by kernel_rfl
@[simp] theorem ty_zero226 : tZero Tryz.prog 226 = some [.f .nilF] := by kernel_rfl
@[simp] theorem ty_size227 : tSize Tryz.prog 227 = some 1 := by kernel_rfl
@[simp] theorem ty_agg227 : tAgg Tryz.prog 227 = some false := by kernel_rfl
@[simp] theorem ty_bytes227 : tBytes Tryz.prog 227 = some 8 := by kernel_rfl
@[simp] theorem ty_sort227 : tSort Tryz.prog 227 = 2 := by kernel_rfl
@[simp] theorem ty_zero227 : tZero Tryz.prog 227 = some [.f .nilF] := by kernel_rfl
@[simp] theorem ty_size228 : tSize Tryz.prog 228 = some 1 := by kernel_rfl
@[simp] theorem ty_agg228 : tAgg Tryz.prog 228 = some false := by kernel_rfl
@[simp] theorem ty_bytes228 : tBytes Tryz.prog 228 = some 8 := by kernel_rfl
@[simp] theorem ty_sort228 : tSort Tryz.prog 228 = 3 := by kernel_rfl
@[simp] theorem ty_zero228 : tZero Tryz.prog 228 = some [.f (.int .i64 0)] := by kernel_rfl
@[simp] theorem ty_size230 : tSize Tryz.prog 230 = some 1 := by kernel_rfl
@[simp] theorem ty_agg230 : tAgg Tryz.prog 230 = some false := by kernel_rfl
@[simp] theorem ty_bytes230 : tBytes Tryz.prog 230 = some 8 := by kernel_rfl
@[simp] theorem ty_sort230 : tSort Tryz.prog 230 = 2 := by kernel_rfl
@[simp] theorem ty_zero230 : tZero Tryz.prog 230 = some [.f .nilF] := by kernel_rfl
@[simp] theorem ty_size231 : tSize Tryz.prog 231 = some 1 := by kernel_rfl
@[simp] theorem ty_agg231 : tAgg Tryz.prog 231 = some false := by kernel_rfl
@[simp] theorem ty_bytes231 : tBytes Tryz.prog 231 = some 8 := by kernel_rfl
@[simp] theorem ty_sort231 : tSort Tryz.prog 231 = 2 := by kernel_rfl
@[simp] theorem ty_zero231 : tZero Tryz.prog 231 = some [.f .nilF] := by kernel_rfl
@[simp] theorem ty_size232 : tSize Tryz.prog 232 = some 1 := by kernel_rfl
@[simp] theorem ty_agg232 : tAgg Tryz.prog 232 = some false := by kernel_rfl
@[simp] theorem ty_bytes232 : tBytes Tryz.prog 232 = some 8 := by kernel_rfl
@[simp] theorem ty_sort232 : tSort Tryz.prog 232 = 2 := by kernel_rfl
@[simp] theorem ty_zero232 : tZero Tryz.prog 232 = some [.f .nilF] := by kernel_rfl
@[simp] theorem ty_size233 : tSize Tryz.prog 233 = some 1 := by kernel_rfl
@[simp] theorem ty_agg233 : tAgg Tryz.prog 233 = some false := by kernel_rfl
@[simp] theorem ty_bytes233 : tBytes Tryz.prog 233 = some 8 := by kernel_rfl
@[simp] theorem ty_sort233 : tSort Tryz.prog 233 = 2 := by kernel_rfl
@[simp] theorem ty_zero233 : tZero Tryz.prog 233 = some [.f .nilF] := by kernel_rfl
@[simp] theorem ty_size234 : tSize Tryz.prog 234 = some 1 := by kernel_rfl
@[simp] theorem ty_agg234 : tAgg Tryz.prog 234 = some false := by kernel_rfl
@[simp] theorem ty_bytes234 : tBytes Tryz.prog 234 = some 8 := by kernel_rfl
@[simp] theorem ty_sort234 : tSort Tryz.prog 234 = 2 := by kernel_rfl
@[simp] theorem ty_zero234 : tZero Tryz.prog 234 = some [.f .nilF] := by kernel_rfl
@[simp] theorem ty_size235 : tSize Tryz.prog 235 = some 1 := by kernel_rfl
@[simp] theorem ty_agg235 : tAgg Tryz.prog 235 = some false := by kernel_rfl
@[simp] theorem ty_bytes235 : tBytes Tryz.prog 235 = some 8 := by kernel_rfl
@[simp] theorem ty_sort235 : tSort Tryz.prog 235 = 2 := by kernel_rfl
@[simp] theorem ty_zero235 : tZero Tryz.prog 235 = some [.f .nilF] := by kernel_rfl
@[simp] theorem ty_size236 : tSize Tryz.prog 236 = some 1 := by kernel_rfl
@[simp] theorem ty_agg236 : tAgg Tryz.prog 236 = some false := by kernel_rfl
@[simp] theorem ty_bytes236 : tBytes Tryz.prog 236 = some 4 := by kernel_rfl
@[simp] theorem ty_sort236 : tSort Tryz.prog 236 = 3 := by kernel_rfl
@[simp] theorem ty_zero236 : tZero Tryz.prog 236 = some [.f (.int .u32 0)] := by kernel_rfl
@[simp] theorem ty_size237 : tSize Tryz.prog 237 = some 1 := by kernel_rfl
@[simp] theorem ty_agg237 : tAgg Tryz.prog 237 = some false := by kernel_rfl
@[simp] theorem ty_bytes237 : tBytes Tryz.prog 237 = some 8 := by kernel_rfl
@[simp] theorem ty_sort237 : tSort Tryz.prog 237 = 2 := by kernel_rfl
@[simp] theorem ty_zero237 : tZero Tryz.prog 237 = some [.f .nilF] := by kernel_rfl
@[simp] theorem ty_size238 : tSize Tryz.prog 238 = some 1 := by kernel_rfl
@[simp] theorem ty_agg238 : tAgg Tryz.prog 238 = some false := by kernel_rfl
@[simp] theorem ty_bytes238 : tBytes Tryz.prog 238 = some 24 := by kernel_rfl
@[simp] theorem ty_elem238 : tElem Tryz.prog 238 = some 244 := by kernel_rfl
@[simp] theorem ty_sort238 : tSort Tryz.prog 238 = 1 := by kernel_rfl
@[simp] theorem ty_zero238 : tZero Tryz.prog 238 = some [.f .nilS] := by kernel_rfl
@[simp] theorem ty_size240 : tSize Tryz.prog 240 = some 1 := by kernel_rfl
@[simp] theorem ty_agg240 : tAgg Tryz.prog 240 = some false := by kernel_rfl
@[simp] theorem ty_bytes240 : tBytes Tryz.prog 240 = some 8 := by kernel_rfl
@[simp] theorem ty_sort240 : tSort Tryz.prog 240 = 2 := by kernel_rfl
@[simp] theorem ty_zero240 : tZero Tryz.prog 240 = some [.f .nilF] := by kernel_rfl
@[simp] theorem ty_size241 : tSize Tryz.prog 241 = some 6 := by kernel_rfl
@[simp] theorem ty_agg241 : tAgg Tryz.prog 241 = some true := by kernel_rfl
@[simp] theorem ty_bytes241 : tBytes Tryz.prog 241 = some 80 := by kernel_rfl
@[simp] theorem ty_sort241 : tSort Tryz.prog 241 = 3 := by kernel_rfl
@[simp] theorem ty_zero241 : tZero Tryz.prog 241 = some [.f .nilS, .f (.int .i64 0), .f .nilS, .f (.int .i64 0), .f (.int .i64 0), .f (.int .i64 0)] := by kernel_rfl
@[simp] theorem ty_size242 : tSize Tryz.prog 242 = some 6 := by kernel_rfl
@[simp] theorem ty_agg242 : tAgg Tryz.prog 242 = some true := by kernel_rfl
@[simp] theorem ty_bytes242 : tBytes Tryz.prog 242 = some 80 := by kernel_rfl
@[simp] theorem ty_sort242 : tSort Tryz.prog 242 = 3 := by kernel_rfl
@[simp] theorem ty_zero242 : tZero Tryz.prog 242 = some [.f .nilS, .f (.int .i64 0), .f .nilS, .f (.int .i64 0), .f (.int .i64 0), .f (.int .i64 0)] := by kernel_rfl
@[simp] theorem ty_size243 : tSize Tryz.prog 243 = some 4 := by kernel_rfl
@[simp] theorem ty_agg243 : tAgg Tryz.prog 243 = some true := by kernel_rfl
@[simp] theorem ty_bytes243 : tBytes Tryz.prog 243 = some 40 := by kernel_rfl
@[simp] theorem ty_sort243 : tSort Tryz.prog 243 = 3 := by kernel_rfl
@[simp] theorem ty_zero243 : tZero Tryz.prog 243 = some [.f (.int .i64 0), .f (.str ⟨#[]⟩), .f (.int .i64 0), .f (.int .i64 0)] := by kernel_rfl
@[simp] theorem ty_size244 : tSize Tryz.prog 244 = some 4 := by kernel_rfl
@[simp] theorem ty_agg244 : tAgg Tryz.prog 244 = some true := by kernel_rfl
@[simp] theorem ty_bytes244 : tBytes Tryz.prog 244 = some 40 := by kernel_rfl
@[simp] theorem ty_sort244 : tSort Tryz.prog 244 = 3 := by kernel_rfl
@[simp] theorem ty_zero244 : tZero Tryz.prog 244 = some [.f (.int .i64 0), .f (.str ⟨#[]⟩), .f (.int .i64 0), .f (.int .i64 0)] := by kernel_rfl
@[simp] theorem ty_size245 : tSize Tryz.prog 245 = some 1 := by kernel_rfl
@[simp] theorem ty_agg245 : tAgg Tryz.prog 245 = some false := by kernel_rfl
@[simp] theorem ty_bytes245 : tBytes Tryz.prog 245 = some 8 := by kernel_rfl
@[simp] theorem ty_sort245 : tSort Tryz.prog 245 = 2 := by kernel_rfl
@[simp] theorem ty_zero245 : tZero Tryz.prog 245 = some [.f .nilF] := by kernel_rfl
@[simp] theorem ty_size246 : tSize Tryz.prog 246 = some 1 := by kernel_rfl
@[simp] theorem ty_agg246 : tAgg Tryz.prog 246 = some false := by kernel_rfl
@[simp] theorem ty_bytes246 : tBytes Tryz.prog 246 = some 8 := by kernel_rfl
@[simp] theorem ty_sort246 : tSort Tryz.prog 246 = 2 := by kernel_rfl
@[simp] theorem ty_zero246 : tZero Tryz.prog 246 = some [.f .nilF] := by kernel_rfl
@[simp] theorem ty_size247 : tSize Tryz.prog 247 = some 1 := by kernel_rfl
@[simp] theorem ty_agg247 : tAgg Tryz.prog 247 = some false := by kernel_rfl
@[simp] theorem ty_bytes247 : tBytes Tryz.prog 247 = some 8 := by kernel_rfl
@[simp] theorem ty_sort247 : tSort Tryz.prog 247 = 2 := by kernel_rfl
@[simp] theorem ty_zero247 : tZero Tryz.prog 247 = some [.f .nilF] := by kernel_rfl
@[simp] theorem ty_size248 : tSize Tryz.prog 248 = some 1 := by kernel_rfl
@[simp] theorem ty_agg248 : tAgg Tryz.prog 248 = some false := by kernel_rfl
@[simp] theorem ty_bytes248 : tBytes Tryz.prog 248 = some 24 := by kernel_rfl
@[simp] theorem ty_elem248 : tElem Tryz.prog 248 = some 284 := by kernel_rfl
@[simp] theorem ty_sort248 : tSort Tryz.prog 248 = 1 := by kernel_rfl
@[simp] theorem ty_zero248 : tZero Tryz.prog 248 = some [.f .nilS] := by kernel_rfl
@[simp] theorem ty_size249 : tSize Tryz.prog 249 = some 1 := by kernel_rfl
@[simp] theorem ty_agg249 : tAgg Tryz.prog 249 = some false := by kernel_rfl
@[simp] theorem ty_bytes249 : tBytes Tryz.prog 249 = some 8 := by kernel_rfl
@[simp] theorem ty_sort249 : tSort Tryz.prog 249 = 2 := by kernel_rfl
@[simp] theorem ty_zero249 : tZero Tryz.prog 249 = some [.f .nilF] := by kernel_rfl
@[simp] theorem ty_size253 : tSize Tryz.prog 253 = some 1 := by kernel_rfl
@[simp] theorem ty_agg253 : tAgg Tryz.prog 253 = some false := by kernel_rfl
@[simp] theorem ty_bytes253 : tBytes Tryz.prog 253 = some 8 := by kernel_rfl
@[simp] theorem ty_sort253 : tSort Tryz.prog 253 = 2 := by kernel_rfl
@[simp] theorem ty_zero253 : tZero Tryz.prog 253 = some [.f .nilF] := by kernel_rfl
@[simp] theorem ty_size254 : tSize Tryz.prog 254 = some 1 := by kernel_rfl
@[simp] theorem ty_agg254 : tAgg Tryz.prog 254 = some false := by kernel_rfl
@[simp] theorem ty_bytes254 : tBytes Tryz.prog 254 = some 8 := by kernel_rfl
@[simp] theorem ty_sort254 : tSort Tryz.prog 254 = 2 := by kernel_rfl
@[simp] theorem ty_zero254 : tZero Tryz.prog 254 = some [.f .nilF] := by kernel_rfl
@[simp] theorem ty_size255 : tSize Tryz.prog 255 = some 1 := by kernel_rfl
@[simp] theorem ty_agg255 : tAgg Tryz.prog 255 = some false := by kernel_rfl
@[simp] theorem ty_bytes255 : tBytes Tryz.prog 255 = some 8 := by kernel_rfl
@[simp] theorem ty_sort255 : tSort Tryz.prog 255 = 2 := by kernel_rfl
@[simp] theorem ty_zero255 : tZero Tryz.prog 255 = some [.f .nilF] := by kernel_rfl
@[simp] theorem ty_size256 : tSize Tryz.prog 256 = some 1 := by kernel_rfl
@[simp] theorem ty_agg256 : tAgg Tryz.prog 256 = some false := by kernel_rfl
@[simp] theorem ty_bytes256 : tBytes Tryz.prog 256 = some 8 := by kernel_rfl
@[simp] theorem ty_sort256 : tSort Tryz.prog 256 = 2 := by kernel_rfl
@[simp] theorem ty_zero256 : tZero Tryz.prog 256 = some [.f .nilF] := by kernel_rfl
@[simp] theorem ty_size257 : tSize Tryz.prog 257 = some 1 := by kernel_rfl
@[simp] theorem ty_agg257 : tAgg Tryz.prog 257 = some false := by kernel_rfl
@[simp] theorem ty_bytes257 : tBytes Tryz.prog 257 = some 8 := by kernel_rfl
@[simp] theorem ty_sort257 : tSort Tryz.prog 257 = 0 := by kernel_rfl
@[simp] theorem ty_zero257 : tZero Tryz.prog 257 = some [.f .nilP] := by kernel_rfl
@[simp] theorem ty_size258 : tSize Tryz.prog 258 = some 1 := by kernel_rfl
@[simp] theorem ty_agg258 : tAgg Tryz.prog 258 = some false := by kernel_rfl
@[simp] theorem ty_bytes258 : tBytes Tryz.prog 258 = some 8 := by kernel_rfl
@[simp] theorem ty_sort258 : tSort Tryz.prog 258 = 2 := by kernel_rfl
@[simp] theorem ty_zero258 : tZero Tryz.prog 258 = some [.f .nilF] := by kernel_rfl
@[simp] theorem ty_size259 : tSize Tryz.prog 259 = some 1 := by kernel_rfl
@[simp] theorem ty_agg259 : tAgg Tryz.prog 259 = some false := by kernel_rfl
@[simp] theorem ty_bytes259 : tBytes Tryz.prog 259 = some 8 := by kernel_rfl
@[simp] theorem ty_sort259 : tSort Tryz.prog 259 = 2 := by kernel_rfl
@[simp] theorem ty_zero259 : tZero Tryz.prog 259 = some [.f .nilF] := by kernel_rfl
@[simp] theorem ty_size260 : tSize Tryz.prog 260 = some 1 := by kernel_rfl
@[simp] theorem ty_agg260 : tAgg Tryz.prog 260 = some false := by kernel_rfl
@[simp] theorem ty_bytes260 : tBytes Tryz.prog 260 = some 8 := by kernel_rfl
@[simp] theorem ty_sort260 : tSort Tryz.prog 260 = 2 := by kernel_rfl
@[simp] theorem ty_zero260 : tZero Tryz.prog 260 = some [.f .nilF] := by kernel_rfl
@[simp] theorem ty_size261 : tSize Tryz.prog 261 = some 13 := by kernel_rfl
@[simp] theorem ty_agg261 : tAgg Tryz.prog 261 = some true := by kernel_rfl
@[simp] theorem ty_bytes261 : tBytes Tryz.prog 261 = some 208 := by kernel_rfl
@[simp] theorem ty_sort261 : tSort Tryz.prog 261 = 3 := by kernel_rfl
@[simp] theorem ty_zero261 : tZero Tryz.prog 261 = some [.f (.str ⟨#[]⟩), .f (.str ⟨#[]⟩), .f (.str ⟨#[]⟩), .f (.str ⟨#[]⟩), .f (.str ⟨#[]⟩), .f (.str ⟨#[]⟩), .f (.str ⟨#[]⟩), .f (.str ⟨#[]⟩), .f (.str ⟨#[]⟩), .f (.str ⟨#[]⟩), .f (.str ⟨#[]⟩), .f (.str ⟨#[]⟩), .f (.str ⟨#[]⟩)] := by kernel_rfl
@[simp] theorem ty_size262 : tSize Tryz.prog 262 = some 1 := by kernel_rfl
@[simp] theorem ty_agg262 : tAgg Tryz.prog 262 = some false := by kernel_rfl
@[simp] theorem ty_bytes262 : tBytes Tryz.prog 262 = some 8 := by kernel_rfl
@[simp] theorem ty_sort262 : tSort Tryz.prog 262 = 2 := by kernel_rfl
@[simp] theorem ty_zero262 : tZero Tryz.prog 262 = some [.f .nilF] := by kernel_rfl
@[simp] theorem ty_size263 : tSize Tryz.prog 263 = some 1 := by kernel_rfl
@[simp] theorem ty_agg263 : tAgg Tryz.prog 263 = some false := by kernel_rfl
@[simp] theorem ty_bytes263 : tBytes Tryz.prog 263 = some 8 := by kernel_rfl
@[simp] theorem ty_sort263 : tSort Tryz.prog 263 = 2 := by kernel_rfl
@[simp] theorem ty_zero263 : tZero Tryz.prog 263 = some [.f .nilF] := by kernel_rfl
@[simp] theorem ty_size264 : tSize Tryz.prog 264 = some 1 := by kernel_rfl
@[simp] theorem ty_agg264 : tAgg Tryz.prog 264 = some false := by kernel_rfl
@[simp] theorem ty_bytes264 : tBytes Tryz.prog 264 = some 8 := by kernel_rfl
@[simp] theorem ty_sort264 : tSort Tryz.prog 264 = 0 := by kernel_rfl
@[simp] theorem ty_zero264 : tZero Tryz.prog 264 = some [.f .nilP] := by kernel_rfl
@[simp] theorem ty_size265 : tSize Tryz.prog 265 = some 1 := by kernel_rfl
@[simp] theorem ty_agg265 : tAgg Tryz.prog 265 = some false := by kernel_rfl
@[simp] theorem ty_bytes265 : tBytes Tryz.prog 265 = some 8 := by kernel_rfl
@[simp] theorem ty_sort265 : tSort Tryz.prog 265 = 2 := by kernel_rfl
@[simp] theorem ty_zero265 : tZero Tryz.prog 265 = some [.f .nilF] := by kernel_rfl
@[simp] theorem ty_size266 : tSize Tryz.prog 266 = some 1 := by kernel_rfl
@[simp] theorem ty_agg266 : tAgg Tryz.prog 266 = some false := by kernel_rfl
@[simp] theorem ty_bytes266 : tBytes Tryz.prog 266 = some 8 := by kernel_rfl
@[simp] theorem ty_sort266 : tSort Tryz.prog 266 = 2 := by kernel_rfl
@[simp] theorem ty_zero266 : tZero Tryz.prog 266 = some [.f .nilF] := by kernel_rfl
@[simp] theorem ty_size267 : tSize Tryz.prog 267 = some 1 := by kernel_rfl
@[simp] theorem ty_agg267 : tAgg Tryz.prog 267 = some false := by kernel_rfl
@[simp] theorem ty_bytes267 : tBytes Tryz.prog 267 = some 8 := by kernel_rfl
@[simp] theorem ty_sort267 : tSort Tryz.prog 267 = 2 := by kernel_rfl
@[simp] theorem ty_zero267 : tZero Tryz.prog 267 = some [.f .nilF] := by kernel_rfl
@[simp] theorem ty_size268 : tSize Tryz.prog 268 = some 1 := by kernel_rfl
@[simp] theorem ty_agg268 : tAgg Tryz.prog 268 = some false := by kernel_rfl
@[simp] theorem ty_bytes268 : tBytes Tryz.prog 268 = some 8 := by kernel_rfl
@[simp] theorem ty_sort268 : tSort Tryz.prog 268 = 2 := by kernel_rfl
@[simp] theorem ty_zero268 : tZero Tryz.prog 268 = some [.f .nilF] := by kernel_rfl
@[simp] theorem ty_size269 : tSize Tryz.prog 269 = some 1 := by kernel_rfl
@[simp] theorem ty_agg269 : tAgg Tryz.prog 269 = some false := by kernel_rfl
@[simp] theorem ty_bytes269 : tBytes Tryz.prog 269 = some 8 := by kernel_rfl
@[simp] theorem ty_sort269 : tSort Tryz.prog 269 = 2 := by kernel_rfl
@[simp] theorem ty_zero269 : tZero Tryz.prog 269 = some [.f .nilF] := by kernel_rfl
@[simp] theorem ty_size270 : tSize Tryz.prog 270 = some 1 := by kernel_rfl
@[simp] theorem ty_agg270 : tAgg Tryz.prog 270 = some false := by kernel_rfl
@[simp] theorem ty_bytes270 : tBytes Tryz.prog 270 = some 8 := by kernel_rfl
@[simp] theorem ty_sort270 : tSort Tryz.prog 270 = 2 := by kernel_rfl
@[simp] theorem ty_zero270 : tZero Tryz.prog 270 = some [.f .nilF] := by kernel_rfl
@[simp] theorem ty_size271 : tSize Tryz.prog 271 = some 1 := by kernel_rfl
@[simp] theorem ty_agg271 : tAgg Tryz.prog 271 = some false := by kernel_rfl
@[simp] theorem ty_bytes271 : tBytes Tryz.prog 271 = some 8 := by kernel_rfl
@[simp] theorem ty_sort271 : tSort Tryz.prog 271 = 2 := by kernel_rfl
@[simp] theorem ty_zero271 : tZero Tryz.prog 271 = some [.f .nilF] := by kernel_rfl
@[simp] theorem ty_size272 : tSize Tryz.prog 272 = some 1 := by kernel_rfl
@[simp] theorem ty_agg272 : tAgg Tryz.prog 272 = some false := by kernel_rfl
@[simp] theorem ty_bytes272 : tBytes Tryz.prog 272 = some 8 := by kernel_rfl
@[simp] theorem ty_sort272 : tSort Tryz.prog 272 = 2 := by kernel_rfl
@[simp] theorem ty_zero272 : tZero Tryz.prog 272 = some [.f .nilF] := by kernel_rfl
@[simp] theorem ty_size273 : tSize Tryz.prog 273 = some 1 := by kernel_rfl
@[simp] theorem ty_agg273 : tAgg Tryz.prog 273 = some false := by kernel_rfl
@[simp] theorem ty_bytes273 : tBytes Tryz.prog 273 = some 8 := by kernel_rfl
@[simp] theorem ty_sort273 : tSort Tryz.prog 273 = 2 := by kernel_rfl
@[simp] theorem ty_zero273 : tZero Tryz.prog 273 = some [.f .nilF] := by kernel_rfl
@[simp] theorem ty_size274 : tSize Tryz.prog 274 = some 1 := by kernel_rfl
@[simp] theorem ty_agg274 : tAgg Tryz.prog 274 = some false := by kernel_rfl
@[simp] theorem ty_bytes274 : tBytes Tryz.prog 274 = some 8 := by kernel_rfl
@[simp] theorem ty_sort274 : tSort Tryz.prog 274 = 2 := by kernel_rfl
@[simp] theorem ty_zero274 : tZero Tryz.prog 274 = some [.f .nilF] := by kernel_rfl
@[simp] theorem ty_size275 : tSize Tryz.prog 275 = some 1 := by kernel_rfl
@[simp] theorem ty_agg275 : tAgg Tryz.prog 275 = some false := by kernel_rfl
@[simp] theorem ty_bytes275 : tBytes Tryz.prog 275 = some 8 := by kernel_rfl
@[simp] theorem ty_sort275 : tSort Tryz.prog 275 = 3 := by kernel_rfl
@[simp] theorem ty_zero275 : tZero Tryz.prog 275 = some [.f (.int .u64 0)] := by kernel_rfl
@[simp] theorem ty_size276 : tSize Tryz.prog 276 = some 1 := by kernel_rfl
@[simp] theorem ty_agg276 : tAgg Tryz.prog 276 = some false := by kernel_rfl
@[simp] theorem ty_bytes276 : tBytes Tryz.prog 276 = some 8 := by kernel_rfl
@[simp] theorem ty_sort276 : tSort Tryz.prog 276 = 2 := by kernel_rfl
@[simp] theorem ty_zero276 : tZero Tryz.prog 276 = some [.f .nilF] := by kernel_rfl
@[simp] theorem ty_size277 : tSize Tryz.prog 277 = some 1 := by kernel_rfl
@[simp] theorem ty_agg277 : tAgg Tryz.prog 277 = some false := by kernel_rfl
@[simp] theorem ty_bytes277 : tBytes Tryz.prog 277 = some 8 := by kernel_rfl
@[simp] theorem ty_sort277 : tSort Tryz.prog 277 = 2 := by kernel_rfl
@[simp] theorem ty_zero277 : tZero Tryz.prog 277 = some [.f .nilF] := by kernel_rfl
@[simp] theorem ty_size278 : tSize Tryz.prog 278 = some 1 := by kernel_rfl
@[simp] theorem ty_agg278 : tAgg Tryz.prog 278 = some false := by kernel_rfl
@[simp] theorem ty_bytes278 : tBytes Tryz.prog 278 = some 8 := by kernel_rfl
@[simp] theorem ty_sort278 : tSort Tryz.prog 278 = 2 := by kernel_rfl
@[simp] theorem ty_zero278 : tZero Tryz.prog 278 = some [.f .nilF] := by kernel_rfl
@[simp] theorem ty_size279 : tSize Tryz.prog 279 = some 1 := by kernel_rfl
@[simp] theorem ty_agg279 : tAgg Tryz.prog 279 = some false := by kernel_rfl
@[simp] theorem ty_bytes279 : tBytes Tryz.prog 279 = some 8 := by kernel_rfl
@[simp] theorem ty_sort279 : tSort Tryz.prog 279 = 0 := by kernel_rfl
@[simp] theorem ty_zero279 : tZero Tryz.prog 279 = some [.f .nilP] := by kernel_rfl
@[simp] theorem ty_size280 : tSize Tryz.prog 280 = some 1 := by kernel_rfl
@[simp] theorem ty_agg280 : tAgg Tryz.prog 280 = some false := by kernel_rfl
@[simp] theorem ty_bytes280 : tBytes Tryz.prog 280 = some 8 := by kernel_rfl
@[simp] theorem ty_sort280 : tSort Tryz.prog 280 = 2 := by kernel_rfl
@[simp] theorem ty_zero280 : tZero Tryz.prog 280 = some [.f .nilF] := by kernel_rfl
@[simp] theorem ty_size282 : tSize Tryz.prog 282 = some 1 := by kernel_rfl
@[simp] theorem ty_agg282 : tAgg Tryz.prog 282 = some false := by kernel_rfl
@[simp] theorem ty_bytes282 : tBytes Tryz.prog 282 = some 8 := by kernel_rfl
@[simp] theorem ty_sort282 : tSort Tryz.prog 282 = 2 := by kernel_rfl
@[simp] theorem ty_zero282 : tZero Tryz.prog 282 = some [.f .nilF] := by kernel_rfl
@[simp] theorem ty_size283 : tSize Tryz.prog 283 = some 2 := by kernel_rfl
@[simp] theorem ty_agg283 : tAgg Tryz.prog 283 = some true := by kernel_rfl
@[simp] theorem ty_bytes283 : tBytes Tryz.prog 283 = some 24 := by kernel_rfl
@[simp] theorem ty_sort283 : tSort Tryz.prog 283 = 3 := by kernel_rfl
@[simp] theorem ty_zero283 : tZero Tryz.prog 283 = some [.f (.str ⟨#[]⟩), .f (.int .i64 0)] := by kernel_rfl
@[simp] theorem ty_size284 : tSize Tryz.prog 284 = some 2 := by kernel_rfl
@[simp] theorem ty_agg284 : tAgg Tryz.prog 284 = some true := by kernel_rfl
@[simp] theorem ty_bytes284 : tBytes Tryz.prog 284 = some 24 := by kernel_rfl
@[simp] theorem ty_sort284 : tSort Tryz.prog 284 = 3 := by kernel_rfl
@[simp] theorem ty_zero284 : tZero Tryz.prog 284 = some [.f (.str ⟨#[]⟩), .f (.int .i64 0)] := by kernel_rfl
@[simp] theorem ty_size285 : tSize Tryz.prog 285 = some 1 := by kernel_rfl
@[simp] theorem ty_agg285 : tAgg Tryz.prog 285 = some false := by kernel_rfl
@[simp] theorem ty_bytes285 : tBytes Tryz.prog 285 = some 8 := by kernel_rfl
@[simp] theorem ty_sort285 : tSort Tryz.prog 285 = 2 := by kernel_rfl
@[simp] theorem ty_zero285 : tZero Tryz.prog 285 = some [.f .nilF] := by kernel_rfl
@[simp] theorem ty_size286 : tSize Tryz.prog 286 = some 1 := by kernel_rfl
@[simp] theorem ty_agg286 : tAgg Tryz.prog 286 = some false := by kernel_rfl
@[simp] theorem ty_bytes286 : tBytes Tryz.prog 286 = some 8 := by kernel_rfl
@[simp] theorem ty_sort286 : tSort Tryz.prog 286 = 2 := by kernel_rfl
@[simp] theorem ty_zero286 : tZero Tryz.prog 286 = some [.f .nilF] := by kernel_rfl
@[simp] theorem ty_size287 : tSize Tryz.prog 287 = some 1 := by kernel_rfl
@[simp] theorem ty_agg287 : tAgg Tryz.prog 287 = some false := by kernel_rfl
@[simp] theorem ty_bytes287 : tBytes Tryz.prog 287 = some 8 := by kernel_rfl
@[simp] theorem ty_sort287 : tSort Tryz.prog 287 = 2 := by kernel_rfl
@[simp] theorem ty_zero287 : tZero Tryz.prog 287 = some [.f .nilF] := by kernel_rfl
@[simp] theorem ty_size288 : tSize Tryz.prog 288 = some 1 := by kernel_rfl
@[simp] theorem ty_agg288 : tAgg Tryz.prog 288 = some false := by kernel_rfl
@[simp] theorem ty_bytes288 : tBytes Tryz.prog 288 = some 8 := by kernel_rfl
@[simp] theorem ty_sort288 : tSort Tryz.prog 288 = 2 := by kernel_rfl
@[simp] theorem ty_zero288 : tZero Tryz.prog 288 = some [.f .nilF] := by kernel_rfl
@[simp] theorem ty_size289 : tSize Tryz.prog 289 = some 1 := by kernel_rfl
@[simp] theorem ty_agg289 : tAgg Tryz.prog 289 = some false := by kernel_rfl
@[simp] theorem ty_bytes289 : tBytes Tryz.prog 289 = some 8 := by kernel_rfl
@[simp] theorem ty_sort289 : tSort Tryz.prog 289 = 2 := by kernel_rfl
@[simp] theorem ty_zero289 : tZero Tryz.prog 289 = some [.f .nilF] := by kernel_rfl
@[simp] theorem ty_size290 : tSize Tryz.prog 290 = some 23 := by kernel_rfl
@[simp] theorem ty_agg290 : tAgg Tryz.prog 290 = some true := by kernel_rfl
@[simp] theorem ty_bytes290 : tBytes Tryz.prog 290 = some 368 := by kernel_rfl
@[simp] theorem ty_sort290 : tSort Tryz.prog 290 = 3 := by kernel_rfl
@[simp] theorem ty_zero290 : tZero Tryz.prog 290 = some [.f (.str ⟨#[]⟩), .f (.str ⟨#[]⟩), .f (.str ⟨#[]⟩), .f (.str ⟨#[]⟩), .f (.str ⟨#[]⟩), .f (.str ⟨#[]⟩), .f (.str ⟨#[]⟩), .f (.str ⟨#[]⟩), .f (.str ⟨#[]⟩), .f (.str ⟨#[]⟩), .f (.str ⟨#[]⟩), .f (.str ⟨#[]⟩), .f (.str ⟨#[]⟩), .f (.str ⟨#[]⟩), .f (.str ⟨#[]⟩), .f (.str ⟨#[]⟩), .f (.str ⟨#[]⟩), .f (.str ⟨#[]⟩), .f (.str ⟨#[]⟩), .f (.str ⟨#[]⟩), .f (.str ⟨#[]⟩), .f (.str ⟨#[]⟩), .f (.str ⟨#[]⟩)] := by kernel_rfl
@[simp] theorem ty_size291 : tSize Tryz.prog 291 = some 1 := by kernel_rfl
@[simp] theorem ty_agg291 : tAgg Tryz.prog 291 = some false := by kernel_rfl
@[simp] theorem ty_bytes291 : tBytes Tryz.prog 291 = some 8 := by kernel_rfl
@[simp] theorem ty_sort291 : tSort Tryz.prog 291 = 2 := by kernel_rfl
@[simp] theorem ty_zero291 : tZero Tryz.prog 291 = some [.f .nilF] := by kernel_rfl
@[simp] theorem ty_size292 : tSize Tryz.prog 292 = some 1 := by kernel_rfl
@[simp] theorem ty_agg292 : tAgg Tryz.prog 292 = some false := by kernel_rfl
@[simp] theorem ty_bytes292 : tBytes Tryz.prog 292 = some 8 := by kernel_rfl
@[simp] theorem ty_sort292 : tSort Tryz.prog 292 = 2 := by kernel_rfl
@[simp] theorem ty_zero292 : tZero Tryz.prog 292 = some [.f .nilF] := by kernel_rfl
@[simp] theorem ty_size293 : tSize Tryz.prog 293 = some 1 := by kernel_rfl
@[simp] theorem ty_agg293 : tAgg Tryz.prog 293 = some false := by kernel_rfl
@[simp] theorem ty_bytes293 : tBytes Tryz.prog 293 = some 8 := by kernel_rfl
@[simp] theorem ty_sort293 : tSort Tryz.prog 293 = 2 := by kernel_rfl
@[simp] theorem ty_zero293 : tZero Tryz.prog 293 = some [.f .nilF] := by kernel_rfl
@[simp] theorem ty_size294 : tSize Tryz.prog 294 = some 1 := by kernel_rfl
@[simp] theorem ty_agg294 : tAgg Tryz.prog 294 = some false := by kernel_rfl
@[simp] theorem ty_bytes294 : tBytes Tryz.prog 294 = some 8 := by kernel_rfl
@[simp] theorem ty_sort294 : tSort Tryz.prog 294 = 2 := by kernel_rfl
@[simp] theorem ty_zero294 : tZero Tryz.prog 294 = some [.f .nilF] := by kernel_rfl
@[simp] theorem ty_size295 : tSize Tryz.prog 295 = some 1 := by kernel_rfl
@[simp] theorem ty_agg295 : tAgg Tryz.prog 295 = some false := by kernel_rfl
@[simp] theorem ty_bytes295 : tBytes Tryz.prog 295 = some 8 := by kernel_rfl
@[simp] theorem ty_sort295 : tSort Tryz.prog 295 = 2 := by kernel_rfl
@[simp] theorem ty_zero295 : tZero Tryz.prog 295 = some [.f .nilF] := by kernel_rfl
@[simp] theorem ty_size296 : tSize Tryz.prog 296 = some 1 := by kernel_rfl
@[simp] theorem ty_agg296 : tAgg Tryz.prog 296 = some false := by kernel_rfl
@[simp] theorem ty_bytes296 : tBytes Tryz.prog 296 = some 8 := by kernel_rfl
@[simp] theorem ty_sort296 : tSort Tryz.prog 296 = 2 := by kernel_rfl
@[simp] theorem ty_zero296 : tZero Tryz.prog 296 = some [.f .nilF] := by kernel_rfl
@[simp] theorem ty_size297 : tSize Tryz.prog 297 = some 1 := by kernel_rfl
@[simp] theorem ty_agg297 : tAgg Tryz.prog 297 = some false := by kernel_rfl
@[simp] theorem ty_bytes297 : tBytes Tryz.prog 297 = some 8 := by kernel_rfl
@[simp] theorem ty_sort297 : tSort Tryz.prog 297 = 2 := by kernel_rfl
@[simp] theorem ty_zero297 : tZero Tryz.prog 297 = some [.f .nilF] := by kernel_rfl
@[simp] theorem ty_size298 : tSize Tryz.prog 298 = some 64 := by kernel_rfl
@[simp] theorem ty_agg298 : tAgg Tryz.prog 298 = some true := by kernel_rfl
@[simp] theorem ty_bytes298 : tBytes Tryz.prog 298 = some 64 := by kernel_rfl
@[simp] theorem ty_sort298 : tSort Tryz.prog 298 = 3 := by kernel_rfl
@[simp] theorem ty_size299 : tSize Tryz.prog 299 = some 6 := by kernel_rfl
@[simp] theorem ty_agg299 : tAgg Tryz.prog 299 = some true := by kernel_rfl
@[simp] theorem ty_bytes299 : tBytes Tryz.prog 299 = some 144 := by kernel_rfl
@[simp] theorem ty_sort299 : tSort Tryz.prog 299 = 3 := by kernel_rfl
@[simp] theorem ty_zero299 : tZero Tryz.prog 299 = some [.f .nilS, .f .nilS, .f .nilS, .f .nilS, .f .nilS, .f .nilS] := by kernel_rfl
@[simp] theorem ty_size300 : tSize Tryz.prog 300 = some 6 := by kernel_rfl
@[simp] theorem ty_agg300 : tAgg Tryz.prog 300 = some true := by kernel_rfl
@[simp] theorem ty_bytes300 : tBytes Tryz.prog 300 = some 144 := by kernel_rfl
@[simp] theorem ty_sort300 : tSort Tryz.prog 300 = 3 := by kernel_rfl
@[simp] theorem ty_zero300 : tZero Tryz.prog 300 = some [.f .nilS, .f .nilS, .f .nilS, .f .nilS, .f .nilS, .f .nilS] := by kernel_rfl
@[simp] theorem ty_size301 : tSize Tryz.prog 301 = some 1 := by kernel_rfl
@[simp] theorem ty_agg301 : tAgg Tryz.prog 301 = some false := by kernel_rfl
@[simp] theorem ty_bytes301 : tBytes Tryz.prog 301 = some 8 := by kernel_rfl
@[simp] theorem ty_sort301 : tSort Tryz.prog 301 = 2 := by kernel_rfl
@[simp] theorem ty_zero301 : tZero Tryz.prog 301 = some [.f .nilF] := by kernel_rfl
@[simp] theorem ty_size302 : tSize Tryz.prog 302 = some 1 := by kernel_rfl
@[simp] theorem ty_agg302 : tAgg Tryz.prog 302 = some false := by kernel_rfl
@[simp] theorem ty_bytes302 : tBytes Tryz.prog 302 = some 8 := by kernel_rfl
@[simp] theorem ty_sort302 : tSort Tryz.prog 302 = 2 := by kernel_rfl
@[simp] theorem ty_zero302 : tZero Tryz.prog 302 = some [.f .nilF] := by kernel_rfl
@[simp] theorem ty_size303 : tSize Tryz.prog 303 = some 1 := by kernel_rfl
@[simp] theorem ty_agg303 : tAgg Tryz.prog 303 = some false := by kernel_rfl
@[simp] theorem ty_bytes303 : tBytes Tryz.prog 303 = some 8 := by kernel_rfl
@[simp] theorem ty_sort303 : tSort Tryz.prog 303 = 2 := by kernel_rfl
@[simp] theorem ty_zero303 : tZero Tryz.prog 303 = some [.f .nilF] := by kernel_rfl
@[simp] theorem ty_size304 : tSize Tryz.prog 304 = some 1 := by kernel_rfl
@[simp] theorem ty_agg304 : tAgg Tryz.prog 304 = some false := by kernel_rfl
@[simp] theorem ty_bytes304 : tBytes Tryz.prog 304 = some 8 := by kernel_rfl
@[simp] theorem ty_sort304 : tSort Tryz.prog 304 = 0 := by kernel_rfl
@[simp] theorem ty_zero304 : tZero Tryz.prog 304 = some [.f .nilP] := by kernel_rfl
@[simp] theorem ty_size306 : tSize Tryz.prog 306 = some 1 := by kernel_rfl
@[simp] theorem ty_agg306 : tAgg Tryz.prog 306 = some false := by kernel_rfl
@[simp] theorem ty_bytes306 : tBytes Tryz.prog 306 = some 8 := by kernel_rfl
@[simp] theorem ty_sort306 : tSort Tryz.prog 306 = 2 := by kernel_rfl
@[simp] theorem ty_zero306 : tZero Tryz.prog 306 = some [.f .nilF] := by kernel_rfl
@[simp] theorem ty_size307 : tSize Tryz.prog 307 = some 1 := by kernel_rfl
@[simp] theorem ty_agg307 : tAgg Tryz.prog 307 = some false := by kernel_rfl
@[simp] theorem ty_bytes307 : tBytes Tryz.prog 307 = some 8 := by kernel_rfl
@[simp] theorem ty_sort307 : tSort Tryz.prog 307 = 2 := by kernel_rfl
@[simp] theorem ty_zero307 : tZero Tryz.prog 307 = some [.f .nilF] := by kernel_rfl
@[simp] theorem ty_size308 : tSize Tryz.prog 308 = some 1 := by kernel_rfl
@[simp] theorem ty_agg308 : tAgg Tryz.prog 308 = some false := by kernel_rfl
@[simp] theorem ty_bytes308 : tBytes Tryz.prog 308 = some 8 := by kernel_rfl
@[simp] theorem ty_sort308 : tSort Tryz.prog 308 = 2 := by kernel_rfl
@[simp] theorem ty_zero308 : tZero Tryz.prog 308 = some [.f .nilF] := by kernel_rfl
@[simp] theorem ty_size310 : tSize Tryz.prog 310 = some 1 := by kernel_rfl
@[simp] theorem ty_agg310 : tAgg Tryz.prog 310 = some false := by kernel_rfl
@[simp] theorem ty_bytes310 : tBytes Tryz.prog 310 = some 8 := by kernel_rfl
@[simp] theorem ty_sort310 : tSort Tryz.prog 310 = 2 := by kernel_rfl
@[simp] theorem ty_zero310 : tZero Tryz.prog 310 = some [.f .nilF] := by kernel_rfl
@[simp] theorem ty_size311 : tSize Tryz.prog 311 = some 1 := by kernel_rfl
@[simp] theorem ty_agg311 : tAgg Tryz.prog 311 = some false := by kernel_rfl
@[simp] theorem ty_bytes311 : tBytes Tryz.prog 311 = some 8 := by kernel_rfl
@[simp] theorem ty_sort311 : tSort Tryz.prog 311 = 2 := by kernel_rfl
@[simp] theorem ty_zero311 : tZero Tryz.prog 311 = some [.f .nilF] := by kernel_rfl
@[simp] theorem ty_size312 : tSize Tryz.prog 312 = some 1 := by kernel_rfl
@[simp] theorem ty_agg312 : tAgg Tryz.prog 312 = some false := by kernel_rfl
@[simp] theorem ty_bytes312 : tBytes Tryz.prog 312 = some 8 := by kernel_rfl
@[simp] theorem ty_sort312 : tSort Tryz.prog 312 = 2 := by kernel_rfl
@[simp] theorem ty_zero312 : tZero Tryz.prog 312 = some [.f .nilF] := by kernel_rfl
@[simp] theorem ty_size313 : tSize Tryz.prog 313 = some 1 := by kernel_rfl
@[simp] theorem ty_agg313 : tAgg Tryz.prog 313 = some false := by kernel_rfl
@[simp] theorem ty_bytes313 : tBytes Tryz.prog 313 = some 8 := by kernel_rfl
@[simp] theorem ty_sort313 : tSort Tryz.prog 313 = 2 := by kernel_rfl
@[simp] theorem ty_zero313 : tZero Tryz.prog 313 = some [.f .nilF] := by kernel_rfl
@[simp] theorem ty_size314 : tSize Tryz.prog 314 = some 24 := by kernel_rfl
@[simp] theorem ty_agg314 : tAgg Tryz.prog 314 = some true := by kernel_rfl
@[simp] theorem ty_bytes314 : tBytes Tryz.prog 314 = some 24 := by kernel_rfl
@[simp] theorem ty_sort314 : tSort Tryz.prog 314 = 3 := by kernel_rfl
@[simp] theorem ty_zero314 : tZero Tryz.prog 314 = some [.f (.int .u8 0), .f (.int .u8 0), .f (.int .u8 0), .f (.int .u8 0), .f (.int .u8 0), .f (.int .u8 0), .f (.int .u8 0), .f (.int .u8 0), .f (.int .u8 0), .f (.int .u8 0), .f (.int .u8 0), .f (.int .u8 0), .f (.int .u8 0), .f (.int .u8 0), .f (.int .u8 0), .f (.int .u8 0), .f (.int .u8 0), .f (.int .u8 0), .f (.int .u8 0), .f (.int .u8 0), .f (.int .u8 0), .f (.int .u8 0), .f (.int .u8 0), .f (.int .u8 0)] := by kernel_rfl
@[simp] theorem ty_size315 : tSize Tryz.prog 315 = some 1 := by kernel_rfl
@[simp] theorem ty_agg315 : tAgg Tryz.prog 315 = some false := by kernel_rfl
@[simp] theorem ty_bytes315 : tBytes Tryz.prog 315 = some 8 := by kernel_rfl
@[simp] theorem ty_sort315 : tSort Tryz.prog 315 = 2 := by kernel_rfl
@[simp] theorem ty_zero315 : tZero Tryz.prog 315 = some [.f .nilF] := by kernel_rfl
@[simp] theorem ty_size317 : tSize Tryz.prog 317 = some 1 := by kernel_rfl
@[simp] theorem ty_agg317 : tAgg Tryz.prog 317 = some false := by kernel_rfl
@[simp] theorem ty_bytes317 : tBytes Tryz.prog 317 = some 8 := by kernel_rfl
@[simp] theorem ty_sort317 : tSort Tryz.prog 317 = 2 := by kernel_rfl
@[simp] theorem ty_zero317 : tZero Tryz.prog 317 = some [.f .nilF] := by kernel_rfl
@[simp] theorem ty_size318 : tSize Tryz.prog 318 = some 1 := by kernel_rfl
@[simp] theorem ty_agg318 : tAgg Tryz.prog 318 = some false := by kernel_rfl
@[simp] theorem ty_bytes318 : tBytes Tryz.prog 318 = some 8 := by kernel_rfl
@[simp] theorem ty_sort318 : tSort Tryz.prog 318 = 2 := by kernel_rfl
@[simp] theorem ty_zero318 : tZero Tryz.prog 318 = some [.f .nilF] := by kernel_rfl
@[simp] theorem ty_size319 : tSize Tryz.prog 319 = some 20 := by kernel_rfl
@[simp] theorem ty_agg319 : tAgg Tryz.prog 319 = some true := by kernel_rfl
@[simp] theorem ty_bytes319 : tBytes Tryz.prog 319 = some 160 := by kernel_rfl
@[simp] theorem ty_sort319 : tSort Tryz.prog 319 = 3 := by kernel_rfl
@[simp] theorem ty_zero319 : tZero Tryz.prog 319 = some [.f (.int .u64 0), .f (.int .u64 0), .f (.int .u64 0), .f (.int .u64 0), .f (.int .u64 0), .f (.int .u64 0), .f (.int .u64 0), .f (.int .u64 0), .f (.int .u64 0), .f (.int .u64 0), .f (.int .u64 0), .f (.int .u64 0), .f (.int .u64 0), .f (.int .u64 0), .f (.int .u64 0), .f (.int .u64 0), .f (.int .u64 0), .f (.int .u64 0), .f (.int .u64 0), .f (.int .u64 0)] := by kernel_rfl
@[simp] theorem ty_size320 : tSize Tryz.prog 320 = some 65 := by kernel_rfl
@[simp] theorem ty_agg320 : tAgg Tryz.prog 320 = some true := by kernel_rfl
@[simp] theorem ty_bytes320 : tBytes Tryz.prog 320 = some 65 := by kernel_rfl
@[simp] theorem ty_sort320 : tSort Tryz.prog 320 = 3 := by kernel_rfl
@[simp] theorem ty_size321 : tSize Tryz.prog 321 = some 32 := by kernel_rfl
@[simp] theorem ty_agg321 : tAgg Tryz.prog 321 = some true := by kernel_rfl
@[simp] theorem ty_bytes321 : tBytes Tryz.prog 321 = some 32 := by kernel_rfl
@[simp] theorem ty_sort321 : tSort Tryz.prog 321 = 3 := by kernel_rfl
@[simp] theorem ty_size323 : tSize Tryz.prog 323 = some 4 := by kernel_rfl
@[simp] theorem ty_agg323 : tAgg Tryz.prog 323 = some true := by kernel_rfl
@[simp] theorem ty_bytes323 : tBytes Tryz.prog 323 = some 40 := by kernel_rfl
@[simp] theorem ty_sort323 : tSort Tryz.prog 323 = 3 := by kernel_rfl
@[simp] theorem ty_zero323 : tZero Tryz.prog 323 = some [.f .nilP, .f .nilP, .f .nilP, .f (.str ⟨#[]⟩)] := by kernel_rfl
@[simp] theorem ty_size324 : tSize Tryz.prog 324 = some 0 := by kernel_rfl
@[simp] theorem ty_agg324 : tAgg Tryz.prog 324 = some true := by kernel_rfl
@[simp] theorem ty_bytes324 : tBytes Tryz.prog 324 = some 0 := by kernel_rfl
@[simp] theorem ty_sort324 : tSort Tryz.prog 324 = 3 := by kernel_rfl
@[simp] theorem ty_zero324 : tZero Tryz.prog 324 = some [] := by kernel_rfl
@[simp] theorem ty_size325 : tSize Tryz.prog 325 = some 0 := by kernel_rfl
@[simp] theorem ty_agg325 : tAgg Tryz.prog 325 = some true := by kernel_rfl
@[simp] theorem ty_bytes325 : tBytes Tryz.prog 325 = some 0 := by kernel_rfl
@[simp] theorem ty_sort325 : tSort Tryz.prog 325 = 3 := by kernel_rfl
@[simp] theorem ty_zero325 : tZero Tryz.prog 325 = some [] := by kernel_rfl
@[simp] theorem ty_size326 : tSize Tryz.prog 326 = some 0 := by kernel_rfl
@[simp] theorem ty_agg326 : tAgg Tryz.prog 326 = some true := by kernel_rfl
@[simp] theorem ty_bytes326 : tBytes Tryz.prog 326 = some 0 := by kernel_rfl
@[simp] theorem ty_sort326 : tSort Tryz.prog 326 = 3 := by kernel_rfl
@[simp] theorem ty_zero326 : tZero Tryz.prog 326 = some [] := by kernel_rfl
@[simp] theorem ty_size329 : tSize Tryz.prog 329 = some 1 := by kernel_rfl
@[simp] theorem ty_agg329 : tAgg Tryz.prog 329 = some false := by kernel_rfl
@[simp] theorem ty_bytes329 : tBytes Tryz.prog 329 = some 8 := by kernel_rfl
@[simp] theorem ty_sort329 : tSort Tryz.prog 329 = 2 := by kernel_rfl
@[simp] theorem ty_zero329 : tZero Tryz.prog 329 = some [.f .nilF] := by kernel_rfl
theorem fn_3 : fnOf Tryz.prog 3 = some ⟨Tryz.f3.body.getD .skip, Tryz.f3.ntmps, Tryz.f3.results.toList⟩ := by kernel_rfl   -- watchglass/watchglasslaw24.BackPlays
theorem fn_4 : fnOf Tryz.prog 4 = some ⟨Tryz.f4.body.getD .skip, Tryz.f4.ntmps, Tryz.f4.results.toList⟩ := by kernel_rfl   -- watchglass/watchglasslaw24.BackRate
theorem fn_5 : fnOf Tryz.prog 5 = some ⟨Tryz.f5.body.getD .skip, Tryz.f5.ntmps, Tryz.f5.results.toList⟩ := by kernel_rfl   -- watchglass/watchglasslaw24.BackCopy
theorem fn_6 : fnOf Tryz.prog 6 = some ⟨Tryz.f6.body.getD .skip, Tryz.f6.ntmps, Tryz.f6.results.toList⟩ := by kernel_rfl   -- watchglass/watchglasslaw24.BackNil
theorem fn_7 : fnOf Tryz.prog 7 = some ⟨Tryz.f7.body.getD .skip, Tryz.f7.ntmps, Tryz.f7.results.toList⟩ := by kernel_rfl   -- watchglass/watchglasslaw24.BackReach
theorem fn_8 : fnOf Tryz.prog 8 = some ⟨Tryz.f8.body.getD .skip, Tryz.f8.ntmps, Tryz.f8.results.toList⟩ := by kernel_rfl   -- watchglass/watchglasslaw16.SugarSize
theorem fn_9 : fnOf Tryz.prog 9 = some ⟨Tryz.f9.body.getD .skip, Tryz.f9.ntmps, Tryz.f9.results.toList⟩ := by kernel_rfl   -- watchglass/watchglasslaw17.NormOnce
theorem fn_10 : fnOf Tryz.prog 10 = some ⟨Tryz.f10.body.getD .skip, Tryz.f10.ntmps, Tryz.f10.results.toList⟩ := by kernel_rfl   -- watchglass/watchglasslaw16.SugarSame
theorem fn_11 : fnOf Tryz.prog 11 = some ⟨Tryz.f11.body.getD .skip, Tryz.f11.ntmps, Tryz.f11.results.toList⟩ := by kernel_rfl   -- watchglass/watchglasslaw17.NormSame
theorem fn_12 : fnOf Tryz.prog 12 = some ⟨Tryz.f12.body.getD .skip, Tryz.f12.ntmps, Tryz.f12.results.toList⟩ := by kernel_rfl   -- watchglass/watchglasslaw24.awake
theorem fn_13 : fnOf Tryz.prog 13 = some ⟨Tryz.f13.body.getD .skip, Tryz.f13.ntmps, Tryz.f13.results.toList⟩ := by kernel_rfl   -- watchglass/back.New
theorem fn_14 : fnOf Tryz.prog 14 = some ⟨Tryz.f14.body.getD .skip, Tryz.f14.ntmps, Tryz.f14.results.toList⟩ := by kernel_rfl   -- watchglass/watchglassref1.Reg
theorem fn_15 : fnOf Tryz.prog 15 = some ⟨Tryz.f15.body.getD .skip, Tryz.f15.ntmps, Tryz.f15.results.toList⟩ := by kernel_rfl   -- watchglass/watchglassref1.MaySpan
theorem fn_16 : fnOf Tryz.prog 16 = some ⟨Tryz.f16.body.getD .skip, Tryz.f16.ntmps, Tryz.f16.results.toList⟩ := by kernel_rfl   -- watchglass/watchglasslaw24.did
theorem fn_17 : fnOf Tryz.prog 17 = some ⟨Tryz.f17.body.getD .skip, Tryz.f17.ntmps, Tryz.f17.results.toList⟩ := by kernel_rfl   -- watchglass/watchglassref18.NewBack
theorem fn_18 : fnOf Tryz.prog 18 = some ⟨Tryz.f18.body.getD .skip, Tryz.f18.ntmps, Tryz.f18.results.toList⟩ := by kernel_rfl   -- watchglass/watchglasslaw5.Reg
theorem fn_19 : fnOf Tryz.prog 19 = some ⟨Tryz.f19.body.getD .skip, Tryz.f19.ntmps, Tryz.f19.results.toList⟩ := by kernel_rfl   -- watchglass/watchglasslaw5.Span
theorem fn_20 : fnOf Tryz.prog 20 = some ⟨Tryz.f20.body.getD .skip, Tryz.f20.ntmps, Tryz.f20.results.toList⟩ := by kernel_rfl   -- watchglass/watchglassref14.Steps
theorem fn_21 : fnOf Tryz.prog 21 = some ⟨Tryz.f21.body.getD .skip, Tryz.f21.ntmps, Tryz.f21.results.toList⟩ := by kernel_rfl   -- (*watchglass/back.Back).Step
theorem fn_22 : fnOf Tryz.prog 22 = some ⟨Tryz.f22.body.getD .skip, Tryz.f22.ntmps, Tryz.f22.results.toList⟩ := by kernel_rfl   -- (*watchglass/back.Back).Buckets
theorem fn_23 : fnOf Tryz.prog 23 = some ⟨Tryz.f23.body.getD .skip, Tryz.f23.ntmps, Tryz.f23.results.toList⟩ := by kernel_rfl   -- watchglass/ival.Wide
theorem fn_24 : fnOf Tryz.prog 24 = some ⟨Tryz.f24.body.getD .skip, Tryz.f24.ntmps, Tryz.f24.results.toList⟩ := by kernel_rfl   -- watchglass/watchglassref1.Has
theorem fn_25 : fnOf Tryz.prog 25 = some ⟨Tryz.f25.body.getD .skip, Tryz.f25.ntmps, Tryz.f25.results.toList⟩ := by kernel_rfl   -- (*watchglass/back.Back).Cells
theorem fn_26 : fnOf Tryz.prog 26 = some ⟨Tryz.f26.body.getD .skip, Tryz.f26.ntmps, Tryz.f26.results.toList⟩ := by kernel_rfl   -- (*watchglass/watchglassref18.Back).Step
theorem fn_27 : fnOf Tryz.prog 27 = some ⟨Tryz.f27.body.getD .skip, Tryz.f27.ntmps, Tryz.f27.results.toList⟩ := by kernel_rfl   -- (*watchglass/back.Back).Copy
theorem fn_28 : fnOf Tryz.prog 28 = some ⟨Tryz.f28.body.getD .skip, Tryz.f28.ntmps, Tryz.f28.results.toList⟩ := by kernel_rfl   -- watchglass/watchglassref18.SameBuckets
theorem fn_29 : fnOf Tryz.prog 29 = some ⟨Tryz.f29.body.getD .skip, Tryz.f29.ntmps, Tryz.f29.results.toList⟩ := by kernel_rfl   -- watchglass/watchglasslaw24.Short
theorem fn_30 : fnOf Tryz.prog 30 = some ⟨Tryz.f30.body.getD .skip, Tryz.f30.ntmps, Tryz.f30.results.toList⟩ := by kernel_rfl   -- watchglass/paths.Reach
theorem fn_31 : fnOf Tryz.prog 31 = some ⟨Tryz.f31.body.getD .skip, Tryz.f31.ntmps, Tryz.f31.results.toList⟩ := by kernel_rfl   -- watchglass/ival.Has
theorem fn_32 : fnOf Tryz.prog 32 = some ⟨Tryz.f32.body.getD .skip, Tryz.f32.ntmps, Tryz.f32.results.toList⟩ := by kernel_rfl   -- watchglass/watchglasslaw5.Make
theorem fn_33 : fnOf Tryz.prog 33 = some ⟨Tryz.f33.body.getD .skip, Tryz.f33.ntmps, Tryz.f33.results.toList⟩ := by kernel_rfl   -- watchglass/sugar.Plain
theorem fn_34 : fnOf Tryz.prog 34 = some ⟨Tryz.f34.body.getD .skip, Tryz.f34.ntmps, Tryz.f34.results.toList⟩ := by kernel_rfl   -- watchglass/tree.Plain
theorem fn_35 : fnOf Tryz.prog 35 = some ⟨Tryz.f35.body.getD .skip, Tryz.f35.ntmps, Tryz.f35.results.toList⟩ := by kernel_rfl   -- watchglass/tree.Reg
theorem fn_36 : fnOf Tryz.prog 36 = some ⟨Tryz.f36.body.getD .skip, Tryz.f36.ntmps, Tryz.f36.results.toList⟩ := by kernel_rfl   -- slices.Equal[[]string,string]
theorem fn_37 : fnOf Tryz.prog 37 = some ⟨Tryz.f37.body.getD .skip, Tryz.f37.ntmps, Tryz.f37.results.toList⟩ := by kernel_rfl   -- watchglass/tree.Names
theorem fn_38 : fnOf Tryz.prog 38 = some ⟨Tryz.f38.body.getD .skip, Tryz.f38.ntmps, Tryz.f38.results.toList⟩ := by kernel_rfl   -- watchglass/watchglassref1.SameNodes
theorem fn_39 : fnOf Tryz.prog 39 = some ⟨Tryz.f39.body.getD .skip, Tryz.f39.ntmps, Tryz.f39.results.toList⟩ := by kernel_rfl   -- watchglass/watchglasslaw16.awake
theorem fn_40 : fnOf Tryz.prog 40 = some ⟨Tryz.f40.body.getD .skip, Tryz.f40.ntmps, Tryz.f40.results.toList⟩ := by kernel_rfl   -- watchglass/norm.Norm
theorem fn_41 : fnOf Tryz.prog 41 = some ⟨Tryz.f41.body.getD .skip, Tryz.f41.ntmps, Tryz.f41.results.toList⟩ := by kernel_rfl   -- slices.Contains[[]string,string]
theorem fn_42 : fnOf Tryz.prog 42 = some ⟨Tryz.f42.body.getD .skip, Tryz.f42.ntmps, Tryz.f42.results.toList⟩ := by kernel_rfl   -- watchglass/watchglasslaw17.awake
theorem fn_43 : fnOf Tryz.prog 43 = some ⟨Tryz.f43.body.getD .skip, Tryz.f43.ntmps, Tryz.f43.results.toList⟩ := by kernel_rfl   -- watchglass/watchglasslaw8.Make
theorem fn_44 : fnOf Tryz.prog 44 = some ⟨Tryz.f44.body.getD .skip, Tryz.f44.ntmps, Tryz.f44.results.toList⟩ := by kernel_rfl   -- watchglass/sat.All
theorem fn_45 : fnOf Tryz.prog 45 = some ⟨Tryz.f45.body.getD .skip, Tryz.f45.ntmps, Tryz.f45.results.toList⟩ := by kernel_rfl   -- watchglass/tree.Form
theorem fn_46 : fnOf Tryz.prog 46 = some ⟨Tryz.f46.body.getD .skip, Tryz.f46.ntmps, Tryz.f46.results.toList⟩ := by kernel_rfl   -- slices.Equal[[]bool,bool]
theorem fn_47 : fnOf Tryz.prog 47 = some ⟨Tryz.f47.body.getD .skip, Tryz.f47.ntmps, Tryz.f47.results.toList⟩ := by kernel_rfl   -- watchglass/runs.New
theorem fn_48 : fnOf Tryz.prog 48 = some ⟨Tryz.f48.body.getD .skip, Tryz.f48.ntmps, Tryz.f48.results.toList⟩ := by kernel_rfl   -- watchglass/ival.May
theorem fn_49 : fnOf Tryz.prog 49 = some ⟨Tryz.f49.body.getD .skip, Tryz.f49.ntmps, Tryz.f49.results.toList⟩ := by kernel_rfl   -- watchglass/watchglassref1.May
theorem fn_50 : fnOf Tryz.prog 50 = some ⟨Tryz.f50.body.getD .skip, Tryz.f50.ntmps, Tryz.f50.results.toList⟩ := by kernel_rfl   -- watchglass/watchglassref1.FormKind
theorem fn_51 : fnOf Tryz.prog 51 = some ⟨Tryz.f51.body.getD .skip, Tryz.f51.ntmps, Tryz.f51.results.toList⟩ := by kernel_rfl   -- watchglass/watchglassref18.Cells
theorem fn_52 : fnOf Tryz.prog 52 = some ⟨Tryz.f52.body.getD .skip, Tryz.f52.ntmps, Tryz.f52.results.toList⟩ := by kernel_rfl   -- (*watchglass/watchglassref18.Memo).Cells
theorem fn_53 : fnOf Tryz.prog 53 = some ⟨Tryz.f53.body.getD .skip, Tryz.f53.ntmps, Tryz.f53.results.toList⟩ := by kernel_rfl   -- watchglass/watchglassref18.NewRun
theorem fn_54 : fnOf Tryz.prog 54 = some ⟨Tryz.f54.body.getD .skip, Tryz.f54.ntmps, Tryz.f54.results.toList⟩ := by kernel_rfl   -- watchglass/watchglasslaw5.build
theorem fn_55 : fnOf Tryz.prog 55 = some ⟨Tryz.f55.body.getD .skip, Tryz.f55.ntmps, Tryz.f55.results.toList⟩ := by kernel_rfl   -- watchglass/watchglassref14.places
theorem fn_56 : fnOf Tryz.prog 56 = some ⟨Tryz.f56.body.getD .skip, Tryz.f56.ntmps, Tryz.f56.results.toList⟩ := by kernel_rfl   -- watchglass/window.Add
theorem fn_57 : fnOf Tryz.prog 57 = some ⟨Tryz.f57.body.getD .skip, Tryz.f57.ntmps, Tryz.f57.results.toList⟩ := by kernel_rfl   -- watchglass/window.Shift
theorem fn_58 : fnOf Tryz.prog 58 = some ⟨Tryz.f58.body.getD .skip, Tryz.f58.ntmps, Tryz.f58.results.toList⟩ := by kernel_rfl   -- watchglass/bits.Of
theorem fn_59 : fnOf Tryz.prog 59 = some ⟨Tryz.f59.body.getD .skip, Tryz.f59.ntmps, Tryz.f59.results.toList⟩ := by kernel_rfl   -- (*watchglass/runs.Run).Move
theorem fn_60 : fnOf Tryz.prog 60 = some ⟨Tryz.f60.body.getD .skip, Tryz.f60.ntmps, Tryz.f60.results.toList⟩ := by kernel_rfl   -- watchglass/ival.In
theorem fn_61 : fnOf Tryz.prog 61 = some ⟨Tryz.f61.body.getD .skip, Tryz.f61.ntmps, Tryz.f61.results.toList⟩ := by kernel_rfl   -- watchglass/ival.last
theorem fn_62 : fnOf Tryz.prog 62 = some ⟨Tryz.f62.body.getD .skip, Tryz.f62.ntmps, Tryz.f62.results.toList⟩ := by kernel_rfl   -- watchglass/window.Cells
theorem fn_63 : fnOf Tryz.prog 63 = some ⟨Tryz.f63.body.getD .skip, Tryz.f63.ntmps, Tryz.f63.results.toList⟩ := by kernel_rfl   -- (*watchglass/runs.Run).Cells
theorem fn_64 : fnOf Tryz.prog 64 = some ⟨Tryz.f64.body.getD .skip, Tryz.f64.ntmps, Tryz.f64.results.toList⟩ := by kernel_rfl   -- watchglass/watchglassref18.Add
theorem fn_65 : fnOf Tryz.prog 65 = some ⟨Tryz.f65.body.getD .skip, Tryz.f65.ntmps, Tryz.f65.results.toList⟩ := by kernel_rfl   -- watchglass/watchglassref18.Shift
theorem fn_66 : fnOf Tryz.prog 66 = some ⟨Tryz.f66.body.getD .skip, Tryz.f66.ntmps, Tryz.f66.results.toList⟩ := by kernel_rfl   -- watchglass/watchglassref1.One
theorem fn_67 : fnOf Tryz.prog 67 = some ⟨Tryz.f67.body.getD .skip, Tryz.f67.ntmps, Tryz.f67.results.toList⟩ := by kernel_rfl   -- (*watchglass/watchglassref18.Run).Move
theorem fn_68 : fnOf Tryz.prog 68 = some ⟨Tryz.f68.body.getD .skip, Tryz.f68.ntmps, Tryz.f68.results.toList⟩ := by kernel_rfl   -- watchglass/watchglassref1.In
theorem fn_69 : fnOf Tryz.prog 69 = some ⟨Tryz.f69.body.getD .skip, Tryz.f69.ntmps, Tryz.f69.results.toList⟩ := by kernel_rfl   -- (*watchglass/runs.Run).Copy
theorem fn_70 : fnOf Tryz.prog 70 = some ⟨Tryz.f70.body.getD .skip, Tryz.f70.ntmps, Tryz.f70.results.toList⟩ := by kernel_rfl   -- watchglass/watchglassref1.SameWords
theorem fn_71 : fnOf Tryz.prog 71 = some ⟨Tryz.f71.body.getD .skip, Tryz.f71.ntmps, Tryz.f71.results.toList⟩ := by kernel_rfl   -- watchglass/paths.own
theorem fn_72 : fnOf Tryz.prog 72 = some ⟨Tryz.f72.body.getD .skip, Tryz.f72.ntmps, Tryz.f72.results.toList⟩ := by kernel_rfl   -- watchglass/paths.empty
theorem fn_73 : fnOf Tryz.prog 73 = some ⟨Tryz.f73.body.getD .skip, Tryz.f73.ntmps, Tryz.f73.results.toList⟩ := by kernel_rfl   -- watchglass/bits.Has
theorem fn_74 : fnOf Tryz.prog 74 = some ⟨Tryz.f74.body.getD .skip, Tryz.f74.ntmps, Tryz.f74.results.toList⟩ := by kernel_rfl   -- watchglass/paths.both
theorem fn_75 : fnOf Tryz.prog 75 = some ⟨Tryz.f75.body.getD .skip, Tryz.f75.ntmps, Tryz.f75.results.toList⟩ := by kernel_rfl   -- watchglass/paths.product
theorem fn_76 : fnOf Tryz.prog 76 = some ⟨Tryz.f76.body.getD .skip, Tryz.f76.ntmps, Tryz.f76.results.toList⟩ := by kernel_rfl   -- watchglass/paths.closure
theorem fn_77 : fnOf Tryz.prog 77 = some ⟨Tryz.f77.body.getD .skip, Tryz.f77.ntmps, Tryz.f77.results.toList⟩ := by kernel_rfl   -- watchglass/tree.May
theorem fn_78 : fnOf Tryz.prog 78 = some ⟨Tryz.f78.body.getD .skip, Tryz.f78.ntmps, Tryz.f78.results.toList⟩ := by kernel_rfl   -- watchglass/sugar.made
theorem fn_79 : fnOf Tryz.prog 79 = some ⟨Tryz.f79.body.getD .skip, Tryz.f79.ntmps, Tryz.f79.results.toList⟩ := by kernel_rfl   -- slices.ContainsFunc[[]watchglass/api.Node,watchglass/api.Node]
theorem fn_80 : fnOf Tryz.prog 80 = some ⟨Tryz.f80.body.getD .skip, Tryz.f80.ntmps, Tryz.f80.results.toList⟩ := by kernel_rfl   -- watchglass/tree.Plain$1
theorem fn_81 : fnOf Tryz.prog 81 = some ⟨Tryz.f81.body.getD .skip, Tryz.f81.ntmps, Tryz.f81.results.toList⟩ := by kernel_rfl   -- watchglass/tree.reg
theorem fn_82 : fnOf Tryz.prog 82 = some ⟨Tryz.f82.body.getD .skip, Tryz.f82.ntmps, Tryz.f82.results.toList⟩ := by kernel_rfl   -- slices.Sort[[]string,string]
theorem fn_83 : fnOf Tryz.prog 83 = some ⟨Tryz.f83.body.getD .skip, Tryz.f83.ntmps, Tryz.f83.results.toList⟩ := by kernel_rfl   -- slices.Compact[[]string,string]
theorem fn_84 : fnOf Tryz.prog 84 = some ⟨Tryz.f84.body.getD .skip, Tryz.f84.ntmps, Tryz.f84.results.toList⟩ := by kernel_rfl   -- slices.Equal[[]int,int]
theorem fn_85 : fnOf Tryz.prog 85 = some ⟨Tryz.f85.body.getD .skip, Tryz.f85.ntmps, Tryz.f85.results.toList⟩ := by kernel_rfl   -- watchglass/parse.Parse
theorem fn_86 : fnOf Tryz.prog 86 = some ⟨Tryz.f86.body.getD .skip, Tryz.f86.ntmps, Tryz.f86.results.toList⟩ := by kernel_rfl   -- watchglass/show.Text
theorem fn_87 : fnOf Tryz.prog 87 = some ⟨Tryz.f87.body.getD .skip, Tryz.f87.ntmps, Tryz.f87.results.toList⟩ := by kernel_rfl   -- watchglass/norm.simpler
theorem fn_88 : fnOf Tryz.prog 88 = some ⟨Tryz.f88.body.getD .skip, Tryz.f88.ntmps, Tryz.f88.results.toList⟩ := by kernel_rfl   -- watchglass/tree.Join
theorem fn_89 : fnOf Tryz.prog 89 = some ⟨Tryz.f89.body.getD .skip, Tryz.f89.ntmps, Tryz.f89.results.toList⟩ := by kernel_rfl   -- slices.Index[[]string,string]
theorem fn_90 : fnOf Tryz.prog 90 = some ⟨Tryz.f90.body.getD .skip, Tryz.f90.ntmps, Tryz.f90.results.toList⟩ := by kernel_rfl   -- watchglass/watchglasslaw8.ids
theorem fn_91 : fnOf Tryz.prog 91 = some ⟨Tryz.f91.body.getD .skip, Tryz.f91.ntmps, Tryz.f91.results.toList⟩ := by kernel_rfl   -- watchglass/trace.May
theorem fn_92 : fnOf Tryz.prog 92 = some ⟨Tryz.f92.body.getD .skip, Tryz.f92.ntmps, Tryz.f92.results.toList⟩ := by kernel_rfl   -- (*watchglass/sat.truth).match
theorem fn_93 : fnOf Tryz.prog 93 = some ⟨Tryz.f93.body.getD .skip, Tryz.f93.ntmps, Tryz.f93.results.toList⟩ := by kernel_rfl   -- (*watchglass/sat.truth).time
theorem fn_94 : fnOf Tryz.prog 94 = some ⟨Tryz.f94.body.getD .skip, Tryz.f94.ntmps, Tryz.f94.results.toList⟩ := by kernel_rfl   -- (*watchglass/sat.truth).logic
theorem fn_95 : fnOf Tryz.prog 95 = some ⟨Tryz.f95.body.getD .skip, Tryz.f95.ntmps, Tryz.f95.results.toList⟩ := by kernel_rfl   -- watchglass/auto.New
theorem fn_96 : fnOf Tryz.prog 96 = some ⟨Tryz.f96.body.getD .skip, Tryz.f96.ntmps, Tryz.f96.results.toList⟩ := by kernel_rfl   -- watchglass/memo.New
theorem fn_97 : fnOf Tryz.prog 97 = some ⟨Tryz.f97.body.getD .skip, Tryz.f97.ntmps, Tryz.f97.results.toList⟩ := by kernel_rfl   -- watchglass/watchglassref1.Arity
theorem fn_98 : fnOf Tryz.prog 98 = some ⟨Tryz.f98.body.getD .skip, Tryz.f98.ntmps, Tryz.f98.results.toList⟩ := by kernel_rfl   -- watchglass/watchglassref1.Name
theorem fn_99 : fnOf Tryz.prog 99 = some ⟨Tryz.f99.body.getD .skip, Tryz.f99.ntmps, Tryz.f99.results.toList⟩ := by kernel_rfl   -- watchglass/watchglassref1.Timed
theorem fn_100 : fnOf Tryz.prog 100 = some ⟨Tryz.f100.body.getD .skip, Tryz.f100.ntmps, Tryz.f100.results.toList⟩ := by kernel_rfl   -- watchglass/watchglassref1.fits
theorem fn_101 : fnOf Tryz.prog 101 = some ⟨Tryz.f101.body.getD .skip, Tryz.f101.ntmps, Tryz.f101.results.toList⟩ := by kernel_rfl   -- watchglass/watchglassref1.Trim
theorem fn_102 : fnOf Tryz.prog 102 = some ⟨Tryz.f102.body.getD .skip, Tryz.f102.ntmps, Tryz.f102.results.toList⟩ := by kernel_rfl   -- watchglass/watchglassref18.NewMemo
theorem fn_103 : fnOf Tryz.prog 103 = some ⟨Tryz.f103.body.getD .skip, Tryz.f103.ntmps, Tryz.f103.results.toList⟩ := by kernel_rfl   -- watchglass/watchglasslaw5.plainer
theorem fn_104 : fnOf Tryz.prog 104 = some ⟨Tryz.f104.body.getD .skip, Tryz.f104.ntmps, Tryz.f104.results.toList⟩ := by kernel_rfl   -- (watchglass/watchglasslaw5.pile).add
theorem fn_105 : fnOf Tryz.prog 105 = some ⟨Tryz.f105.body.getD .skip, Tryz.f105.ntmps, Tryz.f105.results.toList⟩ := by kernel_rfl   -- watchglass/watchglassref14.inside
theorem fn_106 : fnOf Tryz.prog 106 = some ⟨Tryz.f106.body.getD .skip, Tryz.f106.ntmps, Tryz.f106.results.toList⟩ := by kernel_rfl   -- watchglass/window.plain
theorem fn_107 : fnOf Tryz.prog 107 = some ⟨Tryz.f107.body.getD .skip, Tryz.f107.ntmps, Tryz.f107.results.toList⟩ := by kernel_rfl   -- watchglass/window.May
theorem fn_108 : fnOf Tryz.prog 108 = some ⟨Tryz.f108.body.getD .skip, Tryz.f108.ntmps, Tryz.f108.results.toList⟩ := by kernel_rfl   -- slices.BinarySearchFunc[[]watchglass/api.Bucket,watchglass/api.Bucket,int]
theorem fn_109 : fnOf Tryz.prog 109 = some ⟨Tryz.f109.body.getD .skip, Tryz.f109.ntmps, Tryz.f109.results.toList⟩ := by kernel_rfl   -- watchglass/window.Add$1
theorem fn_110 : fnOf Tryz.prog 110 = some ⟨Tryz.f110.body.getD .skip, Tryz.f110.ntmps, Tryz.f110.results.toList⟩ := by kernel_rfl   -- slices.Insert[[]watchglass/api.Bucket,watchglass/api.Bucket]
theorem fn_111 : fnOf Tryz.prog 111 = some ⟨Tryz.f111.body.getD .skip, Tryz.f111.ntmps, Tryz.f111.results.toList⟩ := by kernel_rfl   -- watchglass/bits.Or
theorem fn_112 : fnOf Tryz.prog 112 = some ⟨Tryz.f112.body.getD .skip, Tryz.f112.ntmps, Tryz.f112.results.toList⟩ := by kernel_rfl   -- watchglass/ival.Later
theorem fn_113 : fnOf Tryz.prog 113 = some ⟨Tryz.f113.body.getD .skip, Tryz.f113.ntmps, Tryz.f113.results.toList⟩ := by kernel_rfl   -- watchglass/bits.Cut
theorem fn_114 : fnOf Tryz.prog 114 = some ⟨Tryz.f114.body.getD .skip, Tryz.f114.ntmps, Tryz.f114.results.toList⟩ := by kernel_rfl   -- (*watchglass/auto.Auto).States
theorem fn_115 : fnOf Tryz.prog 115 = some ⟨Tryz.f115.body.getD .skip, Tryz.f115.ntmps, Tryz.f115.results.toList⟩ := by kernel_rfl   -- (*watchglass/auto.Auto).Tests
theorem fn_116 : fnOf Tryz.prog 116 = some ⟨Tryz.f116.body.getD .skip, Tryz.f116.ntmps, Tryz.f116.results.toList⟩ := by kernel_rfl   -- (*watchglass/memo.Memo).Get
theorem fn_117 : fnOf Tryz.prog 117 = some ⟨Tryz.f117.body.getD .skip, Tryz.f117.ntmps, Tryz.f117.results.toList⟩ := by kernel_rfl   -- (*watchglass/auto.Auto).Move
theorem fn_118 : fnOf Tryz.prog 118 = some ⟨Tryz.f118.body.getD .skip, Tryz.f118.ntmps, Tryz.f118.results.toList⟩ := by kernel_rfl   -- (*watchglass/memo.Memo).Put
theorem fn_119 : fnOf Tryz.prog 119 = some ⟨Tryz.f119.body.getD .skip, Tryz.f119.ntmps, Tryz.f119.results.toList⟩ := by kernel_rfl   -- (*watchglass/memo.Memo).Cells
theorem fn_120 : fnOf Tryz.prog 120 = some ⟨Tryz.f120.body.getD .skip, Tryz.f120.ntmps, Tryz.f120.results.toList⟩ := by kernel_rfl   -- watchglass/watchglassref18.MayWindow
theorem fn_121 : fnOf Tryz.prog 121 = some ⟨Tryz.f121.body.getD .skip, Tryz.f121.ntmps, Tryz.f121.results.toList⟩ := by kernel_rfl   -- watchglass/watchglassref1.Wide
theorem fn_122 : fnOf Tryz.prog 122 = some ⟨Tryz.f122.body.getD .skip, Tryz.f122.ntmps, Tryz.f122.results.toList⟩ := by kernel_rfl   -- watchglass/watchglassref1.Or
theorem fn_123 : fnOf Tryz.prog 123 = some ⟨Tryz.f123.body.getD .skip, Tryz.f123.ntmps, Tryz.f123.results.toList⟩ := by kernel_rfl   -- watchglass/watchglassref1.Later
theorem fn_124 : fnOf Tryz.prog 124 = some ⟨Tryz.f124.body.getD .skip, Tryz.f124.ntmps, Tryz.f124.results.toList⟩ := by kernel_rfl   -- watchglass/watchglassref1.Of
theorem fn_125 : fnOf Tryz.prog 125 = some ⟨Tryz.f125.body.getD .skip, Tryz.f125.ntmps, Tryz.f125.results.toList⟩ := by kernel_rfl   -- watchglass/watchglassref1.Cut
theorem fn_126 : fnOf Tryz.prog 126 = some ⟨Tryz.f126.body.getD .skip, Tryz.f126.ntmps, Tryz.f126.results.toList⟩ := by kernel_rfl   -- watchglass/watchglassref18.Count
theorem fn_127 : fnOf Tryz.prog 127 = some ⟨Tryz.f127.body.getD .skip, Tryz.f127.ntmps, Tryz.f127.results.toList⟩ := by kernel_rfl   -- watchglass/watchglassref14.Tests
theorem fn_128 : fnOf Tryz.prog 128 = some ⟨Tryz.f128.body.getD .skip, Tryz.f128.ntmps, Tryz.f128.results.toList⟩ := by kernel_rfl   -- (*watchglass/watchglassref18.Memo).Get
theorem fn_129 : fnOf Tryz.prog 129 = some ⟨Tryz.f129.body.getD .skip, Tryz.f129.ntmps, Tryz.f129.results.toList⟩ := by kernel_rfl   -- watchglass/watchglassref18.Move
theorem fn_130 : fnOf Tryz.prog 130 = some ⟨Tryz.f130.body.getD .skip, Tryz.f130.ntmps, Tryz.f130.results.toList⟩ := by kernel_rfl   -- (*watchglass/watchglassref18.Memo).Put
theorem fn_131 : fnOf Tryz.prog 131 = some ⟨Tryz.f131.body.getD .skip, Tryz.f131.ntmps, Tryz.f131.results.toList⟩ := by kernel_rfl   -- (*watchglass/memo.Memo).Copy
theorem fn_132 : fnOf Tryz.prog 132 = some ⟨Tryz.f132.body.getD .skip, Tryz.f132.ntmps, Tryz.f132.results.toList⟩ := by kernel_rfl   -- slices.Sort[[]int,int]
theorem fn_133 : fnOf Tryz.prog 133 = some ⟨Tryz.f133.body.getD .skip, Tryz.f133.ntmps, Tryz.f133.results.toList⟩ := by kernel_rfl   -- watchglass/bits.at
theorem fn_134 : fnOf Tryz.prog 134 = some ⟨Tryz.f134.body.getD .skip, Tryz.f134.ntmps, Tryz.f134.results.toList⟩ := by kernel_rfl   -- watchglass/paths.row
theorem fn_135 : fnOf Tryz.prog 135 = some ⟨Tryz.f135.body.getD .skip, Tryz.f135.ntmps, Tryz.f135.results.toList⟩ := by kernel_rfl   -- watchglass/tree.sizes
theorem fn_136 : fnOf Tryz.prog 136 = some ⟨Tryz.f136.body.getD .skip, Tryz.f136.ntmps, Tryz.f136.results.toList⟩ := by kernel_rfl   -- watchglass/sugar.made$1
theorem fn_137 : fnOf Tryz.prog 137 = some ⟨Tryz.f137.body.getD .skip, Tryz.f137.ntmps, Tryz.f137.results.toList⟩ := by kernel_rfl   -- watchglass/sugar.made$2
theorem fn_138 : fnOf Tryz.prog 138 = some ⟨Tryz.f138.body.getD .skip, Tryz.f138.ntmps, Tryz.f138.results.toList⟩ := by kernel_rfl   -- watchglass/sugar.join
theorem fn_139 : fnOf Tryz.prog 139 = some ⟨Tryz.f139.body.getD .skip, Tryz.f139.ntmps, Tryz.f139.results.toList⟩ := by kernel_rfl   -- watchglass/sugar.not
theorem fn_140 : fnOf Tryz.prog 140 = some ⟨Tryz.f140.body.getD .skip, Tryz.f140.ntmps, Tryz.f140.results.toList⟩ := by kernel_rfl   -- watchglass/sugar.seq
theorem fn_141 : fnOf Tryz.prog 141 = some ⟨Tryz.f141.body.getD .skip, Tryz.f141.ntmps, Tryz.f141.results.toList⟩ := by kernel_rfl   -- watchglass/sugar.test
theorem fn_142 : fnOf Tryz.prog 142 = some ⟨Tryz.f142.body.getD .skip, Tryz.f142.ntmps, Tryz.f142.results.toList⟩ := by kernel_rfl   -- watchglass/sugar.step
theorem fn_143 : fnOf Tryz.prog 143 = some ⟨Tryz.f143.body.getD .skip, Tryz.f143.ntmps, Tryz.f143.results.toList⟩ := by kernel_rfl   -- watchglass/sugar.steps
theorem fn_144 : fnOf Tryz.prog 144 = some ⟨Tryz.f144.body.getD .skip, Tryz.f144.ntmps, Tryz.f144.results.toList⟩ := by kernel_rfl   -- slices.IndexFunc[[]watchglass/api.Node,watchglass/api.Node]
theorem fn_145 : fnOf Tryz.prog 145 = some ⟨Tryz.f145.body.getD .skip, Tryz.f145.ntmps, Tryz.f145.results.toList⟩ := by kernel_rfl   -- slices.pdqsortOrdered[string]
theorem fn_146 : fnOf Tryz.prog 146 = some ⟨Tryz.f146.body.getD .skip, Tryz.f146.ntmps, Tryz.f146.results.toList⟩ := by kernel_rfl   -- math/bits.Len
theorem fn_147 : fnOf Tryz.prog 147 = some ⟨Tryz.f147.body.getD .skip, Tryz.f147.ntmps, Tryz.f147.results.toList⟩ := by kernel_rfl   -- watchglass/parse.read
theorem fn_148 : fnOf Tryz.prog 148 = some ⟨Tryz.f148.body.getD .skip, Tryz.f148.ntmps, Tryz.f148.results.toList⟩ := by kernel_rfl   -- (*watchglass/parse.parser).form
theorem fn_149 : fnOf Tryz.prog 149 = some ⟨Tryz.f149.body.getD .skip, Tryz.f149.ntmps, Tryz.f149.results.toList⟩ := by kernel_rfl   -- (*watchglass/show.writer).node
theorem fn_150 : fnOf Tryz.prog 150 = some ⟨Tryz.f150.body.getD .skip, Tryz.f150.ntmps, Tryz.f150.results.toList⟩ := by kernel_rfl   -- (*strings.Builder).String
theorem fn_151 : fnOf Tryz.prog 151 = some ⟨Tryz.f151.body.getD .skip, Tryz.f151.ntmps, Tryz.f151.results.toList⟩ := by kernel_rfl   -- watchglass/norm.turned
theorem fn_152 : fnOf Tryz.prog 152 = some ⟨Tryz.f152.body.getD .skip, Tryz.f152.ntmps, Tryz.f152.results.toList⟩ := by kernel_rfl   -- watchglass/norm.pair
theorem fn_153 : fnOf Tryz.prog 153 = some ⟨Tryz.f153.body.getD .skip, Tryz.f153.ntmps, Tryz.f153.results.toList⟩ := by kernel_rfl   -- watchglass/norm.no
theorem fn_154 : fnOf Tryz.prog 154 = some ⟨Tryz.f154.body.getD .skip, Tryz.f154.ntmps, Tryz.f154.results.toList⟩ := by kernel_rfl   -- watchglass/norm.yes
theorem fn_155 : fnOf Tryz.prog 155 = some ⟨Tryz.f155.body.getD .skip, Tryz.f155.ntmps, Tryz.f155.results.toList⟩ := by kernel_rfl   -- watchglass/norm.none
theorem fn_156 : fnOf Tryz.prog 156 = some ⟨Tryz.f156.body.getD .skip, Tryz.f156.ntmps, Tryz.f156.results.toList⟩ := by kernel_rfl   -- watchglass/norm.sure
theorem fn_157 : fnOf Tryz.prog 157 = some ⟨Tryz.f157.body.getD .skip, Tryz.f157.ntmps, Tryz.f157.results.toList⟩ := by kernel_rfl   -- watchglass/norm.never
theorem fn_158 : fnOf Tryz.prog 158 = some ⟨Tryz.f158.body.getD .skip, Tryz.f158.ntmps, Tryz.f158.results.toList⟩ := by kernel_rfl   -- watchglass/norm.again
theorem fn_159 : fnOf Tryz.prog 159 = some ⟨Tryz.f159.body.getD .skip, Tryz.f159.ntmps, Tryz.f159.results.toList⟩ := by kernel_rfl   -- watchglass/norm.match
theorem fn_160 : fnOf Tryz.prog 160 = some ⟨Tryz.f160.body.getD .skip, Tryz.f160.ntmps, Tryz.f160.results.toList⟩ := by kernel_rfl   -- watchglass/tree.moved
theorem fn_161 : fnOf Tryz.prog 161 = some ⟨Tryz.f161.body.getD .skip, Tryz.f161.ntmps, Tryz.f161.results.toList⟩ := by kernel_rfl   -- watchglass/trace.Names
theorem fn_162 : fnOf Tryz.prog 162 = some ⟨Tryz.f162.body.getD .skip, Tryz.f162.ntmps, Tryz.f162.results.toList⟩ := by kernel_rfl   -- watchglass/trace.Ids
theorem fn_163 : fnOf Tryz.prog 163 = some ⟨Tryz.f163.body.getD .skip, Tryz.f163.ntmps, Tryz.f163.results.toList⟩ := by kernel_rfl   -- (*watchglass/sat.truth).ways
theorem fn_164 : fnOf Tryz.prog 164 = some ⟨Tryz.f164.body.getD .skip, Tryz.f164.ntmps, Tryz.f164.results.toList⟩ := by kernel_rfl   -- (*watchglass/sat.truth).fill
theorem fn_165 : fnOf Tryz.prog 165 = some ⟨Tryz.f165.body.getD .skip, Tryz.f165.ntmps, Tryz.f165.results.toList⟩ := by kernel_rfl   -- (*watchglass/sat.truth).match$1
theorem fn_166 : fnOf Tryz.prog 166 = some ⟨Tryz.f166.body.getD .skip, Tryz.f166.ntmps, Tryz.f166.results.toList⟩ := by kernel_rfl   -- (*watchglass/sat.truth).some
theorem fn_167 : fnOf Tryz.prog 167 = some ⟨Tryz.f167.body.getD .skip, Tryz.f167.ntmps, Tryz.f167.results.toList⟩ := by kernel_rfl   -- (*watchglass/sat.truth).match$1$1
theorem fn_168 : fnOf Tryz.prog 168 = some ⟨Tryz.f168.body.getD .skip, Tryz.f168.ntmps, Tryz.f168.results.toList⟩ := by kernel_rfl   -- watchglass/sat.always
theorem fn_169 : fnOf Tryz.prog 169 = some ⟨Tryz.f169.body.getD .skip, Tryz.f169.ntmps, Tryz.f169.results.toList⟩ := by kernel_rfl   -- (*watchglass/sat.truth).match$1$2
theorem fn_170 : fnOf Tryz.prog 170 = some ⟨Tryz.f170.body.getD .skip, Tryz.f170.ntmps, Tryz.f170.results.toList⟩ := by kernel_rfl   -- (*watchglass/sat.truth).time$1
theorem fn_171 : fnOf Tryz.prog 171 = some ⟨Tryz.f171.body.getD .skip, Tryz.f171.ntmps, Tryz.f171.results.toList⟩ := by kernel_rfl   -- (*watchglass/sat.truth).time$1$1
theorem fn_172 : fnOf Tryz.prog 172 = some ⟨Tryz.f172.body.getD .skip, Tryz.f172.ntmps, Tryz.f172.results.toList⟩ := by kernel_rfl   -- (*watchglass/sat.truth).time$2
theorem fn_173 : fnOf Tryz.prog 173 = some ⟨Tryz.f173.body.getD .skip, Tryz.f173.ntmps, Tryz.f173.results.toList⟩ := by kernel_rfl   -- (*watchglass/sat.truth).time$3
theorem fn_174 : fnOf Tryz.prog 174 = some ⟨Tryz.f174.body.getD .skip, Tryz.f174.ntmps, Tryz.f174.results.toList⟩ := by kernel_rfl   -- (*watchglass/sat.truth).near
theorem fn_175 : fnOf Tryz.prog 175 = some ⟨Tryz.f175.body.getD .skip, Tryz.f175.ntmps, Tryz.f175.results.toList⟩ := by kernel_rfl   -- (*watchglass/sat.truth).logic$1
theorem fn_176 : fnOf Tryz.prog 176 = some ⟨Tryz.f176.body.getD .skip, Tryz.f176.ntmps, Tryz.f176.results.toList⟩ := by kernel_rfl   -- (*watchglass/sat.truth).logic$2
theorem fn_177 : fnOf Tryz.prog 177 = some ⟨Tryz.f177.body.getD .skip, Tryz.f177.ntmps, Tryz.f177.results.toList⟩ := by kernel_rfl   -- watchglass/trace.Holds
theorem fn_178 : fnOf Tryz.prog 178 = some ⟨Tryz.f178.body.getD .skip, Tryz.f178.ntmps, Tryz.f178.results.toList⟩ := by kernel_rfl   -- slices.Clone[[]watchglass/api.Node,watchglass/api.Node]
theorem fn_179 : fnOf Tryz.prog 179 = some ⟨Tryz.f179.body.getD .skip, Tryz.f179.ntmps, Tryz.f179.results.toList⟩ := by kernel_rfl   -- slices.Clone[[]int,int]
theorem fn_180 : fnOf Tryz.prog 180 = some ⟨Tryz.f180.body.getD .skip, Tryz.f180.ntmps, Tryz.f180.results.toList⟩ := by kernel_rfl   -- watchglass/steps.Count
theorem fn_181 : fnOf Tryz.prog 181 = some ⟨Tryz.f181.body.getD .skip, Tryz.f181.ntmps, Tryz.f181.results.toList⟩ := by kernel_rfl   -- watchglass/paths.Tests
theorem fn_182 : fnOf Tryz.prog 182 = some ⟨Tryz.f182.body.getD .skip, Tryz.f182.ntmps, Tryz.f182.results.toList⟩ := by kernel_rfl   -- watchglass/watchglassref1.small
theorem fn_183 : fnOf Tryz.prog 183 = some ⟨Tryz.f183.body.getD .skip, Tryz.f183.ntmps, Tryz.f183.results.toList⟩ := by kernel_rfl   -- watchglass/watchglassref1.run
theorem fn_184 : fnOf Tryz.prog 184 = some ⟨Tryz.f184.body.getD .skip, Tryz.f184.ntmps, Tryz.f184.results.toList⟩ := by kernel_rfl   -- watchglass/watchglassref1.Reserved
theorem fn_185 : fnOf Tryz.prog 185 = some ⟨Tryz.f185.body.getD .skip, Tryz.f185.ntmps, Tryz.f185.results.toList⟩ := by kernel_rfl   -- watchglass/watchglasslaw5.one
theorem fn_186 : fnOf Tryz.prog 186 = some ⟨Tryz.f186.body.getD .skip, Tryz.f186.ntmps, Tryz.f186.results.toList⟩ := by kernel_rfl   -- watchglass/watchglasslaw5.two
theorem fn_187 : fnOf Tryz.prog 187 = some ⟨Tryz.f187.body.getD .skip, Tryz.f187.ntmps, Tryz.f187.results.toList⟩ := by kernel_rfl   -- watchglass/watchglassref1.Over
theorem fn_188 : fnOf Tryz.prog 188 = some ⟨Tryz.f188.body.getD .skip, Tryz.f188.ntmps, Tryz.f188.results.toList⟩ := by kernel_rfl   -- watchglass/watchglassref1.Start
theorem fn_190 : fnOf Tryz.prog 190 = some ⟨Tryz.f190.body.getD .skip, Tryz.f190.ntmps, Tryz.f190.results.toList⟩ := by kernel_rfl   -- slices.rotateRight[watchglass/api.Bucket]
theorem fn_191 : fnOf Tryz.prog 191 = some ⟨Tryz.f191.body.getD .skip, Tryz.f191.ntmps, Tryz.f191.results.toList⟩ := by kernel_rfl   -- watchglass/bits.trim
theorem fn_192 : fnOf Tryz.prog 192 = some ⟨Tryz.f192.body.getD .skip, Tryz.f192.ntmps, Tryz.f192.results.toList⟩ := by kernel_rfl   -- (*watchglass/memo.Memo).find
theorem fn_193 : fnOf Tryz.prog 193 = some ⟨Tryz.f193.body.getD .skip, Tryz.f193.ntmps, Tryz.f193.results.toList⟩ := by kernel_rfl   -- slices.Clone[[]uint64,uint64]
theorem fn_194 : fnOf Tryz.prog 194 = some ⟨Tryz.f194.body.getD .skip, Tryz.f194.ntmps, Tryz.f194.results.toList⟩ := by kernel_rfl   -- watchglass/bits.List
theorem fn_195 : fnOf Tryz.prog 195 = some ⟨Tryz.f195.body.getD .skip, Tryz.f195.ntmps, Tryz.f195.results.toList⟩ := by kernel_rfl   -- watchglass/steps.Next
theorem fn_196 : fnOf Tryz.prog 196 = some ⟨Tryz.f196.body.getD .skip, Tryz.f196.ntmps, Tryz.f196.results.toList⟩ := by kernel_rfl   -- watchglass/steps.Ends
theorem fn_197 : fnOf Tryz.prog 197 = some ⟨Tryz.f197.body.getD .skip, Tryz.f197.ntmps, Tryz.f197.results.toList⟩ := by kernel_rfl   -- watchglass/memo.plain
theorem fn_198 : fnOf Tryz.prog 198 = some ⟨Tryz.f198.body.getD .skip, Tryz.f198.ntmps, Tryz.f198.results.toList⟩ := by kernel_rfl   -- (*watchglass/memo.Memo).on
theorem fn_199 : fnOf Tryz.prog 199 = some ⟨Tryz.f199.body.getD .skip, Tryz.f199.ntmps, Tryz.f199.results.toList⟩ := by kernel_rfl   -- watchglass/watchglassref1.word
theorem fn_200 : fnOf Tryz.prog 200 = some ⟨Tryz.f200.body.getD .skip, Tryz.f200.ntmps, Tryz.f200.results.toList⟩ := by kernel_rfl   -- (*watchglass/watchglassref18.Memo).find
theorem fn_201 : fnOf Tryz.prog 201 = some ⟨Tryz.f201.body.getD .skip, Tryz.f201.ntmps, Tryz.f201.results.toList⟩ := by kernel_rfl   -- watchglass/watchglassref18.Step
theorem fn_202 : fnOf Tryz.prog 202 = some ⟨Tryz.f202.body.getD .skip, Tryz.f202.ntmps, Tryz.f202.results.toList⟩ := by kernel_rfl   -- slices.Clone[[]watchglass/memo.entry,watchglass/memo.entry]
theorem fn_203 : fnOf Tryz.prog 203 = some ⟨Tryz.f203.body.getD .skip, Tryz.f203.ntmps, Tryz.f203.results.toList⟩ := by kernel_rfl   -- slices.pdqsortOrdered[int]
theorem fn_204 : fnOf Tryz.prog 204 = some ⟨Tryz.f204.body.getD .skip, Tryz.f204.ntmps, Tryz.f204.results.toList⟩ := by kernel_rfl   -- watchglass/tree.fields
theorem fn_205 : fnOf Tryz.prog 205 = some ⟨Tryz.f205.body.getD .skip, Tryz.f205.ntmps, Tryz.f205.results.toList⟩ := by kernel_rfl   -- watchglass/tree.wants
theorem fn_206 : fnOf Tryz.prog 206 = some ⟨Tryz.f206.body.getD .skip, Tryz.f206.ntmps, Tryz.f206.results.toList⟩ := by kernel_rfl   -- slices.insertionSortOrdered[string]
theorem fn_207 : fnOf Tryz.prog 207 = some ⟨Tryz.f207.body.getD .skip, Tryz.f207.ntmps, Tryz.f207.results.toList⟩ := by kernel_rfl   -- slices.heapSortOrdered[string]
theorem fn_208 : fnOf Tryz.prog 208 = some ⟨Tryz.f208.body.getD .skip, Tryz.f208.ntmps, Tryz.f208.results.toList⟩ := by kernel_rfl   -- slices.breakPatternsOrdered[string]
theorem fn_209 : fnOf Tryz.prog 209 = some ⟨Tryz.f209.body.getD .skip, Tryz.f209.ntmps, Tryz.f209.results.toList⟩ := by kernel_rfl   -- slices.choosePivotOrdered[string]
theorem fn_210 : fnOf Tryz.prog 210 = some ⟨Tryz.f210.body.getD .skip, Tryz.f210.ntmps, Tryz.f210.results.toList⟩ := by kernel_rfl   -- slices.reverseRangeOrdered[string]
theorem fn_211 : fnOf Tryz.prog 211 = some ⟨Tryz.f211.body.getD .skip, Tryz.f211.ntmps, Tryz.f211.results.toList⟩ := by kernel_rfl   -- slices.partialInsertionSortOrdered[string]
theorem fn_212 : fnOf Tryz.prog 212 = some ⟨Tryz.f212.body.getD .skip, Tryz.f212.ntmps, Tryz.f212.results.toList⟩ := by kernel_rfl   -- cmp.Less[string]
theorem fn_213 : fnOf Tryz.prog 213 = some ⟨Tryz.f213.body.getD .skip, Tryz.f213.ntmps, Tryz.f213.results.toList⟩ := by kernel_rfl   -- slices.partitionEqualOrdered[string]
theorem fn_214 : fnOf Tryz.prog 214 = some ⟨Tryz.f214.body.getD .skip, Tryz.f214.ntmps, Tryz.f214.results.toList⟩ := by kernel_rfl   -- slices.partitionOrdered[string]
theorem fn_215 : fnOf Tryz.prog 215 = some ⟨Tryz.f215.body.getD .skip, Tryz.f215.ntmps, Tryz.f215.results.toList⟩ := by kernel_rfl   -- math/bits.Len32
theorem fn_216 : fnOf Tryz.prog 216 = some ⟨Tryz.f216.body.getD .skip, Tryz.f216.ntmps, Tryz.f216.results.toList⟩ := by kernel_rfl   -- math/bits.Len64
theorem fn_217 : fnOf Tryz.prog 217 = some ⟨Tryz.f217.body.getD .skip, Tryz.f217.ntmps, Tryz.f217.results.toList⟩ := by kernel_rfl   -- watchglass/lex.Lex
theorem fn_218 : fnOf Tryz.prog 218 = some ⟨Tryz.f218.body.getD .skip, Tryz.f218.ntmps, Tryz.f218.results.toList⟩ := by kernel_rfl   -- (*watchglass/parse.parser).ok
theorem fn_219 : fnOf Tryz.prog 219 = some ⟨Tryz.f219.body.getD .skip, Tryz.f219.ntmps, Tryz.f219.results.toList⟩ := by kernel_rfl   -- (*watchglass/parse.parser).tok
theorem fn_220 : fnOf Tryz.prog 220 = some ⟨Tryz.f220.body.getD .skip, Tryz.f220.ntmps, Tryz.f220.results.toList⟩ := by kernel_rfl   -- (*watchglass/parse.parser).fail
theorem fn_221 : fnOf Tryz.prog 221 = some ⟨Tryz.f221.body.getD .skip, Tryz.f221.ntmps, Tryz.f221.results.toList⟩ := by kernel_rfl   -- (*watchglass/parse.parser).chain
theorem fn_222 : fnOf Tryz.prog 222 = some ⟨Tryz.f222.body.getD .skip, Tryz.f222.ntmps, Tryz.f222.results.toList⟩ := by kernel_rfl   -- watchglass/parse.forms
theorem fn_223 : fnOf Tryz.prog 223 = some ⟨Tryz.f223.body.getD .skip, Tryz.f223.ntmps, Tryz.f223.results.toList⟩ := by kernel_rfl   -- (*watchglass/parse.parser).tie
theorem fn_224 : fnOf Tryz.prog 224 = some ⟨Tryz.f224.body.getD .skip, Tryz.f224.ntmps, Tryz.f224.results.toList⟩ := by kernel_rfl   -- (*strings.Builder).WriteString
theorem fn_225 : fnOf Tryz.prog 225 = some ⟨Tryz.f225.body.getD .skip, Tryz.f225.ntmps, Tryz.f225.results.toList⟩ := by kernel_rfl   -- watchglass/show.word
theorem fn_226 : fnOf Tryz.prog 226 = some ⟨Tryz.f226.body.getD .skip, Tryz.f226.ntmps, Tryz.f226.results.toList⟩ := by kernel_rfl   -- (*watchglass/show.writer).kid
theorem fn_227 : fnOf Tryz.prog 227 = some ⟨Tryz.f227.body.getD .skip, Tryz.f227.ntmps, Tryz.f227.results.toList⟩ := by kernel_rfl   -- watchglass/show.head
theorem fn_228 : fnOf Tryz.prog 228 = some ⟨Tryz.f228.body.getD .skip, Tryz.f228.ntmps, Tryz.f228.results.toList⟩ := by kernel_rfl   -- watchglass/norm.of
theorem fn_229 : fnOf Tryz.prog 229 = some ⟨Tryz.f229.body.getD .skip, Tryz.f229.ntmps, Tryz.f229.results.toList⟩ := by kernel_rfl   -- watchglass/norm.root
theorem fn_230 : fnOf Tryz.prog 230 = some ⟨Tryz.f230.body.getD .skip, Tryz.f230.ntmps, Tryz.f230.results.toList⟩ := by kernel_rfl   -- watchglass/norm.below
theorem fn_231 : fnOf Tryz.prog 231 = some ⟨Tryz.f231.body.getD .skip, Tryz.f231.ntmps, Tryz.f231.results.toList⟩ := by kernel_rfl   -- watchglass/tree.Same
theorem fn_232 : fnOf Tryz.prog 232 = some ⟨Tryz.f232.body.getD .skip, Tryz.f232.ntmps, Tryz.f232.results.toList⟩ := by kernel_rfl   -- watchglass/norm.is
theorem fn_233 : fnOf Tryz.prog 233 = some ⟨Tryz.f233.body.getD .skip, Tryz.f233.ntmps, Tryz.f233.results.toList⟩ := by kernel_rfl   -- watchglass/lex.Name
theorem fn_234 : fnOf Tryz.prog 234 = some ⟨Tryz.f234.body.getD .skip, Tryz.f234.ntmps, Tryz.f234.results.toList⟩ := by kernel_rfl   -- watchglass/tree.Part
theorem fn_235 : fnOf Tryz.prog 235 = some ⟨Tryz.f235.body.getD .skip, Tryz.f235.ntmps, Tryz.f235.results.toList⟩ := by kernel_rfl   -- watchglass/sat.apart
theorem fn_236 : fnOf Tryz.prog 236 = some ⟨Tryz.f236.body.getD .skip, Tryz.f236.ntmps, Tryz.f236.results.toList⟩ := by kernel_rfl   -- slices.Contains[[]int,int]
theorem fn_237 : fnOf Tryz.prog 237 = some ⟨Tryz.f237.body.getD .skip, Tryz.f237.ntmps, Tryz.f237.results.toList⟩ := by kernel_rfl   -- watchglass/paths.Steps
theorem fn_238 : fnOf Tryz.prog 238 = some ⟨Tryz.f238.body.getD .skip, Tryz.f238.ntmps, Tryz.f238.results.toList⟩ := by kernel_rfl   -- watchglass/paths.kind
theorem fn_239 : fnOf Tryz.prog 239 = some ⟨Tryz.f239.body.getD .skip, Tryz.f239.ntmps, Tryz.f239.results.toList⟩ := by kernel_rfl   -- watchglass/watchglassref1.digit
theorem fn_240 : fnOf Tryz.prog 240 = some ⟨Tryz.f240.body.getD .skip, Tryz.f240.ntmps, Tryz.f240.results.toList⟩ := by kernel_rfl   -- slices.rotateLeft[watchglass/api.Bucket]
theorem fn_241 : fnOf Tryz.prog 241 = some ⟨Tryz.f241.body.getD .skip, Tryz.f241.ntmps, Tryz.f241.results.toList⟩ := by kernel_rfl   -- slices.IndexFunc[[]watchglass/memo.entry,watchglass/memo.entry]
theorem fn_242 : fnOf Tryz.prog 242 = some ⟨Tryz.f242.body.getD .skip, Tryz.f242.ntmps, Tryz.f242.results.toList⟩ := by kernel_rfl   -- (*watchglass/memo.Memo).find$1
theorem fn_243 : fnOf Tryz.prog 243 = some ⟨Tryz.f243.body.getD .skip, Tryz.f243.ntmps, Tryz.f243.results.toList⟩ := by kernel_rfl   -- watchglass/bits.Same
theorem fn_244 : fnOf Tryz.prog 244 = some ⟨Tryz.f244.body.getD .skip, Tryz.f244.ntmps, Tryz.f244.results.toList⟩ := by kernel_rfl   -- math/bits.TrailingZeros64
theorem fn_245 : fnOf Tryz.prog 245 = some ⟨Tryz.f245.body.getD .skip, Tryz.f245.ntmps, Tryz.f245.results.toList⟩ := by kernel_rfl   -- watchglass/steps.of
theorem fn_246 : fnOf Tryz.prog 246 = some ⟨Tryz.f246.body.getD .skip, Tryz.f246.ntmps, Tryz.f246.results.toList⟩ := by kernel_rfl   -- (*watchglass/steps.plan).ahead
theorem fn_247 : fnOf Tryz.prog 247 = some ⟨Tryz.f247.body.getD .skip, Tryz.f247.ntmps, Tryz.f247.results.toList⟩ := by kernel_rfl   -- watchglass/watchglassref18.first
theorem fn_248 : fnOf Tryz.prog 248 = some ⟨Tryz.f248.body.getD .skip, Tryz.f248.ntmps, Tryz.f248.results.toList⟩ := by kernel_rfl   -- watchglass/watchglassref18.zero
theorem fn_249 : fnOf Tryz.prog 249 = some ⟨Tryz.f249.body.getD .skip, Tryz.f249.ntmps, Tryz.f249.results.toList⟩ := by kernel_rfl   -- watchglass/watchglassref18.end
theorem fn_250 : fnOf Tryz.prog 250 = some ⟨Tryz.f250.body.getD .skip, Tryz.f250.ntmps, Tryz.f250.results.toList⟩ := by kernel_rfl   -- slices.insertionSortOrdered[int]
theorem fn_251 : fnOf Tryz.prog 251 = some ⟨Tryz.f251.body.getD .skip, Tryz.f251.ntmps, Tryz.f251.results.toList⟩ := by kernel_rfl   -- slices.heapSortOrdered[int]
theorem fn_252 : fnOf Tryz.prog 252 = some ⟨Tryz.f252.body.getD .skip, Tryz.f252.ntmps, Tryz.f252.results.toList⟩ := by kernel_rfl   -- slices.breakPatternsOrdered[int]
theorem fn_253 : fnOf Tryz.prog 253 = some ⟨Tryz.f253.body.getD .skip, Tryz.f253.ntmps, Tryz.f253.results.toList⟩ := by kernel_rfl   -- slices.choosePivotOrdered[int]
theorem fn_254 : fnOf Tryz.prog 254 = some ⟨Tryz.f254.body.getD .skip, Tryz.f254.ntmps, Tryz.f254.results.toList⟩ := by kernel_rfl   -- slices.reverseRangeOrdered[int]
theorem fn_255 : fnOf Tryz.prog 255 = some ⟨Tryz.f255.body.getD .skip, Tryz.f255.ntmps, Tryz.f255.results.toList⟩ := by kernel_rfl   -- slices.partialInsertionSortOrdered[int]
theorem fn_256 : fnOf Tryz.prog 256 = some ⟨Tryz.f256.body.getD .skip, Tryz.f256.ntmps, Tryz.f256.results.toList⟩ := by kernel_rfl   -- cmp.Less[int]
theorem fn_257 : fnOf Tryz.prog 257 = some ⟨Tryz.f257.body.getD .skip, Tryz.f257.ntmps, Tryz.f257.results.toList⟩ := by kernel_rfl   -- slices.partitionEqualOrdered[int]
theorem fn_258 : fnOf Tryz.prog 258 = some ⟨Tryz.f258.body.getD .skip, Tryz.f258.ntmps, Tryz.f258.results.toList⟩ := by kernel_rfl   -- slices.partitionOrdered[int]
theorem fn_259 : fnOf Tryz.prog 259 = some ⟨Tryz.f259.body.getD .skip, Tryz.f259.ntmps, Tryz.f259.results.toList⟩ := by kernel_rfl   -- watchglass/tree.timed
theorem fn_260 : fnOf Tryz.prog 260 = some ⟨Tryz.f260.body.getD .skip, Tryz.f260.ntmps, Tryz.f260.results.toList⟩ := by kernel_rfl   -- watchglass/tree.arity
theorem fn_261 : fnOf Tryz.prog 261 = some ⟨Tryz.f261.body.getD .skip, Tryz.f261.ntmps, Tryz.f261.results.toList⟩ := by kernel_rfl   -- slices.siftDownOrdered[string]
theorem fn_262 : fnOf Tryz.prog 262 = some ⟨Tryz.f262.body.getD .skip, Tryz.f262.ntmps, Tryz.f262.results.toList⟩ := by kernel_rfl   -- slices.nextPowerOfTwo
theorem fn_263 : fnOf Tryz.prog 263 = some ⟨Tryz.f263.body.getD .skip, Tryz.f263.ntmps, Tryz.f263.results.toList⟩ := by kernel_rfl   -- (*slices.xorshift).Next
theorem fn_264 : fnOf Tryz.prog 264 = some ⟨Tryz.f264.body.getD .skip, Tryz.f264.ntmps, Tryz.f264.results.toList⟩ := by kernel_rfl   -- slices.medianAdjacentOrdered[string]
theorem fn_265 : fnOf Tryz.prog 265 = some ⟨Tryz.f265.body.getD .skip, Tryz.f265.ntmps, Tryz.f265.results.toList⟩ := by kernel_rfl   -- slices.medianOrdered[string]
theorem fn_266 : fnOf Tryz.prog 266 = some ⟨Tryz.f266.body.getD .skip, Tryz.f266.ntmps, Tryz.f266.results.toList⟩ := by kernel_rfl   -- cmp.isNaN[string]
theorem fn_267 : fnOf Tryz.prog 267 = some ⟨Tryz.f267.body.getD .skip, Tryz.f267.ntmps, Tryz.f267.results.toList⟩ := by kernel_rfl   -- watchglass/lex.token
theorem fn_268 : fnOf Tryz.prog 268 = some ⟨Tryz.f268.body.getD .skip, Tryz.f268.ntmps, Tryz.f268.results.toList⟩ := by kernel_rfl   -- (*watchglass/parse.parser).is
theorem fn_269 : fnOf Tryz.prog 269 = some ⟨Tryz.f269.body.getD .skip, Tryz.f269.ntmps, Tryz.f269.results.toList⟩ := by kernel_rfl   -- (*watchglass/parse.parser).take
theorem fn_270 : fnOf Tryz.prog 270 = some ⟨Tryz.f270.body.getD .skip, Tryz.f270.ntmps, Tryz.f270.results.toList⟩ := by kernel_rfl   -- (*watchglass/parse.parser).emit
theorem fn_271 : fnOf Tryz.prog 271 = some ⟨Tryz.f271.body.getD .skip, Tryz.f271.ntmps, Tryz.f271.results.toList⟩ := by kernel_rfl   -- (*watchglass/parse.parser).un
theorem fn_272 : fnOf Tryz.prog 272 = some ⟨Tryz.f272.body.getD .skip, Tryz.f272.ntmps, Tryz.f272.results.toList⟩ := by kernel_rfl   -- (*watchglass/parse.parser).word
theorem fn_273 : fnOf Tryz.prog 273 = some ⟨Tryz.f273.body.getD .skip, Tryz.f273.ntmps, Tryz.f273.results.toList⟩ := by kernel_rfl   -- watchglass/parse.between
theorem fn_274 : fnOf Tryz.prog 274 = some ⟨Tryz.f274.body.getD .skip, Tryz.f274.ntmps, Tryz.f274.results.toList⟩ := by kernel_rfl   -- (*watchglass/parse.parser).span
theorem fn_275 : fnOf Tryz.prog 275 = some ⟨Tryz.f275.body.getD .skip, Tryz.f275.ntmps, Tryz.f275.results.toList⟩ := by kernel_rfl   -- (*strings.Builder).copyCheck
theorem fn_276 : fnOf Tryz.prog 276 = some ⟨Tryz.f276.body.getD .skip, Tryz.f276.ntmps, Tryz.f276.results.toList⟩ := by kernel_rfl   -- watchglass/show.wrapped
theorem fn_277 : fnOf Tryz.prog 277 = some ⟨Tryz.f277.body.getD .skip, Tryz.f277.ntmps, Tryz.f277.results.toList⟩ := by kernel_rfl   -- watchglass/ival.Text
theorem fn_278 : fnOf Tryz.prog 278 = some ⟨Tryz.f278.body.getD .skip, Tryz.f278.ntmps, Tryz.f278.results.toList⟩ := by kernel_rfl   -- slices.EqualFunc[[]watchglass/api.Node,[]watchglass/api.Node,watchglass/api.Node,watchglass/api.Node]
theorem fn_279 : fnOf Tryz.prog 279 = some ⟨Tryz.f279.body.getD .skip, Tryz.f279.ntmps, Tryz.f279.results.toList⟩ := by kernel_rfl   -- watchglass/tree.alike
theorem fn_280 : fnOf Tryz.prog 280 = some ⟨Tryz.f280.body.getD .skip, Tryz.f280.ntmps, Tryz.f280.results.toList⟩ := by kernel_rfl   -- watchglass/lex.letter
theorem fn_281 : fnOf Tryz.prog 281 = some ⟨Tryz.f281.body.getD .skip, Tryz.f281.ntmps, Tryz.f281.results.toList⟩ := by kernel_rfl   -- watchglass/lex.end
theorem fn_282 : fnOf Tryz.prog 282 = some ⟨Tryz.f282.body.getD .skip, Tryz.f282.ntmps, Tryz.f282.results.toList⟩ := by kernel_rfl   -- watchglass/lex.more
theorem fn_283 : fnOf Tryz.prog 283 = some ⟨Tryz.f283.body.getD .skip, Tryz.f283.ntmps, Tryz.f283.results.toList⟩ := by kernel_rfl   -- slices.Index[[]int,int]
theorem fn_284 : fnOf Tryz.prog 284 = some ⟨Tryz.f284.body.getD .skip, Tryz.f284.ntmps, Tryz.f284.results.toList⟩ := by kernel_rfl   -- slices.Reverse[[]watchglass/api.Bucket,watchglass/api.Bucket]
theorem fn_285 : fnOf Tryz.prog 285 = some ⟨Tryz.f285.body.getD .skip, Tryz.f285.ntmps, Tryz.f285.results.toList⟩ := by kernel_rfl   -- watchglass/bits.Within
theorem fn_286 : fnOf Tryz.prog 286 = some ⟨Tryz.f286.body.getD .skip, Tryz.f286.ntmps, Tryz.f286.results.toList⟩ := by kernel_rfl   -- (*watchglass/steps.plan).relate
theorem fn_287 : fnOf Tryz.prog 287 = some ⟨Tryz.f287.body.getD .skip, Tryz.f287.ntmps, Tryz.f287.results.toList⟩ := by kernel_rfl   -- (*watchglass/steps.plan).fill
theorem fn_288 : fnOf Tryz.prog 288 = some ⟨Tryz.f288.body.getD .skip, Tryz.f288.ntmps, Tryz.f288.results.toList⟩ := by kernel_rfl   -- watchglass/watchglassref18.place
theorem fn_289 : fnOf Tryz.prog 289 = some ⟨Tryz.f289.body.getD .skip, Tryz.f289.ntmps, Tryz.f289.results.toList⟩ := by kernel_rfl   -- watchglass/watchglassref18.parent
theorem fn_290 : fnOf Tryz.prog 290 = some ⟨Tryz.f290.body.getD .skip, Tryz.f290.ntmps, Tryz.f290.results.toList⟩ := by kernel_rfl   -- slices.siftDownOrdered[int]
theorem fn_291 : fnOf Tryz.prog 291 = some ⟨Tryz.f291.body.getD .skip, Tryz.f291.ntmps, Tryz.f291.results.toList⟩ := by kernel_rfl   -- slices.medianAdjacentOrdered[int]
theorem fn_292 : fnOf Tryz.prog 292 = some ⟨Tryz.f292.body.getD .skip, Tryz.f292.ntmps, Tryz.f292.results.toList⟩ := by kernel_rfl   -- slices.medianOrdered[int]
theorem fn_293 : fnOf Tryz.prog 293 = some ⟨Tryz.f293.body.getD .skip, Tryz.f293.ntmps, Tryz.f293.results.toList⟩ := by kernel_rfl   -- cmp.isNaN[int]
theorem fn_294 : fnOf Tryz.prog 294 = some ⟨Tryz.f294.body.getD .skip, Tryz.f294.ntmps, Tryz.f294.results.toList⟩ := by kernel_rfl   -- slices.order2Ordered[string]
theorem fn_295 : fnOf Tryz.prog 295 = some ⟨Tryz.f295.body.getD .skip, Tryz.f295.ntmps, Tryz.f295.results.toList⟩ := by kernel_rfl   -- watchglass/lex.digit
theorem fn_296 : fnOf Tryz.prog 296 = some ⟨Tryz.f296.body.getD .skip, Tryz.f296.ntmps, Tryz.f296.results.toList⟩ := by kernel_rfl   -- strings.IndexByte
theorem fn_297 : fnOf Tryz.prog 297 = some ⟨Tryz.f297.body.getD .skip, Tryz.f297.ntmps, Tryz.f297.results.toList⟩ := by kernel_rfl   -- strings.HasPrefix
theorem fn_298 : fnOf Tryz.prog 298 = some ⟨Tryz.f298.body.getD .skip, Tryz.f298.ntmps, Tryz.f298.results.toList⟩ := by kernel_rfl   -- watchglass/parse.ahead
theorem fn_299 : fnOf Tryz.prog 299 = some ⟨Tryz.f299.body.getD .skip, Tryz.f299.ntmps, Tryz.f299.results.toList⟩ := by kernel_rfl   -- (*watchglass/parse.parser).prim
theorem fn_300 : fnOf Tryz.prog 300 = some ⟨Tryz.f300.body.getD .skip, Tryz.f300.ntmps, Tryz.f300.results.toList⟩ := by kernel_rfl   -- (*watchglass/parse.parser).shut
theorem fn_301 : fnOf Tryz.prog 301 = some ⟨Tryz.f301.body.getD .skip, Tryz.f301.ntmps, Tryz.f301.results.toList⟩ := by kernel_rfl   -- (*watchglass/parse.parser).number
theorem fn_302 : fnOf Tryz.prog 302 = some ⟨Tryz.f302.body.getD .skip, Tryz.f302.ntmps, Tryz.f302.results.toList⟩ := by kernel_rfl   -- (*watchglass/parse.parser).want
theorem fn_304 : fnOf Tryz.prog 304 = some ⟨Tryz.f304.body.getD .skip, Tryz.f304.ntmps, Tryz.f304.results.toList⟩ := by kernel_rfl   -- watchglass/show.rank
theorem fn_305 : fnOf Tryz.prog 305 = some ⟨Tryz.f305.body.getD .skip, Tryz.f305.ntmps, Tryz.f305.results.toList⟩ := by kernel_rfl   -- strconv.Itoa
theorem fn_306 : fnOf Tryz.prog 306 = some ⟨Tryz.f306.body.getD .skip, Tryz.f306.ntmps, Tryz.f306.results.toList⟩ := by kernel_rfl   -- watchglass/steps.one
theorem fn_307 : fnOf Tryz.prog 307 = some ⟨Tryz.f307.body.getD .skip, Tryz.f307.ntmps, Tryz.f307.results.toList⟩ := by kernel_rfl   -- slices.order2Ordered[int]
theorem fn_308 : fnOf Tryz.prog 308 = some ⟨Tryz.f308.body.getD .skip, Tryz.f308.ntmps, Tryz.f308.results.toList⟩ := by kernel_rfl   -- internal/stringslite.IndexByte
theorem fn_309 : fnOf Tryz.prog 309 = some ⟨Tryz.f309.body.getD .skip, Tryz.f309.ntmps, Tryz.f309.results.toList⟩ := by kernel_rfl   -- internal/stringslite.HasPrefix
theorem fn_310 : fnOf Tryz.prog 310 = some ⟨Tryz.f310.body.getD .skip, Tryz.f310.ntmps, Tryz.f310.results.toList⟩ := by kernel_rfl   -- watchglass/parse.matches
theorem fn_311 : fnOf Tryz.prog 311 = some ⟨Tryz.f311.body.getD .skip, Tryz.f311.ntmps, Tryz.f311.results.toList⟩ := by kernel_rfl   -- (*watchglass/parse.parser).nested
theorem fn_312 : fnOf Tryz.prog 312 = some ⟨Tryz.f312.body.getD .skip, Tryz.f312.ntmps, Tryz.f312.results.toList⟩ := by kernel_rfl   -- (*watchglass/parse.parser).reg
theorem fn_313 : fnOf Tryz.prog 313 = some ⟨Tryz.f313.body.getD .skip, Tryz.f313.ntmps, Tryz.f313.results.toList⟩ := by kernel_rfl   -- internal/strconv.Itoa
theorem fn_315 : fnOf Tryz.prog 315 = some ⟨Tryz.f315.body.getD .skip, Tryz.f315.ntmps, Tryz.f315.results.toList⟩ := by kernel_rfl   -- watchglass/parse.regs
theorem fn_316 : fnOf Tryz.prog 316 = some ⟨Tryz.f316.body.getD .skip, Tryz.f316.ntmps, Tryz.f316.results.toList⟩ := by kernel_rfl   -- (*watchglass/parse.parser).rep
theorem fn_317 : fnOf Tryz.prog 317 = some ⟨Tryz.f317.body.getD .skip, Tryz.f317.ntmps, Tryz.f317.results.toList⟩ := by kernel_rfl   -- internal/strconv.FormatInt
theorem fn_318 : fnOf Tryz.prog 318 = some ⟨Tryz.f318.body.getD .skip, Tryz.f318.ntmps, Tryz.f318.results.toList⟩ := by kernel_rfl   -- (*watchglass/parse.parser).one
theorem fn_319 : fnOf Tryz.prog 319 = some ⟨Tryz.f319.body.getD .skip, Tryz.f319.ntmps, Tryz.f319.results.toList⟩ := by kernel_rfl   -- internal/strconv.small
theorem fn_320 : fnOf Tryz.prog 320 = some ⟨Tryz.f320.body.getD .skip, Tryz.f320.ntmps, Tryz.f320.results.toList⟩ := by kernel_rfl   -- internal/strconv.numDigits
theorem fn_321 : fnOf Tryz.prog 321 = some ⟨Tryz.f321.body.getD .skip, Tryz.f321.ntmps, Tryz.f321.results.toList⟩ := by kernel_rfl   -- internal/strconv.formatBase10
theorem fn_322 : fnOf Tryz.prog 322 = some ⟨Tryz.f322.body.getD .skip, Tryz.f322.ntmps, Tryz.f322.results.toList⟩ := by kernel_rfl   -- internal/strconv.formatBits
theorem fn_323 : fnOf Tryz.prog 323 = some ⟨Tryz.f323.body.getD .skip, Tryz.f323.ntmps, Tryz.f323.results.toList⟩ := by kernel_rfl   -- internal/strconv.log10Pow2
theorem fn_324 : fnOf Tryz.prog 324 = some ⟨Tryz.f324.body.getD .skip, Tryz.f324.ntmps, Tryz.f324.results.toList⟩ := by kernel_rfl   -- internal/strconv.bool2[int]
theorem fn_325 : fnOf Tryz.prog 325 = some ⟨Tryz.f325.body.getD .skip, Tryz.f325.ntmps, Tryz.f325.results.toList⟩ := by kernel_rfl   -- internal/strconv.isPowerOfTwo
theorem fn_326 : fnOf Tryz.prog 326 = some ⟨Tryz.f326.body.getD .skip, Tryz.f326.ntmps, Tryz.f326.results.toList⟩ := by kernel_rfl   -- math/bits.TrailingZeros
theorem fn_327 : fnOf Tryz.prog 327 = some ⟨Tryz.f327.body.getD .skip, Tryz.f327.ntmps, Tryz.f327.results.toList⟩ := by kernel_rfl   -- math/bits.TrailingZeros32
end Go.Proofs.YtbjcghnhhgdopaaGreatDoor.Ai
