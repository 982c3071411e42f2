/- Facts on the program's types, printed by ty.py. -/
import Derived.Test.YtkhoelmbcmkhjaaAg
import Derived.Test.YtkhoelmbcmkhjaaProg
namespace Go.Proofs.Ytkhoelmbcmkhjaa
@[simp] theorem sh0 : tsh Try.prog 0 = some (.false, 1) := by kernel_rfl
@[simp] theorem elem0 : telem Try.prog 0 = none := by kernel_rfl
@[simp] theorem arr0 : tarr Try.prog 0 = none := by kernel_rfl
@[simp] theorem size0 : tsize Try.prog 0 = some 1 := by kernel_rfl
@[simp] theorem bytes0 : tbytes Try.prog 0 = some 0 := by kernel_rfl
@[simp] theorem sh1 : tsh Try.prog 1 = some (.false, 1) := by kernel_rfl
@[simp] theorem zero1 : tzero Try.prog 1 = some [.nilf] := by kernel_rfl
@[simp] theorem elem1 : telem Try.prog 1 = none := by kernel_rfl
@[simp] theorem arr1 : tarr Try.prog 1 = none := by kernel_rfl
@[simp] theorem size1 : tsize Try.prog 1 = some 1 := by kernel_rfl
@[simp] theorem bytes1 : tbytes Try.prog 1 = some 8 := by kernel_rfl
@[simp] theorem sh2 : tsh Try.prog 2 = some (.false, 1) := by kernel_rfl
@[simp] theorem zero2 : tzero Try.prog 2 = some [.int .i64 0] := by kernel_rfl
@[simp] theorem elem2 : telem Try.prog 2 = none := by kernel_rfl
@[simp] theorem arr2 : tarr Try.prog 2 = none := by kernel_rfl
@[simp] theorem size2 : tsize Try.prog 2 = some 1 := by kernel_rfl
@[simp] theorem bytes2 : tbytes Try.prog 2 = some 8 := by kernel_rfl
@[simp] theorem int2 : tint Try.prog 2 = some .i64 := by kernel_rfl
@[simp] theorem sh3 : tsh Try.prog 3 = some (.false, 1) := by kernel_rfl
@[simp] theorem zero3 : tzero Try.prog 3 = some [.int .i64 0] := by kernel_rfl
@[simp] theorem elem3 : telem Try.prog 3 = none := by kernel_rfl
@[simp] theorem arr3 : tarr Try.prog 3 = none := by kernel_rfl
@[simp] theorem size3 : tsize Try.prog 3 = some 1 := by kernel_rfl
@[simp] theorem bytes3 : tbytes Try.prog 3 = some 8 := by kernel_rfl
@[simp] theorem int3 : tint Try.prog 3 = some .i64 := by kernel_rfl
@[simp] theorem sh4 : tsh Try.prog 4 = some (.false, 1) := by kernel_rfl
@[simp] theorem zero4 : tzero Try.prog 4 = some [.bool .false] := by kernel_rfl
@[simp] theorem elem4 : telem Try.prog 4 = none := by kernel_rfl
@[simp] theorem arr4 : tarr Try.prog 4 = none := by kernel_rfl
@[simp] theorem size4 : tsize Try.prog 4 = some 1 := by kernel_rfl
@[simp] theorem bytes4 : tbytes Try.prog 4 = some 1 := by kernel_rfl
@[simp] theorem sh5 : tsh Try.prog 5 = some (.false, 1) := by kernel_rfl
@[simp] theorem zero5 : tzero Try.prog 5 = some [.int .u8 0] := by kernel_rfl
@[simp] theorem elem5 : telem Try.prog 5 = none := by kernel_rfl
@[simp] theorem arr5 : tarr Try.prog 5 = none := by kernel_rfl
@[simp] theorem size5 : tsize Try.prog 5 = some 1 := by kernel_rfl
@[simp] theorem bytes5 : tbytes Try.prog 5 = some 1 := by kernel_rfl
@[simp] theorem int5 : tint Try.prog 5 = some .u8 := by kernel_rfl
@[simp] theorem sh6 : tsh Try.prog 6 = some (.false, 1) := by kernel_rfl
@[simp] theorem zero6 : tzero Try.prog 6 = some [.int .u8 0] := by kernel_rfl
@[simp] theorem elem6 : telem Try.prog 6 = none := by kernel_rfl
@[simp] theorem arr6 : tarr Try.prog 6 = none := by kernel_rfl
@[simp] theorem size6 : tsize Try.prog 6 = some 1 := by kernel_rfl
@[simp] theorem bytes6 : tbytes Try.prog 6 = some 1 := by kernel_rfl
@[simp] theorem int6 : tint Try.prog 6 = some .u8 := by kernel_rfl
@[simp] theorem sh7 : tsh Try.prog 7 = some (.true, 4) := by kernel_rfl
@[simp] theorem zero7 : tzero Try.prog 7 = some [.int .i64 0, .int .i64 0, .bool .false, .int .u8 0] := by kernel_rfl
@[simp] theorem elem7 : telem Try.prog 7 = none := by kernel_rfl
@[simp] theorem arr7 : tarr Try.prog 7 = none := by kernel_rfl
@[simp] theorem size7 : tsize Try.prog 7 = some 4 := by kernel_rfl
@[simp] theorem bytes7 : tbytes Try.prog 7 = some 24 := by kernel_rfl
@[simp] theorem places7 : tplaces Try.prog 7 = some [(0, 1), (1, 1), (2, 1), (3, 1)] := by kernel_rfl
@[simp] theorem fld7_0 : tfld Try.prog 7 0 = some (0, (2, 1)) := by kernel_rfl
@[simp] theorem fld7_1 : tfld Try.prog 7 1 = some (1, (3, 1)) := by kernel_rfl
@[simp] theorem fld7_2 : tfld Try.prog 7 2 = some (2, (4, 1)) := by kernel_rfl
@[simp] theorem fld7_3 : tfld Try.prog 7 3 = some (3, (6, 1)) := by kernel_rfl
@[simp] theorem sh8 : tsh Try.prog 8 = some (.true, 4) := by kernel_rfl
@[simp] theorem zero8 : tzero Try.prog 8 = some [.int .i64 0, .int .i64 0, .bool .false, .int .u8 0] := by kernel_rfl
@[simp] theorem elem8 : telem Try.prog 8 = none := by kernel_rfl
@[simp] theorem arr8 : tarr Try.prog 8 = none := by kernel_rfl
@[simp] theorem size8 : tsize Try.prog 8 = some 4 := by kernel_rfl
@[simp] theorem bytes8 : tbytes Try.prog 8 = some 24 := by kernel_rfl
@[simp] theorem places8 : tplaces Try.prog 8 = some [(0, 1), (1, 1), (2, 1), (3, 1)] := by kernel_rfl
@[simp] theorem fld8_0 : tfld Try.prog 8 0 = some (0, (2, 1)) := by kernel_rfl
@[simp] theorem fld8_1 : tfld Try.prog 8 1 = some (1, (3, 1)) := by kernel_rfl
@[simp] theorem fld8_2 : tfld Try.prog 8 2 = some (2, (4, 1)) := by kernel_rfl
@[simp] theorem fld8_3 : tfld Try.prog 8 3 = some (3, (6, 1)) := by kernel_rfl
@[simp] theorem sh9 : tsh Try.prog 9 = some (.false, 1) := by kernel_rfl
@[simp] theorem zero9 : tzero Try.prog 9 = some [.str ByteArray.empty] := by kernel_rfl
@[simp] theorem elem9 : telem Try.prog 9 = none := by kernel_rfl
@[simp] theorem arr9 : tarr Try.prog 9 = none := by kernel_rfl
@[simp] theorem size9 : tsize Try.prog 9 = some 1 := by kernel_rfl
@[simp] theorem bytes9 : tbytes Try.prog 9 = some 16 := by kernel_rfl
@[simp] theorem sh10 : tsh Try.prog 10 = some (.false, 1) := by kernel_rfl
@[simp] theorem zero10 : tzero Try.prog 10 = some [.str ByteArray.empty] := by kernel_rfl
@[simp] theorem elem10 : telem Try.prog 10 = none := by kernel_rfl
@[simp] theorem arr10 : tarr Try.prog 10 = none := by kernel_rfl
@[simp] theorem size10 : tsize Try.prog 10 = some 1 := by kernel_rfl
@[simp] theorem bytes10 : tbytes Try.prog 10 = some 16 := by kernel_rfl
@[simp] theorem sh11 : tsh Try.prog 11 = some (.false, 1) := by kernel_rfl
@[simp] theorem zero11 : tzero Try.prog 11 = some [.str ByteArray.empty] := by kernel_rfl
@[simp] theorem elem11 : telem Try.prog 11 = none := by kernel_rfl
@[simp] theorem arr11 : tarr Try.prog 11 = none := by kernel_rfl
@[simp] theorem size11 : tsize Try.prog 11 = some 1 := by kernel_rfl
@[simp] theorem bytes11 : tbytes Try.prog 11 = some 16 := by kernel_rfl
@[simp] theorem sh12 : tsh Try.prog 12 = some (.false, 1) := by kernel_rfl
@[simp] theorem zero12 : tzero Try.prog 12 = some [.int .u64 0] := by kernel_rfl
@[simp] theorem elem12 : telem Try.prog 12 = none := by kernel_rfl
@[simp] theorem arr12 : tarr Try.prog 12 = none := by kernel_rfl
@[simp] theorem size12 : tsize Try.prog 12 = some 1 := by kernel_rfl
@[simp] theorem bytes12 : tbytes Try.prog 12 = some 8 := by kernel_rfl
@[simp] theorem int12 : tint Try.prog 12 = some .u64 := by kernel_rfl
@[simp] theorem sh13 : tsh Try.prog 13 = some (.true, 2) := by kernel_rfl
@[simp] theorem zero13 : tzero Try.prog 13 = some [.str ByteArray.empty, .int .u64 0] := by kernel_rfl
@[simp] theorem elem13 : telem Try.prog 13 = none := by kernel_rfl
@[simp] theorem arr13 : tarr Try.prog 13 = none := by kernel_rfl
@[simp] theorem size13 : tsize Try.prog 13 = some 2 := by kernel_rfl
@[simp] theorem bytes13 : tbytes Try.prog 13 = some 24 := by kernel_rfl
@[simp] theorem places13 : tplaces Try.prog 13 = some [(0, 1), (1, 1)] := by kernel_rfl
@[simp] theorem fld13_0 : tfld Try.prog 13 0 = some (0, (9, 1)) := by kernel_rfl
@[simp] theorem fld13_1 : tfld Try.prog 13 1 = some (1, (12, 1)) := by kernel_rfl
@[simp] theorem sh14 : tsh Try.prog 14 = some (.true, 2) := by kernel_rfl
@[simp] theorem zero14 : tzero Try.prog 14 = some [.str ByteArray.empty, .int .u64 0] := by kernel_rfl
@[simp] theorem elem14 : telem Try.prog 14 = none := by kernel_rfl
@[simp] theorem arr14 : tarr Try.prog 14 = none := by kernel_rfl
@[simp] theorem size14 : tsize Try.prog 14 = some 2 := by kernel_rfl
@[simp] theorem bytes14 : tbytes Try.prog 14 = some 24 := by kernel_rfl
@[simp] theorem places14 : tplaces Try.prog 14 = some [(0, 1), (1, 1)] := by kernel_rfl
@[simp] theorem fld14_0 : tfld Try.prog 14 0 = some (0, (9, 1)) := by kernel_rfl
@[simp] theorem fld14_1 : tfld Try.prog 14 1 = some (1, (12, 1)) := by kernel_rfl
@[simp] theorem sh15 : tsh Try.prog 15 = some (.false, 1) := by kernel_rfl
@[simp] theorem zero15 : tzero Try.prog 15 = some [.nilp] := by kernel_rfl
@[simp] theorem elem15 : telem Try.prog 15 = none := by kernel_rfl
@[simp] theorem arr15 : tarr Try.prog 15 = none := by kernel_rfl
@[simp] theorem size15 : tsize Try.prog 15 = some 1 := by kernel_rfl
@[simp] theorem bytes15 : tbytes Try.prog 15 = some 8 := by kernel_rfl
@[simp] theorem sh16 : tsh Try.prog 16 = some (.false, 1) := by kernel_rfl
@[simp] theorem zero16 : tzero Try.prog 16 = some [.nilp] := by kernel_rfl
@[simp] theorem elem16 : telem Try.prog 16 = none := by kernel_rfl
@[simp] theorem arr16 : tarr Try.prog 16 = none := by kernel_rfl
@[simp] theorem size16 : tsize Try.prog 16 = some 1 := by kernel_rfl
@[simp] theorem bytes16 : tbytes Try.prog 16 = some 8 := by kernel_rfl
@[simp] theorem sh17 : tsh Try.prog 17 = some (.false, 1) := by kernel_rfl
@[simp] theorem zero17 : tzero Try.prog 17 = some [.nilp] := by kernel_rfl
@[simp] theorem elem17 : telem Try.prog 17 = none := by kernel_rfl
@[simp] theorem arr17 : tarr Try.prog 17 = none := by kernel_rfl
@[simp] theorem size17 : tsize Try.prog 17 = some 1 := by kernel_rfl
@[simp] theorem bytes17 : tbytes Try.prog 17 = some 8 := by kernel_rfl
@[simp] theorem sh18 : tsh Try.prog 18 = some (.true, 1) := by kernel_rfl
@[simp] theorem zero18 : tzero Try.prog 18 = some [.nilp] := by kernel_rfl
@[simp] theorem elem18 : telem Try.prog 18 = none := by kernel_rfl
@[simp] theorem arr18 : tarr Try.prog 18 = none := by kernel_rfl
@[simp] theorem size18 : tsize Try.prog 18 = some 1 := by kernel_rfl
@[simp] theorem bytes18 : tbytes Try.prog 18 = some 8 := by kernel_rfl
@[simp] theorem places18 : tplaces Try.prog 18 = some [(0, 1)] := by kernel_rfl
@[simp] theorem fld18_0 : tfld Try.prog 18 0 = some (0, (17, 1)) := by kernel_rfl
@[simp] theorem sh19 : tsh Try.prog 19 = some (.true, 1) := by kernel_rfl
@[simp] theorem zero19 : tzero Try.prog 19 = some [.nilp] := by kernel_rfl
@[simp] theorem elem19 : telem Try.prog 19 = none := by kernel_rfl
@[simp] theorem arr19 : tarr Try.prog 19 = none := by kernel_rfl
@[simp] theorem size19 : tsize Try.prog 19 = some 1 := by kernel_rfl
@[simp] theorem bytes19 : tbytes Try.prog 19 = some 8 := by kernel_rfl
@[simp] theorem places19 : tplaces Try.prog 19 = some [(0, 1)] := by kernel_rfl
@[simp] theorem fld19_0 : tfld Try.prog 19 0 = some (0, (17, 1)) := by kernel_rfl
@[simp] theorem sh20 : tsh Try.prog 20 = some (.false, 1) := by kernel_rfl
@[simp] theorem elem20 : telem Try.prog 20 = none := by kernel_rfl
@[simp] theorem arr20 : tarr Try.prog 20 = none := by kernel_rfl
@[simp] theorem size20 : tsize Try.prog 20 = some 1 := by kernel_rfl
@[simp] theorem bytes20 : tbytes Try.prog 20 = some 16 := by kernel_rfl
@[simp] theorem sh21 : tsh Try.prog 21 = some (.false, 1) := by kernel_rfl
@[simp] theorem zero21 : tzero Try.prog 21 = some [.int .i32 0] := by kernel_rfl
@[simp] theorem elem21 : telem Try.prog 21 = none := by kernel_rfl
@[simp] theorem arr21 : tarr Try.prog 21 = none := by kernel_rfl
@[simp] theorem size21 : tsize Try.prog 21 = some 1 := by kernel_rfl
@[simp] theorem bytes21 : tbytes Try.prog 21 = some 4 := by kernel_rfl
@[simp] theorem int21 : tint Try.prog 21 = some .i32 := by kernel_rfl
@[simp] theorem sh22 : tsh Try.prog 22 = some (.false, 1) := by kernel_rfl
@[simp] theorem zero22 : tzero Try.prog 22 = some [.nils] := by kernel_rfl
@[simp] theorem elem22 : telem Try.prog 22 = some 55 := by kernel_rfl
@[simp] theorem arr22 : tarr Try.prog 22 = none := by kernel_rfl
@[simp] theorem size22 : tsize Try.prog 22 = some 1 := by kernel_rfl
@[simp] theorem bytes22 : tbytes Try.prog 22 = some 24 := by kernel_rfl
@[simp] theorem sh23 : tsh Try.prog 23 = some (.true, 1) := by kernel_rfl
@[simp] theorem zero23 : tzero Try.prog 23 = some [.nils] := by kernel_rfl
@[simp] theorem elem23 : telem Try.prog 23 = none := by kernel_rfl
@[simp] theorem arr23 : tarr Try.prog 23 = none := by kernel_rfl
@[simp] theorem size23 : tsize Try.prog 23 = some 1 := by kernel_rfl
@[simp] theorem bytes23 : tbytes Try.prog 23 = some 24 := by kernel_rfl
@[simp] theorem places23 : tplaces Try.prog 23 = some [(0, 1)] := by kernel_rfl
@[simp] theorem fld23_0 : tfld Try.prog 23 0 = some (0, (22, 1)) := by kernel_rfl
@[simp] theorem sh24 : tsh Try.prog 24 = some (.true, 1) := by kernel_rfl
@[simp] theorem zero24 : tzero Try.prog 24 = some [.nils] := by kernel_rfl
@[simp] theorem elem24 : telem Try.prog 24 = none := by kernel_rfl
@[simp] theorem arr24 : tarr Try.prog 24 = none := by kernel_rfl
@[simp] theorem size24 : tsize Try.prog 24 = some 1 := by kernel_rfl
@[simp] theorem bytes24 : tbytes Try.prog 24 = some 24 := by kernel_rfl
@[simp] theorem places24 : tplaces Try.prog 24 = some [(0, 1)] := by kernel_rfl
@[simp] theorem fld24_0 : tfld Try.prog 24 0 = some (0, (22, 1)) := by kernel_rfl
@[simp] theorem sh25 : tsh Try.prog 25 = some (.false, 1) := by kernel_rfl
@[simp] theorem zero25 : tzero Try.prog 25 = some [.nils] := by kernel_rfl
@[simp] theorem elem25 : telem Try.prog 25 = some 2 := by kernel_rfl
@[simp] theorem arr25 : tarr Try.prog 25 = none := by kernel_rfl
@[simp] theorem size25 : tsize Try.prog 25 = some 1 := by kernel_rfl
@[simp] theorem bytes25 : tbytes Try.prog 25 = some 24 := by kernel_rfl
@[simp] theorem sh26 : tsh Try.prog 26 = some (.true, 6) := by kernel_rfl
@[simp] theorem zero26 : tzero Try.prog 26 = some [.int .i64 0, .int .i64 0, .nils, .nils, .bool .false, .int .i64 0] := by kernel_rfl
@[simp] theorem elem26 : telem Try.prog 26 = none := by kernel_rfl
@[simp] theorem arr26 : tarr Try.prog 26 = none := by kernel_rfl
@[simp] theorem size26 : tsize Try.prog 26 = some 6 := by kernel_rfl
@[simp] theorem bytes26 : tbytes Try.prog 26 = some 80 := by kernel_rfl
@[simp] theorem places26 : tplaces Try.prog 26 = some [(0, 1), (1, 1), (2, 1), (3, 1), (4, 1), (5, 1)] := by kernel_rfl
@[simp] theorem fld26_0 : tfld Try.prog 26 0 = some (0, (3, 1)) := by kernel_rfl
@[simp] theorem fld26_1 : tfld Try.prog 26 1 = some (1, (3, 1)) := by kernel_rfl
@[simp] theorem fld26_2 : tfld Try.prog 26 2 = some (2, (25, 1)) := by kernel_rfl
@[simp] theorem fld26_3 : tfld Try.prog 26 3 = some (3, (25, 1)) := by kernel_rfl
@[simp] theorem fld26_4 : tfld Try.prog 26 4 = some (4, (4, 1)) := by kernel_rfl
@[simp] theorem fld26_5 : tfld Try.prog 26 5 = some (5, (2, 1)) := by kernel_rfl
@[simp] theorem sh27 : tsh Try.prog 27 = some (.true, 6) := by kernel_rfl
@[simp] theorem zero27 : tzero Try.prog 27 = some [.int .i64 0, .int .i64 0, .nils, .nils, .bool .false, .int .i64 0] := by kernel_rfl
@[simp] theorem elem27 : telem Try.prog 27 = none := by kernel_rfl
@[simp] theorem arr27 : tarr Try.prog 27 = none := by kernel_rfl
@[simp] theorem size27 : tsize Try.prog 27 = some 6 := by kernel_rfl
@[simp] theorem bytes27 : tbytes Try.prog 27 = some 80 := by kernel_rfl
@[simp] theorem places27 : tplaces Try.prog 27 = some [(0, 1), (1, 1), (2, 1), (3, 1), (4, 1), (5, 1)] := by kernel_rfl
@[simp] theorem fld27_0 : tfld Try.prog 27 0 = some (0, (3, 1)) := by kernel_rfl
@[simp] theorem fld27_1 : tfld Try.prog 27 1 = some (1, (3, 1)) := by kernel_rfl
@[simp] theorem fld27_2 : tfld Try.prog 27 2 = some (2, (25, 1)) := by kernel_rfl
@[simp] theorem fld27_3 : tfld Try.prog 27 3 = some (3, (25, 1)) := by kernel_rfl
@[simp] theorem fld27_4 : tfld Try.prog 27 4 = some (4, (4, 1)) := by kernel_rfl
@[simp] theorem fld27_5 : tfld Try.prog 27 5 = some (5, (2, 1)) := by kernel_rfl
@[simp] theorem sh28 : tsh Try.prog 28 = some (.false, 1) := by kernel_rfl
@[simp] theorem zero28 : tzero Try.prog 28 = some [.nils] := by kernel_rfl
@[simp] theorem elem28 : telem Try.prog 28 = some 34 := by kernel_rfl
@[simp] theorem arr28 : tarr Try.prog 28 = none := by kernel_rfl
@[simp] theorem size28 : tsize Try.prog 28 = some 1 := by kernel_rfl
@[simp] theorem bytes28 : tbytes Try.prog 28 = some 24 := by kernel_rfl
@[simp] theorem sh29 : tsh Try.prog 29 = some (.true, 10) := by kernel_rfl
@[simp] theorem zero29 : tzero Try.prog 29 = some [.nils, .int .i64 0, .int .i64 0, .int .i64 0, .nils, .nils, .bool .false, .int .i64 0, .int .i64 0, .nils] := by kernel_rfl
@[simp] theorem elem29 : telem Try.prog 29 = none := by kernel_rfl
@[simp] theorem arr29 : tarr Try.prog 29 = none := by kernel_rfl
@[simp] theorem size29 : tsize Try.prog 29 = some 10 := by kernel_rfl
@[simp] theorem bytes29 : tbytes Try.prog 29 = some 144 := by kernel_rfl
@[simp] theorem places29 : tplaces Try.prog 29 = some [(0, 1), (1, 1), (2, 6), (8, 1), (9, 1)] := by kernel_rfl
@[simp] theorem fld29_0 : tfld Try.prog 29 0 = some (0, (24, 1)) := by kernel_rfl
@[simp] theorem fld29_1 : tfld Try.prog 29 1 = some (1, (2, 1)) := by kernel_rfl
@[simp] theorem fld29_2 : tfld Try.prog 29 2 = some (2, (27, 6)) := by kernel_rfl
@[simp] theorem fld29_3 : tfld Try.prog 29 3 = some (8, (2, 1)) := by kernel_rfl
@[simp] theorem fld29_4 : tfld Try.prog 29 4 = some (9, (28, 1)) := by kernel_rfl
@[simp] theorem sh30 : tsh Try.prog 30 = some (.true, 10) := by kernel_rfl
@[simp] theorem zero30 : tzero Try.prog 30 = some [.nils, .int .i64 0, .int .i64 0, .int .i64 0, .nils, .nils, .bool .false, .int .i64 0, .int .i64 0, .nils] := by kernel_rfl
@[simp] theorem elem30 : telem Try.prog 30 = none := by kernel_rfl
@[simp] theorem arr30 : tarr Try.prog 30 = none := by kernel_rfl
@[simp] theorem size30 : tsize Try.prog 30 = some 10 := by kernel_rfl
@[simp] theorem bytes30 : tbytes Try.prog 30 = some 144 := by kernel_rfl
@[simp] theorem places30 : tplaces Try.prog 30 = some [(0, 1), (1, 1), (2, 6), (8, 1), (9, 1)] := by kernel_rfl
@[simp] theorem fld30_0 : tfld Try.prog 30 0 = some (0, (24, 1)) := by kernel_rfl
@[simp] theorem fld30_1 : tfld Try.prog 30 1 = some (1, (2, 1)) := by kernel_rfl
@[simp] theorem fld30_2 : tfld Try.prog 30 2 = some (2, (27, 6)) := by kernel_rfl
@[simp] theorem fld30_3 : tfld Try.prog 30 3 = some (8, (2, 1)) := by kernel_rfl
@[simp] theorem fld30_4 : tfld Try.prog 30 4 = some (9, (28, 1)) := by kernel_rfl
@[simp] theorem sh31 : tsh Try.prog 31 = some (.false, 1) := by kernel_rfl
@[simp] theorem zero31 : tzero Try.prog 31 = some [.nilf] := by kernel_rfl
@[simp] theorem elem31 : telem Try.prog 31 = none := by kernel_rfl
@[simp] theorem arr31 : tarr Try.prog 31 = none := by kernel_rfl
@[simp] theorem size31 : tsize Try.prog 31 = some 1 := by kernel_rfl
@[simp] theorem bytes31 : tbytes Try.prog 31 = some 8 := by kernel_rfl
@[simp] theorem sh32 : tsh Try.prog 32 = some (.false, 1) := by kernel_rfl
@[simp] theorem zero32 : tzero Try.prog 32 = some [.nilf] := by kernel_rfl
@[simp] theorem elem32 : telem Try.prog 32 = none := by kernel_rfl
@[simp] theorem arr32 : tarr Try.prog 32 = none := by kernel_rfl
@[simp] theorem size32 : tsize Try.prog 32 = some 1 := by kernel_rfl
@[simp] theorem bytes32 : tbytes Try.prog 32 = some 8 := by kernel_rfl
@[simp] theorem sh33 : tsh Try.prog 33 = some (.true, 2) := by kernel_rfl
@[simp] theorem zero33 : tzero Try.prog 33 = some [.int .i64 0, .int .i64 0] := by kernel_rfl
@[simp] theorem elem33 : telem Try.prog 33 = none := by kernel_rfl
@[simp] theorem arr33 : tarr Try.prog 33 = none := by kernel_rfl
@[simp] theorem size33 : tsize Try.prog 33 = some 2 := by kernel_rfl
@[simp] theorem bytes33 : tbytes Try.prog 33 = some 16 := by kernel_rfl
@[simp] theorem places33 : tplaces Try.prog 33 = some [(0, 1), (1, 1)] := by kernel_rfl
@[simp] theorem fld33_0 : tfld Try.prog 33 0 = some (0, (3, 1)) := by kernel_rfl
@[simp] theorem fld33_1 : tfld Try.prog 33 1 = some (1, (2, 1)) := by kernel_rfl
@[simp] theorem sh34 : tsh Try.prog 34 = some (.true, 2) := by kernel_rfl
@[simp] theorem zero34 : tzero Try.prog 34 = some [.int .i64 0, .int .i64 0] := by kernel_rfl
@[simp] theorem elem34 : telem Try.prog 34 = none := by kernel_rfl
@[simp] theorem arr34 : tarr Try.prog 34 = none := by kernel_rfl
@[simp] theorem size34 : tsize Try.prog 34 = some 2 := by kernel_rfl
@[simp] theorem bytes34 : tbytes Try.prog 34 = some 16 := by kernel_rfl
@[simp] theorem places34 : tplaces Try.prog 34 = some [(0, 1), (1, 1)] := by kernel_rfl
@[simp] theorem fld34_0 : tfld Try.prog 34 0 = some (0, (3, 1)) := by kernel_rfl
@[simp] theorem fld34_1 : tfld Try.prog 34 1 = some (1, (2, 1)) := by kernel_rfl
@[simp] theorem sh35 : tsh Try.prog 35 = some (.true, 2) := by kernel_rfl
@[simp] theorem zero35 : tzero Try.prog 35 = some [.int .i64 0, .int .i64 0] := by kernel_rfl
@[simp] theorem elem35 : telem Try.prog 35 = none := by kernel_rfl
@[simp] theorem arr35 : tarr Try.prog 35 = none := by kernel_rfl
@[simp] theorem size35 : tsize Try.prog 35 = some 2 := by kernel_rfl
@[simp] theorem bytes35 : tbytes Try.prog 35 = some 16 := by kernel_rfl
@[simp] theorem places35 : tplaces Try.prog 35 = some [(0, 1), (1, 1)] := by kernel_rfl
@[simp] theorem fld35_0 : tfld Try.prog 35 0 = some (0, (3, 1)) := by kernel_rfl
@[simp] theorem fld35_1 : tfld Try.prog 35 1 = some (1, (2, 1)) := by kernel_rfl
@[simp] theorem sh36 : tsh Try.prog 36 = some (.true, 2) := by kernel_rfl
@[simp] theorem zero36 : tzero Try.prog 36 = some [.int .i64 0, .int .i64 0] := by kernel_rfl
@[simp] theorem elem36 : telem Try.prog 36 = none := by kernel_rfl
@[simp] theorem arr36 : tarr Try.prog 36 = none := by kernel_rfl
@[simp] theorem size36 : tsize Try.prog 36 = some 2 := by kernel_rfl
@[simp] theorem bytes36 : tbytes Try.prog 36 = some 16 := by kernel_rfl
@[simp] theorem places36 : tplaces Try.prog 36 = some [(0, 1), (1, 1)] := by kernel_rfl
@[simp] theorem fld36_0 : tfld Try.prog 36 0 = some (0, (3, 1)) := by kernel_rfl
@[simp] theorem fld36_1 : tfld Try.prog 36 1 = some (1, (2, 1)) := by kernel_rfl
@[simp] theorem sh37 : tsh Try.prog 37 = some (.true, 10) := by kernel_rfl
@[simp] theorem zero37 : tzero Try.prog 37 = some [.int .i64 0, .int .i64 0, .int .i64 0, .int .i64 0, .int .i64 0, .nils, .int .i64 0, .int .i64 0, .int .i64 0, .int .i64 0] := by kernel_rfl
@[simp] theorem elem37 : telem Try.prog 37 = none := by kernel_rfl
@[simp] theorem arr37 : tarr Try.prog 37 = none := by kernel_rfl
@[simp] theorem size37 : tsize Try.prog 37 = some 10 := by kernel_rfl
@[simp] theorem bytes37 : tbytes Try.prog 37 = some 96 := by kernel_rfl
@[simp] theorem places37 : tplaces Try.prog 37 = some [(0, 1), (1, 1), (2, 2), (4, 1), (5, 1), (6, 1), (7, 2), (9, 1)] := by kernel_rfl
@[simp] theorem fld37_0 : tfld Try.prog 37 0 = some (0, (3, 1)) := by kernel_rfl
@[simp] theorem fld37_1 : tfld Try.prog 37 1 = some (1, (2, 1)) := by kernel_rfl
@[simp] theorem fld37_2 : tfld Try.prog 37 2 = some (2, (34, 2)) := by kernel_rfl
@[simp] theorem fld37_3 : tfld Try.prog 37 3 = some (4, (3, 1)) := by kernel_rfl
@[simp] theorem fld37_4 : tfld Try.prog 37 4 = some (5, (25, 1)) := by kernel_rfl
@[simp] theorem fld37_5 : tfld Try.prog 37 5 = some (6, (2, 1)) := by kernel_rfl
@[simp] theorem fld37_6 : tfld Try.prog 37 6 = some (7, (36, 2)) := by kernel_rfl
@[simp] theorem fld37_7 : tfld Try.prog 37 7 = some (9, (3, 1)) := by kernel_rfl
@[simp] theorem sh38 : tsh Try.prog 38 = some (.true, 10) := by kernel_rfl
@[simp] theorem zero38 : tzero Try.prog 38 = some [.int .i64 0, .int .i64 0, .int .i64 0, .int .i64 0, .int .i64 0, .nils, .int .i64 0, .int .i64 0, .int .i64 0, .int .i64 0] := by kernel_rfl
@[simp] theorem elem38 : telem Try.prog 38 = none := by kernel_rfl
@[simp] theorem arr38 : tarr Try.prog 38 = none := by kernel_rfl
@[simp] theorem size38 : tsize Try.prog 38 = some 10 := by kernel_rfl
@[simp] theorem bytes38 : tbytes Try.prog 38 = some 96 := by kernel_rfl
@[simp] theorem places38 : tplaces Try.prog 38 = some [(0, 1), (1, 1), (2, 2), (4, 1), (5, 1), (6, 1), (7, 2), (9, 1)] := by kernel_rfl
@[simp] theorem fld38_0 : tfld Try.prog 38 0 = some (0, (3, 1)) := by kernel_rfl
@[simp] theorem fld38_1 : tfld Try.prog 38 1 = some (1, (2, 1)) := by kernel_rfl
@[simp] theorem fld38_2 : tfld Try.prog 38 2 = some (2, (34, 2)) := by kernel_rfl
@[simp] theorem fld38_3 : tfld Try.prog 38 3 = some (4, (3, 1)) := by kernel_rfl
@[simp] theorem fld38_4 : tfld Try.prog 38 4 = some (5, (25, 1)) := by kernel_rfl
@[simp] theorem fld38_5 : tfld Try.prog 38 5 = some (6, (2, 1)) := by kernel_rfl
@[simp] theorem fld38_6 : tfld Try.prog 38 6 = some (7, (36, 2)) := by kernel_rfl
@[simp] theorem fld38_7 : tfld Try.prog 38 7 = some (9, (3, 1)) := by kernel_rfl
@[simp] theorem sh39 : tsh Try.prog 39 = some (.false, 1) := by kernel_rfl
@[simp] theorem zero39 : tzero Try.prog 39 = some [.int .i64 0] := by kernel_rfl
@[simp] theorem elem39 : telem Try.prog 39 = none := by kernel_rfl
@[simp] theorem arr39 : tarr Try.prog 39 = none := by kernel_rfl
@[simp] theorem size39 : tsize Try.prog 39 = some 1 := by kernel_rfl
@[simp] theorem bytes39 : tbytes Try.prog 39 = some 8 := by kernel_rfl
@[simp] theorem int39 : tint Try.prog 39 = some .i64 := by kernel_rfl
@[simp] theorem sh40 : tsh Try.prog 40 = some (.false, 1) := by kernel_rfl
@[simp] theorem elem40 : telem Try.prog 40 = none := by kernel_rfl
@[simp] theorem arr40 : tarr Try.prog 40 = none := by kernel_rfl
@[simp] theorem size40 : tsize Try.prog 40 = some 1 := by kernel_rfl
@[simp] theorem bytes40 : tbytes Try.prog 40 = some 0 := by kernel_rfl
@[simp] theorem sh41 : tsh Try.prog 41 = some (.false, 1) := by kernel_rfl
@[simp] theorem zero41 : tzero Try.prog 41 = some [.nilf] := by kernel_rfl
@[simp] theorem elem41 : telem Try.prog 41 = none := by kernel_rfl
@[simp] theorem arr41 : tarr Try.prog 41 = none := by kernel_rfl
@[simp] theorem size41 : tsize Try.prog 41 = some 1 := by kernel_rfl
@[simp] theorem bytes41 : tbytes Try.prog 41 = some 8 := by kernel_rfl
@[simp] theorem sh42 : tsh Try.prog 42 = some (.false, 1) := by kernel_rfl
@[simp] theorem zero42 : tzero Try.prog 42 = some [.nilf] := by kernel_rfl
@[simp] theorem elem42 : telem Try.prog 42 = none := by kernel_rfl
@[simp] theorem arr42 : tarr Try.prog 42 = none := by kernel_rfl
@[simp] theorem size42 : tsize Try.prog 42 = some 1 := by kernel_rfl
@[simp] theorem bytes42 : tbytes Try.prog 42 = some 8 := by kernel_rfl
@[simp] theorem sh43 : tsh Try.prog 43 = some (.false, 1) := by kernel_rfl
@[simp] theorem zero43 : tzero Try.prog 43 = some [.nilf] := by kernel_rfl
@[simp] theorem elem43 : telem Try.prog 43 = none := by kernel_rfl
@[simp] theorem arr43 : tarr Try.prog 43 = none := by kernel_rfl
@[simp] theorem size43 : tsize Try.prog 43 = some 1 := by kernel_rfl
@[simp] theorem bytes43 : tbytes Try.prog 43 = some 8 := by kernel_rfl
@[simp] theorem sh44 : tsh Try.prog 44 = some (.false, 1) := by kernel_rfl
@[simp] theorem zero44 : tzero Try.prog 44 = some [.nilf] := by kernel_rfl
@[simp] theorem elem44 : telem Try.prog 44 = none := by kernel_rfl
@[simp] theorem arr44 : tarr Try.prog 44 = none := by kernel_rfl
@[simp] theorem size44 : tsize Try.prog 44 = some 1 := by kernel_rfl
@[simp] theorem bytes44 : tbytes Try.prog 44 = some 8 := by kernel_rfl
@[simp] theorem sh45 : tsh Try.prog 45 = some (.false, 1) := by kernel_rfl
@[simp] theorem zero45 : tzero Try.prog 45 = some [.nilf] := by kernel_rfl
@[simp] theorem elem45 : telem Try.prog 45 = none := by kernel_rfl
@[simp] theorem arr45 : tarr Try.prog 45 = none := by kernel_rfl
@[simp] theorem size45 : tsize Try.prog 45 = some 1 := by kernel_rfl
@[simp] theorem bytes45 : tbytes Try.prog 45 = some 8 := by kernel_rfl
@[simp] theorem sh46 : tsh Try.prog 46 = some (.false, 1) := by kernel_rfl
@[simp] theorem zero46 : tzero Try.prog 46 = some [.nilf] := by kernel_rfl
@[simp] theorem elem46 : telem Try.prog 46 = none := by kernel_rfl
@[simp] theorem arr46 : tarr Try.prog 46 = none := by kernel_rfl
@[simp] theorem size46 : tsize Try.prog 46 = some 1 := by kernel_rfl
@[simp] theorem bytes46 : tbytes Try.prog 46 = some 8 := by kernel_rfl
@[simp] theorem sh47 : tsh Try.prog 47 = some (.false, 1) := by kernel_rfl
@[simp] theorem zero47 : tzero Try.prog 47 = some [.nils] := by kernel_rfl
@[simp] theorem elem47 : telem Try.prog 47 = some 3 := by kernel_rfl
@[simp] theorem arr47 : tarr Try.prog 47 = none := by kernel_rfl
@[simp] theorem size47 : tsize Try.prog 47 = some 1 := by kernel_rfl
@[simp] theorem bytes47 : tbytes Try.prog 47 = some 24 := by kernel_rfl
@[simp] theorem sh48 : tsh Try.prog 48 = some (.false, 1) := by kernel_rfl
@[simp] theorem zero48 : tzero Try.prog 48 = some [.int .u64 0] := by kernel_rfl
@[simp] theorem elem48 : telem Try.prog 48 = none := by kernel_rfl
@[simp] theorem arr48 : tarr Try.prog 48 = none := by kernel_rfl
@[simp] theorem size48 : tsize Try.prog 48 = some 1 := by kernel_rfl
@[simp] theorem bytes48 : tbytes Try.prog 48 = some 8 := by kernel_rfl
@[simp] theorem int48 : tint Try.prog 48 = some .u64 := by kernel_rfl
@[simp] theorem sh49 : tsh Try.prog 49 = some (.true, 2) := by kernel_rfl
@[simp] theorem zero49 : tzero Try.prog 49 = some [.int .i64 0, .int .i64 0] := by kernel_rfl
@[simp] theorem elem49 : telem Try.prog 49 = none := by kernel_rfl
@[simp] theorem arr49 : tarr Try.prog 49 = none := by kernel_rfl
@[simp] theorem size49 : tsize Try.prog 49 = some 2 := by kernel_rfl
@[simp] theorem bytes49 : tbytes Try.prog 49 = some 16 := by kernel_rfl
@[simp] theorem places49 : tplaces Try.prog 49 = some [(0, 1), (1, 1)] := by kernel_rfl
@[simp] theorem fld49_0 : tfld Try.prog 49 0 = some (0, (3, 1)) := by kernel_rfl
@[simp] theorem fld49_1 : tfld Try.prog 49 1 = some (1, (2, 1)) := by kernel_rfl
@[simp] theorem sh50 : tsh Try.prog 50 = some (.true, 2) := by kernel_rfl
@[simp] theorem zero50 : tzero Try.prog 50 = some [.int .i64 0, .int .i64 0] := by kernel_rfl
@[simp] theorem elem50 : telem Try.prog 50 = none := by kernel_rfl
@[simp] theorem arr50 : tarr Try.prog 50 = none := by kernel_rfl
@[simp] theorem size50 : tsize Try.prog 50 = some 2 := by kernel_rfl
@[simp] theorem bytes50 : tbytes Try.prog 50 = some 16 := by kernel_rfl
@[simp] theorem places50 : tplaces Try.prog 50 = some [(0, 1), (1, 1)] := by kernel_rfl
@[simp] theorem fld50_0 : tfld Try.prog 50 0 = some (0, (3, 1)) := by kernel_rfl
@[simp] theorem fld50_1 : tfld Try.prog 50 1 = some (1, (2, 1)) := by kernel_rfl
@[simp] theorem sh51 : tsh Try.prog 51 = some (.false, 1) := by kernel_rfl
@[simp] theorem zero51 : tzero Try.prog 51 = some [.nils] := by kernel_rfl
@[simp] theorem elem51 : telem Try.prog 51 = some 50 := by kernel_rfl
@[simp] theorem arr51 : tarr Try.prog 51 = none := by kernel_rfl
@[simp] theorem size51 : tsize Try.prog 51 = some 1 := by kernel_rfl
@[simp] theorem bytes51 : tbytes Try.prog 51 = some 24 := by kernel_rfl
@[simp] theorem sh52 : tsh Try.prog 52 = some (.false, 1) := by kernel_rfl
@[simp] theorem zero52 : tzero Try.prog 52 = some [.nils] := by kernel_rfl
@[simp] theorem elem52 : telem Try.prog 52 = some 76 := by kernel_rfl
@[simp] theorem arr52 : tarr Try.prog 52 = none := by kernel_rfl
@[simp] theorem size52 : tsize Try.prog 52 = some 1 := by kernel_rfl
@[simp] theorem bytes52 : tbytes Try.prog 52 = some 24 := by kernel_rfl
@[simp] theorem sh53 : tsh Try.prog 53 = some (.false, 1) := by kernel_rfl
@[simp] theorem zero53 : tzero Try.prog 53 = some [.nils] := by kernel_rfl
@[simp] theorem elem53 : telem Try.prog 53 = some 65 := by kernel_rfl
@[simp] theorem arr53 : tarr Try.prog 53 = none := by kernel_rfl
@[simp] theorem size53 : tsize Try.prog 53 = some 1 := by kernel_rfl
@[simp] theorem bytes53 : tbytes Try.prog 53 = some 24 := by kernel_rfl
@[simp] theorem sh54 : tsh Try.prog 54 = some (.true, 5) := by kernel_rfl
@[simp] theorem zero54 : tzero Try.prog 54 = some [.nils, .nils, .nils, .nils, .nils] := by kernel_rfl
@[simp] theorem elem54 : telem Try.prog 54 = none := by kernel_rfl
@[simp] theorem arr54 : tarr Try.prog 54 = none := by kernel_rfl
@[simp] theorem size54 : tsize Try.prog 54 = some 5 := by kernel_rfl
@[simp] theorem bytes54 : tbytes Try.prog 54 = some 120 := by kernel_rfl
@[simp] theorem places54 : tplaces Try.prog 54 = some [(0, 1), (1, 1), (2, 1), (3, 1), (4, 1)] := by kernel_rfl
@[simp] theorem fld54_0 : tfld Try.prog 54 0 = some (0, (52, 1)) := by kernel_rfl
@[simp] theorem fld54_1 : tfld Try.prog 54 1 = some (1, (52, 1)) := by kernel_rfl
@[simp] theorem fld54_2 : tfld Try.prog 54 2 = some (2, (52, 1)) := by kernel_rfl
@[simp] theorem fld54_3 : tfld Try.prog 54 3 = some (3, (51, 1)) := by kernel_rfl
@[simp] theorem fld54_4 : tfld Try.prog 54 4 = some (4, (53, 1)) := by kernel_rfl
@[simp] theorem sh55 : tsh Try.prog 55 = some (.true, 5) := by kernel_rfl
@[simp] theorem zero55 : tzero Try.prog 55 = some [.nils, .nils, .nils, .nils, .nils] := by kernel_rfl
@[simp] theorem elem55 : telem Try.prog 55 = none := by kernel_rfl
@[simp] theorem arr55 : tarr Try.prog 55 = none := by kernel_rfl
@[simp] theorem size55 : tsize Try.prog 55 = some 5 := by kernel_rfl
@[simp] theorem bytes55 : tbytes Try.prog 55 = some 120 := by kernel_rfl
@[simp] theorem places55 : tplaces Try.prog 55 = some [(0, 1), (1, 1), (2, 1), (3, 1), (4, 1)] := by kernel_rfl
@[simp] theorem fld55_0 : tfld Try.prog 55 0 = some (0, (52, 1)) := by kernel_rfl
@[simp] theorem fld55_1 : tfld Try.prog 55 1 = some (1, (52, 1)) := by kernel_rfl
@[simp] theorem fld55_2 : tfld Try.prog 55 2 = some (2, (52, 1)) := by kernel_rfl
@[simp] theorem fld55_3 : tfld Try.prog 55 3 = some (3, (51, 1)) := by kernel_rfl
@[simp] theorem fld55_4 : tfld Try.prog 55 4 = some (4, (53, 1)) := by kernel_rfl
@[simp] theorem sh56 : tsh Try.prog 56 = some (.false, 1) := by kernel_rfl
@[simp] theorem elem56 : telem Try.prog 56 = none := by kernel_rfl
@[simp] theorem arr56 : tarr Try.prog 56 = none := by kernel_rfl
@[simp] theorem size56 : tsize Try.prog 56 = some 1 := by kernel_rfl
@[simp] theorem bytes56 : tbytes Try.prog 56 = some 0 := by kernel_rfl
@[simp] theorem sh57 : tsh Try.prog 57 = some (.false, 1) := by kernel_rfl
@[simp] theorem zero57 : tzero Try.prog 57 = some [.nilf] := by kernel_rfl
@[simp] theorem elem57 : telem Try.prog 57 = none := by kernel_rfl
@[simp] theorem arr57 : tarr Try.prog 57 = none := by kernel_rfl
@[simp] theorem size57 : tsize Try.prog 57 = some 1 := by kernel_rfl
@[simp] theorem bytes57 : tbytes Try.prog 57 = some 8 := by kernel_rfl
@[simp] theorem sh58 : tsh Try.prog 58 = some (.false, 1) := by kernel_rfl
@[simp] theorem zero58 : tzero Try.prog 58 = some [.nilf] := by kernel_rfl
@[simp] theorem elem58 : telem Try.prog 58 = none := by kernel_rfl
@[simp] theorem arr58 : tarr Try.prog 58 = none := by kernel_rfl
@[simp] theorem size58 : tsize Try.prog 58 = some 1 := by kernel_rfl
@[simp] theorem bytes58 : tbytes Try.prog 58 = some 8 := by kernel_rfl
@[simp] theorem sh59 : tsh Try.prog 59 = some (.false, 1) := by kernel_rfl
@[simp] theorem zero59 : tzero Try.prog 59 = some [.nilf] := by kernel_rfl
@[simp] theorem elem59 : telem Try.prog 59 = none := by kernel_rfl
@[simp] theorem arr59 : tarr Try.prog 59 = none := by kernel_rfl
@[simp] theorem size59 : tsize Try.prog 59 = some 1 := by kernel_rfl
@[simp] theorem bytes59 : tbytes Try.prog 59 = some 8 := by kernel_rfl
@[simp] theorem sh60 : tsh Try.prog 60 = some (.true, 2) := by kernel_rfl
@[simp] theorem zero60 : tzero Try.prog 60 = some [.int .i64 0, .int .i64 0] := by kernel_rfl
@[simp] theorem elem60 : telem Try.prog 60 = none := by kernel_rfl
@[simp] theorem arr60 : tarr Try.prog 60 = some (2, 3) := by kernel_rfl
@[simp] theorem size60 : tsize Try.prog 60 = some 2 := by kernel_rfl
@[simp] theorem bytes60 : tbytes Try.prog 60 = some 16 := by kernel_rfl
@[simp] theorem sh61 : tsh Try.prog 61 = some (.true, 2) := by kernel_rfl
@[simp] theorem zero61 : tzero Try.prog 61 = some [.int .i64 0, .int .i64 0] := by kernel_rfl
@[simp] theorem elem61 : telem Try.prog 61 = none := by kernel_rfl
@[simp] theorem arr61 : tarr Try.prog 61 = none := by kernel_rfl
@[simp] theorem size61 : tsize Try.prog 61 = some 2 := by kernel_rfl
@[simp] theorem bytes61 : tbytes Try.prog 61 = some 16 := by kernel_rfl
@[simp] theorem places61 : tplaces Try.prog 61 = some [(0, 1), (1, 1)] := by kernel_rfl
@[simp] theorem fld61_0 : tfld Try.prog 61 0 = some (0, (3, 1)) := by kernel_rfl
@[simp] theorem fld61_1 : tfld Try.prog 61 1 = some (1, (3, 1)) := by kernel_rfl
@[simp] theorem sh62 : tsh Try.prog 62 = some (.true, 2) := by kernel_rfl
@[simp] theorem zero62 : tzero Try.prog 62 = some [.int .i64 0, .int .i64 0] := by kernel_rfl
@[simp] theorem elem62 : telem Try.prog 62 = none := by kernel_rfl
@[simp] theorem arr62 : tarr Try.prog 62 = none := by kernel_rfl
@[simp] theorem size62 : tsize Try.prog 62 = some 2 := by kernel_rfl
@[simp] theorem bytes62 : tbytes Try.prog 62 = some 16 := by kernel_rfl
@[simp] theorem places62 : tplaces Try.prog 62 = some [(0, 1), (1, 1)] := by kernel_rfl
@[simp] theorem fld62_0 : tfld Try.prog 62 0 = some (0, (3, 1)) := by kernel_rfl
@[simp] theorem fld62_1 : tfld Try.prog 62 1 = some (1, (3, 1)) := by kernel_rfl
@[simp] theorem sh63 : tsh Try.prog 63 = some (.false, 1) := by kernel_rfl
@[simp] theorem zero63 : tzero Try.prog 63 = some [.nils] := by kernel_rfl
@[simp] theorem elem63 : telem Try.prog 63 = some 62 := by kernel_rfl
@[simp] theorem arr63 : tarr Try.prog 63 = none := by kernel_rfl
@[simp] theorem size63 : tsize Try.prog 63 = some 1 := by kernel_rfl
@[simp] theorem bytes63 : tbytes Try.prog 63 = some 24 := by kernel_rfl
@[simp] theorem sh64 : tsh Try.prog 64 = some (.true, 2) := by kernel_rfl
@[simp] theorem zero64 : tzero Try.prog 64 = some [.nils, .int .i64 0] := by kernel_rfl
@[simp] theorem elem64 : telem Try.prog 64 = none := by kernel_rfl
@[simp] theorem arr64 : tarr Try.prog 64 = none := by kernel_rfl
@[simp] theorem size64 : tsize Try.prog 64 = some 2 := by kernel_rfl
@[simp] theorem bytes64 : tbytes Try.prog 64 = some 32 := by kernel_rfl
@[simp] theorem places64 : tplaces Try.prog 64 = some [(0, 1), (1, 1)] := by kernel_rfl
@[simp] theorem fld64_0 : tfld Try.prog 64 0 = some (0, (63, 1)) := by kernel_rfl
@[simp] theorem fld64_1 : tfld Try.prog 64 1 = some (1, (3, 1)) := by kernel_rfl
@[simp] theorem sh65 : tsh Try.prog 65 = some (.true, 2) := by kernel_rfl
@[simp] theorem zero65 : tzero Try.prog 65 = some [.nils, .int .i64 0] := by kernel_rfl
@[simp] theorem elem65 : telem Try.prog 65 = none := by kernel_rfl
@[simp] theorem arr65 : tarr Try.prog 65 = none := by kernel_rfl
@[simp] theorem size65 : tsize Try.prog 65 = some 2 := by kernel_rfl
@[simp] theorem bytes65 : tbytes Try.prog 65 = some 32 := by kernel_rfl
@[simp] theorem places65 : tplaces Try.prog 65 = some [(0, 1), (1, 1)] := by kernel_rfl
@[simp] theorem fld65_0 : tfld Try.prog 65 0 = some (0, (63, 1)) := by kernel_rfl
@[simp] theorem fld65_1 : tfld Try.prog 65 1 = some (1, (3, 1)) := by kernel_rfl
@[simp] theorem sh66 : tsh Try.prog 66 = some (.false, 1) := by kernel_rfl
@[simp] theorem zero66 : tzero Try.prog 66 = some [.nilf] := by kernel_rfl
@[simp] theorem elem66 : telem Try.prog 66 = none := by kernel_rfl
@[simp] theorem arr66 : tarr Try.prog 66 = none := by kernel_rfl
@[simp] theorem size66 : tsize Try.prog 66 = some 1 := by kernel_rfl
@[simp] theorem bytes66 : tbytes Try.prog 66 = some 8 := by kernel_rfl
@[simp] theorem sh67 : tsh Try.prog 67 = some (.true, 3) := by kernel_rfl
@[simp] theorem zero67 : tzero Try.prog 67 = some [.int .i64 0, .int .i64 0, .int .i64 0] := by kernel_rfl
@[simp] theorem elem67 : telem Try.prog 67 = none := by kernel_rfl
@[simp] theorem arr67 : tarr Try.prog 67 = none := by kernel_rfl
@[simp] theorem size67 : tsize Try.prog 67 = some 3 := by kernel_rfl
@[simp] theorem bytes67 : tbytes Try.prog 67 = some 24 := by kernel_rfl
@[simp] theorem places67 : tplaces Try.prog 67 = some [(0, 1), (1, 1), (2, 1)] := by kernel_rfl
@[simp] theorem fld67_0 : tfld Try.prog 67 0 = some (0, (39, 1)) := by kernel_rfl
@[simp] theorem fld67_1 : tfld Try.prog 67 1 = some (1, (3, 1)) := by kernel_rfl
@[simp] theorem fld67_2 : tfld Try.prog 67 2 = some (2, (3, 1)) := by kernel_rfl
@[simp] theorem sh68 : tsh Try.prog 68 = some (.true, 3) := by kernel_rfl
@[simp] theorem zero68 : tzero Try.prog 68 = some [.int .i64 0, .int .i64 0, .int .i64 0] := by kernel_rfl
@[simp] theorem elem68 : telem Try.prog 68 = none := by kernel_rfl
@[simp] theorem arr68 : tarr Try.prog 68 = none := by kernel_rfl
@[simp] theorem size68 : tsize Try.prog 68 = some 3 := by kernel_rfl
@[simp] theorem bytes68 : tbytes Try.prog 68 = some 24 := by kernel_rfl
@[simp] theorem places68 : tplaces Try.prog 68 = some [(0, 1), (1, 1), (2, 1)] := by kernel_rfl
@[simp] theorem fld68_0 : tfld Try.prog 68 0 = some (0, (39, 1)) := by kernel_rfl
@[simp] theorem fld68_1 : tfld Try.prog 68 1 = some (1, (3, 1)) := by kernel_rfl
@[simp] theorem fld68_2 : tfld Try.prog 68 2 = some (2, (3, 1)) := by kernel_rfl
@[simp] theorem sh69 : tsh Try.prog 69 = some (.false, 1) := by kernel_rfl
@[simp] theorem zero69 : tzero Try.prog 69 = some [.nilf] := by kernel_rfl
@[simp] theorem elem69 : telem Try.prog 69 = none := by kernel_rfl
@[simp] theorem arr69 : tarr Try.prog 69 = none := by kernel_rfl
@[simp] theorem size69 : tsize Try.prog 69 = some 1 := by kernel_rfl
@[simp] theorem bytes69 : tbytes Try.prog 69 = some 8 := by kernel_rfl
@[simp] theorem sh70 : tsh Try.prog 70 = some (.false, 1) := by kernel_rfl
@[simp] theorem zero70 : tzero Try.prog 70 = some [.nilf] := by kernel_rfl
@[simp] theorem elem70 : telem Try.prog 70 = none := by kernel_rfl
@[simp] theorem arr70 : tarr Try.prog 70 = none := by kernel_rfl
@[simp] theorem size70 : tsize Try.prog 70 = some 1 := by kernel_rfl
@[simp] theorem bytes70 : tbytes Try.prog 70 = some 8 := by kernel_rfl
@[simp] theorem sh71 : tsh Try.prog 71 = some (.false, 1) := by kernel_rfl
@[simp] theorem zero71 : tzero Try.prog 71 = some [.nils] := by kernel_rfl
@[simp] theorem elem71 : telem Try.prog 71 = some 52 := by kernel_rfl
@[simp] theorem arr71 : tarr Try.prog 71 = none := by kernel_rfl
@[simp] theorem size71 : tsize Try.prog 71 = some 1 := by kernel_rfl
@[simp] theorem bytes71 : tbytes Try.prog 71 = some 24 := by kernel_rfl
@[simp] theorem sh72 : tsh Try.prog 72 = some (.false, 1) := by kernel_rfl
@[simp] theorem zero72 : tzero Try.prog 72 = some [.nils] := by kernel_rfl
@[simp] theorem elem72 : telem Try.prog 72 = some 4 := by kernel_rfl
@[simp] theorem arr72 : tarr Try.prog 72 = none := by kernel_rfl
@[simp] theorem size72 : tsize Try.prog 72 = some 1 := by kernel_rfl
@[simp] theorem bytes72 : tbytes Try.prog 72 = some 24 := by kernel_rfl
@[simp] theorem sh73 : tsh Try.prog 73 = some (.false, 1) := by kernel_rfl
@[simp] theorem elem73 : telem Try.prog 73 = none := by kernel_rfl
@[simp] theorem arr73 : tarr Try.prog 73 = none := by kernel_rfl
@[simp] theorem size73 : tsize Try.prog 73 = some 1 := by kernel_rfl
@[simp] theorem bytes73 : tbytes Try.prog 73 = some 0 := by kernel_rfl
@[simp] theorem sh74 : tsh Try.prog 74 = some (.false, 1) := by kernel_rfl
@[simp] theorem zero74 : tzero Try.prog 74 = some [.nilf] := by kernel_rfl
@[simp] theorem elem74 : telem Try.prog 74 = none := by kernel_rfl
@[simp] theorem arr74 : tarr Try.prog 74 = none := by kernel_rfl
@[simp] theorem size74 : tsize Try.prog 74 = some 1 := by kernel_rfl
@[simp] theorem bytes74 : tbytes Try.prog 74 = some 8 := by kernel_rfl
@[simp] theorem sh75 : tsh Try.prog 75 = some (.false, 1) := by kernel_rfl
@[simp] theorem zero75 : tzero Try.prog 75 = some [.nilf] := by kernel_rfl
@[simp] theorem elem75 : telem Try.prog 75 = none := by kernel_rfl
@[simp] theorem arr75 : tarr Try.prog 75 = none := by kernel_rfl
@[simp] theorem size75 : tsize Try.prog 75 = some 1 := by kernel_rfl
@[simp] theorem bytes75 : tbytes Try.prog 75 = some 8 := by kernel_rfl
@[simp] theorem sh76 : tsh Try.prog 76 = some (.false, 1) := by kernel_rfl
@[simp] theorem zero76 : tzero Try.prog 76 = some [.int .i64 0] := by kernel_rfl
@[simp] theorem elem76 : telem Try.prog 76 = none := by kernel_rfl
@[simp] theorem arr76 : tarr Try.prog 76 = none := by kernel_rfl
@[simp] theorem size76 : tsize Try.prog 76 = some 1 := by kernel_rfl
@[simp] theorem bytes76 : tbytes Try.prog 76 = some 8 := by kernel_rfl
@[simp] theorem int76 : tint Try.prog 76 = some .i64 := by kernel_rfl
@[simp] theorem sh77 : tsh Try.prog 77 = some (.false, 1) := by kernel_rfl
@[simp] theorem zero77 : tzero Try.prog 77 = some [.nilf] := by kernel_rfl
@[simp] theorem elem77 : telem Try.prog 77 = none := by kernel_rfl
@[simp] theorem arr77 : tarr Try.prog 77 = none := by kernel_rfl
@[simp] theorem size77 : tsize Try.prog 77 = some 1 := by kernel_rfl
@[simp] theorem bytes77 : tbytes Try.prog 77 = some 8 := by kernel_rfl
@[simp] theorem sh78 : tsh Try.prog 78 = some (.false, 1) := by kernel_rfl
@[simp] theorem elem78 : telem Try.prog 78 = none := by kernel_rfl
@[simp] theorem arr78 : tarr Try.prog 78 = none := by kernel_rfl
@[simp] theorem size78 : tsize Try.prog 78 = some 1 := by kernel_rfl
@[simp] theorem bytes78 : tbytes Try.prog 78 = some 0 := by kernel_rfl
@[simp] theorem sh79 : tsh Try.prog 79 = some (.false, 1) := by kernel_rfl
@[simp] theorem zero79 : tzero Try.prog 79 = some [.nilf] := by kernel_rfl
@[simp] theorem elem79 : telem Try.prog 79 = none := by kernel_rfl
@[simp] theorem arr79 : tarr Try.prog 79 = none := by kernel_rfl
@[simp] theorem size79 : tsize Try.prog 79 = some 1 := by kernel_rfl
@[simp] theorem bytes79 : tbytes Try.prog 79 = some 8 := by kernel_rfl
@[simp] theorem sh80 : tsh Try.prog 80 = some (.false, 1) := by kernel_rfl
@[simp] theorem zero80 : tzero Try.prog 80 = some [.nils] := by kernel_rfl
@[simp] theorem elem80 : telem Try.prog 80 = some 83 := by kernel_rfl
@[simp] theorem arr80 : tarr Try.prog 80 = none := by kernel_rfl
@[simp] theorem size80 : tsize Try.prog 80 = some 1 := by kernel_rfl
@[simp] theorem bytes80 : tbytes Try.prog 80 = some 24 := by kernel_rfl
@[simp] theorem sh81 : tsh Try.prog 81 = some (.false, 1) := by kernel_rfl
@[simp] theorem zero81 : tzero Try.prog 81 = some [.nilf] := by kernel_rfl
@[simp] theorem elem81 : telem Try.prog 81 = none := by kernel_rfl
@[simp] theorem arr81 : tarr Try.prog 81 = none := by kernel_rfl
@[simp] theorem size81 : tsize Try.prog 81 = some 1 := by kernel_rfl
@[simp] theorem bytes81 : tbytes Try.prog 81 = some 8 := by kernel_rfl
@[simp] theorem sh82 : tsh Try.prog 82 = some (.true, 3) := by kernel_rfl
@[simp] theorem zero82 : tzero Try.prog 82 = some [.int .i64 0, .nils, .int .i64 0] := by kernel_rfl
@[simp] theorem elem82 : telem Try.prog 82 = none := by kernel_rfl
@[simp] theorem arr82 : tarr Try.prog 82 = none := by kernel_rfl
@[simp] theorem size82 : tsize Try.prog 82 = some 3 := by kernel_rfl
@[simp] theorem bytes82 : tbytes Try.prog 82 = some 40 := by kernel_rfl
@[simp] theorem places82 : tplaces Try.prog 82 = some [(0, 1), (1, 1), (2, 1)] := by kernel_rfl
@[simp] theorem fld82_0 : tfld Try.prog 82 0 = some (0, (3, 1)) := by kernel_rfl
@[simp] theorem fld82_1 : tfld Try.prog 82 1 = some (1, (52, 1)) := by kernel_rfl
@[simp] theorem fld82_2 : tfld Try.prog 82 2 = some (2, (39, 1)) := by kernel_rfl
@[simp] theorem sh83 : tsh Try.prog 83 = some (.true, 3) := by kernel_rfl
@[simp] theorem zero83 : tzero Try.prog 83 = some [.int .i64 0, .nils, .int .i64 0] := by kernel_rfl
@[simp] theorem elem83 : telem Try.prog 83 = none := by kernel_rfl
@[simp] theorem arr83 : tarr Try.prog 83 = none := by kernel_rfl
@[simp] theorem size83 : tsize Try.prog 83 = some 3 := by kernel_rfl
@[simp] theorem bytes83 : tbytes Try.prog 83 = some 40 := by kernel_rfl
@[simp] theorem places83 : tplaces Try.prog 83 = some [(0, 1), (1, 1), (2, 1)] := by kernel_rfl
@[simp] theorem fld83_0 : tfld Try.prog 83 0 = some (0, (3, 1)) := by kernel_rfl
@[simp] theorem fld83_1 : tfld Try.prog 83 1 = some (1, (52, 1)) := by kernel_rfl
@[simp] theorem fld83_2 : tfld Try.prog 83 2 = some (2, (39, 1)) := by kernel_rfl
@[simp] theorem sh84 : tsh Try.prog 84 = some (.false, 1) := by kernel_rfl
@[simp] theorem zero84 : tzero Try.prog 84 = some [.nilf] := by kernel_rfl
@[simp] theorem elem84 : telem Try.prog 84 = none := by kernel_rfl
@[simp] theorem arr84 : tarr Try.prog 84 = none := by kernel_rfl
@[simp] theorem size84 : tsize Try.prog 84 = some 1 := by kernel_rfl
@[simp] theorem bytes84 : tbytes Try.prog 84 = some 8 := by kernel_rfl
@[simp] theorem sh85 : tsh Try.prog 85 = some (.false, 1) := by kernel_rfl
@[simp] theorem zero85 : tzero Try.prog 85 = some [.nilf] := by kernel_rfl
@[simp] theorem elem85 : telem Try.prog 85 = none := by kernel_rfl
@[simp] theorem arr85 : tarr Try.prog 85 = none := by kernel_rfl
@[simp] theorem size85 : tsize Try.prog 85 = some 1 := by kernel_rfl
@[simp] theorem bytes85 : tbytes Try.prog 85 = some 8 := by kernel_rfl
@[simp] theorem sh86 : tsh Try.prog 86 = some (.false, 1) := by kernel_rfl
@[simp] theorem elem86 : telem Try.prog 86 = none := by kernel_rfl
@[simp] theorem arr86 : tarr Try.prog 86 = none := by kernel_rfl
@[simp] theorem size86 : tsize Try.prog 86 = some 1 := by kernel_rfl
@[simp] theorem bytes86 : tbytes Try.prog 86 = some 0 := by kernel_rfl
@[simp] theorem sh87 : tsh Try.prog 87 = some (.false, 1) := by kernel_rfl
@[simp] theorem zero87 : tzero Try.prog 87 = some [.nilf] := by kernel_rfl
@[simp] theorem elem87 : telem Try.prog 87 = none := by kernel_rfl
@[simp] theorem arr87 : tarr Try.prog 87 = none := by kernel_rfl
@[simp] theorem size87 : tsize Try.prog 87 = some 1 := by kernel_rfl
@[simp] theorem bytes87 : tbytes Try.prog 87 = some 8 := by kernel_rfl
@[simp] theorem sh88 : tsh Try.prog 88 = some (.false, 1) := by kernel_rfl
@[simp] theorem elem88 : telem Try.prog 88 = none := by kernel_rfl
@[simp] theorem arr88 : tarr Try.prog 88 = none := by kernel_rfl
@[simp] theorem size88 : tsize Try.prog 88 = some 1 := by kernel_rfl
@[simp] theorem bytes88 : tbytes Try.prog 88 = some 0 := by kernel_rfl
@[simp] theorem sh89 : tsh Try.prog 89 = some (.false, 1) := by kernel_rfl
@[simp] theorem zero89 : tzero Try.prog 89 = some [.nilf] := by kernel_rfl
@[simp] theorem elem89 : telem Try.prog 89 = none := by kernel_rfl
@[simp] theorem arr89 : tarr Try.prog 89 = none := by kernel_rfl
@[simp] theorem size89 : tsize Try.prog 89 = some 1 := by kernel_rfl
@[simp] theorem bytes89 : tbytes Try.prog 89 = some 8 := by kernel_rfl
@[simp] theorem sh90 : tsh Try.prog 90 = some (.false, 1) := by kernel_rfl
@[simp] theorem zero90 : tzero Try.prog 90 = some [.nilf] := by kernel_rfl
@[simp] theorem elem90 : telem Try.prog 90 = none := by kernel_rfl
@[simp] theorem arr90 : tarr Try.prog 90 = none := by kernel_rfl
@[simp] theorem size90 : tsize Try.prog 90 = some 1 := by kernel_rfl
@[simp] theorem bytes90 : tbytes Try.prog 90 = some 8 := by kernel_rfl
@[simp] theorem sh91 : tsh Try.prog 91 = some (.false, 1) := by kernel_rfl
@[simp] theorem zero91 : tzero Try.prog 91 = some [.nilf] := by kernel_rfl
@[simp] theorem elem91 : telem Try.prog 91 = none := by kernel_rfl
@[simp] theorem arr91 : tarr Try.prog 91 = none := by kernel_rfl
@[simp] theorem size91 : tsize Try.prog 91 = some 1 := by kernel_rfl
@[simp] theorem bytes91 : tbytes Try.prog 91 = some 8 := by kernel_rfl
@[simp] theorem sh92 : tsh Try.prog 92 = some (.false, 1) := by kernel_rfl
@[simp] theorem zero92 : tzero Try.prog 92 = some [.nilf] := by kernel_rfl
@[simp] theorem elem92 : telem Try.prog 92 = none := by kernel_rfl
@[simp] theorem arr92 : tarr Try.prog 92 = none := by kernel_rfl
@[simp] theorem size92 : tsize Try.prog 92 = some 1 := by kernel_rfl
@[simp] theorem bytes92 : tbytes Try.prog 92 = some 8 := by kernel_rfl
@[simp] theorem sh93 : tsh Try.prog 93 = some (.false, 1) := by kernel_rfl
@[simp] theorem zero93 : tzero Try.prog 93 = some [.nilf] := by kernel_rfl
@[simp] theorem elem93 : telem Try.prog 93 = none := by kernel_rfl
@[simp] theorem arr93 : tarr Try.prog 93 = none := by kernel_rfl
@[simp] theorem size93 : tsize Try.prog 93 = some 1 := by kernel_rfl
@[simp] theorem bytes93 : tbytes Try.prog 93 = some 8 := by kernel_rfl
@[simp] theorem sh94 : tsh Try.prog 94 = some (.false, 1) := by kernel_rfl
@[simp] theorem zero94 : tzero Try.prog 94 = some [.nilf] := by kernel_rfl
@[simp] theorem elem94 : telem Try.prog 94 = none := by kernel_rfl
@[simp] theorem arr94 : tarr Try.prog 94 = none := by kernel_rfl
@[simp] theorem size94 : tsize Try.prog 94 = some 1 := by kernel_rfl
@[simp] theorem bytes94 : tbytes Try.prog 94 = some 8 := by kernel_rfl
@[simp] theorem sh95 : tsh Try.prog 95 = some (.false, 1) := by kernel_rfl
@[simp] theorem zero95 : tzero Try.prog 95 = some [.nilf] := by kernel_rfl
@[simp] theorem elem95 : telem Try.prog 95 = none := by kernel_rfl
@[simp] theorem arr95 : tarr Try.prog 95 = none := by kernel_rfl
@[simp] theorem size95 : tsize Try.prog 95 = some 1 := by kernel_rfl
@[simp] theorem bytes95 : tbytes Try.prog 95 = some 8 := by kernel_rfl
@[simp] theorem sh96 : tsh Try.prog 96 = some (.false, 1) := by kernel_rfl
@[simp] theorem zero96 : tzero Try.prog 96 = some [.nilf] := by kernel_rfl
@[simp] theorem elem96 : telem Try.prog 96 = none := by kernel_rfl
@[simp] theorem arr96 : tarr Try.prog 96 = none := by kernel_rfl
@[simp] theorem size96 : tsize Try.prog 96 = some 1 := by kernel_rfl
@[simp] theorem bytes96 : tbytes Try.prog 96 = some 8 := by kernel_rfl
@[simp] theorem sh97 : tsh Try.prog 97 = some (.false, 1) := by kernel_rfl
@[simp] theorem zero97 : tzero Try.prog 97 = some [.nilf] := by kernel_rfl
@[simp] theorem elem97 : telem Try.prog 97 = none := by kernel_rfl
@[simp] theorem arr97 : tarr Try.prog 97 = none := by kernel_rfl
@[simp] theorem size97 : tsize Try.prog 97 = some 1 := by kernel_rfl
@[simp] theorem bytes97 : tbytes Try.prog 97 = some 8 := by kernel_rfl
@[simp] theorem sh98 : tsh Try.prog 98 = some (.false, 1) := by kernel_rfl
@[simp] theorem zero98 : tzero Try.prog 98 = some [.nilf] := by kernel_rfl
@[simp] theorem elem98 : telem Try.prog 98 = none := by kernel_rfl
@[simp] theorem arr98 : tarr Try.prog 98 = none := by kernel_rfl
@[simp] theorem size98 : tsize Try.prog 98 = some 1 := by kernel_rfl
@[simp] theorem bytes98 : tbytes Try.prog 98 = some 8 := by kernel_rfl
@[simp] theorem sh99 : tsh Try.prog 99 = some (.false, 1) := by kernel_rfl
@[simp] theorem zero99 : tzero Try.prog 99 = some [.nilf] := by kernel_rfl
@[simp] theorem elem99 : telem Try.prog 99 = none := by kernel_rfl
@[simp] theorem arr99 : tarr Try.prog 99 = none := by kernel_rfl
@[simp] theorem size99 : tsize Try.prog 99 = some 1 := by kernel_rfl
@[simp] theorem bytes99 : tbytes Try.prog 99 = some 8 := by kernel_rfl
@[simp] theorem sh100 : tsh Try.prog 100 = some (.false, 1) := by kernel_rfl
@[simp] theorem zero100 : tzero Try.prog 100 = some [.nilp] := by kernel_rfl
@[simp] theorem elem100 : telem Try.prog 100 = none := by kernel_rfl
@[simp] theorem arr100 : tarr Try.prog 100 = none := by kernel_rfl
@[simp] theorem size100 : tsize Try.prog 100 = some 1 := by kernel_rfl
@[simp] theorem bytes100 : tbytes Try.prog 100 = some 8 := by kernel_rfl
@[simp] theorem sh101 : tsh Try.prog 101 = some (.true, 28) := by kernel_rfl
@[simp] theorem zero101 : tzero Try.prog 101 = some [.nils, .nils, .nils, .nils, .nils, .nils, .int .i64 0, .int .i64 0, .int .i64 0, .int .i64 0, .nils, .int .i64 0, .int .i64 0, .nils, .nils, .bool .false, .int .i64 0, .int .i64 0, .int .i64 0, .int .i64 0, .int .i64 0, .int .i64 0, .nils, .int .i64 0, .int .i64 0, .int .i64 0, .int .i64 0, .int .i64 0] := by kernel_rfl
@[simp] theorem elem101 : telem Try.prog 101 = none := by kernel_rfl
@[simp] theorem arr101 : tarr Try.prog 101 = none := by kernel_rfl
@[simp] theorem size101 : tsize Try.prog 101 = some 28 := by kernel_rfl
@[simp] theorem bytes101 : tbytes Try.prog 101 = some 384 := by kernel_rfl
@[simp] theorem places101 : tplaces Try.prog 101 = some [(0, 1), (1, 5), (6, 2), (8, 1), (9, 1), (10, 1), (11, 6), (17, 10), (27, 1)] := by kernel_rfl
@[simp] theorem fld101_0 : tfld Try.prog 101 0 = some (0, (24, 1)) := by kernel_rfl
@[simp] theorem fld101_1 : tfld Try.prog 101 1 = some (1, (55, 5)) := by kernel_rfl
@[simp] theorem fld101_2 : tfld Try.prog 101 2 = some (6, (50, 2)) := by kernel_rfl
@[simp] theorem fld101_3 : tfld Try.prog 101 3 = some (8, (2, 1)) := by kernel_rfl
@[simp] theorem fld101_4 : tfld Try.prog 101 4 = some (9, (2, 1)) := by kernel_rfl
@[simp] theorem fld101_5 : tfld Try.prog 101 5 = some (10, (28, 1)) := by kernel_rfl
@[simp] theorem fld101_6 : tfld Try.prog 101 6 = some (11, (27, 6)) := by kernel_rfl
@[simp] theorem fld101_7 : tfld Try.prog 101 7 = some (17, (38, 10)) := by kernel_rfl
@[simp] theorem fld101_8 : tfld Try.prog 101 8 = some (27, (39, 1)) := by kernel_rfl
@[simp] theorem sh102 : tsh Try.prog 102 = some (.true, 28) := by kernel_rfl
@[simp] theorem zero102 : tzero Try.prog 102 = some [.nils, .nils, .nils, .nils, .nils, .nils, .int .i64 0, .int .i64 0, .int .i64 0, .int .i64 0, .nils, .int .i64 0, .int .i64 0, .nils, .nils, .bool .false, .int .i64 0, .int .i64 0, .int .i64 0, .int .i64 0, .int .i64 0, .int .i64 0, .nils, .int .i64 0, .int .i64 0, .int .i64 0, .int .i64 0, .int .i64 0] := by kernel_rfl
@[simp] theorem elem102 : telem Try.prog 102 = none := by kernel_rfl
@[simp] theorem arr102 : tarr Try.prog 102 = none := by kernel_rfl
@[simp] theorem size102 : tsize Try.prog 102 = some 28 := by kernel_rfl
@[simp] theorem bytes102 : tbytes Try.prog 102 = some 384 := by kernel_rfl
@[simp] theorem places102 : tplaces Try.prog 102 = some [(0, 1), (1, 5), (6, 2), (8, 1), (9, 1), (10, 1), (11, 6), (17, 10), (27, 1)] := by kernel_rfl
@[simp] theorem fld102_0 : tfld Try.prog 102 0 = some (0, (24, 1)) := by kernel_rfl
@[simp] theorem fld102_1 : tfld Try.prog 102 1 = some (1, (55, 5)) := by kernel_rfl
@[simp] theorem fld102_2 : tfld Try.prog 102 2 = some (6, (50, 2)) := by kernel_rfl
@[simp] theorem fld102_3 : tfld Try.prog 102 3 = some (8, (2, 1)) := by kernel_rfl
@[simp] theorem fld102_4 : tfld Try.prog 102 4 = some (9, (2, 1)) := by kernel_rfl
@[simp] theorem fld102_5 : tfld Try.prog 102 5 = some (10, (28, 1)) := by kernel_rfl
@[simp] theorem fld102_6 : tfld Try.prog 102 6 = some (11, (27, 6)) := by kernel_rfl
@[simp] theorem fld102_7 : tfld Try.prog 102 7 = some (17, (38, 10)) := by kernel_rfl
@[simp] theorem fld102_8 : tfld Try.prog 102 8 = some (27, (39, 1)) := by kernel_rfl
@[simp] theorem sh103 : tsh Try.prog 103 = some (.false, 1) := by kernel_rfl
@[simp] theorem zero103 : tzero Try.prog 103 = some [.nilf] := by kernel_rfl
@[simp] theorem elem103 : telem Try.prog 103 = none := by kernel_rfl
@[simp] theorem arr103 : tarr Try.prog 103 = none := by kernel_rfl
@[simp] theorem size103 : tsize Try.prog 103 = some 1 := by kernel_rfl
@[simp] theorem bytes103 : tbytes Try.prog 103 = some 8 := by kernel_rfl
@[simp] theorem sh104 : tsh Try.prog 104 = some (.false, 1) := by kernel_rfl
@[simp] theorem zero104 : tzero Try.prog 104 = some [.nilf] := by kernel_rfl
@[simp] theorem elem104 : telem Try.prog 104 = none := by kernel_rfl
@[simp] theorem arr104 : tarr Try.prog 104 = none := by kernel_rfl
@[simp] theorem size104 : tsize Try.prog 104 = some 1 := by kernel_rfl
@[simp] theorem bytes104 : tbytes Try.prog 104 = some 8 := by kernel_rfl
@[simp] theorem sh105 : tsh Try.prog 105 = some (.false, 1) := by kernel_rfl
@[simp] theorem zero105 : tzero Try.prog 105 = some [.nilp] := by kernel_rfl
@[simp] theorem elem105 : telem Try.prog 105 = none := by kernel_rfl
@[simp] theorem arr105 : tarr Try.prog 105 = none := by kernel_rfl
@[simp] theorem size105 : tsize Try.prog 105 = some 1 := by kernel_rfl
@[simp] theorem bytes105 : tbytes Try.prog 105 = some 8 := by kernel_rfl
@[simp] theorem sh106 : tsh Try.prog 106 = some (.false, 1) := by kernel_rfl
@[simp] theorem zero106 : tzero Try.prog 106 = some [.nilf] := by kernel_rfl
@[simp] theorem elem106 : telem Try.prog 106 = none := by kernel_rfl
@[simp] theorem arr106 : tarr Try.prog 106 = none := by kernel_rfl
@[simp] theorem size106 : tsize Try.prog 106 = some 1 := by kernel_rfl
@[simp] theorem bytes106 : tbytes Try.prog 106 = some 8 := by kernel_rfl
@[simp] theorem sh107 : tsh Try.prog 107 = some (.false, 1) := by kernel_rfl
@[simp] theorem zero107 : tzero Try.prog 107 = some [.nilf] := by kernel_rfl
@[simp] theorem elem107 : telem Try.prog 107 = none := by kernel_rfl
@[simp] theorem arr107 : tarr Try.prog 107 = none := by kernel_rfl
@[simp] theorem size107 : tsize Try.prog 107 = some 1 := by kernel_rfl
@[simp] theorem bytes107 : tbytes Try.prog 107 = some 8 := by kernel_rfl
@[simp] theorem sh108 : tsh Try.prog 108 = some (.true, 200) := by kernel_rfl
@[simp] theorem elem108 : telem Try.prog 108 = none := by kernel_rfl
@[simp] theorem arr108 : tarr Try.prog 108 = some (200, 4) := by kernel_rfl
@[simp] theorem size108 : tsize Try.prog 108 = some 200 := by kernel_rfl
@[simp] theorem bytes108 : tbytes Try.prog 108 = some 200 := by kernel_rfl
@[simp] theorem sh109 : tsh Try.prog 109 = some (.true, 408) := by kernel_rfl
@[simp] theorem elem109 : telem Try.prog 109 = none := by kernel_rfl
@[simp] theorem arr109 : tarr Try.prog 109 = none := by kernel_rfl
@[simp] theorem size109 : tsize Try.prog 109 = some 408 := by kernel_rfl
@[simp] theorem bytes109 : tbytes Try.prog 109 = some 576 := by kernel_rfl
@[simp] theorem places109 : tplaces Try.prog 109 = some [(0, 1), (1, 1), (2, 5), (7, 1), (8, 200), (208, 200)] := by kernel_rfl
@[simp] theorem fld109_0 : tfld Try.prog 109 0 = some (0, (24, 1)) := by kernel_rfl
@[simp] theorem fld109_1 : tfld Try.prog 109 1 = some (1, (3, 1)) := by kernel_rfl
@[simp] theorem fld109_2 : tfld Try.prog 109 2 = some (2, (55, 5)) := by kernel_rfl
@[simp] theorem fld109_3 : tfld Try.prog 109 3 = some (7, (71, 1)) := by kernel_rfl
@[simp] theorem fld109_4 : tfld Try.prog 109 4 = some (8, (108, 200)) := by kernel_rfl
@[simp] theorem fld109_5 : tfld Try.prog 109 5 = some (208, (108, 200)) := by kernel_rfl
@[simp] theorem sh110 : tsh Try.prog 110 = some (.true, 408) := by kernel_rfl
@[simp] theorem elem110 : telem Try.prog 110 = none := by kernel_rfl
@[simp] theorem arr110 : tarr Try.prog 110 = none := by kernel_rfl
@[simp] theorem size110 : tsize Try.prog 110 = some 408 := by kernel_rfl
@[simp] theorem bytes110 : tbytes Try.prog 110 = some 576 := by kernel_rfl
@[simp] theorem places110 : tplaces Try.prog 110 = some [(0, 1), (1, 1), (2, 5), (7, 1), (8, 200), (208, 200)] := by kernel_rfl
@[simp] theorem fld110_0 : tfld Try.prog 110 0 = some (0, (24, 1)) := by kernel_rfl
@[simp] theorem fld110_1 : tfld Try.prog 110 1 = some (1, (3, 1)) := by kernel_rfl
@[simp] theorem fld110_2 : tfld Try.prog 110 2 = some (2, (55, 5)) := by kernel_rfl
@[simp] theorem fld110_3 : tfld Try.prog 110 3 = some (7, (71, 1)) := by kernel_rfl
@[simp] theorem fld110_4 : tfld Try.prog 110 4 = some (8, (108, 200)) := by kernel_rfl
@[simp] theorem fld110_5 : tfld Try.prog 110 5 = some (208, (108, 200)) := by kernel_rfl
@[simp] theorem sh111 : tsh Try.prog 111 = some (.false, 1) := by kernel_rfl
@[simp] theorem zero111 : tzero Try.prog 111 = some [.nilf] := by kernel_rfl
@[simp] theorem elem111 : telem Try.prog 111 = none := by kernel_rfl
@[simp] theorem arr111 : tarr Try.prog 111 = none := by kernel_rfl
@[simp] theorem size111 : tsize Try.prog 111 = some 1 := by kernel_rfl
@[simp] theorem bytes111 : tbytes Try.prog 111 = some 8 := by kernel_rfl
@[simp] theorem sh112 : tsh Try.prog 112 = some (.false, 1) := by kernel_rfl
@[simp] theorem zero112 : tzero Try.prog 112 = some [.nilf] := by kernel_rfl
@[simp] theorem elem112 : telem Try.prog 112 = none := by kernel_rfl
@[simp] theorem arr112 : tarr Try.prog 112 = none := by kernel_rfl
@[simp] theorem size112 : tsize Try.prog 112 = some 1 := by kernel_rfl
@[simp] theorem bytes112 : tbytes Try.prog 112 = some 8 := by kernel_rfl
@[simp] theorem sh113 : tsh Try.prog 113 = some (.false, 1) := by kernel_rfl
@[simp] theorem elem113 : telem Try.prog 113 = none := by kernel_rfl
@[simp] theorem arr113 : tarr Try.prog 113 = none := by kernel_rfl
@[simp] theorem size113 : tsize Try.prog 113 = some 1 := by kernel_rfl
@[simp] theorem bytes113 : tbytes Try.prog 113 = some 0 := by kernel_rfl
@[simp] theorem sh114 : tsh Try.prog 114 = some (.false, 1) := by kernel_rfl
@[simp] theorem zero114 : tzero Try.prog 114 = some [.nilf] := by kernel_rfl
@[simp] theorem elem114 : telem Try.prog 114 = none := by kernel_rfl
@[simp] theorem arr114 : tarr Try.prog 114 = none := by kernel_rfl
@[simp] theorem size114 : tsize Try.prog 114 = some 1 := by kernel_rfl
@[simp] theorem bytes114 : tbytes Try.prog 114 = some 8 := by kernel_rfl
@[simp] theorem sh115 : tsh Try.prog 115 = some (.false, 1) := by kernel_rfl
@[simp] theorem zero115 : tzero Try.prog 115 = some [.nilf] := by kernel_rfl
@[simp] theorem elem115 : telem Try.prog 115 = none := by kernel_rfl
@[simp] theorem arr115 : tarr Try.prog 115 = none := by kernel_rfl
@[simp] theorem size115 : tsize Try.prog 115 = some 1 := by kernel_rfl
@[simp] theorem bytes115 : tbytes Try.prog 115 = some 8 := by kernel_rfl
@[simp] theorem sh116 : tsh Try.prog 116 = some (.false, 1) := by kernel_rfl
@[simp] theorem zero116 : tzero Try.prog 116 = some [.nilf] := by kernel_rfl
@[simp] theorem elem116 : telem Try.prog 116 = none := by kernel_rfl
@[simp] theorem arr116 : tarr Try.prog 116 = none := by kernel_rfl
@[simp] theorem size116 : tsize Try.prog 116 = some 1 := by kernel_rfl
@[simp] theorem bytes116 : tbytes Try.prog 116 = some 8 := by kernel_rfl
@[simp] theorem sh117 : tsh Try.prog 117 = some (.false, 1) := by kernel_rfl
@[simp] theorem zero117 : tzero Try.prog 117 = some [.nilf] := by kernel_rfl
@[simp] theorem elem117 : telem Try.prog 117 = none := by kernel_rfl
@[simp] theorem arr117 : tarr Try.prog 117 = none := by kernel_rfl
@[simp] theorem size117 : tsize Try.prog 117 = some 1 := by kernel_rfl
@[simp] theorem bytes117 : tbytes Try.prog 117 = some 8 := by kernel_rfl
@[simp] theorem sh118 : tsh Try.prog 118 = some (.false, 1) := by kernel_rfl
@[simp] theorem zero118 : tzero Try.prog 118 = some [.nilf] := by kernel_rfl
@[simp] theorem elem118 : telem Try.prog 118 = none := by kernel_rfl
@[simp] theorem arr118 : tarr Try.prog 118 = none := by kernel_rfl
@[simp] theorem size118 : tsize Try.prog 118 = some 1 := by kernel_rfl
@[simp] theorem bytes118 : tbytes Try.prog 118 = some 8 := by kernel_rfl
@[simp] theorem sh119 : tsh Try.prog 119 = some (.false, 1) := by kernel_rfl
@[simp] theorem zero119 : tzero Try.prog 119 = some [.nilf] := by kernel_rfl
@[simp] theorem elem119 : telem Try.prog 119 = none := by kernel_rfl
@[simp] theorem arr119 : tarr Try.prog 119 = none := by kernel_rfl
@[simp] theorem size119 : tsize Try.prog 119 = some 1 := by kernel_rfl
@[simp] theorem bytes119 : tbytes Try.prog 119 = some 8 := by kernel_rfl
@[simp] theorem sh120 : tsh Try.prog 120 = some (.false, 1) := by kernel_rfl
@[simp] theorem elem120 : telem Try.prog 120 = none := by kernel_rfl
@[simp] theorem arr120 : tarr Try.prog 120 = none := by kernel_rfl
@[simp] theorem size120 : tsize Try.prog 120 = some 1 := by kernel_rfl
@[simp] theorem bytes120 : tbytes Try.prog 120 = some 0 := by kernel_rfl
@[simp] theorem sh121 : tsh Try.prog 121 = some (.false, 1) := by kernel_rfl
@[simp] theorem zero121 : tzero Try.prog 121 = some [.nilf] := by kernel_rfl
@[simp] theorem elem121 : telem Try.prog 121 = none := by kernel_rfl
@[simp] theorem arr121 : tarr Try.prog 121 = none := by kernel_rfl
@[simp] theorem size121 : tsize Try.prog 121 = some 1 := by kernel_rfl
@[simp] theorem bytes121 : tbytes Try.prog 121 = some 8 := by kernel_rfl
@[simp] theorem sh122 : tsh Try.prog 122 = some (.false, 1) := by kernel_rfl
@[simp] theorem zero122 : tzero Try.prog 122 = some [.nilf] := by kernel_rfl
@[simp] theorem elem122 : telem Try.prog 122 = none := by kernel_rfl
@[simp] theorem arr122 : tarr Try.prog 122 = none := by kernel_rfl
@[simp] theorem size122 : tsize Try.prog 122 = some 1 := by kernel_rfl
@[simp] theorem bytes122 : tbytes Try.prog 122 = some 8 := by kernel_rfl
@[simp] theorem sh123 : tsh Try.prog 123 = some (.false, 1) := by kernel_rfl
@[simp] theorem zero123 : tzero Try.prog 123 = some [.nilf] := by kernel_rfl
@[simp] theorem elem123 : telem Try.prog 123 = none := by kernel_rfl
@[simp] theorem arr123 : tarr Try.prog 123 = none := by kernel_rfl
@[simp] theorem size123 : tsize Try.prog 123 = some 1 := by kernel_rfl
@[simp] theorem bytes123 : tbytes Try.prog 123 = some 8 := by kernel_rfl
@[simp] theorem sh124 : tsh Try.prog 124 = some (.false, 1) := by kernel_rfl
@[simp] theorem zero124 : tzero Try.prog 124 = some [.nilf] := by kernel_rfl
@[simp] theorem elem124 : telem Try.prog 124 = none := by kernel_rfl
@[simp] theorem arr124 : tarr Try.prog 124 = none := by kernel_rfl
@[simp] theorem size124 : tsize Try.prog 124 = some 1 := by kernel_rfl
@[simp] theorem bytes124 : tbytes Try.prog 124 = some 8 := by kernel_rfl
@[simp] theorem sh125 : tsh Try.prog 125 = some (.false, 1) := by kernel_rfl
@[simp] theorem zero125 : tzero Try.prog 125 = some [.nilf] := by kernel_rfl
@[simp] theorem elem125 : telem Try.prog 125 = none := by kernel_rfl
@[simp] theorem arr125 : tarr Try.prog 125 = none := by kernel_rfl
@[simp] theorem size125 : tsize Try.prog 125 = some 1 := by kernel_rfl
@[simp] theorem bytes125 : tbytes Try.prog 125 = some 8 := by kernel_rfl
@[simp] theorem sh126 : tsh Try.prog 126 = some (.false, 1) := by kernel_rfl
@[simp] theorem zero126 : tzero Try.prog 126 = some [.nilf] := by kernel_rfl
@[simp] theorem elem126 : telem Try.prog 126 = none := by kernel_rfl
@[simp] theorem arr126 : tarr Try.prog 126 = none := by kernel_rfl
@[simp] theorem size126 : tsize Try.prog 126 = some 1 := by kernel_rfl
@[simp] theorem bytes126 : tbytes Try.prog 126 = some 8 := by kernel_rfl
@[simp] theorem sh127 : tsh Try.prog 127 = some (.false, 1) := by kernel_rfl
@[simp] theorem zero127 : tzero Try.prog 127 = some [.int .u64 0] := by kernel_rfl
@[simp] theorem elem127 : telem Try.prog 127 = none := by kernel_rfl
@[simp] theorem arr127 : tarr Try.prog 127 = none := by kernel_rfl
@[simp] theorem size127 : tsize Try.prog 127 = some 1 := by kernel_rfl
@[simp] theorem bytes127 : tbytes Try.prog 127 = some 8 := by kernel_rfl
@[simp] theorem int127 : tint Try.prog 127 = some .u64 := by kernel_rfl
@[simp] theorem sh128 : tsh Try.prog 128 = some (.false, 1) := by kernel_rfl
@[simp] theorem zero128 : tzero Try.prog 128 = some [.nilf] := by kernel_rfl
@[simp] theorem elem128 : telem Try.prog 128 = none := by kernel_rfl
@[simp] theorem arr128 : tarr Try.prog 128 = none := by kernel_rfl
@[simp] theorem size128 : tsize Try.prog 128 = some 1 := by kernel_rfl
@[simp] theorem bytes128 : tbytes Try.prog 128 = some 8 := by kernel_rfl
@[simp] theorem sh129 : tsh Try.prog 129 = some (.false, 1) := by kernel_rfl
@[simp] theorem zero129 : tzero Try.prog 129 = some [.nilf] := by kernel_rfl
@[simp] theorem elem129 : telem Try.prog 129 = none := by kernel_rfl
@[simp] theorem arr129 : tarr Try.prog 129 = none := by kernel_rfl
@[simp] theorem size129 : tsize Try.prog 129 = some 1 := by kernel_rfl
@[simp] theorem bytes129 : tbytes Try.prog 129 = some 8 := by kernel_rfl
@[simp] theorem sh130 : tsh Try.prog 130 = some (.false, 1) := by kernel_rfl
@[simp] theorem zero130 : tzero Try.prog 130 = some [.nilf] := by kernel_rfl
@[simp] theorem elem130 : telem Try.prog 130 = none := by kernel_rfl
@[simp] theorem arr130 : tarr Try.prog 130 = none := by kernel_rfl
@[simp] theorem size130 : tsize Try.prog 130 = some 1 := by kernel_rfl
@[simp] theorem bytes130 : tbytes Try.prog 130 = some 8 := by kernel_rfl
@[simp] theorem sh131 : tsh Try.prog 131 = some (.false, 1) := by kernel_rfl
@[simp] theorem zero131 : tzero Try.prog 131 = some [.nilf] := by kernel_rfl
@[simp] theorem elem131 : telem Try.prog 131 = none := by kernel_rfl
@[simp] theorem arr131 : tarr Try.prog 131 = none := by kernel_rfl
@[simp] theorem size131 : tsize Try.prog 131 = some 1 := by kernel_rfl
@[simp] theorem bytes131 : tbytes Try.prog 131 = some 8 := by kernel_rfl
@[simp] theorem sh132 : tsh Try.prog 132 = some (.false, 1) := by kernel_rfl
@[simp] theorem zero132 : tzero Try.prog 132 = some [.nilf] := by kernel_rfl
@[simp] theorem elem132 : telem Try.prog 132 = none := by kernel_rfl
@[simp] theorem arr132 : tarr Try.prog 132 = none := by kernel_rfl
@[simp] theorem size132 : tsize Try.prog 132 = some 1 := by kernel_rfl
@[simp] theorem bytes132 : tbytes Try.prog 132 = some 8 := by kernel_rfl
@[simp] theorem sh133 : tsh Try.prog 133 = some (.false, 1) := by kernel_rfl
@[simp] theorem zero133 : tzero Try.prog 133 = some [.nilm] := by kernel_rfl
@[simp] theorem elem133 : telem Try.prog 133 = none := by kernel_rfl
@[simp] theorem arr133 : tarr Try.prog 133 = none := by kernel_rfl
@[simp] theorem size133 : tsize Try.prog 133 = some 1 := by kernel_rfl
@[simp] theorem bytes133 : tbytes Try.prog 133 = some 8 := by kernel_rfl
@[simp] theorem sh134 : tsh Try.prog 134 = some (.false, 1) := by kernel_rfl
@[simp] theorem zero134 : tzero Try.prog 134 = some [.nilf] := by kernel_rfl
@[simp] theorem elem134 : telem Try.prog 134 = none := by kernel_rfl
@[simp] theorem arr134 : tarr Try.prog 134 = none := by kernel_rfl
@[simp] theorem size134 : tsize Try.prog 134 = some 1 := by kernel_rfl
@[simp] theorem bytes134 : tbytes Try.prog 134 = some 8 := by kernel_rfl
@[simp] theorem sh135 : tsh Try.prog 135 = some (.false, 1) := by kernel_rfl
@[simp] theorem zero135 : tzero Try.prog 135 = some [.nilf] := by kernel_rfl
@[simp] theorem elem135 : telem Try.prog 135 = none := by kernel_rfl
@[simp] theorem arr135 : tarr Try.prog 135 = none := by kernel_rfl
@[simp] theorem size135 : tsize Try.prog 135 = some 1 := by kernel_rfl
@[simp] theorem bytes135 : tbytes Try.prog 135 = some 8 := by kernel_rfl
@[simp] theorem sh136 : tsh Try.prog 136 = some (.false, 1) := by kernel_rfl
@[simp] theorem zero136 : tzero Try.prog 136 = some [.nilf] := by kernel_rfl
@[simp] theorem elem136 : telem Try.prog 136 = none := by kernel_rfl
@[simp] theorem arr136 : tarr Try.prog 136 = none := by kernel_rfl
@[simp] theorem size136 : tsize Try.prog 136 = some 1 := by kernel_rfl
@[simp] theorem bytes136 : tbytes Try.prog 136 = some 8 := by kernel_rfl
@[simp] theorem sh137 : tsh Try.prog 137 = some (.false, 1) := by kernel_rfl
@[simp] theorem zero137 : tzero Try.prog 137 = some [.nilf] := by kernel_rfl
@[simp] theorem elem137 : telem Try.prog 137 = none := by kernel_rfl
@[simp] theorem arr137 : tarr Try.prog 137 = none := by kernel_rfl
@[simp] theorem size137 : tsize Try.prog 137 = some 1 := by kernel_rfl
@[simp] theorem bytes137 : tbytes Try.prog 137 = some 8 := by kernel_rfl
@[simp] theorem sh138 : tsh Try.prog 138 = some (.false, 1) := by kernel_rfl
@[simp] theorem elem138 : telem Try.prog 138 = none := by kernel_rfl
@[simp] theorem arr138 : tarr Try.prog 138 = none := by kernel_rfl
@[simp] theorem size138 : tsize Try.prog 138 = some 1 := by kernel_rfl
@[simp] theorem bytes138 : tbytes Try.prog 138 = some 0 := by kernel_rfl
@[simp] theorem sh139 : tsh Try.prog 139 = some (.false, 1) := by kernel_rfl
@[simp] theorem zero139 : tzero Try.prog 139 = some [.nilf] := by kernel_rfl
@[simp] theorem elem139 : telem Try.prog 139 = none := by kernel_rfl
@[simp] theorem arr139 : tarr Try.prog 139 = none := by kernel_rfl
@[simp] theorem size139 : tsize Try.prog 139 = some 1 := by kernel_rfl
@[simp] theorem bytes139 : tbytes Try.prog 139 = some 8 := by kernel_rfl
@[simp] theorem sh140 : tsh Try.prog 140 = some (.false, 1) := by kernel_rfl
@[simp] theorem zero140 : tzero Try.prog 140 = some [.nilf] := by kernel_rfl
@[simp] theorem elem140 : telem Try.prog 140 = none := by kernel_rfl
@[simp] theorem arr140 : tarr Try.prog 140 = none := by kernel_rfl
@[simp] theorem size140 : tsize Try.prog 140 = some 1 := by kernel_rfl
@[simp] theorem bytes140 : tbytes Try.prog 140 = some 8 := by kernel_rfl
@[simp] theorem sh141 : tsh Try.prog 141 = some (.false, 1) := by kernel_rfl
@[simp] theorem zero141 : tzero Try.prog 141 = some [.nilf] := by kernel_rfl
@[simp] theorem elem141 : telem Try.prog 141 = none := by kernel_rfl
@[simp] theorem arr141 : tarr Try.prog 141 = none := by kernel_rfl
@[simp] theorem size141 : tsize Try.prog 141 = some 1 := by kernel_rfl
@[simp] theorem bytes141 : tbytes Try.prog 141 = some 8 := by kernel_rfl
@[simp] theorem sh142 : tsh Try.prog 142 = some (.false, 1) := by kernel_rfl
@[simp] theorem zero142 : tzero Try.prog 142 = some [.nilf] := by kernel_rfl
@[simp] theorem elem142 : telem Try.prog 142 = none := by kernel_rfl
@[simp] theorem arr142 : tarr Try.prog 142 = none := by kernel_rfl
@[simp] theorem size142 : tsize Try.prog 142 = some 1 := by kernel_rfl
@[simp] theorem bytes142 : tbytes Try.prog 142 = some 8 := by kernel_rfl
@[simp] theorem sh143 : tsh Try.prog 143 = some (.false, 1) := by kernel_rfl
@[simp] theorem zero143 : tzero Try.prog 143 = some [.nilf] := by kernel_rfl
@[simp] theorem elem143 : telem Try.prog 143 = none := by kernel_rfl
@[simp] theorem arr143 : tarr Try.prog 143 = none := by kernel_rfl
@[simp] theorem size143 : tsize Try.prog 143 = some 1 := by kernel_rfl
@[simp] theorem bytes143 : tbytes Try.prog 143 = some 8 := by kernel_rfl
@[simp] theorem sh144 : tsh Try.prog 144 = some (.false, 1) := by kernel_rfl
@[simp] theorem zero144 : tzero Try.prog 144 = some [.nilf] := by kernel_rfl
@[simp] theorem elem144 : telem Try.prog 144 = none := by kernel_rfl
@[simp] theorem arr144 : tarr Try.prog 144 = none := by kernel_rfl
@[simp] theorem size144 : tsize Try.prog 144 = some 1 := by kernel_rfl
@[simp] theorem bytes144 : tbytes Try.prog 144 = some 8 := by kernel_rfl
@[simp] theorem sh145 : tsh Try.prog 145 = some (.false, 1) := by kernel_rfl
@[simp] theorem zero145 : tzero Try.prog 145 = some [.nilf] := by kernel_rfl
@[simp] theorem elem145 : telem Try.prog 145 = none := by kernel_rfl
@[simp] theorem arr145 : tarr Try.prog 145 = none := by kernel_rfl
@[simp] theorem size145 : tsize Try.prog 145 = some 1 := by kernel_rfl
@[simp] theorem bytes145 : tbytes Try.prog 145 = some 8 := by kernel_rfl
@[simp] theorem sh146 : tsh Try.prog 146 = some (.false, 1) := by kernel_rfl
@[simp] theorem zero146 : tzero Try.prog 146 = some [.nilf] := by kernel_rfl
@[simp] theorem elem146 : telem Try.prog 146 = none := by kernel_rfl
@[simp] theorem arr146 : tarr Try.prog 146 = none := by kernel_rfl
@[simp] theorem size146 : tsize Try.prog 146 = some 1 := by kernel_rfl
@[simp] theorem bytes146 : tbytes Try.prog 146 = some 8 := by kernel_rfl
@[simp] theorem sh147 : tsh Try.prog 147 = some (.false, 1) := by kernel_rfl
@[simp] theorem zero147 : tzero Try.prog 147 = some [.nilf] := by kernel_rfl
@[simp] theorem elem147 : telem Try.prog 147 = none := by kernel_rfl
@[simp] theorem arr147 : tarr Try.prog 147 = none := by kernel_rfl
@[simp] theorem size147 : tsize Try.prog 147 = some 1 := by kernel_rfl
@[simp] theorem bytes147 : tbytes Try.prog 147 = some 8 := by kernel_rfl
@[simp] theorem sh148 : tsh Try.prog 148 = some (.false, 1) := by kernel_rfl
@[simp] theorem zero148 : tzero Try.prog 148 = some [.nilf] := by kernel_rfl
@[simp] theorem elem148 : telem Try.prog 148 = none := by kernel_rfl
@[simp] theorem arr148 : tarr Try.prog 148 = none := by kernel_rfl
@[simp] theorem size148 : tsize Try.prog 148 = some 1 := by kernel_rfl
@[simp] theorem bytes148 : tbytes Try.prog 148 = some 8 := by kernel_rfl
@[simp] theorem sh149 : tsh Try.prog 149 = some (.false, 1) := by kernel_rfl
@[simp] theorem zero149 : tzero Try.prog 149 = some [.nilf] := by kernel_rfl
@[simp] theorem elem149 : telem Try.prog 149 = none := by kernel_rfl
@[simp] theorem arr149 : tarr Try.prog 149 = none := by kernel_rfl
@[simp] theorem size149 : tsize Try.prog 149 = some 1 := by kernel_rfl
@[simp] theorem bytes149 : tbytes Try.prog 149 = some 8 := by kernel_rfl
@[simp] theorem sh150 : tsh Try.prog 150 = some (.false, 1) := by kernel_rfl
@[simp] theorem zero150 : tzero Try.prog 150 = some [.nilf] := by kernel_rfl
@[simp] theorem elem150 : telem Try.prog 150 = none := by kernel_rfl
@[simp] theorem arr150 : tarr Try.prog 150 = none := by kernel_rfl
@[simp] theorem size150 : tsize Try.prog 150 = some 1 := by kernel_rfl
@[simp] theorem bytes150 : tbytes Try.prog 150 = some 8 := by kernel_rfl
@[simp] theorem sh151 : tsh Try.prog 151 = some (.false, 1) := by kernel_rfl
@[simp] theorem zero151 : tzero Try.prog 151 = some [.nilf] := by kernel_rfl
@[simp] theorem elem151 : telem Try.prog 151 = none := by kernel_rfl
@[simp] theorem arr151 : tarr Try.prog 151 = none := by kernel_rfl
@[simp] theorem size151 : tsize Try.prog 151 = some 1 := by kernel_rfl
@[simp] theorem bytes151 : tbytes Try.prog 151 = some 8 := by kernel_rfl
@[simp] theorem sh152 : tsh Try.prog 152 = some (.false, 1) := by kernel_rfl
@[simp] theorem zero152 : tzero Try.prog 152 = some [.nilf] := by kernel_rfl
@[simp] theorem elem152 : telem Try.prog 152 = none := by kernel_rfl
@[simp] theorem arr152 : tarr Try.prog 152 = none := by kernel_rfl
@[simp] theorem size152 : tsize Try.prog 152 = some 1 := by kernel_rfl
@[simp] theorem bytes152 : tbytes Try.prog 152 = some 8 := by kernel_rfl
@[simp] theorem sh153 : tsh Try.prog 153 = some (.false, 1) := by kernel_rfl
@[simp] theorem zero153 : tzero Try.prog 153 = some [.nilf] := by kernel_rfl
@[simp] theorem elem153 : telem Try.prog 153 = none := by kernel_rfl
@[simp] theorem arr153 : tarr Try.prog 153 = none := by kernel_rfl
@[simp] theorem size153 : tsize Try.prog 153 = some 1 := by kernel_rfl
@[simp] theorem bytes153 : tbytes Try.prog 153 = some 8 := by kernel_rfl
@[simp] theorem sh154 : tsh Try.prog 154 = some (.false, 1) := by kernel_rfl
@[simp] theorem zero154 : tzero Try.prog 154 = some [.nilf] := by kernel_rfl
@[simp] theorem elem154 : telem Try.prog 154 = none := by kernel_rfl
@[simp] theorem arr154 : tarr Try.prog 154 = none := by kernel_rfl
@[simp] theorem size154 : tsize Try.prog 154 = some 1 := by kernel_rfl
@[simp] theorem bytes154 : tbytes Try.prog 154 = some 8 := by kernel_rfl
@[simp] theorem sh155 : tsh Try.prog 155 = some (.false, 1) := by kernel_rfl
@[simp] theorem zero155 : tzero Try.prog 155 = some [.nilf] := by kernel_rfl
@[simp] theorem elem155 : telem Try.prog 155 = none := by kernel_rfl
@[simp] theorem arr155 : tarr Try.prog 155 = none := by kernel_rfl
@[simp] theorem size155 : tsize Try.prog 155 = some 1 := by kernel_rfl
@[simp] theorem bytes155 : tbytes Try.prog 155 = some 8 := by kernel_rfl
@[simp] theorem sh156 : tsh Try.prog 156 = some (.false, 1) := by kernel_rfl
@[simp] theorem zero156 : tzero Try.prog 156 = some [.nilf] := by kernel_rfl
@[simp] theorem elem156 : telem Try.prog 156 = none := by kernel_rfl
@[simp] theorem arr156 : tarr Try.prog 156 = none := by kernel_rfl
@[simp] theorem size156 : tsize Try.prog 156 = some 1 := by kernel_rfl
@[simp] theorem bytes156 : tbytes Try.prog 156 = some 8 := by kernel_rfl
@[simp] theorem sh157 : tsh Try.prog 157 = some (.false, 1) := by kernel_rfl
@[simp] theorem zero157 : tzero Try.prog 157 = some [.nilf] := by kernel_rfl
@[simp] theorem elem157 : telem Try.prog 157 = none := by kernel_rfl
@[simp] theorem arr157 : tarr Try.prog 157 = none := by kernel_rfl
@[simp] theorem size157 : tsize Try.prog 157 = some 1 := by kernel_rfl
@[simp] theorem bytes157 : tbytes Try.prog 157 = some 8 := by kernel_rfl
@[simp] theorem sh158 : tsh Try.prog 158 = some (.false, 1) := by kernel_rfl
@[simp] theorem zero158 : tzero Try.prog 158 = some [.nilf] := by kernel_rfl
@[simp] theorem elem158 : telem Try.prog 158 = none := by kernel_rfl
@[simp] theorem arr158 : tarr Try.prog 158 = none := by kernel_rfl
@[simp] theorem size158 : tsize Try.prog 158 = some 1 := by kernel_rfl
@[simp] theorem bytes158 : tbytes Try.prog 158 = some 8 := by kernel_rfl
@[simp] theorem sh159 : tsh Try.prog 159 = some (.false, 1) := by kernel_rfl
@[simp] theorem zero159 : tzero Try.prog 159 = some [.nilf] := by kernel_rfl
@[simp] theorem elem159 : telem Try.prog 159 = none := by kernel_rfl
@[simp] theorem arr159 : tarr Try.prog 159 = none := by kernel_rfl
@[simp] theorem size159 : tsize Try.prog 159 = some 1 := by kernel_rfl
@[simp] theorem bytes159 : tbytes Try.prog 159 = some 8 := by kernel_rfl
@[simp] theorem sh160 : tsh Try.prog 160 = some (.false, 1) := by kernel_rfl
@[simp] theorem zero160 : tzero Try.prog 160 = some [.nilf] := by kernel_rfl
@[simp] theorem elem160 : telem Try.prog 160 = none := by kernel_rfl
@[simp] theorem arr160 : tarr Try.prog 160 = none := by kernel_rfl
@[simp] theorem size160 : tsize Try.prog 160 = some 1 := by kernel_rfl
@[simp] theorem bytes160 : tbytes Try.prog 160 = some 8 := by kernel_rfl
@[simp] theorem sh161 : tsh Try.prog 161 = some (.false, 1) := by kernel_rfl
@[simp] theorem zero161 : tzero Try.prog 161 = some [.nilf] := by kernel_rfl
@[simp] theorem elem161 : telem Try.prog 161 = none := by kernel_rfl
@[simp] theorem arr161 : tarr Try.prog 161 = none := by kernel_rfl
@[simp] theorem size161 : tsize Try.prog 161 = some 1 := by kernel_rfl
@[simp] theorem bytes161 : tbytes Try.prog 161 = some 8 := by kernel_rfl
@[simp] theorem sh162 : tsh Try.prog 162 = some (.false, 1) := by kernel_rfl
@[simp] theorem zero162 : tzero Try.prog 162 = some [.nilf] := by kernel_rfl
@[simp] theorem elem162 : telem Try.prog 162 = none := by kernel_rfl
@[simp] theorem arr162 : tarr Try.prog 162 = none := by kernel_rfl
@[simp] theorem size162 : tsize Try.prog 162 = some 1 := by kernel_rfl
@[simp] theorem bytes162 : tbytes Try.prog 162 = some 8 := by kernel_rfl
@[simp] theorem sh163 : tsh Try.prog 163 = some (.false, 1) := by kernel_rfl
@[simp] theorem zero163 : tzero Try.prog 163 = some [.nilf] := by kernel_rfl
@[simp] theorem elem163 : telem Try.prog 163 = none := by kernel_rfl
@[simp] theorem arr163 : tarr Try.prog 163 = none := by kernel_rfl
@[simp] theorem size163 : tsize Try.prog 163 = some 1 := by kernel_rfl
@[simp] theorem bytes163 : tbytes Try.prog 163 = some 8 := by kernel_rfl
@[simp] theorem sh164 : tsh Try.prog 164 = some (.false, 1) := by kernel_rfl
@[simp] theorem zero164 : tzero Try.prog 164 = some [.nilf] := by kernel_rfl
@[simp] theorem elem164 : telem Try.prog 164 = none := by kernel_rfl
@[simp] theorem arr164 : tarr Try.prog 164 = none := by kernel_rfl
@[simp] theorem size164 : tsize Try.prog 164 = some 1 := by kernel_rfl
@[simp] theorem bytes164 : tbytes Try.prog 164 = some 8 := by kernel_rfl
@[simp] theorem sh165 : tsh Try.prog 165 = some (.false, 1) := by kernel_rfl
@[simp] theorem zero165 : tzero Try.prog 165 = some [.nilf] := by kernel_rfl
@[simp] theorem elem165 : telem Try.prog 165 = none := by kernel_rfl
@[simp] theorem arr165 : tarr Try.prog 165 = none := by kernel_rfl
@[simp] theorem size165 : tsize Try.prog 165 = some 1 := by kernel_rfl
@[simp] theorem bytes165 : tbytes Try.prog 165 = some 8 := by kernel_rfl
@[simp] theorem sh166 : tsh Try.prog 166 = some (.false, 1) := by kernel_rfl
@[simp] theorem zero166 : tzero Try.prog 166 = some [.nilf] := by kernel_rfl
@[simp] theorem elem166 : telem Try.prog 166 = none := by kernel_rfl
@[simp] theorem arr166 : tarr Try.prog 166 = none := by kernel_rfl
@[simp] theorem size166 : tsize Try.prog 166 = some 1 := by kernel_rfl
@[simp] theorem bytes166 : tbytes Try.prog 166 = some 8 := by kernel_rfl
@[simp] theorem sh167 : tsh Try.prog 167 = some (.false, 1) := by kernel_rfl
@[simp] theorem elem167 : telem Try.prog 167 = none := by kernel_rfl
@[simp] theorem arr167 : tarr Try.prog 167 = none := by kernel_rfl
@[simp] theorem size167 : tsize Try.prog 167 = some 1 := by kernel_rfl
@[simp] theorem bytes167 : tbytes Try.prog 167 = some 0 := by kernel_rfl
@[simp] theorem sh168 : tsh Try.prog 168 = some (.false, 1) := by kernel_rfl
@[simp] theorem zero168 : tzero Try.prog 168 = some [.nilf] := by kernel_rfl
@[simp] theorem elem168 : telem Try.prog 168 = none := by kernel_rfl
@[simp] theorem arr168 : tarr Try.prog 168 = none := by kernel_rfl
@[simp] theorem size168 : tsize Try.prog 168 = some 1 := by kernel_rfl
@[simp] theorem bytes168 : tbytes Try.prog 168 = some 8 := by kernel_rfl
@[simp] theorem sh169 : tsh Try.prog 169 = some (.false, 1) := by kernel_rfl
@[simp] theorem zero169 : tzero Try.prog 169 = some [.nilf] := by kernel_rfl
@[simp] theorem elem169 : telem Try.prog 169 = none := by kernel_rfl
@[simp] theorem arr169 : tarr Try.prog 169 = none := by kernel_rfl
@[simp] theorem size169 : tsize Try.prog 169 = some 1 := by kernel_rfl
@[simp] theorem bytes169 : tbytes Try.prog 169 = some 8 := by kernel_rfl
@[simp] theorem sh170 : tsh Try.prog 170 = some (.false, 1) := by kernel_rfl
@[simp] theorem zero170 : tzero Try.prog 170 = some [.nilf] := by kernel_rfl
@[simp] theorem elem170 : telem Try.prog 170 = none := by kernel_rfl
@[simp] theorem arr170 : tarr Try.prog 170 = none := by kernel_rfl
@[simp] theorem size170 : tsize Try.prog 170 = some 1 := by kernel_rfl
@[simp] theorem bytes170 : tbytes Try.prog 170 = some 8 := by kernel_rfl
@[simp] theorem sh171 : tsh Try.prog 171 = some (.false, 1) := by kernel_rfl
@[simp] theorem zero171 : tzero Try.prog 171 = some [.nilf] := by kernel_rfl
@[simp] theorem elem171 : telem Try.prog 171 = none := by kernel_rfl
@[simp] theorem arr171 : tarr Try.prog 171 = none := by kernel_rfl
@[simp] theorem size171 : tsize Try.prog 171 = some 1 := by kernel_rfl
@[simp] theorem bytes171 : tbytes Try.prog 171 = some 8 := by kernel_rfl
@[simp] theorem sh172 : tsh Try.prog 172 = some (.false, 1) := by kernel_rfl
@[simp] theorem elem172 : telem Try.prog 172 = none := by kernel_rfl
@[simp] theorem arr172 : tarr Try.prog 172 = none := by kernel_rfl
@[simp] theorem size172 : tsize Try.prog 172 = some 1 := by kernel_rfl
@[simp] theorem bytes172 : tbytes Try.prog 172 = some 0 := by kernel_rfl
@[simp] theorem sh173 : tsh Try.prog 173 = some (.false, 1) := by kernel_rfl
@[simp] theorem zero173 : tzero Try.prog 173 = some [.nilf] := by kernel_rfl
@[simp] theorem elem173 : telem Try.prog 173 = none := by kernel_rfl
@[simp] theorem arr173 : tarr Try.prog 173 = none := by kernel_rfl
@[simp] theorem size173 : tsize Try.prog 173 = some 1 := by kernel_rfl
@[simp] theorem bytes173 : tbytes Try.prog 173 = some 8 := by kernel_rfl
@[simp] theorem sh174 : tsh Try.prog 174 = some (.false, 1) := by kernel_rfl
@[simp] theorem zero174 : tzero Try.prog 174 = some [.int .u32 0] := by kernel_rfl
@[simp] theorem elem174 : telem Try.prog 174 = none := by kernel_rfl
@[simp] theorem arr174 : tarr Try.prog 174 = none := by kernel_rfl
@[simp] theorem size174 : tsize Try.prog 174 = some 1 := by kernel_rfl
@[simp] theorem bytes174 : tbytes Try.prog 174 = some 4 := by kernel_rfl
@[simp] theorem int174 : tint Try.prog 174 = some .u32 := by kernel_rfl
@[simp] theorem sh175 : tsh Try.prog 175 = some (.false, 1) := by kernel_rfl
@[simp] theorem elem175 : telem Try.prog 175 = none := by kernel_rfl
@[simp] theorem arr175 : tarr Try.prog 175 = none := by kernel_rfl
@[simp] theorem size175 : tsize Try.prog 175 = some 1 := by kernel_rfl
@[simp] theorem bytes175 : tbytes Try.prog 175 = some 0 := by kernel_rfl
@[simp] theorem sh176 : tsh Try.prog 176 = some (.false, 1) := by kernel_rfl
@[simp] theorem zero176 : tzero Try.prog 176 = some [.nilf] := by kernel_rfl
@[simp] theorem elem176 : telem Try.prog 176 = none := by kernel_rfl
@[simp] theorem arr176 : tarr Try.prog 176 = none := by kernel_rfl
@[simp] theorem size176 : tsize Try.prog 176 = some 1 := by kernel_rfl
@[simp] theorem bytes176 : tbytes Try.prog 176 = some 8 := by kernel_rfl
@[simp] theorem sh177 : tsh Try.prog 177 = some (.false, 1) := by kernel_rfl
@[simp] theorem elem177 : telem Try.prog 177 = none := by kernel_rfl
@[simp] theorem arr177 : tarr Try.prog 177 = none := by kernel_rfl
@[simp] theorem size177 : tsize Try.prog 177 = some 1 := by kernel_rfl
@[simp] theorem bytes177 : tbytes Try.prog 177 = some 0 := by kernel_rfl
@[simp] theorem sh178 : tsh Try.prog 178 = some (.false, 1) := by kernel_rfl
@[simp] theorem zero178 : tzero Try.prog 178 = some [.nilf] := by kernel_rfl
@[simp] theorem elem178 : telem Try.prog 178 = none := by kernel_rfl
@[simp] theorem arr178 : tarr Try.prog 178 = none := by kernel_rfl
@[simp] theorem size178 : tsize Try.prog 178 = some 1 := by kernel_rfl
@[simp] theorem bytes178 : tbytes Try.prog 178 = some 8 := by kernel_rfl
@[simp] theorem sh179 : tsh Try.prog 179 = some (.false, 1) := by kernel_rfl
@[simp] theorem zero179 : tzero Try.prog 179 = some [.nilf] := by kernel_rfl
@[simp] theorem elem179 : telem Try.prog 179 = none := by kernel_rfl
@[simp] theorem arr179 : tarr Try.prog 179 = none := by kernel_rfl
@[simp] theorem size179 : tsize Try.prog 179 = some 1 := by kernel_rfl
@[simp] theorem bytes179 : tbytes Try.prog 179 = some 8 := by kernel_rfl
@[simp] theorem sh180 : tsh Try.prog 180 = some (.true, 4) := by kernel_rfl
@[simp] theorem zero180 : tzero Try.prog 180 = some [.nilp, .nilp, .nilp, .str ByteArray.empty] := by kernel_rfl
@[simp] theorem elem180 : telem Try.prog 180 = none := by kernel_rfl
@[simp] theorem arr180 : tarr Try.prog 180 = none := by kernel_rfl
@[simp] theorem size180 : tsize Try.prog 180 = some 4 := by kernel_rfl
@[simp] theorem bytes180 : tbytes Try.prog 180 = some 40 := by kernel_rfl
@[simp] theorem places180 : tplaces Try.prog 180 = some [(0, 1), (1, 1), (2, 1), (3, 1)] := by kernel_rfl
@[simp] theorem fld180_0 : tfld Try.prog 180 0 = some (0, (17, 1)) := by kernel_rfl
@[simp] theorem fld180_1 : tfld Try.prog 180 1 = some (1, (17, 1)) := by kernel_rfl
@[simp] theorem fld180_2 : tfld Try.prog 180 2 = some (2, (17, 1)) := by kernel_rfl
@[simp] theorem fld180_3 : tfld Try.prog 180 3 = some (3, (9, 1)) := by kernel_rfl
@[simp] theorem sh181 : tsh Try.prog 181 = some (.true, 4) := by kernel_rfl
@[simp] theorem zero181 : tzero Try.prog 181 = some [.nilp, .nilp, .nilp, .str ByteArray.empty] := by kernel_rfl
@[simp] theorem elem181 : telem Try.prog 181 = none := by kernel_rfl
@[simp] theorem arr181 : tarr Try.prog 181 = none := by kernel_rfl
@[simp] theorem size181 : tsize Try.prog 181 = some 4 := by kernel_rfl
@[simp] theorem bytes181 : tbytes Try.prog 181 = some 40 := by kernel_rfl
@[simp] theorem places181 : tplaces Try.prog 181 = some [(0, 1), (1, 1), (2, 1), (3, 1)] := by kernel_rfl
@[simp] theorem fld181_0 : tfld Try.prog 181 0 = some (0, (17, 1)) := by kernel_rfl
@[simp] theorem fld181_1 : tfld Try.prog 181 1 = some (1, (17, 1)) := by kernel_rfl
@[simp] theorem fld181_2 : tfld Try.prog 181 2 = some (2, (17, 1)) := by kernel_rfl
@[simp] theorem fld181_3 : tfld Try.prog 181 3 = some (3, (9, 1)) := by kernel_rfl
@[simp] theorem sh182 : tsh Try.prog 182 = some (.true, 0) := by kernel_rfl
@[simp] theorem zero182 : tzero Try.prog 182 = some [] := by kernel_rfl
@[simp] theorem elem182 : telem Try.prog 182 = none := by kernel_rfl
@[simp] theorem arr182 : tarr Try.prog 182 = some (0, 16) := by kernel_rfl
@[simp] theorem size182 : tsize Try.prog 182 = some 0 := by kernel_rfl
@[simp] theorem bytes182 : tbytes Try.prog 182 = some 0 := by kernel_rfl
@[simp] theorem sh183 : tsh Try.prog 183 = some (.true, 0) := by kernel_rfl
@[simp] theorem zero183 : tzero Try.prog 183 = some [] := by kernel_rfl
@[simp] theorem elem183 : telem Try.prog 183 = none := by kernel_rfl
@[simp] theorem arr183 : tarr Try.prog 183 = none := by kernel_rfl
@[simp] theorem size183 : tsize Try.prog 183 = some 0 := by kernel_rfl
@[simp] theorem bytes183 : tbytes Try.prog 183 = some 0 := by kernel_rfl
@[simp] theorem places183 : tplaces Try.prog 183 = some [(0, 0)] := by kernel_rfl
@[simp] theorem sh184 : tsh Try.prog 184 = some (.true, 0) := by kernel_rfl
@[simp] theorem zero184 : tzero Try.prog 184 = some [] := by kernel_rfl
@[simp] theorem elem184 : telem Try.prog 184 = none := by kernel_rfl
@[simp] theorem arr184 : tarr Try.prog 184 = none := by kernel_rfl
@[simp] theorem size184 : tsize Try.prog 184 = some 0 := by kernel_rfl
@[simp] theorem bytes184 : tbytes Try.prog 184 = some 0 := by kernel_rfl
@[simp] theorem places184 : tplaces Try.prog 184 = some [(0, 0)] := by kernel_rfl
@[simp] theorem sh185 : tsh Try.prog 185 = some (.false, 1) := by kernel_rfl
@[simp] theorem zero185 : tzero Try.prog 185 = some [.nilf] := by kernel_rfl
@[simp] theorem elem185 : telem Try.prog 185 = none := by kernel_rfl
@[simp] theorem arr185 : tarr Try.prog 185 = none := by kernel_rfl
@[simp] theorem size185 : tsize Try.prog 185 = some 1 := by kernel_rfl
@[simp] theorem bytes185 : tbytes Try.prog 185 = some 8 := by kernel_rfl
@[simp] theorem sh186 : tsh Try.prog 186 = some (.false, 1) := by kernel_rfl
@[simp] theorem zero186 : tzero Try.prog 186 = some [.int .u8 0] := by kernel_rfl
@[simp] theorem elem186 : telem Try.prog 186 = none := by kernel_rfl
@[simp] theorem arr186 : tarr Try.prog 186 = none := by kernel_rfl
@[simp] theorem size186 : tsize Try.prog 186 = some 1 := by kernel_rfl
@[simp] theorem bytes186 : tbytes Try.prog 186 = some 1 := by kernel_rfl
@[simp] theorem int186 : tint Try.prog 186 = some .u8 := by kernel_rfl
@[simp] theorem sh187 : tsh Try.prog 187 = some (.false, 1) := by kernel_rfl
@[simp] theorem zero187 : tzero Try.prog 187 = some [.int .u8 0] := by kernel_rfl
@[simp] theorem elem187 : telem Try.prog 187 = none := by kernel_rfl
@[simp] theorem arr187 : tarr Try.prog 187 = none := by kernel_rfl
@[simp] theorem size187 : tsize Try.prog 187 = some 1 := by kernel_rfl
@[simp] theorem bytes187 : tbytes Try.prog 187 = some 1 := by kernel_rfl
@[simp] theorem int187 : tint Try.prog 187 = some .u8 := by kernel_rfl
@[simp] theorem sh188 : tsh Try.prog 188 = some (.false, 1) := by kernel_rfl
@[simp] theorem zero188 : tzero Try.prog 188 = some [.nilf] := by kernel_rfl
@[simp] theorem elem188 : telem Try.prog 188 = none := by kernel_rfl
@[simp] theorem arr188 : tarr Try.prog 188 = none := by kernel_rfl
@[simp] theorem size188 : tsize Try.prog 188 = some 1 := by kernel_rfl
@[simp] theorem bytes188 : tbytes Try.prog 188 = some 8 := by kernel_rfl
@[simp] theorem sh189 : tsh Try.prog 189 = some (.false, 1) := by kernel_rfl
@[simp] theorem zero189 : tzero Try.prog 189 = some [.nilp] := by kernel_rfl
@[simp] theorem elem189 : telem Try.prog 189 = none := by kernel_rfl
@[simp] theorem arr189 : tarr Try.prog 189 = none := by kernel_rfl
@[simp] theorem size189 : tsize Try.prog 189 = some 1 := by kernel_rfl
@[simp] theorem bytes189 : tbytes Try.prog 189 = some 8 := by kernel_rfl
@[simp] theorem sh190 : tsh Try.prog 190 = some (.false, 1) := by kernel_rfl
@[simp] theorem zero190 : tzero Try.prog 190 = some [.int .i32 0] := by kernel_rfl
@[simp] theorem elem190 : telem Try.prog 190 = none := by kernel_rfl
@[simp] theorem arr190 : tarr Try.prog 190 = none := by kernel_rfl
@[simp] theorem size190 : tsize Try.prog 190 = some 1 := by kernel_rfl
@[simp] theorem bytes190 : tbytes Try.prog 190 = some 4 := by kernel_rfl
@[simp] theorem int190 : tint Try.prog 190 = some .i32 := by kernel_rfl
@[simp] theorem sh191 : tsh Try.prog 191 = some (.false, 1) := by kernel_rfl
@[simp] theorem zero191 : tzero Try.prog 191 = some [.int .i32 0] := by kernel_rfl
@[simp] theorem elem191 : telem Try.prog 191 = none := by kernel_rfl
@[simp] theorem arr191 : tarr Try.prog 191 = none := by kernel_rfl
@[simp] theorem size191 : tsize Try.prog 191 = some 1 := by kernel_rfl
@[simp] theorem bytes191 : tbytes Try.prog 191 = some 4 := by kernel_rfl
@[simp] theorem int191 : tint Try.prog 191 = some .i32 := by kernel_rfl
@[simp] theorem sh192 : tsh Try.prog 192 = some (.true, 11) := by kernel_rfl
@[simp] theorem zero192 : tzero Try.prog 192 = some [.int .u64 0, .int .u64 0, .int .u32 0, .int .u8 0, .int .u8 0, .int .u8 0, .int .u8 0, .nilf, .nilp, .int .i32 0, .int .i32 0] := by kernel_rfl
@[simp] theorem elem192 : telem Try.prog 192 = none := by kernel_rfl
@[simp] theorem arr192 : tarr Try.prog 192 = none := by kernel_rfl
@[simp] theorem size192 : tsize Try.prog 192 = some 11 := by kernel_rfl
@[simp] theorem bytes192 : tbytes Try.prog 192 = some 48 := by kernel_rfl
@[simp] theorem places192 : tplaces Try.prog 192 = some [(0, 1), (1, 1), (2, 1), (3, 1), (4, 1), (5, 1), (6, 1), (7, 1), (8, 1), (9, 1), (10, 1)] := by kernel_rfl
@[simp] theorem fld192_0 : tfld Try.prog 192 0 = some (0, (12, 1)) := by kernel_rfl
@[simp] theorem fld192_1 : tfld Try.prog 192 1 = some (1, (12, 1)) := by kernel_rfl
@[simp] theorem fld192_2 : tfld Try.prog 192 2 = some (2, (174, 1)) := by kernel_rfl
@[simp] theorem fld192_3 : tfld Try.prog 192 3 = some (3, (186, 1)) := by kernel_rfl
@[simp] theorem fld192_4 : tfld Try.prog 192 4 = some (4, (5, 1)) := by kernel_rfl
@[simp] theorem fld192_5 : tfld Try.prog 192 5 = some (5, (5, 1)) := by kernel_rfl
@[simp] theorem fld192_6 : tfld Try.prog 192 6 = some (6, (187, 1)) := by kernel_rfl
@[simp] theorem fld192_7 : tfld Try.prog 192 7 = some (7, (188, 1)) := by kernel_rfl
@[simp] theorem fld192_8 : tfld Try.prog 192 8 = some (8, (189, 1)) := by kernel_rfl
@[simp] theorem fld192_9 : tfld Try.prog 192 9 = some (9, (190, 1)) := by kernel_rfl
@[simp] theorem fld192_10 : tfld Try.prog 192 10 = some (10, (191, 1)) := by kernel_rfl
@[simp] theorem sh193 : tsh Try.prog 193 = some (.true, 11) := by kernel_rfl
@[simp] theorem zero193 : tzero Try.prog 193 = some [.int .u64 0, .int .u64 0, .int .u32 0, .int .u8 0, .int .u8 0, .int .u8 0, .int .u8 0, .nilf, .nilp, .int .i32 0, .int .i32 0] := by kernel_rfl
@[simp] theorem elem193 : telem Try.prog 193 = none := by kernel_rfl
@[simp] theorem arr193 : tarr Try.prog 193 = none := by kernel_rfl
@[simp] theorem size193 : tsize Try.prog 193 = some 11 := by kernel_rfl
@[simp] theorem bytes193 : tbytes Try.prog 193 = some 48 := by kernel_rfl
@[simp] theorem places193 : tplaces Try.prog 193 = some [(0, 1), (1, 1), (2, 1), (3, 1), (4, 1), (5, 1), (6, 1), (7, 1), (8, 1), (9, 1), (10, 1)] := by kernel_rfl
@[simp] theorem fld193_0 : tfld Try.prog 193 0 = some (0, (12, 1)) := by kernel_rfl
@[simp] theorem fld193_1 : tfld Try.prog 193 1 = some (1, (12, 1)) := by kernel_rfl
@[simp] theorem fld193_2 : tfld Try.prog 193 2 = some (2, (174, 1)) := by kernel_rfl
@[simp] theorem fld193_3 : tfld Try.prog 193 3 = some (3, (186, 1)) := by kernel_rfl
@[simp] theorem fld193_4 : tfld Try.prog 193 4 = some (4, (5, 1)) := by kernel_rfl
@[simp] theorem fld193_5 : tfld Try.prog 193 5 = some (5, (5, 1)) := by kernel_rfl
@[simp] theorem fld193_6 : tfld Try.prog 193 6 = some (6, (187, 1)) := by kernel_rfl
@[simp] theorem fld193_7 : tfld Try.prog 193 7 = some (7, (188, 1)) := by kernel_rfl
@[simp] theorem fld193_8 : tfld Try.prog 193 8 = some (8, (189, 1)) := by kernel_rfl
@[simp] theorem fld193_9 : tfld Try.prog 193 9 = some (9, (190, 1)) := by kernel_rfl
@[simp] theorem fld193_10 : tfld Try.prog 193 10 = some (10, (191, 1)) := by kernel_rfl
@[simp] theorem sh194 : tsh Try.prog 194 = some (.false, 1) := by kernel_rfl
@[simp] theorem zero194 : tzero Try.prog 194 = some [.nilp] := by kernel_rfl
@[simp] theorem elem194 : telem Try.prog 194 = none := by kernel_rfl
@[simp] theorem arr194 : tarr Try.prog 194 = none := by kernel_rfl
@[simp] theorem size194 : tsize Try.prog 194 = some 1 := by kernel_rfl
@[simp] theorem bytes194 : tbytes Try.prog 194 = some 8 := by kernel_rfl
@[simp] theorem hb3 : HB Try.prog 3 = true := by kernel_rfl
@[simp] theorem hb4 : HB Try.prog 4 = true := by kernel_rfl
@[simp] theorem hb5 : HB Try.prog 5 = true := by kernel_rfl
@[simp] theorem hb6 : HB Try.prog 6 = true := by kernel_rfl
@[simp] theorem hb7 : HB Try.prog 7 = true := by kernel_rfl
@[simp] theorem hb8 : HB Try.prog 8 = true := by kernel_rfl
@[simp] theorem hb9 : HB Try.prog 9 = true := by kernel_rfl
@[simp] theorem hb10 : HB Try.prog 10 = true := by kernel_rfl
@[simp] theorem hb11 : HB Try.prog 11 = true := by kernel_rfl
@[simp] theorem hb12 : HB Try.prog 12 = true := by kernel_rfl
@[simp] theorem hb13 : HB Try.prog 13 = true := by kernel_rfl
@[simp] theorem hb14 : HB Try.prog 14 = true := by kernel_rfl
@[simp] theorem hb15 : HB Try.prog 15 = true := by kernel_rfl
@[simp] theorem hb16 : HB Try.prog 16 = true := by kernel_rfl
@[simp] theorem hb17 : HB Try.prog 17 = true := by kernel_rfl
@[simp] theorem hb18 : HB Try.prog 18 = true := by kernel_rfl
@[simp] theorem hb19 : HB Try.prog 19 = true := by kernel_rfl
@[simp] theorem hb20 : HB Try.prog 20 = true := by kernel_rfl
@[simp] theorem hb21 : HB Try.prog 21 = true := by kernel_rfl
@[simp] theorem hb22 : HB Try.prog 22 = true := by kernel_rfl
@[simp] theorem hb23 : HB Try.prog 23 = true := by kernel_rfl
@[simp] theorem hb24 : HB Try.prog 24 = true := by kernel_rfl
@[simp] theorem hb25 : HB Try.prog 25 = true := by kernel_rfl
@[simp] theorem hb26 : HB Try.prog 26 = true := by kernel_rfl
@[simp] theorem hb27 : HB Try.prog 27 = true := by kernel_rfl
@[simp] theorem hb28 : HB Try.prog 28 = true := by kernel_rfl
@[simp] theorem hb29 : HB Try.prog 29 = true := by kernel_rfl
@[simp] theorem hb30 : HB Try.prog 30 = true := by kernel_rfl
@[simp] theorem hb31 : HB Try.prog 31 = true := by kernel_rfl
@[simp] theorem hb32 : HB Try.prog 32 = true := by kernel_rfl
@[simp] theorem hb33 : HB Try.prog 33 = true := by kernel_rfl
@[simp] theorem hb34 : HB Try.prog 34 = true := by kernel_rfl
@[simp] theorem hb35 : HB Try.prog 35 = true := by kernel_rfl
@[simp] theorem hb36 : HB Try.prog 36 = true := by kernel_rfl
@[simp] theorem hb37 : HB Try.prog 37 = true := by kernel_rfl
@[simp] theorem hb38 : HB Try.prog 38 = true := by kernel_rfl
@[simp] theorem hb39 : HB Try.prog 39 = true := by kernel_rfl
@[simp] theorem hb40 : HB Try.prog 40 = true := by kernel_rfl
@[simp] theorem hb41 : HB Try.prog 41 = true := by kernel_rfl
@[simp] theorem hb42 : HB Try.prog 42 = true := by kernel_rfl
@[simp] theorem hb43 : HB Try.prog 43 = true := by kernel_rfl
@[simp] theorem hb44 : HB Try.prog 44 = true := by kernel_rfl
@[simp] theorem hb45 : HB Try.prog 45 = true := by kernel_rfl
@[simp] theorem hb46 : HB Try.prog 46 = true := by kernel_rfl
@[simp] theorem hb47 : HB Try.prog 47 = true := by kernel_rfl
@[simp] theorem hb48 : HB Try.prog 48 = true := by kernel_rfl
@[simp] theorem hb49 : HB Try.prog 49 = true := by kernel_rfl
@[simp] theorem hb50 : HB Try.prog 50 = true := by kernel_rfl
@[simp] theorem hb51 : HB Try.prog 51 = true := by kernel_rfl
@[simp] theorem hb52 : HB Try.prog 52 = true := by kernel_rfl
@[simp] theorem hb53 : HB Try.prog 53 = true := by kernel_rfl
@[simp] theorem hb54 : HB Try.prog 54 = true := by kernel_rfl
@[simp] theorem hb55 : HB Try.prog 55 = true := by kernel_rfl
@[simp] theorem hb56 : HB Try.prog 56 = true := by kernel_rfl
@[simp] theorem hb57 : HB Try.prog 57 = true := by kernel_rfl
@[simp] theorem hb58 : HB Try.prog 58 = true := by kernel_rfl
@[simp] theorem hb59 : HB Try.prog 59 = true := by kernel_rfl
@[simp] theorem hb60 : HB Try.prog 60 = true := by kernel_rfl
@[simp] theorem hb61 : HB Try.prog 61 = true := by kernel_rfl
@[simp] theorem hb62 : HB Try.prog 62 = true := by kernel_rfl
@[simp] theorem hb63 : HB Try.prog 63 = true := by kernel_rfl
@[simp] theorem hb64 : HB Try.prog 64 = true := by kernel_rfl
@[simp] theorem hb65 : HB Try.prog 65 = true := by kernel_rfl
@[simp] theorem hb66 : HB Try.prog 66 = true := by kernel_rfl
@[simp] theorem hb67 : HB Try.prog 67 = true := by kernel_rfl
@[simp] theorem hb68 : HB Try.prog 68 = true := by kernel_rfl
@[simp] theorem hb69 : HB Try.prog 69 = true := by kernel_rfl
@[simp] theorem hb70 : HB Try.prog 70 = true := by kernel_rfl
@[simp] theorem hb71 : HB Try.prog 71 = true := by kernel_rfl
@[simp] theorem hb72 : HB Try.prog 72 = true := by kernel_rfl
@[simp] theorem hb73 : HB Try.prog 73 = true := by kernel_rfl
@[simp] theorem hb74 : HB Try.prog 74 = true := by kernel_rfl
@[simp] theorem hb75 : HB Try.prog 75 = true := by kernel_rfl
@[simp] theorem hb76 : HB Try.prog 76 = true := by kernel_rfl
@[simp] theorem hb77 : HB Try.prog 77 = true := by kernel_rfl
@[simp] theorem hb78 : HB Try.prog 78 = true := by kernel_rfl
@[simp] theorem hb79 : HB Try.prog 79 = true := by kernel_rfl
@[simp] theorem hb80 : HB Try.prog 80 = true := by kernel_rfl
@[simp] theorem hb81 : HB Try.prog 81 = true := by kernel_rfl
@[simp] theorem hb82 : HB Try.prog 82 = true := by kernel_rfl
@[simp] theorem hb83 : HB Try.prog 83 = true := by kernel_rfl
@[simp] theorem hb84 : HB Try.prog 84 = true := by kernel_rfl
@[simp] theorem hb85 : HB Try.prog 85 = true := by kernel_rfl
@[simp] theorem hb86 : HB Try.prog 86 = true := by kernel_rfl
@[simp] theorem hb87 : HB Try.prog 87 = true := by kernel_rfl
@[simp] theorem hb88 : HB Try.prog 88 = true := by kernel_rfl
@[simp] theorem hb89 : HB Try.prog 89 = true := by kernel_rfl
@[simp] theorem hb90 : HB Try.prog 90 = true := by kernel_rfl
@[simp] theorem hb91 : HB Try.prog 91 = true := by kernel_rfl
@[simp] theorem hb92 : HB Try.prog 92 = true := by kernel_rfl
@[simp] theorem hb93 : HB Try.prog 93 = true := by kernel_rfl
@[simp] theorem hb94 : HB Try.prog 94 = true := by kernel_rfl
@[simp] theorem hb95 : HB Try.prog 95 = true := by kernel_rfl
@[simp] theorem hb96 : HB Try.prog 96 = true := by kernel_rfl
@[simp] theorem hb97 : HB Try.prog 97 = true := by kernel_rfl
@[simp] theorem hb98 : HB Try.prog 98 = true := by kernel_rfl
@[simp] theorem hb99 : HB Try.prog 99 = true := by kernel_rfl
@[simp] theorem hb100 : HB Try.prog 100 = true := by kernel_rfl
@[simp] theorem hb101 : HB Try.prog 101 = true := by kernel_rfl
@[simp] theorem hb102 : HB Try.prog 102 = true := by kernel_rfl
@[simp] theorem hb103 : HB Try.prog 103 = true := by kernel_rfl
@[simp] theorem hb104 : HB Try.prog 104 = true := by kernel_rfl
@[simp] theorem hb105 : HB Try.prog 105 = true := by kernel_rfl
@[simp] theorem hb106 : HB Try.prog 106 = true := by kernel_rfl
@[simp] theorem hb107 : HB Try.prog 107 = true := by kernel_rfl
@[simp] theorem hb108 : HB Try.prog 108 = true := by kernel_rfl
@[simp] theorem hb109 : HB Try.prog 109 = true := by kernel_rfl
@[simp] theorem hb110 : HB Try.prog 110 = true := by kernel_rfl
@[simp] theorem hb111 : HB Try.prog 111 = true := by kernel_rfl
@[simp] theorem hb112 : HB Try.prog 112 = true := by kernel_rfl
@[simp] theorem hb113 : HB Try.prog 113 = true := by kernel_rfl
@[simp] theorem hb114 : HB Try.prog 114 = true := by kernel_rfl
@[simp] theorem hb115 : HB Try.prog 115 = true := by kernel_rfl
@[simp] theorem hb116 : HB Try.prog 116 = true := by kernel_rfl
@[simp] theorem hb117 : HB Try.prog 117 = true := by kernel_rfl
@[simp] theorem hb118 : HB Try.prog 118 = true := by kernel_rfl
@[simp] theorem hb119 : HB Try.prog 119 = true := by kernel_rfl
@[simp] theorem hb120 : HB Try.prog 120 = true := by kernel_rfl
@[simp] theorem hb121 : HB Try.prog 121 = true := by kernel_rfl
@[simp] theorem hb122 : HB Try.prog 122 = true := by kernel_rfl
@[simp] theorem hb123 : HB Try.prog 123 = true := by kernel_rfl
@[simp] theorem hb124 : HB Try.prog 124 = true := by kernel_rfl
@[simp] theorem hb125 : HB Try.prog 125 = true := by kernel_rfl
@[simp] theorem hb126 : HB Try.prog 126 = true := by kernel_rfl
@[simp] theorem hb127 : HB Try.prog 127 = true := by kernel_rfl
@[simp] theorem hb128 : HB Try.prog 128 = true := by kernel_rfl
@[simp] theorem hb129 : HB Try.prog 129 = true := by kernel_rfl
@[simp] theorem hb130 : HB Try.prog 130 = true := by kernel_rfl
@[simp] theorem hb131 : HB Try.prog 131 = true := by kernel_rfl
@[simp] theorem hb132 : HB Try.prog 132 = true := by kernel_rfl
@[simp] theorem hb133 : HB Try.prog 133 = true := by kernel_rfl
@[simp] theorem hb134 : HB Try.prog 134 = true := by kernel_rfl
@[simp] theorem hb135 : HB Try.prog 135 = true := by kernel_rfl
@[simp] theorem hb136 : HB Try.prog 136 = true := by kernel_rfl
@[simp] theorem hb137 : HB Try.prog 137 = true := by kernel_rfl
@[simp] theorem hb138 : HB Try.prog 138 = true := by kernel_rfl
@[simp] theorem hb139 : HB Try.prog 139 = true := by kernel_rfl
@[simp] theorem hb140 : HB Try.prog 140 = true := by kernel_rfl
@[simp] theorem hb141 : HB Try.prog 141 = true := by kernel_rfl
@[simp] theorem hb142 : HB Try.prog 142 = true := by kernel_rfl
@[simp] theorem hb143 : HB Try.prog 143 = true := by kernel_rfl
@[simp] theorem hb144 : HB Try.prog 144 = true := by kernel_rfl
@[simp] theorem hb145 : HB Try.prog 145 = true := by kernel_rfl
@[simp] theorem hb146 : HB Try.prog 146 = true := by kernel_rfl
@[simp] theorem hb147 : HB Try.prog 147 = true := by kernel_rfl
@[simp] theorem hb148 : HB Try.prog 148 = true := by kernel_rfl
@[simp] theorem hb149 : HB Try.prog 149 = true := by kernel_rfl
@[simp] theorem ares3 (s : AState) : ares Try.prog Try.f3 s = resV Try.prog s (.tmp 2) := ares_one Try.results3 s
@[simp] theorem ares4 (s : AState) : ares Try.prog Try.f4 s = resV Try.prog s (.tmp 6) := ares_one Try.results4 s
@[simp] theorem ares5 (s : AState) : ares Try.prog Try.f5 s = resV Try.prog s (.tmp 6) := ares_one Try.results5 s
@[simp] theorem ares6 (s : AState) : ares Try.prog Try.f6 s = resV Try.prog s (.tmp 2) := ares_one Try.results6 s
@[simp] theorem ares7 (s : AState) : ares Try.prog Try.f7 s = resV Try.prog s (.tmp 4) := ares_one Try.results7 s
@[simp] theorem ares8 (s : AState) : ares Try.prog Try.f8 s = resV Try.prog s (.tmp 2) := ares_one Try.results8 s
@[simp] theorem ares9 (s : AState) : ares Try.prog Try.f9 s = resV Try.prog s (.tmp 6) := ares_one Try.results9 s
@[simp] theorem ares10 (s : AState) : ares Try.prog Try.f10 s = resV Try.prog s (.tmp 2) := ares_one Try.results10 s
@[simp] theorem ares11 (s : AState) : ares Try.prog Try.f11 s = resV Try.prog s (.tmp 4) := ares_one Try.results11 s
@[simp] theorem ares12 (s : AState) : ares Try.prog Try.f12 s = resV Try.prog s (.tmp 6) := ares_one Try.results12 s
@[simp] theorem ares13 (s : AState) : ares Try.prog Try.f13 s = resV Try.prog s (.tmp 2) := ares_one Try.results13 s
@[simp] theorem ares14 (s : AState) : ares Try.prog Try.f14 s = resV Try.prog s (.tmp 0) := ares_one Try.results14 s
@[simp] theorem ares15 (s : AState) : ares Try.prog Try.f15 s = resV Try.prog s (.cell 2 27) := ares_one Try.results15 s
@[simp] theorem ares16 (s : AState) : ares Try.prog Try.f16 s = (resL Try.prog s [.cell 2 27, .cell 3 38, .tmp 4]).map .tup := ares_many (rs := [.cell 2 27, .cell 3 38, .tmp 4]) Try.results16 (by decide) s
@[simp] theorem ares17 (s : AState) : ares Try.prog Try.f17 s = resV Try.prog s (.tmp 4) := ares_one Try.results17 s
@[simp] theorem ares18 (s : AState) : ares Try.prog Try.f18 s = resV Try.prog s (.tmp 4) := ares_one Try.results18 s
@[simp] theorem ares19 (s : AState) : ares Try.prog Try.f19 s = (resL Try.prog s [.cell 10 27, .cell 11 38, .tmp 12]).map .tup := ares_many (rs := [.cell 10 27, .cell 11 38, .tmp 12]) Try.results19 (by decide) s
@[simp] theorem ares20 (s : AState) : ares Try.prog Try.f20 s = resV Try.prog s (.tmp 4) := ares_one Try.results20 s
@[simp] theorem ares21 (s : AState) : ares Try.prog Try.f21 s = (resL Try.prog s [.cell 10 27, .cell 11 38, .tmp 12]).map .tup := ares_many (rs := [.cell 10 27, .cell 11 38, .tmp 12]) Try.results21 (by decide) s
@[simp] theorem ares22 (s : AState) : ares Try.prog Try.f22 s = (resL Try.prog s [.tmp 6, .tmp 7]).map .tup := ares_many (rs := [.tmp 6, .tmp 7]) Try.results22 (by decide) s
@[simp] theorem ares23 (s : AState) : ares Try.prog Try.f23 s = resV Try.prog s (.tmp 4) := ares_one Try.results23 s
@[simp] theorem ares24 (s : AState) : ares Try.prog Try.f24 s = resV Try.prog s (.tmp 0) := ares_one Try.results24 s
@[simp] theorem ares25 (s : AState) : ares Try.prog Try.f25 s = resV Try.prog s (.cell 2 68) := ares_one Try.results25 s
@[simp] theorem ares26 (s : AState) : ares Try.prog Try.f26 s = resV Try.prog s (.cell 2 68) := ares_one Try.results26 s
@[simp] theorem ares27 (s : AState) : ares Try.prog Try.f27 s = (resL Try.prog s [.tmp 4, .tmp 5]).map .tup := ares_many (rs := [.tmp 4, .tmp 5]) Try.results27 (by decide) s
@[simp] theorem ares28 (s : AState) : ares Try.prog Try.f28 s = (resL Try.prog s [.tmp 4, .tmp 5]).map .tup := ares_many (rs := [.tmp 4, .tmp 5]) Try.results28 (by decide) s
@[simp] theorem ares29 (s : AState) : ares Try.prog Try.f29 s = resV Try.prog s (.tmp 4) := ares_one Try.results29 s
@[simp] theorem ares30 (s : AState) : ares Try.prog Try.f30 s = (resL Try.prog s [.tmp 8, .tmp 9]).map .tup := ares_many (rs := [.tmp 8, .tmp 9]) Try.results30 (by decide) s
@[simp] theorem ares31 (s : AState) : ares Try.prog Try.f31 s = resV Try.prog s (.tmp 8) := ares_one Try.results31 s
@[simp] theorem ares32 (s : AState) : ares Try.prog Try.f32 s = resV Try.prog s (.tmp 2) := ares_one Try.results32 s
@[simp] theorem ares33 (s : AState) : ares Try.prog Try.f33 s = resV Try.prog s (.tmp 2) := ares_one Try.results33 s
@[simp] theorem ares34 (s : AState) : ares Try.prog Try.f34 s = (resL Try.prog s [.tmp 4, .tmp 5, .cell 6 68]).map .tup := ares_many (rs := [.tmp 4, .tmp 5, .cell 6 68]) Try.results34 (by decide) s
@[simp] theorem ares35 (s : AState) : ares Try.prog Try.f35 s = (resL Try.prog s [.cell 6 27, .tmp 7]).map .tup := ares_many (rs := [.cell 6 27, .tmp 7]) Try.results35 (by decide) s
@[simp] theorem ares36 (s : AState) : ares Try.prog Try.f36 s = resV Try.prog s (.tmp 4) := ares_one Try.results36 s
@[simp] theorem ares37 (s : AState) : ares Try.prog Try.f37 s = resV Try.prog s (.tmp 8) := ares_one Try.results37 s
@[simp] theorem ares38 (s : AState) : ares Try.prog Try.f38 s = (resL Try.prog s [.cell 4 27, .tmp 5]).map .tup := ares_many (rs := [.cell 4 27, .tmp 5]) Try.results38 (by decide) s
@[simp] theorem ares39 (s : AState) : ares Try.prog Try.f39 s = resV Try.prog s (.tmp 4) := ares_one Try.results39 s
@[simp] theorem ares40 (s : AState) : ares Try.prog Try.f40 s = resV Try.prog s (.tmp 2) := ares_one Try.results40 s
@[simp] theorem ares41 (s : AState) : ares Try.prog Try.f41 s = resV Try.prog s (.tmp 6) := ares_one Try.results41 s
@[simp] theorem ares42 (s : AState) : ares Try.prog Try.f42 s = resV Try.prog s (.tmp 6) := ares_one Try.results42 s
@[simp] theorem ares43 (s : AState) : ares Try.prog Try.f43 s = resV Try.prog s (.tmp 2) := ares_one Try.results43 s
@[simp] theorem ares44 (s : AState) : ares Try.prog Try.f44 s = resV Try.prog s (.tmp 2) := ares_one Try.results44 s
@[simp] theorem ares45 (s : AState) : ares Try.prog Try.f45 s = (resL Try.prog s [.cell 10 27, .cell 11 38, .tmp 12]).map .tup := ares_many (rs := [.cell 10 27, .cell 11 38, .tmp 12]) Try.results45 (by decide) s
@[simp] theorem ares46 (s : AState) : ares Try.prog Try.f46 s = (resL Try.prog s [.tmp 6, .tmp 7]).map .tup := ares_many (rs := [.tmp 6, .tmp 7]) Try.results46 (by decide) s
@[simp] theorem ares47 (s : AState) : ares Try.prog Try.f47 s = resV Try.prog s (.tmp 4) := ares_one Try.results47 s
@[simp] theorem ares48 (s : AState) : ares Try.prog Try.f48 s = resV Try.prog s (.cell 2 27) := ares_one Try.results48 s
@[simp] theorem ares49 (s : AState) : ares Try.prog Try.f49 s = resV Try.prog s (.tmp 2) := ares_one Try.results49 s
@[simp] theorem ares50 (s : AState) : ares Try.prog Try.f50 s = (resL Try.prog s [.tmp 6, .tmp 7]).map .tup := ares_many (rs := [.tmp 6, .tmp 7]) Try.results50 (by decide) s
@[simp] theorem ares51 (s : AState) : ares Try.prog Try.f51 s = resV Try.prog s (.tmp 2) := ares_one Try.results51 s
@[simp] theorem ares52 (s : AState) : ares Try.prog Try.f52 s = resV Try.prog s (.tmp 4) := ares_one Try.results52 s
@[simp] theorem ares53 (s : AState) : ares Try.prog Try.f53 s = resV Try.prog s (.cell 2 68) := ares_one Try.results53 s
@[simp] theorem ares54 (s : AState) : ares Try.prog Try.f54 s = resV Try.prog s (.tmp 2) := ares_one Try.results54 s
@[simp] theorem ares55 (s : AState) : ares Try.prog Try.f55 s = resV Try.prog s (.tmp 6) := ares_one Try.results55 s
@[simp] theorem ares56 (s : AState) : ares Try.prog Try.f56 s = (resL Try.prog s [.tmp 6, .tmp 7, .tmp 8]).map .tup := ares_many (rs := [.tmp 6, .tmp 7, .tmp 8]) Try.results56 (by decide) s
@[simp] theorem ares57 (s : AState) : ares Try.prog Try.f57 s = (resL Try.prog s [.tmp 6, .tmp 7]).map .tup := ares_many (rs := [.tmp 6, .tmp 7]) Try.results57 (by decide) s
@[simp] theorem ares58 (s : AState) : ares Try.prog Try.f58 s = resV Try.prog s (.tmp 4) := ares_one Try.results58 s
@[simp] theorem ares59 (s : AState) : ares Try.prog Try.f59 s = resV Try.prog s (.tmp 4) := ares_one Try.results59 s
@[simp] theorem ares60 (s : AState) : ares Try.prog Try.f60 s = resV Try.prog s (.tmp 2) := ares_one Try.results60 s
@[simp] theorem ares61 (s : AState) : ares Try.prog Try.f61 s = resV Try.prog s (.tmp 3) := ares_one Try.results61 s
@[simp] theorem ares62 (s : AState) : ares Try.prog Try.f62 s = resV Try.prog s (.tmp 4) := ares_one Try.results62 s
@[simp] theorem ares63 (s : AState) : ares Try.prog Try.f63 s = resV Try.prog s (.tmp 2) := ares_one Try.results63 s
@[simp] theorem ares64 (s : AState) : ares Try.prog Try.f64 s = resV Try.prog s (.tmp 4) := ares_one Try.results64 s
@[simp] theorem ares65 (s : AState) : ares Try.prog Try.f65 s = (resL Try.prog s [.tmp 4, .tmp 5, .tmp 6]).map .tup := ares_many (rs := [.tmp 4, .tmp 5, .tmp 6]) Try.results65 (by decide) s
@[simp] theorem ares66 (s : AState) : ares Try.prog Try.f66 s = resV Try.prog s (.tmp 4) := ares_one Try.results66 s
@[simp] theorem ares67 (s : AState) : ares Try.prog Try.f67 s = (resL Try.prog s []).map .tup := ares_many (rs := []) Try.results67 (by decide) s
@[simp] theorem ares68 (s : AState) : ares Try.prog Try.f68 s = resV Try.prog s (.tmp 2) := ares_one Try.results68 s
@[simp] theorem ares69 (s : AState) : ares Try.prog Try.f69 s = resV Try.prog s (.tmp 4) := ares_one Try.results69 s
@[simp] theorem ares70 (s : AState) : ares Try.prog Try.f70 s = resV Try.prog s (.tmp 4) := ares_one Try.results70 s
@[simp] theorem ares71 (s : AState) : ares Try.prog Try.f71 s = resV Try.prog s (.tmp 4) := ares_one Try.results71 s
@[simp] theorem ares72 (s : AState) : ares Try.prog Try.f72 s = resV Try.prog s (.tmp 4) := ares_one Try.results72 s
@[simp] theorem ares73 (s : AState) : ares Try.prog Try.f73 s = resV Try.prog s (.tmp 2) := ares_one Try.results73 s
@[simp] theorem ares74 (s : AState) : ares Try.prog Try.f74 s = resV Try.prog s (.tmp 4) := ares_one Try.results74 s
@[simp] theorem ares75 (s : AState) : ares Try.prog Try.f75 s = resV Try.prog s (.tmp 2) := ares_one Try.results75 s
@[simp] theorem ares76 (s : AState) : ares Try.prog Try.f76 s = (resL Try.prog s []).map .tup := ares_many (rs := []) Try.results76 (by decide) s
@[simp] theorem ares77 (s : AState) : ares Try.prog Try.f77 s = resV Try.prog s (.tmp 0) := ares_one Try.results77 s
@[simp] theorem ares78 (s : AState) : ares Try.prog Try.f78 s = resV Try.prog s (.tmp 4) := ares_one Try.results78 s
@[simp] theorem ares79 (s : AState) : ares Try.prog Try.f79 s = resV Try.prog s (.tmp 4) := ares_one Try.results79 s
@[simp] theorem ares80 (s : AState) : ares Try.prog Try.f80 s = resV Try.prog s (.tmp 2) := ares_one Try.results80 s
@[simp] theorem ares81 (s : AState) : ares Try.prog Try.f81 s = (resL Try.prog s [.tmp 2, .tmp 3]).map .tup := ares_many (rs := [.tmp 2, .tmp 3]) Try.results81 (by decide) s
@[simp] theorem ares82 (s : AState) : ares Try.prog Try.f82 s = resV Try.prog s (.tmp 4) := ares_one Try.results82 s
@[simp] theorem ares83 (s : AState) : ares Try.prog Try.f83 s = resV Try.prog s (.tmp 2) := ares_one Try.results83 s
@[simp] theorem ares84 (s : AState) : ares Try.prog Try.f84 s = resV Try.prog s (.tmp 4) := ares_one Try.results84 s
@[simp] theorem ares85 (s : AState) : ares Try.prog Try.f85 s = resV Try.prog s (.tmp 2) := ares_one Try.results85 s
@[simp] theorem ares86 (s : AState) : ares Try.prog Try.f86 s = resV Try.prog s (.tmp 2) := ares_one Try.results86 s
@[simp] theorem ares87 (s : AState) : ares Try.prog Try.f87 s = resV Try.prog s (.tmp 4) := ares_one Try.results87 s
@[simp] theorem ares88 (s : AState) : ares Try.prog Try.f88 s = resV Try.prog s (.tmp 2) := ares_one Try.results88 s
@[simp] theorem ares89 (s : AState) : ares Try.prog Try.f89 s = resV Try.prog s (.tmp 2) := ares_one Try.results89 s
@[simp] theorem ares90 (s : AState) : ares Try.prog Try.f90 s = resV Try.prog s (.tmp 4) := ares_one Try.results90 s
@[simp] theorem ares91 (s : AState) : ares Try.prog Try.f91 s = resV Try.prog s (.tmp 4) := ares_one Try.results91 s
@[simp] theorem ares92 (s : AState) : ares Try.prog Try.f92 s = resV Try.prog s (.tmp 2) := ares_one Try.results92 s
@[simp] theorem ares93 (s : AState) : ares Try.prog Try.f93 s = (resL Try.prog s [.tmp 4, .tmp 5]).map .tup := ares_many (rs := [.tmp 4, .tmp 5]) Try.results93 (by decide) s
@[simp] theorem ares94 (s : AState) : ares Try.prog Try.f94 s = resV Try.prog s (.tmp 2) := ares_one Try.results94 s
@[simp] theorem ares95 (s : AState) : ares Try.prog Try.f95 s = (resL Try.prog s []).map .tup := ares_many (rs := []) Try.results95 (by decide) s
@[simp] theorem ares96 (s : AState) : ares Try.prog Try.f96 s = resV Try.prog s (.tmp 2) := ares_one Try.results96 s
@[simp] theorem ares97 (s : AState) : ares Try.prog Try.f97 s = (resL Try.prog s []).map .tup := ares_many (rs := []) Try.results97 (by decide) s
@[simp] theorem ares98 (s : AState) : ares Try.prog Try.f98 s = (resL Try.prog s []).map .tup := ares_many (rs := []) Try.results98 (by decide) s
@[simp] theorem ares99 (s : AState) : ares Try.prog Try.f99 s = (resL Try.prog s []).map .tup := ares_many (rs := []) Try.results99 (by decide) s
@[simp] theorem ares100 (s : AState) : ares Try.prog Try.f100 s = resV Try.prog s (.tmp 2) := ares_one Try.results100 s
@[simp] theorem ares101 (s : AState) : ares Try.prog Try.f101 s = resV Try.prog s (.tmp 2) := ares_one Try.results101 s
@[simp] theorem ares102 (s : AState) : ares Try.prog Try.f102 s = resV Try.prog s (.tmp 2) := ares_one Try.results102 s
@[simp] theorem ares103 (s : AState) : ares Try.prog Try.f103 s = resV Try.prog s (.tmp 2) := ares_one Try.results103 s
@[simp] theorem ares104 (s : AState) : ares Try.prog Try.f104 s = resV Try.prog s (.tmp 2) := ares_one Try.results104 s
@[simp] theorem ares105 (s : AState) : ares Try.prog Try.f105 s = (resL Try.prog s []).map .tup := ares_many (rs := []) Try.results105 (by decide) s
@[simp] theorem ares106 (s : AState) : ares Try.prog Try.f106 s = resV Try.prog s (.tmp 4) := ares_one Try.results106 s
@[simp] theorem ares107 (s : AState) : ares Try.prog Try.f107 s = (resL Try.prog s []).map .tup := ares_many (rs := []) Try.results107 (by decide) s
@[simp] theorem ares108 (s : AState) : ares Try.prog Try.f108 s = resV Try.prog s (.tmp 2) := ares_one Try.results108 s
@[simp] theorem ares109 (s : AState) : ares Try.prog Try.f109 s = (resL Try.prog s []).map .tup := ares_many (rs := []) Try.results109 (by decide) s
@[simp] theorem ares110 (s : AState) : ares Try.prog Try.f110 s = resV Try.prog s (.tmp 2) := ares_one Try.results110 s
@[simp] theorem ares111 (s : AState) : ares Try.prog Try.f111 s = (resL Try.prog s []).map .tup := ares_many (rs := []) Try.results111 (by decide) s
@[simp] theorem ares112 (s : AState) : ares Try.prog Try.f112 s = (resL Try.prog s []).map .tup := ares_many (rs := []) Try.results112 (by decide) s
@[simp] theorem ares113 (s : AState) : ares Try.prog Try.f113 s = (resL Try.prog s []).map .tup := ares_many (rs := []) Try.results113 (by decide) s
@[simp] theorem ares114 (s : AState) : ares Try.prog Try.f114 s = (resL Try.prog s []).map .tup := ares_many (rs := []) Try.results114 (by decide) s
@[simp] theorem ares115 (s : AState) : ares Try.prog Try.f115 s = (resL Try.prog s []).map .tup := ares_many (rs := []) Try.results115 (by decide) s
@[simp] theorem ares116 (s : AState) : ares Try.prog Try.f116 s = (resL Try.prog s []).map .tup := ares_many (rs := []) Try.results116 (by decide) s
@[simp] theorem ares117 (s : AState) : ares Try.prog Try.f117 s = (resL Try.prog s []).map .tup := ares_many (rs := []) Try.results117 (by decide) s
@[simp] theorem ares118 (s : AState) : ares Try.prog Try.f118 s = (resL Try.prog s []).map .tup := ares_many (rs := []) Try.results118 (by decide) s
@[simp] theorem ares119 (s : AState) : ares Try.prog Try.f119 s = (resL Try.prog s []).map .tup := ares_many (rs := []) Try.results119 (by decide) s
@[simp] theorem ares120 (s : AState) : ares Try.prog Try.f120 s = (resL Try.prog s [.tmp 6, .tmp 7]).map .tup := ares_many (rs := [.tmp 6, .tmp 7]) Try.results120 (by decide) s
@[simp] theorem ares121 (s : AState) : ares Try.prog Try.f121 s = resV Try.prog s (.tmp 6) := ares_one Try.results121 s
@[simp] theorem ares122 (s : AState) : ares Try.prog Try.f122 s = resV Try.prog s (.tmp 6) := ares_one Try.results122 s
@[simp] theorem ares123 (s : AState) : ares Try.prog Try.f123 s = resV Try.prog s (.tmp 4) := ares_one Try.results123 s
@[simp] theorem ares124 (s : AState) : ares Try.prog Try.f124 s = resV Try.prog s (.tmp 4) := ares_one Try.results124 s
@[simp] theorem ares125 (s : AState) : ares Try.prog Try.f125 s = resV Try.prog s (.tmp 3) := ares_one Try.results125 s
@[simp] theorem ares126 (s : AState) : ares Try.prog Try.f126 s = resV Try.prog s (.tmp 4) := ares_one Try.results126 s
@[simp] theorem ares127 (s : AState) : ares Try.prog Try.f127 s = resV Try.prog s (.tmp 4) := ares_one Try.results127 s
@[simp] theorem ares128 (s : AState) : ares Try.prog Try.f128 s = resV Try.prog s (.tmp 4) := ares_one Try.results128 s
@[simp] theorem ares129 (s : AState) : ares Try.prog Try.f129 s = resV Try.prog s (.tmp 2) := ares_one Try.results129 s
@[simp] theorem ares130 (s : AState) : ares Try.prog Try.f130 s = resV Try.prog s (.tmp 2) := ares_one Try.results130 s
@[simp] theorem ares131 (s : AState) : ares Try.prog Try.f131 s = resV Try.prog s (.tmp 4) := ares_one Try.results131 s
@[simp] theorem ares132 (s : AState) : ares Try.prog Try.f132 s = resV Try.prog s (.tmp 4) := ares_one Try.results132 s
@[simp] theorem ares133 (s : AState) : ares Try.prog Try.f133 s = resV Try.prog s (.tmp 4) := ares_one Try.results133 s
@[simp] theorem ares134 (s : AState) : ares Try.prog Try.f134 s = resV Try.prog s (.tmp 2) := ares_one Try.results134 s
@[simp] theorem ares135 (s : AState) : ares Try.prog Try.f135 s = (resL Try.prog s []).map .tup := ares_many (rs := []) Try.results135 (by decide) s
@[simp] theorem ares136 (s : AState) : ares Try.prog Try.f136 s = (resL Try.prog s []).map .tup := ares_many (rs := []) Try.results136 (by decide) s
@[simp] theorem ares137 (s : AState) : ares Try.prog Try.f137 s = (resL Try.prog s []).map .tup := ares_many (rs := []) Try.results137 (by decide) s
@[simp] theorem ares138 (s : AState) : ares Try.prog Try.f138 s = resV Try.prog s (.tmp 4) := ares_one Try.results138 s
@[simp] theorem ares139 (s : AState) : ares Try.prog Try.f139 s = (resL Try.prog s [.tmp 6, .tmp 7]).map .tup := ares_many (rs := [.tmp 6, .tmp 7]) Try.results139 (by decide) s
@[simp] theorem ares140 (s : AState) : ares Try.prog Try.f140 s = (resL Try.prog s [.tmp 2, .tmp 3]).map .tup := ares_many (rs := [.tmp 2, .tmp 3]) Try.results140 (by decide) s
@[simp] theorem ares141 (s : AState) : ares Try.prog Try.f141 s = resV Try.prog s (.tmp 2) := ares_one Try.results141 s
@[simp] theorem ares142 (s : AState) : ares Try.prog Try.f142 s = (resL Try.prog s [.tmp 4, .tmp 5]).map .tup := ares_many (rs := [.tmp 4, .tmp 5]) Try.results142 (by decide) s
@[simp] theorem ares143 (s : AState) : ares Try.prog Try.f143 s = (resL Try.prog s [.tmp 4, .tmp 5]).map .tup := ares_many (rs := [.tmp 4, .tmp 5]) Try.results143 (by decide) s
@[simp] theorem ares144 (s : AState) : ares Try.prog Try.f144 s = resV Try.prog s (.tmp 4) := ares_one Try.results144 s
@[simp] theorem ares145 (s : AState) : ares Try.prog Try.f145 s = resV Try.prog s (.tmp 4) := ares_one Try.results145 s
@[simp] theorem ares146 (s : AState) : ares Try.prog Try.f146 s = resV Try.prog s (.tmp 4) := ares_one Try.results146 s
@[simp] theorem ares147 (s : AState) : ares Try.prog Try.f147 s = (resL Try.prog s [.tmp 4, .tmp 5]).map .tup := ares_many (rs := [.tmp 4, .tmp 5]) Try.results147 (by decide) s
@[simp] theorem ares148 (s : AState) : ares Try.prog Try.f148 s = (resL Try.prog s [.tmp 4, .tmp 5]).map .tup := ares_many (rs := [.tmp 4, .tmp 5]) Try.results148 (by decide) s
@[simp] theorem ares149 (s : AState) : ares Try.prog Try.f149 s = (resL Try.prog s [.tmp 4, .tmp 5]).map .tup := ares_many (rs := [.tmp 4, .tmp 5]) Try.results149 (by decide) s
attribute [simp] Try.underlying0 Try.underlying1 Try.underlying2 Try.underlying3 Try.underlying4 Try.underlying5 Try.underlying6 Try.underlying7 Try.underlying8 Try.underlying9 Try.underlying10 Try.underlying11 Try.underlying12 Try.underlying13 Try.underlying14 Try.underlying15 Try.underlying16 Try.underlying17 Try.underlying18 Try.underlying19 Try.underlying20 Try.underlying21 Try.underlying22 Try.underlying23 Try.underlying24 Try.underlying25 Try.underlying26 Try.underlying27 Try.underlying28 Try.underlying29 Try.underlying30 Try.underlying31 Try.underlying32 Try.underlying33 Try.underlying34 Try.underlying35 Try.underlying36 Try.underlying37 Try.underlying38 Try.underlying39 Try.underlying40 Try.underlying41 Try.underlying42 Try.underlying43 Try.underlying44 Try.underlying45 Try.underlying46 Try.underlying47 Try.underlying48 Try.underlying49 Try.underlying50 Try.underlying51 Try.underlying52 Try.underlying53 Try.underlying54 Try.underlying55 Try.underlying56 Try.underlying57 Try.underlying58 Try.underlying59 Try.underlying60 Try.underlying61 Try.underlying62 Try.underlying63 Try.underlying64 Try.underlying65 Try.underlying66 Try.underlying67 Try.underlying68 Try.underlying69 Try.underlying70 Try.underlying71 Try.underlying72 Try.underlying73 Try.underlying74 Try.underlying75 Try.underlying76 Try.underlying77 Try.underlying78 Try.underlying79 Try.underlying80 Try.underlying81 Try.underlying82 Try.underlying83 Try.underlying84 Try.underlying85 Try.underlying86 Try.underlying87 Try.underlying88 Try.underlying89 Try.underlying90 Try.underlying91 Try.underlying92 Try.underlying93 Try.underlying94 Try.underlying95 Try.underlying96 Try.underlying97 Try.underlying98 Try.underlying99 Try.underlying100 Try.underlying101 Try.underlying102 Try.underlying103 Try.underlying104 Try.underlying105 Try.underlying106 Try.underlying107 Try.underlying108 Try.underlying109 Try.underlying110 Try.underlying111 Try.underlying112 Try.underlying113 Try.underlying114 Try.underlying115 Try.underlying116 Try.underlying117 Try.underlying118 Try.underlying119 Try.underlying120 Try.underlying121 Try.underlying122 Try.underlying123 Try.underlying124 Try.underlying125 Try.underlying126 Try.underlying127 Try.underlying128 Try.underlying129 Try.underlying130 Try.underlying131 Try.underlying132 Try.underlying133 Try.underlying134 Try.underlying135 Try.underlying136 Try.underlying137 Try.underlying138 Try.underlying139 Try.underlying140 Try.underlying141 Try.underlying142 Try.underlying143 Try.underlying144 Try.underlying145 Try.underlying146 Try.underlying147 Try.underlying148 Try.underlying149 Try.underlying150 Try.underlying151 Try.underlying152 Try.underlying153 Try.underlying154 Try.underlying155 Try.underlying156 Try.underlying157 Try.underlying158 Try.underlying159 Try.underlying160 Try.underlying161 Try.underlying162 Try.underlying163 Try.underlying164 Try.underlying165 Try.underlying166 Try.underlying167 Try.underlying168 Try.underlying169 Try.underlying170 Try.underlying171 Try.underlying172 Try.underlying173 Try.underlying174 Try.underlying175 Try.underlying176 Try.underlying177 Try.underlying178 Try.underlying179 Try.underlying180 Try.underlying181 Try.underlying182 Try.underlying183 Try.underlying184 Try.underlying185 Try.underlying186 Try.underlying187 Try.underlying188 Try.underlying189 Try.underlying190 Try.underlying191 Try.underlying192 Try.underlying193 Try.underlying194
theorem mixed : Try.prog.follows .mixedOrders = true := by kernel_rfl
end Go.Proofs.Ytkhoelmbcmkhjaa
