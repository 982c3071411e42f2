/- Facts on the program's types, printed by ty.py. Plain laws on numbers: or, xor, a product by binary digits, quotients by size and sign. No program in sight. Functions on numbers. DERIVED: THE SHELF's CONTRACTS AT THIS DUMP, IN PLAIN WORDS (tools/lay-plain.mjs out of 'YtbomkomipaipmaaGreatSo.lean', which tools/lay-shelf.mjs wrote): THE SAME DECLARATIONS UNDER THE SAME NAMES: 'import', 'namespace', 'open', 'def', 'theorem' AND NOTHING ELSE: no command of the shelf's: FOR A HAND-IN. Each laying: the table of numbers ('.._ren') and one theorem, a field a fact of the dump's own or the kernel's comparison; each contract: ONE APPLICATION. slices.Sort on a row of ints of one's own: by the library's contract. proc: a table's clauses, messages, states. Lists of numbers: what is general. Layer 12 (pids): the table. -/
import Derived.Shelf.SlGeneric
import Derived.Shelf.SortM.SortNone
import Derived.Shelf.SortM.Plain
import Derived.Ground.SlgmProg
import Derived.Test.YtbomkomipaipmaaGreatProg
import Derived.Test.YtbomkomipaipmaaGreatVc
namespace Go.Proofs.YtbomkomipaipmaaGreat
@[simp] theorem sh2 : tsh Tryz.prog 2 = some (.false, 1) := by kernel_rfl
@[simp] theorem zero2 : tzero Tryz.prog 2 = some [.int .i64 0] := by kernel_rfl
@[simp] theorem size2 : tsize Tryz.prog 2 = some 1 := by kernel_rfl
@[simp] theorem bytes2 : tbytes Tryz.prog 2 = some 8 := by kernel_rfl
@[simp] theorem sh3 : tsh Tryz.prog 3 = some (.false, 1) := by kernel_rfl
@[simp] theorem zero3 : tzero Tryz.prog 3 = some [.int .i64 0] := by kernel_rfl
@[simp] theorem size3 : tsize Tryz.prog 3 = some 1 := by kernel_rfl
@[simp] theorem int3 : tint Tryz.prog 3 = some .i64 := by kernel_rfl
@[simp] theorem sh4 : tsh Tryz.prog 4 = some (.false, 1) := by kernel_rfl
@[simp] theorem size4 : tsize Tryz.prog 4 = some 1 := by kernel_rfl
@[simp] theorem sh22 : tsh Tryz.prog 22 = some (.false, 1) := by kernel_rfl
@[simp] theorem elem22 : telem Tryz.prog 22 = some 73 := by kernel_rfl
@[simp] theorem sh24 : tsh Tryz.prog 24 = some (.true, 1) := by kernel_rfl
@[simp] theorem zero24 : tzero Tryz.prog 24 = some [.nils] := by kernel_rfl
@[simp] theorem arr24 : tarr Tryz.prog 24 = none := by kernel_rfl
@[simp] theorem size24 : tsize Tryz.prog 24 = some 1 := by kernel_rfl
@[simp] theorem places24 : tplaces Tryz.prog 24 = some [(0, 1)] := by kernel_rfl
@[simp] theorem fld24_0 : tfld Tryz.prog 24 0 = some (0, (22, 1)) := by kernel_rfl
@[simp] theorem elem25 : telem Tryz.prog 25 = some 38 := by kernel_rfl
@[simp] theorem sh29 : tsh Tryz.prog 29 = some (.false, 1) := by kernel_rfl
@[simp] theorem size29 : tsize Tryz.prog 29 = some 1 := by kernel_rfl
@[simp] theorem sh31 : tsh Tryz.prog 31 = some (.true, 3) := by kernel_rfl
@[simp] theorem zero31 : tzero Tryz.prog 31 = some [.int .i64 0, .int .i64 0, .int .i64 0] := by kernel_rfl
@[simp] theorem arr31 : tarr Tryz.prog 31 = none := by kernel_rfl
@[simp] theorem size31 : tsize Tryz.prog 31 = some 3 := by kernel_rfl
@[simp] theorem places31 : tplaces Tryz.prog 31 = some [(0, 1), (1, 1), (2, 1)] := by kernel_rfl
@[simp] theorem fld31_0 : tfld Tryz.prog 31 0 = some (0, (29, 1)) := by kernel_rfl
@[simp] theorem sh34 : tsh Tryz.prog 34 = some (.false, 1) := by kernel_rfl
@[simp] theorem zero34 : tzero Tryz.prog 34 = some [.nils] := by kernel_rfl
@[simp] theorem elem34 : telem Tryz.prog 34 = some 2 := by kernel_rfl
@[simp] theorem size34 : tsize Tryz.prog 34 = some 1 := by kernel_rfl
@[simp] theorem sh38 : tsh Tryz.prog 38 = some (.true, 3) := by kernel_rfl
@[simp] theorem size38 : tsize Tryz.prog 38 = some 3 := by kernel_rfl
@[simp] theorem fld38_0 : tfld Tryz.prog 38 0 = some (0, (4, 1)) := by kernel_rfl
@[simp] theorem fld38_1 : tfld Tryz.prog 38 1 = some (1, (4, 1)) := by kernel_rfl
@[simp] theorem fld38_2 : tfld Tryz.prog 38 2 = some (2, (2, 1)) := by kernel_rfl
@[simp] theorem elem45 : telem Tryz.prog 45 = some 50 := by kernel_rfl
@[simp] theorem sh48 : tsh Tryz.prog 48 = some (.true, 2) := by kernel_rfl
@[simp] theorem zero48 : tzero Tryz.prog 48 = some [.int .i64 0, .int .i64 0] := by kernel_rfl
@[simp] theorem arr48 : tarr Tryz.prog 48 = none := by kernel_rfl
@[simp] theorem size48 : tsize Tryz.prog 48 = some 2 := by kernel_rfl
@[simp] theorem places48 : tplaces Tryz.prog 48 = some [(0, 1), (1, 1)] := by kernel_rfl
@[simp] theorem fld48_0 : tfld Tryz.prog 48 0 = some (0, (3, 1)) := by kernel_rfl
@[simp] theorem sh50 : tsh Tryz.prog 50 = some (.true, 7) := by kernel_rfl
@[simp] theorem zero50 : tzero Tryz.prog 50 = some [.int .i64 0, .int .i64 0, .int .i64 0, .bool .false, .int .i64 0, .int .i64 0, .nils] := by kernel_rfl
@[simp] theorem arr50 : tarr Tryz.prog 50 = none := by kernel_rfl
@[simp] theorem size50 : tsize Tryz.prog 50 = some 7 := by kernel_rfl
@[simp] theorem bytes50 : tbytes Tryz.prog 50 = some 72 := by kernel_rfl
@[simp] theorem places50 : tplaces Tryz.prog 50 = some [(0, 1), (1, 1), (2, 1), (3, 1), (4, 2), (6, 1)] := by kernel_rfl
@[simp] theorem fld50_0 : tfld Tryz.prog 50 0 = some (0, (2, 1)) := by kernel_rfl
@[simp] theorem fld50_1 : tfld Tryz.prog 50 1 = some (1, (2, 1)) := by kernel_rfl
@[simp] theorem fld50_2 : tfld Tryz.prog 50 2 = some (2, (3, 1)) := by kernel_rfl
@[simp] theorem fld50_3 : tfld Tryz.prog 50 3 = some (3, (4, 1)) := by kernel_rfl
@[simp] theorem fld50_4 : tfld Tryz.prog 50 4 = some (4, (48, 2)) := by kernel_rfl
@[simp] theorem fld50_5 : tfld Tryz.prog 50 5 = some (6, (34, 1)) := by kernel_rfl
@[simp] theorem sh53 : tsh Tryz.prog 53 = some (.true, 6) := by kernel_rfl
@[simp] theorem zero53 : tzero Tryz.prog 53 = some [.int .i64 0, .int .i64 0, .nils, .nils, .bool .false, .int .i64 0] := by kernel_rfl
@[simp] theorem arr53 : tarr Tryz.prog 53 = none := by kernel_rfl
@[simp] theorem size53 : tsize Tryz.prog 53 = some 6 := by kernel_rfl
@[simp] theorem places53 : tplaces Tryz.prog 53 = some [(0, 1), (1, 1), (2, 1), (3, 1), (4, 1), (5, 1)] := by kernel_rfl
@[simp] theorem fld53_0 : tfld Tryz.prog 53 0 = some (0, (3, 1)) := by kernel_rfl
@[simp] theorem fld53_1 : tfld Tryz.prog 53 1 = some (1, (3, 1)) := by kernel_rfl
@[simp] theorem fld53_2 : tfld Tryz.prog 53 2 = some (2, (34, 1)) := by kernel_rfl
@[simp] theorem fld53_3 : tfld Tryz.prog 53 3 = some (3, (34, 1)) := by kernel_rfl
@[simp] theorem fld53_4 : tfld Tryz.prog 53 4 = some (4, (4, 1)) := by kernel_rfl
@[simp] theorem fld53_5 : tfld Tryz.prog 53 5 = some (5, (2, 1)) := by kernel_rfl
@[simp] theorem sh54 : tsh Tryz.prog 54 = some (.false, 1) := by kernel_rfl
@[simp] theorem zero54 : tzero Tryz.prog 54 = some [.nils] := by kernel_rfl
@[simp] theorem elem54 : telem Tryz.prog 54 = some 103 := by kernel_rfl
@[simp] theorem size54 : tsize Tryz.prog 54 = some 1 := by kernel_rfl
@[simp] theorem sh69 : tsh Tryz.prog 69 = some (.false, 1) := by kernel_rfl
@[simp] theorem zero69 : tzero Tryz.prog 69 = some [.nils] := by kernel_rfl
@[simp] theorem elem69 : telem Tryz.prog 69 = some 164 := by kernel_rfl
@[simp] theorem size69 : tsize Tryz.prog 69 = some 1 := by kernel_rfl
@[simp] theorem bytes69 : tbytes Tryz.prog 69 = some 24 := by kernel_rfl
@[simp] theorem sh70 : tsh Tryz.prog 70 = some (.false, 1) := by kernel_rfl
@[simp] theorem elem70 : telem Tryz.prog 70 = some 75 := by kernel_rfl
@[simp] theorem size70 : tsize Tryz.prog 70 = some 1 := by kernel_rfl
@[simp] theorem sh71 : tsh Tryz.prog 71 = some (.false, 1) := by kernel_rfl
@[simp] theorem elem71 : telem Tryz.prog 71 = some 145 := by kernel_rfl
@[simp] theorem size71 : tsize Tryz.prog 71 = some 1 := by kernel_rfl
@[simp] theorem sh73 : tsh Tryz.prog 73 = some (.true, 5) := by kernel_rfl
@[simp] theorem zero73 : tzero Tryz.prog 73 = some [.nils, .nils, .nils, .nils, .nils] := by kernel_rfl
@[simp] theorem arr73 : tarr Tryz.prog 73 = none := by kernel_rfl
@[simp] theorem size73 : tsize Tryz.prog 73 = some 5 := by kernel_rfl
@[simp] theorem bytes73 : tbytes Tryz.prog 73 = some 120 := by kernel_rfl
@[simp] theorem places73 : tplaces Tryz.prog 73 = some [(0, 1), (1, 1), (2, 1), (3, 1), (4, 1)] := by kernel_rfl
@[simp] theorem fld73_0 : tfld Tryz.prog 73 0 = some (0, (69, 1)) := by kernel_rfl
@[simp] theorem fld73_1 : tfld Tryz.prog 73 1 = some (1, (69, 1)) := by kernel_rfl
@[simp] theorem fld73_2 : tfld Tryz.prog 73 2 = some (2, (69, 1)) := by kernel_rfl
@[simp] theorem fld73_3 : tfld Tryz.prog 73 3 = some (3, (70, 1)) := by kernel_rfl
@[simp] theorem fld73_4 : tfld Tryz.prog 73 4 = some (4, (71, 1)) := by kernel_rfl
@[simp] theorem sh75 : tsh Tryz.prog 75 = some (.true, 2) := by kernel_rfl
@[simp] theorem zero75 : tzero Tryz.prog 75 = some [.int .i64 0, .int .i64 0] := by kernel_rfl
@[simp] theorem arr75 : tarr Tryz.prog 75 = none := by kernel_rfl
@[simp] theorem size75 : tsize Tryz.prog 75 = some 2 := by kernel_rfl
@[simp] theorem bytes75 : tbytes Tryz.prog 75 = some 16 := by kernel_rfl
@[simp] theorem places75 : tplaces Tryz.prog 75 = some [(0, 1), (1, 1)] := by kernel_rfl
@[simp] theorem fld75_0 : tfld Tryz.prog 75 0 = some (0, (3, 1)) := by kernel_rfl
@[simp] theorem fld75_1 : tfld Tryz.prog 75 1 = some (1, (2, 1)) := by kernel_rfl
@[simp] theorem int78 : tint Tryz.prog 78 = some .u64 := by kernel_rfl
@[simp] theorem sh83 : tsh Tryz.prog 83 = some (.false, 1) := by kernel_rfl
@[simp] theorem size83 : tsize Tryz.prog 83 = some 1 := by kernel_rfl
@[simp] theorem sh85 : tsh Tryz.prog 85 = some (.false, 1) := by kernel_rfl
@[simp] theorem sh87 : tsh Tryz.prog 87 = some (.false, 1) := by kernel_rfl
@[simp] theorem sh88 : tsh Tryz.prog 88 = some (.false, 1) := by kernel_rfl
@[simp] theorem elem88 : telem Tryz.prog 88 = some 98 := by kernel_rfl
@[simp] theorem size88 : tsize Tryz.prog 88 = some 1 := by kernel_rfl
@[simp] theorem zero90 : tzero Tryz.prog 90 = some [.nils, .int .i64 0, .nilp, .nilp, .nils, .nilm] := by kernel_rfl
@[simp] theorem arr90 : tarr Tryz.prog 90 = none := by kernel_rfl
@[simp] theorem size90 : tsize Tryz.prog 90 = some 6 := by kernel_rfl
@[simp] theorem places90 : tplaces Tryz.prog 90 = some [(0, 1), (1, 1), (2, 1), (3, 1), (4, 1), (5, 1)] := by kernel_rfl
@[simp] theorem fld90_0 : tfld Tryz.prog 90 0 = some (0, (24, 1)) := by kernel_rfl
@[simp] theorem fld90_1 : tfld Tryz.prog 90 1 = some (1, (2, 1)) := by kernel_rfl
@[simp] theorem fld90_2 : tfld Tryz.prog 90 2 = some (2, (83, 1)) := by kernel_rfl
@[simp] theorem fld90_3 : tfld Tryz.prog 90 3 = some (3, (85, 1)) := by kernel_rfl
@[simp] theorem fld90_4 : tfld Tryz.prog 90 4 = some (4, (88, 1)) := by kernel_rfl
@[simp] theorem fld90_5 : tfld Tryz.prog 90 5 = some (5, (87, 1)) := by kernel_rfl
@[simp] theorem sh98 : tsh Tryz.prog 98 = some (.false, 1) := by kernel_rfl
@[simp] theorem zero98 : tzero Tryz.prog 98 = some [.nilp] := by kernel_rfl
@[simp] theorem size98 : tsize Tryz.prog 98 = some 1 := by kernel_rfl
@[simp] theorem bytes98 : tbytes Tryz.prog 98 = some 8 := by kernel_rfl
@[simp] theorem int101 : tint Tryz.prog 101 = some .u64 := by kernel_rfl
@[simp] theorem sh103 : tsh Tryz.prog 103 = some (.true, 2) := by kernel_rfl
@[simp] theorem zero103 : tzero Tryz.prog 103 = some [.int .i64 0, .int .i64 0] := by kernel_rfl
@[simp] theorem arr103 : tarr Tryz.prog 103 = none := by kernel_rfl
@[simp] theorem size103 : tsize Tryz.prog 103 = some 2 := by kernel_rfl
@[simp] theorem bytes103 : tbytes Tryz.prog 103 = some 16 := by kernel_rfl
@[simp] theorem places103 : tplaces Tryz.prog 103 = some [(0, 1), (1, 1)] := by kernel_rfl
@[simp] theorem fld103_0 : tfld Tryz.prog 103 0 = some (0, (3, 1)) := by kernel_rfl
@[simp] theorem fld103_1 : tfld Tryz.prog 103 1 = some (1, (2, 1)) := by kernel_rfl
@[simp] theorem sh105 : tsh Tryz.prog 105 = some (.true, 10) := by kernel_rfl
@[simp] theorem zero105 : tzero Tryz.prog 105 = some [.int .i64 0, .int .i64 0, .int .i64 0, .int .i64 0, .int .i64 0, .nils, .int .i64 0, .int .i64 0, .int .i64 0, .int .i64 0] := by kernel_rfl
@[simp] theorem arr105 : tarr Tryz.prog 105 = none := by kernel_rfl
@[simp] theorem size105 : tsize Tryz.prog 105 = some 10 := by kernel_rfl
@[simp] theorem places105 : tplaces Tryz.prog 105 = some [(0, 1), (1, 1), (2, 2), (4, 1), (5, 1), (6, 1), (7, 2), (9, 1)] := by kernel_rfl
@[simp] theorem fld105_0 : tfld Tryz.prog 105 0 = some (0, (3, 1)) := by kernel_rfl
@[simp] theorem fld105_1 : tfld Tryz.prog 105 1 = some (1, (2, 1)) := by kernel_rfl
@[simp] theorem fld105_2 : tfld Tryz.prog 105 2 = some (2, (103, 2)) := by kernel_rfl
@[simp] theorem fld105_3 : tfld Tryz.prog 105 3 = some (4, (3, 1)) := by kernel_rfl
@[simp] theorem fld105_4 : tfld Tryz.prog 105 4 = some (5, (34, 1)) := by kernel_rfl
@[simp] theorem fld105_5 : tfld Tryz.prog 105 5 = some (6, (2, 1)) := by kernel_rfl
@[simp] theorem fld105_6 : tfld Tryz.prog 105 6 = some (7, (48, 2)) := by kernel_rfl
@[simp] theorem fld105_7 : tfld Tryz.prog 105 7 = some (9, (3, 1)) := by kernel_rfl
@[simp] theorem sh108 : tsh Tryz.prog 108 = some (.false, 1) := by kernel_rfl
@[simp] theorem size108 : tsize Tryz.prog 108 = some 1 := by kernel_rfl
@[simp] theorem zero110 : tzero Tryz.prog 110 = some [.int .i64 0, .int .i64 0, .int .i64 0, .bool .false, .int .i64 0, .int .i64 0, .nils, .int .i64 0, .int .i64 0, .nils, .nils, .bool .false, .int .i64 0, .nilp] := by kernel_rfl
@[simp] theorem arr110 : tarr Tryz.prog 110 = none := by kernel_rfl
@[simp] theorem size110 : tsize Tryz.prog 110 = some 14 := by kernel_rfl
@[simp] theorem places110 : tplaces Tryz.prog 110 = some [(0, 7), (7, 6), (13, 1)] := by kernel_rfl
@[simp] theorem fld110_0 : tfld Tryz.prog 110 0 = some (0, (50, 7)) := by kernel_rfl
@[simp] theorem fld110_1 : tfld Tryz.prog 110 1 = some (7, (53, 6)) := by kernel_rfl
@[simp] theorem fld110_2 : tfld Tryz.prog 110 2 = some (13, (108, 1)) := by kernel_rfl
@[simp] theorem sh143 : tsh Tryz.prog 143 = some (.false, 1) := by kernel_rfl
@[simp] theorem elem143 : telem Tryz.prog 143 = some 147 := by kernel_rfl
@[simp] theorem size143 : tsize Tryz.prog 143 = some 1 := by kernel_rfl
@[simp] theorem sh145 : tsh Tryz.prog 145 = some (.true, 2) := by kernel_rfl
@[simp] theorem zero145 : tzero Tryz.prog 145 = some [.nils, .int .i64 0] := by kernel_rfl
@[simp] theorem size145 : tsize Tryz.prog 145 = some 2 := by kernel_rfl
@[simp] theorem bytes145 : tbytes Tryz.prog 145 = some 32 := by kernel_rfl
@[simp] theorem fld145_0 : tfld Tryz.prog 145 0 = some (0, (143, 1)) := by kernel_rfl
@[simp] theorem fld145_1 : tfld Tryz.prog 145 1 = some (1, (3, 1)) := by kernel_rfl
@[simp] theorem sh147 : tsh Tryz.prog 147 = some (.true, 2) := by kernel_rfl
@[simp] theorem zero147 : tzero Tryz.prog 147 = some [.int .i64 0, .int .i64 0] := by kernel_rfl
@[simp] theorem size147 : tsize Tryz.prog 147 = some 2 := by kernel_rfl
@[simp] theorem bytes147 : tbytes Tryz.prog 147 = some 16 := by kernel_rfl
@[simp] theorem fld147_0 : tfld Tryz.prog 147 0 = some (0, (3, 1)) := by kernel_rfl
@[simp] theorem fld147_1 : tfld Tryz.prog 147 1 = some (1, (3, 1)) := by kernel_rfl
@[simp] theorem sh164 : tsh Tryz.prog 164 = some (.false, 1) := by kernel_rfl
@[simp] theorem zero164 : tzero Tryz.prog 164 = some [.int .i64 0] := by kernel_rfl
@[simp] theorem size164 : tsize Tryz.prog 164 = some 1 := by kernel_rfl
@[simp] theorem bytes164 : tbytes Tryz.prog 164 = some 8 := by kernel_rfl
@[simp] theorem sh169 : tsh Tryz.prog 169 = some (.true, 2) := by kernel_rfl
@[simp] theorem zero169 : tzero Tryz.prog 169 = some [.int .i64 0, .bool .false] := by kernel_rfl
@[simp] theorem size169 : tsize Tryz.prog 169 = some 2 := by kernel_rfl
@[simp] theorem fld169_0 : tfld Tryz.prog 169 0 = some (0, (2, 1)) := by kernel_rfl
@[simp] theorem fld169_1 : tfld Tryz.prog 169 1 = some (1, (4, 1)) := by kernel_rfl
@[simp] theorem sh170 : tsh Tryz.prog 170 = some (.true, 64) := by kernel_rfl
@[simp] theorem elem170 : telem Tryz.prog 170 = none := by kernel_rfl
@[simp] theorem arr170 : tarr Tryz.prog 170 = some (32, 169) := by kernel_rfl
@[simp] theorem arr172 : tarr Tryz.prog 172 = none := by kernel_rfl
@[simp] theorem size172 : tsize Tryz.prog 172 = some 65 := by kernel_rfl
@[simp] theorem places172 : tplaces Tryz.prog 172 = some [(0, 64), (64, 1)] := by kernel_rfl
@[simp] theorem fld172_0 : tfld Tryz.prog 172 0 = some (0, (170, 64)) := by kernel_rfl
@[simp] theorem fld172_1 : tfld Tryz.prog 172 1 = some (64, (3, 1)) := by kernel_rfl
@[simp] theorem sh173 : tsh Tryz.prog 173 = some (.false, 1) := by kernel_rfl
@[simp] theorem zero175 : tzero Tryz.prog 175 = some [.nilm] := by kernel_rfl
@[simp] theorem arr175 : tarr Tryz.prog 175 = none := by kernel_rfl
@[simp] theorem size175 : tsize Tryz.prog 175 = some 1 := by kernel_rfl
@[simp] theorem places175 : tplaces Tryz.prog 175 = some [(0, 1)] := by kernel_rfl
@[simp] theorem fld175_0 : tfld Tryz.prog 175 0 = some (0, (173, 1)) := by kernel_rfl
@[simp] theorem zero188 : tzero Tryz.prog 188 = some [.nils, .nils, .nils, .nils, .nils, .nils, .int .i64 0, .int .i64 0, .int .i64 0, .int .i64 0, .nils, .int .i64 0, .int .i64 0, .nils, .nils, .bool .false, .int .i64 0, .int .i64 0, .int .i64 0, .int .i64 0, .int .i64 0, .int .i64 0, .nils, .int .i64 0, .int .i64 0, .int .i64 0, .int .i64 0, .int .i64 0] := by kernel_rfl
@[simp] theorem arr188 : tarr Tryz.prog 188 = none := by kernel_rfl
@[simp] theorem size188 : tsize Tryz.prog 188 = some 28 := by kernel_rfl
@[simp] theorem places188 : tplaces Tryz.prog 188 = some [(0, 1), (1, 5), (6, 2), (8, 1), (9, 1), (10, 1), (11, 6), (17, 10), (27, 1)] := by kernel_rfl
@[simp] theorem fld188_0 : tfld Tryz.prog 188 0 = some (0, (24, 1)) := by kernel_rfl
@[simp] theorem fld188_1 : tfld Tryz.prog 188 1 = some (1, (73, 5)) := by kernel_rfl
@[simp] theorem fld188_2 : tfld Tryz.prog 188 2 = some (6, (75, 2)) := by kernel_rfl
@[simp] theorem fld188_3 : tfld Tryz.prog 188 3 = some (8, (2, 1)) := by kernel_rfl
@[simp] theorem fld188_4 : tfld Tryz.prog 188 4 = some (9, (2, 1)) := by kernel_rfl
@[simp] theorem fld188_5 : tfld Tryz.prog 188 5 = some (10, (54, 1)) := by kernel_rfl
@[simp] theorem fld188_6 : tfld Tryz.prog 188 6 = some (11, (53, 6)) := by kernel_rfl
@[simp] theorem fld188_7 : tfld Tryz.prog 188 7 = some (17, (105, 10)) := by kernel_rfl
@[simp] theorem fld188_8 : tfld Tryz.prog 188 8 = some (27, (29, 1)) := by kernel_rfl
@[simp] theorem zero196 : tzero Tryz.prog 196 = some [.nils] := by kernel_rfl
@[simp] theorem arr196 : tarr Tryz.prog 196 = none := by kernel_rfl
@[simp] theorem size196 : tsize Tryz.prog 196 = some 1 := by kernel_rfl
@[simp] theorem places196 : tplaces Tryz.prog 196 = some [(0, 1)] := by kernel_rfl
@[simp] theorem fld196_0 : tfld Tryz.prog 196 0 = some (0, (54, 1)) := by kernel_rfl
@[simp] theorem sh199 : tsh Tryz.prog 199 = some (.false, 1) := by kernel_rfl
@[simp] theorem elem199 : telem Tryz.prog 199 = some 69 := by kernel_rfl
@[simp] theorem size199 : tsize Tryz.prog 199 = some 1 := by kernel_rfl
@[simp] theorem elem200 : telem Tryz.prog 200 = some 4 := by kernel_rfl
@[simp] theorem elem229 : telem Tryz.prog 229 = none := by kernel_rfl
@[simp] theorem arr229 : tarr Tryz.prog 229 = some (200, 4) := by kernel_rfl
@[simp] theorem arr231 : tarr Tryz.prog 231 = none := by kernel_rfl
@[simp] theorem size231 : tsize Tryz.prog 231 = some 408 := by kernel_rfl
@[simp] theorem places231 : tplaces Tryz.prog 231 = some [(0, 1), (1, 1), (2, 5), (7, 1), (8, 200), (208, 200)] := by kernel_rfl
@[simp] theorem fld231_0 : tfld Tryz.prog 231 0 = some (0, (24, 1)) := by kernel_rfl
@[simp] theorem fld231_1 : tfld Tryz.prog 231 1 = some (1, (3, 1)) := by kernel_rfl
@[simp] theorem fld231_2 : tfld Tryz.prog 231 2 = some (2, (73, 5)) := by kernel_rfl
@[simp] theorem fld231_3 : tfld Tryz.prog 231 3 = some (7, (199, 1)) := by kernel_rfl
@[simp] theorem fld231_4 : tfld Tryz.prog 231 4 = some (8, (229, 200)) := by kernel_rfl
@[simp] theorem fld231_5 : tfld Tryz.prog 231 5 = some (208, (229, 200)) := by kernel_rfl
@[simp] theorem sh289 : tsh Tryz.prog 289 = some (.false, 1) := by kernel_rfl
@[simp] theorem size289 : tsize Tryz.prog 289 = some 1 := by kernel_rfl
@[simp] theorem sh291 : tsh Tryz.prog 291 = some (.false, 1) := by kernel_rfl
@[simp] theorem size291 : tsize Tryz.prog 291 = some 1 := by kernel_rfl
@[simp] theorem sh292 : tsh Tryz.prog 292 = some (.false, 1) := by kernel_rfl
@[simp] theorem size292 : tsize Tryz.prog 292 = some 1 := by kernel_rfl
@[simp] theorem hb12 : HB Tryz.prog 12 = true := by kernel_rfl
@[simp] theorem hb13 : HB Tryz.prog 13 = true := by kernel_rfl
@[simp] theorem hb14 : HB Tryz.prog 14 = true := by kernel_rfl
@[simp] theorem hb15 : HB Tryz.prog 15 = true := by kernel_rfl
@[simp] theorem hb16 : HB Tryz.prog 16 = true := by kernel_rfl
@[simp] theorem hb17 : HB Tryz.prog 17 = true := by kernel_rfl
@[simp] theorem hb18 : HB Tryz.prog 18 = true := by kernel_rfl
@[simp] theorem hb19 : HB Tryz.prog 19 = true := by kernel_rfl
@[simp] theorem hb21 : HB Tryz.prog 21 = true := by kernel_rfl
@[simp] theorem hb22 : HB Tryz.prog 22 = true := by kernel_rfl
@[simp] theorem hb24 : HB Tryz.prog 24 = true := by kernel_rfl
@[simp] theorem hb32 : HB Tryz.prog 32 = true := by kernel_rfl
@[simp] theorem hb33 : HB Tryz.prog 33 = true := by kernel_rfl
@[simp] theorem hb37 : HB Tryz.prog 37 = true := by kernel_rfl
@[simp] theorem hb38 : HB Tryz.prog 38 = true := by kernel_rfl
@[simp] theorem hb39 : HB Tryz.prog 39 = true := by kernel_rfl
@[simp] theorem hb40 : HB Tryz.prog 40 = true := by kernel_rfl
@[simp] theorem hb41 : HB Tryz.prog 41 = true := by kernel_rfl
@[simp] theorem hb42 : HB Tryz.prog 42 = true := by kernel_rfl
@[simp] theorem hb43 : HB Tryz.prog 43 = true := by kernel_rfl
@[simp] theorem hb44 : HB Tryz.prog 44 = true := by kernel_rfl
@[simp] theorem hb45 : HB Tryz.prog 45 = true := by kernel_rfl
@[simp] theorem hb46 : HB Tryz.prog 46 = true := by kernel_rfl
@[simp] theorem hb47 : HB Tryz.prog 47 = true := by kernel_rfl
@[simp] theorem hb48 : HB Tryz.prog 48 = true := by kernel_rfl
@[simp] theorem hb49 : HB Tryz.prog 49 = true := by kernel_rfl
@[simp] theorem hb50 : HB Tryz.prog 50 = true := by kernel_rfl
@[simp] theorem hb51 : HB Tryz.prog 51 = true := by kernel_rfl
@[simp] theorem hb52 : HB Tryz.prog 52 = true := by kernel_rfl
@[simp] theorem hb53 : HB Tryz.prog 53 = true := by kernel_rfl
@[simp] theorem hb82 : HB Tryz.prog 82 = true := by kernel_rfl
@[simp] theorem hb83 : HB Tryz.prog 83 = true := by kernel_rfl
@[simp] theorem hb84 : HB Tryz.prog 84 = true := by kernel_rfl
@[simp] theorem hb85 : HB Tryz.prog 85 = true := by kernel_rfl
@[simp] theorem hb86 : HB Tryz.prog 86 = true := by kernel_rfl
@[simp] theorem hb87 : HB Tryz.prog 87 = true := by kernel_rfl
@[simp] theorem hb88 : HB Tryz.prog 88 = true := by kernel_rfl
@[simp] theorem hb89 : HB Tryz.prog 89 = true := by kernel_rfl
@[simp] theorem hb90 : HB Tryz.prog 90 = true := by kernel_rfl
@[simp] theorem hb91 : HB Tryz.prog 91 = true := by kernel_rfl
@[simp] theorem hb92 : HB Tryz.prog 92 = true := by kernel_rfl
@[simp] theorem hb93 : HB Tryz.prog 93 = true := by kernel_rfl
@[simp] theorem hb96 : HB Tryz.prog 96 = true := by kernel_rfl
@[simp] theorem hb97 : HB Tryz.prog 97 = true := by kernel_rfl
@[simp] theorem hb98 : HB Tryz.prog 98 = true := by kernel_rfl
@[simp] theorem hb99 : HB Tryz.prog 99 = true := by kernel_rfl
@[simp] theorem hb100 : HB Tryz.prog 100 = true := by kernel_rfl
@[simp] theorem hb101 : HB Tryz.prog 101 = true := by kernel_rfl
@[simp] theorem hb102 : HB Tryz.prog 102 = true := by kernel_rfl
@[simp] theorem hb103 : HB Tryz.prog 103 = true := by kernel_rfl
@[simp] theorem hb104 : HB Tryz.prog 104 = true := by kernel_rfl
@[simp] theorem hb105 : HB Tryz.prog 105 = true := by kernel_rfl
@[simp] theorem hb106 : HB Tryz.prog 106 = true := by kernel_rfl
@[simp] theorem hb107 : HB Tryz.prog 107 = true := by kernel_rfl
@[simp] theorem hb134 : HB Tryz.prog 134 = true := by kernel_rfl
@[simp] theorem hb135 : HB Tryz.prog 135 = true := by kernel_rfl
@[simp] theorem hb136 : HB Tryz.prog 136 = true := by kernel_rfl
@[simp] theorem hb137 : HB Tryz.prog 137 = true := by kernel_rfl
@[simp] theorem hb138 : HB Tryz.prog 138 = true := by kernel_rfl
@[simp] theorem hb139 : HB Tryz.prog 139 = true := by kernel_rfl
@[simp] theorem hb140 : HB Tryz.prog 140 = true := by kernel_rfl
@[simp] theorem hb152 : HB Tryz.prog 152 = true := by kernel_rfl
@[simp] theorem hb153 : HB Tryz.prog 153 = true := by kernel_rfl
@[simp] theorem hb154 : HB Tryz.prog 154 = true := by kernel_rfl
@[simp] theorem hb155 : HB Tryz.prog 155 = true := by kernel_rfl
@[simp] theorem hb156 : HB Tryz.prog 156 = true := by kernel_rfl
@[simp] theorem hb157 : HB Tryz.prog 157 = true := by kernel_rfl
@[simp] theorem hb158 : HB Tryz.prog 158 = true := by kernel_rfl
@[simp] theorem hb159 : HB Tryz.prog 159 = true := by kernel_rfl
@[simp] theorem hb160 : HB Tryz.prog 160 = true := by kernel_rfl
@[simp] theorem hb161 : HB Tryz.prog 161 = true := by kernel_rfl
@[simp] theorem hb162 : HB Tryz.prog 162 = true := by kernel_rfl
@[simp] theorem hb180 : HB Tryz.prog 180 = true := by kernel_rfl
@[simp] theorem hb181 : HB Tryz.prog 181 = true := by kernel_rfl
@[simp] theorem hb182 : HB Tryz.prog 182 = true := by kernel_rfl
@[simp] theorem hb183 : HB Tryz.prog 183 = true := by kernel_rfl
@[simp] theorem hb184 : HB Tryz.prog 184 = true := by kernel_rfl
@[simp] theorem hb185 : HB Tryz.prog 185 = true := by kernel_rfl
@[simp] theorem hb186 : HB Tryz.prog 186 = true := by kernel_rfl
@[simp] theorem hb187 : HB Tryz.prog 187 = true := by kernel_rfl
@[simp] theorem hb188 : HB Tryz.prog 188 = true := by kernel_rfl
@[simp] theorem hb189 : HB Tryz.prog 189 = true := by kernel_rfl
@[simp] theorem hb190 : HB Tryz.prog 190 = true := by kernel_rfl
@[simp] theorem hb191 : HB Tryz.prog 191 = true := by kernel_rfl
@[simp] theorem hb198 : HB Tryz.prog 198 = true := by kernel_rfl
@[simp] theorem hb199 : HB Tryz.prog 199 = true := by kernel_rfl
@[simp] theorem hb200 : HB Tryz.prog 200 = true := by kernel_rfl
@[simp] theorem hb201 : HB Tryz.prog 201 = true := by kernel_rfl
@[simp] theorem hb202 : HB Tryz.prog 202 = true := by kernel_rfl
@[simp] theorem hb203 : HB Tryz.prog 203 = true := by kernel_rfl
@[simp] theorem hb204 : HB Tryz.prog 204 = true := by kernel_rfl
@[simp] theorem hb205 : HB Tryz.prog 205 = true := by kernel_rfl
@[simp] theorem hb206 : HB Tryz.prog 206 = true := by kernel_rfl
@[simp] theorem hb207 : HB Tryz.prog 207 = true := by kernel_rfl
@[simp] theorem hb208 : HB Tryz.prog 208 = true := by kernel_rfl
@[simp] theorem hb209 : HB Tryz.prog 209 = true := by kernel_rfl
@[simp] theorem hb210 : HB Tryz.prog 210 = true := by kernel_rfl
@[simp] theorem hb211 : HB Tryz.prog 211 = true := by kernel_rfl
@[simp] theorem hb212 : HB Tryz.prog 212 = true := by kernel_rfl
@[simp] theorem hb213 : HB Tryz.prog 213 = true := by kernel_rfl
@[simp] theorem hb214 : HB Tryz.prog 214 = true := by kernel_rfl
@[simp] theorem hb215 : HB Tryz.prog 215 = true := by kernel_rfl
@[simp] theorem hb216 : HB Tryz.prog 216 = true := by kernel_rfl
@[simp] theorem hb217 : HB Tryz.prog 217 = true := by kernel_rfl
@[simp] theorem hb218 : HB Tryz.prog 218 = true := by kernel_rfl
@[simp] theorem hb219 : HB Tryz.prog 219 = true := by kernel_rfl
@[simp] theorem hb220 : HB Tryz.prog 220 = true := by kernel_rfl
@[simp] theorem hb221 : HB Tryz.prog 221 = true := by kernel_rfl
@[simp] theorem hb222 : HB Tryz.prog 222 = true := by kernel_rfl
@[simp] theorem hb223 : HB Tryz.prog 223 = true := by kernel_rfl
@[simp] theorem hb224 : HB Tryz.prog 224 = true := by kernel_rfl
@[simp] theorem hb225 : HB Tryz.prog 225 = true := by kernel_rfl
@[simp] theorem hb226 : HB Tryz.prog 226 = true := by kernel_rfl
@[simp] theorem hb227 : HB Tryz.prog 227 = true := by kernel_rfl
@[simp] theorem hb228 : HB Tryz.prog 228 = true := by kernel_rfl
@[simp] theorem hb229 : HB Tryz.prog 229 = true := by kernel_rfl
@[simp] theorem hb230 : HB Tryz.prog 230 = true := by kernel_rfl
@[simp] theorem hb238 : HB Tryz.prog 238 = true := by kernel_rfl
@[simp] theorem hb239 : HB Tryz.prog 239 = true := by kernel_rfl
@[simp] theorem hb240 : HB Tryz.prog 240 = true := by kernel_rfl
@[simp] theorem hb241 : HB Tryz.prog 241 = true := by kernel_rfl
@[simp] theorem hb242 : HB Tryz.prog 242 = true := by kernel_rfl
@[simp] theorem hb243 : HB Tryz.prog 243 = true := by kernel_rfl
@[simp] theorem hb244 : HB Tryz.prog 244 = true := by kernel_rfl
@[simp] theorem hb245 : HB Tryz.prog 245 = true := by kernel_rfl
@[simp] theorem hb246 : HB Tryz.prog 246 = true := by kernel_rfl
@[simp] theorem hb247 : HB Tryz.prog 247 = true := by kernel_rfl
@[simp] theorem hb248 : HB Tryz.prog 248 = true := by kernel_rfl
@[simp] theorem hb249 : HB Tryz.prog 249 = true := by kernel_rfl
@[simp] theorem hb250 : HB Tryz.prog 250 = true := by kernel_rfl
@[simp] theorem hb251 : HB Tryz.prog 251 = true := by kernel_rfl
@[simp] theorem hb252 : HB Tryz.prog 252 = true := by kernel_rfl
@[simp] theorem hb254 : HB Tryz.prog 254 = true := by kernel_rfl
@[simp] theorem hb255 : HB Tryz.prog 255 = true := by kernel_rfl
@[simp] theorem hb256 : HB Tryz.prog 256 = true := by kernel_rfl
@[simp] theorem hb257 : HB Tryz.prog 257 = true := by kernel_rfl
@[simp] theorem hb258 : HB Tryz.prog 258 = true := by kernel_rfl
@[simp] theorem hb259 : HB Tryz.prog 259 = true := by kernel_rfl
@[simp] theorem hb260 : HB Tryz.prog 260 = true := by kernel_rfl
@[simp] theorem hb261 : HB Tryz.prog 261 = true := by kernel_rfl
@[simp] theorem hb262 : HB Tryz.prog 262 = true := by kernel_rfl
@[simp] theorem hb263 : HB Tryz.prog 263 = true := by kernel_rfl
@[simp] theorem hb267 : HB Tryz.prog 267 = true := by kernel_rfl
@[simp] theorem hb268 : HB Tryz.prog 268 = true := by kernel_rfl
@[simp] theorem hb269 : HB Tryz.prog 269 = true := by kernel_rfl
@[simp] theorem hb270 : HB Tryz.prog 270 = true := by kernel_rfl
@[simp] theorem hb271 : HB Tryz.prog 271 = true := by kernel_rfl
@[simp] theorem hb272 : HB Tryz.prog 272 = true := by kernel_rfl
@[simp] theorem hb273 : HB Tryz.prog 273 = true := by kernel_rfl
@[simp] theorem hb274 : HB Tryz.prog 274 = true := by kernel_rfl
@[simp] theorem hb276 : HB Tryz.prog 276 = true := by kernel_rfl
@[simp] theorem ares8 (s : AState) : ares Tryz.prog Tryz.f8 s = resV Tryz.prog s (.tmp 4) := ares_one Tryz.results8 s
@[simp] theorem ares11 (s : AState) : ares Tryz.prog Tryz.f11 s = resV Tryz.prog s (.tmp 2) := ares_one Tryz.results11 s
@[simp] theorem ares12 (s : AState) : ares Tryz.prog Tryz.f12 s = resV Tryz.prog s (.tmp 0) := ares_one Tryz.results12 s
@[simp] theorem ares13 (s : AState) : ares Tryz.prog Tryz.f13 s = resV Tryz.prog s (.tmp 2) := ares_one Tryz.results13 s
@[simp] theorem ares14 (s : AState) : ares Tryz.prog Tryz.f14 s = (resL Tryz.prog s [.tmp 2, .cell 3 31]).map .tup := ares_many (rs := [.tmp 2, .cell 3 31]) Tryz.results14 (by decide) s
@[simp] theorem ares15 (s : AState) : ares Tryz.prog Tryz.f15 s = resV Tryz.prog s (.tmp 2) := ares_one Tryz.results15 s
@[simp] theorem ares16 (s : AState) : ares Tryz.prog Tryz.f16 s = resV Tryz.prog s (.tmp 4) := ares_one Tryz.results16 s
@[simp] theorem ares17 (s : AState) : ares Tryz.prog Tryz.f17 s = resV Tryz.prog s (.tmp 2) := ares_one Tryz.results17 s
@[simp] theorem ares18 (s : AState) : ares Tryz.prog Tryz.f18 s = resV Tryz.prog s (.tmp 4) := ares_one Tryz.results18 s
@[simp] theorem ares19 (s : AState) : ares Tryz.prog Tryz.f19 s = (resL Tryz.prog s [.tmp 4, .tmp 5]).map .tup := ares_many (rs := [.tmp 4, .tmp 5]) Tryz.results19 (by decide) s
@[simp] theorem ares21 (s : AState) : ares Tryz.prog Tryz.f21 s = resV Tryz.prog s (.tmp 4) := ares_one Tryz.results21 s
@[simp] theorem ares22 (s : AState) : ares Tryz.prog Tryz.f22 s = resV Tryz.prog s (.tmp 2) := ares_one Tryz.results22 s
@[simp] theorem ares24 (s : AState) : ares Tryz.prog Tryz.f24 s = (resL Tryz.prog s [.cell 4 53, .tmp 5, .tmp 6]).map .tup := ares_many (rs := [.cell 4 53, .tmp 5, .tmp 6]) Tryz.results24 (by decide) s
@[simp] theorem ares32 (s : AState) : ares Tryz.prog Tryz.f32 s = resV Tryz.prog s (.tmp 2) := ares_one Tryz.results32 s
@[simp] theorem ares33 (s : AState) : ares Tryz.prog Tryz.f33 s = resV Tryz.prog s (.tmp 4) := ares_one Tryz.results33 s
@[simp] theorem ares37 (s : AState) : ares Tryz.prog Tryz.f37 s = resV Tryz.prog s (.tmp 2) := ares_one Tryz.results37 s
@[simp] theorem ares38 (s : AState) : ares Tryz.prog Tryz.f38 s = resV Tryz.prog s (.cell 0 24) := ares_one Tryz.results38 s
@[simp] theorem ares39 (s : AState) : ares Tryz.prog Tryz.f39 s = resV Tryz.prog s (.cell 2 31) := ares_one Tryz.results39 s
@[simp] theorem ares40 (s : AState) : ares Tryz.prog Tryz.f40 s = resV Tryz.prog s (.cell 2 24) := ares_one Tryz.results40 s
@[simp] theorem ares41 (s : AState) : ares Tryz.prog Tryz.f41 s = resV Tryz.prog s (.tmp 0) := ares_one Tryz.results41 s
@[simp] theorem ares42 (s : AState) : ares Tryz.prog Tryz.f42 s = resV Tryz.prog s (.tmp 0) := ares_one Tryz.results42 s
@[simp] theorem ares43 (s : AState) : ares Tryz.prog Tryz.f43 s = (resL Tryz.prog s [.tmp 8, .tmp 9]).map .tup := ares_many (rs := [.tmp 8, .tmp 9]) Tryz.results43 (by decide) s
@[simp] theorem ares44 (s : AState) : ares Tryz.prog Tryz.f44 s = resV Tryz.prog s (.tmp 2) := ares_one Tryz.results44 s
@[simp] theorem ares46 (s : AState) : ares Tryz.prog Tryz.f46 s = resV Tryz.prog s (.tmp 4) := ares_one Tryz.results46 s
@[simp] theorem ares47 (s : AState) : ares Tryz.prog Tryz.f47 s = resV Tryz.prog s (.tmp 2) := ares_one Tryz.results47 s
@[simp] theorem ares48 (s : AState) : ares Tryz.prog Tryz.f48 s = resV Tryz.prog s (.tmp 4) := ares_one Tryz.results48 s
@[simp] theorem ares49 (s : AState) : ares Tryz.prog Tryz.f49 s = (resL Tryz.prog s [.cell 10 53, .cell 11 105, .tmp 12]).map .tup := ares_many (rs := [.cell 10 53, .cell 11 105, .tmp 12]) Tryz.results49 (by decide) s
@[simp] theorem ares50 (s : AState) : ares Tryz.prog Tryz.f50 s = resV Tryz.prog s (.tmp 2) := ares_one Tryz.results50 s
@[simp] theorem ares51 (s : AState) : ares Tryz.prog Tryz.f51 s = (resL Tryz.prog s [.cell 4 103, .tmp 5]).map .tup := ares_many (rs := [.cell 4 103, .tmp 5]) Tryz.results51 (by decide) s
@[simp] theorem ares52 (s : AState) : ares Tryz.prog Tryz.f52 s = resV Tryz.prog s (.tmp 2) := ares_one Tryz.results52 s
@[simp] theorem ares53 (s : AState) : ares Tryz.prog Tryz.f53 s = resV Tryz.prog s (.tmp 2) := ares_one Tryz.results53 s
@[simp] theorem ares82 (s : AState) : ares Tryz.prog Tryz.f82 s = resV Tryz.prog s (.tmp 2) := ares_one Tryz.results82 s
@[simp] theorem ares83 (s : AState) : ares Tryz.prog Tryz.f83 s = resV Tryz.prog s (.tmp 4) := ares_one Tryz.results83 s
@[simp] theorem ares84 (s : AState) : ares Tryz.prog Tryz.f84 s = resV Tryz.prog s (.cell 2 31) := ares_one Tryz.results84 s
@[simp] theorem ares85 (s : AState) : ares Tryz.prog Tryz.f85 s = resV Tryz.prog s (.tmp 2) := ares_one Tryz.results85 s
@[simp] theorem ares86 (s : AState) : ares Tryz.prog Tryz.f86 s = resV Tryz.prog s (.tmp 2) := ares_one Tryz.results86 s
@[simp] theorem ares87 (s : AState) : ares Tryz.prog Tryz.f87 s = resV Tryz.prog s (.tmp 2) := ares_one Tryz.results87 s
@[simp] theorem ares88 (s : AState) : ares Tryz.prog Tryz.f88 s = resV Tryz.prog s (.tmp 2) := ares_one Tryz.results88 s
@[simp] theorem ares89 (s : AState) : ares Tryz.prog Tryz.f89 s = resV Tryz.prog s (.tmp 2) := ares_one Tryz.results89 s
@[simp] theorem ares90 (s : AState) : ares Tryz.prog Tryz.f90 s = (resL Tryz.prog s [.tmp 2, .tmp 3]).map .tup := ares_many (rs := [.tmp 2, .tmp 3]) Tryz.results90 (by decide) s
@[simp] theorem ares91 (s : AState) : ares Tryz.prog Tryz.f91 s = (resL Tryz.prog s [.cell 6 53, .tmp 7]).map .tup := ares_many (rs := [.cell 6 53, .tmp 7]) Tryz.results91 (by decide) s
@[simp] theorem ares92 (s : AState) : ares Tryz.prog Tryz.f92 s = resV Tryz.prog s (.tmp 0) := ares_one Tryz.results92 s
@[simp] theorem ares93 (s : AState) : ares Tryz.prog Tryz.f93 s = (resL Tryz.prog s []).map .tup := ares_many (rs := []) Tryz.results93 (by decide) s
@[simp] theorem ares96 (s : AState) : ares Tryz.prog Tryz.f96 s = resV Tryz.prog s (.tmp 8) := ares_one Tryz.results96 s
@[simp] theorem ares97 (s : AState) : ares Tryz.prog Tryz.f97 s = resV Tryz.prog s (.tmp 4) := ares_one Tryz.results97 s
@[simp] theorem ares98 (s : AState) : ares Tryz.prog Tryz.f98 s = resV Tryz.prog s (.cell 2 53) := ares_one Tryz.results98 s
@[simp] theorem ares99 (s : AState) : ares Tryz.prog Tryz.f99 s = resV Tryz.prog s (.tmp 2) := ares_one Tryz.results99 s
@[simp] theorem ares100 (s : AState) : ares Tryz.prog Tryz.f100 s = resV Tryz.prog s (.tmp 2) := ares_one Tryz.results100 s
@[simp] theorem ares101 (s : AState) : ares Tryz.prog Tryz.f101 s = (resL Tryz.prog s [.cell 4 103, .tmp 5]).map .tup := ares_many (rs := [.cell 4 103, .tmp 5]) Tryz.results101 (by decide) s
@[simp] theorem ares102 (s : AState) : ares Tryz.prog Tryz.f102 s = resV Tryz.prog s (.tmp 6) := ares_one Tryz.results102 s
@[simp] theorem ares103 (s : AState) : ares Tryz.prog Tryz.f103 s = (resL Tryz.prog s []).map .tup := ares_many (rs := []) Tryz.results103 (by decide) s
@[simp] theorem ares104 (s : AState) : ares Tryz.prog Tryz.f104 s = (resL Tryz.prog s []).map .tup := ares_many (rs := []) Tryz.results104 (by decide) s
@[simp] theorem ares105 (s : AState) : ares Tryz.prog Tryz.f105 s = (resL Tryz.prog s []).map .tup := ares_many (rs := []) Tryz.results105 (by decide) s
@[simp] theorem ares106 (s : AState) : ares Tryz.prog Tryz.f106 s = (resL Tryz.prog s []).map .tup := ares_many (rs := []) Tryz.results106 (by decide) s
@[simp] theorem ares107 (s : AState) : ares Tryz.prog Tryz.f107 s = (resL Tryz.prog s []).map .tup := ares_many (rs := []) Tryz.results107 (by decide) s
@[simp] theorem ares134 (s : AState) : ares Tryz.prog Tryz.f134 s = resV Tryz.prog s (.tmp 4) := ares_one Tryz.results134 s
@[simp] theorem ares135 (s : AState) : ares Tryz.prog Tryz.f135 s = resV Tryz.prog s (.tmp 2) := ares_one Tryz.results135 s
@[simp] theorem ares136 (s : AState) : ares Tryz.prog Tryz.f136 s = resV Tryz.prog s (.tmp 3) := ares_one Tryz.results136 s
@[simp] theorem ares137 (s : AState) : ares Tryz.prog Tryz.f137 s = resV Tryz.prog s (.tmp 4) := ares_one Tryz.results137 s
@[simp] theorem ares138 (s : AState) : ares Tryz.prog Tryz.f138 s = resV Tryz.prog s (.tmp 4) := ares_one Tryz.results138 s
@[simp] theorem ares139 (s : AState) : ares Tryz.prog Tryz.f139 s = resV Tryz.prog s (.tmp 4) := ares_one Tryz.results139 s
@[simp] theorem ares140 (s : AState) : ares Tryz.prog Tryz.f140 s = resV Tryz.prog s (.tmp 4) := ares_one Tryz.results140 s
@[simp] theorem ares152 (s : AState) : ares Tryz.prog Tryz.f152 s = (resL Tryz.prog s [.tmp 4, .tmp 5, .tmp 6]).map .tup := ares_many (rs := [.tmp 4, .tmp 5, .tmp 6]) Tryz.results152 (by decide) s
@[simp] theorem ares153 (s : AState) : ares Tryz.prog Tryz.f153 s = resV Tryz.prog s (.tmp 4) := ares_one Tryz.results153 s
@[simp] theorem ares154 (s : AState) : ares Tryz.prog Tryz.f154 s = resV Tryz.prog s (.tmp 4) := ares_one Tryz.results154 s
@[simp] theorem ares155 (s : AState) : ares Tryz.prog Tryz.f155 s = (resL Tryz.prog s []).map .tup := ares_many (rs := []) Tryz.results155 (by decide) s
@[simp] theorem ares156 (s : AState) : ares Tryz.prog Tryz.f156 s = resV Tryz.prog s (.tmp 0) := ares_one Tryz.results156 s
@[simp] theorem ares157 (s : AState) : ares Tryz.prog Tryz.f157 s = (resL Tryz.prog s []).map .tup := ares_many (rs := []) Tryz.results157 (by decide) s
@[simp] theorem ares158 (s : AState) : ares Tryz.prog Tryz.f158 s = resV Tryz.prog s (.tmp 2) := ares_one Tryz.results158 s
@[simp] theorem ares159 (s : AState) : ares Tryz.prog Tryz.f159 s = resV Tryz.prog s (.tmp 4) := ares_one Tryz.results159 s
@[simp] theorem ares160 (s : AState) : ares Tryz.prog Tryz.f160 s = (resL Tryz.prog s []).map .tup := ares_many (rs := []) Tryz.results160 (by decide) s
@[simp] theorem ares161 (s : AState) : ares Tryz.prog Tryz.f161 s = (resL Tryz.prog s [.cell 4 53, .tmp 5]).map .tup := ares_many (rs := [.cell 4 53, .tmp 5]) Tryz.results161 (by decide) s
@[simp] theorem ares162 (s : AState) : ares Tryz.prog Tryz.f162 s = resV Tryz.prog s (.tmp 6) := ares_one Tryz.results162 s
@[simp] theorem ares180 (s : AState) : ares Tryz.prog Tryz.f180 s = resV Tryz.prog s (.tmp 4) := ares_one Tryz.results180 s
@[simp] theorem ares181 (s : AState) : ares Tryz.prog Tryz.f181 s = resV Tryz.prog s (.tmp 2) := ares_one Tryz.results181 s
@[simp] theorem ares182 (s : AState) : ares Tryz.prog Tryz.f182 s = resV Tryz.prog s (.tmp 4) := ares_one Tryz.results182 s
@[simp] theorem ares183 (s : AState) : ares Tryz.prog Tryz.f183 s = resV Tryz.prog s (.tmp 2) := ares_one Tryz.results183 s
@[simp] theorem ares184 (s : AState) : ares Tryz.prog Tryz.f184 s = resV Tryz.prog s (.tmp 2) := ares_one Tryz.results184 s
@[simp] theorem ares185 (s : AState) : ares Tryz.prog Tryz.f185 s = resV Tryz.prog s (.tmp 4) := ares_one Tryz.results185 s
@[simp] theorem ares186 (s : AState) : ares Tryz.prog Tryz.f186 s = resV Tryz.prog s (.tmp 2) := ares_one Tryz.results186 s
@[simp] theorem ares187 (s : AState) : ares Tryz.prog Tryz.f187 s = resV Tryz.prog s (.tmp 2) := ares_one Tryz.results187 s
@[simp] theorem ares188 (s : AState) : ares Tryz.prog Tryz.f188 s = resV Tryz.prog s (.tmp 4) := ares_one Tryz.results188 s
@[simp] theorem ares189 (s : AState) : ares Tryz.prog Tryz.f189 s = (resL Tryz.prog s [.tmp 6, .tmp 7]).map .tup := ares_many (rs := [.tmp 6, .tmp 7]) Tryz.results189 (by decide) s
@[simp] theorem ares190 (s : AState) : ares Tryz.prog Tryz.f190 s = resV Tryz.prog s (.tmp 6) := ares_one Tryz.results190 s
@[simp] theorem ares191 (s : AState) : ares Tryz.prog Tryz.f191 s = resV Tryz.prog s (.tmp 6) := ares_one Tryz.results191 s
@[simp] theorem ares198 (s : AState) : ares Tryz.prog Tryz.f198 s = (resL Tryz.prog s [.tmp 4, .tmp 5]).map .tup := ares_many (rs := [.tmp 4, .tmp 5]) Tryz.results198 (by decide) s
@[simp] theorem ares199 (s : AState) : ares Tryz.prog Tryz.f199 s = resV Tryz.prog s (.tmp 2) := ares_one Tryz.results199 s
@[simp] theorem ares200 (s : AState) : ares Tryz.prog Tryz.f200 s = resV Tryz.prog s (.tmp 2) := ares_one Tryz.results200 s
@[simp] theorem ares201 (s : AState) : ares Tryz.prog Tryz.f201 s = (resL Tryz.prog s [.tmp 6, .tmp 7]).map .tup := ares_many (rs := [.tmp 6, .tmp 7]) Tryz.results201 (by decide) s
@[simp] theorem ares202 (s : AState) : ares Tryz.prog Tryz.f202 s = (resL Tryz.prog s []).map .tup := ares_many (rs := []) Tryz.results202 (by decide) s
@[simp] theorem ares203 (s : AState) : ares Tryz.prog Tryz.f203 s = (resL Tryz.prog s []).map .tup := ares_many (rs := []) Tryz.results203 (by decide) s
@[simp] theorem ares204 (s : AState) : ares Tryz.prog Tryz.f204 s = (resL Tryz.prog s []).map .tup := ares_many (rs := []) Tryz.results204 (by decide) s
@[simp] theorem ares205 (s : AState) : ares Tryz.prog Tryz.f205 s = (resL Tryz.prog s []).map .tup := ares_many (rs := []) Tryz.results205 (by decide) s
@[simp] theorem ares206 (s : AState) : ares Tryz.prog Tryz.f206 s = resV Tryz.prog s (.tmp 2) := ares_one Tryz.results206 s
@[simp] theorem ares207 (s : AState) : ares Tryz.prog Tryz.f207 s = resV Tryz.prog s (.tmp 2) := ares_one Tryz.results207 s
@[simp] theorem ares208 (s : AState) : ares Tryz.prog Tryz.f208 s = resV Tryz.prog s (.tmp 2) := ares_one Tryz.results208 s
@[simp] theorem ares209 (s : AState) : ares Tryz.prog Tryz.f209 s = resV Tryz.prog s (.tmp 2) := ares_one Tryz.results209 s
@[simp] theorem ares210 (s : AState) : ares Tryz.prog Tryz.f210 s = resV Tryz.prog s (.tmp 2) := ares_one Tryz.results210 s
@[simp] theorem ares211 (s : AState) : ares Tryz.prog Tryz.f211 s = (resL Tryz.prog s []).map .tup := ares_many (rs := []) Tryz.results211 (by decide) s
@[simp] theorem ares212 (s : AState) : ares Tryz.prog Tryz.f212 s = resV Tryz.prog s (.tmp 4) := ares_one Tryz.results212 s
@[simp] theorem ares213 (s : AState) : ares Tryz.prog Tryz.f213 s = (resL Tryz.prog s []).map .tup := ares_many (rs := []) Tryz.results213 (by decide) s
@[simp] theorem ares214 (s : AState) : ares Tryz.prog Tryz.f214 s = resV Tryz.prog s (.tmp 2) := ares_one Tryz.results214 s
@[simp] theorem ares215 (s : AState) : ares Tryz.prog Tryz.f215 s = resV Tryz.prog s (.tmp 2) := ares_one Tryz.results215 s
@[simp] theorem ares216 (s : AState) : ares Tryz.prog Tryz.f216 s = (resL Tryz.prog s []).map .tup := ares_many (rs := []) Tryz.results216 (by decide) s
@[simp] theorem ares217 (s : AState) : ares Tryz.prog Tryz.f217 s = resV Tryz.prog s (.tmp 2) := ares_one Tryz.results217 s
@[simp] theorem ares218 (s : AState) : ares Tryz.prog Tryz.f218 s = (resL Tryz.prog s []).map .tup := ares_many (rs := []) Tryz.results218 (by decide) s
@[simp] theorem ares219 (s : AState) : ares Tryz.prog Tryz.f219 s = (resL Tryz.prog s []).map .tup := ares_many (rs := []) Tryz.results219 (by decide) s
@[simp] theorem ares220 (s : AState) : ares Tryz.prog Tryz.f220 s = (resL Tryz.prog s []).map .tup := ares_many (rs := []) Tryz.results220 (by decide) s
@[simp] theorem ares221 (s : AState) : ares Tryz.prog Tryz.f221 s = (resL Tryz.prog s []).map .tup := ares_many (rs := []) Tryz.results221 (by decide) s
@[simp] theorem ares222 (s : AState) : ares Tryz.prog Tryz.f222 s = (resL Tryz.prog s []).map .tup := ares_many (rs := []) Tryz.results222 (by decide) s
@[simp] theorem ares223 (s : AState) : ares Tryz.prog Tryz.f223 s = (resL Tryz.prog s []).map .tup := ares_many (rs := []) Tryz.results223 (by decide) s
@[simp] theorem ares224 (s : AState) : ares Tryz.prog Tryz.f224 s = (resL Tryz.prog s []).map .tup := ares_many (rs := []) Tryz.results224 (by decide) s
@[simp] theorem ares225 (s : AState) : ares Tryz.prog Tryz.f225 s = (resL Tryz.prog s []).map .tup := ares_many (rs := []) Tryz.results225 (by decide) s
@[simp] theorem ares226 (s : AState) : ares Tryz.prog Tryz.f226 s = (resL Tryz.prog s []).map .tup := ares_many (rs := []) Tryz.results226 (by decide) s
@[simp] theorem ares227 (s : AState) : ares Tryz.prog Tryz.f227 s = resV Tryz.prog s (.tmp 4) := ares_one Tryz.results227 s
@[simp] theorem ares228 (s : AState) : ares Tryz.prog Tryz.f228 s = (resL Tryz.prog s []).map .tup := ares_many (rs := []) Tryz.results228 (by decide) s
@[simp] theorem ares229 (s : AState) : ares Tryz.prog Tryz.f229 s = resV Tryz.prog s (.tmp 6) := ares_one Tryz.results229 s
@[simp] theorem ares230 (s : AState) : ares Tryz.prog Tryz.f230 s = (resL Tryz.prog s []).map .tup := ares_many (rs := []) Tryz.results230 (by decide) s
@[simp] theorem ares238 (s : AState) : ares Tryz.prog Tryz.f238 s = resV Tryz.prog s (.tmp 4) := ares_one Tryz.results238 s
@[simp] theorem ares239 (s : AState) : ares Tryz.prog Tryz.f239 s = resV Tryz.prog s (.tmp 3) := ares_one Tryz.results239 s
@[simp] theorem ares240 (s : AState) : ares Tryz.prog Tryz.f240 s = resV Tryz.prog s (.tmp 4) := ares_one Tryz.results240 s
@[simp] theorem ares241 (s : AState) : ares Tryz.prog Tryz.f241 s = resV Tryz.prog s (.tmp 4) := ares_one Tryz.results241 s
@[simp] theorem ares242 (s : AState) : ares Tryz.prog Tryz.f242 s = resV Tryz.prog s (.tmp 4) := ares_one Tryz.results242 s
@[simp] theorem ares243 (s : AState) : ares Tryz.prog Tryz.f243 s = resV Tryz.prog s (.tmp 2) := ares_one Tryz.results243 s
@[simp] theorem ares244 (s : AState) : ares Tryz.prog Tryz.f244 s = resV Tryz.prog s (.tmp 2) := ares_one Tryz.results244 s
@[simp] theorem ares245 (s : AState) : ares Tryz.prog Tryz.f245 s = resV Tryz.prog s (.tmp 4) := ares_one Tryz.results245 s
@[simp] theorem ares246 (s : AState) : ares Tryz.prog Tryz.f246 s = resV Tryz.prog s (.tmp 4) := ares_one Tryz.results246 s
@[simp] theorem ares247 (s : AState) : ares Tryz.prog Tryz.f247 s = resV Tryz.prog s (.tmp 4) := ares_one Tryz.results247 s
@[simp] theorem ares248 (s : AState) : ares Tryz.prog Tryz.f248 s = resV Tryz.prog s (.tmp 4) := ares_one Tryz.results248 s
@[simp] theorem ares249 (s : AState) : ares Tryz.prog Tryz.f249 s = (resL Tryz.prog s [.tmp 6, .tmp 7]).map .tup := ares_many (rs := [.tmp 6, .tmp 7]) Tryz.results249 (by decide) s
@[simp] theorem ares250 (s : AState) : ares Tryz.prog Tryz.f250 s = (resL Tryz.prog s [.tmp 2, .tmp 3]).map .tup := ares_many (rs := [.tmp 2, .tmp 3]) Tryz.results250 (by decide) s
@[simp] theorem ares251 (s : AState) : ares Tryz.prog Tryz.f251 s = (resL Tryz.prog s [.tmp 4, .tmp 5]).map .tup := ares_many (rs := [.tmp 4, .tmp 5]) Tryz.results251 (by decide) s
@[simp] theorem ares252 (s : AState) : ares Tryz.prog Tryz.f252 s = (resL Tryz.prog s [.tmp 4, .tmp 5]).map .tup := ares_many (rs := [.tmp 4, .tmp 5]) Tryz.results252 (by decide) s
@[simp] theorem ares254 (s : AState) : ares Tryz.prog Tryz.f254 s = (resL Tryz.prog s []).map .tup := ares_many (rs := []) Tryz.results254 (by decide) s
@[simp] theorem ares255 (s : AState) : ares Tryz.prog Tryz.f255 s = (resL Tryz.prog s [.tmp 6, .tmp 7]).map .tup := ares_many (rs := [.tmp 6, .tmp 7]) Tryz.results255 (by decide) s
@[simp] theorem ares256 (s : AState) : ares Tryz.prog Tryz.f256 s = (resL Tryz.prog s []).map .tup := ares_many (rs := []) Tryz.results256 (by decide) s
@[simp] theorem ares257 (s : AState) : ares Tryz.prog Tryz.f257 s = (resL Tryz.prog s []).map .tup := ares_many (rs := []) Tryz.results257 (by decide) s
@[simp] theorem ares258 (s : AState) : ares Tryz.prog Tryz.f258 s = (resL Tryz.prog s []).map .tup := ares_many (rs := []) Tryz.results258 (by decide) s
@[simp] theorem ares259 (s : AState) : ares Tryz.prog Tryz.f259 s = resV Tryz.prog s (.tmp 4) := ares_one Tryz.results259 s
@[simp] theorem ares260 (s : AState) : ares Tryz.prog Tryz.f260 s = resV Tryz.prog s (.tmp 2) := ares_one Tryz.results260 s
@[simp] theorem ares261 (s : AState) : ares Tryz.prog Tryz.f261 s = resV Tryz.prog s (.tmp 2) := ares_one Tryz.results261 s
@[simp] theorem ares262 (s : AState) : ares Tryz.prog Tryz.f262 s = resV Tryz.prog s (.tmp 4) := ares_one Tryz.results262 s
@[simp] theorem ares263 (s : AState) : ares Tryz.prog Tryz.f263 s = resV Tryz.prog s (.tmp 4) := ares_one Tryz.results263 s
@[simp] theorem ares267 (s : AState) : ares Tryz.prog Tryz.f267 s = resV Tryz.prog s (.tmp 4) := ares_one Tryz.results267 s
@[simp] theorem ares268 (s : AState) : ares Tryz.prog Tryz.f268 s = resV Tryz.prog s (.tmp 4) := ares_one Tryz.results268 s
@[simp] theorem ares269 (s : AState) : ares Tryz.prog Tryz.f269 s = resV Tryz.prog s (.tmp 2) := ares_one Tryz.results269 s
@[simp] theorem ares270 (s : AState) : ares Tryz.prog Tryz.f270 s = (resL Tryz.prog s []).map .tup := ares_many (rs := []) Tryz.results270 (by decide) s
@[simp] theorem ares271 (s : AState) : ares Tryz.prog Tryz.f271 s = (resL Tryz.prog s [.tmp 4, .tmp 5]).map .tup := ares_many (rs := [.tmp 4, .tmp 5]) Tryz.results271 (by decide) s
@[simp] theorem ares272 (s : AState) : ares Tryz.prog Tryz.f272 s = resV Tryz.prog s (.tmp 4) := ares_one Tryz.results272 s
@[simp] theorem ares273 (s : AState) : ares Tryz.prog Tryz.f273 s = resV Tryz.prog s (.tmp 4) := ares_one Tryz.results273 s
@[simp] theorem ares274 (s : AState) : ares Tryz.prog Tryz.f274 s = (resL Tryz.prog s [.tmp 4, .tmp 5]).map .tup := ares_many (rs := [.tmp 4, .tmp 5]) Tryz.results274 (by decide) s
@[simp] theorem ares276 (s : AState) : ares Tryz.prog Tryz.f276 s = (resL Tryz.prog s [.tmp 4, .tmp 5]).map .tup := ares_many (rs := [.tmp 4, .tmp 5]) Tryz.results276 (by decide) s
attribute [simp] Tryz.underlying0 Tryz.underlying1 Tryz.underlying2 Tryz.underlying3 Tryz.underlying4 Tryz.underlying5 Tryz.underlying6 Tryz.underlying7 Tryz.underlying8 Tryz.underlying9 Tryz.underlying10 Tryz.underlying11 Tryz.underlying12 Tryz.underlying13 Tryz.underlying14 Tryz.underlying15 Tryz.underlying16 Tryz.underlying17 Tryz.underlying18 Tryz.underlying19 Tryz.underlying20 Tryz.underlying21 Tryz.underlying22 Tryz.underlying23 Tryz.underlying24 Tryz.underlying25 Tryz.underlying26 Tryz.underlying27 Tryz.underlying28 Tryz.underlying29 Tryz.underlying30 Tryz.underlying31 Tryz.underlying32 Tryz.underlying33 Tryz.underlying34 Tryz.underlying35 Tryz.underlying36 Tryz.underlying37 Tryz.underlying38 Tryz.underlying39 Tryz.underlying40 Tryz.underlying41 Tryz.underlying42 Tryz.underlying43 Tryz.underlying44 Tryz.underlying45 Tryz.underlying46 Tryz.underlying47 Tryz.underlying48 Tryz.underlying49 Tryz.underlying50 Tryz.underlying51 Tryz.underlying52 Tryz.underlying53 Tryz.underlying54 Tryz.underlying55 Tryz.underlying56 Tryz.underlying57 Tryz.underlying58 Tryz.underlying59 Tryz.underlying60 Tryz.underlying61 Tryz.underlying62 Tryz.underlying63 Tryz.underlying64 Tryz.underlying65 Tryz.underlying66 Tryz.underlying67 Tryz.underlying68 Tryz.underlying69 Tryz.underlying70 Tryz.underlying71 Tryz.underlying72 Tryz.underlying73 Tryz.underlying74 Tryz.underlying75 Tryz.underlying76 Tryz.underlying77 Tryz.underlying78 Tryz.underlying79 Tryz.underlying80 Tryz.underlying81 Tryz.underlying82 Tryz.underlying83 Tryz.underlying84 Tryz.underlying85 Tryz.underlying86 Tryz.underlying87 Tryz.underlying88 Tryz.underlying89 Tryz.underlying90 Tryz.underlying91 Tryz.underlying92 Tryz.underlying93 Tryz.underlying94 Tryz.underlying95 Tryz.underlying96 Tryz.underlying97 Tryz.underlying98 Tryz.underlying99 Tryz.underlying100 Tryz.underlying101 Tryz.underlying102 Tryz.underlying103 Tryz.underlying104 Tryz.underlying105 Tryz.underlying106 Tryz.underlying107 Tryz.underlying108 Tryz.underlying109 Tryz.underlying110 Tryz.underlying111 Tryz.underlying112 Tryz.underlying113 Tryz.underlying114 Tryz.underlying115 Tryz.underlying116 Tryz.underlying117 Tryz.underlying118 Tryz.underlying119 Tryz.underlying120 Tryz.underlying121 Tryz.underlying122 Tryz.underlying123 Tryz.underlying124 Tryz.underlying125 Tryz.underlying126 Tryz.underlying127 Tryz.underlying128 Tryz.underlying129 Tryz.underlying130 Tryz.underlying131 Tryz.underlying132 Tryz.underlying133 Tryz.underlying134 Tryz.underlying135 Tryz.underlying136 Tryz.underlying137 Tryz.underlying138 Tryz.underlying139 Tryz.underlying140 Tryz.underlying141 Tryz.underlying142 Tryz.underlying143 Tryz.underlying144 Tryz.underlying145 Tryz.underlying146 Tryz.underlying147 Tryz.underlying148 Tryz.underlying149 Tryz.underlying150 Tryz.underlying151 Tryz.underlying152 Tryz.underlying153 Tryz.underlying154 Tryz.underlying155 Tryz.underlying156 Tryz.underlying157 Tryz.underlying158 Tryz.underlying159 Tryz.underlying160 Tryz.underlying161 Tryz.underlying162 Tryz.underlying163 Tryz.underlying164 Tryz.underlying165 Tryz.underlying166 Tryz.underlying167 Tryz.underlying168 Tryz.underlying169 Tryz.underlying170 Tryz.underlying171 Tryz.underlying172 Tryz.underlying173 Tryz.underlying174 Tryz.underlying175 Tryz.underlying176 Tryz.underlying177 Tryz.underlying178 Tryz.underlying179 Tryz.underlying180 Tryz.underlying181 Tryz.underlying182 Tryz.underlying183 Tryz.underlying184 Tryz.underlying185 Tryz.underlying186 Tryz.underlying187 Tryz.underlying188 Tryz.underlying189 Tryz.underlying190 Tryz.underlying191 Tryz.underlying192 Tryz.underlying193 Tryz.underlying194 Tryz.underlying195 Tryz.underlying196 Tryz.underlying197 Tryz.underlying198 Tryz.underlying199 Tryz.underlying200 Tryz.underlying201 Tryz.underlying202 Tryz.underlying203 Tryz.underlying204 Tryz.underlying205 Tryz.underlying206 Tryz.underlying207 Tryz.underlying208 Tryz.underlying209 Tryz.underlying210 Tryz.underlying211 Tryz.underlying212 Tryz.underlying213 Tryz.underlying214 Tryz.underlying215 Tryz.underlying216 Tryz.underlying217 Tryz.underlying218 Tryz.underlying219 Tryz.underlying220 Tryz.underlying221 Tryz.underlying222 Tryz.underlying223 Tryz.underlying224 Tryz.underlying225 Tryz.underlying226 Tryz.underlying227 Tryz.underlying228 Tryz.underlying229 Tryz.underlying230 Tryz.underlying231 Tryz.underlying232 Tryz.underlying233 Tryz.underlying234 Tryz.underlying235 Tryz.underlying236 Tryz.underlying237 Tryz.underlying238 Tryz.underlying239 Tryz.underlying240 Tryz.underlying241 Tryz.underlying242 Tryz.underlying243 Tryz.underlying244 Tryz.underlying245 Tryz.underlying246 Tryz.underlying247 Tryz.underlying248 Tryz.underlying249 Tryz.underlying250 Tryz.underlying251 Tryz.underlying252 Tryz.underlying253 Tryz.underlying254 Tryz.underlying255 Tryz.underlying256 Tryz.underlying257 Tryz.underlying258 Tryz.underlying259 Tryz.underlying260 Tryz.underlying261 Tryz.underlying262 Tryz.underlying263 Tryz.underlying264 Tryz.underlying265 Tryz.underlying266 Tryz.underlying267 Tryz.underlying268 Tryz.underlying269 Tryz.underlying270 Tryz.underlying271 Tryz.underlying272 Tryz.underlying273 Tryz.underlying274 Tryz.underlying275 Tryz.underlying276 Tryz.underlying277 Tryz.underlying278 Tryz.underlying279 Tryz.underlying280 Tryz.underlying281 Tryz.underlying282 Tryz.underlying283 Tryz.underlying284 Tryz.underlying285 Tryz.underlying286 Tryz.underlying287 Tryz.underlying288 Tryz.underlying289 Tryz.underlying290 Tryz.underlying291 Tryz.underlying292 Tryz.underlying293 Tryz.underlying294 Tryz.underlying295 Tryz.underlying296 Tryz.underlying297 Tryz.underlying298 Tryz.underlying299 Tryz.underlying300 Tryz.underlying301 Tryz.underlying302 Tryz.underlying303 Tryz.underlying304 Tryz.underlying305 Tryz.underlying306 Tryz.underlying307 Tryz.underlying308 Tryz.underlying309 Tryz.underlying310 Tryz.underlying311 Tryz.underlying312 Tryz.underlying313 Tryz.underlying314 Tryz.underlying315 Tryz.underlying316 Tryz.underlying317 Tryz.underlying318 Tryz.underlying319 Tryz.underlying320 Tryz.underlying321 Tryz.underlying322 Tryz.underlying323 Tryz.underlying324 Tryz.underlying325 Tryz.underlying326 Tryz.underlying327 Tryz.underlying328 Tryz.underlying329 Tryz.underlying330 Tryz.underlying331 Tryz.underlying332 Tryz.underlying333 Tryz.underlying334 Tryz.underlying335 Tryz.underlying336 Tryz.underlying337 Tryz.underlying338 Tryz.underlying339 Tryz.underlying340 Tryz.underlying341 Tryz.underlying342 Tryz.underlying343 Tryz.underlying344
theorem mixed : Tryz.prog.follows .mixedOrders = true := by kernel_rfl
end Go.Proofs.YtbomkomipaipmaaGreat
namespace Go.Proofs.YtbomkomipaipmaaGreat
open Go.RowKit (wrap64)

end Go.Proofs.YtbomkomipaipmaaGreat
namespace Go.Proofs.YtbomkomipaipmaaGreat

theorem names_ac (a n : Int) (η : AHeap) (m : Nat) : AC Tryz.prog 154 [.int .i64 a, .int .i64 n] η m (Rt (.bool (decide (0 ≤ a ∧ a < n))) η m) := by
  refine AC.enter Tryz.func154 rfl Tryz.ntmps154 (by simp) ?_
  simp
  refine CondP.dec (fun h => ?_) (fun h => ?_) <;> simp [h] <;> exact resK.rt (by simp [Rt, h])
def clipF (n : Int) : Int := min (max n 0) 1099511627776
theorem clip_ac (a : Int) (η : AHeap) (m : Nat) : AC Tryz.prog 199 [.int .i64 a] η m (Rt (.int .i64 (clipF a)) η m) := by
  refine AC.enter Tryz.func199 rfl Tryz.ntmps199 (by simp) ?_
  simp
  exact resK.rt ⟨rfl, rfl, rfl⟩
def dueF (u now : Int) : Bool := decide (0 ≤ u ∧ u ≤ clipF now)
theorem due_ac (u now : Int) (η : AHeap) (m : Nat) : AC Tryz.prog 153 [.int .i64 u, .int .i64 now] η m (Rt (.bool (dueF u now)) η m) := by
  refine AC.enter Tryz.func153 rfl Tryz.ntmps153 (by simp) ?_
  simp
  refine CondP.dec (fun h => ?_) (fun h => ?_)
  · simp [h]
    refine ACK.rt (clip_ac _ _ _) ?_
    simp
    exact resK.rt (by simp [Rt, h, dueF])
  · simp [h]
    exact resK.rt (by simp [Rt, h, dueF])
def truthF (b : Bool) : Int := if b then 1 else 0
theorem truth_ac (b : Bool) (η : AHeap) (m : Nat) : AC Tryz.prog 215 [.bool b] η m (Rt (.int .i64 (truthF b)) η m) := by
  refine AC.enter Tryz.func215 rfl Tryz.ntmps215 (by simp) ?_
  simp
  cases b <;> simp <;> exact resK.rt ⟨rfl, rfl, rfl⟩
def divF (op a b : Int) : Int × Int := if b = 0 then (0, 15) else if op = 9 then (IntKind.i64.wrap (a.tdiv b), 0) else (a.tmod b, 0)
theorem divide_ac (op a b : Int) (η : AHeap) (m : Nat) (_ : op = 9 ∨ op = 10) : AC Tryz.prog 255 [.int .i64 op, .int .i64 a, .int .i64 b] η m (Rt (.tup [.int .i64 (divF op a b).1, .int .i64 (divF op a b).2]) η m) := by
  refine AC.enter Tryz.func255 rfl Tryz.ntmps255 (by simp) ?_
  simp
  refine CondP.dec (fun h => ?_) (fun h => ?_)
  · simp [h]
    exact resK.rt (by simp [Rt, h, divF])
  · simp [h]
    refine CondP.dec (fun h1 => ?_) (fun h1 => ?_)
    · subst h1
      simp
      refine CondP.dec (fun h2 => ?_) (fun h2 => ?_)
      · simp [h2]
        exact resK.rt (by simp [Rt, h2, divF, Int.tdiv_neg])
      · simp [h2]
        exact resK.rt (by simp [Rt, h2, divF, Int.tmod_neg])
    · simp [h1]
      refine CondP.dec (fun h2 => ?_) (fun h2 => ?_)
      · simp [h2, h]
        exact resK.rt (by simp [Rt, h2, divF, h])
      · simp [h2, h]
        exact resK.rt (by simp [Rt, h2, divF, h])
def orB (a b : Int) : Bool := !decide (bitF .or .i64 a b = 0)
def twoF (op a b : Int) : Int × Int :=
  if op = 6 then (IntKind.i64.wrap (a + b), 0) else if op = 7 then (IntKind.i64.wrap (a - b), 0) else if op = 8 then (IntKind.i64.wrap (a * b), 0) else if op = 9 ∨ op = 10 then divF op a b
  else if op = 11 then (truthF (decide (a < b)), 0) else if op = 12 then (truthF (decide (a = b)), 0) else if op = 14 then (truthF (decide (a ≠ 0 ∧ b ≠ 0)), 0) else if op = 15 then (truthF (orB a b), 0) else (0, 9)
theorem two_ac (op a b : Int) (η : AHeap) (m : Nat) : AC Tryz.prog 201 [.int .i64 op, .int .i64 a, .int .i64 b] η m (Rt (.tup [.int .i64 (twoF op a b).1, .int .i64 (twoF op a b).2]) η m) := by
  refine AC.enter Tryz.func201 rfl Tryz.ntmps201 (by simp) ?_
  simp
  refine CondP.dec (fun h => ?_) (fun h6 => ?_)
  · subst h; simp; exact resK.rt (by simp [Rt, twoF])
  simp [h6]
  refine CondP.dec (fun h => ?_) (fun h7 => ?_)
  · subst h; simp; exact resK.rt (by simp [Rt, twoF])
  simp [h7]
  refine CondP.dec (fun h => ?_) (fun h8 => ?_)
  · subst h; simp; exact resK.rt (by simp [Rt, twoF])
  simp [h8]
  have hd : ∀ (hop : op = 9 ∨ op = 10), twoF op a b = divF op a b := fun hop => by rcases hop with h | h <;> subst h <;> simp [twoF]
  refine CondP.dec (fun h => ?_) (fun h9 => ?_)
  · have := hd (Or.inl h)
    simp [h]
    refine ACK.rt (divide_ac 9 a b η m (Or.inl rfl)) ?_
    subst h
    simp
    exact resK.rt (by simp [Rt, this])
  simp [h9]
  refine CondP.dec (fun h => ?_) (fun h10 => ?_)
  · have := hd (Or.inr h)
    simp [h]
    refine ACK.rt (divide_ac 10 a b η m (Or.inr rfl)) ?_
    subst h
    simp
    exact resK.rt (by simp [Rt, this])
  simp [h10]
  refine CondP.dec (fun h => ?_) (fun h11 => ?_)
  · subst h; simp
    refine ACK.rt (truth_ac _ _ _) ?_
    simp; exact resK.rt (by simp [Rt, twoF])
  simp [h11]
  refine CondP.dec (fun h => ?_) (fun h12 => ?_)
  · subst h; simp
    refine ACK.rt (truth_ac _ _ _) ?_
    simp; exact resK.rt (by simp [Rt, twoF])
  simp [h12]
  refine CondP.dec (fun h => ?_) (fun h14 => ?_)
  · subst h; simp
    refine CondP.ndec (fun h => ?_) (fun h => ?_)
    · simp [h]
      refine ACK.rt (truth_ac _ _ _) ?_
      simp; exact resK.rt (by simp [Rt, twoF, h])
    · simp [h]
      refine ACK.rt (truth_ac _ _ _) ?_
      simp; exact resK.rt (by simp [Rt, twoF, h])
  simp [h14]
  refine CondP.dec (fun h => ?_) (fun h15 => ?_)
  · subst h; simp
    refine ACK.rt (truth_ac _ _ _) ?_
    simp; exact resK.rt (by simp [Rt, twoF, orB])
  simp [h15]
  exact resK.rt (by simp [Rt, twoF, *])
end Go.Proofs.YtbomkomipaipmaaGreat
namespace Go.Proofs
open Go.Shelf
def Tryz.sortL_ren : Go.Shelf.Ren := ⟨fun | 5 => 45 | 8 => 95 | 7 => 94 | 19 => 150 | 20 => 151 | 10 => 141 | 11 => 142 | 12 => 143 | 13 => 144 | 14 => 145 | 15 => 146 | 16 => 147 | 17 => 148 | 18 => 149 | 30 => 192 | 31 => 193 | 32 => 194 | 33 => 195 | 34 => 196 | 35 => 197 | 40 => 253 | n => n, fun | 23 => 34 | 25 => 2 | 3 => 3 | 32 => 78 | 22 => 34 | 0 => 0 | 44 => 246 | 46 => 101 | 4 => 4 | 36 => 238 | 35 => 237 | 41 => 243 | 5 => 5 | 9 => 9 | 53 => 281 | 57 => 284 | 63 => 311 | 64 => 312 | n => n, fun | n => n⟩
theorem Tryz.sortL : Go.Proofs.SlLaysM.n5 Tryz.prog Tryz.sortL_ren := {
  mixed := by kernel_rfl
  f5 := ⟨Tryz.f45.name, by decide, Tryz.func45.trans (congrArg some (by kernel_rfl))⟩
  f7 := ⟨Tryz.f94.name, by decide, Tryz.func94.trans (congrArg some (by kernel_rfl))⟩
  f8 := Tryz.func95.trans (congrArg some (by kernel_rfl))
  f10 := ⟨Tryz.f141.name, by decide, Tryz.func141.trans (congrArg some (by kernel_rfl))⟩
  f11 := ⟨Tryz.f142.name, by decide, Tryz.func142.trans (congrArg some (by kernel_rfl))⟩
  f12 := ⟨Tryz.f143.name, by decide, Tryz.func143.trans (congrArg some (by kernel_rfl))⟩
  f13 := ⟨Tryz.f144.name, by decide, Tryz.func144.trans (congrArg some (by kernel_rfl))⟩
  f14 := ⟨Tryz.f145.name, by decide, Tryz.func145.trans (congrArg some (by kernel_rfl))⟩
  f15 := ⟨Tryz.f146.name, by decide, Tryz.func146.trans (congrArg some (by kernel_rfl))⟩
  f16 := ⟨Tryz.f147.name, by decide, Tryz.func147.trans (congrArg some (by kernel_rfl))⟩
  f17 := ⟨Tryz.f148.name, by decide, Tryz.func148.trans (congrArg some (by kernel_rfl))⟩
  f18 := ⟨Tryz.f149.name, by decide, Tryz.func149.trans (congrArg some (by kernel_rfl))⟩
  f19 := Tryz.func150.trans (congrArg some (by kernel_rfl))
  f20 := Tryz.func151.trans (congrArg some (by kernel_rfl))
  f30 := ⟨Tryz.f192.name, by decide, Tryz.func192.trans (congrArg some (by kernel_rfl))⟩
  f31 := Tryz.func193.trans (congrArg some (by kernel_rfl))
  f32 := Tryz.func194.trans (congrArg some (by kernel_rfl))
  f33 := ⟨Tryz.f195.name, by decide, Tryz.func195.trans (congrArg some (by kernel_rfl))⟩
  f34 := ⟨Tryz.f196.name, by decide, Tryz.func196.trans (congrArg some (by kernel_rfl))⟩
  f35 := ⟨Tryz.f197.name, by decide, Tryz.func197.trans (congrArg some (by kernel_rfl))⟩
  f40 := ⟨Tryz.f253.name, by decide, Tryz.func253.trans (congrArg some (by kernel_rfl))⟩
  t0 := Tryz.underlying0
  a0 := Tryz.isAgg0
  z0 := Tryz.sizeOf0
  v0 := Tryz.zeroValue0
  t3 := Tryz.underlying3
  a3 := Tryz.isAgg3
  z3 := Tryz.sizeOf3
  v3 := Tryz.zeroValue3
  t4 := Tryz.underlying4
  a4 := Tryz.isAgg4
  z4 := Tryz.sizeOf4
  v4 := Tryz.zeroValue4
  t5 := Tryz.underlying5
  a5 := Tryz.isAgg5
  z5 := Tryz.sizeOf5
  v5 := Tryz.zeroValue5
  t9 := Tryz.underlying9
  a9 := Tryz.isAgg9
  z9 := Tryz.sizeOf9
  v9 := Tryz.zeroValue9
  t22 := Tryz.underlying34
  a22 := Tryz.isAgg34
  z22 := Tryz.sizeOf34
  v22 := Tryz.zeroValue34
  t23 := Tryz.underlying34
  a23 := Tryz.isAgg34
  z23 := Tryz.sizeOf34
  v23 := Tryz.zeroValue34
  t25 := Tryz.underlying2
  a25 := Tryz.isAgg2
  z25 := Tryz.sizeOf2
  v25 := Tryz.zeroValue2
  t32 := Tryz.underlying78
  a32 := Tryz.isAgg78
  z32 := Tryz.sizeOf78
  v32 := Tryz.zeroValue78
  t35 := Tryz.underlying237
  a35 := Tryz.isAgg237
  z35 := Tryz.sizeOf237
  v35 := Tryz.zeroValue237
  t36 := Tryz.underlying238
  a36 := Tryz.isAgg238
  z36 := Tryz.sizeOf238
  v36 := Tryz.zeroValue238
  t41 := Tryz.underlying243
  a41 := Tryz.isAgg243
  z41 := Tryz.sizeOf243
  v41 := Tryz.zeroValue243
  t44 := Tryz.underlying246
  a44 := Tryz.isAgg246
  z44 := Tryz.sizeOf246
  v44 := Tryz.zeroValue246
  t46 := Tryz.underlying101
  a46 := Tryz.isAgg101
  z46 := Tryz.sizeOf101
  v46 := Tryz.zeroValue101
  t53 := Tryz.underlying281
  a53 := Tryz.isAgg281
  z53 := Tryz.sizeOf281
  v53 := Tryz.zeroValue281
  t57 := Tryz.underlying284
  a57 := Tryz.isAgg284
  z57 := Tryz.sizeOf284
  v57 := Tryz.zeroValue284
  t63 := Tryz.underlying311
  a63 := Tryz.isAgg311
  z63 := Tryz.sizeOf311
  v63 := Tryz.zeroValue311
  t64 := Tryz.underlying312
  a64 := Tryz.isAgg312
  z64 := Tryz.sizeOf312
  v64 := Tryz.zeroValue312 }
end Go.Proofs
namespace Go.Proofs.YtbomkomipaipmaaGreat
open Go.Sort

def sorted (l : List Int) : List Int := l.mergeSort fun x y => decide (x ≤ y)
theorem sorted_perm (l : List Int) : (sorted l).Perm l := List.mergeSort_perm l _
@[simp] theorem sorted_length (l : List Int) : (sorted l).length = l.length := (sorted_perm l).length_eq
theorem sorted_pair (l : List Int) : (sorted l).Pairwise (· ≤ ·) := by
  have := List.pairwise_mergeSort (le := fun (x y : Int) => decide (x ≤ y)) (fun a b c h1 h2 => by simp at *; omega) (fun a b => by simp; omega) l
  exact this.imp fun h => by simpa using h

theorem heap_putRow (w : World) (b off : Nat) (d : Array Int) (c : Nat) : (putRow (Value.int .i64) w b off d).heap[c]? = if c = b then (w.heap[b]?).map (onCells (putCells (Value.int .i64) off d)) else w.heap[c]? := by
  unfold putRow mapBlock
  simp only [Array.getElem?_modify]
  by_cases h : c = b
  · subst h; simp
  · rw [if_neg h, if_neg (fun e => h e.symm)]

/-- what a sort leaves -/
theorem sort_st {own : Own} {M : Mem} {η : AHeap} {n : Nat} {w : World} (hst : St own M η n w) {r o m : Nat} {L : List Int} {p : Spot} (hη : η r = some (.cells 1 (ints L))) (hp : own r = some p) (hm : 0 < m) (hom : o + m ≤ L.length) {S : List Int} (hS : S.length = m) (k : Nat) (os : Array Obj) :
    St own M (upd η r (some (.cells 1 (ints (L.take o ++ S ++ L.drop (o + m)))))) n (grow (putRow (Value.int .i64) (Sort.ahead w k) p.b (p.s + o) S.toArray) os) ∧ Fr (OB own η) w (grow (putRow (Value.int .i64) (Sort.ahead w k) p.b (p.s + o) S.toArray) os) := by
  obtain ⟨p', g1, g2⟩ := hst.obj r _ hη
  rw [hp] at g1; cases g1
  obtain ⟨e1, hk, hrows, hle, hreal, hcell⟩ := g2
  simp only [ints_length, Nat.mul_one] at hle
  have hre : p.s < p.e := by omega
  obtain ⟨hM, arr, T, hh, hea⟩ := hreal hre
  have hob : OB own η p.b := ⟨r, p, _, hη, hp, hre, rfl⟩
  have hw : ∀ c, (putRow (Value.int .i64) (Sort.ahead w k) p.b (p.s + o) S.toArray).heap[c]? = if c = p.b then some (.cells (putCells (Value.int .i64) (p.s + o) S.toArray arr) T (0, 0)) else w.heap[c]? := fun c => by
    rw [heap_putRow]
    have : (Sort.ahead w k).heap = w.heap := rfl
    rw [this]
    split
    · rw [hh]; rfl
    · rfl
  generalize hW : putRow (Value.int .i64) (Sort.ahead w k) p.b (p.s + o) S.toArray = w1 at hw
  have hwo : w1.os = w.os ∧ w1.tape = w.tape ∧ w1.output = w.output ∧ w1.heap.size = w.heap.size := by
    rw [← hW]; exact ⟨rfl, rfl, rfl, by simp [putRow, mapBlock, Sort.ahead]⟩
  have hsz : (putCells (Value.int .i64) (p.s + o) S.toArray arr).size = arr.size := by simp [putCells]
  have h1 : St own M (upd η r (some (.cells 1 (ints (L.take o ++ S ++ L.drop (o + m)))))) n w1 := by
    refine hst.turn hη hp ⟨e1, hk, fun row hr => by obtain ⟨x, _, rfl⟩ := List.mem_map.1 hr; rfl, by simp; omega, fun _ => ⟨hM, _, T, (hw p.b).trans (if_pos rfl), by rw [hsz]; exact hea⟩, fun i j row c hi hj => ?_⟩ (fun b hb => by rw [hw b, if_neg hb]) hre
    have hil := (List.getElem?_eq_some_iff.1 hi).1
    simp only [ints_length] at hil
    rw [ints_get] at hi
    cases hx : (L.take o ++ S ++ L.drop (o + m))[i]? with
    | none => rw [hx] at hi; simp at hi
    | some x =>
      rw [hx] at hi; simp at hi; subst hi
      have hj0 : j = 0 := by have := (List.getElem?_eq_some_iff.1 hj).1; simp at this; omega
      subst hj0
      simp at hj; subst hj
      have hlt : i < L.length := by simp at hil; omega
      have ha : p.s + i * 1 + 0 < arr.size := by omega
      have hc1 : w1.cell? ⟨p.b, p.s + i * 1 + 0, none⟩ = some ((putCells (Value.int .i64) (p.s + o) S.toArray arr)[p.s + i * 1 + 0]'(by rw [hsz]; exact ha)) := by
        rw [World.cell?, (hw p.b).trans (if_pos rfl)]
        simp only [Option.isSome_none, Bool.false_eq_true, if_false]
        exact Array.getElem?_eq_getElem _
      refine ⟨_, hc1, ?_⟩
      simp only [putCells, Array.getElem_mapIdx, Nat.mul_one, Nat.add_zero, List.size_toArray]
      by_cases hin : o ≤ i ∧ i < o + m
      · rw [if_pos (by omega)]
        have e2 : p.s + i - (p.s + o) = i - o := by omega
        rw [e2]
        have : S.toArray[i - o]! = x := by
          rw [List.append_assoc, List.getElem?_append_right (by simp; omega), List.getElem?_append_left (by simp; omega)] at hx
          have e3 : i - (L.take o).length = i - o := by simp; omega
          rw [e3] at hx
          have hio : i - o < S.length := by omega
          rw [List.getElem?_eq_getElem hio] at hx
          simp at hx
          rw [getElem!_pos _ _ (by simpa using hio)]
          simpa using hx
        rw [this]; exact .int _ _
      · rw [if_neg (by omega)]
        have hx' : L[i]? = some x := by
          rcases Nat.lt_or_ge i o with h | h
          · rw [List.append_assoc, List.getElem?_append_left (by simp; omega), List.getElem?_take, if_pos h] at hx; exact hx
          · rw [List.getElem?_append_right (by simp; omega), List.getElem?_drop] at hx
            have e4 : o + m + (i - (L.take o ++ S).length) = i := by simp; omega
            rw [e4] at hx; exact hx
        obtain ⟨v, k1, k2⟩ := hcell i 0 [.int .i64 x] (.int .i64 x) (by rw [ints_get, hx']; rfl) rfl
        rw [World.cell?, hh] at k1
        simp only [Option.isSome_none, Bool.false_eq_true, if_false, Nat.mul_one, Nat.add_zero] at k1
        rw [Array.getElem?_eq_getElem (by omega)] at k1
        cases k1
        exact k2
  have hg : ∀ b, b < w.heap.size → (grow w1 os).heap[b]? = w1.heap[b]? := fun b hb => by
    show (w1.heap ++ os)[b]? = _
    rw [Array.getElem?_append_left (by rw [hwo.2.2.2]; exact hb)]
  refine ⟨h1.world (fun b hb => hg b (by have := OB.lt h1 hb; rwa [hwo.2.2.2] at this)) fun b a hMb => hg b (hst.mem_lt hMb), hwo.1, hwo.2.1, hwo.2.2.1, by show w.heap.size ≤ (w1.heap ++ os).size; simp [hwo.2.2.2], fun b hb hd => ?_⟩
  rw [hg b hb, hw b, if_neg (fun e : b = p.b => hd (e ▸ hob))]

theorem sort_ac {η : AHeap} {n r o m : Nat} {L : List Int} (hη : η r = some (.cells 1 (ints L))) (hom : o + m ≤ L.length) (hl : m ≤ lenMax) :
    AC Tryz.prog 45 [.sl r o m] η n (fun _ η' n' => η' = upd η r (some (.cells 1 (ints (L.take o ++ sorted ((L.drop o).take m) ++ L.drop (o + m))))) ∧ n' = n) := by
  intro own M w vals hst hsz hv
  obtain ⟨v, rfl⟩ : ∃ v, vals = #[v] := by
    obtain ⟨l⟩ := vals
    match l, hsz with
    | [v], _ => exact ⟨v, rfl⟩
  have hv0 : VR own M _ v := hv 0 _ rfl
  obtain ⟨p, g1, g2⟩ := hst.obj r _ hη
  cases hv0 with
  | sl _ _ _ p' a cap hp hn hm hc =>
  rw [g1] at hp; cases hp
  rcases Nat.eq_zero_or_pos m with h0 | h0
  · subst h0
    refine (AnyM.slices_Sort_int_none Tryz.sortL a cap w : Calls Tryz.prog 45 _ _ _).mono fun e w' ⟨h1, h2⟩ => ?_
    subst h2
    have e : upd η r (some (.cells 1 (ints (L.take o ++ sorted ((L.drop o).take 0) ++ L.drop (o + 0))))) = η := by
      simp only [List.take_zero, Nat.add_zero]
      rw [show sorted [] = [] from by simp [sorted], List.append_nil, List.take_append_drop]
      funext q
      by_cases hq : q = r
      · subst hq; rw [upd_eq, hη]
      · rw [upd_ne hq]
    exact ⟨_, h1, .undef, η, n, own, M, ⟨e.symm, rfl⟩, Nat.le_refl _, hst, .undef _, Own.le_refl _, Mem.le_refl _, Fr.refl _ _, fun b hb => Or.inl hb, fun b hb => Or.inl hb⟩
  · obtain ⟨ha, hfit⟩ := hc (by omega)
    subst ha
    obtain ⟨e1, hk, hrows, hle, hreal, hcell⟩ := id g2
    simp only [ints_length, Nat.mul_one] at hle
    have hre : p.s < p.e := by omega
    obtain ⟨hM, arr, T, hh, hea⟩ := hreal hre
    have hzl : ((L.drop o).take m).length = m := by simp; omega
    have hH : Holds (Value.int .i64) w p.b (p.s + o) ((L.drop o).take m).toArray := fun j hj => by
      simp only [List.size_toArray, hzl] at hj
      have hx : L[o + j]? = some (L[o + j]'(by omega)) := List.getElem?_eq_getElem _
      obtain ⟨v, k1, k2⟩ := hcell (o + j) 0 [.int .i64 (L[o + j]'(by omega))] (.int .i64 (L[o + j]'(by omega))) (by rw [ints_get, hx]; rfl) rfl
      cases k2
      refine ⟨?_, by simp [World.frozen?, hh]⟩
      have e2 : p.s + (o + j) * 1 + 0 = p.s + o + j := by omega
      rw [e2] at k1
      rw [k1, getElem!_pos _ _ (by simpa [hzl] using hj)]
      simp [List.getElem_take, List.getElem_drop]
    have hcall := AnyM.slices_Sort_int Tryz.sortL p.b (p.s + o) cap ((L.drop o).take m) w hH (g2.lt hre) (by rw [hzl]; unfold lenMax at hl; omega)
    rw [hzl] at hcall
    rw [e1, Nat.mul_one]
    refine (hcall : Calls Tryz.prog 45 _ _ _).mono fun e w' ⟨h1, k, os, h2⟩ => ?_
    subst h2
    obtain ⟨s1, s2⟩ := sort_st hst hη g1 h0 hom (S := sorted ((L.drop o).take m)) (by rw [sorted_length, hzl]) k os
    exact ⟨_, h1, .undef, _, n, own, M, ⟨rfl, rfl⟩, Nat.le_refl _, s1, .undef _, Own.le_refl _, Mem.le_refl _, s2, fun b hb => Or.inl (OB.turn hη hb), fun b hb => Or.inl hb⟩
theorem sort_nil_ac (η : AHeap) (n : Nat) : AC Tryz.prog 45 [.nils] η n (fun _ η' n' => η' = η ∧ n' = n) := by
  intro own M w vals hst hsz hv
  obtain ⟨v, rfl⟩ : ∃ v, vals = #[v] := by
    obtain ⟨l⟩ := vals
    match l, hsz with
    | [v], _ => exact ⟨v, rfl⟩
  have hv0 : VR own M _ v := hv 0 _ rfl
  cases hv0
  refine (AnyM.slices_Sort_int_none Tryz.sortL none 0 w : Calls Tryz.prog 45 _ _ _).mono fun e w' ⟨h1, h2⟩ => ?_
  subst h2
  exact ⟨_, h1, .undef, η, n, own, M, ⟨rfl, rfl⟩, Nat.le_refl _, hst, .undef _, Own.le_refl _, Mem.le_refl _, Fr.refl _ _, fun b hb => Or.inl hb, fun b hb => Or.inl hb⟩
end Go.Proofs.YtbomkomipaipmaaGreat
namespace Go.Proofs.YtbomkomipaipmaaGreat
set_option maxRecDepth 100000

def toF : List (Int × Int) → Int → Int × Bool
  | [], _ => (0, false)
  | c :: r, tag => if c.1 = tag then (c.2, true) else toF r tag
theorem to_ac (t : Tbl) (tag : Int) (η : AHeap) (m : Nat) (hl : t.cls.length ≤ 17592186044416) : AC Tryz.prog 198 [.agg (tblC t), .int .i64 tag] η m (Rt (.tup [.int .i64 (toF t.cls tag).1, .bool (toF t.cls tag).2]) η m) := by
  refine AC.pure (.tup _ (by simp; exact ⟨.int _ _, .bool _⟩)) ?_
  refine AC.fresh fun hf => ?_; refine AC.enter Tryz.func198 rfl Tryz.ntmps198 (by simp) ?_
  simp [tblC, aload, afield, apart, upd_eq, alenT]
  refine loopK.inv [4, 5, 7, 11, 12, 13, 14, 15, 16, 17, 18, 19, 20, 21] (fun x : Nat × Nat => x.1 ≤ t.cls.length ∧ m ≤ x.2 ∧ toF (t.cls.drop x.1) tag = toF t.cls tag) (fun x => [(11, .int .i64 x.1)]) (fun _ => η) (fun x => x.2) (fun x => t.cls.length - x.1) (0, m + 1) (by simp) (by simp) (by simp [le_upd_iff, hf]) (by simp) ?_
  intro ⟨k, q⟩ ⟨h1, h2, h3⟩
  simp only at h1 h2 h3
  simp
  refine CondP.dec (fun h => ?_) (fun h => ?_)
  · have hd : t.cls.drop k = t.cls[k] :: t.cls.drop (k + 1) := List.drop_eq_getElem_cons h
    rw [hd, toF] at h3
    simp [h, aindex, aload, apart, astore, upd_eq, upd_upd, afield]
    refine CondP.dec (fun h4 => ?_) (fun h4 => ?_)
    · rw [if_pos h4] at h3
      simp [h4, aload, afield, apart, upd_eq]
      refine resK.of (η' := η) (by simp [le_upd_iff, hf q h2]) _ (Nat.le_refl _) ?_
      simp [← h3]
    · rw [if_neg h4] at h3
      simp [h4]
      rw [wrap_id (by omega) (by omega)]
      refine endK.intro (k + 1, q + 1) ⟨by omega, by omega, h3⟩ (by simp) (by repeat (first | exact Agree.mask _ _ | refine Agree.setf rfl ?_ | refine Agree.inner rfl ?_)) (by simp [le_upd_iff, hf q h2]) (by simp) (by simp; omega)
  · simp [h]
    refine resK.same (n' := q) ?_ (Nat.le_refl _)
    have : t.cls.drop k = [] := List.drop_eq_nil_of_le (by omega)
    rw [this, toF] at h3
    simp [← h3]

/-- the place of the first message that a table has a clause for, and where that goes -/
def matchF (cls : List (Int × Int)) : List (Int × Int) → Int → Int × Int × Bool
  | [], _ => (0, 0, false)
  | m :: r, i => if (toF cls m.1).2 = true then (i, (toF cls m.1).1, true) else matchF cls r (i + 1)
theorem match_ac (t : Tbl) (box : List (Int × Int)) (η : AHeap) (m : Nat) (hl : t.cls.length ≤ 17592186044416) (hb : box.length ≤ 17592186044416) : AC Tryz.prog 152 [.agg (tblC t), .rs 2 (pairs box)] η m
    (Rt (.tup [.int .i64 (matchF t.cls box 0).1, .int .i64 (matchF t.cls box 0).2.1, .bool (matchF t.cls box 0).2.2]) η m) := by
  refine AC.pure (.tup _ (by simp; exact ⟨.int _ _, .int _ _, .bool _⟩)) ?_
  refine AC.fresh fun hf => ?_; refine AC.enter Tryz.func152 rfl Tryz.ntmps152 (by simp) ?_
  simp [tblC, alenT]
  refine loopK.inv [4, 5, 6, 7, 8, 11, 12, 13, 14, 15, 16, 17, 18, 19, 20, 21, 22, 23, 24, 25, 26] (fun x : Nat × Nat => x.1 ≤ box.length ∧ m + 1 ≤ x.2 ∧ matchF t.cls (box.drop x.1) x.1 = matchF t.cls box 0) (fun x => [(11, .int .i64 x.1)]) (fun _ => upd η m (some (.cells 2 [tblC t]))) (fun x => x.2) (fun x => box.length - x.1) (0, m + 1) (by simp) (by simp) (by simp [tblC, AHeap.le]) (by simp) ?_
  intro ⟨k, q⟩ ⟨h1, h2, h3⟩
  simp only at h1 h2 h3
  have hmq : m ≠ q := by omega
  have hq0 := hf q (by omega)
  simp
  refine CondP.dec (fun h => ?_) (fun h => ?_)
  · have hd : box.drop k = box[k] :: box.drop (k + 1) := List.drop_eq_getElem_cons h
    rw [hd, matchF] at h3
    simp [h, aindex, aload, apart, astore, upd_eq, upd_upd, upd_ne hmq, afield, tblC]
    refine ACK.rt (to_ac t box[k].1 _ _ hl) ?_
    simp
    have hup : (upd η m (some (.cells 2 [tblC t]))).le (upd (upd η m (some (.cells 2 [tblC t]))) q (some (.cells 2 [[.int .i64 box[k].1, .int .i64 box[k].2]]))) := le_upd (AHeap.le_rfl _) (by rw [upd_ne (Ne.symm hmq)]; exact hq0)
    refine CondP.intro (fun h4 => ?_) (fun h4 => ?_)
    · rw [if_pos h4] at h3
      simp [h4]
      refine resK.of (η' := η) (by simp [le_upd_iff, hf q (by omega), hf m (Nat.le_refl _)]) _ (Nat.le_refl _) ?_
      simp [← h3]
    · rw [if_neg (by simp [h4])] at h3
      simp [h4]
      rw [wrap_id (by omega) (by omega)]
      refine endK.intro (k + 1, q + 1) ⟨by omega, by omega, by simpa using h3⟩ (by simp) (by repeat (first | exact Agree.mask _ _ | refine Agree.setf rfl ?_ | refine Agree.inner rfl ?_)) hup (by simp) (by simp; omega)
  · simp [h]
    refine resK.of (η' := η) (by simp [le_upd_iff, hf m (Nat.le_refl _)]) _ (Nat.le_refl _) ?_
    have : box.drop k = [] := List.drop_eq_nil_of_le (by omega)
    rw [this, matchF] at h3
    simp [← h3]

/-- a list of numbers, read only or in a row of one's own -/
def IsL (η : AHeap) (v : AVal) (l : List Int) : Prop := v = .rs 1 (ints l) ∨ (v = .nils ∧ l = []) ∨ ∃ r o I J, v = .sl r o l.length ∧ o = I.length ∧ η r = some (.cells 1 (ints (I ++ (l ++ J))))
theorem IsL.sc {η : AHeap} {v : AVal} {l : List Int} (h : IsL η v l) : v.sc = true := by
  rcases h with rfl | ⟨rfl, _⟩ | ⟨r, o, I, J, rfl, _⟩ <;> rfl
theorem IsL.ac {η : AHeap} {v : AVal} {l : List Int} (h : IsL η v l) : acells v = [v] := by
  rcases h with rfl | ⟨rfl, _⟩ | ⟨r, o, I, J, rfl, _⟩ <;> rfl
theorem IsL.len {P : Program} {η : AHeap} {v : AVal} {l : List Int} (h : IsL η v l) {t : TypeId} (ht : isSlT P t = true) (η' : AHeap) : alenT P t v η' = some (l.length : Int) := by
  rcases h with rfl | ⟨rfl, rfl⟩ | ⟨r, o, I, J, rfl, _⟩
  · rw [alen_rs P t _ _ _ ht]; simp
  · rw [alen_nils P t _ ht]; rfl
  · rw [alen_sl P t _ _ _ _ ht]
def actr (m : List Actr) (k : Int) : Actr := m.getD k.toNat ⟨[], [], [], [], []⟩
def ins (a : Actr) (pc : Int) : Int × Int := a.code.getD pc.toNat (0, 0)
def tbl (a : Actr) (k : Int) : Tbl := a.tabs.getD k.toNat ⟨[], 0⟩
/-- is a state? -/
def soundF (m : List Actr) (s : Sta) : Bool :=
  decide (0 ≤ s.actor ∧ s.actor < m.length ∧ 0 ≤ s.pc ∧ s.pc < (actr m s.actor).code.length ∧ s.regs.length = (actr m s.actor).regs.length ∧ s.stack.length ≤ 16 ∧
    (s.waiting = true → (ins (actr m s.actor) s.pc).1 = 21 ∧ 0 ≤ (ins (actr m s.actor) s.pc).2 ∧ (ins (actr m s.actor) s.pc).2 < (actr m s.actor).tabs.length))
theorem sound_ac (m : List Actr) (s : Sta) (η : AHeap) (n : Nat) {sv rv : AVal} {η0 : AHeap} (k1 : IsL η0 sv s.stack) (k2 : IsL η0 rv s.regs) : AC Tryz.prog 97 [modV m, .agg (stC s sv rv)] η n (Rt (.bool (soundF m s)) η n) := by
  refine AC.pure (.bool _) ?_
  obtain ⟨sa, sp, ss, sr, sw, su⟩ := s
  have l1 : ∀ η', alenT Tryz.prog 34 sv η' = some (ss.length : Int) := k1.len (by simp)
  have l2 : ∀ η', alenT Tryz.prog 34 rv η' = some (sr.length : Int) := k2.len (by simp)
  have s1 := k1.sc
  have s2 := k2.sc
  have d1 := k1.ac
  have d2 := k2.ac
  refine AC.fresh fun hf => ?_
  have e0 := hf n (Nat.le_refl _)
  have e1 := hf (n + 1) (by omega)
  have e2 := hf (n + 1 + 1) (by omega)
  by_cases c1 : sa < 0
  · refine AC.enter Tryz.func97 rfl Tryz.ntmps97 (by simp) ?_
    simp [modV, stC, aload, afield, apart, upd_eq, s1, s2, c1]
    exact resK.of (η' := η) (by simp [le_upd_iff, e0, e1]) _ (Nat.le_refl _) ⟨by simp [soundF]; omega, rfl⟩
  by_cases c2 : (m.length : Int) ≤ sa
  · refine AC.enter Tryz.func97 rfl Tryz.ntmps97 (by simp) ?_
    simp [modV, stC, aload, afield, apart, upd_eq, upd_ne, s1, s2, c1, c2]
    exact resK.of (η' := η) (by simp [le_upd_iff, e0, e1]) _ (Nat.le_refl _) ⟨by simp [soundF]; omega, rfl⟩
  obtain ⟨j, rfl⟩ : ∃ j : Nat, sa = (j : Int) := ⟨sa.toNat, by omega⟩
  have hj : j < m.length := by omega
  have ea : actr m (j : Int) = m[j] := by unfold actr; simp [List.getD_eq_getElem?_getD, hj]
  have hs : soundF m ⟨j, sp, ss, sr, sw, su⟩ = decide (0 ≤ sp ∧ sp < m[j].code.length ∧ sr.length = m[j].regs.length ∧ ss.length ≤ 16 ∧ (sw = true → (ins m[j] sp).1 = 21 ∧ 0 ≤ (ins m[j] sp).2 ∧ (ins m[j] sp).2 < m[j].tabs.length)) := by
    simp only [soundF, ea]
    have : (j : Int) < m.length := by omega
    simp [this]
  rw [hs]
  have c1' : ¬ ((j : Int) < 0) := c1
  have hle : ∀ o1 o2 o3, η.le (upd (upd (upd η n o1) (n + 1) o2) (n + 1 + 1) o3) := fun o1 o2 o3 => by simp [le_upd_iff, e0, e1, e2]
  by_cases c3 : sp < 0
  · have : ¬ 0 ≤ sp := by omega
    refine AC.enter Tryz.func97 rfl Tryz.ntmps97 (by simp) ?_
    simp [modV, stC, aload, afield, apart, upd_eq, upd_ne, s1, s2, c1', c2, aindex, hj, actC, astore, upd_upd, c3]
    exact resK.of (η' := η) (hle _ _ _) _ (Nat.le_refl _) ⟨by simp [this], rfl⟩
  obtain ⟨i, rfl⟩ : ∃ i : Nat, sp = (i : Int) := ⟨sp.toNat, by omega⟩
  have c3' : ¬ ((i : Int) < 0) := c3
  by_cases c4 : m[j].code.length ≤ i
  · have : ¬ i < m[j].code.length := by omega
    refine AC.enter Tryz.func97 rfl Tryz.ntmps97 (by simp) ?_
    simp [modV, stC, aload, afield, apart, upd_eq, upd_ne, s1, s2, c1', c2, aindex, hj, actC, astore, upd_upd, c3', c4]
    exact resK.of (η' := η) (hle _ _ _) _ (Nat.le_refl _) ⟨by simp [this], rfl⟩
  have hi : i < m[j].code.length := by omega
  have hins : ins m[j] (i : Int) = m[j].code[i] := by unfold ins; simp [List.getD_eq_getElem?_getD, hi]
  rw [hins]
  refine AC.enter Tryz.func97 rfl Tryz.ntmps97 (by simp) ?_
  simp [modV, stC, aload, afield, apart, upd_eq, upd_ne, l2, s1, s2, c1', c2, aindex, hj, actC, astore, upd_upd, c3', c4]
  refine CondP.ndec (fun c5 => ?_) (fun c5 => ?_)
  · have c5' : sr.length = m[j].regs.length := by omega
    simp [c5, aload, afield, apart, upd_eq, upd_ne, l1]
    refine CondP.dec (fun c6 => ?_) (fun c6 => ?_)
    · simp [c6]
      have n6 : ¬ ss.length ≤ 16 := by omega
      exact resK.of (η' := η) (hle _ _ _) _ (Nat.le_refl _) ⟨by simp [n6], rfl⟩
    · have c6' : ss.length ≤ 16 := by omega
      simp [c6, aload, afield, apart, upd_eq, upd_ne]
      cases sw
      · simp
        exact resK.of (η' := η) (hle _ _ _) _ (Nat.le_refl _) ⟨by simp [hi, c5', c6'], rfl⟩
      · simp [aload, afield, apart, upd_eq, upd_ne, aindex, hi, astore, upd_upd]
        have hle4 : ∀ o1 o2 o3 o4, η.le (upd (upd (upd (upd η n o1) (n + 1) o2) (n + 1 + 1) o3) (n + 1 + 1 + 1) o4) := fun o1 o2 o3 o4 => by simp [le_upd_iff, e0, e1, e2, hf (n + 1 + 1 + 1) (by omega)]
        refine CondP.dec (fun c7 => ?_) (fun c7 => ?_)
        · simp [c7, aload, afield, apart, upd_eq, upd_ne]
          refine ACK.rt (names_ac _ _ _ _) ?_
          simp
          exact resK.of (η' := η) (hle4 _ _ _ _) _ (Nat.le_refl _) ⟨by simp [hi, c5', c6', c7], rfl⟩
        · simp [c7]
          exact resK.of (η' := η) (hle4 _ _ _ _) _ (Nat.le_refl _) ⟨by simp [c7], rfl⟩
  · have c5' : ¬ sr.length = m[j].regs.length := by omega
    simp [c5]
    exact resK.of (η' := η) (hle _ _ _) _ (Nat.le_refl _) ⟨by simp [c5'], rfl⟩
end Go.Proofs.YtbomkomipaipmaaGreat
namespace Go.Proofs.YtbomkomipaipmaaGreat
set_option maxRecDepth 100000

theorem IsL.own {η : AHeap} {r : Nat} {l J : List Int} (h : η r = some (.cells 1 (ints (l ++ J)))) : IsL η (.sl r 0 l.length) l := Or.inr (Or.inr ⟨r, 0, [], J, rfl, rfl, h⟩)
def NewL (η : AHeap) (n : Nat) (l : List Int) : AVal → AHeap → Nat → Prop := fun u η' n' => ∃ q, u = .sl q 0 l.length ∧ η' q = some (.cells 1 (ints l)) ∧ n ≤ q ∧ q < n' ∧ ∀ r, r < n → η' r = η r
theorem take_ints (I l J : List Int) : List.take l.length (List.drop I.length (ints (I ++ (l ++ J)))) = ints l := by simp [ints]
theorem ints_len (l : List Int) : (ints l).length = l.length := by simp [ints]
theorem ints_sc {l : List Int} : ∀ r ∈ ints l, ∀ c ∈ r, c.sc = true := by intro r hr c hc; simp [ints] at hr; obtain ⟨x, _, rfl⟩ := hr; simp at hc; subst hc; rfl
theorem IsL.keep {η η' : AHeap} {v : AVal} {l : List Int} {n : Nat} (h : IsL η v l) (hf : ∀ r, n ≤ r → η r = none) (hk : ∀ r, r < n → η' r = η r) : IsL η' v l := by
  rcases h with h | h | ⟨r, o, I, J, h1, h0, h2⟩
  · exact Or.inl h
  · exact Or.inr (Or.inl h)
  · exact Or.inr (Or.inr ⟨r, o, I, J, h1, h0, by rw [hk r (by rcases Nat.lt_or_ge r n with h | h; exact h; rw [hf r h] at h2; cases h2)]; exact h2⟩)
theorem upd_apply (η : AHeap) (r : Nat) (o : Option AObj) (x : Nat) : upd η r o x = if x = r then o else η x := rfl
theorem IsL.rows {η : AHeap} {v : AVal} {l : List Int} (h : IsL η v l) : arows 1 v η = some (ints l) := by
  rcases h with rfl | ⟨rfl, rfl⟩ | ⟨r, o, I, J, rfl, ho, hr⟩
  · simp [arows]
  · rfl
  · have ht := take_ints I l J
    rw [← ho] at ht
    have hlen : o + l.length ≤ I.length + (l.length + J.length) := by omega
    simp [arows, hr, hlen, ht]
theorem IsL.le {η η' : AHeap} {v : AVal} {l : List Int} (h : IsL η v l) (hl : η.le η') : IsL η' v l := by
  rcases h with k | k | ⟨r, o, I, J, k1, k0, k2⟩
  · exact Or.inl k
  · exact Or.inr (Or.inl k)
  · exact Or.inr (Or.inr ⟨r, o, I, J, k1, k0, hl _ _ k2⟩)
theorem IsL.own1 {η : AHeap} {r n : Nat} {l : List Int} (hn : n = l.length) (h : η r = some (.cells 1 (ints l))) : IsL η (.sl r 0 n) l := by
  subst hn; exact IsL.own (J := []) (by rw [List.append_nil]; exact h)
theorem IsL.upd {η : AHeap} {v : AVal} {l : List Int} (h : IsL η v l) {r : Nat} (hr : ∀ rows, η r ≠ some (.cells 1 rows)) (o : Option AObj) : IsL (upd η r o) v l := by
  rcases h with k | k | ⟨r', o', I, J, k1, k0, k2⟩
  · exact Or.inl k
  · exact Or.inr (Or.inl k)
  · exact Or.inr (Or.inr ⟨r', o', I, J, k1, k0, by rw [upd_ne (fun e => by subst e; exact hr _ k2)]; exact k2⟩)
theorem IsL.same {η η' : AHeap} {v : AVal} {l : List Int} {n : Nat} (h : IsL η v l) (hf : ∀ r, n ≤ r → η r = none) (hk : ∀ r, r < n → η' r = η r) : IsL η' v l := h.keep hf hk

theorem le_old {η η' : AHeap} {n : Nat} (hf : ∀ r, n ≤ r → η r = none) (h : ∀ r, r < n → η' r = η r) : η.le η' := fun r o hr => by
  rcases Nat.lt_or_ge r n with g | g
  · rw [h r g]; exact hr
  · rw [hf r g] at hr; cases hr
/-- an element of a list, wherever it lies -/
theorem IsL.idx {P : Program} {t e : TypeId} (ht : telem P t = some e) (hz : tsize P e = some 1) (hs : tsh P e = some (false, 1)) {η : AHeap} {v : AVal} {l : List Int} (h : IsL η v l) {k : Nat} (hk : k < l.length) :
    ∃ p, aindex P t v (.int .i64 (k : Int)) η = some p ∧ aload P e p η = some (.int .i64 l[k]) := by
  rcases h with rfl | ⟨rfl, rfl⟩ | ⟨r, o, I, J, rfl, ho, hr⟩
  · refine ⟨.ro [.int .i64 l[k]] 0, ?_, ?_⟩
    · simp [aindex, ht, hz, hk]
    · simp [aload, hs, apart]
  · simp at hk
  · refine ⟨.ptr r (o + k) 0, ?_, ?_⟩
    · simp [aindex, ht, hz, hk, hr]
    · have : (ints (I ++ (l ++ J)))[o + k]? = some [.int .i64 l[k]] := by
        rw [ints_get, List.getElem?_append_right (by omega), List.getElem?_append_left (by omega), ho]
        simp [hk]
      simp [aload, hs, hr, this, apart]
theorem drop_eq_iff {α : Type} [DecidableEq α] {l1 l2 : List α} (hl : l1.length = l2.length) {k : Nat} (hk : k < l1.length) (he : l1[k] = l2[k]) : (l1.drop k = l2.drop k) ↔ (l1.drop (k + 1) = l2.drop (k + 1)) := by
  have hk2 : k < l2.length := by omega
  rw [List.drop_eq_getElem_cons hk, List.drop_eq_getElem_cons hk2]
  rw [he]
  exact ⟨fun h => by injection h, fun h => by rw [h]⟩
end Go.Proofs.YtbomkomipaipmaaGreat
namespace Go.Proofs.YtbomkomipaipmaaGreat
set_option maxRecDepth 100000

/-- slots: generation, taken; how many are taken -/
structure Tab where
  sl : List (Int × Bool)
  live : Int
def slotsC (l : List (Int × Bool)) : List AVal := l.flatMap fun x => [.int .i64 x.1, .bool x.2]
def tabR (t : Tab) : List AVal := slotsC t.sl ++ [.int .i64 t.live]
def tabO (t : Tab) : AObj := .cells 65 [tabR t]
@[simp] theorem slotsC_length : ∀ l : List (Int × Bool), (slotsC l).length = 2 * l.length
  | [] => rfl
  | x :: l => by simp only [slotsC, List.flatMap_cons, List.length_append, List.length_cons, List.length_nil]; have := slotsC_length l; simp only [slotsC] at this; omega
theorem slotsC_cons (x : Int × Bool) (l : List (Int × Bool)) : slotsC (x :: l) = .int .i64 x.1 :: .bool x.2 :: slotsC l := rfl
theorem slotsC_gen : ∀ (l : List (Int × Bool)) (s : Nat) (h : s < l.length), (slotsC l)[s * 2]? = some (.int .i64 l[s].1)
  | [], s, h => by simp at h
  | x :: l, 0, h => rfl
  | x :: l, s + 1, h => by
    rw [slotsC_cons, show (s + 1) * 2 = s * 2 + 1 + 1 by omega]
    simp only [List.getElem?_cons_succ]
    rw [slotsC_gen l s (by simpa using h)]; rfl
theorem slotsC_taken : ∀ (l : List (Int × Bool)) (s : Nat) (h : s < l.length), (slotsC l)[s * 2 + 1]? = some (.bool l[s].2)
  | [], s, h => by simp at h
  | x :: l, 0, h => rfl
  | x :: l, s + 1, h => by
    rw [slotsC_cons, show (s + 1) * 2 + 1 = s * 2 + 1 + 1 + 1 by omega]
    simp only [List.getElem?_cons_succ]
    rw [slotsC_taken l s (by simpa using h)]; rfl
theorem slotsC_setGen : ∀ (l : List (Int × Bool)) (s : Nat) (h : s < l.length) (g : Int), (slotsC l).set (s * 2) (.int .i64 g) = slotsC (l.set s (g, l[s].2))
  | [], s, h, g => by simp at h
  | x :: l, 0, h, g => rfl
  | x :: l, s + 1, h, g => by
    rw [slotsC_cons, show (s + 1) * 2 = s * 2 + 1 + 1 by omega]
    simp only [List.set_cons_succ, List.getElem_cons_succ]
    rw [slotsC_cons, slotsC_setGen l s (by simpa using h) g]
theorem slotsC_setTaken : ∀ (l : List (Int × Bool)) (s : Nat) (h : s < l.length) (b : Bool), (slotsC l).set (s * 2 + 1) (.bool b) = slotsC (l.set s (l[s].1, b))
  | [], s, h, g => by simp at h
  | x :: l, 0, h, g => rfl
  | x :: l, s + 1, h, g => by
    rw [slotsC_cons, show (s + 1) * 2 + 1 = s * 2 + 1 + 1 + 1 by omega]
    simp only [List.set_cons_succ, List.getElem_cons_succ]
    rw [slotsC_cons, slotsC_setTaken l s (by simpa using h) g]
theorem set_mid {α : Type} (l : List α) (j : Nat) (v : α) (h : j < l.length) : l.take j ++ v :: l.drop (j + 1) = l.set j v := by
  rw [List.set_eq_take_append_cons_drop, if_pos h]
theorem tabR_gen {t : Tab} {s : Nat} (h : s < t.sl.length) : (tabR t)[s * 2]? = some (.int .i64 t.sl[s].1) := by
  unfold tabR; rw [List.getElem?_append_left (by simp; omega)]; exact slotsC_gen _ _ h
theorem tabR_taken {t : Tab} {s : Nat} (h : s < t.sl.length) : (tabR t)[s * 2 + 1]? = some (.bool t.sl[s].2) := by
  unfold tabR; rw [List.getElem?_append_left (by simp; omega)]; exact slotsC_taken _ _ h
theorem tabR_live {t : Tab} (h : t.sl.length = 32) : (tabR t)[64]? = some (.int .i64 t.live) := by
  unfold tabR; rw [List.getElem?_append_right (by simp; omega)]; simp [h]
theorem tabR_live' {t : Tab} (h : t.sl.length = 32) (hk : 64 < (tabR t).length) : (tabR t)[64] = .int .i64 t.live := by
  have := tabR_live h
  rw [List.getElem?_eq_getElem hk] at this; simpa using this
theorem tabR_len {t : Tab} (h : t.sl.length = 32) : (tabR t).length = 65 := by simp [tabR, h]
theorem tabR_setGen {t : Tab} {s : Nat} (h : s < t.sl.length) (g : Int) : (tabR t).set (s * 2) (.int .i64 g) = tabR { t with sl := t.sl.set s (g, t.sl[s].2) } := by
  unfold tabR; rw [List.set_append_left _ _ (by simp; omega), slotsC_setGen _ _ h]
theorem tabR_setTaken {t : Tab} {s : Nat} (h : s < t.sl.length) (b : Bool) : (tabR t).set (s * 2 + 1) (.bool b) = tabR { t with sl := t.sl.set s (t.sl[s].1, b) } := by
  unfold tabR; rw [List.set_append_left _ _ (by simp; omega), slotsC_setTaken _ _ h]
theorem tabR_setLive {t : Tab} (h : t.sl.length = 32) (x : Int) : (tabR t).set 64 (.int .i64 x) = tabR { t with live := x } := by
  unfold tabR; rw [List.set_append_right _ _ (by simp; omega)]; simp [h]

/-- what holds of all tables -/
structure TabOK (t : Tab) : Prop where
  len : t.sl.length = 32
  gen : ∀ x ∈ t.sl, 0 ≤ x.1 ∧ x.1 ≤ 1048576
  live : 0 ≤ t.live ∧ t.live ≤ 32
/-- a slot's pid -/
def pidOf (g : Int) (s : Nat) : Int := g * 32 + s + 1
def freeS (x : Int × Bool) : Bool := !x.2 && decide (x.1 < 1048576)
/-- the lowest slot that can be taken -/
def lowS (l : List (Int × Bool)) : Option Nat := l.findIdx? freeS
def takeT (t : Tab) (s : Nat) (h : s < t.sl.length) : Tab := { sl := t.sl.set s (t.sl[s].1, true), live := t.live + 1 }

/-- what holds of a table whose slot has just been taken -/
structure TabG (t : Tab) : Prop where
  len : t.sl.length = 32
  gen : ∀ x ∈ t.sl, 0 ≤ x.1 ∧ x.1 ≤ 1048576
theorem TabOK.g {t : Tab} (h : TabOK t) : TabG t := ⟨h.len, h.gen⟩
theorem takeT_ok' {t : Tab} (ok : TabOK t) (s : Nat) (hs : s < t.sl.length) : TabG (takeT t s hs) := by
  refine ⟨by simp [takeT, ok.len], fun x hx => ?_⟩
  simp only [takeT] at hx
  rcases List.mem_or_eq_of_mem_set hx with h | rfl
  · exact ok.gen x h
  · exact ok.gen t.sl[s] (List.getElem_mem hs)
set_option maxHeartbeats 1000000 in
theorem pid_ac {η : AHeap} {n r : Nat} {t : Tab} (hη : η r = some (tabO t)) (ok : TabG t) (s : Nat) (hs : s < t.sl.length) : AC Tryz.prog 140 [.ptr r 0 0, .int .i64 s] η n (Rt (.int .i64 (pidOf t.sl[s].1 s)) η n) := by
  refine AC.pure (.int _ _) ?_
  refine AC.fresh fun hf => ?_; refine AC.enter Tryz.func140 rfl Tryz.ntmps140 (by simp) ?_
  have h32 : (s : Int) < 32 := by have := ok.len; omega
  have hg := ok.gen t.sl[s] (List.getElem_mem hs)
  have hη' : η r = some (.cells 65 [tabR t]) := hη
  have e1 := tabR_gen hs
  have w1 : IntKind.i64.wrap (t.sl[s].1 * 32) = t.sl[s].1 * 32 := wrap_id (by omega) (by omega)
  have w2 : IntKind.i64.wrap (t.sl[s].1 * 32 + s) = t.sl[s].1 * 32 + s := wrap_id (by omega) (by omega)
  have w3 : IntKind.i64.wrap (t.sl[s].1 * 32 + s + 1) = t.sl[s].1 * 32 + s + 1 := wrap_id (by omega) (by omega)
  simp [afield, aindex, h32, aload, apart, hη', e1, w1, w2, w3]
  exact resK.rt ⟨rfl, rfl⟩

def allocR (t : Tab) : AVal × Tab := match h : lowS t.sl with
  | some s => (.tup [.int .i64 (pidOf (t.sl[s]'(by unfold lowS at h; exact (List.findIdx?_eq_some_iff_getElem.1 h).1)).1 s), .int .i64 0], takeT t s (by unfold lowS at h; exact (List.findIdx?_eq_some_iff_getElem.1 h).1))
  | none => (.tup [.int .i64 0, .int .i64 7], t)
theorem allocR_some {t : Tab} {s : Nat} (hs : s < t.sl.length) (h1 : freeS t.sl[s] = true) (h2 : ∀ (j : Nat) (hj : j < s), freeS (t.sl[j]'(by omega)) = false) : allocR t = (.tup [.int .i64 (pidOf t.sl[s].1 s), .int .i64 0], takeT t s hs) := by
  have h : lowS t.sl = some s := by
    unfold lowS
    rw [List.findIdx?_eq_some_iff_getElem]
    exact ⟨hs, h1, fun j hj => by rw [h2 j hj]; simp⟩
  unfold allocR
  split
  · rename_i s' h'; rw [h] at h'; cases h'; rfl
  · rename_i h'; rw [h] at h'; cases h'
theorem allocR_none {t : Tab} (h : ∀ (j : Nat) (hj : j < t.sl.length), freeS t.sl[j] = false) : allocR t = (.tup [.int .i64 0, .int .i64 7], t) := by
  have h : lowS t.sl = none := by
    unfold lowS
    rw [List.findIdx?_eq_none_iff]
    intro x hx
    obtain ⟨j, hj, rfl⟩ := List.getElem_of_mem hx
    exact h j hj
  unfold allocR
  split
  · rename_i s' h'; rw [h] at h'; cases h'
  · rfl

set_option maxHeartbeats 2000000 in
theorem alloc_ac {η : AHeap} {n r : Nat} {t : Tab} (hη : η r = some (tabO t)) (ok : TabOK t) : AC Tryz.prog 90 [.ptr r 0 0] η n (fun v η' n' => v = (allocR t).1 ∧ η' = upd η r (some (tabO (allocR t).2)) ∧ n' = n) := by
  have hl := ok.len
  have hη' : η r = some (.cells 65 [tabR t]) := hη
  have same : upd η r (some (tabO t)) = η := by
    funext q
    by_cases hq : q = r
    · subst hq; rw [upd_eq, hη]
    · rw [upd_ne hq]
  refine AC.enter Tryz.func90 rfl Tryz.ntmps90 (by simp) ?_
  simp
  refine loopK.inv [2, 3, 4, 5, 8, 9, 10, 11, 12, 13, 14, 15, 16, 17, 18, 19, 20, 21, 22, 23, 24, 25, 26, 27, 28, 29, 30, 31, 32, 33, 34, 35, 36, 37, 38, 39, 40, 41] (fun s : Nat => s ≤ 32 ∧ ∀ (j : Nat) (hj : j < s) (hj2 : j < t.sl.length), freeS t.sl[j] = false) (fun s => [(8, .int .i64 s)]) (fun _ => η) (fun _ => n) (fun s => 32 - s) 0 ⟨by omega, fun j hj => by omega⟩ (by simp) (AHeap.le_rfl _) (Nat.le_refl _) ?_
  intro s ⟨h1, h2⟩
  simp
  refine CondP.dec (fun h3 => ?_) (fun h3 => ?_)
  · have hs : s < t.sl.length := by omega
    have e1 := tabR_gen hs
    have e2 := tabR_taken hs
    have e3 := tabR_live hl
    have e4 := tabR_len hl
    have ewk : IntKind.i64.wrap ((s : Int) + 1) = (s : Int) + 1 := wrap_id (by omega) (by omega)
    have nxt : freeS t.sl[s] = false → ∀ (j : Nat) (hj : j < s + 1) (hj2 : j < t.sl.length), freeS t.sl[j] = false := fun hf j hj hj2 => by
      rcases Nat.lt_or_ge j s with h | h
      · exact h2 j h hj2
      · have : j = s := by omega
        subst this; exact hf
    have hlv := ok.live
    have wl : IntKind.i64.wrap (t.live + 1) = t.live + 1 := wrap_id (by omega) (by omega)
    cases hb : t.sl[s].2
    · by_cases hg : t.sl[s].1 < 1048576
      · have hfr : freeS t.sl[s] = true := by simp [freeS, hb, hg]
        have ea := allocR_some hs hfr (fun j hj => h2 j hj (by omega))
        have hp := fun η n hη => pid_ac (η := η) (n := n) (r := r) (t := takeT t s hs) hη (takeT_ok' ok s hs) s (by simpa [takeT] using hs)
        have k1 : s * 2 ≤ 63 := by omega
        have e5 := (set_mid (tabR t) (s * 2 + 1) (.bool true) (by rw [e4]; omega)).trans (tabR_setTaken hs true)
        have e6 := (set_mid (tabR { t with sl := t.sl.set s (t.sl[s].1, true) }) 64 (.int .i64 (t.live + 1)) (by rw [tabR_len (by simpa using hl)]; omega)).trans (tabR_setLive (by simpa using hl) _)
        have e7 := tabR_live' (t := { t with sl := t.sl.set s (t.sl[s].1, true) }) (by simpa using hl)
        have e8 : (tabR { t with sl := t.sl.set s (t.sl[s].1, true) }).length = 65 := tabR_len (by simpa using hl)
        simp [h3, hb, hg, afield, aindex, aload, apart, hη', e1, e2, astore, upd_upd, upd_eq, e5, e6, e7, e8, k1, wl]
        refine ACK.rt (hp _ _ (upd_eq _ _ _)) ?_
        have e9 : (takeT t s hs).sl[s]'(by simpa [takeT] using hs) = (t.sl[s].1, true) := by simp [takeT]
        rw [ea]
        simp only [e9]
        simp
        exact resK.rt ⟨rfl, rfl, rfl⟩
      · have hfr : freeS t.sl[s] = false := by simp [freeS, hb, hg]
        simp [h3, hb, hg, afield, aindex, aload, apart, hη', e1, e2, ewk]
        exact endK.intro (s + 1) ⟨by omega, nxt hfr⟩ (by simp) (by repeat (first | exact Agree.mask _ _ | refine Agree.setf rfl ?_ | refine Agree.inner rfl ?_)) (AHeap.le_rfl _) (Nat.le_refl _) (show 32 - (s + 1) < 32 - s by omega)
    · have hfr : freeS t.sl[s] = false := by simp [freeS, hb]
      simp [h3, hb, afield, aindex, aload, apart, hη', e2, ewk]
      exact endK.intro (s + 1) ⟨by omega, nxt hfr⟩ (by simp) (by repeat (first | exact Agree.mask _ _ | refine Agree.setf rfl ?_ | refine Agree.inner rfl ?_)) (AHeap.le_rfl _) (Nat.le_refl _) (show 32 - (s + 1) < 32 - s by omega)
  · have ea := allocR_none (t := t) fun j hj => h2 j (by omega) hj
    simp [h3]
    rw [ea]
    refine resK.rt ⟨rfl, same.symm, rfl⟩
/-- a pid's slot -/
def slotR (t : Tab) (pid : Int) : Int × Bool := if pid < 1 then (0, false) else
  let s := ((pid - 1) % 32).toNat
  match t.sl[s]? with
  | some x => if x.2 = true ∧ pidOf x.1 s = pid then ((s : Int), true) else (0, false)
  | none => (0, false)
set_option maxHeartbeats 2000000 in
theorem slot_ac {η : AHeap} {n r : Nat} {t : Tab} (hη : η r = some (tabO t)) (ok : TabG t) (pid : Int) (hp : I64 pid) : AC Tryz.prog 271 [.ptr r 0 0, .int .i64 pid] η n (Rt (.tup [.int .i64 (slotR t pid).1, .bool (slotR t pid).2]) η n) := by
  have hl := ok.len
  have hη' : η r = some (.cells 65 [tabR t]) := hη
  unfold I64 at hp
  refine AC.pure (.tup _ (by simp; exact ⟨.int _ _, .bool _⟩)) ?_
  refine AC.fresh fun hf => ?_; refine AC.enter Tryz.func271 rfl Tryz.ntmps271 (by simp) ?_
  simp
  by_cases h1 : pid < 1
  · have e : slotR t pid = (0, false) := by simp [slotR, h1]
    rw [e]
    simp [h1]
    exact resK.rt ⟨rfl, rfl⟩
  · obtain ⟨s, hs⟩ : ∃ s : Nat, (pid - 1) % 32 = (s : Int) := ⟨((pid - 1) % 32).toNat, by omega⟩
    have hs2 : s < t.sl.length := by omega
    have hs3 : (s : Int) < 32 := by omega
    have w1 : IntKind.i64.wrap (pid - 1) = pid - 1 := wrap_id (by omega) (by omega)
    have w2 : (pid - 1).tmod 32 = (s : Int) := by rw [Int.tmod_eq_emod_of_nonneg (by omega)]; exact hs
    have w3 : IntKind.i64.wrap (s : Int) = (s : Int) := wrap_id (by omega) (by omega)
    have e2 := tabR_taken hs2
    have hpid := fun η n hη => pid_ac (η := η) (n := n) (r := r) (t := t) hη ok s hs2
    have er : slotR t pid = if t.sl[s].2 = true ∧ pidOf t.sl[s].1 s = pid then ((s : Int), true) else (0, false) := by
      unfold slotR
      rw [if_neg h1, hs]
      simp [hs2]
    rw [er]
    cases hb : t.sl[s].2
    · simp [h1, w1, w2, hs3, hb, afield, aindex, aload, apart, hη', e2]
      exact resK.rt ⟨rfl, rfl⟩
    · simp [h1, w1, w2, hs3, hb, afield, aindex, aload, apart, hη', e2]
      refine ACK.rt (hpid _ _ hη) ?_
      by_cases h5 : pidOf t.sl[s].1 s = pid
      · simp [h5]
        exact resK.rt ⟨by simp [h5], rfl⟩
      · simp [h5]
        exact resK.rt ⟨by simp [h5], rfl⟩
def freeR (t : Tab) (pid : Int) : Int × Tab := match (slotR t pid).2 with
  | true => (0, { sl := t.sl.set (slotR t pid).1.toNat ((t.sl.getD (slotR t pid).1.toNat (0, false)).1 + 1, false), live := t.live - 1 })
  | false => (6, t)
theorem slotR_lt {t : Tab} (hl : t.sl.length = 32) (pid : Int) : 0 ≤ (slotR t pid).1 ∧ (slotR t pid).1 < 32 := by
  unfold slotR
  split
  · simp
  · simp only
    split
    · rename_i x hx
      have := (List.getElem?_eq_some_iff.1 hx).1
      split <;> simp <;> omega
    · simp
set_option maxHeartbeats 2000000 in
theorem free_ac {η : AHeap} {n r : Nat} {t : Tab} (hη : η r = some (tabO t)) (ok : TabG t) (hlv : 0 ≤ t.live ∧ t.live ≤ 32) (pid : Int) (hp : I64 pid) : AC Tryz.prog 262 [.ptr r 0 0, .int .i64 pid] η n (fun v η' n' => v = .int .i64 (freeR t pid).1 ∧ η' = upd η r (some (tabO (freeR t pid).2)) ∧ n' = n) := by
  have hl := ok.len
  have hη' : η r = some (.cells 65 [tabR t]) := hη
  have same : upd η r (some (tabO t)) = η := by
    funext q
    by_cases hq : q = r
    · subst hq; rw [upd_eq, hη]
    · rw [upd_ne hq]
  have hsl := fun η n hη => slot_ac (η := η) (n := n) (r := r) (t := t) hη ok pid hp
  obtain ⟨k1, k2⟩ := slotR_lt hl pid
  generalize hS : slotR t pid = S at *
  obtain ⟨si, sb⟩ := S
  obtain ⟨s, rfl⟩ : ∃ s : Nat, si = (s : Int) := ⟨si.toNat, by simp only at k1; omega⟩
  simp only at hsl k1 k2
  have hs : s < t.sl.length := by omega
  refine AC.enter Tryz.func262 rfl Tryz.ntmps262 (by simp) ?_
  simp
  refine ACK.rt (hsl _ _ hη) ?_
  cases sb
  · have e : freeR t pid = (6, t) := by simp [freeR, hS]
    rw [e]
    simp
    exact resK.rt ⟨rfl, same.symm, rfl⟩
  · have e : freeR t pid = (0, { sl := t.sl.set s (t.sl[s].1 + 1, false), live := t.live - 1 }) := by simp [freeR, hS, List.getD_eq_getElem?_getD, hs]
    have hg := ok.gen t.sl[s] (List.getElem_mem hs)
    have w1 : IntKind.i64.wrap (t.sl[s].1 + 1) = t.sl[s].1 + 1 := wrap_id (by omega) (by omega)
    have w2 : IntKind.i64.wrap (t.live - 1) = t.live - 1 := wrap_id (by omega) (by omega)
    have e4 := tabR_len hl
    have e5 := (set_mid (tabR t) (s * 2 + 1) (.bool false) (by rw [e4]; omega)).trans (tabR_setTaken hs false)
    have hs2 : s < ({ t with sl := t.sl.set s (t.sl[s].1, false) } : Tab).sl.length := by simpa using hs
    have hl2 : ({ t with sl := t.sl.set s (t.sl[s].1, false) } : Tab).sl.length = 32 := by simpa using hl
    have e6 := tabR_gen hs2
    have e7 := (set_mid (tabR { t with sl := t.sl.set s (t.sl[s].1, false) }) (s * 2) (.int .i64 (t.sl[s].1 + 1)) (by rw [tabR_len hl2]; omega)).trans (tabR_setGen hs2 _)
    have e8 := tabR_len hl2
    simp at e6 e7 e8
    have hl3 : ({ t with sl := t.sl.set s (t.sl[s].1 + 1, false) } : Tab).sl.length = 32 := by simpa using hl
    have e9 := (set_mid (tabR { t with sl := t.sl.set s (t.sl[s].1 + 1, false) }) 64 (.int .i64 (t.live - 1)) (by rw [tabR_len hl3]; omega)).trans (tabR_setLive hl3 _)
    have e10 := tabR_live' hl3
    have e11 := tabR_len hl3
    have k3 : s * 2 ≤ 63 := by omega
    have k4 : s * 2 ≤ 64 := by omega
    rw [e]
    simp [k2, afield, aindex, hη', astore, e5, k3]
    refine drawK.intro mixed [(0, []), (1, []), (2, []), (3, []), (4, []), (5, []), (6, []), (7, []), (8, []), (9, []), (10, []), (11, []), (12, [])] (by kernel_rfl) ?_
    simp [k2, afield, aindex, aload, apart, astore, upd_upd, upd_eq, e6, e7, e9, e10, e11, k4, w1, w2]
    exact resK.rt ⟨rfl, rfl, rfl⟩
theorem zeroTab : tzero Tryz.prog 172 = some (tabR ⟨List.replicate 32 (0, false), 0⟩) := by kernel_rfl
theorem slotsC_sc (l : List (Int × Bool)) : ∀ x ∈ slotsC l, x.sc = true := fun x hx => by
  obtain ⟨y, _, hy⟩ := List.mem_flatMap.1 hx
  simp at hy
  rcases hy with rfl | rfl <;> rfl
theorem tabR_sc (t : Tab) : ∀ x ∈ tabR t, x.sc = true := fun x hx => by
  rcases List.mem_append.1 hx with h | h
  · exact slotsC_sc _ x h
  · simp at h; subst h; rfl
theorem boxM.intro {o : Option Nat} {cs : List AVal} {z : Nat} {K : List AVal → Nat → Prop} {g : Tag K} (ho : o = some z) (h1 : cs.length = z) (h2 : ∀ x ∈ cs, x.sc = true) (h3 : 0 < z) (hK : K cs z) : boxK o cs K g := by
  subst ho
  refine ⟨?_, hK⟩
  simp [h1, h3]
  exact h2
theorem pnew_ac (η : AHeap) (n : Nat) : AC Tryz.prog 41 [] η n (fun v η' n' => v = .ptr n 0 0 ∧ η' = upd η n (some (tabO ⟨List.replicate 32 (0, false), 0⟩)) ∧ n' = n + 1) := by
  refine AC.enter Tryz.func41 rfl Tryz.ntmps41 (by simp) ?_
  simp [abuild, aplace, afillP, zeroTab]
  refine boxM.intro (z := 65) rfl (tabR_len (by simp)) (tabR_sc _) (by decide) ?_
  simp
  exact resK.rt ⟨rfl, rfl, rfl⟩

/-- the pids that are live, slot by slot -/
def allP : List (Int × Bool) → Nat → List Int
  | [], _ => []
  | x :: l, s => if x.2 then pidOf x.1 s :: allP l (s + 1) else allP l (s + 1)
def rowI (l : List Int) : List (List AVal) := l.map fun x => [.int .i64 x]
theorem allP_take : ∀ (l : List (Int × Bool)) (k s : Nat) (h : k < l.length), allP (l.take (k + 1)) s = allP (l.take k) s ++ (if l[k].2 then [pidOf l[k].1 (s + k)] else [])
  | [], k, s, h => by simp at h
  | x :: l, 0, s, h => by simp [allP]
  | x :: l, k + 1, s, h => by
    have := allP_take l k (s + 1) (by simpa using h)
    simp only [List.take_succ_cons, allP, List.getElem_cons_succ, this]
    rw [show s + 1 + k = s + (k + 1) by omega]
    split <;> simp
theorem slotsC_pair : ∀ (l : List (Int × Bool)) (s : Nat) (h : s < l.length), ((slotsC l).drop (s * 2)).take 2 = [.int .i64 l[s].1, .bool l[s].2]
  | [], s, h => by simp at h
  | x :: l, 0, h => rfl
  | x :: l, s + 1, h => by
    rw [slotsC_cons, show (s + 1) * 2 = s * 2 + 1 + 1 by omega]
    simp only [List.drop_succ_cons, List.getElem_cons_succ]
    exact slotsC_pair l s (by simpa using h)
theorem tabR_take {t : Tab} (h : t.sl.length = 32) : (tabR t).take 64 = slotsC t.sl := by
  unfold tabR; rw [List.take_left' (by simp [h])]
set_option maxHeartbeats 4000000 in
theorem pall_iter {b r : Nat} {t : Tab} (ok : TabG t) : IterC Tryz.prog 93 [.ptr b 0 0] (rowI (allP t.sl 0)) (fun η => η b = some (.cells 1 [[.ptr r 0 0]]) ∧ η r = some (tabO t)) := by
  intro y η n J hup hD h0 hY
  have hl := ok.len
  obtain ⟨d1, d2⟩ := hD _ _ _ h0
  have d2' : η r = some (.cells 65 [tabR t]) := d2
  have k1 := tabR_len hl
  have k2 := tabR_take hl
  have k3 : ∀ x ∈ slotsC t.sl, x.sc = true := slotsC_sc _
  refine AC.fresh fun hf => ?_; refine AC.enter Tryz.func93 rfl Tryz.ntmps93 (by simp) ?_
  have k4 : (∀ x ∈ slotsC t.sl, x.sc = true) = True := eq_true k3
  simp [aload, afield, apart, d1, d2', k1, k2, k4]
  refine loopK.inv [3, 4, 11, 12, 13, 14, 15, 16, 17, 18, 19, 20, 21, 22, 23, 24, 25, 26, 27, 28] (fun x : Nat × AHeap × Nat => x.1 ≤ 32 ∧ J (rowI (allP (t.sl.take x.1) 0)) x.2.1 x.2.2 ∧ ∀ r, x.2.2 ≤ r → x.2.1 r = none) (fun x => [(11, .int .i64 x.1)]) (fun x => x.2.1) (fun x => x.2.2) (fun x => 32 - x.1) (0, η, n) ⟨by simp, by simpa [allP, rowI] using h0, hf⟩ (by simp) (AHeap.le_rfl _) (Nat.le_refl _) ?_
  intro ⟨s, η1, n1⟩ ⟨h1, h2, h2f⟩
  simp only at h1 h2 h2f
  simp
  refine CondP.dec (fun h3 => ?_) (fun h3 => ?_)
  · have hs : s < t.sl.length := by omega
    have ep := allP_take t.sl s 0 hs
    rw [Nat.zero_add] at ep
    have e1 := slotsC_pair t.sl s hs
    have k5 : s * 2 + 2 ≤ 64 := by omega
    have k6 : (slotsC t.sl).length = 64 := by simp [hl]
    have ewk : IntKind.i64.wrap ((s : Int) + 1) = (s : Int) + 1 := wrap_id (by omega) (by omega)
    have hg := ok.gen t.sl[s] (List.getElem_mem hs)
    have w1 : IntKind.i64.wrap (t.sl[s].1 * 32) = t.sl[s].1 * 32 := wrap_id (by omega) (by omega)
    have w2 : IntKind.i64.wrap (t.sl[s].1 * 32 + s) = t.sl[s].1 * 32 + s := wrap_id (by omega) (by omega)
    have w3 : IntKind.i64.wrap (t.sl[s].1 * 32 + s + 1) = t.sl[s].1 * 32 + s + 1 := wrap_id (by omega) (by omega)
    cases hb : t.sl[s].2
    · rw [hb] at ep
      simp [h3, aindexv, apart, k5, k6, e1, hb, astore, upd_upd, upd_eq, aload, afield, ewk]
      refine endK.intro (s + 1, upd η1 n1 (some (.cells 2 [[.int .i64 t.sl[s].1, .bool false]])), n1 + 1) ⟨by simp only; omega, ?_, fun r hr => ?_⟩ (by simp) (by repeat (first | exact Agree.mask _ _ | refine Agree.setf rfl ?_ | refine Agree.inner rfl ?_)) (AHeap.le_rfl _) (Nat.le_refl _) (show 32 - (s + 1) < 32 - s by omega)
      · simp only [ep]
        simp
        exact hup _ _ _ _ _ h2 (le_upd (AHeap.le_rfl _) (h2f _ (Nat.le_refl _))) (Nat.le_succ _)
      · have hr' : n1 + 1 ≤ r := hr
        show upd _ _ _ r = none
        rw [upd_ne (by omega)]; exact h2f r (by omega)
    · rw [hb] at ep
      simp [h3, aindexv, apart, k5, k6, e1, hb, astore, upd_upd, upd_eq, aload, afield, w1, w2, w3]
      have hsplit : ∃ rest, rowI (allP t.sl 0) = rowI (allP (t.sl.take s) 0) ++ [.int .i64 (t.sl[s].1 * 32 + s + 1)] :: rest := by
        have key : ∀ (l : List (Int × Bool)) (k q : Nat) (h : k < l.length), l[k].2 = true → ∃ rest, allP l q = allP (l.take k) q ++ pidOf l[k].1 (q + k) :: rest := by
          intro l
          induction l with
          | nil => intro k q h; simp at h
          | cons x l ih =>
            intro k q h hx
            cases k with
            | zero => exact ⟨allP l (q + 1), by simp at hx; simp [allP, hx]⟩
            | succ k =>
              obtain ⟨rest, hr⟩ := ih k (q + 1) (by simpa using h) (by simpa using hx)
              refine ⟨rest, ?_⟩
              simp only [List.take_succ_cons, allP, List.getElem_cons_succ, hr]
              rw [show q + 1 + k = q + (k + 1) by omega]
              split <;> simp
        obtain ⟨rest, hr⟩ := key t.sl s 0 hs hb
        exact ⟨rowI rest, by rw [hr]; simp [rowI, pidOf]⟩
      obtain ⟨rest, hrest⟩ := hsplit
      refine YACK.useF (hY _ _ rest hrest _ _ (hup _ _ _ _ _ h2 (le_upd (AHeap.le_rfl _) (h2f _ (Nat.le_refl _))) (Nat.le_succ _))) ?_
      intro v η' n' ⟨e9, hJ⟩ hf'
      subst e9
      simp [ewk]
      refine endK.intro (s + 1, η', n') ⟨by simp only; omega, ?_, hf'⟩ (by simp) (by repeat (first | exact Agree.mask _ _ | refine Agree.setf rfl ?_ | refine Agree.inner rfl ?_)) (AHeap.le_rfl _) (Nat.le_refl _) (show 32 - (s + 1) < 32 - s by omega)
      simp only [ep]
      simpa [rowI, pidOf] using hJ
  · simp [h3]
    have e32 : s = 32 := by omega
    rw [e32, List.take_of_length_le (by omega)] at h2
    exact resK.rt h2
theorem pall_ac {η : AHeap} {n r : Nat} : AC Tryz.prog 44 [.ptr r 0 0] η n (fun v η' n' => v = .func 93 [] [.ptr n 0 0] ∧ η' = upd η n (some (.cells 1 [[.ptr r 0 0]])) ∧ n' = n + 1) := by
  refine AC.enter Tryz.func44 rfl Tryz.ntmps44 (by simp) ?_
  simp
  exact resK.rt ⟨rfl, rfl, rfl⟩
end Go.Proofs.YtbomkomipaipmaaGreat
