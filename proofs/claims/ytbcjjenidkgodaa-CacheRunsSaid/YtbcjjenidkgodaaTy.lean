/- Facts on the types. -/
import Derived.Test.YtbcjjenidkgodaaAwA
import Derived.Test.YtbcjjenidkgodaaProg
import Derived.KernelRfl
namespace Go.Proofs.Ytbcjjenidkgodaa
open Go Go.RowKit
theorem mixed : Try.prog.follows .mixedOrders = true := by kernel_rfl
theorem sz3 : szOf Try.prog 3 = some 1 := by kernel_rfl
theorem ag3 : aggP Try.prog 3 = some false := by kernel_rfl
theorem by3 : bytesP Try.prog 3 = some 8 := by kernel_rfl
theorem zr3 : zeroOf Try.prog 3 = some [.int .i64 0] := by kernel_rfl
theorem un3 : Try.prog.underlying 3 = some (.int .i64) := by kernel_rfl
theorem sz4 : szOf Try.prog 4 = some 1 := by kernel_rfl
theorem ag4 : aggP Try.prog 4 = some false := by kernel_rfl
theorem by4 : bytesP Try.prog 4 = some 1 := by kernel_rfl
theorem zr4 : zeroOf Try.prog 4 = some [.bool false] := by kernel_rfl
theorem un4 : Try.prog.underlying 4 = some .bool := by kernel_rfl
theorem sz5 : szOf Try.prog 5 = some 1 := by kernel_rfl
theorem ag5 : aggP Try.prog 5 = some false := by kernel_rfl
theorem by5 : bytesP Try.prog 5 = some 1 := by kernel_rfl
theorem zr5 : zeroOf Try.prog 5 = some [.int .u8 0] := by kernel_rfl
theorem un5 : Try.prog.underlying 5 = some (.int .u8) := by kernel_rfl
theorem sz9 : szOf Try.prog 9 = some 1 := by kernel_rfl
theorem ag9 : aggP Try.prog 9 = some false := by kernel_rfl
theorem by9 : bytesP Try.prog 9 = some 16 := by kernel_rfl
theorem zr9 : zeroOf Try.prog 9 = some [.string ⟨#[]⟩] := by kernel_rfl
theorem un9 : Try.prog.underlying 9 = some .string := by kernel_rfl
theorem sz22 : szOf Try.prog 22 = some 1 := by kernel_rfl
theorem ag22 : aggP Try.prog 22 = some false := by kernel_rfl
theorem by22 : bytesP Try.prog 22 = some 24 := by kernel_rfl
theorem zr22 : zeroOf Try.prog 22 = some [.slice none 0 0] := by kernel_rfl
theorem el22 : elOf Try.prog 22 = some (3, 1, false) := by kernel_rfl
theorem un22 : Try.prog.underlying 22 = some (.slice 3) := by kernel_rfl
theorem sz25 : szOf Try.prog 25 = some 1 := by kernel_rfl
theorem ag25 : aggP Try.prog 25 = some false := by kernel_rfl
theorem by25 : bytesP Try.prog 25 = some 8 := by kernel_rfl
theorem zr25 : zeroOf Try.prog 25 = some [.pointer none] := by kernel_rfl
theorem un25 : Try.prog.underlying 25 = some (.pointer 46) := by kernel_rfl
theorem sz27 : szOf Try.prog 27 = some 1 := by kernel_rfl
theorem ag27 : aggP Try.prog 27 = some false := by kernel_rfl
theorem by27 : bytesP Try.prog 27 = some 24 := by kernel_rfl
theorem zr27 : zeroOf Try.prog 27 = some [.slice none 0 0] := by kernel_rfl
theorem el27 : elOf Try.prog 27 = some (55, 6, true) := by kernel_rfl
theorem un27 : Try.prog.underlying 27 = some (.slice 55) := by kernel_rfl
theorem sz29 : szOf Try.prog 29 = some 4 := by kernel_rfl
theorem ag29 : aggP Try.prog 29 = some true := by kernel_rfl
theorem by29 : bytesP Try.prog 29 = some 48 := by kernel_rfl
theorem zr29 : zeroOf Try.prog 29 = some [.int .i64 0, .int .i64 0, .int .i64 0, .slice none 0 0] := by kernel_rfl
theorem st29 : structP Try.prog 29 = some [(0, 1), (1, 1), (2, 1), (3, 1)] := by kernel_rfl
theorem sz30 : szOf Try.prog 30 = some 1 := by kernel_rfl
theorem ag30 : aggP Try.prog 30 = some false := by kernel_rfl
theorem by30 : bytesP Try.prog 30 = some 8 := by kernel_rfl
theorem zr30 : zeroOf Try.prog 30 = some [.int .i64 0] := by kernel_rfl
theorem un30 : Try.prog.underlying 30 = some (.int .i64) := by kernel_rfl
theorem sz34 : szOf Try.prog 34 = some 1 := by kernel_rfl
theorem ag34 : aggP Try.prog 34 = some false := by kernel_rfl
theorem by34 : bytesP Try.prog 34 = some 24 := by kernel_rfl
theorem zr34 : zeroOf Try.prog 34 = some [.slice none 0 0] := by kernel_rfl
theorem el34 : elOf Try.prog 34 = some (37, 4, true) := by kernel_rfl
theorem un34 : Try.prog.underlying 34 = some (.slice 37) := by kernel_rfl
theorem sz35 : szOf Try.prog 35 = some 1 := by kernel_rfl
theorem ag35 : aggP Try.prog 35 = some false := by kernel_rfl
theorem by35 : bytesP Try.prog 35 = some 24 := by kernel_rfl
theorem zr35 : zeroOf Try.prog 35 = some [.slice none 0 0] := by kernel_rfl
theorem el35 : elOf Try.prog 35 = some (5, 1, false) := by kernel_rfl
theorem un35 : Try.prog.underlying 35 = some (.slice 5) := by kernel_rfl
theorem sz37 : szOf Try.prog 37 = some 4 := by kernel_rfl
theorem ag37 : aggP Try.prog 37 = some true := by kernel_rfl
theorem by37 : bytesP Try.prog 37 = some 40 := by kernel_rfl
theorem zr37 : zeroOf Try.prog 37 = some [.int .i64 0, .slice none 0 0, .bool false, .bool false] := by kernel_rfl
theorem st37 : structP Try.prog 37 = some [(0, 1), (1, 1), (2, 1), (3, 1)] := by kernel_rfl
theorem sz46 : szOf Try.prog 46 = some 2 := by kernel_rfl
theorem ag46 : aggP Try.prog 46 = some true := by kernel_rfl
theorem by46 : bytesP Try.prog 46 = some 32 := by kernel_rfl
theorem zr46 : zeroOf Try.prog 46 = some [.slice none 0 0, .int .i64 0] := by kernel_rfl
theorem st46 : structP Try.prog 46 = some [(0, 1), (1, 1)] := by kernel_rfl
theorem sz55 : szOf Try.prog 55 = some 6 := by kernel_rfl
theorem ag55 : aggP Try.prog 55 = some true := by kernel_rfl
theorem by55 : bytesP Try.prog 55 = some 56 := by kernel_rfl
theorem zr55 : zeroOf Try.prog 55 = some [.bool false, .int .i64 0, .int .i64 0, .slice none 0 0, .bool false, .bool false] := by kernel_rfl
theorem st55 : structP Try.prog 55 = some [(0, 1), (1, 1), (2, 4)] := by kernel_rfl
theorem sz59 : szOf Try.prog 59 = some 1 := by kernel_rfl
theorem ag59 : aggP Try.prog 59 = some false := by kernel_rfl
theorem by59 : bytesP Try.prog 59 = some 8 := by kernel_rfl
theorem sz64 : szOf Try.prog 64 = some 1 := by kernel_rfl
theorem ag64 : aggP Try.prog 64 = some false := by kernel_rfl
theorem by64 : bytesP Try.prog 64 = some 8 := by kernel_rfl
theorem un64 : Try.prog.underlying 64 = some (.map 3 4) := by kernel_rfl
theorem fld29_0 : fldOf Try.prog 29 0 = some (0, 1, false) := by kernel_rfl
theorem fld29_1 : fldOf Try.prog 29 1 = some (1, 1, false) := by kernel_rfl
theorem fld29_2 : fldOf Try.prog 29 2 = some (2, 1, false) := by kernel_rfl
theorem fld29_3 : fldOf Try.prog 29 3 = some (3, 1, false) := by kernel_rfl
theorem fld37_0 : fldOf Try.prog 37 0 = some (0, 1, false) := by kernel_rfl
theorem fld37_1 : fldOf Try.prog 37 1 = some (1, 1, false) := by kernel_rfl
theorem fld37_2 : fldOf Try.prog 37 2 = some (2, 1, false) := by kernel_rfl
theorem fld37_3 : fldOf Try.prog 37 3 = some (3, 1, false) := by kernel_rfl
theorem fld46_0 : fldOf Try.prog 46 0 = some (0, 1, false) := by kernel_rfl
theorem fld46_1 : fldOf Try.prog 46 1 = some (1, 1, false) := by kernel_rfl
theorem fld55_0 : fldOf Try.prog 55 0 = some (0, 1, false) := by kernel_rfl
theorem fld55_1 : fldOf Try.prog 55 1 = some (1, 1, false) := by kernel_rfl
theorem fld55_2 : fldOf Try.prog 55 2 = some (2, 4, true) := by kernel_rfl
theorem cal2 : callable Try.prog 2 = true := by kernel_rfl
theorem cal3 : callable Try.prog 3 = true := by kernel_rfl
theorem cal4 : callable Try.prog 4 = true := by kernel_rfl
theorem cal5 : callable Try.prog 5 = true := by kernel_rfl
theorem cal6 : callable Try.prog 6 = true := by kernel_rfl
theorem cal7 : callable Try.prog 7 = true := by kernel_rfl
theorem cal8 : callable Try.prog 8 = true := by kernel_rfl
theorem cal9 : callable Try.prog 9 = true := by kernel_rfl
theorem cal10 : callable Try.prog 10 = true := by kernel_rfl
theorem cal11 : callable Try.prog 11 = true := by kernel_rfl
theorem cal12 : callable Try.prog 12 = true := by kernel_rfl
theorem cal13 : callable Try.prog 13 = true := by kernel_rfl
theorem cal14 : callable Try.prog 14 = true := by kernel_rfl
theorem cal15 : callable Try.prog 15 = true := by kernel_rfl
theorem cal16 : callable Try.prog 16 = true := by kernel_rfl
theorem cal17 : callable Try.prog 17 = true := by kernel_rfl
theorem cal18 : callable Try.prog 18 = true := by kernel_rfl
theorem cal19 : callable Try.prog 19 = true := by kernel_rfl
theorem cal20 : callable Try.prog 20 = true := by kernel_rfl
theorem cal21 : callable Try.prog 21 = true := by kernel_rfl
theorem cal22 : callable Try.prog 22 = true := by kernel_rfl
theorem cal23 : callable Try.prog 23 = true := by kernel_rfl
theorem cal24 : callable Try.prog 24 = true := by kernel_rfl
theorem cal25 : callable Try.prog 25 = true := by kernel_rfl
theorem cal26 : callable Try.prog 26 = true := by kernel_rfl
theorem cal27 : callable Try.prog 27 = true := by kernel_rfl
theorem cal28 : callable Try.prog 28 = true := by kernel_rfl
theorem cal29 : callable Try.prog 29 = true := by kernel_rfl
theorem cal30 : callable Try.prog 30 = true := by kernel_rfl
theorem cal31 : callable Try.prog 31 = true := by kernel_rfl
theorem cal32 : callable Try.prog 32 = true := by kernel_rfl
end Go.Proofs.Ytbcjjenidkgodaa
