/- Facts of the program's types and functions, each by the kernel. -/
import Derived.Test.YtcjfjfhggfcnfaaProg
import Derived.Test.YtcjfjfhggfcnfaaAmData
import Derived.Test.YtcjfjfhggfcnfaaAmExt
set_option linter.unusedSimpArgs false
set_option linter.unusedVariables false
namespace Go.Proofs.Ytcjfjfhggfcnfaa
open Am Go
@[simp] theorem sz0 : szOf Try.prog 0 = some 1 := by kernel_rfl
@[simp] theorem agg0 : aggOf Try.prog 0 = some false := by kernel_rfl
@[simp] theorem zero0 : zeroOf Try.prog 0 = some (.tup []) := by kernel_rfl
@[simp] theorem sz1 : szOf Try.prog 1 = some 1 := by kernel_rfl
@[simp] theorem agg1 : aggOf Try.prog 1 = some false := by kernel_rfl
@[simp] theorem zero1 : zeroOf Try.prog 1 = some (.nilf) := by kernel_rfl
@[simp] theorem sz2 : szOf Try.prog 2 = some 1 := by kernel_rfl
@[simp] theorem agg2 : aggOf Try.prog 2 = some false := by kernel_rfl
@[simp] theorem zero2 : zeroOf Try.prog 2 = some (.int .i64 0) := by kernel_rfl
@[simp] theorem fk2 : flatK Try.prog 20 2 = some [.int .i64] := by kernel_rfl
@[simp] theorem sz3 : szOf Try.prog 3 = some 1 := by kernel_rfl
@[simp] theorem agg3 : aggOf Try.prog 3 = some false := by kernel_rfl
@[simp] theorem zero3 : zeroOf Try.prog 3 = some (.int .i64 0) := by kernel_rfl
@[simp] theorem fk3 : flatK Try.prog 20 3 = some [.int .i64] := by kernel_rfl
@[simp] theorem sz4 : szOf Try.prog 4 = some 1 := by kernel_rfl
@[simp] theorem agg4 : aggOf Try.prog 4 = some false := by kernel_rfl
@[simp] theorem zero4 : zeroOf Try.prog 4 = some (.bool false) := by kernel_rfl
@[simp] theorem fk4 : flatK Try.prog 20 4 = some [.bool] := by kernel_rfl
@[simp] theorem sz5 : szOf Try.prog 5 = some 1 := by kernel_rfl
@[simp] theorem agg5 : aggOf Try.prog 5 = some false := by kernel_rfl
@[simp] theorem zero5 : zeroOf Try.prog 5 = some (.int .u8 0) := by kernel_rfl
@[simp] theorem fk5 : flatK Try.prog 20 5 = some [.int .u8] := by kernel_rfl
@[simp] theorem sz6 : szOf Try.prog 6 = some 1 := by kernel_rfl
@[simp] theorem agg6 : aggOf Try.prog 6 = some false := by kernel_rfl
@[simp] theorem zero6 : zeroOf Try.prog 6 = some (.int .u8 0) := by kernel_rfl
@[simp] theorem fk6 : flatK Try.prog 20 6 = some [.int .u8] := by kernel_rfl
@[simp] theorem sz7 : szOf Try.prog 7 = some 4 := by kernel_rfl
@[simp] theorem agg7 : aggOf Try.prog 7 = some true := by kernel_rfl
@[simp] theorem zero7 : zeroOf Try.prog 7 = some (.agg [.int .i64 0, .int .i64 0, .bool false, .int .u8 0]) := by kernel_rfl
@[simp] theorem fk7 : flatK Try.prog 20 7 = some [.int .i64, .int .i64, .bool, .int .u8] := by kernel_rfl
@[simp] theorem fa7_0 (x : AV) : fieldAddrA Try.prog 7 x 0 = moveA 0 x := by kernel_rfl
@[simp] theorem fl7_0 (cs : List AV) : fieldA Try.prog 7 (.agg cs) 0 = partA Try.prog 2 cs 0 := by kernel_rfl
@[simp] theorem fa7_1 (x : AV) : fieldAddrA Try.prog 7 x 1 = moveA 1 x := by kernel_rfl
@[simp] theorem fl7_1 (cs : List AV) : fieldA Try.prog 7 (.agg cs) 1 = partA Try.prog 3 cs 1 := by kernel_rfl
@[simp] theorem fa7_2 (x : AV) : fieldAddrA Try.prog 7 x 2 = moveA 2 x := by kernel_rfl
@[simp] theorem fl7_2 (cs : List AV) : fieldA Try.prog 7 (.agg cs) 2 = partA Try.prog 4 cs 2 := by kernel_rfl
@[simp] theorem fa7_3 (x : AV) : fieldAddrA Try.prog 7 x 3 = moveA 3 x := by kernel_rfl
@[simp] theorem fl7_3 (cs : List AV) : fieldA Try.prog 7 (.agg cs) 3 = partA Try.prog 6 cs 3 := by kernel_rfl
@[simp] theorem sz8 : szOf Try.prog 8 = some 4 := by kernel_rfl
@[simp] theorem agg8 : aggOf Try.prog 8 = some true := by kernel_rfl
@[simp] theorem zero8 : zeroOf Try.prog 8 = some (.agg [.int .i64 0, .int .i64 0, .bool false, .int .u8 0]) := by kernel_rfl
@[simp] theorem fk8 : flatK Try.prog 20 8 = some [.int .i64, .int .i64, .bool, .int .u8] := by kernel_rfl
@[simp] theorem fa8_0 (x : AV) : fieldAddrA Try.prog 8 x 0 = moveA 0 x := by kernel_rfl
@[simp] theorem fl8_0 (cs : List AV) : fieldA Try.prog 8 (.agg cs) 0 = partA Try.prog 2 cs 0 := by kernel_rfl
@[simp] theorem fa8_1 (x : AV) : fieldAddrA Try.prog 8 x 1 = moveA 1 x := by kernel_rfl
@[simp] theorem fl8_1 (cs : List AV) : fieldA Try.prog 8 (.agg cs) 1 = partA Try.prog 3 cs 1 := by kernel_rfl
@[simp] theorem fa8_2 (x : AV) : fieldAddrA Try.prog 8 x 2 = moveA 2 x := by kernel_rfl
@[simp] theorem fl8_2 (cs : List AV) : fieldA Try.prog 8 (.agg cs) 2 = partA Try.prog 4 cs 2 := by kernel_rfl
@[simp] theorem fa8_3 (x : AV) : fieldAddrA Try.prog 8 x 3 = moveA 3 x := by kernel_rfl
@[simp] theorem fl8_3 (cs : List AV) : fieldA Try.prog 8 (.agg cs) 3 = partA Try.prog 6 cs 3 := by kernel_rfl
@[simp] theorem sz9 : szOf Try.prog 9 = some 1 := by kernel_rfl
@[simp] theorem agg9 : aggOf Try.prog 9 = some false := by kernel_rfl
@[simp] theorem zero9 : zeroOf Try.prog 9 = some (.str []) := by kernel_rfl
@[simp] theorem fk9 : flatK Try.prog 20 9 = some [.string] := by kernel_rfl
@[simp] theorem sz10 : szOf Try.prog 10 = some 1 := by kernel_rfl
@[simp] theorem agg10 : aggOf Try.prog 10 = some false := by kernel_rfl
@[simp] theorem zero10 : zeroOf Try.prog 10 = some (.str []) := by kernel_rfl
@[simp] theorem fk10 : flatK Try.prog 20 10 = some [.string] := by kernel_rfl
@[simp] theorem sz11 : szOf Try.prog 11 = some 1 := by kernel_rfl
@[simp] theorem agg11 : aggOf Try.prog 11 = some false := by kernel_rfl
@[simp] theorem zero11 : zeroOf Try.prog 11 = some (.str []) := by kernel_rfl
@[simp] theorem fk11 : flatK Try.prog 20 11 = some [.string] := by kernel_rfl
@[simp] theorem sz12 : szOf Try.prog 12 = some 1 := by kernel_rfl
@[simp] theorem agg12 : aggOf Try.prog 12 = some false := by kernel_rfl
@[simp] theorem zero12 : zeroOf Try.prog 12 = some (.int .u64 0) := by kernel_rfl
@[simp] theorem fk12 : flatK Try.prog 20 12 = some [.int .u64] := by kernel_rfl
@[simp] theorem sz13 : szOf Try.prog 13 = some 2 := by kernel_rfl
@[simp] theorem agg13 : aggOf Try.prog 13 = some true := by kernel_rfl
@[simp] theorem zero13 : zeroOf Try.prog 13 = some (.agg [.str [], .int .u64 0]) := by kernel_rfl
@[simp] theorem fa13_0 (x : AV) : fieldAddrA Try.prog 13 x 0 = moveA 0 x := by kernel_rfl
@[simp] theorem fl13_0 (cs : List AV) : fieldA Try.prog 13 (.agg cs) 0 = partA Try.prog 9 cs 0 := by kernel_rfl
@[simp] theorem fa13_1 (x : AV) : fieldAddrA Try.prog 13 x 1 = moveA 1 x := by kernel_rfl
@[simp] theorem fl13_1 (cs : List AV) : fieldA Try.prog 13 (.agg cs) 1 = partA Try.prog 12 cs 1 := by kernel_rfl
@[simp] theorem sz14 : szOf Try.prog 14 = some 2 := by kernel_rfl
@[simp] theorem agg14 : aggOf Try.prog 14 = some true := by kernel_rfl
@[simp] theorem zero14 : zeroOf Try.prog 14 = some (.agg [.str [], .int .u64 0]) := by kernel_rfl
@[simp] theorem fa14_0 (x : AV) : fieldAddrA Try.prog 14 x 0 = moveA 0 x := by kernel_rfl
@[simp] theorem fl14_0 (cs : List AV) : fieldA Try.prog 14 (.agg cs) 0 = partA Try.prog 9 cs 0 := by kernel_rfl
@[simp] theorem fa14_1 (x : AV) : fieldAddrA Try.prog 14 x 1 = moveA 1 x := by kernel_rfl
@[simp] theorem fl14_1 (cs : List AV) : fieldA Try.prog 14 (.agg cs) 1 = partA Try.prog 12 cs 1 := by kernel_rfl
@[simp] theorem sz15 : szOf Try.prog 15 = some 1 := by kernel_rfl
@[simp] theorem agg15 : aggOf Try.prog 15 = some false := by kernel_rfl
@[simp] theorem zero15 : zeroOf Try.prog 15 = some (.nilp) := by kernel_rfl
@[simp] theorem sz16 : szOf Try.prog 16 = some 1 := by kernel_rfl
@[simp] theorem agg16 : aggOf Try.prog 16 = some false := by kernel_rfl
@[simp] theorem zero16 : zeroOf Try.prog 16 = some (.nilp) := by kernel_rfl
@[simp] theorem sz17 : szOf Try.prog 17 = some 1 := by kernel_rfl
@[simp] theorem agg17 : aggOf Try.prog 17 = some false := by kernel_rfl
@[simp] theorem zero17 : zeroOf Try.prog 17 = some (.nilp) := by kernel_rfl
@[simp] theorem sz18 : szOf Try.prog 18 = some 1 := by kernel_rfl
@[simp] theorem agg18 : aggOf Try.prog 18 = some true := by kernel_rfl
@[simp] theorem zero18 : zeroOf Try.prog 18 = some (.agg [.nilp]) := by kernel_rfl
@[simp] theorem fa18_0 (x : AV) : fieldAddrA Try.prog 18 x 0 = moveA 0 x := by kernel_rfl
@[simp] theorem fl18_0 (cs : List AV) : fieldA Try.prog 18 (.agg cs) 0 = partA Try.prog 17 cs 0 := by kernel_rfl
@[simp] theorem sz19 : szOf Try.prog 19 = some 1 := by kernel_rfl
@[simp] theorem agg19 : aggOf Try.prog 19 = some true := by kernel_rfl
@[simp] theorem zero19 : zeroOf Try.prog 19 = some (.agg [.nilp]) := by kernel_rfl
@[simp] theorem fa19_0 (x : AV) : fieldAddrA Try.prog 19 x 0 = moveA 0 x := by kernel_rfl
@[simp] theorem fl19_0 (cs : List AV) : fieldA Try.prog 19 (.agg cs) 0 = partA Try.prog 17 cs 0 := by kernel_rfl
@[simp] theorem sz20 : szOf Try.prog 20 = some 1 := by kernel_rfl
@[simp] theorem agg20 : aggOf Try.prog 20 = some false := by kernel_rfl
@[simp] theorem zero20 : zeroOf Try.prog 20 = some (.nili) := by kernel_rfl
@[simp] theorem sz21 : szOf Try.prog 21 = some 1 := by kernel_rfl
@[simp] theorem agg21 : aggOf Try.prog 21 = some false := by kernel_rfl
@[simp] theorem zero21 : zeroOf Try.prog 21 = some (.int .i32 0) := by kernel_rfl
@[simp] theorem fk21 : flatK Try.prog 20 21 = some [.int .i32] := by kernel_rfl
@[simp] theorem sz22 : szOf Try.prog 22 = some 1 := by kernel_rfl
@[simp] theorem agg22 : aggOf Try.prog 22 = some false := by kernel_rfl
@[simp] theorem zero22 : zeroOf Try.prog 22 = some (.nils) := by kernel_rfl
@[simp] theorem si22 : sliceInfo Try.prog 22 = some (26, 6, 56) := by kernel_rfl
@[simp] theorem ix22 : ixI Try.prog 22 = some (.sl 6) := by kernel_rfl
@[simp] theorem sz23 : szOf Try.prog 23 = some 1 := by kernel_rfl
@[simp] theorem agg23 : aggOf Try.prog 23 = some false := by kernel_rfl
@[simp] theorem zero23 : zeroOf Try.prog 23 = some (.nilf) := by kernel_rfl
@[simp] theorem sz24 : szOf Try.prog 24 = some 1 := by kernel_rfl
@[simp] theorem agg24 : aggOf Try.prog 24 = some false := by kernel_rfl
@[simp] theorem zero24 : zeroOf Try.prog 24 = some (.int .u64 0) := by kernel_rfl
@[simp] theorem fk24 : flatK Try.prog 20 24 = some [.int .u64] := by kernel_rfl
@[simp] theorem sz25 : szOf Try.prog 25 = some 6 := by kernel_rfl
@[simp] theorem agg25 : aggOf Try.prog 25 = some true := by kernel_rfl
@[simp] theorem zero25 : zeroOf Try.prog 25 = some (.agg [.str [], .int .i64 0, .int .i64 0, .int .i64 0, .int .u64 0, .int .u64 0]) := by kernel_rfl
@[simp] theorem fk25 : flatK Try.prog 20 25 = some [.string, .int .i64, .int .i64, .int .i64, .int .u64, .int .u64] := by kernel_rfl
@[simp] theorem fa25_0 (x : AV) : fieldAddrA Try.prog 25 x 0 = moveA 0 x := by kernel_rfl
@[simp] theorem fl25_0 (cs : List AV) : fieldA Try.prog 25 (.agg cs) 0 = partA Try.prog 9 cs 0 := by kernel_rfl
@[simp] theorem fa25_1 (x : AV) : fieldAddrA Try.prog 25 x 1 = moveA 1 x := by kernel_rfl
@[simp] theorem fl25_1 (cs : List AV) : fieldA Try.prog 25 (.agg cs) 1 = partA Try.prog 3 cs 1 := by kernel_rfl
@[simp] theorem fa25_2 (x : AV) : fieldAddrA Try.prog 25 x 2 = moveA 2 x := by kernel_rfl
@[simp] theorem fl25_2 (cs : List AV) : fieldA Try.prog 25 (.agg cs) 2 = partA Try.prog 3 cs 2 := by kernel_rfl
@[simp] theorem fa25_3 (x : AV) : fieldAddrA Try.prog 25 x 3 = moveA 3 x := by kernel_rfl
@[simp] theorem fl25_3 (cs : List AV) : fieldA Try.prog 25 (.agg cs) 3 = partA Try.prog 3 cs 3 := by kernel_rfl
@[simp] theorem fa25_4 (x : AV) : fieldAddrA Try.prog 25 x 4 = moveA 4 x := by kernel_rfl
@[simp] theorem fl25_4 (cs : List AV) : fieldA Try.prog 25 (.agg cs) 4 = partA Try.prog 24 cs 4 := by kernel_rfl
@[simp] theorem fa25_5 (x : AV) : fieldAddrA Try.prog 25 x 5 = moveA 5 x := by kernel_rfl
@[simp] theorem fl25_5 (cs : List AV) : fieldA Try.prog 25 (.agg cs) 5 = partA Try.prog 24 cs 5 := by kernel_rfl
@[simp] theorem sz26 : szOf Try.prog 26 = some 6 := by kernel_rfl
@[simp] theorem agg26 : aggOf Try.prog 26 = some true := by kernel_rfl
@[simp] theorem zero26 : zeroOf Try.prog 26 = some (.agg [.str [], .int .i64 0, .int .i64 0, .int .i64 0, .int .u64 0, .int .u64 0]) := by kernel_rfl
@[simp] theorem fk26 : flatK Try.prog 20 26 = some [.string, .int .i64, .int .i64, .int .i64, .int .u64, .int .u64] := by kernel_rfl
@[simp] theorem fa26_0 (x : AV) : fieldAddrA Try.prog 26 x 0 = moveA 0 x := by kernel_rfl
@[simp] theorem fl26_0 (cs : List AV) : fieldA Try.prog 26 (.agg cs) 0 = partA Try.prog 9 cs 0 := by kernel_rfl
@[simp] theorem fa26_1 (x : AV) : fieldAddrA Try.prog 26 x 1 = moveA 1 x := by kernel_rfl
@[simp] theorem fl26_1 (cs : List AV) : fieldA Try.prog 26 (.agg cs) 1 = partA Try.prog 3 cs 1 := by kernel_rfl
@[simp] theorem fa26_2 (x : AV) : fieldAddrA Try.prog 26 x 2 = moveA 2 x := by kernel_rfl
@[simp] theorem fl26_2 (cs : List AV) : fieldA Try.prog 26 (.agg cs) 2 = partA Try.prog 3 cs 2 := by kernel_rfl
@[simp] theorem fa26_3 (x : AV) : fieldAddrA Try.prog 26 x 3 = moveA 3 x := by kernel_rfl
@[simp] theorem fl26_3 (cs : List AV) : fieldA Try.prog 26 (.agg cs) 3 = partA Try.prog 3 cs 3 := by kernel_rfl
@[simp] theorem fa26_4 (x : AV) : fieldAddrA Try.prog 26 x 4 = moveA 4 x := by kernel_rfl
@[simp] theorem fl26_4 (cs : List AV) : fieldA Try.prog 26 (.agg cs) 4 = partA Try.prog 24 cs 4 := by kernel_rfl
@[simp] theorem fa26_5 (x : AV) : fieldAddrA Try.prog 26 x 5 = moveA 5 x := by kernel_rfl
@[simp] theorem fl26_5 (cs : List AV) : fieldA Try.prog 26 (.agg cs) 5 = partA Try.prog 24 cs 5 := by kernel_rfl
@[simp] theorem sz27 : szOf Try.prog 27 = some 1 := by kernel_rfl
@[simp] theorem agg27 : aggOf Try.prog 27 = some false := by kernel_rfl
@[simp] theorem zero27 : zeroOf Try.prog 27 = some (.nils) := by kernel_rfl
@[simp] theorem si27 : sliceInfo Try.prog 27 = some (92, 7, 96) := by kernel_rfl
@[simp] theorem ix27 : ixI Try.prog 27 = some (.sl 7) := by kernel_rfl
@[simp] theorem sz28 : szOf Try.prog 28 = some 1 := by kernel_rfl
@[simp] theorem agg28 : aggOf Try.prog 28 = some false := by kernel_rfl
@[simp] theorem zero28 : zeroOf Try.prog 28 = some (.nils) := by kernel_rfl
@[simp] theorem si28 : sliceInfo Try.prog 28 = some (95, 2, 40) := by kernel_rfl
@[simp] theorem ix28 : ixI Try.prog 28 = some (.sl 2) := by kernel_rfl
@[simp] theorem sz29 : szOf Try.prog 29 = some 3 := by kernel_rfl
@[simp] theorem agg29 : aggOf Try.prog 29 = some true := by kernel_rfl
@[simp] theorem zero29 : zeroOf Try.prog 29 = some (.agg [.nils, .nils, .nils]) := by kernel_rfl
@[simp] theorem fa29_0 (x : AV) : fieldAddrA Try.prog 29 x 0 = moveA 0 x := by kernel_rfl
@[simp] theorem fl29_0 (cs : List AV) : fieldA Try.prog 29 (.agg cs) 0 = partA Try.prog 27 cs 0 := by kernel_rfl
@[simp] theorem fa29_1 (x : AV) : fieldAddrA Try.prog 29 x 1 = moveA 1 x := by kernel_rfl
@[simp] theorem fl29_1 (cs : List AV) : fieldA Try.prog 29 (.agg cs) 1 = partA Try.prog 22 cs 1 := by kernel_rfl
@[simp] theorem fa29_2 (x : AV) : fieldAddrA Try.prog 29 x 2 = moveA 2 x := by kernel_rfl
@[simp] theorem fl29_2 (cs : List AV) : fieldA Try.prog 29 (.agg cs) 2 = partA Try.prog 28 cs 2 := by kernel_rfl
@[simp] theorem sz30 : szOf Try.prog 30 = some 3 := by kernel_rfl
@[simp] theorem agg30 : aggOf Try.prog 30 = some true := by kernel_rfl
@[simp] theorem zero30 : zeroOf Try.prog 30 = some (.agg [.nils, .nils, .nils]) := by kernel_rfl
@[simp] theorem fa30_0 (x : AV) : fieldAddrA Try.prog 30 x 0 = moveA 0 x := by kernel_rfl
@[simp] theorem fl30_0 (cs : List AV) : fieldA Try.prog 30 (.agg cs) 0 = partA Try.prog 27 cs 0 := by kernel_rfl
@[simp] theorem fa30_1 (x : AV) : fieldAddrA Try.prog 30 x 1 = moveA 1 x := by kernel_rfl
@[simp] theorem fl30_1 (cs : List AV) : fieldA Try.prog 30 (.agg cs) 1 = partA Try.prog 22 cs 1 := by kernel_rfl
@[simp] theorem fa30_2 (x : AV) : fieldAddrA Try.prog 30 x 2 = moveA 2 x := by kernel_rfl
@[simp] theorem fl30_2 (cs : List AV) : fieldA Try.prog 30 (.agg cs) 2 = partA Try.prog 28 cs 2 := by kernel_rfl
@[simp] theorem sz31 : szOf Try.prog 31 = some 1 := by kernel_rfl
@[simp] theorem agg31 : aggOf Try.prog 31 = some false := by kernel_rfl
@[simp] theorem zero31 : zeroOf Try.prog 31 = some (.nilf) := by kernel_rfl
@[simp] theorem sz32 : szOf Try.prog 32 = some 1 := by kernel_rfl
@[simp] theorem agg32 : aggOf Try.prog 32 = some false := by kernel_rfl
@[simp] theorem zero32 : zeroOf Try.prog 32 = some (.nils) := by kernel_rfl
@[simp] theorem si32 : sliceInfo Try.prog 32 = some (9, 1, 16) := by kernel_rfl
@[simp] theorem ix32 : ixI Try.prog 32 = some (.sl 1) := by kernel_rfl
@[simp] theorem sz33 : szOf Try.prog 33 = some 1 := by kernel_rfl
@[simp] theorem agg33 : aggOf Try.prog 33 = some false := by kernel_rfl
@[simp] theorem zero33 : zeroOf Try.prog 33 = some (.nilf) := by kernel_rfl
@[simp] theorem sz34 : szOf Try.prog 34 = some 1 := by kernel_rfl
@[simp] theorem agg34 : aggOf Try.prog 34 = some false := by kernel_rfl
@[simp] theorem zero34 : zeroOf Try.prog 34 = some (.nilf) := by kernel_rfl
@[simp] theorem sz35 : szOf Try.prog 35 = some 1 := by kernel_rfl
@[simp] theorem agg35 : aggOf Try.prog 35 = some false := by kernel_rfl
@[simp] theorem zero35 : zeroOf Try.prog 35 = some (.nils) := by kernel_rfl
@[simp] theorem si35 : sliceInfo Try.prog 35 = some (37, 2, 24) := by kernel_rfl
@[simp] theorem ix35 : ixI Try.prog 35 = some (.sl 2) := by kernel_rfl
@[simp] theorem sz36 : szOf Try.prog 36 = some 2 := by kernel_rfl
@[simp] theorem agg36 : aggOf Try.prog 36 = some true := by kernel_rfl
@[simp] theorem zero36 : zeroOf Try.prog 36 = some (.agg [.str [], .int .i64 0]) := by kernel_rfl
@[simp] theorem fk36 : flatK Try.prog 20 36 = some [.string, .int .i64] := by kernel_rfl
@[simp] theorem fa36_0 (x : AV) : fieldAddrA Try.prog 36 x 0 = moveA 0 x := by kernel_rfl
@[simp] theorem fl36_0 (cs : List AV) : fieldA Try.prog 36 (.agg cs) 0 = partA Try.prog 9 cs 0 := by kernel_rfl
@[simp] theorem fa36_1 (x : AV) : fieldAddrA Try.prog 36 x 1 = moveA 1 x := by kernel_rfl
@[simp] theorem fl36_1 (cs : List AV) : fieldA Try.prog 36 (.agg cs) 1 = partA Try.prog 3 cs 1 := by kernel_rfl
@[simp] theorem sz37 : szOf Try.prog 37 = some 2 := by kernel_rfl
@[simp] theorem agg37 : aggOf Try.prog 37 = some true := by kernel_rfl
@[simp] theorem zero37 : zeroOf Try.prog 37 = some (.agg [.str [], .int .i64 0]) := by kernel_rfl
@[simp] theorem fk37 : flatK Try.prog 20 37 = some [.string, .int .i64] := by kernel_rfl
@[simp] theorem fa37_0 (x : AV) : fieldAddrA Try.prog 37 x 0 = moveA 0 x := by kernel_rfl
@[simp] theorem fl37_0 (cs : List AV) : fieldA Try.prog 37 (.agg cs) 0 = partA Try.prog 9 cs 0 := by kernel_rfl
@[simp] theorem fa37_1 (x : AV) : fieldAddrA Try.prog 37 x 1 = moveA 1 x := by kernel_rfl
@[simp] theorem fl37_1 (cs : List AV) : fieldA Try.prog 37 (.agg cs) 1 = partA Try.prog 3 cs 1 := by kernel_rfl
@[simp] theorem sz38 : szOf Try.prog 38 = some 1 := by kernel_rfl
@[simp] theorem agg38 : aggOf Try.prog 38 = some false := by kernel_rfl
@[simp] theorem zero38 : zeroOf Try.prog 38 = some (.nils) := by kernel_rfl
@[simp] theorem si38 : sliceInfo Try.prog 38 = some (5, 1, 1) := by kernel_rfl
@[simp] theorem ix38 : ixI Try.prog 38 = some (.sl 1) := by kernel_rfl
@[simp] theorem sz39 : szOf Try.prog 39 = some 1 := by kernel_rfl
@[simp] theorem agg39 : aggOf Try.prog 39 = some false := by kernel_rfl
@[simp] theorem zero39 : zeroOf Try.prog 39 = some (.nilf) := by kernel_rfl
@[simp] theorem sz40 : szOf Try.prog 40 = some 1 := by kernel_rfl
@[simp] theorem agg40 : aggOf Try.prog 40 = some false := by kernel_rfl
@[simp] theorem zero40 : zeroOf Try.prog 40 = some (.int .i64 0) := by kernel_rfl
@[simp] theorem fk40 : flatK Try.prog 20 40 = some [.int .i64] := by kernel_rfl
@[simp] theorem sz41 : szOf Try.prog 41 = some 1 := by kernel_rfl
@[simp] theorem agg41 : aggOf Try.prog 41 = some false := by kernel_rfl
@[simp] theorem zero41 : zeroOf Try.prog 41 = some (.tup [.nils, .int .i64 0]) := by kernel_rfl
@[simp] theorem sz42 : szOf Try.prog 42 = some 1 := by kernel_rfl
@[simp] theorem agg42 : aggOf Try.prog 42 = some false := by kernel_rfl
@[simp] theorem zero42 : zeroOf Try.prog 42 = some (.nilf) := by kernel_rfl
@[simp] theorem sz43 : szOf Try.prog 43 = some 1 := by kernel_rfl
@[simp] theorem agg43 : aggOf Try.prog 43 = some false := by kernel_rfl
@[simp] theorem zero43 : zeroOf Try.prog 43 = some (.nilf) := by kernel_rfl
@[simp] theorem sz44 : szOf Try.prog 44 = some 1 := by kernel_rfl
@[simp] theorem agg44 : aggOf Try.prog 44 = some false := by kernel_rfl
@[simp] theorem zero44 : zeroOf Try.prog 44 = some (.nilm) := by kernel_rfl
@[simp] theorem mt44 : mapTypes Try.prog 44 = some (9, [.string], 3) := by kernel_rfl
@[simp] theorem sz45 : szOf Try.prog 45 = some 1 := by kernel_rfl
@[simp] theorem agg45 : aggOf Try.prog 45 = some false := by kernel_rfl
@[simp] theorem zero45 : zeroOf Try.prog 45 = some (.nilf) := by kernel_rfl
@[simp] theorem sz46 : szOf Try.prog 46 = some 1 := by kernel_rfl
@[simp] theorem agg46 : aggOf Try.prog 46 = some false := by kernel_rfl
@[simp] theorem zero46 : zeroOf Try.prog 46 = some (.nilf) := by kernel_rfl
@[simp] theorem sz47 : szOf Try.prog 47 = some 1 := by kernel_rfl
@[simp] theorem agg47 : aggOf Try.prog 47 = some false := by kernel_rfl
@[simp] theorem zero47 : zeroOf Try.prog 47 = some (.nilf) := by kernel_rfl
@[simp] theorem sz48 : szOf Try.prog 48 = some 1 := by kernel_rfl
@[simp] theorem agg48 : aggOf Try.prog 48 = some false := by kernel_rfl
@[simp] theorem zero48 : zeroOf Try.prog 48 = some (.nilf) := by kernel_rfl
@[simp] theorem sz49 : szOf Try.prog 49 = some 1 := by kernel_rfl
@[simp] theorem agg49 : aggOf Try.prog 49 = some false := by kernel_rfl
@[simp] theorem zero49 : zeroOf Try.prog 49 = some (.nilf) := by kernel_rfl
@[simp] theorem sz50 : szOf Try.prog 50 = some 1 := by kernel_rfl
@[simp] theorem agg50 : aggOf Try.prog 50 = some false := by kernel_rfl
@[simp] theorem zero50 : zeroOf Try.prog 50 = some (.nilf) := by kernel_rfl
@[simp] theorem sz51 : szOf Try.prog 51 = some 1 := by kernel_rfl
@[simp] theorem agg51 : aggOf Try.prog 51 = some false := by kernel_rfl
@[simp] theorem zero51 : zeroOf Try.prog 51 = some (.nilf) := by kernel_rfl
@[simp] theorem sz52 : szOf Try.prog 52 = some 1 := by kernel_rfl
@[simp] theorem agg52 : aggOf Try.prog 52 = some false := by kernel_rfl
@[simp] theorem zero52 : zeroOf Try.prog 52 = some (.nilf) := by kernel_rfl
@[simp] theorem sz53 : szOf Try.prog 53 = some 1 := by kernel_rfl
@[simp] theorem agg53 : aggOf Try.prog 53 = some false := by kernel_rfl
@[simp] theorem zero53 : zeroOf Try.prog 53 = some (.nilf) := by kernel_rfl
@[simp] theorem sz54 : szOf Try.prog 54 = some 1 := by kernel_rfl
@[simp] theorem agg54 : aggOf Try.prog 54 = some false := by kernel_rfl
@[simp] theorem zero54 : zeroOf Try.prog 54 = some (.int .u64 0) := by kernel_rfl
@[simp] theorem fk54 : flatK Try.prog 20 54 = some [.int .u64] := by kernel_rfl
@[simp] theorem sz55 : szOf Try.prog 55 = some 1 := by kernel_rfl
@[simp] theorem agg55 : aggOf Try.prog 55 = some false := by kernel_rfl
@[simp] theorem zero55 : zeroOf Try.prog 55 = some (.nilf) := by kernel_rfl
@[simp] theorem sz56 : szOf Try.prog 56 = some 1 := by kernel_rfl
@[simp] theorem agg56 : aggOf Try.prog 56 = some false := by kernel_rfl
@[simp] theorem zero56 : zeroOf Try.prog 56 = some (.int .i64 0) := by kernel_rfl
@[simp] theorem fk56 : flatK Try.prog 20 56 = some [.int .i64] := by kernel_rfl
@[simp] theorem sz57 : szOf Try.prog 57 = some 1 := by kernel_rfl
@[simp] theorem agg57 : aggOf Try.prog 57 = some false := by kernel_rfl
@[simp] theorem zero57 : zeroOf Try.prog 57 = some (.tup [.int .i64 0, .int .i64 0]) := by kernel_rfl
@[simp] theorem sz58 : szOf Try.prog 58 = some 1 := by kernel_rfl
@[simp] theorem agg58 : aggOf Try.prog 58 = some false := by kernel_rfl
@[simp] theorem zero58 : zeroOf Try.prog 58 = some (.nilf) := by kernel_rfl
@[simp] theorem sz59 : szOf Try.prog 59 = some 1 := by kernel_rfl
@[simp] theorem agg59 : aggOf Try.prog 59 = some false := by kernel_rfl
@[simp] theorem zero59 : zeroOf Try.prog 59 = some (.nilf) := by kernel_rfl
@[simp] theorem sz60 : szOf Try.prog 60 = some 1 := by kernel_rfl
@[simp] theorem agg60 : aggOf Try.prog 60 = some false := by kernel_rfl
@[simp] theorem zero60 : zeroOf Try.prog 60 = some (.nilf) := by kernel_rfl
@[simp] theorem sz61 : szOf Try.prog 61 = some 1 := by kernel_rfl
@[simp] theorem agg61 : aggOf Try.prog 61 = some false := by kernel_rfl
@[simp] theorem zero61 : zeroOf Try.prog 61 = some (.tup [.int .i64 0, .bool false]) := by kernel_rfl
@[simp] theorem sz62 : szOf Try.prog 62 = some 1 := by kernel_rfl
@[simp] theorem agg62 : aggOf Try.prog 62 = some false := by kernel_rfl
@[simp] theorem zero62 : zeroOf Try.prog 62 = some (.nilf) := by kernel_rfl
@[simp] theorem sz63 : szOf Try.prog 63 = some 1 := by kernel_rfl
@[simp] theorem agg63 : aggOf Try.prog 63 = some false := by kernel_rfl
@[simp] theorem zero63 : zeroOf Try.prog 63 = some (.nilf) := by kernel_rfl
@[simp] theorem sz64 : szOf Try.prog 64 = some 1 := by kernel_rfl
@[simp] theorem agg64 : aggOf Try.prog 64 = some false := by kernel_rfl
@[simp] theorem zero64 : zeroOf Try.prog 64 = some (.int .u32 0) := by kernel_rfl
@[simp] theorem fk64 : flatK Try.prog 20 64 = some [.int .u32] := by kernel_rfl
@[simp] theorem sz65 : szOf Try.prog 65 = some 1 := by kernel_rfl
@[simp] theorem agg65 : aggOf Try.prog 65 = some false := by kernel_rfl
@[simp] theorem zero65 : zeroOf Try.prog 65 = some (.nilf) := by kernel_rfl
@[simp] theorem sz66 : szOf Try.prog 66 = some 1 := by kernel_rfl
@[simp] theorem agg66 : aggOf Try.prog 66 = some false := by kernel_rfl
@[simp] theorem zero66 : zeroOf Try.prog 66 = some (.int .u64 0) := by kernel_rfl
@[simp] theorem fk66 : flatK Try.prog 20 66 = some [.int .u64] := by kernel_rfl
@[simp] theorem sz67 : szOf Try.prog 67 = some 1 := by kernel_rfl
@[simp] theorem agg67 : aggOf Try.prog 67 = some false := by kernel_rfl
@[simp] theorem zero67 : zeroOf Try.prog 67 = some (.nilf) := by kernel_rfl
@[simp] theorem sz68 : szOf Try.prog 68 = some 1 := by kernel_rfl
@[simp] theorem agg68 : aggOf Try.prog 68 = some false := by kernel_rfl
@[simp] theorem zero68 : zeroOf Try.prog 68 = some (.nilf) := by kernel_rfl
@[simp] theorem sz69 : szOf Try.prog 69 = some 1 := by kernel_rfl
@[simp] theorem agg69 : aggOf Try.prog 69 = some false := by kernel_rfl
@[simp] theorem zero69 : zeroOf Try.prog 69 = some (.nilf) := by kernel_rfl
@[simp] theorem sz70 : szOf Try.prog 70 = some 1 := by kernel_rfl
@[simp] theorem agg70 : aggOf Try.prog 70 = some false := by kernel_rfl
@[simp] theorem zero70 : zeroOf Try.prog 70 = some (.nilp) := by kernel_rfl
@[simp] theorem sz71 : szOf Try.prog 71 = some 1 := by kernel_rfl
@[simp] theorem agg71 : aggOf Try.prog 71 = some false := by kernel_rfl
@[simp] theorem zero71 : zeroOf Try.prog 71 = some (.nilf) := by kernel_rfl
@[simp] theorem sz72 : szOf Try.prog 72 = some 1 := by kernel_rfl
@[simp] theorem agg72 : aggOf Try.prog 72 = some false := by kernel_rfl
@[simp] theorem zero72 : zeroOf Try.prog 72 = some (.nilp) := by kernel_rfl
@[simp] theorem sz73 : szOf Try.prog 73 = some 1 := by kernel_rfl
@[simp] theorem agg73 : aggOf Try.prog 73 = some false := by kernel_rfl
@[simp] theorem zero73 : zeroOf Try.prog 73 = some (.tup [.int .i64 0, .int .i64 0]) := by kernel_rfl
@[simp] theorem sz74 : szOf Try.prog 74 = some 1 := by kernel_rfl
@[simp] theorem agg74 : aggOf Try.prog 74 = some false := by kernel_rfl
@[simp] theorem zero74 : zeroOf Try.prog 74 = some (.nilf) := by kernel_rfl
@[simp] theorem sz75 : szOf Try.prog 75 = some 1 := by kernel_rfl
@[simp] theorem agg75 : aggOf Try.prog 75 = some false := by kernel_rfl
@[simp] theorem zero75 : zeroOf Try.prog 75 = some (.nilf) := by kernel_rfl
@[simp] theorem sz76 : szOf Try.prog 76 = some 4 := by kernel_rfl
@[simp] theorem agg76 : aggOf Try.prog 76 = some true := by kernel_rfl
@[simp] theorem zero76 : zeroOf Try.prog 76 = some (.agg [.nilp, .nilp, .nilp, .str []]) := by kernel_rfl
@[simp] theorem fa76_0 (x : AV) : fieldAddrA Try.prog 76 x 0 = moveA 0 x := by kernel_rfl
@[simp] theorem fl76_0 (cs : List AV) : fieldA Try.prog 76 (.agg cs) 0 = partA Try.prog 17 cs 0 := by kernel_rfl
@[simp] theorem fa76_1 (x : AV) : fieldAddrA Try.prog 76 x 1 = moveA 1 x := by kernel_rfl
@[simp] theorem fl76_1 (cs : List AV) : fieldA Try.prog 76 (.agg cs) 1 = partA Try.prog 17 cs 1 := by kernel_rfl
@[simp] theorem fa76_2 (x : AV) : fieldAddrA Try.prog 76 x 2 = moveA 2 x := by kernel_rfl
@[simp] theorem fl76_2 (cs : List AV) : fieldA Try.prog 76 (.agg cs) 2 = partA Try.prog 17 cs 2 := by kernel_rfl
@[simp] theorem fa76_3 (x : AV) : fieldAddrA Try.prog 76 x 3 = moveA 3 x := by kernel_rfl
@[simp] theorem fl76_3 (cs : List AV) : fieldA Try.prog 76 (.agg cs) 3 = partA Try.prog 9 cs 3 := by kernel_rfl
@[simp] theorem sz77 : szOf Try.prog 77 = some 4 := by kernel_rfl
@[simp] theorem agg77 : aggOf Try.prog 77 = some true := by kernel_rfl
@[simp] theorem zero77 : zeroOf Try.prog 77 = some (.agg [.nilp, .nilp, .nilp, .str []]) := by kernel_rfl
@[simp] theorem fa77_0 (x : AV) : fieldAddrA Try.prog 77 x 0 = moveA 0 x := by kernel_rfl
@[simp] theorem fl77_0 (cs : List AV) : fieldA Try.prog 77 (.agg cs) 0 = partA Try.prog 17 cs 0 := by kernel_rfl
@[simp] theorem fa77_1 (x : AV) : fieldAddrA Try.prog 77 x 1 = moveA 1 x := by kernel_rfl
@[simp] theorem fl77_1 (cs : List AV) : fieldA Try.prog 77 (.agg cs) 1 = partA Try.prog 17 cs 1 := by kernel_rfl
@[simp] theorem fa77_2 (x : AV) : fieldAddrA Try.prog 77 x 2 = moveA 2 x := by kernel_rfl
@[simp] theorem fl77_2 (cs : List AV) : fieldA Try.prog 77 (.agg cs) 2 = partA Try.prog 17 cs 2 := by kernel_rfl
@[simp] theorem fa77_3 (x : AV) : fieldAddrA Try.prog 77 x 3 = moveA 3 x := by kernel_rfl
@[simp] theorem fl77_3 (cs : List AV) : fieldA Try.prog 77 (.agg cs) 3 = partA Try.prog 9 cs 3 := by kernel_rfl
@[simp] theorem sz78 : szOf Try.prog 78 = some 0 := by kernel_rfl
@[simp] theorem agg78 : aggOf Try.prog 78 = some true := by kernel_rfl
@[simp] theorem zero78 : zeroOf Try.prog 78 = some (.agg []) := by kernel_rfl
@[simp] theorem ix78 : ixI Try.prog 78 = some (.ar 0 1) := by kernel_rfl
@[simp] theorem sz79 : szOf Try.prog 79 = some 0 := by kernel_rfl
@[simp] theorem agg79 : aggOf Try.prog 79 = some true := by kernel_rfl
@[simp] theorem zero79 : zeroOf Try.prog 79 = some (.agg []) := by kernel_rfl
@[simp] theorem sz80 : szOf Try.prog 80 = some 0 := by kernel_rfl
@[simp] theorem agg80 : aggOf Try.prog 80 = some true := by kernel_rfl
@[simp] theorem zero80 : zeroOf Try.prog 80 = some (.agg []) := by kernel_rfl
@[simp] theorem sz81 : szOf Try.prog 81 = some 1 := by kernel_rfl
@[simp] theorem agg81 : aggOf Try.prog 81 = some false := by kernel_rfl
@[simp] theorem zero81 : zeroOf Try.prog 81 = some (.nilf) := by kernel_rfl
@[simp] theorem sz82 : szOf Try.prog 82 = some 1 := by kernel_rfl
@[simp] theorem agg82 : aggOf Try.prog 82 = some false := by kernel_rfl
@[simp] theorem zero82 : zeroOf Try.prog 82 = some (.int .u8 0) := by kernel_rfl
@[simp] theorem fk82 : flatK Try.prog 20 82 = some [.int .u8] := by kernel_rfl
@[simp] theorem sz83 : szOf Try.prog 83 = some 1 := by kernel_rfl
@[simp] theorem agg83 : aggOf Try.prog 83 = some false := by kernel_rfl
@[simp] theorem zero83 : zeroOf Try.prog 83 = some (.int .u8 0) := by kernel_rfl
@[simp] theorem fk83 : flatK Try.prog 20 83 = some [.int .u8] := by kernel_rfl
@[simp] theorem sz84 : szOf Try.prog 84 = some 1 := by kernel_rfl
@[simp] theorem agg84 : aggOf Try.prog 84 = some false := by kernel_rfl
@[simp] theorem zero84 : zeroOf Try.prog 84 = some (.nilf) := by kernel_rfl
@[simp] theorem sz85 : szOf Try.prog 85 = some 1 := by kernel_rfl
@[simp] theorem agg85 : aggOf Try.prog 85 = some false := by kernel_rfl
@[simp] theorem zero85 : zeroOf Try.prog 85 = some (.nilp) := by kernel_rfl
@[simp] theorem sz86 : szOf Try.prog 86 = some 1 := by kernel_rfl
@[simp] theorem agg86 : aggOf Try.prog 86 = some false := by kernel_rfl
@[simp] theorem zero86 : zeroOf Try.prog 86 = some (.int .i32 0) := by kernel_rfl
@[simp] theorem fk86 : flatK Try.prog 20 86 = some [.int .i32] := by kernel_rfl
@[simp] theorem sz87 : szOf Try.prog 87 = some 1 := by kernel_rfl
@[simp] theorem agg87 : aggOf Try.prog 87 = some false := by kernel_rfl
@[simp] theorem zero87 : zeroOf Try.prog 87 = some (.int .i32 0) := by kernel_rfl
@[simp] theorem fk87 : flatK Try.prog 20 87 = some [.int .i32] := by kernel_rfl
@[simp] theorem sz88 : szOf Try.prog 88 = some 11 := by kernel_rfl
@[simp] theorem agg88 : aggOf Try.prog 88 = some true := by kernel_rfl
@[simp] theorem zero88 : zeroOf Try.prog 88 = some (.agg [.int .u64 0, .int .u64 0, .int .u32 0, .int .u8 0, .int .u8 0, .int .u8 0, .int .u8 0, .nilf, .nilp, .int .i32 0, .int .i32 0]) := by kernel_rfl
@[simp] theorem fa88_0 (x : AV) : fieldAddrA Try.prog 88 x 0 = moveA 0 x := by kernel_rfl
@[simp] theorem fl88_0 (cs : List AV) : fieldA Try.prog 88 (.agg cs) 0 = partA Try.prog 12 cs 0 := by kernel_rfl
@[simp] theorem fa88_1 (x : AV) : fieldAddrA Try.prog 88 x 1 = moveA 1 x := by kernel_rfl
@[simp] theorem fl88_1 (cs : List AV) : fieldA Try.prog 88 (.agg cs) 1 = partA Try.prog 12 cs 1 := by kernel_rfl
@[simp] theorem fa88_2 (x : AV) : fieldAddrA Try.prog 88 x 2 = moveA 2 x := by kernel_rfl
@[simp] theorem fl88_2 (cs : List AV) : fieldA Try.prog 88 (.agg cs) 2 = partA Try.prog 64 cs 2 := by kernel_rfl
@[simp] theorem fa88_3 (x : AV) : fieldAddrA Try.prog 88 x 3 = moveA 3 x := by kernel_rfl
@[simp] theorem fl88_3 (cs : List AV) : fieldA Try.prog 88 (.agg cs) 3 = partA Try.prog 82 cs 3 := by kernel_rfl
@[simp] theorem fa88_4 (x : AV) : fieldAddrA Try.prog 88 x 4 = moveA 4 x := by kernel_rfl
@[simp] theorem fl88_4 (cs : List AV) : fieldA Try.prog 88 (.agg cs) 4 = partA Try.prog 5 cs 4 := by kernel_rfl
@[simp] theorem fa88_5 (x : AV) : fieldAddrA Try.prog 88 x 5 = moveA 5 x := by kernel_rfl
@[simp] theorem fl88_5 (cs : List AV) : fieldA Try.prog 88 (.agg cs) 5 = partA Try.prog 5 cs 5 := by kernel_rfl
@[simp] theorem fa88_6 (x : AV) : fieldAddrA Try.prog 88 x 6 = moveA 6 x := by kernel_rfl
@[simp] theorem fl88_6 (cs : List AV) : fieldA Try.prog 88 (.agg cs) 6 = partA Try.prog 83 cs 6 := by kernel_rfl
@[simp] theorem fa88_7 (x : AV) : fieldAddrA Try.prog 88 x 7 = moveA 7 x := by kernel_rfl
@[simp] theorem fl88_7 (cs : List AV) : fieldA Try.prog 88 (.agg cs) 7 = partA Try.prog 84 cs 7 := by kernel_rfl
@[simp] theorem fa88_8 (x : AV) : fieldAddrA Try.prog 88 x 8 = moveA 8 x := by kernel_rfl
@[simp] theorem fl88_8 (cs : List AV) : fieldA Try.prog 88 (.agg cs) 8 = partA Try.prog 85 cs 8 := by kernel_rfl
@[simp] theorem fa88_9 (x : AV) : fieldAddrA Try.prog 88 x 9 = moveA 9 x := by kernel_rfl
@[simp] theorem fl88_9 (cs : List AV) : fieldA Try.prog 88 (.agg cs) 9 = partA Try.prog 86 cs 9 := by kernel_rfl
@[simp] theorem fa88_10 (x : AV) : fieldAddrA Try.prog 88 x 10 = moveA 10 x := by kernel_rfl
@[simp] theorem fl88_10 (cs : List AV) : fieldA Try.prog 88 (.agg cs) 10 = partA Try.prog 87 cs 10 := by kernel_rfl
@[simp] theorem sz89 : szOf Try.prog 89 = some 11 := by kernel_rfl
@[simp] theorem agg89 : aggOf Try.prog 89 = some true := by kernel_rfl
@[simp] theorem zero89 : zeroOf Try.prog 89 = some (.agg [.int .u64 0, .int .u64 0, .int .u32 0, .int .u8 0, .int .u8 0, .int .u8 0, .int .u8 0, .nilf, .nilp, .int .i32 0, .int .i32 0]) := by kernel_rfl
@[simp] theorem fa89_0 (x : AV) : fieldAddrA Try.prog 89 x 0 = moveA 0 x := by kernel_rfl
@[simp] theorem fl89_0 (cs : List AV) : fieldA Try.prog 89 (.agg cs) 0 = partA Try.prog 12 cs 0 := by kernel_rfl
@[simp] theorem fa89_1 (x : AV) : fieldAddrA Try.prog 89 x 1 = moveA 1 x := by kernel_rfl
@[simp] theorem fl89_1 (cs : List AV) : fieldA Try.prog 89 (.agg cs) 1 = partA Try.prog 12 cs 1 := by kernel_rfl
@[simp] theorem fa89_2 (x : AV) : fieldAddrA Try.prog 89 x 2 = moveA 2 x := by kernel_rfl
@[simp] theorem fl89_2 (cs : List AV) : fieldA Try.prog 89 (.agg cs) 2 = partA Try.prog 64 cs 2 := by kernel_rfl
@[simp] theorem fa89_3 (x : AV) : fieldAddrA Try.prog 89 x 3 = moveA 3 x := by kernel_rfl
@[simp] theorem fl89_3 (cs : List AV) : fieldA Try.prog 89 (.agg cs) 3 = partA Try.prog 82 cs 3 := by kernel_rfl
@[simp] theorem fa89_4 (x : AV) : fieldAddrA Try.prog 89 x 4 = moveA 4 x := by kernel_rfl
@[simp] theorem fl89_4 (cs : List AV) : fieldA Try.prog 89 (.agg cs) 4 = partA Try.prog 5 cs 4 := by kernel_rfl
@[simp] theorem fa89_5 (x : AV) : fieldAddrA Try.prog 89 x 5 = moveA 5 x := by kernel_rfl
@[simp] theorem fl89_5 (cs : List AV) : fieldA Try.prog 89 (.agg cs) 5 = partA Try.prog 5 cs 5 := by kernel_rfl
@[simp] theorem fa89_6 (x : AV) : fieldAddrA Try.prog 89 x 6 = moveA 6 x := by kernel_rfl
@[simp] theorem fl89_6 (cs : List AV) : fieldA Try.prog 89 (.agg cs) 6 = partA Try.prog 83 cs 6 := by kernel_rfl
@[simp] theorem fa89_7 (x : AV) : fieldAddrA Try.prog 89 x 7 = moveA 7 x := by kernel_rfl
@[simp] theorem fl89_7 (cs : List AV) : fieldA Try.prog 89 (.agg cs) 7 = partA Try.prog 84 cs 7 := by kernel_rfl
@[simp] theorem fa89_8 (x : AV) : fieldAddrA Try.prog 89 x 8 = moveA 8 x := by kernel_rfl
@[simp] theorem fl89_8 (cs : List AV) : fieldA Try.prog 89 (.agg cs) 8 = partA Try.prog 85 cs 8 := by kernel_rfl
@[simp] theorem fa89_9 (x : AV) : fieldAddrA Try.prog 89 x 9 = moveA 9 x := by kernel_rfl
@[simp] theorem fl89_9 (cs : List AV) : fieldA Try.prog 89 (.agg cs) 9 = partA Try.prog 86 cs 9 := by kernel_rfl
@[simp] theorem fa89_10 (x : AV) : fieldAddrA Try.prog 89 x 10 = moveA 10 x := by kernel_rfl
@[simp] theorem fl89_10 (cs : List AV) : fieldA Try.prog 89 (.agg cs) 10 = partA Try.prog 87 cs 10 := by kernel_rfl
@[simp] theorem sz90 : szOf Try.prog 90 = some 1 := by kernel_rfl
@[simp] theorem agg90 : aggOf Try.prog 90 = some false := by kernel_rfl
@[simp] theorem zero90 : zeroOf Try.prog 90 = some (.nils) := by kernel_rfl
@[simp] theorem si90 : sliceInfo Try.prog 90 = some (98, 4, 24) := by kernel_rfl
@[simp] theorem ix90 : ixI Try.prog 90 = some (.sl 4) := by kernel_rfl
@[simp] theorem sz91 : szOf Try.prog 91 = some 7 := by kernel_rfl
@[simp] theorem agg91 : aggOf Try.prog 91 = some true := by kernel_rfl
@[simp] theorem zero91 : zeroOf Try.prog 91 = some (.agg [.str [], .bool false, .int .u64 0, .int .u64 0, .int .u64 0, .nils, .nils]) := by kernel_rfl
@[simp] theorem fa91_0 (x : AV) : fieldAddrA Try.prog 91 x 0 = moveA 0 x := by kernel_rfl
@[simp] theorem fl91_0 (cs : List AV) : fieldA Try.prog 91 (.agg cs) 0 = partA Try.prog 9 cs 0 := by kernel_rfl
@[simp] theorem fa91_1 (x : AV) : fieldAddrA Try.prog 91 x 1 = moveA 1 x := by kernel_rfl
@[simp] theorem fl91_1 (cs : List AV) : fieldA Try.prog 91 (.agg cs) 1 = partA Try.prog 4 cs 1 := by kernel_rfl
@[simp] theorem fa91_2 (x : AV) : fieldAddrA Try.prog 91 x 2 = moveA 2 x := by kernel_rfl
@[simp] theorem fl91_2 (cs : List AV) : fieldA Try.prog 91 (.agg cs) 2 = partA Try.prog 24 cs 2 := by kernel_rfl
@[simp] theorem fa91_3 (x : AV) : fieldAddrA Try.prog 91 x 3 = moveA 3 x := by kernel_rfl
@[simp] theorem fl91_3 (cs : List AV) : fieldA Try.prog 91 (.agg cs) 3 = partA Try.prog 24 cs 3 := by kernel_rfl
@[simp] theorem fa91_4 (x : AV) : fieldAddrA Try.prog 91 x 4 = moveA 4 x := by kernel_rfl
@[simp] theorem fl91_4 (cs : List AV) : fieldA Try.prog 91 (.agg cs) 4 = partA Try.prog 24 cs 4 := by kernel_rfl
@[simp] theorem fa91_5 (x : AV) : fieldAddrA Try.prog 91 x 5 = moveA 5 x := by kernel_rfl
@[simp] theorem fl91_5 (cs : List AV) : fieldA Try.prog 91 (.agg cs) 5 = partA Try.prog 38 cs 5 := by kernel_rfl
@[simp] theorem fa91_6 (x : AV) : fieldAddrA Try.prog 91 x 6 = moveA 6 x := by kernel_rfl
@[simp] theorem fl91_6 (cs : List AV) : fieldA Try.prog 91 (.agg cs) 6 = partA Try.prog 90 cs 6 := by kernel_rfl
@[simp] theorem sz92 : szOf Try.prog 92 = some 7 := by kernel_rfl
@[simp] theorem agg92 : aggOf Try.prog 92 = some true := by kernel_rfl
@[simp] theorem zero92 : zeroOf Try.prog 92 = some (.agg [.str [], .bool false, .int .u64 0, .int .u64 0, .int .u64 0, .nils, .nils]) := by kernel_rfl
@[simp] theorem fa92_0 (x : AV) : fieldAddrA Try.prog 92 x 0 = moveA 0 x := by kernel_rfl
@[simp] theorem fl92_0 (cs : List AV) : fieldA Try.prog 92 (.agg cs) 0 = partA Try.prog 9 cs 0 := by kernel_rfl
@[simp] theorem fa92_1 (x : AV) : fieldAddrA Try.prog 92 x 1 = moveA 1 x := by kernel_rfl
@[simp] theorem fl92_1 (cs : List AV) : fieldA Try.prog 92 (.agg cs) 1 = partA Try.prog 4 cs 1 := by kernel_rfl
@[simp] theorem fa92_2 (x : AV) : fieldAddrA Try.prog 92 x 2 = moveA 2 x := by kernel_rfl
@[simp] theorem fl92_2 (cs : List AV) : fieldA Try.prog 92 (.agg cs) 2 = partA Try.prog 24 cs 2 := by kernel_rfl
@[simp] theorem fa92_3 (x : AV) : fieldAddrA Try.prog 92 x 3 = moveA 3 x := by kernel_rfl
@[simp] theorem fl92_3 (cs : List AV) : fieldA Try.prog 92 (.agg cs) 3 = partA Try.prog 24 cs 3 := by kernel_rfl
@[simp] theorem fa92_4 (x : AV) : fieldAddrA Try.prog 92 x 4 = moveA 4 x := by kernel_rfl
@[simp] theorem fl92_4 (cs : List AV) : fieldA Try.prog 92 (.agg cs) 4 = partA Try.prog 24 cs 4 := by kernel_rfl
@[simp] theorem fa92_5 (x : AV) : fieldAddrA Try.prog 92 x 5 = moveA 5 x := by kernel_rfl
@[simp] theorem fl92_5 (cs : List AV) : fieldA Try.prog 92 (.agg cs) 5 = partA Try.prog 38 cs 5 := by kernel_rfl
@[simp] theorem fa92_6 (x : AV) : fieldAddrA Try.prog 92 x 6 = moveA 6 x := by kernel_rfl
@[simp] theorem fl92_6 (cs : List AV) : fieldA Try.prog 92 (.agg cs) 6 = partA Try.prog 90 cs 6 := by kernel_rfl
@[simp] theorem sz93 : szOf Try.prog 93 = some 1 := by kernel_rfl
@[simp] theorem agg93 : aggOf Try.prog 93 = some false := by kernel_rfl
@[simp] theorem zero93 : zeroOf Try.prog 93 = some (.nils) := by kernel_rfl
@[simp] theorem si93 : sliceInfo Try.prog 93 = some (3, 1, 8) := by kernel_rfl
@[simp] theorem ix93 : ixI Try.prog 93 = some (.sl 1) := by kernel_rfl
@[simp] theorem sz94 : szOf Try.prog 94 = some 2 := by kernel_rfl
@[simp] theorem agg94 : aggOf Try.prog 94 = some true := by kernel_rfl
@[simp] theorem zero94 : zeroOf Try.prog 94 = some (.agg [.str [], .nils]) := by kernel_rfl
@[simp] theorem fa94_0 (x : AV) : fieldAddrA Try.prog 94 x 0 = moveA 0 x := by kernel_rfl
@[simp] theorem fl94_0 (cs : List AV) : fieldA Try.prog 94 (.agg cs) 0 = partA Try.prog 9 cs 0 := by kernel_rfl
@[simp] theorem fa94_1 (x : AV) : fieldAddrA Try.prog 94 x 1 = moveA 1 x := by kernel_rfl
@[simp] theorem fl94_1 (cs : List AV) : fieldA Try.prog 94 (.agg cs) 1 = partA Try.prog 93 cs 1 := by kernel_rfl
@[simp] theorem sz95 : szOf Try.prog 95 = some 2 := by kernel_rfl
@[simp] theorem agg95 : aggOf Try.prog 95 = some true := by kernel_rfl
@[simp] theorem zero95 : zeroOf Try.prog 95 = some (.agg [.str [], .nils]) := by kernel_rfl
@[simp] theorem fa95_0 (x : AV) : fieldAddrA Try.prog 95 x 0 = moveA 0 x := by kernel_rfl
@[simp] theorem fl95_0 (cs : List AV) : fieldA Try.prog 95 (.agg cs) 0 = partA Try.prog 9 cs 0 := by kernel_rfl
@[simp] theorem fa95_1 (x : AV) : fieldAddrA Try.prog 95 x 1 = moveA 1 x := by kernel_rfl
@[simp] theorem fl95_1 (cs : List AV) : fieldA Try.prog 95 (.agg cs) 1 = partA Try.prog 93 cs 1 := by kernel_rfl
@[simp] theorem sz96 : szOf Try.prog 96 = some 1 := by kernel_rfl
@[simp] theorem agg96 : aggOf Try.prog 96 = some false := by kernel_rfl
@[simp] theorem zero96 : zeroOf Try.prog 96 = some (.nilp) := by kernel_rfl
@[simp] theorem sz97 : szOf Try.prog 97 = some 4 := by kernel_rfl
@[simp] theorem agg97 : aggOf Try.prog 97 = some true := by kernel_rfl
@[simp] theorem zero97 : zeroOf Try.prog 97 = some (.agg [.int .u64 0, .int .u32 0, .int .u32 0, .int .i64 0]) := by kernel_rfl
@[simp] theorem fk97 : flatK Try.prog 20 97 = some [.int .u64, .int .u32, .int .u32, .int .i64] := by kernel_rfl
@[simp] theorem fa97_0 (x : AV) : fieldAddrA Try.prog 97 x 0 = moveA 0 x := by kernel_rfl
@[simp] theorem fl97_0 (cs : List AV) : fieldA Try.prog 97 (.agg cs) 0 = partA Try.prog 24 cs 0 := by kernel_rfl
@[simp] theorem fa97_1 (x : AV) : fieldAddrA Try.prog 97 x 1 = moveA 1 x := by kernel_rfl
@[simp] theorem fl97_1 (cs : List AV) : fieldA Try.prog 97 (.agg cs) 1 = partA Try.prog 64 cs 1 := by kernel_rfl
@[simp] theorem fa97_2 (x : AV) : fieldAddrA Try.prog 97 x 2 = moveA 2 x := by kernel_rfl
@[simp] theorem fl97_2 (cs : List AV) : fieldA Try.prog 97 (.agg cs) 2 = partA Try.prog 64 cs 2 := by kernel_rfl
@[simp] theorem fa97_3 (x : AV) : fieldAddrA Try.prog 97 x 3 = moveA 3 x := by kernel_rfl
@[simp] theorem fl97_3 (cs : List AV) : fieldA Try.prog 97 (.agg cs) 3 = partA Try.prog 2 cs 3 := by kernel_rfl
@[simp] theorem sz98 : szOf Try.prog 98 = some 4 := by kernel_rfl
@[simp] theorem agg98 : aggOf Try.prog 98 = some true := by kernel_rfl
@[simp] theorem zero98 : zeroOf Try.prog 98 = some (.agg [.int .u64 0, .int .u32 0, .int .u32 0, .int .i64 0]) := by kernel_rfl
@[simp] theorem fk98 : flatK Try.prog 20 98 = some [.int .u64, .int .u32, .int .u32, .int .i64] := by kernel_rfl
@[simp] theorem fa98_0 (x : AV) : fieldAddrA Try.prog 98 x 0 = moveA 0 x := by kernel_rfl
@[simp] theorem fl98_0 (cs : List AV) : fieldA Try.prog 98 (.agg cs) 0 = partA Try.prog 24 cs 0 := by kernel_rfl
@[simp] theorem fa98_1 (x : AV) : fieldAddrA Try.prog 98 x 1 = moveA 1 x := by kernel_rfl
@[simp] theorem fl98_1 (cs : List AV) : fieldA Try.prog 98 (.agg cs) 1 = partA Try.prog 64 cs 1 := by kernel_rfl
@[simp] theorem fa98_2 (x : AV) : fieldAddrA Try.prog 98 x 2 = moveA 2 x := by kernel_rfl
@[simp] theorem fl98_2 (cs : List AV) : fieldA Try.prog 98 (.agg cs) 2 = partA Try.prog 64 cs 2 := by kernel_rfl
@[simp] theorem fa98_3 (x : AV) : fieldAddrA Try.prog 98 x 3 = moveA 3 x := by kernel_rfl
@[simp] theorem fl98_3 (cs : List AV) : fieldA Try.prog 98 (.agg cs) 3 = partA Try.prog 2 cs 3 := by kernel_rfl
noncomputable def modes : List Nat := [1, 1, 1, 1, 1, 1, 1, 2, 2, 0, 0, 0, 1, 1, 0, 0, 1, 1, 0, 1, 1, 1, 0, 0, 0, 0, 0, 0, 0, 0, 1, 1, 0, 1, 0, 0, 0, 0, 1, 1, 1, 1, 1, 1, 1, 1, 0, 0, 0, 0, 0, 0, 0, 1, 1]
noncomputable def cf : Cfg where
  mode := fun k => match lget modes k with
    | some 1 => .plain
    | some 2 => .apart
    | _ => .shared
  ext := fun k => match k with
    | 20 => some extCmp
    | 21 => some extIdx
    | _ => none
  mutLit := fun _ _ => false
abbrev n_dovetaillaw18_ArmapDefines : Nat := 3
theorem f_dovetaillaw18_ArmapDefines : Try.prog.funcs[3]? = some Try.f3 := Try.func3
theorem x_dovetaillaw18_ArmapDefines : cf.ext 3 = none := rfl
theorem m_dovetaillaw18_ArmapDefines : cf.mode 3 = .plain := rfl
abbrev n_dovetaillaw18_ArmapBack : Nat := 4
theorem f_dovetaillaw18_ArmapBack : Try.prog.funcs[4]? = some Try.f4 := Try.func4
theorem x_dovetaillaw18_ArmapBack : cf.ext 4 = none := rfl
theorem m_dovetaillaw18_ArmapBack : cf.mode 4 = .plain := rfl
abbrev n_dovetaillaw18_known : Nat := 5
theorem f_dovetaillaw18_known : Try.prog.funcs[5]? = some Try.f5 := Try.func5
theorem x_dovetaillaw18_known : cf.ext 5 = none := rfl
theorem m_dovetaillaw18_known : cf.mode 5 = .plain := rfl
abbrev n_dovetailhelp_Strings : Nat := 6
theorem f_dovetailhelp_Strings : Try.prog.funcs[6]? = some Try.f6 := Try.func6
theorem x_dovetailhelp_Strings : cf.ext 6 = none := rfl
theorem m_dovetailhelp_Strings : cf.mode 6 = .plain := rfl
abbrev n_armap_Defines : Nat := 7
theorem f_armap_Defines : Try.prog.funcs[7]? = some Try.f7 := Try.func7
theorem x_armap_Defines : cf.ext 7 = none := rfl
theorem m_armap_Defines : cf.mode 7 = .apart := rfl
abbrev n_dovetailref17_Defines : Nat := 8
theorem f_dovetailref17_Defines : Try.prog.funcs[8]? = some Try.f8 := Try.func8
theorem x_dovetailref17_Defines : cf.ext 8 = none := rfl
theorem m_dovetailref17_Defines : cf.mode 8 = .apart := rfl
abbrev n_armap_Bytes : Nat := 9
theorem f_armap_Bytes : Try.prog.funcs[9]? = some Try.f9 := Try.func9
theorem x_armap_Bytes : cf.ext 9 = none := rfl
theorem m_armap_Bytes : cf.mode 9 = .shared := rfl
abbrev n_armap_Parse : Nat := 10
theorem f_armap_Parse : Try.prog.funcs[10]? = some Try.f10 := Try.func10
theorem x_armap_Parse : cf.ext 10 = none := rfl
theorem m_armap_Parse : cf.mode 10 = .shared := rfl
abbrev n_slices_SortFunc_string_string : Nat := 11
theorem f_slices_SortFunc_string_string : Try.prog.funcs[11]? = some Try.f11 := Try.func11
theorem x_slices_SortFunc_string_string : cf.ext 11 = none := rfl
theorem m_slices_SortFunc_string_string : cf.mode 11 = .shared := rfl
abbrev n_armap_Defines_1 : Nat := 12
theorem f_armap_Defines_1 : Try.prog.funcs[12]? = some Try.f12 := Try.func12
theorem x_armap_Defines_1 : cf.ext 12 = none := rfl
theorem m_armap_Defines_1 : cf.mode 12 = .plain := rfl
abbrev n_bytes_Compare : Nat := 13
theorem f_bytes_Compare : Try.prog.funcs[13]? = some Try.f13 := Try.func13
theorem x_bytes_Compare : cf.ext 13 = none := rfl
theorem m_bytes_Compare : cf.mode 13 = .plain := rfl
abbrev n_dovetailref17_Add : Nat := 14
theorem f_dovetailref17_Add : Try.prog.funcs[14]? = some Try.f14 := Try.func14
theorem x_dovetailref17_Add : cf.ext 14 = none := rfl
theorem m_dovetailref17_Add : cf.mode 14 = .shared := rfl
abbrev n_armap_put : Nat := 15
theorem f_armap_put : Try.prog.funcs[15]? = some Try.f15 := Try.func15
theorem x_armap_put : cf.ext 15 = none := rfl
theorem m_armap_put : cf.mode 15 = .shared := rfl
abbrev n_armap_number : Nat := 16
theorem f_armap_number : Try.prog.funcs[16]? = some Try.f16 := Try.func16
theorem x_armap_number : cf.ext 16 = none := rfl
theorem m_armap_number : cf.mode 16 = .plain := rfl
abbrev n_bytes_IndexByte : Nat := 17
theorem f_bytes_IndexByte : Try.prog.funcs[17]? = some Try.f17 := Try.func17
theorem x_bytes_IndexByte : cf.ext 17 = none := rfl
theorem m_bytes_IndexByte : cf.mode 17 = .plain := rfl
abbrev n_slices_pdqsortCmpFunc_string : Nat := 18
theorem f_slices_pdqsortCmpFunc_string : Try.prog.funcs[18]? = some Try.f18 := Try.func18
theorem x_slices_pdqsortCmpFunc_string : cf.ext 18 = none := rfl
theorem m_slices_pdqsortCmpFunc_string : cf.mode 18 = .shared := rfl
abbrev n_math_bits_Len : Nat := 19
theorem f_math_bits_Len : Try.prog.funcs[19]? = some Try.f19 := Try.func19
theorem x_math_bits_Len : cf.ext 19 = none := rfl
theorem m_math_bits_Len : cf.mode 19 = .plain := rfl
abbrev n_slices_insertionSortCmpFunc_string : Nat := 22
theorem f_slices_insertionSortCmpFunc_string : Try.prog.funcs[22]? = some Try.f22 := Try.func22
theorem x_slices_insertionSortCmpFunc_string : cf.ext 22 = none := rfl
theorem m_slices_insertionSortCmpFunc_string : cf.mode 22 = .shared := rfl
abbrev n_slices_heapSortCmpFunc_string : Nat := 23
theorem f_slices_heapSortCmpFunc_string : Try.prog.funcs[23]? = some Try.f23 := Try.func23
theorem x_slices_heapSortCmpFunc_string : cf.ext 23 = none := rfl
theorem m_slices_heapSortCmpFunc_string : cf.mode 23 = .shared := rfl
abbrev n_slices_breakPatternsCmpFunc_string : Nat := 24
theorem f_slices_breakPatternsCmpFunc_string : Try.prog.funcs[24]? = some Try.f24 := Try.func24
theorem x_slices_breakPatternsCmpFunc_string : cf.ext 24 = none := rfl
theorem m_slices_breakPatternsCmpFunc_string : cf.mode 24 = .shared := rfl
abbrev n_slices_choosePivotCmpFunc_string : Nat := 25
theorem f_slices_choosePivotCmpFunc_string : Try.prog.funcs[25]? = some Try.f25 := Try.func25
theorem x_slices_choosePivotCmpFunc_string : cf.ext 25 = none := rfl
theorem m_slices_choosePivotCmpFunc_string : cf.mode 25 = .shared := rfl
abbrev n_slices_reverseRangeCmpFunc_string : Nat := 26
theorem f_slices_reverseRangeCmpFunc_string : Try.prog.funcs[26]? = some Try.f26 := Try.func26
theorem x_slices_reverseRangeCmpFunc_string : cf.ext 26 = none := rfl
theorem m_slices_reverseRangeCmpFunc_string : cf.mode 26 = .shared := rfl
abbrev n_slices_partialInsertionSortCmpFunc_string : Nat := 27
theorem f_slices_partialInsertionSortCmpFunc_string : Try.prog.funcs[27]? = some Try.f27 := Try.func27
theorem x_slices_partialInsertionSortCmpFunc_string : cf.ext 27 = none := rfl
theorem m_slices_partialInsertionSortCmpFunc_string : cf.mode 27 = .shared := rfl
abbrev n_slices_partitionEqualCmpFunc_string : Nat := 28
theorem f_slices_partitionEqualCmpFunc_string : Try.prog.funcs[28]? = some Try.f28 := Try.func28
theorem x_slices_partitionEqualCmpFunc_string : cf.ext 28 = none := rfl
theorem m_slices_partitionEqualCmpFunc_string : cf.mode 28 = .shared := rfl
abbrev n_slices_partitionCmpFunc_string : Nat := 29
theorem f_slices_partitionCmpFunc_string : Try.prog.funcs[29]? = some Try.f29 := Try.func29
theorem x_slices_partitionCmpFunc_string : cf.ext 29 = none := rfl
theorem m_slices_partitionCmpFunc_string : cf.mode 29 = .shared := rfl
abbrev n_math_bits_Len32 : Nat := 30
theorem f_math_bits_Len32 : Try.prog.funcs[30]? = some Try.f30 := Try.func30
theorem x_math_bits_Len32 : cf.ext 30 = none := rfl
theorem m_math_bits_Len32 : cf.mode 30 = .plain := rfl
abbrev n_math_bits_Len64 : Nat := 31
theorem f_math_bits_Len64 : Try.prog.funcs[31]? = some Try.f31 := Try.func31
theorem x_math_bits_Len64 : cf.ext 31 = none := rfl
theorem m_math_bits_Len64 : cf.mode 31 = .plain := rfl
abbrev n_slices_siftDownCmpFunc_string : Nat := 32
theorem f_slices_siftDownCmpFunc_string : Try.prog.funcs[32]? = some Try.f32 := Try.func32
theorem x_slices_siftDownCmpFunc_string : cf.ext 32 = none := rfl
theorem m_slices_siftDownCmpFunc_string : cf.mode 32 = .shared := rfl
abbrev n_slices_nextPowerOfTwo : Nat := 33
theorem f_slices_nextPowerOfTwo : Try.prog.funcs[33]? = some Try.f33 := Try.func33
theorem x_slices_nextPowerOfTwo : cf.ext 33 = none := rfl
theorem m_slices_nextPowerOfTwo : cf.mode 33 = .plain := rfl
abbrev n_slices_xorshift_Next : Nat := 34
theorem f_slices_xorshift_Next : Try.prog.funcs[34]? = some Try.f34 := Try.func34
theorem x_slices_xorshift_Next : cf.ext 34 = none := rfl
theorem m_slices_xorshift_Next : cf.mode 34 = .shared := rfl
abbrev n_slices_medianAdjacentCmpFunc_string : Nat := 35
theorem f_slices_medianAdjacentCmpFunc_string : Try.prog.funcs[35]? = some Try.f35 := Try.func35
theorem x_slices_medianAdjacentCmpFunc_string : cf.ext 35 = none := rfl
theorem m_slices_medianAdjacentCmpFunc_string : cf.mode 35 = .shared := rfl
abbrev n_slices_medianCmpFunc_string : Nat := 36
theorem f_slices_medianCmpFunc_string : Try.prog.funcs[36]? = some Try.f36 := Try.func36
theorem x_slices_medianCmpFunc_string : cf.ext 36 = none := rfl
theorem m_slices_medianCmpFunc_string : cf.mode 36 = .shared := rfl
abbrev n_slices_order2CmpFunc_string : Nat := 37
theorem f_slices_order2CmpFunc_string : Try.prog.funcs[37]? = some Try.f37 := Try.func37
theorem x_slices_order2CmpFunc_string : cf.ext 37 = none := rfl
theorem m_slices_order2CmpFunc_string : cf.mode 37 = .shared := rfl
end Go.Proofs.Ytcjfjfhggfcnfaa
