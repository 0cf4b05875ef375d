/- Facts of the types and functions. -/
import Derived.Test.YtpnhedlciamegaaDoorSepO
import Derived.Test.YtpnhedlciamegaaDoorProg
import Derived.KernelRfl
set_option linter.all false
set_option linter.unusedVariables false
set_option linter.unusedSimpArgs false
set_option linter.unnecessarySimpa false
set_option linter.deprecated false
set_option maxRecDepth 100000
namespace Go.Proofs.Sep.F
open Go Go.RowKit Go.Proofs.Sep
theorem sz1 : sizeIs Tryd.prog 1 1 = true := by kernel_rfl
theorem sc1 : scalar Tryd.prog 1 = true := by kernel_rfl
theorem co1 : Tryd.prog.cellsOf 1 = 1 := by kernel_rfl
theorem sz2 : sizeIs Tryd.prog 2 1 = true := by kernel_rfl
theorem sc2 : scalar Tryd.prog 2 = true := by kernel_rfl
theorem ze2 : zeroIs Tryd.prog 2 (.int .i64 0) 1 8 := by unfold zeroIs; kernel_rfl
theorem co2 : Tryd.prog.cellsOf 2 = 1 := by kernel_rfl
theorem sz3 : sizeIs Tryd.prog 3 1 = true := by kernel_rfl
theorem sc3 : scalar Tryd.prog 3 = true := by kernel_rfl
theorem ze3 : zeroIs Tryd.prog 3 (.int .i64 0) 1 8 := by unfold zeroIs; kernel_rfl
theorem co3 : Tryd.prog.cellsOf 3 = 1 := by kernel_rfl
theorem sz4 : sizeIs Tryd.prog 4 1 = true := by kernel_rfl
theorem sc4 : scalar Tryd.prog 4 = true := by kernel_rfl
theorem ze4 : zeroIs Tryd.prog 4 (.bool false) 1 1 := by unfold zeroIs; kernel_rfl
theorem co4 : Tryd.prog.cellsOf 4 = 1 := by kernel_rfl
theorem sz5 : sizeIs Tryd.prog 5 1 = true := by kernel_rfl
theorem sc5 : scalar Tryd.prog 5 = true := by kernel_rfl
theorem ze5 : zeroIs Tryd.prog 5 (.int .u8 0) 1 1 := by unfold zeroIs; kernel_rfl
theorem co5 : Tryd.prog.cellsOf 5 = 1 := by kernel_rfl
theorem sz6 : sizeIs Tryd.prog 6 1 = true := by kernel_rfl
theorem sc6 : scalar Tryd.prog 6 = true := by kernel_rfl
theorem ze6 : zeroIs Tryd.prog 6 (.int .u8 0) 1 1 := by unfold zeroIs; kernel_rfl
theorem co6 : Tryd.prog.cellsOf 6 = 1 := by kernel_rfl
theorem sz7 : sizeIs Tryd.prog 7 4 = true := by kernel_rfl
theorem agg7 : aggOf Tryd.prog 7 4 = true := by kernel_rfl
theorem ze7 : zeroIs Tryd.prog 7 (.agg #[(.int .i64 0), (.int .i64 0), (.bool false), (.int .u8 0)]) 4 24 := by unfold zeroIs; kernel_rfl
theorem pl7 : places Tryd.prog 7 = some [(0, 1), (1, 1), (2, 1), (3, 1)] := by kernel_rfl
theorem fld7_0 : fieldIs Tryd.prog 7 0 0 = true := by kernel_rfl
theorem fty7_0 : fieldTy Tryd.prog 7 0 0 2 = true := by kernel_rfl
theorem fld7_1 : fieldIs Tryd.prog 7 1 1 = true := by kernel_rfl
theorem fty7_1 : fieldTy Tryd.prog 7 1 1 3 = true := by kernel_rfl
theorem fld7_2 : fieldIs Tryd.prog 7 2 2 = true := by kernel_rfl
theorem fty7_2 : fieldTy Tryd.prog 7 2 2 4 = true := by kernel_rfl
theorem fld7_3 : fieldIs Tryd.prog 7 3 3 = true := by kernel_rfl
theorem fty7_3 : fieldTy Tryd.prog 7 3 3 6 = true := by kernel_rfl
theorem sz8 : sizeIs Tryd.prog 8 4 = true := by kernel_rfl
theorem agg8 : aggOf Tryd.prog 8 4 = true := by kernel_rfl
theorem ze8 : zeroIs Tryd.prog 8 (.agg #[(.int .i64 0), (.int .i64 0), (.bool false), (.int .u8 0)]) 4 24 := by unfold zeroIs; kernel_rfl
theorem pl8 : places Tryd.prog 8 = some [(0, 1), (1, 1), (2, 1), (3, 1)] := by kernel_rfl
theorem fld8_0 : fieldIs Tryd.prog 8 0 0 = true := by kernel_rfl
theorem fty8_0 : fieldTy Tryd.prog 8 0 0 2 = true := by kernel_rfl
theorem fld8_1 : fieldIs Tryd.prog 8 1 1 = true := by kernel_rfl
theorem fty8_1 : fieldTy Tryd.prog 8 1 1 3 = true := by kernel_rfl
theorem fld8_2 : fieldIs Tryd.prog 8 2 2 = true := by kernel_rfl
theorem fty8_2 : fieldTy Tryd.prog 8 2 2 4 = true := by kernel_rfl
theorem fld8_3 : fieldIs Tryd.prog 8 3 3 = true := by kernel_rfl
theorem fty8_3 : fieldTy Tryd.prog 8 3 3 6 = true := by kernel_rfl
theorem sz9 : sizeIs Tryd.prog 9 1 = true := by kernel_rfl
theorem sc9 : scalar Tryd.prog 9 = true := by kernel_rfl
theorem ze9 : zeroIs Tryd.prog 9 (str []) 1 16 := by unfold zeroIs; kernel_rfl
theorem co9 : Tryd.prog.cellsOf 9 = 1 := by kernel_rfl
theorem sz10 : sizeIs Tryd.prog 10 1 = true := by kernel_rfl
theorem sc10 : scalar Tryd.prog 10 = true := by kernel_rfl
theorem ze10 : zeroIs Tryd.prog 10 (str []) 1 16 := by unfold zeroIs; kernel_rfl
theorem co10 : Tryd.prog.cellsOf 10 = 1 := by kernel_rfl
theorem sz11 : sizeIs Tryd.prog 11 1 = true := by kernel_rfl
theorem sc11 : scalar Tryd.prog 11 = true := by kernel_rfl
theorem ze11 : zeroIs Tryd.prog 11 (str []) 1 16 := by unfold zeroIs; kernel_rfl
theorem co11 : Tryd.prog.cellsOf 11 = 1 := by kernel_rfl
theorem sz12 : sizeIs Tryd.prog 12 1 = true := by kernel_rfl
theorem sc12 : scalar Tryd.prog 12 = true := by kernel_rfl
theorem ze12 : zeroIs Tryd.prog 12 (.int .u64 0) 1 8 := by unfold zeroIs; kernel_rfl
theorem co12 : Tryd.prog.cellsOf 12 = 1 := by kernel_rfl
theorem sz13 : sizeIs Tryd.prog 13 2 = true := by kernel_rfl
theorem agg13 : aggOf Tryd.prog 13 2 = true := by kernel_rfl
theorem ze13 : zeroIs Tryd.prog 13 (.agg #[(str []), (.int .u64 0)]) 2 24 := by unfold zeroIs; kernel_rfl
theorem pl13 : places Tryd.prog 13 = some [(0, 1), (1, 1)] := by kernel_rfl
theorem fld13_0 : fieldIs Tryd.prog 13 0 0 = true := by kernel_rfl
theorem fty13_0 : fieldTy Tryd.prog 13 0 0 9 = true := by kernel_rfl
theorem fld13_1 : fieldIs Tryd.prog 13 1 1 = true := by kernel_rfl
theorem fty13_1 : fieldTy Tryd.prog 13 1 1 12 = true := by kernel_rfl
theorem sz14 : sizeIs Tryd.prog 14 2 = true := by kernel_rfl
theorem agg14 : aggOf Tryd.prog 14 2 = true := by kernel_rfl
theorem ze14 : zeroIs Tryd.prog 14 (.agg #[(str []), (.int .u64 0)]) 2 24 := by unfold zeroIs; kernel_rfl
theorem pl14 : places Tryd.prog 14 = some [(0, 1), (1, 1)] := by kernel_rfl
theorem fld14_0 : fieldIs Tryd.prog 14 0 0 = true := by kernel_rfl
theorem fty14_0 : fieldTy Tryd.prog 14 0 0 9 = true := by kernel_rfl
theorem fld14_1 : fieldIs Tryd.prog 14 1 1 = true := by kernel_rfl
theorem fty14_1 : fieldTy Tryd.prog 14 1 1 12 = true := by kernel_rfl
theorem sz15 : sizeIs Tryd.prog 15 1 = true := by kernel_rfl
theorem sc15 : scalar Tryd.prog 15 = true := by kernel_rfl
theorem ze15 : zeroIs Tryd.prog 15 (.pointer none) 1 8 := by unfold zeroIs; kernel_rfl
theorem co15 : Tryd.prog.cellsOf 15 = 1 := by kernel_rfl
theorem sz16 : sizeIs Tryd.prog 16 1 = true := by kernel_rfl
theorem sc16 : scalar Tryd.prog 16 = true := by kernel_rfl
theorem ze16 : zeroIs Tryd.prog 16 (.pointer none) 1 8 := by unfold zeroIs; kernel_rfl
theorem co16 : Tryd.prog.cellsOf 16 = 1 := by kernel_rfl
theorem sz17 : sizeIs Tryd.prog 17 1 = true := by kernel_rfl
theorem sc17 : scalar Tryd.prog 17 = true := by kernel_rfl
theorem ze17 : zeroIs Tryd.prog 17 (.pointer none) 1 8 := by unfold zeroIs; kernel_rfl
theorem co17 : Tryd.prog.cellsOf 17 = 1 := by kernel_rfl
theorem sz18 : sizeIs Tryd.prog 18 1 = true := by kernel_rfl
theorem agg18 : aggOf Tryd.prog 18 1 = true := by kernel_rfl
theorem ze18 : zeroIs Tryd.prog 18 (.agg #[(.pointer none)]) 1 8 := by unfold zeroIs; kernel_rfl
theorem co18 : Tryd.prog.cellsOf 18 = 1 := by kernel_rfl
theorem pl18 : places Tryd.prog 18 = some [(0, 1)] := by kernel_rfl
theorem fld18_0 : fieldIs Tryd.prog 18 0 0 = true := by kernel_rfl
theorem fty18_0 : fieldTy Tryd.prog 18 0 0 17 = true := by kernel_rfl
theorem sz19 : sizeIs Tryd.prog 19 1 = true := by kernel_rfl
theorem agg19 : aggOf Tryd.prog 19 1 = true := by kernel_rfl
theorem ze19 : zeroIs Tryd.prog 19 (.agg #[(.pointer none)]) 1 8 := by unfold zeroIs; kernel_rfl
theorem co19 : Tryd.prog.cellsOf 19 = 1 := by kernel_rfl
theorem pl19 : places Tryd.prog 19 = some [(0, 1)] := by kernel_rfl
theorem fld19_0 : fieldIs Tryd.prog 19 0 0 = true := by kernel_rfl
theorem fty19_0 : fieldTy Tryd.prog 19 0 0 17 = true := by kernel_rfl
theorem sz20 : sizeIs Tryd.prog 20 1 = true := by kernel_rfl
theorem sc20 : scalar Tryd.prog 20 = true := by kernel_rfl
theorem co20 : Tryd.prog.cellsOf 20 = 1 := by kernel_rfl
theorem sz21 : sizeIs Tryd.prog 21 1 = true := by kernel_rfl
theorem sc21 : scalar Tryd.prog 21 = true := by kernel_rfl
theorem ze21 : zeroIs Tryd.prog 21 (.int .i32 0) 1 4 := by unfold zeroIs; kernel_rfl
theorem co21 : Tryd.prog.cellsOf 21 = 1 := by kernel_rfl
theorem sz22 : sizeIs Tryd.prog 22 1 = true := by kernel_rfl
theorem sc22 : scalar Tryd.prog 22 = true := by kernel_rfl
theorem ze22 : zeroIs Tryd.prog 22 (.int .u64 0) 1 8 := by unfold zeroIs; kernel_rfl
theorem co22 : Tryd.prog.cellsOf 22 = 1 := by kernel_rfl
theorem sz23 : sizeIs Tryd.prog 23 1 = true := by kernel_rfl
theorem sc23 : scalar Tryd.prog 23 = true := by kernel_rfl
theorem co23 : Tryd.prog.cellsOf 23 = 1 := by kernel_rfl
theorem sz24 : sizeIs Tryd.prog 24 1 = true := by kernel_rfl
theorem sc24 : scalar Tryd.prog 24 = true := by kernel_rfl
theorem co24 : Tryd.prog.cellsOf 24 = 1 := by kernel_rfl
theorem sz25 : sizeIs Tryd.prog 25 1 = true := by kernel_rfl
theorem sc25 : scalar Tryd.prog 25 = true := by kernel_rfl
theorem co25 : Tryd.prog.cellsOf 25 = 1 := by kernel_rfl
theorem sz26 : sizeIs Tryd.prog 26 1 = true := by kernel_rfl
theorem sc26 : scalar Tryd.prog 26 = true := by kernel_rfl
theorem ze26 : zeroIs Tryd.prog 26 (.slice none 0 0) 1 24 := by unfold zeroIs; kernel_rfl
theorem co26 : Tryd.prog.cellsOf 26 = 1 := by kernel_rfl
theorem sz27 : sizeIs Tryd.prog 27 3 = true := by kernel_rfl
theorem agg27 : aggOf Tryd.prog 27 3 = true := by kernel_rfl
theorem ze27 : zeroIs Tryd.prog 27 (.agg #[(str []), (.slice none 0 0), (str [])]) 3 56 := by unfold zeroIs; kernel_rfl
theorem pl27 : places Tryd.prog 27 = some [(0, 1), (1, 1), (2, 1)] := by kernel_rfl
theorem fld27_0 : fieldIs Tryd.prog 27 0 0 = true := by kernel_rfl
theorem fty27_0 : fieldTy Tryd.prog 27 0 0 9 = true := by kernel_rfl
theorem fld27_1 : fieldIs Tryd.prog 27 1 1 = true := by kernel_rfl
theorem fty27_1 : fieldTy Tryd.prog 27 1 1 26 = true := by kernel_rfl
theorem fld27_2 : fieldIs Tryd.prog 27 2 2 = true := by kernel_rfl
theorem fty27_2 : fieldTy Tryd.prog 27 2 2 9 = true := by kernel_rfl
theorem sz28 : sizeIs Tryd.prog 28 3 = true := by kernel_rfl
theorem agg28 : aggOf Tryd.prog 28 3 = true := by kernel_rfl
theorem ze28 : zeroIs Tryd.prog 28 (.agg #[(str []), (.slice none 0 0), (str [])]) 3 56 := by unfold zeroIs; kernel_rfl
theorem pl28 : places Tryd.prog 28 = some [(0, 1), (1, 1), (2, 1)] := by kernel_rfl
theorem fld28_0 : fieldIs Tryd.prog 28 0 0 = true := by kernel_rfl
theorem fty28_0 : fieldTy Tryd.prog 28 0 0 9 = true := by kernel_rfl
theorem fld28_1 : fieldIs Tryd.prog 28 1 1 = true := by kernel_rfl
theorem fty28_1 : fieldTy Tryd.prog 28 1 1 26 = true := by kernel_rfl
theorem fld28_2 : fieldIs Tryd.prog 28 2 2 = true := by kernel_rfl
theorem fty28_2 : fieldTy Tryd.prog 28 2 2 9 = true := by kernel_rfl
theorem sz29 : sizeIs Tryd.prog 29 1 = true := by kernel_rfl
theorem sc29 : scalar Tryd.prog 29 = true := by kernel_rfl
theorem co29 : Tryd.prog.cellsOf 29 = 1 := by kernel_rfl
theorem sz30 : sizeIs Tryd.prog 30 1 = true := by kernel_rfl
theorem sc30 : scalar Tryd.prog 30 = true := by kernel_rfl
theorem co30 : Tryd.prog.cellsOf 30 = 1 := by kernel_rfl
theorem sz31 : sizeIs Tryd.prog 31 1 = true := by kernel_rfl
theorem sc31 : scalar Tryd.prog 31 = true := by kernel_rfl
theorem ze31 : zeroIs Tryd.prog 31 (.int .i64 0) 1 8 := by unfold zeroIs; kernel_rfl
theorem co31 : Tryd.prog.cellsOf 31 = 1 := by kernel_rfl
theorem sz33 : sizeIs Tryd.prog 33 1 = true := by kernel_rfl
theorem sc33 : scalar Tryd.prog 33 = true := by kernel_rfl
theorem co33 : Tryd.prog.cellsOf 33 = 1 := by kernel_rfl
theorem sz34 : sizeIs Tryd.prog 34 1 = true := by kernel_rfl
theorem sc34 : scalar Tryd.prog 34 = true := by kernel_rfl
theorem co34 : Tryd.prog.cellsOf 34 = 1 := by kernel_rfl
theorem sz35 : sizeIs Tryd.prog 35 1 = true := by kernel_rfl
theorem sc35 : scalar Tryd.prog 35 = true := by kernel_rfl
theorem co35 : Tryd.prog.cellsOf 35 = 1 := by kernel_rfl
theorem sz36 : sizeIs Tryd.prog 36 1 = true := by kernel_rfl
theorem sc36 : scalar Tryd.prog 36 = true := by kernel_rfl
theorem ze36 : zeroIs Tryd.prog 36 (.slice none 0 0) 1 24 := by unfold zeroIs; kernel_rfl
theorem co36 : Tryd.prog.cellsOf 36 = 1 := by kernel_rfl
theorem sz37 : sizeIs Tryd.prog 37 4 = true := by kernel_rfl
theorem agg37 : aggOf Tryd.prog 37 4 = true := by kernel_rfl
theorem ze37 : zeroIs Tryd.prog 37 (.agg #[(.slice none 0 0), (.slice none 0 0), (str []), (.int .i64 0)]) 4 72 := by unfold zeroIs; kernel_rfl
theorem pl37 : places Tryd.prog 37 = some [(0, 1), (1, 1), (2, 1), (3, 1)] := by kernel_rfl
theorem fld37_0 : fieldIs Tryd.prog 37 0 0 = true := by kernel_rfl
theorem fty37_0 : fieldTy Tryd.prog 37 0 0 36 = true := by kernel_rfl
theorem fld37_1 : fieldIs Tryd.prog 37 1 1 = true := by kernel_rfl
theorem fty37_1 : fieldTy Tryd.prog 37 1 1 36 = true := by kernel_rfl
theorem fld37_2 : fieldIs Tryd.prog 37 2 2 = true := by kernel_rfl
theorem fty37_2 : fieldTy Tryd.prog 37 2 2 9 = true := by kernel_rfl
theorem fld37_3 : fieldIs Tryd.prog 37 3 3 = true := by kernel_rfl
theorem fty37_3 : fieldTy Tryd.prog 37 3 3 3 = true := by kernel_rfl
theorem sz38 : sizeIs Tryd.prog 38 4 = true := by kernel_rfl
theorem agg38 : aggOf Tryd.prog 38 4 = true := by kernel_rfl
theorem ze38 : zeroIs Tryd.prog 38 (.agg #[(.slice none 0 0), (.slice none 0 0), (str []), (.int .i64 0)]) 4 72 := by unfold zeroIs; kernel_rfl
theorem pl38 : places Tryd.prog 38 = some [(0, 1), (1, 1), (2, 1), (3, 1)] := by kernel_rfl
theorem fld38_0 : fieldIs Tryd.prog 38 0 0 = true := by kernel_rfl
theorem fty38_0 : fieldTy Tryd.prog 38 0 0 36 = true := by kernel_rfl
theorem fld38_1 : fieldIs Tryd.prog 38 1 1 = true := by kernel_rfl
theorem fty38_1 : fieldTy Tryd.prog 38 1 1 36 = true := by kernel_rfl
theorem fld38_2 : fieldIs Tryd.prog 38 2 2 = true := by kernel_rfl
theorem fty38_2 : fieldTy Tryd.prog 38 2 2 9 = true := by kernel_rfl
theorem fld38_3 : fieldIs Tryd.prog 38 3 3 = true := by kernel_rfl
theorem fty38_3 : fieldTy Tryd.prog 38 3 3 3 = true := by kernel_rfl
theorem sz39 : sizeIs Tryd.prog 39 1 = true := by kernel_rfl
theorem sc39 : scalar Tryd.prog 39 = true := by kernel_rfl
theorem ze39 : zeroIs Tryd.prog 39 (.slice none 0 0) 1 24 := by unfold zeroIs; kernel_rfl
theorem co39 : Tryd.prog.cellsOf 39 = 1 := by kernel_rfl
theorem sz40 : sizeIs Tryd.prog 40 1 = true := by kernel_rfl
theorem sc40 : scalar Tryd.prog 40 = true := by kernel_rfl
theorem co40 : Tryd.prog.cellsOf 40 = 1 := by kernel_rfl
theorem sz41 : sizeIs Tryd.prog 41 1 = true := by kernel_rfl
theorem sc41 : scalar Tryd.prog 41 = true := by kernel_rfl
theorem co41 : Tryd.prog.cellsOf 41 = 1 := by kernel_rfl
theorem sz43 : sizeIs Tryd.prog 43 1 = true := by kernel_rfl
theorem sc43 : scalar Tryd.prog 43 = true := by kernel_rfl
theorem co43 : Tryd.prog.cellsOf 43 = 1 := by kernel_rfl
theorem sz45 : sizeIs Tryd.prog 45 1 = true := by kernel_rfl
theorem sc45 : scalar Tryd.prog 45 = true := by kernel_rfl
theorem co45 : Tryd.prog.cellsOf 45 = 1 := by kernel_rfl
theorem sz46 : sizeIs Tryd.prog 46 1 = true := by kernel_rfl
theorem sc46 : scalar Tryd.prog 46 = true := by kernel_rfl
theorem co46 : Tryd.prog.cellsOf 46 = 1 := by kernel_rfl
theorem sz47 : sizeIs Tryd.prog 47 1 = true := by kernel_rfl
theorem sc47 : scalar Tryd.prog 47 = true := by kernel_rfl
theorem ze47 : zeroIs Tryd.prog 47 (.slice none 0 0) 1 24 := by unfold zeroIs; kernel_rfl
theorem co47 : Tryd.prog.cellsOf 47 = 1 := by kernel_rfl
theorem sz48 : sizeIs Tryd.prog 48 1 = true := by kernel_rfl
theorem sc48 : scalar Tryd.prog 48 = true := by kernel_rfl
theorem co48 : Tryd.prog.cellsOf 48 = 1 := by kernel_rfl
theorem sz49 : sizeIs Tryd.prog 49 1 = true := by kernel_rfl
theorem sc49 : scalar Tryd.prog 49 = true := by kernel_rfl
theorem co49 : Tryd.prog.cellsOf 49 = 1 := by kernel_rfl
theorem sz51 : sizeIs Tryd.prog 51 1 = true := by kernel_rfl
theorem sc51 : scalar Tryd.prog 51 = true := by kernel_rfl
theorem co51 : Tryd.prog.cellsOf 51 = 1 := by kernel_rfl
theorem sz52 : sizeIs Tryd.prog 52 1 = true := by kernel_rfl
theorem sc52 : scalar Tryd.prog 52 = true := by kernel_rfl
theorem co52 : Tryd.prog.cellsOf 52 = 1 := by kernel_rfl
theorem sz53 : sizeIs Tryd.prog 53 1 = true := by kernel_rfl
theorem sc53 : scalar Tryd.prog 53 = true := by kernel_rfl
theorem co53 : Tryd.prog.cellsOf 53 = 1 := by kernel_rfl
theorem sz54 : sizeIs Tryd.prog 54 1 = true := by kernel_rfl
theorem sc54 : scalar Tryd.prog 54 = true := by kernel_rfl
theorem ze54 : zeroIs Tryd.prog 54 (.slice none 0 0) 1 24 := by unfold zeroIs; kernel_rfl
theorem co54 : Tryd.prog.cellsOf 54 = 1 := by kernel_rfl
theorem sz55 : sizeIs Tryd.prog 55 1 = true := by kernel_rfl
theorem sc55 : scalar Tryd.prog 55 = true := by kernel_rfl
theorem co55 : Tryd.prog.cellsOf 55 = 1 := by kernel_rfl
theorem sz56 : sizeIs Tryd.prog 56 1 = true := by kernel_rfl
theorem sc56 : scalar Tryd.prog 56 = true := by kernel_rfl
theorem ze56 : zeroIs Tryd.prog 56 (.slice none 0 0) 1 24 := by unfold zeroIs; kernel_rfl
theorem co56 : Tryd.prog.cellsOf 56 = 1 := by kernel_rfl
theorem sz57 : sizeIs Tryd.prog 57 4 = true := by kernel_rfl
theorem agg57 : aggOf Tryd.prog 57 4 = true := by kernel_rfl
theorem ze57 : zeroIs Tryd.prog 57 (.agg #[(.slice none 0 0), (.slice none 0 0), (str []), (.int .i64 0)]) 4 72 := by unfold zeroIs; kernel_rfl
theorem pl57 : places Tryd.prog 57 = some [(0, 1), (1, 1), (2, 1), (3, 1)] := by kernel_rfl
theorem fld57_0 : fieldIs Tryd.prog 57 0 0 = true := by kernel_rfl
theorem fty57_0 : fieldTy Tryd.prog 57 0 0 56 = true := by kernel_rfl
theorem fld57_1 : fieldIs Tryd.prog 57 1 1 = true := by kernel_rfl
theorem fty57_1 : fieldTy Tryd.prog 57 1 1 56 = true := by kernel_rfl
theorem fld57_2 : fieldIs Tryd.prog 57 2 2 = true := by kernel_rfl
theorem fty57_2 : fieldTy Tryd.prog 57 2 2 9 = true := by kernel_rfl
theorem fld57_3 : fieldIs Tryd.prog 57 3 3 = true := by kernel_rfl
theorem fty57_3 : fieldTy Tryd.prog 57 3 3 3 = true := by kernel_rfl
theorem sz58 : sizeIs Tryd.prog 58 4 = true := by kernel_rfl
theorem agg58 : aggOf Tryd.prog 58 4 = true := by kernel_rfl
theorem ze58 : zeroIs Tryd.prog 58 (.agg #[(.slice none 0 0), (.slice none 0 0), (str []), (.int .i64 0)]) 4 72 := by unfold zeroIs; kernel_rfl
theorem pl58 : places Tryd.prog 58 = some [(0, 1), (1, 1), (2, 1), (3, 1)] := by kernel_rfl
theorem fld58_0 : fieldIs Tryd.prog 58 0 0 = true := by kernel_rfl
theorem fty58_0 : fieldTy Tryd.prog 58 0 0 56 = true := by kernel_rfl
theorem fld58_1 : fieldIs Tryd.prog 58 1 1 = true := by kernel_rfl
theorem fty58_1 : fieldTy Tryd.prog 58 1 1 56 = true := by kernel_rfl
theorem fld58_2 : fieldIs Tryd.prog 58 2 2 = true := by kernel_rfl
theorem fty58_2 : fieldTy Tryd.prog 58 2 2 9 = true := by kernel_rfl
theorem fld58_3 : fieldIs Tryd.prog 58 3 3 = true := by kernel_rfl
theorem fty58_3 : fieldTy Tryd.prog 58 3 3 3 = true := by kernel_rfl
theorem sz59 : sizeIs Tryd.prog 59 1 = true := by kernel_rfl
theorem sc59 : scalar Tryd.prog 59 = true := by kernel_rfl
theorem co59 : Tryd.prog.cellsOf 59 = 1 := by kernel_rfl
theorem sz60 : sizeIs Tryd.prog 60 1 = true := by kernel_rfl
theorem sc60 : scalar Tryd.prog 60 = true := by kernel_rfl
theorem co60 : Tryd.prog.cellsOf 60 = 1 := by kernel_rfl
theorem sz61 : sizeIs Tryd.prog 61 1 = true := by kernel_rfl
theorem sc61 : scalar Tryd.prog 61 = true := by kernel_rfl
theorem co61 : Tryd.prog.cellsOf 61 = 1 := by kernel_rfl
theorem sz62 : sizeIs Tryd.prog 62 3 = true := by kernel_rfl
theorem agg62 : aggOf Tryd.prog 62 3 = true := by kernel_rfl
theorem ze62 : zeroIs Tryd.prog 62 (.agg #[(.int .i64 0), (str []), (str [])]) 3 40 := by unfold zeroIs; kernel_rfl
theorem pl62 : places Tryd.prog 62 = some [(0, 1), (1, 1), (2, 1)] := by kernel_rfl
theorem fld62_0 : fieldIs Tryd.prog 62 0 0 = true := by kernel_rfl
theorem fty62_0 : fieldTy Tryd.prog 62 0 0 3 = true := by kernel_rfl
theorem fld62_1 : fieldIs Tryd.prog 62 1 1 = true := by kernel_rfl
theorem fty62_1 : fieldTy Tryd.prog 62 1 1 9 = true := by kernel_rfl
theorem fld62_2 : fieldIs Tryd.prog 62 2 2 = true := by kernel_rfl
theorem fty62_2 : fieldTy Tryd.prog 62 2 2 9 = true := by kernel_rfl
theorem sz63 : sizeIs Tryd.prog 63 3 = true := by kernel_rfl
theorem agg63 : aggOf Tryd.prog 63 3 = true := by kernel_rfl
theorem ze63 : zeroIs Tryd.prog 63 (.agg #[(.int .i64 0), (str []), (str [])]) 3 40 := by unfold zeroIs; kernel_rfl
theorem pl63 : places Tryd.prog 63 = some [(0, 1), (1, 1), (2, 1)] := by kernel_rfl
theorem fld63_0 : fieldIs Tryd.prog 63 0 0 = true := by kernel_rfl
theorem fty63_0 : fieldTy Tryd.prog 63 0 0 3 = true := by kernel_rfl
theorem fld63_1 : fieldIs Tryd.prog 63 1 1 = true := by kernel_rfl
theorem fty63_1 : fieldTy Tryd.prog 63 1 1 9 = true := by kernel_rfl
theorem fld63_2 : fieldIs Tryd.prog 63 2 2 = true := by kernel_rfl
theorem fty63_2 : fieldTy Tryd.prog 63 2 2 9 = true := by kernel_rfl
theorem sz65 : sizeIs Tryd.prog 65 1 = true := by kernel_rfl
theorem sc65 : scalar Tryd.prog 65 = true := by kernel_rfl
theorem co65 : Tryd.prog.cellsOf 65 = 1 := by kernel_rfl
theorem sz66 : sizeIs Tryd.prog 66 1 = true := by kernel_rfl
theorem sc66 : scalar Tryd.prog 66 = true := by kernel_rfl
theorem co66 : Tryd.prog.cellsOf 66 = 1 := by kernel_rfl
theorem sz67 : sizeIs Tryd.prog 67 1 = true := by kernel_rfl
theorem sc67 : scalar Tryd.prog 67 = true := by kernel_rfl
theorem co67 : Tryd.prog.cellsOf 67 = 1 := by kernel_rfl
theorem sz68 : sizeIs Tryd.prog 68 1 = true := by kernel_rfl
theorem sc68 : scalar Tryd.prog 68 = true := by kernel_rfl
theorem co68 : Tryd.prog.cellsOf 68 = 1 := by kernel_rfl
theorem sz69 : sizeIs Tryd.prog 69 1 = true := by kernel_rfl
theorem sc69 : scalar Tryd.prog 69 = true := by kernel_rfl
theorem co69 : Tryd.prog.cellsOf 69 = 1 := by kernel_rfl
theorem sz70 : sizeIs Tryd.prog 70 1 = true := by kernel_rfl
theorem sc70 : scalar Tryd.prog 70 = true := by kernel_rfl
theorem co70 : Tryd.prog.cellsOf 70 = 1 := by kernel_rfl
theorem sz71 : sizeIs Tryd.prog 71 1 = true := by kernel_rfl
theorem sc71 : scalar Tryd.prog 71 = true := by kernel_rfl
theorem co71 : Tryd.prog.cellsOf 71 = 1 := by kernel_rfl
theorem sz73 : sizeIs Tryd.prog 73 1 = true := by kernel_rfl
theorem sc73 : scalar Tryd.prog 73 = true := by kernel_rfl
theorem co73 : Tryd.prog.cellsOf 73 = 1 := by kernel_rfl
theorem sz74 : sizeIs Tryd.prog 74 1 = true := by kernel_rfl
theorem sc74 : scalar Tryd.prog 74 = true := by kernel_rfl
theorem co74 : Tryd.prog.cellsOf 74 = 1 := by kernel_rfl
theorem sz75 : sizeIs Tryd.prog 75 1 = true := by kernel_rfl
theorem sc75 : scalar Tryd.prog 75 = true := by kernel_rfl
theorem co75 : Tryd.prog.cellsOf 75 = 1 := by kernel_rfl
theorem sz76 : sizeIs Tryd.prog 76 1 = true := by kernel_rfl
theorem sc76 : scalar Tryd.prog 76 = true := by kernel_rfl
theorem ze76 : zeroIs Tryd.prog 76 (.slice none 0 0) 1 24 := by unfold zeroIs; kernel_rfl
theorem co76 : Tryd.prog.cellsOf 76 = 1 := by kernel_rfl
theorem sz77 : sizeIs Tryd.prog 77 1 = true := by kernel_rfl
theorem sc77 : scalar Tryd.prog 77 = true := by kernel_rfl
theorem co77 : Tryd.prog.cellsOf 77 = 1 := by kernel_rfl
theorem sz78 : sizeIs Tryd.prog 78 1 = true := by kernel_rfl
theorem sc78 : scalar Tryd.prog 78 = true := by kernel_rfl
theorem co78 : Tryd.prog.cellsOf 78 = 1 := by kernel_rfl
theorem sz79 : sizeIs Tryd.prog 79 1 = true := by kernel_rfl
theorem sc79 : scalar Tryd.prog 79 = true := by kernel_rfl
theorem co79 : Tryd.prog.cellsOf 79 = 1 := by kernel_rfl
theorem sz80 : sizeIs Tryd.prog 80 1 = true := by kernel_rfl
theorem sc80 : scalar Tryd.prog 80 = true := by kernel_rfl
theorem ze80 : zeroIs Tryd.prog 80 (.pointer none) 1 8 := by unfold zeroIs; kernel_rfl
theorem co80 : Tryd.prog.cellsOf 80 = 1 := by kernel_rfl
theorem sz81 : sizeIs Tryd.prog 81 1 = true := by kernel_rfl
theorem agg81 : aggOf Tryd.prog 81 1 = true := by kernel_rfl
theorem ze81 : zeroIs Tryd.prog 81 (.agg #[(str [])]) 1 16 := by unfold zeroIs; kernel_rfl
theorem co81 : Tryd.prog.cellsOf 81 = 1 := by kernel_rfl
theorem pl81 : places Tryd.prog 81 = some [(0, 1)] := by kernel_rfl
theorem fld81_0 : fieldIs Tryd.prog 81 0 0 = true := by kernel_rfl
theorem fty81_0 : fieldTy Tryd.prog 81 0 0 9 = true := by kernel_rfl
theorem sz82 : sizeIs Tryd.prog 82 1 = true := by kernel_rfl
theorem agg82 : aggOf Tryd.prog 82 1 = true := by kernel_rfl
theorem ze82 : zeroIs Tryd.prog 82 (.agg #[(str [])]) 1 16 := by unfold zeroIs; kernel_rfl
theorem co82 : Tryd.prog.cellsOf 82 = 1 := by kernel_rfl
theorem pl82 : places Tryd.prog 82 = some [(0, 1)] := by kernel_rfl
theorem fld82_0 : fieldIs Tryd.prog 82 0 0 = true := by kernel_rfl
theorem fty82_0 : fieldTy Tryd.prog 82 0 0 9 = true := by kernel_rfl
theorem sz83 : sizeIs Tryd.prog 83 1 = true := by kernel_rfl
theorem sc83 : scalar Tryd.prog 83 = true := by kernel_rfl
theorem co83 : Tryd.prog.cellsOf 83 = 1 := by kernel_rfl
theorem sz84 : sizeIs Tryd.prog 84 1 = true := by kernel_rfl
theorem sc84 : scalar Tryd.prog 84 = true := by kernel_rfl
theorem co84 : Tryd.prog.cellsOf 84 = 1 := by kernel_rfl
theorem sz85 : sizeIs Tryd.prog 85 1 = true := by kernel_rfl
theorem sc85 : scalar Tryd.prog 85 = true := by kernel_rfl
theorem co85 : Tryd.prog.cellsOf 85 = 1 := by kernel_rfl
theorem sz86 : sizeIs Tryd.prog 86 1 = true := by kernel_rfl
theorem sc86 : scalar Tryd.prog 86 = true := by kernel_rfl
theorem co86 : Tryd.prog.cellsOf 86 = 1 := by kernel_rfl
theorem sz87 : sizeIs Tryd.prog 87 1 = true := by kernel_rfl
theorem sc87 : scalar Tryd.prog 87 = true := by kernel_rfl
theorem co87 : Tryd.prog.cellsOf 87 = 1 := by kernel_rfl
theorem sz88 : sizeIs Tryd.prog 88 1 = true := by kernel_rfl
theorem sc88 : scalar Tryd.prog 88 = true := by kernel_rfl
theorem co88 : Tryd.prog.cellsOf 88 = 1 := by kernel_rfl
theorem sz89 : sizeIs Tryd.prog 89 1 = true := by kernel_rfl
theorem sc89 : scalar Tryd.prog 89 = true := by kernel_rfl
theorem co89 : Tryd.prog.cellsOf 89 = 1 := by kernel_rfl
theorem sz90 : sizeIs Tryd.prog 90 1 = true := by kernel_rfl
theorem sc90 : scalar Tryd.prog 90 = true := by kernel_rfl
theorem co90 : Tryd.prog.cellsOf 90 = 1 := by kernel_rfl
theorem sz91 : sizeIs Tryd.prog 91 1 = true := by kernel_rfl
theorem sc91 : scalar Tryd.prog 91 = true := by kernel_rfl
theorem co91 : Tryd.prog.cellsOf 91 = 1 := by kernel_rfl
theorem sz92 : sizeIs Tryd.prog 92 3 = true := by kernel_rfl
theorem agg92 : aggOf Tryd.prog 92 3 = true := by kernel_rfl
theorem ze92 : zeroIs Tryd.prog 92 (.agg #[(.int .i64 0), (str []), (str [])]) 3 40 := by unfold zeroIs; kernel_rfl
theorem pl92 : places Tryd.prog 92 = some [(0, 1), (1, 1), (2, 1)] := by kernel_rfl
theorem fld92_0 : fieldIs Tryd.prog 92 0 0 = true := by kernel_rfl
theorem fty92_0 : fieldTy Tryd.prog 92 0 0 3 = true := by kernel_rfl
theorem fld92_1 : fieldIs Tryd.prog 92 1 1 = true := by kernel_rfl
theorem fty92_1 : fieldTy Tryd.prog 92 1 1 9 = true := by kernel_rfl
theorem fld92_2 : fieldIs Tryd.prog 92 2 2 = true := by kernel_rfl
theorem fty92_2 : fieldTy Tryd.prog 92 2 2 9 = true := by kernel_rfl
theorem sz93 : sizeIs Tryd.prog 93 1 = true := by kernel_rfl
theorem sc93 : scalar Tryd.prog 93 = true := by kernel_rfl
theorem co93 : Tryd.prog.cellsOf 93 = 1 := by kernel_rfl
theorem sz94 : sizeIs Tryd.prog 94 2 = true := by kernel_rfl
theorem agg94 : aggOf Tryd.prog 94 2 = true := by kernel_rfl
theorem ze94 : zeroIs Tryd.prog 94 (.agg #[(str []), (str [])]) 2 32 := by unfold zeroIs; kernel_rfl
theorem pl94 : places Tryd.prog 94 = some [(0, 1), (1, 1)] := by kernel_rfl
theorem fld94_0 : fieldIs Tryd.prog 94 0 0 = true := by kernel_rfl
theorem fty94_0 : fieldTy Tryd.prog 94 0 0 9 = true := by kernel_rfl
theorem fld94_1 : fieldIs Tryd.prog 94 1 1 = true := by kernel_rfl
theorem fty94_1 : fieldTy Tryd.prog 94 1 1 9 = true := by kernel_rfl
theorem sz95 : sizeIs Tryd.prog 95 2 = true := by kernel_rfl
theorem agg95 : aggOf Tryd.prog 95 2 = true := by kernel_rfl
theorem ze95 : zeroIs Tryd.prog 95 (.agg #[(str []), (str [])]) 2 32 := by unfold zeroIs; kernel_rfl
theorem pl95 : places Tryd.prog 95 = some [(0, 1), (1, 1)] := by kernel_rfl
theorem fld95_0 : fieldIs Tryd.prog 95 0 0 = true := by kernel_rfl
theorem fty95_0 : fieldTy Tryd.prog 95 0 0 9 = true := by kernel_rfl
theorem fld95_1 : fieldIs Tryd.prog 95 1 1 = true := by kernel_rfl
theorem fty95_1 : fieldTy Tryd.prog 95 1 1 9 = true := by kernel_rfl
theorem sz96 : sizeIs Tryd.prog 96 1 = true := by kernel_rfl
theorem sc96 : scalar Tryd.prog 96 = true := by kernel_rfl
theorem co96 : Tryd.prog.cellsOf 96 = 1 := by kernel_rfl
theorem sz97 : sizeIs Tryd.prog 97 1 = true := by kernel_rfl
theorem sc97 : scalar Tryd.prog 97 = true := by kernel_rfl
theorem co97 : Tryd.prog.cellsOf 97 = 1 := by kernel_rfl
theorem sz98 : sizeIs Tryd.prog 98 2 = true := by kernel_rfl
theorem agg98 : aggOf Tryd.prog 98 2 = true := by kernel_rfl
theorem ze98 : zeroIs Tryd.prog 98 (.agg #[(str []), (str [])]) 2 32 := by unfold zeroIs; kernel_rfl
theorem pl98 : places Tryd.prog 98 = some [(0, 1), (1, 1)] := by kernel_rfl
theorem fld98_0 : fieldIs Tryd.prog 98 0 0 = true := by kernel_rfl
theorem fty98_0 : fieldTy Tryd.prog 98 0 0 9 = true := by kernel_rfl
theorem fld98_1 : fieldIs Tryd.prog 98 1 1 = true := by kernel_rfl
theorem fty98_1 : fieldTy Tryd.prog 98 1 1 9 = true := by kernel_rfl
theorem sz99 : sizeIs Tryd.prog 99 1 = true := by kernel_rfl
theorem agg99 : aggOf Tryd.prog 99 1 = true := by kernel_rfl
theorem ze99 : zeroIs Tryd.prog 99 (.agg #[(.int .i64 0)]) 1 8 := by unfold zeroIs; kernel_rfl
theorem co99 : Tryd.prog.cellsOf 99 = 1 := by kernel_rfl
theorem pl99 : places Tryd.prog 99 = some [(0, 1)] := by kernel_rfl
theorem fld99_0 : fieldIs Tryd.prog 99 0 0 = true := by kernel_rfl
theorem fty99_0 : fieldTy Tryd.prog 99 0 0 31 = true := by kernel_rfl
theorem sz100 : sizeIs Tryd.prog 100 1 = true := by kernel_rfl
theorem agg100 : aggOf Tryd.prog 100 1 = true := by kernel_rfl
theorem ze100 : zeroIs Tryd.prog 100 (.agg #[(.int .i64 0)]) 1 8 := by unfold zeroIs; kernel_rfl
theorem co100 : Tryd.prog.cellsOf 100 = 1 := by kernel_rfl
theorem pl100 : places Tryd.prog 100 = some [(0, 1)] := by kernel_rfl
theorem fld100_0 : fieldIs Tryd.prog 100 0 0 = true := by kernel_rfl
theorem fty100_0 : fieldTy Tryd.prog 100 0 0 31 = true := by kernel_rfl
theorem sz102 : sizeIs Tryd.prog 102 1 = true := by kernel_rfl
theorem sc102 : scalar Tryd.prog 102 = true := by kernel_rfl
theorem co102 : Tryd.prog.cellsOf 102 = 1 := by kernel_rfl
theorem sz103 : sizeIs Tryd.prog 103 1 = true := by kernel_rfl
theorem sc103 : scalar Tryd.prog 103 = true := by kernel_rfl
theorem co103 : Tryd.prog.cellsOf 103 = 1 := by kernel_rfl
theorem sz104 : sizeIs Tryd.prog 104 4 = true := by kernel_rfl
theorem agg104 : aggOf Tryd.prog 104 4 = true := by kernel_rfl
theorem ze104 : zeroIs Tryd.prog 104 (.agg #[.nilFunc, .nilFunc, .nilFunc, .nilFunc]) 4 32 := by unfold zeroIs; kernel_rfl
theorem sz105 : sizeIs Tryd.prog 105 1 = true := by kernel_rfl
theorem sc105 : scalar Tryd.prog 105 = true := by kernel_rfl
theorem co105 : Tryd.prog.cellsOf 105 = 1 := by kernel_rfl
theorem sz106 : sizeIs Tryd.prog 106 1 = true := by kernel_rfl
theorem sc106 : scalar Tryd.prog 106 = true := by kernel_rfl
theorem co106 : Tryd.prog.cellsOf 106 = 1 := by kernel_rfl
theorem sz107 : sizeIs Tryd.prog 107 1 = true := by kernel_rfl
theorem sc107 : scalar Tryd.prog 107 = true := by kernel_rfl
theorem co107 : Tryd.prog.cellsOf 107 = 1 := by kernel_rfl
theorem sz108 : sizeIs Tryd.prog 108 1 = true := by kernel_rfl
theorem sc108 : scalar Tryd.prog 108 = true := by kernel_rfl
theorem co108 : Tryd.prog.cellsOf 108 = 1 := by kernel_rfl
theorem sz109 : sizeIs Tryd.prog 109 1 = true := by kernel_rfl
theorem sc109 : scalar Tryd.prog 109 = true := by kernel_rfl
theorem ze109 : zeroIs Tryd.prog 109 (.pointer none) 1 8 := by unfold zeroIs; kernel_rfl
theorem co109 : Tryd.prog.cellsOf 109 = 1 := by kernel_rfl
theorem sz110 : sizeIs Tryd.prog 110 1 = true := by kernel_rfl
theorem sc110 : scalar Tryd.prog 110 = true := by kernel_rfl
theorem co110 : Tryd.prog.cellsOf 110 = 1 := by kernel_rfl
theorem sz111 : sizeIs Tryd.prog 111 1 = true := by kernel_rfl
theorem sc111 : scalar Tryd.prog 111 = true := by kernel_rfl
theorem co111 : Tryd.prog.cellsOf 111 = 1 := by kernel_rfl
theorem sz112 : sizeIs Tryd.prog 112 1 = true := by kernel_rfl
theorem sc112 : scalar Tryd.prog 112 = true := by kernel_rfl
theorem co112 : Tryd.prog.cellsOf 112 = 1 := by kernel_rfl
theorem sz113 : sizeIs Tryd.prog 113 1 = true := by kernel_rfl
theorem sc113 : scalar Tryd.prog 113 = true := by kernel_rfl
theorem co113 : Tryd.prog.cellsOf 113 = 1 := by kernel_rfl
theorem sz114 : sizeIs Tryd.prog 114 1 = true := by kernel_rfl
theorem sc114 : scalar Tryd.prog 114 = true := by kernel_rfl
theorem co114 : Tryd.prog.cellsOf 114 = 1 := by kernel_rfl
theorem sz115 : sizeIs Tryd.prog 115 1 = true := by kernel_rfl
theorem sc115 : scalar Tryd.prog 115 = true := by kernel_rfl
theorem ze115 : zeroIs Tryd.prog 115 (.pointer none) 1 8 := by unfold zeroIs; kernel_rfl
theorem co115 : Tryd.prog.cellsOf 115 = 1 := by kernel_rfl
theorem sz116 : sizeIs Tryd.prog 116 1 = true := by kernel_rfl
theorem sc116 : scalar Tryd.prog 116 = true := by kernel_rfl
theorem ze116 : zeroIs Tryd.prog 116 (.pointer none) 1 8 := by unfold zeroIs; kernel_rfl
theorem co116 : Tryd.prog.cellsOf 116 = 1 := by kernel_rfl
theorem sz117 : sizeIs Tryd.prog 117 2 = true := by kernel_rfl
theorem agg117 : aggOf Tryd.prog 117 2 = true := by kernel_rfl
theorem ze117 : zeroIs Tryd.prog 117 (.agg #[(.pointer none), (.slice none 0 0)]) 2 32 := by unfold zeroIs; kernel_rfl
theorem pl117 : places Tryd.prog 117 = some [(0, 1), (1, 1)] := by kernel_rfl
theorem fld117_0 : fieldIs Tryd.prog 117 0 0 = true := by kernel_rfl
theorem fty117_0 : fieldTy Tryd.prog 117 0 0 116 = true := by kernel_rfl
theorem fld117_1 : fieldIs Tryd.prog 117 1 1 = true := by kernel_rfl
theorem fty117_1 : fieldTy Tryd.prog 117 1 1 76 = true := by kernel_rfl
theorem sz118 : sizeIs Tryd.prog 118 2 = true := by kernel_rfl
theorem agg118 : aggOf Tryd.prog 118 2 = true := by kernel_rfl
theorem ze118 : zeroIs Tryd.prog 118 (.agg #[(.pointer none), (.slice none 0 0)]) 2 32 := by unfold zeroIs; kernel_rfl
theorem pl118 : places Tryd.prog 118 = some [(0, 1), (1, 1)] := by kernel_rfl
theorem fld118_0 : fieldIs Tryd.prog 118 0 0 = true := by kernel_rfl
theorem fty118_0 : fieldTy Tryd.prog 118 0 0 116 = true := by kernel_rfl
theorem fld118_1 : fieldIs Tryd.prog 118 1 1 = true := by kernel_rfl
theorem fty118_1 : fieldTy Tryd.prog 118 1 1 76 = true := by kernel_rfl
theorem sz119 : sizeIs Tryd.prog 119 1 = true := by kernel_rfl
theorem sc119 : scalar Tryd.prog 119 = true := by kernel_rfl
theorem ze119 : zeroIs Tryd.prog 119 (.slice none 0 0) 1 24 := by unfold zeroIs; kernel_rfl
theorem co119 : Tryd.prog.cellsOf 119 = 1 := by kernel_rfl
theorem sz120 : sizeIs Tryd.prog 120 3 = true := by kernel_rfl
theorem agg120 : aggOf Tryd.prog 120 3 = true := by kernel_rfl
theorem ze120 : zeroIs Tryd.prog 120 (.agg #[(.pointer none), (.slice none 0 0), (.slice none 0 0)]) 3 56 := by unfold zeroIs; kernel_rfl
theorem pl120 : places Tryd.prog 120 = some [(0, 2), (2, 1)] := by kernel_rfl
theorem fld120_0 : fieldIs Tryd.prog 120 0 0 = true := by kernel_rfl
theorem fty120_0 : fieldTy Tryd.prog 120 0 0 118 = true := by kernel_rfl
theorem fld120_1 : fieldIs Tryd.prog 120 1 2 = true := by kernel_rfl
theorem fty120_1 : fieldTy Tryd.prog 120 1 2 119 = true := by kernel_rfl
theorem sz121 : sizeIs Tryd.prog 121 3 = true := by kernel_rfl
theorem agg121 : aggOf Tryd.prog 121 3 = true := by kernel_rfl
theorem ze121 : zeroIs Tryd.prog 121 (.agg #[(.pointer none), (.slice none 0 0), (.slice none 0 0)]) 3 56 := by unfold zeroIs; kernel_rfl
theorem pl121 : places Tryd.prog 121 = some [(0, 2), (2, 1)] := by kernel_rfl
theorem fld121_0 : fieldIs Tryd.prog 121 0 0 = true := by kernel_rfl
theorem fty121_0 : fieldTy Tryd.prog 121 0 0 118 = true := by kernel_rfl
theorem fld121_1 : fieldIs Tryd.prog 121 1 2 = true := by kernel_rfl
theorem fty121_1 : fieldTy Tryd.prog 121 1 2 119 = true := by kernel_rfl
theorem sz122 : sizeIs Tryd.prog 122 1 = true := by kernel_rfl
theorem sc122 : scalar Tryd.prog 122 = true := by kernel_rfl
theorem co122 : Tryd.prog.cellsOf 122 = 1 := by kernel_rfl
theorem sz123 : sizeIs Tryd.prog 123 1 = true := by kernel_rfl
theorem sc123 : scalar Tryd.prog 123 = true := by kernel_rfl
theorem co123 : Tryd.prog.cellsOf 123 = 1 := by kernel_rfl
theorem sz124 : sizeIs Tryd.prog 124 1 = true := by kernel_rfl
theorem sc124 : scalar Tryd.prog 124 = true := by kernel_rfl
theorem co124 : Tryd.prog.cellsOf 124 = 1 := by kernel_rfl
theorem sz125 : sizeIs Tryd.prog 125 1 = true := by kernel_rfl
theorem sc125 : scalar Tryd.prog 125 = true := by kernel_rfl
theorem co125 : Tryd.prog.cellsOf 125 = 1 := by kernel_rfl
theorem sz126 : sizeIs Tryd.prog 126 0 = true := by kernel_rfl
theorem agg126 : aggOf Tryd.prog 126 0 = true := by kernel_rfl
theorem ze126 : zeroIs Tryd.prog 126 (.agg #[]) 0 0 := by unfold zeroIs; kernel_rfl
theorem pl126 : places Tryd.prog 126 = some [] := by kernel_rfl
theorem sz127 : sizeIs Tryd.prog 127 0 = true := by kernel_rfl
theorem agg127 : aggOf Tryd.prog 127 0 = true := by kernel_rfl
theorem ze127 : zeroIs Tryd.prog 127 (.agg #[]) 0 0 := by unfold zeroIs; kernel_rfl
theorem pl127 : places Tryd.prog 127 = some [] := by kernel_rfl
theorem sz129 : sizeIs Tryd.prog 129 1 = true := by kernel_rfl
theorem sc129 : scalar Tryd.prog 129 = true := by kernel_rfl
theorem co129 : Tryd.prog.cellsOf 129 = 1 := by kernel_rfl
theorem sz130 : sizeIs Tryd.prog 130 1 = true := by kernel_rfl
theorem sc130 : scalar Tryd.prog 130 = true := by kernel_rfl
theorem co130 : Tryd.prog.cellsOf 130 = 1 := by kernel_rfl
theorem sz131 : sizeIs Tryd.prog 131 1 = true := by kernel_rfl
theorem sc131 : scalar Tryd.prog 131 = true := by kernel_rfl
theorem co131 : Tryd.prog.cellsOf 131 = 1 := by kernel_rfl
theorem sz132 : sizeIs Tryd.prog 132 1 = true := by kernel_rfl
theorem sc132 : scalar Tryd.prog 132 = true := by kernel_rfl
theorem co132 : Tryd.prog.cellsOf 132 = 1 := by kernel_rfl
theorem sz133 : sizeIs Tryd.prog 133 1 = true := by kernel_rfl
theorem sc133 : scalar Tryd.prog 133 = true := by kernel_rfl
theorem co133 : Tryd.prog.cellsOf 133 = 1 := by kernel_rfl
theorem sz134 : sizeIs Tryd.prog 134 1 = true := by kernel_rfl
theorem sc134 : scalar Tryd.prog 134 = true := by kernel_rfl
theorem ze134 : zeroIs Tryd.prog 134 (.slice none 0 0) 1 24 := by unfold zeroIs; kernel_rfl
theorem co134 : Tryd.prog.cellsOf 134 = 1 := by kernel_rfl
theorem sz135 : sizeIs Tryd.prog 135 1 = true := by kernel_rfl
theorem sc135 : scalar Tryd.prog 135 = true := by kernel_rfl
theorem co135 : Tryd.prog.cellsOf 135 = 1 := by kernel_rfl
theorem sz136 : sizeIs Tryd.prog 136 1 = true := by kernel_rfl
theorem sc136 : scalar Tryd.prog 136 = true := by kernel_rfl
theorem ze136 : zeroIs Tryd.prog 136 (.int .u64 0) 1 8 := by unfold zeroIs; kernel_rfl
theorem co136 : Tryd.prog.cellsOf 136 = 1 := by kernel_rfl
theorem sz137 : sizeIs Tryd.prog 137 1 = true := by kernel_rfl
theorem sc137 : scalar Tryd.prog 137 = true := by kernel_rfl
theorem ze137 : zeroIs Tryd.prog 137 (.pointer none) 1 8 := by unfold zeroIs; kernel_rfl
theorem co137 : Tryd.prog.cellsOf 137 = 1 := by kernel_rfl
theorem sz138 : sizeIs Tryd.prog 138 1 = true := by kernel_rfl
theorem sc138 : scalar Tryd.prog 138 = true := by kernel_rfl
theorem co138 : Tryd.prog.cellsOf 138 = 1 := by kernel_rfl
theorem sz139 : sizeIs Tryd.prog 139 1 = true := by kernel_rfl
theorem sc139 : scalar Tryd.prog 139 = true := by kernel_rfl
theorem ze139 : zeroIs Tryd.prog 139 (.pointer none) 1 8 := by unfold zeroIs; kernel_rfl
theorem co139 : Tryd.prog.cellsOf 139 = 1 := by kernel_rfl
theorem sz140 : sizeIs Tryd.prog 140 1 = true := by kernel_rfl
theorem sc140 : scalar Tryd.prog 140 = true := by kernel_rfl
theorem co140 : Tryd.prog.cellsOf 140 = 1 := by kernel_rfl
theorem sz141 : sizeIs Tryd.prog 141 1 = true := by kernel_rfl
theorem sc141 : scalar Tryd.prog 141 = true := by kernel_rfl
theorem co141 : Tryd.prog.cellsOf 141 = 1 := by kernel_rfl
theorem sz142 : sizeIs Tryd.prog 142 1 = true := by kernel_rfl
theorem sc142 : scalar Tryd.prog 142 = true := by kernel_rfl
theorem co142 : Tryd.prog.cellsOf 142 = 1 := by kernel_rfl
theorem sz143 : sizeIs Tryd.prog 143 1 = true := by kernel_rfl
theorem sc143 : scalar Tryd.prog 143 = true := by kernel_rfl
theorem ze143 : zeroIs Tryd.prog 143 (.int .u32 0) 1 4 := by unfold zeroIs; kernel_rfl
theorem co143 : Tryd.prog.cellsOf 143 = 1 := by kernel_rfl
theorem sz144 : sizeIs Tryd.prog 144 8 = true := by kernel_rfl
theorem agg144 : aggOf Tryd.prog 144 8 = true := by kernel_rfl
theorem ze144 : zeroIs Tryd.prog 144 (.agg #[(.int .u32 0), (.int .u32 0), (.int .u32 0), (.int .u32 0), (.int .u32 0), (.int .u32 0), (.int .u32 0), (.int .u32 0)]) 8 32 := by unfold zeroIs; kernel_rfl
theorem sz145 : sizeIs Tryd.prog 145 10 = true := by kernel_rfl
theorem agg145 : aggOf Tryd.prog 145 10 = true := by kernel_rfl
theorem ze145 : zeroIs Tryd.prog 145 (.agg #[(.int .u32 0), (.int .u32 0), (.int .u32 0), (.int .u32 0), (.int .u32 0), (.int .u32 0), (.int .u32 0), (.int .u32 0), (str []), (.int .i64 0)]) 10 56 := by unfold zeroIs; kernel_rfl
theorem pl145 : places Tryd.prog 145 = some [(0, 8), (8, 1), (9, 1)] := by kernel_rfl
theorem fld145_0 : fieldIs Tryd.prog 145 0 0 = true := by kernel_rfl
theorem fty145_0 : fieldTy Tryd.prog 145 0 0 144 = true := by kernel_rfl
theorem fld145_1 : fieldIs Tryd.prog 145 1 8 = true := by kernel_rfl
theorem fty145_1 : fieldTy Tryd.prog 145 1 8 9 = true := by kernel_rfl
theorem fld145_2 : fieldIs Tryd.prog 145 2 9 = true := by kernel_rfl
theorem fty145_2 : fieldTy Tryd.prog 145 2 9 3 = true := by kernel_rfl
theorem sz146 : sizeIs Tryd.prog 146 10 = true := by kernel_rfl
theorem agg146 : aggOf Tryd.prog 146 10 = true := by kernel_rfl
theorem ze146 : zeroIs Tryd.prog 146 (.agg #[(.int .u32 0), (.int .u32 0), (.int .u32 0), (.int .u32 0), (.int .u32 0), (.int .u32 0), (.int .u32 0), (.int .u32 0), (str []), (.int .i64 0)]) 10 56 := by unfold zeroIs; kernel_rfl
theorem pl146 : places Tryd.prog 146 = some [(0, 8), (8, 1), (9, 1)] := by kernel_rfl
theorem fld146_0 : fieldIs Tryd.prog 146 0 0 = true := by kernel_rfl
theorem fty146_0 : fieldTy Tryd.prog 146 0 0 144 = true := by kernel_rfl
theorem fld146_1 : fieldIs Tryd.prog 146 1 8 = true := by kernel_rfl
theorem fty146_1 : fieldTy Tryd.prog 146 1 8 9 = true := by kernel_rfl
theorem fld146_2 : fieldIs Tryd.prog 146 2 9 = true := by kernel_rfl
theorem fty146_2 : fieldTy Tryd.prog 146 2 9 3 = true := by kernel_rfl
theorem sz147 : sizeIs Tryd.prog 147 1 = true := by kernel_rfl
theorem sc147 : scalar Tryd.prog 147 = true := by kernel_rfl
theorem co147 : Tryd.prog.cellsOf 147 = 1 := by kernel_rfl
theorem sz148 : sizeIs Tryd.prog 148 1 = true := by kernel_rfl
theorem sc148 : scalar Tryd.prog 148 = true := by kernel_rfl
theorem co148 : Tryd.prog.cellsOf 148 = 1 := by kernel_rfl
theorem sz149 : sizeIs Tryd.prog 149 1 = true := by kernel_rfl
theorem sc149 : scalar Tryd.prog 149 = true := by kernel_rfl
theorem co149 : Tryd.prog.cellsOf 149 = 1 := by kernel_rfl
theorem sz150 : sizeIs Tryd.prog 150 1 = true := by kernel_rfl
theorem sc150 : scalar Tryd.prog 150 = true := by kernel_rfl
theorem co150 : Tryd.prog.cellsOf 150 = 1 := by kernel_rfl
theorem sz151 : sizeIs Tryd.prog 151 2 = true := by kernel_rfl
theorem agg151 : aggOf Tryd.prog 151 2 = true := by kernel_rfl
theorem ze151 : zeroIs Tryd.prog 151 (.agg #[(str []), (.int .i64 0)]) 2 24 := by unfold zeroIs; kernel_rfl
theorem pl151 : places Tryd.prog 151 = some [(0, 1), (1, 1)] := by kernel_rfl
theorem fld151_0 : fieldIs Tryd.prog 151 0 0 = true := by kernel_rfl
theorem fty151_0 : fieldTy Tryd.prog 151 0 0 9 = true := by kernel_rfl
theorem fld151_1 : fieldIs Tryd.prog 151 1 1 = true := by kernel_rfl
theorem fty151_1 : fieldTy Tryd.prog 151 1 1 3 = true := by kernel_rfl
theorem sz152 : sizeIs Tryd.prog 152 2 = true := by kernel_rfl
theorem agg152 : aggOf Tryd.prog 152 2 = true := by kernel_rfl
theorem ze152 : zeroIs Tryd.prog 152 (.agg #[(str []), (.int .i64 0)]) 2 24 := by unfold zeroIs; kernel_rfl
theorem pl152 : places Tryd.prog 152 = some [(0, 1), (1, 1)] := by kernel_rfl
theorem fld152_0 : fieldIs Tryd.prog 152 0 0 = true := by kernel_rfl
theorem fty152_0 : fieldTy Tryd.prog 152 0 0 9 = true := by kernel_rfl
theorem fld152_1 : fieldIs Tryd.prog 152 1 1 = true := by kernel_rfl
theorem fty152_1 : fieldTy Tryd.prog 152 1 1 3 = true := by kernel_rfl
theorem sz153 : sizeIs Tryd.prog 153 4 = true := by kernel_rfl
theorem agg153 : aggOf Tryd.prog 153 4 = true := by kernel_rfl
theorem ze153 : zeroIs Tryd.prog 153 (.agg #[(str []), (.int .i64 0), (str []), (.int .i64 0)]) 4 48 := by unfold zeroIs; kernel_rfl
theorem sz154 : sizeIs Tryd.prog 154 1 = true := by kernel_rfl
theorem sc154 : scalar Tryd.prog 154 = true := by kernel_rfl
theorem ze154 : zeroIs Tryd.prog 154 (.map none) 1 8 := by unfold zeroIs; kernel_rfl
theorem co154 : Tryd.prog.cellsOf 154 = 1 := by kernel_rfl
theorem sz155 : sizeIs Tryd.prog 155 1 = true := by kernel_rfl
theorem sc155 : scalar Tryd.prog 155 = true := by kernel_rfl
theorem co155 : Tryd.prog.cellsOf 155 = 1 := by kernel_rfl
theorem sz156 : sizeIs Tryd.prog 156 1 = true := by kernel_rfl
theorem sc156 : scalar Tryd.prog 156 = true := by kernel_rfl
theorem ze156 : zeroIs Tryd.prog 156 (.slice none 0 0) 1 24 := by unfold zeroIs; kernel_rfl
theorem co156 : Tryd.prog.cellsOf 156 = 1 := by kernel_rfl
theorem sz157 : sizeIs Tryd.prog 157 1 = true := by kernel_rfl
theorem sc157 : scalar Tryd.prog 157 = true := by kernel_rfl
theorem co157 : Tryd.prog.cellsOf 157 = 1 := by kernel_rfl
theorem sz158 : sizeIs Tryd.prog 158 1 = true := by kernel_rfl
theorem sc158 : scalar Tryd.prog 158 = true := by kernel_rfl
theorem co158 : Tryd.prog.cellsOf 158 = 1 := by kernel_rfl
theorem sz160 : sizeIs Tryd.prog 160 1 = true := by kernel_rfl
theorem sc160 : scalar Tryd.prog 160 = true := by kernel_rfl
theorem co160 : Tryd.prog.cellsOf 160 = 1 := by kernel_rfl
theorem sz161 : sizeIs Tryd.prog 161 1 = true := by kernel_rfl
theorem sc161 : scalar Tryd.prog 161 = true := by kernel_rfl
theorem ze161 : zeroIs Tryd.prog 161 (.pointer none) 1 8 := by unfold zeroIs; kernel_rfl
theorem co161 : Tryd.prog.cellsOf 161 = 1 := by kernel_rfl
theorem sz162 : sizeIs Tryd.prog 162 1 = true := by kernel_rfl
theorem sc162 : scalar Tryd.prog 162 = true := by kernel_rfl
theorem co162 : Tryd.prog.cellsOf 162 = 1 := by kernel_rfl
theorem sz164 : sizeIs Tryd.prog 164 1 = true := by kernel_rfl
theorem sc164 : scalar Tryd.prog 164 = true := by kernel_rfl
theorem co164 : Tryd.prog.cellsOf 164 = 1 := by kernel_rfl
theorem sz165 : sizeIs Tryd.prog 165 1 = true := by kernel_rfl
theorem sc165 : scalar Tryd.prog 165 = true := by kernel_rfl
theorem co165 : Tryd.prog.cellsOf 165 = 1 := by kernel_rfl
theorem sz166 : sizeIs Tryd.prog 166 1 = true := by kernel_rfl
theorem sc166 : scalar Tryd.prog 166 = true := by kernel_rfl
theorem co166 : Tryd.prog.cellsOf 166 = 1 := by kernel_rfl
theorem sz167 : sizeIs Tryd.prog 167 1 = true := by kernel_rfl
theorem sc167 : scalar Tryd.prog 167 = true := by kernel_rfl
theorem co167 : Tryd.prog.cellsOf 167 = 1 := by kernel_rfl
theorem sz168 : sizeIs Tryd.prog 168 16 = true := by kernel_rfl
theorem agg168 : aggOf Tryd.prog 168 16 = true := by kernel_rfl
theorem ze168 : zeroIs Tryd.prog 168 (.agg #[(.int .u32 0), (.int .u32 0), (.int .u32 0), (.int .u32 0), (.int .u32 0), (.int .u32 0), (.int .u32 0), (.int .u32 0), (.int .u32 0), (.int .u32 0), (.int .u32 0), (.int .u32 0), (.int .u32 0), (.int .u32 0), (.int .u32 0), (.int .u32 0)]) 16 64 := by unfold zeroIs; kernel_rfl
theorem sz169 : sizeIs Tryd.prog 169 64 = true := by kernel_rfl
theorem agg169 : aggOf Tryd.prog 169 64 = true := by kernel_rfl
theorem ze169 : zeroIs Tryd.prog 169 (.agg #[(.int .u32 0), (.int .u32 0), (.int .u32 0), (.int .u32 0), (.int .u32 0), (.int .u32 0), (.int .u32 0), (.int .u32 0), (.int .u32 0), (.int .u32 0), (.int .u32 0), (.int .u32 0), (.int .u32 0), (.int .u32 0), (.int .u32 0), (.int .u32 0), (.int .u32 0), (.int .u32 0), (.int .u32 0), (.int .u32 0), (.int .u32 0), (.int .u32 0), (.int .u32 0), (.int .u32 0), (.int .u32 0), (.int .u32 0), (.int .u32 0), (.int .u32 0), (.int .u32 0), (.int .u32 0), (.int .u32 0), (.int .u32 0), (.int .u32 0), (.int .u32 0), (.int .u32 0), (.int .u32 0), (.int .u32 0), (.int .u32 0), (.int .u32 0), (.int .u32 0), (.int .u32 0), (.int .u32 0), (.int .u32 0), (.int .u32 0), (.int .u32 0), (.int .u32 0), (.int .u32 0), (.int .u32 0), (.int .u32 0), (.int .u32 0), (.int .u32 0), (.int .u32 0), (.int .u32 0), (.int .u32 0), (.int .u32 0), (.int .u32 0), (.int .u32 0), (.int .u32 0), (.int .u32 0), (.int .u32 0), (.int .u32 0), (.int .u32 0), (.int .u32 0), (.int .u32 0)]) 64 256 := by unfold zeroIs; kernel_rfl
theorem sz170 : sizeIs Tryd.prog 170 1 = true := by kernel_rfl
theorem sc170 : scalar Tryd.prog 170 = true := by kernel_rfl
theorem co170 : Tryd.prog.cellsOf 170 = 1 := by kernel_rfl
theorem sz171 : sizeIs Tryd.prog 171 1 = true := by kernel_rfl
theorem sc171 : scalar Tryd.prog 171 = true := by kernel_rfl
theorem ze171 : zeroIs Tryd.prog 171 (.slice none 0 0) 1 24 := by unfold zeroIs; kernel_rfl
theorem co171 : Tryd.prog.cellsOf 171 = 1 := by kernel_rfl
theorem sz172 : sizeIs Tryd.prog 172 1 = true := by kernel_rfl
theorem sc172 : scalar Tryd.prog 172 = true := by kernel_rfl
theorem co172 : Tryd.prog.cellsOf 172 = 1 := by kernel_rfl
theorem sz173 : sizeIs Tryd.prog 173 1 = true := by kernel_rfl
theorem sc173 : scalar Tryd.prog 173 = true := by kernel_rfl
theorem co173 : Tryd.prog.cellsOf 173 = 1 := by kernel_rfl
theorem sz175 : sizeIs Tryd.prog 175 1 = true := by kernel_rfl
theorem sc175 : scalar Tryd.prog 175 = true := by kernel_rfl
theorem co175 : Tryd.prog.cellsOf 175 = 1 := by kernel_rfl
theorem sz176 : sizeIs Tryd.prog 176 1 = true := by kernel_rfl
theorem sc176 : scalar Tryd.prog 176 = true := by kernel_rfl
theorem co176 : Tryd.prog.cellsOf 176 = 1 := by kernel_rfl
theorem sz177 : sizeIs Tryd.prog 177 1 = true := by kernel_rfl
theorem sc177 : scalar Tryd.prog 177 = true := by kernel_rfl
theorem co177 : Tryd.prog.cellsOf 177 = 1 := by kernel_rfl
theorem sz178 : sizeIs Tryd.prog 178 1 = true := by kernel_rfl
theorem sc178 : scalar Tryd.prog 178 = true := by kernel_rfl
theorem co178 : Tryd.prog.cellsOf 178 = 1 := by kernel_rfl
theorem sz179 : sizeIs Tryd.prog 179 1 = true := by kernel_rfl
theorem sc179 : scalar Tryd.prog 179 = true := by kernel_rfl
theorem ze179 : zeroIs Tryd.prog 179 (.slice none 0 0) 1 24 := by unfold zeroIs; kernel_rfl
theorem co179 : Tryd.prog.cellsOf 179 = 1 := by kernel_rfl
theorem sz180 : sizeIs Tryd.prog 180 1 = true := by kernel_rfl
theorem sc180 : scalar Tryd.prog 180 = true := by kernel_rfl
theorem co180 : Tryd.prog.cellsOf 180 = 1 := by kernel_rfl
theorem sz181 : sizeIs Tryd.prog 181 1 = true := by kernel_rfl
theorem sc181 : scalar Tryd.prog 181 = true := by kernel_rfl
theorem ze181 : zeroIs Tryd.prog 181 (.pointer none) 1 8 := by unfold zeroIs; kernel_rfl
theorem co181 : Tryd.prog.cellsOf 181 = 1 := by kernel_rfl
theorem sz182 : sizeIs Tryd.prog 182 1 = true := by kernel_rfl
theorem sc182 : scalar Tryd.prog 182 = true := by kernel_rfl
theorem co182 : Tryd.prog.cellsOf 182 = 1 := by kernel_rfl
theorem sz183 : sizeIs Tryd.prog 183 1 = true := by kernel_rfl
theorem sc183 : scalar Tryd.prog 183 = true := by kernel_rfl
theorem co183 : Tryd.prog.cellsOf 183 = 1 := by kernel_rfl
theorem sz184 : sizeIs Tryd.prog 184 1 = true := by kernel_rfl
theorem sc184 : scalar Tryd.prog 184 = true := by kernel_rfl
theorem co184 : Tryd.prog.cellsOf 184 = 1 := by kernel_rfl
theorem sz185 : sizeIs Tryd.prog 185 1 = true := by kernel_rfl
theorem sc185 : scalar Tryd.prog 185 = true := by kernel_rfl
theorem co185 : Tryd.prog.cellsOf 185 = 1 := by kernel_rfl
theorem sz186 : sizeIs Tryd.prog 186 1 = true := by kernel_rfl
theorem sc186 : scalar Tryd.prog 186 = true := by kernel_rfl
theorem co186 : Tryd.prog.cellsOf 186 = 1 := by kernel_rfl
theorem sz187 : sizeIs Tryd.prog 187 1 = true := by kernel_rfl
theorem sc187 : scalar Tryd.prog 187 = true := by kernel_rfl
theorem co187 : Tryd.prog.cellsOf 187 = 1 := by kernel_rfl
theorem sz189 : sizeIs Tryd.prog 189 1 = true := by kernel_rfl
theorem sc189 : scalar Tryd.prog 189 = true := by kernel_rfl
theorem co189 : Tryd.prog.cellsOf 189 = 1 := by kernel_rfl
theorem sz190 : sizeIs Tryd.prog 190 1 = true := by kernel_rfl
theorem sc190 : scalar Tryd.prog 190 = true := by kernel_rfl
theorem co190 : Tryd.prog.cellsOf 190 = 1 := by kernel_rfl
theorem sz191 : sizeIs Tryd.prog 191 1 = true := by kernel_rfl
theorem sc191 : scalar Tryd.prog 191 = true := by kernel_rfl
theorem co191 : Tryd.prog.cellsOf 191 = 1 := by kernel_rfl
theorem sz192 : sizeIs Tryd.prog 192 1 = true := by kernel_rfl
theorem sc192 : scalar Tryd.prog 192 = true := by kernel_rfl
theorem co192 : Tryd.prog.cellsOf 192 = 1 := by kernel_rfl
theorem sz193 : sizeIs Tryd.prog 193 1 = true := by kernel_rfl
theorem sc193 : scalar Tryd.prog 193 = true := by kernel_rfl
theorem co193 : Tryd.prog.cellsOf 193 = 1 := by kernel_rfl
theorem sz195 : sizeIs Tryd.prog 195 1 = true := by kernel_rfl
theorem sc195 : scalar Tryd.prog 195 = true := by kernel_rfl
theorem co195 : Tryd.prog.cellsOf 195 = 1 := by kernel_rfl
theorem sz197 : sizeIs Tryd.prog 197 1 = true := by kernel_rfl
theorem sc197 : scalar Tryd.prog 197 = true := by kernel_rfl
theorem co197 : Tryd.prog.cellsOf 197 = 1 := by kernel_rfl
theorem sz198 : sizeIs Tryd.prog 198 1 = true := by kernel_rfl
theorem sc198 : scalar Tryd.prog 198 = true := by kernel_rfl
theorem co198 : Tryd.prog.cellsOf 198 = 1 := by kernel_rfl
theorem sz199 : sizeIs Tryd.prog 199 1 = true := by kernel_rfl
theorem sc199 : scalar Tryd.prog 199 = true := by kernel_rfl
theorem co199 : Tryd.prog.cellsOf 199 = 1 := by kernel_rfl
theorem sz200 : sizeIs Tryd.prog 200 4 = true := by kernel_rfl
theorem agg200 : aggOf Tryd.prog 200 4 = true := by kernel_rfl
theorem ze200 : zeroIs Tryd.prog 200 (.agg #[(.pointer none), (.pointer none), (.pointer none), (str [])]) 4 40 := by unfold zeroIs; kernel_rfl
theorem pl200 : places Tryd.prog 200 = some [(0, 1), (1, 1), (2, 1), (3, 1)] := by kernel_rfl
theorem fld200_0 : fieldIs Tryd.prog 200 0 0 = true := by kernel_rfl
theorem fty200_0 : fieldTy Tryd.prog 200 0 0 17 = true := by kernel_rfl
theorem fld200_1 : fieldIs Tryd.prog 200 1 1 = true := by kernel_rfl
theorem fty200_1 : fieldTy Tryd.prog 200 1 1 17 = true := by kernel_rfl
theorem fld200_2 : fieldIs Tryd.prog 200 2 2 = true := by kernel_rfl
theorem fty200_2 : fieldTy Tryd.prog 200 2 2 17 = true := by kernel_rfl
theorem fld200_3 : fieldIs Tryd.prog 200 3 3 = true := by kernel_rfl
theorem fty200_3 : fieldTy Tryd.prog 200 3 3 9 = true := by kernel_rfl
theorem sz201 : sizeIs Tryd.prog 201 4 = true := by kernel_rfl
theorem agg201 : aggOf Tryd.prog 201 4 = true := by kernel_rfl
theorem ze201 : zeroIs Tryd.prog 201 (.agg #[(.pointer none), (.pointer none), (.pointer none), (str [])]) 4 40 := by unfold zeroIs; kernel_rfl
theorem pl201 : places Tryd.prog 201 = some [(0, 1), (1, 1), (2, 1), (3, 1)] := by kernel_rfl
theorem fld201_0 : fieldIs Tryd.prog 201 0 0 = true := by kernel_rfl
theorem fty201_0 : fieldTy Tryd.prog 201 0 0 17 = true := by kernel_rfl
theorem fld201_1 : fieldIs Tryd.prog 201 1 1 = true := by kernel_rfl
theorem fty201_1 : fieldTy Tryd.prog 201 1 1 17 = true := by kernel_rfl
theorem fld201_2 : fieldIs Tryd.prog 201 2 2 = true := by kernel_rfl
theorem fty201_2 : fieldTy Tryd.prog 201 2 2 17 = true := by kernel_rfl
theorem fld201_3 : fieldIs Tryd.prog 201 3 3 = true := by kernel_rfl
theorem fty201_3 : fieldTy Tryd.prog 201 3 3 9 = true := by kernel_rfl
theorem sz202 : sizeIs Tryd.prog 202 0 = true := by kernel_rfl
theorem agg202 : aggOf Tryd.prog 202 0 = true := by kernel_rfl
theorem ze202 : zeroIs Tryd.prog 202 (.agg #[]) 0 0 := by unfold zeroIs; kernel_rfl
theorem sz203 : sizeIs Tryd.prog 203 0 = true := by kernel_rfl
theorem agg203 : aggOf Tryd.prog 203 0 = true := by kernel_rfl
theorem ze203 : zeroIs Tryd.prog 203 (.agg #[]) 0 0 := by unfold zeroIs; kernel_rfl
theorem pl203 : places Tryd.prog 203 = some [(0, 0)] := by kernel_rfl
theorem fty203_0 : fieldTy Tryd.prog 203 0 0 202 = true := by kernel_rfl
theorem sz204 : sizeIs Tryd.prog 204 0 = true := by kernel_rfl
theorem agg204 : aggOf Tryd.prog 204 0 = true := by kernel_rfl
theorem ze204 : zeroIs Tryd.prog 204 (.agg #[]) 0 0 := by unfold zeroIs; kernel_rfl
theorem pl204 : places Tryd.prog 204 = some [(0, 0)] := by kernel_rfl
theorem fty204_0 : fieldTy Tryd.prog 204 0 0 202 = true := by kernel_rfl
theorem sz205 : sizeIs Tryd.prog 205 1 = true := by kernel_rfl
theorem sc205 : scalar Tryd.prog 205 = true := by kernel_rfl
theorem ze205 : zeroIs Tryd.prog 205 (.int .u8 0) 1 1 := by unfold zeroIs; kernel_rfl
theorem co205 : Tryd.prog.cellsOf 205 = 1 := by kernel_rfl
theorem sz206 : sizeIs Tryd.prog 206 1 = true := by kernel_rfl
theorem sc206 : scalar Tryd.prog 206 = true := by kernel_rfl
theorem ze206 : zeroIs Tryd.prog 206 (.int .u8 0) 1 1 := by unfold zeroIs; kernel_rfl
theorem co206 : Tryd.prog.cellsOf 206 = 1 := by kernel_rfl
theorem sz207 : sizeIs Tryd.prog 207 1 = true := by kernel_rfl
theorem sc207 : scalar Tryd.prog 207 = true := by kernel_rfl
theorem co207 : Tryd.prog.cellsOf 207 = 1 := by kernel_rfl
theorem sz208 : sizeIs Tryd.prog 208 1 = true := by kernel_rfl
theorem sc208 : scalar Tryd.prog 208 = true := by kernel_rfl
theorem ze208 : zeroIs Tryd.prog 208 (.int .i32 0) 1 4 := by unfold zeroIs; kernel_rfl
theorem co208 : Tryd.prog.cellsOf 208 = 1 := by kernel_rfl
theorem sz209 : sizeIs Tryd.prog 209 1 = true := by kernel_rfl
theorem sc209 : scalar Tryd.prog 209 = true := by kernel_rfl
theorem ze209 : zeroIs Tryd.prog 209 (.int .i32 0) 1 4 := by unfold zeroIs; kernel_rfl
theorem co209 : Tryd.prog.cellsOf 209 = 1 := by kernel_rfl
theorem sz210 : sizeIs Tryd.prog 210 11 = true := by kernel_rfl
theorem agg210 : aggOf Tryd.prog 210 11 = true := by kernel_rfl
theorem ze210 : zeroIs Tryd.prog 210 (.agg #[(.int .u64 0), (.int .u64 0), (.int .u32 0), (.int .u8 0), (.int .u8 0), (.int .u8 0), (.int .u8 0), .nilFunc, (.pointer none), (.int .i32 0), (.int .i32 0)]) 11 48 := by unfold zeroIs; kernel_rfl
theorem pl210 : places Tryd.prog 210 = some [(0, 1), (1, 1), (2, 1), (3, 1), (4, 1), (5, 1), (6, 1), (7, 1), (8, 1), (9, 1), (10, 1)] := by kernel_rfl
theorem fld210_0 : fieldIs Tryd.prog 210 0 0 = true := by kernel_rfl
theorem fty210_0 : fieldTy Tryd.prog 210 0 0 12 = true := by kernel_rfl
theorem fld210_1 : fieldIs Tryd.prog 210 1 1 = true := by kernel_rfl
theorem fty210_1 : fieldTy Tryd.prog 210 1 1 12 = true := by kernel_rfl
theorem fld210_2 : fieldIs Tryd.prog 210 2 2 = true := by kernel_rfl
theorem fty210_2 : fieldTy Tryd.prog 210 2 2 143 = true := by kernel_rfl
theorem fld210_3 : fieldIs Tryd.prog 210 3 3 = true := by kernel_rfl
theorem fty210_3 : fieldTy Tryd.prog 210 3 3 205 = true := by kernel_rfl
theorem fld210_4 : fieldIs Tryd.prog 210 4 4 = true := by kernel_rfl
theorem fty210_4 : fieldTy Tryd.prog 210 4 4 5 = true := by kernel_rfl
theorem fld210_5 : fieldIs Tryd.prog 210 5 5 = true := by kernel_rfl
theorem fty210_5 : fieldTy Tryd.prog 210 5 5 5 = true := by kernel_rfl
theorem fld210_6 : fieldIs Tryd.prog 210 6 6 = true := by kernel_rfl
theorem fty210_6 : fieldTy Tryd.prog 210 6 6 206 = true := by kernel_rfl
theorem fld210_7 : fieldIs Tryd.prog 210 7 7 = true := by kernel_rfl
theorem fty210_7 : fieldTy Tryd.prog 210 7 7 207 = true := by kernel_rfl
theorem fld210_8 : fieldIs Tryd.prog 210 8 8 = true := by kernel_rfl
theorem fty210_8 : fieldTy Tryd.prog 210 8 8 161 = true := by kernel_rfl
theorem fld210_9 : fieldIs Tryd.prog 210 9 9 = true := by kernel_rfl
theorem fty210_9 : fieldTy Tryd.prog 210 9 9 208 = true := by kernel_rfl
theorem fld210_10 : fieldIs Tryd.prog 210 10 10 = true := by kernel_rfl
theorem fty210_10 : fieldTy Tryd.prog 210 10 10 209 = true := by kernel_rfl
theorem sz211 : sizeIs Tryd.prog 211 11 = true := by kernel_rfl
theorem agg211 : aggOf Tryd.prog 211 11 = true := by kernel_rfl
theorem ze211 : zeroIs Tryd.prog 211 (.agg #[(.int .u64 0), (.int .u64 0), (.int .u32 0), (.int .u8 0), (.int .u8 0), (.int .u8 0), (.int .u8 0), .nilFunc, (.pointer none), (.int .i32 0), (.int .i32 0)]) 11 48 := by unfold zeroIs; kernel_rfl
theorem pl211 : places Tryd.prog 211 = some [(0, 1), (1, 1), (2, 1), (3, 1), (4, 1), (5, 1), (6, 1), (7, 1), (8, 1), (9, 1), (10, 1)] := by kernel_rfl
theorem fld211_0 : fieldIs Tryd.prog 211 0 0 = true := by kernel_rfl
theorem fty211_0 : fieldTy Tryd.prog 211 0 0 12 = true := by kernel_rfl
theorem fld211_1 : fieldIs Tryd.prog 211 1 1 = true := by kernel_rfl
theorem fty211_1 : fieldTy Tryd.prog 211 1 1 12 = true := by kernel_rfl
theorem fld211_2 : fieldIs Tryd.prog 211 2 2 = true := by kernel_rfl
theorem fty211_2 : fieldTy Tryd.prog 211 2 2 143 = true := by kernel_rfl
theorem fld211_3 : fieldIs Tryd.prog 211 3 3 = true := by kernel_rfl
theorem fty211_3 : fieldTy Tryd.prog 211 3 3 205 = true := by kernel_rfl
theorem fld211_4 : fieldIs Tryd.prog 211 4 4 = true := by kernel_rfl
theorem fty211_4 : fieldTy Tryd.prog 211 4 4 5 = true := by kernel_rfl
theorem fld211_5 : fieldIs Tryd.prog 211 5 5 = true := by kernel_rfl
theorem fty211_5 : fieldTy Tryd.prog 211 5 5 5 = true := by kernel_rfl
theorem fld211_6 : fieldIs Tryd.prog 211 6 6 = true := by kernel_rfl
theorem fty211_6 : fieldTy Tryd.prog 211 6 6 206 = true := by kernel_rfl
theorem fld211_7 : fieldIs Tryd.prog 211 7 7 = true := by kernel_rfl
theorem fty211_7 : fieldTy Tryd.prog 211 7 7 207 = true := by kernel_rfl
theorem fld211_8 : fieldIs Tryd.prog 211 8 8 = true := by kernel_rfl
theorem fty211_8 : fieldTy Tryd.prog 211 8 8 161 = true := by kernel_rfl
theorem fld211_9 : fieldIs Tryd.prog 211 9 9 = true := by kernel_rfl
theorem fty211_9 : fieldTy Tryd.prog 211 9 9 208 = true := by kernel_rfl
theorem fld211_10 : fieldIs Tryd.prog 211 10 10 = true := by kernel_rfl
theorem fty211_10 : fieldTy Tryd.prog 211 10 10 209 = true := by kernel_rfl
theorem sz212 : sizeIs Tryd.prog 212 1 = true := by kernel_rfl
theorem sc212 : scalar Tryd.prog 212 = true := by kernel_rfl
theorem ze212 : zeroIs Tryd.prog 212 (.int .i64 0) 1 8 := by unfold zeroIs; kernel_rfl
theorem co212 : Tryd.prog.cellsOf 212 = 1 := by kernel_rfl
theorem sz213 : sizeIs Tryd.prog 213 4 = true := by kernel_rfl
theorem agg213 : aggOf Tryd.prog 213 4 = true := by kernel_rfl
theorem ze213 : zeroIs Tryd.prog 213 (.agg #[(.int .i64 0), (.int .i64 0), (str []), (.int .i64 0)]) 4 40 := by unfold zeroIs; kernel_rfl
theorem pl213 : places Tryd.prog 213 = some [(0, 1), (1, 1), (2, 1), (3, 1)] := by kernel_rfl
theorem fld213_0 : fieldIs Tryd.prog 213 0 0 = true := by kernel_rfl
theorem fty213_0 : fieldTy Tryd.prog 213 0 0 212 = true := by kernel_rfl
theorem fld213_1 : fieldIs Tryd.prog 213 1 1 = true := by kernel_rfl
theorem fty213_1 : fieldTy Tryd.prog 213 1 1 2 = true := by kernel_rfl
theorem fld213_2 : fieldIs Tryd.prog 213 2 2 = true := by kernel_rfl
theorem fty213_2 : fieldTy Tryd.prog 213 2 2 9 = true := by kernel_rfl
theorem fld213_3 : fieldIs Tryd.prog 213 3 3 = true := by kernel_rfl
theorem fty213_3 : fieldTy Tryd.prog 213 3 3 3 = true := by kernel_rfl
theorem sz214 : sizeIs Tryd.prog 214 4 = true := by kernel_rfl
theorem agg214 : aggOf Tryd.prog 214 4 = true := by kernel_rfl
theorem ze214 : zeroIs Tryd.prog 214 (.agg #[(.int .i64 0), (.int .i64 0), (str []), (.int .i64 0)]) 4 40 := by unfold zeroIs; kernel_rfl
theorem pl214 : places Tryd.prog 214 = some [(0, 1), (1, 1), (2, 1), (3, 1)] := by kernel_rfl
theorem fld214_0 : fieldIs Tryd.prog 214 0 0 = true := by kernel_rfl
theorem fty214_0 : fieldTy Tryd.prog 214 0 0 212 = true := by kernel_rfl
theorem fld214_1 : fieldIs Tryd.prog 214 1 1 = true := by kernel_rfl
theorem fty214_1 : fieldTy Tryd.prog 214 1 1 2 = true := by kernel_rfl
theorem fld214_2 : fieldIs Tryd.prog 214 2 2 = true := by kernel_rfl
theorem fty214_2 : fieldTy Tryd.prog 214 2 2 9 = true := by kernel_rfl
theorem fld214_3 : fieldIs Tryd.prog 214 3 3 = true := by kernel_rfl
theorem fty214_3 : fieldTy Tryd.prog 214 3 3 3 = true := by kernel_rfl
theorem mixed : Tryd.prog.follows .mixedOrders = true := by kernel_rfl
theorem cal2 : Callee Tryd.prog 2 := ⟨_, Tryd.func2, by kernel_rfl, rfl⟩
theorem cal3 : Callee Tryd.prog 3 := ⟨_, Tryd.func3, by kernel_rfl, rfl⟩
theorem cal4 : Callee Tryd.prog 4 := ⟨_, Tryd.func4, by kernel_rfl, rfl⟩
theorem cal5 : Callee Tryd.prog 5 := ⟨_, Tryd.func5, by kernel_rfl, rfl⟩
theorem cal6 : Callee Tryd.prog 6 := ⟨_, Tryd.func6, by kernel_rfl, rfl⟩
theorem cal7 : Callee Tryd.prog 7 := ⟨_, Tryd.func7, by kernel_rfl, rfl⟩
theorem cal8 : Callee Tryd.prog 8 := ⟨_, Tryd.func8, by kernel_rfl, rfl⟩
theorem cal9 : Callee Tryd.prog 9 := ⟨_, Tryd.func9, by kernel_rfl, rfl⟩
theorem cal10 : Callee Tryd.prog 10 := ⟨_, Tryd.func10, by kernel_rfl, rfl⟩
theorem cal11 : Callee Tryd.prog 11 := ⟨_, Tryd.func11, by kernel_rfl, rfl⟩
theorem cal12 : Callee Tryd.prog 12 := ⟨_, Tryd.func12, by kernel_rfl, rfl⟩
theorem cal13 : Callee Tryd.prog 13 := ⟨_, Tryd.func13, by kernel_rfl, rfl⟩
theorem cal14 : Callee Tryd.prog 14 := ⟨_, Tryd.func14, by kernel_rfl, rfl⟩
theorem cal15 : Callee Tryd.prog 15 := ⟨_, Tryd.func15, by kernel_rfl, rfl⟩
theorem cal16 : Callee Tryd.prog 16 := ⟨_, Tryd.func16, by kernel_rfl, rfl⟩
theorem cal17 : Callee Tryd.prog 17 := ⟨_, Tryd.func17, by kernel_rfl, rfl⟩
theorem cal18 : Callee Tryd.prog 18 := ⟨_, Tryd.func18, by kernel_rfl, rfl⟩
theorem cal19 : Callee Tryd.prog 19 := ⟨_, Tryd.func19, by kernel_rfl, rfl⟩
theorem cal20 : Callee Tryd.prog 20 := ⟨_, Tryd.func20, by kernel_rfl, rfl⟩
theorem cal21 : Callee Tryd.prog 21 := ⟨_, Tryd.func21, by kernel_rfl, rfl⟩
theorem cal22 : Callee Tryd.prog 22 := ⟨_, Tryd.func22, by kernel_rfl, rfl⟩
theorem cal23 : Callee Tryd.prog 23 := ⟨_, Tryd.func23, by kernel_rfl, rfl⟩
theorem cal24 : Callee Tryd.prog 24 := ⟨_, Tryd.func24, by kernel_rfl, rfl⟩
theorem cal25 : Callee Tryd.prog 25 := ⟨_, Tryd.func25, by kernel_rfl, rfl⟩
theorem cal26 : Callee Tryd.prog 26 := ⟨_, Tryd.func26, by kernel_rfl, rfl⟩
theorem cal27 : Callee Tryd.prog 27 := ⟨_, Tryd.func27, by kernel_rfl, rfl⟩
theorem cal28 : Callee Tryd.prog 28 := ⟨_, Tryd.func28, by kernel_rfl, rfl⟩
theorem cal29 : Callee Tryd.prog 29 := ⟨_, Tryd.func29, by kernel_rfl, rfl⟩
theorem cal30 : Callee Tryd.prog 30 := ⟨_, Tryd.func30, by kernel_rfl, rfl⟩
theorem cal31 : Callee Tryd.prog 31 := ⟨_, Tryd.func31, by kernel_rfl, rfl⟩
theorem cal32 : Callee Tryd.prog 32 := ⟨_, Tryd.func32, by kernel_rfl, rfl⟩
theorem cal33 : Callee Tryd.prog 33 := ⟨_, Tryd.func33, by kernel_rfl, rfl⟩
theorem cal34 : Callee Tryd.prog 34 := ⟨_, Tryd.func34, by kernel_rfl, rfl⟩
theorem cal35 : Callee Tryd.prog 35 := ⟨_, Tryd.func35, by kernel_rfl, rfl⟩
theorem cal36 : Callee Tryd.prog 36 := ⟨_, Tryd.func36, by kernel_rfl, rfl⟩
theorem cal37 : Callee Tryd.prog 37 := ⟨_, Tryd.func37, by kernel_rfl, rfl⟩
theorem cal38 : Callee Tryd.prog 38 := ⟨_, Tryd.func38, by kernel_rfl, rfl⟩
theorem cal39 : Callee Tryd.prog 39 := ⟨_, Tryd.func39, by kernel_rfl, rfl⟩
theorem cal40 : Callee Tryd.prog 40 := ⟨_, Tryd.func40, by kernel_rfl, rfl⟩
theorem cal41 : Callee Tryd.prog 41 := ⟨_, Tryd.func41, by kernel_rfl, rfl⟩
theorem cal42 : Callee Tryd.prog 42 := ⟨_, Tryd.func42, by kernel_rfl, rfl⟩
theorem cal43 : Callee Tryd.prog 43 := ⟨_, Tryd.func43, by kernel_rfl, rfl⟩
theorem cal44 : Callee Tryd.prog 44 := ⟨_, Tryd.func44, by kernel_rfl, rfl⟩
theorem cal45 : Callee Tryd.prog 45 := ⟨_, Tryd.func45, by kernel_rfl, rfl⟩
theorem cal46 : Callee Tryd.prog 46 := ⟨_, Tryd.func46, by kernel_rfl, rfl⟩
theorem cal47 : Callee Tryd.prog 47 := ⟨_, Tryd.func47, by kernel_rfl, rfl⟩
theorem cal48 : Callee Tryd.prog 48 := ⟨_, Tryd.func48, by kernel_rfl, rfl⟩
theorem cal49 : Callee Tryd.prog 49 := ⟨_, Tryd.func49, by kernel_rfl, rfl⟩
theorem cal50 : Callee Tryd.prog 50 := ⟨_, Tryd.func50, by kernel_rfl, rfl⟩
theorem cal51 : Callee Tryd.prog 51 := ⟨_, Tryd.func51, by kernel_rfl, rfl⟩
theorem cal52 : Callee Tryd.prog 52 := ⟨_, Tryd.func52, by kernel_rfl, rfl⟩
theorem cal53 : Callee Tryd.prog 53 := ⟨_, Tryd.func53, by kernel_rfl, rfl⟩
theorem cal54 : Callee Tryd.prog 54 := ⟨_, Tryd.func54, by kernel_rfl, rfl⟩
theorem cal55 : Callee Tryd.prog 55 := ⟨_, Tryd.func55, by kernel_rfl, rfl⟩
theorem cal56 : Callee Tryd.prog 56 := ⟨_, Tryd.func56, by kernel_rfl, rfl⟩
theorem cal57 : Callee Tryd.prog 57 := ⟨_, Tryd.func57, by kernel_rfl, rfl⟩
theorem cal58 : Callee Tryd.prog 58 := ⟨_, Tryd.func58, by kernel_rfl, rfl⟩
theorem cal59 : Callee Tryd.prog 59 := ⟨_, Tryd.func59, by kernel_rfl, rfl⟩
theorem cal60 : Callee Tryd.prog 60 := ⟨_, Tryd.func60, by kernel_rfl, rfl⟩
theorem cal61 : Callee Tryd.prog 61 := ⟨_, Tryd.func61, by kernel_rfl, rfl⟩
theorem cal62 : Callee Tryd.prog 62 := ⟨_, Tryd.func62, by kernel_rfl, rfl⟩
theorem cal63 : Callee Tryd.prog 63 := ⟨_, Tryd.func63, by kernel_rfl, rfl⟩
theorem cal64 : Callee Tryd.prog 64 := ⟨_, Tryd.func64, by kernel_rfl, rfl⟩
theorem cal65 : Callee Tryd.prog 65 := ⟨_, Tryd.func65, by kernel_rfl, rfl⟩
theorem cal66 : Callee Tryd.prog 66 := ⟨_, Tryd.func66, by kernel_rfl, rfl⟩
theorem cal67 : Callee Tryd.prog 67 := ⟨_, Tryd.func67, by kernel_rfl, rfl⟩
theorem cal68 : Callee Tryd.prog 68 := ⟨_, Tryd.func68, by kernel_rfl, rfl⟩
theorem cal69 : Callee Tryd.prog 69 := ⟨_, Tryd.func69, by kernel_rfl, rfl⟩
theorem cal70 : Callee Tryd.prog 70 := ⟨_, Tryd.func70, by kernel_rfl, rfl⟩
theorem cal71 : Callee Tryd.prog 71 := ⟨_, Tryd.func71, by kernel_rfl, rfl⟩
theorem cal72 : Callee Tryd.prog 72 := ⟨_, Tryd.func72, by kernel_rfl, rfl⟩
theorem cal73 : Callee Tryd.prog 73 := ⟨_, Tryd.func73, by kernel_rfl, rfl⟩
theorem cal74 : Callee Tryd.prog 74 := ⟨_, Tryd.func74, by kernel_rfl, rfl⟩
theorem cal75 : Callee Tryd.prog 75 := ⟨_, Tryd.func75, by kernel_rfl, rfl⟩
theorem cal76 : Callee Tryd.prog 76 := ⟨_, Tryd.func76, by kernel_rfl, rfl⟩
theorem cal78 : Callee Tryd.prog 78 := ⟨_, Tryd.func78, by kernel_rfl, rfl⟩
theorem cal79 : Callee Tryd.prog 79 := ⟨_, Tryd.func79, by kernel_rfl, rfl⟩
theorem cal80 : Callee Tryd.prog 80 := ⟨_, Tryd.func80, by kernel_rfl, rfl⟩
theorem cal81 : Callee Tryd.prog 81 := ⟨_, Tryd.func81, by kernel_rfl, rfl⟩
theorem cal82 : Callee Tryd.prog 82 := ⟨_, Tryd.func82, by kernel_rfl, rfl⟩
theorem cal83 : Callee Tryd.prog 83 := ⟨_, Tryd.func83, by kernel_rfl, rfl⟩
theorem cal84 : Callee Tryd.prog 84 := ⟨_, Tryd.func84, by kernel_rfl, rfl⟩
theorem cal85 : Callee Tryd.prog 85 := ⟨_, Tryd.func85, by kernel_rfl, rfl⟩
theorem cal86 : Callee Tryd.prog 86 := ⟨_, Tryd.func86, by kernel_rfl, rfl⟩
theorem cal87 : Callee Tryd.prog 87 := ⟨_, Tryd.func87, by kernel_rfl, rfl⟩
theorem cal88 : Callee Tryd.prog 88 := ⟨_, Tryd.func88, by kernel_rfl, rfl⟩
theorem cal89 : Callee Tryd.prog 89 := ⟨_, Tryd.func89, by kernel_rfl, rfl⟩
theorem cal90 : Callee Tryd.prog 90 := ⟨_, Tryd.func90, by kernel_rfl, rfl⟩
theorem cal91 : Callee Tryd.prog 91 := ⟨_, Tryd.func91, by kernel_rfl, rfl⟩
theorem cal92 : Callee Tryd.prog 92 := ⟨_, Tryd.func92, by kernel_rfl, rfl⟩
theorem cal93 : Callee Tryd.prog 93 := ⟨_, Tryd.func93, by kernel_rfl, rfl⟩
theorem cal94 : Callee Tryd.prog 94 := ⟨_, Tryd.func94, by kernel_rfl, rfl⟩
theorem cal95 : Callee Tryd.prog 95 := ⟨_, Tryd.func95, by kernel_rfl, rfl⟩
theorem cal96 : Callee Tryd.prog 96 := ⟨_, Tryd.func96, by kernel_rfl, rfl⟩
theorem cal97 : Callee Tryd.prog 97 := ⟨_, Tryd.func97, by kernel_rfl, rfl⟩
theorem cal98 : Callee Tryd.prog 98 := ⟨_, Tryd.func98, by kernel_rfl, rfl⟩
theorem cal99 : Callee Tryd.prog 99 := ⟨_, Tryd.func99, by kernel_rfl, rfl⟩
theorem cal100 : Callee Tryd.prog 100 := ⟨_, Tryd.func100, by kernel_rfl, rfl⟩
theorem cal101 : Callee Tryd.prog 101 := ⟨_, Tryd.func101, by kernel_rfl, rfl⟩
theorem cal102 : Callee Tryd.prog 102 := ⟨_, Tryd.func102, by kernel_rfl, rfl⟩
theorem cal103 : Callee Tryd.prog 103 := ⟨_, Tryd.func103, by kernel_rfl, rfl⟩
theorem cal104 : Callee Tryd.prog 104 := ⟨_, Tryd.func104, by kernel_rfl, rfl⟩
theorem cal105 : Callee Tryd.prog 105 := ⟨_, Tryd.func105, by kernel_rfl, rfl⟩
theorem cal106 : Callee Tryd.prog 106 := ⟨_, Tryd.func106, by kernel_rfl, rfl⟩
theorem cal107 : Callee Tryd.prog 107 := ⟨_, Tryd.func107, by kernel_rfl, rfl⟩
theorem cal108 : Callee Tryd.prog 108 := ⟨_, Tryd.func108, by kernel_rfl, rfl⟩
theorem cal109 : Callee Tryd.prog 109 := ⟨_, Tryd.func109, by kernel_rfl, rfl⟩
theorem cal110 : Callee Tryd.prog 110 := ⟨_, Tryd.func110, by kernel_rfl, rfl⟩
theorem cal112 : Callee Tryd.prog 112 := ⟨_, Tryd.func112, by kernel_rfl, rfl⟩
theorem cal113 : Callee Tryd.prog 113 := ⟨_, Tryd.func113, by kernel_rfl, rfl⟩
theorem cal115 : Callee Tryd.prog 115 := ⟨_, Tryd.func115, by kernel_rfl, rfl⟩
theorem cal116 : Callee Tryd.prog 116 := ⟨_, Tryd.func116, by kernel_rfl, rfl⟩
theorem cal117 : Callee Tryd.prog 117 := ⟨_, Tryd.func117, by kernel_rfl, rfl⟩
theorem cal118 : Callee Tryd.prog 118 := ⟨_, Tryd.func118, by kernel_rfl, rfl⟩
theorem cal119 : Callee Tryd.prog 119 := ⟨_, Tryd.func119, by kernel_rfl, rfl⟩
theorem cal120 : Callee Tryd.prog 120 := ⟨_, Tryd.func120, by kernel_rfl, rfl⟩
theorem cal121 : Callee Tryd.prog 121 := ⟨_, Tryd.func121, by kernel_rfl, rfl⟩
theorem cal122 : Callee Tryd.prog 122 := ⟨_, Tryd.func122, by kernel_rfl, rfl⟩
theorem cal123 : Callee Tryd.prog 123 := ⟨_, Tryd.func123, by kernel_rfl, rfl⟩
theorem cal124 : Callee Tryd.prog 124 := ⟨_, Tryd.func124, by kernel_rfl, rfl⟩
theorem cal125 : Callee Tryd.prog 125 := ⟨_, Tryd.func125, by kernel_rfl, rfl⟩
theorem cal126 : Callee Tryd.prog 126 := ⟨_, Tryd.func126, by kernel_rfl, rfl⟩
theorem cal127 : Callee Tryd.prog 127 := ⟨_, Tryd.func127, by kernel_rfl, rfl⟩
theorem cal128 : Callee Tryd.prog 128 := ⟨_, Tryd.func128, by kernel_rfl, rfl⟩
theorem cal129 : Callee Tryd.prog 129 := ⟨_, Tryd.func129, by kernel_rfl, rfl⟩
theorem cal130 : Callee Tryd.prog 130 := ⟨_, Tryd.func130, by kernel_rfl, rfl⟩
theorem cal131 : Callee Tryd.prog 131 := ⟨_, Tryd.func131, by kernel_rfl, rfl⟩
theorem cal158 : Callee Tryd.prog 158 := ⟨_, Tryd.func158, by kernel_rfl, rfl⟩
end Go.Proofs.Sep.F
