/-
  Facts on the program's types and functions, one instance each. Printed by program (types.py).
-/
import Derived.Test.YtoggdigclbcndaaDoorBuild
import Derived.Test.YtoggdigclbcndaaDoorStr
import Derived.Test.YtoggdigclbcndaaDoorProg
namespace Go.Proofs.YtoggdigclbcndaaDoor.E
open Go Go.Proofs
set_option maxRecDepth 100000
instance : InfoT Tryd.prog 1 1 8 := ⟨by kernel_rfl⟩
instance : FlatT Tryd.prog 1 := ⟨fun w => by rw [isAgg_run, Tryd.underlying1]⟩
instance : ZeroT Tryd.prog 1 (.nilFunc) := ⟨by kernel_rfl⟩
instance : IntT Tryd.prog 2 .i64 := ⟨Tryd.underlying2⟩
instance : InfoT Tryd.prog 2 1 8 := ⟨by kernel_rfl⟩
instance : FlatT Tryd.prog 2 := ⟨fun w => by rw [isAgg_run, Tryd.underlying2]⟩
instance : ZeroT Tryd.prog 2 (.int .i64 0) := ⟨by kernel_rfl⟩
instance : IntT Tryd.prog 3 .i64 := ⟨Tryd.underlying3⟩
instance : InfoT Tryd.prog 3 1 8 := ⟨by kernel_rfl⟩
instance : FlatT Tryd.prog 3 := ⟨fun w => by rw [isAgg_run, Tryd.underlying3]⟩
instance : ZeroT Tryd.prog 3 (.int .i64 0) := ⟨by kernel_rfl⟩
instance : BoolT Tryd.prog 4 := ⟨Tryd.underlying4⟩
instance : InfoT Tryd.prog 4 1 1 := ⟨by kernel_rfl⟩
instance : FlatT Tryd.prog 4 := ⟨fun w => by rw [isAgg_run, Tryd.underlying4]⟩
instance : ZeroT Tryd.prog 4 (.bool false) := ⟨by kernel_rfl⟩
instance : IntT Tryd.prog 5 .u8 := ⟨Tryd.underlying5⟩
instance : InfoT Tryd.prog 5 1 1 := ⟨by kernel_rfl⟩
instance : FlatT Tryd.prog 5 := ⟨fun w => by rw [isAgg_run, Tryd.underlying5]⟩
instance : ZeroT Tryd.prog 5 (.int .u8 0) := ⟨by kernel_rfl⟩
instance : IntT Tryd.prog 6 .u8 := ⟨Tryd.underlying6⟩
instance : InfoT Tryd.prog 6 1 1 := ⟨by kernel_rfl⟩
instance : FlatT Tryd.prog 6 := ⟨fun w => by rw [isAgg_run, Tryd.underlying6]⟩
instance : ZeroT Tryd.prog 6 (.int .u8 0) := ⟨by kernel_rfl⟩
instance : StructT Tryd.prog 7 [(0, 1), (1, 1), (2, 1), (3, 1)] := ⟨_, Tryd.underlying7, by kernel_rfl⟩
instance : InfoT Tryd.prog 7 4 24 := ⟨by kernel_rfl⟩
instance : AggT Tryd.prog 7 := ⟨fun w => by rw [isAgg_run, Tryd.underlying7]⟩
instance : ZeroT Tryd.prog 7 (.agg (([.int .i64 0, .int .i64 0] : List Value) ++ ([.bool false] : List Value) ++ ([.int .u8 0] : List Value)).toArray) := ⟨by kernel_rfl⟩
instance : StructT Tryd.prog 8 [(0, 1), (1, 1), (2, 1), (3, 1)] := ⟨_, Tryd.underlying8, by kernel_rfl⟩
instance : InfoT Tryd.prog 8 4 24 := ⟨by kernel_rfl⟩
instance : AggT Tryd.prog 8 := ⟨fun w => by rw [isAgg_run, Tryd.underlying8]⟩
instance : ZeroT Tryd.prog 8 (.agg (([.int .i64 0, .int .i64 0] : List Value) ++ ([.bool false] : List Value) ++ ([.int .u8 0] : List Value)).toArray) := ⟨by kernel_rfl⟩
instance : StrT Tryd.prog 9 := ⟨Tryd.underlying9⟩
instance : InfoT Tryd.prog 9 1 16 := ⟨by kernel_rfl⟩
instance : FlatT Tryd.prog 9 := ⟨fun w => by rw [isAgg_run, Tryd.underlying9]⟩
instance : ZeroT Tryd.prog 9 (.string ByteArray.empty) := ⟨by kernel_rfl⟩
instance : StrT Tryd.prog 10 := ⟨Tryd.underlying10⟩
instance : InfoT Tryd.prog 10 1 16 := ⟨by kernel_rfl⟩
instance : FlatT Tryd.prog 10 := ⟨fun w => by rw [isAgg_run, Tryd.underlying10]⟩
instance : ZeroT Tryd.prog 10 (.string ByteArray.empty) := ⟨by kernel_rfl⟩
instance : StrT Tryd.prog 11 := ⟨Tryd.underlying11⟩
instance : InfoT Tryd.prog 11 1 16 := ⟨by kernel_rfl⟩
instance : FlatT Tryd.prog 11 := ⟨fun w => by rw [isAgg_run, Tryd.underlying11]⟩
instance : ZeroT Tryd.prog 11 (.string ByteArray.empty) := ⟨by kernel_rfl⟩
instance : IntT Tryd.prog 12 .u64 := ⟨Tryd.underlying12⟩
instance : InfoT Tryd.prog 12 1 8 := ⟨by kernel_rfl⟩
instance : FlatT Tryd.prog 12 := ⟨fun w => by rw [isAgg_run, Tryd.underlying12]⟩
instance : ZeroT Tryd.prog 12 (.int .u64 0) := ⟨by kernel_rfl⟩
instance : StructT Tryd.prog 13 [(0, 1), (1, 1)] := ⟨_, Tryd.underlying13, by kernel_rfl⟩
instance : InfoT Tryd.prog 13 2 24 := ⟨by kernel_rfl⟩
instance : AggT Tryd.prog 13 := ⟨fun w => by rw [isAgg_run, Tryd.underlying13]⟩
instance : ZeroT Tryd.prog 13 (.agg (([.string ByteArray.empty] : List Value) ++ ([.int .u64 0] : List Value)).toArray) := ⟨by kernel_rfl⟩
instance : StructT Tryd.prog 14 [(0, 1), (1, 1)] := ⟨_, Tryd.underlying14, by kernel_rfl⟩
instance : InfoT Tryd.prog 14 2 24 := ⟨by kernel_rfl⟩
instance : AggT Tryd.prog 14 := ⟨fun w => by rw [isAgg_run, Tryd.underlying14]⟩
instance : ZeroT Tryd.prog 14 (.agg (([.string ByteArray.empty] : List Value) ++ ([.int .u64 0] : List Value)).toArray) := ⟨by kernel_rfl⟩
instance : PtrT Tryd.prog 15 114 := ⟨Tryd.underlying15⟩
instance : InfoT Tryd.prog 15 1 8 := ⟨by kernel_rfl⟩
instance : FlatT Tryd.prog 15 := ⟨fun w => by rw [isAgg_run, Tryd.underlying15]⟩
instance : ZeroT Tryd.prog 15 (.pointer none) := ⟨by kernel_rfl⟩
instance : PtrT Tryd.prog 16 117 := ⟨Tryd.underlying16⟩
instance : InfoT Tryd.prog 16 1 8 := ⟨by kernel_rfl⟩
instance : FlatT Tryd.prog 16 := ⟨fun w => by rw [isAgg_run, Tryd.underlying16]⟩
instance : ZeroT Tryd.prog 16 (.pointer none) := ⟨by kernel_rfl⟩
instance : PtrT Tryd.prog 17 125 := ⟨Tryd.underlying17⟩
instance : InfoT Tryd.prog 17 1 8 := ⟨by kernel_rfl⟩
instance : FlatT Tryd.prog 17 := ⟨fun w => by rw [isAgg_run, Tryd.underlying17]⟩
instance : ZeroT Tryd.prog 17 (.pointer none) := ⟨by kernel_rfl⟩
instance : StructT Tryd.prog 18 [(0, 1)] := ⟨_, Tryd.underlying18, by kernel_rfl⟩
instance : InfoT Tryd.prog 18 1 8 := ⟨by kernel_rfl⟩
instance : AggT Tryd.prog 18 := ⟨fun w => by rw [isAgg_run, Tryd.underlying18]⟩
instance : ZeroT Tryd.prog 18 (.agg (([.pointer none] : List Value)).toArray) := ⟨by kernel_rfl⟩
instance : StructT Tryd.prog 19 [(0, 1)] := ⟨_, Tryd.underlying19, by kernel_rfl⟩
instance : InfoT Tryd.prog 19 1 8 := ⟨by kernel_rfl⟩
instance : AggT Tryd.prog 19 := ⟨fun w => by rw [isAgg_run, Tryd.underlying19]⟩
instance : ZeroT Tryd.prog 19 (.agg (([.pointer none] : List Value)).toArray) := ⟨by kernel_rfl⟩
instance : IfaceT Tryd.prog 20 := ⟨⟨_, Tryd.underlying20⟩⟩
instance : InfoT Tryd.prog 20 1 16 := ⟨by kernel_rfl⟩
instance : FlatT Tryd.prog 20 := ⟨fun w => by rw [isAgg_run, Tryd.underlying20]⟩
instance : ZeroT Tryd.prog 20 (.nilIface) := ⟨by kernel_rfl⟩
instance : IntT Tryd.prog 21 .i32 := ⟨Tryd.underlying21⟩
instance : InfoT Tryd.prog 21 1 4 := ⟨by kernel_rfl⟩
instance : FlatT Tryd.prog 21 := ⟨fun w => by rw [isAgg_run, Tryd.underlying21]⟩
instance : ZeroT Tryd.prog 21 (.int .i32 0) := ⟨by kernel_rfl⟩
instance : InfoT Tryd.prog 22 1 8 := ⟨by kernel_rfl⟩
instance : FlatT Tryd.prog 22 := ⟨fun w => by rw [isAgg_run, Tryd.underlying22]⟩
instance : ZeroT Tryd.prog 22 (.nilFunc) := ⟨by kernel_rfl⟩
instance : InfoT Tryd.prog 23 1 8 := ⟨by kernel_rfl⟩
instance : FlatT Tryd.prog 23 := ⟨fun w => by rw [isAgg_run, Tryd.underlying23]⟩
instance : ZeroT Tryd.prog 23 (.nilFunc) := ⟨by kernel_rfl⟩
instance : InfoT Tryd.prog 24 1 8 := ⟨by kernel_rfl⟩
instance : FlatT Tryd.prog 24 := ⟨fun w => by rw [isAgg_run, Tryd.underlying24]⟩
instance : ZeroT Tryd.prog 24 (.nilFunc) := ⟨by kernel_rfl⟩
instance : InfoT Tryd.prog 25 1 8 := ⟨by kernel_rfl⟩
instance : FlatT Tryd.prog 25 := ⟨fun w => by rw [isAgg_run, Tryd.underlying25]⟩
instance : ZeroT Tryd.prog 25 (.nilFunc) := ⟨by kernel_rfl⟩
instance : InfoT Tryd.prog 26 1 8 := ⟨by kernel_rfl⟩
instance : FlatT Tryd.prog 26 := ⟨fun w => by rw [isAgg_run, Tryd.underlying26]⟩
instance : ZeroT Tryd.prog 26 (.nilFunc) := ⟨by kernel_rfl⟩
instance : SliceT Tryd.prog 27 5 := ⟨Tryd.underlying27⟩
instance : InfoT Tryd.prog 27 1 24 := ⟨by kernel_rfl⟩
instance : FlatT Tryd.prog 27 := ⟨fun w => by rw [isAgg_run, Tryd.underlying27]⟩
instance : ZeroT Tryd.prog 27 (.slice none 0 0) := ⟨by kernel_rfl⟩
instance : InfoT Tryd.prog 28 1 8 := ⟨by kernel_rfl⟩
instance : FlatT Tryd.prog 28 := ⟨fun w => by rw [isAgg_run, Tryd.underlying28]⟩
instance : ZeroT Tryd.prog 28 (.nilFunc) := ⟨by kernel_rfl⟩
instance : IntT Tryd.prog 29 .u32 := ⟨Tryd.underlying29⟩
instance : InfoT Tryd.prog 29 1 4 := ⟨by kernel_rfl⟩
instance : FlatT Tryd.prog 29 := ⟨fun w => by rw [isAgg_run, Tryd.underlying29]⟩
instance : ZeroT Tryd.prog 29 (.int .u32 0) := ⟨by kernel_rfl⟩
instance : SliceT Tryd.prog 30 9 := ⟨Tryd.underlying30⟩
instance : InfoT Tryd.prog 30 1 24 := ⟨by kernel_rfl⟩
instance : FlatT Tryd.prog 30 := ⟨fun w => by rw [isAgg_run, Tryd.underlying30]⟩
instance : ZeroT Tryd.prog 30 (.slice none 0 0) := ⟨by kernel_rfl⟩
instance : StructT Tryd.prog 31 [(0, 1), (1, 1), (2, 1), (3, 1), (4, 1)] := ⟨_, Tryd.underlying31, by kernel_rfl⟩
instance : InfoT Tryd.prog 31 5 64 := ⟨by kernel_rfl⟩
instance : AggT Tryd.prog 31 := ⟨fun w => by rw [isAgg_run, Tryd.underlying31]⟩
instance : ZeroT Tryd.prog 31 (.agg (([.string ByteArray.empty] : List Value) ++ ([.int .i64 0, .int .i64 0] : List Value) ++ ([.int .u32 0] : List Value) ++ ([.slice none 0 0] : List Value)).toArray) := ⟨by kernel_rfl⟩
instance : StructT Tryd.prog 32 [(0, 1), (1, 1), (2, 1), (3, 1), (4, 1)] := ⟨_, Tryd.underlying32, by kernel_rfl⟩
instance : InfoT Tryd.prog 32 5 64 := ⟨by kernel_rfl⟩
instance : AggT Tryd.prog 32 := ⟨fun w => by rw [isAgg_run, Tryd.underlying32]⟩
instance : ZeroT Tryd.prog 32 (.agg (([.string ByteArray.empty] : List Value) ++ ([.int .i64 0, .int .i64 0] : List Value) ++ ([.int .u32 0] : List Value) ++ ([.slice none 0 0] : List Value)).toArray) := ⟨by kernel_rfl⟩
instance : InfoT Tryd.prog 33 1 8 := ⟨by kernel_rfl⟩
instance : FlatT Tryd.prog 33 := ⟨fun w => by rw [isAgg_run, Tryd.underlying33]⟩
instance : ZeroT Tryd.prog 33 (.nilFunc) := ⟨by kernel_rfl⟩
instance : IntT Tryd.prog 34 .u64 := ⟨Tryd.underlying34⟩
instance : InfoT Tryd.prog 34 1 8 := ⟨by kernel_rfl⟩
instance : FlatT Tryd.prog 34 := ⟨fun w => by rw [isAgg_run, Tryd.underlying34]⟩
instance : ZeroT Tryd.prog 34 (.int .u64 0) := ⟨by kernel_rfl⟩
instance : IntT Tryd.prog 35 .i64 := ⟨Tryd.underlying35⟩
instance : InfoT Tryd.prog 35 1 8 := ⟨by kernel_rfl⟩
instance : FlatT Tryd.prog 35 := ⟨fun w => by rw [isAgg_run, Tryd.underlying35]⟩
instance : ZeroT Tryd.prog 35 (.int .i64 0) := ⟨by kernel_rfl⟩
instance : InfoT Tryd.prog 37 1 8 := ⟨by kernel_rfl⟩
instance : FlatT Tryd.prog 37 := ⟨fun w => by rw [isAgg_run, Tryd.underlying37]⟩
instance : ZeroT Tryd.prog 37 (.nilFunc) := ⟨by kernel_rfl⟩
instance : InfoT Tryd.prog 39 1 8 := ⟨by kernel_rfl⟩
instance : FlatT Tryd.prog 39 := ⟨fun w => by rw [isAgg_run, Tryd.underlying39]⟩
instance : ZeroT Tryd.prog 39 (.nilFunc) := ⟨by kernel_rfl⟩
instance : InfoT Tryd.prog 40 1 8 := ⟨by kernel_rfl⟩
instance : FlatT Tryd.prog 40 := ⟨fun w => by rw [isAgg_run, Tryd.underlying40]⟩
instance : ZeroT Tryd.prog 40 (.nilFunc) := ⟨by kernel_rfl⟩
instance : InfoT Tryd.prog 41 1 8 := ⟨by kernel_rfl⟩
instance : FlatT Tryd.prog 41 := ⟨fun w => by rw [isAgg_run, Tryd.underlying41]⟩
instance : ZeroT Tryd.prog 41 (.nilFunc) := ⟨by kernel_rfl⟩
instance : InfoT Tryd.prog 42 1 8 := ⟨by kernel_rfl⟩
instance : FlatT Tryd.prog 42 := ⟨fun w => by rw [isAgg_run, Tryd.underlying42]⟩
instance : ZeroT Tryd.prog 42 (.nilFunc) := ⟨by kernel_rfl⟩
instance : InfoT Tryd.prog 43 1 8 := ⟨by kernel_rfl⟩
instance : FlatT Tryd.prog 43 := ⟨fun w => by rw [isAgg_run, Tryd.underlying43]⟩
instance : ZeroT Tryd.prog 43 (.nilFunc) := ⟨by kernel_rfl⟩
instance : InfoT Tryd.prog 45 1 8 := ⟨by kernel_rfl⟩
instance : FlatT Tryd.prog 45 := ⟨fun w => by rw [isAgg_run, Tryd.underlying45]⟩
instance : ZeroT Tryd.prog 45 (.nilFunc) := ⟨by kernel_rfl⟩
instance : IfaceT Tryd.prog 46 := ⟨⟨_, Tryd.underlying46⟩⟩
instance : InfoT Tryd.prog 46 1 16 := ⟨by kernel_rfl⟩
instance : FlatT Tryd.prog 46 := ⟨fun w => by rw [isAgg_run, Tryd.underlying46]⟩
instance : ZeroT Tryd.prog 46 (.nilIface) := ⟨by kernel_rfl⟩
instance : IfaceT Tryd.prog 47 := ⟨⟨_, Tryd.underlying47⟩⟩
instance : InfoT Tryd.prog 47 1 16 := ⟨by kernel_rfl⟩
instance : FlatT Tryd.prog 47 := ⟨fun w => by rw [isAgg_run, Tryd.underlying47]⟩
instance : ZeroT Tryd.prog 47 (.nilIface) := ⟨by kernel_rfl⟩
instance : InfoT Tryd.prog 49 1 8 := ⟨by kernel_rfl⟩
instance : FlatT Tryd.prog 49 := ⟨fun w => by rw [isAgg_run, Tryd.underlying49]⟩
instance : ZeroT Tryd.prog 49 (.nilFunc) := ⟨by kernel_rfl⟩
instance : InfoT Tryd.prog 50 1 8 := ⟨by kernel_rfl⟩
instance : FlatT Tryd.prog 50 := ⟨fun w => by rw [isAgg_run, Tryd.underlying50]⟩
instance : ZeroT Tryd.prog 50 (.nilFunc) := ⟨by kernel_rfl⟩
instance : InfoT Tryd.prog 51 1 8 := ⟨by kernel_rfl⟩
instance : FlatT Tryd.prog 51 := ⟨fun w => by rw [isAgg_run, Tryd.underlying51]⟩
instance : ZeroT Tryd.prog 51 (.nilFunc) := ⟨by kernel_rfl⟩
instance : InfoT Tryd.prog 52 1 8 := ⟨by kernel_rfl⟩
instance : FlatT Tryd.prog 52 := ⟨fun w => by rw [isAgg_run, Tryd.underlying52]⟩
instance : ZeroT Tryd.prog 52 (.nilFunc) := ⟨by kernel_rfl⟩
instance : InfoT Tryd.prog 53 1 8 := ⟨by kernel_rfl⟩
instance : FlatT Tryd.prog 53 := ⟨fun w => by rw [isAgg_run, Tryd.underlying53]⟩
instance : ZeroT Tryd.prog 53 (.nilFunc) := ⟨by kernel_rfl⟩
instance : InfoT Tryd.prog 54 1 8 := ⟨by kernel_rfl⟩
instance : FlatT Tryd.prog 54 := ⟨fun w => by rw [isAgg_run, Tryd.underlying54]⟩
instance : ZeroT Tryd.prog 54 (.nilFunc) := ⟨by kernel_rfl⟩
instance : InfoT Tryd.prog 55 1 8 := ⟨by kernel_rfl⟩
instance : FlatT Tryd.prog 55 := ⟨fun w => by rw [isAgg_run, Tryd.underlying55]⟩
instance : ZeroT Tryd.prog 55 (.nilFunc) := ⟨by kernel_rfl⟩
instance : InfoT Tryd.prog 56 1 8 := ⟨by kernel_rfl⟩
instance : FlatT Tryd.prog 56 := ⟨fun w => by rw [isAgg_run, Tryd.underlying56]⟩
instance : ZeroT Tryd.prog 56 (.nilFunc) := ⟨by kernel_rfl⟩
instance : InfoT Tryd.prog 57 1 8 := ⟨by kernel_rfl⟩
instance : FlatT Tryd.prog 57 := ⟨fun w => by rw [isAgg_run, Tryd.underlying57]⟩
instance : ZeroT Tryd.prog 57 (.nilFunc) := ⟨by kernel_rfl⟩
instance : InfoT Tryd.prog 58 1 8 := ⟨by kernel_rfl⟩
instance : FlatT Tryd.prog 58 := ⟨fun w => by rw [isAgg_run, Tryd.underlying58]⟩
instance : ZeroT Tryd.prog 58 (.nilFunc) := ⟨by kernel_rfl⟩
instance : InfoT Tryd.prog 59 1 8 := ⟨by kernel_rfl⟩
instance : FlatT Tryd.prog 59 := ⟨fun w => by rw [isAgg_run, Tryd.underlying59]⟩
instance : ZeroT Tryd.prog 59 (.nilFunc) := ⟨by kernel_rfl⟩
instance : InfoT Tryd.prog 60 1 8 := ⟨by kernel_rfl⟩
instance : FlatT Tryd.prog 60 := ⟨fun w => by rw [isAgg_run, Tryd.underlying60]⟩
instance : ZeroT Tryd.prog 60 (.nilFunc) := ⟨by kernel_rfl⟩
instance : InfoT Tryd.prog 61 1 8 := ⟨by kernel_rfl⟩
instance : FlatT Tryd.prog 61 := ⟨fun w => by rw [isAgg_run, Tryd.underlying61]⟩
instance : ZeroT Tryd.prog 61 (.nilFunc) := ⟨by kernel_rfl⟩
instance : InfoT Tryd.prog 62 1 8 := ⟨by kernel_rfl⟩
instance : FlatT Tryd.prog 62 := ⟨fun w => by rw [isAgg_run, Tryd.underlying62]⟩
instance : ZeroT Tryd.prog 62 (.nilFunc) := ⟨by kernel_rfl⟩
instance : InfoT Tryd.prog 63 1 8 := ⟨by kernel_rfl⟩
instance : FlatT Tryd.prog 63 := ⟨fun w => by rw [isAgg_run, Tryd.underlying63]⟩
instance : ZeroT Tryd.prog 63 (.nilFunc) := ⟨by kernel_rfl⟩
instance : IntT Tryd.prog 64 .i64 := ⟨Tryd.underlying64⟩
instance : InfoT Tryd.prog 64 1 8 := ⟨by kernel_rfl⟩
instance : FlatT Tryd.prog 64 := ⟨fun w => by rw [isAgg_run, Tryd.underlying64]⟩
instance : ZeroT Tryd.prog 64 (.int .i64 0) := ⟨by kernel_rfl⟩
instance : InfoT Tryd.prog 66 1 8 := ⟨by kernel_rfl⟩
instance : FlatT Tryd.prog 66 := ⟨fun w => by rw [isAgg_run, Tryd.underlying66]⟩
instance : ZeroT Tryd.prog 66 (.nilFunc) := ⟨by kernel_rfl⟩
instance : PtrT Tryd.prog 67 82 := ⟨Tryd.underlying67⟩
instance : InfoT Tryd.prog 67 1 8 := ⟨by kernel_rfl⟩
instance : FlatT Tryd.prog 67 := ⟨fun w => by rw [isAgg_run, Tryd.underlying67]⟩
instance : ZeroT Tryd.prog 67 (.pointer none) := ⟨by kernel_rfl⟩
instance : InfoT Tryd.prog 68 1 8 := ⟨by kernel_rfl⟩
instance : FlatT Tryd.prog 68 := ⟨fun w => by rw [isAgg_run, Tryd.underlying68]⟩
instance : ZeroT Tryd.prog 68 (.nilFunc) := ⟨by kernel_rfl⟩
instance : InfoT Tryd.prog 69 1 8 := ⟨by kernel_rfl⟩
instance : FlatT Tryd.prog 69 := ⟨fun w => by rw [isAgg_run, Tryd.underlying69]⟩
instance : ZeroT Tryd.prog 69 (.nilFunc) := ⟨by kernel_rfl⟩
instance : PtrT Tryd.prog 70 72 := ⟨Tryd.underlying70⟩
instance : InfoT Tryd.prog 70 1 8 := ⟨by kernel_rfl⟩
instance : FlatT Tryd.prog 70 := ⟨fun w => by rw [isAgg_run, Tryd.underlying70]⟩
instance : ZeroT Tryd.prog 70 (.pointer none) := ⟨by kernel_rfl⟩
instance : StructT Tryd.prog 71 [(0, 1), (1, 1)] := ⟨_, Tryd.underlying71, by kernel_rfl⟩
instance : InfoT Tryd.prog 71 2 32 := ⟨by kernel_rfl⟩
instance : AggT Tryd.prog 71 := ⟨fun w => by rw [isAgg_run, Tryd.underlying71]⟩
instance : ZeroT Tryd.prog 71 (.agg (([.pointer none] : List Value) ++ ([.slice none 0 0] : List Value)).toArray) := ⟨by kernel_rfl⟩
instance : StructT Tryd.prog 72 [(0, 1), (1, 1)] := ⟨_, Tryd.underlying72, by kernel_rfl⟩
instance : InfoT Tryd.prog 72 2 32 := ⟨by kernel_rfl⟩
instance : AggT Tryd.prog 72 := ⟨fun w => by rw [isAgg_run, Tryd.underlying72]⟩
instance : ZeroT Tryd.prog 72 (.agg (([.pointer none] : List Value) ++ ([.slice none 0 0] : List Value)).toArray) := ⟨by kernel_rfl⟩
instance : InfoT Tryd.prog 73 1 8 := ⟨by kernel_rfl⟩
instance : FlatT Tryd.prog 73 := ⟨fun w => by rw [isAgg_run, Tryd.underlying73]⟩
instance : ZeroT Tryd.prog 73 (.nilFunc) := ⟨by kernel_rfl⟩
instance : InfoT Tryd.prog 75 1 8 := ⟨by kernel_rfl⟩
instance : FlatT Tryd.prog 75 := ⟨fun w => by rw [isAgg_run, Tryd.underlying75]⟩
instance : ZeroT Tryd.prog 75 (.nilFunc) := ⟨by kernel_rfl⟩
instance : InfoT Tryd.prog 77 1 8 := ⟨by kernel_rfl⟩
instance : FlatT Tryd.prog 77 := ⟨fun w => by rw [isAgg_run, Tryd.underlying77]⟩
instance : ZeroT Tryd.prog 77 (.nilFunc) := ⟨by kernel_rfl⟩
instance : InfoT Tryd.prog 78 1 8 := ⟨by kernel_rfl⟩
instance : FlatT Tryd.prog 78 := ⟨fun w => by rw [isAgg_run, Tryd.underlying78]⟩
instance : ZeroT Tryd.prog 78 (.nilFunc) := ⟨by kernel_rfl⟩
instance : IntT Tryd.prog 79 .u64 := ⟨Tryd.underlying79⟩
instance : InfoT Tryd.prog 79 1 8 := ⟨by kernel_rfl⟩
instance : FlatT Tryd.prog 79 := ⟨fun w => by rw [isAgg_run, Tryd.underlying79]⟩
instance : ZeroT Tryd.prog 79 (.int .u64 0) := ⟨by kernel_rfl⟩
instance : InfoT Tryd.prog 80 1 8 := ⟨by kernel_rfl⟩
instance : FlatT Tryd.prog 80 := ⟨fun w => by rw [isAgg_run, Tryd.underlying80]⟩
instance : ZeroT Tryd.prog 80 (.nilFunc) := ⟨by kernel_rfl⟩
instance : StructT Tryd.prog 81 [(0, 1), (1, 1), (2, 1)] := ⟨_, Tryd.underlying81, by kernel_rfl⟩
instance : InfoT Tryd.prog 81 3 48 := ⟨by kernel_rfl⟩
instance : AggT Tryd.prog 81 := ⟨fun w => by rw [isAgg_run, Tryd.underlying81]⟩
instance : ZeroT Tryd.prog 81 (.agg (([.string ByteArray.empty, .string ByteArray.empty] : List Value) ++ ([.nilIface] : List Value)).toArray) := ⟨by kernel_rfl⟩
instance : StructT Tryd.prog 82 [(0, 1), (1, 1), (2, 1)] := ⟨_, Tryd.underlying82, by kernel_rfl⟩
instance : InfoT Tryd.prog 82 3 48 := ⟨by kernel_rfl⟩
instance : AggT Tryd.prog 82 := ⟨fun w => by rw [isAgg_run, Tryd.underlying82]⟩
instance : ZeroT Tryd.prog 82 (.agg (([.string ByteArray.empty, .string ByteArray.empty] : List Value) ++ ([.nilIface] : List Value)).toArray) := ⟨by kernel_rfl⟩
instance : InfoT Tryd.prog 83 1 8 := ⟨by kernel_rfl⟩
instance : FlatT Tryd.prog 83 := ⟨fun w => by rw [isAgg_run, Tryd.underlying83]⟩
instance : ZeroT Tryd.prog 83 (.nilFunc) := ⟨by kernel_rfl⟩
instance : InfoT Tryd.prog 84 1 8 := ⟨by kernel_rfl⟩
instance : FlatT Tryd.prog 84 := ⟨fun w => by rw [isAgg_run, Tryd.underlying84]⟩
instance : ZeroT Tryd.prog 84 (.nilFunc) := ⟨by kernel_rfl⟩
instance : ArrT Tryd.prog 85 24 5 := ⟨Tryd.underlying85⟩
instance : InfoT Tryd.prog 85 24 24 := ⟨by kernel_rfl⟩
instance : AggT Tryd.prog 85 := ⟨fun w => by rw [isAgg_run, Tryd.underlying85]⟩
instance : ZeroT Tryd.prog 85 (.agg (List.replicate 24 (.int .u8 0)).toArray) := ⟨by kernel_rfl⟩
instance : InfoT Tryd.prog 86 1 8 := ⟨by kernel_rfl⟩
instance : FlatT Tryd.prog 86 := ⟨fun w => by rw [isAgg_run, Tryd.underlying86]⟩
instance : ZeroT Tryd.prog 86 (.nilFunc) := ⟨by kernel_rfl⟩
instance : InfoT Tryd.prog 87 1 8 := ⟨by kernel_rfl⟩
instance : FlatT Tryd.prog 87 := ⟨fun w => by rw [isAgg_run, Tryd.underlying87]⟩
instance : ZeroT Tryd.prog 87 (.nilFunc) := ⟨by kernel_rfl⟩
instance : InfoT Tryd.prog 89 1 8 := ⟨by kernel_rfl⟩
instance : FlatT Tryd.prog 89 := ⟨fun w => by rw [isAgg_run, Tryd.underlying89]⟩
instance : ZeroT Tryd.prog 89 (.nilFunc) := ⟨by kernel_rfl⟩
instance : PtrT Tryd.prog 90 5 := ⟨Tryd.underlying90⟩
instance : InfoT Tryd.prog 90 1 8 := ⟨by kernel_rfl⟩
instance : FlatT Tryd.prog 90 := ⟨fun w => by rw [isAgg_run, Tryd.underlying90]⟩
instance : ZeroT Tryd.prog 90 (.pointer none) := ⟨by kernel_rfl⟩
instance : InfoT Tryd.prog 91 1 8 := ⟨by kernel_rfl⟩
instance : FlatT Tryd.prog 91 := ⟨fun w => by rw [isAgg_run, Tryd.underlying91]⟩
instance : ZeroT Tryd.prog 91 (.nilFunc) := ⟨by kernel_rfl⟩
instance : InfoT Tryd.prog 92 1 8 := ⟨by kernel_rfl⟩
instance : FlatT Tryd.prog 92 := ⟨fun w => by rw [isAgg_run, Tryd.underlying92]⟩
instance : ZeroT Tryd.prog 92 (.nilFunc) := ⟨by kernel_rfl⟩
instance : PtrT Tryd.prog 93 95 := ⟨Tryd.underlying93⟩
instance : InfoT Tryd.prog 93 1 8 := ⟨by kernel_rfl⟩
instance : FlatT Tryd.prog 93 := ⟨fun w => by rw [isAgg_run, Tryd.underlying93]⟩
instance : ZeroT Tryd.prog 93 (.pointer none) := ⟨by kernel_rfl⟩
instance : StructT Tryd.prog 94 [(0, 1)] := ⟨_, Tryd.underlying94, by kernel_rfl⟩
instance : InfoT Tryd.prog 94 1 16 := ⟨by kernel_rfl⟩
instance : AggT Tryd.prog 94 := ⟨fun w => by rw [isAgg_run, Tryd.underlying94]⟩
instance : ZeroT Tryd.prog 94 (.agg (([.string ByteArray.empty] : List Value)).toArray) := ⟨by kernel_rfl⟩
instance : StructT Tryd.prog 95 [(0, 1)] := ⟨_, Tryd.underlying95, by kernel_rfl⟩
instance : InfoT Tryd.prog 95 1 16 := ⟨by kernel_rfl⟩
instance : AggT Tryd.prog 95 := ⟨fun w => by rw [isAgg_run, Tryd.underlying95]⟩
instance : ZeroT Tryd.prog 95 (.agg (([.string ByteArray.empty] : List Value)).toArray) := ⟨by kernel_rfl⟩
instance : InfoT Tryd.prog 96 1 8 := ⟨by kernel_rfl⟩
instance : FlatT Tryd.prog 96 := ⟨fun w => by rw [isAgg_run, Tryd.underlying96]⟩
instance : ZeroT Tryd.prog 96 (.nilFunc) := ⟨by kernel_rfl⟩
instance : ArrT Tryd.prog 97 20 34 := ⟨Tryd.underlying97⟩
instance : InfoT Tryd.prog 97 20 160 := ⟨by kernel_rfl⟩
instance : AggT Tryd.prog 97 := ⟨fun w => by rw [isAgg_run, Tryd.underlying97]⟩
instance : ZeroT Tryd.prog 97 (.agg (List.replicate 20 (.int .u64 0)).toArray) := ⟨by kernel_rfl⟩
instance : ArrT Tryd.prog 98 65 5 := ⟨Tryd.underlying98⟩
instance : InfoT Tryd.prog 98 65 65 := ⟨by kernel_rfl⟩
instance : AggT Tryd.prog 98 := ⟨fun w => by rw [isAgg_run, Tryd.underlying98]⟩
instance : ZeroT Tryd.prog 98 (.agg (List.replicate 65 (.int .u8 0)).toArray) := ⟨by kernel_rfl⟩
instance : InfoT Tryd.prog 99 1 8 := ⟨by kernel_rfl⟩
instance : FlatT Tryd.prog 99 := ⟨fun w => by rw [isAgg_run, Tryd.underlying99]⟩
instance : ZeroT Tryd.prog 99 (.nilFunc) := ⟨by kernel_rfl⟩
instance : InfoT Tryd.prog 100 1 8 := ⟨by kernel_rfl⟩
instance : FlatT Tryd.prog 100 := ⟨fun w => by rw [isAgg_run, Tryd.underlying100]⟩
instance : ZeroT Tryd.prog 100 (.nilFunc) := ⟨by kernel_rfl⟩
instance : InfoT Tryd.prog 102 1 8 := ⟨by kernel_rfl⟩
instance : FlatT Tryd.prog 102 := ⟨fun w => by rw [isAgg_run, Tryd.underlying102]⟩
instance : ZeroT Tryd.prog 102 (.nilFunc) := ⟨by kernel_rfl⟩
instance : InfoT Tryd.prog 103 1 8 := ⟨by kernel_rfl⟩
instance : FlatT Tryd.prog 103 := ⟨fun w => by rw [isAgg_run, Tryd.underlying103]⟩
instance : ZeroT Tryd.prog 103 (.nilFunc) := ⟨by kernel_rfl⟩
instance : ArrT Tryd.prog 104 256 5 := ⟨Tryd.underlying104⟩
instance : InfoT Tryd.prog 104 256 256 := ⟨by kernel_rfl⟩
instance : AggT Tryd.prog 104 := ⟨fun w => by rw [isAgg_run, Tryd.underlying104]⟩
instance : ZeroT Tryd.prog 104 (.agg (List.replicate 256 (.int .u8 0)).toArray) := ⟨by kernel_rfl⟩
instance : StructT Tryd.prog 105 [(0, 1), (1, 1)] := ⟨_, Tryd.underlying105, by kernel_rfl⟩
instance : InfoT Tryd.prog 105 2 2 := ⟨by kernel_rfl⟩
instance : AggT Tryd.prog 105 := ⟨fun w => by rw [isAgg_run, Tryd.underlying105]⟩
instance : ZeroT Tryd.prog 105 (.agg (([.int .u8 0, .int .u8 0] : List Value)).toArray) := ⟨by kernel_rfl⟩
instance : StructT Tryd.prog 106 [(0, 1), (1, 1)] := ⟨_, Tryd.underlying106, by kernel_rfl⟩
instance : InfoT Tryd.prog 106 2 2 := ⟨by kernel_rfl⟩
instance : AggT Tryd.prog 106 := ⟨fun w => by rw [isAgg_run, Tryd.underlying106]⟩
instance : ZeroT Tryd.prog 106 (.agg (([.int .u8 0, .int .u8 0] : List Value)).toArray) := ⟨by kernel_rfl⟩
instance : ArrT Tryd.prog 107 16 106 := ⟨Tryd.underlying107⟩
instance : InfoT Tryd.prog 107 32 32 := ⟨by kernel_rfl⟩
instance : AggT Tryd.prog 107 := ⟨fun w => by rw [isAgg_run, Tryd.underlying107]⟩
instance : ZeroT Tryd.prog 107 (.agg (List.replicate 32 (.int .u8 0)).toArray) := ⟨by kernel_rfl⟩
instance : InfoT Tryd.prog 109 1 8 := ⟨by kernel_rfl⟩
instance : FlatT Tryd.prog 109 := ⟨fun w => by rw [isAgg_run, Tryd.underlying109]⟩
instance : ZeroT Tryd.prog 109 (.nilFunc) := ⟨by kernel_rfl⟩
instance : InfoT Tryd.prog 110 1 8 := ⟨by kernel_rfl⟩
instance : FlatT Tryd.prog 110 := ⟨fun w => by rw [isAgg_run, Tryd.underlying110]⟩
instance : ZeroT Tryd.prog 110 (.nilFunc) := ⟨by kernel_rfl⟩
instance : ArrT Tryd.prog 111 32 5 := ⟨Tryd.underlying111⟩
instance : InfoT Tryd.prog 111 32 32 := ⟨by kernel_rfl⟩
instance : AggT Tryd.prog 111 := ⟨fun w => by rw [isAgg_run, Tryd.underlying111]⟩
instance : ZeroT Tryd.prog 111 (.agg (List.replicate 32 (.int .u8 0)).toArray) := ⟨by kernel_rfl⟩
instance : ArrT Tryd.prog 112 64 5 := ⟨Tryd.underlying112⟩
instance : InfoT Tryd.prog 112 64 64 := ⟨by kernel_rfl⟩
instance : AggT Tryd.prog 112 := ⟨fun w => by rw [isAgg_run, Tryd.underlying112]⟩
instance : ZeroT Tryd.prog 112 (.agg (List.replicate 64 (.int .u8 0)).toArray) := ⟨by kernel_rfl⟩
instance : StructT Tryd.prog 113 [(0, 1), (1, 1), (2, 1), (3, 1)] := ⟨_, Tryd.underlying113, by kernel_rfl⟩
instance : InfoT Tryd.prog 113 4 40 := ⟨by kernel_rfl⟩
instance : AggT Tryd.prog 113 := ⟨fun w => by rw [isAgg_run, Tryd.underlying113]⟩
instance : ZeroT Tryd.prog 113 (.agg (([.pointer none, .pointer none, .pointer none] : List Value) ++ ([.string ByteArray.empty] : List Value)).toArray) := ⟨by kernel_rfl⟩
instance : StructT Tryd.prog 114 [(0, 1), (1, 1), (2, 1), (3, 1)] := ⟨_, Tryd.underlying114, by kernel_rfl⟩
instance : InfoT Tryd.prog 114 4 40 := ⟨by kernel_rfl⟩
instance : AggT Tryd.prog 114 := ⟨fun w => by rw [isAgg_run, Tryd.underlying114]⟩
instance : ZeroT Tryd.prog 114 (.agg (([.pointer none, .pointer none, .pointer none] : List Value) ++ ([.string ByteArray.empty] : List Value)).toArray) := ⟨by kernel_rfl⟩
instance : ArrT Tryd.prog 115 0 16 := ⟨Tryd.underlying115⟩
instance : InfoT Tryd.prog 115 0 0 := ⟨by kernel_rfl⟩
instance : AggT Tryd.prog 115 := ⟨fun w => by rw [isAgg_run, Tryd.underlying115]⟩
instance : ZeroT Tryd.prog 115 (.agg (([] : List Value)).toArray) := ⟨by kernel_rfl⟩
instance : StructT Tryd.prog 116 [(0, 0)] := ⟨_, Tryd.underlying116, by kernel_rfl⟩
instance : InfoT Tryd.prog 116 0 0 := ⟨by kernel_rfl⟩
instance : AggT Tryd.prog 116 := ⟨fun w => by rw [isAgg_run, Tryd.underlying116]⟩
instance : ZeroT Tryd.prog 116 (.agg (([] : List Value)).toArray) := ⟨by kernel_rfl⟩
instance : StructT Tryd.prog 117 [(0, 0)] := ⟨_, Tryd.underlying117, by kernel_rfl⟩
instance : InfoT Tryd.prog 117 0 0 := ⟨by kernel_rfl⟩
instance : AggT Tryd.prog 117 := ⟨fun w => by rw [isAgg_run, Tryd.underlying117]⟩
instance : ZeroT Tryd.prog 117 (.agg (([] : List Value)).toArray) := ⟨by kernel_rfl⟩
instance : InfoT Tryd.prog 118 1 8 := ⟨by kernel_rfl⟩
instance : FlatT Tryd.prog 118 := ⟨fun w => by rw [isAgg_run, Tryd.underlying118]⟩
instance : ZeroT Tryd.prog 118 (.nilFunc) := ⟨by kernel_rfl⟩
instance : IntT Tryd.prog 119 .u8 := ⟨Tryd.underlying119⟩
instance : InfoT Tryd.prog 119 1 1 := ⟨by kernel_rfl⟩
instance : FlatT Tryd.prog 119 := ⟨fun w => by rw [isAgg_run, Tryd.underlying119]⟩
instance : ZeroT Tryd.prog 119 (.int .u8 0) := ⟨by kernel_rfl⟩
instance : IntT Tryd.prog 120 .u8 := ⟨Tryd.underlying120⟩
instance : InfoT Tryd.prog 120 1 1 := ⟨by kernel_rfl⟩
instance : FlatT Tryd.prog 120 := ⟨fun w => by rw [isAgg_run, Tryd.underlying120]⟩
instance : ZeroT Tryd.prog 120 (.int .u8 0) := ⟨by kernel_rfl⟩
instance : InfoT Tryd.prog 121 1 8 := ⟨by kernel_rfl⟩
instance : FlatT Tryd.prog 121 := ⟨fun w => by rw [isAgg_run, Tryd.underlying121]⟩
instance : ZeroT Tryd.prog 121 (.nilFunc) := ⟨by kernel_rfl⟩
instance : IntT Tryd.prog 122 .i32 := ⟨Tryd.underlying122⟩
instance : InfoT Tryd.prog 122 1 4 := ⟨by kernel_rfl⟩
instance : FlatT Tryd.prog 122 := ⟨fun w => by rw [isAgg_run, Tryd.underlying122]⟩
instance : ZeroT Tryd.prog 122 (.int .i32 0) := ⟨by kernel_rfl⟩
instance : IntT Tryd.prog 123 .i32 := ⟨Tryd.underlying123⟩
instance : InfoT Tryd.prog 123 1 4 := ⟨by kernel_rfl⟩
instance : FlatT Tryd.prog 123 := ⟨fun w => by rw [isAgg_run, Tryd.underlying123]⟩
instance : ZeroT Tryd.prog 123 (.int .i32 0) := ⟨by kernel_rfl⟩
instance : StructT Tryd.prog 124 [(0, 1), (1, 1), (2, 1), (3, 1), (4, 1), (5, 1), (6, 1), (7, 1), (8, 1), (9, 1), (10, 1)] := ⟨_, Tryd.underlying124, by kernel_rfl⟩
instance : InfoT Tryd.prog 124 11 48 := ⟨by kernel_rfl⟩
instance : AggT Tryd.prog 124 := ⟨fun w => by rw [isAgg_run, Tryd.underlying124]⟩
instance : ZeroT Tryd.prog 124 (.agg (([.int .u64 0, .int .u64 0] : List Value) ++ ([.int .u32 0] : List Value) ++ ([.int .u8 0, .int .u8 0, .int .u8 0, .int .u8 0] : List Value) ++ ([.nilFunc] : List Value) ++ ([.pointer none] : List Value) ++ ([.int .i32 0, .int .i32 0] : List Value)).toArray) := ⟨by kernel_rfl⟩
instance : StructT Tryd.prog 125 [(0, 1), (1, 1), (2, 1), (3, 1), (4, 1), (5, 1), (6, 1), (7, 1), (8, 1), (9, 1), (10, 1)] := ⟨_, Tryd.underlying125, by kernel_rfl⟩
instance : InfoT Tryd.prog 125 11 48 := ⟨by kernel_rfl⟩
instance : AggT Tryd.prog 125 := ⟨fun w => by rw [isAgg_run, Tryd.underlying125]⟩
instance : ZeroT Tryd.prog 125 (.agg (([.int .u64 0, .int .u64 0] : List Value) ++ ([.int .u32 0] : List Value) ++ ([.int .u8 0, .int .u8 0, .int .u8 0, .int .u8 0] : List Value) ++ ([.nilFunc] : List Value) ++ ([.pointer none] : List Value) ++ ([.int .i32 0, .int .i32 0] : List Value)).toArray) := ⟨by kernel_rfl⟩
instance : FieldT Tryd.prog 7 0 0 := FieldT.of (sz := 1) (by_ := 8) Tryd.underlying7 rfl rfl (inferInstance : InfoT Tryd.prog 2 1 8) (by decide)
instance : FieldT Tryd.prog 7 1 1 := FieldT.of (sz := 1) (by_ := 8) Tryd.underlying7 rfl rfl (inferInstance : InfoT Tryd.prog 3 1 8) (by decide)
instance : FieldT Tryd.prog 7 2 2 := FieldT.of (sz := 1) (by_ := 1) Tryd.underlying7 rfl rfl (inferInstance : InfoT Tryd.prog 4 1 1) (by decide)
instance : FieldT Tryd.prog 7 3 3 := FieldT.of (sz := 1) (by_ := 1) Tryd.underlying7 rfl rfl (inferInstance : InfoT Tryd.prog 6 1 1) (by decide)
instance : FieldT Tryd.prog 8 0 0 := FieldT.of (sz := 1) (by_ := 8) Tryd.underlying8 rfl rfl (inferInstance : InfoT Tryd.prog 2 1 8) (by decide)
instance : FieldT Tryd.prog 8 1 1 := FieldT.of (sz := 1) (by_ := 8) Tryd.underlying8 rfl rfl (inferInstance : InfoT Tryd.prog 3 1 8) (by decide)
instance : FieldT Tryd.prog 8 2 2 := FieldT.of (sz := 1) (by_ := 1) Tryd.underlying8 rfl rfl (inferInstance : InfoT Tryd.prog 4 1 1) (by decide)
instance : FieldT Tryd.prog 8 3 3 := FieldT.of (sz := 1) (by_ := 1) Tryd.underlying8 rfl rfl (inferInstance : InfoT Tryd.prog 6 1 1) (by decide)
instance : FieldT Tryd.prog 13 0 0 := FieldT.of (sz := 1) (by_ := 16) Tryd.underlying13 rfl rfl (inferInstance : InfoT Tryd.prog 9 1 16) (by decide)
instance : FieldT Tryd.prog 13 1 1 := FieldT.of (sz := 1) (by_ := 8) Tryd.underlying13 rfl rfl (inferInstance : InfoT Tryd.prog 12 1 8) (by decide)
instance : FieldT Tryd.prog 14 0 0 := FieldT.of (sz := 1) (by_ := 16) Tryd.underlying14 rfl rfl (inferInstance : InfoT Tryd.prog 9 1 16) (by decide)
instance : FieldT Tryd.prog 14 1 1 := FieldT.of (sz := 1) (by_ := 8) Tryd.underlying14 rfl rfl (inferInstance : InfoT Tryd.prog 12 1 8) (by decide)
instance : FieldT Tryd.prog 18 0 0 := FieldT.of (sz := 1) (by_ := 8) Tryd.underlying18 rfl rfl (inferInstance : InfoT Tryd.prog 17 1 8) (by decide)
instance : FieldT Tryd.prog 19 0 0 := FieldT.of (sz := 1) (by_ := 8) Tryd.underlying19 rfl rfl (inferInstance : InfoT Tryd.prog 17 1 8) (by decide)
instance : FieldT Tryd.prog 31 0 0 := FieldT.of (sz := 1) (by_ := 16) Tryd.underlying31 rfl rfl (inferInstance : InfoT Tryd.prog 9 1 16) (by decide)
instance : FieldT Tryd.prog 31 1 1 := FieldT.of (sz := 1) (by_ := 8) Tryd.underlying31 rfl rfl (inferInstance : InfoT Tryd.prog 3 1 8) (by decide)
instance : FieldT Tryd.prog 31 2 2 := FieldT.of (sz := 1) (by_ := 8) Tryd.underlying31 rfl rfl (inferInstance : InfoT Tryd.prog 3 1 8) (by decide)
instance : FieldT Tryd.prog 31 3 3 := FieldT.of (sz := 1) (by_ := 4) Tryd.underlying31 rfl rfl (inferInstance : InfoT Tryd.prog 29 1 4) (by decide)
instance : FieldT Tryd.prog 31 4 4 := FieldT.of (sz := 1) (by_ := 24) Tryd.underlying31 rfl rfl (inferInstance : InfoT Tryd.prog 30 1 24) (by decide)
instance : FieldT Tryd.prog 32 0 0 := FieldT.of (sz := 1) (by_ := 16) Tryd.underlying32 rfl rfl (inferInstance : InfoT Tryd.prog 9 1 16) (by decide)
instance : FieldT Tryd.prog 32 1 1 := FieldT.of (sz := 1) (by_ := 8) Tryd.underlying32 rfl rfl (inferInstance : InfoT Tryd.prog 3 1 8) (by decide)
instance : FieldT Tryd.prog 32 2 2 := FieldT.of (sz := 1) (by_ := 8) Tryd.underlying32 rfl rfl (inferInstance : InfoT Tryd.prog 3 1 8) (by decide)
instance : FieldT Tryd.prog 32 3 3 := FieldT.of (sz := 1) (by_ := 4) Tryd.underlying32 rfl rfl (inferInstance : InfoT Tryd.prog 29 1 4) (by decide)
instance : FieldT Tryd.prog 32 4 4 := FieldT.of (sz := 1) (by_ := 24) Tryd.underlying32 rfl rfl (inferInstance : InfoT Tryd.prog 30 1 24) (by decide)
instance : FieldT Tryd.prog 71 0 0 := FieldT.of (sz := 1) (by_ := 8) Tryd.underlying71 rfl rfl (inferInstance : InfoT Tryd.prog 70 1 8) (by decide)
instance : FieldT Tryd.prog 71 1 1 := FieldT.of (sz := 1) (by_ := 24) Tryd.underlying71 rfl rfl (inferInstance : InfoT Tryd.prog 27 1 24) (by decide)
instance : FieldT Tryd.prog 72 0 0 := FieldT.of (sz := 1) (by_ := 8) Tryd.underlying72 rfl rfl (inferInstance : InfoT Tryd.prog 70 1 8) (by decide)
instance : FieldT Tryd.prog 72 1 1 := FieldT.of (sz := 1) (by_ := 24) Tryd.underlying72 rfl rfl (inferInstance : InfoT Tryd.prog 27 1 24) (by decide)
instance : FieldT Tryd.prog 81 0 0 := FieldT.of (sz := 1) (by_ := 16) Tryd.underlying81 rfl rfl (inferInstance : InfoT Tryd.prog 9 1 16) (by decide)
instance : FieldT Tryd.prog 81 1 1 := FieldT.of (sz := 1) (by_ := 16) Tryd.underlying81 rfl rfl (inferInstance : InfoT Tryd.prog 9 1 16) (by decide)
instance : FieldT Tryd.prog 81 2 2 := FieldT.of (sz := 1) (by_ := 16) Tryd.underlying81 rfl rfl (inferInstance : InfoT Tryd.prog 47 1 16) (by decide)
instance : FieldT Tryd.prog 82 0 0 := FieldT.of (sz := 1) (by_ := 16) Tryd.underlying82 rfl rfl (inferInstance : InfoT Tryd.prog 9 1 16) (by decide)
instance : FieldT Tryd.prog 82 1 1 := FieldT.of (sz := 1) (by_ := 16) Tryd.underlying82 rfl rfl (inferInstance : InfoT Tryd.prog 9 1 16) (by decide)
instance : FieldT Tryd.prog 82 2 2 := FieldT.of (sz := 1) (by_ := 16) Tryd.underlying82 rfl rfl (inferInstance : InfoT Tryd.prog 47 1 16) (by decide)
instance : FieldT Tryd.prog 94 0 0 := FieldT.of (sz := 1) (by_ := 16) Tryd.underlying94 rfl rfl (inferInstance : InfoT Tryd.prog 9 1 16) (by decide)
instance : FieldT Tryd.prog 95 0 0 := FieldT.of (sz := 1) (by_ := 16) Tryd.underlying95 rfl rfl (inferInstance : InfoT Tryd.prog 9 1 16) (by decide)
instance : FieldT Tryd.prog 105 0 0 := FieldT.of (sz := 1) (by_ := 1) Tryd.underlying105 rfl rfl (inferInstance : InfoT Tryd.prog 5 1 1) (by decide)
instance : FieldT Tryd.prog 105 1 1 := FieldT.of (sz := 1) (by_ := 1) Tryd.underlying105 rfl rfl (inferInstance : InfoT Tryd.prog 5 1 1) (by decide)
instance : FieldT Tryd.prog 106 0 0 := FieldT.of (sz := 1) (by_ := 1) Tryd.underlying106 rfl rfl (inferInstance : InfoT Tryd.prog 5 1 1) (by decide)
instance : FieldT Tryd.prog 106 1 1 := FieldT.of (sz := 1) (by_ := 1) Tryd.underlying106 rfl rfl (inferInstance : InfoT Tryd.prog 5 1 1) (by decide)
instance : FieldT Tryd.prog 113 0 0 := FieldT.of (sz := 1) (by_ := 8) Tryd.underlying113 rfl rfl (inferInstance : InfoT Tryd.prog 17 1 8) (by decide)
instance : FieldT Tryd.prog 113 1 1 := FieldT.of (sz := 1) (by_ := 8) Tryd.underlying113 rfl rfl (inferInstance : InfoT Tryd.prog 17 1 8) (by decide)
instance : FieldT Tryd.prog 113 2 2 := FieldT.of (sz := 1) (by_ := 8) Tryd.underlying113 rfl rfl (inferInstance : InfoT Tryd.prog 17 1 8) (by decide)
instance : FieldT Tryd.prog 113 3 3 := FieldT.of (sz := 1) (by_ := 16) Tryd.underlying113 rfl rfl (inferInstance : InfoT Tryd.prog 9 1 16) (by decide)
instance : FieldT Tryd.prog 114 0 0 := FieldT.of (sz := 1) (by_ := 8) Tryd.underlying114 rfl rfl (inferInstance : InfoT Tryd.prog 17 1 8) (by decide)
instance : FieldT Tryd.prog 114 1 1 := FieldT.of (sz := 1) (by_ := 8) Tryd.underlying114 rfl rfl (inferInstance : InfoT Tryd.prog 17 1 8) (by decide)
instance : FieldT Tryd.prog 114 2 2 := FieldT.of (sz := 1) (by_ := 8) Tryd.underlying114 rfl rfl (inferInstance : InfoT Tryd.prog 17 1 8) (by decide)
instance : FieldT Tryd.prog 114 3 3 := FieldT.of (sz := 1) (by_ := 16) Tryd.underlying114 rfl rfl (inferInstance : InfoT Tryd.prog 9 1 16) (by decide)
instance : FieldT Tryd.prog 124 0 0 := FieldT.of (sz := 1) (by_ := 8) Tryd.underlying124 rfl rfl (inferInstance : InfoT Tryd.prog 12 1 8) (by decide)
instance : FieldT Tryd.prog 124 1 1 := FieldT.of (sz := 1) (by_ := 8) Tryd.underlying124 rfl rfl (inferInstance : InfoT Tryd.prog 12 1 8) (by decide)
instance : FieldT Tryd.prog 124 2 2 := FieldT.of (sz := 1) (by_ := 4) Tryd.underlying124 rfl rfl (inferInstance : InfoT Tryd.prog 29 1 4) (by decide)
instance : FieldT Tryd.prog 124 3 3 := FieldT.of (sz := 1) (by_ := 1) Tryd.underlying124 rfl rfl (inferInstance : InfoT Tryd.prog 119 1 1) (by decide)
instance : FieldT Tryd.prog 124 4 4 := FieldT.of (sz := 1) (by_ := 1) Tryd.underlying124 rfl rfl (inferInstance : InfoT Tryd.prog 5 1 1) (by decide)
instance : FieldT Tryd.prog 124 5 5 := FieldT.of (sz := 1) (by_ := 1) Tryd.underlying124 rfl rfl (inferInstance : InfoT Tryd.prog 5 1 1) (by decide)
instance : FieldT Tryd.prog 124 6 6 := FieldT.of (sz := 1) (by_ := 1) Tryd.underlying124 rfl rfl (inferInstance : InfoT Tryd.prog 120 1 1) (by decide)
instance : FieldT Tryd.prog 124 7 7 := FieldT.of (sz := 1) (by_ := 8) Tryd.underlying124 rfl rfl (inferInstance : InfoT Tryd.prog 121 1 8) (by decide)
instance : FieldT Tryd.prog 124 8 8 := FieldT.of (sz := 1) (by_ := 8) Tryd.underlying124 rfl rfl (inferInstance : InfoT Tryd.prog 90 1 8) (by decide)
instance : FieldT Tryd.prog 124 9 9 := FieldT.of (sz := 1) (by_ := 4) Tryd.underlying124 rfl rfl (inferInstance : InfoT Tryd.prog 122 1 4) (by decide)
instance : FieldT Tryd.prog 124 10 10 := FieldT.of (sz := 1) (by_ := 4) Tryd.underlying124 rfl rfl (inferInstance : InfoT Tryd.prog 123 1 4) (by decide)
instance : FieldT Tryd.prog 125 0 0 := FieldT.of (sz := 1) (by_ := 8) Tryd.underlying125 rfl rfl (inferInstance : InfoT Tryd.prog 12 1 8) (by decide)
instance : FieldT Tryd.prog 125 1 1 := FieldT.of (sz := 1) (by_ := 8) Tryd.underlying125 rfl rfl (inferInstance : InfoT Tryd.prog 12 1 8) (by decide)
instance : FieldT Tryd.prog 125 2 2 := FieldT.of (sz := 1) (by_ := 4) Tryd.underlying125 rfl rfl (inferInstance : InfoT Tryd.prog 29 1 4) (by decide)
instance : FieldT Tryd.prog 125 3 3 := FieldT.of (sz := 1) (by_ := 1) Tryd.underlying125 rfl rfl (inferInstance : InfoT Tryd.prog 119 1 1) (by decide)
instance : FieldT Tryd.prog 125 4 4 := FieldT.of (sz := 1) (by_ := 1) Tryd.underlying125 rfl rfl (inferInstance : InfoT Tryd.prog 5 1 1) (by decide)
instance : FieldT Tryd.prog 125 5 5 := FieldT.of (sz := 1) (by_ := 1) Tryd.underlying125 rfl rfl (inferInstance : InfoT Tryd.prog 5 1 1) (by decide)
instance : FieldT Tryd.prog 125 6 6 := FieldT.of (sz := 1) (by_ := 1) Tryd.underlying125 rfl rfl (inferInstance : InfoT Tryd.prog 120 1 1) (by decide)
instance : FieldT Tryd.prog 125 7 7 := FieldT.of (sz := 1) (by_ := 8) Tryd.underlying125 rfl rfl (inferInstance : InfoT Tryd.prog 121 1 8) (by decide)
instance : FieldT Tryd.prog 125 8 8 := FieldT.of (sz := 1) (by_ := 8) Tryd.underlying125 rfl rfl (inferInstance : InfoT Tryd.prog 90 1 8) (by decide)
instance : FieldT Tryd.prog 125 9 9 := FieldT.of (sz := 1) (by_ := 4) Tryd.underlying125 rfl rfl (inferInstance : InfoT Tryd.prog 122 1 4) (by decide)
instance : FieldT Tryd.prog 125 10 10 := FieldT.of (sz := 1) (by_ := 4) Tryd.underlying125 rfl rfl (inferInstance : InfoT Tryd.prog 123 1 4) (by decide)
instance : Enters Tryd.prog 3 := Enters.of Tryd.func3 (by kernel_rfl) (by kernel_rfl)
instance : Enters Tryd.prog 4 := Enters.of Tryd.func4 (by kernel_rfl) (by kernel_rfl)
instance : Enters Tryd.prog 5 := Enters.of Tryd.func5 (by kernel_rfl) (by kernel_rfl)
instance : Enters Tryd.prog 6 := Enters.of Tryd.func6 (by kernel_rfl) (by kernel_rfl)
instance : Enters Tryd.prog 7 := Enters.of Tryd.func7 (by kernel_rfl) (by kernel_rfl)
instance : Enters Tryd.prog 8 := Enters.of Tryd.func8 (by kernel_rfl) (by kernel_rfl)
instance : Enters Tryd.prog 9 := Enters.of Tryd.func9 (by kernel_rfl) (by kernel_rfl)
instance : Enters Tryd.prog 10 := Enters.of Tryd.func10 (by kernel_rfl) (by kernel_rfl)
instance : Enters Tryd.prog 11 := Enters.of Tryd.func11 (by kernel_rfl) (by kernel_rfl)
instance : Enters Tryd.prog 12 := Enters.of Tryd.func12 (by kernel_rfl) (by kernel_rfl)
instance : Enters Tryd.prog 13 := Enters.of Tryd.func13 (by kernel_rfl) (by kernel_rfl)
instance : Enters Tryd.prog 14 := Enters.of Tryd.func14 (by kernel_rfl) (by kernel_rfl)
instance : Enters Tryd.prog 15 := Enters.of Tryd.func15 (by kernel_rfl) (by kernel_rfl)
instance : Enters Tryd.prog 16 := Enters.of Tryd.func16 (by kernel_rfl) (by kernel_rfl)
instance : Enters Tryd.prog 17 := Enters.of Tryd.func17 (by kernel_rfl) (by kernel_rfl)
instance : Enters Tryd.prog 18 := Enters.of Tryd.func18 (by kernel_rfl) (by kernel_rfl)
instance : Enters Tryd.prog 19 := Enters.of Tryd.func19 (by kernel_rfl) (by kernel_rfl)
instance : Enters Tryd.prog 20 := Enters.of Tryd.func20 (by kernel_rfl) (by kernel_rfl)
instance : Enters Tryd.prog 21 := Enters.of Tryd.func21 (by kernel_rfl) (by kernel_rfl)
instance : Enters Tryd.prog 22 := Enters.of Tryd.func22 (by kernel_rfl) (by kernel_rfl)
instance : Enters Tryd.prog 23 := Enters.of Tryd.func23 (by kernel_rfl) (by kernel_rfl)
instance : Enters Tryd.prog 24 := Enters.of Tryd.func24 (by kernel_rfl) (by kernel_rfl)
instance : Enters Tryd.prog 25 := Enters.of Tryd.func25 (by kernel_rfl) (by kernel_rfl)
instance : Enters Tryd.prog 26 := Enters.of Tryd.func26 (by kernel_rfl) (by kernel_rfl)
instance : Enters Tryd.prog 27 := Enters.of Tryd.func27 (by kernel_rfl) (by kernel_rfl)
instance : Enters Tryd.prog 28 := Enters.of Tryd.func28 (by kernel_rfl) (by kernel_rfl)
instance : Enters Tryd.prog 29 := Enters.of Tryd.func29 (by kernel_rfl) (by kernel_rfl)
instance : Enters Tryd.prog 30 := Enters.of Tryd.func30 (by kernel_rfl) (by kernel_rfl)
instance : Enters Tryd.prog 31 := Enters.of Tryd.func31 (by kernel_rfl) (by kernel_rfl)
instance : Enters Tryd.prog 32 := Enters.of Tryd.func32 (by kernel_rfl) (by kernel_rfl)
instance : Enters Tryd.prog 33 := Enters.of Tryd.func33 (by kernel_rfl) (by kernel_rfl)
instance : Enters Tryd.prog 34 := Enters.of Tryd.func34 (by kernel_rfl) (by kernel_rfl)
instance : Enters Tryd.prog 35 := Enters.of Tryd.func35 (by kernel_rfl) (by kernel_rfl)
instance : Enters Tryd.prog 36 := Enters.of Tryd.func36 (by kernel_rfl) (by kernel_rfl)
instance : Enters Tryd.prog 37 := Enters.of Tryd.func37 (by kernel_rfl) (by kernel_rfl)
instance : Enters Tryd.prog 38 := Enters.of Tryd.func38 (by kernel_rfl) (by kernel_rfl)
instance : Enters Tryd.prog 39 := Enters.of Tryd.func39 (by kernel_rfl) (by kernel_rfl)
instance : Enters Tryd.prog 40 := Enters.of Tryd.func40 (by kernel_rfl) (by kernel_rfl)
instance : Enters Tryd.prog 41 := Enters.of Tryd.func41 (by kernel_rfl) (by kernel_rfl)
instance : Enters Tryd.prog 42 := Enters.of Tryd.func42 (by kernel_rfl) (by kernel_rfl)
instance : Enters Tryd.prog 43 := Enters.of Tryd.func43 (by kernel_rfl) (by kernel_rfl)
instance : Enters Tryd.prog 44 := Enters.of Tryd.func44 (by kernel_rfl) (by kernel_rfl)
instance : Enters Tryd.prog 45 := Enters.of Tryd.func45 (by kernel_rfl) (by kernel_rfl)
instance : Enters Tryd.prog 46 := Enters.of Tryd.func46 (by kernel_rfl) (by kernel_rfl)
instance : Enters Tryd.prog 47 := Enters.of Tryd.func47 (by kernel_rfl) (by kernel_rfl)
instance : Enters Tryd.prog 48 := Enters.of Tryd.func48 (by kernel_rfl) (by kernel_rfl)
instance : Enters Tryd.prog 49 := Enters.of Tryd.func49 (by kernel_rfl) (by kernel_rfl)
instance : Enters Tryd.prog 50 := Enters.of Tryd.func50 (by kernel_rfl) (by kernel_rfl)
instance : Enters Tryd.prog 51 := Enters.of Tryd.func51 (by kernel_rfl) (by kernel_rfl)
instance : Enters Tryd.prog 52 := Enters.of Tryd.func52 (by kernel_rfl) (by kernel_rfl)
instance : Enters Tryd.prog 53 := Enters.of Tryd.func53 (by kernel_rfl) (by kernel_rfl)
instance : Enters Tryd.prog 54 := Enters.of Tryd.func54 (by kernel_rfl) (by kernel_rfl)
instance : Enters Tryd.prog 55 := Enters.of Tryd.func55 (by kernel_rfl) (by kernel_rfl)
instance : Enters Tryd.prog 56 := Enters.of Tryd.func56 (by kernel_rfl) (by kernel_rfl)
instance : Enters Tryd.prog 57 := Enters.of Tryd.func57 (by kernel_rfl) (by kernel_rfl)
instance : Enters Tryd.prog 58 := Enters.of Tryd.func58 (by kernel_rfl) (by kernel_rfl)
instance : Enters Tryd.prog 59 := Enters.of Tryd.func59 (by kernel_rfl) (by kernel_rfl)
instance : Enters Tryd.prog 61 := Enters.of Tryd.func61 (by kernel_rfl) (by kernel_rfl)
instance : Enters Tryd.prog 62 := Enters.of Tryd.func62 (by kernel_rfl) (by kernel_rfl)
instance : Enters Tryd.prog 63 := Enters.of Tryd.func63 (by kernel_rfl) (by kernel_rfl)
instance : Enters Tryd.prog 64 := Enters.of Tryd.func64 (by kernel_rfl) (by kernel_rfl)
instance : Enters Tryd.prog 65 := Enters.of Tryd.func65 (by kernel_rfl) (by kernel_rfl)
instance : Enters Tryd.prog 66 := Enters.of Tryd.func66 (by kernel_rfl) (by kernel_rfl)
instance : Enters Tryd.prog 67 := Enters.of Tryd.func67 (by kernel_rfl) (by kernel_rfl)
instance : Enters Tryd.prog 68 := Enters.of Tryd.func68 (by kernel_rfl) (by kernel_rfl)
instance : Enters Tryd.prog 69 := Enters.of Tryd.func69 (by kernel_rfl) (by kernel_rfl)
instance : Enters Tryd.prog 70 := Enters.of Tryd.func70 (by kernel_rfl) (by kernel_rfl)
instance : Enters Tryd.prog 71 := Enters.of Tryd.func71 (by kernel_rfl) (by kernel_rfl)
instance : Enters Tryd.prog 72 := Enters.of Tryd.func72 (by kernel_rfl) (by kernel_rfl)
instance : Enters Tryd.prog 73 := Enters.of Tryd.func73 (by kernel_rfl) (by kernel_rfl)
instance : Enters Tryd.prog 75 := Enters.of Tryd.func75 (by kernel_rfl) (by kernel_rfl)
instance : Enters Tryd.prog 76 := Enters.of Tryd.func76 (by kernel_rfl) (by kernel_rfl)
instance : Enters Tryd.prog 77 := Enters.of Tryd.func77 (by kernel_rfl) (by kernel_rfl)
instance : Enters Tryd.prog 78 := Enters.of Tryd.func78 (by kernel_rfl) (by kernel_rfl)
instance : Enters Tryd.prog 79 := Enters.of Tryd.func79 (by kernel_rfl) (by kernel_rfl)
instance : Enters Tryd.prog 80 := Enters.of Tryd.func80 (by kernel_rfl) (by kernel_rfl)
instance : Enters Tryd.prog 81 := Enters.of Tryd.func81 (by kernel_rfl) (by kernel_rfl)
instance : Enters Tryd.prog 82 := Enters.of Tryd.func82 (by kernel_rfl) (by kernel_rfl)
instance : Enters Tryd.prog 83 := Enters.of Tryd.func83 (by kernel_rfl) (by kernel_rfl)
instance : Enters Tryd.prog 87 := Enters.of Tryd.func87 (by kernel_rfl) (by kernel_rfl)
instance : Enters Tryd.prog 88 := Enters.of Tryd.func88 (by kernel_rfl) (by kernel_rfl)
instance : Enters Tryd.prog 89 := Enters.of Tryd.func89 (by kernel_rfl) (by kernel_rfl)
instance : Enters Tryd.prog 120 := Enters.of Tryd.func120 (by kernel_rfl) (by kernel_rfl)
end Go.Proofs.YtoggdigclbcndaaDoor.E
