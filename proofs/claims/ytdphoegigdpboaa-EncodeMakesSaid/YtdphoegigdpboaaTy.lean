/-
  Facts on the program's types and functions, one instance each. Printed by program (types.py).
-/
import Derived.Test.YtdphoegigdpboaaBuild
import Derived.Test.YtdphoegigdpboaaProg
namespace Go.Proofs.Ytdphoegigdpboaa.E
open Go Go.Proofs
set_option maxRecDepth 100000
instance : InfoT Try.prog 1 1 8 := ⟨by kernel_rfl⟩
instance : FlatT Try.prog 1 := ⟨fun w => by rw [isAgg_run, Try.underlying1]⟩
instance : ZeroT Try.prog 1 (.nilFunc) := ⟨by kernel_rfl⟩
instance : IntT Try.prog 2 .i64 := ⟨Try.underlying2⟩
instance : InfoT Try.prog 2 1 8 := ⟨by kernel_rfl⟩
instance : FlatT Try.prog 2 := ⟨fun w => by rw [isAgg_run, Try.underlying2]⟩
instance : ZeroT Try.prog 2 (.int .i64 0) := ⟨by kernel_rfl⟩
instance : IntT Try.prog 3 .i64 := ⟨Try.underlying3⟩
instance : InfoT Try.prog 3 1 8 := ⟨by kernel_rfl⟩
instance : FlatT Try.prog 3 := ⟨fun w => by rw [isAgg_run, Try.underlying3]⟩
instance : ZeroT Try.prog 3 (.int .i64 0) := ⟨by kernel_rfl⟩
instance : BoolT Try.prog 4 := ⟨Try.underlying4⟩
instance : InfoT Try.prog 4 1 1 := ⟨by kernel_rfl⟩
instance : FlatT Try.prog 4 := ⟨fun w => by rw [isAgg_run, Try.underlying4]⟩
instance : ZeroT Try.prog 4 (.bool false) := ⟨by kernel_rfl⟩
instance : IntT Try.prog 5 .u8 := ⟨Try.underlying5⟩
instance : InfoT Try.prog 5 1 1 := ⟨by kernel_rfl⟩
instance : FlatT Try.prog 5 := ⟨fun w => by rw [isAgg_run, Try.underlying5]⟩
instance : ZeroT Try.prog 5 (.int .u8 0) := ⟨by kernel_rfl⟩
instance : IntT Try.prog 6 .u8 := ⟨Try.underlying6⟩
instance : InfoT Try.prog 6 1 1 := ⟨by kernel_rfl⟩
instance : FlatT Try.prog 6 := ⟨fun w => by rw [isAgg_run, Try.underlying6]⟩
instance : ZeroT Try.prog 6 (.int .u8 0) := ⟨by kernel_rfl⟩
instance : StructT Try.prog 7 [(0, 1), (1, 1), (2, 1), (3, 1)] := ⟨_, Try.underlying7, by kernel_rfl⟩
instance : InfoT Try.prog 7 4 24 := ⟨by kernel_rfl⟩
instance : AggT Try.prog 7 := ⟨fun w => by rw [isAgg_run, Try.underlying7]⟩
instance : ZeroT Try.prog 7 (.agg (([.int .i64 0, .int .i64 0] : List Value) ++ ([.bool false] : List Value) ++ ([.int .u8 0] : List Value)).toArray) := ⟨by kernel_rfl⟩
instance : StructT Try.prog 8 [(0, 1), (1, 1), (2, 1), (3, 1)] := ⟨_, Try.underlying8, by kernel_rfl⟩
instance : InfoT Try.prog 8 4 24 := ⟨by kernel_rfl⟩
instance : AggT Try.prog 8 := ⟨fun w => by rw [isAgg_run, Try.underlying8]⟩
instance : ZeroT Try.prog 8 (.agg (([.int .i64 0, .int .i64 0] : List Value) ++ ([.bool false] : List Value) ++ ([.int .u8 0] : List Value)).toArray) := ⟨by kernel_rfl⟩
instance : StrT Try.prog 9 := ⟨Try.underlying9⟩
instance : InfoT Try.prog 9 1 16 := ⟨by kernel_rfl⟩
instance : FlatT Try.prog 9 := ⟨fun w => by rw [isAgg_run, Try.underlying9]⟩
instance : ZeroT Try.prog 9 (.string ByteArray.empty) := ⟨by kernel_rfl⟩
instance : StrT Try.prog 10 := ⟨Try.underlying10⟩
instance : InfoT Try.prog 10 1 16 := ⟨by kernel_rfl⟩
instance : FlatT Try.prog 10 := ⟨fun w => by rw [isAgg_run, Try.underlying10]⟩
instance : ZeroT Try.prog 10 (.string ByteArray.empty) := ⟨by kernel_rfl⟩
instance : StrT Try.prog 11 := ⟨Try.underlying11⟩
instance : InfoT Try.prog 11 1 16 := ⟨by kernel_rfl⟩
instance : FlatT Try.prog 11 := ⟨fun w => by rw [isAgg_run, Try.underlying11]⟩
instance : ZeroT Try.prog 11 (.string ByteArray.empty) := ⟨by kernel_rfl⟩
instance : IntT Try.prog 12 .u64 := ⟨Try.underlying12⟩
instance : InfoT Try.prog 12 1 8 := ⟨by kernel_rfl⟩
instance : FlatT Try.prog 12 := ⟨fun w => by rw [isAgg_run, Try.underlying12]⟩
instance : ZeroT Try.prog 12 (.int .u64 0) := ⟨by kernel_rfl⟩
instance : StructT Try.prog 13 [(0, 1), (1, 1)] := ⟨_, Try.underlying13, by kernel_rfl⟩
instance : InfoT Try.prog 13 2 24 := ⟨by kernel_rfl⟩
instance : AggT Try.prog 13 := ⟨fun w => by rw [isAgg_run, Try.underlying13]⟩
instance : ZeroT Try.prog 13 (.agg (([.string ByteArray.empty] : List Value) ++ ([.int .u64 0] : List Value)).toArray) := ⟨by kernel_rfl⟩
instance : StructT Try.prog 14 [(0, 1), (1, 1)] := ⟨_, Try.underlying14, by kernel_rfl⟩
instance : InfoT Try.prog 14 2 24 := ⟨by kernel_rfl⟩
instance : AggT Try.prog 14 := ⟨fun w => by rw [isAgg_run, Try.underlying14]⟩
instance : ZeroT Try.prog 14 (.agg (([.string ByteArray.empty] : List Value) ++ ([.int .u64 0] : List Value)).toArray) := ⟨by kernel_rfl⟩
instance : PtrT Try.prog 15 156 := ⟨Try.underlying15⟩
instance : InfoT Try.prog 15 1 8 := ⟨by kernel_rfl⟩
instance : FlatT Try.prog 15 := ⟨fun w => by rw [isAgg_run, Try.underlying15]⟩
instance : ZeroT Try.prog 15 (.pointer none) := ⟨by kernel_rfl⟩
instance : PtrT Try.prog 16 159 := ⟨Try.underlying16⟩
instance : InfoT Try.prog 16 1 8 := ⟨by kernel_rfl⟩
instance : FlatT Try.prog 16 := ⟨fun w => by rw [isAgg_run, Try.underlying16]⟩
instance : ZeroT Try.prog 16 (.pointer none) := ⟨by kernel_rfl⟩
instance : PtrT Try.prog 17 167 := ⟨Try.underlying17⟩
instance : InfoT Try.prog 17 1 8 := ⟨by kernel_rfl⟩
instance : FlatT Try.prog 17 := ⟨fun w => by rw [isAgg_run, Try.underlying17]⟩
instance : ZeroT Try.prog 17 (.pointer none) := ⟨by kernel_rfl⟩
instance : StructT Try.prog 18 [(0, 1)] := ⟨_, Try.underlying18, by kernel_rfl⟩
instance : InfoT Try.prog 18 1 8 := ⟨by kernel_rfl⟩
instance : AggT Try.prog 18 := ⟨fun w => by rw [isAgg_run, Try.underlying18]⟩
instance : ZeroT Try.prog 18 (.agg (([.pointer none] : List Value)).toArray) := ⟨by kernel_rfl⟩
instance : StructT Try.prog 19 [(0, 1)] := ⟨_, Try.underlying19, by kernel_rfl⟩
instance : InfoT Try.prog 19 1 8 := ⟨by kernel_rfl⟩
instance : AggT Try.prog 19 := ⟨fun w => by rw [isAgg_run, Try.underlying19]⟩
instance : ZeroT Try.prog 19 (.agg (([.pointer none] : List Value)).toArray) := ⟨by kernel_rfl⟩
instance : InfoT Try.prog 20 1 16 := ⟨by kernel_rfl⟩
instance : FlatT Try.prog 20 := ⟨fun w => by rw [isAgg_run, Try.underlying20]⟩
instance : ZeroT Try.prog 20 (.nilIface) := ⟨by kernel_rfl⟩
instance : IntT Try.prog 21 .i32 := ⟨Try.underlying21⟩
instance : InfoT Try.prog 21 1 4 := ⟨by kernel_rfl⟩
instance : FlatT Try.prog 21 := ⟨fun w => by rw [isAgg_run, Try.underlying21]⟩
instance : ZeroT Try.prog 21 (.int .i32 0) := ⟨by kernel_rfl⟩
instance : SliceT Try.prog 22 30 := ⟨Try.underlying22⟩
instance : InfoT Try.prog 22 1 24 := ⟨by kernel_rfl⟩
instance : FlatT Try.prog 22 := ⟨fun w => by rw [isAgg_run, Try.underlying22]⟩
instance : ZeroT Try.prog 22 (.slice none 0 0) := ⟨by kernel_rfl⟩
instance : SliceT Try.prog 23 33 := ⟨Try.underlying23⟩
instance : InfoT Try.prog 23 1 24 := ⟨by kernel_rfl⟩
instance : FlatT Try.prog 23 := ⟨fun w => by rw [isAgg_run, Try.underlying23]⟩
instance : ZeroT Try.prog 23 (.slice none 0 0) := ⟨by kernel_rfl⟩
instance : InfoT Try.prog 24 1 8 := ⟨by kernel_rfl⟩
instance : FlatT Try.prog 24 := ⟨fun w => by rw [isAgg_run, Try.underlying24]⟩
instance : ZeroT Try.prog 24 (.nilFunc) := ⟨by kernel_rfl⟩
instance : InfoT Try.prog 25 1 8 := ⟨by kernel_rfl⟩
instance : FlatT Try.prog 25 := ⟨fun w => by rw [isAgg_run, Try.underlying25]⟩
instance : ZeroT Try.prog 25 (.nilFunc) := ⟨by kernel_rfl⟩
instance : IntT Try.prog 26 .i64 := ⟨Try.underlying26⟩
instance : InfoT Try.prog 26 1 8 := ⟨by kernel_rfl⟩
instance : FlatT Try.prog 26 := ⟨fun w => by rw [isAgg_run, Try.underlying26]⟩
instance : ZeroT Try.prog 26 (.int .i64 0) := ⟨by kernel_rfl⟩
instance : InfoT Try.prog 28 1 8 := ⟨by kernel_rfl⟩
instance : FlatT Try.prog 28 := ⟨fun w => by rw [isAgg_run, Try.underlying28]⟩
instance : ZeroT Try.prog 28 (.nilFunc) := ⟨by kernel_rfl⟩
instance : InfoT Try.prog 29 1 8 := ⟨by kernel_rfl⟩
instance : FlatT Try.prog 29 := ⟨fun w => by rw [isAgg_run, Try.underlying29]⟩
instance : ZeroT Try.prog 29 (.nilFunc) := ⟨by kernel_rfl⟩
instance : SliceT Try.prog 30 5 := ⟨Try.underlying30⟩
instance : InfoT Try.prog 30 1 24 := ⟨by kernel_rfl⟩
instance : FlatT Try.prog 30 := ⟨fun w => by rw [isAgg_run, Try.underlying30]⟩
instance : ZeroT Try.prog 30 (.slice none 0 0) := ⟨by kernel_rfl⟩
instance : InfoT Try.prog 32 1 8 := ⟨by kernel_rfl⟩
instance : FlatT Try.prog 32 := ⟨fun w => by rw [isAgg_run, Try.underlying32]⟩
instance : ZeroT Try.prog 32 (.nilFunc) := ⟨by kernel_rfl⟩
instance : IntT Try.prog 33 .u32 := ⟨Try.underlying33⟩
instance : InfoT Try.prog 33 1 4 := ⟨by kernel_rfl⟩
instance : FlatT Try.prog 33 := ⟨fun w => by rw [isAgg_run, Try.underlying33]⟩
instance : ZeroT Try.prog 33 (.int .u32 0) := ⟨by kernel_rfl⟩
instance : InfoT Try.prog 34 1 8 := ⟨by kernel_rfl⟩
instance : FlatT Try.prog 34 := ⟨fun w => by rw [isAgg_run, Try.underlying34]⟩
instance : ZeroT Try.prog 34 (.nilFunc) := ⟨by kernel_rfl⟩
instance : InfoT Try.prog 35 1 8 := ⟨by kernel_rfl⟩
instance : FlatT Try.prog 35 := ⟨fun w => by rw [isAgg_run, Try.underlying35]⟩
instance : ZeroT Try.prog 35 (.nilFunc) := ⟨by kernel_rfl⟩
instance : InfoT Try.prog 36 1 8 := ⟨by kernel_rfl⟩
instance : FlatT Try.prog 36 := ⟨fun w => by rw [isAgg_run, Try.underlying36]⟩
instance : ZeroT Try.prog 36 (.nilFunc) := ⟨by kernel_rfl⟩
instance : SliceT Try.prog 37 45 := ⟨Try.underlying37⟩
instance : InfoT Try.prog 37 1 24 := ⟨by kernel_rfl⟩
instance : FlatT Try.prog 37 := ⟨fun w => by rw [isAgg_run, Try.underlying37]⟩
instance : ZeroT Try.prog 37 (.slice none 0 0) := ⟨by kernel_rfl⟩
instance : InfoT Try.prog 38 1 8 := ⟨by kernel_rfl⟩
instance : FlatT Try.prog 38 := ⟨fun w => by rw [isAgg_run, Try.underlying38]⟩
instance : ZeroT Try.prog 38 (.nilFunc) := ⟨by kernel_rfl⟩
instance : PtrT Try.prog 39 67 := ⟨Try.underlying39⟩
instance : InfoT Try.prog 39 1 8 := ⟨by kernel_rfl⟩
instance : FlatT Try.prog 39 := ⟨fun w => by rw [isAgg_run, Try.underlying39]⟩
instance : ZeroT Try.prog 39 (.pointer none) := ⟨by kernel_rfl⟩
instance : InfoT Try.prog 41 1 8 := ⟨by kernel_rfl⟩
instance : FlatT Try.prog 41 := ⟨fun w => by rw [isAgg_run, Try.underlying41]⟩
instance : ZeroT Try.prog 41 (.nilFunc) := ⟨by kernel_rfl⟩
instance : InfoT Try.prog 42 1 8 := ⟨by kernel_rfl⟩
instance : FlatT Try.prog 42 := ⟨fun w => by rw [isAgg_run, Try.underlying42]⟩
instance : ZeroT Try.prog 42 (.nilFunc) := ⟨by kernel_rfl⟩
instance : SliceT Try.prog 43 3 := ⟨Try.underlying43⟩
instance : InfoT Try.prog 43 1 24 := ⟨by kernel_rfl⟩
instance : FlatT Try.prog 43 := ⟨fun w => by rw [isAgg_run, Try.underlying43]⟩
instance : ZeroT Try.prog 43 (.slice none 0 0) := ⟨by kernel_rfl⟩
instance : StructT Try.prog 44 [(0, 1), (1, 1), (2, 1), (3, 1), (4, 1), (5, 1)] := ⟨_, Try.underlying44, by kernel_rfl⟩
instance : InfoT Try.prog 44 6 96 := ⟨by kernel_rfl⟩
instance : AggT Try.prog 44 := ⟨fun w => by rw [isAgg_run, Try.underlying44]⟩
instance : ZeroT Try.prog 44 (.agg (([.int .u8 0] : List Value) ++ ([.string ByteArray.empty, .string ByteArray.empty] : List Value) ++ ([.int .i64 0] : List Value) ++ ([.slice none 0 0, .slice none 0 0] : List Value)).toArray) := ⟨by kernel_rfl⟩
instance : StructT Try.prog 45 [(0, 1), (1, 1), (2, 1), (3, 1), (4, 1), (5, 1)] := ⟨_, Try.underlying45, by kernel_rfl⟩
instance : InfoT Try.prog 45 6 96 := ⟨by kernel_rfl⟩
instance : AggT Try.prog 45 := ⟨fun w => by rw [isAgg_run, Try.underlying45]⟩
instance : ZeroT Try.prog 45 (.agg (([.int .u8 0] : List Value) ++ ([.string ByteArray.empty, .string ByteArray.empty] : List Value) ++ ([.int .i64 0] : List Value) ++ ([.slice none 0 0, .slice none 0 0] : List Value)).toArray) := ⟨by kernel_rfl⟩
instance : InfoT Try.prog 46 1 8 := ⟨by kernel_rfl⟩
instance : FlatT Try.prog 46 := ⟨fun w => by rw [isAgg_run, Try.underlying46]⟩
instance : ZeroT Try.prog 46 (.nilFunc) := ⟨by kernel_rfl⟩
instance : SliceT Try.prog 47 9 := ⟨Try.underlying47⟩
instance : InfoT Try.prog 47 1 24 := ⟨by kernel_rfl⟩
instance : FlatT Try.prog 47 := ⟨fun w => by rw [isAgg_run, Try.underlying47]⟩
instance : ZeroT Try.prog 47 (.slice none 0 0) := ⟨by kernel_rfl⟩
instance : InfoT Try.prog 48 1 8 := ⟨by kernel_rfl⟩
instance : FlatT Try.prog 48 := ⟨fun w => by rw [isAgg_run, Try.underlying48]⟩
instance : ZeroT Try.prog 48 (.nilFunc) := ⟨by kernel_rfl⟩
instance : InfoT Try.prog 49 1 8 := ⟨by kernel_rfl⟩
instance : FlatT Try.prog 49 := ⟨fun w => by rw [isAgg_run, Try.underlying49]⟩
instance : ZeroT Try.prog 49 (.nilFunc) := ⟨by kernel_rfl⟩
instance : InfoT Try.prog 51 1 8 := ⟨by kernel_rfl⟩
instance : FlatT Try.prog 51 := ⟨fun w => by rw [isAgg_run, Try.underlying51]⟩
instance : ZeroT Try.prog 51 (.nilFunc) := ⟨by kernel_rfl⟩
instance : InfoT Try.prog 52 1 8 := ⟨by kernel_rfl⟩
instance : FlatT Try.prog 52 := ⟨fun w => by rw [isAgg_run, Try.underlying52]⟩
instance : ZeroT Try.prog 52 (.nilFunc) := ⟨by kernel_rfl⟩
instance : InfoT Try.prog 53 1 8 := ⟨by kernel_rfl⟩
instance : FlatT Try.prog 53 := ⟨fun w => by rw [isAgg_run, Try.underlying53]⟩
instance : ZeroT Try.prog 53 (.nilFunc) := ⟨by kernel_rfl⟩
instance : InfoT Try.prog 54 1 8 := ⟨by kernel_rfl⟩
instance : FlatT Try.prog 54 := ⟨fun w => by rw [isAgg_run, Try.underlying54]⟩
instance : ZeroT Try.prog 54 (.nilFunc) := ⟨by kernel_rfl⟩
instance : StructT Try.prog 55 [(0, 1), (1, 1), (2, 1)] := ⟨_, Try.underlying55, by kernel_rfl⟩
instance : InfoT Try.prog 55 3 40 := ⟨by kernel_rfl⟩
instance : AggT Try.prog 55 := ⟨fun w => by rw [isAgg_run, Try.underlying55]⟩
instance : ZeroT Try.prog 55 (.agg (([.int .i64 0, .int .i64 0] : List Value) ++ ([.slice none 0 0] : List Value)).toArray) := ⟨by kernel_rfl⟩
instance : StructT Try.prog 56 [(0, 1), (1, 1), (2, 1)] := ⟨_, Try.underlying56, by kernel_rfl⟩
instance : InfoT Try.prog 56 3 40 := ⟨by kernel_rfl⟩
instance : AggT Try.prog 56 := ⟨fun w => by rw [isAgg_run, Try.underlying56]⟩
instance : ZeroT Try.prog 56 (.agg (([.int .i64 0, .int .i64 0] : List Value) ++ ([.slice none 0 0] : List Value)).toArray) := ⟨by kernel_rfl⟩
instance : InfoT Try.prog 58 1 8 := ⟨by kernel_rfl⟩
instance : FlatT Try.prog 58 := ⟨fun w => by rw [isAgg_run, Try.underlying58]⟩
instance : ZeroT Try.prog 58 (.nilFunc) := ⟨by kernel_rfl⟩
instance : InfoT Try.prog 59 1 8 := ⟨by kernel_rfl⟩
instance : FlatT Try.prog 59 := ⟨fun w => by rw [isAgg_run, Try.underlying59]⟩
instance : ZeroT Try.prog 59 (.nilFunc) := ⟨by kernel_rfl⟩
instance : InfoT Try.prog 60 1 8 := ⟨by kernel_rfl⟩
instance : FlatT Try.prog 60 := ⟨fun w => by rw [isAgg_run, Try.underlying60]⟩
instance : ZeroT Try.prog 60 (.nilFunc) := ⟨by kernel_rfl⟩
instance : InfoT Try.prog 61 1 8 := ⟨by kernel_rfl⟩
instance : FlatT Try.prog 61 := ⟨fun w => by rw [isAgg_run, Try.underlying61]⟩
instance : ZeroT Try.prog 61 (.nilFunc) := ⟨by kernel_rfl⟩
instance : InfoT Try.prog 62 1 8 := ⟨by kernel_rfl⟩
instance : FlatT Try.prog 62 := ⟨fun w => by rw [isAgg_run, Try.underlying62]⟩
instance : ZeroT Try.prog 62 (.nilFunc) := ⟨by kernel_rfl⟩
instance : InfoT Try.prog 63 1 8 := ⟨by kernel_rfl⟩
instance : FlatT Try.prog 63 := ⟨fun w => by rw [isAgg_run, Try.underlying63]⟩
instance : ZeroT Try.prog 63 (.nilFunc) := ⟨by kernel_rfl⟩
instance : MapT Try.prog 64 9 74 := ⟨Try.underlying64⟩
instance : InfoT Try.prog 64 1 8 := ⟨by kernel_rfl⟩
instance : FlatT Try.prog 64 := ⟨fun w => by rw [isAgg_run, Try.underlying64]⟩
instance : ZeroT Try.prog 64 (.map none) := ⟨by kernel_rfl⟩
instance : SliceT Try.prog 65 80 := ⟨Try.underlying65⟩
instance : InfoT Try.prog 65 1 24 := ⟨by kernel_rfl⟩
instance : FlatT Try.prog 65 := ⟨fun w => by rw [isAgg_run, Try.underlying65]⟩
instance : ZeroT Try.prog 65 (.slice none 0 0) := ⟨by kernel_rfl⟩
instance : StructT Try.prog 66 [(0, 1), (1, 1), (2, 1), (3, 1), (4, 1), (5, 1), (6, 1)] := ⟨_, Try.underlying66, by kernel_rfl⟩
instance : InfoT Try.prog 66 7 72 := ⟨by kernel_rfl⟩
instance : AggT Try.prog 66 := ⟨fun w => by rw [isAgg_run, Try.underlying66]⟩
instance : ZeroT Try.prog 66 (.agg (([.int .i64 0] : List Value) ++ ([.map none, .map none] : List Value) ++ ([.slice none 0 0] : List Value) ++ ([.int .i64 0, .int .i64 0] : List Value) ++ ([.bool false] : List Value)).toArray) := ⟨by kernel_rfl⟩
instance : StructT Try.prog 67 [(0, 1), (1, 1), (2, 1), (3, 1), (4, 1), (5, 1), (6, 1)] := ⟨_, Try.underlying67, by kernel_rfl⟩
instance : InfoT Try.prog 67 7 72 := ⟨by kernel_rfl⟩
instance : AggT Try.prog 67 := ⟨fun w => by rw [isAgg_run, Try.underlying67]⟩
instance : ZeroT Try.prog 67 (.agg (([.int .i64 0] : List Value) ++ ([.map none, .map none] : List Value) ++ ([.slice none 0 0] : List Value) ++ ([.int .i64 0, .int .i64 0] : List Value) ++ ([.bool false] : List Value)).toArray) := ⟨by kernel_rfl⟩
instance : InfoT Try.prog 68 1 8 := ⟨by kernel_rfl⟩
instance : FlatT Try.prog 68 := ⟨fun w => by rw [isAgg_run, Try.underlying68]⟩
instance : ZeroT Try.prog 68 (.nilFunc) := ⟨by kernel_rfl⟩
instance : InfoT Try.prog 69 1 8 := ⟨by kernel_rfl⟩
instance : FlatT Try.prog 69 := ⟨fun w => by rw [isAgg_run, Try.underlying69]⟩
instance : ZeroT Try.prog 69 (.nilFunc) := ⟨by kernel_rfl⟩
instance : InfoT Try.prog 70 1 8 := ⟨by kernel_rfl⟩
instance : FlatT Try.prog 70 := ⟨fun w => by rw [isAgg_run, Try.underlying70]⟩
instance : ZeroT Try.prog 70 (.nilFunc) := ⟨by kernel_rfl⟩
instance : InfoT Try.prog 71 1 8 := ⟨by kernel_rfl⟩
instance : FlatT Try.prog 71 := ⟨fun w => by rw [isAgg_run, Try.underlying71]⟩
instance : ZeroT Try.prog 71 (.nilFunc) := ⟨by kernel_rfl⟩
instance : InfoT Try.prog 72 1 8 := ⟨by kernel_rfl⟩
instance : FlatT Try.prog 72 := ⟨fun w => by rw [isAgg_run, Try.underlying72]⟩
instance : ZeroT Try.prog 72 (.nilFunc) := ⟨by kernel_rfl⟩
instance : MapT Try.prog 73 74 74 := ⟨Try.underlying73⟩
instance : InfoT Try.prog 73 1 8 := ⟨by kernel_rfl⟩
instance : FlatT Try.prog 73 := ⟨fun w => by rw [isAgg_run, Try.underlying73]⟩
instance : ZeroT Try.prog 73 (.map none) := ⟨by kernel_rfl⟩
instance : PtrT Try.prog 74 77 := ⟨Try.underlying74⟩
instance : InfoT Try.prog 74 1 8 := ⟨by kernel_rfl⟩
instance : FlatT Try.prog 74 := ⟨fun w => by rw [isAgg_run, Try.underlying74]⟩
instance : ZeroT Try.prog 74 (.pointer none) := ⟨by kernel_rfl⟩
instance : InfoT Try.prog 75 1 8 := ⟨by kernel_rfl⟩
instance : FlatT Try.prog 75 := ⟨fun w => by rw [isAgg_run, Try.underlying75]⟩
instance : ZeroT Try.prog 75 (.nilFunc) := ⟨by kernel_rfl⟩
instance : StructT Try.prog 76 [(0, 1), (1, 1)] := ⟨_, Try.underlying76, by kernel_rfl⟩
instance : InfoT Try.prog 76 2 32 := ⟨by kernel_rfl⟩
instance : AggT Try.prog 76 := ⟨fun w => by rw [isAgg_run, Try.underlying76]⟩
instance : ZeroT Try.prog 76 (.agg (([.slice none 0 0] : List Value) ++ ([.int .i64 0] : List Value)).toArray) := ⟨by kernel_rfl⟩
instance : StructT Try.prog 77 [(0, 1), (1, 1)] := ⟨_, Try.underlying77, by kernel_rfl⟩
instance : InfoT Try.prog 77 2 32 := ⟨by kernel_rfl⟩
instance : AggT Try.prog 77 := ⟨fun w => by rw [isAgg_run, Try.underlying77]⟩
instance : ZeroT Try.prog 77 (.agg (([.slice none 0 0] : List Value) ++ ([.int .i64 0] : List Value)).toArray) := ⟨by kernel_rfl⟩
instance : InfoT Try.prog 78 1 8 := ⟨by kernel_rfl⟩
instance : FlatT Try.prog 78 := ⟨fun w => by rw [isAgg_run, Try.underlying78]⟩
instance : ZeroT Try.prog 78 (.nilFunc) := ⟨by kernel_rfl⟩
instance : StructT Try.prog 79 [(0, 1), (1, 1), (2, 1)] := ⟨_, Try.underlying79, by kernel_rfl⟩
instance : InfoT Try.prog 79 3 40 := ⟨by kernel_rfl⟩
instance : AggT Try.prog 79 := ⟨fun w => by rw [isAgg_run, Try.underlying79]⟩
instance : ZeroT Try.prog 79 (.agg (([.string ByteArray.empty, .string ByteArray.empty] : List Value) ++ ([.pointer none] : List Value)).toArray) := ⟨by kernel_rfl⟩
instance : StructT Try.prog 80 [(0, 1), (1, 1), (2, 1)] := ⟨_, Try.underlying80, by kernel_rfl⟩
instance : InfoT Try.prog 80 3 40 := ⟨by kernel_rfl⟩
instance : AggT Try.prog 80 := ⟨fun w => by rw [isAgg_run, Try.underlying80]⟩
instance : ZeroT Try.prog 80 (.agg (([.string ByteArray.empty, .string ByteArray.empty] : List Value) ++ ([.pointer none] : List Value)).toArray) := ⟨by kernel_rfl⟩
instance : InfoT Try.prog 81 1 8 := ⟨by kernel_rfl⟩
instance : FlatT Try.prog 81 := ⟨fun w => by rw [isAgg_run, Try.underlying81]⟩
instance : ZeroT Try.prog 81 (.nilFunc) := ⟨by kernel_rfl⟩
instance : InfoT Try.prog 82 1 8 := ⟨by kernel_rfl⟩
instance : FlatT Try.prog 82 := ⟨fun w => by rw [isAgg_run, Try.underlying82]⟩
instance : ZeroT Try.prog 82 (.nilFunc) := ⟨by kernel_rfl⟩
instance : InfoT Try.prog 83 1 8 := ⟨by kernel_rfl⟩
instance : FlatT Try.prog 83 := ⟨fun w => by rw [isAgg_run, Try.underlying83]⟩
instance : ZeroT Try.prog 83 (.nilFunc) := ⟨by kernel_rfl⟩
instance : InfoT Try.prog 84 1 8 := ⟨by kernel_rfl⟩
instance : FlatT Try.prog 84 := ⟨fun w => by rw [isAgg_run, Try.underlying84]⟩
instance : ZeroT Try.prog 84 (.nilFunc) := ⟨by kernel_rfl⟩
instance : InfoT Try.prog 85 1 8 := ⟨by kernel_rfl⟩
instance : FlatT Try.prog 85 := ⟨fun w => by rw [isAgg_run, Try.underlying85]⟩
instance : ZeroT Try.prog 85 (.nilFunc) := ⟨by kernel_rfl⟩
instance : InfoT Try.prog 86 1 8 := ⟨by kernel_rfl⟩
instance : FlatT Try.prog 86 := ⟨fun w => by rw [isAgg_run, Try.underlying86]⟩
instance : ZeroT Try.prog 86 (.nilFunc) := ⟨by kernel_rfl⟩
instance : InfoT Try.prog 87 1 8 := ⟨by kernel_rfl⟩
instance : FlatT Try.prog 87 := ⟨fun w => by rw [isAgg_run, Try.underlying87]⟩
instance : ZeroT Try.prog 87 (.nilFunc) := ⟨by kernel_rfl⟩
instance : InfoT Try.prog 88 1 8 := ⟨by kernel_rfl⟩
instance : FlatT Try.prog 88 := ⟨fun w => by rw [isAgg_run, Try.underlying88]⟩
instance : ZeroT Try.prog 88 (.nilFunc) := ⟨by kernel_rfl⟩
instance : SliceT Try.prog 89 92 := ⟨Try.underlying89⟩
instance : InfoT Try.prog 89 1 24 := ⟨by kernel_rfl⟩
instance : FlatT Try.prog 89 := ⟨fun w => by rw [isAgg_run, Try.underlying89]⟩
instance : ZeroT Try.prog 89 (.slice none 0 0) := ⟨by kernel_rfl⟩
instance : InfoT Try.prog 90 1 8 := ⟨by kernel_rfl⟩
instance : FlatT Try.prog 90 := ⟨fun w => by rw [isAgg_run, Try.underlying90]⟩
instance : ZeroT Try.prog 90 (.nilFunc) := ⟨by kernel_rfl⟩
instance : StructT Try.prog 91 [(0, 1), (1, 1)] := ⟨_, Try.underlying91, by kernel_rfl⟩
instance : InfoT Try.prog 91 2 16 := ⟨by kernel_rfl⟩
instance : AggT Try.prog 91 := ⟨fun w => by rw [isAgg_run, Try.underlying91]⟩
instance : ZeroT Try.prog 91 (.agg (([.int .i64 0] : List Value) ++ ([.int .u8 0] : List Value)).toArray) := ⟨by kernel_rfl⟩
instance : StructT Try.prog 92 [(0, 1), (1, 1)] := ⟨_, Try.underlying92, by kernel_rfl⟩
instance : InfoT Try.prog 92 2 16 := ⟨by kernel_rfl⟩
instance : AggT Try.prog 92 := ⟨fun w => by rw [isAgg_run, Try.underlying92]⟩
instance : ZeroT Try.prog 92 (.agg (([.int .i64 0] : List Value) ++ ([.int .u8 0] : List Value)).toArray) := ⟨by kernel_rfl⟩
instance : InfoT Try.prog 93 1 8 := ⟨by kernel_rfl⟩
instance : FlatT Try.prog 93 := ⟨fun w => by rw [isAgg_run, Try.underlying93]⟩
instance : ZeroT Try.prog 93 (.nilFunc) := ⟨by kernel_rfl⟩
instance : InfoT Try.prog 94 1 8 := ⟨by kernel_rfl⟩
instance : FlatT Try.prog 94 := ⟨fun w => by rw [isAgg_run, Try.underlying94]⟩
instance : ZeroT Try.prog 94 (.nilFunc) := ⟨by kernel_rfl⟩
instance : IntT Try.prog 95 .u64 := ⟨Try.underlying95⟩
instance : InfoT Try.prog 95 1 8 := ⟨by kernel_rfl⟩
instance : FlatT Try.prog 95 := ⟨fun w => by rw [isAgg_run, Try.underlying95]⟩
instance : ZeroT Try.prog 95 (.int .u64 0) := ⟨by kernel_rfl⟩
instance : InfoT Try.prog 96 1 8 := ⟨by kernel_rfl⟩
instance : FlatT Try.prog 96 := ⟨fun w => by rw [isAgg_run, Try.underlying96]⟩
instance : ZeroT Try.prog 96 (.nilFunc) := ⟨by kernel_rfl⟩
instance : InfoT Try.prog 97 1 8 := ⟨by kernel_rfl⟩
instance : FlatT Try.prog 97 := ⟨fun w => by rw [isAgg_run, Try.underlying97]⟩
instance : ZeroT Try.prog 97 (.nilFunc) := ⟨by kernel_rfl⟩
instance : InfoT Try.prog 98 1 8 := ⟨by kernel_rfl⟩
instance : FlatT Try.prog 98 := ⟨fun w => by rw [isAgg_run, Try.underlying98]⟩
instance : ZeroT Try.prog 98 (.nilFunc) := ⟨by kernel_rfl⟩
instance : InfoT Try.prog 99 1 8 := ⟨by kernel_rfl⟩
instance : FlatT Try.prog 99 := ⟨fun w => by rw [isAgg_run, Try.underlying99]⟩
instance : ZeroT Try.prog 99 (.nilFunc) := ⟨by kernel_rfl⟩
instance : InfoT Try.prog 100 1 8 := ⟨by kernel_rfl⟩
instance : FlatT Try.prog 100 := ⟨fun w => by rw [isAgg_run, Try.underlying100]⟩
instance : ZeroT Try.prog 100 (.nilFunc) := ⟨by kernel_rfl⟩
instance : InfoT Try.prog 101 1 8 := ⟨by kernel_rfl⟩
instance : FlatT Try.prog 101 := ⟨fun w => by rw [isAgg_run, Try.underlying101]⟩
instance : ZeroT Try.prog 101 (.nilFunc) := ⟨by kernel_rfl⟩
instance : InfoT Try.prog 102 1 8 := ⟨by kernel_rfl⟩
instance : FlatT Try.prog 102 := ⟨fun w => by rw [isAgg_run, Try.underlying102]⟩
instance : ZeroT Try.prog 102 (.nilFunc) := ⟨by kernel_rfl⟩
instance : InfoT Try.prog 103 1 8 := ⟨by kernel_rfl⟩
instance : FlatT Try.prog 103 := ⟨fun w => by rw [isAgg_run, Try.underlying103]⟩
instance : ZeroT Try.prog 103 (.nilFunc) := ⟨by kernel_rfl⟩
instance : InfoT Try.prog 104 1 8 := ⟨by kernel_rfl⟩
instance : FlatT Try.prog 104 := ⟨fun w => by rw [isAgg_run, Try.underlying104]⟩
instance : ZeroT Try.prog 104 (.nilFunc) := ⟨by kernel_rfl⟩
instance : InfoT Try.prog 105 1 8 := ⟨by kernel_rfl⟩
instance : FlatT Try.prog 105 := ⟨fun w => by rw [isAgg_run, Try.underlying105]⟩
instance : ZeroT Try.prog 105 (.nilFunc) := ⟨by kernel_rfl⟩
instance : InfoT Try.prog 106 1 8 := ⟨by kernel_rfl⟩
instance : FlatT Try.prog 106 := ⟨fun w => by rw [isAgg_run, Try.underlying106]⟩
instance : ZeroT Try.prog 106 (.nilFunc) := ⟨by kernel_rfl⟩
instance : InfoT Try.prog 107 1 8 := ⟨by kernel_rfl⟩
instance : FlatT Try.prog 107 := ⟨fun w => by rw [isAgg_run, Try.underlying107]⟩
instance : ZeroT Try.prog 107 (.nilFunc) := ⟨by kernel_rfl⟩
instance : PtrT Try.prog 108 121 := ⟨Try.underlying108⟩
instance : InfoT Try.prog 108 1 8 := ⟨by kernel_rfl⟩
instance : FlatT Try.prog 108 := ⟨fun w => by rw [isAgg_run, Try.underlying108]⟩
instance : ZeroT Try.prog 108 (.pointer none) := ⟨by kernel_rfl⟩
instance : InfoT Try.prog 109 1 8 := ⟨by kernel_rfl⟩
instance : FlatT Try.prog 109 := ⟨fun w => by rw [isAgg_run, Try.underlying109]⟩
instance : ZeroT Try.prog 109 (.nilFunc) := ⟨by kernel_rfl⟩
instance : SliceT Try.prog 110 4 := ⟨Try.underlying110⟩
instance : InfoT Try.prog 110 1 24 := ⟨by kernel_rfl⟩
instance : FlatT Try.prog 110 := ⟨fun w => by rw [isAgg_run, Try.underlying110]⟩
instance : ZeroT Try.prog 110 (.slice none 0 0) := ⟨by kernel_rfl⟩
instance : InfoT Try.prog 111 1 8 := ⟨by kernel_rfl⟩
instance : FlatT Try.prog 111 := ⟨fun w => by rw [isAgg_run, Try.underlying111]⟩
instance : ZeroT Try.prog 111 (.nilFunc) := ⟨by kernel_rfl⟩
instance : InfoT Try.prog 112 1 8 := ⟨by kernel_rfl⟩
instance : FlatT Try.prog 112 := ⟨fun w => by rw [isAgg_run, Try.underlying112]⟩
instance : ZeroT Try.prog 112 (.nilFunc) := ⟨by kernel_rfl⟩
instance : ArrT Try.prog 113 256 5 := ⟨Try.underlying113⟩
instance : InfoT Try.prog 113 256 256 := ⟨by kernel_rfl⟩
instance : AggT Try.prog 113 := ⟨fun w => by rw [isAgg_run, Try.underlying113]⟩
instance : ZeroT Try.prog 113 (.agg (List.replicate 256 (.int .u8 0)).toArray) := ⟨by kernel_rfl⟩
instance : InfoT Try.prog 114 1 8 := ⟨by kernel_rfl⟩
instance : FlatT Try.prog 114 := ⟨fun w => by rw [isAgg_run, Try.underlying114]⟩
instance : ZeroT Try.prog 114 (.nilFunc) := ⟨by kernel_rfl⟩
instance : IntT Try.prog 115 .u64 := ⟨Try.underlying115⟩
instance : InfoT Try.prog 115 1 8 := ⟨by kernel_rfl⟩
instance : FlatT Try.prog 115 := ⟨fun w => by rw [isAgg_run, Try.underlying115]⟩
instance : ZeroT Try.prog 115 (.int .u64 0) := ⟨by kernel_rfl⟩
instance : InfoT Try.prog 116 1 8 := ⟨by kernel_rfl⟩
instance : FlatT Try.prog 116 := ⟨fun w => by rw [isAgg_run, Try.underlying116]⟩
instance : ZeroT Try.prog 116 (.nilFunc) := ⟨by kernel_rfl⟩
instance : InfoT Try.prog 117 1 8 := ⟨by kernel_rfl⟩
instance : FlatT Try.prog 117 := ⟨fun w => by rw [isAgg_run, Try.underlying117]⟩
instance : ZeroT Try.prog 117 (.nilFunc) := ⟨by kernel_rfl⟩
instance : InfoT Try.prog 118 1 8 := ⟨by kernel_rfl⟩
instance : FlatT Try.prog 118 := ⟨fun w => by rw [isAgg_run, Try.underlying118]⟩
instance : ZeroT Try.prog 118 (.nilFunc) := ⟨by kernel_rfl⟩
instance : InfoT Try.prog 119 1 8 := ⟨by kernel_rfl⟩
instance : FlatT Try.prog 119 := ⟨fun w => by rw [isAgg_run, Try.underlying119]⟩
instance : ZeroT Try.prog 119 (.nilFunc) := ⟨by kernel_rfl⟩
instance : StructT Try.prog 120 [(0, 1)] := ⟨_, Try.underlying120, by kernel_rfl⟩
instance : InfoT Try.prog 120 1 4 := ⟨by kernel_rfl⟩
instance : AggT Try.prog 120 := ⟨fun w => by rw [isAgg_run, Try.underlying120]⟩
instance : ZeroT Try.prog 120 (.agg (([.int .u32 0] : List Value)).toArray) := ⟨by kernel_rfl⟩
instance : StructT Try.prog 121 [(0, 1)] := ⟨_, Try.underlying121, by kernel_rfl⟩
instance : InfoT Try.prog 121 1 4 := ⟨by kernel_rfl⟩
instance : AggT Try.prog 121 := ⟨fun w => by rw [isAgg_run, Try.underlying121]⟩
instance : ZeroT Try.prog 121 (.agg (([.int .u32 0] : List Value)).toArray) := ⟨by kernel_rfl⟩
instance : ArrT Try.prog 122 2 33 := ⟨Try.underlying122⟩
instance : InfoT Try.prog 122 2 8 := ⟨by kernel_rfl⟩
instance : AggT Try.prog 122 := ⟨fun w => by rw [isAgg_run, Try.underlying122]⟩
instance : ZeroT Try.prog 122 (.agg (([.int .u32 0, .int .u32 0] : List Value)).toArray) := ⟨by kernel_rfl⟩
instance : SliceT Try.prog 123 122 := ⟨Try.underlying123⟩
instance : InfoT Try.prog 123 1 24 := ⟨by kernel_rfl⟩
instance : FlatT Try.prog 123 := ⟨fun w => by rw [isAgg_run, Try.underlying123]⟩
instance : ZeroT Try.prog 123 (.slice none 0 0) := ⟨by kernel_rfl⟩
instance : InfoT Try.prog 124 1 8 := ⟨by kernel_rfl⟩
instance : FlatT Try.prog 124 := ⟨fun w => by rw [isAgg_run, Try.underlying124]⟩
instance : ZeroT Try.prog 124 (.nilFunc) := ⟨by kernel_rfl⟩
instance : InfoT Try.prog 125 1 8 := ⟨by kernel_rfl⟩
instance : FlatT Try.prog 125 := ⟨fun w => by rw [isAgg_run, Try.underlying125]⟩
instance : ZeroT Try.prog 125 (.nilFunc) := ⟨by kernel_rfl⟩
instance : InfoT Try.prog 126 1 8 := ⟨by kernel_rfl⟩
instance : FlatT Try.prog 126 := ⟨fun w => by rw [isAgg_run, Try.underlying126]⟩
instance : ZeroT Try.prog 126 (.nilFunc) := ⟨by kernel_rfl⟩
instance : IntT Try.prog 127 .i64 := ⟨Try.underlying127⟩
instance : InfoT Try.prog 127 1 8 := ⟨by kernel_rfl⟩
instance : FlatT Try.prog 127 := ⟨fun w => by rw [isAgg_run, Try.underlying127]⟩
instance : ZeroT Try.prog 127 (.int .i64 0) := ⟨by kernel_rfl⟩
instance : InfoT Try.prog 129 1 8 := ⟨by kernel_rfl⟩
instance : FlatT Try.prog 129 := ⟨fun w => by rw [isAgg_run, Try.underlying129]⟩
instance : ZeroT Try.prog 129 (.nilFunc) := ⟨by kernel_rfl⟩
instance : InfoT Try.prog 130 1 8 := ⟨by kernel_rfl⟩
instance : FlatT Try.prog 130 := ⟨fun w => by rw [isAgg_run, Try.underlying130]⟩
instance : ZeroT Try.prog 130 (.nilFunc) := ⟨by kernel_rfl⟩
instance : InfoT Try.prog 131 1 8 := ⟨by kernel_rfl⟩
instance : FlatT Try.prog 131 := ⟨fun w => by rw [isAgg_run, Try.underlying131]⟩
instance : ZeroT Try.prog 131 (.nilFunc) := ⟨by kernel_rfl⟩
instance : InfoT Try.prog 132 1 8 := ⟨by kernel_rfl⟩
instance : FlatT Try.prog 132 := ⟨fun w => by rw [isAgg_run, Try.underlying132]⟩
instance : ZeroT Try.prog 132 (.nilFunc) := ⟨by kernel_rfl⟩
instance : InfoT Try.prog 134 1 8 := ⟨by kernel_rfl⟩
instance : FlatT Try.prog 134 := ⟨fun w => by rw [isAgg_run, Try.underlying134]⟩
instance : ZeroT Try.prog 134 (.nilFunc) := ⟨by kernel_rfl⟩
instance : InfoT Try.prog 135 1 8 := ⟨by kernel_rfl⟩
instance : FlatT Try.prog 135 := ⟨fun w => by rw [isAgg_run, Try.underlying135]⟩
instance : ZeroT Try.prog 135 (.nilFunc) := ⟨by kernel_rfl⟩
instance : InfoT Try.prog 136 1 8 := ⟨by kernel_rfl⟩
instance : FlatT Try.prog 136 := ⟨fun w => by rw [isAgg_run, Try.underlying136]⟩
instance : ZeroT Try.prog 136 (.nilFunc) := ⟨by kernel_rfl⟩
instance : InfoT Try.prog 137 1 8 := ⟨by kernel_rfl⟩
instance : FlatT Try.prog 137 := ⟨fun w => by rw [isAgg_run, Try.underlying137]⟩
instance : ZeroT Try.prog 137 (.nilFunc) := ⟨by kernel_rfl⟩
instance : InfoT Try.prog 138 1 8 := ⟨by kernel_rfl⟩
instance : FlatT Try.prog 138 := ⟨fun w => by rw [isAgg_run, Try.underlying138]⟩
instance : ZeroT Try.prog 138 (.nilFunc) := ⟨by kernel_rfl⟩
instance : InfoT Try.prog 139 1 8 := ⟨by kernel_rfl⟩
instance : FlatT Try.prog 139 := ⟨fun w => by rw [isAgg_run, Try.underlying139]⟩
instance : ZeroT Try.prog 139 (.nilFunc) := ⟨by kernel_rfl⟩
instance : InfoT Try.prog 140 1 8 := ⟨by kernel_rfl⟩
instance : FlatT Try.prog 140 := ⟨fun w => by rw [isAgg_run, Try.underlying140]⟩
instance : ZeroT Try.prog 140 (.nilFunc) := ⟨by kernel_rfl⟩
instance : InfoT Try.prog 141 1 8 := ⟨by kernel_rfl⟩
instance : FlatT Try.prog 141 := ⟨fun w => by rw [isAgg_run, Try.underlying141]⟩
instance : ZeroT Try.prog 141 (.nilFunc) := ⟨by kernel_rfl⟩
instance : IntT Try.prog 142 .u64 := ⟨Try.underlying142⟩
instance : InfoT Try.prog 142 1 8 := ⟨by kernel_rfl⟩
instance : FlatT Try.prog 142 := ⟨fun w => by rw [isAgg_run, Try.underlying142]⟩
instance : ZeroT Try.prog 142 (.int .u64 0) := ⟨by kernel_rfl⟩
instance : InfoT Try.prog 143 1 8 := ⟨by kernel_rfl⟩
instance : FlatT Try.prog 143 := ⟨fun w => by rw [isAgg_run, Try.underlying143]⟩
instance : ZeroT Try.prog 143 (.nilFunc) := ⟨by kernel_rfl⟩
instance : InfoT Try.prog 144 1 8 := ⟨by kernel_rfl⟩
instance : FlatT Try.prog 144 := ⟨fun w => by rw [isAgg_run, Try.underlying144]⟩
instance : ZeroT Try.prog 144 (.nilFunc) := ⟨by kernel_rfl⟩
instance : InfoT Try.prog 145 1 8 := ⟨by kernel_rfl⟩
instance : FlatT Try.prog 145 := ⟨fun w => by rw [isAgg_run, Try.underlying145]⟩
instance : ZeroT Try.prog 145 (.nilFunc) := ⟨by kernel_rfl⟩
instance : PtrT Try.prog 146 3 := ⟨Try.underlying146⟩
instance : InfoT Try.prog 146 1 8 := ⟨by kernel_rfl⟩
instance : FlatT Try.prog 146 := ⟨fun w => by rw [isAgg_run, Try.underlying146]⟩
instance : ZeroT Try.prog 146 (.pointer none) := ⟨by kernel_rfl⟩
instance : InfoT Try.prog 147 1 8 := ⟨by kernel_rfl⟩
instance : FlatT Try.prog 147 := ⟨fun w => by rw [isAgg_run, Try.underlying147]⟩
instance : ZeroT Try.prog 147 (.nilFunc) := ⟨by kernel_rfl⟩
instance : InfoT Try.prog 148 1 8 := ⟨by kernel_rfl⟩
instance : FlatT Try.prog 148 := ⟨fun w => by rw [isAgg_run, Try.underlying148]⟩
instance : ZeroT Try.prog 148 (.nilFunc) := ⟨by kernel_rfl⟩
instance : InfoT Try.prog 149 1 8 := ⟨by kernel_rfl⟩
instance : FlatT Try.prog 149 := ⟨fun w => by rw [isAgg_run, Try.underlying149]⟩
instance : ZeroT Try.prog 149 (.nilFunc) := ⟨by kernel_rfl⟩
instance : PtrT Try.prog 150 142 := ⟨Try.underlying150⟩
instance : InfoT Try.prog 150 1 8 := ⟨by kernel_rfl⟩
instance : FlatT Try.prog 150 := ⟨fun w => by rw [isAgg_run, Try.underlying150]⟩
instance : ZeroT Try.prog 150 (.pointer none) := ⟨by kernel_rfl⟩
instance : InfoT Try.prog 152 1 8 := ⟨by kernel_rfl⟩
instance : FlatT Try.prog 152 := ⟨fun w => by rw [isAgg_run, Try.underlying152]⟩
instance : ZeroT Try.prog 152 (.nilFunc) := ⟨by kernel_rfl⟩
instance : InfoT Try.prog 153 1 8 := ⟨by kernel_rfl⟩
instance : FlatT Try.prog 153 := ⟨fun w => by rw [isAgg_run, Try.underlying153]⟩
instance : ZeroT Try.prog 153 (.nilFunc) := ⟨by kernel_rfl⟩
instance : InfoT Try.prog 154 1 8 := ⟨by kernel_rfl⟩
instance : FlatT Try.prog 154 := ⟨fun w => by rw [isAgg_run, Try.underlying154]⟩
instance : ZeroT Try.prog 154 (.nilFunc) := ⟨by kernel_rfl⟩
instance : StructT Try.prog 155 [(0, 1), (1, 1), (2, 1), (3, 1)] := ⟨_, Try.underlying155, by kernel_rfl⟩
instance : InfoT Try.prog 155 4 40 := ⟨by kernel_rfl⟩
instance : AggT Try.prog 155 := ⟨fun w => by rw [isAgg_run, Try.underlying155]⟩
instance : ZeroT Try.prog 155 (.agg (([.pointer none, .pointer none, .pointer none] : List Value) ++ ([.string ByteArray.empty] : List Value)).toArray) := ⟨by kernel_rfl⟩
instance : StructT Try.prog 156 [(0, 1), (1, 1), (2, 1), (3, 1)] := ⟨_, Try.underlying156, by kernel_rfl⟩
instance : InfoT Try.prog 156 4 40 := ⟨by kernel_rfl⟩
instance : AggT Try.prog 156 := ⟨fun w => by rw [isAgg_run, Try.underlying156]⟩
instance : ZeroT Try.prog 156 (.agg (([.pointer none, .pointer none, .pointer none] : List Value) ++ ([.string ByteArray.empty] : List Value)).toArray) := ⟨by kernel_rfl⟩
instance : ArrT Try.prog 157 0 16 := ⟨Try.underlying157⟩
instance : InfoT Try.prog 157 0 0 := ⟨by kernel_rfl⟩
instance : AggT Try.prog 157 := ⟨fun w => by rw [isAgg_run, Try.underlying157]⟩
instance : ZeroT Try.prog 157 (.agg (([] : List Value)).toArray) := ⟨by kernel_rfl⟩
instance : StructT Try.prog 158 [(0, 0)] := ⟨_, Try.underlying158, by kernel_rfl⟩
instance : InfoT Try.prog 158 0 0 := ⟨by kernel_rfl⟩
instance : AggT Try.prog 158 := ⟨fun w => by rw [isAgg_run, Try.underlying158]⟩
instance : ZeroT Try.prog 158 (.agg (([] : List Value)).toArray) := ⟨by kernel_rfl⟩
instance : StructT Try.prog 159 [(0, 0)] := ⟨_, Try.underlying159, by kernel_rfl⟩
instance : InfoT Try.prog 159 0 0 := ⟨by kernel_rfl⟩
instance : AggT Try.prog 159 := ⟨fun w => by rw [isAgg_run, Try.underlying159]⟩
instance : ZeroT Try.prog 159 (.agg (([] : List Value)).toArray) := ⟨by kernel_rfl⟩
instance : IntT Try.prog 160 .u8 := ⟨Try.underlying160⟩
instance : InfoT Try.prog 160 1 1 := ⟨by kernel_rfl⟩
instance : FlatT Try.prog 160 := ⟨fun w => by rw [isAgg_run, Try.underlying160]⟩
instance : ZeroT Try.prog 160 (.int .u8 0) := ⟨by kernel_rfl⟩
instance : IntT Try.prog 161 .u8 := ⟨Try.underlying161⟩
instance : InfoT Try.prog 161 1 1 := ⟨by kernel_rfl⟩
instance : FlatT Try.prog 161 := ⟨fun w => by rw [isAgg_run, Try.underlying161]⟩
instance : ZeroT Try.prog 161 (.int .u8 0) := ⟨by kernel_rfl⟩
instance : InfoT Try.prog 162 1 8 := ⟨by kernel_rfl⟩
instance : FlatT Try.prog 162 := ⟨fun w => by rw [isAgg_run, Try.underlying162]⟩
instance : ZeroT Try.prog 162 (.nilFunc) := ⟨by kernel_rfl⟩
instance : PtrT Try.prog 163 5 := ⟨Try.underlying163⟩
instance : InfoT Try.prog 163 1 8 := ⟨by kernel_rfl⟩
instance : FlatT Try.prog 163 := ⟨fun w => by rw [isAgg_run, Try.underlying163]⟩
instance : ZeroT Try.prog 163 (.pointer none) := ⟨by kernel_rfl⟩
instance : IntT Try.prog 164 .i32 := ⟨Try.underlying164⟩
instance : InfoT Try.prog 164 1 4 := ⟨by kernel_rfl⟩
instance : FlatT Try.prog 164 := ⟨fun w => by rw [isAgg_run, Try.underlying164]⟩
instance : ZeroT Try.prog 164 (.int .i32 0) := ⟨by kernel_rfl⟩
instance : IntT Try.prog 165 .i32 := ⟨Try.underlying165⟩
instance : InfoT Try.prog 165 1 4 := ⟨by kernel_rfl⟩
instance : FlatT Try.prog 165 := ⟨fun w => by rw [isAgg_run, Try.underlying165]⟩
instance : ZeroT Try.prog 165 (.int .i32 0) := ⟨by kernel_rfl⟩
instance : StructT Try.prog 166 [(0, 1), (1, 1), (2, 1), (3, 1), (4, 1), (5, 1), (6, 1), (7, 1), (8, 1), (9, 1), (10, 1)] := ⟨_, Try.underlying166, by kernel_rfl⟩
instance : InfoT Try.prog 166 11 48 := ⟨by kernel_rfl⟩
instance : AggT Try.prog 166 := ⟨fun w => by rw [isAgg_run, Try.underlying166]⟩
instance : ZeroT Try.prog 166 (.agg (([.int .u64 0, .int .u64 0] : List Value) ++ ([.int .u32 0] : List Value) ++ ([.int .u8 0, .int .u8 0, .int .u8 0, .int .u8 0] : List Value) ++ ([.nilFunc] : List Value) ++ ([.pointer none] : List Value) ++ ([.int .i32 0, .int .i32 0] : List Value)).toArray) := ⟨by kernel_rfl⟩
instance : StructT Try.prog 167 [(0, 1), (1, 1), (2, 1), (3, 1), (4, 1), (5, 1), (6, 1), (7, 1), (8, 1), (9, 1), (10, 1)] := ⟨_, Try.underlying167, by kernel_rfl⟩
instance : InfoT Try.prog 167 11 48 := ⟨by kernel_rfl⟩
instance : AggT Try.prog 167 := ⟨fun w => by rw [isAgg_run, Try.underlying167]⟩
instance : ZeroT Try.prog 167 (.agg (([.int .u64 0, .int .u64 0] : List Value) ++ ([.int .u32 0] : List Value) ++ ([.int .u8 0, .int .u8 0, .int .u8 0, .int .u8 0] : List Value) ++ ([.nilFunc] : List Value) ++ ([.pointer none] : List Value) ++ ([.int .i32 0, .int .i32 0] : List Value)).toArray) := ⟨by kernel_rfl⟩
instance : FieldT Try.prog 7 0 0 := FieldT.of (sz := 1) (by_ := 8) Try.underlying7 rfl rfl (inferInstance : InfoT Try.prog 2 1 8) (by decide)
instance : FieldT Try.prog 7 1 1 := FieldT.of (sz := 1) (by_ := 8) Try.underlying7 rfl rfl (inferInstance : InfoT Try.prog 3 1 8) (by decide)
instance : FieldT Try.prog 7 2 2 := FieldT.of (sz := 1) (by_ := 1) Try.underlying7 rfl rfl (inferInstance : InfoT Try.prog 4 1 1) (by decide)
instance : FieldT Try.prog 7 3 3 := FieldT.of (sz := 1) (by_ := 1) Try.underlying7 rfl rfl (inferInstance : InfoT Try.prog 6 1 1) (by decide)
instance : FieldT Try.prog 8 0 0 := FieldT.of (sz := 1) (by_ := 8) Try.underlying8 rfl rfl (inferInstance : InfoT Try.prog 2 1 8) (by decide)
instance : FieldT Try.prog 8 1 1 := FieldT.of (sz := 1) (by_ := 8) Try.underlying8 rfl rfl (inferInstance : InfoT Try.prog 3 1 8) (by decide)
instance : FieldT Try.prog 8 2 2 := FieldT.of (sz := 1) (by_ := 1) Try.underlying8 rfl rfl (inferInstance : InfoT Try.prog 4 1 1) (by decide)
instance : FieldT Try.prog 8 3 3 := FieldT.of (sz := 1) (by_ := 1) Try.underlying8 rfl rfl (inferInstance : InfoT Try.prog 6 1 1) (by decide)
instance : FieldT Try.prog 13 0 0 := FieldT.of (sz := 1) (by_ := 16) Try.underlying13 rfl rfl (inferInstance : InfoT Try.prog 9 1 16) (by decide)
instance : FieldT Try.prog 13 1 1 := FieldT.of (sz := 1) (by_ := 8) Try.underlying13 rfl rfl (inferInstance : InfoT Try.prog 12 1 8) (by decide)
instance : FieldT Try.prog 14 0 0 := FieldT.of (sz := 1) (by_ := 16) Try.underlying14 rfl rfl (inferInstance : InfoT Try.prog 9 1 16) (by decide)
instance : FieldT Try.prog 14 1 1 := FieldT.of (sz := 1) (by_ := 8) Try.underlying14 rfl rfl (inferInstance : InfoT Try.prog 12 1 8) (by decide)
instance : FieldT Try.prog 18 0 0 := FieldT.of (sz := 1) (by_ := 8) Try.underlying18 rfl rfl (inferInstance : InfoT Try.prog 17 1 8) (by decide)
instance : FieldT Try.prog 19 0 0 := FieldT.of (sz := 1) (by_ := 8) Try.underlying19 rfl rfl (inferInstance : InfoT Try.prog 17 1 8) (by decide)
instance : FieldT Try.prog 44 0 0 := FieldT.of (sz := 1) (by_ := 1) Try.underlying44 rfl rfl (inferInstance : InfoT Try.prog 5 1 1) (by decide)
instance : FieldT Try.prog 44 1 1 := FieldT.of (sz := 1) (by_ := 16) Try.underlying44 rfl rfl (inferInstance : InfoT Try.prog 9 1 16) (by decide)
instance : FieldT Try.prog 44 2 2 := FieldT.of (sz := 1) (by_ := 16) Try.underlying44 rfl rfl (inferInstance : InfoT Try.prog 9 1 16) (by decide)
instance : FieldT Try.prog 44 3 3 := FieldT.of (sz := 1) (by_ := 8) Try.underlying44 rfl rfl (inferInstance : InfoT Try.prog 3 1 8) (by decide)
instance : FieldT Try.prog 44 4 4 := FieldT.of (sz := 1) (by_ := 24) Try.underlying44 rfl rfl (inferInstance : InfoT Try.prog 30 1 24) (by decide)
instance : FieldT Try.prog 44 5 5 := FieldT.of (sz := 1) (by_ := 24) Try.underlying44 rfl rfl (inferInstance : InfoT Try.prog 43 1 24) (by decide)
instance : FieldT Try.prog 45 0 0 := FieldT.of (sz := 1) (by_ := 1) Try.underlying45 rfl rfl (inferInstance : InfoT Try.prog 5 1 1) (by decide)
instance : FieldT Try.prog 45 1 1 := FieldT.of (sz := 1) (by_ := 16) Try.underlying45 rfl rfl (inferInstance : InfoT Try.prog 9 1 16) (by decide)
instance : FieldT Try.prog 45 2 2 := FieldT.of (sz := 1) (by_ := 16) Try.underlying45 rfl rfl (inferInstance : InfoT Try.prog 9 1 16) (by decide)
instance : FieldT Try.prog 45 3 3 := FieldT.of (sz := 1) (by_ := 8) Try.underlying45 rfl rfl (inferInstance : InfoT Try.prog 3 1 8) (by decide)
instance : FieldT Try.prog 45 4 4 := FieldT.of (sz := 1) (by_ := 24) Try.underlying45 rfl rfl (inferInstance : InfoT Try.prog 30 1 24) (by decide)
instance : FieldT Try.prog 45 5 5 := FieldT.of (sz := 1) (by_ := 24) Try.underlying45 rfl rfl (inferInstance : InfoT Try.prog 43 1 24) (by decide)
instance : FieldT Try.prog 55 0 0 := FieldT.of (sz := 1) (by_ := 8) Try.underlying55 rfl rfl (inferInstance : InfoT Try.prog 3 1 8) (by decide)
instance : FieldT Try.prog 55 1 1 := FieldT.of (sz := 1) (by_ := 8) Try.underlying55 rfl rfl (inferInstance : InfoT Try.prog 3 1 8) (by decide)
instance : FieldT Try.prog 55 2 2 := FieldT.of (sz := 1) (by_ := 24) Try.underlying55 rfl rfl (inferInstance : InfoT Try.prog 22 1 24) (by decide)
instance : FieldT Try.prog 56 0 0 := FieldT.of (sz := 1) (by_ := 8) Try.underlying56 rfl rfl (inferInstance : InfoT Try.prog 3 1 8) (by decide)
instance : FieldT Try.prog 56 1 1 := FieldT.of (sz := 1) (by_ := 8) Try.underlying56 rfl rfl (inferInstance : InfoT Try.prog 3 1 8) (by decide)
instance : FieldT Try.prog 56 2 2 := FieldT.of (sz := 1) (by_ := 24) Try.underlying56 rfl rfl (inferInstance : InfoT Try.prog 22 1 24) (by decide)
instance : FieldT Try.prog 66 0 0 := FieldT.of (sz := 1) (by_ := 8) Try.underlying66 rfl rfl (inferInstance : InfoT Try.prog 3 1 8) (by decide)
instance : FieldT Try.prog 66 1 1 := FieldT.of (sz := 1) (by_ := 8) Try.underlying66 rfl rfl (inferInstance : InfoT Try.prog 64 1 8) (by decide)
instance : FieldT Try.prog 66 2 2 := FieldT.of (sz := 1) (by_ := 8) Try.underlying66 rfl rfl (inferInstance : InfoT Try.prog 64 1 8) (by decide)
instance : FieldT Try.prog 66 3 3 := FieldT.of (sz := 1) (by_ := 24) Try.underlying66 rfl rfl (inferInstance : InfoT Try.prog 65 1 24) (by decide)
instance : FieldT Try.prog 66 4 4 := FieldT.of (sz := 1) (by_ := 8) Try.underlying66 rfl rfl (inferInstance : InfoT Try.prog 3 1 8) (by decide)
instance : FieldT Try.prog 66 5 5 := FieldT.of (sz := 1) (by_ := 8) Try.underlying66 rfl rfl (inferInstance : InfoT Try.prog 3 1 8) (by decide)
instance : FieldT Try.prog 66 6 6 := FieldT.of (sz := 1) (by_ := 1) Try.underlying66 rfl rfl (inferInstance : InfoT Try.prog 4 1 1) (by decide)
instance : FieldT Try.prog 67 0 0 := FieldT.of (sz := 1) (by_ := 8) Try.underlying67 rfl rfl (inferInstance : InfoT Try.prog 3 1 8) (by decide)
instance : FieldT Try.prog 67 1 1 := FieldT.of (sz := 1) (by_ := 8) Try.underlying67 rfl rfl (inferInstance : InfoT Try.prog 64 1 8) (by decide)
instance : FieldT Try.prog 67 2 2 := FieldT.of (sz := 1) (by_ := 8) Try.underlying67 rfl rfl (inferInstance : InfoT Try.prog 64 1 8) (by decide)
instance : FieldT Try.prog 67 3 3 := FieldT.of (sz := 1) (by_ := 24) Try.underlying67 rfl rfl (inferInstance : InfoT Try.prog 65 1 24) (by decide)
instance : FieldT Try.prog 67 4 4 := FieldT.of (sz := 1) (by_ := 8) Try.underlying67 rfl rfl (inferInstance : InfoT Try.prog 3 1 8) (by decide)
instance : FieldT Try.prog 67 5 5 := FieldT.of (sz := 1) (by_ := 8) Try.underlying67 rfl rfl (inferInstance : InfoT Try.prog 3 1 8) (by decide)
instance : FieldT Try.prog 67 6 6 := FieldT.of (sz := 1) (by_ := 1) Try.underlying67 rfl rfl (inferInstance : InfoT Try.prog 4 1 1) (by decide)
instance : FieldT Try.prog 76 0 0 := FieldT.of (sz := 1) (by_ := 24) Try.underlying76 rfl rfl (inferInstance : InfoT Try.prog 30 1 24) (by decide)
instance : FieldT Try.prog 76 1 1 := FieldT.of (sz := 1) (by_ := 8) Try.underlying76 rfl rfl (inferInstance : InfoT Try.prog 3 1 8) (by decide)
instance : FieldT Try.prog 77 0 0 := FieldT.of (sz := 1) (by_ := 24) Try.underlying77 rfl rfl (inferInstance : InfoT Try.prog 30 1 24) (by decide)
instance : FieldT Try.prog 77 1 1 := FieldT.of (sz := 1) (by_ := 8) Try.underlying77 rfl rfl (inferInstance : InfoT Try.prog 3 1 8) (by decide)
instance : FieldT Try.prog 79 0 0 := FieldT.of (sz := 1) (by_ := 16) Try.underlying79 rfl rfl (inferInstance : InfoT Try.prog 9 1 16) (by decide)
instance : FieldT Try.prog 79 1 1 := FieldT.of (sz := 1) (by_ := 16) Try.underlying79 rfl rfl (inferInstance : InfoT Try.prog 9 1 16) (by decide)
instance : FieldT Try.prog 79 2 2 := FieldT.of (sz := 1) (by_ := 8) Try.underlying79 rfl rfl (inferInstance : InfoT Try.prog 74 1 8) (by decide)
instance : FieldT Try.prog 80 0 0 := FieldT.of (sz := 1) (by_ := 16) Try.underlying80 rfl rfl (inferInstance : InfoT Try.prog 9 1 16) (by decide)
instance : FieldT Try.prog 80 1 1 := FieldT.of (sz := 1) (by_ := 16) Try.underlying80 rfl rfl (inferInstance : InfoT Try.prog 9 1 16) (by decide)
instance : FieldT Try.prog 80 2 2 := FieldT.of (sz := 1) (by_ := 8) Try.underlying80 rfl rfl (inferInstance : InfoT Try.prog 74 1 8) (by decide)
instance : FieldT Try.prog 91 0 0 := FieldT.of (sz := 1) (by_ := 8) Try.underlying91 rfl rfl (inferInstance : InfoT Try.prog 3 1 8) (by decide)
instance : FieldT Try.prog 91 1 1 := FieldT.of (sz := 1) (by_ := 1) Try.underlying91 rfl rfl (inferInstance : InfoT Try.prog 5 1 1) (by decide)
instance : FieldT Try.prog 92 0 0 := FieldT.of (sz := 1) (by_ := 8) Try.underlying92 rfl rfl (inferInstance : InfoT Try.prog 3 1 8) (by decide)
instance : FieldT Try.prog 92 1 1 := FieldT.of (sz := 1) (by_ := 1) Try.underlying92 rfl rfl (inferInstance : InfoT Try.prog 5 1 1) (by decide)
instance : FieldT Try.prog 120 0 0 := FieldT.of (sz := 1) (by_ := 4) Try.underlying120 rfl rfl (inferInstance : InfoT Try.prog 33 1 4) (by decide)
instance : FieldT Try.prog 121 0 0 := FieldT.of (sz := 1) (by_ := 4) Try.underlying121 rfl rfl (inferInstance : InfoT Try.prog 33 1 4) (by decide)
instance : FieldT Try.prog 155 0 0 := FieldT.of (sz := 1) (by_ := 8) Try.underlying155 rfl rfl (inferInstance : InfoT Try.prog 17 1 8) (by decide)
instance : FieldT Try.prog 155 1 1 := FieldT.of (sz := 1) (by_ := 8) Try.underlying155 rfl rfl (inferInstance : InfoT Try.prog 17 1 8) (by decide)
instance : FieldT Try.prog 155 2 2 := FieldT.of (sz := 1) (by_ := 8) Try.underlying155 rfl rfl (inferInstance : InfoT Try.prog 17 1 8) (by decide)
instance : FieldT Try.prog 155 3 3 := FieldT.of (sz := 1) (by_ := 16) Try.underlying155 rfl rfl (inferInstance : InfoT Try.prog 9 1 16) (by decide)
instance : FieldT Try.prog 156 0 0 := FieldT.of (sz := 1) (by_ := 8) Try.underlying156 rfl rfl (inferInstance : InfoT Try.prog 17 1 8) (by decide)
instance : FieldT Try.prog 156 1 1 := FieldT.of (sz := 1) (by_ := 8) Try.underlying156 rfl rfl (inferInstance : InfoT Try.prog 17 1 8) (by decide)
instance : FieldT Try.prog 156 2 2 := FieldT.of (sz := 1) (by_ := 8) Try.underlying156 rfl rfl (inferInstance : InfoT Try.prog 17 1 8) (by decide)
instance : FieldT Try.prog 156 3 3 := FieldT.of (sz := 1) (by_ := 16) Try.underlying156 rfl rfl (inferInstance : InfoT Try.prog 9 1 16) (by decide)
instance : FieldT Try.prog 166 0 0 := FieldT.of (sz := 1) (by_ := 8) Try.underlying166 rfl rfl (inferInstance : InfoT Try.prog 12 1 8) (by decide)
instance : FieldT Try.prog 166 1 1 := FieldT.of (sz := 1) (by_ := 8) Try.underlying166 rfl rfl (inferInstance : InfoT Try.prog 12 1 8) (by decide)
instance : FieldT Try.prog 166 2 2 := FieldT.of (sz := 1) (by_ := 4) Try.underlying166 rfl rfl (inferInstance : InfoT Try.prog 33 1 4) (by decide)
instance : FieldT Try.prog 166 3 3 := FieldT.of (sz := 1) (by_ := 1) Try.underlying166 rfl rfl (inferInstance : InfoT Try.prog 160 1 1) (by decide)
instance : FieldT Try.prog 166 4 4 := FieldT.of (sz := 1) (by_ := 1) Try.underlying166 rfl rfl (inferInstance : InfoT Try.prog 5 1 1) (by decide)
instance : FieldT Try.prog 166 5 5 := FieldT.of (sz := 1) (by_ := 1) Try.underlying166 rfl rfl (inferInstance : InfoT Try.prog 5 1 1) (by decide)
instance : FieldT Try.prog 166 6 6 := FieldT.of (sz := 1) (by_ := 1) Try.underlying166 rfl rfl (inferInstance : InfoT Try.prog 161 1 1) (by decide)
instance : FieldT Try.prog 166 7 7 := FieldT.of (sz := 1) (by_ := 8) Try.underlying166 rfl rfl (inferInstance : InfoT Try.prog 162 1 8) (by decide)
instance : FieldT Try.prog 166 8 8 := FieldT.of (sz := 1) (by_ := 8) Try.underlying166 rfl rfl (inferInstance : InfoT Try.prog 163 1 8) (by decide)
instance : FieldT Try.prog 166 9 9 := FieldT.of (sz := 1) (by_ := 4) Try.underlying166 rfl rfl (inferInstance : InfoT Try.prog 164 1 4) (by decide)
instance : FieldT Try.prog 166 10 10 := FieldT.of (sz := 1) (by_ := 4) Try.underlying166 rfl rfl (inferInstance : InfoT Try.prog 165 1 4) (by decide)
instance : FieldT Try.prog 167 0 0 := FieldT.of (sz := 1) (by_ := 8) Try.underlying167 rfl rfl (inferInstance : InfoT Try.prog 12 1 8) (by decide)
instance : FieldT Try.prog 167 1 1 := FieldT.of (sz := 1) (by_ := 8) Try.underlying167 rfl rfl (inferInstance : InfoT Try.prog 12 1 8) (by decide)
instance : FieldT Try.prog 167 2 2 := FieldT.of (sz := 1) (by_ := 4) Try.underlying167 rfl rfl (inferInstance : InfoT Try.prog 33 1 4) (by decide)
instance : FieldT Try.prog 167 3 3 := FieldT.of (sz := 1) (by_ := 1) Try.underlying167 rfl rfl (inferInstance : InfoT Try.prog 160 1 1) (by decide)
instance : FieldT Try.prog 167 4 4 := FieldT.of (sz := 1) (by_ := 1) Try.underlying167 rfl rfl (inferInstance : InfoT Try.prog 5 1 1) (by decide)
instance : FieldT Try.prog 167 5 5 := FieldT.of (sz := 1) (by_ := 1) Try.underlying167 rfl rfl (inferInstance : InfoT Try.prog 5 1 1) (by decide)
instance : FieldT Try.prog 167 6 6 := FieldT.of (sz := 1) (by_ := 1) Try.underlying167 rfl rfl (inferInstance : InfoT Try.prog 161 1 1) (by decide)
instance : FieldT Try.prog 167 7 7 := FieldT.of (sz := 1) (by_ := 8) Try.underlying167 rfl rfl (inferInstance : InfoT Try.prog 162 1 8) (by decide)
instance : FieldT Try.prog 167 8 8 := FieldT.of (sz := 1) (by_ := 8) Try.underlying167 rfl rfl (inferInstance : InfoT Try.prog 163 1 8) (by decide)
instance : FieldT Try.prog 167 9 9 := FieldT.of (sz := 1) (by_ := 4) Try.underlying167 rfl rfl (inferInstance : InfoT Try.prog 164 1 4) (by decide)
instance : FieldT Try.prog 167 10 10 := FieldT.of (sz := 1) (by_ := 4) Try.underlying167 rfl rfl (inferInstance : InfoT Try.prog 165 1 4) (by decide)
instance : Enters Try.prog 3 := Enters.of Try.func3 (by kernel_rfl) (by kernel_rfl)
instance : Enters Try.prog 4 := Enters.of Try.func4 (by kernel_rfl) (by kernel_rfl)
instance : Enters Try.prog 5 := Enters.of Try.func5 (by kernel_rfl) (by kernel_rfl)
instance : Enters Try.prog 6 := Enters.of Try.func6 (by kernel_rfl) (by kernel_rfl)
instance : Enters Try.prog 7 := Enters.of Try.func7 (by kernel_rfl) (by kernel_rfl)
instance : Enters Try.prog 8 := Enters.of Try.func8 (by kernel_rfl) (by kernel_rfl)
instance : Enters Try.prog 9 := Enters.of Try.func9 (by kernel_rfl) (by kernel_rfl)
instance : Enters Try.prog 10 := Enters.of Try.func10 (by kernel_rfl) (by kernel_rfl)
instance : Enters Try.prog 11 := Enters.of Try.func11 (by kernel_rfl) (by kernel_rfl)
instance : Enters Try.prog 12 := Enters.of Try.func12 (by kernel_rfl) (by kernel_rfl)
instance : Enters Try.prog 13 := Enters.of Try.func13 (by kernel_rfl) (by kernel_rfl)
instance : Enters Try.prog 14 := Enters.of Try.func14 (by kernel_rfl) (by kernel_rfl)
instance : Enters Try.prog 15 := Enters.of Try.func15 (by kernel_rfl) (by kernel_rfl)
instance : Enters Try.prog 16 := Enters.of Try.func16 (by kernel_rfl) (by kernel_rfl)
instance : Enters Try.prog 17 := Enters.of Try.func17 (by kernel_rfl) (by kernel_rfl)
instance : Enters Try.prog 18 := Enters.of Try.func18 (by kernel_rfl) (by kernel_rfl)
instance : Enters Try.prog 19 := Enters.of Try.func19 (by kernel_rfl) (by kernel_rfl)
instance : Enters Try.prog 20 := Enters.of Try.func20 (by kernel_rfl) (by kernel_rfl)
instance : Enters Try.prog 21 := Enters.of Try.func21 (by kernel_rfl) (by kernel_rfl)
instance : Enters Try.prog 22 := Enters.of Try.func22 (by kernel_rfl) (by kernel_rfl)
instance : Enters Try.prog 23 := Enters.of Try.func23 (by kernel_rfl) (by kernel_rfl)
instance : Enters Try.prog 24 := Enters.of Try.func24 (by kernel_rfl) (by kernel_rfl)
instance : Enters Try.prog 25 := Enters.of Try.func25 (by kernel_rfl) (by kernel_rfl)
instance : Enters Try.prog 26 := Enters.of Try.func26 (by kernel_rfl) (by kernel_rfl)
instance : Enters Try.prog 27 := Enters.of Try.func27 (by kernel_rfl) (by kernel_rfl)
instance : Enters Try.prog 28 := Enters.of Try.func28 (by kernel_rfl) (by kernel_rfl)
instance : Enters Try.prog 29 := Enters.of Try.func29 (by kernel_rfl) (by kernel_rfl)
instance : Enters Try.prog 30 := Enters.of Try.func30 (by kernel_rfl) (by kernel_rfl)
instance : Enters Try.prog 31 := Enters.of Try.func31 (by kernel_rfl) (by kernel_rfl)
instance : Enters Try.prog 32 := Enters.of Try.func32 (by kernel_rfl) (by kernel_rfl)
instance : Enters Try.prog 33 := Enters.of Try.func33 (by kernel_rfl) (by kernel_rfl)
instance : Enters Try.prog 34 := Enters.of Try.func34 (by kernel_rfl) (by kernel_rfl)
instance : Enters Try.prog 35 := Enters.of Try.func35 (by kernel_rfl) (by kernel_rfl)
instance : Enters Try.prog 36 := Enters.of Try.func36 (by kernel_rfl) (by kernel_rfl)
instance : Enters Try.prog 37 := Enters.of Try.func37 (by kernel_rfl) (by kernel_rfl)
instance : Enters Try.prog 38 := Enters.of Try.func38 (by kernel_rfl) (by kernel_rfl)
instance : Enters Try.prog 39 := Enters.of Try.func39 (by kernel_rfl) (by kernel_rfl)
instance : Enters Try.prog 40 := Enters.of Try.func40 (by kernel_rfl) (by kernel_rfl)
instance : Enters Try.prog 41 := Enters.of Try.func41 (by kernel_rfl) (by kernel_rfl)
instance : Enters Try.prog 42 := Enters.of Try.func42 (by kernel_rfl) (by kernel_rfl)
instance : Enters Try.prog 43 := Enters.of Try.func43 (by kernel_rfl) (by kernel_rfl)
instance : Enters Try.prog 44 := Enters.of Try.func44 (by kernel_rfl) (by kernel_rfl)
instance : Enters Try.prog 45 := Enters.of Try.func45 (by kernel_rfl) (by kernel_rfl)
instance : Enters Try.prog 46 := Enters.of Try.func46 (by kernel_rfl) (by kernel_rfl)
instance : Enters Try.prog 47 := Enters.of Try.func47 (by kernel_rfl) (by kernel_rfl)
instance : Enters Try.prog 48 := Enters.of Try.func48 (by kernel_rfl) (by kernel_rfl)
instance : Enters Try.prog 49 := Enters.of Try.func49 (by kernel_rfl) (by kernel_rfl)
instance : Enters Try.prog 50 := Enters.of Try.func50 (by kernel_rfl) (by kernel_rfl)
instance : Enters Try.prog 51 := Enters.of Try.func51 (by kernel_rfl) (by kernel_rfl)
instance : Enters Try.prog 52 := Enters.of Try.func52 (by kernel_rfl) (by kernel_rfl)
instance : Enters Try.prog 53 := Enters.of Try.func53 (by kernel_rfl) (by kernel_rfl)
instance : Enters Try.prog 54 := Enters.of Try.func54 (by kernel_rfl) (by kernel_rfl)
instance : Enters Try.prog 55 := Enters.of Try.func55 (by kernel_rfl) (by kernel_rfl)
instance : Enters Try.prog 56 := Enters.of Try.func56 (by kernel_rfl) (by kernel_rfl)
instance : Enters Try.prog 57 := Enters.of Try.func57 (by kernel_rfl) (by kernel_rfl)
instance : Enters Try.prog 58 := Enters.of Try.func58 (by kernel_rfl) (by kernel_rfl)
instance : Enters Try.prog 59 := Enters.of Try.func59 (by kernel_rfl) (by kernel_rfl)
instance : Enters Try.prog 60 := Enters.of Try.func60 (by kernel_rfl) (by kernel_rfl)
instance : Enters Try.prog 61 := Enters.of Try.func61 (by kernel_rfl) (by kernel_rfl)
instance : Enters Try.prog 62 := Enters.of Try.func62 (by kernel_rfl) (by kernel_rfl)
instance : Enters Try.prog 63 := Enters.of Try.func63 (by kernel_rfl) (by kernel_rfl)
instance : Enters Try.prog 64 := Enters.of Try.func64 (by kernel_rfl) (by kernel_rfl)
instance : Enters Try.prog 65 := Enters.of Try.func65 (by kernel_rfl) (by kernel_rfl)
instance : Enters Try.prog 67 := Enters.of Try.func67 (by kernel_rfl) (by kernel_rfl)
instance : Enters Try.prog 68 := Enters.of Try.func68 (by kernel_rfl) (by kernel_rfl)
instance : Enters Try.prog 69 := Enters.of Try.func69 (by kernel_rfl) (by kernel_rfl)
instance : Enters Try.prog 70 := Enters.of Try.func70 (by kernel_rfl) (by kernel_rfl)
instance : Enters Try.prog 71 := Enters.of Try.func71 (by kernel_rfl) (by kernel_rfl)
instance : Enters Try.prog 72 := Enters.of Try.func72 (by kernel_rfl) (by kernel_rfl)
instance : Enters Try.prog 73 := Enters.of Try.func73 (by kernel_rfl) (by kernel_rfl)
instance : Enters Try.prog 74 := Enters.of Try.func74 (by kernel_rfl) (by kernel_rfl)
instance : Enters Try.prog 75 := Enters.of Try.func75 (by kernel_rfl) (by kernel_rfl)
instance : Enters Try.prog 76 := Enters.of Try.func76 (by kernel_rfl) (by kernel_rfl)
instance : Enters Try.prog 77 := Enters.of Try.func77 (by kernel_rfl) (by kernel_rfl)
instance : Enters Try.prog 78 := Enters.of Try.func78 (by kernel_rfl) (by kernel_rfl)
instance : Enters Try.prog 79 := Enters.of Try.func79 (by kernel_rfl) (by kernel_rfl)
instance : Enters Try.prog 80 := Enters.of Try.func80 (by kernel_rfl) (by kernel_rfl)
instance : Enters Try.prog 81 := Enters.of Try.func81 (by kernel_rfl) (by kernel_rfl)
instance : Enters Try.prog 82 := Enters.of Try.func82 (by kernel_rfl) (by kernel_rfl)
instance : Enters Try.prog 83 := Enters.of Try.func83 (by kernel_rfl) (by kernel_rfl)
instance : Enters Try.prog 84 := Enters.of Try.func84 (by kernel_rfl) (by kernel_rfl)
instance : Enters Try.prog 85 := Enters.of Try.func85 (by kernel_rfl) (by kernel_rfl)
instance : Enters Try.prog 86 := Enters.of Try.func86 (by kernel_rfl) (by kernel_rfl)
instance : Enters Try.prog 87 := Enters.of Try.func87 (by kernel_rfl) (by kernel_rfl)
instance : Enters Try.prog 88 := Enters.of Try.func88 (by kernel_rfl) (by kernel_rfl)
instance : Enters Try.prog 89 := Enters.of Try.func89 (by kernel_rfl) (by kernel_rfl)
instance : Enters Try.prog 90 := Enters.of Try.func90 (by kernel_rfl) (by kernel_rfl)
instance : Enters Try.prog 91 := Enters.of Try.func91 (by kernel_rfl) (by kernel_rfl)
instance : Enters Try.prog 92 := Enters.of Try.func92 (by kernel_rfl) (by kernel_rfl)
instance : Enters Try.prog 93 := Enters.of Try.func93 (by kernel_rfl) (by kernel_rfl)
instance : Enters Try.prog 94 := Enters.of Try.func94 (by kernel_rfl) (by kernel_rfl)
instance : Enters Try.prog 95 := Enters.of Try.func95 (by kernel_rfl) (by kernel_rfl)
instance : Enters Try.prog 96 := Enters.of Try.func96 (by kernel_rfl) (by kernel_rfl)
instance : Enters Try.prog 97 := Enters.of Try.func97 (by kernel_rfl) (by kernel_rfl)
instance : Enters Try.prog 98 := Enters.of Try.func98 (by kernel_rfl) (by kernel_rfl)
instance : Enters Try.prog 99 := Enters.of Try.func99 (by kernel_rfl) (by kernel_rfl)
instance : Enters Try.prog 100 := Enters.of Try.func100 (by kernel_rfl) (by kernel_rfl)
instance : Enters Try.prog 101 := Enters.of Try.func101 (by kernel_rfl) (by kernel_rfl)
instance : Enters Try.prog 102 := Enters.of Try.func102 (by kernel_rfl) (by kernel_rfl)
instance : Enters Try.prog 103 := Enters.of Try.func103 (by kernel_rfl) (by kernel_rfl)
instance : Enters Try.prog 104 := Enters.of Try.func104 (by kernel_rfl) (by kernel_rfl)
end Go.Proofs.Ytdphoegigdpboaa.E
