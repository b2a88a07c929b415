/- The rows of the types' table that the walks ask for. -/
import Derived.Test.YtimaipclgmcekaaProg
import Derived.Test.YtimaipclgmcekaaCamF
namespace Go.Proofs.Ytimaipclgmcekaa
open Go.Cam
theorem Try.und40 : cst Try.prog (underlying 40) = some ((Try.prog.underlying 40).getD default) := by kernel_rfl
theorem Try.und42 : cst Try.prog (underlying 42) = some ((Try.prog.underlying 42).getD default) := by kernel_rfl
theorem Try.und59 : cst Try.prog (underlying 59) = some ((Try.prog.underlying 59).getD default) := by kernel_rfl
theorem Try.und62 : cst Try.prog (underlying 62) = some ((Try.prog.underlying 62).getD default) := by kernel_rfl
theorem Try.und65 : cst Try.prog (underlying 65) = some ((Try.prog.underlying 65).getD default) := by kernel_rfl
theorem Try.und76 : cst Try.prog (underlying 76) = some ((Try.prog.underlying 76).getD default) := by kernel_rfl
theorem Try.und81 : cst Try.prog (underlying 81) = some ((Try.prog.underlying 81).getD default) := by kernel_rfl
theorem Try.und100 : cst Try.prog (underlying 100) = some ((Try.prog.underlying 100).getD default) := by kernel_rfl
theorem Try.ti3 : cst Try.prog (typeInfo 3) = some ((Try.prog.info? 3).getD default) := by kernel_rfl
theorem Try.ti41 : cst Try.prog (typeInfo 41) = some ((Try.prog.info? 41).getD default) := by kernel_rfl
theorem Try.ti43 : cst Try.prog (typeInfo 43) = some ((Try.prog.info? 43).getD default) := by kernel_rfl
instance : SZ Try.prog 2 1 := ⟨by kernel_rfl⟩
instance : AG Try.prog 2 false := ⟨by kernel_rfl⟩
instance : SZ Try.prog 3 1 := ⟨by kernel_rfl⟩
instance : AG Try.prog 3 false := ⟨by kernel_rfl⟩
instance : SZ Try.prog 4 1 := ⟨by kernel_rfl⟩
instance : AG Try.prog 4 false := ⟨by kernel_rfl⟩
instance : SZ Try.prog 5 1 := ⟨by kernel_rfl⟩
instance : AG Try.prog 5 false := ⟨by kernel_rfl⟩
instance : SZ Try.prog 6 1 := ⟨by kernel_rfl⟩
instance : AG Try.prog 6 false := ⟨by kernel_rfl⟩
instance : SZ Try.prog 7 4 := ⟨by kernel_rfl⟩
instance : AG Try.prog 7 true := ⟨by kernel_rfl⟩
instance : SZ Try.prog 8 4 := ⟨by kernel_rfl⟩
instance : AG Try.prog 8 true := ⟨by kernel_rfl⟩
instance : SZ Try.prog 9 1 := ⟨by kernel_rfl⟩
instance : AG Try.prog 9 false := ⟨by kernel_rfl⟩
instance : SZ Try.prog 10 1 := ⟨by kernel_rfl⟩
instance : AG Try.prog 10 false := ⟨by kernel_rfl⟩
instance : SZ Try.prog 11 1 := ⟨by kernel_rfl⟩
instance : AG Try.prog 11 false := ⟨by kernel_rfl⟩
instance : SZ Try.prog 12 1 := ⟨by kernel_rfl⟩
instance : AG Try.prog 12 false := ⟨by kernel_rfl⟩
instance : SZ Try.prog 13 2 := ⟨by kernel_rfl⟩
instance : AG Try.prog 13 true := ⟨by kernel_rfl⟩
instance : SZ Try.prog 14 2 := ⟨by kernel_rfl⟩
instance : AG Try.prog 14 true := ⟨by kernel_rfl⟩
instance : SZ Try.prog 15 1 := ⟨by kernel_rfl⟩
instance : AG Try.prog 15 false := ⟨by kernel_rfl⟩
instance : SZ Try.prog 16 1 := ⟨by kernel_rfl⟩
instance : AG Try.prog 16 false := ⟨by kernel_rfl⟩
instance : SZ Try.prog 17 1 := ⟨by kernel_rfl⟩
instance : AG Try.prog 17 false := ⟨by kernel_rfl⟩
instance : SZ Try.prog 18 1 := ⟨by kernel_rfl⟩
instance : AG Try.prog 18 true := ⟨by kernel_rfl⟩
instance : SZ Try.prog 19 1 := ⟨by kernel_rfl⟩
instance : AG Try.prog 19 true := ⟨by kernel_rfl⟩
instance : SZ Try.prog 20 1 := ⟨by kernel_rfl⟩
instance : AG Try.prog 20 false := ⟨by kernel_rfl⟩
instance : SZ Try.prog 21 1 := ⟨by kernel_rfl⟩
instance : AG Try.prog 21 false := ⟨by kernel_rfl⟩
instance : SZ Try.prog 22 1 := ⟨by kernel_rfl⟩
instance : AG Try.prog 22 false := ⟨by kernel_rfl⟩
instance : ZV Try.prog 3 (.int .i64 0) := ⟨by kernel_rfl⟩
instance : SL Try.prog 22 3 1 8 := ⟨_, .int .i64 0, by kernel_rfl, by kernel_rfl, Try.ti3, by kernel_rfl, by decide, by kernel_rfl, by rfl, by decide⟩
instance : SC Try.prog 22 3 := ⟨by kernel_rfl⟩
instance : SZ Try.prog 24 1 := ⟨by kernel_rfl⟩
instance : AG Try.prog 24 false := ⟨by kernel_rfl⟩
instance : SZ Try.prog 26 1 := ⟨by kernel_rfl⟩
instance : AG Try.prog 26 false := ⟨by kernel_rfl⟩
instance : SZ Try.prog 30 1 := ⟨by kernel_rfl⟩
instance : AG Try.prog 30 false := ⟨by kernel_rfl⟩
instance : ZV Try.prog 41 (.agg #[.int .i64 0, .string ByteArray.empty, .int .i64 0, .int .i64 0, .int .i64 0, .int .i64 0, .bool false]) := ⟨by kernel_rfl⟩
instance : SL Try.prog 30 41 7 64 := ⟨_, .agg #[.int .i64 0, .string ByteArray.empty, .int .i64 0, .int .i64 0, .int .i64 0, .int .i64 0, .bool false], by kernel_rfl, by kernel_rfl, Try.ti41, by kernel_rfl, by decide, by kernel_rfl, by rfl, by decide⟩
instance : SC Try.prog 30 41 := ⟨by kernel_rfl⟩
instance : SZ Try.prog 34 9 := ⟨by kernel_rfl⟩
instance : AG Try.prog 34 true := ⟨by kernel_rfl⟩
instance : AR Try.prog 34 9 4 := ⟨by kernel_rfl⟩
instance : SZ Try.prog 38 1 := ⟨by kernel_rfl⟩
instance : AG Try.prog 38 false := ⟨by kernel_rfl⟩
instance : ZV Try.prog 43 (.agg #[.int .i64 0, .int .i64 0, .int .i64 0, .int .i64 0, .string ByteArray.empty, .int .i64 0, .int .i64 0, .int .i64 0, .int .i64 0, .bool false]) := ⟨by kernel_rfl⟩
instance : SL Try.prog 38 43 10 88 := ⟨_, .agg #[.int .i64 0, .int .i64 0, .int .i64 0, .int .i64 0, .string ByteArray.empty, .int .i64 0, .int .i64 0, .int .i64 0, .int .i64 0, .bool false], by kernel_rfl, by kernel_rfl, Try.ti43, by kernel_rfl, by decide, by kernel_rfl, by rfl, by decide⟩
instance : SC Try.prog 38 43 := ⟨by kernel_rfl⟩
instance : SZ Try.prog 39 70 := ⟨by kernel_rfl⟩
instance : AG Try.prog 39 true := ⟨by kernel_rfl⟩
instance : AR Try.prog 39 70 4 := ⟨by kernel_rfl⟩
instance : SZ Try.prog 40 7 := ⟨by kernel_rfl⟩
instance : AG Try.prog 40 true := ⟨by kernel_rfl⟩
instance : FO Try.prog 40 0 0 := ⟨fun _ => by kernel_rfl⟩
instance : FO Try.prog 40 1 1 := ⟨fun _ => by kernel_rfl⟩
instance : FO Try.prog 40 2 2 := ⟨fun _ => by kernel_rfl⟩
instance : FO Try.prog 40 3 3 := ⟨fun _ => by kernel_rfl⟩
instance : FO Try.prog 40 4 4 := ⟨fun _ => by kernel_rfl⟩
instance : FO Try.prog 40 5 5 := ⟨fun _ => by kernel_rfl⟩
instance : FO Try.prog 40 6 6 := ⟨fun _ => by kernel_rfl⟩
instance : BD Try.prog 40 #[.int .i64 0, .string ByteArray.empty, .int .i64 0, .int .i64 0, .int .i64 0, .int .i64 0, .bool false] [(0, 1), (1, 1), (2, 1), (3, 1), (4, 1), (5, 1), (6, 1)] := ⟨_, _, (by kernel_rfl : _ = some (.agg #[.int .i64 0, .string ByteArray.empty, .int .i64 0, .int .i64 0, .int .i64 0, .int .i64 0, .bool false])), rfl, Try.und40, by kernel_rfl⟩
instance : SZ Try.prog 41 7 := ⟨by kernel_rfl⟩
instance : AG Try.prog 41 true := ⟨by kernel_rfl⟩
instance : FO Try.prog 41 0 0 := ⟨fun _ => by kernel_rfl⟩
instance : FO Try.prog 41 1 1 := ⟨fun _ => by kernel_rfl⟩
instance : FO Try.prog 41 2 2 := ⟨fun _ => by kernel_rfl⟩
instance : FO Try.prog 41 3 3 := ⟨fun _ => by kernel_rfl⟩
instance : FO Try.prog 41 4 4 := ⟨fun _ => by kernel_rfl⟩
instance : FO Try.prog 41 5 5 := ⟨fun _ => by kernel_rfl⟩
instance : FO Try.prog 41 6 6 := ⟨fun _ => by kernel_rfl⟩
instance : BD Try.prog 41 #[.int .i64 0, .string ByteArray.empty, .int .i64 0, .int .i64 0, .int .i64 0, .int .i64 0, .bool false] [(0, 1), (1, 1), (2, 1), (3, 1), (4, 1), (5, 1), (6, 1)] := ⟨_, _, (by kernel_rfl : _ = some (.agg #[.int .i64 0, .string ByteArray.empty, .int .i64 0, .int .i64 0, .int .i64 0, .int .i64 0, .bool false])), rfl, Try.und40, by kernel_rfl⟩
instance : SZ Try.prog 42 10 := ⟨by kernel_rfl⟩
instance : AG Try.prog 42 true := ⟨by kernel_rfl⟩
instance : FO Try.prog 42 0 0 := ⟨fun _ => by kernel_rfl⟩
instance : FO Try.prog 42 1 1 := ⟨fun _ => by kernel_rfl⟩
instance : FO Try.prog 42 2 2 := ⟨fun _ => by kernel_rfl⟩
instance : FO Try.prog 42 3 3 := ⟨fun _ => by kernel_rfl⟩
instance : BD Try.prog 42 #[.int .i64 0, .int .i64 0, .int .i64 0, .int .i64 0, .string ByteArray.empty, .int .i64 0, .int .i64 0, .int .i64 0, .int .i64 0, .bool false] [(0, 1), (1, 1), (2, 1), (3, 7)] := ⟨_, _, (by kernel_rfl : _ = some (.agg #[.int .i64 0, .int .i64 0, .int .i64 0, .int .i64 0, .string ByteArray.empty, .int .i64 0, .int .i64 0, .int .i64 0, .int .i64 0, .bool false])), rfl, Try.und42, by kernel_rfl⟩
instance : SZ Try.prog 43 10 := ⟨by kernel_rfl⟩
instance : AG Try.prog 43 true := ⟨by kernel_rfl⟩
instance : FO Try.prog 43 0 0 := ⟨fun _ => by kernel_rfl⟩
instance : FO Try.prog 43 1 1 := ⟨fun _ => by kernel_rfl⟩
instance : FO Try.prog 43 2 2 := ⟨fun _ => by kernel_rfl⟩
instance : FO Try.prog 43 3 3 := ⟨fun _ => by kernel_rfl⟩
instance : BD Try.prog 43 #[.int .i64 0, .int .i64 0, .int .i64 0, .int .i64 0, .string ByteArray.empty, .int .i64 0, .int .i64 0, .int .i64 0, .int .i64 0, .bool false] [(0, 1), (1, 1), (2, 1), (3, 7)] := ⟨_, _, (by kernel_rfl : _ = some (.agg #[.int .i64 0, .int .i64 0, .int .i64 0, .int .i64 0, .string ByteArray.empty, .int .i64 0, .int .i64 0, .int .i64 0, .int .i64 0, .bool false])), rfl, Try.und42, by kernel_rfl⟩
instance : SZ Try.prog 54 1 := ⟨by kernel_rfl⟩
instance : AG Try.prog 54 false := ⟨by kernel_rfl⟩
instance : SZ Try.prog 58 8 := ⟨by kernel_rfl⟩
instance : AG Try.prog 58 true := ⟨by kernel_rfl⟩
instance : AR Try.prog 58 8 3 := ⟨by kernel_rfl⟩
instance : SZ Try.prog 59 11 := ⟨by kernel_rfl⟩
instance : AG Try.prog 59 true := ⟨by kernel_rfl⟩
instance : FO Try.prog 59 0 0 := ⟨fun _ => by kernel_rfl⟩
instance : FO Try.prog 59 1 1 := ⟨fun _ => by kernel_rfl⟩
instance : FO Try.prog 59 2 2 := ⟨fun _ => by kernel_rfl⟩
instance : FO Try.prog 59 3 3 := ⟨fun _ => by kernel_rfl⟩
instance : BD Try.prog 59 #[.int .i64 0, .int .i64 0, .int .i64 0, .int .i64 0, .int .i64 0, .int .i64 0, .int .i64 0, .int .i64 0, .int .i64 0, .int .i64 0, .int .i64 0] [(0, 1), (1, 1), (2, 1), (3, 8)] := ⟨_, _, (by kernel_rfl : _ = some (.agg #[.int .i64 0, .int .i64 0, .int .i64 0, .int .i64 0, .int .i64 0, .int .i64 0, .int .i64 0, .int .i64 0, .int .i64 0, .int .i64 0, .int .i64 0])), rfl, Try.und59, by kernel_rfl⟩
instance : SZ Try.prog 60 11 := ⟨by kernel_rfl⟩
instance : AG Try.prog 60 true := ⟨by kernel_rfl⟩
instance : FO Try.prog 60 0 0 := ⟨fun _ => by kernel_rfl⟩
instance : FO Try.prog 60 1 1 := ⟨fun _ => by kernel_rfl⟩
instance : FO Try.prog 60 2 2 := ⟨fun _ => by kernel_rfl⟩
instance : FO Try.prog 60 3 3 := ⟨fun _ => by kernel_rfl⟩
instance : BD Try.prog 60 #[.int .i64 0, .int .i64 0, .int .i64 0, .int .i64 0, .int .i64 0, .int .i64 0, .int .i64 0, .int .i64 0, .int .i64 0, .int .i64 0, .int .i64 0] [(0, 1), (1, 1), (2, 1), (3, 8)] := ⟨_, _, (by kernel_rfl : _ = some (.agg #[.int .i64 0, .int .i64 0, .int .i64 0, .int .i64 0, .int .i64 0, .int .i64 0, .int .i64 0, .int .i64 0, .int .i64 0, .int .i64 0, .int .i64 0])), rfl, Try.und59, by kernel_rfl⟩
instance : SZ Try.prog 61 99 := ⟨by kernel_rfl⟩
instance : AG Try.prog 61 true := ⟨by kernel_rfl⟩
instance : AR Try.prog 61 9 60 := ⟨by kernel_rfl⟩
instance : SZ Try.prog 62 8 := ⟨by kernel_rfl⟩
instance : AG Try.prog 62 true := ⟨by kernel_rfl⟩
instance : FO Try.prog 62 0 0 := ⟨fun _ => by kernel_rfl⟩
instance : FO Try.prog 62 1 7 := ⟨fun _ => by kernel_rfl⟩
instance : BD Try.prog 62 #[.int .i64 0, .string ByteArray.empty, .int .i64 0, .int .i64 0, .int .i64 0, .int .i64 0, .bool false, .int .i64 0] [(0, 7), (7, 1)] := ⟨_, _, (by kernel_rfl : _ = some (.agg #[.int .i64 0, .string ByteArray.empty, .int .i64 0, .int .i64 0, .int .i64 0, .int .i64 0, .bool false, .int .i64 0])), rfl, Try.und62, by kernel_rfl⟩
instance : SZ Try.prog 63 8 := ⟨by kernel_rfl⟩
instance : AG Try.prog 63 true := ⟨by kernel_rfl⟩
instance : FO Try.prog 63 0 0 := ⟨fun _ => by kernel_rfl⟩
instance : FO Try.prog 63 1 7 := ⟨fun _ => by kernel_rfl⟩
instance : BD Try.prog 63 #[.int .i64 0, .string ByteArray.empty, .int .i64 0, .int .i64 0, .int .i64 0, .int .i64 0, .bool false, .int .i64 0] [(0, 7), (7, 1)] := ⟨_, _, (by kernel_rfl : _ = some (.agg #[.int .i64 0, .string ByteArray.empty, .int .i64 0, .int .i64 0, .int .i64 0, .int .i64 0, .bool false, .int .i64 0])), rfl, Try.und62, by kernel_rfl⟩
instance : SZ Try.prog 64 128 := ⟨by kernel_rfl⟩
instance : AG Try.prog 64 true := ⟨by kernel_rfl⟩
instance : AR Try.prog 64 16 63 := ⟨by kernel_rfl⟩
instance : SZ Try.prog 65 227 := ⟨by kernel_rfl⟩
instance : AG Try.prog 65 true := ⟨by kernel_rfl⟩
instance : FO Try.prog 65 0 0 := ⟨fun _ => by kernel_rfl⟩
instance : FO Try.prog 65 1 99 := ⟨fun _ => by kernel_rfl⟩
instance : SZ Try.prog 66 227 := ⟨by kernel_rfl⟩
instance : AG Try.prog 66 true := ⟨by kernel_rfl⟩
instance : FO Try.prog 66 0 0 := ⟨fun _ => by kernel_rfl⟩
instance : FO Try.prog 66 1 99 := ⟨fun _ => by kernel_rfl⟩
instance : SZ Try.prog 67 1 := ⟨by kernel_rfl⟩
instance : AG Try.prog 67 false := ⟨by kernel_rfl⟩
instance : SZ Try.prog 73 1 := ⟨by kernel_rfl⟩
instance : AG Try.prog 73 false := ⟨by kernel_rfl⟩
instance : SZ Try.prog 76 11 := ⟨by kernel_rfl⟩
instance : AG Try.prog 76 true := ⟨by kernel_rfl⟩
instance : FO Try.prog 76 0 0 := ⟨fun _ => by kernel_rfl⟩
instance : FO Try.prog 76 1 1 := ⟨fun _ => by kernel_rfl⟩
instance : FO Try.prog 76 2 2 := ⟨fun _ => by kernel_rfl⟩
instance : FO Try.prog 76 3 3 := ⟨fun _ => by kernel_rfl⟩
instance : BD Try.prog 76 #[.int .i64 0, .int .i64 0, .int .i64 0, .int .i64 0, .int .i64 0, .int .i64 0, .int .i64 0, .int .i64 0, .int .i64 0, .int .i64 0, .int .i64 0] [(0, 1), (1, 1), (2, 1), (3, 8)] := ⟨_, _, (by kernel_rfl : _ = some (.agg #[.int .i64 0, .int .i64 0, .int .i64 0, .int .i64 0, .int .i64 0, .int .i64 0, .int .i64 0, .int .i64 0, .int .i64 0, .int .i64 0, .int .i64 0])), rfl, Try.und76, by kernel_rfl⟩
instance : SZ Try.prog 77 11 := ⟨by kernel_rfl⟩
instance : AG Try.prog 77 true := ⟨by kernel_rfl⟩
instance : FO Try.prog 77 0 0 := ⟨fun _ => by kernel_rfl⟩
instance : FO Try.prog 77 1 1 := ⟨fun _ => by kernel_rfl⟩
instance : FO Try.prog 77 2 2 := ⟨fun _ => by kernel_rfl⟩
instance : FO Try.prog 77 3 3 := ⟨fun _ => by kernel_rfl⟩
instance : BD Try.prog 77 #[.int .i64 0, .int .i64 0, .int .i64 0, .int .i64 0, .int .i64 0, .int .i64 0, .int .i64 0, .int .i64 0, .int .i64 0, .int .i64 0, .int .i64 0] [(0, 1), (1, 1), (2, 1), (3, 8)] := ⟨_, _, (by kernel_rfl : _ = some (.agg #[.int .i64 0, .int .i64 0, .int .i64 0, .int .i64 0, .int .i64 0, .int .i64 0, .int .i64 0, .int .i64 0, .int .i64 0, .int .i64 0, .int .i64 0])), rfl, Try.und76, by kernel_rfl⟩
instance : SZ Try.prog 78 99 := ⟨by kernel_rfl⟩
instance : AG Try.prog 78 true := ⟨by kernel_rfl⟩
instance : AR Try.prog 78 9 77 := ⟨by kernel_rfl⟩
instance : SZ Try.prog 79 112 := ⟨by kernel_rfl⟩
instance : AG Try.prog 79 true := ⟨by kernel_rfl⟩
instance : AR Try.prog 79 16 41 := ⟨by kernel_rfl⟩
instance : SZ Try.prog 80 16 := ⟨by kernel_rfl⟩
instance : AG Try.prog 80 true := ⟨by kernel_rfl⟩
instance : AR Try.prog 80 16 4 := ⟨by kernel_rfl⟩
instance : SZ Try.prog 81 227 := ⟨by kernel_rfl⟩
instance : AG Try.prog 81 true := ⟨by kernel_rfl⟩
instance : FO Try.prog 81 0 0 := ⟨fun _ => by kernel_rfl⟩
instance : FO Try.prog 81 1 99 := ⟨fun _ => by kernel_rfl⟩
instance : FO Try.prog 81 2 211 := ⟨fun _ => by kernel_rfl⟩
instance : SZ Try.prog 82 227 := ⟨by kernel_rfl⟩
instance : AG Try.prog 82 true := ⟨by kernel_rfl⟩
instance : FO Try.prog 82 0 0 := ⟨fun _ => by kernel_rfl⟩
instance : FO Try.prog 82 1 99 := ⟨fun _ => by kernel_rfl⟩
instance : FO Try.prog 82 2 211 := ⟨fun _ => by kernel_rfl⟩
instance : SZ Try.prog 88 4 := ⟨by kernel_rfl⟩
instance : AG Try.prog 88 true := ⟨by kernel_rfl⟩
instance : SZ Try.prog 89 4 := ⟨by kernel_rfl⟩
instance : AG Try.prog 89 true := ⟨by kernel_rfl⟩
instance : SZ Try.prog 90 0 := ⟨by kernel_rfl⟩
instance : AG Try.prog 90 true := ⟨by kernel_rfl⟩
instance : AR Try.prog 90 0 16 := ⟨by kernel_rfl⟩
instance : SZ Try.prog 91 0 := ⟨by kernel_rfl⟩
instance : AG Try.prog 91 true := ⟨by kernel_rfl⟩
instance : SZ Try.prog 92 0 := ⟨by kernel_rfl⟩
instance : AG Try.prog 92 true := ⟨by kernel_rfl⟩
instance : SZ Try.prog 93 1 := ⟨by kernel_rfl⟩
instance : AG Try.prog 93 false := ⟨by kernel_rfl⟩
instance : SZ Try.prog 94 1 := ⟨by kernel_rfl⟩
instance : AG Try.prog 94 false := ⟨by kernel_rfl⟩
instance : SZ Try.prog 95 1 := ⟨by kernel_rfl⟩
instance : AG Try.prog 95 false := ⟨by kernel_rfl⟩
instance : SZ Try.prog 97 1 := ⟨by kernel_rfl⟩
instance : AG Try.prog 97 false := ⟨by kernel_rfl⟩
instance : SZ Try.prog 98 1 := ⟨by kernel_rfl⟩
instance : AG Try.prog 98 false := ⟨by kernel_rfl⟩
instance : SZ Try.prog 99 1 := ⟨by kernel_rfl⟩
instance : AG Try.prog 99 false := ⟨by kernel_rfl⟩
instance : SZ Try.prog 100 11 := ⟨by kernel_rfl⟩
instance : AG Try.prog 100 true := ⟨by kernel_rfl⟩
instance : FO Try.prog 100 0 0 := ⟨fun _ => by kernel_rfl⟩
instance : FO Try.prog 100 1 1 := ⟨fun _ => by kernel_rfl⟩
instance : FO Try.prog 100 2 2 := ⟨fun _ => by kernel_rfl⟩
instance : FO Try.prog 100 3 3 := ⟨fun _ => by kernel_rfl⟩
instance : FO Try.prog 100 4 4 := ⟨fun _ => by kernel_rfl⟩
instance : FO Try.prog 100 5 5 := ⟨fun _ => by kernel_rfl⟩
instance : FO Try.prog 100 6 6 := ⟨fun _ => by kernel_rfl⟩
instance : FO Try.prog 100 7 7 := ⟨fun _ => by kernel_rfl⟩
instance : FO Try.prog 100 8 8 := ⟨fun _ => by kernel_rfl⟩
instance : FO Try.prog 100 9 9 := ⟨fun _ => by kernel_rfl⟩
instance : FO Try.prog 100 10 10 := ⟨fun _ => by kernel_rfl⟩
instance : BD Try.prog 100 #[.int .u64 0, .int .u64 0, .int .u32 0, .int .u8 0, .int .u8 0, .int .u8 0, .int .u8 0, .nilFunc, .pointer none, .int .i32 0, .int .i32 0] [(0, 1), (1, 1), (2, 1), (3, 1), (4, 1), (5, 1), (6, 1), (7, 1), (8, 1), (9, 1), (10, 1)] := ⟨_, _, (by kernel_rfl : _ = some (.agg #[.int .u64 0, .int .u64 0, .int .u32 0, .int .u8 0, .int .u8 0, .int .u8 0, .int .u8 0, .nilFunc, .pointer none, .int .i32 0, .int .i32 0])), rfl, Try.und100, by kernel_rfl⟩
instance : SZ Try.prog 101 11 := ⟨by kernel_rfl⟩
instance : AG Try.prog 101 true := ⟨by kernel_rfl⟩
instance : SZ Try.prog 102 1 := ⟨by kernel_rfl⟩
instance : AG Try.prog 102 false := ⟨by kernel_rfl⟩
end Go.Proofs.Ytimaipclgmcekaa
