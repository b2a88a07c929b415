/- The rows of the types' table that the walks ask for. -/
import Derived.Test.YtldonbnjefhfdaaProg
import Derived.Test.YtldonbnjefhfdaaCamAE
namespace Go.Proofs.Ytldonbnjefhfdaa
open Go.Cam
set_option maxRecDepth 100000
theorem Try.und25 : cst Try.prog (underlying 25) = some ((Try.prog.underlying 25).getD default) := by kernel_rfl
theorem Try.und43 : cst Try.prog (underlying 43) = some ((Try.prog.underlying 43).getD default) := by kernel_rfl
theorem Try.und46 : cst Try.prog (underlying 46) = some ((Try.prog.underlying 46).getD default) := by kernel_rfl
theorem Try.und57 : cst Try.prog (underlying 57) = some ((Try.prog.underlying 57).getD default) := by kernel_rfl
theorem Try.und60 : cst Try.prog (underlying 60) = some ((Try.prog.underlying 60).getD default) := by kernel_rfl
theorem Try.und72 : cst Try.prog (underlying 72) = some ((Try.prog.underlying 72).getD default) := by kernel_rfl
theorem Try.und74 : cst Try.prog (underlying 74) = some ((Try.prog.underlying 74).getD default) := by kernel_rfl
theorem Try.und77 : cst Try.prog (underlying 77) = some ((Try.prog.underlying 77).getD default) := by kernel_rfl
theorem Try.und85 : cst Try.prog (underlying 85) = some ((Try.prog.underlying 85).getD default) := by kernel_rfl
theorem Try.und104 : cst Try.prog (underlying 104) = some ((Try.prog.underlying 104).getD default) := by kernel_rfl
theorem Try.und111 : cst Try.prog (underlying 111) = some ((Try.prog.underlying 111).getD default) := by kernel_rfl
theorem Try.und113 : cst Try.prog (underlying 113) = some ((Try.prog.underlying 113).getD default) := by kernel_rfl
theorem Try.und117 : cst Try.prog (underlying 117) = some ((Try.prog.underlying 117).getD default) := by kernel_rfl
theorem Try.und188 : cst Try.prog (underlying 188) = some ((Try.prog.underlying 188).getD default) := by kernel_rfl
theorem Try.ti37 : cst Try.prog (typeInfo 37) = some ((Try.prog.info? 37).getD default) := by kernel_rfl
theorem Try.ti3 : cst Try.prog (typeInfo 3) = some ((Try.prog.info? 3).getD default) := by kernel_rfl
theorem Try.ti5 : cst Try.prog (typeInfo 5) = some ((Try.prog.info? 5).getD default) := by kernel_rfl
theorem Try.ti90 : cst Try.prog (typeInfo 90) = some ((Try.prog.info? 90).getD default) := by kernel_rfl
theorem Try.ti114 : cst Try.prog (typeInfo 114) = some ((Try.prog.info? 114).getD default) := by kernel_rfl
theorem Try.ti118 : cst Try.prog (typeInfo 118) = some ((Try.prog.info? 118).getD default) := by kernel_rfl
theorem Try.ti61 : cst Try.prog (typeInfo 61) = some ((Try.prog.info? 61).getD default) := by kernel_rfl
theorem Try.ti144 : cst Try.prog (typeInfo 144) = some ((Try.prog.info? 144).getD default) := by kernel_rfl
instance : SZ Try.prog 2 1 := ⟨by kernel_rfl⟩
instance : AG Try.prog 2 false := ⟨by kernel_rfl⟩
instance : ZV Try.prog 2 (.int .i64 0) := ⟨by kernel_rfl⟩
instance : SZ Try.prog 3 1 := ⟨by kernel_rfl⟩
instance : AG Try.prog 3 false := ⟨by kernel_rfl⟩
instance : ZV Try.prog 3 (.int .i64 0) := ⟨by kernel_rfl⟩
instance : SZ Try.prog 4 1 := ⟨by kernel_rfl⟩
instance : AG Try.prog 4 false := ⟨by kernel_rfl⟩
instance : ZV Try.prog 4 (.bool false) := ⟨by kernel_rfl⟩
instance : SZ Try.prog 5 1 := ⟨by kernel_rfl⟩
instance : AG Try.prog 5 false := ⟨by kernel_rfl⟩
instance : ZV Try.prog 5 (.int .u8 0) := ⟨by kernel_rfl⟩
instance : SZ Try.prog 6 1 := ⟨by kernel_rfl⟩
instance : AG Try.prog 6 false := ⟨by kernel_rfl⟩
instance : SZ Try.prog 7 4 := ⟨by kernel_rfl⟩
instance : AG Try.prog 7 true := ⟨by kernel_rfl⟩
instance : SZ Try.prog 8 4 := ⟨by kernel_rfl⟩
instance : AG Try.prog 8 true := ⟨by kernel_rfl⟩
instance : SZ Try.prog 9 1 := ⟨by kernel_rfl⟩
instance : AG Try.prog 9 false := ⟨by kernel_rfl⟩
instance : ZV Try.prog 9 (.string ByteArray.empty) := ⟨by kernel_rfl⟩
instance : STY Try.prog 9 := ⟨by kernel_rfl⟩
instance : SZ Try.prog 10 1 := ⟨by kernel_rfl⟩
instance : AG Try.prog 10 false := ⟨by kernel_rfl⟩
instance : SZ Try.prog 11 1 := ⟨by kernel_rfl⟩
instance : AG Try.prog 11 false := ⟨by kernel_rfl⟩
instance : SZ Try.prog 12 1 := ⟨by kernel_rfl⟩
instance : AG Try.prog 12 false := ⟨by kernel_rfl⟩
instance : ZV Try.prog 12 (.int .u64 0) := ⟨by kernel_rfl⟩
instance : SZ Try.prog 13 2 := ⟨by kernel_rfl⟩
instance : AG Try.prog 13 true := ⟨by kernel_rfl⟩
instance : SZ Try.prog 14 2 := ⟨by kernel_rfl⟩
instance : AG Try.prog 14 true := ⟨by kernel_rfl⟩
instance : SZ Try.prog 15 1 := ⟨by kernel_rfl⟩
instance : AG Try.prog 15 false := ⟨by kernel_rfl⟩
instance : SZ Try.prog 16 1 := ⟨by kernel_rfl⟩
instance : AG Try.prog 16 false := ⟨by kernel_rfl⟩
instance : SZ Try.prog 17 1 := ⟨by kernel_rfl⟩
instance : AG Try.prog 17 false := ⟨by kernel_rfl⟩
instance : ZV Try.prog 17 (.pointer none) := ⟨by kernel_rfl⟩
instance : SZ Try.prog 18 1 := ⟨by kernel_rfl⟩
instance : AG Try.prog 18 true := ⟨by kernel_rfl⟩
instance : SZ Try.prog 19 1 := ⟨by kernel_rfl⟩
instance : AG Try.prog 19 true := ⟨by kernel_rfl⟩
instance : SZ Try.prog 20 1 := ⟨by kernel_rfl⟩
instance : AG Try.prog 20 false := ⟨by kernel_rfl⟩
instance : SZ Try.prog 21 1 := ⟨by kernel_rfl⟩
instance : AG Try.prog 21 false := ⟨by kernel_rfl⟩
instance : ZV Try.prog 21 (.int .i32 0) := ⟨by kernel_rfl⟩
instance : SZ Try.prog 22 1 := ⟨by kernel_rfl⟩
instance : AG Try.prog 22 false := ⟨by kernel_rfl⟩
instance : ZV Try.prog 22 (.slice none 0 0) := ⟨by kernel_rfl⟩
instance : ZV Try.prog 37 (.slice none 0 0) := ⟨by kernel_rfl⟩
instance : SL Try.prog 22 37 1 24 := ⟨_, .slice none 0 0, by kernel_rfl, by kernel_rfl, Try.ti37, by kernel_rfl, by decide, by kernel_rfl, by rfl, by decide⟩
instance : SC Try.prog 22 37 := ⟨by kernel_rfl⟩
instance : SZ Try.prog 23 2 := ⟨by kernel_rfl⟩
instance : AG Try.prog 23 true := ⟨by kernel_rfl⟩
instance : ZV Try.prog 23 (.agg #[.slice none 0 0, .slice none 0 0]) := ⟨by kernel_rfl⟩
instance : AR Try.prog 23 2 22 := ⟨by kernel_rfl⟩
instance : SZ Try.prog 24 1 := ⟨by kernel_rfl⟩
instance : AG Try.prog 24 false := ⟨by kernel_rfl⟩
instance : ZV Try.prog 24 (.slice none 0 0) := ⟨by kernel_rfl⟩
instance : SL Try.prog 24 3 1 8 := ⟨_, .int .i64 0, by kernel_rfl, by kernel_rfl, Try.ti3, by kernel_rfl, by decide, by kernel_rfl, by rfl, by decide⟩
instance : SC Try.prog 24 3 := ⟨by kernel_rfl⟩
instance : SZ Try.prog 25 2 := ⟨by kernel_rfl⟩
instance : AG Try.prog 25 true := ⟨by kernel_rfl⟩
instance : FO Try.prog 25 0 0 := ⟨fun _ => by kernel_rfl⟩
instance : FD Try.prog 25 0 3 0 := ⟨fun _ => by rfl⟩
instance : FO Try.prog 25 1 1 := ⟨fun _ => by kernel_rfl⟩
instance : FD Try.prog 25 1 24 1 := ⟨fun _ => by rfl⟩
instance : BD Try.prog 25 #[.int .i64 0, .slice none 0 0] [(0, 1), (1, 1)] := ⟨_, _, (by kernel_rfl : _ = some (.agg #[.int .i64 0, .slice none 0 0])), rfl, Try.und25, by kernel_rfl⟩
instance : ZV Try.prog 25 (.agg #[.int .i64 0, .slice none 0 0]) := ⟨by kernel_rfl⟩
instance : SZ Try.prog 26 2 := ⟨by kernel_rfl⟩
instance : AG Try.prog 26 true := ⟨by kernel_rfl⟩
instance : FO Try.prog 26 0 0 := ⟨fun _ => by kernel_rfl⟩
instance : FD Try.prog 26 0 3 0 := ⟨fun _ => by rfl⟩
instance : FO Try.prog 26 1 1 := ⟨fun _ => by kernel_rfl⟩
instance : FD Try.prog 26 1 24 1 := ⟨fun _ => by rfl⟩
instance : BD Try.prog 26 #[.int .i64 0, .slice none 0 0] [(0, 1), (1, 1)] := ⟨_, _, (by kernel_rfl : _ = some (.agg #[.int .i64 0, .slice none 0 0])), rfl, Try.und25, by kernel_rfl⟩
instance : ZV Try.prog 26 (.agg #[.int .i64 0, .slice none 0 0]) := ⟨by kernel_rfl⟩
instance : SZ Try.prog 28 1 := ⟨by kernel_rfl⟩
instance : AG Try.prog 28 false := ⟨by kernel_rfl⟩
instance : ZV Try.prog 28 (.pointer none) := ⟨by kernel_rfl⟩
instance : SZ Try.prog 29 1 := ⟨by kernel_rfl⟩
instance : AG Try.prog 29 false := ⟨by kernel_rfl⟩
instance : ZV Try.prog 29 (.int .i64 0) := ⟨by kernel_rfl⟩
instance : SZ Try.prog 33 1 := ⟨by kernel_rfl⟩
instance : AG Try.prog 33 false := ⟨by kernel_rfl⟩
instance : ZV Try.prog 33 (.pointer none) := ⟨by kernel_rfl⟩
instance : SZ Try.prog 36 2 := ⟨by kernel_rfl⟩
instance : AG Try.prog 36 true := ⟨by kernel_rfl⟩
instance : ZV Try.prog 36 (.agg #[.slice none 0 0, .slice none 0 0]) := ⟨by kernel_rfl⟩
instance : AR Try.prog 36 2 24 := ⟨by kernel_rfl⟩
instance : SZ Try.prog 37 1 := ⟨by kernel_rfl⟩
instance : AG Try.prog 37 false := ⟨by kernel_rfl⟩
instance : SL Try.prog 37 5 1 1 := ⟨_, .int .u8 0, by kernel_rfl, by kernel_rfl, Try.ti5, by kernel_rfl, by decide, by kernel_rfl, by rfl, by decide⟩
instance : SC Try.prog 37 5 := ⟨by kernel_rfl⟩
instance : SZ Try.prog 43 4 := ⟨by kernel_rfl⟩
instance : AG Try.prog 43 true := ⟨by kernel_rfl⟩
instance : FO Try.prog 43 0 0 := ⟨fun _ => by kernel_rfl⟩
instance : FD Try.prog 43 0 9 0 := ⟨fun _ => by rfl⟩
instance : FO Try.prog 43 1 1 := ⟨fun _ => by kernel_rfl⟩
instance : FD Try.prog 43 1 4 1 := ⟨fun _ => by rfl⟩
instance : FO Try.prog 43 2 2 := ⟨fun _ => by kernel_rfl⟩
instance : FD Try.prog 43 2 3 2 := ⟨fun _ => by rfl⟩
instance : FO Try.prog 43 3 3 := ⟨fun _ => by kernel_rfl⟩
instance : FD Try.prog 43 3 3 3 := ⟨fun _ => by rfl⟩
instance : BD Try.prog 43 #[.string ByteArray.empty, .bool false, .int .i64 0, .int .i64 0] [(0, 1), (1, 1), (2, 1), (3, 1)] := ⟨_, _, (by kernel_rfl : _ = some (.agg #[.string ByteArray.empty, .bool false, .int .i64 0, .int .i64 0])), rfl, Try.und43, by kernel_rfl⟩
instance : ZV Try.prog 43 (.agg #[.string ByteArray.empty, .bool false, .int .i64 0, .int .i64 0]) := ⟨by kernel_rfl⟩
instance : SZ Try.prog 44 4 := ⟨by kernel_rfl⟩
instance : AG Try.prog 44 true := ⟨by kernel_rfl⟩
instance : FO Try.prog 44 0 0 := ⟨fun _ => by kernel_rfl⟩
instance : FD Try.prog 44 0 9 0 := ⟨fun _ => by rfl⟩
instance : FO Try.prog 44 1 1 := ⟨fun _ => by kernel_rfl⟩
instance : FD Try.prog 44 1 4 1 := ⟨fun _ => by rfl⟩
instance : FO Try.prog 44 2 2 := ⟨fun _ => by kernel_rfl⟩
instance : FD Try.prog 44 2 3 2 := ⟨fun _ => by rfl⟩
instance : FO Try.prog 44 3 3 := ⟨fun _ => by kernel_rfl⟩
instance : FD Try.prog 44 3 3 3 := ⟨fun _ => by rfl⟩
instance : BD Try.prog 44 #[.string ByteArray.empty, .bool false, .int .i64 0, .int .i64 0] [(0, 1), (1, 1), (2, 1), (3, 1)] := ⟨_, _, (by kernel_rfl : _ = some (.agg #[.string ByteArray.empty, .bool false, .int .i64 0, .int .i64 0])), rfl, Try.und43, by kernel_rfl⟩
instance : ZV Try.prog 44 (.agg #[.string ByteArray.empty, .bool false, .int .i64 0, .int .i64 0]) := ⟨by kernel_rfl⟩
instance : SZ Try.prog 45 32 := ⟨by kernel_rfl⟩
instance : AG Try.prog 45 true := ⟨by kernel_rfl⟩
instance : ZV Try.prog 45 (.agg #[.string ByteArray.empty, .bool false, .int .i64 0, .int .i64 0, .string ByteArray.empty, .bool false, .int .i64 0, .int .i64 0, .string ByteArray.empty, .bool false, .int .i64 0, .int .i64 0, .string ByteArray.empty, .bool false, .int .i64 0, .int .i64 0, .string ByteArray.empty, .bool false, .int .i64 0, .int .i64 0, .string ByteArray.empty, .bool false, .int .i64 0, .int .i64 0, .string ByteArray.empty, .bool false, .int .i64 0, .int .i64 0, .string ByteArray.empty, .bool false, .int .i64 0, .int .i64 0]) := ⟨by kernel_rfl⟩
instance : AR Try.prog 45 8 44 := ⟨by kernel_rfl⟩
instance : SZ Try.prog 46 35 := ⟨by kernel_rfl⟩
instance : AG Try.prog 46 true := ⟨by kernel_rfl⟩
instance : FO Try.prog 46 0 0 := ⟨fun _ => by kernel_rfl⟩
instance : FD Try.prog 46 0 3 0 := ⟨fun _ => by rfl⟩
instance : FO Try.prog 46 1 1 := ⟨fun _ => by kernel_rfl⟩
instance : FD Try.prog 46 1 3 1 := ⟨fun _ => by rfl⟩
instance : FO Try.prog 46 2 2 := ⟨fun _ => by kernel_rfl⟩
instance : FD Try.prog 46 2 3 2 := ⟨fun _ => by rfl⟩
instance : FO Try.prog 46 3 3 := ⟨fun _ => by kernel_rfl⟩
instance : FD Try.prog 46 3 45 3 := ⟨fun _ => by rfl⟩
instance : BD Try.prog 46 #[.int .i64 0, .int .i64 0, .int .i64 0, .string ByteArray.empty, .bool false, .int .i64 0, .int .i64 0, .string ByteArray.empty, .bool false, .int .i64 0, .int .i64 0, .string ByteArray.empty, .bool false, .int .i64 0, .int .i64 0, .string ByteArray.empty, .bool false, .int .i64 0, .int .i64 0, .string ByteArray.empty, .bool false, .int .i64 0, .int .i64 0, .string ByteArray.empty, .bool false, .int .i64 0, .int .i64 0, .string ByteArray.empty, .bool false, .int .i64 0, .int .i64 0, .string ByteArray.empty, .bool false, .int .i64 0, .int .i64 0] [(0, 1), (1, 1), (2, 1), (3, 32)] := ⟨_, _, (by kernel_rfl : _ = some (.agg #[.int .i64 0, .int .i64 0, .int .i64 0, .string ByteArray.empty, .bool false, .int .i64 0, .int .i64 0, .string ByteArray.empty, .bool false, .int .i64 0, .int .i64 0, .string ByteArray.empty, .bool false, .int .i64 0, .int .i64 0, .string ByteArray.empty, .bool false, .int .i64 0, .int .i64 0, .string ByteArray.empty, .bool false, .int .i64 0, .int .i64 0, .string ByteArray.empty, .bool false, .int .i64 0, .int .i64 0, .string ByteArray.empty, .bool false, .int .i64 0, .int .i64 0, .string ByteArray.empty, .bool false, .int .i64 0, .int .i64 0])), rfl, Try.und46, by kernel_rfl⟩
instance : ZV Try.prog 46 (.agg #[.int .i64 0, .int .i64 0, .int .i64 0, .string ByteArray.empty, .bool false, .int .i64 0, .int .i64 0, .string ByteArray.empty, .bool false, .int .i64 0, .int .i64 0, .string ByteArray.empty, .bool false, .int .i64 0, .int .i64 0, .string ByteArray.empty, .bool false, .int .i64 0, .int .i64 0, .string ByteArray.empty, .bool false, .int .i64 0, .int .i64 0, .string ByteArray.empty, .bool false, .int .i64 0, .int .i64 0, .string ByteArray.empty, .bool false, .int .i64 0, .int .i64 0, .string ByteArray.empty, .bool false, .int .i64 0, .int .i64 0]) := ⟨by kernel_rfl⟩
instance : SZ Try.prog 47 35 := ⟨by kernel_rfl⟩
instance : AG Try.prog 47 true := ⟨by kernel_rfl⟩
instance : FO Try.prog 47 0 0 := ⟨fun _ => by kernel_rfl⟩
instance : FD Try.prog 47 0 3 0 := ⟨fun _ => by rfl⟩
instance : FO Try.prog 47 1 1 := ⟨fun _ => by kernel_rfl⟩
instance : FD Try.prog 47 1 3 1 := ⟨fun _ => by rfl⟩
instance : FO Try.prog 47 2 2 := ⟨fun _ => by kernel_rfl⟩
instance : FD Try.prog 47 2 3 2 := ⟨fun _ => by rfl⟩
instance : FO Try.prog 47 3 3 := ⟨fun _ => by kernel_rfl⟩
instance : FD Try.prog 47 3 45 3 := ⟨fun _ => by rfl⟩
instance : BD Try.prog 47 #[.int .i64 0, .int .i64 0, .int .i64 0, .string ByteArray.empty, .bool false, .int .i64 0, .int .i64 0, .string ByteArray.empty, .bool false, .int .i64 0, .int .i64 0, .string ByteArray.empty, .bool false, .int .i64 0, .int .i64 0, .string ByteArray.empty, .bool false, .int .i64 0, .int .i64 0, .string ByteArray.empty, .bool false, .int .i64 0, .int .i64 0, .string ByteArray.empty, .bool false, .int .i64 0, .int .i64 0, .string ByteArray.empty, .bool false, .int .i64 0, .int .i64 0, .string ByteArray.empty, .bool false, .int .i64 0, .int .i64 0] [(0, 1), (1, 1), (2, 1), (3, 32)] := ⟨_, _, (by kernel_rfl : _ = some (.agg #[.int .i64 0, .int .i64 0, .int .i64 0, .string ByteArray.empty, .bool false, .int .i64 0, .int .i64 0, .string ByteArray.empty, .bool false, .int .i64 0, .int .i64 0, .string ByteArray.empty, .bool false, .int .i64 0, .int .i64 0, .string ByteArray.empty, .bool false, .int .i64 0, .int .i64 0, .string ByteArray.empty, .bool false, .int .i64 0, .int .i64 0, .string ByteArray.empty, .bool false, .int .i64 0, .int .i64 0, .string ByteArray.empty, .bool false, .int .i64 0, .int .i64 0, .string ByteArray.empty, .bool false, .int .i64 0, .int .i64 0])), rfl, Try.und46, by kernel_rfl⟩
instance : ZV Try.prog 47 (.agg #[.int .i64 0, .int .i64 0, .int .i64 0, .string ByteArray.empty, .bool false, .int .i64 0, .int .i64 0, .string ByteArray.empty, .bool false, .int .i64 0, .int .i64 0, .string ByteArray.empty, .bool false, .int .i64 0, .int .i64 0, .string ByteArray.empty, .bool false, .int .i64 0, .int .i64 0, .string ByteArray.empty, .bool false, .int .i64 0, .int .i64 0, .string ByteArray.empty, .bool false, .int .i64 0, .int .i64 0, .string ByteArray.empty, .bool false, .int .i64 0, .int .i64 0, .string ByteArray.empty, .bool false, .int .i64 0, .int .i64 0]) := ⟨by kernel_rfl⟩
instance : SZ Try.prog 55 1 := ⟨by kernel_rfl⟩
instance : AG Try.prog 55 false := ⟨by kernel_rfl⟩
instance : ZV Try.prog 55 (.slice none 0 0) := ⟨by kernel_rfl⟩
instance : SL Try.prog 55 90 256 256 := ⟨_, .agg (List.replicate 256 (.int .u8 0)).toArray, by kernel_rfl, by kernel_rfl, Try.ti90, by kernel_rfl, by decide, by kernel_rfl, by kernel_rfl, by decide⟩
instance : SC Try.prog 55 90 := ⟨by kernel_rfl⟩
instance : SZ Try.prog 56 1 := ⟨by kernel_rfl⟩
instance : AG Try.prog 56 false := ⟨by kernel_rfl⟩
instance : ZV Try.prog 56 (.map none) := ⟨by kernel_rfl⟩
instance : MTY Try.prog 56 55 := ⟨3, by kernel_rfl, by kernel_rfl⟩
instance : SZ Try.prog 57 5 := ⟨by kernel_rfl⟩
instance : AG Try.prog 57 true := ⟨by kernel_rfl⟩
instance : FO Try.prog 57 0 0 := ⟨fun _ => by kernel_rfl⟩
instance : FD Try.prog 57 0 55 0 := ⟨fun _ => by rfl⟩
instance : FO Try.prog 57 1 1 := ⟨fun _ => by kernel_rfl⟩
instance : FD Try.prog 57 1 56 1 := ⟨fun _ => by rfl⟩
instance : FO Try.prog 57 2 2 := ⟨fun _ => by kernel_rfl⟩
instance : FD Try.prog 57 2 4 2 := ⟨fun _ => by rfl⟩
instance : FO Try.prog 57 3 3 := ⟨fun _ => by kernel_rfl⟩
instance : FD Try.prog 57 3 3 3 := ⟨fun _ => by rfl⟩
instance : FO Try.prog 57 4 4 := ⟨fun _ => by kernel_rfl⟩
instance : FD Try.prog 57 4 3 4 := ⟨fun _ => by rfl⟩
instance : BD Try.prog 57 #[.slice none 0 0, .map none, .bool false, .int .i64 0, .int .i64 0] [(0, 1), (1, 1), (2, 1), (3, 1), (4, 1)] := ⟨_, _, (by kernel_rfl : _ = some (.agg #[.slice none 0 0, .map none, .bool false, .int .i64 0, .int .i64 0])), rfl, Try.und57, by kernel_rfl⟩
instance : ZV Try.prog 57 (.agg #[.slice none 0 0, .map none, .bool false, .int .i64 0, .int .i64 0]) := ⟨by kernel_rfl⟩
instance : SZ Try.prog 58 5 := ⟨by kernel_rfl⟩
instance : AG Try.prog 58 true := ⟨by kernel_rfl⟩
instance : FO Try.prog 58 0 0 := ⟨fun _ => by kernel_rfl⟩
instance : FD Try.prog 58 0 55 0 := ⟨fun _ => by rfl⟩
instance : FO Try.prog 58 1 1 := ⟨fun _ => by kernel_rfl⟩
instance : FD Try.prog 58 1 56 1 := ⟨fun _ => by rfl⟩
instance : FO Try.prog 58 2 2 := ⟨fun _ => by kernel_rfl⟩
instance : FD Try.prog 58 2 4 2 := ⟨fun _ => by rfl⟩
instance : FO Try.prog 58 3 3 := ⟨fun _ => by kernel_rfl⟩
instance : FD Try.prog 58 3 3 3 := ⟨fun _ => by rfl⟩
instance : FO Try.prog 58 4 4 := ⟨fun _ => by kernel_rfl⟩
instance : FD Try.prog 58 4 3 4 := ⟨fun _ => by rfl⟩
instance : BD Try.prog 58 #[.slice none 0 0, .map none, .bool false, .int .i64 0, .int .i64 0] [(0, 1), (1, 1), (2, 1), (3, 1), (4, 1)] := ⟨_, _, (by kernel_rfl : _ = some (.agg #[.slice none 0 0, .map none, .bool false, .int .i64 0, .int .i64 0])), rfl, Try.und57, by kernel_rfl⟩
instance : ZV Try.prog 58 (.agg #[.slice none 0 0, .map none, .bool false, .int .i64 0, .int .i64 0]) := ⟨by kernel_rfl⟩
instance : SZ Try.prog 60 2 := ⟨by kernel_rfl⟩
instance : AG Try.prog 60 true := ⟨by kernel_rfl⟩
instance : FO Try.prog 60 0 0 := ⟨fun _ => by kernel_rfl⟩
instance : FD Try.prog 60 0 3 0 := ⟨fun _ => by rfl⟩
instance : FO Try.prog 60 1 1 := ⟨fun _ => by kernel_rfl⟩
instance : FD Try.prog 60 1 37 1 := ⟨fun _ => by rfl⟩
instance : BD Try.prog 60 #[.int .i64 0, .slice none 0 0] [(0, 1), (1, 1)] := ⟨_, _, (by kernel_rfl : _ = some (.agg #[.int .i64 0, .slice none 0 0])), rfl, Try.und60, by kernel_rfl⟩
instance : ZV Try.prog 60 (.agg #[.int .i64 0, .slice none 0 0]) := ⟨by kernel_rfl⟩
instance : SZ Try.prog 61 2 := ⟨by kernel_rfl⟩
instance : AG Try.prog 61 true := ⟨by kernel_rfl⟩
instance : FO Try.prog 61 0 0 := ⟨fun _ => by kernel_rfl⟩
instance : FD Try.prog 61 0 3 0 := ⟨fun _ => by rfl⟩
instance : FO Try.prog 61 1 1 := ⟨fun _ => by kernel_rfl⟩
instance : FD Try.prog 61 1 37 1 := ⟨fun _ => by rfl⟩
instance : BD Try.prog 61 #[.int .i64 0, .slice none 0 0] [(0, 1), (1, 1)] := ⟨_, _, (by kernel_rfl : _ = some (.agg #[.int .i64 0, .slice none 0 0])), rfl, Try.und60, by kernel_rfl⟩
instance : ZV Try.prog 61 (.agg #[.int .i64 0, .slice none 0 0]) := ⟨by kernel_rfl⟩
instance : SZ Try.prog 62 1 := ⟨by kernel_rfl⟩
instance : AG Try.prog 62 false := ⟨by kernel_rfl⟩
instance : ZV Try.prog 62 (.pointer none) := ⟨by kernel_rfl⟩
instance : SZ Try.prog 70 1 := ⟨by kernel_rfl⟩
instance : AG Try.prog 70 false := ⟨by kernel_rfl⟩
instance : ZV Try.prog 70 (.slice none 0 0) := ⟨by kernel_rfl⟩
instance : ZV Try.prog 114 (.agg #[.int .i64 0, .int .i64 0, .int .i64 0, .slice none 0 0]) := ⟨by kernel_rfl⟩
instance : SL Try.prog 70 114 4 48 := ⟨_, .agg #[.int .i64 0, .int .i64 0, .int .i64 0, .slice none 0 0], by kernel_rfl, by kernel_rfl, Try.ti114, by kernel_rfl, by decide, by kernel_rfl, by rfl, by decide⟩
instance : SC Try.prog 70 114 := ⟨by kernel_rfl⟩
instance : SZ Try.prog 71 1 := ⟨by kernel_rfl⟩
instance : AG Try.prog 71 false := ⟨by kernel_rfl⟩
instance : ZV Try.prog 71 (.slice none 0 0) := ⟨by kernel_rfl⟩
instance : ZV Try.prog 118 (.agg #[.int .i64 0, .int .i64 0, .int .i64 0, .int .i64 0]) := ⟨by kernel_rfl⟩
instance : SL Try.prog 71 118 4 32 := ⟨_, .agg #[.int .i64 0, .int .i64 0, .int .i64 0, .int .i64 0], by kernel_rfl, by kernel_rfl, Try.ti118, by kernel_rfl, by decide, by kernel_rfl, by rfl, by decide⟩
instance : SC Try.prog 71 118 := ⟨by kernel_rfl⟩
instance : SZ Try.prog 72 3 := ⟨by kernel_rfl⟩
instance : AG Try.prog 72 true := ⟨by kernel_rfl⟩
instance : FO Try.prog 72 0 0 := ⟨fun _ => by kernel_rfl⟩
instance : FD Try.prog 72 0 3 0 := ⟨fun _ => by rfl⟩
instance : FO Try.prog 72 1 1 := ⟨fun _ => by kernel_rfl⟩
instance : FD Try.prog 72 1 70 1 := ⟨fun _ => by rfl⟩
instance : FO Try.prog 72 2 2 := ⟨fun _ => by kernel_rfl⟩
instance : FD Try.prog 72 2 71 2 := ⟨fun _ => by rfl⟩
instance : BD Try.prog 72 #[.int .i64 0, .slice none 0 0, .slice none 0 0] [(0, 1), (1, 1), (2, 1)] := ⟨_, _, (by kernel_rfl : _ = some (.agg #[.int .i64 0, .slice none 0 0, .slice none 0 0])), rfl, Try.und72, by kernel_rfl⟩
instance : ZV Try.prog 72 (.agg #[.int .i64 0, .slice none 0 0, .slice none 0 0]) := ⟨by kernel_rfl⟩
instance : SZ Try.prog 73 3 := ⟨by kernel_rfl⟩
instance : AG Try.prog 73 true := ⟨by kernel_rfl⟩
instance : FO Try.prog 73 0 0 := ⟨fun _ => by kernel_rfl⟩
instance : FD Try.prog 73 0 3 0 := ⟨fun _ => by rfl⟩
instance : FO Try.prog 73 1 1 := ⟨fun _ => by kernel_rfl⟩
instance : FD Try.prog 73 1 70 1 := ⟨fun _ => by rfl⟩
instance : FO Try.prog 73 2 2 := ⟨fun _ => by kernel_rfl⟩
instance : FD Try.prog 73 2 71 2 := ⟨fun _ => by rfl⟩
instance : BD Try.prog 73 #[.int .i64 0, .slice none 0 0, .slice none 0 0] [(0, 1), (1, 1), (2, 1)] := ⟨_, _, (by kernel_rfl : _ = some (.agg #[.int .i64 0, .slice none 0 0, .slice none 0 0])), rfl, Try.und72, by kernel_rfl⟩
instance : ZV Try.prog 73 (.agg #[.int .i64 0, .slice none 0 0, .slice none 0 0]) := ⟨by kernel_rfl⟩
instance : SZ Try.prog 74 5 := ⟨by kernel_rfl⟩
instance : AG Try.prog 74 true := ⟨by kernel_rfl⟩
instance : FO Try.prog 74 0 0 := ⟨fun _ => by kernel_rfl⟩
instance : FD Try.prog 74 0 3 0 := ⟨fun _ => by rfl⟩
instance : FO Try.prog 74 1 1 := ⟨fun _ => by kernel_rfl⟩
instance : FD Try.prog 74 1 73 1 := ⟨fun _ => by rfl⟩
instance : FO Try.prog 74 2 4 := ⟨fun _ => by kernel_rfl⟩
instance : FD Try.prog 74 2 37 4 := ⟨fun _ => by rfl⟩
instance : BD Try.prog 74 #[.int .i64 0, .int .i64 0, .slice none 0 0, .slice none 0 0, .slice none 0 0] [(0, 1), (1, 3), (4, 1)] := ⟨_, _, (by kernel_rfl : _ = some (.agg #[.int .i64 0, .int .i64 0, .slice none 0 0, .slice none 0 0, .slice none 0 0])), rfl, Try.und74, by kernel_rfl⟩
instance : ZV Try.prog 74 (.agg #[.int .i64 0, .int .i64 0, .slice none 0 0, .slice none 0 0, .slice none 0 0]) := ⟨by kernel_rfl⟩
instance : SZ Try.prog 75 5 := ⟨by kernel_rfl⟩
instance : AG Try.prog 75 true := ⟨by kernel_rfl⟩
instance : FO Try.prog 75 0 0 := ⟨fun _ => by kernel_rfl⟩
instance : FD Try.prog 75 0 3 0 := ⟨fun _ => by rfl⟩
instance : FO Try.prog 75 1 1 := ⟨fun _ => by kernel_rfl⟩
instance : FD Try.prog 75 1 73 1 := ⟨fun _ => by rfl⟩
instance : FO Try.prog 75 2 4 := ⟨fun _ => by kernel_rfl⟩
instance : FD Try.prog 75 2 37 4 := ⟨fun _ => by rfl⟩
instance : BD Try.prog 75 #[.int .i64 0, .int .i64 0, .slice none 0 0, .slice none 0 0, .slice none 0 0] [(0, 1), (1, 3), (4, 1)] := ⟨_, _, (by kernel_rfl : _ = some (.agg #[.int .i64 0, .int .i64 0, .slice none 0 0, .slice none 0 0, .slice none 0 0])), rfl, Try.und74, by kernel_rfl⟩
instance : ZV Try.prog 75 (.agg #[.int .i64 0, .int .i64 0, .slice none 0 0, .slice none 0 0, .slice none 0 0]) := ⟨by kernel_rfl⟩
instance : SZ Try.prog 76 1 := ⟨by kernel_rfl⟩
instance : AG Try.prog 76 false := ⟨by kernel_rfl⟩
instance : ZV Try.prog 76 (.map none) := ⟨by kernel_rfl⟩
instance : MTY Try.prog 76 75 := ⟨3, by kernel_rfl, by kernel_rfl⟩
instance : SZ Try.prog 77 38 := ⟨by kernel_rfl⟩
instance : AG Try.prog 77 true := ⟨by kernel_rfl⟩
instance : FO Try.prog 77 0 0 := ⟨fun _ => by kernel_rfl⟩
instance : FD Try.prog 77 0 28 0 := ⟨fun _ => by rfl⟩
instance : FO Try.prog 77 1 1 := ⟨fun _ => by kernel_rfl⟩
instance : FD Try.prog 77 1 47 1 := ⟨fun _ => by rfl⟩
instance : FO Try.prog 77 2 36 := ⟨fun _ => by kernel_rfl⟩
instance : FD Try.prog 77 2 62 36 := ⟨fun _ => by rfl⟩
instance : FO Try.prog 77 3 37 := ⟨fun _ => by kernel_rfl⟩
instance : FD Try.prog 77 3 76 37 := ⟨fun _ => by rfl⟩
instance : BD Try.prog 77 #[.pointer none, .int .i64 0, .int .i64 0, .int .i64 0, .string ByteArray.empty, .bool false, .int .i64 0, .int .i64 0, .string ByteArray.empty, .bool false, .int .i64 0, .int .i64 0, .string ByteArray.empty, .bool false, .int .i64 0, .int .i64 0, .string ByteArray.empty, .bool false, .int .i64 0, .int .i64 0, .string ByteArray.empty, .bool false, .int .i64 0, .int .i64 0, .string ByteArray.empty, .bool false, .int .i64 0, .int .i64 0, .string ByteArray.empty, .bool false, .int .i64 0, .int .i64 0, .string ByteArray.empty, .bool false, .int .i64 0, .int .i64 0, .pointer none, .map none] [(0, 1), (1, 35), (36, 1), (37, 1)] := ⟨_, _, (by kernel_rfl : _ = some (.agg #[.pointer none, .int .i64 0, .int .i64 0, .int .i64 0, .string ByteArray.empty, .bool false, .int .i64 0, .int .i64 0, .string ByteArray.empty, .bool false, .int .i64 0, .int .i64 0, .string ByteArray.empty, .bool false, .int .i64 0, .int .i64 0, .string ByteArray.empty, .bool false, .int .i64 0, .int .i64 0, .string ByteArray.empty, .bool false, .int .i64 0, .int .i64 0, .string ByteArray.empty, .bool false, .int .i64 0, .int .i64 0, .string ByteArray.empty, .bool false, .int .i64 0, .int .i64 0, .string ByteArray.empty, .bool false, .int .i64 0, .int .i64 0, .pointer none, .map none])), rfl, Try.und77, by kernel_rfl⟩
instance : ZV Try.prog 77 (.agg #[.pointer none, .int .i64 0, .int .i64 0, .int .i64 0, .string ByteArray.empty, .bool false, .int .i64 0, .int .i64 0, .string ByteArray.empty, .bool false, .int .i64 0, .int .i64 0, .string ByteArray.empty, .bool false, .int .i64 0, .int .i64 0, .string ByteArray.empty, .bool false, .int .i64 0, .int .i64 0, .string ByteArray.empty, .bool false, .int .i64 0, .int .i64 0, .string ByteArray.empty, .bool false, .int .i64 0, .int .i64 0, .string ByteArray.empty, .bool false, .int .i64 0, .int .i64 0, .string ByteArray.empty, .bool false, .int .i64 0, .int .i64 0, .pointer none, .map none]) := ⟨by kernel_rfl⟩
instance : SZ Try.prog 78 38 := ⟨by kernel_rfl⟩
instance : AG Try.prog 78 true := ⟨by kernel_rfl⟩
instance : FO Try.prog 78 0 0 := ⟨fun _ => by kernel_rfl⟩
instance : FD Try.prog 78 0 28 0 := ⟨fun _ => by rfl⟩
instance : FO Try.prog 78 1 1 := ⟨fun _ => by kernel_rfl⟩
instance : FD Try.prog 78 1 47 1 := ⟨fun _ => by rfl⟩
instance : FO Try.prog 78 2 36 := ⟨fun _ => by kernel_rfl⟩
instance : FD Try.prog 78 2 62 36 := ⟨fun _ => by rfl⟩
instance : FO Try.prog 78 3 37 := ⟨fun _ => by kernel_rfl⟩
instance : FD Try.prog 78 3 76 37 := ⟨fun _ => by rfl⟩
instance : BD Try.prog 78 #[.pointer none, .int .i64 0, .int .i64 0, .int .i64 0, .string ByteArray.empty, .bool false, .int .i64 0, .int .i64 0, .string ByteArray.empty, .bool false, .int .i64 0, .int .i64 0, .string ByteArray.empty, .bool false, .int .i64 0, .int .i64 0, .string ByteArray.empty, .bool false, .int .i64 0, .int .i64 0, .string ByteArray.empty, .bool false, .int .i64 0, .int .i64 0, .string ByteArray.empty, .bool false, .int .i64 0, .int .i64 0, .string ByteArray.empty, .bool false, .int .i64 0, .int .i64 0, .string ByteArray.empty, .bool false, .int .i64 0, .int .i64 0, .pointer none, .map none] [(0, 1), (1, 35), (36, 1), (37, 1)] := ⟨_, _, (by kernel_rfl : _ = some (.agg #[.pointer none, .int .i64 0, .int .i64 0, .int .i64 0, .string ByteArray.empty, .bool false, .int .i64 0, .int .i64 0, .string ByteArray.empty, .bool false, .int .i64 0, .int .i64 0, .string ByteArray.empty, .bool false, .int .i64 0, .int .i64 0, .string ByteArray.empty, .bool false, .int .i64 0, .int .i64 0, .string ByteArray.empty, .bool false, .int .i64 0, .int .i64 0, .string ByteArray.empty, .bool false, .int .i64 0, .int .i64 0, .string ByteArray.empty, .bool false, .int .i64 0, .int .i64 0, .string ByteArray.empty, .bool false, .int .i64 0, .int .i64 0, .pointer none, .map none])), rfl, Try.und77, by kernel_rfl⟩
instance : ZV Try.prog 78 (.agg #[.pointer none, .int .i64 0, .int .i64 0, .int .i64 0, .string ByteArray.empty, .bool false, .int .i64 0, .int .i64 0, .string ByteArray.empty, .bool false, .int .i64 0, .int .i64 0, .string ByteArray.empty, .bool false, .int .i64 0, .int .i64 0, .string ByteArray.empty, .bool false, .int .i64 0, .int .i64 0, .string ByteArray.empty, .bool false, .int .i64 0, .int .i64 0, .string ByteArray.empty, .bool false, .int .i64 0, .int .i64 0, .string ByteArray.empty, .bool false, .int .i64 0, .int .i64 0, .string ByteArray.empty, .bool false, .int .i64 0, .int .i64 0, .pointer none, .map none]) := ⟨by kernel_rfl⟩
instance : SZ Try.prog 85 5 := ⟨by kernel_rfl⟩
instance : AG Try.prog 85 true := ⟨by kernel_rfl⟩
instance : FO Try.prog 85 0 0 := ⟨fun _ => by kernel_rfl⟩
instance : FD Try.prog 85 0 3 0 := ⟨fun _ => by rfl⟩
instance : FO Try.prog 85 1 1 := ⟨fun _ => by kernel_rfl⟩
instance : FD Try.prog 85 1 3 1 := ⟨fun _ => by rfl⟩
instance : FO Try.prog 85 2 2 := ⟨fun _ => by kernel_rfl⟩
instance : FD Try.prog 85 2 3 2 := ⟨fun _ => by rfl⟩
instance : FO Try.prog 85 3 3 := ⟨fun _ => by kernel_rfl⟩
instance : FD Try.prog 85 3 3 3 := ⟨fun _ => by rfl⟩
instance : FO Try.prog 85 4 4 := ⟨fun _ => by kernel_rfl⟩
instance : FD Try.prog 85 4 3 4 := ⟨fun _ => by rfl⟩
instance : BD Try.prog 85 #[.int .i64 0, .int .i64 0, .int .i64 0, .int .i64 0, .int .i64 0] [(0, 1), (1, 1), (2, 1), (3, 1), (4, 1)] := ⟨_, _, (by kernel_rfl : _ = some (.agg #[.int .i64 0, .int .i64 0, .int .i64 0, .int .i64 0, .int .i64 0])), rfl, Try.und85, by kernel_rfl⟩
instance : ZV Try.prog 85 (.agg #[.int .i64 0, .int .i64 0, .int .i64 0, .int .i64 0, .int .i64 0]) := ⟨by kernel_rfl⟩
instance : SZ Try.prog 86 5 := ⟨by kernel_rfl⟩
instance : AG Try.prog 86 true := ⟨by kernel_rfl⟩
instance : FO Try.prog 86 0 0 := ⟨fun _ => by kernel_rfl⟩
instance : FD Try.prog 86 0 3 0 := ⟨fun _ => by rfl⟩
instance : FO Try.prog 86 1 1 := ⟨fun _ => by kernel_rfl⟩
instance : FD Try.prog 86 1 3 1 := ⟨fun _ => by rfl⟩
instance : FO Try.prog 86 2 2 := ⟨fun _ => by kernel_rfl⟩
instance : FD Try.prog 86 2 3 2 := ⟨fun _ => by rfl⟩
instance : FO Try.prog 86 3 3 := ⟨fun _ => by kernel_rfl⟩
instance : FD Try.prog 86 3 3 3 := ⟨fun _ => by rfl⟩
instance : FO Try.prog 86 4 4 := ⟨fun _ => by kernel_rfl⟩
instance : FD Try.prog 86 4 3 4 := ⟨fun _ => by rfl⟩
instance : BD Try.prog 86 #[.int .i64 0, .int .i64 0, .int .i64 0, .int .i64 0, .int .i64 0] [(0, 1), (1, 1), (2, 1), (3, 1), (4, 1)] := ⟨_, _, (by kernel_rfl : _ = some (.agg #[.int .i64 0, .int .i64 0, .int .i64 0, .int .i64 0, .int .i64 0])), rfl, Try.und85, by kernel_rfl⟩
instance : ZV Try.prog 86 (.agg #[.int .i64 0, .int .i64 0, .int .i64 0, .int .i64 0, .int .i64 0]) := ⟨by kernel_rfl⟩
instance : SZ Try.prog 89 256 := ⟨by kernel_rfl⟩
instance : AG Try.prog 89 true := ⟨by kernel_rfl⟩
instance : ZV Try.prog 89 (.agg (List.replicate 256 (.int .u8 0)).toArray) := ⟨by kernel_rfl⟩
instance : AR Try.prog 89 256 5 := ⟨by kernel_rfl⟩
instance : SZ Try.prog 90 256 := ⟨by kernel_rfl⟩
instance : AG Try.prog 90 true := ⟨by kernel_rfl⟩
instance : ZV Try.prog 90 (.agg (List.replicate 256 (.int .u8 0)).toArray) := ⟨by kernel_rfl⟩
instance : AR Try.prog 90 256 5 := ⟨by kernel_rfl⟩
instance : SZ Try.prog 102 1 := ⟨by kernel_rfl⟩
instance : AG Try.prog 102 false := ⟨by kernel_rfl⟩
instance : ZV Try.prog 102 (.slice none 0 0) := ⟨by kernel_rfl⟩
instance : SL Try.prog 102 61 2 32 := ⟨_, .agg #[.int .i64 0, .slice none 0 0], by kernel_rfl, by kernel_rfl, Try.ti61, by kernel_rfl, by decide, by kernel_rfl, by rfl, by decide⟩
instance : SC Try.prog 102 61 := ⟨by kernel_rfl⟩
instance : SZ Try.prog 104 4 := ⟨by kernel_rfl⟩
instance : AG Try.prog 104 true := ⟨by kernel_rfl⟩
instance : FO Try.prog 104 0 0 := ⟨fun _ => by kernel_rfl⟩
instance : FD Try.prog 104 0 24 0 := ⟨fun _ => by rfl⟩
instance : FO Try.prog 104 1 1 := ⟨fun _ => by kernel_rfl⟩
instance : FD Try.prog 104 1 24 1 := ⟨fun _ => by rfl⟩
instance : FO Try.prog 104 2 2 := ⟨fun _ => by kernel_rfl⟩
instance : FD Try.prog 104 2 3 2 := ⟨fun _ => by rfl⟩
instance : FO Try.prog 104 3 3 := ⟨fun _ => by kernel_rfl⟩
instance : FD Try.prog 104 3 3 3 := ⟨fun _ => by rfl⟩
instance : BD Try.prog 104 #[.slice none 0 0, .slice none 0 0, .int .i64 0, .int .i64 0] [(0, 1), (1, 1), (2, 1), (3, 1)] := ⟨_, _, (by kernel_rfl : _ = some (.agg #[.slice none 0 0, .slice none 0 0, .int .i64 0, .int .i64 0])), rfl, Try.und104, by kernel_rfl⟩
instance : ZV Try.prog 104 (.agg #[.slice none 0 0, .slice none 0 0, .int .i64 0, .int .i64 0]) := ⟨by kernel_rfl⟩
instance : SZ Try.prog 105 4 := ⟨by kernel_rfl⟩
instance : AG Try.prog 105 true := ⟨by kernel_rfl⟩
instance : FO Try.prog 105 0 0 := ⟨fun _ => by kernel_rfl⟩
instance : FD Try.prog 105 0 24 0 := ⟨fun _ => by rfl⟩
instance : FO Try.prog 105 1 1 := ⟨fun _ => by kernel_rfl⟩
instance : FD Try.prog 105 1 24 1 := ⟨fun _ => by rfl⟩
instance : FO Try.prog 105 2 2 := ⟨fun _ => by kernel_rfl⟩
instance : FD Try.prog 105 2 3 2 := ⟨fun _ => by rfl⟩
instance : FO Try.prog 105 3 3 := ⟨fun _ => by kernel_rfl⟩
instance : FD Try.prog 105 3 3 3 := ⟨fun _ => by rfl⟩
instance : BD Try.prog 105 #[.slice none 0 0, .slice none 0 0, .int .i64 0, .int .i64 0] [(0, 1), (1, 1), (2, 1), (3, 1)] := ⟨_, _, (by kernel_rfl : _ = some (.agg #[.slice none 0 0, .slice none 0 0, .int .i64 0, .int .i64 0])), rfl, Try.und104, by kernel_rfl⟩
instance : ZV Try.prog 105 (.agg #[.slice none 0 0, .slice none 0 0, .int .i64 0, .int .i64 0]) := ⟨by kernel_rfl⟩
instance : SZ Try.prog 111 3 := ⟨by kernel_rfl⟩
instance : AG Try.prog 111 true := ⟨by kernel_rfl⟩
instance : FO Try.prog 111 0 0 := ⟨fun _ => by kernel_rfl⟩
instance : FD Try.prog 111 0 3 0 := ⟨fun _ => by rfl⟩
instance : FO Try.prog 111 1 1 := ⟨fun _ => by kernel_rfl⟩
instance : FD Try.prog 111 1 3 1 := ⟨fun _ => by rfl⟩
instance : FO Try.prog 111 2 2 := ⟨fun _ => by kernel_rfl⟩
instance : FD Try.prog 111 2 3 2 := ⟨fun _ => by rfl⟩
instance : BD Try.prog 111 #[.int .i64 0, .int .i64 0, .int .i64 0] [(0, 1), (1, 1), (2, 1)] := ⟨_, _, (by kernel_rfl : _ = some (.agg #[.int .i64 0, .int .i64 0, .int .i64 0])), rfl, Try.und111, by kernel_rfl⟩
instance : ZV Try.prog 111 (.agg #[.int .i64 0, .int .i64 0, .int .i64 0]) := ⟨by kernel_rfl⟩
instance : SZ Try.prog 112 3 := ⟨by kernel_rfl⟩
instance : AG Try.prog 112 true := ⟨by kernel_rfl⟩
instance : FO Try.prog 112 0 0 := ⟨fun _ => by kernel_rfl⟩
instance : FD Try.prog 112 0 3 0 := ⟨fun _ => by rfl⟩
instance : FO Try.prog 112 1 1 := ⟨fun _ => by kernel_rfl⟩
instance : FD Try.prog 112 1 3 1 := ⟨fun _ => by rfl⟩
instance : FO Try.prog 112 2 2 := ⟨fun _ => by kernel_rfl⟩
instance : FD Try.prog 112 2 3 2 := ⟨fun _ => by rfl⟩
instance : BD Try.prog 112 #[.int .i64 0, .int .i64 0, .int .i64 0] [(0, 1), (1, 1), (2, 1)] := ⟨_, _, (by kernel_rfl : _ = some (.agg #[.int .i64 0, .int .i64 0, .int .i64 0])), rfl, Try.und111, by kernel_rfl⟩
instance : ZV Try.prog 112 (.agg #[.int .i64 0, .int .i64 0, .int .i64 0]) := ⟨by kernel_rfl⟩
instance : SZ Try.prog 113 4 := ⟨by kernel_rfl⟩
instance : AG Try.prog 113 true := ⟨by kernel_rfl⟩
instance : FO Try.prog 113 0 0 := ⟨fun _ => by kernel_rfl⟩
instance : FD Try.prog 113 0 112 0 := ⟨fun _ => by rfl⟩
instance : FO Try.prog 113 1 3 := ⟨fun _ => by kernel_rfl⟩
instance : FD Try.prog 113 1 37 3 := ⟨fun _ => by rfl⟩
instance : BD Try.prog 113 #[.int .i64 0, .int .i64 0, .int .i64 0, .slice none 0 0] [(0, 3), (3, 1)] := ⟨_, _, (by kernel_rfl : _ = some (.agg #[.int .i64 0, .int .i64 0, .int .i64 0, .slice none 0 0])), rfl, Try.und113, by kernel_rfl⟩
instance : ZV Try.prog 113 (.agg #[.int .i64 0, .int .i64 0, .int .i64 0, .slice none 0 0]) := ⟨by kernel_rfl⟩
instance : SZ Try.prog 114 4 := ⟨by kernel_rfl⟩
instance : AG Try.prog 114 true := ⟨by kernel_rfl⟩
instance : FO Try.prog 114 0 0 := ⟨fun _ => by kernel_rfl⟩
instance : FD Try.prog 114 0 112 0 := ⟨fun _ => by rfl⟩
instance : FO Try.prog 114 1 3 := ⟨fun _ => by kernel_rfl⟩
instance : FD Try.prog 114 1 37 3 := ⟨fun _ => by rfl⟩
instance : BD Try.prog 114 #[.int .i64 0, .int .i64 0, .int .i64 0, .slice none 0 0] [(0, 3), (3, 1)] := ⟨_, _, (by kernel_rfl : _ = some (.agg #[.int .i64 0, .int .i64 0, .int .i64 0, .slice none 0 0])), rfl, Try.und113, by kernel_rfl⟩
instance : SZ Try.prog 117 4 := ⟨by kernel_rfl⟩
instance : AG Try.prog 117 true := ⟨by kernel_rfl⟩
instance : FO Try.prog 117 0 0 := ⟨fun _ => by kernel_rfl⟩
instance : FD Try.prog 117 0 112 0 := ⟨fun _ => by rfl⟩
instance : FO Try.prog 117 1 3 := ⟨fun _ => by kernel_rfl⟩
instance : FD Try.prog 117 1 3 3 := ⟨fun _ => by rfl⟩
instance : BD Try.prog 117 #[.int .i64 0, .int .i64 0, .int .i64 0, .int .i64 0] [(0, 3), (3, 1)] := ⟨_, _, (by kernel_rfl : _ = some (.agg #[.int .i64 0, .int .i64 0, .int .i64 0, .int .i64 0])), rfl, Try.und117, by kernel_rfl⟩
instance : ZV Try.prog 117 (.agg #[.int .i64 0, .int .i64 0, .int .i64 0, .int .i64 0]) := ⟨by kernel_rfl⟩
instance : SZ Try.prog 118 4 := ⟨by kernel_rfl⟩
instance : AG Try.prog 118 true := ⟨by kernel_rfl⟩
instance : FO Try.prog 118 0 0 := ⟨fun _ => by kernel_rfl⟩
instance : FD Try.prog 118 0 112 0 := ⟨fun _ => by rfl⟩
instance : FO Try.prog 118 1 3 := ⟨fun _ => by kernel_rfl⟩
instance : FD Try.prog 118 1 3 3 := ⟨fun _ => by rfl⟩
instance : BD Try.prog 118 #[.int .i64 0, .int .i64 0, .int .i64 0, .int .i64 0] [(0, 3), (3, 1)] := ⟨_, _, (by kernel_rfl : _ = some (.agg #[.int .i64 0, .int .i64 0, .int .i64 0, .int .i64 0])), rfl, Try.und117, by kernel_rfl⟩
instance : SZ Try.prog 120 1 := ⟨by kernel_rfl⟩
instance : AG Try.prog 120 false := ⟨by kernel_rfl⟩
instance : ZV Try.prog 120 (.int .u32 0) := ⟨by kernel_rfl⟩
instance : SZ Try.prog 131 10 := ⟨by kernel_rfl⟩
instance : AG Try.prog 131 true := ⟨by kernel_rfl⟩
instance : ZV Try.prog 131 (.agg #[.int .u8 0, .int .u8 0, .int .u8 0, .int .u8 0, .int .u8 0, .int .u8 0, .int .u8 0, .int .u8 0, .int .u8 0, .int .u8 0]) := ⟨by kernel_rfl⟩
instance : AR Try.prog 131 10 5 := ⟨by kernel_rfl⟩
instance : SZ Try.prog 132 10 := ⟨by kernel_rfl⟩
instance : AG Try.prog 132 true := ⟨by kernel_rfl⟩
instance : ZV Try.prog 132 (.agg #[.int .u8 0, .int .u8 0, .int .u8 0, .int .u8 0, .int .u8 0, .int .u8 0, .int .u8 0, .int .u8 0, .int .u8 0, .int .u8 0]) := ⟨by kernel_rfl⟩
instance : AR Try.prog 132 10 5 := ⟨by kernel_rfl⟩
instance : SZ Try.prog 136 1 := ⟨by kernel_rfl⟩
instance : AG Try.prog 136 false := ⟨by kernel_rfl⟩
instance : ZV Try.prog 136 (.int .u64 0) := ⟨by kernel_rfl⟩
instance : SZ Try.prog 142 8 := ⟨by kernel_rfl⟩
instance : AG Try.prog 142 true := ⟨by kernel_rfl⟩
instance : ZV Try.prog 142 (.agg #[.int .u8 0, .int .u8 0, .int .u8 0, .int .u8 0, .int .u8 0, .int .u8 0, .int .u8 0, .int .u8 0]) := ⟨by kernel_rfl⟩
instance : AR Try.prog 142 8 5 := ⟨by kernel_rfl⟩
instance : SZ Try.prog 143 1 := ⟨by kernel_rfl⟩
instance : AG Try.prog 143 false := ⟨by kernel_rfl⟩
instance : ZV Try.prog 143 (.int .u64 0) := ⟨by kernel_rfl⟩
instance : SZ Try.prog 144 2 := ⟨by kernel_rfl⟩
instance : AG Try.prog 144 true := ⟨by kernel_rfl⟩
instance : ZV Try.prog 144 (.agg #[.int .i64 0, .int .i64 0]) := ⟨by kernel_rfl⟩
instance : AR Try.prog 144 2 3 := ⟨by kernel_rfl⟩
instance : SZ Try.prog 145 1 := ⟨by kernel_rfl⟩
instance : AG Try.prog 145 false := ⟨by kernel_rfl⟩
instance : ZV Try.prog 145 (.slice none 0 0) := ⟨by kernel_rfl⟩
instance : SL Try.prog 145 144 2 16 := ⟨_, .agg #[.int .i64 0, .int .i64 0], by kernel_rfl, by kernel_rfl, Try.ti144, by kernel_rfl, by decide, by kernel_rfl, by rfl, by decide⟩
instance : SC Try.prog 145 144 := ⟨by kernel_rfl⟩
instance : SZ Try.prog 147 8 := ⟨by kernel_rfl⟩
instance : AG Try.prog 147 true := ⟨by kernel_rfl⟩
instance : ZV Try.prog 147 (.agg #[.string ByteArray.empty, .string ByteArray.empty, .string ByteArray.empty, .string ByteArray.empty, .string ByteArray.empty, .string ByteArray.empty, .string ByteArray.empty, .string ByteArray.empty]) := ⟨by kernel_rfl⟩
instance : AR Try.prog 147 8 9 := ⟨by kernel_rfl⟩
instance : SZ Try.prog 150 1 := ⟨by kernel_rfl⟩
instance : AG Try.prog 150 false := ⟨by kernel_rfl⟩
instance : ZV Try.prog 150 (.int .i64 0) := ⟨by kernel_rfl⟩
instance : SZ Try.prog 162 16 := ⟨by kernel_rfl⟩
instance : AG Try.prog 162 true := ⟨by kernel_rfl⟩
instance : ZV Try.prog 162 (.agg #[.int .u32 0, .int .u32 0, .int .u32 0, .int .u32 0, .int .u32 0, .int .u32 0, .int .u32 0, .int .u32 0, .int .u32 0, .int .u32 0, .int .u32 0, .int .u32 0, .int .u32 0, .int .u32 0, .int .u32 0, .int .u32 0]) := ⟨by kernel_rfl⟩
instance : AR Try.prog 162 16 120 := ⟨by kernel_rfl⟩
instance : SZ Try.prog 163 16 := ⟨by kernel_rfl⟩
instance : AG Try.prog 163 true := ⟨by kernel_rfl⟩
instance : ZV Try.prog 163 (.agg #[.int .u32 0, .int .u32 0, .int .u32 0, .int .u32 0, .int .u32 0, .int .u32 0, .int .u32 0, .int .u32 0, .int .u32 0, .int .u32 0, .int .u32 0, .int .u32 0, .int .u32 0, .int .u32 0, .int .u32 0, .int .u32 0]) := ⟨by kernel_rfl⟩
instance : AR Try.prog 163 16 120 := ⟨by kernel_rfl⟩
instance : SZ Try.prog 165 1 := ⟨by kernel_rfl⟩
instance : AG Try.prog 165 false := ⟨by kernel_rfl⟩
instance : ZV Try.prog 165 (.int .u64 0) := ⟨by kernel_rfl⟩
instance : SZ Try.prog 169 1 := ⟨by kernel_rfl⟩
instance : AG Try.prog 169 false := ⟨by kernel_rfl⟩
instance : ZV Try.prog 169 (.pointer none) := ⟨by kernel_rfl⟩
instance : SZ Try.prog 174 1 := ⟨by kernel_rfl⟩
instance : AG Try.prog 174 false := ⟨by kernel_rfl⟩
instance : ZV Try.prog 174 (.pointer none) := ⟨by kernel_rfl⟩
instance : SZ Try.prog 177 4 := ⟨by kernel_rfl⟩
instance : AG Try.prog 177 true := ⟨by kernel_rfl⟩
instance : SZ Try.prog 178 4 := ⟨by kernel_rfl⟩
instance : AG Try.prog 178 true := ⟨by kernel_rfl⟩
instance : SZ Try.prog 179 0 := ⟨by kernel_rfl⟩
instance : AG Try.prog 179 true := ⟨by kernel_rfl⟩
instance : AR Try.prog 179 0 16 := ⟨by kernel_rfl⟩
instance : SZ Try.prog 180 0 := ⟨by kernel_rfl⟩
instance : AG Try.prog 180 true := ⟨by kernel_rfl⟩
instance : SZ Try.prog 181 0 := ⟨by kernel_rfl⟩
instance : AG Try.prog 181 true := ⟨by kernel_rfl⟩
instance : SZ Try.prog 182 1 := ⟨by kernel_rfl⟩
instance : AG Try.prog 182 false := ⟨by kernel_rfl⟩
instance : SZ Try.prog 183 1 := ⟨by kernel_rfl⟩
instance : AG Try.prog 183 false := ⟨by kernel_rfl⟩
instance : SZ Try.prog 185 1 := ⟨by kernel_rfl⟩
instance : AG Try.prog 185 false := ⟨by kernel_rfl⟩
instance : ZV Try.prog 185 (.pointer none) := ⟨by kernel_rfl⟩
instance : SZ Try.prog 186 1 := ⟨by kernel_rfl⟩
instance : AG Try.prog 186 false := ⟨by kernel_rfl⟩
instance : SZ Try.prog 187 1 := ⟨by kernel_rfl⟩
instance : AG Try.prog 187 false := ⟨by kernel_rfl⟩
instance : SZ Try.prog 188 11 := ⟨by kernel_rfl⟩
instance : AG Try.prog 188 true := ⟨by kernel_rfl⟩
instance : FO Try.prog 188 0 0 := ⟨fun _ => by kernel_rfl⟩
instance : FD Try.prog 188 0 12 0 := ⟨fun _ => by rfl⟩
instance : FO Try.prog 188 1 1 := ⟨fun _ => by kernel_rfl⟩
instance : FD Try.prog 188 1 12 1 := ⟨fun _ => by rfl⟩
instance : FO Try.prog 188 2 2 := ⟨fun _ => by kernel_rfl⟩
instance : FD Try.prog 188 2 120 2 := ⟨fun _ => by rfl⟩
instance : FO Try.prog 188 3 3 := ⟨fun _ => by kernel_rfl⟩
instance : FD Try.prog 188 3 182 3 := ⟨fun _ => by rfl⟩
instance : FO Try.prog 188 4 4 := ⟨fun _ => by kernel_rfl⟩
instance : FD Try.prog 188 4 5 4 := ⟨fun _ => by rfl⟩
instance : FO Try.prog 188 5 5 := ⟨fun _ => by kernel_rfl⟩
instance : FD Try.prog 188 5 5 5 := ⟨fun _ => by rfl⟩
instance : FO Try.prog 188 6 6 := ⟨fun _ => by kernel_rfl⟩
instance : FD Try.prog 188 6 183 6 := ⟨fun _ => by rfl⟩
instance : FO Try.prog 188 7 7 := ⟨fun _ => by kernel_rfl⟩
instance : FD Try.prog 188 7 184 7 := ⟨fun _ => by rfl⟩
instance : FO Try.prog 188 8 8 := ⟨fun _ => by kernel_rfl⟩
instance : FD Try.prog 188 8 185 8 := ⟨fun _ => by rfl⟩
instance : FO Try.prog 188 9 9 := ⟨fun _ => by kernel_rfl⟩
instance : FD Try.prog 188 9 186 9 := ⟨fun _ => by rfl⟩
instance : FO Try.prog 188 10 10 := ⟨fun _ => by kernel_rfl⟩
instance : FD Try.prog 188 10 187 10 := ⟨fun _ => by rfl⟩
instance : BD Try.prog 188 #[.int .u64 0, .int .u64 0, .int .u32 0, .int .u8 0, .int .u8 0, .int .u8 0, .int .u8 0, .nilFunc, .pointer none, .int .i32 0, .int .i32 0] [(0, 1), (1, 1), (2, 1), (3, 1), (4, 1), (5, 1), (6, 1), (7, 1), (8, 1), (9, 1), (10, 1)] := ⟨_, _, (by kernel_rfl : _ = some (.agg #[.int .u64 0, .int .u64 0, .int .u32 0, .int .u8 0, .int .u8 0, .int .u8 0, .int .u8 0, .nilFunc, .pointer none, .int .i32 0, .int .i32 0])), rfl, Try.und188, by kernel_rfl⟩
instance : ZV Try.prog 188 (.agg #[.int .u64 0, .int .u64 0, .int .u32 0, .int .u8 0, .int .u8 0, .int .u8 0, .int .u8 0, .nilFunc, .pointer none, .int .i32 0, .int .i32 0]) := ⟨by kernel_rfl⟩
instance : SZ Try.prog 189 11 := ⟨by kernel_rfl⟩
instance : AG Try.prog 189 true := ⟨by kernel_rfl⟩
instance : SZ Try.prog 190 1 := ⟨by kernel_rfl⟩
instance : AG Try.prog 190 false := ⟨by kernel_rfl⟩
instance : FN Try.prog 3 := ⟨fun _ => by kernel_rfl⟩
instance : FN Try.prog 4 := ⟨fun _ => by kernel_rfl⟩
instance : FN Try.prog 5 := ⟨fun _ => by kernel_rfl⟩
instance : FN Try.prog 6 := ⟨fun _ => by kernel_rfl⟩
instance : FN Try.prog 7 := ⟨fun _ => by kernel_rfl⟩
instance : FN Try.prog 8 := ⟨fun _ => by kernel_rfl⟩
instance : FN Try.prog 9 := ⟨fun _ => by kernel_rfl⟩
instance : FN Try.prog 10 := ⟨fun _ => by kernel_rfl⟩
instance : FN Try.prog 11 := ⟨fun _ => by kernel_rfl⟩
instance : FN Try.prog 12 := ⟨fun _ => by kernel_rfl⟩
instance : FN Try.prog 13 := ⟨fun _ => by kernel_rfl⟩
instance : FN Try.prog 14 := ⟨fun _ => by kernel_rfl⟩
instance : FN Try.prog 15 := ⟨fun _ => by kernel_rfl⟩
instance : FN Try.prog 16 := ⟨fun _ => by kernel_rfl⟩
instance : FN Try.prog 17 := ⟨fun _ => by kernel_rfl⟩
instance : FN Try.prog 18 := ⟨fun _ => by kernel_rfl⟩
instance : FN Try.prog 19 := ⟨fun _ => by kernel_rfl⟩
instance : FN Try.prog 20 := ⟨fun _ => by kernel_rfl⟩
instance : FN Try.prog 21 := ⟨fun _ => by kernel_rfl⟩
instance : FN Try.prog 22 := ⟨fun _ => by kernel_rfl⟩
instance : FN Try.prog 23 := ⟨fun _ => by kernel_rfl⟩
instance : FN Try.prog 24 := ⟨fun _ => by kernel_rfl⟩
instance : FN Try.prog 25 := ⟨fun _ => by kernel_rfl⟩
instance : FN Try.prog 26 := ⟨fun _ => by kernel_rfl⟩
instance : FN Try.prog 27 := ⟨fun _ => by kernel_rfl⟩
instance : FN Try.prog 28 := ⟨fun _ => by kernel_rfl⟩
instance : FN Try.prog 29 := ⟨fun _ => by kernel_rfl⟩
instance : FN Try.prog 30 := ⟨fun _ => by kernel_rfl⟩
instance : FN Try.prog 31 := ⟨fun _ => by kernel_rfl⟩
instance : FN Try.prog 32 := ⟨fun _ => by kernel_rfl⟩
instance : FN Try.prog 33 := ⟨fun _ => by kernel_rfl⟩
instance : FN Try.prog 34 := ⟨fun _ => by kernel_rfl⟩
instance : FN Try.prog 35 := ⟨fun _ => by kernel_rfl⟩
instance : FN Try.prog 36 := ⟨fun _ => by kernel_rfl⟩
instance : FN Try.prog 37 := ⟨fun _ => by kernel_rfl⟩
instance : FN Try.prog 38 := ⟨fun _ => by kernel_rfl⟩
instance : FN Try.prog 39 := ⟨fun _ => by kernel_rfl⟩
instance : FN Try.prog 40 := ⟨fun _ => by kernel_rfl⟩
instance : FN Try.prog 41 := ⟨fun _ => by kernel_rfl⟩
instance : FN Try.prog 42 := ⟨fun _ => by kernel_rfl⟩
instance : FN Try.prog 43 := ⟨fun _ => by kernel_rfl⟩
instance : FN Try.prog 44 := ⟨fun _ => by kernel_rfl⟩
instance : FN Try.prog 45 := ⟨fun _ => by kernel_rfl⟩
instance : FN Try.prog 46 := ⟨fun _ => by kernel_rfl⟩
instance : FN Try.prog 47 := ⟨fun _ => by kernel_rfl⟩
instance : FN Try.prog 48 := ⟨fun _ => by kernel_rfl⟩
instance : FN Try.prog 49 := ⟨fun _ => by kernel_rfl⟩
instance : FN Try.prog 50 := ⟨fun _ => by kernel_rfl⟩
instance : FN Try.prog 51 := ⟨fun _ => by kernel_rfl⟩
instance : FN Try.prog 52 := ⟨fun _ => by kernel_rfl⟩
instance : FN Try.prog 53 := ⟨fun _ => by kernel_rfl⟩
instance : FN Try.prog 54 := ⟨fun _ => by kernel_rfl⟩
instance : FN Try.prog 55 := ⟨fun _ => by kernel_rfl⟩
instance : FN Try.prog 56 := ⟨fun _ => by kernel_rfl⟩
instance : FN Try.prog 57 := ⟨fun _ => by kernel_rfl⟩
instance : FN Try.prog 58 := ⟨fun _ => by kernel_rfl⟩
instance : FN Try.prog 59 := ⟨fun _ => by kernel_rfl⟩
instance : FN Try.prog 60 := ⟨fun _ => by kernel_rfl⟩
instance : FN Try.prog 61 := ⟨fun _ => by kernel_rfl⟩
instance : FN Try.prog 62 := ⟨fun _ => by kernel_rfl⟩
instance : FN Try.prog 63 := ⟨fun _ => by kernel_rfl⟩
instance : FN Try.prog 64 := ⟨fun _ => by kernel_rfl⟩
instance : FN Try.prog 65 := ⟨fun _ => by kernel_rfl⟩
instance : FN Try.prog 66 := ⟨fun _ => by kernel_rfl⟩
instance : FN Try.prog 67 := ⟨fun _ => by kernel_rfl⟩
instance : FN Try.prog 68 := ⟨fun _ => by kernel_rfl⟩
instance : FN Try.prog 69 := ⟨fun _ => by kernel_rfl⟩
instance : FN Try.prog 70 := ⟨fun _ => by kernel_rfl⟩
instance : FN Try.prog 71 := ⟨fun _ => by kernel_rfl⟩
instance : FN Try.prog 72 := ⟨fun _ => by kernel_rfl⟩
instance : FN Try.prog 73 := ⟨fun _ => by kernel_rfl⟩
instance : FN Try.prog 74 := ⟨fun _ => by kernel_rfl⟩
instance : FN Try.prog 75 := ⟨fun _ => by kernel_rfl⟩
instance : FN Try.prog 76 := ⟨fun _ => by kernel_rfl⟩
instance : FN Try.prog 77 := ⟨fun _ => by kernel_rfl⟩
instance : FN Try.prog 78 := ⟨fun _ => by kernel_rfl⟩
instance : FN Try.prog 79 := ⟨fun _ => by kernel_rfl⟩
instance : FN Try.prog 80 := ⟨fun _ => by kernel_rfl⟩
instance : FN Try.prog 81 := ⟨fun _ => by kernel_rfl⟩
instance : FN Try.prog 82 := ⟨fun _ => by kernel_rfl⟩
instance : FN Try.prog 83 := ⟨fun _ => by kernel_rfl⟩
instance : FN Try.prog 84 := ⟨fun _ => by kernel_rfl⟩
instance : FN Try.prog 85 := ⟨fun _ => by kernel_rfl⟩
instance : FN Try.prog 86 := ⟨fun _ => by kernel_rfl⟩
instance : FN Try.prog 87 := ⟨fun _ => by kernel_rfl⟩
instance : FN Try.prog 88 := ⟨fun _ => by kernel_rfl⟩
instance : FN Try.prog 89 := ⟨fun _ => by kernel_rfl⟩
instance : FN Try.prog 90 := ⟨fun _ => by kernel_rfl⟩
instance : FN Try.prog 91 := ⟨fun _ => by kernel_rfl⟩
instance : FN Try.prog 92 := ⟨fun _ => by kernel_rfl⟩
instance : FN Try.prog 93 := ⟨fun _ => by kernel_rfl⟩
instance : FN Try.prog 94 := ⟨fun _ => by kernel_rfl⟩
instance : FN Try.prog 95 := ⟨fun _ => by kernel_rfl⟩
instance : FN Try.prog 96 := ⟨fun _ => by kernel_rfl⟩
instance : FN Try.prog 97 := ⟨fun _ => by kernel_rfl⟩
instance : FN Try.prog 98 := ⟨fun _ => by kernel_rfl⟩
instance : FN Try.prog 99 := ⟨fun _ => by kernel_rfl⟩
instance : FN Try.prog 100 := ⟨fun _ => by kernel_rfl⟩
instance : FN Try.prog 101 := ⟨fun _ => by kernel_rfl⟩
instance : FN Try.prog 102 := ⟨fun _ => by kernel_rfl⟩
end Go.Proofs.Ytldonbnjefhfdaa
