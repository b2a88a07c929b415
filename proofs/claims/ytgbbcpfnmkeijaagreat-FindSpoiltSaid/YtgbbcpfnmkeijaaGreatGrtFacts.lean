/- The rows of the types' table that the walks ask for. -/
import Derived.Test.YtgbbcpfnmkeijaaGreatProg
import Derived.Test.YtgbbcpfnmkeijaaGreatCamAE
namespace Go.Proofs.YtgbbcpfnmkeijaaGreat
open Go.Cam
set_option maxRecDepth 100000
theorem Tryz.und38 : cst Tryz.prog (underlying 38) = some ((Tryz.prog.underlying 38).getD default) := by kernel_rfl
theorem Tryz.und48 : cst Tryz.prog (underlying 48) = some ((Tryz.prog.underlying 48).getD default) := by kernel_rfl
theorem Tryz.und50 : cst Tryz.prog (underlying 50) = some ((Tryz.prog.underlying 50).getD default) := by kernel_rfl
theorem Tryz.und64 : cst Tryz.prog (underlying 64) = some ((Tryz.prog.underlying 64).getD default) := by kernel_rfl
theorem Tryz.und67 : cst Tryz.prog (underlying 67) = some ((Tryz.prog.underlying 67).getD default) := by kernel_rfl
theorem Tryz.und72 : cst Tryz.prog (underlying 72) = some ((Tryz.prog.underlying 72).getD default) := by kernel_rfl
theorem Tryz.und75 : cst Tryz.prog (underlying 75) = some ((Tryz.prog.underlying 75).getD default) := by kernel_rfl
theorem Tryz.und82 : cst Tryz.prog (underlying 82) = some ((Tryz.prog.underlying 82).getD default) := by kernel_rfl
theorem Tryz.und87 : cst Tryz.prog (underlying 87) = some ((Tryz.prog.underlying 87).getD default) := by kernel_rfl
theorem Tryz.und89 : cst Tryz.prog (underlying 89) = some ((Tryz.prog.underlying 89).getD default) := by kernel_rfl
theorem Tryz.und98 : cst Tryz.prog (underlying 98) = some ((Tryz.prog.underlying 98).getD default) := by kernel_rfl
theorem Tryz.und108 : cst Tryz.prog (underlying 108) = some ((Tryz.prog.underlying 108).getD default) := by kernel_rfl
theorem Tryz.und113 : cst Tryz.prog (underlying 113) = some ((Tryz.prog.underlying 113).getD default) := by kernel_rfl
theorem Tryz.und140 : cst Tryz.prog (underlying 140) = some ((Tryz.prog.underlying 140).getD default) := by kernel_rfl
theorem Tryz.und236 : cst Tryz.prog (underlying 236) = some ((Tryz.prog.underlying 236).getD default) := by kernel_rfl
theorem Tryz.ti45 : cst Tryz.prog (typeInfo 45) = some ((Tryz.prog.info? 45).getD default) := by kernel_rfl
theorem Tryz.ti3 : cst Tryz.prog (typeInfo 3) = some ((Tryz.prog.info? 3).getD default) := by kernel_rfl
theorem Tryz.ti51 : cst Tryz.prog (typeInfo 51) = some ((Tryz.prog.info? 51).getD default) := by kernel_rfl
theorem Tryz.ti49 : cst Tryz.prog (typeInfo 49) = some ((Tryz.prog.info? 49).getD default) := by kernel_rfl
theorem Tryz.ti5 : cst Tryz.prog (typeInfo 5) = some ((Tryz.prog.info? 5).getD default) := by kernel_rfl
theorem Tryz.ti120 : cst Tryz.prog (typeInfo 120) = some ((Tryz.prog.info? 120).getD default) := by kernel_rfl
theorem Tryz.ti99 : cst Tryz.prog (typeInfo 99) = some ((Tryz.prog.info? 99).getD default) := by kernel_rfl
theorem Tryz.ti88 : cst Tryz.prog (typeInfo 88) = some ((Tryz.prog.info? 88).getD default) := by kernel_rfl
theorem Tryz.ti76 : cst Tryz.prog (typeInfo 76) = some ((Tryz.prog.info? 76).getD default) := by kernel_rfl
theorem Tryz.ti189 : cst Tryz.prog (typeInfo 189) = some ((Tryz.prog.info? 189).getD default) := by kernel_rfl
instance : SZ Tryz.prog 2 1 := ⟨by kernel_rfl⟩
instance : AG Tryz.prog 2 false := ⟨by kernel_rfl⟩
instance : ZV Tryz.prog 2 (.int .i64 0) := ⟨by kernel_rfl⟩
instance : SZ Tryz.prog 3 1 := ⟨by kernel_rfl⟩
instance : AG Tryz.prog 3 false := ⟨by kernel_rfl⟩
instance : ZV Tryz.prog 3 (.int .i64 0) := ⟨by kernel_rfl⟩
instance : SZ Tryz.prog 4 1 := ⟨by kernel_rfl⟩
instance : AG Tryz.prog 4 false := ⟨by kernel_rfl⟩
instance : ZV Tryz.prog 4 (.bool false) := ⟨by kernel_rfl⟩
instance : SZ Tryz.prog 5 1 := ⟨by kernel_rfl⟩
instance : AG Tryz.prog 5 false := ⟨by kernel_rfl⟩
instance : ZV Tryz.prog 5 (.int .u8 0) := ⟨by kernel_rfl⟩
instance : SZ Tryz.prog 6 1 := ⟨by kernel_rfl⟩
instance : AG Tryz.prog 6 false := ⟨by kernel_rfl⟩
instance : SZ Tryz.prog 7 4 := ⟨by kernel_rfl⟩
instance : AG Tryz.prog 7 true := ⟨by kernel_rfl⟩
instance : SZ Tryz.prog 8 4 := ⟨by kernel_rfl⟩
instance : AG Tryz.prog 8 true := ⟨by kernel_rfl⟩
instance : SZ Tryz.prog 9 1 := ⟨by kernel_rfl⟩
instance : AG Tryz.prog 9 false := ⟨by kernel_rfl⟩
instance : ZV Tryz.prog 9 (.string ByteArray.empty) := ⟨by kernel_rfl⟩
instance : STY Tryz.prog 9 := ⟨by kernel_rfl⟩
instance : SZ Tryz.prog 10 1 := ⟨by kernel_rfl⟩
instance : AG Tryz.prog 10 false := ⟨by kernel_rfl⟩
instance : SZ Tryz.prog 11 1 := ⟨by kernel_rfl⟩
instance : AG Tryz.prog 11 false := ⟨by kernel_rfl⟩
instance : SZ Tryz.prog 12 1 := ⟨by kernel_rfl⟩
instance : AG Tryz.prog 12 false := ⟨by kernel_rfl⟩
instance : ZV Tryz.prog 12 (.int .u64 0) := ⟨by kernel_rfl⟩
instance : SZ Tryz.prog 13 2 := ⟨by kernel_rfl⟩
instance : AG Tryz.prog 13 true := ⟨by kernel_rfl⟩
instance : SZ Tryz.prog 14 2 := ⟨by kernel_rfl⟩
instance : AG Tryz.prog 14 true := ⟨by kernel_rfl⟩
instance : SZ Tryz.prog 15 1 := ⟨by kernel_rfl⟩
instance : AG Tryz.prog 15 false := ⟨by kernel_rfl⟩
instance : SZ Tryz.prog 16 1 := ⟨by kernel_rfl⟩
instance : AG Tryz.prog 16 false := ⟨by kernel_rfl⟩
instance : SZ Tryz.prog 17 1 := ⟨by kernel_rfl⟩
instance : AG Tryz.prog 17 false := ⟨by kernel_rfl⟩
instance : ZV Tryz.prog 17 (.pointer none) := ⟨by kernel_rfl⟩
instance : SZ Tryz.prog 18 1 := ⟨by kernel_rfl⟩
instance : AG Tryz.prog 18 true := ⟨by kernel_rfl⟩
instance : SZ Tryz.prog 19 1 := ⟨by kernel_rfl⟩
instance : AG Tryz.prog 19 true := ⟨by kernel_rfl⟩
instance : SZ Tryz.prog 20 1 := ⟨by kernel_rfl⟩
instance : AG Tryz.prog 20 false := ⟨by kernel_rfl⟩
instance : SZ Tryz.prog 21 1 := ⟨by kernel_rfl⟩
instance : AG Tryz.prog 21 false := ⟨by kernel_rfl⟩
instance : ZV Tryz.prog 21 (.int .i32 0) := ⟨by kernel_rfl⟩
instance : SZ Tryz.prog 22 1 := ⟨by kernel_rfl⟩
instance : AG Tryz.prog 22 false := ⟨by kernel_rfl⟩
instance : ZV Tryz.prog 22 (.slice none 0 0) := ⟨by kernel_rfl⟩
instance : ZV Tryz.prog 45 (.slice none 0 0) := ⟨by kernel_rfl⟩
instance : SL Tryz.prog 22 45 1 24 := ⟨_, .slice none 0 0, by kernel_rfl, by kernel_rfl, Tryz.ti45, by kernel_rfl, by decide, by kernel_rfl, by rfl, by decide⟩
instance : SC Tryz.prog 22 45 := ⟨by kernel_rfl⟩
instance : SZ Tryz.prog 24 1 := ⟨by kernel_rfl⟩
instance : AG Tryz.prog 24 false := ⟨by kernel_rfl⟩
instance : ZV Tryz.prog 24 (.pointer none) := ⟨by kernel_rfl⟩
instance : SZ Tryz.prog 25 1 := ⟨by kernel_rfl⟩
instance : AG Tryz.prog 25 false := ⟨by kernel_rfl⟩
instance : ZV Tryz.prog 25 (.int .i64 0) := ⟨by kernel_rfl⟩
instance : SZ Tryz.prog 28 1 := ⟨by kernel_rfl⟩
instance : AG Tryz.prog 28 false := ⟨by kernel_rfl⟩
instance : ZV Tryz.prog 28 (.pointer none) := ⟨by kernel_rfl⟩
instance : SZ Tryz.prog 31 1 := ⟨by kernel_rfl⟩
instance : AG Tryz.prog 31 false := ⟨by kernel_rfl⟩
instance : ZV Tryz.prog 31 (.slice none 0 0) := ⟨by kernel_rfl⟩
instance : SL Tryz.prog 31 3 1 8 := ⟨_, .int .i64 0, by kernel_rfl, by kernel_rfl, Tryz.ti3, by kernel_rfl, by decide, by kernel_rfl, by rfl, by decide⟩
instance : SC Tryz.prog 31 3 := ⟨by kernel_rfl⟩
instance : SZ Tryz.prog 37 1 := ⟨by kernel_rfl⟩
instance : AG Tryz.prog 37 false := ⟨by kernel_rfl⟩
instance : ZV Tryz.prog 37 (.slice none 0 0) := ⟨by kernel_rfl⟩
instance : ZV Tryz.prog 51 (.agg #[.int .i64 0, .int .i64 0, .int .i64 0, .slice none 0 0]) := ⟨by kernel_rfl⟩
instance : SL Tryz.prog 37 51 4 48 := ⟨_, .agg #[.int .i64 0, .int .i64 0, .int .i64 0, .slice none 0 0], by kernel_rfl, by kernel_rfl, Tryz.ti51, by kernel_rfl, by decide, by kernel_rfl, by rfl, by decide⟩
instance : SC Tryz.prog 37 51 := ⟨by kernel_rfl⟩
instance : SZ Tryz.prog 38 2 := ⟨by kernel_rfl⟩
instance : AG Tryz.prog 38 true := ⟨by kernel_rfl⟩
instance : FO Tryz.prog 38 0 0 := ⟨fun _ => by kernel_rfl⟩
instance : FD Tryz.prog 38 0 37 0 := ⟨fun _ => by rfl⟩
instance : FO Tryz.prog 38 1 1 := ⟨fun _ => by kernel_rfl⟩
instance : FD Tryz.prog 38 1 31 1 := ⟨fun _ => by rfl⟩
instance : BD Tryz.prog 38 #[.slice none 0 0, .slice none 0 0] [(0, 1), (1, 1)] := ⟨_, _, (by kernel_rfl : _ = some (.agg #[.slice none 0 0, .slice none 0 0])), rfl, Tryz.und38, by kernel_rfl⟩
instance : ZV Tryz.prog 38 (.agg #[.slice none 0 0, .slice none 0 0]) := ⟨by kernel_rfl⟩
instance : SZ Tryz.prog 39 2 := ⟨by kernel_rfl⟩
instance : AG Tryz.prog 39 true := ⟨by kernel_rfl⟩
instance : FO Tryz.prog 39 0 0 := ⟨fun _ => by kernel_rfl⟩
instance : FD Tryz.prog 39 0 37 0 := ⟨fun _ => by rfl⟩
instance : FO Tryz.prog 39 1 1 := ⟨fun _ => by kernel_rfl⟩
instance : FD Tryz.prog 39 1 31 1 := ⟨fun _ => by rfl⟩
instance : BD Tryz.prog 39 #[.slice none 0 0, .slice none 0 0] [(0, 1), (1, 1)] := ⟨_, _, (by kernel_rfl : _ = some (.agg #[.slice none 0 0, .slice none 0 0])), rfl, Tryz.und38, by kernel_rfl⟩
instance : ZV Tryz.prog 39 (.agg #[.slice none 0 0, .slice none 0 0]) := ⟨by kernel_rfl⟩
instance : SZ Tryz.prog 40 1 := ⟨by kernel_rfl⟩
instance : AG Tryz.prog 40 false := ⟨by kernel_rfl⟩
instance : ZV Tryz.prog 40 (.slice none 0 0) := ⟨by kernel_rfl⟩
instance : ZV Tryz.prog 49 (.agg #[.int .i64 0, .int .i64 0, .int .i64 0]) := ⟨by kernel_rfl⟩
instance : SL Tryz.prog 40 49 3 24 := ⟨_, .agg #[.int .i64 0, .int .i64 0, .int .i64 0], by kernel_rfl, by kernel_rfl, Tryz.ti49, by kernel_rfl, by decide, by kernel_rfl, by rfl, by decide⟩
instance : SC Tryz.prog 40 49 := ⟨by kernel_rfl⟩
instance : SZ Tryz.prog 45 1 := ⟨by kernel_rfl⟩
instance : AG Tryz.prog 45 false := ⟨by kernel_rfl⟩
instance : SL Tryz.prog 45 5 1 1 := ⟨_, .int .u8 0, by kernel_rfl, by kernel_rfl, Tryz.ti5, by kernel_rfl, by decide, by kernel_rfl, by rfl, by decide⟩
instance : SC Tryz.prog 45 5 := ⟨by kernel_rfl⟩
instance : SZ Tryz.prog 48 3 := ⟨by kernel_rfl⟩
instance : AG Tryz.prog 48 true := ⟨by kernel_rfl⟩
instance : FO Tryz.prog 48 0 0 := ⟨fun _ => by kernel_rfl⟩
instance : FD Tryz.prog 48 0 3 0 := ⟨fun _ => by rfl⟩
instance : FO Tryz.prog 48 1 1 := ⟨fun _ => by kernel_rfl⟩
instance : FD Tryz.prog 48 1 3 1 := ⟨fun _ => by rfl⟩
instance : FO Tryz.prog 48 2 2 := ⟨fun _ => by kernel_rfl⟩
instance : FD Tryz.prog 48 2 3 2 := ⟨fun _ => by rfl⟩
instance : BD Tryz.prog 48 #[.int .i64 0, .int .i64 0, .int .i64 0] [(0, 1), (1, 1), (2, 1)] := ⟨_, _, (by kernel_rfl : _ = some (.agg #[.int .i64 0, .int .i64 0, .int .i64 0])), rfl, Tryz.und48, by kernel_rfl⟩
instance : ZV Tryz.prog 48 (.agg #[.int .i64 0, .int .i64 0, .int .i64 0]) := ⟨by kernel_rfl⟩
instance : SZ Tryz.prog 49 3 := ⟨by kernel_rfl⟩
instance : AG Tryz.prog 49 true := ⟨by kernel_rfl⟩
instance : FO Tryz.prog 49 0 0 := ⟨fun _ => by kernel_rfl⟩
instance : FD Tryz.prog 49 0 3 0 := ⟨fun _ => by rfl⟩
instance : FO Tryz.prog 49 1 1 := ⟨fun _ => by kernel_rfl⟩
instance : FD Tryz.prog 49 1 3 1 := ⟨fun _ => by rfl⟩
instance : FO Tryz.prog 49 2 2 := ⟨fun _ => by kernel_rfl⟩
instance : FD Tryz.prog 49 2 3 2 := ⟨fun _ => by rfl⟩
instance : BD Tryz.prog 49 #[.int .i64 0, .int .i64 0, .int .i64 0] [(0, 1), (1, 1), (2, 1)] := ⟨_, _, (by kernel_rfl : _ = some (.agg #[.int .i64 0, .int .i64 0, .int .i64 0])), rfl, Tryz.und48, by kernel_rfl⟩
instance : SZ Tryz.prog 50 4 := ⟨by kernel_rfl⟩
instance : AG Tryz.prog 50 true := ⟨by kernel_rfl⟩
instance : FO Tryz.prog 50 0 0 := ⟨fun _ => by kernel_rfl⟩
instance : FD Tryz.prog 50 0 49 0 := ⟨fun _ => by rfl⟩
instance : FO Tryz.prog 50 1 3 := ⟨fun _ => by kernel_rfl⟩
instance : FD Tryz.prog 50 1 45 3 := ⟨fun _ => by rfl⟩
instance : BD Tryz.prog 50 #[.int .i64 0, .int .i64 0, .int .i64 0, .slice none 0 0] [(0, 3), (3, 1)] := ⟨_, _, (by kernel_rfl : _ = some (.agg #[.int .i64 0, .int .i64 0, .int .i64 0, .slice none 0 0])), rfl, Tryz.und50, by kernel_rfl⟩
instance : ZV Tryz.prog 50 (.agg #[.int .i64 0, .int .i64 0, .int .i64 0, .slice none 0 0]) := ⟨by kernel_rfl⟩
instance : SZ Tryz.prog 51 4 := ⟨by kernel_rfl⟩
instance : AG Tryz.prog 51 true := ⟨by kernel_rfl⟩
instance : FO Tryz.prog 51 0 0 := ⟨fun _ => by kernel_rfl⟩
instance : FD Tryz.prog 51 0 49 0 := ⟨fun _ => by rfl⟩
instance : FO Tryz.prog 51 1 3 := ⟨fun _ => by kernel_rfl⟩
instance : FD Tryz.prog 51 1 45 3 := ⟨fun _ => by rfl⟩
instance : BD Tryz.prog 51 #[.int .i64 0, .int .i64 0, .int .i64 0, .slice none 0 0] [(0, 3), (3, 1)] := ⟨_, _, (by kernel_rfl : _ = some (.agg #[.int .i64 0, .int .i64 0, .int .i64 0, .slice none 0 0])), rfl, Tryz.und50, by kernel_rfl⟩
instance : SZ Tryz.prog 54 3 := ⟨by kernel_rfl⟩
instance : AG Tryz.prog 54 true := ⟨by kernel_rfl⟩
instance : ZV Tryz.prog 54 (.agg #[.int .i64 0, .int .i64 0, .int .i64 0]) := ⟨by kernel_rfl⟩
instance : AR Tryz.prog 54 3 3 := ⟨by kernel_rfl⟩
instance : SZ Tryz.prog 64 4 := ⟨by kernel_rfl⟩
instance : AG Tryz.prog 64 true := ⟨by kernel_rfl⟩
instance : FO Tryz.prog 64 0 0 := ⟨fun _ => by kernel_rfl⟩
instance : FD Tryz.prog 64 0 9 0 := ⟨fun _ => by rfl⟩
instance : FO Tryz.prog 64 1 1 := ⟨fun _ => by kernel_rfl⟩
instance : FD Tryz.prog 64 1 4 1 := ⟨fun _ => by rfl⟩
instance : FO Tryz.prog 64 2 2 := ⟨fun _ => by kernel_rfl⟩
instance : FD Tryz.prog 64 2 3 2 := ⟨fun _ => by rfl⟩
instance : FO Tryz.prog 64 3 3 := ⟨fun _ => by kernel_rfl⟩
instance : FD Tryz.prog 64 3 3 3 := ⟨fun _ => by rfl⟩
instance : BD Tryz.prog 64 #[.string ByteArray.empty, .bool false, .int .i64 0, .int .i64 0] [(0, 1), (1, 1), (2, 1), (3, 1)] := ⟨_, _, (by kernel_rfl : _ = some (.agg #[.string ByteArray.empty, .bool false, .int .i64 0, .int .i64 0])), rfl, Tryz.und64, by kernel_rfl⟩
instance : ZV Tryz.prog 64 (.agg #[.string ByteArray.empty, .bool false, .int .i64 0, .int .i64 0]) := ⟨by kernel_rfl⟩
instance : SZ Tryz.prog 65 4 := ⟨by kernel_rfl⟩
instance : AG Tryz.prog 65 true := ⟨by kernel_rfl⟩
instance : FO Tryz.prog 65 0 0 := ⟨fun _ => by kernel_rfl⟩
instance : FD Tryz.prog 65 0 9 0 := ⟨fun _ => by rfl⟩
instance : FO Tryz.prog 65 1 1 := ⟨fun _ => by kernel_rfl⟩
instance : FD Tryz.prog 65 1 4 1 := ⟨fun _ => by rfl⟩
instance : FO Tryz.prog 65 2 2 := ⟨fun _ => by kernel_rfl⟩
instance : FD Tryz.prog 65 2 3 2 := ⟨fun _ => by rfl⟩
instance : FO Tryz.prog 65 3 3 := ⟨fun _ => by kernel_rfl⟩
instance : FD Tryz.prog 65 3 3 3 := ⟨fun _ => by rfl⟩
instance : BD Tryz.prog 65 #[.string ByteArray.empty, .bool false, .int .i64 0, .int .i64 0] [(0, 1), (1, 1), (2, 1), (3, 1)] := ⟨_, _, (by kernel_rfl : _ = some (.agg #[.string ByteArray.empty, .bool false, .int .i64 0, .int .i64 0])), rfl, Tryz.und64, by kernel_rfl⟩
instance : ZV Tryz.prog 65 (.agg #[.string ByteArray.empty, .bool false, .int .i64 0, .int .i64 0]) := ⟨by kernel_rfl⟩
instance : SZ Tryz.prog 66 32 := ⟨by kernel_rfl⟩
instance : AG Tryz.prog 66 true := ⟨by kernel_rfl⟩
instance : ZV Tryz.prog 66 (.agg #[.string ByteArray.empty, .bool false, .int .i64 0, .int .i64 0, .string ByteArray.empty, .bool false, .int .i64 0, .int .i64 0, .string ByteArray.empty, .bool false, .int .i64 0, .int .i64 0, .string ByteArray.empty, .bool false, .int .i64 0, .int .i64 0, .string ByteArray.empty, .bool false, .int .i64 0, .int .i64 0, .string ByteArray.empty, .bool false, .int .i64 0, .int .i64 0, .string ByteArray.empty, .bool false, .int .i64 0, .int .i64 0, .string ByteArray.empty, .bool false, .int .i64 0, .int .i64 0]) := ⟨by kernel_rfl⟩
instance : AR Tryz.prog 66 8 65 := ⟨by kernel_rfl⟩
instance : SZ Tryz.prog 67 35 := ⟨by kernel_rfl⟩
instance : AG Tryz.prog 67 true := ⟨by kernel_rfl⟩
instance : FO Tryz.prog 67 0 0 := ⟨fun _ => by kernel_rfl⟩
instance : FD Tryz.prog 67 0 3 0 := ⟨fun _ => by rfl⟩
instance : FO Tryz.prog 67 1 1 := ⟨fun _ => by kernel_rfl⟩
instance : FD Tryz.prog 67 1 3 1 := ⟨fun _ => by rfl⟩
instance : FO Tryz.prog 67 2 2 := ⟨fun _ => by kernel_rfl⟩
instance : FD Tryz.prog 67 2 3 2 := ⟨fun _ => by rfl⟩
instance : FO Tryz.prog 67 3 3 := ⟨fun _ => by kernel_rfl⟩
instance : FD Tryz.prog 67 3 66 3 := ⟨fun _ => by rfl⟩
instance : BD Tryz.prog 67 #[.int .i64 0, .int .i64 0, .int .i64 0, .string ByteArray.empty, .bool false, .int .i64 0, .int .i64 0, .string ByteArray.empty, .bool false, .int .i64 0, .int .i64 0, .string ByteArray.empty, .bool false, .int .i64 0, .int .i64 0, .string ByteArray.empty, .bool false, .int .i64 0, .int .i64 0, .string ByteArray.empty, .bool false, .int .i64 0, .int .i64 0, .string ByteArray.empty, .bool false, .int .i64 0, .int .i64 0, .string ByteArray.empty, .bool false, .int .i64 0, .int .i64 0, .string ByteArray.empty, .bool false, .int .i64 0, .int .i64 0] [(0, 1), (1, 1), (2, 1), (3, 32)] := ⟨_, _, (by kernel_rfl : _ = some (.agg #[.int .i64 0, .int .i64 0, .int .i64 0, .string ByteArray.empty, .bool false, .int .i64 0, .int .i64 0, .string ByteArray.empty, .bool false, .int .i64 0, .int .i64 0, .string ByteArray.empty, .bool false, .int .i64 0, .int .i64 0, .string ByteArray.empty, .bool false, .int .i64 0, .int .i64 0, .string ByteArray.empty, .bool false, .int .i64 0, .int .i64 0, .string ByteArray.empty, .bool false, .int .i64 0, .int .i64 0, .string ByteArray.empty, .bool false, .int .i64 0, .int .i64 0, .string ByteArray.empty, .bool false, .int .i64 0, .int .i64 0])), rfl, Tryz.und67, by kernel_rfl⟩
instance : ZV Tryz.prog 67 (.agg #[.int .i64 0, .int .i64 0, .int .i64 0, .string ByteArray.empty, .bool false, .int .i64 0, .int .i64 0, .string ByteArray.empty, .bool false, .int .i64 0, .int .i64 0, .string ByteArray.empty, .bool false, .int .i64 0, .int .i64 0, .string ByteArray.empty, .bool false, .int .i64 0, .int .i64 0, .string ByteArray.empty, .bool false, .int .i64 0, .int .i64 0, .string ByteArray.empty, .bool false, .int .i64 0, .int .i64 0, .string ByteArray.empty, .bool false, .int .i64 0, .int .i64 0, .string ByteArray.empty, .bool false, .int .i64 0, .int .i64 0]) := ⟨by kernel_rfl⟩
instance : SZ Tryz.prog 68 35 := ⟨by kernel_rfl⟩
instance : AG Tryz.prog 68 true := ⟨by kernel_rfl⟩
instance : FO Tryz.prog 68 0 0 := ⟨fun _ => by kernel_rfl⟩
instance : FD Tryz.prog 68 0 3 0 := ⟨fun _ => by rfl⟩
instance : FO Tryz.prog 68 1 1 := ⟨fun _ => by kernel_rfl⟩
instance : FD Tryz.prog 68 1 3 1 := ⟨fun _ => by rfl⟩
instance : FO Tryz.prog 68 2 2 := ⟨fun _ => by kernel_rfl⟩
instance : FD Tryz.prog 68 2 3 2 := ⟨fun _ => by rfl⟩
instance : FO Tryz.prog 68 3 3 := ⟨fun _ => by kernel_rfl⟩
instance : FD Tryz.prog 68 3 66 3 := ⟨fun _ => by rfl⟩
instance : BD Tryz.prog 68 #[.int .i64 0, .int .i64 0, .int .i64 0, .string ByteArray.empty, .bool false, .int .i64 0, .int .i64 0, .string ByteArray.empty, .bool false, .int .i64 0, .int .i64 0, .string ByteArray.empty, .bool false, .int .i64 0, .int .i64 0, .string ByteArray.empty, .bool false, .int .i64 0, .int .i64 0, .string ByteArray.empty, .bool false, .int .i64 0, .int .i64 0, .string ByteArray.empty, .bool false, .int .i64 0, .int .i64 0, .string ByteArray.empty, .bool false, .int .i64 0, .int .i64 0, .string ByteArray.empty, .bool false, .int .i64 0, .int .i64 0] [(0, 1), (1, 1), (2, 1), (3, 32)] := ⟨_, _, (by kernel_rfl : _ = some (.agg #[.int .i64 0, .int .i64 0, .int .i64 0, .string ByteArray.empty, .bool false, .int .i64 0, .int .i64 0, .string ByteArray.empty, .bool false, .int .i64 0, .int .i64 0, .string ByteArray.empty, .bool false, .int .i64 0, .int .i64 0, .string ByteArray.empty, .bool false, .int .i64 0, .int .i64 0, .string ByteArray.empty, .bool false, .int .i64 0, .int .i64 0, .string ByteArray.empty, .bool false, .int .i64 0, .int .i64 0, .string ByteArray.empty, .bool false, .int .i64 0, .int .i64 0, .string ByteArray.empty, .bool false, .int .i64 0, .int .i64 0])), rfl, Tryz.und67, by kernel_rfl⟩
instance : ZV Tryz.prog 68 (.agg #[.int .i64 0, .int .i64 0, .int .i64 0, .string ByteArray.empty, .bool false, .int .i64 0, .int .i64 0, .string ByteArray.empty, .bool false, .int .i64 0, .int .i64 0, .string ByteArray.empty, .bool false, .int .i64 0, .int .i64 0, .string ByteArray.empty, .bool false, .int .i64 0, .int .i64 0, .string ByteArray.empty, .bool false, .int .i64 0, .int .i64 0, .string ByteArray.empty, .bool false, .int .i64 0, .int .i64 0, .string ByteArray.empty, .bool false, .int .i64 0, .int .i64 0, .string ByteArray.empty, .bool false, .int .i64 0, .int .i64 0]) := ⟨by kernel_rfl⟩
instance : SZ Tryz.prog 70 1 := ⟨by kernel_rfl⟩
instance : AG Tryz.prog 70 false := ⟨by kernel_rfl⟩
instance : ZV Tryz.prog 70 (.slice none 0 0) := ⟨by kernel_rfl⟩
instance : SL Tryz.prog 70 120 256 256 := ⟨_, .agg (List.replicate 256 (.int .u8 0)).toArray, by kernel_rfl, by kernel_rfl, Tryz.ti120, by kernel_rfl, by decide, by kernel_rfl, by kernel_rfl, by decide⟩
instance : SC Tryz.prog 70 120 := ⟨by kernel_rfl⟩
instance : SZ Tryz.prog 71 1 := ⟨by kernel_rfl⟩
instance : AG Tryz.prog 71 false := ⟨by kernel_rfl⟩
instance : ZV Tryz.prog 71 (.map none) := ⟨by kernel_rfl⟩
instance : MTY Tryz.prog 71 70 := ⟨3, by kernel_rfl, by kernel_rfl⟩
instance : SZ Tryz.prog 72 5 := ⟨by kernel_rfl⟩
instance : AG Tryz.prog 72 true := ⟨by kernel_rfl⟩
instance : FO Tryz.prog 72 0 0 := ⟨fun _ => by kernel_rfl⟩
instance : FD Tryz.prog 72 0 70 0 := ⟨fun _ => by rfl⟩
instance : FO Tryz.prog 72 1 1 := ⟨fun _ => by kernel_rfl⟩
instance : FD Tryz.prog 72 1 71 1 := ⟨fun _ => by rfl⟩
instance : FO Tryz.prog 72 2 2 := ⟨fun _ => by kernel_rfl⟩
instance : FD Tryz.prog 72 2 4 2 := ⟨fun _ => by rfl⟩
instance : FO Tryz.prog 72 3 3 := ⟨fun _ => by kernel_rfl⟩
instance : FD Tryz.prog 72 3 3 3 := ⟨fun _ => by rfl⟩
instance : FO Tryz.prog 72 4 4 := ⟨fun _ => by kernel_rfl⟩
instance : FD Tryz.prog 72 4 3 4 := ⟨fun _ => by rfl⟩
instance : BD Tryz.prog 72 #[.slice none 0 0, .map none, .bool false, .int .i64 0, .int .i64 0] [(0, 1), (1, 1), (2, 1), (3, 1), (4, 1)] := ⟨_, _, (by kernel_rfl : _ = some (.agg #[.slice none 0 0, .map none, .bool false, .int .i64 0, .int .i64 0])), rfl, Tryz.und72, by kernel_rfl⟩
instance : ZV Tryz.prog 72 (.agg #[.slice none 0 0, .map none, .bool false, .int .i64 0, .int .i64 0]) := ⟨by kernel_rfl⟩
instance : SZ Tryz.prog 73 5 := ⟨by kernel_rfl⟩
instance : AG Tryz.prog 73 true := ⟨by kernel_rfl⟩
instance : FO Tryz.prog 73 0 0 := ⟨fun _ => by kernel_rfl⟩
instance : FD Tryz.prog 73 0 70 0 := ⟨fun _ => by rfl⟩
instance : FO Tryz.prog 73 1 1 := ⟨fun _ => by kernel_rfl⟩
instance : FD Tryz.prog 73 1 71 1 := ⟨fun _ => by rfl⟩
instance : FO Tryz.prog 73 2 2 := ⟨fun _ => by kernel_rfl⟩
instance : FD Tryz.prog 73 2 4 2 := ⟨fun _ => by rfl⟩
instance : FO Tryz.prog 73 3 3 := ⟨fun _ => by kernel_rfl⟩
instance : FD Tryz.prog 73 3 3 3 := ⟨fun _ => by rfl⟩
instance : FO Tryz.prog 73 4 4 := ⟨fun _ => by kernel_rfl⟩
instance : FD Tryz.prog 73 4 3 4 := ⟨fun _ => by rfl⟩
instance : BD Tryz.prog 73 #[.slice none 0 0, .map none, .bool false, .int .i64 0, .int .i64 0] [(0, 1), (1, 1), (2, 1), (3, 1), (4, 1)] := ⟨_, _, (by kernel_rfl : _ = some (.agg #[.slice none 0 0, .map none, .bool false, .int .i64 0, .int .i64 0])), rfl, Tryz.und72, by kernel_rfl⟩
instance : ZV Tryz.prog 73 (.agg #[.slice none 0 0, .map none, .bool false, .int .i64 0, .int .i64 0]) := ⟨by kernel_rfl⟩
instance : SZ Tryz.prog 75 2 := ⟨by kernel_rfl⟩
instance : AG Tryz.prog 75 true := ⟨by kernel_rfl⟩
instance : FO Tryz.prog 75 0 0 := ⟨fun _ => by kernel_rfl⟩
instance : FD Tryz.prog 75 0 3 0 := ⟨fun _ => by rfl⟩
instance : FO Tryz.prog 75 1 1 := ⟨fun _ => by kernel_rfl⟩
instance : FD Tryz.prog 75 1 45 1 := ⟨fun _ => by rfl⟩
instance : BD Tryz.prog 75 #[.int .i64 0, .slice none 0 0] [(0, 1), (1, 1)] := ⟨_, _, (by kernel_rfl : _ = some (.agg #[.int .i64 0, .slice none 0 0])), rfl, Tryz.und75, by kernel_rfl⟩
instance : ZV Tryz.prog 75 (.agg #[.int .i64 0, .slice none 0 0]) := ⟨by kernel_rfl⟩
instance : SZ Tryz.prog 76 2 := ⟨by kernel_rfl⟩
instance : AG Tryz.prog 76 true := ⟨by kernel_rfl⟩
instance : FO Tryz.prog 76 0 0 := ⟨fun _ => by kernel_rfl⟩
instance : FD Tryz.prog 76 0 3 0 := ⟨fun _ => by rfl⟩
instance : FO Tryz.prog 76 1 1 := ⟨fun _ => by kernel_rfl⟩
instance : FD Tryz.prog 76 1 45 1 := ⟨fun _ => by rfl⟩
instance : BD Tryz.prog 76 #[.int .i64 0, .slice none 0 0] [(0, 1), (1, 1)] := ⟨_, _, (by kernel_rfl : _ = some (.agg #[.int .i64 0, .slice none 0 0])), rfl, Tryz.und75, by kernel_rfl⟩
instance : ZV Tryz.prog 76 (.agg #[.int .i64 0, .slice none 0 0]) := ⟨by kernel_rfl⟩
instance : SZ Tryz.prog 77 1 := ⟨by kernel_rfl⟩
instance : AG Tryz.prog 77 false := ⟨by kernel_rfl⟩
instance : ZV Tryz.prog 77 (.pointer none) := ⟨by kernel_rfl⟩
instance : SZ Tryz.prog 81 1 := ⟨by kernel_rfl⟩
instance : AG Tryz.prog 81 false := ⟨by kernel_rfl⟩
instance : ZV Tryz.prog 81 (.map none) := ⟨by kernel_rfl⟩
instance : MTY Tryz.prog 81 90 := ⟨3, by kernel_rfl, by kernel_rfl⟩
instance : SZ Tryz.prog 82 38 := ⟨by kernel_rfl⟩
instance : AG Tryz.prog 82 true := ⟨by kernel_rfl⟩
instance : FO Tryz.prog 82 0 0 := ⟨fun _ => by kernel_rfl⟩
instance : FD Tryz.prog 82 0 24 0 := ⟨fun _ => by rfl⟩
instance : FO Tryz.prog 82 1 1 := ⟨fun _ => by kernel_rfl⟩
instance : FD Tryz.prog 82 1 68 1 := ⟨fun _ => by rfl⟩
instance : FO Tryz.prog 82 2 36 := ⟨fun _ => by kernel_rfl⟩
instance : FD Tryz.prog 82 2 77 36 := ⟨fun _ => by rfl⟩
instance : FO Tryz.prog 82 3 37 := ⟨fun _ => by kernel_rfl⟩
instance : FD Tryz.prog 82 3 81 37 := ⟨fun _ => by rfl⟩
instance : BD Tryz.prog 82 #[.pointer none, .int .i64 0, .int .i64 0, .int .i64 0, .string ByteArray.empty, .bool false, .int .i64 0, .int .i64 0, .string ByteArray.empty, .bool false, .int .i64 0, .int .i64 0, .string ByteArray.empty, .bool false, .int .i64 0, .int .i64 0, .string ByteArray.empty, .bool false, .int .i64 0, .int .i64 0, .string ByteArray.empty, .bool false, .int .i64 0, .int .i64 0, .string ByteArray.empty, .bool false, .int .i64 0, .int .i64 0, .string ByteArray.empty, .bool false, .int .i64 0, .int .i64 0, .string ByteArray.empty, .bool false, .int .i64 0, .int .i64 0, .pointer none, .map none] [(0, 1), (1, 35), (36, 1), (37, 1)] := ⟨_, _, (by kernel_rfl : _ = some (.agg #[.pointer none, .int .i64 0, .int .i64 0, .int .i64 0, .string ByteArray.empty, .bool false, .int .i64 0, .int .i64 0, .string ByteArray.empty, .bool false, .int .i64 0, .int .i64 0, .string ByteArray.empty, .bool false, .int .i64 0, .int .i64 0, .string ByteArray.empty, .bool false, .int .i64 0, .int .i64 0, .string ByteArray.empty, .bool false, .int .i64 0, .int .i64 0, .string ByteArray.empty, .bool false, .int .i64 0, .int .i64 0, .string ByteArray.empty, .bool false, .int .i64 0, .int .i64 0, .string ByteArray.empty, .bool false, .int .i64 0, .int .i64 0, .pointer none, .map none])), rfl, Tryz.und82, by kernel_rfl⟩
instance : ZV Tryz.prog 82 (.agg #[.pointer none, .int .i64 0, .int .i64 0, .int .i64 0, .string ByteArray.empty, .bool false, .int .i64 0, .int .i64 0, .string ByteArray.empty, .bool false, .int .i64 0, .int .i64 0, .string ByteArray.empty, .bool false, .int .i64 0, .int .i64 0, .string ByteArray.empty, .bool false, .int .i64 0, .int .i64 0, .string ByteArray.empty, .bool false, .int .i64 0, .int .i64 0, .string ByteArray.empty, .bool false, .int .i64 0, .int .i64 0, .string ByteArray.empty, .bool false, .int .i64 0, .int .i64 0, .string ByteArray.empty, .bool false, .int .i64 0, .int .i64 0, .pointer none, .map none]) := ⟨by kernel_rfl⟩
instance : SZ Tryz.prog 83 38 := ⟨by kernel_rfl⟩
instance : AG Tryz.prog 83 true := ⟨by kernel_rfl⟩
instance : FO Tryz.prog 83 0 0 := ⟨fun _ => by kernel_rfl⟩
instance : FD Tryz.prog 83 0 24 0 := ⟨fun _ => by rfl⟩
instance : FO Tryz.prog 83 1 1 := ⟨fun _ => by kernel_rfl⟩
instance : FD Tryz.prog 83 1 68 1 := ⟨fun _ => by rfl⟩
instance : FO Tryz.prog 83 2 36 := ⟨fun _ => by kernel_rfl⟩
instance : FD Tryz.prog 83 2 77 36 := ⟨fun _ => by rfl⟩
instance : FO Tryz.prog 83 3 37 := ⟨fun _ => by kernel_rfl⟩
instance : FD Tryz.prog 83 3 81 37 := ⟨fun _ => by rfl⟩
instance : BD Tryz.prog 83 #[.pointer none, .int .i64 0, .int .i64 0, .int .i64 0, .string ByteArray.empty, .bool false, .int .i64 0, .int .i64 0, .string ByteArray.empty, .bool false, .int .i64 0, .int .i64 0, .string ByteArray.empty, .bool false, .int .i64 0, .int .i64 0, .string ByteArray.empty, .bool false, .int .i64 0, .int .i64 0, .string ByteArray.empty, .bool false, .int .i64 0, .int .i64 0, .string ByteArray.empty, .bool false, .int .i64 0, .int .i64 0, .string ByteArray.empty, .bool false, .int .i64 0, .int .i64 0, .string ByteArray.empty, .bool false, .int .i64 0, .int .i64 0, .pointer none, .map none] [(0, 1), (1, 35), (36, 1), (37, 1)] := ⟨_, _, (by kernel_rfl : _ = some (.agg #[.pointer none, .int .i64 0, .int .i64 0, .int .i64 0, .string ByteArray.empty, .bool false, .int .i64 0, .int .i64 0, .string ByteArray.empty, .bool false, .int .i64 0, .int .i64 0, .string ByteArray.empty, .bool false, .int .i64 0, .int .i64 0, .string ByteArray.empty, .bool false, .int .i64 0, .int .i64 0, .string ByteArray.empty, .bool false, .int .i64 0, .int .i64 0, .string ByteArray.empty, .bool false, .int .i64 0, .int .i64 0, .string ByteArray.empty, .bool false, .int .i64 0, .int .i64 0, .string ByteArray.empty, .bool false, .int .i64 0, .int .i64 0, .pointer none, .map none])), rfl, Tryz.und82, by kernel_rfl⟩
instance : ZV Tryz.prog 83 (.agg #[.pointer none, .int .i64 0, .int .i64 0, .int .i64 0, .string ByteArray.empty, .bool false, .int .i64 0, .int .i64 0, .string ByteArray.empty, .bool false, .int .i64 0, .int .i64 0, .string ByteArray.empty, .bool false, .int .i64 0, .int .i64 0, .string ByteArray.empty, .bool false, .int .i64 0, .int .i64 0, .string ByteArray.empty, .bool false, .int .i64 0, .int .i64 0, .string ByteArray.empty, .bool false, .int .i64 0, .int .i64 0, .string ByteArray.empty, .bool false, .int .i64 0, .int .i64 0, .string ByteArray.empty, .bool false, .int .i64 0, .int .i64 0, .pointer none, .map none]) := ⟨by kernel_rfl⟩
instance : SZ Tryz.prog 86 1 := ⟨by kernel_rfl⟩
instance : AG Tryz.prog 86 false := ⟨by kernel_rfl⟩
instance : ZV Tryz.prog 86 (.slice none 0 0) := ⟨by kernel_rfl⟩
instance : ZV Tryz.prog 99 (.agg #[.int .i64 0, .int .i64 0, .int .i64 0, .int .i64 0]) := ⟨by kernel_rfl⟩
instance : SL Tryz.prog 86 99 4 32 := ⟨_, .agg #[.int .i64 0, .int .i64 0, .int .i64 0, .int .i64 0], by kernel_rfl, by kernel_rfl, Tryz.ti99, by kernel_rfl, by decide, by kernel_rfl, by rfl, by decide⟩
instance : SC Tryz.prog 86 99 := ⟨by kernel_rfl⟩
instance : SZ Tryz.prog 87 3 := ⟨by kernel_rfl⟩
instance : AG Tryz.prog 87 true := ⟨by kernel_rfl⟩
instance : FO Tryz.prog 87 0 0 := ⟨fun _ => by kernel_rfl⟩
instance : FD Tryz.prog 87 0 3 0 := ⟨fun _ => by rfl⟩
instance : FO Tryz.prog 87 1 1 := ⟨fun _ => by kernel_rfl⟩
instance : FD Tryz.prog 87 1 37 1 := ⟨fun _ => by rfl⟩
instance : FO Tryz.prog 87 2 2 := ⟨fun _ => by kernel_rfl⟩
instance : FD Tryz.prog 87 2 86 2 := ⟨fun _ => by rfl⟩
instance : BD Tryz.prog 87 #[.int .i64 0, .slice none 0 0, .slice none 0 0] [(0, 1), (1, 1), (2, 1)] := ⟨_, _, (by kernel_rfl : _ = some (.agg #[.int .i64 0, .slice none 0 0, .slice none 0 0])), rfl, Tryz.und87, by kernel_rfl⟩
instance : ZV Tryz.prog 87 (.agg #[.int .i64 0, .slice none 0 0, .slice none 0 0]) := ⟨by kernel_rfl⟩
instance : SZ Tryz.prog 88 3 := ⟨by kernel_rfl⟩
instance : AG Tryz.prog 88 true := ⟨by kernel_rfl⟩
instance : FO Tryz.prog 88 0 0 := ⟨fun _ => by kernel_rfl⟩
instance : FD Tryz.prog 88 0 3 0 := ⟨fun _ => by rfl⟩
instance : FO Tryz.prog 88 1 1 := ⟨fun _ => by kernel_rfl⟩
instance : FD Tryz.prog 88 1 37 1 := ⟨fun _ => by rfl⟩
instance : FO Tryz.prog 88 2 2 := ⟨fun _ => by kernel_rfl⟩
instance : FD Tryz.prog 88 2 86 2 := ⟨fun _ => by rfl⟩
instance : BD Tryz.prog 88 #[.int .i64 0, .slice none 0 0, .slice none 0 0] [(0, 1), (1, 1), (2, 1)] := ⟨_, _, (by kernel_rfl : _ = some (.agg #[.int .i64 0, .slice none 0 0, .slice none 0 0])), rfl, Tryz.und87, by kernel_rfl⟩
instance : ZV Tryz.prog 88 (.agg #[.int .i64 0, .slice none 0 0, .slice none 0 0]) := ⟨by kernel_rfl⟩
instance : SZ Tryz.prog 89 5 := ⟨by kernel_rfl⟩
instance : AG Tryz.prog 89 true := ⟨by kernel_rfl⟩
instance : FO Tryz.prog 89 0 0 := ⟨fun _ => by kernel_rfl⟩
instance : FD Tryz.prog 89 0 3 0 := ⟨fun _ => by rfl⟩
instance : FO Tryz.prog 89 1 1 := ⟨fun _ => by kernel_rfl⟩
instance : FD Tryz.prog 89 1 88 1 := ⟨fun _ => by rfl⟩
instance : FO Tryz.prog 89 2 4 := ⟨fun _ => by kernel_rfl⟩
instance : FD Tryz.prog 89 2 45 4 := ⟨fun _ => by rfl⟩
instance : BD Tryz.prog 89 #[.int .i64 0, .int .i64 0, .slice none 0 0, .slice none 0 0, .slice none 0 0] [(0, 1), (1, 3), (4, 1)] := ⟨_, _, (by kernel_rfl : _ = some (.agg #[.int .i64 0, .int .i64 0, .slice none 0 0, .slice none 0 0, .slice none 0 0])), rfl, Tryz.und89, by kernel_rfl⟩
instance : ZV Tryz.prog 89 (.agg #[.int .i64 0, .int .i64 0, .slice none 0 0, .slice none 0 0, .slice none 0 0]) := ⟨by kernel_rfl⟩
instance : SZ Tryz.prog 90 5 := ⟨by kernel_rfl⟩
instance : AG Tryz.prog 90 true := ⟨by kernel_rfl⟩
instance : FO Tryz.prog 90 0 0 := ⟨fun _ => by kernel_rfl⟩
instance : FD Tryz.prog 90 0 3 0 := ⟨fun _ => by rfl⟩
instance : FO Tryz.prog 90 1 1 := ⟨fun _ => by kernel_rfl⟩
instance : FD Tryz.prog 90 1 88 1 := ⟨fun _ => by rfl⟩
instance : FO Tryz.prog 90 2 4 := ⟨fun _ => by kernel_rfl⟩
instance : FD Tryz.prog 90 2 45 4 := ⟨fun _ => by rfl⟩
instance : BD Tryz.prog 90 #[.int .i64 0, .int .i64 0, .slice none 0 0, .slice none 0 0, .slice none 0 0] [(0, 1), (1, 3), (4, 1)] := ⟨_, _, (by kernel_rfl : _ = some (.agg #[.int .i64 0, .int .i64 0, .slice none 0 0, .slice none 0 0, .slice none 0 0])), rfl, Tryz.und89, by kernel_rfl⟩
instance : ZV Tryz.prog 90 (.agg #[.int .i64 0, .int .i64 0, .slice none 0 0, .slice none 0 0, .slice none 0 0]) := ⟨by kernel_rfl⟩
instance : SZ Tryz.prog 95 1 := ⟨by kernel_rfl⟩
instance : AG Tryz.prog 95 false := ⟨by kernel_rfl⟩
instance : ZV Tryz.prog 95 (.slice none 0 0) := ⟨by kernel_rfl⟩
instance : SL Tryz.prog 95 88 3 56 := ⟨_, .agg #[.int .i64 0, .slice none 0 0, .slice none 0 0], by kernel_rfl, by kernel_rfl, Tryz.ti88, by kernel_rfl, by decide, by kernel_rfl, by rfl, by decide⟩
instance : SC Tryz.prog 95 88 := ⟨by kernel_rfl⟩
instance : SZ Tryz.prog 98 4 := ⟨by kernel_rfl⟩
instance : AG Tryz.prog 98 true := ⟨by kernel_rfl⟩
instance : FO Tryz.prog 98 0 0 := ⟨fun _ => by kernel_rfl⟩
instance : FD Tryz.prog 98 0 49 0 := ⟨fun _ => by rfl⟩
instance : FO Tryz.prog 98 1 3 := ⟨fun _ => by kernel_rfl⟩
instance : FD Tryz.prog 98 1 3 3 := ⟨fun _ => by rfl⟩
instance : BD Tryz.prog 98 #[.int .i64 0, .int .i64 0, .int .i64 0, .int .i64 0] [(0, 3), (3, 1)] := ⟨_, _, (by kernel_rfl : _ = some (.agg #[.int .i64 0, .int .i64 0, .int .i64 0, .int .i64 0])), rfl, Tryz.und98, by kernel_rfl⟩
instance : ZV Tryz.prog 98 (.agg #[.int .i64 0, .int .i64 0, .int .i64 0, .int .i64 0]) := ⟨by kernel_rfl⟩
instance : SZ Tryz.prog 99 4 := ⟨by kernel_rfl⟩
instance : AG Tryz.prog 99 true := ⟨by kernel_rfl⟩
instance : FO Tryz.prog 99 0 0 := ⟨fun _ => by kernel_rfl⟩
instance : FD Tryz.prog 99 0 49 0 := ⟨fun _ => by rfl⟩
instance : FO Tryz.prog 99 1 3 := ⟨fun _ => by kernel_rfl⟩
instance : FD Tryz.prog 99 1 3 3 := ⟨fun _ => by rfl⟩
instance : BD Tryz.prog 99 #[.int .i64 0, .int .i64 0, .int .i64 0, .int .i64 0] [(0, 3), (3, 1)] := ⟨_, _, (by kernel_rfl : _ = some (.agg #[.int .i64 0, .int .i64 0, .int .i64 0, .int .i64 0])), rfl, Tryz.und98, by kernel_rfl⟩
instance : SZ Tryz.prog 108 5 := ⟨by kernel_rfl⟩
instance : AG Tryz.prog 108 true := ⟨by kernel_rfl⟩
instance : FO Tryz.prog 108 0 0 := ⟨fun _ => by kernel_rfl⟩
instance : FD Tryz.prog 108 0 3 0 := ⟨fun _ => by rfl⟩
instance : FO Tryz.prog 108 1 1 := ⟨fun _ => by kernel_rfl⟩
instance : FD Tryz.prog 108 1 3 1 := ⟨fun _ => by rfl⟩
instance : FO Tryz.prog 108 2 2 := ⟨fun _ => by kernel_rfl⟩
instance : FD Tryz.prog 108 2 3 2 := ⟨fun _ => by rfl⟩
instance : FO Tryz.prog 108 3 3 := ⟨fun _ => by kernel_rfl⟩
instance : FD Tryz.prog 108 3 3 3 := ⟨fun _ => by rfl⟩
instance : FO Tryz.prog 108 4 4 := ⟨fun _ => by kernel_rfl⟩
instance : FD Tryz.prog 108 4 3 4 := ⟨fun _ => by rfl⟩
instance : BD Tryz.prog 108 #[.int .i64 0, .int .i64 0, .int .i64 0, .int .i64 0, .int .i64 0] [(0, 1), (1, 1), (2, 1), (3, 1), (4, 1)] := ⟨_, _, (by kernel_rfl : _ = some (.agg #[.int .i64 0, .int .i64 0, .int .i64 0, .int .i64 0, .int .i64 0])), rfl, Tryz.und108, by kernel_rfl⟩
instance : ZV Tryz.prog 108 (.agg #[.int .i64 0, .int .i64 0, .int .i64 0, .int .i64 0, .int .i64 0]) := ⟨by kernel_rfl⟩
instance : SZ Tryz.prog 109 5 := ⟨by kernel_rfl⟩
instance : AG Tryz.prog 109 true := ⟨by kernel_rfl⟩
instance : FO Tryz.prog 109 0 0 := ⟨fun _ => by kernel_rfl⟩
instance : FD Tryz.prog 109 0 3 0 := ⟨fun _ => by rfl⟩
instance : FO Tryz.prog 109 1 1 := ⟨fun _ => by kernel_rfl⟩
instance : FD Tryz.prog 109 1 3 1 := ⟨fun _ => by rfl⟩
instance : FO Tryz.prog 109 2 2 := ⟨fun _ => by kernel_rfl⟩
instance : FD Tryz.prog 109 2 3 2 := ⟨fun _ => by rfl⟩
instance : FO Tryz.prog 109 3 3 := ⟨fun _ => by kernel_rfl⟩
instance : FD Tryz.prog 109 3 3 3 := ⟨fun _ => by rfl⟩
instance : FO Tryz.prog 109 4 4 := ⟨fun _ => by kernel_rfl⟩
instance : FD Tryz.prog 109 4 3 4 := ⟨fun _ => by rfl⟩
instance : BD Tryz.prog 109 #[.int .i64 0, .int .i64 0, .int .i64 0, .int .i64 0, .int .i64 0] [(0, 1), (1, 1), (2, 1), (3, 1), (4, 1)] := ⟨_, _, (by kernel_rfl : _ = some (.agg #[.int .i64 0, .int .i64 0, .int .i64 0, .int .i64 0, .int .i64 0])), rfl, Tryz.und108, by kernel_rfl⟩
instance : ZV Tryz.prog 109 (.agg #[.int .i64 0, .int .i64 0, .int .i64 0, .int .i64 0, .int .i64 0]) := ⟨by kernel_rfl⟩
instance : SZ Tryz.prog 112 1 := ⟨by kernel_rfl⟩
instance : AG Tryz.prog 112 false := ⟨by kernel_rfl⟩
instance : ZV Tryz.prog 112 (.pointer none) := ⟨by kernel_rfl⟩
instance : SZ Tryz.prog 113 2 := ⟨by kernel_rfl⟩
instance : AG Tryz.prog 113 true := ⟨by kernel_rfl⟩
instance : FO Tryz.prog 113 0 0 := ⟨fun _ => by kernel_rfl⟩
instance : FD Tryz.prog 113 0 28 0 := ⟨fun _ => by rfl⟩
instance : FO Tryz.prog 113 1 1 := ⟨fun _ => by kernel_rfl⟩
instance : FD Tryz.prog 113 1 31 1 := ⟨fun _ => by rfl⟩
instance : BD Tryz.prog 113 #[.pointer none, .slice none 0 0] [(0, 1), (1, 1)] := ⟨_, _, (by kernel_rfl : _ = some (.agg #[.pointer none, .slice none 0 0])), rfl, Tryz.und113, by kernel_rfl⟩
instance : ZV Tryz.prog 113 (.agg #[.pointer none, .slice none 0 0]) := ⟨by kernel_rfl⟩
instance : SZ Tryz.prog 114 2 := ⟨by kernel_rfl⟩
instance : AG Tryz.prog 114 true := ⟨by kernel_rfl⟩
instance : FO Tryz.prog 114 0 0 := ⟨fun _ => by kernel_rfl⟩
instance : FD Tryz.prog 114 0 28 0 := ⟨fun _ => by rfl⟩
instance : FO Tryz.prog 114 1 1 := ⟨fun _ => by kernel_rfl⟩
instance : FD Tryz.prog 114 1 31 1 := ⟨fun _ => by rfl⟩
instance : BD Tryz.prog 114 #[.pointer none, .slice none 0 0] [(0, 1), (1, 1)] := ⟨_, _, (by kernel_rfl : _ = some (.agg #[.pointer none, .slice none 0 0])), rfl, Tryz.und113, by kernel_rfl⟩
instance : ZV Tryz.prog 114 (.agg #[.pointer none, .slice none 0 0]) := ⟨by kernel_rfl⟩
instance : SZ Tryz.prog 119 256 := ⟨by kernel_rfl⟩
instance : AG Tryz.prog 119 true := ⟨by kernel_rfl⟩
instance : ZV Tryz.prog 119 (.agg (List.replicate 256 (.int .u8 0)).toArray) := ⟨by kernel_rfl⟩
instance : AR Tryz.prog 119 256 5 := ⟨by kernel_rfl⟩
instance : SZ Tryz.prog 120 256 := ⟨by kernel_rfl⟩
instance : AG Tryz.prog 120 true := ⟨by kernel_rfl⟩
instance : ZV Tryz.prog 120 (.agg (List.replicate 256 (.int .u8 0)).toArray) := ⟨by kernel_rfl⟩
instance : AR Tryz.prog 120 256 5 := ⟨by kernel_rfl⟩
instance : SZ Tryz.prog 138 1 := ⟨by kernel_rfl⟩
instance : AG Tryz.prog 138 false := ⟨by kernel_rfl⟩
instance : ZV Tryz.prog 138 (.slice none 0 0) := ⟨by kernel_rfl⟩
instance : SL Tryz.prog 138 76 2 32 := ⟨_, .agg #[.int .i64 0, .slice none 0 0], by kernel_rfl, by kernel_rfl, Tryz.ti76, by kernel_rfl, by decide, by kernel_rfl, by rfl, by decide⟩
instance : SC Tryz.prog 138 76 := ⟨by kernel_rfl⟩
instance : SZ Tryz.prog 140 4 := ⟨by kernel_rfl⟩
instance : AG Tryz.prog 140 true := ⟨by kernel_rfl⟩
instance : FO Tryz.prog 140 0 0 := ⟨fun _ => by kernel_rfl⟩
instance : FD Tryz.prog 140 0 31 0 := ⟨fun _ => by rfl⟩
instance : FO Tryz.prog 140 1 1 := ⟨fun _ => by kernel_rfl⟩
instance : FD Tryz.prog 140 1 31 1 := ⟨fun _ => by rfl⟩
instance : FO Tryz.prog 140 2 2 := ⟨fun _ => by kernel_rfl⟩
instance : FD Tryz.prog 140 2 3 2 := ⟨fun _ => by rfl⟩
instance : FO Tryz.prog 140 3 3 := ⟨fun _ => by kernel_rfl⟩
instance : FD Tryz.prog 140 3 3 3 := ⟨fun _ => by rfl⟩
instance : BD Tryz.prog 140 #[.slice none 0 0, .slice none 0 0, .int .i64 0, .int .i64 0] [(0, 1), (1, 1), (2, 1), (3, 1)] := ⟨_, _, (by kernel_rfl : _ = some (.agg #[.slice none 0 0, .slice none 0 0, .int .i64 0, .int .i64 0])), rfl, Tryz.und140, by kernel_rfl⟩
instance : ZV Tryz.prog 140 (.agg #[.slice none 0 0, .slice none 0 0, .int .i64 0, .int .i64 0]) := ⟨by kernel_rfl⟩
instance : SZ Tryz.prog 141 4 := ⟨by kernel_rfl⟩
instance : AG Tryz.prog 141 true := ⟨by kernel_rfl⟩
instance : FO Tryz.prog 141 0 0 := ⟨fun _ => by kernel_rfl⟩
instance : FD Tryz.prog 141 0 31 0 := ⟨fun _ => by rfl⟩
instance : FO Tryz.prog 141 1 1 := ⟨fun _ => by kernel_rfl⟩
instance : FD Tryz.prog 141 1 31 1 := ⟨fun _ => by rfl⟩
instance : FO Tryz.prog 141 2 2 := ⟨fun _ => by kernel_rfl⟩
instance : FD Tryz.prog 141 2 3 2 := ⟨fun _ => by rfl⟩
instance : FO Tryz.prog 141 3 3 := ⟨fun _ => by kernel_rfl⟩
instance : FD Tryz.prog 141 3 3 3 := ⟨fun _ => by rfl⟩
instance : BD Tryz.prog 141 #[.slice none 0 0, .slice none 0 0, .int .i64 0, .int .i64 0] [(0, 1), (1, 1), (2, 1), (3, 1)] := ⟨_, _, (by kernel_rfl : _ = some (.agg #[.slice none 0 0, .slice none 0 0, .int .i64 0, .int .i64 0])), rfl, Tryz.und140, by kernel_rfl⟩
instance : ZV Tryz.prog 141 (.agg #[.slice none 0 0, .slice none 0 0, .int .i64 0, .int .i64 0]) := ⟨by kernel_rfl⟩
instance : SZ Tryz.prog 155 1 := ⟨by kernel_rfl⟩
instance : AG Tryz.prog 155 false := ⟨by kernel_rfl⟩
instance : ZV Tryz.prog 155 (.int .u32 0) := ⟨by kernel_rfl⟩
instance : SZ Tryz.prog 173 10 := ⟨by kernel_rfl⟩
instance : AG Tryz.prog 173 true := ⟨by kernel_rfl⟩
instance : ZV Tryz.prog 173 (.agg #[.int .u8 0, .int .u8 0, .int .u8 0, .int .u8 0, .int .u8 0, .int .u8 0, .int .u8 0, .int .u8 0, .int .u8 0, .int .u8 0]) := ⟨by kernel_rfl⟩
instance : AR Tryz.prog 173 10 5 := ⟨by kernel_rfl⟩
instance : SZ Tryz.prog 174 10 := ⟨by kernel_rfl⟩
instance : AG Tryz.prog 174 true := ⟨by kernel_rfl⟩
instance : ZV Tryz.prog 174 (.agg #[.int .u8 0, .int .u8 0, .int .u8 0, .int .u8 0, .int .u8 0, .int .u8 0, .int .u8 0, .int .u8 0, .int .u8 0, .int .u8 0]) := ⟨by kernel_rfl⟩
instance : AR Tryz.prog 174 10 5 := ⟨by kernel_rfl⟩
instance : SZ Tryz.prog 185 1 := ⟨by kernel_rfl⟩
instance : AG Tryz.prog 185 false := ⟨by kernel_rfl⟩
instance : ZV Tryz.prog 185 (.int .u64 0) := ⟨by kernel_rfl⟩
instance : SZ Tryz.prog 187 8 := ⟨by kernel_rfl⟩
instance : AG Tryz.prog 187 true := ⟨by kernel_rfl⟩
instance : ZV Tryz.prog 187 (.agg #[.int .u8 0, .int .u8 0, .int .u8 0, .int .u8 0, .int .u8 0, .int .u8 0, .int .u8 0, .int .u8 0]) := ⟨by kernel_rfl⟩
instance : AR Tryz.prog 187 8 5 := ⟨by kernel_rfl⟩
instance : SZ Tryz.prog 188 1 := ⟨by kernel_rfl⟩
instance : AG Tryz.prog 188 false := ⟨by kernel_rfl⟩
instance : ZV Tryz.prog 188 (.int .u64 0) := ⟨by kernel_rfl⟩
instance : SZ Tryz.prog 189 2 := ⟨by kernel_rfl⟩
instance : AG Tryz.prog 189 true := ⟨by kernel_rfl⟩
instance : ZV Tryz.prog 189 (.agg #[.int .i64 0, .int .i64 0]) := ⟨by kernel_rfl⟩
instance : AR Tryz.prog 189 2 3 := ⟨by kernel_rfl⟩
instance : SZ Tryz.prog 190 1 := ⟨by kernel_rfl⟩
instance : AG Tryz.prog 190 false := ⟨by kernel_rfl⟩
instance : ZV Tryz.prog 190 (.slice none 0 0) := ⟨by kernel_rfl⟩
instance : SL Tryz.prog 190 189 2 16 := ⟨_, .agg #[.int .i64 0, .int .i64 0], by kernel_rfl, by kernel_rfl, Tryz.ti189, by kernel_rfl, by decide, by kernel_rfl, by rfl, by decide⟩
instance : SC Tryz.prog 190 189 := ⟨by kernel_rfl⟩
instance : SZ Tryz.prog 192 8 := ⟨by kernel_rfl⟩
instance : AG Tryz.prog 192 true := ⟨by kernel_rfl⟩
instance : ZV Tryz.prog 192 (.agg #[.string ByteArray.empty, .string ByteArray.empty, .string ByteArray.empty, .string ByteArray.empty, .string ByteArray.empty, .string ByteArray.empty, .string ByteArray.empty, .string ByteArray.empty]) := ⟨by kernel_rfl⟩
instance : AR Tryz.prog 192 8 9 := ⟨by kernel_rfl⟩
instance : SZ Tryz.prog 199 1 := ⟨by kernel_rfl⟩
instance : AG Tryz.prog 199 false := ⟨by kernel_rfl⟩
instance : ZV Tryz.prog 199 (.int .i64 0) := ⟨by kernel_rfl⟩
instance : SZ Tryz.prog 209 16 := ⟨by kernel_rfl⟩
instance : AG Tryz.prog 209 true := ⟨by kernel_rfl⟩
instance : ZV Tryz.prog 209 (.agg #[.int .u32 0, .int .u32 0, .int .u32 0, .int .u32 0, .int .u32 0, .int .u32 0, .int .u32 0, .int .u32 0, .int .u32 0, .int .u32 0, .int .u32 0, .int .u32 0, .int .u32 0, .int .u32 0, .int .u32 0, .int .u32 0]) := ⟨by kernel_rfl⟩
instance : AR Tryz.prog 209 16 155 := ⟨by kernel_rfl⟩
instance : SZ Tryz.prog 210 16 := ⟨by kernel_rfl⟩
instance : AG Tryz.prog 210 true := ⟨by kernel_rfl⟩
instance : ZV Tryz.prog 210 (.agg #[.int .u32 0, .int .u32 0, .int .u32 0, .int .u32 0, .int .u32 0, .int .u32 0, .int .u32 0, .int .u32 0, .int .u32 0, .int .u32 0, .int .u32 0, .int .u32 0, .int .u32 0, .int .u32 0, .int .u32 0, .int .u32 0]) := ⟨by kernel_rfl⟩
instance : AR Tryz.prog 210 16 155 := ⟨by kernel_rfl⟩
instance : SZ Tryz.prog 215 1 := ⟨by kernel_rfl⟩
instance : AG Tryz.prog 215 false := ⟨by kernel_rfl⟩
instance : ZV Tryz.prog 215 (.int .u64 0) := ⟨by kernel_rfl⟩
instance : SZ Tryz.prog 219 1 := ⟨by kernel_rfl⟩
instance : AG Tryz.prog 219 false := ⟨by kernel_rfl⟩
instance : ZV Tryz.prog 219 (.pointer none) := ⟨by kernel_rfl⟩
instance : SZ Tryz.prog 222 1 := ⟨by kernel_rfl⟩
instance : AG Tryz.prog 222 false := ⟨by kernel_rfl⟩
instance : ZV Tryz.prog 222 (.pointer none) := ⟨by kernel_rfl⟩
instance : SZ Tryz.prog 225 4 := ⟨by kernel_rfl⟩
instance : AG Tryz.prog 225 true := ⟨by kernel_rfl⟩
instance : SZ Tryz.prog 226 4 := ⟨by kernel_rfl⟩
instance : AG Tryz.prog 226 true := ⟨by kernel_rfl⟩
instance : SZ Tryz.prog 227 0 := ⟨by kernel_rfl⟩
instance : AG Tryz.prog 227 true := ⟨by kernel_rfl⟩
instance : AR Tryz.prog 227 0 16 := ⟨by kernel_rfl⟩
instance : SZ Tryz.prog 228 0 := ⟨by kernel_rfl⟩
instance : AG Tryz.prog 228 true := ⟨by kernel_rfl⟩
instance : SZ Tryz.prog 229 0 := ⟨by kernel_rfl⟩
instance : AG Tryz.prog 229 true := ⟨by kernel_rfl⟩
instance : SZ Tryz.prog 230 1 := ⟨by kernel_rfl⟩
instance : AG Tryz.prog 230 false := ⟨by kernel_rfl⟩
instance : SZ Tryz.prog 231 1 := ⟨by kernel_rfl⟩
instance : AG Tryz.prog 231 false := ⟨by kernel_rfl⟩
instance : SZ Tryz.prog 233 1 := ⟨by kernel_rfl⟩
instance : AG Tryz.prog 233 false := ⟨by kernel_rfl⟩
instance : ZV Tryz.prog 233 (.pointer none) := ⟨by kernel_rfl⟩
instance : SZ Tryz.prog 234 1 := ⟨by kernel_rfl⟩
instance : AG Tryz.prog 234 false := ⟨by kernel_rfl⟩
instance : SZ Tryz.prog 235 1 := ⟨by kernel_rfl⟩
instance : AG Tryz.prog 235 false := ⟨by kernel_rfl⟩
instance : SZ Tryz.prog 236 11 := ⟨by kernel_rfl⟩
instance : AG Tryz.prog 236 true := ⟨by kernel_rfl⟩
instance : FO Tryz.prog 236 0 0 := ⟨fun _ => by kernel_rfl⟩
instance : FD Tryz.prog 236 0 12 0 := ⟨fun _ => by rfl⟩
instance : FO Tryz.prog 236 1 1 := ⟨fun _ => by kernel_rfl⟩
instance : FD Tryz.prog 236 1 12 1 := ⟨fun _ => by rfl⟩
instance : FO Tryz.prog 236 2 2 := ⟨fun _ => by kernel_rfl⟩
instance : FD Tryz.prog 236 2 155 2 := ⟨fun _ => by rfl⟩
instance : FO Tryz.prog 236 3 3 := ⟨fun _ => by kernel_rfl⟩
instance : FD Tryz.prog 236 3 230 3 := ⟨fun _ => by rfl⟩
instance : FO Tryz.prog 236 4 4 := ⟨fun _ => by kernel_rfl⟩
instance : FD Tryz.prog 236 4 5 4 := ⟨fun _ => by rfl⟩
instance : FO Tryz.prog 236 5 5 := ⟨fun _ => by kernel_rfl⟩
instance : FD Tryz.prog 236 5 5 5 := ⟨fun _ => by rfl⟩
instance : FO Tryz.prog 236 6 6 := ⟨fun _ => by kernel_rfl⟩
instance : FD Tryz.prog 236 6 231 6 := ⟨fun _ => by rfl⟩
instance : FO Tryz.prog 236 7 7 := ⟨fun _ => by kernel_rfl⟩
instance : FD Tryz.prog 236 7 232 7 := ⟨fun _ => by rfl⟩
instance : FO Tryz.prog 236 8 8 := ⟨fun _ => by kernel_rfl⟩
instance : FD Tryz.prog 236 8 233 8 := ⟨fun _ => by rfl⟩
instance : FO Tryz.prog 236 9 9 := ⟨fun _ => by kernel_rfl⟩
instance : FD Tryz.prog 236 9 234 9 := ⟨fun _ => by rfl⟩
instance : FO Tryz.prog 236 10 10 := ⟨fun _ => by kernel_rfl⟩
instance : FD Tryz.prog 236 10 235 10 := ⟨fun _ => by rfl⟩
instance : BD Tryz.prog 236 #[.int .u64 0, .int .u64 0, .int .u32 0, .int .u8 0, .int .u8 0, .int .u8 0, .int .u8 0, .nilFunc, .pointer none, .int .i32 0, .int .i32 0] [(0, 1), (1, 1), (2, 1), (3, 1), (4, 1), (5, 1), (6, 1), (7, 1), (8, 1), (9, 1), (10, 1)] := ⟨_, _, (by kernel_rfl : _ = some (.agg #[.int .u64 0, .int .u64 0, .int .u32 0, .int .u8 0, .int .u8 0, .int .u8 0, .int .u8 0, .nilFunc, .pointer none, .int .i32 0, .int .i32 0])), rfl, Tryz.und236, by kernel_rfl⟩
instance : ZV Tryz.prog 236 (.agg #[.int .u64 0, .int .u64 0, .int .u32 0, .int .u8 0, .int .u8 0, .int .u8 0, .int .u8 0, .nilFunc, .pointer none, .int .i32 0, .int .i32 0]) := ⟨by kernel_rfl⟩
instance : SZ Tryz.prog 237 11 := ⟨by kernel_rfl⟩
instance : AG Tryz.prog 237 true := ⟨by kernel_rfl⟩
instance : SZ Tryz.prog 238 1 := ⟨by kernel_rfl⟩
instance : AG Tryz.prog 238 false := ⟨by kernel_rfl⟩
instance : FN Tryz.prog 3 := ⟨fun _ => by kernel_rfl⟩
instance : FN Tryz.prog 4 := ⟨fun _ => by kernel_rfl⟩
instance : FN Tryz.prog 5 := ⟨fun _ => by kernel_rfl⟩
instance : FN Tryz.prog 6 := ⟨fun _ => by kernel_rfl⟩
instance : FN Tryz.prog 7 := ⟨fun _ => by kernel_rfl⟩
instance : FN Tryz.prog 8 := ⟨fun _ => by kernel_rfl⟩
instance : FN Tryz.prog 9 := ⟨fun _ => by kernel_rfl⟩
instance : FN Tryz.prog 10 := ⟨fun _ => by kernel_rfl⟩
instance : FN Tryz.prog 11 := ⟨fun _ => by kernel_rfl⟩
instance : FN Tryz.prog 12 := ⟨fun _ => by kernel_rfl⟩
instance : FN Tryz.prog 13 := ⟨fun _ => by kernel_rfl⟩
instance : FN Tryz.prog 14 := ⟨fun _ => by kernel_rfl⟩
instance : FN Tryz.prog 15 := ⟨fun _ => by kernel_rfl⟩
instance : FN Tryz.prog 16 := ⟨fun _ => by kernel_rfl⟩
instance : FN Tryz.prog 17 := ⟨fun _ => by kernel_rfl⟩
instance : FN Tryz.prog 18 := ⟨fun _ => by kernel_rfl⟩
instance : FN Tryz.prog 19 := ⟨fun _ => by kernel_rfl⟩
instance : FN Tryz.prog 20 := ⟨fun _ => by kernel_rfl⟩
instance : FN Tryz.prog 21 := ⟨fun _ => by kernel_rfl⟩
instance : FN Tryz.prog 22 := ⟨fun _ => by kernel_rfl⟩
instance : FN Tryz.prog 23 := ⟨fun _ => by kernel_rfl⟩
instance : FN Tryz.prog 24 := ⟨fun _ => by kernel_rfl⟩
instance : FN Tryz.prog 25 := ⟨fun _ => by kernel_rfl⟩
instance : FN Tryz.prog 26 := ⟨fun _ => by kernel_rfl⟩
instance : FN Tryz.prog 27 := ⟨fun _ => by kernel_rfl⟩
instance : FN Tryz.prog 28 := ⟨fun _ => by kernel_rfl⟩
instance : FN Tryz.prog 29 := ⟨fun _ => by kernel_rfl⟩
instance : FN Tryz.prog 30 := ⟨fun _ => by kernel_rfl⟩
instance : FN Tryz.prog 31 := ⟨fun _ => by kernel_rfl⟩
instance : FN Tryz.prog 32 := ⟨fun _ => by kernel_rfl⟩
instance : FN Tryz.prog 33 := ⟨fun _ => by kernel_rfl⟩
instance : FN Tryz.prog 34 := ⟨fun _ => by kernel_rfl⟩
instance : FN Tryz.prog 35 := ⟨fun _ => by kernel_rfl⟩
instance : FN Tryz.prog 36 := ⟨fun _ => by kernel_rfl⟩
instance : FN Tryz.prog 37 := ⟨fun _ => by kernel_rfl⟩
instance : FN Tryz.prog 38 := ⟨fun _ => by kernel_rfl⟩
instance : FN Tryz.prog 39 := ⟨fun _ => by kernel_rfl⟩
instance : FN Tryz.prog 40 := ⟨fun _ => by kernel_rfl⟩
instance : FN Tryz.prog 41 := ⟨fun _ => by kernel_rfl⟩
instance : FN Tryz.prog 42 := ⟨fun _ => by kernel_rfl⟩
instance : FN Tryz.prog 43 := ⟨fun _ => by kernel_rfl⟩
instance : FN Tryz.prog 44 := ⟨fun _ => by kernel_rfl⟩
instance : FN Tryz.prog 45 := ⟨fun _ => by kernel_rfl⟩
instance : FN Tryz.prog 46 := ⟨fun _ => by kernel_rfl⟩
instance : FN Tryz.prog 47 := ⟨fun _ => by kernel_rfl⟩
instance : FN Tryz.prog 48 := ⟨fun _ => by kernel_rfl⟩
instance : FN Tryz.prog 49 := ⟨fun _ => by kernel_rfl⟩
instance : FN Tryz.prog 50 := ⟨fun _ => by kernel_rfl⟩
instance : FN Tryz.prog 51 := ⟨fun _ => by kernel_rfl⟩
instance : FN Tryz.prog 52 := ⟨fun _ => by kernel_rfl⟩
instance : FN Tryz.prog 53 := ⟨fun _ => by kernel_rfl⟩
instance : FN Tryz.prog 54 := ⟨fun _ => by kernel_rfl⟩
instance : FN Tryz.prog 55 := ⟨fun _ => by kernel_rfl⟩
instance : FN Tryz.prog 56 := ⟨fun _ => by kernel_rfl⟩
instance : FN Tryz.prog 57 := ⟨fun _ => by kernel_rfl⟩
instance : FN Tryz.prog 58 := ⟨fun _ => by kernel_rfl⟩
instance : FN Tryz.prog 59 := ⟨fun _ => by kernel_rfl⟩
instance : FN Tryz.prog 60 := ⟨fun _ => by kernel_rfl⟩
instance : FN Tryz.prog 61 := ⟨fun _ => by kernel_rfl⟩
instance : FN Tryz.prog 62 := ⟨fun _ => by kernel_rfl⟩
instance : FN Tryz.prog 63 := ⟨fun _ => by kernel_rfl⟩
instance : FN Tryz.prog 64 := ⟨fun _ => by kernel_rfl⟩
instance : FN Tryz.prog 65 := ⟨fun _ => by kernel_rfl⟩
instance : FN Tryz.prog 66 := ⟨fun _ => by kernel_rfl⟩
instance : FN Tryz.prog 67 := ⟨fun _ => by kernel_rfl⟩
instance : FN Tryz.prog 68 := ⟨fun _ => by kernel_rfl⟩
instance : FN Tryz.prog 69 := ⟨fun _ => by kernel_rfl⟩
instance : FN Tryz.prog 71 := ⟨fun _ => by kernel_rfl⟩
instance : FN Tryz.prog 72 := ⟨fun _ => by kernel_rfl⟩
instance : FN Tryz.prog 73 := ⟨fun _ => by kernel_rfl⟩
instance : FN Tryz.prog 74 := ⟨fun _ => by kernel_rfl⟩
instance : FN Tryz.prog 75 := ⟨fun _ => by kernel_rfl⟩
instance : FN Tryz.prog 76 := ⟨fun _ => by kernel_rfl⟩
instance : FN Tryz.prog 77 := ⟨fun _ => by kernel_rfl⟩
instance : FN Tryz.prog 78 := ⟨fun _ => by kernel_rfl⟩
instance : FN Tryz.prog 79 := ⟨fun _ => by kernel_rfl⟩
instance : FN Tryz.prog 80 := ⟨fun _ => by kernel_rfl⟩
instance : FN Tryz.prog 81 := ⟨fun _ => by kernel_rfl⟩
instance : FN Tryz.prog 82 := ⟨fun _ => by kernel_rfl⟩
instance : FN Tryz.prog 83 := ⟨fun _ => by kernel_rfl⟩
instance : FN Tryz.prog 84 := ⟨fun _ => by kernel_rfl⟩
instance : FN Tryz.prog 85 := ⟨fun _ => by kernel_rfl⟩
instance : FN Tryz.prog 86 := ⟨fun _ => by kernel_rfl⟩
instance : FN Tryz.prog 87 := ⟨fun _ => by kernel_rfl⟩
instance : FN Tryz.prog 88 := ⟨fun _ => by kernel_rfl⟩
instance : FN Tryz.prog 89 := ⟨fun _ => by kernel_rfl⟩
instance : FN Tryz.prog 90 := ⟨fun _ => by kernel_rfl⟩
instance : FN Tryz.prog 91 := ⟨fun _ => by kernel_rfl⟩
instance : FN Tryz.prog 92 := ⟨fun _ => by kernel_rfl⟩
instance : FN Tryz.prog 93 := ⟨fun _ => by kernel_rfl⟩
instance : FN Tryz.prog 94 := ⟨fun _ => by kernel_rfl⟩
instance : FN Tryz.prog 95 := ⟨fun _ => by kernel_rfl⟩
instance : FN Tryz.prog 96 := ⟨fun _ => by kernel_rfl⟩
instance : FN Tryz.prog 97 := ⟨fun _ => by kernel_rfl⟩
instance : FN Tryz.prog 98 := ⟨fun _ => by kernel_rfl⟩
instance : FN Tryz.prog 99 := ⟨fun _ => by kernel_rfl⟩
instance : FN Tryz.prog 100 := ⟨fun _ => by kernel_rfl⟩
instance : FN Tryz.prog 101 := ⟨fun _ => by kernel_rfl⟩
instance : FN Tryz.prog 102 := ⟨fun _ => by kernel_rfl⟩
instance : FN Tryz.prog 103 := ⟨fun _ => by kernel_rfl⟩
instance : FN Tryz.prog 104 := ⟨fun _ => by kernel_rfl⟩
instance : FN Tryz.prog 105 := ⟨fun _ => by kernel_rfl⟩
instance : FN Tryz.prog 106 := ⟨fun _ => by kernel_rfl⟩
instance : FN Tryz.prog 107 := ⟨fun _ => by kernel_rfl⟩
instance : FN Tryz.prog 108 := ⟨fun _ => by kernel_rfl⟩
instance : FN Tryz.prog 109 := ⟨fun _ => by kernel_rfl⟩
instance : FN Tryz.prog 110 := ⟨fun _ => by kernel_rfl⟩
instance : FN Tryz.prog 111 := ⟨fun _ => by kernel_rfl⟩
instance : FN Tryz.prog 112 := ⟨fun _ => by kernel_rfl⟩
instance : FN Tryz.prog 113 := ⟨fun _ => by kernel_rfl⟩
instance : FN Tryz.prog 114 := ⟨fun _ => by kernel_rfl⟩
instance : FN Tryz.prog 115 := ⟨fun _ => by kernel_rfl⟩
instance : FN Tryz.prog 116 := ⟨fun _ => by kernel_rfl⟩
instance : FN Tryz.prog 117 := ⟨fun _ => by kernel_rfl⟩
instance : FN Tryz.prog 118 := ⟨fun _ => by kernel_rfl⟩
instance : FN Tryz.prog 119 := ⟨fun _ => by kernel_rfl⟩
instance : FN Tryz.prog 120 := ⟨fun _ => by kernel_rfl⟩
instance : FN Tryz.prog 121 := ⟨fun _ => by kernel_rfl⟩
instance : FN Tryz.prog 122 := ⟨fun _ => by kernel_rfl⟩
instance : FN Tryz.prog 123 := ⟨fun _ => by kernel_rfl⟩
instance : FN Tryz.prog 124 := ⟨fun _ => by kernel_rfl⟩
instance : FN Tryz.prog 125 := ⟨fun _ => by kernel_rfl⟩
instance : FN Tryz.prog 126 := ⟨fun _ => by kernel_rfl⟩
instance : FN Tryz.prog 127 := ⟨fun _ => by kernel_rfl⟩
instance : FN Tryz.prog 128 := ⟨fun _ => by kernel_rfl⟩
instance : FN Tryz.prog 129 := ⟨fun _ => by kernel_rfl⟩
instance : FN Tryz.prog 130 := ⟨fun _ => by kernel_rfl⟩
instance : FN Tryz.prog 131 := ⟨fun _ => by kernel_rfl⟩
instance : FN Tryz.prog 132 := ⟨fun _ => by kernel_rfl⟩
instance : FN Tryz.prog 133 := ⟨fun _ => by kernel_rfl⟩
instance : FN Tryz.prog 134 := ⟨fun _ => by kernel_rfl⟩
instance : FN Tryz.prog 135 := ⟨fun _ => by kernel_rfl⟩
instance : FN Tryz.prog 136 := ⟨fun _ => by kernel_rfl⟩
instance : FN Tryz.prog 137 := ⟨fun _ => by kernel_rfl⟩
instance : FN Tryz.prog 138 := ⟨fun _ => by kernel_rfl⟩
instance : FN Tryz.prog 139 := ⟨fun _ => by kernel_rfl⟩
instance : FN Tryz.prog 140 := ⟨fun _ => by kernel_rfl⟩
instance : FN Tryz.prog 141 := ⟨fun _ => by kernel_rfl⟩
instance : FN Tryz.prog 142 := ⟨fun _ => by kernel_rfl⟩
end Go.Proofs.YtgbbcpfnmkeijaaGreat
