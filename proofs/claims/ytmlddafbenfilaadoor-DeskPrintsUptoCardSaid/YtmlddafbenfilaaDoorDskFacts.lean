/- The rows of the types' table that the walks ask for. -/
import Derived.Test.YtmlddafbenfilaaDoorProg
import Derived.Test.YtmlddafbenfilaaDoorCamAO
namespace Go.Proofs.YtmlddafbenfilaaDoor
open Go.Cam
set_option maxRecDepth 100000
theorem Tryd.und41 : cst Tryd.prog (underlying 41) = some ((Tryd.prog.underlying 41).getD default) := by kernel_rfl
theorem Tryd.und48 : cst Tryd.prog (underlying 48) = some ((Tryd.prog.underlying 48).getD default) := by kernel_rfl
theorem Tryd.und65 : cst Tryd.prog (underlying 65) = some ((Tryd.prog.underlying 65).getD default) := by kernel_rfl
theorem Tryd.und67 : cst Tryd.prog (underlying 67) = some ((Tryd.prog.underlying 67).getD default) := by kernel_rfl
theorem Tryd.und109 : cst Tryd.prog (underlying 109) = some ((Tryd.prog.underlying 109).getD default) := by kernel_rfl
theorem Tryd.und118 : cst Tryd.prog (underlying 118) = some ((Tryd.prog.underlying 118).getD default) := by kernel_rfl
theorem Tryd.und122 : cst Tryd.prog (underlying 122) = some ((Tryd.prog.underlying 122).getD default) := by kernel_rfl
theorem Tryd.und138 : cst Tryd.prog (underlying 138) = some ((Tryd.prog.underlying 138).getD default) := by kernel_rfl
theorem Tryd.ti5 : cst Tryd.prog (typeInfo 5) = some ((Tryd.prog.info? 5).getD default) := by kernel_rfl
theorem Tryd.ti42 : cst Tryd.prog (typeInfo 42) = some ((Tryd.prog.info? 42).getD default) := by kernel_rfl
theorem Tryd.ti68 : cst Tryd.prog (typeInfo 68) = some ((Tryd.prog.info? 68).getD default) := by kernel_rfl
theorem Tryd.ti9 : cst Tryd.prog (typeInfo 9) = some ((Tryd.prog.info? 9).getD default) := by kernel_rfl
theorem Tryd.ti3 : cst Tryd.prog (typeInfo 3) = some ((Tryd.prog.info? 3).getD default) := by kernel_rfl
theorem Tryd.ti77 : cst Tryd.prog (typeInfo 77) = some ((Tryd.prog.info? 77).getD default) := by kernel_rfl
instance : SZ Tryd.prog 2 1 := ⟨by kernel_rfl⟩
instance : AG Tryd.prog 2 false := ⟨by kernel_rfl⟩
instance : ZV Tryd.prog 2 (.int .i64 0) := ⟨by kernel_rfl⟩
instance : SZ Tryd.prog 3 1 := ⟨by kernel_rfl⟩
instance : AG Tryd.prog 3 false := ⟨by kernel_rfl⟩
instance : ZV Tryd.prog 3 (.int .i64 0) := ⟨by kernel_rfl⟩
instance : SZ Tryd.prog 4 1 := ⟨by kernel_rfl⟩
instance : AG Tryd.prog 4 false := ⟨by kernel_rfl⟩
instance : ZV Tryd.prog 4 (.bool false) := ⟨by kernel_rfl⟩
instance : SZ Tryd.prog 5 1 := ⟨by kernel_rfl⟩
instance : AG Tryd.prog 5 false := ⟨by kernel_rfl⟩
instance : ZV Tryd.prog 5 (.int .u8 0) := ⟨by kernel_rfl⟩
instance : SZ Tryd.prog 6 1 := ⟨by kernel_rfl⟩
instance : AG Tryd.prog 6 false := ⟨by kernel_rfl⟩
instance : SZ Tryd.prog 7 4 := ⟨by kernel_rfl⟩
instance : AG Tryd.prog 7 true := ⟨by kernel_rfl⟩
instance : SZ Tryd.prog 8 4 := ⟨by kernel_rfl⟩
instance : AG Tryd.prog 8 true := ⟨by kernel_rfl⟩
instance : SZ Tryd.prog 9 1 := ⟨by kernel_rfl⟩
instance : AG Tryd.prog 9 false := ⟨by kernel_rfl⟩
instance : ZV Tryd.prog 9 (.string ByteArray.empty) := ⟨by kernel_rfl⟩
instance : STY Tryd.prog 9 := ⟨by kernel_rfl⟩
instance : SZ Tryd.prog 10 1 := ⟨by kernel_rfl⟩
instance : AG Tryd.prog 10 false := ⟨by kernel_rfl⟩
instance : SZ Tryd.prog 11 1 := ⟨by kernel_rfl⟩
instance : AG Tryd.prog 11 false := ⟨by kernel_rfl⟩
instance : SZ Tryd.prog 12 1 := ⟨by kernel_rfl⟩
instance : AG Tryd.prog 12 false := ⟨by kernel_rfl⟩
instance : ZV Tryd.prog 12 (.int .u64 0) := ⟨by kernel_rfl⟩
instance : SZ Tryd.prog 13 2 := ⟨by kernel_rfl⟩
instance : AG Tryd.prog 13 true := ⟨by kernel_rfl⟩
instance : SZ Tryd.prog 14 2 := ⟨by kernel_rfl⟩
instance : AG Tryd.prog 14 true := ⟨by kernel_rfl⟩
instance : SZ Tryd.prog 15 1 := ⟨by kernel_rfl⟩
instance : AG Tryd.prog 15 false := ⟨by kernel_rfl⟩
instance : SZ Tryd.prog 16 1 := ⟨by kernel_rfl⟩
instance : AG Tryd.prog 16 false := ⟨by kernel_rfl⟩
instance : SZ Tryd.prog 17 1 := ⟨by kernel_rfl⟩
instance : AG Tryd.prog 17 false := ⟨by kernel_rfl⟩
instance : ZV Tryd.prog 17 (.pointer none) := ⟨by kernel_rfl⟩
instance : SZ Tryd.prog 18 1 := ⟨by kernel_rfl⟩
instance : AG Tryd.prog 18 true := ⟨by kernel_rfl⟩
instance : SZ Tryd.prog 19 1 := ⟨by kernel_rfl⟩
instance : AG Tryd.prog 19 true := ⟨by kernel_rfl⟩
instance : SZ Tryd.prog 20 1 := ⟨by kernel_rfl⟩
instance : AG Tryd.prog 20 false := ⟨by kernel_rfl⟩
instance : SZ Tryd.prog 21 1 := ⟨by kernel_rfl⟩
instance : AG Tryd.prog 21 false := ⟨by kernel_rfl⟩
instance : ZV Tryd.prog 21 (.int .i32 0) := ⟨by kernel_rfl⟩
instance : SZ Tryd.prog 22 1 := ⟨by kernel_rfl⟩
instance : AG Tryd.prog 22 false := ⟨by kernel_rfl⟩
instance : ZV Tryd.prog 22 (.slice none 0 0) := ⟨by kernel_rfl⟩
instance : SL Tryd.prog 22 5 1 1 := ⟨_, .int .u8 0, by kernel_rfl, by kernel_rfl, Tryd.ti5, by kernel_rfl, by decide, by kernel_rfl, by rfl, by decide⟩
instance : SC Tryd.prog 22 5 := ⟨by kernel_rfl⟩
instance : SZ Tryd.prog 24 1 := ⟨by kernel_rfl⟩
instance : AG Tryd.prog 24 false := ⟨by kernel_rfl⟩
instance : ZV Tryd.prog 24 (.int .i64 0) := ⟨by kernel_rfl⟩
instance : SZ Tryd.prog 29 1 := ⟨by kernel_rfl⟩
instance : AG Tryd.prog 29 false := ⟨by kernel_rfl⟩
instance : ZV Tryd.prog 29 (.slice none 0 0) := ⟨by kernel_rfl⟩
instance : ZV Tryd.prog 42 (.agg #[.int .i64 0, .int .i64 0, .int .i64 0, .int .i64 0, .int .i64 0, .string ByteArray.empty, .string ByteArray.empty, .slice none 0 0]) := ⟨by kernel_rfl⟩
instance : SL Tryd.prog 29 42 8 96 := ⟨_, .agg #[.int .i64 0, .int .i64 0, .int .i64 0, .int .i64 0, .int .i64 0, .string ByteArray.empty, .string ByteArray.empty, .slice none 0 0], by kernel_rfl, by kernel_rfl, Tryd.ti42, by kernel_rfl, by decide, by kernel_rfl, by rfl, by decide⟩
instance : SC Tryd.prog 29 42 := ⟨by kernel_rfl⟩
instance : SZ Tryd.prog 38 1 := ⟨by kernel_rfl⟩
instance : AG Tryd.prog 38 false := ⟨by kernel_rfl⟩
instance : ZV Tryd.prog 38 (.slice none 0 0) := ⟨by kernel_rfl⟩
instance : ZV Tryd.prog 68 (.agg #[.int .i64 0, .bool false, .int .i64 0, .int .i64 0, .slice none 0 0, .slice none 0 0, .int .i64 0, .int .i64 0, .int .i64 0, .int .i64 0]) := ⟨by kernel_rfl⟩
instance : SL Tryd.prog 38 68 10 112 := ⟨_, .agg #[.int .i64 0, .bool false, .int .i64 0, .int .i64 0, .slice none 0 0, .slice none 0 0, .int .i64 0, .int .i64 0, .int .i64 0, .int .i64 0], by kernel_rfl, by kernel_rfl, Tryd.ti68, by kernel_rfl, by decide, by kernel_rfl, by rfl, by decide⟩
instance : SC Tryd.prog 38 68 := ⟨by kernel_rfl⟩
instance : SZ Tryd.prog 41 8 := ⟨by kernel_rfl⟩
instance : AG Tryd.prog 41 true := ⟨by kernel_rfl⟩
instance : FO Tryd.prog 41 0 0 := ⟨fun _ => by kernel_rfl⟩
instance : FD Tryd.prog 41 0 3 0 := ⟨fun _ => by rfl⟩
instance : FO Tryd.prog 41 1 1 := ⟨fun _ => by kernel_rfl⟩
instance : FD Tryd.prog 41 1 3 1 := ⟨fun _ => by rfl⟩
instance : FO Tryd.prog 41 2 2 := ⟨fun _ => by kernel_rfl⟩
instance : FD Tryd.prog 41 2 3 2 := ⟨fun _ => by rfl⟩
instance : FO Tryd.prog 41 3 3 := ⟨fun _ => by kernel_rfl⟩
instance : FD Tryd.prog 41 3 3 3 := ⟨fun _ => by rfl⟩
instance : FO Tryd.prog 41 4 4 := ⟨fun _ => by kernel_rfl⟩
instance : FD Tryd.prog 41 4 3 4 := ⟨fun _ => by rfl⟩
instance : FO Tryd.prog 41 5 5 := ⟨fun _ => by kernel_rfl⟩
instance : FD Tryd.prog 41 5 9 5 := ⟨fun _ => by rfl⟩
instance : FO Tryd.prog 41 6 6 := ⟨fun _ => by kernel_rfl⟩
instance : FD Tryd.prog 41 6 9 6 := ⟨fun _ => by rfl⟩
instance : FO Tryd.prog 41 7 7 := ⟨fun _ => by kernel_rfl⟩
instance : FD Tryd.prog 41 7 22 7 := ⟨fun _ => by rfl⟩
instance : BD Tryd.prog 41 #[.int .i64 0, .int .i64 0, .int .i64 0, .int .i64 0, .int .i64 0, .string ByteArray.empty, .string ByteArray.empty, .slice none 0 0] [(0, 1), (1, 1), (2, 1), (3, 1), (4, 1), (5, 1), (6, 1), (7, 1)] := ⟨_, _, (by kernel_rfl : _ = some (.agg #[.int .i64 0, .int .i64 0, .int .i64 0, .int .i64 0, .int .i64 0, .string ByteArray.empty, .string ByteArray.empty, .slice none 0 0])), rfl, Tryd.und41, by kernel_rfl⟩
instance : ZV Tryd.prog 41 (.agg #[.int .i64 0, .int .i64 0, .int .i64 0, .int .i64 0, .int .i64 0, .string ByteArray.empty, .string ByteArray.empty, .slice none 0 0]) := ⟨by kernel_rfl⟩
instance : SZ Tryd.prog 42 8 := ⟨by kernel_rfl⟩
instance : AG Tryd.prog 42 true := ⟨by kernel_rfl⟩
instance : FO Tryd.prog 42 0 0 := ⟨fun _ => by kernel_rfl⟩
instance : FD Tryd.prog 42 0 3 0 := ⟨fun _ => by rfl⟩
instance : FO Tryd.prog 42 1 1 := ⟨fun _ => by kernel_rfl⟩
instance : FD Tryd.prog 42 1 3 1 := ⟨fun _ => by rfl⟩
instance : FO Tryd.prog 42 2 2 := ⟨fun _ => by kernel_rfl⟩
instance : FD Tryd.prog 42 2 3 2 := ⟨fun _ => by rfl⟩
instance : FO Tryd.prog 42 3 3 := ⟨fun _ => by kernel_rfl⟩
instance : FD Tryd.prog 42 3 3 3 := ⟨fun _ => by rfl⟩
instance : FO Tryd.prog 42 4 4 := ⟨fun _ => by kernel_rfl⟩
instance : FD Tryd.prog 42 4 3 4 := ⟨fun _ => by rfl⟩
instance : FO Tryd.prog 42 5 5 := ⟨fun _ => by kernel_rfl⟩
instance : FD Tryd.prog 42 5 9 5 := ⟨fun _ => by rfl⟩
instance : FO Tryd.prog 42 6 6 := ⟨fun _ => by kernel_rfl⟩
instance : FD Tryd.prog 42 6 9 6 := ⟨fun _ => by rfl⟩
instance : FO Tryd.prog 42 7 7 := ⟨fun _ => by kernel_rfl⟩
instance : FD Tryd.prog 42 7 22 7 := ⟨fun _ => by rfl⟩
instance : BD Tryd.prog 42 #[.int .i64 0, .int .i64 0, .int .i64 0, .int .i64 0, .int .i64 0, .string ByteArray.empty, .string ByteArray.empty, .slice none 0 0] [(0, 1), (1, 1), (2, 1), (3, 1), (4, 1), (5, 1), (6, 1), (7, 1)] := ⟨_, _, (by kernel_rfl : _ = some (.agg #[.int .i64 0, .int .i64 0, .int .i64 0, .int .i64 0, .int .i64 0, .string ByteArray.empty, .string ByteArray.empty, .slice none 0 0])), rfl, Tryd.und41, by kernel_rfl⟩
instance : SZ Tryd.prog 45 1 := ⟨by kernel_rfl⟩
instance : AG Tryd.prog 45 false := ⟨by kernel_rfl⟩
instance : ZV Tryd.prog 45 (.int .u64 0) := ⟨by kernel_rfl⟩
instance : SZ Tryd.prog 47 1 := ⟨by kernel_rfl⟩
instance : AG Tryd.prog 47 false := ⟨by kernel_rfl⟩
instance : ZV Tryd.prog 47 (.pointer none) := ⟨by kernel_rfl⟩
instance : SZ Tryd.prog 48 2 := ⟨by kernel_rfl⟩
instance : AG Tryd.prog 48 true := ⟨by kernel_rfl⟩
instance : FO Tryd.prog 48 0 0 := ⟨fun _ => by kernel_rfl⟩
instance : FD Tryd.prog 48 0 47 0 := ⟨fun _ => by rfl⟩
instance : FO Tryd.prog 48 1 1 := ⟨fun _ => by kernel_rfl⟩
instance : FD Tryd.prog 48 1 22 1 := ⟨fun _ => by rfl⟩
instance : BD Tryd.prog 48 #[.pointer none, .slice none 0 0] [(0, 1), (1, 1)] := ⟨_, _, (by kernel_rfl : _ = some (.agg #[.pointer none, .slice none 0 0])), rfl, Tryd.und48, by kernel_rfl⟩
instance : ZV Tryd.prog 48 (.agg #[.pointer none, .slice none 0 0]) := ⟨by kernel_rfl⟩
instance : SZ Tryd.prog 49 2 := ⟨by kernel_rfl⟩
instance : AG Tryd.prog 49 true := ⟨by kernel_rfl⟩
instance : FO Tryd.prog 49 0 0 := ⟨fun _ => by kernel_rfl⟩
instance : FD Tryd.prog 49 0 47 0 := ⟨fun _ => by rfl⟩
instance : FO Tryd.prog 49 1 1 := ⟨fun _ => by kernel_rfl⟩
instance : FD Tryd.prog 49 1 22 1 := ⟨fun _ => by rfl⟩
instance : BD Tryd.prog 49 #[.pointer none, .slice none 0 0] [(0, 1), (1, 1)] := ⟨_, _, (by kernel_rfl : _ = some (.agg #[.pointer none, .slice none 0 0])), rfl, Tryd.und48, by kernel_rfl⟩
instance : ZV Tryd.prog 49 (.agg #[.pointer none, .slice none 0 0]) := ⟨by kernel_rfl⟩
instance : SZ Tryd.prog 50 1 := ⟨by kernel_rfl⟩
instance : AG Tryd.prog 50 false := ⟨by kernel_rfl⟩
instance : SZ Tryd.prog 51 1 := ⟨by kernel_rfl⟩
instance : AG Tryd.prog 51 false := ⟨by kernel_rfl⟩
instance : SZ Tryd.prog 64 1 := ⟨by kernel_rfl⟩
instance : AG Tryd.prog 64 false := ⟨by kernel_rfl⟩
instance : ZV Tryd.prog 64 (.slice none 0 0) := ⟨by kernel_rfl⟩
instance : SL Tryd.prog 64 9 1 16 := ⟨_, .string ByteArray.empty, by kernel_rfl, by kernel_rfl, Tryd.ti9, by kernel_rfl, by decide, by kernel_rfl, by rfl, by decide⟩
instance : SC Tryd.prog 64 9 := ⟨by kernel_rfl⟩
instance : SZ Tryd.prog 65 4 := ⟨by kernel_rfl⟩
instance : AG Tryd.prog 65 true := ⟨by kernel_rfl⟩
instance : FO Tryd.prog 65 0 0 := ⟨fun _ => by kernel_rfl⟩
instance : FD Tryd.prog 65 0 3 0 := ⟨fun _ => by rfl⟩
instance : FO Tryd.prog 65 1 1 := ⟨fun _ => by kernel_rfl⟩
instance : FD Tryd.prog 65 1 3 1 := ⟨fun _ => by rfl⟩
instance : FO Tryd.prog 65 2 2 := ⟨fun _ => by kernel_rfl⟩
instance : FD Tryd.prog 65 2 3 2 := ⟨fun _ => by rfl⟩
instance : FO Tryd.prog 65 3 3 := ⟨fun _ => by kernel_rfl⟩
instance : FD Tryd.prog 65 3 3 3 := ⟨fun _ => by rfl⟩
instance : BD Tryd.prog 65 #[.int .i64 0, .int .i64 0, .int .i64 0, .int .i64 0] [(0, 1), (1, 1), (2, 1), (3, 1)] := ⟨_, _, (by kernel_rfl : _ = some (.agg #[.int .i64 0, .int .i64 0, .int .i64 0, .int .i64 0])), rfl, Tryd.und65, by kernel_rfl⟩
instance : ZV Tryd.prog 65 (.agg #[.int .i64 0, .int .i64 0, .int .i64 0, .int .i64 0]) := ⟨by kernel_rfl⟩
instance : SZ Tryd.prog 66 4 := ⟨by kernel_rfl⟩
instance : AG Tryd.prog 66 true := ⟨by kernel_rfl⟩
instance : FO Tryd.prog 66 0 0 := ⟨fun _ => by kernel_rfl⟩
instance : FD Tryd.prog 66 0 3 0 := ⟨fun _ => by rfl⟩
instance : FO Tryd.prog 66 1 1 := ⟨fun _ => by kernel_rfl⟩
instance : FD Tryd.prog 66 1 3 1 := ⟨fun _ => by rfl⟩
instance : FO Tryd.prog 66 2 2 := ⟨fun _ => by kernel_rfl⟩
instance : FD Tryd.prog 66 2 3 2 := ⟨fun _ => by rfl⟩
instance : FO Tryd.prog 66 3 3 := ⟨fun _ => by kernel_rfl⟩
instance : FD Tryd.prog 66 3 3 3 := ⟨fun _ => by rfl⟩
instance : BD Tryd.prog 66 #[.int .i64 0, .int .i64 0, .int .i64 0, .int .i64 0] [(0, 1), (1, 1), (2, 1), (3, 1)] := ⟨_, _, (by kernel_rfl : _ = some (.agg #[.int .i64 0, .int .i64 0, .int .i64 0, .int .i64 0])), rfl, Tryd.und65, by kernel_rfl⟩
instance : ZV Tryd.prog 66 (.agg #[.int .i64 0, .int .i64 0, .int .i64 0, .int .i64 0]) := ⟨by kernel_rfl⟩
instance : SZ Tryd.prog 67 10 := ⟨by kernel_rfl⟩
instance : AG Tryd.prog 67 true := ⟨by kernel_rfl⟩
instance : FO Tryd.prog 67 0 0 := ⟨fun _ => by kernel_rfl⟩
instance : FD Tryd.prog 67 0 24 0 := ⟨fun _ => by rfl⟩
instance : FO Tryd.prog 67 1 1 := ⟨fun _ => by kernel_rfl⟩
instance : FD Tryd.prog 67 1 4 1 := ⟨fun _ => by rfl⟩
instance : FO Tryd.prog 67 2 2 := ⟨fun _ => by kernel_rfl⟩
instance : FD Tryd.prog 67 2 3 2 := ⟨fun _ => by rfl⟩
instance : FO Tryd.prog 67 3 3 := ⟨fun _ => by kernel_rfl⟩
instance : FD Tryd.prog 67 3 3 3 := ⟨fun _ => by rfl⟩
instance : FO Tryd.prog 67 4 4 := ⟨fun _ => by kernel_rfl⟩
instance : FD Tryd.prog 67 4 22 4 := ⟨fun _ => by rfl⟩
instance : FO Tryd.prog 67 5 5 := ⟨fun _ => by kernel_rfl⟩
instance : FD Tryd.prog 67 5 64 5 := ⟨fun _ => by rfl⟩
instance : FO Tryd.prog 67 6 6 := ⟨fun _ => by kernel_rfl⟩
instance : FD Tryd.prog 67 6 66 6 := ⟨fun _ => by rfl⟩
instance : BD Tryd.prog 67 #[.int .i64 0, .bool false, .int .i64 0, .int .i64 0, .slice none 0 0, .slice none 0 0, .int .i64 0, .int .i64 0, .int .i64 0, .int .i64 0] [(0, 1), (1, 1), (2, 1), (3, 1), (4, 1), (5, 1), (6, 4)] := ⟨_, _, (by kernel_rfl : _ = some (.agg #[.int .i64 0, .bool false, .int .i64 0, .int .i64 0, .slice none 0 0, .slice none 0 0, .int .i64 0, .int .i64 0, .int .i64 0, .int .i64 0])), rfl, Tryd.und67, by kernel_rfl⟩
instance : ZV Tryd.prog 67 (.agg #[.int .i64 0, .bool false, .int .i64 0, .int .i64 0, .slice none 0 0, .slice none 0 0, .int .i64 0, .int .i64 0, .int .i64 0, .int .i64 0]) := ⟨by kernel_rfl⟩
instance : SZ Tryd.prog 68 10 := ⟨by kernel_rfl⟩
instance : AG Tryd.prog 68 true := ⟨by kernel_rfl⟩
instance : FO Tryd.prog 68 0 0 := ⟨fun _ => by kernel_rfl⟩
instance : FD Tryd.prog 68 0 24 0 := ⟨fun _ => by rfl⟩
instance : FO Tryd.prog 68 1 1 := ⟨fun _ => by kernel_rfl⟩
instance : FD Tryd.prog 68 1 4 1 := ⟨fun _ => by rfl⟩
instance : FO Tryd.prog 68 2 2 := ⟨fun _ => by kernel_rfl⟩
instance : FD Tryd.prog 68 2 3 2 := ⟨fun _ => by rfl⟩
instance : FO Tryd.prog 68 3 3 := ⟨fun _ => by kernel_rfl⟩
instance : FD Tryd.prog 68 3 3 3 := ⟨fun _ => by rfl⟩
instance : FO Tryd.prog 68 4 4 := ⟨fun _ => by kernel_rfl⟩
instance : FD Tryd.prog 68 4 22 4 := ⟨fun _ => by rfl⟩
instance : FO Tryd.prog 68 5 5 := ⟨fun _ => by kernel_rfl⟩
instance : FD Tryd.prog 68 5 64 5 := ⟨fun _ => by rfl⟩
instance : FO Tryd.prog 68 6 6 := ⟨fun _ => by kernel_rfl⟩
instance : FD Tryd.prog 68 6 66 6 := ⟨fun _ => by rfl⟩
instance : BD Tryd.prog 68 #[.int .i64 0, .bool false, .int .i64 0, .int .i64 0, .slice none 0 0, .slice none 0 0, .int .i64 0, .int .i64 0, .int .i64 0, .int .i64 0] [(0, 1), (1, 1), (2, 1), (3, 1), (4, 1), (5, 1), (6, 4)] := ⟨_, _, (by kernel_rfl : _ = some (.agg #[.int .i64 0, .bool false, .int .i64 0, .int .i64 0, .slice none 0 0, .slice none 0 0, .int .i64 0, .int .i64 0, .int .i64 0, .int .i64 0])), rfl, Tryd.und67, by kernel_rfl⟩
instance : SZ Tryd.prog 70 1 := ⟨by kernel_rfl⟩
instance : AG Tryd.prog 70 false := ⟨by kernel_rfl⟩
instance : ZV Tryd.prog 70 (.slice none 0 0) := ⟨by kernel_rfl⟩
instance : SL Tryd.prog 70 3 1 8 := ⟨_, .int .i64 0, by kernel_rfl, by kernel_rfl, Tryd.ti3, by kernel_rfl, by decide, by kernel_rfl, by rfl, by decide⟩
instance : SC Tryd.prog 70 3 := ⟨by kernel_rfl⟩
instance : SZ Tryd.prog 72 1 := ⟨by kernel_rfl⟩
instance : AG Tryd.prog 72 false := ⟨by kernel_rfl⟩
instance : ZV Tryd.prog 72 (.pointer none) := ⟨by kernel_rfl⟩
instance : SZ Tryd.prog 74 8 := ⟨by kernel_rfl⟩
instance : AG Tryd.prog 74 true := ⟨by kernel_rfl⟩
instance : ZV Tryd.prog 74 (.agg #[.string ByteArray.empty, .string ByteArray.empty, .string ByteArray.empty, .string ByteArray.empty, .string ByteArray.empty, .string ByteArray.empty, .string ByteArray.empty, .string ByteArray.empty]) := ⟨by kernel_rfl⟩
instance : AR Tryd.prog 74 8 9 := ⟨by kernel_rfl⟩
instance : SZ Tryd.prog 77 1 := ⟨by kernel_rfl⟩
instance : AG Tryd.prog 77 false := ⟨by kernel_rfl⟩
instance : ZV Tryd.prog 77 (.pointer none) := ⟨by kernel_rfl⟩
instance : SZ Tryd.prog 78 1 := ⟨by kernel_rfl⟩
instance : AG Tryd.prog 78 false := ⟨by kernel_rfl⟩
instance : ZV Tryd.prog 78 (.slice none 0 0) := ⟨by kernel_rfl⟩
instance : SL Tryd.prog 78 77 1 8 := ⟨_, .pointer none, by kernel_rfl, by kernel_rfl, Tryd.ti77, by kernel_rfl, by decide, by kernel_rfl, by rfl, by decide⟩
instance : SC Tryd.prog 78 77 := ⟨by kernel_rfl⟩
instance : SZ Tryd.prog 81 1 := ⟨by kernel_rfl⟩
instance : AG Tryd.prog 81 false := ⟨by kernel_rfl⟩
instance : SZ Tryd.prog 89 1 := ⟨by kernel_rfl⟩
instance : AG Tryd.prog 89 false := ⟨by kernel_rfl⟩
instance : SZ Tryd.prog 92 1 := ⟨by kernel_rfl⟩
instance : AG Tryd.prog 92 false := ⟨by kernel_rfl⟩
instance : ZV Tryd.prog 92 (.pointer none) := ⟨by kernel_rfl⟩
instance : SZ Tryd.prog 95 24 := ⟨by kernel_rfl⟩
instance : AG Tryd.prog 95 true := ⟨by kernel_rfl⟩
instance : ZV Tryd.prog 95 (.agg #[.int .u8 0, .int .u8 0, .int .u8 0, .int .u8 0, .int .u8 0, .int .u8 0, .int .u8 0, .int .u8 0, .int .u8 0, .int .u8 0, .int .u8 0, .int .u8 0, .int .u8 0, .int .u8 0, .int .u8 0, .int .u8 0, .int .u8 0, .int .u8 0, .int .u8 0, .int .u8 0, .int .u8 0, .int .u8 0, .int .u8 0, .int .u8 0]) := ⟨by kernel_rfl⟩
instance : AR Tryd.prog 95 24 5 := ⟨by kernel_rfl⟩
instance : SZ Tryd.prog 96 1 := ⟨by kernel_rfl⟩
instance : AG Tryd.prog 96 false := ⟨by kernel_rfl⟩
instance : ZV Tryd.prog 96 (.int .u64 0) := ⟨by kernel_rfl⟩
instance : SZ Tryd.prog 101 1 := ⟨by kernel_rfl⟩
instance : AG Tryd.prog 101 false := ⟨by kernel_rfl⟩
instance : ZV Tryd.prog 101 (.int .u32 0) := ⟨by kernel_rfl⟩
instance : SZ Tryd.prog 109 3 := ⟨by kernel_rfl⟩
instance : AG Tryd.prog 109 true := ⟨by kernel_rfl⟩
instance : FO Tryd.prog 109 0 0 := ⟨fun _ => by kernel_rfl⟩
instance : FD Tryd.prog 109 0 9 0 := ⟨fun _ => by rfl⟩
instance : FO Tryd.prog 109 1 1 := ⟨fun _ => by kernel_rfl⟩
instance : FD Tryd.prog 109 1 9 1 := ⟨fun _ => by rfl⟩
instance : FO Tryd.prog 109 2 2 := ⟨fun _ => by kernel_rfl⟩
instance : FD Tryd.prog 109 2 51 2 := ⟨fun _ => by rfl⟩
instance : BD Tryd.prog 109 #[.string ByteArray.empty, .string ByteArray.empty, .nilIface] [(0, 1), (1, 1), (2, 1)] := ⟨_, _, (by kernel_rfl : _ = some (.agg #[.string ByteArray.empty, .string ByteArray.empty, .nilIface])), rfl, Tryd.und109, by kernel_rfl⟩
instance : ZV Tryd.prog 109 (.agg #[.string ByteArray.empty, .string ByteArray.empty, .nilIface]) := ⟨by kernel_rfl⟩
instance : SZ Tryd.prog 110 3 := ⟨by kernel_rfl⟩
instance : AG Tryd.prog 110 true := ⟨by kernel_rfl⟩
instance : FO Tryd.prog 110 0 0 := ⟨fun _ => by kernel_rfl⟩
instance : FD Tryd.prog 110 0 9 0 := ⟨fun _ => by rfl⟩
instance : FO Tryd.prog 110 1 1 := ⟨fun _ => by kernel_rfl⟩
instance : FD Tryd.prog 110 1 9 1 := ⟨fun _ => by rfl⟩
instance : FO Tryd.prog 110 2 2 := ⟨fun _ => by kernel_rfl⟩
instance : FD Tryd.prog 110 2 51 2 := ⟨fun _ => by rfl⟩
instance : BD Tryd.prog 110 #[.string ByteArray.empty, .string ByteArray.empty, .nilIface] [(0, 1), (1, 1), (2, 1)] := ⟨_, _, (by kernel_rfl : _ = some (.agg #[.string ByteArray.empty, .string ByteArray.empty, .nilIface])), rfl, Tryd.und109, by kernel_rfl⟩
instance : ZV Tryd.prog 110 (.agg #[.string ByteArray.empty, .string ByteArray.empty, .nilIface]) := ⟨by kernel_rfl⟩
instance : SZ Tryd.prog 113 20 := ⟨by kernel_rfl⟩
instance : AG Tryd.prog 113 true := ⟨by kernel_rfl⟩
instance : ZV Tryd.prog 113 (.agg #[.int .u64 0, .int .u64 0, .int .u64 0, .int .u64 0, .int .u64 0, .int .u64 0, .int .u64 0, .int .u64 0, .int .u64 0, .int .u64 0, .int .u64 0, .int .u64 0, .int .u64 0, .int .u64 0, .int .u64 0, .int .u64 0, .int .u64 0, .int .u64 0, .int .u64 0, .int .u64 0]) := ⟨by kernel_rfl⟩
instance : AR Tryd.prog 113 20 96 := ⟨by kernel_rfl⟩
instance : SZ Tryd.prog 114 65 := ⟨by kernel_rfl⟩
instance : AG Tryd.prog 114 true := ⟨by kernel_rfl⟩
instance : ZV Tryd.prog 114 (.agg (List.replicate 65 (.int .u8 0)).toArray) := ⟨by kernel_rfl⟩
instance : AR Tryd.prog 114 65 5 := ⟨by kernel_rfl⟩
instance : SZ Tryd.prog 117 1 := ⟨by kernel_rfl⟩
instance : AG Tryd.prog 117 false := ⟨by kernel_rfl⟩
instance : ZV Tryd.prog 117 (.pointer none) := ⟨by kernel_rfl⟩
instance : SZ Tryd.prog 118 1 := ⟨by kernel_rfl⟩
instance : AG Tryd.prog 118 true := ⟨by kernel_rfl⟩
instance : FO Tryd.prog 118 0 0 := ⟨fun _ => by kernel_rfl⟩
instance : FD Tryd.prog 118 0 9 0 := ⟨fun _ => by rfl⟩
instance : BD Tryd.prog 118 #[.string ByteArray.empty] [(0, 1)] := ⟨_, _, (by kernel_rfl : _ = some (.agg #[.string ByteArray.empty])), rfl, Tryd.und118, by kernel_rfl⟩
instance : ZV Tryd.prog 118 (.agg #[.string ByteArray.empty]) := ⟨by kernel_rfl⟩
instance : SZ Tryd.prog 119 1 := ⟨by kernel_rfl⟩
instance : AG Tryd.prog 119 true := ⟨by kernel_rfl⟩
instance : FO Tryd.prog 119 0 0 := ⟨fun _ => by kernel_rfl⟩
instance : FD Tryd.prog 119 0 9 0 := ⟨fun _ => by rfl⟩
instance : BD Tryd.prog 119 #[.string ByteArray.empty] [(0, 1)] := ⟨_, _, (by kernel_rfl : _ = some (.agg #[.string ByteArray.empty])), rfl, Tryd.und118, by kernel_rfl⟩
instance : ZV Tryd.prog 119 (.agg #[.string ByteArray.empty]) := ⟨by kernel_rfl⟩
instance : SZ Tryd.prog 121 256 := ⟨by kernel_rfl⟩
instance : AG Tryd.prog 121 true := ⟨by kernel_rfl⟩
instance : ZV Tryd.prog 121 (.agg (List.replicate 256 (.int .u8 0)).toArray) := ⟨by kernel_rfl⟩
instance : AR Tryd.prog 121 256 5 := ⟨by kernel_rfl⟩
instance : SZ Tryd.prog 122 2 := ⟨by kernel_rfl⟩
instance : AG Tryd.prog 122 true := ⟨by kernel_rfl⟩
instance : FO Tryd.prog 122 0 0 := ⟨fun _ => by kernel_rfl⟩
instance : FD Tryd.prog 122 0 5 0 := ⟨fun _ => by rfl⟩
instance : FO Tryd.prog 122 1 1 := ⟨fun _ => by kernel_rfl⟩
instance : FD Tryd.prog 122 1 5 1 := ⟨fun _ => by rfl⟩
instance : BD Tryd.prog 122 #[.int .u8 0, .int .u8 0] [(0, 1), (1, 1)] := ⟨_, _, (by kernel_rfl : _ = some (.agg #[.int .u8 0, .int .u8 0])), rfl, Tryd.und122, by kernel_rfl⟩
instance : ZV Tryd.prog 122 (.agg #[.int .u8 0, .int .u8 0]) := ⟨by kernel_rfl⟩
instance : SZ Tryd.prog 123 2 := ⟨by kernel_rfl⟩
instance : AG Tryd.prog 123 true := ⟨by kernel_rfl⟩
instance : FO Tryd.prog 123 0 0 := ⟨fun _ => by kernel_rfl⟩
instance : FD Tryd.prog 123 0 5 0 := ⟨fun _ => by rfl⟩
instance : FO Tryd.prog 123 1 1 := ⟨fun _ => by kernel_rfl⟩
instance : FD Tryd.prog 123 1 5 1 := ⟨fun _ => by rfl⟩
instance : BD Tryd.prog 123 #[.int .u8 0, .int .u8 0] [(0, 1), (1, 1)] := ⟨_, _, (by kernel_rfl : _ = some (.agg #[.int .u8 0, .int .u8 0])), rfl, Tryd.und122, by kernel_rfl⟩
instance : ZV Tryd.prog 123 (.agg #[.int .u8 0, .int .u8 0]) := ⟨by kernel_rfl⟩
instance : SZ Tryd.prog 124 32 := ⟨by kernel_rfl⟩
instance : AG Tryd.prog 124 true := ⟨by kernel_rfl⟩
instance : ZV Tryd.prog 124 (.agg #[.int .u8 0, .int .u8 0, .int .u8 0, .int .u8 0, .int .u8 0, .int .u8 0, .int .u8 0, .int .u8 0, .int .u8 0, .int .u8 0, .int .u8 0, .int .u8 0, .int .u8 0, .int .u8 0, .int .u8 0, .int .u8 0, .int .u8 0, .int .u8 0, .int .u8 0, .int .u8 0, .int .u8 0, .int .u8 0, .int .u8 0, .int .u8 0, .int .u8 0, .int .u8 0, .int .u8 0, .int .u8 0, .int .u8 0, .int .u8 0, .int .u8 0, .int .u8 0]) := ⟨by kernel_rfl⟩
instance : AR Tryd.prog 124 16 123 := ⟨by kernel_rfl⟩
instance : SZ Tryd.prog 125 32 := ⟨by kernel_rfl⟩
instance : AG Tryd.prog 125 true := ⟨by kernel_rfl⟩
instance : ZV Tryd.prog 125 (.agg #[.int .u8 0, .int .u8 0, .int .u8 0, .int .u8 0, .int .u8 0, .int .u8 0, .int .u8 0, .int .u8 0, .int .u8 0, .int .u8 0, .int .u8 0, .int .u8 0, .int .u8 0, .int .u8 0, .int .u8 0, .int .u8 0, .int .u8 0, .int .u8 0, .int .u8 0, .int .u8 0, .int .u8 0, .int .u8 0, .int .u8 0, .int .u8 0, .int .u8 0, .int .u8 0, .int .u8 0, .int .u8 0, .int .u8 0, .int .u8 0, .int .u8 0, .int .u8 0]) := ⟨by kernel_rfl⟩
instance : AR Tryd.prog 125 32 5 := ⟨by kernel_rfl⟩
instance : SZ Tryd.prog 126 64 := ⟨by kernel_rfl⟩
instance : AG Tryd.prog 126 true := ⟨by kernel_rfl⟩
instance : ZV Tryd.prog 126 (.agg #[.int .u8 0, .int .u8 0, .int .u8 0, .int .u8 0, .int .u8 0, .int .u8 0, .int .u8 0, .int .u8 0, .int .u8 0, .int .u8 0, .int .u8 0, .int .u8 0, .int .u8 0, .int .u8 0, .int .u8 0, .int .u8 0, .int .u8 0, .int .u8 0, .int .u8 0, .int .u8 0, .int .u8 0, .int .u8 0, .int .u8 0, .int .u8 0, .int .u8 0, .int .u8 0, .int .u8 0, .int .u8 0, .int .u8 0, .int .u8 0, .int .u8 0, .int .u8 0, .int .u8 0, .int .u8 0, .int .u8 0, .int .u8 0, .int .u8 0, .int .u8 0, .int .u8 0, .int .u8 0, .int .u8 0, .int .u8 0, .int .u8 0, .int .u8 0, .int .u8 0, .int .u8 0, .int .u8 0, .int .u8 0, .int .u8 0, .int .u8 0, .int .u8 0, .int .u8 0, .int .u8 0, .int .u8 0, .int .u8 0, .int .u8 0, .int .u8 0, .int .u8 0, .int .u8 0, .int .u8 0, .int .u8 0, .int .u8 0, .int .u8 0, .int .u8 0]) := ⟨by kernel_rfl⟩
instance : AR Tryd.prog 126 64 5 := ⟨by kernel_rfl⟩
instance : SZ Tryd.prog 127 4 := ⟨by kernel_rfl⟩
instance : AG Tryd.prog 127 true := ⟨by kernel_rfl⟩
instance : SZ Tryd.prog 128 4 := ⟨by kernel_rfl⟩
instance : AG Tryd.prog 128 true := ⟨by kernel_rfl⟩
instance : SZ Tryd.prog 129 0 := ⟨by kernel_rfl⟩
instance : AG Tryd.prog 129 true := ⟨by kernel_rfl⟩
instance : AR Tryd.prog 129 0 16 := ⟨by kernel_rfl⟩
instance : SZ Tryd.prog 130 0 := ⟨by kernel_rfl⟩
instance : AG Tryd.prog 130 true := ⟨by kernel_rfl⟩
instance : SZ Tryd.prog 131 0 := ⟨by kernel_rfl⟩
instance : AG Tryd.prog 131 true := ⟨by kernel_rfl⟩
instance : SZ Tryd.prog 133 1 := ⟨by kernel_rfl⟩
instance : AG Tryd.prog 133 false := ⟨by kernel_rfl⟩
instance : SZ Tryd.prog 134 1 := ⟨by kernel_rfl⟩
instance : AG Tryd.prog 134 false := ⟨by kernel_rfl⟩
instance : SZ Tryd.prog 136 1 := ⟨by kernel_rfl⟩
instance : AG Tryd.prog 136 false := ⟨by kernel_rfl⟩
instance : SZ Tryd.prog 137 1 := ⟨by kernel_rfl⟩
instance : AG Tryd.prog 137 false := ⟨by kernel_rfl⟩
instance : SZ Tryd.prog 138 11 := ⟨by kernel_rfl⟩
instance : AG Tryd.prog 138 true := ⟨by kernel_rfl⟩
instance : FO Tryd.prog 138 0 0 := ⟨fun _ => by kernel_rfl⟩
instance : FD Tryd.prog 138 0 12 0 := ⟨fun _ => by rfl⟩
instance : FO Tryd.prog 138 1 1 := ⟨fun _ => by kernel_rfl⟩
instance : FD Tryd.prog 138 1 12 1 := ⟨fun _ => by rfl⟩
instance : FO Tryd.prog 138 2 2 := ⟨fun _ => by kernel_rfl⟩
instance : FD Tryd.prog 138 2 101 2 := ⟨fun _ => by rfl⟩
instance : FO Tryd.prog 138 3 3 := ⟨fun _ => by kernel_rfl⟩
instance : FD Tryd.prog 138 3 133 3 := ⟨fun _ => by rfl⟩
instance : FO Tryd.prog 138 4 4 := ⟨fun _ => by kernel_rfl⟩
instance : FD Tryd.prog 138 4 5 4 := ⟨fun _ => by rfl⟩
instance : FO Tryd.prog 138 5 5 := ⟨fun _ => by kernel_rfl⟩
instance : FD Tryd.prog 138 5 5 5 := ⟨fun _ => by rfl⟩
instance : FO Tryd.prog 138 6 6 := ⟨fun _ => by kernel_rfl⟩
instance : FD Tryd.prog 138 6 134 6 := ⟨fun _ => by rfl⟩
instance : FO Tryd.prog 138 7 7 := ⟨fun _ => by kernel_rfl⟩
instance : FD Tryd.prog 138 7 135 7 := ⟨fun _ => by rfl⟩
instance : FO Tryd.prog 138 8 8 := ⟨fun _ => by kernel_rfl⟩
instance : FD Tryd.prog 138 8 72 8 := ⟨fun _ => by rfl⟩
instance : FO Tryd.prog 138 9 9 := ⟨fun _ => by kernel_rfl⟩
instance : FD Tryd.prog 138 9 136 9 := ⟨fun _ => by rfl⟩
instance : FO Tryd.prog 138 10 10 := ⟨fun _ => by kernel_rfl⟩
instance : FD Tryd.prog 138 10 137 10 := ⟨fun _ => by rfl⟩
instance : BD Tryd.prog 138 #[.int .u64 0, .int .u64 0, .int .u32 0, .int .u8 0, .int .u8 0, .int .u8 0, .int .u8 0, .nilFunc, .pointer none, .int .i32 0, .int .i32 0] [(0, 1), (1, 1), (2, 1), (3, 1), (4, 1), (5, 1), (6, 1), (7, 1), (8, 1), (9, 1), (10, 1)] := ⟨_, _, (by kernel_rfl : _ = some (.agg #[.int .u64 0, .int .u64 0, .int .u32 0, .int .u8 0, .int .u8 0, .int .u8 0, .int .u8 0, .nilFunc, .pointer none, .int .i32 0, .int .i32 0])), rfl, Tryd.und138, by kernel_rfl⟩
instance : ZV Tryd.prog 138 (.agg #[.int .u64 0, .int .u64 0, .int .u32 0, .int .u8 0, .int .u8 0, .int .u8 0, .int .u8 0, .nilFunc, .pointer none, .int .i32 0, .int .i32 0]) := ⟨by kernel_rfl⟩
instance : SZ Tryd.prog 139 11 := ⟨by kernel_rfl⟩
instance : AG Tryd.prog 139 true := ⟨by kernel_rfl⟩
instance : FN Tryd.prog 3 := ⟨fun _ => by kernel_rfl⟩
instance : FN Tryd.prog 4 := ⟨fun _ => by kernel_rfl⟩
instance : FN Tryd.prog 5 := ⟨fun _ => by kernel_rfl⟩
instance : FN Tryd.prog 6 := ⟨fun _ => by kernel_rfl⟩
instance : FN Tryd.prog 7 := ⟨fun _ => by kernel_rfl⟩
instance : FN Tryd.prog 8 := ⟨fun _ => by kernel_rfl⟩
instance : FN Tryd.prog 9 := ⟨fun _ => by kernel_rfl⟩
instance : FN Tryd.prog 10 := ⟨fun _ => by kernel_rfl⟩
instance : FN Tryd.prog 11 := ⟨fun _ => by kernel_rfl⟩
instance : FN Tryd.prog 12 := ⟨fun _ => by kernel_rfl⟩
instance : FN Tryd.prog 13 := ⟨fun _ => by kernel_rfl⟩
instance : FN Tryd.prog 14 := ⟨fun _ => by kernel_rfl⟩
instance : FN Tryd.prog 15 := ⟨fun _ => by kernel_rfl⟩
instance : FN Tryd.prog 16 := ⟨fun _ => by kernel_rfl⟩
instance : FN Tryd.prog 17 := ⟨fun _ => by kernel_rfl⟩
instance : FN Tryd.prog 18 := ⟨fun _ => by kernel_rfl⟩
instance : FN Tryd.prog 19 := ⟨fun _ => by kernel_rfl⟩
instance : FN Tryd.prog 20 := ⟨fun _ => by kernel_rfl⟩
instance : FN Tryd.prog 21 := ⟨fun _ => by kernel_rfl⟩
instance : FN Tryd.prog 22 := ⟨fun _ => by kernel_rfl⟩
instance : FN Tryd.prog 23 := ⟨fun _ => by kernel_rfl⟩
instance : FN Tryd.prog 24 := ⟨fun _ => by kernel_rfl⟩
instance : FN Tryd.prog 25 := ⟨fun _ => by kernel_rfl⟩
instance : FN Tryd.prog 26 := ⟨fun _ => by kernel_rfl⟩
instance : FN Tryd.prog 27 := ⟨fun _ => by kernel_rfl⟩
instance : FN Tryd.prog 28 := ⟨fun _ => by kernel_rfl⟩
instance : FN Tryd.prog 29 := ⟨fun _ => by kernel_rfl⟩
instance : FN Tryd.prog 30 := ⟨fun _ => by kernel_rfl⟩
instance : FN Tryd.prog 31 := ⟨fun _ => by kernel_rfl⟩
instance : FN Tryd.prog 32 := ⟨fun _ => by kernel_rfl⟩
instance : FN Tryd.prog 33 := ⟨fun _ => by kernel_rfl⟩
instance : FN Tryd.prog 34 := ⟨fun _ => by kernel_rfl⟩
instance : FN Tryd.prog 35 := ⟨fun _ => by kernel_rfl⟩
instance : FN Tryd.prog 36 := ⟨fun _ => by kernel_rfl⟩
instance : FN Tryd.prog 37 := ⟨fun _ => by kernel_rfl⟩
instance : FN Tryd.prog 38 := ⟨fun _ => by kernel_rfl⟩
instance : FN Tryd.prog 40 := ⟨fun _ => by kernel_rfl⟩
instance : FN Tryd.prog 41 := ⟨fun _ => by kernel_rfl⟩
instance : FN Tryd.prog 42 := ⟨fun _ => by kernel_rfl⟩
instance : FN Tryd.prog 43 := ⟨fun _ => by kernel_rfl⟩
instance : FN Tryd.prog 44 := ⟨fun _ => by kernel_rfl⟩
instance : FN Tryd.prog 45 := ⟨fun _ => by kernel_rfl⟩
instance : FN Tryd.prog 46 := ⟨fun _ => by kernel_rfl⟩
instance : FN Tryd.prog 47 := ⟨fun _ => by kernel_rfl⟩
instance : FN Tryd.prog 48 := ⟨fun _ => by kernel_rfl⟩
instance : FN Tryd.prog 51 := ⟨fun _ => by kernel_rfl⟩
instance : FN Tryd.prog 52 := ⟨fun _ => by kernel_rfl⟩
instance : FN Tryd.prog 53 := ⟨fun _ => by kernel_rfl⟩
instance : FN Tryd.prog 54 := ⟨fun _ => by kernel_rfl⟩
instance : FN Tryd.prog 55 := ⟨fun _ => by kernel_rfl⟩
instance : FN Tryd.prog 56 := ⟨fun _ => by kernel_rfl⟩
instance : FN Tryd.prog 58 := ⟨fun _ => by kernel_rfl⟩
instance : FN Tryd.prog 59 := ⟨fun _ => by kernel_rfl⟩
instance : FN Tryd.prog 60 := ⟨fun _ => by kernel_rfl⟩
instance : FN Tryd.prog 61 := ⟨fun _ => by kernel_rfl⟩
end Go.Proofs.YtmlddafbenfilaaDoor
