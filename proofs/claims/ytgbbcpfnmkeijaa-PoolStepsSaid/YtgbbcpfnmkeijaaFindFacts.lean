/- The rows of the types' table that the walks ask for. -/
import Derived.Test.YtgbbcpfnmkeijaaProg
import Derived.Test.YtgbbcpfnmkeijaaCamAE
namespace Go.Proofs.Ytgbbcpfnmkeijaa
open Go.Cam
set_option maxRecDepth 100000
theorem Try.und24 : cst Try.prog (underlying 24) = some ((Try.prog.underlying 24).getD default) := by kernel_rfl
theorem Try.und26 : cst Try.prog (underlying 26) = some ((Try.prog.underlying 26).getD default) := by kernel_rfl
theorem Try.und47 : cst Try.prog (underlying 47) = some ((Try.prog.underlying 47).getD default) := by kernel_rfl
theorem Try.und59 : cst Try.prog (underlying 59) = some ((Try.prog.underlying 59).getD default) := by kernel_rfl
theorem Try.und66 : cst Try.prog (underlying 66) = some ((Try.prog.underlying 66).getD default) := by kernel_rfl
theorem Try.und78 : cst Try.prog (underlying 78) = some ((Try.prog.underlying 78).getD default) := by kernel_rfl
theorem Try.und81 : cst Try.prog (underlying 81) = some ((Try.prog.underlying 81).getD default) := by kernel_rfl
theorem Try.und99 : cst Try.prog (underlying 99) = some ((Try.prog.underlying 99).getD default) := by kernel_rfl
theorem Try.und105 : cst Try.prog (underlying 105) = some ((Try.prog.underlying 105).getD default) := by kernel_rfl
theorem Try.und110 : cst Try.prog (underlying 110) = some ((Try.prog.underlying 110).getD default) := by kernel_rfl
theorem Try.und119 : cst Try.prog (underlying 119) = some ((Try.prog.underlying 119).getD default) := by kernel_rfl
theorem Try.und125 : cst Try.prog (underlying 125) = some ((Try.prog.underlying 125).getD default) := by kernel_rfl
theorem Try.und133 : cst Try.prog (underlying 133) = some ((Try.prog.underlying 133).getD default) := by kernel_rfl
theorem Try.und166 : cst Try.prog (underlying 166) = some ((Try.prog.underlying 166).getD default) := by kernel_rfl
theorem Try.und237 : cst Try.prog (underlying 237) = some ((Try.prog.underlying 237).getD default) := by kernel_rfl
theorem Try.ti48 : cst Try.prog (typeInfo 48) = some ((Try.prog.info? 48).getD default) := by kernel_rfl
theorem Try.ti3 : cst Try.prog (typeInfo 3) = some ((Try.prog.info? 3).getD default) := by kernel_rfl
theorem Try.ti5 : cst Try.prog (typeInfo 5) = some ((Try.prog.info? 5).getD default) := by kernel_rfl
theorem Try.ti27 : cst Try.prog (typeInfo 27) = some ((Try.prog.info? 27).getD default) := by kernel_rfl
theorem Try.ti67 : cst Try.prog (typeInfo 67) = some ((Try.prog.info? 67).getD default) := by kernel_rfl
theorem Try.ti72 : cst Try.prog (typeInfo 72) = some ((Try.prog.info? 72).getD default) := by kernel_rfl
theorem Try.ti44 : cst Try.prog (typeInfo 44) = some ((Try.prog.info? 44).getD default) := by kernel_rfl
theorem Try.ti4 : cst Try.prog (typeInfo 4) = some ((Try.prog.info? 4).getD default) := by kernel_rfl
theorem Try.ti60 : cst Try.prog (typeInfo 60) = some ((Try.prog.info? 60).getD default) := by kernel_rfl
theorem Try.ti123 : cst Try.prog (typeInfo 123) = some ((Try.prog.info? 123).getD default) := by kernel_rfl
theorem Try.ti126 : cst Try.prog (typeInfo 126) = some ((Try.prog.info? 126).getD default) := by kernel_rfl
instance : SZ Try.prog 2 1 := ⟨by kernel_rfl⟩
instance : AG Try.prog 2 false := ⟨by kernel_rfl⟩
instance : ZV Try.prog 2 (.int .i64 0) := ⟨by kernel_rfl⟩
instance : SZ Try.prog 3 1 := ⟨by kernel_rfl⟩
instance : AG Try.prog 3 false := ⟨by kernel_rfl⟩
instance : ZV Try.prog 3 (.int .i64 0) := ⟨by kernel_rfl⟩
instance : SZ Try.prog 4 1 := ⟨by kernel_rfl⟩
instance : AG Try.prog 4 false := ⟨by kernel_rfl⟩
instance : ZV Try.prog 4 (.bool false) := ⟨by kernel_rfl⟩
instance : SZ Try.prog 5 1 := ⟨by kernel_rfl⟩
instance : AG Try.prog 5 false := ⟨by kernel_rfl⟩
instance : ZV Try.prog 5 (.int .u8 0) := ⟨by kernel_rfl⟩
instance : SZ Try.prog 6 1 := ⟨by kernel_rfl⟩
instance : AG Try.prog 6 false := ⟨by kernel_rfl⟩
instance : SZ Try.prog 7 4 := ⟨by kernel_rfl⟩
instance : AG Try.prog 7 true := ⟨by kernel_rfl⟩
instance : SZ Try.prog 8 4 := ⟨by kernel_rfl⟩
instance : AG Try.prog 8 true := ⟨by kernel_rfl⟩
instance : SZ Try.prog 9 1 := ⟨by kernel_rfl⟩
instance : AG Try.prog 9 false := ⟨by kernel_rfl⟩
instance : ZV Try.prog 9 (.string ByteArray.empty) := ⟨by kernel_rfl⟩
instance : STY Try.prog 9 := ⟨by kernel_rfl⟩
instance : SZ Try.prog 10 1 := ⟨by kernel_rfl⟩
instance : AG Try.prog 10 false := ⟨by kernel_rfl⟩
instance : SZ Try.prog 11 1 := ⟨by kernel_rfl⟩
instance : AG Try.prog 11 false := ⟨by kernel_rfl⟩
instance : SZ Try.prog 12 1 := ⟨by kernel_rfl⟩
instance : AG Try.prog 12 false := ⟨by kernel_rfl⟩
instance : ZV Try.prog 12 (.int .u64 0) := ⟨by kernel_rfl⟩
instance : SZ Try.prog 13 2 := ⟨by kernel_rfl⟩
instance : AG Try.prog 13 true := ⟨by kernel_rfl⟩
instance : SZ Try.prog 14 2 := ⟨by kernel_rfl⟩
instance : AG Try.prog 14 true := ⟨by kernel_rfl⟩
instance : SZ Try.prog 15 1 := ⟨by kernel_rfl⟩
instance : AG Try.prog 15 false := ⟨by kernel_rfl⟩
instance : SZ Try.prog 16 1 := ⟨by kernel_rfl⟩
instance : AG Try.prog 16 false := ⟨by kernel_rfl⟩
instance : SZ Try.prog 17 1 := ⟨by kernel_rfl⟩
instance : AG Try.prog 17 false := ⟨by kernel_rfl⟩
instance : ZV Try.prog 17 (.pointer none) := ⟨by kernel_rfl⟩
instance : SZ Try.prog 18 1 := ⟨by kernel_rfl⟩
instance : AG Try.prog 18 true := ⟨by kernel_rfl⟩
instance : SZ Try.prog 19 1 := ⟨by kernel_rfl⟩
instance : AG Try.prog 19 true := ⟨by kernel_rfl⟩
instance : SZ Try.prog 20 1 := ⟨by kernel_rfl⟩
instance : AG Try.prog 20 false := ⟨by kernel_rfl⟩
instance : SZ Try.prog 21 1 := ⟨by kernel_rfl⟩
instance : AG Try.prog 21 false := ⟨by kernel_rfl⟩
instance : ZV Try.prog 21 (.int .i32 0) := ⟨by kernel_rfl⟩
instance : SZ Try.prog 22 1 := ⟨by kernel_rfl⟩
instance : AG Try.prog 22 false := ⟨by kernel_rfl⟩
instance : ZV Try.prog 22 (.slice none 0 0) := ⟨by kernel_rfl⟩
instance : ZV Try.prog 48 (.agg #[.int .i64 0, .int .i64 0, .int .i64 0, .slice none 0 0]) := ⟨by kernel_rfl⟩
instance : SL Try.prog 22 48 4 48 := ⟨_, .agg #[.int .i64 0, .int .i64 0, .int .i64 0, .slice none 0 0], by kernel_rfl, by kernel_rfl, Try.ti48, by kernel_rfl, by decide, by kernel_rfl, by rfl, by decide⟩
instance : SC Try.prog 22 48 := ⟨by kernel_rfl⟩
instance : SZ Try.prog 23 1 := ⟨by kernel_rfl⟩
instance : AG Try.prog 23 false := ⟨by kernel_rfl⟩
instance : ZV Try.prog 23 (.slice none 0 0) := ⟨by kernel_rfl⟩
instance : SL Try.prog 23 3 1 8 := ⟨_, .int .i64 0, by kernel_rfl, by kernel_rfl, Try.ti3, by kernel_rfl, by decide, by kernel_rfl, by rfl, by decide⟩
instance : SC Try.prog 23 3 := ⟨by kernel_rfl⟩
instance : SZ Try.prog 24 2 := ⟨by kernel_rfl⟩
instance : AG Try.prog 24 true := ⟨by kernel_rfl⟩
instance : FO Try.prog 24 0 0 := ⟨fun _ => by kernel_rfl⟩
instance : FD Try.prog 24 0 22 0 := ⟨fun _ => by rfl⟩
instance : FO Try.prog 24 1 1 := ⟨fun _ => by kernel_rfl⟩
instance : FD Try.prog 24 1 23 1 := ⟨fun _ => by rfl⟩
instance : BD Try.prog 24 #[.slice none 0 0, .slice none 0 0] [(0, 1), (1, 1)] := ⟨_, _, (by kernel_rfl : _ = some (.agg #[.slice none 0 0, .slice none 0 0])), rfl, Try.und24, by kernel_rfl⟩
instance : ZV Try.prog 24 (.agg #[.slice none 0 0, .slice none 0 0]) := ⟨by kernel_rfl⟩
instance : SZ Try.prog 25 2 := ⟨by kernel_rfl⟩
instance : AG Try.prog 25 true := ⟨by kernel_rfl⟩
instance : FO Try.prog 25 0 0 := ⟨fun _ => by kernel_rfl⟩
instance : FD Try.prog 25 0 22 0 := ⟨fun _ => by rfl⟩
instance : FO Try.prog 25 1 1 := ⟨fun _ => by kernel_rfl⟩
instance : FD Try.prog 25 1 23 1 := ⟨fun _ => by rfl⟩
instance : BD Try.prog 25 #[.slice none 0 0, .slice none 0 0] [(0, 1), (1, 1)] := ⟨_, _, (by kernel_rfl : _ = some (.agg #[.slice none 0 0, .slice none 0 0])), rfl, Try.und24, by kernel_rfl⟩
instance : ZV Try.prog 25 (.agg #[.slice none 0 0, .slice none 0 0]) := ⟨by kernel_rfl⟩
instance : SZ Try.prog 26 3 := ⟨by kernel_rfl⟩
instance : AG Try.prog 26 true := ⟨by kernel_rfl⟩
instance : FO Try.prog 26 0 0 := ⟨fun _ => by kernel_rfl⟩
instance : FD Try.prog 26 0 3 0 := ⟨fun _ => by rfl⟩
instance : FO Try.prog 26 1 1 := ⟨fun _ => by kernel_rfl⟩
instance : FD Try.prog 26 1 3 1 := ⟨fun _ => by rfl⟩
instance : FO Try.prog 26 2 2 := ⟨fun _ => by kernel_rfl⟩
instance : FD Try.prog 26 2 3 2 := ⟨fun _ => by rfl⟩
instance : BD Try.prog 26 #[.int .i64 0, .int .i64 0, .int .i64 0] [(0, 1), (1, 1), (2, 1)] := ⟨_, _, (by kernel_rfl : _ = some (.agg #[.int .i64 0, .int .i64 0, .int .i64 0])), rfl, Try.und26, by kernel_rfl⟩
instance : ZV Try.prog 26 (.agg #[.int .i64 0, .int .i64 0, .int .i64 0]) := ⟨by kernel_rfl⟩
instance : SZ Try.prog 27 3 := ⟨by kernel_rfl⟩
instance : AG Try.prog 27 true := ⟨by kernel_rfl⟩
instance : FO Try.prog 27 0 0 := ⟨fun _ => by kernel_rfl⟩
instance : FD Try.prog 27 0 3 0 := ⟨fun _ => by rfl⟩
instance : FO Try.prog 27 1 1 := ⟨fun _ => by kernel_rfl⟩
instance : FD Try.prog 27 1 3 1 := ⟨fun _ => by rfl⟩
instance : FO Try.prog 27 2 2 := ⟨fun _ => by kernel_rfl⟩
instance : FD Try.prog 27 2 3 2 := ⟨fun _ => by rfl⟩
instance : BD Try.prog 27 #[.int .i64 0, .int .i64 0, .int .i64 0] [(0, 1), (1, 1), (2, 1)] := ⟨_, _, (by kernel_rfl : _ = some (.agg #[.int .i64 0, .int .i64 0, .int .i64 0])), rfl, Try.und26, by kernel_rfl⟩
instance : ZV Try.prog 27 (.agg #[.int .i64 0, .int .i64 0, .int .i64 0]) := ⟨by kernel_rfl⟩
instance : SZ Try.prog 28 6 := ⟨by kernel_rfl⟩
instance : AG Try.prog 28 true := ⟨by kernel_rfl⟩
instance : ZV Try.prog 28 (.agg #[.int .i64 0, .int .i64 0, .int .i64 0, .int .i64 0, .int .i64 0, .int .i64 0]) := ⟨by kernel_rfl⟩
instance : AR Try.prog 28 2 27 := ⟨by kernel_rfl⟩
instance : SZ Try.prog 31 1 := ⟨by kernel_rfl⟩
instance : AG Try.prog 31 false := ⟨by kernel_rfl⟩
instance : ZV Try.prog 31 (.pointer none) := ⟨by kernel_rfl⟩
instance : SZ Try.prog 32 1 := ⟨by kernel_rfl⟩
instance : AG Try.prog 32 false := ⟨by kernel_rfl⟩
instance : ZV Try.prog 32 (.pointer none) := ⟨by kernel_rfl⟩
instance : SZ Try.prog 35 1 := ⟨by kernel_rfl⟩
instance : AG Try.prog 35 false := ⟨by kernel_rfl⟩
instance : ZV Try.prog 35 (.int .i64 0) := ⟨by kernel_rfl⟩
instance : SZ Try.prog 44 1 := ⟨by kernel_rfl⟩
instance : AG Try.prog 44 false := ⟨by kernel_rfl⟩
instance : ZV Try.prog 44 (.slice none 0 0) := ⟨by kernel_rfl⟩
instance : SL Try.prog 44 5 1 1 := ⟨_, .int .u8 0, by kernel_rfl, by kernel_rfl, Try.ti5, by kernel_rfl, by decide, by kernel_rfl, by rfl, by decide⟩
instance : SC Try.prog 44 5 := ⟨by kernel_rfl⟩
instance : SZ Try.prog 47 4 := ⟨by kernel_rfl⟩
instance : AG Try.prog 47 true := ⟨by kernel_rfl⟩
instance : FO Try.prog 47 0 0 := ⟨fun _ => by kernel_rfl⟩
instance : FD Try.prog 47 0 27 0 := ⟨fun _ => by rfl⟩
instance : FO Try.prog 47 1 3 := ⟨fun _ => by kernel_rfl⟩
instance : FD Try.prog 47 1 44 3 := ⟨fun _ => by rfl⟩
instance : BD Try.prog 47 #[.int .i64 0, .int .i64 0, .int .i64 0, .slice none 0 0] [(0, 3), (3, 1)] := ⟨_, _, (by kernel_rfl : _ = some (.agg #[.int .i64 0, .int .i64 0, .int .i64 0, .slice none 0 0])), rfl, Try.und47, by kernel_rfl⟩
instance : ZV Try.prog 47 (.agg #[.int .i64 0, .int .i64 0, .int .i64 0, .slice none 0 0]) := ⟨by kernel_rfl⟩
instance : SZ Try.prog 48 4 := ⟨by kernel_rfl⟩
instance : AG Try.prog 48 true := ⟨by kernel_rfl⟩
instance : FO Try.prog 48 0 0 := ⟨fun _ => by kernel_rfl⟩
instance : FD Try.prog 48 0 27 0 := ⟨fun _ => by rfl⟩
instance : FO Try.prog 48 1 3 := ⟨fun _ => by kernel_rfl⟩
instance : FD Try.prog 48 1 44 3 := ⟨fun _ => by rfl⟩
instance : BD Try.prog 48 #[.int .i64 0, .int .i64 0, .int .i64 0, .slice none 0 0] [(0, 3), (3, 1)] := ⟨_, _, (by kernel_rfl : _ = some (.agg #[.int .i64 0, .int .i64 0, .int .i64 0, .slice none 0 0])), rfl, Try.und47, by kernel_rfl⟩
instance : SZ Try.prog 52 1 := ⟨by kernel_rfl⟩
instance : AG Try.prog 52 false := ⟨by kernel_rfl⟩
instance : ZV Try.prog 52 (.slice none 0 0) := ⟨by kernel_rfl⟩
instance : SL Try.prog 52 27 3 24 := ⟨_, .agg #[.int .i64 0, .int .i64 0, .int .i64 0], by kernel_rfl, by kernel_rfl, Try.ti27, by kernel_rfl, by decide, by kernel_rfl, by rfl, by decide⟩
instance : SC Try.prog 52 27 := ⟨by kernel_rfl⟩
instance : SZ Try.prog 58 1 := ⟨by kernel_rfl⟩
instance : AG Try.prog 58 false := ⟨by kernel_rfl⟩
instance : ZV Try.prog 58 (.slice none 0 0) := ⟨by kernel_rfl⟩
instance : ZV Try.prog 67 (.agg #[.int .i64 0, .int .i64 0, .int .i64 0, .int .i64 0]) := ⟨by kernel_rfl⟩
instance : SL Try.prog 58 67 4 32 := ⟨_, .agg #[.int .i64 0, .int .i64 0, .int .i64 0, .int .i64 0], by kernel_rfl, by kernel_rfl, Try.ti67, by kernel_rfl, by decide, by kernel_rfl, by rfl, by decide⟩
instance : SC Try.prog 58 67 := ⟨by kernel_rfl⟩
instance : SZ Try.prog 59 3 := ⟨by kernel_rfl⟩
instance : AG Try.prog 59 true := ⟨by kernel_rfl⟩
instance : FO Try.prog 59 0 0 := ⟨fun _ => by kernel_rfl⟩
instance : FD Try.prog 59 0 3 0 := ⟨fun _ => by rfl⟩
instance : FO Try.prog 59 1 1 := ⟨fun _ => by kernel_rfl⟩
instance : FD Try.prog 59 1 22 1 := ⟨fun _ => by rfl⟩
instance : FO Try.prog 59 2 2 := ⟨fun _ => by kernel_rfl⟩
instance : FD Try.prog 59 2 58 2 := ⟨fun _ => by rfl⟩
instance : BD Try.prog 59 #[.int .i64 0, .slice none 0 0, .slice none 0 0] [(0, 1), (1, 1), (2, 1)] := ⟨_, _, (by kernel_rfl : _ = some (.agg #[.int .i64 0, .slice none 0 0, .slice none 0 0])), rfl, Try.und59, by kernel_rfl⟩
instance : ZV Try.prog 59 (.agg #[.int .i64 0, .slice none 0 0, .slice none 0 0]) := ⟨by kernel_rfl⟩
instance : SZ Try.prog 60 3 := ⟨by kernel_rfl⟩
instance : AG Try.prog 60 true := ⟨by kernel_rfl⟩
instance : FO Try.prog 60 0 0 := ⟨fun _ => by kernel_rfl⟩
instance : FD Try.prog 60 0 3 0 := ⟨fun _ => by rfl⟩
instance : FO Try.prog 60 1 1 := ⟨fun _ => by kernel_rfl⟩
instance : FD Try.prog 60 1 22 1 := ⟨fun _ => by rfl⟩
instance : FO Try.prog 60 2 2 := ⟨fun _ => by kernel_rfl⟩
instance : FD Try.prog 60 2 58 2 := ⟨fun _ => by rfl⟩
instance : BD Try.prog 60 #[.int .i64 0, .slice none 0 0, .slice none 0 0] [(0, 1), (1, 1), (2, 1)] := ⟨_, _, (by kernel_rfl : _ = some (.agg #[.int .i64 0, .slice none 0 0, .slice none 0 0])), rfl, Try.und59, by kernel_rfl⟩
instance : ZV Try.prog 60 (.agg #[.int .i64 0, .slice none 0 0, .slice none 0 0]) := ⟨by kernel_rfl⟩
instance : SZ Try.prog 66 4 := ⟨by kernel_rfl⟩
instance : AG Try.prog 66 true := ⟨by kernel_rfl⟩
instance : FO Try.prog 66 0 0 := ⟨fun _ => by kernel_rfl⟩
instance : FD Try.prog 66 0 27 0 := ⟨fun _ => by rfl⟩
instance : FO Try.prog 66 1 3 := ⟨fun _ => by kernel_rfl⟩
instance : FD Try.prog 66 1 3 3 := ⟨fun _ => by rfl⟩
instance : BD Try.prog 66 #[.int .i64 0, .int .i64 0, .int .i64 0, .int .i64 0] [(0, 3), (3, 1)] := ⟨_, _, (by kernel_rfl : _ = some (.agg #[.int .i64 0, .int .i64 0, .int .i64 0, .int .i64 0])), rfl, Try.und66, by kernel_rfl⟩
instance : ZV Try.prog 66 (.agg #[.int .i64 0, .int .i64 0, .int .i64 0, .int .i64 0]) := ⟨by kernel_rfl⟩
instance : SZ Try.prog 67 4 := ⟨by kernel_rfl⟩
instance : AG Try.prog 67 true := ⟨by kernel_rfl⟩
instance : FO Try.prog 67 0 0 := ⟨fun _ => by kernel_rfl⟩
instance : FD Try.prog 67 0 27 0 := ⟨fun _ => by rfl⟩
instance : FO Try.prog 67 1 3 := ⟨fun _ => by kernel_rfl⟩
instance : FD Try.prog 67 1 3 3 := ⟨fun _ => by rfl⟩
instance : BD Try.prog 67 #[.int .i64 0, .int .i64 0, .int .i64 0, .int .i64 0] [(0, 3), (3, 1)] := ⟨_, _, (by kernel_rfl : _ = some (.agg #[.int .i64 0, .int .i64 0, .int .i64 0, .int .i64 0])), rfl, Try.und66, by kernel_rfl⟩
instance : SZ Try.prog 68 1 := ⟨by kernel_rfl⟩
instance : AG Try.prog 68 false := ⟨by kernel_rfl⟩
instance : ZV Try.prog 68 (.slice none 0 0) := ⟨by kernel_rfl⟩
instance : ZV Try.prog 72 (.agg #[.int .i64 0, .int .i64 0]) := ⟨by kernel_rfl⟩
instance : SL Try.prog 68 72 2 16 := ⟨_, .agg #[.int .i64 0, .int .i64 0], by kernel_rfl, by kernel_rfl, Try.ti72, by kernel_rfl, by decide, by kernel_rfl, by rfl, by decide⟩
instance : SC Try.prog 68 72 := ⟨by kernel_rfl⟩
instance : SZ Try.prog 72 2 := ⟨by kernel_rfl⟩
instance : AG Try.prog 72 true := ⟨by kernel_rfl⟩
instance : AR Try.prog 72 2 3 := ⟨by kernel_rfl⟩
instance : SZ Try.prog 78 4 := ⟨by kernel_rfl⟩
instance : AG Try.prog 78 true := ⟨by kernel_rfl⟩
instance : FO Try.prog 78 0 0 := ⟨fun _ => by kernel_rfl⟩
instance : FD Try.prog 78 0 9 0 := ⟨fun _ => by rfl⟩
instance : FO Try.prog 78 1 1 := ⟨fun _ => by kernel_rfl⟩
instance : FD Try.prog 78 1 4 1 := ⟨fun _ => by rfl⟩
instance : FO Try.prog 78 2 2 := ⟨fun _ => by kernel_rfl⟩
instance : FD Try.prog 78 2 3 2 := ⟨fun _ => by rfl⟩
instance : FO Try.prog 78 3 3 := ⟨fun _ => by kernel_rfl⟩
instance : FD Try.prog 78 3 3 3 := ⟨fun _ => by rfl⟩
instance : BD Try.prog 78 #[.string ByteArray.empty, .bool false, .int .i64 0, .int .i64 0] [(0, 1), (1, 1), (2, 1), (3, 1)] := ⟨_, _, (by kernel_rfl : _ = some (.agg #[.string ByteArray.empty, .bool false, .int .i64 0, .int .i64 0])), rfl, Try.und78, by kernel_rfl⟩
instance : ZV Try.prog 78 (.agg #[.string ByteArray.empty, .bool false, .int .i64 0, .int .i64 0]) := ⟨by kernel_rfl⟩
instance : SZ Try.prog 79 4 := ⟨by kernel_rfl⟩
instance : AG Try.prog 79 true := ⟨by kernel_rfl⟩
instance : FO Try.prog 79 0 0 := ⟨fun _ => by kernel_rfl⟩
instance : FD Try.prog 79 0 9 0 := ⟨fun _ => by rfl⟩
instance : FO Try.prog 79 1 1 := ⟨fun _ => by kernel_rfl⟩
instance : FD Try.prog 79 1 4 1 := ⟨fun _ => by rfl⟩
instance : FO Try.prog 79 2 2 := ⟨fun _ => by kernel_rfl⟩
instance : FD Try.prog 79 2 3 2 := ⟨fun _ => by rfl⟩
instance : FO Try.prog 79 3 3 := ⟨fun _ => by kernel_rfl⟩
instance : FD Try.prog 79 3 3 3 := ⟨fun _ => by rfl⟩
instance : BD Try.prog 79 #[.string ByteArray.empty, .bool false, .int .i64 0, .int .i64 0] [(0, 1), (1, 1), (2, 1), (3, 1)] := ⟨_, _, (by kernel_rfl : _ = some (.agg #[.string ByteArray.empty, .bool false, .int .i64 0, .int .i64 0])), rfl, Try.und78, by kernel_rfl⟩
instance : ZV Try.prog 79 (.agg #[.string ByteArray.empty, .bool false, .int .i64 0, .int .i64 0]) := ⟨by kernel_rfl⟩
instance : SZ Try.prog 80 32 := ⟨by kernel_rfl⟩
instance : AG Try.prog 80 true := ⟨by kernel_rfl⟩
instance : ZV Try.prog 80 (.agg #[.string ByteArray.empty, .bool false, .int .i64 0, .int .i64 0, .string ByteArray.empty, .bool false, .int .i64 0, .int .i64 0, .string ByteArray.empty, .bool false, .int .i64 0, .int .i64 0, .string ByteArray.empty, .bool false, .int .i64 0, .int .i64 0, .string ByteArray.empty, .bool false, .int .i64 0, .int .i64 0, .string ByteArray.empty, .bool false, .int .i64 0, .int .i64 0, .string ByteArray.empty, .bool false, .int .i64 0, .int .i64 0, .string ByteArray.empty, .bool false, .int .i64 0, .int .i64 0]) := ⟨by kernel_rfl⟩
instance : AR Try.prog 80 8 79 := ⟨by kernel_rfl⟩
instance : SZ Try.prog 81 35 := ⟨by kernel_rfl⟩
instance : AG Try.prog 81 true := ⟨by kernel_rfl⟩
instance : FO Try.prog 81 0 0 := ⟨fun _ => by kernel_rfl⟩
instance : FD Try.prog 81 0 3 0 := ⟨fun _ => by rfl⟩
instance : FO Try.prog 81 1 1 := ⟨fun _ => by kernel_rfl⟩
instance : FD Try.prog 81 1 3 1 := ⟨fun _ => by rfl⟩
instance : FO Try.prog 81 2 2 := ⟨fun _ => by kernel_rfl⟩
instance : FD Try.prog 81 2 3 2 := ⟨fun _ => by rfl⟩
instance : FO Try.prog 81 3 3 := ⟨fun _ => by kernel_rfl⟩
instance : FD Try.prog 81 3 80 3 := ⟨fun _ => by rfl⟩
instance : BD Try.prog 81 #[.int .i64 0, .int .i64 0, .int .i64 0, .string ByteArray.empty, .bool false, .int .i64 0, .int .i64 0, .string ByteArray.empty, .bool false, .int .i64 0, .int .i64 0, .string ByteArray.empty, .bool false, .int .i64 0, .int .i64 0, .string ByteArray.empty, .bool false, .int .i64 0, .int .i64 0, .string ByteArray.empty, .bool false, .int .i64 0, .int .i64 0, .string ByteArray.empty, .bool false, .int .i64 0, .int .i64 0, .string ByteArray.empty, .bool false, .int .i64 0, .int .i64 0, .string ByteArray.empty, .bool false, .int .i64 0, .int .i64 0] [(0, 1), (1, 1), (2, 1), (3, 32)] := ⟨_, _, (by kernel_rfl : _ = some (.agg #[.int .i64 0, .int .i64 0, .int .i64 0, .string ByteArray.empty, .bool false, .int .i64 0, .int .i64 0, .string ByteArray.empty, .bool false, .int .i64 0, .int .i64 0, .string ByteArray.empty, .bool false, .int .i64 0, .int .i64 0, .string ByteArray.empty, .bool false, .int .i64 0, .int .i64 0, .string ByteArray.empty, .bool false, .int .i64 0, .int .i64 0, .string ByteArray.empty, .bool false, .int .i64 0, .int .i64 0, .string ByteArray.empty, .bool false, .int .i64 0, .int .i64 0, .string ByteArray.empty, .bool false, .int .i64 0, .int .i64 0])), rfl, Try.und81, by kernel_rfl⟩
instance : ZV Try.prog 81 (.agg #[.int .i64 0, .int .i64 0, .int .i64 0, .string ByteArray.empty, .bool false, .int .i64 0, .int .i64 0, .string ByteArray.empty, .bool false, .int .i64 0, .int .i64 0, .string ByteArray.empty, .bool false, .int .i64 0, .int .i64 0, .string ByteArray.empty, .bool false, .int .i64 0, .int .i64 0, .string ByteArray.empty, .bool false, .int .i64 0, .int .i64 0, .string ByteArray.empty, .bool false, .int .i64 0, .int .i64 0, .string ByteArray.empty, .bool false, .int .i64 0, .int .i64 0, .string ByteArray.empty, .bool false, .int .i64 0, .int .i64 0]) := ⟨by kernel_rfl⟩
instance : SZ Try.prog 82 35 := ⟨by kernel_rfl⟩
instance : AG Try.prog 82 true := ⟨by kernel_rfl⟩
instance : FO Try.prog 82 0 0 := ⟨fun _ => by kernel_rfl⟩
instance : FD Try.prog 82 0 3 0 := ⟨fun _ => by rfl⟩
instance : FO Try.prog 82 1 1 := ⟨fun _ => by kernel_rfl⟩
instance : FD Try.prog 82 1 3 1 := ⟨fun _ => by rfl⟩
instance : FO Try.prog 82 2 2 := ⟨fun _ => by kernel_rfl⟩
instance : FD Try.prog 82 2 3 2 := ⟨fun _ => by rfl⟩
instance : FO Try.prog 82 3 3 := ⟨fun _ => by kernel_rfl⟩
instance : FD Try.prog 82 3 80 3 := ⟨fun _ => by rfl⟩
instance : BD Try.prog 82 #[.int .i64 0, .int .i64 0, .int .i64 0, .string ByteArray.empty, .bool false, .int .i64 0, .int .i64 0, .string ByteArray.empty, .bool false, .int .i64 0, .int .i64 0, .string ByteArray.empty, .bool false, .int .i64 0, .int .i64 0, .string ByteArray.empty, .bool false, .int .i64 0, .int .i64 0, .string ByteArray.empty, .bool false, .int .i64 0, .int .i64 0, .string ByteArray.empty, .bool false, .int .i64 0, .int .i64 0, .string ByteArray.empty, .bool false, .int .i64 0, .int .i64 0, .string ByteArray.empty, .bool false, .int .i64 0, .int .i64 0] [(0, 1), (1, 1), (2, 1), (3, 32)] := ⟨_, _, (by kernel_rfl : _ = some (.agg #[.int .i64 0, .int .i64 0, .int .i64 0, .string ByteArray.empty, .bool false, .int .i64 0, .int .i64 0, .string ByteArray.empty, .bool false, .int .i64 0, .int .i64 0, .string ByteArray.empty, .bool false, .int .i64 0, .int .i64 0, .string ByteArray.empty, .bool false, .int .i64 0, .int .i64 0, .string ByteArray.empty, .bool false, .int .i64 0, .int .i64 0, .string ByteArray.empty, .bool false, .int .i64 0, .int .i64 0, .string ByteArray.empty, .bool false, .int .i64 0, .int .i64 0, .string ByteArray.empty, .bool false, .int .i64 0, .int .i64 0])), rfl, Try.und81, by kernel_rfl⟩
instance : ZV Try.prog 82 (.agg #[.int .i64 0, .int .i64 0, .int .i64 0, .string ByteArray.empty, .bool false, .int .i64 0, .int .i64 0, .string ByteArray.empty, .bool false, .int .i64 0, .int .i64 0, .string ByteArray.empty, .bool false, .int .i64 0, .int .i64 0, .string ByteArray.empty, .bool false, .int .i64 0, .int .i64 0, .string ByteArray.empty, .bool false, .int .i64 0, .int .i64 0, .string ByteArray.empty, .bool false, .int .i64 0, .int .i64 0, .string ByteArray.empty, .bool false, .int .i64 0, .int .i64 0, .string ByteArray.empty, .bool false, .int .i64 0, .int .i64 0]) := ⟨by kernel_rfl⟩
instance : SZ Try.prog 86 1 := ⟨by kernel_rfl⟩
instance : AG Try.prog 86 false := ⟨by kernel_rfl⟩
instance : ZV Try.prog 86 (.slice none 0 0) := ⟨by kernel_rfl⟩
instance : SL Try.prog 86 44 1 24 := ⟨_, .slice none 0 0, by kernel_rfl, by kernel_rfl, Try.ti44, by kernel_rfl, by decide, by kernel_rfl, by rfl, by decide⟩
instance : SC Try.prog 86 44 := ⟨by kernel_rfl⟩
instance : SZ Try.prog 87 1 := ⟨by kernel_rfl⟩
instance : AG Try.prog 87 false := ⟨by kernel_rfl⟩
instance : ZV Try.prog 87 (.slice none 0 0) := ⟨by kernel_rfl⟩
instance : SL Try.prog 87 4 1 1 := ⟨_, .bool false, by kernel_rfl, by kernel_rfl, Try.ti4, by kernel_rfl, by decide, by kernel_rfl, by rfl, by decide⟩
instance : SC Try.prog 87 4 := ⟨by kernel_rfl⟩
instance : SZ Try.prog 94 1 := ⟨by kernel_rfl⟩
instance : AG Try.prog 94 false := ⟨by kernel_rfl⟩
instance : ZV Try.prog 94 (.slice none 0 0) := ⟨by kernel_rfl⟩
instance : SL Try.prog 94 60 3 56 := ⟨_, .agg #[.int .i64 0, .slice none 0 0, .slice none 0 0], by kernel_rfl, by kernel_rfl, Try.ti60, by kernel_rfl, by decide, by kernel_rfl, by rfl, by decide⟩
instance : SC Try.prog 94 60 := ⟨by kernel_rfl⟩
instance : SZ Try.prog 98 1 := ⟨by kernel_rfl⟩
instance : AG Try.prog 98 false := ⟨by kernel_rfl⟩
instance : ZV Try.prog 98 (.pointer none) := ⟨by kernel_rfl⟩
instance : SZ Try.prog 99 2 := ⟨by kernel_rfl⟩
instance : AG Try.prog 99 true := ⟨by kernel_rfl⟩
instance : FO Try.prog 99 0 0 := ⟨fun _ => by kernel_rfl⟩
instance : FD Try.prog 99 0 31 0 := ⟨fun _ => by rfl⟩
instance : FO Try.prog 99 1 1 := ⟨fun _ => by kernel_rfl⟩
instance : FD Try.prog 99 1 23 1 := ⟨fun _ => by rfl⟩
instance : BD Try.prog 99 #[.pointer none, .slice none 0 0] [(0, 1), (1, 1)] := ⟨_, _, (by kernel_rfl : _ = some (.agg #[.pointer none, .slice none 0 0])), rfl, Try.und99, by kernel_rfl⟩
instance : ZV Try.prog 99 (.agg #[.pointer none, .slice none 0 0]) := ⟨by kernel_rfl⟩
instance : SZ Try.prog 100 2 := ⟨by kernel_rfl⟩
instance : AG Try.prog 100 true := ⟨by kernel_rfl⟩
instance : FO Try.prog 100 0 0 := ⟨fun _ => by kernel_rfl⟩
instance : FD Try.prog 100 0 31 0 := ⟨fun _ => by rfl⟩
instance : FO Try.prog 100 1 1 := ⟨fun _ => by kernel_rfl⟩
instance : FD Try.prog 100 1 23 1 := ⟨fun _ => by rfl⟩
instance : BD Try.prog 100 #[.pointer none, .slice none 0 0] [(0, 1), (1, 1)] := ⟨_, _, (by kernel_rfl : _ = some (.agg #[.pointer none, .slice none 0 0])), rfl, Try.und99, by kernel_rfl⟩
instance : ZV Try.prog 100 (.agg #[.pointer none, .slice none 0 0]) := ⟨by kernel_rfl⟩
instance : SZ Try.prog 105 5 := ⟨by kernel_rfl⟩
instance : AG Try.prog 105 true := ⟨by kernel_rfl⟩
instance : FO Try.prog 105 0 0 := ⟨fun _ => by kernel_rfl⟩
instance : FD Try.prog 105 0 3 0 := ⟨fun _ => by rfl⟩
instance : FO Try.prog 105 1 1 := ⟨fun _ => by kernel_rfl⟩
instance : FD Try.prog 105 1 60 1 := ⟨fun _ => by rfl⟩
instance : FO Try.prog 105 2 4 := ⟨fun _ => by kernel_rfl⟩
instance : FD Try.prog 105 2 44 4 := ⟨fun _ => by rfl⟩
instance : BD Try.prog 105 #[.int .i64 0, .int .i64 0, .slice none 0 0, .slice none 0 0, .slice none 0 0] [(0, 1), (1, 3), (4, 1)] := ⟨_, _, (by kernel_rfl : _ = some (.agg #[.int .i64 0, .int .i64 0, .slice none 0 0, .slice none 0 0, .slice none 0 0])), rfl, Try.und105, by kernel_rfl⟩
instance : ZV Try.prog 105 (.agg #[.int .i64 0, .int .i64 0, .slice none 0 0, .slice none 0 0, .slice none 0 0]) := ⟨by kernel_rfl⟩
instance : SZ Try.prog 106 5 := ⟨by kernel_rfl⟩
instance : AG Try.prog 106 true := ⟨by kernel_rfl⟩
instance : FO Try.prog 106 0 0 := ⟨fun _ => by kernel_rfl⟩
instance : FD Try.prog 106 0 3 0 := ⟨fun _ => by rfl⟩
instance : FO Try.prog 106 1 1 := ⟨fun _ => by kernel_rfl⟩
instance : FD Try.prog 106 1 60 1 := ⟨fun _ => by rfl⟩
instance : FO Try.prog 106 2 4 := ⟨fun _ => by kernel_rfl⟩
instance : FD Try.prog 106 2 44 4 := ⟨fun _ => by rfl⟩
instance : BD Try.prog 106 #[.int .i64 0, .int .i64 0, .slice none 0 0, .slice none 0 0, .slice none 0 0] [(0, 1), (1, 3), (4, 1)] := ⟨_, _, (by kernel_rfl : _ = some (.agg #[.int .i64 0, .int .i64 0, .slice none 0 0, .slice none 0 0, .slice none 0 0])), rfl, Try.und105, by kernel_rfl⟩
instance : ZV Try.prog 106 (.agg #[.int .i64 0, .int .i64 0, .slice none 0 0, .slice none 0 0, .slice none 0 0]) := ⟨by kernel_rfl⟩
instance : SZ Try.prog 108 1 := ⟨by kernel_rfl⟩
instance : AG Try.prog 108 false := ⟨by kernel_rfl⟩
instance : ZV Try.prog 108 (.pointer none) := ⟨by kernel_rfl⟩
instance : SZ Try.prog 109 1 := ⟨by kernel_rfl⟩
instance : AG Try.prog 109 false := ⟨by kernel_rfl⟩
instance : ZV Try.prog 109 (.map none) := ⟨by kernel_rfl⟩
instance : MTY Try.prog 109 106 := ⟨3, by kernel_rfl, by kernel_rfl⟩
instance : SZ Try.prog 110 38 := ⟨by kernel_rfl⟩
instance : AG Try.prog 110 true := ⟨by kernel_rfl⟩
instance : FO Try.prog 110 0 0 := ⟨fun _ => by kernel_rfl⟩
instance : FD Try.prog 110 0 32 0 := ⟨fun _ => by rfl⟩
instance : FO Try.prog 110 1 1 := ⟨fun _ => by kernel_rfl⟩
instance : FD Try.prog 110 1 82 1 := ⟨fun _ => by rfl⟩
instance : FO Try.prog 110 2 36 := ⟨fun _ => by kernel_rfl⟩
instance : FD Try.prog 110 2 108 36 := ⟨fun _ => by rfl⟩
instance : FO Try.prog 110 3 37 := ⟨fun _ => by kernel_rfl⟩
instance : FD Try.prog 110 3 109 37 := ⟨fun _ => by rfl⟩
instance : BD Try.prog 110 #[.pointer none, .int .i64 0, .int .i64 0, .int .i64 0, .string ByteArray.empty, .bool false, .int .i64 0, .int .i64 0, .string ByteArray.empty, .bool false, .int .i64 0, .int .i64 0, .string ByteArray.empty, .bool false, .int .i64 0, .int .i64 0, .string ByteArray.empty, .bool false, .int .i64 0, .int .i64 0, .string ByteArray.empty, .bool false, .int .i64 0, .int .i64 0, .string ByteArray.empty, .bool false, .int .i64 0, .int .i64 0, .string ByteArray.empty, .bool false, .int .i64 0, .int .i64 0, .string ByteArray.empty, .bool false, .int .i64 0, .int .i64 0, .pointer none, .map none] [(0, 1), (1, 35), (36, 1), (37, 1)] := ⟨_, _, (by kernel_rfl : _ = some (.agg #[.pointer none, .int .i64 0, .int .i64 0, .int .i64 0, .string ByteArray.empty, .bool false, .int .i64 0, .int .i64 0, .string ByteArray.empty, .bool false, .int .i64 0, .int .i64 0, .string ByteArray.empty, .bool false, .int .i64 0, .int .i64 0, .string ByteArray.empty, .bool false, .int .i64 0, .int .i64 0, .string ByteArray.empty, .bool false, .int .i64 0, .int .i64 0, .string ByteArray.empty, .bool false, .int .i64 0, .int .i64 0, .string ByteArray.empty, .bool false, .int .i64 0, .int .i64 0, .string ByteArray.empty, .bool false, .int .i64 0, .int .i64 0, .pointer none, .map none])), rfl, Try.und110, by kernel_rfl⟩
instance : ZV Try.prog 110 (.agg #[.pointer none, .int .i64 0, .int .i64 0, .int .i64 0, .string ByteArray.empty, .bool false, .int .i64 0, .int .i64 0, .string ByteArray.empty, .bool false, .int .i64 0, .int .i64 0, .string ByteArray.empty, .bool false, .int .i64 0, .int .i64 0, .string ByteArray.empty, .bool false, .int .i64 0, .int .i64 0, .string ByteArray.empty, .bool false, .int .i64 0, .int .i64 0, .string ByteArray.empty, .bool false, .int .i64 0, .int .i64 0, .string ByteArray.empty, .bool false, .int .i64 0, .int .i64 0, .string ByteArray.empty, .bool false, .int .i64 0, .int .i64 0, .pointer none, .map none]) := ⟨by kernel_rfl⟩
instance : SZ Try.prog 111 38 := ⟨by kernel_rfl⟩
instance : AG Try.prog 111 true := ⟨by kernel_rfl⟩
instance : FO Try.prog 111 0 0 := ⟨fun _ => by kernel_rfl⟩
instance : FD Try.prog 111 0 32 0 := ⟨fun _ => by rfl⟩
instance : FO Try.prog 111 1 1 := ⟨fun _ => by kernel_rfl⟩
instance : FD Try.prog 111 1 82 1 := ⟨fun _ => by rfl⟩
instance : FO Try.prog 111 2 36 := ⟨fun _ => by kernel_rfl⟩
instance : FD Try.prog 111 2 108 36 := ⟨fun _ => by rfl⟩
instance : FO Try.prog 111 3 37 := ⟨fun _ => by kernel_rfl⟩
instance : FD Try.prog 111 3 109 37 := ⟨fun _ => by rfl⟩
instance : BD Try.prog 111 #[.pointer none, .int .i64 0, .int .i64 0, .int .i64 0, .string ByteArray.empty, .bool false, .int .i64 0, .int .i64 0, .string ByteArray.empty, .bool false, .int .i64 0, .int .i64 0, .string ByteArray.empty, .bool false, .int .i64 0, .int .i64 0, .string ByteArray.empty, .bool false, .int .i64 0, .int .i64 0, .string ByteArray.empty, .bool false, .int .i64 0, .int .i64 0, .string ByteArray.empty, .bool false, .int .i64 0, .int .i64 0, .string ByteArray.empty, .bool false, .int .i64 0, .int .i64 0, .string ByteArray.empty, .bool false, .int .i64 0, .int .i64 0, .pointer none, .map none] [(0, 1), (1, 35), (36, 1), (37, 1)] := ⟨_, _, (by kernel_rfl : _ = some (.agg #[.pointer none, .int .i64 0, .int .i64 0, .int .i64 0, .string ByteArray.empty, .bool false, .int .i64 0, .int .i64 0, .string ByteArray.empty, .bool false, .int .i64 0, .int .i64 0, .string ByteArray.empty, .bool false, .int .i64 0, .int .i64 0, .string ByteArray.empty, .bool false, .int .i64 0, .int .i64 0, .string ByteArray.empty, .bool false, .int .i64 0, .int .i64 0, .string ByteArray.empty, .bool false, .int .i64 0, .int .i64 0, .string ByteArray.empty, .bool false, .int .i64 0, .int .i64 0, .string ByteArray.empty, .bool false, .int .i64 0, .int .i64 0, .pointer none, .map none])), rfl, Try.und110, by kernel_rfl⟩
instance : ZV Try.prog 111 (.agg #[.pointer none, .int .i64 0, .int .i64 0, .int .i64 0, .string ByteArray.empty, .bool false, .int .i64 0, .int .i64 0, .string ByteArray.empty, .bool false, .int .i64 0, .int .i64 0, .string ByteArray.empty, .bool false, .int .i64 0, .int .i64 0, .string ByteArray.empty, .bool false, .int .i64 0, .int .i64 0, .string ByteArray.empty, .bool false, .int .i64 0, .int .i64 0, .string ByteArray.empty, .bool false, .int .i64 0, .int .i64 0, .string ByteArray.empty, .bool false, .int .i64 0, .int .i64 0, .string ByteArray.empty, .bool false, .int .i64 0, .int .i64 0, .pointer none, .map none]) := ⟨by kernel_rfl⟩
instance : SZ Try.prog 117 1 := ⟨by kernel_rfl⟩
instance : AG Try.prog 117 false := ⟨by kernel_rfl⟩
instance : ZV Try.prog 117 (.slice none 0 0) := ⟨by kernel_rfl⟩
instance : SL Try.prog 117 123 256 256 := ⟨_, .agg (List.replicate 256 (.int .u8 0)).toArray, by kernel_rfl, by kernel_rfl, Try.ti123, by kernel_rfl, by decide, by kernel_rfl, by kernel_rfl, by decide⟩
instance : SC Try.prog 117 123 := ⟨by kernel_rfl⟩
instance : SZ Try.prog 118 1 := ⟨by kernel_rfl⟩
instance : AG Try.prog 118 false := ⟨by kernel_rfl⟩
instance : ZV Try.prog 118 (.map none) := ⟨by kernel_rfl⟩
instance : MTY Try.prog 118 117 := ⟨3, by kernel_rfl, by kernel_rfl⟩
instance : SZ Try.prog 119 5 := ⟨by kernel_rfl⟩
instance : AG Try.prog 119 true := ⟨by kernel_rfl⟩
instance : FO Try.prog 119 0 0 := ⟨fun _ => by kernel_rfl⟩
instance : FD Try.prog 119 0 117 0 := ⟨fun _ => by rfl⟩
instance : FO Try.prog 119 1 1 := ⟨fun _ => by kernel_rfl⟩
instance : FD Try.prog 119 1 118 1 := ⟨fun _ => by rfl⟩
instance : FO Try.prog 119 2 2 := ⟨fun _ => by kernel_rfl⟩
instance : FD Try.prog 119 2 4 2 := ⟨fun _ => by rfl⟩
instance : FO Try.prog 119 3 3 := ⟨fun _ => by kernel_rfl⟩
instance : FD Try.prog 119 3 3 3 := ⟨fun _ => by rfl⟩
instance : FO Try.prog 119 4 4 := ⟨fun _ => by kernel_rfl⟩
instance : FD Try.prog 119 4 3 4 := ⟨fun _ => by rfl⟩
instance : BD Try.prog 119 #[.slice none 0 0, .map none, .bool false, .int .i64 0, .int .i64 0] [(0, 1), (1, 1), (2, 1), (3, 1), (4, 1)] := ⟨_, _, (by kernel_rfl : _ = some (.agg #[.slice none 0 0, .map none, .bool false, .int .i64 0, .int .i64 0])), rfl, Try.und119, by kernel_rfl⟩
instance : ZV Try.prog 119 (.agg #[.slice none 0 0, .map none, .bool false, .int .i64 0, .int .i64 0]) := ⟨by kernel_rfl⟩
instance : SZ Try.prog 120 5 := ⟨by kernel_rfl⟩
instance : AG Try.prog 120 true := ⟨by kernel_rfl⟩
instance : FO Try.prog 120 0 0 := ⟨fun _ => by kernel_rfl⟩
instance : FD Try.prog 120 0 117 0 := ⟨fun _ => by rfl⟩
instance : FO Try.prog 120 1 1 := ⟨fun _ => by kernel_rfl⟩
instance : FD Try.prog 120 1 118 1 := ⟨fun _ => by rfl⟩
instance : FO Try.prog 120 2 2 := ⟨fun _ => by kernel_rfl⟩
instance : FD Try.prog 120 2 4 2 := ⟨fun _ => by rfl⟩
instance : FO Try.prog 120 3 3 := ⟨fun _ => by kernel_rfl⟩
instance : FD Try.prog 120 3 3 3 := ⟨fun _ => by rfl⟩
instance : FO Try.prog 120 4 4 := ⟨fun _ => by kernel_rfl⟩
instance : FD Try.prog 120 4 3 4 := ⟨fun _ => by rfl⟩
instance : BD Try.prog 120 #[.slice none 0 0, .map none, .bool false, .int .i64 0, .int .i64 0] [(0, 1), (1, 1), (2, 1), (3, 1), (4, 1)] := ⟨_, _, (by kernel_rfl : _ = some (.agg #[.slice none 0 0, .map none, .bool false, .int .i64 0, .int .i64 0])), rfl, Try.und119, by kernel_rfl⟩
instance : ZV Try.prog 120 (.agg #[.slice none 0 0, .map none, .bool false, .int .i64 0, .int .i64 0]) := ⟨by kernel_rfl⟩
instance : SZ Try.prog 122 256 := ⟨by kernel_rfl⟩
instance : AG Try.prog 122 true := ⟨by kernel_rfl⟩
instance : ZV Try.prog 122 (.agg (List.replicate 256 (.int .u8 0)).toArray) := ⟨by kernel_rfl⟩
instance : AR Try.prog 122 256 5 := ⟨by kernel_rfl⟩
instance : SZ Try.prog 123 256 := ⟨by kernel_rfl⟩
instance : AG Try.prog 123 true := ⟨by kernel_rfl⟩
instance : ZV Try.prog 123 (.agg (List.replicate 256 (.int .u8 0)).toArray) := ⟨by kernel_rfl⟩
instance : AR Try.prog 123 256 5 := ⟨by kernel_rfl⟩
instance : SZ Try.prog 125 2 := ⟨by kernel_rfl⟩
instance : AG Try.prog 125 true := ⟨by kernel_rfl⟩
instance : FO Try.prog 125 0 0 := ⟨fun _ => by kernel_rfl⟩
instance : FD Try.prog 125 0 3 0 := ⟨fun _ => by rfl⟩
instance : FO Try.prog 125 1 1 := ⟨fun _ => by kernel_rfl⟩
instance : FD Try.prog 125 1 44 1 := ⟨fun _ => by rfl⟩
instance : BD Try.prog 125 #[.int .i64 0, .slice none 0 0] [(0, 1), (1, 1)] := ⟨_, _, (by kernel_rfl : _ = some (.agg #[.int .i64 0, .slice none 0 0])), rfl, Try.und125, by kernel_rfl⟩
instance : ZV Try.prog 125 (.agg #[.int .i64 0, .slice none 0 0]) := ⟨by kernel_rfl⟩
instance : SZ Try.prog 126 2 := ⟨by kernel_rfl⟩
instance : AG Try.prog 126 true := ⟨by kernel_rfl⟩
instance : FO Try.prog 126 0 0 := ⟨fun _ => by kernel_rfl⟩
instance : FD Try.prog 126 0 3 0 := ⟨fun _ => by rfl⟩
instance : FO Try.prog 126 1 1 := ⟨fun _ => by kernel_rfl⟩
instance : FD Try.prog 126 1 44 1 := ⟨fun _ => by rfl⟩
instance : BD Try.prog 126 #[.int .i64 0, .slice none 0 0] [(0, 1), (1, 1)] := ⟨_, _, (by kernel_rfl : _ = some (.agg #[.int .i64 0, .slice none 0 0])), rfl, Try.und125, by kernel_rfl⟩
instance : ZV Try.prog 126 (.agg #[.int .i64 0, .slice none 0 0]) := ⟨by kernel_rfl⟩
instance : SZ Try.prog 133 5 := ⟨by kernel_rfl⟩
instance : AG Try.prog 133 true := ⟨by kernel_rfl⟩
instance : FO Try.prog 133 0 0 := ⟨fun _ => by kernel_rfl⟩
instance : FD Try.prog 133 0 3 0 := ⟨fun _ => by rfl⟩
instance : FO Try.prog 133 1 1 := ⟨fun _ => by kernel_rfl⟩
instance : FD Try.prog 133 1 3 1 := ⟨fun _ => by rfl⟩
instance : FO Try.prog 133 2 2 := ⟨fun _ => by kernel_rfl⟩
instance : FD Try.prog 133 2 3 2 := ⟨fun _ => by rfl⟩
instance : FO Try.prog 133 3 3 := ⟨fun _ => by kernel_rfl⟩
instance : FD Try.prog 133 3 3 3 := ⟨fun _ => by rfl⟩
instance : FO Try.prog 133 4 4 := ⟨fun _ => by kernel_rfl⟩
instance : FD Try.prog 133 4 3 4 := ⟨fun _ => by rfl⟩
instance : BD Try.prog 133 #[.int .i64 0, .int .i64 0, .int .i64 0, .int .i64 0, .int .i64 0] [(0, 1), (1, 1), (2, 1), (3, 1), (4, 1)] := ⟨_, _, (by kernel_rfl : _ = some (.agg #[.int .i64 0, .int .i64 0, .int .i64 0, .int .i64 0, .int .i64 0])), rfl, Try.und133, by kernel_rfl⟩
instance : ZV Try.prog 133 (.agg #[.int .i64 0, .int .i64 0, .int .i64 0, .int .i64 0, .int .i64 0]) := ⟨by kernel_rfl⟩
instance : SZ Try.prog 134 5 := ⟨by kernel_rfl⟩
instance : AG Try.prog 134 true := ⟨by kernel_rfl⟩
instance : FO Try.prog 134 0 0 := ⟨fun _ => by kernel_rfl⟩
instance : FD Try.prog 134 0 3 0 := ⟨fun _ => by rfl⟩
instance : FO Try.prog 134 1 1 := ⟨fun _ => by kernel_rfl⟩
instance : FD Try.prog 134 1 3 1 := ⟨fun _ => by rfl⟩
instance : FO Try.prog 134 2 2 := ⟨fun _ => by kernel_rfl⟩
instance : FD Try.prog 134 2 3 2 := ⟨fun _ => by rfl⟩
instance : FO Try.prog 134 3 3 := ⟨fun _ => by kernel_rfl⟩
instance : FD Try.prog 134 3 3 3 := ⟨fun _ => by rfl⟩
instance : FO Try.prog 134 4 4 := ⟨fun _ => by kernel_rfl⟩
instance : FD Try.prog 134 4 3 4 := ⟨fun _ => by rfl⟩
instance : BD Try.prog 134 #[.int .i64 0, .int .i64 0, .int .i64 0, .int .i64 0, .int .i64 0] [(0, 1), (1, 1), (2, 1), (3, 1), (4, 1)] := ⟨_, _, (by kernel_rfl : _ = some (.agg #[.int .i64 0, .int .i64 0, .int .i64 0, .int .i64 0, .int .i64 0])), rfl, Try.und133, by kernel_rfl⟩
instance : ZV Try.prog 134 (.agg #[.int .i64 0, .int .i64 0, .int .i64 0, .int .i64 0, .int .i64 0]) := ⟨by kernel_rfl⟩
instance : SZ Try.prog 165 1 := ⟨by kernel_rfl⟩
instance : AG Try.prog 165 false := ⟨by kernel_rfl⟩
instance : ZV Try.prog 165 (.slice none 0 0) := ⟨by kernel_rfl⟩
instance : SL Try.prog 165 126 2 32 := ⟨_, .agg #[.int .i64 0, .slice none 0 0], by kernel_rfl, by kernel_rfl, Try.ti126, by kernel_rfl, by decide, by kernel_rfl, by rfl, by decide⟩
instance : SC Try.prog 165 126 := ⟨by kernel_rfl⟩
instance : SZ Try.prog 166 4 := ⟨by kernel_rfl⟩
instance : AG Try.prog 166 true := ⟨by kernel_rfl⟩
instance : FO Try.prog 166 0 0 := ⟨fun _ => by kernel_rfl⟩
instance : FD Try.prog 166 0 23 0 := ⟨fun _ => by rfl⟩
instance : FO Try.prog 166 1 1 := ⟨fun _ => by kernel_rfl⟩
instance : FD Try.prog 166 1 23 1 := ⟨fun _ => by rfl⟩
instance : FO Try.prog 166 2 2 := ⟨fun _ => by kernel_rfl⟩
instance : FD Try.prog 166 2 3 2 := ⟨fun _ => by rfl⟩
instance : FO Try.prog 166 3 3 := ⟨fun _ => by kernel_rfl⟩
instance : FD Try.prog 166 3 3 3 := ⟨fun _ => by rfl⟩
instance : BD Try.prog 166 #[.slice none 0 0, .slice none 0 0, .int .i64 0, .int .i64 0] [(0, 1), (1, 1), (2, 1), (3, 1)] := ⟨_, _, (by kernel_rfl : _ = some (.agg #[.slice none 0 0, .slice none 0 0, .int .i64 0, .int .i64 0])), rfl, Try.und166, by kernel_rfl⟩
instance : ZV Try.prog 166 (.agg #[.slice none 0 0, .slice none 0 0, .int .i64 0, .int .i64 0]) := ⟨by kernel_rfl⟩
instance : SZ Try.prog 167 4 := ⟨by kernel_rfl⟩
instance : AG Try.prog 167 true := ⟨by kernel_rfl⟩
instance : FO Try.prog 167 0 0 := ⟨fun _ => by kernel_rfl⟩
instance : FD Try.prog 167 0 23 0 := ⟨fun _ => by rfl⟩
instance : FO Try.prog 167 1 1 := ⟨fun _ => by kernel_rfl⟩
instance : FD Try.prog 167 1 23 1 := ⟨fun _ => by rfl⟩
instance : FO Try.prog 167 2 2 := ⟨fun _ => by kernel_rfl⟩
instance : FD Try.prog 167 2 3 2 := ⟨fun _ => by rfl⟩
instance : FO Try.prog 167 3 3 := ⟨fun _ => by kernel_rfl⟩
instance : FD Try.prog 167 3 3 3 := ⟨fun _ => by rfl⟩
instance : BD Try.prog 167 #[.slice none 0 0, .slice none 0 0, .int .i64 0, .int .i64 0] [(0, 1), (1, 1), (2, 1), (3, 1)] := ⟨_, _, (by kernel_rfl : _ = some (.agg #[.slice none 0 0, .slice none 0 0, .int .i64 0, .int .i64 0])), rfl, Try.und166, by kernel_rfl⟩
instance : ZV Try.prog 167 (.agg #[.slice none 0 0, .slice none 0 0, .int .i64 0, .int .i64 0]) := ⟨by kernel_rfl⟩
instance : SZ Try.prog 177 1 := ⟨by kernel_rfl⟩
instance : AG Try.prog 177 false := ⟨by kernel_rfl⟩
instance : ZV Try.prog 177 (.int .u32 0) := ⟨by kernel_rfl⟩
instance : SZ Try.prog 184 1 := ⟨by kernel_rfl⟩
instance : AG Try.prog 184 false := ⟨by kernel_rfl⟩
instance : ZV Try.prog 184 (.int .u64 0) := ⟨by kernel_rfl⟩
instance : SZ Try.prog 191 10 := ⟨by kernel_rfl⟩
instance : AG Try.prog 191 true := ⟨by kernel_rfl⟩
instance : ZV Try.prog 191 (.agg #[.int .u8 0, .int .u8 0, .int .u8 0, .int .u8 0, .int .u8 0, .int .u8 0, .int .u8 0, .int .u8 0, .int .u8 0, .int .u8 0]) := ⟨by kernel_rfl⟩
instance : AR Try.prog 191 10 5 := ⟨by kernel_rfl⟩
instance : SZ Try.prog 192 10 := ⟨by kernel_rfl⟩
instance : AG Try.prog 192 true := ⟨by kernel_rfl⟩
instance : ZV Try.prog 192 (.agg #[.int .u8 0, .int .u8 0, .int .u8 0, .int .u8 0, .int .u8 0, .int .u8 0, .int .u8 0, .int .u8 0, .int .u8 0, .int .u8 0]) := ⟨by kernel_rfl⟩
instance : AR Try.prog 192 10 5 := ⟨by kernel_rfl⟩
instance : SZ Try.prog 196 8 := ⟨by kernel_rfl⟩
instance : AG Try.prog 196 true := ⟨by kernel_rfl⟩
instance : ZV Try.prog 196 (.agg #[.int .u8 0, .int .u8 0, .int .u8 0, .int .u8 0, .int .u8 0, .int .u8 0, .int .u8 0, .int .u8 0]) := ⟨by kernel_rfl⟩
instance : AR Try.prog 196 8 5 := ⟨by kernel_rfl⟩
instance : SZ Try.prog 197 1 := ⟨by kernel_rfl⟩
instance : AG Try.prog 197 false := ⟨by kernel_rfl⟩
instance : ZV Try.prog 197 (.int .u64 0) := ⟨by kernel_rfl⟩
instance : SZ Try.prog 201 8 := ⟨by kernel_rfl⟩
instance : AG Try.prog 201 true := ⟨by kernel_rfl⟩
instance : ZV Try.prog 201 (.agg #[.string ByteArray.empty, .string ByteArray.empty, .string ByteArray.empty, .string ByteArray.empty, .string ByteArray.empty, .string ByteArray.empty, .string ByteArray.empty, .string ByteArray.empty]) := ⟨by kernel_rfl⟩
instance : AR Try.prog 201 8 9 := ⟨by kernel_rfl⟩
instance : SZ Try.prog 204 1 := ⟨by kernel_rfl⟩
instance : AG Try.prog 204 false := ⟨by kernel_rfl⟩
instance : ZV Try.prog 204 (.int .i64 0) := ⟨by kernel_rfl⟩
instance : SZ Try.prog 213 16 := ⟨by kernel_rfl⟩
instance : AG Try.prog 213 true := ⟨by kernel_rfl⟩
instance : ZV Try.prog 213 (.agg #[.int .u32 0, .int .u32 0, .int .u32 0, .int .u32 0, .int .u32 0, .int .u32 0, .int .u32 0, .int .u32 0, .int .u32 0, .int .u32 0, .int .u32 0, .int .u32 0, .int .u32 0, .int .u32 0, .int .u32 0, .int .u32 0]) := ⟨by kernel_rfl⟩
instance : AR Try.prog 213 16 177 := ⟨by kernel_rfl⟩
instance : SZ Try.prog 214 16 := ⟨by kernel_rfl⟩
instance : AG Try.prog 214 true := ⟨by kernel_rfl⟩
instance : ZV Try.prog 214 (.agg #[.int .u32 0, .int .u32 0, .int .u32 0, .int .u32 0, .int .u32 0, .int .u32 0, .int .u32 0, .int .u32 0, .int .u32 0, .int .u32 0, .int .u32 0, .int .u32 0, .int .u32 0, .int .u32 0, .int .u32 0, .int .u32 0]) := ⟨by kernel_rfl⟩
instance : AR Try.prog 214 16 177 := ⟨by kernel_rfl⟩
instance : SZ Try.prog 217 1 := ⟨by kernel_rfl⟩
instance : AG Try.prog 217 false := ⟨by kernel_rfl⟩
instance : ZV Try.prog 217 (.int .u64 0) := ⟨by kernel_rfl⟩
instance : SZ Try.prog 221 1 := ⟨by kernel_rfl⟩
instance : AG Try.prog 221 false := ⟨by kernel_rfl⟩
instance : ZV Try.prog 221 (.pointer none) := ⟨by kernel_rfl⟩
instance : SZ Try.prog 223 1 := ⟨by kernel_rfl⟩
instance : AG Try.prog 223 false := ⟨by kernel_rfl⟩
instance : ZV Try.prog 223 (.pointer none) := ⟨by kernel_rfl⟩
instance : SZ Try.prog 226 4 := ⟨by kernel_rfl⟩
instance : AG Try.prog 226 true := ⟨by kernel_rfl⟩
instance : SZ Try.prog 227 4 := ⟨by kernel_rfl⟩
instance : AG Try.prog 227 true := ⟨by kernel_rfl⟩
instance : SZ Try.prog 228 0 := ⟨by kernel_rfl⟩
instance : AG Try.prog 228 true := ⟨by kernel_rfl⟩
instance : AR Try.prog 228 0 16 := ⟨by kernel_rfl⟩
instance : SZ Try.prog 229 0 := ⟨by kernel_rfl⟩
instance : AG Try.prog 229 true := ⟨by kernel_rfl⟩
instance : SZ Try.prog 230 0 := ⟨by kernel_rfl⟩
instance : AG Try.prog 230 true := ⟨by kernel_rfl⟩
instance : SZ Try.prog 231 1 := ⟨by kernel_rfl⟩
instance : AG Try.prog 231 false := ⟨by kernel_rfl⟩
instance : SZ Try.prog 232 1 := ⟨by kernel_rfl⟩
instance : AG Try.prog 232 false := ⟨by kernel_rfl⟩
instance : SZ Try.prog 234 1 := ⟨by kernel_rfl⟩
instance : AG Try.prog 234 false := ⟨by kernel_rfl⟩
instance : ZV Try.prog 234 (.pointer none) := ⟨by kernel_rfl⟩
instance : SZ Try.prog 235 1 := ⟨by kernel_rfl⟩
instance : AG Try.prog 235 false := ⟨by kernel_rfl⟩
instance : SZ Try.prog 236 1 := ⟨by kernel_rfl⟩
instance : AG Try.prog 236 false := ⟨by kernel_rfl⟩
instance : SZ Try.prog 237 11 := ⟨by kernel_rfl⟩
instance : AG Try.prog 237 true := ⟨by kernel_rfl⟩
instance : FO Try.prog 237 0 0 := ⟨fun _ => by kernel_rfl⟩
instance : FD Try.prog 237 0 12 0 := ⟨fun _ => by rfl⟩
instance : FO Try.prog 237 1 1 := ⟨fun _ => by kernel_rfl⟩
instance : FD Try.prog 237 1 12 1 := ⟨fun _ => by rfl⟩
instance : FO Try.prog 237 2 2 := ⟨fun _ => by kernel_rfl⟩
instance : FD Try.prog 237 2 177 2 := ⟨fun _ => by rfl⟩
instance : FO Try.prog 237 3 3 := ⟨fun _ => by kernel_rfl⟩
instance : FD Try.prog 237 3 231 3 := ⟨fun _ => by rfl⟩
instance : FO Try.prog 237 4 4 := ⟨fun _ => by kernel_rfl⟩
instance : FD Try.prog 237 4 5 4 := ⟨fun _ => by rfl⟩
instance : FO Try.prog 237 5 5 := ⟨fun _ => by kernel_rfl⟩
instance : FD Try.prog 237 5 5 5 := ⟨fun _ => by rfl⟩
instance : FO Try.prog 237 6 6 := ⟨fun _ => by kernel_rfl⟩
instance : FD Try.prog 237 6 232 6 := ⟨fun _ => by rfl⟩
instance : FO Try.prog 237 7 7 := ⟨fun _ => by kernel_rfl⟩
instance : FD Try.prog 237 7 233 7 := ⟨fun _ => by rfl⟩
instance : FO Try.prog 237 8 8 := ⟨fun _ => by kernel_rfl⟩
instance : FD Try.prog 237 8 234 8 := ⟨fun _ => by rfl⟩
instance : FO Try.prog 237 9 9 := ⟨fun _ => by kernel_rfl⟩
instance : FD Try.prog 237 9 235 9 := ⟨fun _ => by rfl⟩
instance : FO Try.prog 237 10 10 := ⟨fun _ => by kernel_rfl⟩
instance : FD Try.prog 237 10 236 10 := ⟨fun _ => by rfl⟩
instance : BD Try.prog 237 #[.int .u64 0, .int .u64 0, .int .u32 0, .int .u8 0, .int .u8 0, .int .u8 0, .int .u8 0, .nilFunc, .pointer none, .int .i32 0, .int .i32 0] [(0, 1), (1, 1), (2, 1), (3, 1), (4, 1), (5, 1), (6, 1), (7, 1), (8, 1), (9, 1), (10, 1)] := ⟨_, _, (by kernel_rfl : _ = some (.agg #[.int .u64 0, .int .u64 0, .int .u32 0, .int .u8 0, .int .u8 0, .int .u8 0, .int .u8 0, .nilFunc, .pointer none, .int .i32 0, .int .i32 0])), rfl, Try.und237, by kernel_rfl⟩
instance : ZV Try.prog 237 (.agg #[.int .u64 0, .int .u64 0, .int .u32 0, .int .u8 0, .int .u8 0, .int .u8 0, .int .u8 0, .nilFunc, .pointer none, .int .i32 0, .int .i32 0]) := ⟨by kernel_rfl⟩
instance : SZ Try.prog 238 11 := ⟨by kernel_rfl⟩
instance : AG Try.prog 238 true := ⟨by kernel_rfl⟩
instance : SZ Try.prog 239 1 := ⟨by kernel_rfl⟩
instance : AG Try.prog 239 false := ⟨by kernel_rfl⟩
instance : FN Try.prog 3 := ⟨fun _ => by kernel_rfl⟩
instance : FN Try.prog 4 := ⟨fun _ => by kernel_rfl⟩
instance : FN Try.prog 5 := ⟨fun _ => by kernel_rfl⟩
instance : FN Try.prog 6 := ⟨fun _ => by kernel_rfl⟩
instance : FN Try.prog 7 := ⟨fun _ => by kernel_rfl⟩
instance : FN Try.prog 8 := ⟨fun _ => by kernel_rfl⟩
instance : FN Try.prog 9 := ⟨fun _ => by kernel_rfl⟩
instance : FN Try.prog 10 := ⟨fun _ => by kernel_rfl⟩
instance : FN Try.prog 11 := ⟨fun _ => by kernel_rfl⟩
instance : FN Try.prog 12 := ⟨fun _ => by kernel_rfl⟩
instance : FN Try.prog 13 := ⟨fun _ => by kernel_rfl⟩
instance : FN Try.prog 14 := ⟨fun _ => by kernel_rfl⟩
instance : FN Try.prog 15 := ⟨fun _ => by kernel_rfl⟩
instance : FN Try.prog 16 := ⟨fun _ => by kernel_rfl⟩
instance : FN Try.prog 17 := ⟨fun _ => by kernel_rfl⟩
instance : FN Try.prog 18 := ⟨fun _ => by kernel_rfl⟩
instance : FN Try.prog 19 := ⟨fun _ => by kernel_rfl⟩
instance : FN Try.prog 20 := ⟨fun _ => by kernel_rfl⟩
instance : FN Try.prog 21 := ⟨fun _ => by kernel_rfl⟩
instance : FN Try.prog 22 := ⟨fun _ => by kernel_rfl⟩
instance : FN Try.prog 23 := ⟨fun _ => by kernel_rfl⟩
instance : FN Try.prog 24 := ⟨fun _ => by kernel_rfl⟩
instance : FN Try.prog 25 := ⟨fun _ => by kernel_rfl⟩
instance : FN Try.prog 26 := ⟨fun _ => by kernel_rfl⟩
instance : FN Try.prog 27 := ⟨fun _ => by kernel_rfl⟩
instance : FN Try.prog 28 := ⟨fun _ => by kernel_rfl⟩
instance : FN Try.prog 29 := ⟨fun _ => by kernel_rfl⟩
instance : FN Try.prog 30 := ⟨fun _ => by kernel_rfl⟩
instance : FN Try.prog 31 := ⟨fun _ => by kernel_rfl⟩
instance : FN Try.prog 32 := ⟨fun _ => by kernel_rfl⟩
instance : FN Try.prog 33 := ⟨fun _ => by kernel_rfl⟩
instance : FN Try.prog 34 := ⟨fun _ => by kernel_rfl⟩
instance : FN Try.prog 35 := ⟨fun _ => by kernel_rfl⟩
instance : FN Try.prog 36 := ⟨fun _ => by kernel_rfl⟩
instance : FN Try.prog 37 := ⟨fun _ => by kernel_rfl⟩
instance : FN Try.prog 38 := ⟨fun _ => by kernel_rfl⟩
instance : FN Try.prog 39 := ⟨fun _ => by kernel_rfl⟩
instance : FN Try.prog 40 := ⟨fun _ => by kernel_rfl⟩
instance : FN Try.prog 41 := ⟨fun _ => by kernel_rfl⟩
instance : FN Try.prog 42 := ⟨fun _ => by kernel_rfl⟩
instance : FN Try.prog 43 := ⟨fun _ => by kernel_rfl⟩
instance : FN Try.prog 44 := ⟨fun _ => by kernel_rfl⟩
instance : FN Try.prog 45 := ⟨fun _ => by kernel_rfl⟩
instance : FN Try.prog 46 := ⟨fun _ => by kernel_rfl⟩
instance : FN Try.prog 47 := ⟨fun _ => by kernel_rfl⟩
instance : FN Try.prog 48 := ⟨fun _ => by kernel_rfl⟩
instance : FN Try.prog 49 := ⟨fun _ => by kernel_rfl⟩
instance : FN Try.prog 50 := ⟨fun _ => by kernel_rfl⟩
instance : FN Try.prog 51 := ⟨fun _ => by kernel_rfl⟩
instance : FN Try.prog 52 := ⟨fun _ => by kernel_rfl⟩
instance : FN Try.prog 53 := ⟨fun _ => by kernel_rfl⟩
instance : FN Try.prog 54 := ⟨fun _ => by kernel_rfl⟩
instance : FN Try.prog 55 := ⟨fun _ => by kernel_rfl⟩
instance : FN Try.prog 56 := ⟨fun _ => by kernel_rfl⟩
instance : FN Try.prog 57 := ⟨fun _ => by kernel_rfl⟩
instance : FN Try.prog 58 := ⟨fun _ => by kernel_rfl⟩
instance : FN Try.prog 59 := ⟨fun _ => by kernel_rfl⟩
instance : FN Try.prog 60 := ⟨fun _ => by kernel_rfl⟩
instance : FN Try.prog 61 := ⟨fun _ => by kernel_rfl⟩
instance : FN Try.prog 62 := ⟨fun _ => by kernel_rfl⟩
instance : FN Try.prog 63 := ⟨fun _ => by kernel_rfl⟩
instance : FN Try.prog 64 := ⟨fun _ => by kernel_rfl⟩
instance : FN Try.prog 65 := ⟨fun _ => by kernel_rfl⟩
instance : FN Try.prog 66 := ⟨fun _ => by kernel_rfl⟩
instance : FN Try.prog 67 := ⟨fun _ => by kernel_rfl⟩
instance : FN Try.prog 68 := ⟨fun _ => by kernel_rfl⟩
instance : FN Try.prog 69 := ⟨fun _ => by kernel_rfl⟩
instance : FN Try.prog 70 := ⟨fun _ => by kernel_rfl⟩
instance : FN Try.prog 71 := ⟨fun _ => by kernel_rfl⟩
instance : FN Try.prog 72 := ⟨fun _ => by kernel_rfl⟩
instance : FN Try.prog 73 := ⟨fun _ => by kernel_rfl⟩
instance : FN Try.prog 74 := ⟨fun _ => by kernel_rfl⟩
instance : FN Try.prog 75 := ⟨fun _ => by kernel_rfl⟩
instance : FN Try.prog 76 := ⟨fun _ => by kernel_rfl⟩
instance : FN Try.prog 77 := ⟨fun _ => by kernel_rfl⟩
instance : FN Try.prog 78 := ⟨fun _ => by kernel_rfl⟩
instance : FN Try.prog 79 := ⟨fun _ => by kernel_rfl⟩
instance : FN Try.prog 80 := ⟨fun _ => by kernel_rfl⟩
instance : FN Try.prog 81 := ⟨fun _ => by kernel_rfl⟩
instance : FN Try.prog 82 := ⟨fun _ => by kernel_rfl⟩
instance : FN Try.prog 83 := ⟨fun _ => by kernel_rfl⟩
instance : FN Try.prog 84 := ⟨fun _ => by kernel_rfl⟩
instance : FN Try.prog 85 := ⟨fun _ => by kernel_rfl⟩
instance : FN Try.prog 86 := ⟨fun _ => by kernel_rfl⟩
instance : FN Try.prog 87 := ⟨fun _ => by kernel_rfl⟩
instance : FN Try.prog 88 := ⟨fun _ => by kernel_rfl⟩
instance : FN Try.prog 89 := ⟨fun _ => by kernel_rfl⟩
instance : FN Try.prog 90 := ⟨fun _ => by kernel_rfl⟩
instance : FN Try.prog 91 := ⟨fun _ => by kernel_rfl⟩
instance : FN Try.prog 92 := ⟨fun _ => by kernel_rfl⟩
instance : FN Try.prog 93 := ⟨fun _ => by kernel_rfl⟩
instance : FN Try.prog 94 := ⟨fun _ => by kernel_rfl⟩
instance : FN Try.prog 95 := ⟨fun _ => by kernel_rfl⟩
instance : FN Try.prog 96 := ⟨fun _ => by kernel_rfl⟩
instance : FN Try.prog 97 := ⟨fun _ => by kernel_rfl⟩
instance : FN Try.prog 98 := ⟨fun _ => by kernel_rfl⟩
instance : FN Try.prog 99 := ⟨fun _ => by kernel_rfl⟩
instance : FN Try.prog 100 := ⟨fun _ => by kernel_rfl⟩
instance : FN Try.prog 101 := ⟨fun _ => by kernel_rfl⟩
instance : FN Try.prog 102 := ⟨fun _ => by kernel_rfl⟩
instance : FN Try.prog 103 := ⟨fun _ => by kernel_rfl⟩
instance : FN Try.prog 104 := ⟨fun _ => by kernel_rfl⟩
instance : FN Try.prog 105 := ⟨fun _ => by kernel_rfl⟩
instance : FN Try.prog 106 := ⟨fun _ => by kernel_rfl⟩
instance : FN Try.prog 107 := ⟨fun _ => by kernel_rfl⟩
instance : FN Try.prog 108 := ⟨fun _ => by kernel_rfl⟩
instance : FN Try.prog 109 := ⟨fun _ => by kernel_rfl⟩
instance : FN Try.prog 110 := ⟨fun _ => by kernel_rfl⟩
instance : FN Try.prog 111 := ⟨fun _ => by kernel_rfl⟩
instance : FN Try.prog 112 := ⟨fun _ => by kernel_rfl⟩
instance : FN Try.prog 113 := ⟨fun _ => by kernel_rfl⟩
instance : FN Try.prog 114 := ⟨fun _ => by kernel_rfl⟩
instance : FN Try.prog 115 := ⟨fun _ => by kernel_rfl⟩
instance : FN Try.prog 116 := ⟨fun _ => by kernel_rfl⟩
instance : FN Try.prog 117 := ⟨fun _ => by kernel_rfl⟩
instance : FN Try.prog 118 := ⟨fun _ => by kernel_rfl⟩
instance : FN Try.prog 119 := ⟨fun _ => by kernel_rfl⟩
instance : FN Try.prog 120 := ⟨fun _ => by kernel_rfl⟩
instance : FN Try.prog 121 := ⟨fun _ => by kernel_rfl⟩
instance : FN Try.prog 122 := ⟨fun _ => by kernel_rfl⟩
instance : FN Try.prog 123 := ⟨fun _ => by kernel_rfl⟩
instance : FN Try.prog 124 := ⟨fun _ => by kernel_rfl⟩
instance : FN Try.prog 125 := ⟨fun _ => by kernel_rfl⟩
instance : FN Try.prog 126 := ⟨fun _ => by kernel_rfl⟩
instance : FN Try.prog 127 := ⟨fun _ => by kernel_rfl⟩
instance : FN Try.prog 128 := ⟨fun _ => by kernel_rfl⟩
instance : FN Try.prog 129 := ⟨fun _ => by kernel_rfl⟩
instance : FN Try.prog 130 := ⟨fun _ => by kernel_rfl⟩
instance : FN Try.prog 131 := ⟨fun _ => by kernel_rfl⟩
instance : FN Try.prog 132 := ⟨fun _ => by kernel_rfl⟩
instance : FN Try.prog 133 := ⟨fun _ => by kernel_rfl⟩
instance : FN Try.prog 134 := ⟨fun _ => by kernel_rfl⟩
instance : FN Try.prog 135 := ⟨fun _ => by kernel_rfl⟩
instance : FN Try.prog 136 := ⟨fun _ => by kernel_rfl⟩
instance : FN Try.prog 137 := ⟨fun _ => by kernel_rfl⟩
instance : FN Try.prog 138 := ⟨fun _ => by kernel_rfl⟩
instance : FN Try.prog 139 := ⟨fun _ => by kernel_rfl⟩
instance : FN Try.prog 140 := ⟨fun _ => by kernel_rfl⟩
instance : FN Try.prog 141 := ⟨fun _ => by kernel_rfl⟩
instance : FN Try.prog 142 := ⟨fun _ => by kernel_rfl⟩
instance : FN Try.prog 143 := ⟨fun _ => by kernel_rfl⟩
instance : FN Try.prog 144 := ⟨fun _ => by kernel_rfl⟩
instance : FN Try.prog 145 := ⟨fun _ => by kernel_rfl⟩
instance : FN Try.prog 146 := ⟨fun _ => by kernel_rfl⟩
end Go.Proofs.Ytgbbcpfnmkeijaa
