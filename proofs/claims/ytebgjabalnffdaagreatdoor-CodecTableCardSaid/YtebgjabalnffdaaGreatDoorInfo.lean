/- Rows of the type table. -/
import Derived.Test.YtebgjabalnffdaaGreatDoorBase
import Derived.Test.YtebgjabalnffdaaGreatDoorProg
namespace Go.Proofs.YtebgjabalnffdaaGreatDoor
theorem info_u8 : (Tryz.prog.info? 5).map (fun i => (i.zero, i.size, i.bytes)) = some (some (.int .u8 0), 1, 1) := by kernel_rfl
theorem info_int : (Tryz.prog.info? 3).map (fun i => (i.zero, i.size, i.bytes)) = some (some (.int .i64 0), 1, 8) := by kernel_rfl
theorem info_Token : (Tryz.prog.info? 42).map (fun i => (i.zero, i.size, i.bytes)) = some (some (.agg #[.int .i64 0, .int .i64 0, .slice none 0 0, .int .i64 0]), 4, 48) := by kernel_rfl
theorem info_Rule : (Tryz.prog.info? 115).map (fun i => (i.zero, i.size, i.bytes)) = some (some (.agg #[.slice none 0 0, .slice none 0 0]), 2, 48) := by kernel_rfl
theorem info_node : (Tryz.prog.info? 213).map (fun i => (i.zero, i.size, i.bytes)) = some (some (.agg #[.int .i64 0, .int .i64 0, .int .i64 0, .int .i64 0]), 4, 32) := by kernel_rfl
theorem size_u8 : (Tryz.prog.info? 5).map (·.size) = some 1 := by kernel_rfl
theorem size_int : (Tryz.prog.info? 3).map (·.size) = some 1 := by kernel_rfl
theorem size_Token : (Tryz.prog.info? 42).map (·.size) = some 4 := by kernel_rfl
theorem size_Rule : (Tryz.prog.info? 115).map (·.size) = some 2 := by kernel_rfl
end Go.Proofs.YtebgjabalnffdaaGreatDoor
