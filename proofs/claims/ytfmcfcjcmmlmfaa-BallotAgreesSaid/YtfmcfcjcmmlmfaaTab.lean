/- The program's own tables as this seat's proofs name them: kinds and sizes of types, closed facts. -/
import Derived.Test.YtfmcfcjcmmlmfaaProg
import Derived.Test.YtfmcfcjcmmlmfaaMem
namespace Go.Proofs.Ytfmcfcjcmmlmfaa
open Go Go.RowKit

theorem uBytes : Try.prog.underlying 72 = some (.slice 5) := by kernel_rfl
theorem sizeU8 : (Try.prog.info? 5).map (·.size) = some 1 := by kernel_rfl
theorem uLoads : Try.prog.underlying 81 = some (.slice 72) := by kernel_rfl
theorem infoBytes : (Try.prog.info? 72).map (fun i => (i.zero, i.size, i.bytes)) = some (some (.slice none 0 0), 1, 24) := by kernel_rfl
theorem uString : Try.prog.underlying 9 = some .string := by kernel_rfl
theorem infoU8 : (Try.prog.info? 5).map (fun i => (i.zero, i.size, i.bytes)) = some (some (.int .u8 0), 1, 1) := by kernel_rfl
theorem uInts : Try.prog.underlying 37 = some (.slice 3) := by kernel_rfl
theorem infoInt : (Try.prog.info? 3).map (fun i => (i.zero, i.size, i.bytes)) = some (some (.int .i64 0), 1, 8) := by kernel_rfl
theorem uLogs : Try.prog.underlying 78 = some (.slice 102) := by kernel_rfl
theorem infoLog : (Try.prog.info? 102).map (fun i => (i.zero, i.size, i.bytes)) = some (some (.agg #[.slice none 0 0, .int .i64 0]), 2, 32) := by kernel_rfl
end Go.Proofs.Ytfmcfcjcmmlmfaa
