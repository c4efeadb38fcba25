/- Texts of this proof, one behind another. -/
import Derived.Test.YtmjkacgmepbljaaGreatDoorM2
import Derived.Test.YtmjkacgmepbljaaGreatDoorChecked
import Derived.Laws.Externs
import Derived.Lib.Bytealg
import Derived.Laws.MakeOwn
set_option linter.unusedVariables false
set_option linter.unusedSimpArgs false
/- Facts on the types and functions of this translation, a row each (written by a program of mine; the kernel checks each). -/
section
open Go Mk
namespace Go.Proofs.YtmjkacgmepbljaaGreatDoor
instance : TZ Tryz.prog 1 [.nilFunc] := ⟨by kernel_rfl⟩
instance : TZV Tryz.prog 1 (.nilFunc) := ⟨by kernel_rfl⟩
instance : TS Tryz.prog 1 := ⟨by kernel_rfl⟩
instance : TZ Tryz.prog 2 [.int .i64 0] := ⟨by kernel_rfl⟩
instance : TZV Tryz.prog 2 (.int .i64 0) := ⟨by kernel_rfl⟩
instance : TS Tryz.prog 2 := ⟨by kernel_rfl⟩
instance : TInt Tryz.prog 2 .i64 := ⟨by kernel_rfl⟩
instance : TZ Tryz.prog 3 [.int .i64 0] := ⟨by kernel_rfl⟩
instance : TZV Tryz.prog 3 (.int .i64 0) := ⟨by kernel_rfl⟩
instance : TS Tryz.prog 3 := ⟨by kernel_rfl⟩
instance : TInt Tryz.prog 3 .i64 := ⟨by kernel_rfl⟩
instance : TZ Tryz.prog 4 [.bool false] := ⟨by kernel_rfl⟩
instance : TZV Tryz.prog 4 (.bool false) := ⟨by kernel_rfl⟩
instance : TS Tryz.prog 4 := ⟨by kernel_rfl⟩
instance : TBool Tryz.prog 4 := ⟨by kernel_rfl⟩
instance : TZ Tryz.prog 5 [.int .u8 0] := ⟨by kernel_rfl⟩
instance : TZV Tryz.prog 5 (.int .u8 0) := ⟨by kernel_rfl⟩
instance : TS Tryz.prog 5 := ⟨by kernel_rfl⟩
instance : TInt Tryz.prog 5 .u8 := ⟨by kernel_rfl⟩
instance : TZ Tryz.prog 6 [.int .u8 0] := ⟨by kernel_rfl⟩
instance : TZV Tryz.prog 6 (.int .u8 0) := ⟨by kernel_rfl⟩
instance : TS Tryz.prog 6 := ⟨by kernel_rfl⟩
instance : TInt Tryz.prog 6 .u8 := ⟨by kernel_rfl⟩
instance : TZ Tryz.prog 7 [.int .i64 0, .int .i64 0, .bool false, .int .u8 0] := ⟨by kernel_rfl⟩
instance : TZV Tryz.prog 7 (.agg #[.int .i64 0, .int .i64 0, .bool false, .int .u8 0]) := ⟨by kernel_rfl⟩
instance : TA Tryz.prog 7 4 := ⟨by kernel_rfl⟩
instance : TEq Tryz.prog 7 [5, 5, 0, 6] := ⟨by kernel_rfl, by kernel_rfl, by kernel_rfl⟩
instance : TB Tryz.prog 7 [(0, 1), (1, 1), (2, 1), (3, 1)] [.int .i64 0, .int .i64 0, .bool false, .int .u8 0] := ⟨by kernel_rfl, by kernel_rfl⟩
instance : TF Tryz.prog 7 0 0 := ⟨by kernel_rfl⟩
instance : TF Tryz.prog 7 1 1 := ⟨by kernel_rfl⟩
instance : TF Tryz.prog 7 2 2 := ⟨by kernel_rfl⟩
instance : TF Tryz.prog 7 3 3 := ⟨by kernel_rfl⟩
instance : TZ Tryz.prog 8 [.int .i64 0, .int .i64 0, .bool false, .int .u8 0] := ⟨by kernel_rfl⟩
instance : TZV Tryz.prog 8 (.agg #[.int .i64 0, .int .i64 0, .bool false, .int .u8 0]) := ⟨by kernel_rfl⟩
instance : TA Tryz.prog 8 4 := ⟨by kernel_rfl⟩
instance : TEq Tryz.prog 8 [5, 5, 0, 6] := ⟨by kernel_rfl, by kernel_rfl, by kernel_rfl⟩
instance : TB Tryz.prog 8 [(0, 1), (1, 1), (2, 1), (3, 1)] [.int .i64 0, .int .i64 0, .bool false, .int .u8 0] := ⟨by kernel_rfl, by kernel_rfl⟩
instance : TF Tryz.prog 8 0 0 := ⟨by kernel_rfl⟩
instance : TF Tryz.prog 8 1 1 := ⟨by kernel_rfl⟩
instance : TF Tryz.prog 8 2 2 := ⟨by kernel_rfl⟩
instance : TF Tryz.prog 8 3 3 := ⟨by kernel_rfl⟩
instance : TZ Tryz.prog 9 [.string ⟨#[]⟩] := ⟨by kernel_rfl⟩
instance : TZV Tryz.prog 9 (.string ⟨#[]⟩) := ⟨by kernel_rfl⟩
instance : TS Tryz.prog 9 := ⟨by kernel_rfl⟩
instance : TStr Tryz.prog 9 := ⟨by kernel_rfl⟩
instance : TZ Tryz.prog 10 [.string ⟨#[]⟩] := ⟨by kernel_rfl⟩
instance : TZV Tryz.prog 10 (.string ⟨#[]⟩) := ⟨by kernel_rfl⟩
instance : TS Tryz.prog 10 := ⟨by kernel_rfl⟩
instance : TStr Tryz.prog 10 := ⟨by kernel_rfl⟩
instance : TZ Tryz.prog 11 [.string ⟨#[]⟩] := ⟨by kernel_rfl⟩
instance : TZV Tryz.prog 11 (.string ⟨#[]⟩) := ⟨by kernel_rfl⟩
instance : TS Tryz.prog 11 := ⟨by kernel_rfl⟩
instance : TStr Tryz.prog 11 := ⟨by kernel_rfl⟩
instance : TZ Tryz.prog 12 [.int .u64 0] := ⟨by kernel_rfl⟩
instance : TZV Tryz.prog 12 (.int .u64 0) := ⟨by kernel_rfl⟩
instance : TS Tryz.prog 12 := ⟨by kernel_rfl⟩
instance : TInt Tryz.prog 12 .u64 := ⟨by kernel_rfl⟩
instance : TZ Tryz.prog 13 [.string ⟨#[]⟩, .int .u64 0] := ⟨by kernel_rfl⟩
instance : TZV Tryz.prog 13 (.agg #[.string ⟨#[]⟩, .int .u64 0]) := ⟨by kernel_rfl⟩
instance : TA Tryz.prog 13 2 := ⟨by kernel_rfl⟩
instance : TB Tryz.prog 13 [(0, 1), (1, 1)] [.string ⟨#[]⟩, .int .u64 0] := ⟨by kernel_rfl, by kernel_rfl⟩
instance : TF Tryz.prog 13 0 0 := ⟨by kernel_rfl⟩
instance : TF Tryz.prog 13 1 1 := ⟨by kernel_rfl⟩
instance : TZ Tryz.prog 14 [.string ⟨#[]⟩, .int .u64 0] := ⟨by kernel_rfl⟩
instance : TZV Tryz.prog 14 (.agg #[.string ⟨#[]⟩, .int .u64 0]) := ⟨by kernel_rfl⟩
instance : TA Tryz.prog 14 2 := ⟨by kernel_rfl⟩
instance : TB Tryz.prog 14 [(0, 1), (1, 1)] [.string ⟨#[]⟩, .int .u64 0] := ⟨by kernel_rfl, by kernel_rfl⟩
instance : TF Tryz.prog 14 0 0 := ⟨by kernel_rfl⟩
instance : TF Tryz.prog 14 1 1 := ⟨by kernel_rfl⟩
instance : TZ Tryz.prog 15 [.pointer none] := ⟨by kernel_rfl⟩
instance : TZV Tryz.prog 15 (.pointer none) := ⟨by kernel_rfl⟩
instance : TS Tryz.prog 15 := ⟨by kernel_rfl⟩
instance : TPtr Tryz.prog 15 173 := ⟨by kernel_rfl⟩
instance : TZ Tryz.prog 16 [.pointer none] := ⟨by kernel_rfl⟩
instance : TZV Tryz.prog 16 (.pointer none) := ⟨by kernel_rfl⟩
instance : TS Tryz.prog 16 := ⟨by kernel_rfl⟩
instance : TPtr Tryz.prog 16 176 := ⟨by kernel_rfl⟩
instance : TZ Tryz.prog 17 [.pointer none] := ⟨by kernel_rfl⟩
instance : TZV Tryz.prog 17 (.pointer none) := ⟨by kernel_rfl⟩
instance : TS Tryz.prog 17 := ⟨by kernel_rfl⟩
instance : TPtr Tryz.prog 17 184 := ⟨by kernel_rfl⟩
instance : TZ Tryz.prog 18 [.pointer none] := ⟨by kernel_rfl⟩
instance : TZV Tryz.prog 18 (.agg #[.pointer none]) := ⟨by kernel_rfl⟩
instance : TA Tryz.prog 18 1 := ⟨by kernel_rfl⟩
instance : TB Tryz.prog 18 [(0, 1)] [.pointer none] := ⟨by kernel_rfl, by kernel_rfl⟩
instance : TF Tryz.prog 18 0 0 := ⟨by kernel_rfl⟩
instance : TZ Tryz.prog 19 [.pointer none] := ⟨by kernel_rfl⟩
instance : TZV Tryz.prog 19 (.agg #[.pointer none]) := ⟨by kernel_rfl⟩
instance : TA Tryz.prog 19 1 := ⟨by kernel_rfl⟩
instance : TB Tryz.prog 19 [(0, 1)] [.pointer none] := ⟨by kernel_rfl, by kernel_rfl⟩
instance : TF Tryz.prog 19 0 0 := ⟨by kernel_rfl⟩
instance : TZ Tryz.prog 20 [.nilIface] := ⟨by kernel_rfl⟩
instance : TZV Tryz.prog 20 (.nilIface) := ⟨by kernel_rfl⟩
instance : TS Tryz.prog 20 := ⟨by kernel_rfl⟩
instance : TZ Tryz.prog 21 [.int .i32 0] := ⟨by kernel_rfl⟩
instance : TZV Tryz.prog 21 (.int .i32 0) := ⟨by kernel_rfl⟩
instance : TS Tryz.prog 21 := ⟨by kernel_rfl⟩
instance : TInt Tryz.prog 21 .i32 := ⟨by kernel_rfl⟩
instance : TZ Tryz.prog 22 [.slice none 0 0] := ⟨by kernel_rfl⟩
instance : TZV Tryz.prog 22 (.slice none 0 0) := ⟨by kernel_rfl⟩
instance : TS Tryz.prog 22 := ⟨by kernel_rfl⟩
instance : TL Tryz.prog 22 30 3 32 [.int .i64 0, .int .i64 0, .string ⟨#[]⟩] := ⟨by kernel_rfl, by kernel_rfl, by kernel_rfl, by decide⟩
instance : TZ Tryz.prog 23 [.string ⟨#[]⟩, .slice none 0 0] := ⟨by kernel_rfl⟩
instance : TZV Tryz.prog 23 (.agg #[.string ⟨#[]⟩, .slice none 0 0]) := ⟨by kernel_rfl⟩
instance : TA Tryz.prog 23 2 := ⟨by kernel_rfl⟩
instance : TB Tryz.prog 23 [(0, 1), (1, 1)] [.string ⟨#[]⟩, .slice none 0 0] := ⟨by kernel_rfl, by kernel_rfl⟩
instance : TF Tryz.prog 23 0 0 := ⟨by kernel_rfl⟩
instance : TF Tryz.prog 23 1 1 := ⟨by kernel_rfl⟩
instance : TZ Tryz.prog 24 [.string ⟨#[]⟩, .slice none 0 0] := ⟨by kernel_rfl⟩
instance : TZV Tryz.prog 24 (.agg #[.string ⟨#[]⟩, .slice none 0 0]) := ⟨by kernel_rfl⟩
instance : TA Tryz.prog 24 2 := ⟨by kernel_rfl⟩
instance : TB Tryz.prog 24 [(0, 1), (1, 1)] [.string ⟨#[]⟩, .slice none 0 0] := ⟨by kernel_rfl, by kernel_rfl⟩
instance : TF Tryz.prog 24 0 0 := ⟨by kernel_rfl⟩
instance : TF Tryz.prog 24 1 1 := ⟨by kernel_rfl⟩
instance : TZ Tryz.prog 25 [.nilFunc] := ⟨by kernel_rfl⟩
instance : TZV Tryz.prog 25 (.nilFunc) := ⟨by kernel_rfl⟩
instance : TS Tryz.prog 25 := ⟨by kernel_rfl⟩
instance : TZ Tryz.prog 26 [.slice none 0 0] := ⟨by kernel_rfl⟩
instance : TZV Tryz.prog 26 (.slice none 0 0) := ⟨by kernel_rfl⟩
instance : TS Tryz.prog 26 := ⟨by kernel_rfl⟩
instance : TL Tryz.prog 26 24 2 40 [.string ⟨#[]⟩, .slice none 0 0] := ⟨by kernel_rfl, by kernel_rfl, by kernel_rfl, by decide⟩
instance : TZ Tryz.prog 27 [.nilFunc] := ⟨by kernel_rfl⟩
instance : TZV Tryz.prog 27 (.nilFunc) := ⟨by kernel_rfl⟩
instance : TS Tryz.prog 27 := ⟨by kernel_rfl⟩
instance : TZ Tryz.prog 28 [.nilFunc] := ⟨by kernel_rfl⟩
instance : TZV Tryz.prog 28 (.nilFunc) := ⟨by kernel_rfl⟩
instance : TS Tryz.prog 28 := ⟨by kernel_rfl⟩
instance : TZ Tryz.prog 29 [.int .i64 0, .int .i64 0, .string ⟨#[]⟩] := ⟨by kernel_rfl⟩
instance : TZV Tryz.prog 29 (.agg #[.int .i64 0, .int .i64 0, .string ⟨#[]⟩]) := ⟨by kernel_rfl⟩
instance : TA Tryz.prog 29 3 := ⟨by kernel_rfl⟩
instance : TEq Tryz.prog 29 [5, 5, 1] := ⟨by kernel_rfl, by kernel_rfl, by kernel_rfl⟩
instance : TB Tryz.prog 29 [(0, 1), (1, 1), (2, 1)] [.int .i64 0, .int .i64 0, .string ⟨#[]⟩] := ⟨by kernel_rfl, by kernel_rfl⟩
instance : TF Tryz.prog 29 0 0 := ⟨by kernel_rfl⟩
instance : TF Tryz.prog 29 1 1 := ⟨by kernel_rfl⟩
instance : TF Tryz.prog 29 2 2 := ⟨by kernel_rfl⟩
instance : TZ Tryz.prog 30 [.int .i64 0, .int .i64 0, .string ⟨#[]⟩] := ⟨by kernel_rfl⟩
instance : TZV Tryz.prog 30 (.agg #[.int .i64 0, .int .i64 0, .string ⟨#[]⟩]) := ⟨by kernel_rfl⟩
instance : TA Tryz.prog 30 3 := ⟨by kernel_rfl⟩
instance : TEq Tryz.prog 30 [5, 5, 1] := ⟨by kernel_rfl, by kernel_rfl, by kernel_rfl⟩
instance : TB Tryz.prog 30 [(0, 1), (1, 1), (2, 1)] [.int .i64 0, .int .i64 0, .string ⟨#[]⟩] := ⟨by kernel_rfl, by kernel_rfl⟩
instance : TF Tryz.prog 30 0 0 := ⟨by kernel_rfl⟩
instance : TF Tryz.prog 30 1 1 := ⟨by kernel_rfl⟩
instance : TF Tryz.prog 30 2 2 := ⟨by kernel_rfl⟩
instance : TZ Tryz.prog 31 [.nilFunc] := ⟨by kernel_rfl⟩
instance : TZV Tryz.prog 31 (.nilFunc) := ⟨by kernel_rfl⟩
instance : TS Tryz.prog 31 := ⟨by kernel_rfl⟩
instance : TZ Tryz.prog 32 [.int .i64 0, .int .i64 0] := ⟨by kernel_rfl⟩
instance : TZV Tryz.prog 32 (.agg #[.int .i64 0, .int .i64 0]) := ⟨by kernel_rfl⟩
instance : TA Tryz.prog 32 2 := ⟨by kernel_rfl⟩
instance : TEq Tryz.prog 32 [5, 5] := ⟨by kernel_rfl, by kernel_rfl, by kernel_rfl⟩
instance : TB Tryz.prog 32 [(0, 1), (1, 1)] [.int .i64 0, .int .i64 0] := ⟨by kernel_rfl, by kernel_rfl⟩
instance : TF Tryz.prog 32 0 0 := ⟨by kernel_rfl⟩
instance : TF Tryz.prog 32 1 1 := ⟨by kernel_rfl⟩
instance : TZ Tryz.prog 33 [.int .i64 0, .int .i64 0] := ⟨by kernel_rfl⟩
instance : TZV Tryz.prog 33 (.agg #[.int .i64 0, .int .i64 0]) := ⟨by kernel_rfl⟩
instance : TA Tryz.prog 33 2 := ⟨by kernel_rfl⟩
instance : TEq Tryz.prog 33 [5, 5] := ⟨by kernel_rfl, by kernel_rfl, by kernel_rfl⟩
instance : TB Tryz.prog 33 [(0, 1), (1, 1)] [.int .i64 0, .int .i64 0] := ⟨by kernel_rfl, by kernel_rfl⟩
instance : TF Tryz.prog 33 0 0 := ⟨by kernel_rfl⟩
instance : TF Tryz.prog 33 1 1 := ⟨by kernel_rfl⟩
instance : TZ Tryz.prog 34 [.int .i64 0] := ⟨by kernel_rfl⟩
instance : TZV Tryz.prog 34 (.int .i64 0) := ⟨by kernel_rfl⟩
instance : TS Tryz.prog 34 := ⟨by kernel_rfl⟩
instance : TInt Tryz.prog 34 .i64 := ⟨by kernel_rfl⟩
instance : TZ Tryz.prog 36 [.nilFunc] := ⟨by kernel_rfl⟩
instance : TZV Tryz.prog 36 (.nilFunc) := ⟨by kernel_rfl⟩
instance : TS Tryz.prog 36 := ⟨by kernel_rfl⟩
instance : TZ Tryz.prog 37 [.nilFunc] := ⟨by kernel_rfl⟩
instance : TZV Tryz.prog 37 (.nilFunc) := ⟨by kernel_rfl⟩
instance : TS Tryz.prog 37 := ⟨by kernel_rfl⟩
instance : TZ Tryz.prog 38 [.nilFunc] := ⟨by kernel_rfl⟩
instance : TZV Tryz.prog 38 (.nilFunc) := ⟨by kernel_rfl⟩
instance : TS Tryz.prog 38 := ⟨by kernel_rfl⟩
instance : TZ Tryz.prog 39 [.nilFunc] := ⟨by kernel_rfl⟩
instance : TZV Tryz.prog 39 (.nilFunc) := ⟨by kernel_rfl⟩
instance : TS Tryz.prog 39 := ⟨by kernel_rfl⟩
instance : TZ Tryz.prog 40 [.nilFunc] := ⟨by kernel_rfl⟩
instance : TZV Tryz.prog 40 (.nilFunc) := ⟨by kernel_rfl⟩
instance : TS Tryz.prog 40 := ⟨by kernel_rfl⟩
instance : TZ Tryz.prog 41 [.nilFunc] := ⟨by kernel_rfl⟩
instance : TZV Tryz.prog 41 (.nilFunc) := ⟨by kernel_rfl⟩
instance : TS Tryz.prog 41 := ⟨by kernel_rfl⟩
instance : TZ Tryz.prog 42 [.nilFunc] := ⟨by kernel_rfl⟩
instance : TZV Tryz.prog 42 (.nilFunc) := ⟨by kernel_rfl⟩
instance : TS Tryz.prog 42 := ⟨by kernel_rfl⟩
instance : TZ Tryz.prog 44 [.nilFunc] := ⟨by kernel_rfl⟩
instance : TZV Tryz.prog 44 (.nilFunc) := ⟨by kernel_rfl⟩
instance : TS Tryz.prog 44 := ⟨by kernel_rfl⟩
instance : TZ Tryz.prog 45 [.nilFunc] := ⟨by kernel_rfl⟩
instance : TZV Tryz.prog 45 (.nilFunc) := ⟨by kernel_rfl⟩
instance : TS Tryz.prog 45 := ⟨by kernel_rfl⟩
instance : TZ Tryz.prog 47 [.nilFunc] := ⟨by kernel_rfl⟩
instance : TZV Tryz.prog 47 (.nilFunc) := ⟨by kernel_rfl⟩
instance : TS Tryz.prog 47 := ⟨by kernel_rfl⟩
instance : TZ Tryz.prog 48 [.nilFunc] := ⟨by kernel_rfl⟩
instance : TZV Tryz.prog 48 (.nilFunc) := ⟨by kernel_rfl⟩
instance : TS Tryz.prog 48 := ⟨by kernel_rfl⟩
instance : TZ Tryz.prog 49 [.nilFunc] := ⟨by kernel_rfl⟩
instance : TZV Tryz.prog 49 (.nilFunc) := ⟨by kernel_rfl⟩
instance : TS Tryz.prog 49 := ⟨by kernel_rfl⟩
instance : TZ Tryz.prog 50 [.nilFunc] := ⟨by kernel_rfl⟩
instance : TZV Tryz.prog 50 (.nilFunc) := ⟨by kernel_rfl⟩
instance : TS Tryz.prog 50 := ⟨by kernel_rfl⟩
instance : TZ Tryz.prog 51 [.nilFunc] := ⟨by kernel_rfl⟩
instance : TZV Tryz.prog 51 (.nilFunc) := ⟨by kernel_rfl⟩
instance : TS Tryz.prog 51 := ⟨by kernel_rfl⟩
instance : TZ Tryz.prog 52 [.nilFunc] := ⟨by kernel_rfl⟩
instance : TZV Tryz.prog 52 (.nilFunc) := ⟨by kernel_rfl⟩
instance : TS Tryz.prog 52 := ⟨by kernel_rfl⟩
instance : TZ Tryz.prog 53 [.nilFunc] := ⟨by kernel_rfl⟩
instance : TZV Tryz.prog 53 (.nilFunc) := ⟨by kernel_rfl⟩
instance : TS Tryz.prog 53 := ⟨by kernel_rfl⟩
instance : TZ Tryz.prog 54 [.nilFunc] := ⟨by kernel_rfl⟩
instance : TZV Tryz.prog 54 (.nilFunc) := ⟨by kernel_rfl⟩
instance : TS Tryz.prog 54 := ⟨by kernel_rfl⟩
instance : TZ Tryz.prog 55 [.nilFunc] := ⟨by kernel_rfl⟩
instance : TZV Tryz.prog 55 (.nilFunc) := ⟨by kernel_rfl⟩
instance : TS Tryz.prog 55 := ⟨by kernel_rfl⟩
instance : TZ Tryz.prog 56 [.nilFunc] := ⟨by kernel_rfl⟩
instance : TZV Tryz.prog 56 (.nilFunc) := ⟨by kernel_rfl⟩
instance : TS Tryz.prog 56 := ⟨by kernel_rfl⟩
instance : TZ Tryz.prog 57 [.nilFunc] := ⟨by kernel_rfl⟩
instance : TZV Tryz.prog 57 (.nilFunc) := ⟨by kernel_rfl⟩
instance : TS Tryz.prog 57 := ⟨by kernel_rfl⟩
instance : TZ Tryz.prog 58 [.nilFunc] := ⟨by kernel_rfl⟩
instance : TZV Tryz.prog 58 (.nilFunc) := ⟨by kernel_rfl⟩
instance : TS Tryz.prog 58 := ⟨by kernel_rfl⟩
instance : TZ Tryz.prog 59 [.slice none 0 0] := ⟨by kernel_rfl⟩
instance : TZV Tryz.prog 59 (.slice none 0 0) := ⟨by kernel_rfl⟩
instance : TS Tryz.prog 59 := ⟨by kernel_rfl⟩
instance : TL Tryz.prog 59 101 5 48 [.int .i64 0, .string ⟨#[]⟩, .int .u64 0, .int .i64 0, .int .i64 0] := ⟨by kernel_rfl, by kernel_rfl, by kernel_rfl, by decide⟩
instance : TZ Tryz.prog 61 [.nilFunc] := ⟨by kernel_rfl⟩
instance : TZV Tryz.prog 61 (.nilFunc) := ⟨by kernel_rfl⟩
instance : TS Tryz.prog 61 := ⟨by kernel_rfl⟩
instance : TZ Tryz.prog 62 [.nilFunc] := ⟨by kernel_rfl⟩
instance : TZV Tryz.prog 62 (.nilFunc) := ⟨by kernel_rfl⟩
instance : TS Tryz.prog 62 := ⟨by kernel_rfl⟩
instance : TZ Tryz.prog 63 [.pointer none] := ⟨by kernel_rfl⟩
instance : TZV Tryz.prog 63 (.pointer none) := ⟨by kernel_rfl⟩
instance : TS Tryz.prog 63 := ⟨by kernel_rfl⟩
instance : TPtr Tryz.prog 63 65 := ⟨by kernel_rfl⟩
instance : TZ Tryz.prog 64 [.slice none 0 0, .int .i64 0, .int .i64 0, .int .i64 0, .int .i64 0, .int .i64 0, .int .i64 0] := ⟨by kernel_rfl⟩
instance : TZV Tryz.prog 64 (.agg #[.slice none 0 0, .int .i64 0, .int .i64 0, .int .i64 0, .int .i64 0, .int .i64 0, .int .i64 0]) := ⟨by kernel_rfl⟩
instance : TA Tryz.prog 64 7 := ⟨by kernel_rfl⟩
instance : TB Tryz.prog 64 [(0, 1), (1, 1), (2, 2), (4, 2), (6, 1)] [.slice none 0 0, .int .i64 0, .int .i64 0, .int .i64 0, .int .i64 0, .int .i64 0, .int .i64 0] := ⟨by kernel_rfl, by kernel_rfl⟩
instance : TF Tryz.prog 64 0 0 := ⟨by kernel_rfl⟩
instance : TF Tryz.prog 64 1 1 := ⟨by kernel_rfl⟩
instance : TF Tryz.prog 64 2 2 := ⟨by kernel_rfl⟩
instance : TF Tryz.prog 64 3 4 := ⟨by kernel_rfl⟩
instance : TF Tryz.prog 64 4 6 := ⟨by kernel_rfl⟩
instance : TZ Tryz.prog 65 [.slice none 0 0, .int .i64 0, .int .i64 0, .int .i64 0, .int .i64 0, .int .i64 0, .int .i64 0] := ⟨by kernel_rfl⟩
instance : TZV Tryz.prog 65 (.agg #[.slice none 0 0, .int .i64 0, .int .i64 0, .int .i64 0, .int .i64 0, .int .i64 0, .int .i64 0]) := ⟨by kernel_rfl⟩
instance : TA Tryz.prog 65 7 := ⟨by kernel_rfl⟩
instance : TB Tryz.prog 65 [(0, 1), (1, 1), (2, 2), (4, 2), (6, 1)] [.slice none 0 0, .int .i64 0, .int .i64 0, .int .i64 0, .int .i64 0, .int .i64 0, .int .i64 0] := ⟨by kernel_rfl, by kernel_rfl⟩
instance : TF Tryz.prog 65 0 0 := ⟨by kernel_rfl⟩
instance : TF Tryz.prog 65 1 1 := ⟨by kernel_rfl⟩
instance : TF Tryz.prog 65 2 2 := ⟨by kernel_rfl⟩
instance : TF Tryz.prog 65 3 4 := ⟨by kernel_rfl⟩
instance : TF Tryz.prog 65 4 6 := ⟨by kernel_rfl⟩
instance : TZ Tryz.prog 67 [.nilFunc] := ⟨by kernel_rfl⟩
instance : TZV Tryz.prog 67 (.nilFunc) := ⟨by kernel_rfl⟩
instance : TS Tryz.prog 67 := ⟨by kernel_rfl⟩
instance : TZ Tryz.prog 68 [.pointer none] := ⟨by kernel_rfl⟩
instance : TZV Tryz.prog 68 (.pointer none) := ⟨by kernel_rfl⟩
instance : TS Tryz.prog 68 := ⟨by kernel_rfl⟩
instance : TPtr Tryz.prog 68 73 := ⟨by kernel_rfl⟩
instance : TZ Tryz.prog 69 [.nilFunc] := ⟨by kernel_rfl⟩
instance : TZV Tryz.prog 69 (.nilFunc) := ⟨by kernel_rfl⟩
instance : TS Tryz.prog 69 := ⟨by kernel_rfl⟩
instance : TZ Tryz.prog 70 [.nilFunc] := ⟨by kernel_rfl⟩
instance : TZV Tryz.prog 70 (.nilFunc) := ⟨by kernel_rfl⟩
instance : TS Tryz.prog 70 := ⟨by kernel_rfl⟩
instance : TZ Tryz.prog 71 [.nilFunc] := ⟨by kernel_rfl⟩
instance : TZV Tryz.prog 71 (.nilFunc) := ⟨by kernel_rfl⟩
instance : TS Tryz.prog 71 := ⟨by kernel_rfl⟩
instance : TZ Tryz.prog 72 [.string ⟨#[]⟩, .slice none 0 0, .int .i64 0, .int .i64 0, .int .i64 0, .int .i64 0] := ⟨by kernel_rfl⟩
instance : TZV Tryz.prog 72 (.agg #[.string ⟨#[]⟩, .slice none 0 0, .int .i64 0, .int .i64 0, .int .i64 0, .int .i64 0]) := ⟨by kernel_rfl⟩
instance : TA Tryz.prog 72 6 := ⟨by kernel_rfl⟩
instance : TB Tryz.prog 72 [(0, 1), (1, 1), (2, 1), (3, 2), (5, 1)] [.string ⟨#[]⟩, .slice none 0 0, .int .i64 0, .int .i64 0, .int .i64 0, .int .i64 0] := ⟨by kernel_rfl, by kernel_rfl⟩
instance : TF Tryz.prog 72 0 0 := ⟨by kernel_rfl⟩
instance : TF Tryz.prog 72 1 1 := ⟨by kernel_rfl⟩
instance : TF Tryz.prog 72 2 2 := ⟨by kernel_rfl⟩
instance : TF Tryz.prog 72 3 3 := ⟨by kernel_rfl⟩
instance : TF Tryz.prog 72 4 5 := ⟨by kernel_rfl⟩
instance : TZ Tryz.prog 73 [.string ⟨#[]⟩, .slice none 0 0, .int .i64 0, .int .i64 0, .int .i64 0, .int .i64 0] := ⟨by kernel_rfl⟩
instance : TZV Tryz.prog 73 (.agg #[.string ⟨#[]⟩, .slice none 0 0, .int .i64 0, .int .i64 0, .int .i64 0, .int .i64 0]) := ⟨by kernel_rfl⟩
instance : TA Tryz.prog 73 6 := ⟨by kernel_rfl⟩
instance : TB Tryz.prog 73 [(0, 1), (1, 1), (2, 1), (3, 2), (5, 1)] [.string ⟨#[]⟩, .slice none 0 0, .int .i64 0, .int .i64 0, .int .i64 0, .int .i64 0] := ⟨by kernel_rfl, by kernel_rfl⟩
instance : TF Tryz.prog 73 0 0 := ⟨by kernel_rfl⟩
instance : TF Tryz.prog 73 1 1 := ⟨by kernel_rfl⟩
instance : TF Tryz.prog 73 2 2 := ⟨by kernel_rfl⟩
instance : TF Tryz.prog 73 3 3 := ⟨by kernel_rfl⟩
instance : TF Tryz.prog 73 4 5 := ⟨by kernel_rfl⟩
instance : TZ Tryz.prog 74 [.nilFunc] := ⟨by kernel_rfl⟩
instance : TZV Tryz.prog 74 (.nilFunc) := ⟨by kernel_rfl⟩
instance : TS Tryz.prog 74 := ⟨by kernel_rfl⟩
instance : TZ Tryz.prog 75 [.nilFunc] := ⟨by kernel_rfl⟩
instance : TZV Tryz.prog 75 (.nilFunc) := ⟨by kernel_rfl⟩
instance : TS Tryz.prog 75 := ⟨by kernel_rfl⟩
instance : TZ Tryz.prog 76 [.nilFunc] := ⟨by kernel_rfl⟩
instance : TZV Tryz.prog 76 (.nilFunc) := ⟨by kernel_rfl⟩
instance : TS Tryz.prog 76 := ⟨by kernel_rfl⟩
instance : TZ Tryz.prog 77 [.pointer none] := ⟨by kernel_rfl⟩
instance : TZV Tryz.prog 77 (.pointer none) := ⟨by kernel_rfl⟩
instance : TS Tryz.prog 77 := ⟨by kernel_rfl⟩
instance : TPtr Tryz.prog 77 80 := ⟨by kernel_rfl⟩
instance : TZ Tryz.prog 78 [.slice none 0 0] := ⟨by kernel_rfl⟩
instance : TZV Tryz.prog 78 (.slice none 0 0) := ⟨by kernel_rfl⟩
instance : TS Tryz.prog 78 := ⟨by kernel_rfl⟩
instance : TL Tryz.prog 78 5 1 1 [.int .u8 0] := ⟨by kernel_rfl, by kernel_rfl, by kernel_rfl, by decide⟩
instance : TZ Tryz.prog 79 [.pointer none, .slice none 0 0] := ⟨by kernel_rfl⟩
instance : TZV Tryz.prog 79 (.agg #[.pointer none, .slice none 0 0]) := ⟨by kernel_rfl⟩
instance : TA Tryz.prog 79 2 := ⟨by kernel_rfl⟩
instance : TB Tryz.prog 79 [(0, 1), (1, 1)] [.pointer none, .slice none 0 0] := ⟨by kernel_rfl, by kernel_rfl⟩
instance : TF Tryz.prog 79 0 0 := ⟨by kernel_rfl⟩
instance : TF Tryz.prog 79 1 1 := ⟨by kernel_rfl⟩
instance : TZ Tryz.prog 80 [.pointer none, .slice none 0 0] := ⟨by kernel_rfl⟩
instance : TZV Tryz.prog 80 (.agg #[.pointer none, .slice none 0 0]) := ⟨by kernel_rfl⟩
instance : TA Tryz.prog 80 2 := ⟨by kernel_rfl⟩
instance : TB Tryz.prog 80 [(0, 1), (1, 1)] [.pointer none, .slice none 0 0] := ⟨by kernel_rfl, by kernel_rfl⟩
instance : TF Tryz.prog 80 0 0 := ⟨by kernel_rfl⟩
instance : TF Tryz.prog 80 1 1 := ⟨by kernel_rfl⟩
instance : TZ Tryz.prog 81 [.slice none 0 0] := ⟨by kernel_rfl⟩
instance : TZV Tryz.prog 81 (.slice none 0 0) := ⟨by kernel_rfl⟩
instance : TS Tryz.prog 81 := ⟨by kernel_rfl⟩
instance : TL Tryz.prog 81 9 1 16 [.string ⟨#[]⟩] := ⟨by kernel_rfl, by kernel_rfl, by kernel_rfl, by decide⟩
instance : TZ Tryz.prog 82 [.nilFunc] := ⟨by kernel_rfl⟩
instance : TZV Tryz.prog 82 (.nilFunc) := ⟨by kernel_rfl⟩
instance : TS Tryz.prog 82 := ⟨by kernel_rfl⟩
instance : TZ Tryz.prog 83 [.nilIface] := ⟨by kernel_rfl⟩
instance : TZV Tryz.prog 83 (.nilIface) := ⟨by kernel_rfl⟩
instance : TS Tryz.prog 83 := ⟨by kernel_rfl⟩
instance : TZ Tryz.prog 84 [.nilIface] := ⟨by kernel_rfl⟩
instance : TZV Tryz.prog 84 (.nilIface) := ⟨by kernel_rfl⟩
instance : TS Tryz.prog 84 := ⟨by kernel_rfl⟩
instance : TZ Tryz.prog 86 [.nilFunc] := ⟨by kernel_rfl⟩
instance : TZV Tryz.prog 86 (.nilFunc) := ⟨by kernel_rfl⟩
instance : TS Tryz.prog 86 := ⟨by kernel_rfl⟩
instance : TZ Tryz.prog 87 [.nilFunc] := ⟨by kernel_rfl⟩
instance : TZV Tryz.prog 87 (.nilFunc) := ⟨by kernel_rfl⟩
instance : TS Tryz.prog 87 := ⟨by kernel_rfl⟩
instance : TZ Tryz.prog 88 [.nilFunc] := ⟨by kernel_rfl⟩
instance : TZV Tryz.prog 88 (.nilFunc) := ⟨by kernel_rfl⟩
instance : TS Tryz.prog 88 := ⟨by kernel_rfl⟩
instance : TZ Tryz.prog 89 [.nilFunc] := ⟨by kernel_rfl⟩
instance : TZV Tryz.prog 89 (.nilFunc) := ⟨by kernel_rfl⟩
instance : TS Tryz.prog 89 := ⟨by kernel_rfl⟩
instance : TZ Tryz.prog 90 [.nilFunc] := ⟨by kernel_rfl⟩
instance : TZV Tryz.prog 90 (.nilFunc) := ⟨by kernel_rfl⟩
instance : TS Tryz.prog 90 := ⟨by kernel_rfl⟩
instance : TZ Tryz.prog 91 [.nilFunc] := ⟨by kernel_rfl⟩
instance : TZV Tryz.prog 91 (.nilFunc) := ⟨by kernel_rfl⟩
instance : TS Tryz.prog 91 := ⟨by kernel_rfl⟩
instance : TZ Tryz.prog 92 [.nilFunc] := ⟨by kernel_rfl⟩
instance : TZV Tryz.prog 92 (.nilFunc) := ⟨by kernel_rfl⟩
instance : TS Tryz.prog 92 := ⟨by kernel_rfl⟩
instance : TZ Tryz.prog 93 [.nilFunc] := ⟨by kernel_rfl⟩
instance : TZV Tryz.prog 93 (.nilFunc) := ⟨by kernel_rfl⟩
instance : TS Tryz.prog 93 := ⟨by kernel_rfl⟩
instance : TZ Tryz.prog 94 [.nilFunc] := ⟨by kernel_rfl⟩
instance : TZV Tryz.prog 94 (.nilFunc) := ⟨by kernel_rfl⟩
instance : TS Tryz.prog 94 := ⟨by kernel_rfl⟩
instance : TZ Tryz.prog 95 [.nilFunc] := ⟨by kernel_rfl⟩
instance : TZV Tryz.prog 95 (.nilFunc) := ⟨by kernel_rfl⟩
instance : TS Tryz.prog 95 := ⟨by kernel_rfl⟩
instance : TZ Tryz.prog 96 [.nilFunc] := ⟨by kernel_rfl⟩
instance : TZV Tryz.prog 96 (.nilFunc) := ⟨by kernel_rfl⟩
instance : TS Tryz.prog 96 := ⟨by kernel_rfl⟩
instance : TZ Tryz.prog 97 [.slice none 0 0] := ⟨by kernel_rfl⟩
instance : TZV Tryz.prog 97 (.slice none 0 0) := ⟨by kernel_rfl⟩
instance : TS Tryz.prog 97 := ⟨by kernel_rfl⟩
instance : TL Tryz.prog 97 3 1 8 [.int .i64 0] := ⟨by kernel_rfl, by kernel_rfl, by kernel_rfl, by decide⟩
instance : TZ Tryz.prog 98 [.nilFunc] := ⟨by kernel_rfl⟩
instance : TZV Tryz.prog 98 (.nilFunc) := ⟨by kernel_rfl⟩
instance : TS Tryz.prog 98 := ⟨by kernel_rfl⟩
instance : TZ Tryz.prog 99 [.int .u64 0] := ⟨by kernel_rfl⟩
instance : TZV Tryz.prog 99 (.int .u64 0) := ⟨by kernel_rfl⟩
instance : TS Tryz.prog 99 := ⟨by kernel_rfl⟩
instance : TInt Tryz.prog 99 .u64 := ⟨by kernel_rfl⟩
instance : TZ Tryz.prog 100 [.int .i64 0, .string ⟨#[]⟩, .int .u64 0, .int .i64 0, .int .i64 0] := ⟨by kernel_rfl⟩
instance : TZV Tryz.prog 100 (.agg #[.int .i64 0, .string ⟨#[]⟩, .int .u64 0, .int .i64 0, .int .i64 0]) := ⟨by kernel_rfl⟩
instance : TA Tryz.prog 100 5 := ⟨by kernel_rfl⟩
instance : TEq Tryz.prog 100 [5, 1, 9, 5, 5] := ⟨by kernel_rfl, by kernel_rfl, by kernel_rfl⟩
instance : TB Tryz.prog 100 [(0, 1), (1, 1), (2, 1), (3, 2)] [.int .i64 0, .string ⟨#[]⟩, .int .u64 0, .int .i64 0, .int .i64 0] := ⟨by kernel_rfl, by kernel_rfl⟩
instance : TF Tryz.prog 100 0 0 := ⟨by kernel_rfl⟩
instance : TF Tryz.prog 100 1 1 := ⟨by kernel_rfl⟩
instance : TF Tryz.prog 100 2 2 := ⟨by kernel_rfl⟩
instance : TF Tryz.prog 100 3 3 := ⟨by kernel_rfl⟩
instance : TZ Tryz.prog 101 [.int .i64 0, .string ⟨#[]⟩, .int .u64 0, .int .i64 0, .int .i64 0] := ⟨by kernel_rfl⟩
instance : TZV Tryz.prog 101 (.agg #[.int .i64 0, .string ⟨#[]⟩, .int .u64 0, .int .i64 0, .int .i64 0]) := ⟨by kernel_rfl⟩
instance : TA Tryz.prog 101 5 := ⟨by kernel_rfl⟩
instance : TEq Tryz.prog 101 [5, 1, 9, 5, 5] := ⟨by kernel_rfl, by kernel_rfl, by kernel_rfl⟩
instance : TB Tryz.prog 101 [(0, 1), (1, 1), (2, 1), (3, 2)] [.int .i64 0, .string ⟨#[]⟩, .int .u64 0, .int .i64 0, .int .i64 0] := ⟨by kernel_rfl, by kernel_rfl⟩
instance : TF Tryz.prog 101 0 0 := ⟨by kernel_rfl⟩
instance : TF Tryz.prog 101 1 1 := ⟨by kernel_rfl⟩
instance : TF Tryz.prog 101 2 2 := ⟨by kernel_rfl⟩
instance : TF Tryz.prog 101 3 3 := ⟨by kernel_rfl⟩
instance : TZ Tryz.prog 103 [.nilFunc] := ⟨by kernel_rfl⟩
instance : TZV Tryz.prog 103 (.nilFunc) := ⟨by kernel_rfl⟩
instance : TS Tryz.prog 103 := ⟨by kernel_rfl⟩
instance : TZ Tryz.prog 104 [.nilFunc] := ⟨by kernel_rfl⟩
instance : TZV Tryz.prog 104 (.nilFunc) := ⟨by kernel_rfl⟩
instance : TS Tryz.prog 104 := ⟨by kernel_rfl⟩
instance : TZ Tryz.prog 105 [.nilFunc] := ⟨by kernel_rfl⟩
instance : TZV Tryz.prog 105 (.nilFunc) := ⟨by kernel_rfl⟩
instance : TS Tryz.prog 105 := ⟨by kernel_rfl⟩
instance : TZ Tryz.prog 106 [.nilFunc] := ⟨by kernel_rfl⟩
instance : TZV Tryz.prog 106 (.nilFunc) := ⟨by kernel_rfl⟩
instance : TS Tryz.prog 106 := ⟨by kernel_rfl⟩
instance : TZ Tryz.prog 108 [.nilFunc] := ⟨by kernel_rfl⟩
instance : TZV Tryz.prog 108 (.nilFunc) := ⟨by kernel_rfl⟩
instance : TS Tryz.prog 108 := ⟨by kernel_rfl⟩
instance : TZ Tryz.prog 109 [.nilFunc] := ⟨by kernel_rfl⟩
instance : TZV Tryz.prog 109 (.nilFunc) := ⟨by kernel_rfl⟩
instance : TS Tryz.prog 109 := ⟨by kernel_rfl⟩
instance : TZ Tryz.prog 110 [.nilFunc] := ⟨by kernel_rfl⟩
instance : TZV Tryz.prog 110 (.nilFunc) := ⟨by kernel_rfl⟩
instance : TS Tryz.prog 110 := ⟨by kernel_rfl⟩
instance : TZ Tryz.prog 111 [.nilFunc] := ⟨by kernel_rfl⟩
instance : TZV Tryz.prog 111 (.nilFunc) := ⟨by kernel_rfl⟩
instance : TS Tryz.prog 111 := ⟨by kernel_rfl⟩
instance : TZ Tryz.prog 112 [.nilFunc] := ⟨by kernel_rfl⟩
instance : TZV Tryz.prog 112 (.nilFunc) := ⟨by kernel_rfl⟩
instance : TS Tryz.prog 112 := ⟨by kernel_rfl⟩
instance : TZ Tryz.prog 113 [.nilFunc] := ⟨by kernel_rfl⟩
instance : TZV Tryz.prog 113 (.nilFunc) := ⟨by kernel_rfl⟩
instance : TS Tryz.prog 113 := ⟨by kernel_rfl⟩
instance : TZ Tryz.prog 114 [.nilFunc] := ⟨by kernel_rfl⟩
instance : TZV Tryz.prog 114 (.nilFunc) := ⟨by kernel_rfl⟩
instance : TS Tryz.prog 114 := ⟨by kernel_rfl⟩
instance : TZ Tryz.prog 115 [.nilFunc] := ⟨by kernel_rfl⟩
instance : TZV Tryz.prog 115 (.nilFunc) := ⟨by kernel_rfl⟩
instance : TS Tryz.prog 115 := ⟨by kernel_rfl⟩
instance : TZ Tryz.prog 116 [.pointer none] := ⟨by kernel_rfl⟩
instance : TZV Tryz.prog 116 (.pointer none) := ⟨by kernel_rfl⟩
instance : TS Tryz.prog 116 := ⟨by kernel_rfl⟩
instance : TPtr Tryz.prog 116 5 := ⟨by kernel_rfl⟩
instance : TZ Tryz.prog 117 [.nilFunc] := ⟨by kernel_rfl⟩
instance : TZV Tryz.prog 117 (.nilFunc) := ⟨by kernel_rfl⟩
instance : TS Tryz.prog 117 := ⟨by kernel_rfl⟩
instance : TZ Tryz.prog 118 [.nilFunc] := ⟨by kernel_rfl⟩
instance : TZV Tryz.prog 118 (.nilFunc) := ⟨by kernel_rfl⟩
instance : TS Tryz.prog 118 := ⟨by kernel_rfl⟩
instance : TZ Tryz.prog 119 [.nilFunc] := ⟨by kernel_rfl⟩
instance : TZV Tryz.prog 119 (.nilFunc) := ⟨by kernel_rfl⟩
instance : TS Tryz.prog 119 := ⟨by kernel_rfl⟩
instance : TZ Tryz.prog 120 [.nilFunc] := ⟨by kernel_rfl⟩
instance : TZV Tryz.prog 120 (.nilFunc) := ⟨by kernel_rfl⟩
instance : TS Tryz.prog 120 := ⟨by kernel_rfl⟩
instance : TZ Tryz.prog 122 [.nilFunc] := ⟨by kernel_rfl⟩
instance : TZV Tryz.prog 122 (.nilFunc) := ⟨by kernel_rfl⟩
instance : TS Tryz.prog 122 := ⟨by kernel_rfl⟩
instance : TZ Tryz.prog 124 [.nilFunc] := ⟨by kernel_rfl⟩
instance : TZV Tryz.prog 124 (.nilFunc) := ⟨by kernel_rfl⟩
instance : TS Tryz.prog 124 := ⟨by kernel_rfl⟩
instance : TZ Tryz.prog 125 [.nilFunc] := ⟨by kernel_rfl⟩
instance : TZV Tryz.prog 125 (.nilFunc) := ⟨by kernel_rfl⟩
instance : TS Tryz.prog 125 := ⟨by kernel_rfl⟩
instance : TZ Tryz.prog 126 [.nilFunc] := ⟨by kernel_rfl⟩
instance : TZV Tryz.prog 126 (.nilFunc) := ⟨by kernel_rfl⟩
instance : TS Tryz.prog 126 := ⟨by kernel_rfl⟩
instance : TZ Tryz.prog 127 [.nilFunc] := ⟨by kernel_rfl⟩
instance : TZV Tryz.prog 127 (.nilFunc) := ⟨by kernel_rfl⟩
instance : TS Tryz.prog 127 := ⟨by kernel_rfl⟩
instance : TZ Tryz.prog 128 [.nilFunc] := ⟨by kernel_rfl⟩
instance : TZV Tryz.prog 128 (.nilFunc) := ⟨by kernel_rfl⟩
instance : TS Tryz.prog 128 := ⟨by kernel_rfl⟩
instance : TZ Tryz.prog 129 [.pointer none] := ⟨by kernel_rfl⟩
instance : TZV Tryz.prog 129 (.pointer none) := ⟨by kernel_rfl⟩
instance : TS Tryz.prog 129 := ⟨by kernel_rfl⟩
instance : TZ Tryz.prog 130 [.nilFunc] := ⟨by kernel_rfl⟩
instance : TZV Tryz.prog 130 (.nilFunc) := ⟨by kernel_rfl⟩
instance : TS Tryz.prog 130 := ⟨by kernel_rfl⟩
instance : TZ Tryz.prog 131 [.nilFunc] := ⟨by kernel_rfl⟩
instance : TZV Tryz.prog 131 (.nilFunc) := ⟨by kernel_rfl⟩
instance : TS Tryz.prog 131 := ⟨by kernel_rfl⟩
instance : TZ Tryz.prog 132 [.nilFunc] := ⟨by kernel_rfl⟩
instance : TZV Tryz.prog 132 (.nilFunc) := ⟨by kernel_rfl⟩
instance : TS Tryz.prog 132 := ⟨by kernel_rfl⟩
instance : TZ Tryz.prog 133 [.nilFunc] := ⟨by kernel_rfl⟩
instance : TZV Tryz.prog 133 (.nilFunc) := ⟨by kernel_rfl⟩
instance : TS Tryz.prog 133 := ⟨by kernel_rfl⟩
instance : TZ Tryz.prog 134 [.int .u64 0] := ⟨by kernel_rfl⟩
instance : TZV Tryz.prog 134 (.int .u64 0) := ⟨by kernel_rfl⟩
instance : TS Tryz.prog 134 := ⟨by kernel_rfl⟩
instance : TInt Tryz.prog 134 .u64 := ⟨by kernel_rfl⟩
instance : TZ Tryz.prog 135 [.nilFunc] := ⟨by kernel_rfl⟩
instance : TZV Tryz.prog 135 (.nilFunc) := ⟨by kernel_rfl⟩
instance : TS Tryz.prog 135 := ⟨by kernel_rfl⟩
instance : TZ Tryz.prog 136 [.nilFunc] := ⟨by kernel_rfl⟩
instance : TZV Tryz.prog 136 (.nilFunc) := ⟨by kernel_rfl⟩
instance : TS Tryz.prog 136 := ⟨by kernel_rfl⟩
instance : TZ Tryz.prog 137 [.nilFunc] := ⟨by kernel_rfl⟩
instance : TZV Tryz.prog 137 (.nilFunc) := ⟨by kernel_rfl⟩
instance : TS Tryz.prog 137 := ⟨by kernel_rfl⟩
instance : TZ Tryz.prog 138 [.nilFunc] := ⟨by kernel_rfl⟩
instance : TZV Tryz.prog 138 (.nilFunc) := ⟨by kernel_rfl⟩
instance : TS Tryz.prog 138 := ⟨by kernel_rfl⟩
instance : TZ Tryz.prog 139 [.int .u8 0, .int .u8 0, .int .u8 0, .int .u8 0, .int .u8 0, .int .u8 0, .int .u8 0, .int .u8 0, .int .u8 0, .int .u8 0, .int .u8 0, .int .u8 0, .int .u8 0, .int .u8 0, .int .u8 0, .int .u8 0, .int .u8 0, .int .u8 0, .int .u8 0, .int .u8 0, .int .u8 0, .int .u8 0, .int .u8 0, .int .u8 0] := ⟨by kernel_rfl⟩
instance : TZV Tryz.prog 139 (.agg #[.int .u8 0, .int .u8 0, .int .u8 0, .int .u8 0, .int .u8 0, .int .u8 0, .int .u8 0, .int .u8 0, .int .u8 0, .int .u8 0, .int .u8 0, .int .u8 0, .int .u8 0, .int .u8 0, .int .u8 0, .int .u8 0, .int .u8 0, .int .u8 0, .int .u8 0, .int .u8 0, .int .u8 0, .int .u8 0, .int .u8 0, .int .u8 0]) := ⟨by kernel_rfl⟩
instance : TA Tryz.prog 139 24 := ⟨by kernel_rfl⟩
instance : TArr Tryz.prog 139 24 5 1 := ⟨by kernel_rfl, by kernel_rfl⟩
instance : TZ Tryz.prog 140 [.nilFunc] := ⟨by kernel_rfl⟩
instance : TZV Tryz.prog 140 (.nilFunc) := ⟨by kernel_rfl⟩
instance : TS Tryz.prog 140 := ⟨by kernel_rfl⟩
instance : TZ Tryz.prog 141 [.nilFunc] := ⟨by kernel_rfl⟩
instance : TZV Tryz.prog 141 (.nilFunc) := ⟨by kernel_rfl⟩
instance : TS Tryz.prog 141 := ⟨by kernel_rfl⟩
instance : TZ Tryz.prog 143 [.nilFunc] := ⟨by kernel_rfl⟩
instance : TZV Tryz.prog 143 (.nilFunc) := ⟨by kernel_rfl⟩
instance : TS Tryz.prog 143 := ⟨by kernel_rfl⟩
instance : TZ Tryz.prog 144 [.nilFunc] := ⟨by kernel_rfl⟩
instance : TZV Tryz.prog 144 (.nilFunc) := ⟨by kernel_rfl⟩
instance : TS Tryz.prog 144 := ⟨by kernel_rfl⟩
instance : TZ Tryz.prog 145 [.int .u32 0] := ⟨by kernel_rfl⟩
instance : TZV Tryz.prog 145 (.int .u32 0) := ⟨by kernel_rfl⟩
instance : TS Tryz.prog 145 := ⟨by kernel_rfl⟩
instance : TInt Tryz.prog 145 .u32 := ⟨by kernel_rfl⟩
instance : TZ Tryz.prog 147 [.nilFunc] := ⟨by kernel_rfl⟩
instance : TZV Tryz.prog 147 (.nilFunc) := ⟨by kernel_rfl⟩
instance : TS Tryz.prog 147 := ⟨by kernel_rfl⟩
instance : TZ Tryz.prog 148 [.nilFunc] := ⟨by kernel_rfl⟩
instance : TZV Tryz.prog 148 (.nilFunc) := ⟨by kernel_rfl⟩
instance : TS Tryz.prog 148 := ⟨by kernel_rfl⟩
instance : TZ Tryz.prog 149 [.int .i64 0] := ⟨by kernel_rfl⟩
instance : TZV Tryz.prog 149 (.int .i64 0) := ⟨by kernel_rfl⟩
instance : TS Tryz.prog 149 := ⟨by kernel_rfl⟩
instance : TInt Tryz.prog 149 .i64 := ⟨by kernel_rfl⟩
instance : TZ Tryz.prog 151 [.nilFunc] := ⟨by kernel_rfl⟩
instance : TZV Tryz.prog 151 (.nilFunc) := ⟨by kernel_rfl⟩
instance : TS Tryz.prog 151 := ⟨by kernel_rfl⟩
instance : TZ Tryz.prog 152 [.nilFunc] := ⟨by kernel_rfl⟩
instance : TZV Tryz.prog 152 (.nilFunc) := ⟨by kernel_rfl⟩
instance : TS Tryz.prog 152 := ⟨by kernel_rfl⟩
instance : TZ Tryz.prog 153 [.nilFunc] := ⟨by kernel_rfl⟩
instance : TZV Tryz.prog 153 (.nilFunc) := ⟨by kernel_rfl⟩
instance : TS Tryz.prog 153 := ⟨by kernel_rfl⟩
instance : TZ Tryz.prog 155 [.nilFunc] := ⟨by kernel_rfl⟩
instance : TZV Tryz.prog 155 (.nilFunc) := ⟨by kernel_rfl⟩
instance : TS Tryz.prog 155 := ⟨by kernel_rfl⟩
instance : TZ Tryz.prog 156 [.nilFunc] := ⟨by kernel_rfl⟩
instance : TZV Tryz.prog 156 (.nilFunc) := ⟨by kernel_rfl⟩
instance : TS Tryz.prog 156 := ⟨by kernel_rfl⟩
instance : TZ Tryz.prog 157 [.nilFunc] := ⟨by kernel_rfl⟩
instance : TZV Tryz.prog 157 (.nilFunc) := ⟨by kernel_rfl⟩
instance : TS Tryz.prog 157 := ⟨by kernel_rfl⟩
instance : TZ Tryz.prog 158 [.nilFunc] := ⟨by kernel_rfl⟩
instance : TZV Tryz.prog 158 (.nilFunc) := ⟨by kernel_rfl⟩
instance : TS Tryz.prog 158 := ⟨by kernel_rfl⟩
instance : TZ Tryz.prog 159 [.int .u64 0, .int .u64 0, .int .u64 0, .int .u64 0, .int .u64 0, .int .u64 0, .int .u64 0, .int .u64 0, .int .u64 0, .int .u64 0, .int .u64 0, .int .u64 0, .int .u64 0, .int .u64 0, .int .u64 0, .int .u64 0, .int .u64 0, .int .u64 0, .int .u64 0, .int .u64 0] := ⟨by kernel_rfl⟩
instance : TZV Tryz.prog 159 (.agg #[.int .u64 0, .int .u64 0, .int .u64 0, .int .u64 0, .int .u64 0, .int .u64 0, .int .u64 0, .int .u64 0, .int .u64 0, .int .u64 0, .int .u64 0, .int .u64 0, .int .u64 0, .int .u64 0, .int .u64 0, .int .u64 0, .int .u64 0, .int .u64 0, .int .u64 0, .int .u64 0]) := ⟨by kernel_rfl⟩
instance : TA Tryz.prog 159 20 := ⟨by kernel_rfl⟩
instance : TArr Tryz.prog 159 20 99 1 := ⟨by kernel_rfl, by kernel_rfl⟩
instance : TA Tryz.prog 160 65 := ⟨by kernel_rfl⟩
instance : TArr Tryz.prog 160 65 5 1 := ⟨by kernel_rfl, by kernel_rfl⟩
instance : TZ Tryz.prog 161 [.int .u64 0] := ⟨by kernel_rfl⟩
instance : TZV Tryz.prog 161 (.int .u64 0) := ⟨by kernel_rfl⟩
instance : TS Tryz.prog 161 := ⟨by kernel_rfl⟩
instance : TInt Tryz.prog 161 .u64 := ⟨by kernel_rfl⟩
instance : TZ Tryz.prog 162 [.nilFunc] := ⟨by kernel_rfl⟩
instance : TZV Tryz.prog 162 (.nilFunc) := ⟨by kernel_rfl⟩
instance : TS Tryz.prog 162 := ⟨by kernel_rfl⟩
instance : TZ Tryz.prog 163 [.nilFunc] := ⟨by kernel_rfl⟩
instance : TZV Tryz.prog 163 (.nilFunc) := ⟨by kernel_rfl⟩
instance : TS Tryz.prog 163 := ⟨by kernel_rfl⟩
instance : TZ Tryz.prog 164 [.nilFunc] := ⟨by kernel_rfl⟩
instance : TZV Tryz.prog 164 (.nilFunc) := ⟨by kernel_rfl⟩
instance : TS Tryz.prog 164 := ⟨by kernel_rfl⟩
instance : TZ Tryz.prog 165 [.pointer none] := ⟨by kernel_rfl⟩
instance : TZV Tryz.prog 165 (.pointer none) := ⟨by kernel_rfl⟩
instance : TS Tryz.prog 165 := ⟨by kernel_rfl⟩
instance : TPtr Tryz.prog 165 3 := ⟨by kernel_rfl⟩
instance : TZ Tryz.prog 166 [.nilFunc] := ⟨by kernel_rfl⟩
instance : TZV Tryz.prog 166 (.nilFunc) := ⟨by kernel_rfl⟩
instance : TS Tryz.prog 166 := ⟨by kernel_rfl⟩
instance : TZ Tryz.prog 167 [.pointer none] := ⟨by kernel_rfl⟩
instance : TZV Tryz.prog 167 (.pointer none) := ⟨by kernel_rfl⟩
instance : TS Tryz.prog 167 := ⟨by kernel_rfl⟩
instance : TPtr Tryz.prog 167 161 := ⟨by kernel_rfl⟩
instance : TZ Tryz.prog 169 [.nilFunc] := ⟨by kernel_rfl⟩
instance : TZV Tryz.prog 169 (.nilFunc) := ⟨by kernel_rfl⟩
instance : TS Tryz.prog 169 := ⟨by kernel_rfl⟩
instance : TZ Tryz.prog 170 [.int .u8 0, .int .u8 0, .int .u8 0, .int .u8 0, .int .u8 0, .int .u8 0, .int .u8 0, .int .u8 0, .int .u8 0, .int .u8 0, .int .u8 0, .int .u8 0, .int .u8 0, .int .u8 0, .int .u8 0, .int .u8 0, .int .u8 0, .int .u8 0, .int .u8 0, .int .u8 0, .int .u8 0, .int .u8 0, .int .u8 0, .int .u8 0, .int .u8 0, .int .u8 0, .int .u8 0, .int .u8 0, .int .u8 0, .int .u8 0, .int .u8 0, .int .u8 0] := ⟨by kernel_rfl⟩
instance : TZV Tryz.prog 170 (.agg #[.int .u8 0, .int .u8 0, .int .u8 0, .int .u8 0, .int .u8 0, .int .u8 0, .int .u8 0, .int .u8 0, .int .u8 0, .int .u8 0, .int .u8 0, .int .u8 0, .int .u8 0, .int .u8 0, .int .u8 0, .int .u8 0, .int .u8 0, .int .u8 0, .int .u8 0, .int .u8 0, .int .u8 0, .int .u8 0, .int .u8 0, .int .u8 0, .int .u8 0, .int .u8 0, .int .u8 0, .int .u8 0, .int .u8 0, .int .u8 0, .int .u8 0, .int .u8 0]) := ⟨by kernel_rfl⟩
instance : TA Tryz.prog 170 32 := ⟨by kernel_rfl⟩
instance : TArr Tryz.prog 170 32 5 1 := ⟨by kernel_rfl, by kernel_rfl⟩
instance : TZ Tryz.prog 171 [.int .u8 0, .int .u8 0, .int .u8 0, .int .u8 0, .int .u8 0, .int .u8 0, .int .u8 0, .int .u8 0, .int .u8 0, .int .u8 0, .int .u8 0, .int .u8 0, .int .u8 0, .int .u8 0, .int .u8 0, .int .u8 0, .int .u8 0, .int .u8 0, .int .u8 0, .int .u8 0, .int .u8 0, .int .u8 0, .int .u8 0, .int .u8 0, .int .u8 0, .int .u8 0, .int .u8 0, .int .u8 0, .int .u8 0, .int .u8 0, .int .u8 0, .int .u8 0, .int .u8 0, .int .u8 0, .int .u8 0, .int .u8 0, .int .u8 0, .int .u8 0, .int .u8 0, .int .u8 0, .int .u8 0, .int .u8 0, .int .u8 0, .int .u8 0, .int .u8 0, .int .u8 0, .int .u8 0, .int .u8 0, .int .u8 0, .int .u8 0, .int .u8 0, .int .u8 0, .int .u8 0, .int .u8 0, .int .u8 0, .int .u8 0, .int .u8 0, .int .u8 0, .int .u8 0, .int .u8 0, .int .u8 0, .int .u8 0, .int .u8 0, .int .u8 0] := ⟨by kernel_rfl⟩
instance : TZV Tryz.prog 171 (.agg #[.int .u8 0, .int .u8 0, .int .u8 0, .int .u8 0, .int .u8 0, .int .u8 0, .int .u8 0, .int .u8 0, .int .u8 0, .int .u8 0, .int .u8 0, .int .u8 0, .int .u8 0, .int .u8 0, .int .u8 0, .int .u8 0, .int .u8 0, .int .u8 0, .int .u8 0, .int .u8 0, .int .u8 0, .int .u8 0, .int .u8 0, .int .u8 0, .int .u8 0, .int .u8 0, .int .u8 0, .int .u8 0, .int .u8 0, .int .u8 0, .int .u8 0, .int .u8 0, .int .u8 0, .int .u8 0, .int .u8 0, .int .u8 0, .int .u8 0, .int .u8 0, .int .u8 0, .int .u8 0, .int .u8 0, .int .u8 0, .int .u8 0, .int .u8 0, .int .u8 0, .int .u8 0, .int .u8 0, .int .u8 0, .int .u8 0, .int .u8 0, .int .u8 0, .int .u8 0, .int .u8 0, .int .u8 0, .int .u8 0, .int .u8 0, .int .u8 0, .int .u8 0, .int .u8 0, .int .u8 0, .int .u8 0, .int .u8 0, .int .u8 0, .int .u8 0]) := ⟨by kernel_rfl⟩
instance : TA Tryz.prog 171 64 := ⟨by kernel_rfl⟩
instance : TArr Tryz.prog 171 64 5 1 := ⟨by kernel_rfl, by kernel_rfl⟩
instance : TZ Tryz.prog 172 [.pointer none, .pointer none, .pointer none, .string ⟨#[]⟩] := ⟨by kernel_rfl⟩
instance : TZV Tryz.prog 172 (.agg #[.pointer none, .pointer none, .pointer none, .string ⟨#[]⟩]) := ⟨by kernel_rfl⟩
instance : TA Tryz.prog 172 4 := ⟨by kernel_rfl⟩
instance : TB Tryz.prog 172 [(0, 1), (1, 1), (2, 1), (3, 1)] [.pointer none, .pointer none, .pointer none, .string ⟨#[]⟩] := ⟨by kernel_rfl, by kernel_rfl⟩
instance : TF Tryz.prog 172 0 0 := ⟨by kernel_rfl⟩
instance : TF Tryz.prog 172 1 1 := ⟨by kernel_rfl⟩
instance : TF Tryz.prog 172 2 2 := ⟨by kernel_rfl⟩
instance : TF Tryz.prog 172 3 3 := ⟨by kernel_rfl⟩
instance : TZ Tryz.prog 173 [.pointer none, .pointer none, .pointer none, .string ⟨#[]⟩] := ⟨by kernel_rfl⟩
instance : TZV Tryz.prog 173 (.agg #[.pointer none, .pointer none, .pointer none, .string ⟨#[]⟩]) := ⟨by kernel_rfl⟩
instance : TA Tryz.prog 173 4 := ⟨by kernel_rfl⟩
instance : TB Tryz.prog 173 [(0, 1), (1, 1), (2, 1), (3, 1)] [.pointer none, .pointer none, .pointer none, .string ⟨#[]⟩] := ⟨by kernel_rfl, by kernel_rfl⟩
instance : TF Tryz.prog 173 0 0 := ⟨by kernel_rfl⟩
instance : TF Tryz.prog 173 1 1 := ⟨by kernel_rfl⟩
instance : TF Tryz.prog 173 2 2 := ⟨by kernel_rfl⟩
instance : TF Tryz.prog 173 3 3 := ⟨by kernel_rfl⟩
instance : TZ Tryz.prog 174 [] := ⟨by kernel_rfl⟩
instance : TZV Tryz.prog 174 (.agg #[]) := ⟨by kernel_rfl⟩
instance : TA Tryz.prog 174 0 := ⟨by kernel_rfl⟩
instance : TArr Tryz.prog 174 0 16 1 := ⟨by kernel_rfl, by kernel_rfl⟩
instance : TZ Tryz.prog 175 [] := ⟨by kernel_rfl⟩
instance : TZV Tryz.prog 175 (.agg #[]) := ⟨by kernel_rfl⟩
instance : TA Tryz.prog 175 0 := ⟨by kernel_rfl⟩
instance : TZ Tryz.prog 176 [] := ⟨by kernel_rfl⟩
instance : TZV Tryz.prog 176 (.agg #[]) := ⟨by kernel_rfl⟩
instance : TA Tryz.prog 176 0 := ⟨by kernel_rfl⟩
instance : TZ Tryz.prog 177 [.nilFunc] := ⟨by kernel_rfl⟩
instance : TZV Tryz.prog 177 (.nilFunc) := ⟨by kernel_rfl⟩
instance : TS Tryz.prog 177 := ⟨by kernel_rfl⟩
instance : TZ Tryz.prog 178 [.int .u8 0] := ⟨by kernel_rfl⟩
instance : TZV Tryz.prog 178 (.int .u8 0) := ⟨by kernel_rfl⟩
instance : TS Tryz.prog 178 := ⟨by kernel_rfl⟩
instance : TInt Tryz.prog 178 .u8 := ⟨by kernel_rfl⟩
instance : TZ Tryz.prog 179 [.int .u8 0] := ⟨by kernel_rfl⟩
instance : TZV Tryz.prog 179 (.int .u8 0) := ⟨by kernel_rfl⟩
instance : TS Tryz.prog 179 := ⟨by kernel_rfl⟩
instance : TInt Tryz.prog 179 .u8 := ⟨by kernel_rfl⟩
instance : TZ Tryz.prog 180 [.nilFunc] := ⟨by kernel_rfl⟩
instance : TZV Tryz.prog 180 (.nilFunc) := ⟨by kernel_rfl⟩
instance : TS Tryz.prog 180 := ⟨by kernel_rfl⟩
instance : TZ Tryz.prog 181 [.int .i32 0] := ⟨by kernel_rfl⟩
instance : TZV Tryz.prog 181 (.int .i32 0) := ⟨by kernel_rfl⟩
instance : TS Tryz.prog 181 := ⟨by kernel_rfl⟩
instance : TInt Tryz.prog 181 .i32 := ⟨by kernel_rfl⟩
instance : TZ Tryz.prog 182 [.int .i32 0] := ⟨by kernel_rfl⟩
instance : TZV Tryz.prog 182 (.int .i32 0) := ⟨by kernel_rfl⟩
instance : TS Tryz.prog 182 := ⟨by kernel_rfl⟩
instance : TInt Tryz.prog 182 .i32 := ⟨by kernel_rfl⟩
instance : TZ Tryz.prog 183 [.int .u64 0, .int .u64 0, .int .u32 0, .int .u8 0, .int .u8 0, .int .u8 0, .int .u8 0, .nilFunc, .pointer none, .int .i32 0, .int .i32 0] := ⟨by kernel_rfl⟩
instance : TZV Tryz.prog 183 (.agg #[.int .u64 0, .int .u64 0, .int .u32 0, .int .u8 0, .int .u8 0, .int .u8 0, .int .u8 0, .nilFunc, .pointer none, .int .i32 0, .int .i32 0]) := ⟨by kernel_rfl⟩
instance : TA Tryz.prog 183 11 := ⟨by kernel_rfl⟩
instance : TB Tryz.prog 183 [(0, 1), (1, 1), (2, 1), (3, 1), (4, 1), (5, 1), (6, 1), (7, 1), (8, 1), (9, 1), (10, 1)] [.int .u64 0, .int .u64 0, .int .u32 0, .int .u8 0, .int .u8 0, .int .u8 0, .int .u8 0, .nilFunc, .pointer none, .int .i32 0, .int .i32 0] := ⟨by kernel_rfl, by kernel_rfl⟩
instance : TF Tryz.prog 183 0 0 := ⟨by kernel_rfl⟩
instance : TF Tryz.prog 183 1 1 := ⟨by kernel_rfl⟩
instance : TF Tryz.prog 183 2 2 := ⟨by kernel_rfl⟩
instance : TF Tryz.prog 183 3 3 := ⟨by kernel_rfl⟩
instance : TF Tryz.prog 183 4 4 := ⟨by kernel_rfl⟩
instance : TF Tryz.prog 183 5 5 := ⟨by kernel_rfl⟩
instance : TF Tryz.prog 183 6 6 := ⟨by kernel_rfl⟩
instance : TF Tryz.prog 183 7 7 := ⟨by kernel_rfl⟩
instance : TF Tryz.prog 183 8 8 := ⟨by kernel_rfl⟩
instance : TF Tryz.prog 183 9 9 := ⟨by kernel_rfl⟩
instance : TF Tryz.prog 183 10 10 := ⟨by kernel_rfl⟩
instance : TZ Tryz.prog 184 [.int .u64 0, .int .u64 0, .int .u32 0, .int .u8 0, .int .u8 0, .int .u8 0, .int .u8 0, .nilFunc, .pointer none, .int .i32 0, .int .i32 0] := ⟨by kernel_rfl⟩
instance : TZV Tryz.prog 184 (.agg #[.int .u64 0, .int .u64 0, .int .u32 0, .int .u8 0, .int .u8 0, .int .u8 0, .int .u8 0, .nilFunc, .pointer none, .int .i32 0, .int .i32 0]) := ⟨by kernel_rfl⟩
instance : TA Tryz.prog 184 11 := ⟨by kernel_rfl⟩
instance : TB Tryz.prog 184 [(0, 1), (1, 1), (2, 1), (3, 1), (4, 1), (5, 1), (6, 1), (7, 1), (8, 1), (9, 1), (10, 1)] [.int .u64 0, .int .u64 0, .int .u32 0, .int .u8 0, .int .u8 0, .int .u8 0, .int .u8 0, .nilFunc, .pointer none, .int .i32 0, .int .i32 0] := ⟨by kernel_rfl, by kernel_rfl⟩
instance : TF Tryz.prog 184 0 0 := ⟨by kernel_rfl⟩
instance : TF Tryz.prog 184 1 1 := ⟨by kernel_rfl⟩
instance : TF Tryz.prog 184 2 2 := ⟨by kernel_rfl⟩
instance : TF Tryz.prog 184 3 3 := ⟨by kernel_rfl⟩
instance : TF Tryz.prog 184 4 4 := ⟨by kernel_rfl⟩
instance : TF Tryz.prog 184 5 5 := ⟨by kernel_rfl⟩
instance : TF Tryz.prog 184 6 6 := ⟨by kernel_rfl⟩
instance : TF Tryz.prog 184 7 7 := ⟨by kernel_rfl⟩
instance : TF Tryz.prog 184 8 8 := ⟨by kernel_rfl⟩
instance : TF Tryz.prog 184 9 9 := ⟨by kernel_rfl⟩
instance : TF Tryz.prog 184 10 10 := ⟨by kernel_rfl⟩
instance : FnOk Tryz.prog 3 := ⟨by kernel_rfl⟩
instance : FnOk Tryz.prog 4 := ⟨by kernel_rfl⟩
instance : FnOk Tryz.prog 5 := ⟨by kernel_rfl⟩
instance : FnOk Tryz.prog 6 := ⟨by kernel_rfl⟩
instance : FnOk Tryz.prog 7 := ⟨by kernel_rfl⟩
instance : FnOk Tryz.prog 8 := ⟨by kernel_rfl⟩
instance : FnOk Tryz.prog 9 := ⟨by kernel_rfl⟩
instance : FnOk Tryz.prog 10 := ⟨by kernel_rfl⟩
instance : FnOk Tryz.prog 11 := ⟨by kernel_rfl⟩
instance : FnOk Tryz.prog 12 := ⟨by kernel_rfl⟩
instance : FnOk Tryz.prog 13 := ⟨by kernel_rfl⟩
instance : FnOk Tryz.prog 14 := ⟨by kernel_rfl⟩
instance : FnOk Tryz.prog 15 := ⟨by kernel_rfl⟩
instance : FnOk Tryz.prog 16 := ⟨by kernel_rfl⟩
instance : FnOk Tryz.prog 17 := ⟨by kernel_rfl⟩
instance : FnOk Tryz.prog 18 := ⟨by kernel_rfl⟩
instance : FnOk Tryz.prog 19 := ⟨by kernel_rfl⟩
instance : FnOk Tryz.prog 20 := ⟨by kernel_rfl⟩
instance : FnOk Tryz.prog 21 := ⟨by kernel_rfl⟩
instance : FnOk Tryz.prog 22 := ⟨by kernel_rfl⟩
instance : FnOk Tryz.prog 23 := ⟨by kernel_rfl⟩
instance : FnOk Tryz.prog 24 := ⟨by kernel_rfl⟩
instance : FnOk Tryz.prog 25 := ⟨by kernel_rfl⟩
instance : FnOk Tryz.prog 26 := ⟨by kernel_rfl⟩
instance : FnOk Tryz.prog 27 := ⟨by kernel_rfl⟩
instance : FnOk Tryz.prog 28 := ⟨by kernel_rfl⟩
instance : FnOk Tryz.prog 29 := ⟨by kernel_rfl⟩
instance : FnOk Tryz.prog 30 := ⟨by kernel_rfl⟩
instance : FnOk Tryz.prog 31 := ⟨by kernel_rfl⟩
instance : FnOk Tryz.prog 32 := ⟨by kernel_rfl⟩
instance : FnOk Tryz.prog 33 := ⟨by kernel_rfl⟩
instance : FnOk Tryz.prog 34 := ⟨by kernel_rfl⟩
instance : FnOk Tryz.prog 35 := ⟨by kernel_rfl⟩
instance : FnOk Tryz.prog 36 := ⟨by kernel_rfl⟩
instance : FnOk Tryz.prog 37 := ⟨by kernel_rfl⟩
instance : FnOk Tryz.prog 38 := ⟨by kernel_rfl⟩
instance : FnOk Tryz.prog 39 := ⟨by kernel_rfl⟩
instance : FnOk Tryz.prog 40 := ⟨by kernel_rfl⟩
instance : FnOk Tryz.prog 41 := ⟨by kernel_rfl⟩
instance : FnOk Tryz.prog 42 := ⟨by kernel_rfl⟩
instance : FnOk Tryz.prog 43 := ⟨by kernel_rfl⟩
instance : FnOk Tryz.prog 44 := ⟨by kernel_rfl⟩
instance : FnOk Tryz.prog 45 := ⟨by kernel_rfl⟩
instance : FnOk Tryz.prog 46 := ⟨by kernel_rfl⟩
instance : FnOk Tryz.prog 47 := ⟨by kernel_rfl⟩
instance : FnOk Tryz.prog 48 := ⟨by kernel_rfl⟩
instance : FnOk Tryz.prog 49 := ⟨by kernel_rfl⟩
instance : FnOk Tryz.prog 50 := ⟨by kernel_rfl⟩
instance : FnOk Tryz.prog 51 := ⟨by kernel_rfl⟩
instance : FnOk Tryz.prog 52 := ⟨by kernel_rfl⟩
instance : FnOk Tryz.prog 53 := ⟨by kernel_rfl⟩
instance : FnOk Tryz.prog 54 := ⟨by kernel_rfl⟩
instance : FnOk Tryz.prog 55 := ⟨by kernel_rfl⟩
instance : FnOk Tryz.prog 56 := ⟨by kernel_rfl⟩
instance : FnOk Tryz.prog 57 := ⟨by kernel_rfl⟩
instance : FnOk Tryz.prog 58 := ⟨by kernel_rfl⟩
instance : FnOk Tryz.prog 59 := ⟨by kernel_rfl⟩
instance : FnOk Tryz.prog 60 := ⟨by kernel_rfl⟩
instance : FnOk Tryz.prog 61 := ⟨by kernel_rfl⟩
instance : FnOk Tryz.prog 62 := ⟨by kernel_rfl⟩
instance : FnOk Tryz.prog 63 := ⟨by kernel_rfl⟩
instance : FnOk Tryz.prog 64 := ⟨by kernel_rfl⟩
instance : FnOk Tryz.prog 65 := ⟨by kernel_rfl⟩
instance : FnOk Tryz.prog 66 := ⟨by kernel_rfl⟩
instance : FnOk Tryz.prog 67 := ⟨by kernel_rfl⟩
instance : FnOk Tryz.prog 68 := ⟨by kernel_rfl⟩
instance : FnOk Tryz.prog 69 := ⟨by kernel_rfl⟩
instance : FnOk Tryz.prog 70 := ⟨by kernel_rfl⟩
instance : FnOk Tryz.prog 71 := ⟨by kernel_rfl⟩
instance : FnOk Tryz.prog 72 := ⟨by kernel_rfl⟩
instance : FnOk Tryz.prog 74 := ⟨by kernel_rfl⟩
instance : FnOk Tryz.prog 75 := ⟨by kernel_rfl⟩
instance : FnOk Tryz.prog 76 := ⟨by kernel_rfl⟩
instance : FnOk Tryz.prog 77 := ⟨by kernel_rfl⟩
instance : FnOk Tryz.prog 78 := ⟨by kernel_rfl⟩
instance : FnOk Tryz.prog 79 := ⟨by kernel_rfl⟩
instance : FnOk Tryz.prog 80 := ⟨by kernel_rfl⟩
instance : FnOk Tryz.prog 81 := ⟨by kernel_rfl⟩
instance : FnOk Tryz.prog 82 := ⟨by kernel_rfl⟩
instance : FnOk Tryz.prog 83 := ⟨by kernel_rfl⟩
instance : FnOk Tryz.prog 84 := ⟨by kernel_rfl⟩
instance : FnOk Tryz.prog 85 := ⟨by kernel_rfl⟩
instance : FnOk Tryz.prog 86 := ⟨by kernel_rfl⟩
instance : FnOk Tryz.prog 87 := ⟨by kernel_rfl⟩
instance : FnOk Tryz.prog 88 := ⟨by kernel_rfl⟩
instance : FnOk Tryz.prog 89 := ⟨by kernel_rfl⟩
instance : FnOk Tryz.prog 90 := ⟨by kernel_rfl⟩
instance : FnOk Tryz.prog 91 := ⟨by kernel_rfl⟩
instance : FnOk Tryz.prog 92 := ⟨by kernel_rfl⟩
instance : FnOk Tryz.prog 93 := ⟨by kernel_rfl⟩
instance : FnOk Tryz.prog 94 := ⟨by kernel_rfl⟩
instance : FnOk Tryz.prog 95 := ⟨by kernel_rfl⟩
instance : FnOk Tryz.prog 96 := ⟨by kernel_rfl⟩
instance : FnOk Tryz.prog 97 := ⟨by kernel_rfl⟩
instance : FnOk Tryz.prog 98 := ⟨by kernel_rfl⟩
instance : FnOk Tryz.prog 99 := ⟨by kernel_rfl⟩
instance : FnOk Tryz.prog 100 := ⟨by kernel_rfl⟩
instance : FnOk Tryz.prog 101 := ⟨by kernel_rfl⟩
instance : FnOk Tryz.prog 102 := ⟨by kernel_rfl⟩
instance : FnOk Tryz.prog 103 := ⟨by kernel_rfl⟩
instance : FnOk Tryz.prog 104 := ⟨by kernel_rfl⟩
instance : FnOk Tryz.prog 105 := ⟨by kernel_rfl⟩
instance : FnOk Tryz.prog 106 := ⟨by kernel_rfl⟩
instance : FnOk Tryz.prog 107 := ⟨by kernel_rfl⟩
instance : FnOk Tryz.prog 108 := ⟨by kernel_rfl⟩
instance : FnOk Tryz.prog 109 := ⟨by kernel_rfl⟩
instance : FnOk Tryz.prog 110 := ⟨by kernel_rfl⟩
instance : FnOk Tryz.prog 111 := ⟨by kernel_rfl⟩
instance : FnOk Tryz.prog 112 := ⟨by kernel_rfl⟩
instance : FnOk Tryz.prog 113 := ⟨by kernel_rfl⟩
instance : FnOk Tryz.prog 115 := ⟨by kernel_rfl⟩
instance : FnOk Tryz.prog 116 := ⟨by kernel_rfl⟩
instance : FnOk Tryz.prog 117 := ⟨by kernel_rfl⟩
instance : FnOk Tryz.prog 118 := ⟨by kernel_rfl⟩
instance : FnOk Tryz.prog 119 := ⟨by kernel_rfl⟩
instance : FnOk Tryz.prog 120 := ⟨by kernel_rfl⟩
instance : FnOk Tryz.prog 122 := ⟨by kernel_rfl⟩
instance : FnOk Tryz.prog 123 := ⟨by kernel_rfl⟩
instance : FnOk Tryz.prog 124 := ⟨by kernel_rfl⟩
instance : FnOk Tryz.prog 125 := ⟨by kernel_rfl⟩
instance : FnOk Tryz.prog 126 := ⟨by kernel_rfl⟩
instance : FnOk Tryz.prog 127 := ⟨by kernel_rfl⟩
instance : FnOk Tryz.prog 128 := ⟨by kernel_rfl⟩
instance : FnOk Tryz.prog 129 := ⟨by kernel_rfl⟩
instance : FnOk Tryz.prog 130 := ⟨by kernel_rfl⟩
instance : FnOk Tryz.prog 131 := ⟨by kernel_rfl⟩
instance : FnOk Tryz.prog 133 := ⟨by kernel_rfl⟩
instance : FnOk Tryz.prog 135 := ⟨by kernel_rfl⟩
instance : FnOk Tryz.prog 136 := ⟨by kernel_rfl⟩
instance : FnOk Tryz.prog 137 := ⟨by kernel_rfl⟩
instance : FnOk Tryz.prog 138 := ⟨by kernel_rfl⟩
instance : FnOk Tryz.prog 139 := ⟨by kernel_rfl⟩
instance : FnOk Tryz.prog 140 := ⟨by kernel_rfl⟩
instance : FnOk Tryz.prog 141 := ⟨by kernel_rfl⟩
instance : FnOk Tryz.prog 142 := ⟨by kernel_rfl⟩
instance : FnOk Tryz.prog 143 := ⟨by kernel_rfl⟩
instance : FnOk Tryz.prog 144 := ⟨by kernel_rfl⟩
instance : FnOk Tryz.prog 145 := ⟨by kernel_rfl⟩
instance : FnOk Tryz.prog 146 := ⟨by kernel_rfl⟩
instance : FnOk Tryz.prog 147 := ⟨by kernel_rfl⟩
instance : FnOk Tryz.prog 148 := ⟨by kernel_rfl⟩
instance : FnOk Tryz.prog 149 := ⟨by kernel_rfl⟩
instance : FnOk Tryz.prog 150 := ⟨by kernel_rfl⟩
instance : FnOk Tryz.prog 151 := ⟨by kernel_rfl⟩
instance : FnOk Tryz.prog 152 := ⟨by kernel_rfl⟩
instance : FnOk Tryz.prog 153 := ⟨by kernel_rfl⟩
instance : FnOk Tryz.prog 154 := ⟨by kernel_rfl⟩
instance : FnOk Tryz.prog 155 := ⟨by kernel_rfl⟩
instance : FnOk Tryz.prog 156 := ⟨by kernel_rfl⟩
instance : FnOk Tryz.prog 157 := ⟨by kernel_rfl⟩
instance : FnOk Tryz.prog 158 := ⟨by kernel_rfl⟩
instance : FnOk Tryz.prog 181 := ⟨by kernel_rfl⟩
end Go.Proofs.YtmjkacgmepbljaaGreatDoor
end
/- Words and names, and numbers brought into a range: what these functions answer. -/
section
open Go Mk
namespace Go.Proofs.YtmjkacgmepbljaaGreatDoor
attribute [local irreducible] Calls

def letterB (c : Int) : Bool := decide (97 ≤ c) && decide (c ≤ 122) || decide (65 ≤ c) && decide (c ≤ 90) || decide (c = 95)
def digitB (c : Int) : Bool := decide (48 ≤ c) && decide (c ≤ 57)
instance (c : Int) : PC Tryz.prog 97 [.int .u8 c] (.bool (letterB c)) := ⟨fun w => by
  refine calls_of_W Tryz.func97 rfl rfl ?_
  repeat (first | refine byW ?_ | (refine byV ?_; intro w hw))
  exact ⟨_, rfl, rfl, rfl⟩⟩
instance (c : Int) : PC Tryz.prog 99 [.int .u8 c] (.bool (digitB c)) := ⟨fun w => by
  refine calls_of_W Tryz.func99 rfl rfl ?_
  repeat (first | refine byW ?_ | (refine byV ?_; intro w hw))
  exact ⟨_, rfl, rfl, rfl⟩⟩
instance (c : Int) : PC Tryz.prog 109 [.int .u8 c] (.bool (letterB c)) := ⟨fun w => by
  refine calls_of_W Tryz.func109 rfl rfl ?_
  repeat (first | refine byW ?_ | (refine byV ?_; intro w hw))
  exact ⟨_, rfl, rfl, rfl⟩⟩
instance (c : Int) : PC Tryz.prog 110 [.int .u8 c] (.bool (digitB c)) := ⟨fun w => by
  refine calls_of_W Tryz.func110 rfl rfl ?_
  repeat (first | refine byW ?_ | (refine byV ?_; intro w hw))
  exact ⟨_, rfl, rfl, rfl⟩⟩

/-- The i-th byte. -/
abbrev byteAt (s : ByteArray) (i : Nat) : Int := ((s.data.toList.getD i 0).toNat : Int)
def wordC (b : UInt8) : Bool := letterB b.toNat || digitB b.toNat
def runN (s : ByteArray) : Nat := (s.data.toList.takeWhile wordC).length
def wordS (s : ByteArray) : Bool := decide (0 < s.size) && letterB (byteAt s 0) && s.data.toList.all wordC
def nameS (s : ByteArray) : Bool := wordS s && decide (s.size ≤ 24)

theorem takeWhile_len {p : UInt8 → Bool} : ∀ {l : List UInt8} {k : Nat}, k ≤ l.length → (∀ i, i < k → p (l.getD i 0) = true) → (k < l.length → p (l.getD k 0) = false) → (l.takeWhile p).length = k
  | [], k, h, _, _ => by simp at h; simp [h]
  | x :: l, 0, _, _, h2 => by
    have := h2 (by simp)
    simp at this
    simp [this]
  | x :: l, k + 1, h, h1, h2 => by
    have h0 := h1 0 (by omega)
    simp at h0
    simp only [List.takeWhile_cons, h0, if_true, List.length_cons]
    rw [takeWhile_len (l := l) (k := k) (by simpa using h) (fun i hi => h1 (i + 1) (by omega)) (fun hk => h2 (by simp only [List.length_cons]; omega))]
theorem size_toList (s : ByteArray) : s.data.toList.length = s.size := Array.length_toList

class SB (s : ByteArray) : Prop where h : s.size ≤ 4611686018427387904
theorem toList_get {s : ByteArray} {k : Nat} : ((s.data.toList.getD (Int.toNat (k : Int)) 0).toNat : Int) = byteAt s k := rfl

instance (s : ByteArray) [hs : SB s] : PC Tryz.prog 98 [.string s] (.int .i64 (runN s)) := ⟨fun w => by
  have h63 := hs.h
  refine calls_of_W Tryz.func98 rfl rfl ?_
  repeat (first | refine byW ?_ | (refine byV ?_; intro w hw))
  refine W_loop (fun μ ρ w' => ∃ k : Nat, μ + k = s.size ∧ Has ρ [(0, .string s), (3, .int .i64 k)] ∧ w' = w ∧ ∀ i, i < k → wordC (s.data.toList.getD i 0) = true) s.size ⟨0, rfl, ⟨rfl, rfl, trivial⟩, rfl, fun i h => absurd h (Nat.not_lt_zero i)⟩ ?_
  rintro μ ρ w' ⟨k, hk, hρ, rfl, hi⟩
  rw [hρ.eq]
  repeat (first | refine byW ?_ | (refine byV ?_; intro w hw))
  refine W_cond rfl (fun h => ?_) (fun h => ?_)
  · have h' := andL h
    simp only [decide_eq_true_eq] at h'
    repeat (first | refine byW ?_ | (refine byV ?_; intro w hw))
    refine ⟨μ - 1, by omega, k + 1, by omega, ⟨rfl, rfl, trivial⟩, rfl, fun i hi' => ?_⟩
    by_cases e : i = k
    · subst e; exact andR h
    · exact hi i (by omega)
  · repeat (first | refine byW ?_ | (refine byV ?_; intro w hw))
    refine ⟨_, rfl, ret_i rfl ?_, rfl⟩
    have := takeWhile_len (p := wordC) (l := s.data.toList) (k := k) (by rw [size_toList]; omega) hi (fun hk' => by
      rw [size_toList] at hk'
      rw [show decide ((k : Int) < (s.size : Int)) = true from by simp; omega] at h
      exact h)
    show (k : Int) = ((s.data.toList.takeWhile wordC).length : Int)
    rw [this]⟩

theorem takeWhile_all {p : UInt8 → Bool} {l : List UInt8} : ((l.takeWhile p).length = l.length) ↔ l.all p = true := by
  induction l with
  | nil => simp
  | cons x l ih =>
    simp only [List.takeWhile_cons, List.all_cons]
    cases p x with
    | true => simp [ih]
    | false => simp
instance (s : ByteArray) [hs : SB s] : PC Tryz.prog 112 [.string s] (.bool (wordS s)) := ⟨fun w => by
  refine calls_of_W Tryz.func112 rfl rfl ?_
  repeat (first | refine byW ?_ | (refine byV ?_; intro w hw))
  refine ⟨_, rfl, ret_b rfl ?_, rfl⟩
  have h1 : decide (s ≠ ⟨#[]⟩) = decide (0 < s.size) := by simp only [ne_nilB]
  have h2 : decide ((runN s : Int) = (s.size : Int)) = s.data.toList.all wordC := by
    rw [Bool.eq_iff_iff, decide_eq_true_eq, ← takeWhile_all, size_toList]
    unfold runN; omega
  rw [h1, h2]; rfl⟩
instance (s : ByteArray) [hs : SB s] : PC Tryz.prog 86 [.string s] (.bool (nameS s)) := ⟨fun w => by
  refine calls_of_W Tryz.func86 rfl rfl ?_
  repeat (first | refine byW ?_ | (refine byV ?_; intro w hw))
  refine ⟨_, rfl, ret_b rfl ?_, rfl⟩
  unfold nameS
  congr 1
  rw [decide_eq_decide]; omega⟩

instance (s : ByteArray) [hs : SB s] : PC Tryz.prog 92 [.string s] (.bool (wordS s)) := ⟨fun w => by
  have h63 := hs.h
  refine calls_of_W Tryz.func92 rfl rfl ?_
  repeat (first | refine byW ?_ | (refine byV ?_; intro w hw))
  refine W_cond rfl (fun h => ?_) (fun h => ?_)
  · repeat (first | refine byW ?_ | (refine byV ?_; intro w hw))
    refine ⟨_, rfl, ret_b rfl ?_, rfl⟩
    unfold wordS
    by_cases h0 : s = ⟨#[]⟩
    · subst h0; rfl
    · rw [show decide (s = ⟨#[]⟩) = false from by simpa using h0] at h
      have h1 : letterB (byteAt s 0) = false := by have h' : (false || !letterB (byteAt s 0)) = true := h; simpa using h'
      rw [h1]; simp
  · simp only [Bool.or_eq_false_iff, Bool.not_eq_false', decide_eq_false_iff_not, eq_nilB] at h
    have h1 : letterB (byteAt s 0) = true := h.2
    repeat (first | refine byW ?_ | (refine byV ?_; intro w hw))
    refine W_loop (fun μ ρ w' => ∃ k : Nat, μ + k = s.size ∧ Has ρ [(0, .string s), (3, .int .i64 k)] ∧ w' = w ∧ 0 < k ∧ ∀ i, i < k → wordC (s.data.toList.getD i 0) = true) (s.size - 1) ⟨1, by omega, ⟨rfl, rfl, trivial⟩, rfl, by omega, fun i hi => ?_⟩ ?_
    · have : i = 0 := by omega
      subst this
      show (letterB (byteAt s 0) || _) = true
      rw [h1]; rfl
    rintro μ ρ w' ⟨k, hk, hρ, rfl, hk0, hi⟩
    rw [hρ.eq]
    repeat (first | refine byW ?_ | (refine byV ?_; intro w hw))
    refine W_cond rfl (fun h2 => ?_) (fun h2 => ?_)
    · have h' : k < s.size := by simpa using h2
      repeat (first | refine byW ?_ | (refine byV ?_; intro w hw))
      refine W_cond rfl (fun h3 => ?_) (fun h3 => ?_)
      · repeat (first | refine byW ?_ | (refine byV ?_; intro w hw))
        refine ⟨_, rfl, ret_b rfl ?_, rfl⟩
        have h4 : wordC (s.data.toList.getD k 0) = false := by
          show (letterB (byteAt s k) || digitB (byteAt s k)) = false
          have h5 : (!letterB (byteAt s k) && !digitB (byteAt s k)) = true := h3
          simpa using h5
        have h6 : s.data.toList.all wordC = false := by
          rw [← Bool.not_eq_true, List.all_eq_true]
          intro hall
          have hm := hall (s.data.toList.getD k 0) (by
            rw [List.getD_eq_getElem?_getD, List.getElem?_eq_getElem (by rw [size_toList]; exact h')]
            exact List.getElem_mem _)
          rw [h4] at hm; cases hm
        unfold wordS; rw [h6]; simp
      · repeat (first | refine byW ?_ | (refine byV ?_; intro w hw))
        refine ⟨μ - 1, by omega, k + 1, by omega, ⟨rfl, rfl, trivial⟩, rfl, by omega, fun i hi' => ?_⟩
        by_cases e : i = k
        · subst e
          have h5 : (!letterB (byteAt s i) && !digitB (byteAt s i)) = false := h3
          show (letterB (byteAt s i) || digitB (byteAt s i)) = true
          cases hl : letterB (byteAt s i) <;> cases hd : digitB (byteAt s i) <;> simp [hl, hd] at h5 ⊢
        · exact hi i (by omega)
    · repeat (first | refine byW ?_ | (refine byV ?_; intro w hw))
      refine ⟨_, rfl, ret_b rfl ?_, rfl⟩
      have h' : ¬ k < s.size := by simpa using h2
      have h6 : s.data.toList.all wordC = true := by
        rw [List.all_eq_true]
        intro x hx
        obtain ⟨i, hil, rfl⟩ := List.getElem_of_mem hx
        have := hi i (by rw [size_toList] at hil; omega)
        rwa [List.getD_eq_getElem?_getD, List.getElem?_eq_getElem hil] at this
      unfold wordS; rw [h6, h1]
      simp; omega⟩
instance (s : ByteArray) [hs : SB s] : PC Tryz.prog 57 [.string s] (.bool (nameS s)) := ⟨fun w => by
  refine calls_of_W Tryz.func57 rfl rfl ?_
  repeat (first | refine byW ?_ | (refine byV ?_; intro w hw))
  refine ⟨_, rfl, ret_b rfl ?_, rfl⟩
  unfold nameS
  congr 1
  rw [decide_eq_decide]; omega⟩

class PosL (n : Int) : Prop where h : 0 < n ∧ n ≤ 1099511627776
instance : PosL 3 := ⟨by decide⟩
instance : PosL 4 := ⟨by decide⟩
instance : PosL 5 := ⟨by decide⟩
instance : PosL 6 := ⟨by decide⟩
instance : PosL 8 := ⟨by decide⟩
instance : PosL 32 := ⟨by decide⟩
instance : PosL 100 := ⟨by decide⟩
def coreS (n : Int) : Bool := decide (0 ≤ n) && decide (n < 32)
end Go.Proofs.YtmjkacgmepbljaaGreatDoor
end
/- Bytes of texts, numerals and tokens: what both lexers answer (no program in sight). -/
section
open Go Mk
namespace Go.Proofs.YtmjkacgmepbljaaGreatDoor
set_option maxHeartbeats 400000
attribute [local irreducible] Calls

abbrev bts (s : ByteArray) : List UInt8 := s.data.toList
theorem bts_len (s : ByteArray) : (bts s).length = s.size := Array.length_toList
theorem bts_sub (s : ByteArray) (a b : Nat) : bts (bSub s a b) = ((bts s).drop a).take (b - a) := by
  unfold bSub
  show (s.extract a b).data.toList = _
  rw [ByteArray.data_extract, Array.toList_extract, List.extract_eq_take_drop]
theorem bts_ext {s t : ByteArray} (h : bts s = bts t) : s = t := by
  cases s; cases t
  congr 1
  exact Array.toList_inj.1 h
theorem sub_size {s : ByteArray} {a b : Nat} (h : b ≤ s.size) : (bSub s a b).size = b - a := by
  rw [← bts_len, bts_sub, List.length_take, List.length_drop, bts_len]; omega
theorem sub_sub {s : ByteArray} {a b c d : Nat} (h : a + d ≤ b) : bSub (bSub s a b) c d = bSub s (a + c) (a + d) := by
  apply bts_ext
  rw [bts_sub, bts_sub, bts_sub, List.drop_take, List.drop_drop, List.take_take]
  congr 1; omega
theorem byte_sub {s : ByteArray} {a b j : Nat} (h : a + j < b) : byteAt (bSub s a b) j = byteAt s (a + j) := by
  unfold byteAt
  have := bts_sub s a b
  unfold bts at this
  rw [this, List.getD_eq_getElem?_getD, List.getD_eq_getElem?_getD, List.getElem?_take_of_lt (by omega), List.getElem?_drop]

/-- The value of a digit in a base of at most 16. -/
def hexV (c : Int) : Int := if digitB c = true then c - 48 else if decide (97 ≤ c) && decide (c ≤ 102) then c - 97 + 10 else if decide (65 ≤ c) && decide (c ≤ 70) then c - 65 + 10 else -1
def digV (c base : Int) : Int := if base ≤ hexV c then -1 else hexV c
def inStr (c : Int) : Bool := decide (32 ≤ c) && decide (c ≤ 126) && decide (c ≠ 34) && decide (c ≠ 92)
theorem hexV_range (c : Int) : -1 ≤ hexV c ∧ hexV c < 16 := by
  unfold hexV digitB
  split
  · rename_i h; simp at h; omega
  · split
    · rename_i h; simp at h; omega
    · split
      · rename_i h; simp at h; omega
      · omega
theorem digV_range (c base : Int) (hb : 0 < base) : digV c base = -1 ∨ (0 ≤ digV c base ∧ digV c base < base ∧ digV c base < 16) := by
  have := hexV_range c
  unfold digV
  split
  · exact .inl rfl
  · by_cases h : hexV c = -1
    · exact .inl h
    · exact .inr ⟨by omega, by omega, this.2⟩

/-- The value of the digits. -/
def valL (base : Nat) : List UInt8 → Nat → Nat
  | [], v => v
  | c :: l, v => valL base l (v * base + (digV c.toNat base).toNat)
theorem valL_le (base : Nat) (hb : 0 < base) : ∀ (l : List UInt8) (v : Nat), v ≤ valL base l v
  | [], v => Nat.le_refl v
  | c :: l, v => Nat.le_trans (by
      have : v ≤ v * base := Nat.le_mul_of_pos_right v hb
      omega) (valL_le base hb l _)
def most64 : Nat := 18446744073709551615
/-- Digits, a base, a shift: the value and the error. -/
def numCore (base sh : Nat) (l : List UInt8) : Nat × Int :=
  if l.all (fun c => decide (0 ≤ digV c.toNat base)) = false then (0, 50)
  else if most64 >>> sh < valL base l 0 then (0, 6) else (valL base l 0 <<< sh, 0)
def sufK (c : Int) : Nat := if c = 71 then 30 else if c = 77 then 20 else if c = 75 then 10 else 0
/-- A numeral. -/
def numS (s : ByteArray) : Nat × Int :=
  let sh := sufK (byteAt s (s.size - 1))
  let s := if 0 < sh then bSub s 0 (s.size - 1) else s
  if 2 ≤ s.size ∧ byteAt s 0 = 48 ∧ byteAt s 1 = 120 then
    if s.size = 2 then (0, 50) else numCore 16 sh (bts (bSub s 2 s.size))
  else if s.size = 0 ∨ (1 < s.size ∧ byteAt s 0 = 48) then (0, 50) else numCore 10 sh (bts s)

/-- The length of the punctuation mark with which s begins. -/
def two2 (a b : Int) : Bool := (decide (a = 60) && decide (b = 61)) || (decide (a = 62) && decide (b = 61)) || (decide (a = 33) && decide (b = 61)) || (decide (a = 46) && decide (b = 46)) || (decide (a = 45) && decide (b = 62))
def oneB : List UInt8 := [123, 125, 40, 41, 91, 93, 44, 59, 58, 61, 60, 62, 33, 43, 45, 42, 63, 46, 47]
def punctN (s : ByteArray) : Nat := if 2 ≤ s.size ∧ two2 (byteAt s 0) (byteAt s 1) = true then 2 else if 0 < s.size ∧ (s.data.toList.getD 0 0) ∈ oneB then 1 else 0
def inStrC (b : UInt8) : Bool := inStr b.toNat
def strN (s : ByteArray) : Nat := 1 + (((bts s).drop 1).takeWhile inStrC).length
structure TokR where
  kind : Int
  text : ByteArray
  value : Nat
  n : Nat
  err : Int
def tokErr (e : Int) : TokR := ⟨0, ⟨#[]⟩, 0, 0, e⟩
/-- The token with which s begins. -/
def tokS (s : ByteArray) : TokR :=
  if letterB (byteAt s 0) = true then ⟨1, bSub s 0 (runN s), 0, runN s, 0⟩
  else if digitB (byteAt s 0) = true then (if (numS (bSub s 0 (runN s))).2 = 0 then ⟨2, ⟨#[]⟩, (numS (bSub s 0 (runN s))).1, runN s, 0⟩ else tokErr (numS (bSub s 0 (runN s))).2)
  else if byteAt s 0 = 34 then (if strN s < s.size ∧ byteAt s (strN s) = 34 then ⟨3, bSub s 1 (strN s), 0, strN s + 1, 0⟩ else tokErr 50)
  else if punctN s = 0 then tokErr 50 else ⟨4, bSub s 0 (punctN s), 0, punctN s, 0⟩

structure Tok where
  Kind : Int
  Text : ByteArray
  Value : Int
  Line : Int
  Col : Int
  deriving DecidableEq
instance : Inhabited Tok := ⟨⟨0, ⟨#[]⟩, 0, 0, 0⟩⟩
instance : GoT Tok where
  enc a := [.int .i64 a.Kind, .string a.Text, .int .u64 a.Value, .int .i64 a.Line, .int .i64 a.Col]
  inj a b h := by cases a; cases b; simp at h; simp [h]
  ks := [5, 1, 9, 5, 5]
  kinds a := rfl
structure PosT where
  Line : Int
  Col : Int
  deriving DecidableEq, Inhabited
instance : GoT PosT where
  enc a := [.int .i64 a.Line, .int .i64 a.Col]
  inj a b h := by cases a; cases b; simp at h; simp [h]
  ks := [5, 5]
  kinds a := rfl
/-- The position of an offset. -/
def posAt (s : ByteArray) : Nat → PosT
  | 0 => ⟨1, 1⟩
  | k + 1 => if byteAt s k = 10 then ⟨(posAt s k).Line + 1, 1⟩ else ⟨(posAt s k).Line, (posAt s k).Col + 1⟩
def skipN (s : ByteArray) (off : Nat) : Nat := off + (((bts s).drop off).takeWhile fun b => decide ((b.toNat : Int) ≠ 10)).length
def spaceB (c : Int) : Bool := decide (c = 10) || decide (c = 32) || decide (c = 9) || decide (c = 13)
def scanN (s : ByteArray) : Nat → Nat → List Tok → List Tok × PosT × Int
  | 0, _, acc => (acc, ⟨0, 0⟩, 0)
  | f + 1, off, acc =>
    if s.size ≤ off then (acc, ⟨0, 0⟩, 0)
    else if spaceB (byteAt s off) = true then scanN s f (off + 1) acc
    else if byteAt s off = 35 then scanN s f (skipN s off) acc
    else if (tokS (bSub s off s.size)).err = 0 then scanN s f (off + (tokS (bSub s off s.size)).n) (acc ++ [⟨(tokS (bSub s off s.size)).kind, (tokS (bSub s off s.size)).text, (tokS (bSub s off s.size)).value, (posAt s off).Line, (posAt s off).Col⟩])
    else ([], posAt s off, (tokS (bSub s off s.size)).err)
/-- What the scanners answer. -/
def scanS (s : ByteArray) : List Tok × PosT × Int := if 65536 < s.size then ([], ⟨0, 0⟩, 15) else scanN s (s.size + 1) 0 []
end Go.Proofs.YtmjkacgmepbljaaGreatDoor
end
/- The program's lexer: characters, digits, prefixes, punctuation. -/
section
open Go Mk
namespace Go.Proofs.YtmjkacgmepbljaaGreatDoor
set_option maxHeartbeats 4000000
attribute [local irreducible] Calls

theorem lExt {P : Program} {n : Nat} {opa : Array Oper} {QQ : Exit → Fr → World → Prop} {rest : List Oper} {ρ : Fr} {w : World} {d : Option Tmp} {ty : TypeId} {pos : String} {es : Array Edge} {f : Nat} {args : List Operand} {tys : Array TypeId} {vs : List Value} {v : Value}
    (he : ∀ w, (callFunc f vs.toArray).run P w = .ok (.value v) w) (h : L P n opa QQ rest (putO ρ d v) w) (ha : EvL ρ args vs := by exact byEV) (hd : okDst n d = true := by exact rfl) :
    L P n opa QQ (⟨d, .call { callee := .value (.func f), args := args.toArray, argTypes := tys }, ty, pos, es, none⟩ :: rest) ρ w :=
  L_y rfl hd (by
    unfold Mk.Yields
    simp only [execOp, resolve, ha.eqA, ev, Deferred.ofValue, Sem.run_bind, Sem.run_pure, Result.andThen_ok, invoke]
    simp [he]) h

instance pc_inString (c : Int) : PC Tryz.prog 101 [.int .u8 c] (.bool (inStr c)) := ⟨fun w => by
  refine calls_of_W Tryz.func101 rfl rfl ?_
  repeat (first | refine byW ?_ | (refine byV ?_; intro w hw))
  exact ⟨_, rfl, rfl, rfl⟩⟩
class SmallB (b : Int) : Prop where h : 0 < b ∧ b ≤ 16
instance : SmallB 10 := ⟨by decide⟩
instance : SmallB 16 := ⟨by decide⟩
theorem u8_wrap {a : Int} (h0 : 0 ≤ a) (h1 : a ≤ 255) : IntKind.u8.wrap a = a := by
  simp [IntKind.wrap, IntKind.bits, IntKind.signed]; omega
theorem byte_le (b : UInt8) : 0 ≤ ((b.toNat : Nat) : Int) ∧ ((b.toNat : Nat) : Int) ≤ 255 := by
  have := b.toNat_lt; omega
instance pc_digV (b : UInt8) (base : Int) [hb : SmallB base] : PC Tryz.prog 118 [.int .u8 ((b.toNat : Nat) : Int), .int .u64 base] (.int .i64 (digV ((b.toNat : Nat) : Int) base)) := ⟨fun w => by
  obtain ⟨hb0, hb1⟩ := hb.h
  obtain ⟨hc0, hc1⟩ := byte_le b
  generalize ((b.toNat : Nat) : Int) = c at *
  have hbw : IntKind.i64.wrap base = base := wrap_i64 (by omega) (by omega)
  refine calls_of_W Tryz.func118 rfl rfl ?_
  iterate 8 (first | refine byW ?_ | (refine byV ?_; intro w hw))
  refine W_cut (fun ρ w' => Has ρ [(1, .int .u64 base), (5, .int .i64 (hexV c))] ∧ w' = w) ?_ ?_
  · repeat (first | refine byW ?_ | (refine byV ?_; intro w hw))
    refine W_cond rfl (fun h => ?_) (fun h => ?_)
    · repeat (first | refine byW ?_ | (refine byV ?_; intro w hw))
      refine ⟨⟨rfl, ?_, trivial⟩, rfl⟩
      have h1 : 48 ≤ c ∧ c ≤ 57 := by simpa [digitB] using h
      show Value.int .i64 (IntKind.i64.wrap (IntKind.u8.wrap (c - 48))) = _
      rw [u8_wrap (by omega) (by omega), wrap_i64 (by omega) (by omega)]
      unfold hexV; rw [if_pos h]
    · repeat (first | refine byW ?_ | (refine byV ?_; intro w hw))
      refine W_cond rfl (fun h2 => ?_) (fun h2 => ?_)
      · repeat (first | refine byW ?_ | (refine byV ?_; intro w hw))
        refine ⟨⟨rfl, ?_, trivial⟩, rfl⟩
        have h1 : 97 ≤ c ∧ c ≤ 102 := by simpa using h2
        show Value.int .i64 (IntKind.i64.wrap (IntKind.i64.wrap (IntKind.u8.wrap (c - 97)) + 10)) = _
        rw [u8_wrap (by omega) (by omega), wrap_i64 (a := c - 97) (by omega) (by omega), wrap_i64 (by omega) (by omega)]
        unfold hexV; rw [if_neg (by simp [h]), if_pos h2]
      · repeat (first | refine byW ?_ | (refine byV ?_; intro w hw))
        refine W_cond rfl (fun h3 => ?_) (fun h3 => ?_)
        · repeat (first | refine byW ?_ | (refine byV ?_; intro w hw))
          refine ⟨⟨rfl, ?_, trivial⟩, rfl⟩
          have h1 : 65 ≤ c ∧ c ≤ 70 := by simpa using h3
          show Value.int .i64 (IntKind.i64.wrap (IntKind.i64.wrap (IntKind.u8.wrap (c - 65)) + 10)) = _
          rw [u8_wrap (by omega) (by omega), wrap_i64 (a := c - 65) (by omega) (by omega), wrap_i64 (by omega) (by omega)]
          unfold hexV; rw [if_neg (by simp [h]), if_neg (by simpa using h2), if_pos h3]
        · repeat (first | refine byW ?_ | (refine byV ?_; intro w hw))
          refine ⟨⟨rfl, ?_, trivial⟩, rfl⟩
          show Value.int .i64 (-1) = _
          unfold hexV; rw [if_neg (by simp [h]), if_neg (by simpa using h2), if_neg (by simpa using h3)]
  · rintro ρ w' ⟨hρ, rfl⟩
    rw [hρ.eq]
    repeat (first | refine byW ?_ | (refine byV ?_; intro w hw))
    rw [hbw]
    refine W_cond rfl (fun h => ?_) (fun h => ?_)
    · repeat (first | refine byW ?_ | (refine byV ?_; intro w hw))
      have h : base ≤ hexV c := by simpa using h
      exact ⟨_, rfl, ret_i rfl (by unfold digV; rw [if_pos h]), rfl⟩
    · repeat (first | refine byW ?_ | (refine byV ?_; intro w hw))
      have h : ¬ base ≤ hexV c := by simpa using h
      exact ⟨_, rfl, ret_i rfl (by unfold digV; rw [if_neg h]), rfl⟩⟩
instance pc_HasPrefix (s p : ByteArray) : PC Tryz.prog 117 [.string s, .string p] (.bool (decide ((p.size : Int) ≤ s.size) && decide (bSub s 0 p.size = p))) := ⟨fun w => by
  have h1 : PC Tryz.prog 133 [.string s, .string p] (.bool (decide ((p.size : Int) ≤ s.size) && decide (bSub s 0 p.size = p))) := ⟨fun w => by
    refine calls_of_W Tryz.func133 rfl rfl ?_
    repeat (first | refine byW ?_ | (refine byV ?_; intro w hw))
    exact ⟨_, rfl, rfl, rfl⟩⟩
  refine calls_of_W Tryz.func117 rfl rfl ?_
  repeat (first | refine byW ?_ | (refine byV ?_; intro w hw))
  exact ⟨_, rfl, rfl, rfl⟩⟩
theorem ext_IndexByte (s : ByteArray) (c : Int) (w : World) : (callFunc 134 #[.string s, .int .u8 c]).run Tryz.prog w = .ok (.value (.int .i64 (firstIdx s c.toNat.toUInt8))) w := by
  rw [run_callFunc_extern Tryz.func134 (by kernel_rfl) (by kernel_rfl) (e := Extern.BytealgIndexByte.indexByte) (by kernel_rfl) (by kernel_rfl), run_indexByte_string]
  rfl
instance pc_IndexByte (s : ByteArray) (c : Int) : PC Tryz.prog 119 [.string s, .int .u8 c] (.int .i64 (firstIdx s c.toNat.toUInt8)) := ⟨fun w => by
  have h1 : PC Tryz.prog 120 [.string s, .int .u8 c] (.int .i64 (firstIdx s c.toNat.toUInt8)) := ⟨fun w => by
    refine calls_of_W Tryz.func120 rfl rfl ?_
    repeat (first | refine byW ?_ | (refine byV ?_; intro w hw))
    refine lExt (vs := [.string s, .int .u8 c]) (ext_IndexByte s c) ?_
    repeat (first | refine byW ?_ | (refine byV ?_; intro w hw))
    exact ⟨_, rfl, rfl, rfl⟩⟩
  refine calls_of_W Tryz.func119 rfl rfl ?_
  repeat (first | refine byW ?_ | (refine byV ?_; intro w hw))
  exact ⟨_, rfl, rfl, rfl⟩⟩
end Go.Proofs.YtmjkacgmepbljaaGreatDoor
end
/- The program's lexer: punctuation and numerals. -/
section
open Go Mk
namespace Go.Proofs.YtmjkacgmepbljaaGreatDoor
set_option maxHeartbeats 4000000
attribute [local irreducible] Calls

theorem two_bytes {s : ByteArray} (h : 2 ≤ s.size) : ∃ x y : UInt8, byteAt s 0 = x.toNat ∧ byteAt s 1 = y.toNat ∧ bSub s 0 2 = ⟨#[x, y]⟩ := by
  have hl := bts_len s
  obtain ⟨x, y, r, hr⟩ : ∃ x y r, bts s = x :: y :: r := by
    match hb : bts s with
    | [] => rw [hb] at hl; simp at hl; omega
    | [x] => rw [hb] at hl; simp at hl; omega
    | x :: y :: r => exact ⟨x, y, r, rfl⟩
  refine ⟨x, y, ?_, ?_, ?_⟩
  · show (((bts s).getD 0 0).toNat : Int) = _; rw [hr]; rfl
  · show (((bts s).getD 1 0).toNat : Int) = _; rw [hr]; rfl
  · apply bts_ext; rw [bts_sub, hr]; rfl
theorem pair_eq (x y a b : UInt8) : ((⟨#[x, y]⟩ : ByteArray) = ⟨#[a, b]⟩) ↔ (x.toNat = a.toNat ∧ y.toNat = b.toNat) := by
  simp [UInt8.toNat_inj]
theorem one_punct : ∀ n : Fin 256, decide (0 ≤ firstIdx ⟨#[123, 125, 40, 41, 91, 93, 44, 59, 58, 61, 60, 62, 33, 43, 45, 42, 63, 46, 47]⟩ (UInt8.ofNat n.1)) = decide (UInt8.ofNat n.1 ∈ oneB) := by decide +kernel
instance pc_punct (s : ByteArray) [hs : SB s] : PC Tryz.prog 102 [.string s] (.int .i64 (punctN s)) := ⟨fun w => by
  have hs := hs.h
  refine calls_of_W Tryz.func102 rfl rfl ?_
  iterate 4 (first | refine byW ?_ | (refine byV ?_; intro w hw))
  refine W_cut (fun ρ w' => Has ρ [(0, .string s)] ∧ w' = w ∧ ¬ (2 ≤ s.size ∧ two2 (byteAt s 0) (byteAt s 1) = true)) ?_ ?_
  · repeat (first | refine byW ?_ | (refine byV ?_; intro w hw))
    refine W_cond rfl (fun h => ?_) (fun h => ?_)
    · have h : 2 ≤ s.size := by simp at h; omega
      obtain ⟨x, y, hx, hy, hxy⟩ := two_bytes h
      have key : two2 (byteAt s 0) (byteAt s 1) = true → Ending.returned (.int .i64 2) = Ending.returned (.int .i64 (punctN s)) := fun ht => by
        unfold punctN; rw [if_pos ⟨h, ht⟩]; rfl
      rw [hx, hy] at key
      repeat (first | refine byW ?_ | (refine byV ?_; intro w hw))
      rw [show (2 : Int).toNat = 2 from rfl, hxy]
      refine W_cond rfl (fun h1 => ?_) (fun h1 => ?_)
      · repeat (first | refine byW ?_ | (refine byV ?_; intro w hw))
        refine W_cond_true (by simp only [h1]; rfl) ?_
        repeat (first | refine byW ?_ | (refine byV ?_; intro w hw))
        have q := (pair_eq _ _ _ _).1 (of_decide_eq_true h1)
        exact ⟨_, rfl, key (by simp [two2, q]), rfl⟩
      repeat (first | refine byW ?_ | (refine byV ?_; intro w hw))
      refine W_cond rfl (fun h2 => ?_) (fun h2 => ?_)
      · repeat (first | refine byW ?_ | (refine byV ?_; intro w hw))
        refine W_cond_true (by simp only [h2]; rfl) ?_
        repeat (first | refine byW ?_ | (refine byV ?_; intro w hw))
        have q := (pair_eq _ _ _ _).1 (of_decide_eq_true h2)
        exact ⟨_, rfl, key (by simp [two2, q]), rfl⟩
      repeat (first | refine byW ?_ | (refine byV ?_; intro w hw))
      refine W_cond rfl (fun h3 => ?_) (fun h3 => ?_)
      · repeat (first | refine byW ?_ | (refine byV ?_; intro w hw))
        refine W_cond_true (by simp only [h3]; rfl) ?_
        repeat (first | refine byW ?_ | (refine byV ?_; intro w hw))
        have q := (pair_eq _ _ _ _).1 (of_decide_eq_true h3)
        exact ⟨_, rfl, key (by simp [two2, q]), rfl⟩
      repeat (first | refine byW ?_ | (refine byV ?_; intro w hw))
      refine W_cond rfl (fun h4 => ?_) (fun h4 => ?_)
      · repeat (first | refine byW ?_ | (refine byV ?_; intro w hw))
        refine W_cond_true (by simp only [h4]; rfl) ?_
        repeat (first | refine byW ?_ | (refine byV ?_; intro w hw))
        have q := (pair_eq _ _ _ _).1 (of_decide_eq_true h4)
        exact ⟨_, rfl, key (by simp [two2, q]), rfl⟩
      repeat (first | refine byW ?_ | (refine byV ?_; intro w hw))
      refine W_cond rfl (fun h5 => ?_) (fun h5 => ?_)
      · repeat (first | refine byW ?_ | (refine byV ?_; intro w hw))
        have q := (pair_eq _ _ _ _).1 (of_decide_eq_true h5)
        exact ⟨_, rfl, key (by simp [two2, q]), rfl⟩
      · repeat (first | refine byW ?_ | (refine byV ?_; intro w hw))
        refine ⟨⟨rfl, trivial⟩, rfl, fun hh => ?_⟩
        have hh := hh.2
        rw [hx, hy] at hh
        have q := fun a b (hq : decide ((⟨#[x, y]⟩ : ByteArray) = ⟨#[a, b]⟩) = false) => mt (pair_eq x y a b).2 (of_decide_eq_false hq)
        have q1 := q _ _ h1
        have q2 := q _ _ h2
        have q3 := q _ _ h3
        have q4 := q _ _ h4
        have q5 := q _ _ h5
        simp [two2] at hh q1 q2 q3 q4 q5
        omega
    · have h : ¬ 2 ≤ s.size := by simp at h; omega
      repeat (first | refine byW ?_ | (refine byV ?_; intro w hw))
      exact ⟨⟨rfl, trivial⟩, rfl, fun hh => h hh.1⟩
  · rintro ρ w' ⟨hρ, rfl, hn⟩
    rw [hρ.eq]
    have key : (decide (s ≠ ⟨#[]⟩) && decide (0 ≤ firstIdx ⟨#[123, 125, 40, 41, 91, 93, 44, 59, 58, 61, 60, 62, 33, 43, 45, 42, 63, 46, 47]⟩ (byteAt s 0).toNat.toUInt8)) = decide (punctN s = 1) := by
      have h1 := one_punct ⟨(s.data.toList.getD 0 0).toNat, (s.data.toList.getD 0 0).toNat_lt⟩
      have h2 : (byteAt s 0).toNat.toUInt8 = s.data.toList.getD 0 0 := by
        show (((s.data.toList.getD 0 0).toNat : Int).toNat).toUInt8 = _
        rw [Int.toNat_natCast]; simp
      have h3 : UInt8.ofNat (s.data.toList.getD 0 0).toNat = s.data.toList.getD 0 0 := by simp
      rw [h3] at h1
      rw [h2, h1]
      unfold punctN
      rw [if_neg hn]
      rw [show decide (s ≠ ⟨#[]⟩) = decide (0 < s.size) from decide_eq_decide.2 ne_nilB]
      by_cases e1 : 0 < s.size <;> by_cases e2 : s.data.toList.getD 0 0 ∈ oneB <;> simp [e1, e2]
    have hp : punctN s = 1 ∨ punctN s = 0 := by
      unfold punctN; rw [if_neg hn]; split <;> simp
    repeat (first | refine byW ?_ | (refine byV ?_; intro w hw))
    refine W_cond rfl (fun h => ?_) (fun h => ?_)
    · have h := of_decide_eq_true (key.symm.trans h)
      repeat (first | refine byW ?_ | (refine byV ?_; intro w hw))
      exact ⟨_, rfl, ret_i rfl (by rw [h]; rfl), rfl⟩
    · have h := of_decide_eq_false (key.symm.trans h)
      have h0 := hp.resolve_left h
      repeat (first | refine byW ?_ | (refine byV ?_; intro w hw))
      exact ⟨_, rfl, ret_i rfl (by rw [h0]; rfl), rfl⟩⟩
end Go.Proofs.YtmjkacgmepbljaaGreatDoor
end
/- The program's lexer: numerals. -/
section
open Go Mk
namespace Go.Proofs.YtmjkacgmepbljaaGreatDoor
set_option maxHeartbeats 4000000
attribute [local irreducible] Calls

theorem u64_wrap {a : Int} (h0 : 0 ≤ a) (h1 : a ≤ 18446744073709551615) : IntKind.u64.wrap a = a := by
  simp [IntKind.wrap, IntKind.bits, IntKind.signed]; omega
theorem sufK_cases (c : Int) : sufK c = 0 ∨ sufK c = 10 ∨ sufK c = 20 ∨ sufK c = 30 := by
  unfold sufK; repeat (first | split | simp)
/-- What is left of a numeral when its suffix is off. -/
def numBody (sh : Nat) (s : ByteArray) : Nat × Int :=
  if 2 ≤ s.size ∧ byteAt s 0 = 48 ∧ byteAt s 1 = 120 then
    if s.size = 2 then (0, 50) else numCore 16 sh (bts (bSub s 2 s.size))
  else if s.size = 0 ∨ (1 < s.size ∧ byteAt s 0 = 48) then (0, 50) else numCore 10 sh (bts s)
def cutS (s : ByteArray) : ByteArray := if 0 < sufK (byteAt s (s.size - 1)) then bSub s 0 (s.size - 1) else s
theorem numS_body (s : ByteArray) : numS s = numBody (sufK (byteAt s (s.size - 1))) (cutS s) := rfl
def numB (base sh : Nat) (s : ByteArray) : Nat × Int := if s.size = 0 ∨ (base = 10 ∧ 1 < s.size ∧ byteAt s 0 = 48) then (0, 50) else numCore base sh (bts s)
theorem pre0x {s : ByteArray} : (decide (((⟨#[48, 120]⟩ : ByteArray).size : Int) ≤ s.size) && decide (bSub s 0 (⟨#[48, 120]⟩ : ByteArray).size = ⟨#[48, 120]⟩)) = decide (2 ≤ s.size ∧ byteAt s 0 = 48 ∧ byteAt s 1 = 120) := by
  show (decide ((2 : Int) ≤ s.size) && decide (bSub s 0 2 = ⟨#[48, 120]⟩)) = _
  by_cases h : 2 ≤ s.size
  · obtain ⟨x, y, hx, hy, hxy⟩ := two_bytes h
    rw [hxy, hx, hy]
    have h1 : (2 : Int) ≤ s.size := by omega
    have h2 := pair_eq x y 48 120
    simp only [h, h1, h2, decide_true, Bool.true_and, true_and]
    congr 1
    simp
    omega
  · have h1 : ¬ (2 : Int) ≤ s.size := by omega
    simp [h, h1]
theorem numB_pre {sh : Nat} {s : ByteArray} (h : 2 ≤ s.size ∧ byteAt s 0 = 48 ∧ byteAt s 1 = 120) : numBody sh s = numB 16 sh (bSub s 2 s.size) := by
  unfold numBody numB
  rw [if_pos h, sub_size (Nat.le_refl _)]
  by_cases h2 : s.size = 2
  · rw [if_pos h2, if_pos (.inl (by omega))]
  · rw [if_neg h2, if_neg (by omega)]
theorem numB_no {sh : Nat} {s : ByteArray} (h : ¬ (2 ≤ s.size ∧ byteAt s 0 = 48 ∧ byteAt s 1 = 120)) : numBody sh s = numB 10 sh s := by
  unfold numBody numB
  rw [if_neg h]
  simp

theorem drop_at {α : Type} {l : List α} {k : Nat} {x : α} (h : l[k]? = some x) : l.drop k = x :: l.drop (k + 1) := by
  obtain ⟨h1, h2⟩ := List.getElem?_eq_some_iff.1 h
  rw [← h2]; exact List.drop_eq_getElem_cons h1
class NE (s : ByteArray) : Prop where h : 0 < s.size
theorem number_any (s : ByteArray) (hs : s.size ≤ 4611686018427387904) (h0 : 0 < s.size) (w : World) :
    Calls Tryz.prog 100 #[.string s] w fun e w' => e = .returned (.tuple #[.int .u64 (numS s).1, .int .i64 (numS s).2]) ∧ w' = w := by
  refine calls_of_W Tryz.func100 rfl rfl ?_
  iterate 9 (first | refine byW ?_ | (refine byV ?_; intro w hw))
  refine W_cut (fun ρ w' => ∃ s' : ByteArray, ∃ sh : Nat, Has ρ [(0, .string s'), (4, .int .i64 sh)] ∧ w' = w ∧ s' = cutS s ∧ sh = sufK (byteAt s (s.size - 1))) ?_ ?_
  · have e1 : ((s.size : Int) - 1).toNat = s.size - 1 := by omega
    repeat (first | refine byW ?_ | (refine byV ?_; intro w hw))
    rw [e1]
    refine W_cond rfl (fun h => ?_) (fun h => ?_)
    · have h : byteAt s (s.size - 1) = 71 := of_decide_eq_true h
      have hk : sufK (byteAt s (s.size - 1)) = 30 := by rw [h]; rfl
      repeat (first | refine byW ?_ | (refine byV ?_; intro w hw))
      rw [e1]
      exact ⟨_, 30, ⟨rfl, rfl, trivial⟩, rfl, by unfold cutS; rw [hk]; rfl, hk.symm⟩
    repeat (first | refine byW ?_ | (refine byV ?_; intro w hw))
    refine W_cond rfl (fun h2 => ?_) (fun h2 => ?_)
    · have h2 : byteAt s (s.size - 1) = 77 := of_decide_eq_true h2
      have hk : sufK (byteAt s (s.size - 1)) = 20 := by rw [h2]; rfl
      repeat (first | refine byW ?_ | (refine byV ?_; intro w hw))
      rw [e1]
      exact ⟨_, 20, ⟨rfl, rfl, trivial⟩, rfl, by unfold cutS; rw [hk]; rfl, hk.symm⟩
    repeat (first | refine byW ?_ | (refine byV ?_; intro w hw))
    refine W_cond rfl (fun h3 => ?_) (fun h3 => ?_)
    · have h3 : byteAt s (s.size - 1) = 75 := of_decide_eq_true h3
      have hk : sufK (byteAt s (s.size - 1)) = 10 := by rw [h3]; rfl
      repeat (first | refine byW ?_ | (refine byV ?_; intro w hw))
      rw [e1]
      exact ⟨_, 10, ⟨rfl, rfl, trivial⟩, rfl, by unfold cutS; rw [hk]; rfl, hk.symm⟩
    · have h : ¬ byteAt s (s.size - 1) = 71 := of_decide_eq_false h
      have h2 : ¬ byteAt s (s.size - 1) = 77 := of_decide_eq_false h2
      have h3 : ¬ byteAt s (s.size - 1) = 75 := of_decide_eq_false h3
      have hk : sufK (byteAt s (s.size - 1)) = 0 := by unfold sufK; rw [if_neg h, if_neg h2, if_neg h3]
      repeat (first | refine byW ?_ | (refine byV ?_; intro w hw))
      exact ⟨s, 0, ⟨rfl, rfl, trivial⟩, rfl, by unfold cutS; rw [hk]; rfl, hk.symm⟩
  · rintro ρ w' ⟨s', sh, hρ, rfl, hs', hsh⟩
    rw [hρ.eq, numS_body, ← hs', ← hsh]
    have hcase := sufK_cases (byteAt s (s.size - 1))
    rw [← hsh] at hcase
    have hsz : s'.size ≤ 4611686018427387904 := by
      rw [hs']; unfold cutS; split
      · rw [sub_size (by omega)]; omega
      · exact hs
    clear hs' hsh hρ
    iterate 4 (first | refine byW ?_ | (refine byV ?_; intro w hw))
    refine W_cut (fun ρ w'' => ∃ s2 : ByteArray, ∃ base : Nat, Has ρ [(0, .string s2), (4, .int .i64 sh), (5, .int .u64 base)] ∧ w'' = w' ∧ numBody sh s' = numB base sh s2 ∧ (base = 10 ∨ base = 16) ∧ s2.size ≤ 4611686018427387904) ?_ ?_
    · repeat (first | refine byW ?_ | (refine byV ?_; intro w hw))
      rw [pre0x]
      refine W_cond rfl (fun h => ?_) (fun h => ?_)
      · have h := of_decide_eq_true h
        obtain ⟨hp1, hp2, hp3⟩ := h
        repeat (first | refine byW ?_ | (refine byV ?_; intro w hw))
        exact ⟨bSub s' 2 s'.size, 16, ⟨rfl, rfl, rfl, trivial⟩, rfl, numB_pre ⟨hp1, hp2, hp3⟩, .inr rfl, by rw [sub_size (Nat.le_refl _)]; omega⟩
      · have h := of_decide_eq_false h
        repeat (first | refine byW ?_ | (refine byV ?_; intro w hw))
        exact ⟨s', 10, ⟨rfl, rfl, rfl, trivial⟩, rfl, numB_no h, .inl rfl, hsz⟩
    · rintro ρ w'' ⟨s2, base, hρ, rfl, hN, hbase, hsz2⟩
      rw [hρ.eq, hN]
      clear hN hρ hsz
      have key : (decide (s2 = ⟨#[]⟩) || ((decide ((base : Int) = 10) && decide ((1 : Int) < s2.size)) && decide (byteAt s2 0 = 48))) = decide (s2.size = 0 ∨ (base = 10 ∧ 1 < s2.size ∧ byteAt s2 0 = 48)) := by
        rw [show decide (s2 = ⟨#[]⟩) = decide (s2.size = 0) from decide_eq_decide.2 eq_nilB]
        rw [show decide ((base : Int) = 10) = decide (base = 10) from decide_eq_decide.2 (by omega), show decide ((1 : Int) < s2.size) = decide (1 < s2.size) from decide_eq_decide.2 (by omega)]
        by_cases e1 : s2.size = 0 <;> by_cases e2 : base = 10 <;> by_cases e3 : 1 < s2.size <;> by_cases e4 : byteAt s2 0 = 48 <;> simp [e1, e2, e3, e4]
      repeat (first | refine byW ?_ | (refine byV ?_; intro w hw))
      refine W_cond rfl (fun h => ?_) (fun h => ?_)
      · have h := of_decide_eq_true (key.symm.trans h)
        repeat (first | refine byW ?_ | (refine byV ?_; intro w hw))
        exact ⟨_, rfl, by unfold numB; rw [if_pos h]; rfl, rfl⟩
      have h := of_decide_eq_false (key.symm.trans h)
      have hN : numB base sh s2 = numCore base sh (bts s2) := by unfold numB; rw [if_neg h]
      rw [hN]
      clear hN key
      haveI : SmallB (base : Int) := ⟨by omega⟩
      have hbl := bts_len s2
      repeat (first | refine byW ?_ | (refine byV ?_; intro w hw))
      refine W_loop (fun μ ρ w => ∃ k : Nat, μ + k = s2.size ∧ Has ρ [(0, .string s2), (4, .int .i64 sh), (5, .int .u64 base), (6, .int .i64 k)] ∧ ((bts s2).take k).all (fun c => decide (0 ≤ digV c.toNat base)) = true ∧ w = w'') s2.size ⟨0, by omega, ⟨rfl, rfl, rfl, rfl, trivial⟩, rfl, rfl⟩ ?_
      rintro μ ρ w ⟨k, hk, hρ, hall, rfl⟩
      rw [hρ.eq]
      repeat (first | refine byW ?_ | (refine byV ?_; intro w hw))
      refine W_cond rfl (fun h1 => ?_) (fun h1 => ?_)
      · have hkn : k < s2.size := by simpa using h1
        obtain ⟨c, hc⟩ := get_lt (l := bts s2) (k := k) (by omega)
        have hg : s2.data.toList.getD (k : Int).toNat 0 = c := by
          show (bts s2).getD k 0 = c
          rw [List.getD_eq_getElem?_getD, hc]; rfl
        have hmem : c ∈ bts s2 := List.mem_of_getElem? hc
        repeat (first | refine byW ?_ | (refine byV ?_; intro w hw))
        rw [hg]
        refine W_cond rfl (fun h2 => ?_) (fun h2 => ?_)
        · have h2 : digV c.toNat base < 0 := of_decide_eq_true h2
          have hf : (bts s2).all (fun c => decide (0 ≤ digV c.toNat base)) = false := by
            rw [List.all_eq_false]
            exact ⟨c, hmem, by simp; omega⟩
          repeat (first | refine byW ?_ | (refine byV ?_; intro w hw))
          exact ⟨_, rfl, by unfold numCore; rw [if_pos hf]; rfl, rfl⟩
        · have h2 : ¬ digV c.toNat base < 0 := of_decide_eq_false h2
          repeat (first | refine byW ?_ | (refine byV ?_; intro w hw))
          refine ⟨μ - 1, by omega, k + 1, by omega, ⟨rfl, rfl, rfl, rfl, trivial⟩, ?_, rfl⟩
          rw [List.take_add_one, hc, List.all_append, hall]
          simp; omega
      have hkn : ¬ k < s2.size := by simpa using h1
      rw [List.take_of_length_le (by omega)] at hall
      clear h1 hkn
      repeat (first | refine byW ?_ | (refine byV ?_; intro w hw))
      refine W_loop (fun μ ρ w' => ∃ k v : Nat, μ + k = s2.size ∧ Has ρ [(0, .string s2), (4, .int .i64 sh), (5, .int .u64 base), (7, .int .u64 v), (8, .int .i64 k)] ∧ valL base (bts s2) 0 = valL base ((bts s2).drop k) v ∧ v ≤ most64 ∧ w' = w) s2.size ⟨0, 0, by omega, ⟨rfl, rfl, rfl, rfl, rfl, trivial⟩, rfl, by unfold most64; omega, rfl⟩ ?_
      rintro μ ρ w' ⟨k, v, hk, hρ, hval, hvm, rfl⟩
      rw [hρ.eq]
      repeat (first | refine byW ?_ | (refine byV ?_; intro w hw))
      refine W_cond rfl (fun h1 => ?_) (fun h1 => ?_)
      · have hkn : k < s2.size := by simpa using h1
        obtain ⟨c, hc⟩ := get_lt (l := bts s2) (k := k) (by omega)
        have hg : s2.data.toList.getD (k : Int).toNat 0 = c := by
          show (bts s2).getD k 0 = c
          rw [List.getD_eq_getElem?_getD, hc]; rfl
        have hd0 : 0 ≤ digV c.toNat base := by
          have := List.all_eq_true.1 hall c (List.mem_of_getElem? hc)
          simpa using this
        have hdr := (digV_range c.toNat base (by omega)).resolve_left (by omega)
        rw [drop_at hc] at hval
        have hval : valL base (bts s2) 0 = valL base ((bts s2).drop (k + 1)) (v * base + (digV c.toNat base).toNat) := hval
        obtain ⟨d, hd⟩ : ∃ d : Nat, digV c.toNat base = (d : Int) := ⟨(digV c.toNat base).toNat, by omega⟩
        rw [hd] at hval hdr
        rw [Int.toNat_natCast] at hval
        have hmost : (most64 : Int) = 18446744073709551615 := rfl
        have hw1 : IntKind.u64.wrap (d : Int) = d := u64_wrap (by omega) (by omega)
        have hw2 : IntKind.u64.wrap (18446744073709551615 - (d : Int)) = 18446744073709551615 - d := u64_wrap (by omega) (by omega)
        have hdiv : (18446744073709551615 - (d : Int)).tdiv base = (18446744073709551615 - (d : Int)) / base := Int.tdiv_eq_ediv_of_nonneg (by omega)
        have hq0 : 0 ≤ (18446744073709551615 - (d : Int)) / base := Int.ediv_nonneg (by omega) (by omega)
        have hq1 : (18446744073709551615 - (d : Int)) / base ≤ 18446744073709551615 - (d : Int) := Int.ediv_le_self _ (by omega)
        have hw3 : IntKind.u64.wrap ((18446744073709551615 - (d : Int)) / base) = (18446744073709551615 - (d : Int)) / base := u64_wrap hq0 (by omega)
        have hle : (v : Int) ≤ (18446744073709551615 - (d : Int)) / base ↔ (v : Int) * base ≤ 18446744073709551615 - d := Int.le_ediv_iff_mul_le (by omega)
        repeat (first | refine byW ?_ | (refine byV ?_; intro w hw))
        rw [hg, hd, hw1, hw2, hdiv, hw3]
        refine W_cond rfl (fun h2 => ?_) (fun h2 => ?_)
        · have h2 : (18446744073709551615 - (d : Int)) / base < v := of_decide_eq_true h2
          have h3 : ¬ (v : Int) * base ≤ 18446744073709551615 - d := fun hh => by have := hle.2 hh; omega
          have h4 : most64 < v * base + d := by
            have : (most64 : Int) < ((v * base + d : Nat) : Int) := by rw [hmost]; push_cast; omega
            omega
          have h5 := valL_le base (by omega) ((bts s2).drop (k + 1)) (v * base + d)
          have h6 : most64 >>> sh ≤ most64 := Nat.shiftRight_le _ _
          repeat (first | refine byW ?_ | (refine byV ?_; intro w hw))
          refine ⟨_, rfl, ?_, rfl⟩
          unfold numCore
          rw [if_neg (by rw [hall]; simp), if_pos (by rw [hval]; omega)]; rfl
        · have h2 : ¬ (18446744073709551615 - (d : Int)) / base < v := of_decide_eq_false h2
          have h3 : (v : Int) * base ≤ 18446744073709551615 - d := hle.1 (by omega)
          have h3' : 0 ≤ (v : Int) * base := Int.mul_nonneg (by omega) (by omega)
          have hw4 : IntKind.u64.wrap ((v : Int) * base) = v * base := u64_wrap h3' (by omega)
          have hw5 : IntKind.u64.wrap ((v : Int) * base + d) = v * base + d := u64_wrap (by omega) (by omega)
          repeat (first | refine byW ?_ | (refine byV ?_; intro w hw))
          refine ⟨μ - 1, by omega, k + 1, v * base + d, by omega, ⟨rfl, rfl, rfl, ?_, rfl, trivial⟩, hval, ?_, rfl⟩
          · show Value.int .u64 (IntKind.u64.wrap (IntKind.u64.wrap ((v : Int) * base) + d)) = _
            rw [hw4, hw5]; push_cast; rfl
          · have : ((v * base + d : Nat) : Int) ≤ (most64 : Int) := by rw [hmost]; push_cast; omega
            omega
      have hkn : ¬ k < s2.size := by simpa using h1
      rw [List.drop_eq_nil_of_le (by omega)] at hval
      have hval : valL base (bts s2) 0 = v := hval
      have hcore : numCore base sh (bts s2) = if most64 >>> sh < v then (0, 6) else (v <<< sh, 0) := by
        unfold numCore
        rw [if_neg (by rw [hall]; simp), hval]
      rw [hcore]
      have key1 : (18446744073709551615 : Int).fdiv (2 ^ (min (sh : Int).toNat IntKind.u64.bits)) = ((most64 >>> sh : Nat) : Int) := by
        rcases hcase with rfl | rfl | rfl | rfl <;> decide +kernel
      have hmin : min (sh : Int).toNat IntKind.u64.bits = sh := by
        rcases hcase with rfl | rfl | rfl | rfl <;> rfl
      repeat (first | refine byW ?_ | (refine byV ?_; intro w hw))
      rw [key1]
      refine W_cond rfl (fun h2 => ?_) (fun h2 => ?_)
      · have h2 : most64 >>> sh < v := by have := of_decide_eq_true h2; omega
        repeat (first | refine byW ?_ | (refine byV ?_; intro w hw))
        refine ⟨_, rfl, ?_, rfl⟩
        rw [if_pos h2]; rfl
      · have h2 : ¬ most64 >>> sh < v := by have := of_decide_eq_false h2; omega
        have h3 : v * 2 ^ sh ≤ most64 := by
          rw [Nat.shiftRight_eq_div_pow] at h2
          exact (Nat.le_div_iff_mul_le (Nat.two_pow_pos sh)).1 (by omega)
        have h4 : IntKind.u64.wrap ((v : Int) * 2 ^ (min (sh : Int).toNat IntKind.u64.bits)) = ((v <<< sh : Nat) : Int) := by
          rw [hmin, Nat.shiftLeft_eq]
          have e : ((v * 2 ^ sh : Nat) : Int) = (v : Int) * 2 ^ sh := by push_cast; rfl
          rw [← e]
          have hmost : most64 = 18446744073709551615 := rfl
          exact u64_wrap (by omega) (by omega)
        repeat (first | refine byW ?_ | (refine byV ?_; intro w hw))
        refine ⟨_, rfl, ?_, rfl⟩
        rw [if_neg h2]
        show Ending.returned (.tuple #[.int .u64 (IntKind.u64.wrap ((v : Int) * 2 ^ (min (sh : Int).toNat IntKind.u64.bits))), .int .i64 0]) = _
        rw [h4]
end Go.Proofs.YtmjkacgmepbljaaGreatDoor
end
/- The program's lexer: a token. -/
section
open Go Mk
namespace Go.Proofs.YtmjkacgmepbljaaGreatDoor
set_option maxHeartbeats 4000000
attribute [local irreducible] Calls numS punctN

def tokOf (t : TokR) : Tok := ⟨t.kind, t.text, t.value, 0, 0⟩
theorem runN_le (s : ByteArray) : runN s ≤ s.size := by
  have : (s.data.toList.takeWhile wordC).length ≤ s.data.toList.length := (List.takeWhile_sublist _).length_le
  rw [← bts_len]; exact this
theorem runN_pos {s : ByteArray} (h0 : 0 < s.size) (h : wordC (s.data.toList.getD 0 0) = true) : 0 < runN s := by
  have hl := bts_len s
  unfold runN
  cases hb : s.data.toList with
  | nil => rw [show bts s = [] from hb] at hl; simp at hl; omega
  | cons c l =>
    rw [hb] at h
    have h : wordC c = true := h
    simp [List.takeWhile_cons, h]
theorem strN_eq {s : ByteArray} {k : Nat} (h1 : 1 ≤ k) (hk : k ≤ s.size) (ha : ∀ i, 1 ≤ i → i < k → inStr (byteAt s i) = true) (hn : k < s.size → inStr (byteAt s k) = false) : strN s = k := by
  have hl := bts_len s
  have hg : ∀ i, ((bts s).drop 1).getD i 0 = (bts s).getD (i + 1) 0 := fun i => by
    rw [List.getD_eq_getElem?_getD, List.getD_eq_getElem?_getD, List.getElem?_drop, Nat.add_comm]
  unfold strN
  rw [takeWhile_len (k := k - 1) (by simp [hl]; omega) (fun i hi => by rw [hg]; exact ha (i + 1) (by omega) (by omega)) (fun hh => by
    rw [hg, show k - 1 + 1 = k from by omega]
    exact hn (by simp [hl] at hh; omega))]
  omega

theorem punctN_le (s : ByteArray) : punctN s ≤ s.size := by
  unfold punctN
  split
  · rename_i h; exact h.1
  · split
    · rename_i h; exact h.1
    · omega
theorem pg_token (Γ : Gho) (s : ByteArray) (hs : s.size ≤ 4611686018427387904) (h0 : 0 < s.size) : PG Tryz.prog Γ 70 [.string s] (.tuple #[.agg (enc (tokOf (tokS s))).toArray, .int .i64 (tokS s).n, .int .i64 (tokS s).err]) := ⟨fun S w hw => by
  haveI : SB s := ⟨hs⟩
  have hrl := runN_le s
  refine calls_of_WC Tryz.func70 rfl rfl ?_
  repeat (first | refine byW ?_ | (refine byV ?_; intro w hw))
  refine lAlloc ?_
  intro b w hw
  repeat (first | refine byW ?_ | (refine byV ?_; intro w hw))
  refine W_cond rfl (fun h => ?_) (fun h => ?_)
  · have h : letterB (byteAt s 0) = true := h
    have hT : tokS s = ⟨1, bSub s 0 (runN s), 0, runN s, 0⟩ := by unfold tokS; rw [if_pos h]
    rw [hT]
    repeat (first | refine byW ?_ | (refine byV ?_; intro w hw))
    refine lStore ?_
    intro w hw
    have hw : Wd Γ (.blk b (.cells (enc (⟨1, bSub s 0 (runN s), 0, 0, 0⟩ : Tok)).toArray 101) :: S) w := hw
    repeat (first | refine byW ?_ | (refine byV ?_; intro w hw))
    exact ⟨[.agg (enc (⟨1, bSub s 0 (runN s), 0, 0, 0⟩ : Tok)).toArray, .int .i64 (runN s), .int .i64 0], ⟨resC (i := 0) hw rfl rfl rfl, rfl, rfl, trivial⟩, rfl, hw.drop⟩
  have h : letterB (byteAt s 0) = false := h
  repeat (first | refine byW ?_ | (refine byV ?_; intro w hw))
  refine W_cond rfl (fun h2 => ?_) (fun h2 => ?_)
  · have h2 : digitB (byteAt s 0) = true := h2
    have hrp : 0 < runN s := runN_pos h0 (by unfold wordC; rw [show digitB ((s.data.toList.getD 0 0).toNat : Int) = true from h2]; simp)
    have hsz : (bSub s 0 (runN s)).size = runN s := by rw [sub_size hrl]; omega
    have hT : tokS s = if (numS (bSub s 0 (runN s))).2 = 0 then ⟨2, ⟨#[]⟩, (numS (bSub s 0 (runN s))).1, runN s, 0⟩ else tokErr (numS (bSub s 0 (runN s))).2 := by unfold tokS; rw [if_neg (by rw [h]; simp), if_pos h2]
    rw [hT]
    repeat (first | refine byW ?_ | (refine byV ?_; intro w hw))
    refine lCall ?_
    refine (number_any (bSub s 0 (runN s)) (by omega) (by omega) w).mono ?_
    rintro e w' ⟨rfl, rfl⟩
    refine ⟨_, rfl, ?_⟩
    generalize numS (bSub s 0 (runN s)) = r
    obtain ⟨v, er⟩ := r
    repeat (first | refine byW ?_ | (refine byV ?_; intro w hw))
    refine W_cond rfl (fun h3 => ?_) (fun h3 => ?_)
    · have h3 : ¬ er = 0 := by simpa using h3
      repeat (first | refine byW ?_ | (refine byV ?_; intro w hw))
      refine lStore ?_
      intro w hw
      have hw : Wd Γ (.blk b (.cells (enc (⟨0, ⟨#[]⟩, 0, 0, 0⟩ : Tok)).toArray 101) :: S) w := hw
      repeat (first | refine byW ?_ | (refine byV ?_; intro w hw))
      refine ⟨[.agg (enc (⟨0, ⟨#[]⟩, 0, 0, 0⟩ : Tok)).toArray, .int .i64 0, .int .i64 er], ⟨resC (i := 0) hw rfl rfl rfl, rfl, rfl, trivial⟩, ?_, hw.drop⟩
      rw [if_neg h3]; rfl
    · have h3 : er = 0 := by simpa using h3
      repeat (first | refine byW ?_ | (refine byV ?_; intro w hw))
      refine lStore ?_
      intro w hw
      have hw : Wd Γ (.blk b (.cells (enc (⟨2, ⟨#[]⟩, v, 0, 0⟩ : Tok)).toArray 101) :: S) w := hw
      repeat (first | refine byW ?_ | (refine byV ?_; intro w hw))
      refine ⟨[.agg (enc (⟨2, ⟨#[]⟩, v, 0, 0⟩ : Tok)).toArray, .int .i64 (runN s), .int .i64 0], ⟨resC (i := 0) hw rfl rfl rfl, rfl, rfl, trivial⟩, ?_, hw.drop⟩
      rw [if_pos h3]; rfl
  have h2 : digitB (byteAt s 0) = false := h2
  repeat (first | refine byW ?_ | (refine byV ?_; intro w hw))
  refine W_cond rfl (fun h3 => ?_) (fun h3 => ?_)
  · have h3 : byteAt s 0 = 34 := of_decide_eq_true h3
    have hT : tokS s = if strN s < s.size ∧ byteAt s (strN s) = 34 then ⟨3, bSub s 1 (strN s), 0, strN s + 1, 0⟩ else tokErr 50 := by unfold tokS; rw [if_neg (by rw [h]; simp), if_neg (by rw [h2]; simp), if_pos h3]
    rw [hT]
    repeat (first | refine byW ?_ | (refine byV ?_; intro w hw))
    refine W_loop (fun μ ρ w => ∃ k : Nat, μ + k = s.size ∧ 1 ≤ k ∧ Has ρ [(0, .string s), (2, .pointer (some ⟨b, 0, none⟩)), (10, .int .i64 k)] ∧ (∀ i, 1 ≤ i → i < k → inStr (byteAt s i) = true) ∧ Wd Γ (.blk b (.cells (enc (⟨0, ⟨#[]⟩, 0, 0, 0⟩ : Tok)).toArray 101) :: S) w) (s.size - 1) ⟨1, by omega, by omega, ⟨rfl, rfl, rfl, trivial⟩, fun i h1 h2 => by omega, hw⟩ ?_
    clear hw
    rintro μ ρ w ⟨k, hk, hk1, hρ, hall, hw⟩
    rw [hρ.eq]
    repeat (first | refine byW ?_ | (refine byV ?_; intro w hw))
    refine W_cond rfl (fun h4 => ?_) (fun h4 => ?_)
    · have h4 : k < s.size ∧ inStr (byteAt s k) = true := by
        rw [Bool.and_eq_true, decide_eq_true_eq] at h4
        exact ⟨by omega, h4.2⟩
      repeat (first | refine byW ?_ | (refine byV ?_; intro w hw))
      refine ⟨μ - 1, by omega, k + 1, by omega, by omega, ⟨rfl, rfl, rfl, trivial⟩, fun i h1 h2 => ?_, hw⟩
      by_cases e : i = k
      · subst e; exact h4.2
      · exact hall i h1 (by omega)
    · have hS : strN s = k := strN_eq hk1 (by omega) hall (fun hlt => by
        have e1 : decide ((k : Int) < s.size) = true := by simp; omega
        rw [e1, Bool.true_and] at h4
        exact h4)
      rw [hS]
      clear h4
      have hks : k ≤ s.size := by omega
      repeat (first | refine byW ?_ | (refine byV ?_; intro w hw))
      have key : (decide ((k : Int) = s.size) || decide (byteAt s k ≠ 34)) = !decide (k < s.size ∧ byteAt s k = 34) := by
        rw [show decide ((k : Int) = s.size) = decide (¬ k < s.size) from decide_eq_decide.2 (by omega)]
        by_cases e1 : k < s.size <;> by_cases e2 : byteAt s k = 34 <;> simp [e1, e2]
      refine W_cond rfl (fun h4 => ?_) (fun h4 => ?_)
      · have h4 := key.symm.trans h4
        have h4 : ¬ (k < s.size ∧ byteAt s k = 34) := fun hh => by rw [decide_eq_true hh] at h4; cases h4
        repeat (first | refine byW ?_ | (refine byV ?_; intro w hw))
        refine lStore ?_
        intro w hw
        have hw : Wd Γ (.blk b (.cells (enc (⟨0, ⟨#[]⟩, 0, 0, 0⟩ : Tok)).toArray 101) :: S) w := hw
        repeat (first | refine byW ?_ | (refine byV ?_; intro w hw))
        refine ⟨[.agg (enc (⟨0, ⟨#[]⟩, 0, 0, 0⟩ : Tok)).toArray, .int .i64 0, .int .i64 50], ⟨resC (i := 0) hw rfl rfl rfl, rfl, rfl, trivial⟩, ?_, hw.drop⟩
        rw [if_neg h4]; rfl
      · have h4 := key.symm.trans h4
        have h4 : k < s.size ∧ byteAt s k = 34 := by simpa using h4
        have hkl := h4.1
        repeat (first | refine byW ?_ | (refine byV ?_; intro w hw))
        refine lStore ?_
        intro w hw
        have hw : Wd Γ (.blk b (.cells (enc (⟨3, bSub s 1 k, 0, 0, 0⟩ : Tok)).toArray 101) :: S) w := hw
        repeat (first | refine byW ?_ | (refine byV ?_; intro w hw))
        refine ⟨[.agg (enc (⟨3, bSub s 1 k, 0, 0, 0⟩ : Tok)).toArray, .int .i64 ((k : Int) + 1), .int .i64 0], ⟨resC (i := 0) hw rfl rfl rfl, rfl, rfl, trivial⟩, ?_, hw.drop⟩
        rw [if_pos h4]; rfl
  · have h3 : ¬ byteAt s 0 = 34 := of_decide_eq_false h3
    have hT : tokS s = if punctN s = 0 then tokErr 50 else ⟨4, bSub s 0 (punctN s), 0, punctN s, 0⟩ := by unfold tokS; rw [if_neg (by rw [h]; simp), if_neg (by rw [h2]; simp), if_neg h3]
    have hpl := punctN_le s
    rw [hT]
    repeat (first | refine byW ?_ | (refine byV ?_; intro w hw))
    refine W_cond rfl (fun h4 => ?_) (fun h4 => ?_)
    · have h4 : punctN s = 0 := by have := of_decide_eq_true h4; omega
      repeat (first | refine byW ?_ | (refine byV ?_; intro w hw))
      refine lStore ?_
      intro w hw
      have hw : Wd Γ (.blk b (.cells (enc (⟨0, ⟨#[]⟩, 0, 0, 0⟩ : Tok)).toArray 101) :: S) w := hw
      repeat (first | refine byW ?_ | (refine byV ?_; intro w hw))
      refine ⟨[.agg (enc (⟨0, ⟨#[]⟩, 0, 0, 0⟩ : Tok)).toArray, .int .i64 0, .int .i64 50], ⟨resC (i := 0) hw rfl rfl rfl, rfl, rfl, trivial⟩, ?_, hw.drop⟩
      rw [if_pos h4]; rfl
    · have h4 : ¬ punctN s = 0 := by have := of_decide_eq_false h4; omega
      repeat (first | refine byW ?_ | (refine byV ?_; intro w hw))
      refine lStore ?_
      intro w hw
      have hw : Wd Γ (.blk b (.cells (enc (⟨4, bSub s 0 (punctN s), 0, 0, 0⟩ : Tok)).toArray 101) :: S) w := hw
      repeat (first | refine byW ?_ | (refine byV ?_; intro w hw))
      refine ⟨[.agg (enc (⟨4, bSub s 0 (punctN s), 0, 0, 0⟩ : Tok)).toArray, .int .i64 (punctN s), .int .i64 0], ⟨resC (i := 0) hw rfl rfl rfl, rfl, rfl, trivial⟩, ?_, hw.drop⟩
      rw [if_neg h4]; rfl⟩
end Go.Proofs.YtmjkacgmepbljaaGreatDoor
end
/- The program's lexer: positions, and that tokens hold no line's end (no program in sight). -/
section
open Go Mk
namespace Go.Proofs.YtmjkacgmepbljaaGreatDoor
set_option maxHeartbeats 400000
attribute [local irreducible] Calls numS punctN

theorem word_nl {b : UInt8} (h : wordC b = true) : ((b.toNat : Nat) : Int) ≠ 10 := by
  intro e
  unfold wordC letterB digitB at h
  rw [e] at h; revert h; decide
theorem inStr_nl {c : Int} (h : inStr c = true) : c ≠ 10 := by
  intro e; rw [e] at h; revert h; decide
theorem takeWhile_get {p : UInt8 → Bool} : ∀ {l : List UInt8} {i : Nat}, i < (l.takeWhile p).length → p (l.getD i 0) = true
  | [], i, h => by simp at h
  | x :: l, i, h => by
    by_cases hx : p x = true
    · rw [List.takeWhile_cons, if_pos hx] at h
      cases i with
      | zero => simpa using hx
      | succ i => exact takeWhile_get (l := l) (i := i) (by simpa using h)
    · rw [List.takeWhile_cons, if_neg hx] at h; simp at h
theorem tok_ok {s : ByteArray} (h0 : 0 < s.size) (he : (tokS s).err = 0) : 1 ≤ (tokS s).n ∧ (tokS s).n ≤ s.size ∧ ∀ i, i < (tokS s).n → byteAt s i ≠ 10 := by
  have hrl := runN_le s
  have hrun : ∀ i, i < runN s → byteAt s i ≠ 10 := fun i hi => word_nl (takeWhile_get (p := wordC) hi)
  unfold tokS at he ⊢
  by_cases h1 : letterB (byteAt s 0) = true
  · rw [if_pos h1]
    exact ⟨runN_pos h0 (by unfold wordC; rw [show letterB ((s.data.toList.getD 0 0).toNat : Int) = true from h1]; rfl), hrl, hrun⟩
  rw [if_neg h1] at he ⊢
  by_cases h2 : digitB (byteAt s 0) = true
  · rw [if_pos h2] at he ⊢
    by_cases h3 : (numS (bSub s 0 (runN s))).2 = 0
    · rw [if_pos h3]
      exact ⟨runN_pos h0 (by unfold wordC; rw [show digitB ((s.data.toList.getD 0 0).toNat : Int) = true from h2]; simp), hrl, hrun⟩
    · rw [if_neg h3] at he; exact absurd he h3
  rw [if_neg h2] at he ⊢
  by_cases h3 : byteAt s 0 = 34
  · rw [if_pos h3] at he ⊢
    by_cases h4 : strN s < s.size ∧ byteAt s (strN s) = 34
    · rw [if_pos h4]
      refine ⟨by show 1 ≤ strN s + 1; omega, by show strN s + 1 ≤ s.size; omega, fun i hi => ?_⟩
      have hi : i < strN s + 1 := hi
      by_cases e0 : i = 0
      · subst e0; rw [h3]; decide
      · by_cases e1 : i = strN s
        · subst e1; rw [h4.2]; decide
        · have hi2 : i - 1 < (((bts s).drop 1).takeWhile inStrC).length := by unfold strN at hi e1; omega
          have := takeWhile_get (p := inStrC) hi2
          rw [List.getD_eq_getElem?_getD, List.getElem?_drop, show 1 + (i - 1) = i from by omega, ← List.getD_eq_getElem?_getD] at this
          exact inStr_nl this
    · rw [if_neg h4] at he; exact absurd he (by decide)
  rw [if_neg h3] at he ⊢
  by_cases h4 : punctN s = 0
  · rw [if_pos h4] at he; exact absurd he (by decide)
  rw [if_neg h4]
  refine ⟨by show 1 ≤ punctN s; omega, punctN_le s, fun i hi => ?_⟩
  have hi : i < punctN s := hi
  unfold punctN at hi
  by_cases h5 : 2 ≤ s.size ∧ two2 (byteAt s 0) (byteAt s 1) = true
  · rw [if_pos h5] at hi
    have h6 := h5.2
    intro e
    rcases (by omega : i = 0 ∨ i = 1) with rfl | rfl <;> (rw [e] at h6; unfold two2 at h6; simp at h6)
  · rw [if_neg h5] at hi
    split at hi
    · rename_i h6
      have hi0 : i = 0 := by omega
      subst hi0
      intro e
      have : s.data.toList.getD 0 0 = 10 := by
        apply UInt8.toNat_inj.1
        have e' : ((s.data.toList.getD 0 0).toNat : Int) = 10 := e
        show _ = 10
        omega
      rw [this] at h6
      exact absurd h6.2 (by decide)
    · omega
theorem posAt_run {s : ByteArray} {off : Nat} : ∀ (n : Nat), (∀ i, i < n → byteAt s (off + i) ≠ 10) → posAt s (off + n) = ⟨(posAt s off).Line, (posAt s off).Col + n⟩
  | 0, _ => by simp
  | n + 1, h => by
    have ih := posAt_run n (fun i hi => h i (by omega))
    rw [show off + (n + 1) = (off + n) + 1 from by omega]
    rw [show posAt s (off + n + 1) = if byteAt s (off + n) = 10 then ⟨(posAt s (off + n)).Line + 1, 1⟩ else ⟨(posAt s (off + n)).Line, (posAt s (off + n)).Col + 1⟩ from rfl, if_neg (h n (by omega)), ih]
    simp; omega
theorem posAt_nl {s : ByteArray} {k : Nat} (h : byteAt s k = 10) : posAt s (k + 1) = ⟨(posAt s k).Line + 1, 1⟩ := by
  rw [show posAt s (k + 1) = if byteAt s k = 10 then ⟨(posAt s k).Line + 1, 1⟩ else ⟨(posAt s k).Line, (posAt s k).Col + 1⟩ from rfl, if_pos h]
theorem skipN_eq {s : ByteArray} {off k : Nat} (h1 : off ≤ k) (hk : k ≤ s.size) (ha : ∀ i, off ≤ i → i < k → byteAt s i ≠ 10) (hn : k < s.size → byteAt s k = 10) : skipN s off = k := by
  have hl := bts_len s
  have hg : ∀ i, ((bts s).drop off).getD i 0 = (bts s).getD (off + i) 0 := fun i => by
    rw [List.getD_eq_getElem?_getD, List.getD_eq_getElem?_getD, List.getElem?_drop]
  unfold skipN
  rw [takeWhile_len (k := k - off) (by simp [hl]; omega) (fun i hi => by rw [hg]; exact decide_eq_true (ha (off + i) (by omega) (by omega))) (fun hh => by
    rw [hg, show off + (k - off) = k from by omega]
    have := hn (by simp [hl] at hh; omega)
    exact decide_eq_false (fun q => q this))]
  omega
end Go.Proofs.YtmjkacgmepbljaaGreatDoor
end
/- The program's lexer: Scan. -/
section
open Go Mk
namespace Go.Proofs.YtmjkacgmepbljaaGreatDoor
set_option maxHeartbeats 4000000
attribute [local irreducible] Calls numS punctN tokS posAt skipN

theorem Scan_any (Γ : Gho) (S : List Res) (w : World) (s : ByteArray) (hs : s.size ≤ 4611686018427387904) (hw : Wd Γ S w) :
    Calls Tryz.prog 36 #[.string s] w fun e w' => ∃ v, e = .returned (.tuple #[v, .agg (enc (scanS s).2.1).toArray, .int .i64 (scanS s).2.2]) ∧ Wd Γ (.own v 101 5 ((scanS s).1.map enc) :: S) w' := by
  refine calls_of_WC Tryz.func36 rfl rfl ?_
  repeat (first | refine byW ?_ | (refine byV ?_; intro w hw))
  refine lAlloc ?_
  intro bp w hw
  have hw : Wd Γ (.blk bp (.cells (enc (⟨0, 0⟩ : PosT)).toArray 33) :: S) w := hw
  repeat (first | refine byW ?_ | (refine byV ?_; intro w hw))
  refine W_scopeS ?_
  repeat (first | refine byW ?_ | (refine byV ?_; intro w hw))
  refine W_cond rfl (fun h => ?_) (fun h => ?_)
  · have h : 65536 < s.size := by simp at h; omega
    have hS : scanS s = ([], ⟨0, 0⟩, 15) := by unfold scanS; rw [if_pos h]
    rw [hS]
    repeat (first | refine byW ?_ | (refine byV ?_; intro w hw))
    refine lStore ?_
    intro w hw
    have hw : Wd Γ (.blk bp (.cells (enc (⟨0, 0⟩ : PosT)).toArray 33) :: S) w := hw
    repeat (first | refine byW ?_ | (refine byV ?_; intro w hw))
    exact ⟨[.slice none 0 0, .agg (enc (⟨0, 0⟩ : PosT)).toArray, .int .i64 15], ⟨rfl, resC (i := 0) hw rfl rfl rfl, rfl, trivial⟩, _, rfl, Wd.addNil hw.drop⟩
  have h : ¬ 65536 < s.size := by simp at h; omega
  have hS : scanS s = scanN s (s.size + 1) 0 [] := by unfold scanS; rw [if_neg h]
  rw [hS]
  repeat (first | refine byW ?_ | (refine byV ?_; intro w hw))
  refine W_label ?_
  repeat (first | refine byW ?_ | (refine byV ?_; intro w hw))
  refine W_loop (fun μ ρ w => ∃ (off start : Nat) (g : Value) (toks : List Tok), off ≤ s.size ∧ s.size < μ + off ∧ start ≤ off ∧ (posAt s off).Col = (off : Int) - start + 1 ∧ (posAt s off).Line ≤ 1 + off ∧ toks.length ≤ off ∧ Has ρ [(0, .string s), (3, .pointer (some ⟨bp, 0, none⟩)), (5, g), (6, .int .i64 (posAt s off).Line), (7, .int .i64 start), (8, .int .i64 off)] ∧ scanN s (s.size + 1) 0 [] = scanN s μ off toks ∧ 0 ≤ (posAt s off).Line ∧ Wd Γ (.own g 101 5 (toks.map enc) :: .blk bp (.cells (enc (⟨0, 0⟩ : PosT)).toArray 33) :: S) w) (s.size + 1) ?_ ?_
  · have p0 : posAt s 0 = ⟨1, 1⟩ := by unfold posAt; rfl
    refine ⟨0, 0, .slice none 0 0, [], by omega, by omega, by omega, ?_, ?_, by simp, ⟨rfl, rfl, rfl, ?_, rfl, rfl, trivial⟩, rfl, ?_, Wd.addNil hw⟩
    · rw [p0]; rfl
    · rw [p0]; decide
    · rw [p0]; rfl
    · rw [p0]; decide
  clear hw
  rintro μ ρ w ⟨off, start, g, toks, ho, hμ, hst, hcol, hlin, htl, hρ, hN, hl0, hw⟩
  rw [hρ.eq]
  obtain ⟨f, rfl⟩ : ∃ f, μ = f + 1 := ⟨μ - 1, by omega⟩
  rw [hN]
  clear hS
  repeat (first | refine byW ?_ | (refine byV ?_; intro w hw))
  refine W_cond rfl (fun h1 => ?_) (fun h1 => ?_)
  · have h1 : off < s.size := by simpa using h1
    have hsp : spaceB (byteAt s off) = true → scanN s (f + 1) off toks = scanN s f (off + 1) toks := fun q => by
      show (if s.size ≤ off then _ else _) = _
      rw [if_neg (by omega), if_pos q]
    have hp1 : byteAt s off ≠ 10 → posAt s (off + 1) = ⟨(posAt s off).Line, (posAt s off).Col + 1⟩ := fun q => by
      have := posAt_run (s := s) (off := off) 1 (fun i hi => by rw [show off + i = off from by omega]; exact q)
      simpa using this
    have hp2 : byteAt s off = 10 → posAt s (off + 1) = ⟨(posAt s off).Line + 1, 1⟩ := posAt_nl
    repeat (first | refine byW ?_ | (refine byV ?_; intro w hw))
    refine W_cond rfl (fun e1 => ?_) (fun e1 => ?_)
    · have e1 : byteAt s off = 10 := of_decide_eq_true e1
      have hq := hp2 e1
      repeat (first | refine byW ?_ | (refine byV ?_; intro w hw))
      refine ⟨f, by omega, off + 1, off + 1, g, toks, by omega, by omega, by omega, by rw [hq]; show (1 : Int) = _; omega, by rw [hq]; show (posAt s off).Line + 1 ≤ _; omega, by omega, ⟨rfl, rfl, rfl, by rw [hq]; rfl, rfl, rfl, trivial⟩, by rw [hsp (by rw [e1]; rfl)], by rw [hq]; show 0 ≤ (posAt s off).Line + 1; omega, hw⟩
    have e1 : byteAt s off ≠ 10 := of_decide_eq_false e1
    have hq := hp1 e1
    repeat (first | refine byW ?_ | (refine byV ?_; intro w hw))
    refine W_cond rfl (fun e2 => ?_) (fun e2 => ?_)
    · repeat (first | refine byW ?_ | (refine byV ?_; intro w hw))
      refine W_cond_true (by simp only [e2]; rfl) ?_
      have e2 : byteAt s off = 32 := of_decide_eq_true e2
      repeat (first | refine byW ?_ | (refine byV ?_; intro w hw))
      exact ⟨f, by omega, off + 1, start, g, toks, by omega, by omega, by omega, by rw [hq]; show (posAt s off).Col + 1 = _; omega, by rw [hq]; show (posAt s off).Line ≤ _; omega, by omega, ⟨rfl, rfl, rfl, by rw [hq]; rfl, rfl, rfl, trivial⟩, by rw [hsp (by rw [e2]; rfl)], by rw [hq]; exact hl0, hw⟩
    repeat (first | refine byW ?_ | (refine byV ?_; intro w hw))
    refine W_cond rfl (fun e3 => ?_) (fun e3 => ?_)
    · repeat (first | refine byW ?_ | (refine byV ?_; intro w hw))
      refine W_cond_true (by simp only [e3]; rfl) ?_
      have e3 : byteAt s off = 9 := of_decide_eq_true e3
      repeat (first | refine byW ?_ | (refine byV ?_; intro w hw))
      exact ⟨f, by omega, off + 1, start, g, toks, by omega, by omega, by omega, by rw [hq]; show (posAt s off).Col + 1 = _; omega, by rw [hq]; show (posAt s off).Line ≤ _; omega, by omega, ⟨rfl, rfl, rfl, by rw [hq]; rfl, rfl, rfl, trivial⟩, by rw [hsp (by rw [e3]; rfl)], by rw [hq]; exact hl0, hw⟩
    repeat (first | refine byW ?_ | (refine byV ?_; intro w hw))
    refine W_cond rfl (fun e4 => ?_) (fun e4 => ?_)
    · have e4 : byteAt s off = 13 := of_decide_eq_true e4
      repeat (first | refine byW ?_ | (refine byV ?_; intro w hw))
      exact ⟨f, by omega, off + 1, start, g, toks, by omega, by omega, by omega, by rw [hq]; show (posAt s off).Col + 1 = _; omega, by rw [hq]; show (posAt s off).Line ≤ _; omega, by omega, ⟨rfl, rfl, rfl, by rw [hq]; rfl, rfl, rfl, trivial⟩, by rw [hsp (by rw [e4]; rfl)], by rw [hq]; exact hl0, hw⟩
    have e2 : byteAt s off ≠ 32 := of_decide_eq_false e2
    have e3 : byteAt s off ≠ 9 := of_decide_eq_false e3
    have e4 : byteAt s off ≠ 13 := of_decide_eq_false e4
    have hns : ¬ spaceB (byteAt s off) = true := by simp [spaceB, e1, e2, e3, e4]
    repeat (first | refine byW ?_ | (refine byV ?_; intro w hw))
    refine W_cond rfl (fun e5 => ?_) (fun e5 => ?_)
    · have e5 : byteAt s off = 35 := of_decide_eq_true e5
      have hsk : scanN s (f + 1) off toks = scanN s f (skipN s off) toks := by
        show (if s.size ≤ off then _ else _) = _
        rw [if_neg (by omega), if_neg hns, if_pos e5]
      repeat (first | refine byW ?_ | (refine byV ?_; intro w hw))
      refine W_loop (fun μ ρ w => ∃ k : Nat, μ + k = s.size ∧ off ≤ k ∧ Has ρ [(0, .string s), (3, .pointer (some ⟨bp, 0, none⟩)), (5, g), (6, .int .i64 (posAt s off).Line), (7, .int .i64 start), (8, .int .i64 k)] ∧ (∀ i, off ≤ i → i < k → byteAt s i ≠ 10) ∧ Wd Γ (.own g 101 5 (toks.map enc) :: .blk bp (.cells (enc (⟨0, 0⟩ : PosT)).toArray 33) :: S) w) (s.size - off) ⟨off, by omega, by omega, ⟨rfl, rfl, rfl, rfl, rfl, rfl, trivial⟩, fun i h1 h2 => by omega, hw⟩ ?_
      clear hw hρ
      rintro μ2 ρ w ⟨k, hk, hk1, hρ, hall, hw⟩
      rw [hρ.eq]
      repeat (first | refine byW ?_ | (refine byV ?_; intro w hw))
      refine W_cond rfl (fun h4 => ?_) (fun h4 => ?_)
      · have h4 : k < s.size ∧ byteAt s k ≠ 10 := by
          rw [Bool.and_eq_true, decide_eq_true_eq] at h4
          exact ⟨by omega, of_decide_eq_true h4.2⟩
        have hkl := h4.1
        repeat (first | refine byW ?_ | (refine byV ?_; intro w hw))
        refine ⟨μ2 - 1, by omega, k + 1, by omega, by omega, ⟨rfl, rfl, rfl, rfl, rfl, rfl, trivial⟩, fun i h1 h2 => ?_, hw⟩
        by_cases e : i = k
        · subst e; exact h4.2
        · exact hall i h1 (by omega)
      · have hend : k < s.size → byteAt s k = 10 := fun hlt => by
          have q1 : decide ((k : Int) < s.size) = true := by simp; omega
          rw [q1, Bool.true_and] at h4
          have := of_decide_eq_false h4
          exact Classical.not_not.1 this
        have hkk : off < k := by
          rcases Nat.lt_or_ge off k with q | q
          · exact q
          · have : k = off := by omega
            subst this
            have := hend h1
            exact absurd this e1
        have hks : skipN s off = k := skipN_eq hk1 (by omega) hall hend
        have hpk := posAt_run (s := s) (off := off) (k - off) (fun i hi => hall (off + i) (by omega) (by omega))
        rw [show off + (k - off) = k from by omega] at hpk
        repeat (first | refine byW ?_ | (refine byV ?_; intro w hw))
        exact ⟨f, by omega, k, start, g, toks, by omega, by omega, by omega, by rw [hpk]; show (posAt s off).Col + _ = _; omega, by rw [hpk]; show (posAt s off).Line ≤ _; omega, by omega, ⟨rfl, rfl, rfl, by rw [hpk]; rfl, rfl, rfl, trivial⟩, by rw [hsk, hks], by rw [hpk]; exact hl0, hw⟩
    have e5 : byteAt s off ≠ 35 := of_decide_eq_false e5
    have hsz : (bSub s off s.size).size = s.size - off := sub_size (Nat.le_refl _)
    have hok := tok_ok (s := bSub s off s.size) (by omega)
    have hstep : scanN s (f + 1) off toks = if (tokS (bSub s off s.size)).err = 0 then scanN s f (off + (tokS (bSub s off s.size)).n) (toks ++ [⟨(tokS (bSub s off s.size)).kind, (tokS (bSub s off s.size)).text, (tokS (bSub s off s.size)).value, (posAt s off).Line, (posAt s off).Col⟩]) else ([], posAt s off, (tokS (bSub s off s.size)).err) := by
      show (if s.size ≤ off then _ else _) = _
      rw [if_neg (by omega), if_neg hns, if_neg e5]
    have hbyte : ∀ i, i < s.size - off → byteAt (bSub s off s.size) i = byteAt s (off + i) := fun i hi => byte_sub (by omega)
    rw [hstep]
    obtain ⟨ag, ng, cg, rfl, hng, hngc, hcg⟩ := hw.own_shape (i := 0) rfl
    simp only [List.length_map] at hng
    have hoz : (0 : Int) ≤ off := by omega
    repeat (first | refine byW ?_ | (refine byV ?_; intro w hw))
    refine lAlloc ?_
    intro b9 w hw
    refine lStore ?_
    intro w hw
    have hw : Wd Γ (.blk b9 (.cells (enc (⟨(posAt s off).Line, (off : Int) - start + 1⟩ : PosT)).toArray 33) :: .own (.slice ag ng cg) 101 5 (toks.map enc) :: .blk bp (.cells (enc (⟨0, 0⟩ : PosT)).toArray 33) :: S) w := hw
    rw [← hcol] at hw
    repeat (first | refine byW ?_ | (refine byV ?_; intro w hw))
    refine lPg (hp := pg_token Γ (bSub s off s.size) (by omega) (by omega)) ?_
    intro w hw
    generalize tokS (bSub s off s.size) = t at *
    repeat (first | refine byW ?_ | (refine byV ?_; intro w hw))
    refine lAlloc ?_
    intro b10 w hw
    refine lStore ?_
    intro w hw
    have hw : Wd Γ (.blk b10 (.cells (enc (tokOf t)).toArray 101) :: .blk b9 (.cells (enc (⟨(posAt s off).Line, (posAt s off).Col⟩ : PosT)).toArray 33) :: .own (.slice ag ng cg) 101 5 (toks.map enc) :: .blk bp (.cells (enc (⟨0, 0⟩ : PosT)).toArray 33) :: S) w := hw
    repeat (first | refine byW ?_ | (refine byV ?_; intro w hw))
    refine W_cond rfl (fun h6 => ?_) (fun h6 => ?_)
    · have h6 : ¬ t.err = 0 := by simpa using h6
      rw [if_neg h6]
      repeat (first | refine byW ?_ | (refine byV ?_; intro w hw))
      refine W_mixC [.blk b10 _, .blk b9 _, .own _ _ _ _] (.blk bp _ :: S) [] [[],[],[],[0],[]] hw ?_
      repeat (first | refine mY ?_ | refine mP ?_ | refine mPg ?_)
      refine mStepX (φ := fun (_ : Unit) _ => True) (R := fun _ => .blk bp (.cells (enc (⟨0, 0⟩ : PosT)).toArray 33) :: S) (v := undef) (T' := Unit) (fun _ _ => True) (fun _ => .blk bp (.cells (enc (⟨(posAt s off).Line, (posAt s off).Col⟩ : PosT)).toArray 33) :: S) (fun t' g w Y _ hw => s_store (i := 0) (inferInstance : TSz Tryz.prog 33 2).h hw rfl rfl rfl rfl (fun u hu => (List.all_eq_true.1 (enc_one (⟨(posAt s off).Line, (posAt s off).Col⟩ : PosT))) u hu) rfl (Nat.le_refl 2) fun w' hw' => ⟨(), trivial, (fun _ => rfl), hw'⟩) ?_
      repeat (first | refine mY ?_ | refine mP ?_ | refine mPg ?_)
      refine mEndX fun t' w g _ hw => ?_
      have hw : Wd Γ (.blk bp (.cells (enc (posAt s off)).toArray 33) :: S) w := Wd.left (S := .blk bp _ :: S) hw
      repeat (first | refine byW ?_ | (refine byV ?_; intro w hw))
      exact ⟨[.slice none 0 0, .agg (enc (posAt s off)).toArray, .int .i64 t.err], ⟨rfl, resC (i := 0) hw rfl rfl rfl, rfl, trivial⟩, _, rfl, Wd.addNil hw.drop⟩
    · have h6 : t.err = 0 := by simpa using h6
      rw [if_pos h6]
      obtain ⟨hn1, hn2, hnn⟩ := hok h6
      rw [hsz] at hn2
      have hpn := posAt_run (s := s) (off := off) t.n (fun i hi => by rw [← hbyte i (by omega)]; exact hnn i hi)
      repeat (first | refine byW ?_ | (refine byV ?_; intro w hw))
      refine lStore ?_
      intro w hw
      have hw : Wd Γ (.blk b10 (.cells (enc (⟨t.kind, t.text, t.value, (posAt s off).Line, (posAt s off).Col⟩ : Tok)).toArray 101) :: .blk b9 (.cells (enc (⟨(posAt s off).Line, (posAt s off).Col⟩ : PosT)).toArray 33) :: .own (.slice ag ng cg) 101 5 (toks.map enc) :: .blk bp (.cells (enc (⟨0, 0⟩ : PosT)).toArray 33) :: S) w := hw
      repeat (first | refine byW ?_ | (refine byV ?_; intro w hw))
      refine lBuildSlice [enc (⟨t.kind, t.text, t.value, (posAt s off).Line, (posAt s off).Col⟩ : Tok)] ?_
      intro a72 w hw
      refine lApp (i := 3) (rows2 := [enc (⟨t.kind, t.text, t.value, (posAt s off).Line, (posAt s off).Col⟩ : Tok)]) ?_ (Wd.own_rd (i := 0) hw rfl)
      intro v' w hw
      repeat (first | refine byW ?_ | (refine byV ?_; intro w hw))
      have hw : Wd Γ (.own v' 101 5 (toks.map enc ++ [enc (⟨t.kind, t.text, t.value, (posAt s off).Line, (posAt s off).Col⟩ : Tok)]) :: .blk bp (.cells (enc (⟨0, 0⟩ : PosT)).toArray 33) :: S) w := hw.drop.drop.drop
      rw [show toks.map enc ++ [enc (⟨t.kind, t.text, t.value, (posAt s off).Line, (posAt s off).Col⟩ : Tok)] = (toks ++ [(⟨t.kind, t.text, t.value, (posAt s off).Line, (posAt s off).Col⟩ : Tok)]).map enc from by simp] at hw
      exact ⟨f, by omega, off + t.n, start, v', _, by omega, by omega, by omega, by rw [hpn]; show (posAt s off).Col + _ = _; omega, by rw [hpn]; show (posAt s off).Line ≤ _; omega, by simp; omega, ⟨rfl, rfl, rfl, by rw [hpn]; rfl, rfl, rfl, trivial⟩, rfl, by rw [hpn]; exact hl0, hw⟩
  · have h1 : ¬ off < s.size := by simpa using h1
    have hend : scanN s (f + 1) off toks = (toks, ⟨0, 0⟩, 0) := by
      show (if s.size ≤ off then _ else _) = _
      rw [if_pos (by omega)]
    rw [hend]
    repeat (first | refine byW ?_ | (refine byV ?_; intro w hw))
    refine lStore ?_
    intro w hw
    have hw : Wd Γ (.own g 101 5 (toks.map enc) :: .blk bp (.cells (enc (⟨0, 0⟩ : PosT)).toArray 33) :: S) w := hw
    repeat (first | refine byW ?_ | (refine byV ?_; intro w hw))
    exact ⟨[g, .agg (enc (⟨0, 0⟩ : PosT)).toArray, .int .i64 0], ⟨rfl, resC (i := 1) hw rfl rfl rfl, rfl, trivial⟩, _, rfl, hw.dropAt 1⟩
end Go.Proofs.YtmjkacgmepbljaaGreatDoor
end
/- Tokens are read; the position of the end of a text; the scanner's bound. -/
section
open Go Mk
namespace Go.Proofs.YtmjkacgmepbljaaGreatDoor
set_option maxHeartbeats 4000000
attribute [local irreducible] Calls

theorem y_mkIface {P : Program} {d : Option Tmp} {T ty : TypeId} {pos : String} {es : Array Edge} {g : Option (Nat × Bool)} {x : Operand} {ρ : Fr} {w : World} {v : Value} {fs : Array Field} (hu : P.underlying T = some (.struct fs)) (hx : ev ρ x = v) : Mk.Yields P ⟨d, .makeInterface T x, ty, pos, es, g⟩ ρ w (.iface T v) := by
  unfold Mk.Yields; simp [execOp, hx, Instr.makeInterface, run_underlying hu, Result.andThen]
def isS (toks : List Tok) (at' : Nat) (kind : Int) (text : ByteArray) : Bool := match toks[at']? with | some t => decide (t.Kind = kind) && decide (t.Text = text) | none => false
def posOf (toks : List Tok) (at' : Nat) (e : PosT) : PosT := match toks[at']? with | some t => ⟨t.Line, t.Col⟩ | none => e
/-- How a reading of the parser ends: with a value and the number of the next token, or with an error and its position. -/
abbrev PR (α : Type) := Except (PosT × Int) (α × Nat)
def nextP (toks : List Tok) (e : PosT) (kind : Int) (at' : Nat) : PR Tok := match toks[at']? with | some t => if t.Kind = kind then .ok (t, at') else .error (posOf toks at' e, 50) | none => .error (posOf toks at' e, 50)
def expectP (toks : List Tok) (e : PosT) (kind : Int) (text : ByteArray) (at' : Nat) : PR Unit := if isS toks at' kind text = true then .ok ((), at' + 1) else .error (posOf toks at' e, 50)
def nameP (toks : List Tok) (e : PosT) (kind : Int) (at' : Nat) : PR ByteArray := match nextP toks e kind at' with | .ok (t, _) => if 24 < t.Text.size then .error (posOf toks at' e, 63) else .ok (t.Text, at' + 1) | .error q => .error q
def numberP (toks : List Tok) (e : PosT) (limited : Bool) (at' : Nat) : PR Int := match nextP toks e 2 at' with | .ok (t, _) => if limited = true ∧ 2147483647 < t.Value then .error (posOf toks at' e, 6) else .ok (t.Value, at' + 1) | .error q => .error q

theorem nextP_at {toks : List Tok} {e : PosT} {at' : Nat} {kind : Int} {x : Tok} {k : Nat} (h : nextP toks e kind at' = .ok (x, k)) : k = at' ∧ toks[at']? = some x ∧ x.Kind = kind := by
  unfold nextP at h
  cases hg : toks[at']? with
  | none => rw [hg] at h; cases h
  | some t =>
    rw [hg] at h
    by_cases hk : t.Kind = kind
    · simp only [hk, if_true] at h; cases h; exact ⟨rfl, rfl, hk⟩
    · simp only [hk, if_false] at h; cases h
def memB (s : ByteArray) (xs : List ByteArray) : Bool := xs.any fun x => decide (s = x)
def commaB : ByteArray := ⟨#[44]⟩
def semiB : ByteArray := ⟨#[59]⟩
def openB : ByteArray := ⟨#[123]⟩
def closeB : ByteArray := ⟨#[125]⟩
theorem isS_lt {toks : List Tok} {k : Nat} {kind : Int} {text : ByteArray} (h : isS toks k kind text = true) : k < toks.length := by
  unfold isS at h
  cases hg : toks[k]? with
  | none => rw [hg] at h; cases h
  | some t => exact (List.getElem?_eq_some_iff.1 hg).1
theorem numberP_at {toks : List Tok} {e : PosT} {limited : Bool} {k k1 : Nat} {v : Int} (h : numberP toks e limited k = .ok (v, k1)) : k1 = k + 1 ∧ k < toks.length := by
  unfold numberP at h
  cases hN : nextP toks e 2 k with
  | error q => rw [hN] at h; cases h
  | ok q =>
    obtain ⟨x, j⟩ := q
    obtain ⟨rfl, h1, -⟩ := nextP_at hN
    rw [hN] at h
    have hlt := (List.getElem?_eq_some_iff.1 h1).1
    by_cases hc : limited = true ∧ 2147483647 < x.Value
    · simp only [hc, and_self, if_true] at h; cases h
    · dsimp only at h
      rw [if_neg hc] at h
      cases h; exact ⟨rfl, hlt⟩
theorem expectP_at {toks : List Tok} {e : PosT} {kind : Int} {text : ByteArray} {k k1 : Nat} {u : Unit} (h : expectP toks e kind text k = .ok (u, k1)) : k1 = k + 1 ∧ k < toks.length := by
  unfold expectP at h
  by_cases hi : isS toks k kind text = true
  · rw [if_pos hi] at h; cases h; exact ⟨rfl, isS_lt hi⟩
  · rw [if_neg hi] at h; cases h
theorem posLine {s : ByteArray} : ∀ {k : Nat}, k ≤ s.size → (posAt s k).Line = 1 + (((s.data.toList.take k).count 10 : Nat) : Int)
  | 0, _ => by simp [posAt]
  | k + 1, h => by
    have ih := posLine (s := s) (k := k) (by omega)
    have hk : k < s.data.toList.length := by rw [show s.data.toList.length = s.size from by simp]; omega
    obtain ⟨b, hb⟩ : ∃ b, s.data.toList[k]? = some b := ⟨_, List.getElem?_eq_getElem hk⟩
    have hB : byteAt s k = ((b.toNat : Nat) : Int) := by
      show ((s.data.toList.getD k 0).toNat : Int) = _
      rw [List.getD_eq_getElem?_getD, hb]; rfl
    rw [List.take_add_one, hb]
    by_cases h1 : b = 10
    · subst h1
      rw [posAt_nl (by rw [hB]; rfl)]
      simp [ih]; omega
    · have h2 : byteAt s k ≠ 10 := by
        rw [hB]; intro h2
        exact h1 (UInt8.toNat_inj.1 (by simpa using (show b.toNat = 10 by omega)))
      have := posAt_run (s := s) (off := k) 1 (fun i hi => by
        have : i = 0 := by omega
        subst this; exact h2)
      rw [this]
      simp [ih, h1]
theorem posCol {s : ByteArray} {k : Nat} (h : ∀ i, k ≤ i → i < s.size → byteAt s i ≠ 10) (hk : k ≤ s.size) : (posAt s s.size).Col = (posAt s k).Col + ((s.size - k : Nat) : Int) := by
  have := posAt_run (s := s) (off := k) (s.size - k) (fun i hi => h _ (by omega) (by omega))
  rw [show k + (s.size - k) = s.size by omega] at this
  rw [this]
def endP (s : ByteArray) : PosT := posAt s s.size
theorem Last_any (s : ByteArray) (hs : s.size ≤ 4611686018427387904) (w : World) : Calls Tryz.prog 71 #[.string s, .int .u8 10] w fun e w' => e = .returned (.int .i64 ((s.size : Int) - (endP s).Col)) ∧ w' = w := by
  refine calls_of_W Tryz.func71 rfl rfl ?_
  repeat (first | refine byW ?_ | (refine byV ?_; intro w hw))
  refine W_loop (fun μ ρ w' => ∃ (i : Int) (k : Nat), i + 1 = k ∧ μ = k ∧ k ≤ s.size ∧ Has ρ [(0, .string s), (1, .int .u8 10), (5, .int .i64 i)] ∧ (∀ j, k ≤ j → j < s.size → byteAt s j ≠ 10) ∧ w' = w) s.size ⟨(s.size : Int) - 1, s.size, by omega, rfl, Nat.le_refl _, ⟨rfl, rfl, rfl, trivial⟩, fun j h1 h2 => by omega, rfl⟩ ?_
  rintro μ ρ w' ⟨i, k, hik, rfl, hk, hρ, hno, rfl⟩
  rw [hρ.eq]
  repeat (first | refine byW ?_ | (refine byV ?_; intro w hw))
  refine W_cond rfl (fun h => ?_) (fun h => ?_)
  · have h : 0 ≤ i := of_decide_eq_true h
    repeat (first | refine byW ?_ | (refine byV ?_; intro w hw))
    have hi : i.toNat + 1 = μ := by omega
    refine W_cond rfl (fun h2 => ?_) (fun h2 => ?_)
    · have h2 : byteAt s i.toNat = 10 := of_decide_eq_true h2
      repeat (first | refine byW ?_ | (refine byV ?_; intro w hw))
      refine ⟨_, rfl, ?_, rfl⟩
      have h3 := posCol (s := s) (k := μ) hno hk
      have h4 := posAt_nl h2
      rw [hi] at h4
      rw [h4] at h3
      unfold endP
      rw [h3]
      show Ending.returned (.int .i64 i) = _
      congr 2; dsimp; omega
    · have h2 : ¬ byteAt s i.toNat = 10 := of_decide_eq_false h2
      repeat (first | refine byW ?_ | (refine byV ?_; intro w hw))
      refine ⟨i.toNat, by omega, i - 1, i.toNat, by omega, rfl, by omega, ⟨rfl, rfl, rfl, trivial⟩, fun j h3 h4 => ?_, rfl⟩
      by_cases e : j = i.toNat
      · subst e; exact h2
      · exact hno j (by omega) h4
  · have h : ¬ 0 ≤ i := of_decide_eq_false h
    repeat (first | refine byW ?_ | (refine byV ?_; intro w hw))
    refine ⟨_, rfl, ?_, rfl⟩
    have h3 := posCol (s := s) (k := 0) (fun j h1 h2 => hno j (by omega) h2) (by omega)
    unfold endP
    rw [h3]
    show Ending.returned (.int .i64 (-1)) = _
    congr 2; simp [posAt]; omega
theorem ext_Count (s : ByteArray) (c : Int) (w : World) : (callFunc 73 #[.string s, .int .u8 c]).run Tryz.prog w = .ok (.value (.int .i64 (Go.Lib.countByte s.data.toList c.toNat.toUInt8))) w := by
  rw [run_callFunc_extern Tryz.func73 (by kernel_rfl) (by kernel_rfl) (e := Extern.BytealgCount.count) (by kernel_rfl) (by kernel_rfl), Go.Lib.run_countString]
  rfl
theorem pc_CountNl (s : ByteArray) : PC Tryz.prog 38 [.string s, .string ⟨#[10]⟩] (.int .i64 (s.data.toList.count 10 : Nat)) := ⟨fun w => by
  refine calls_of_W Tryz.func38 rfl rfl ?_
  repeat (first | refine byW ?_ | (refine byV ?_; intro w hw))
  refine W_cond rfl (fun h => absurd h (by decide)) (fun _ => ?_)
  repeat (first | refine byW ?_ | (refine byV ?_; intro w hw))
  refine W_cond rfl (fun _ => ?_) (fun h => absurd h (by decide))
  repeat (first | refine byW ?_ | (refine byV ?_; intro w hw))
  refine lY (v := .int .u8 10) ?_ (hy := y_idxS (s := ⟨#[10]⟩) (k := .i64) (i := 0) rfl rfl (by decide) (by decide))
  repeat (first | refine byW ?_ | (refine byV ?_; intro w hw))
  refine lExt (vs := [.string s, .int .u8 10]) (ext_Count s 10) ?_
  repeat (first | refine byW ?_ | (refine byV ?_; intro w hw))
  exact ⟨_, rfl, rfl, rfl⟩⟩
theorem pc_LastNl (s : ByteArray) (hs : s.size ≤ 4611686018427387904) : PC Tryz.prog 37 [.string s, .int .u8 10] (.int .i64 ((s.size : Int) - (endP s).Col)) := ⟨fun w => by
  have hL3 : PC Tryz.prog 71 [.string s, .int .u8 10] (.int .i64 ((s.size : Int) - (endP s).Col)) := ⟨fun w => Last_any s hs w⟩
  refine calls_of_W Tryz.func37 rfl rfl ?_
  repeat (first | refine byW ?_ | (refine byV ?_; intro w hw))
  exact ⟨_, rfl, rfl, rfl⟩⟩
def maxS0 : Nat := 4611686018427387904
theorem resS {P : Program} {Γ : Gho} {S : List Res} {ρ : Fr} {w : World} {t T i b k : Nat} {cs : Array Value} {E : TypeId} {fr : Nat × Nat} {v : Value} [ha : TS P T] (hw : Wd Γ S w) (hi : S[i]? = some (.blk b (.cells cs E fr))) (hx : ρ t = .pointer (some ⟨b, k, none⟩)) (hv : cs[k]? = some v) : ResV P ρ w (.cell t T) v := by
  refine ⟨_, hx, ?_⟩
  have hc := cell_of (hw.at_blk hi) hv
  simp [loadVar, scal_isAgg ha.h, hc, go_sem]
theorem scanN_len {s : ByteArray} : ∀ {f off : Nat} {acc : List Tok}, off ≤ s.size → (scanN s f off acc).1.length ≤ acc.length + (s.size - off)
  | 0, off, acc, h => by simp [scanN]
  | f + 1, off, acc, h => by
    unfold scanN
    split
    · simp
    · rename_i h1
      split
      · have := scanN_len (s := s) (f := f) (off := off + 1) (acc := acc) (by omega)
        omega
      · split
        · have h2 : off ≤ skipN s off ∧ skipN s off ≤ s.size := by
            unfold skipN
            have : (((bts s).drop off).takeWhile fun b => decide ((b.toNat : Int) ≠ 10)).length ≤ ((bts s).drop off).length := (List.takeWhile_sublist _).length_le
            rw [List.length_drop, bts_len] at this
            omega
          have := scanN_len (s := s) (f := f) (off := skipN s off) (acc := acc) h2.2
          omega
        · split
          · rename_i h4
            have hsz : (bSub s off s.size).size = s.size - off := sub_size (Nat.le_refl _)
            obtain ⟨a1, a2, -⟩ := tok_ok (s := bSub s off s.size) (by omega) h4
            have := scanN_len (s := s) (f := f) (off := off + (tokS (bSub s off s.size)).n) (acc := acc ++ [⟨(tokS (bSub s off s.size)).kind, (tokS (bSub s off s.size)).text, (tokS (bSub s off s.size)).value, (posAt s off).Line, (posAt s off).Col⟩]) (by omega)
            simp at this; omega
          · simp
theorem scanS_len {s : ByteArray} : (scanS s).1.length ≤ 65536 := by
  unfold scanS
  split
  · simp
  · have := scanN_len (s := s) (f := s.size + 1) (off := 0) (acc := []) (by omega)
    simp at this; omega
class RTok (Γ : Gho) (a : Option Addr) (n c : Nat) (toks : outParam (List Tok)) : Prop where
  h : RepS Γ (.slice a n c) 5 (toks.map enc)
  big : n ≤ 1000000
theorem RTok.len {Γ : Gho} {a : Option Addr} {n c : Nat} {toks : List Tok} (h : RTok Γ a n c toks) : n = toks.length ∧ n ≤ c ∧ c ≤ 9223372036854775807 := by
  obtain ⟨_, _, _, h1, h2, h3⟩ := h.h.shape
  cases h1
  exact ⟨by simpa using h2, h3⟩
theorem RTok.mono {Γ Γ' : Gho} {a : Option Addr} {n c : Nat} {toks : List Tok} (h : RTok Γ a n c toks) (hle : Γ.le Γ') : RTok Γ' a n c toks := ⟨h.h.mono hle, h.big⟩
class IB (I : Nat) : Prop where h : I ≤ 1000000
def kindS (toks : List Tok) (k : Nat) (kind : Int) : Bool := match toks[k]? with | some t => decide (t.Kind = kind) | none => false
class SZ (s : ByteArray) : Prop where h : s.size ≤ 4611686018427387904
theorem RTok.of {Γ : Gho} {a : Option Addr} {n c : Nat} {toks : List Tok} (h : RepS Γ (.slice a n c) 5 (toks.map enc)) (hb : n ≤ 1000000) : RTok Γ a n c toks := ⟨h, hb⟩
end Go.Proofs.YtmjkacgmepbljaaGreatDoor
end
/- Values and facts; the comparisons of the library and of the reference. -/
section
open Go Mk
namespace Go.Proofs.YtmjkacgmepbljaaGreatDoor
set_option maxHeartbeats 4000000
attribute [local irreducible] Calls

structure Val where
  Kind : Int
  Num : Int
  Word : ByteArray
  deriving DecidableEq, Inhabited
instance : GoT Val where
  enc a := [.int .i64 a.Kind, .int .i64 a.Num, .string a.Word]
  inj a b h := by cases a; cases b; simp at h; simp [h]
  ks := [5, 5, 1]
  kinds a := rfl
def cV (a b : Val) : Int := orI (cI a.Kind b.Kind) (orI (cI a.Num b.Num) (cB a.Word b.Word))
theorem cV_ord : Ord3 cV := (cI_ord.prod (cI_ord.prod cB_ord)).map (fun v : Val => (v.Kind, v.Num, v.Word)) fun a b h => by cases a; cases b; simp at h; simp [h]
abbrev Fact := ByteArray × List Val
def cFact (a b : Fact) : Int := orI (cB a.1 b.1) (orI (cI a.2.length b.2.length) (cL cV a.2 b.2))
theorem cFact_ord : Ord3 cFact := (cB_ord.prod (cI_ord.prod cV_ord.list)).map (fun f : Fact => (f.1, ((f.2.length : Int), f.2))) fun a b h => by
  simp only [Prod.mk.injEq] at h; exact Prod.ext h.1 h.2.2

/-- A fact as it lies in memory: its arguments lie elsewhere. -/
structure FactH where
  Rel : ByteArray
  A : Option Addr
  N : Nat
  C : Nat
  Args : List Val
def FactH.hdr (f : FactH) : Value := .slice f.A f.N f.C
def FactH.fact (f : FactH) : Fact := (f.Rel, f.Args)
def cF (f : FactH) : List Value := [.string f.Rel, f.hdr]
def FOk (Γ : Gho) (f : FactH) : Prop := RepS Γ f.hdr 3 (f.Args.map enc)
theorem FOk.len {Γ : Gho} {f : FactH} (h : FOk Γ f) : f.N = f.Args.length ∧ f.N ≤ f.C ∧ f.C ≤ 9223372036854775807 := by
  obtain ⟨a, n, c, h1, h2, h3, h4⟩ := RepS.shape h
  unfold FactH.hdr at h1
  cases h1
  exact ⟨by simpa using h2, h3, h4⟩
theorem cF_one (f : FactH) : (cF f).all (·.oneCell') = true := rfl
theorem cFs_one (fs : List FactH) : ∀ u ∈ (fs.map cF).flatten, u.oneCell' = true := fun u hu => by
  obtain ⟨r, hr, hu⟩ := List.mem_flatten.1 hu
  obtain ⟨f, _, rfl⟩ := List.mem_map.1 hr
  exact (List.all_eq_true.1 (cF_one f)) u hu

instance pc_isNaNs (s : ByteArray) : PC Tryz.prog 67 [.string s] (.bool false) := ⟨fun w => by
  refine calls_of_W Tryz.func67 rfl rfl ?_
  repeat (first | refine byW ?_ | (refine byV ?_; intro w hw))
  exact ⟨_, rfl, ret_b rfl (by simp), rfl⟩⟩
instance pc_isNaNi (s : Int) : PC Tryz.prog 68 [.int .i64 s] (.bool false) := ⟨fun w => by
  refine calls_of_W Tryz.func68 rfl rfl ?_
  repeat (first | refine byW ?_ | (refine byV ?_; intro w hw))
  exact ⟨_, rfl, ret_b rfl (by simp), rfl⟩⟩
instance pc_isNaNl (s : Int) : PC Tryz.prog 96 [.int .i64 s] (.bool false) := ⟨fun w => by
  refine calls_of_W Tryz.func96 rfl rfl ?_
  repeat (first | refine byW ?_ | (refine byV ?_; intro w hw))
  exact ⟨_, rfl, ret_b rfl (by simp), rfl⟩⟩
instance pc_cmps (a b : ByteArray) : PC Tryz.prog 32 [.string a, .string b] (.int .i64 (cB a b)) := ⟨fun w => by
  refine calls_of_W Tryz.func32 rfl rfl ?_
  repeat (first | refine byW ?_ | (refine byV ?_; intro w hw))
  refine W_cond_false rfl ?_
  repeat (first | refine byW ?_ | (refine byV ?_; intro w hw))
  refine W_cond_false rfl ?_
  repeat (first | refine byW ?_ | (refine byV ?_; intro w hw))
  refine W_cond rfl (fun h => ?_) (fun h => ?_)
  · repeat (first | refine byW ?_ | (refine byV ?_; intro w hw))
    exact ⟨_, rfl, ret_i rfl (by simp [cB, h]), rfl⟩
  repeat (first | refine byW ?_ | (refine byV ?_; intro w hw))
  refine W_cond rfl (fun h2 => ?_) (fun h2 => ?_)
  · repeat (first | refine byW ?_ | (refine byV ?_; intro w hw))
    exact ⟨_, rfl, ret_i rfl (by simp [cB, h, h2]), rfl⟩
  · repeat (first | refine byW ?_ | (refine byV ?_; intro w hw))
    exact ⟨_, rfl, ret_i rfl (by simp [cB, h, h2]), rfl⟩⟩
instance pc_cmpi (a b : Int) : PC Tryz.prog 33 [.int .i64 a, .int .i64 b] (.int .i64 (cI a b)) := ⟨fun w => by
  refine calls_of_W Tryz.func33 rfl rfl ?_
  repeat (first | refine byW ?_ | (refine byV ?_; intro w hw))
  refine W_cond_false rfl ?_
  repeat (first | refine byW ?_ | (refine byV ?_; intro w hw))
  refine W_cond_false rfl ?_
  repeat (first | refine byW ?_ | (refine byV ?_; intro w hw))
  refine W_cond rfl (fun h => ?_) (fun h => ?_)
  · repeat (first | refine byW ?_ | (refine byV ?_; intro w hw))
    exact ⟨_, rfl, ret_i rfl (by simp at h; simp [cI, h]), rfl⟩
  repeat (first | refine byW ?_ | (refine byV ?_; intro w hw))
  refine W_cond rfl (fun h2 => ?_) (fun h2 => ?_)
  · repeat (first | refine byW ?_ | (refine byV ?_; intro w hw))
    exact ⟨_, rfl, ret_i rfl (by simp at h h2; unfold cI; rw [if_neg (by omega), if_pos h2]), rfl⟩
  · repeat (first | refine byW ?_ | (refine byV ?_; intro w hw))
    exact ⟨_, rfl, ret_i rfl (by simp at h h2; unfold cI; rw [if_neg (by omega), if_neg (by omega)]), rfl⟩⟩
instance pc_cmpl (a b : Int) : PC Tryz.prog 69 [.int .i64 a, .int .i64 b] (.int .i64 (cI a b)) := ⟨fun w => by
  refine calls_of_W Tryz.func69 rfl rfl ?_
  repeat (first | refine byW ?_ | (refine byV ?_; intro w hw))
  refine W_cond_false rfl ?_
  repeat (first | refine byW ?_ | (refine byV ?_; intro w hw))
  refine W_cond_false rfl ?_
  repeat (first | refine byW ?_ | (refine byV ?_; intro w hw))
  refine W_cond rfl (fun h => ?_) (fun h => ?_)
  · repeat (first | refine byW ?_ | (refine byV ?_; intro w hw))
    exact ⟨_, rfl, ret_i rfl (by simp at h; simp [cI, h]), rfl⟩
  repeat (first | refine byW ?_ | (refine byV ?_; intro w hw))
  refine W_cond rfl (fun h2 => ?_) (fun h2 => ?_)
  · repeat (first | refine byW ?_ | (refine byV ?_; intro w hw))
    exact ⟨_, rfl, ret_i rfl (by simp at h h2; unfold cI; rw [if_neg (by omega), if_pos h2]), rfl⟩
  · repeat (first | refine byW ?_ | (refine byV ?_; intro w hw))
    exact ⟨_, rfl, ret_i rfl (by simp at h h2; unfold cI; rw [if_neg (by omega), if_neg (by omega)]), rfl⟩⟩
instance pc_order (a b : ByteArray) : PC Tryz.prog 64 [.string a, .string b] (.int .i64 (cB a b)) := ⟨fun w => by
  refine calls_of_W Tryz.func64 rfl rfl ?_
  repeat (first | refine byW ?_ | (refine byV ?_; intro w hw))
  refine W_cond rfl (fun h => ?_) (fun h => ?_)
  · repeat (first | refine byW ?_ | (refine byV ?_; intro w hw))
    exact ⟨_, rfl, ret_i rfl (by simp [cB, h]), rfl⟩
  repeat (first | refine byW ?_ | (refine byV ?_; intro w hw))
  refine W_cond rfl (fun h2 => ?_) (fun h2 => ?_)
  · repeat (first | refine byW ?_ | (refine byV ?_; intro w hw))
    exact ⟨_, rfl, ret_i rfl (by simp [cB, h, h2]), rfl⟩
  · repeat (first | refine byW ?_ | (refine byV ?_; intro w hw))
    exact ⟨_, rfl, ret_i rfl (by simp [cB, h, h2]), rfl⟩⟩
instance pc_number (a b : Int) : PC Tryz.prog 65 [.int .i64 a, .int .i64 b] (.int .i64 (cI a b)) := ⟨fun w => by
  refine calls_of_W Tryz.func65 rfl rfl ?_
  repeat (first | refine byW ?_ | (refine byV ?_; intro w hw))
  refine W_cond rfl (fun h => ?_) (fun h => ?_)
  · repeat (first | refine byW ?_ | (refine byV ?_; intro w hw))
    exact ⟨_, rfl, ret_i rfl (by simp at h; simp [cI, h]), rfl⟩
  repeat (first | refine byW ?_ | (refine byV ?_; intro w hw))
  refine W_cond rfl (fun h2 => ?_) (fun h2 => ?_)
  · repeat (first | refine byW ?_ | (refine byV ?_; intro w hw))
    exact ⟨_, rfl, ret_i rfl (by simp at h h2; unfold cI; rw [if_neg (by omega), if_pos h2]), rfl⟩
  · repeat (first | refine byW ?_ | (refine byV ?_; intro w hw))
    exact ⟨_, rfl, ret_i rfl (by simp at h h2; unfold cI; rw [if_neg (by omega), if_neg (by omega)]), rfl⟩⟩

theorem orI_pos {x y : Int} (h : ¬ x = 0) : orI x y = x := by unfold orI; rw [if_neg h]
theorem orI_null {x y : Int} (h : x = 0) : orI x y = y := by unfold orI; rw [if_pos h]
theorem drop_none {α : Type} (l : List α) {k : Nat} (h : l.length ≤ k) : l.drop k = [] := List.drop_eq_nil_of_le h
theorem drop_get {α : Type} {l : List α} {k : Nat} {x : α} (h : l[k]? = some x) : l.drop k = x :: l.drop (k + 1) := by
  obtain ⟨h1, h2⟩ := List.getElem?_eq_some_iff.1 h
  rw [← h2]; exact List.drop_eq_getElem_cons h1
def orL : List Int → Int
  | [] => 0
  | x :: l => orI x (orL l)
theorem orI_r (x : Int) : orI x 0 = x := by unfold orI; split <;> simp [*]
/-- cmp.Or. -/
theorem Or_any {Γ : Gho} {S : List Res} {w : World} {v : Value} (xs : List Int) (hw : Wd Γ S w) (hr : RdS Γ S v 1 (xs.map fun x => [.int .i64 x])) :
    Calls Tryz.prog 31 #[v] w fun e w' => e = .returned (.int .i64 (orL xs)) ∧ Wd Γ S w' := by
  obtain ⟨a, n, c, rfl, hn, hnc, hc⟩ := hr.shape
  simp only [List.length_map] at hn
  refine calls_of_W Tryz.func31 rfl rfl ?_
  repeat (first | refine byW ?_ | (refine byV ?_; intro w hw))
  refine W_loop (fun μ ρ w => ∃ (k : Nat), μ + k = n ∧ Has ρ [(3, .int .i64 0), (6, .slice a n c), (7, .int .i64 n), (8, .int .i64 k)] ∧ orL xs = orL (xs.drop k) ∧ Wd Γ S w) n ⟨0, by omega, ⟨rfl, rfl, rfl, rfl, trivial⟩, rfl, hw⟩ ?_
  clear hw
  rintro μ ρ w ⟨k, hk, hρ, ho, hw⟩
  rw [hρ.eq]
  repeat (first | refine byW ?_ | (refine byV ?_; intro w hw))
  refine W_cond rfl (fun h => ?_) (fun h => ?_)
  · have hkn : k < n := by simpa using h
    obtain ⟨x, hx⟩ := get_lt (l := xs) (k := k) (by omega)
    have hd : xs.drop k = x :: xs.drop (k + 1) := by
      obtain ⟨h1, h2⟩ := List.getElem?_eq_some_iff.1 hx
      rw [← h2]; exact (List.drop_eq_getElem_cons h1)
    rw [hd] at ho
    repeat (first | refine byW ?_ | (refine byV ?_; intro w hw))
    refine W_cond rfl (fun h2 => ?_) (fun h2 => ?_)
    · repeat (first | refine byW ?_ | (refine byV ?_; intro w hw))
      have h2 : ¬ x = 0 := by simpa using h2
      refine ⟨_, rfl, ret_i rfl ?_, hw⟩
      rw [ho]; unfold orL orI; rw [if_neg h2]
    · repeat (first | refine byW ?_ | (refine byV ?_; intro w hw))
      have h2 : x = 0 := by simpa using h2
      refine ⟨μ - 1, by omega, k + 1, by omega, ⟨rfl, rfl, rfl, rfl, trivial⟩, ?_, hw⟩
      rw [ho]; show orI x _ = _; unfold orI; rw [if_pos h2]
  · have hkn : ¬ k < n := by simpa using h
    repeat (first | refine byW ?_ | (refine byV ?_; intro w hw))
    refine ⟨_, rfl, ret_i rfl ?_, hw⟩
    rw [ho, List.drop_eq_nil_of_le (by omega)]; rfl
end Go.Proofs.YtmjkacgmepbljaaGreatDoor
end
/- A field of an element of an owned slice is written. -/
section
open Go
namespace Mk
section
variable {P : Program} {n : Nat} {opa : Array Oper} {Γ : Gho} {S : List Res} {QQ : Exit → Fr → World → Prop} {K : Value → World → Prop} {ρ : Fr} {w : World} {rest : List Oper} {sz : Nat} {rows : List (List Value)}
variable {d : Option Tmp} {T U ty : TypeId} {pos : String} {es : Array Edge} {g : Option (Nat × Bool)} {x y z : Operand} {v : Value}
theorem field_set {L r : List Value} {p f m sz N : Nat} (hp : p + sz ≤ N) (hN : N ≤ L.length) (hr : r.length = m) (hfm : f + m ≤ sz) :
    (L.take (p + f) ++ r ++ L.drop (p + f + r.length)).take N = (L.take N).take p ++ (((L.drop p).take sz).take f ++ r ++ ((L.drop p).take sz).drop (f + m)) ++ (L.take N).drop (p + sz) := by
  refine List.ext_getElem? fun i => ?_
  simp only [List.getElem?_append, List.getElem?_take, List.getElem?_drop, List.length_append, List.length_take, List.length_drop, hr]
  repeat' split
  all_goals first | omega | rfl | (congr 1; omega) | skip
/-- Some cells of an element of an owned slice are written. -/
theorem s_storeEf {E k f m i n c : Nat} {a : Option Addr} {v : Value} {r row : List Value} (hn : (P.info? T).map (·.size) = some m) (hw : Wd Γ S w) (hx : ev ρ x = .pointer (some ⟨aB a, aO a + k * sz + f, none⟩)) (hy : ev ρ y = v) (hv : v.cells.toList = r) (hl : r.length = m)
    (h1 : r.all (·.oneCell') = true) (hi : S[i]? = some (.own (.slice a n c) E sz rows)) (hkl : k < n) (hrow : rows[k]? = some row) (hfm : f + m ≤ sz) (hk : ∀ w', Wd Γ (S.set i (.own (.slice a n c) E sz (rows.set k (row.take f ++ r ++ row.drop (f + m))))) w' → K undef w') : Step P ⟨d, .store T x y, ty, pos, es, g⟩ ρ w K := by
  obtain ⟨bs0, hr0⟩ := hw.own_holds hi
  unfold Res.own at hr0
  obtain ⟨q0, a', n', c', e1, e2, e3, e4, e5⟩ := hr0
  cases e1
  rcases e5 with ⟨hc, _⟩ | ⟨b, cur, g1, g2, g3, g4, g5⟩
  · omega
  · subst g1
    have hrl : row.length = sz := q0 row (List.mem_of_getElem? hrow)
    have hnew : (row.take f ++ r ++ row.drop (f + m)).length = sz := by simp [hl, hrl]; omega
    have hx' : ev ρ x = .pointer (some ⟨b, k * sz + f, none⟩) := by rw [hx]; simp [aB, aO]
    have hks : k * sz + sz ≤ cur.size := by
      rw [g4, show k * sz + sz = (k + 1) * sz from by rw [Nat.add_mul]; omega]; exact Nat.mul_le_mul_right _ (by omega)
    have hfit : k * sz + f + 0 + r.length ≤ cur.size := by rw [hl]; omega
    have hst := run_storeCells_at P b (k * sz + f) E r 0 cur w g3 hfit (fun u hu => (List.all_eq_true.1 h1) u hu)
    simp only [Nat.add_zero] at hst
    have hsz : v.cells.size = m := by rw [← hl, ← hv]; simp
    have hr : (execOp (ev ρ) ⟨d, .store T x y, ty, pos, es, g⟩).run P w = .ok .skip (w.setRow b (cur.toList.take (k * sz + f) ++ r ++ cur.toList.drop (k * sz + f + r.length)).toArray) := by
      cases hq : P.info? T with
      | none => simp [hq] at hn
      | some q =>
        have hs : q.size = m := by simpa [hq] using hn
        have hz : (Go.sizeOf T).run P w = .ok m w := by simp [Go.sizeOf, typeInfo, hq, hs]
        have hsv : (storeVar T ⟨b, k * sz + f, none⟩ v).run P w = .ok () (w.setRow b (cur.toList.take (k * sz + f) ++ r ++ cur.toList.drop (k * sz + f + r.length)).toArray) := by
          unfold storeVar
          rw [Sem.run_bind, hz]
          simp only [Result.andThen_ok, hsz, ne_eq, not_true_eq_false, if_false, hv]
          exact hst
        simp only [execOp, hx', hy, Instr.storeAt, Instr.sureAddr, Sem.run_bind, Sem.run_pure, Result.andThen_ok, hsv]
    have hfin := hk _ (hw.upd hi (w' := w.setRow b (cur.toList.take (k * sz + f) ++ r ++ cur.toList.drop (k * sz + f + r.length)).toArray) ⟨rfl, rfl, rfl, (by first | exact Nat.le_refl _ | exact Nat.le_succ _), by simp⟩ fun bs hr' hnd hlt => by
      unfold Res.own at hr' ⊢
      obtain ⟨q0', a2, n2, c2, f1, f2, f3, f4, f5⟩ := hr'
      cases f1
      rcases f5 with ⟨hc, _⟩ | ⟨b2, cur2, k1, k2, k3, k4, k5⟩
      · omega
      · cases k1
        rw [show hp w b = some (.cells cur E (0, 0)) from g3] at k3; cases k3
        refine ⟨bs, ⟨?_, _, _, _, rfl, by simpa using f2, f3, f4, .inr ⟨b, _, rfl, k2, setRow_heap w b cur _ E _ g3, ?_, ?_⟩⟩, hnd, fun x hx => ⟨by have := hlt x hx; simpa using this, .inl hx⟩, fun k' _ hne => setRow_other w b k' _ (fun e => hne (by simp [k2, e]))⟩
        · intro r' hr'
          rcases List.mem_or_eq_of_mem_set hr' with h | rfl
          · exact q0 r' h
          · exact hnew
        · simp only [List.size_toArray, List.length_append, List.length_take, List.length_drop, Array.length_toList]; omega
        · have hkn : k * sz + sz ≤ n * sz := by rw [show k * sz + sz = (k + 1) * sz from by rw [Nat.add_mul]; omega]; exact Nat.mul_le_mul_right _ (by omega)
          have hns : n * sz ≤ cur.toList.length := by rw [Array.length_toList, g4]; exact Nat.mul_le_mul_right _ e3
          have e0 := rows_set_flatten (k := k) (r := row) q0 hrl (by omega)
          have e9 : rows.set k row = rows := by
            refine List.ext_getElem? fun i => ?_
            rw [List.getElem?_set]
            split
            · rename_i h; subst h; rw [hrow]; simp; omega
            · rfl
          rw [e9] at e0
          rw [rows_set_flatten q0 hnew (by omega), ← g5]
          have hrw : row = (cur.toList.drop (k * sz)).take sz := by
            have : row = ((cur.toList.take (n * sz)).drop (k * sz)).take sz := by
              rw [g5, e0, List.append_assoc, List.drop_append_of_le_length (by rw [List.length_take, ← g5, List.length_take]; omega)]
              have : ((rows.flatten.take (k * sz)).drop (k * sz)) = [] := by rw [List.drop_eq_nil_iff, List.length_take]; omega
              rw [this, List.nil_append, List.take_append_of_le_length (by omega), List.take_of_length_le (by omega)]
            rw [this, List.drop_take, List.take_take, Nat.min_eq_left (by omega)]
          rw [hrw]
          exact field_set hkn hns hl hfm
        )
    unfold Step; rw [hr]; exact hfin

theorem lStoreEf {E k f i m mm c sz : Nat} {a : Option Addr} {r row : List Value} {rows : List (List Value)} [hn : TSz P T m] (h : ∀ w', Wd Γ (S.set i (.own (.slice a mm c) E sz (rows.set k (row.take f ++ r ++ row.drop (f + m))))) w' → L P n opa QQ rest ρ w') (hrow : rows[k]? = some row) (hw : Wd Γ S w := by exact hw) (hx : ev ρ x = .pointer (some ⟨aB a, aO a + k * sz + f, none⟩) := by exact rfl)
    (hy : ev ρ y = v := by exact byMV) (hv : v.cells.toList = r := by exact rfl) (hl : r.length = m := by exact rfl) (h1 : r.all (·.oneCell') = true := by exact rfl) (hi : S[i]? = some (.own (.slice a mm c) E sz rows) := by exact byIX) (hk : k < mm := by omega) (hfm : f + m ≤ sz := by omega) :
    L P n opa QQ (⟨none, .store T x y, ty, pos, es, none⟩ :: rest) ρ w := L_step rfl rfl (s_storeEf hn.h hw hx hy hv hl h1 hi hk hrow hfm h)
end
end Mk
end
/- Drawn regions: steps that change one or two cells; cells of which only a relation is known. -/
section
open Go
namespace Mk
attribute [local irreducible] Calls
theorem W_cutB {P : Program} {n id : Nat} {c : Code} {K : Fr → World → Prop} {Q : Exit → Fr → World → Prop} {ρ : Fr} {w : World} (I : Fr → World → Prop) (h1 : W P n c (InBl id (Then I Q)) ρ w) (h2 : ∀ ρ w, I ρ w → K ρ w) : W P n c (InBl id (Then K Q)) ρ w :=
  h1.mono fun e ρ w h => by
    cases e with
    | normal => exact h2 ρ w h
    | exit i =>
      simp only [InBl] at h ⊢
      split <;> rename_i hi <;> simp only [hi, if_true, if_false] at h
      · exact h2 ρ w h
      · exact h
    | _ => exact h
theorem W_cutT {P : Program} {n : Nat} {c : Code} {K : Fr → World → Prop} {Q : Exit → Fr → World → Prop} {ρ : Fr} {w : World} (I : Fr → World → Prop) (h1 : W P n c (Then I Q) ρ w) (h2 : ∀ ρ w, I ρ w → K ρ w) : W P n c (Then K Q) ρ w :=
  h1.mono fun e ρ w h => by
    cases e with
    | normal => exact h2 ρ w h
    | _ => exact h
section
variable {P : Program} {n : Nat} {ops : List Oper} {Γ : Gho} {K : List Res} {wr tc stab : List (List Nat)} {Q : Fr → World → Prop} {i : Nat} {rest : List Oper} {ρ : Fr} {w : World} {M : Nat → Fr → List Res} {v : Value} {T T' : Type} {o : Oper}
variable {ty : TypeId} {pos : String} {es : Array Edge}
theorem ml1 {a b d : Fr → List Res} : ML [a, b, d] 1 = b := rfl
theorem ml2 {a b d : Fr → List Res} : ML [a, b, d] 2 = d := rfl
theorem exC_open {φ : T → Fr → Prop} {R : T → List Res} {g : Fr} {Z : List Res} (h : Wd Γ (exC φ R g ++ Z) w) : ∃ t, φ t g ∧ Wd Γ (R t ++ Z) w := by
  obtain ⟨⟨t, ht⟩, hw⟩ := Wd.openEx (S := Z) h
  exact ⟨t, ht, hw⟩
theorem exC_mk {φ : T → Fr → Prop} {R : T → List Res} {g : Fr} {Z : List Res} (t : T) (ht : φ t g) (h : Wd Γ (R t ++ Z) w) : Wd Γ (exC φ R g ++ Z) w :=
  Wd.closeEx (X := fun p : {t : T // φ t g} => R p.1) ⟨t, ht⟩ h
theorem mM2 {c c2 : Nat} (m m2 : Fr → List Res) (hs : ∀ Y w g, Wd Γ (K ++ (cellsAt tc stab i M g ++ Y)) w → Step P o (ovr stab.flatten g ρ) w fun u w' => Wd Γ (K ++ (cellsAt tc stab i (setC (setC M c m) c2 m2) (putO g o.dst u) ++ Y)) w' ∧ (freeD stab o.dst = false → u = v))
    (h : MSw (mV P n ops Γ K wr tc stab) Q (i + 1) rest ⟨putO ρ o.dst v, setC (setC M c m) c2 m2⟩) (hw0 : wr.getD i [] = [c, c2]) (hg : o.guard = none) : MSw (mV P n ops Γ K wr tc stab) Q i (o :: rest) ⟨ρ, M⟩ := by
  have hn : Mt.nxt (mV P n ops Γ K wr tc stab) i ⟨ρ, M⟩ ⟨v, setC (setC M c m) c2 m2⟩ = setC (setC M c m) c2 m2 := by
    funext y
    simp only [Mt.nxt, MEnv.w, hw0]
    unfold setC
    by_cases h1 : y = c <;> by_cases h2 : y = c2 <;> simp [h1, h2]
  refine ⟨⟨v, setC (setC M c m) c2 m2⟩, ⟨fun Γ' Y w g hr hw => ?_⟩, ?_⟩
  · have hΓ : Γ' = Γ := hr
    subst hΓ
    rw [hn]
    refine ⟨fun _ => (hs Y w g hw).mono fun u w' ⟨h1, h2⟩ => ⟨Γ', rfl, h1, h2⟩, fun hf => ?_⟩
    rw [wantF_none hg] at hf; cases hf
  · simp only [Mt.next, hn]; exact h
/-- A step that changes the cell c. -/
theorem mS {c : Nat} {F : Fr → List Res} (F' : Fr → List Res)
    (hs : ∀ g w Y, Wd Γ (F (ovr (stab.getD c []) g noFr) ++ (K ++ Y)) w → Step P o (ovr stab.flatten g ρ) w fun u w' => (freeD stab o.dst = false → u = v) ∧ Wd Γ (F' (ovr (stab.getD c []) (putO g o.dst u) noFr) ++ (K ++ Y)) w')
    (h : MSw (mV P n ops Γ K wr tc stab) Q (i + 1) rest ⟨putO ρ o.dst v, setC M c F'⟩) (hM : M c = F := by first | exact setC_self | exact ml1 | exact ml2 | exact ((setC_other (by decide)).trans setC_self) | exact ((setC_other (by decide)).trans ml2) | exact ((setC_other (by decide)).trans ((setC_other (by decide)).trans ml2)) | exact ((setC_other (by decide)).trans ((setC_other (by decide)).trans ((setC_other (by decide)).trans ml2))) | exact ((setC_other (by decide)).trans ((setC_other (by decide)).trans setC_self)) | exact rfl) (hw0 : wr.getD i [] = [c] := by exact rfl) (ht : tc.getD i [] = [c] := by exact rfl) (hg : o.guard = none := by exact rfl) :
    MSw (mV P n ops Γ K wr tc stab) Q i (o :: rest) ⟨ρ, M⟩ := by
  refine mM _ (fun Y w g hw => ?_) h hw0 hg
  rw [cells1 ht, hM] at hw
  refine (hs g w Y hw.swapApp).mono ?_
  rintro u w' ⟨h2, h3⟩
  refine ⟨?_, h2⟩
  rw [cells1 ht, setC_self]
  exact h3.swapApp
/-- A step that changes the cells c and c2. -/
theorem mS2 {c c2 : Nat} {F G : Fr → List Res} (F' G' : Fr → List Res)
    (hs : ∀ g w Y, Wd Γ (F (ovr (stab.getD c []) g noFr) ++ (G (ovr (stab.getD c2 []) g noFr) ++ (K ++ Y))) w → Step P o (ovr stab.flatten g ρ) w fun u w' => (freeD stab o.dst = false → u = v) ∧ Wd Γ (F' (ovr (stab.getD c []) (putO g o.dst u) noFr) ++ (G' (ovr (stab.getD c2 []) (putO g o.dst u) noFr) ++ (K ++ Y))) w')
    (h : MSw (mV P n ops Γ K wr tc stab) Q (i + 1) rest ⟨putO ρ o.dst v, setC (setC M c F') c2 G'⟩) (hM : M c = F := by first | exact setC_self | exact ml1 | exact ml2 | exact ((setC_other (by decide)).trans setC_self) | exact ((setC_other (by decide)).trans ml2) | exact ((setC_other (by decide)).trans ((setC_other (by decide)).trans ml2)) | exact ((setC_other (by decide)).trans ((setC_other (by decide)).trans ((setC_other (by decide)).trans ml2))) | exact ((setC_other (by decide)).trans ((setC_other (by decide)).trans setC_self)) | exact rfl) (hM2 : M c2 = G := by first | exact setC_self | exact ml1 | exact ml2 | exact ((setC_other (by decide)).trans setC_self) | exact ((setC_other (by decide)).trans ml2) | exact ((setC_other (by decide)).trans ((setC_other (by decide)).trans ml2)) | exact ((setC_other (by decide)).trans ((setC_other (by decide)).trans ((setC_other (by decide)).trans ml2))) | exact ((setC_other (by decide)).trans ((setC_other (by decide)).trans setC_self)) | exact rfl) (hw0 : wr.getD i [] = [c, c2] := by exact rfl) (ht : tc.getD i [] = [c, c2] := by exact rfl) (hcc : Nat.beq c c2 = false := by exact rfl) (hg : o.guard = none := by exact rfl) :
    MSw (mV P n ops Γ K wr tc stab) Q i (o :: rest) ⟨ρ, M⟩ := by
  have hne : c ≠ c2 := fun e => by subst e; simp at hcc
  refine mM2 _ _ (fun Y w g hw => ?_) h hw0 hg
  rw [cells2 ht, hM, hM2] at hw
  have hw1 := (hw.perm (by rw [List.append_assoc]; exact (List.perm_append_comm_assoc _ _ _).trans (List.Perm.append_left _ (List.perm_append_comm_assoc _ _ _)))  : Wd Γ (F (ovr (stab.getD c []) g noFr) ++ (G (ovr (stab.getD c2 []) g noFr) ++ (K ++ Y))) w)
  refine (hs g w Y hw1).mono ?_
  rintro u w' ⟨h2, h3⟩
  refine ⟨?_, h2⟩
  rw [cells2 ht, setC_self, setC_other hne, setC_self]
  exact h3.perm (by rw [List.append_assoc]; exact ((List.perm_append_comm_assoc _ _ _).trans (List.Perm.append_left _ (List.perm_append_comm_assoc _ _ _))).symm)
/-- A slice is built. -/
theorem mBuildX {c dd E by' len sz : Nat} {zs : List Value} {parts : Array (Nat × Operand)} {TT : TypeId} {φ : T → Fr → Prop} {R : T → List Res} (rws : T → List (List Value)) [TL P TT E sz by' zs]
    (h : MSw (mV P n ops Γ K wr tc stab) Q (i + 1) rest ⟨putO ρ (some dd) undef, setC M c (exC (fun (p : T × Addr) g => φ p.1 g ∧ g dd = .slice (some p.2) len len) fun p => .own (.slice (some p.2) len len) E sz (rws p.1) :: R p.1)⟩)
    (hf : ∀ t g, φ t (ovr (stab.getD c []) g noFr) → fillL (fun i => some (i * sz, sz)) ((List.range (len * sz)).map fun i => zs.getD (i % sz) undef) (parts.toList.map fun p => (p.1, ev (ovr stab.flatten g ρ) p.2)) = some (rws t).flatten)
    (hw0 : wr.getD i [] = [c] := by exact rfl) (ht : tc.getD i [] = [c] := by exact rfl) (hM : M c = exC φ R := by first | exact setC_self | exact ml1 | exact ml2 | exact ((setC_other (by decide)).trans setC_self) | exact ((setC_other (by decide)).trans ml2) | exact ((setC_other (by decide)).trans ((setC_other (by decide)).trans ml2)) | exact ((setC_other (by decide)).trans ((setC_other (by decide)).trans ((setC_other (by decide)).trans ml2))) | exact ((setC_other (by decide)).trans ((setC_other (by decide)).trans setC_self)) | exact rfl) (hφ : ∀ t g u, φ t (ovr (stab.getD c []) g noFr) → φ t (ovr (stab.getD c []) (putO g (some dd) u) noFr) := by intro t g u h; exact h)
    (hlen : ∀ t, (rws t).length = len := by intro t; rfl) (hr : ∀ t, (rws t).all (fun r => Nat.beq r.length sz) = true := by intro t; rfl) (hbig : Nat.ble (len * sz) 16777216 = true := by exact rfl)
    (hs : (stab.getD c []).contains dd = true := by exact rfl) (hfr : freeD stab (some dd) = true := by exact rfl) :
    MSw (mV P n ops Γ K wr tc stab) Q i (⟨some dd, .buildSlice TT len parts, ty, pos, es, none⟩ :: rest) ⟨ρ, M⟩ :=
  mS (v := undef) (exC (fun (p : T × Addr) g => φ p.1 g ∧ g dd = .slice (some p.2) len len) fun p => .own (.slice (some p.2) len len) E sz (rws p.1) :: R p.1) (fun g w Y hw => by
    obtain ⟨t, h1, hw⟩ := exC_open hw
    refine s_buildSlice (rws := rws t) hw (hf t g h1) rfl (hlen t) (fun r hm => Nat.eq_of_beq_eq_true ((List.all_eq_true.1 (hr t)) r hm)) (Nat.le_of_ble_eq_true hbig) fun a w' hw' => ⟨fun hh => (by rw [hfr] at hh; cases hh), exC_mk (t, a) ⟨hφ t g _ h1, ?_⟩ hw'⟩
    rw [ovr_in (by simpa using hs)]; exact upd_same _ _ _) h hM hw0 ht rfl
/-- A slice is built of what lies in two cells. -/
theorem mBuild2X {T2 : Type} {c c2 dd E by' len sz : Nat} {zs : List Value} {parts : Array (Nat × Operand)} {TT : TypeId} {φ : T → Fr → Prop} {R : T → List Res} {ψ : T2 → Fr → Prop} {R2 : T2 → List Res} (rws : T → T2 → List (List Value)) [TL P TT E sz by' zs]
    (h : MSw (mV P n ops Γ K wr tc stab) Q (i + 1) rest ⟨putO ρ (some dd) undef, setC (setC M c (exC (fun (p : (T × T2) × Addr) g => φ p.1.1 g ∧ g dd = .slice (some p.2) len len) fun p => .own (.slice (some p.2) len len) E sz (rws p.1.1 p.1.2) :: (R2 p.1.2 ++ R p.1.1))) c2 fun _ => []⟩)
    (hf : ∀ t t2 g, φ t (ovr (stab.getD c []) g noFr) → ψ t2 (ovr (stab.getD c2 []) g noFr) → fillL (fun i => some (i * sz, sz)) ((List.range (len * sz)).map fun i => zs.getD (i % sz) undef) (parts.toList.map fun p => (p.1, ev (ovr stab.flatten g ρ) p.2)) = some (rws t t2).flatten)
    (hw0 : wr.getD i [] = [c, c2] := by exact rfl) (ht : tc.getD i [] = [c, c2] := by exact rfl) (hcc : Nat.beq c c2 = false := by exact rfl) (hM : M c = exC φ R := by first | exact setC_self | exact ml1 | exact ml2 | exact ((setC_other (by decide)).trans setC_self) | exact ((setC_other (by decide)).trans ml2) | exact ((setC_other (by decide)).trans ((setC_other (by decide)).trans ml2)) | exact ((setC_other (by decide)).trans ((setC_other (by decide)).trans setC_self)) | exact rfl) (hM2 : M c2 = exC ψ R2 := by first | exact setC_self | exact ml1 | exact ml2 | exact ((setC_other (by decide)).trans setC_self) | exact ((setC_other (by decide)).trans ml2) | exact ((setC_other (by decide)).trans ((setC_other (by decide)).trans ml2)) | exact ((setC_other (by decide)).trans ((setC_other (by decide)).trans setC_self)) | exact rfl)
    (hφ : ∀ t g u, φ t (ovr (stab.getD c []) g noFr) → φ t (ovr (stab.getD c []) (putO g (some dd) u) noFr) := by intro t g u h; exact h) (hlen : ∀ t t2, (rws t t2).length = len := by intro t t2; rfl) (hr : ∀ t t2, (rws t t2).all (fun r => Nat.beq r.length sz) = true := by intro t t2; rfl) (hbig : Nat.ble (len * sz) 16777216 = true := by exact rfl)
    (hs : (stab.getD c []).contains dd = true := by exact rfl) (hfr : freeD stab (some dd) = true := by exact rfl) :
    MSw (mV P n ops Γ K wr tc stab) Q i (⟨some dd, .buildSlice TT len parts, ty, pos, es, none⟩ :: rest) ⟨ρ, M⟩ :=
  mS2 (v := undef) (exC (fun (p : (T × T2) × Addr) g => φ p.1.1 g ∧ g dd = .slice (some p.2) len len) fun p => .own (.slice (some p.2) len len) E sz (rws p.1.1 p.1.2) :: (R2 p.1.2 ++ R p.1.1)) (fun _ => []) (fun g w Y hw => by
    obtain ⟨t, h1, hw⟩ := exC_open hw
    obtain ⟨t2, h2, hw⟩ := exC_open (hw.perm (List.perm_append_comm_assoc _ _ _))
    have hw : Wd Γ ((R2 t2 ++ R t) ++ (K ++ Y)) w := by rw [List.append_assoc]; exact hw
    refine s_buildSlice (rws := rws t t2) hw (hf t t2 g h1 h2) rfl (hlen t t2) (fun r hm => Nat.eq_of_beq_eq_true ((List.all_eq_true.1 (hr t t2)) r hm)) (Nat.le_of_ble_eq_true hbig) fun a w' hw' => ⟨fun hh => (by rw [hfr] at hh; cases hh), exC_mk ((t, t2), a) ⟨hφ t g _ h1, ?_⟩ hw'⟩
    rw [ovr_in (by simpa using hs)]; exact upd_same _ _ _) h hM hM2 hw0 ht hcc rfl
/-- A value is reckoned that hangs on open slots. -/
theorem mPureX {c dd : Nat} {op : Op} {φ : T → Fr → Prop} {R : T → List Res} (u : T → Value)
    (hy : ∀ t g w Y, φ t (ovr (stab.getD c []) g noFr) → Wd Γ (R t ++ (K ++ Y)) w → Yields P ⟨some dd, op, ty, pos, es, none⟩ (ovr stab.flatten g ρ) w (u t))
    (h : MSw (mV P n ops Γ K wr tc stab) Q (i + 1) rest ⟨putO ρ (some dd) undef, setC M c (exC (fun t g => φ t g ∧ g dd = u t) R)⟩)
    (hw0 : wr.getD i [] = [c] := by exact rfl) (ht : tc.getD i [] = [c] := by exact rfl) (hM : M c = exC φ R := by first | exact setC_self | exact ml1 | exact ml2 | exact ((setC_other (by decide)).trans setC_self) | exact ((setC_other (by decide)).trans ml2) | exact ((setC_other (by decide)).trans ((setC_other (by decide)).trans ml2)) | exact ((setC_other (by decide)).trans ((setC_other (by decide)).trans ((setC_other (by decide)).trans ml2))) | exact ((setC_other (by decide)).trans ((setC_other (by decide)).trans setC_self)) | exact rfl) (hφ : ∀ t g u, φ t (ovr (stab.getD c []) g noFr) → φ t (ovr (stab.getD c []) (putO g (some dd) u) noFr) := by intro t g u h; exact h)
    (hs : (stab.getD c []).contains dd = true := by exact rfl) (hfr : freeD stab (some dd) = true := by exact rfl) :
    MSw (mV P n ops Γ K wr tc stab) Q i (⟨some dd, op, ty, pos, es, none⟩ :: rest) ⟨ρ, M⟩ :=
  mS (v := undef) (exC (fun t g => φ t g ∧ g dd = u t) R) (fun g w Y hw => by
    obtain ⟨t, h1, hw⟩ := exC_open hw
    refine (hy t g w Y h1 hw).step ⟨fun hh => (by rw [hfr] at hh; cases hh), exC_mk t ⟨hφ t g _ h1, ?_⟩ hw⟩
    rw [ovr_in (by simpa using hs)]; exact upd_same _ _ _) h hM hw0 ht rfl
/-- An append onto what is owned. -/
theorem mAppX {c dd j j2 E by' sz m cc m2 c2 : Nat} {zs : List Value} {a : Option Addr} {rows : List (List Value)} {TT : TypeId} {x y : Operand} {φ : T → Fr → Prop} {R : T → List Res} (a2 : T → Option Addr) (rows2 : T → List (List Value)) [TL P TT E sz by' zs]
    (h : MSw (mV P n ops Γ K wr tc stab) Q (i + 1) rest ⟨putO ρ (some dd) undef, setC M c (exC (fun (p : T × Value) g => φ p.1 g ∧ g dd = p.2) fun p => (R p.1).set j (.own p.2 E sz (rows ++ rows2 p.1)))⟩)
    (hy : ∀ t g, φ t (ovr (stab.getD c []) g noFr) → ev (ovr stab.flatten g ρ) y = .slice (a2 t) m2 c2) (hw0 : wr.getD i [] = [c] := by exact rfl) (ht : tc.getD i [] = [c] := by exact rfl) (hM : M c = exC φ R := by first | exact setC_self | exact ml1 | exact ml2 | exact ((setC_other (by decide)).trans setC_self) | exact ((setC_other (by decide)).trans ml2) | exact ((setC_other (by decide)).trans ((setC_other (by decide)).trans ml2)) | exact ((setC_other (by decide)).trans ((setC_other (by decide)).trans ((setC_other (by decide)).trans ml2))) | exact ((setC_other (by decide)).trans ((setC_other (by decide)).trans setC_self)) | exact rfl) (hj : ∀ t, (R t)[j]? = some (.own (.slice a m cc) E sz rows) := by intro t; exact rfl) (hj2 : ∀ t, (R t)[j2]? = some (.own (.slice (a2 t) m2 c2) E sz (rows2 t)) := by intro t; exact rfl)
    (h1 : ∀ t, (rows2 t).flatten.all (·.oneCell') = true := by intro t; rfl) (hx : ∀ g, ev (ovr stab.flatten g ρ) x = .slice a m cc := by intro g; exact rfl)
    (hφ : ∀ t g u, φ t (ovr (stab.getD c []) g noFr) → φ t (ovr (stab.getD c []) (putO g (some dd) u) noFr) := by intro t g u h; exact h)
    (hb : (m + m2) * by' ≤ 140737488355328 := by omega) (h63 : m + m2 ≤ 9223372036854775807 := by omega) (hl2 : ∀ t, m2 = (rows2 t).length := by intro t; rfl)
    (hs : (stab.getD c []).contains dd = true := by exact rfl) (hfr : freeD stab (some dd) = true := by exact rfl) :
    MSw (mV P n ops Γ K wr tc stab) Q i (⟨some dd, .call { callee := .builtin .append, args := #[x, y], argTypes := #[TT, TT] }, ty, pos, es, none⟩ :: rest) ⟨ρ, M⟩ :=
  mS (v := undef) (exC (fun (p : T × Value) g => φ p.1 g ∧ g dd = p.2) fun p => (R p.1).set j (.own p.2 E sz (rows ++ rows2 p.1))) (fun g w Y hw => by
    obtain ⟨t, ht1, hw⟩ := exC_open hw
    have hjl : j < (R t).length := (List.getElem?_eq_some_iff.1 (hj t)).1
    have hjl2 : j2 < (R t).length := (List.getElem?_eq_some_iff.1 (hj2 t)).1
    have hi : (R t ++ (K ++ Y))[j]? = some (.own (.slice a m cc) E sz rows) := by rw [List.getElem?_append_left hjl]; exact hj t
    have hi2 : (R t ++ (K ++ Y))[j2]? = some (.own (.slice (a2 t) m2 c2) E sz (rows2 t)) := by rw [List.getElem?_append_left hjl2]; exact hj2 t
    refine s_append hw (hx g) (hy t g ht1) hi (hw.own_rd hi2) (hl2 t) (fun u hu => (List.all_eq_true.1 (h1 t)) u hu) hb h63 fun v' w' hw' => ⟨fun hh => (by rw [hfr] at hh; cases hh), exC_mk (t, v') ⟨hφ t g _ ht1, ?_⟩ ?_⟩
    · rw [ovr_in (by simpa using hs)]; exact upd_same _ _ _
    · rw [List.set_append_left _ _ hjl] at hw'; exact hw') h hM hw0 ht rfl
/-- What an append has made is stored into a block of another cell. -/
theorem mJoinX {c0 c b ob dv j : Nat} {cs : Array Value} {E E2 sz2 : Nat} {TT : TypeId} {x : Operand} {φ : T → Fr → Prop} {R : T → List Res} {val : T → Value} {rows : T → List (List Value)} [hn : TSz P TT 1]
    (h : MSw (mV P n ops Γ K wr tc stab) Q (i + 1) rest ⟨ρ, setC (setC M c0 fun _ => []) c (exC φ fun t => .blk b (.cells (putCells cs ob [val t]) E) :: R t)⟩)
    (hv : ∀ t g, φ t (ovr (stab.getD c []) g noFr) → ev (ovr stab.flatten g ρ) (.tmp dv) = val t) (hw0 : wr.getD i [] = [c0, c] := by exact rfl) (ht : tc.getD i [] = [c0, c] := by exact rfl) (hcc : Nat.beq c0 c = false := by exact rfl) (hM2 : M c = exC φ R := by first | exact setC_self | exact ml1 | exact ml2 | exact ((setC_other (by decide)).trans setC_self) | exact ((setC_other (by decide)).trans ml2) | exact ((setC_other (by decide)).trans ((setC_other (by decide)).trans ml2)) | exact ((setC_other (by decide)).trans ((setC_other (by decide)).trans ((setC_other (by decide)).trans ml2))) | exact ((setC_other (by decide)).trans ((setC_other (by decide)).trans setC_self)) | exact rfl) (hj : ∀ t, (R t)[j]? = some (.own (val t) E2 sz2 (rows t)) := by intro t; exact rfl) (hx : ∀ g, ev (ovr stab.flatten g ρ) x = .pointer (some ⟨b, ob, none⟩) := by intro g; exact rfl)
    (hM : M c0 = (fun _ => [.blk b (.cells cs E)]) := by exact rfl) (ho : ob + 1 ≤ cs.size := by exact Nat.le_of_ble_eq_true rfl) :
    MSw (mV P n ops Γ K wr tc stab) Q i (⟨none, .store TT x (.tmp dv), ty, pos, es, none⟩ :: rest) ⟨ρ, M⟩ :=
  mS2 (v := undef) (fun _ => []) (exC φ fun t => .blk b (.cells (putCells cs ob [val t]) E) :: R t) (fun g w Y hw => by
    have hw2 : Wd Γ (exC φ R (ovr (stab.getD c []) g noFr) ++ (.blk b (.cells cs E) :: (K ++ Y))) w := hw.perm (List.perm_append_comm_assoc _ _ _)
    obtain ⟨t, ht1, hw⟩ := exC_open hw2
    have hw : Wd Γ (.blk b (.cells cs E) :: (R t ++ (K ++ Y))) w := hw.perm List.perm_middle
    have hjl : j < (R t).length := (List.getElem?_eq_some_iff.1 (hj t)).1
    obtain ⟨q1, q2, q3, e1, -, -, -⟩ := hw.own_shape (i := j + 1) (v := val t) (e := E2) (sz := sz2) (rows := rows t) (by rw [List.getElem?_cons_succ, List.getElem?_append_left hjl]; exact hj t)
    refine s_store hn.h hw (hx g) (hv t g ht1) (vs := [val t]) (by rw [e1]; rfl) rfl (fun u hu => by simp at hu; subst hu; rw [e1]; rfl) (i := 0) rfl ho fun w' hw' => ⟨fun _ => rfl, ?_⟩
    exact exC_mk (R := fun t => .blk b (.cells (putCells cs ob [val t]) E) :: R t) t ht1 hw') h hM hM2 hw0 ht hcc rfl
theorem W_mixD {id : Nat} {l : List Oper} {QQ : Exit → Fr → World → Prop} (K X0 X1 X2 : List Res) (N1 N2 : List Nat) (wr tc : List (List Nat)) (hw : Wd Γ (K ++ (X0 ++ (X1 ++ X2))) w)
    (h : MSw (mV P n l Γ K wr tc [[], N1, N2]) (fun ρ w => QQ .normal ρ w) 0 l ⟨ρ, ML [fun _ => X0, exC (T := Unit) (fun _ _ => True) (fun _ => X1), exC (T := Unit) (fun _ _ => True) (fun _ => X2)]⟩)
    (hm : P.follows .mixedOrders = true := by kernel_rfl) (hk : checkM n l wr tc [[], N1, N2] = true := by kernel_rfl) : W P n (.region id l.toArray true) QQ ρ w :=
  W_mixed K [fun _ => X0, exC (T := Unit) (fun _ _ => True) (fun _ => X1), exC (T := Unit) (fun _ _ => True) (fun _ => X2)] wr tc [[], N1, N2] (by
    show Wd Γ (K ++ (X0 ++ (exC (T := Unit) (fun _ _ => True) (fun _ => X1) (ovr N1 ρ noFr) ++ (exC (T := Unit) (fun _ _ => True) (fun _ => X2) (ovr N2 ρ noFr) ++ [])))) w
    rw [List.append_nil]
    have h1 : Wd Γ (X1 ++ (X2 ++ (K ++ X0))) w := hw.perm (by
      rw [← List.append_assoc, ← List.append_assoc X1]
      exact List.perm_append_comm)
    have h2 : Wd Γ (exC (T := Unit) (fun _ _ => True) (fun _ => X1) (ovr N1 ρ noFr) ++ (X2 ++ (K ++ X0))) w := exC_mk () trivial h1
    have h3 : Wd Γ (X2 ++ (exC (T := Unit) (fun _ _ => True) (fun _ => X1) (ovr N1 ρ noFr) ++ (K ++ X0))) w := h2.perm (List.perm_append_comm_assoc _ _ _)
    have h4 : Wd Γ (exC (T := Unit) (fun _ _ => True) (fun _ => X2) (ovr N2 ρ noFr) ++ (exC (T := Unit) (fun _ _ => True) (fun _ => X1) (ovr N1 ρ noFr) ++ (K ++ X0))) w := exC_mk () trivial h3
    have h5 : Wd Γ (exC (T := Unit) (fun _ _ => True) (fun _ => X1) (ovr N1 ρ noFr) ++ (exC (T := Unit) (fun _ _ => True) (fun _ => X2) (ovr N2 ρ noFr) ++ (K ++ X0))) w := h4.perm (List.perm_append_comm_assoc _ _ _)
    exact h5.perm (by
      rw [← List.append_assoc, ← List.append_assoc K]
      exact List.perm_append_comm)) h hm hk
theorem mEndD {N1 N2 : List Nat} {φ : T → Fr → Prop} {R : T → List Res} (h : ∀ t w g, φ t (ovr N1 g noFr) → Wd Γ (R t ++ K) w → Q (ovr [[], N1, N2].flatten g ρ) w) (hM0 : M 0 = fun _ => [] := by exact rfl) (hM : M 1 = exC φ R := by first | exact setC_self | exact ml1 | exact ml2 | exact ((setC_other (by decide)).trans setC_self) | exact ((setC_other (by decide)).trans ml2) | exact ((setC_other (by decide)).trans ((setC_other (by decide)).trans ml2)) | exact ((setC_other (by decide)).trans ((setC_other (by decide)).trans ((setC_other (by decide)).trans ml2))) | exact ((setC_other (by decide)).trans ((setC_other (by decide)).trans setC_self)) | exact rfl) : MSw (mV P n ops Γ K wr tc [[], N1, N2]) Q i [] ⟨ρ, M⟩ :=
  mEnd fun w g hw => by
    have hw1 : Wd Γ (K ++ (M 0 (ovr [] g noFr) ++ (M 1 (ovr N1 g noFr) ++ (M 2 (ovr N2 g noFr) ++ [])))) w := hw
    rw [hM0, hM, List.nil_append] at hw1
    have hw2 : Wd Γ (exC φ R (ovr N1 g noFr) ++ (K ++ (M 2 (ovr N2 g noFr) ++ []))) w := hw1.swapApp
    obtain ⟨t, ht, hw3⟩ := exC_open hw2
    exact h t w g ht (Wd.left (S := R t ++ K) (by rw [List.append_assoc]; exact hw3))
end
end Mk
end
/- Calls that read what is owned and change nothing. -/
section
open Go
namespace Mk
attribute [local irreducible] Calls
class PS (P : Program) (Γ : Gho) (S : List Res) (f : Nat) (args : List Value) (v : outParam Value) : Prop where
  h : ∀ Y w, Wd Γ (S ++ Y) w → Calls P f args.toArray w fun e w' => e = .returned v ∧ Wd Γ (S ++ Y) w'
instance (priority := low) {P : Program} {Γ : Gho} {S : List Res} {f : Nat} {args : List Value} {v : Value} [h : PG P Γ f args v] : PS P Γ S f args v := ⟨fun Y w hw => h.h (S ++ Y) w hw⟩
section
variable {P : Program} {n : Nat} {ops : List Oper} {opa : Array Oper} {Γ : Gho} {S K : List Res} {Q : Fr → World → Prop} {QQ : Exit → Fr → World → Prop} {ρ : Fr} {w : World} {rest : List Oper} {wr tc stab : List (List Nat)} {i : Nat} {M : Nat → Fr → List Res}
variable {d : Option Tmp} {ty : TypeId} {pos : String} {es : Array Edge} {v : Value} {f : Nat} {args : List Operand} {tys : Array TypeId} {vs : List Value} {j dj : Nat} {want c : Bool} {g : Option (Nat × Bool)}
theorem s_ps {Y : List Res} [FnOk P f] (hp : PS P Γ S f vs v) (ha : EvL ρ args vs) (hw : Wd Γ (S ++ Y) w) : Step P ⟨d, .call { callee := .value (.func f), args := args.toArray, argTypes := tys }, ty, pos, es, g⟩ ρ w fun u w' => u = v ∧ Wd Γ (S ++ Y) w' :=
  s_call ha.eqA ((hp.h Y w hw).mono fun _ _ ⟨h1, h2⟩ => ⟨v, h1, rfl, h2⟩)
theorem lPs [FnOk P f] (h : ∀ w', Wd Γ S w' → L P n opa QQ rest (putO ρ d v) w') (hw : Wd Γ S w := by exact hw) (ha : EvL ρ args vs := by exact byEV) (hd : okDst n d = true := by exact rfl) (hp : PS P Γ S f vs v := by infer_instance) :
    L P n opa QQ (⟨d, .call { callee := .value (.func f), args := args.toArray, argTypes := tys }, ty, pos, es, none⟩ :: rest) ρ w :=
  L_step rfl hd ((s_ps (Y := []) hp ha (by rw [List.append_nil]; exact hw)).mono fun _ w' ⟨h1, h2⟩ => by subst h1; rw [List.append_nil] at h2; exact h w' h2)
theorem lPsG [FnOk P f] (h : ∀ w', Wd Γ S w' → L P n opa QQ rest (putO ρ d (gv c v)) w') (hw : Wd Γ S w := by exact hw) (hj : (opa[j]?).bind (·.dst) = some dj := by exact rfl) (hjn : okDst n (some dj) = true := by exact rfl) (hc : GuardIs (ρ dj) want c := by exact byGC) (hd : okDst n d = true := by exact rfl) (ha : c = true → EvL ρ args vs := by intro hc; exact byEVG) (hp : PS P Γ S f vs v := by infer_instance) :
    L P n opa QQ (⟨d, .call { callee := .value (.func f), args := args.toArray, argTypes := tys }, ty, pos, es, some (j, want)⟩ :: rest) ρ w :=
  lGC hj hjn hd hc (fun hct => lPs (fun w' hw' => by have := h w' hw'; rwa [gvT hct rfl] at this) hw (ha hct) hd hp) (fun hcf => by have := h w hw; rwa [show gv c v = undef from by rw [hcf]; unfold gv; rfl] at this)
theorem qPs [FnOk P f] (h : Qw P n ops Γ S Q rest (putO ρ d v)) (ha : EvL ρ args vs := by exact byEV) (hp : PS P Γ S f vs v := by infer_instance) :
    Qw P n ops Γ S Q (⟨d, .call { callee := .value (.func f), args := args.toArray, argTypes := tys }, ty, pos, es, none⟩ :: rest) ρ :=
  Q_c rfl rfl (fun _ _ hw => s_ps hp ha hw) h
theorem qPsG [FnOk P f] (h : Qw P n ops Γ S Q rest (putO ρ d (gv c v))) (hj : (ops[j]?).bind (·.dst) = some dj := by exact rfl) (hc : GuardIs (ρ dj) want c := by exact byGC) (ha : c = true → EvL ρ args vs := by intro hc; exact byEVG) (hp : PS P Γ S f vs v := by infer_instance) :
    Qw P n ops Γ S Q (⟨d, .call { callee := .value (.func f), args := args.toArray, argTypes := tys }, ty, pos, es, some (j, want)⟩ :: rest) ρ :=
  Q_gc rfl hj hc rfl (fun ht _ _ hw => s_ps hp (ha ht) hw) h
end
end Mk
end
/- Slices made by 'make'. -/
section
open Go
namespace Mk
attribute [local irreducible] Calls
theorem made_rows {zs : List Value} {sz : Nat} (hz : zs.length = sz) (h0 : 0 < sz) : ∀ n : Nat, (madeCells zs.toArray (n * sz)).toList = (List.replicate n zs).flatten := fun n => by
  unfold madeCells
  simp only [Array.toList_map, Array.toList_range, List.size_toArray, hz]
  have hf : ∀ i : Nat, zs.toArray[i % sz]! = zs.getD (i % sz) undef := fun i => by
    have hlt : i % sz < zs.length := by rw [hz]; exact Nat.mod_lt _ h0
    rw [getElem!_pos (zs.toArray) _ (by simpa using hlt)]
    simp [List.getD_eq_getElem?_getD, List.getElem?_eq_getElem hlt]
  simp only [hf]
  induction n with
  | zero => simp
  | succ n ih =>
    rw [show (n + 1) * sz = sz + n * sz from by rw [Nat.add_mul]; omega, List.range_add, List.map_append, List.map_map, List.replicate_succ, List.flatten_cons, ← ih]
    congr 1
    · refine List.ext_getElem? fun i => ?_
      rw [List.getElem?_map]
      by_cases hi : i < sz
      · rw [List.getElem?_range hi]
        simp only [Option.map_some, Nat.mod_eq_of_lt hi]
        rw [List.getD_eq_getElem?_getD, List.getElem?_eq_getElem (by omega)]; rfl
      · rw [List.getElem?_eq_none (by simpa using hi), List.getElem?_eq_none (by omega)]; rfl
    · refine List.map_congr_left fun i _ => ?_
      simp
section
variable {P : Program} {n : Nat} {opa : Array Oper} {Γ : Gho} {S : List Res} {QQ : Exit → Fr → World → Prop} {ρ : Fr} {w : World} {rest : List Oper} {K : Value → World → Prop}
variable {d : Option Tmp} {T ty : TypeId} {pos : String} {es : Array Edge} {g : Option (Nat × Bool)} {x y : Operand}
theorem s_makeSlice {E by' len sz : Nat} {zs : List Value} [hT : TL P T E sz by' zs] (hw : Wd Γ S w) (hx : ev ρ x = .int .i64 (len : Nat)) (hy : ev ρ y = .int .i64 (len : Nat)) (hb : (by' : Int) * len ≤ 281474976710656) (h63 : (len : Int) ≤ 9223372036854775807)
    (hk : ∀ a w', Wd Γ (.own (.slice (some a) len len) E sz (List.replicate len zs) :: S) w' → K (.slice (some a) len len) w') : Step P ⟨d, .makeSlice T x y, ty, pos, es, g⟩ ρ w K := by
  obtain ⟨q, z, hq, hz, hzc⟩ := zeroOf_info hT.z
  obtain ⟨q', hq', hs, hb'⟩ := sizeBytes_info hT.s
  rw [hq] at hq'; cases hq'
  have hrun := run_make (P := P) w T E q z hT.h hq hz .i64 .i64 (len : Int) (len : Int) (by omega) (Int.le_refl _) (by rw [hb']; exact hb) h63
  rw [hzc, hs] at hrun
  have hr0 : (execOp (ev ρ) ⟨d, .makeSlice T x y, ty, pos, es, g⟩).run P w = .ok (.value (.slice (some ⟨w.heap.size, 0, none⟩) len len)) (w.alloc (.cells (madeCells zs.toArray (len * sz)) E)) := by
    simp only [execOp, hx, hy, Sem.run_bind, hrun, Result.andThen_ok, Int.toNat_natCast]
    rfl
  have hrows := made_rows hT.n.1 hT.n.2 len
  have hfin := hk ⟨w.heap.size, 0, none⟩ (w.alloc (.cells (madeCells zs.toArray (len * sz)) E)) (hw.add (bs := [w.heap.size]) ⟨rfl, rfl, rfl, (by first | exact Nat.le_refl _ | exact Nat.le_succ _), by simp⟩ (by
    unfold Res.own
    refine ⟨fun r hr => by rw [List.eq_of_mem_replicate hr]; exact hT.n.1, _, _, _, rfl, (by simp), Nat.le_refl _, by simp [maxLen]; omega, .inr ⟨w.heap.size, madeCells zs.toArray (len * sz), rfl, rfl, heap_alloc_new w _, size_madeCells _ _, ?_⟩⟩
    rw [hrows, List.take_of_length_le]
    rw [← hrows, Array.length_toList, size_madeCells]; exact Nat.le_refl _) (by simp) (by simp) fun k hk => heap_alloc_old w _ hk)
  unfold Step; rw [hr0]; exact hfin
theorem lMakeSlice {E by' len sz : Nat} {zs : List Value} [hT : TL P T E sz by' zs] (h : ∀ a w', Wd Γ (.own (.slice (some a) len len) E sz (List.replicate len zs) :: S) w' → L P n opa QQ rest (putO ρ d (.slice (some a) len len)) w')
    (hw : Wd Γ S w := by exact hw) (hx : ev ρ x = .int .i64 (len : Nat) := by exact rfl) (hy : ev ρ y = .int .i64 (len : Nat) := by exact rfl) (hb : (by' : Int) * len ≤ 281474976710656 := by omega) (h63 : (len : Int) ≤ 9223372036854775807 := by omega) (hd : okDst n d = true := by exact rfl) :
    L P n opa QQ (⟨d, .makeSlice T x y, ty, pos, es, none⟩ :: rest) ρ w := L_step rfl hd (s_makeSlice hw hx hy hb h63 h)
end
end Mk
end
/- Calls of function values in regions that own nothing, behind a guard. -/
section
open Go
namespace Mk
attribute [local irreducible] Calls
section
variable {P : Program} {n : Nat} {ops : List Oper} {Γ : Gho} {S : List Res} {Q : Fr → World → Prop} {ρ : Fr} {rest : List Oper}
variable {d : Option Tmp} {ty : TypeId} {pos : String} {es : Array Edge} {v : Value} {f t : Nat} {args : List Operand} {tys : Array TypeId} {vs : List Value} {j dj : Nat} {want c : Bool}
theorem qPgvG [FnOk P f] (hp : PG P Γ f vs v) (h : Qw P n ops Γ S Q rest (putO ρ d (gv c v))) (hj : (ops[j]?).bind (·.dst) = some dj := by exact rfl) (hc : GuardIs (ρ dj) want c := by exact byGC) (ht : c = true → ρ t = .func (.func f) #[] #[] := by intro hc; exact byOP) (ha : c = true → EvL ρ args vs := by intro hc; exact byEVG) :
    Qw P n ops Γ S Q (⟨d, .call { callee := .value (.tmp t), args := args.toArray, argTypes := tys }, ty, pos, es, some (j, want)⟩ :: rest) ρ :=
  Q_gc rfl hj hc rfl (fun hct Y w hw => s_callv (ht hct) (ha hct).eqA (by simpa using (hp.h (S ++ Y) w hw).mono fun e w' ⟨h1, h2⟩ => ⟨v, h1, rfl, h2⟩)) h
end
end Mk
end
/- Guards that are known, in drawn regions; calls under which all that was there stays. -/
section
open Go
namespace Mk
attribute [local irreducible] Calls
/-- A call that keeps all that was there keeps what is owned. -/
theorem wd_kept {Γ : Gho} {S : List Res} {w w' : World} (h : Wd Γ S w) (h' : Wd (allG w) [] w') : Wd Γ S w' := by
  obtain ⟨h1, h2, h3, h4, h5, bss, h6, h7, h8⟩ := h
  obtain ⟨k1, k2, k3, k4, k5, -⟩ := h'
  have hk : ∀ b ∈ bss.flatten, w'.heap[b]? = w.heap[b]? := fun b hb => by
    have hl := (h8 b hb).1
    have e : w.heap[b]? = some w.heap[b] := Array.getElem?_eq_getElem hl
    rw [e]; exact k5 b _ e
  refine ⟨k1.trans h1, k2.trans h2, k3.trans h3, Nat.le_trans h4 k4, fun b o hb => k5 b o (h5 b o hb), bss, Holds.loc (fun b o h => h) S bss (fun b hb => hk b hb) h6, h7, fun b hb => ⟨?_, (h8 b hb).2⟩⟩
  have hl := (h8 b hb).1
  have e : w.heap[b]? = some w.heap[b] := Array.getElem?_eq_getElem hl
  have := hk b hb
  rw [e] at this
  exact (Array.getElem?_eq_some_iff.1 this).1
theorem wd_less {Γ Γ' : Gho} {w : World} (hle : Γ.le Γ') (h : Wd Γ' [] w) : Wd Γ [] w := by
  obtain ⟨h1, h2, h3, h4, h5, -⟩ := h
  exact ⟨h1.trans hle.os, h2.trans hle.tape, h3.trans hle.out, by rw [← hle.dr]; exact h4, fun b o hb => h5 b o (hle.imm b o hb), [], trivial, by simp, by simp⟩
section
variable {P : Program} {n : Nat} {ops : List Oper} {Γ : Gho} {K : List Res} {wr tc stab : List (List Nat)} {Q : Fr → World → Prop} {i : Nat} {rest : List Oper} {ρ : Fr} {M : Nat → Fr → List Res}
variable {d : Option Tmp} {op : Op} {ty : TypeId} {pos : String} {es : Array Edge} {j dj : Nat} {want : Bool}
theorem mGuard (h : MSw (mV P n ops Γ K wr tc stab) Q i (⟨d, op, ty, pos, es, none⟩ :: rest) ⟨ρ, M⟩) (hj : (ops[j]?).bind (·.dst) = some dj := by exact rfl) (hv : ∀ g, (saysB (ovr stab.flatten g ρ dj) == some want) = true := by intro g; exact rfl) :
    MSw (mV P n ops Γ K wr tc stab) Q i (⟨d, op, ty, pos, es, some (j, want)⟩ :: rest) ⟨ρ, M⟩ := by
  obtain ⟨c, hg, hr⟩ := h
  refine ⟨c, ⟨fun Γ' Y w g hrl hw => ⟨fun _ => ?_, fun hf => ?_⟩⟩, hr⟩
  · have h0 := (hg.run Γ' Y w g hrl hw).1 (wantF_none rfl)
    unfold Step execOp at h0 ⊢
    exact h0
  have h1 := hv g
  have h2 : wantF ops (⟨d, op, ty, pos, es, some (j, want)⟩ : Oper) (ovr stab.flatten g ρ) = true := by
    simp only [wantF, hj]
    exact h1
  have hf : wantF ops (⟨d, op, ty, pos, es, some (j, want)⟩ : Oper) (ovr stab.flatten g ρ) = false := hf
  rw [h2] at hf; cases hf
end
end Mk
end
/- Guards that are known to be false, in drawn regions; a negative number, wrapped. -/
section
open Go
namespace Mk
attribute [local irreducible] Calls
section
variable {P : Program} {n : Nat} {ops : List Oper} {Γ : Gho} {K : List Res} {wr tc stab : List (List Nat)} {Q : Fr → World → Prop} {i : Nat} {rest : List Oper} {ρ : Fr} {M : Nat → Fr → List Res}
variable {d : Option Tmp} {op : Op} {ty : TypeId} {pos : String} {es : Array Edge} {j dj : Nat} {want : Bool}
theorem mGuardF (h : MSw (mV P n ops Γ K wr tc stab) Q (i + 1) rest ⟨putO ρ d undef, M⟩) (hj : (ops[j]?).bind (·.dst) = some dj := by exact rfl) (hv : ∀ g, (saysB (ovr stab.flatten g ρ dj) == some want) = false := by intro g; exact rfl) (hw0 : wr.getD i [] = [] := by exact rfl) (ho : outOf tc stab i d = true := by exact rfl) :
    MSw (mV P n ops Γ K wr tc stab) Q i (⟨d, op, ty, pos, es, some (j, want)⟩ :: rest) ⟨ρ, M⟩ := by
  have hn : ∀ c, Mt.nxt (mV P n ops Γ K wr tc stab) i ⟨ρ, M⟩ c = M := fun c => by
    funext x; simp only [Mt.nxt, MEnv.w, hw0]; rfl
  refine ⟨⟨undef, M⟩, ⟨fun Γ' Y w g hrl hw => ?_⟩, ?_⟩
  · have hΓ : Γ' = Γ := hrl
    subst hΓ
    rw [hn]
    refine ⟨fun hf => ?_, fun _ => ⟨?_, fun _ => rfl⟩⟩
    · have h2 : wantF ops (⟨d, op, ty, pos, es, some (j, want)⟩ : Oper) (ovr stab.flatten g ρ) = false := by
        simp only [wantF, hj]
        exact hv g
      have hf : wantF ops (⟨d, op, ty, pos, es, some (j, want)⟩ : Oper) (ovr stab.flatten g ρ) = true := hf
      rw [h2] at hf; cases hf
    · have := outOf_eq (g := g) (v := undef) ho M
      show Wd Γ' (K ++ (cellsAt tc stab i M (putO g d undef) ++ Y)) w
      rw [this]; exact hw
  · simp only [Mt.next, hn]; exact h
end
theorem y_negW {P : Program} {ρ : Fr} {w : World} {d : Option Tmp} {T ty : TypeId} {pos : String} {es : Array Edge} {g : Option (Nat × Bool)} {x : Operand} {k : IntKind} {a : Int} (hx : ev ρ x = .int k a) : Yields P ⟨d, .unOp .neg T x, ty, pos, es, g⟩ ρ w (.int k (k.wrap (-a))) := by
  unfold Yields; simp [execOp, go_sem, hx, Op.unary, Op.intArith]
end Mk
end
/- The facts' parser: the next token, failing, marks, numbers. -/
section
open Go Mk
namespace Go.Proofs.YtmjkacgmepbljaaGreatDoor
set_option maxHeartbeats 8000000
attribute [local irreducible] Calls

/-- The parser in memory: its tokens, the number of the next, the position of the end; the position of the error and the error. -/
def fpB (bp : Nat) (a : Option Addr) (n c k : Nat) (e p : PosT) (er : Int) : Res := .blk bp (.cells #[.slice a n c, .int .i64 k, .int .i64 e.Line, .int .i64 e.Col, .int .i64 p.Line, .int .i64 p.Col, .int .i64 er] 65)
def pk (toks : List Tok) (k : Nat) : Tok := (toks[k]?).getD default
theorem pk_none {toks : List Tok} {k : Nat} (h : ¬ k < toks.length) : pk toks k = default := by unfold pk; rw [List.getElem?_eq_none (by omega)]; rfl
theorem pk_some {toks : List Tok} {k : Nat} {t : Tok} (h : toks[k]? = some t) : pk toks k = t := by unfold pk; rw [h]; rfl
theorem pk_lt {toks : List Tok} {k : Nat} (h : (pk toks k).Kind ≠ 0) : k < toks.length := by
  by_cases hk : k < toks.length
  · exact hk
  · rw [pk_none hk] at h; exact absurd rfl h
theorem isS_pk {toks : List Tok} {k : Nat} {kind : Int} {text : ByteArray} (h0 : kind ≠ 0) : isS toks k kind text = (decide ((pk toks k).Kind = kind) && decide ((pk toks k).Text = text)) := by
  unfold isS pk
  cases toks[k]? with
  | none =>
    have : decide ((default : Tok).Kind = kind) = false := decide_eq_false fun h => h0 h.symm
    simp only [Option.getD_none, this, Bool.false_and]
  | some t => rfl
def negV (v : Int) : Int := IntKind.i64.wrap (-(IntKind.i64.wrap v))
def posV (v : Int) : Int := IntKind.i64.wrap v
def intP (toks : List Tok) (e : PosT) (neg : Bool) (k : Nat) : PR Int :=
  if (pk toks k).Kind ≠ 2 then .error (posOf toks k e, 50)
  else if (neg = true ∧ 9223372036854775808 < (pk toks k).Value) ∨ (neg = false ∧ 9223372036854775808 ≤ (pk toks k).Value) then .error (posOf toks k e, 6)
  else .ok (if neg = true then negV (pk toks k).Value else posV (pk toks k).Value, k + 1)
def dashB : ByteArray := ⟨#[45]⟩
def argI : PR Int → PR Val
  | .ok (v, k1) => .ok (⟨1, v, ⟨#[]⟩⟩, k1)
  | .error q => .error q
def argP (toks : List Tok) (e : PosT) (beyond : Bool) (k : Nat) : PR Val :=
  if (pk toks k).Kind = 2 ∧ 9223372036854775808 ≤ (pk toks k).Value then .error (posOf toks k e, 6)
  else if (pk toks k).Kind = 1 ∨ (pk toks k).Kind = 3 then
    if (pk toks k).Text = ⟨#[]⟩ ∨ 24 < (pk toks k).Text.size then .error (posOf toks k e, 63)
    else if beyond = true then .error (posOf toks k e, 15)
    else .ok (⟨2, 0, (pk toks k).Text⟩, k + 1)
  else if (pk toks k).Kind ≠ 2 ∧ ((pk toks k).Kind ≠ 4 ∨ (pk toks k).Text ≠ dashB) then .error (posOf toks k e, 50)
  else if beyond = true then .error (posOf toks k e, 15)
  else argI (intP toks e (decide ((pk toks k).Kind = 4)) (if (pk toks k).Kind = 4 then k + 1 else k))
section
variable {Γ : Gho} {S : List Res} {w : World} {bp : Nat} {a : Option Addr} {n c k : Nat} {e p : PosT} {er : Int} {toks : List Tok}
/-- How a reading of the facts' parser ends. -/
def FP {α : Type} (Γ : Gho) (S : List Res) (bp : Nat) (a : Option Addr) (n c : Nat) (e p : PosT) (V : α → Value) (Z : Value → Prop) : PR α → Ending → World → Prop
  | .ok (x, k), r, w => r = .returned (V x) ∧ Wd Γ (fpB bp a n c k e p 0 :: S) w
  | .error (p', er), r, w => ∃ u k', r = .returned u ∧ Z u ∧ Wd Γ (fpB bp a n c k' e p' er :: S) w
instance ps_fpeek [ht : RTok Γ a n c toks] : PS Tryz.prog Γ (fpB bp a n c k e p er :: S) 75 [.pointer (some ⟨bp, 0, none⟩)] (.agg (enc (pk toks k)).toArray) := ⟨fun Y w hw => by
  obtain ⟨hn, hnc, hc⟩ := ht.len
  have hr := ht.h
  have hw : Wd Γ (fpB bp a n c k e p er :: (S ++ Y)) w := hw
  refine calls_of_WC Tryz.func75 rfl rfl ?_
  repeat (first | refine byW ?_ | (refine byV ?_; intro w hw))
  refine lAlloc ?_
  intro b2 w hw
  have hw : Wd Γ (.blk b2 (.cells (enc (default : Tok)).toArray 101) :: fpB bp a n c k e p er :: (S ++ Y)) w := hw
  repeat (first | refine byW ?_ | (refine byV ?_; intro w hw))
  refine W_quiet (by kernel_rfl) (by kernel_rfl) hw ?_
  repeat (first | refine Q_nil ?_ | (apply Q_plain; first | (apply Q_go; first | refine qP ?_ | refine qPg ?_) | refine qY ?_) | (apply Q_guarded; first | (apply Q_go; first | refine qPG ?_ | refine qPgG ?_) | refine qG ?_))
  intro w hw
  refine W_cond rfl (fun h => ?_) (fun h => ?_)
  · have h : k < n := by simp at h; omega
    obtain ⟨t, htk⟩ := get_lt (l := toks) (k := k) (by omega)
    rw [pk_some htk]
    repeat (first | refine byW ?_ | (refine byV ?_; intro w hw))
    refine W_mixC [fpB bp a n c k e p er] (.blk b2 _ :: (S ++ Y)) [] [[],[],[],[],[],[],[],[],[],[],[0]] (hw.ps [1]) ?_
    repeat (first | refine mY ?_ | refine mP ?_ | refine mPg ?_)
    refine mStepX (φ := fun (_ : Unit) _ => True) (R := fun _ => .blk b2 (.cells (enc (default : Tok)).toArray 101) :: (S ++ Y)) (v := undef) (T' := Unit) (fun _ _ => True) (fun _ => .blk b2 (.cells (enc t).toArray 101) :: (S ++ Y)) (fun t' g w Y _ hw => s_store (i := 0) (inferInstance : TSz Tryz.prog 101 5).h hw rfl rfl rfl rfl (fun u hu => (List.all_eq_true.1 (enc_one t)) u hu) rfl (Nat.le_refl 5) fun w' hw' => ⟨(), trivial, (fun _ => rfl), hw'⟩) ?_
    refine mEndX fun t' w g _ hw => ?_
    have hw : Wd Γ (.blk b2 (.cells (enc t).toArray 101) :: fpB bp a n c k e p er :: (S ++ Y)) w := hw.flip.ps [1]
    repeat (first | refine byW ?_ | (refine byV ?_; intro w hw))
    exact ⟨[.agg (enc t).toArray], ⟨resC (i := 0) hw rfl rfl rfl, trivial⟩, rfl, hw.drop⟩
  · have h : ¬ k < n := by simp at h; omega
    rw [pk_none (by omega)]
    repeat (first | refine byW ?_ | (refine byV ?_; intro w hw))
    refine lStore ?_
    intro w hw
    have hw : Wd Γ (.blk b2 (.cells (enc (default : Tok)).toArray 101) :: fpB bp a n c k e p er :: (S ++ Y)) w := hw
    repeat (first | refine byW ?_ | (refine byV ?_; intro w hw))
    exact ⟨[.agg (enc (default : Tok)).toArray], ⟨resC (i := 0) hw rfl rfl rfl, trivial⟩, rfl, hw.drop⟩⟩
theorem ffail_any [ht : RTok Γ a n c toks] (er : Int) (hw : Wd Γ (fpB bp a n c k e p 0 :: S) w) :
    Calls Tryz.prog 76 #[.pointer (some ⟨bp, 0, none⟩), .int .i64 er] w fun r w' => r = .returned (.bool false) ∧ Wd Γ (fpB bp a n c k e (posOf toks k e) er :: S) w' := by
  obtain ⟨hn, hnc, hc⟩ := ht.len
  have hr := ht.h
  refine calls_of_W Tryz.func76 rfl rfl ?_
  repeat (first | refine byW ?_ | (refine byV ?_; intro w hw))
  refine W_cond_true rfl ?_
  repeat (first | refine byW ?_ | (refine byV ?_; intro w hw))
  refine lStore ?_
  intro w hw
  repeat (first | refine byW ?_ | (refine byV ?_; intro w hw))
  refine lStore ?_
  intro w hw
  have hw : Wd Γ (fpB bp a n c k e e er :: S) w := hw
  repeat (first | refine byW ?_ | (refine byV ?_; intro w hw))
  refine W_quiet (by kernel_rfl) (by kernel_rfl) hw ?_
  repeat (first | refine Q_nil ?_ | (apply Q_plain; first | (apply Q_go; first | refine qP ?_ | refine qPg ?_) | refine qY ?_) | (apply Q_guarded; first | (apply Q_go; first | refine qPG ?_ | refine qPgG ?_) | refine qG ?_))
  intro w hw
  refine W_cond rfl (fun h => ?_) (fun h => ?_)
  · have h : k < n := by simp at h; omega
    obtain ⟨t, htk⟩ := get_lt (l := toks) (k := k) (by omega)
    have hp : posOf toks k e = ⟨t.Line, t.Col⟩ := by unfold posOf; rw [htk]
    rw [hp]
    repeat (first | refine byW ?_ | (refine byV ?_; intro w hw))
    refine W_mix1 [] (fpB bp a n c k e e er :: S) [[],[],[],[],[],[],[],[],[],[],[],[],[],[],[0]] [[],[],[],[],[0],[],[],[],[0],[],[],[],[],[],[0]] hw ?_
    repeat (first | refine mY ?_ | refine mP ?_ | refine mPg ?_)
    refine mStoreC ?_
    refine mEnd fun w g hw => ?_
    have hw : Wd Γ ((fpB bp a n c k e ⟨t.Line, t.Col⟩ er :: S) ++ []) w := hw
    rw [List.append_nil] at hw
    repeat (first | refine byW ?_ | (refine byV ?_; intro w hw))
    exact ⟨_, rfl, rfl, hw⟩
  · have h : ¬ k < n := by simp at h; omega
    have hp : posOf toks k e = e := by unfold posOf; rw [List.getElem?_eq_none (by omega)]
    rw [hp]
    repeat (first | refine byW ?_ | (refine byV ?_; intro w hw))
    exact ⟨_, rfl, rfl, hw⟩
theorem fpunct_ex [ht : RTok Γ a n c toks] (text : ByteArray) (hw : Wd Γ (fpB bp a n c k e p 0 :: S) w) :
    Calls Tryz.prog 77 #[.pointer (some ⟨bp, 0, none⟩), .string text] w fun r w' => (isS toks k 4 text = true → r = .returned (.bool true) ∧ Wd Γ (fpB bp a n c (k + 1) e p 0 :: S) w') ∧ (isS toks k 4 text = false → r = .returned (.bool false) ∧ Wd Γ (fpB bp a n c k e (posOf toks k e) 50 :: S) w') := by
  obtain ⟨hn, hnc, hc⟩ := ht.len
  have hbig := ht.big
  have hi := isS_pk (toks := toks) (k := k) (text := text) (kind := 4) (by decide)
  refine calls_of_W Tryz.func77 rfl rfl ?_
  repeat (first | refine byW ?_ | (refine byV ?_; intro w hw) | (apply L_plain; apply L_go; refine lPs ?_; intro w hw) | (apply L_guarded; apply L_go; refine lPsG ?_; intro w hw))
  refine lAlloc ?_
  intro b5 w hw
  refine lStore ?_
  intro w hw
  have hw : Wd Γ (.blk b5 (.cells (enc (pk toks k)).toArray 101) :: fpB bp a n c k e p 0 :: S) w := hw
  repeat (first | refine byW ?_ | (refine byV ?_; intro w hw))
  refine W_cond rfl (fun h => ?_) (fun h => ?_)
  · have hf : isS toks k 4 text = false := by
      rw [hi, Bool.and_eq_false_iff]
      simpa using h
    repeat (first | refine byW ?_ | (refine byV ?_; intro w hw))
    refine lCall ?_
    refine (ffail_any (S := .blk b5 _ :: S) 50 (hw.ps [1])).mono ?_
    rintro r w ⟨rfl, hw⟩
    refine ⟨_, rfl, ?_⟩
    repeat (first | refine byW ?_ | (refine byV ?_; intro w hw))
    refine ⟨_, rfl, ?_⟩
    rw [hf]
    exact ⟨fun h => (by cases h), fun _ => ⟨rfl, hw.dropAt 1⟩⟩
  · have hf : isS toks k 4 text = true := by
      rw [hi, Bool.and_eq_true]
      simpa using h
    have hlt := isS_lt hf
    repeat (first | refine byW ?_ | (refine byV ?_; intro w hw))
    refine lStore ?_
    intro w hw
    have hw : Wd Γ (.blk b5 (.cells (enc (pk toks k)).toArray 101) :: fpB bp a n c (k + 1) e p 0 :: S) w := hw
    repeat (first | refine byW ?_ | (refine byV ?_; intro w hw))
    refine ⟨_, rfl, ?_⟩
    rw [hf]
    exact ⟨fun _ => ⟨rfl, hw.drop⟩, fun h => (by cases h)⟩
theorem fint_any [ht : RTok Γ a n c toks] (neg : Bool) (hw : Wd Γ (fpB bp a n c k e p 0 :: S) w) :
    Calls Tryz.prog 104 #[.pointer (some ⟨bp, 0, none⟩), .bool neg] w (FP Γ S bp a n c e p (fun v : Int => .tuple #[.int .i64 v, .bool true]) (fun u => u = .tuple #[.int .i64 0, .bool false]) (intP toks e neg k)) := by
  obtain ⟨hn, hnc, hc⟩ := ht.len
  have hbig := ht.big
  refine calls_of_W Tryz.func104 rfl rfl ?_
  repeat (first | refine byW ?_ | (refine byV ?_; intro w hw) | (apply L_plain; apply L_go; refine lPs ?_; intro w hw) | (apply L_guarded; apply L_go; refine lPsG ?_; intro w hw))
  refine lAlloc ?_
  intro b5 w hw
  refine lStore ?_
  intro w hw
  have hw : Wd Γ (.blk b5 (.cells (enc (pk toks k)).toArray 101) :: fpB bp a n c k e p 0 :: S) w := hw
  repeat (first | refine byW ?_ | (refine byV ?_; intro w hw))
  refine W_cond rfl (fun h => ?_) (fun h => ?_)
  · have h : (pk toks k).Kind ≠ 2 := of_decide_eq_true h
    repeat (first | refine byW ?_ | (refine byV ?_; intro w hw))
    refine lCall ?_
    refine (ffail_any (S := .blk b5 _ :: S) 50 (hw.ps [1])).mono ?_
    rintro r w ⟨rfl, hw⟩
    refine ⟨_, rfl, ?_⟩
    repeat (first | refine byW ?_ | (refine byV ?_; intro w hw))
    refine ⟨_, rfl, ?_⟩
    unfold intP
    rw [if_pos h]
    exact ⟨_, k, rfl, rfl, hw.dropAt 1⟩
  have h : (pk toks k).Kind = 2 := Classical.not_not.1 (of_decide_eq_false h)
  have hlt := pk_lt (toks := toks) (k := k) (by rw [h]; decide)
  have hI : intP toks e neg k = if (neg = true ∧ 9223372036854775808 < (pk toks k).Value) ∨ (neg = false ∧ 9223372036854775808 ≤ (pk toks k).Value) then .error (posOf toks k e, 6) else .ok (if neg = true then negV (pk toks k).Value else posV (pk toks k).Value, k + 1) := by
    unfold intP; rw [if_neg (by simp [h])]
  rw [hI]
  repeat (first | refine byW ?_ | (refine byV ?_; intro w hw))
  refine W_cond rfl (fun h2 => ?_) (fun h2 => ?_)
  · have h2 : (neg = true ∧ 9223372036854775808 < (pk toks k).Value) ∨ (neg = false ∧ 9223372036854775808 ≤ (pk toks k).Value) := by simpa using h2
    rw [if_pos h2]
    repeat (first | refine byW ?_ | (refine byV ?_; intro w hw))
    refine lCall ?_
    refine (ffail_any (S := .blk b5 _ :: S) 6 (hw.ps [1])).mono ?_
    rintro r w ⟨rfl, hw⟩
    refine ⟨_, rfl, ?_⟩
    repeat (first | refine byW ?_ | (refine byV ?_; intro w hw))
    exact ⟨_, rfl, _, k, rfl, rfl, hw.dropAt 1⟩
  · have h2 : ¬ ((neg = true ∧ 9223372036854775808 < (pk toks k).Value) ∨ (neg = false ∧ 9223372036854775808 ≤ (pk toks k).Value)) := fun q => by
      rcases q with ⟨q1, q2⟩ | ⟨q1, q2⟩ <;> simp [q1, q2] at h2
    rw [if_neg h2]
    repeat (first | refine byW ?_ | (refine byV ?_; intro w hw))
    refine lStore ?_
    intro w hw
    have hw : Wd Γ (.blk b5 (.cells (enc (pk toks k)).toArray 101) :: fpB bp a n c (k + 1) e p 0 :: S) w := hw
    repeat (first | refine byW ?_ | (refine byV ?_; intro w hw))
    refine W_cond rfl (fun h3 => ?_) (fun h3 => ?_)
    · repeat (first | refine byW ?_ | (refine byV ?_; intro w hw))
      refine lY (v := .int .i64 (negV (pk toks k).Value)) ?_ (hy := y_negW rfl)
      repeat (first | refine byW ?_ | (refine byV ?_; intro w hw))
      exact ⟨_, rfl, by rw [if_pos h3]; exact rfl, hw.drop⟩
    · repeat (first | refine byW ?_ | (refine byV ?_; intro w hw))
      exact ⟨_, rfl, by rw [if_neg (by simp [h3])]; exact rfl, hw.drop⟩
end
end Go.Proofs.YtmjkacgmepbljaaGreatDoor
end
/- The comparisons of values, lists of values and facts. -/
section
open Go Mk
namespace Go.Proofs.YtmjkacgmepbljaaGreatDoor
set_option maxHeartbeats 4000000
attribute [local irreducible] Calls cI cB

instance pg_cmpV (Γ : Gho) (a b : Val) : PG Tryz.prog Γ 35 [.agg (enc a).toArray, .agg (enc b).toArray] (.int .i64 (cV a b)) := ⟨fun S w hw => by
  refine calls_of_W Tryz.func35 rfl rfl ?_
  repeat (first | refine byW ?_ | (refine byV ?_; intro w hw))
  refine lBox ?_
  intro b1 w hw
  refine lBox ?_
  intro b2 w hw
  have hw : Wd Γ (.blk b2 (.cells (enc b).toArray 30) :: .blk b1 (.cells (enc a).toArray 30) :: S) w := hw
  repeat (first | refine byW ?_ | (refine byV ?_; intro w hw))
  refine W_cond rfl (fun h => ?_) (fun h => ?_)
  · repeat (first | refine byW ?_ | (refine byV ?_; intro w hw))
    exact ⟨_, rfl, ret_i rfl (by have h := of_decide_eq_true h; subst h; rw [cV_ord.refl]), hw.drop.drop⟩
  · repeat (first | refine byW ?_ | (refine byV ?_; intro w hw))
    refine W_mixC [.blk b2 _, .blk b1 _] S [23] [[],[],[],[],[],[],[],[],[],[],[],[],[],[],[],[0],[0],[]] hw ?_
    repeat (first | refine mY ?_ | refine mP ?_ | refine mPg ?_)
    refine mStepX (v := undef) (T' := Value) (fun t g => g 23 = t) (fun t => .own t 3 1 ([cI a.Kind b.Kind, cI a.Num b.Num, cB a.Word b.Word].map fun x => [.int .i64 x]) :: S) (fun t g w Y _ hw => s_buildSlice (rws := [cI a.Kind b.Kind, cI a.Num b.Num, cB a.Word b.Word].map fun x => [.int .i64 x]) hw rfl rfl rfl (by simp) (by decide) fun q w' hw' => ⟨_, rfl, (fun h => by cases h), hw'⟩) ?_
    refine mCallX (φ := fun (t : Value) g => g 23 = t) (v := .int .i64 (cV a b)) (T' := Value) (fun _ _ => True) (fun t => .own t 3 1 ([cI a.Kind b.Kind, cI a.Num b.Num, cB a.Word b.Word].map fun x => [.int .i64 x]) :: S) (fun t _ => [t]) (fun t g w Y ht hw => ?_) ?_ (ha := fun t g ht => EvL.cons ht EvL.nil)
    · refine (Or_any _ hw (RdS.own (i := 0) hw rfl)).mono ?_
      rintro e w ⟨rfl, hw⟩
      refine ⟨_, rfl, t, trivial, fun _ => ?_, hw⟩
      unfold cV orL orL orL orL
      rw [orI_r]
    repeat (first | refine mY ?_ | refine mP ?_ | refine mPg ?_)
    refine mEndX fun t w g _ hw => ?_
    repeat (first | refine byW ?_ | (refine byV ?_; intro w hw))
    exact ⟨_, rfl, rfl, hw.drop.left⟩⟩

theorem CompareFunc_any {Γ : Gho} {va vb : Value} {xs ys : List Val} (ha : RepS Γ va 3 (xs.map enc)) (hb : RepS Γ vb 3 (ys.map enc)) :
    PG Tryz.prog Γ 34 [va, vb, .func (.func 35) #[] #[]] (.int .i64 (cL cV xs ys)) := ⟨fun S w hw => by
  obtain ⟨a, n, c, rfl, hn, hnc, hc⟩ := ha.shape
  obtain ⟨a2, n2, c2, rfl, hn2, hnc2, hc2⟩ := hb.shape
  simp only [List.length_map] at hn hn2
  refine calls_of_W Tryz.func34 rfl rfl ?_
  repeat (first | refine byW ?_ | (refine byV ?_; intro w hw))
  refine W_loop (fun μ ρ w => ∃ (k : Nat), μ + k = n ∧ Has ρ [(0, .slice a n c), (1, .slice a2 n2 c2), (2, .func (.func 35) #[] #[]), (11, .slice a n c), (12, .int .i64 n), (13, .int .i64 k)] ∧ cL cV xs ys = cL cV (xs.drop k) (ys.drop k) ∧ Wd Γ S w) n ⟨0, by omega, ⟨rfl, rfl, rfl, rfl, rfl, rfl, trivial⟩, rfl, hw⟩ ?_
  clear hw
  rintro μ ρ w ⟨k, hk, hρ, ho, hw⟩
  rw [hρ.eq]
  repeat (first | refine byW ?_ | (refine byV ?_; intro w hw))
  refine W_cond rfl (fun h => ?_) (fun h => ?_)
  · have hkn : k < n := by simpa using h
    obtain ⟨x, hx⟩ := get_lt (l := xs) (k := k) (by omega)
    have hd : xs.drop k = x :: xs.drop (k + 1) := drop_get hx
    rw [hd] at ho
    repeat (first | refine byW ?_ | (refine byV ?_; intro w hw))
    refine lAlloc ?_
    intro b8 w hw
    repeat (first | refine byW ?_ | (refine byV ?_; intro w hw))
    refine lStore ?_
    intro w hw
    have hw : Wd Γ (.blk b8 (.cells (enc x).toArray 30) :: S) w := hw
    repeat (first | refine byW ?_ | (refine byV ?_; intro w hw))
    refine W_cond rfl (fun h2 => ?_) (fun h2 => ?_)
    · repeat (first | refine byW ?_ | (refine byV ?_; intro w hw))
      have h2 : n2 ≤ k := by simpa using h2
      refine ⟨_, rfl, ret_i rfl ?_, hw.drop⟩
      rw [ho, drop_none ys (by omega)]; rfl
    · have h2 : k < n2 := by simpa using h2
      obtain ⟨y, hy⟩ := get_lt (l := ys) (k := k) (by omega)
      rw [drop_get hy] at ho
      have ho : cL cV xs ys = orI (cV x y) (cL cV (xs.drop (k + 1)) (ys.drop (k + 1))) := ho
      repeat (first | refine byW ?_ | (refine byV ?_; intro w hw))
      refine lAlloc ?_
      intro b9 w hw
      refine lStore ?_
      intro w hw
      have hw : Wd Γ (.blk b9 (.cells (enc y).toArray 30) :: .blk b8 (.cells (enc x).toArray 30) :: S) w := hw
      repeat (first | refine byW ?_ | (refine byV ?_; intro w hw))
      refine lCallv (fst := []) (cap := []) ?_
      refine ((pg_cmpV Γ x y).h _ _ hw).mono ?_
      rintro e w ⟨rfl, hw⟩
      refine ⟨_, rfl, ?_⟩
      repeat (first | refine byW ?_ | (refine byV ?_; intro w hw))
      refine W_cond rfl (fun h3 => ?_) (fun h3 => ?_)
      · repeat (first | refine byW ?_ | (refine byV ?_; intro w hw))
        have h3 : ¬ cV x y = 0 := by simpa using h3
        refine ⟨_, rfl, ret_i rfl ?_, hw.drop.drop⟩
        rw [ho, orI_pos h3]
      · repeat (first | refine byW ?_ | (refine byV ?_; intro w hw))
        have h3 : cV x y = 0 := by simpa using h3
        refine ⟨μ - 1, by omega, k + 1, by omega, ⟨rfl, rfl, rfl, rfl, rfl, rfl, trivial⟩, ?_, hw.drop.drop⟩
        rw [ho, orI_null h3]
  · have hkn : ¬ k < n := by simpa using h
    rw [drop_none xs (by omega)] at ho
    repeat (first | refine byW ?_ | (refine byV ?_; intro w hw))
    refine W_cond rfl (fun h2 => ?_) (fun h2 => ?_)
    · repeat (first | refine byW ?_ | (refine byV ?_; intro w hw))
      have h2 : n < n2 := by simpa using h2
      obtain ⟨y, hy⟩ := get_lt (l := ys) (k := k) (by omega)
      rw [drop_get hy] at ho
      exact ⟨_, rfl, ret_i rfl (by rw [ho]; rfl), hw⟩
    · repeat (first | refine byW ?_ | (refine byV ?_; intro w hw))
      have h2 : ¬ n < n2 := by simpa using h2
      rw [drop_none ys (by omega)] at ho
      exact ⟨_, rfl, ret_i rfl (by rw [ho]; rfl), hw⟩⟩

theorem pg_cmpF {Γ : Gho} {f g : FactH} (hf : FOk Γ f) (hg : FOk Γ g) : PG Tryz.prog Γ 10 [.agg (cF f).toArray, .agg (cF g).toArray] (.int .i64 (cFact f.fact g.fact)) := ⟨fun S w hw => by
  obtain ⟨l1, l2, l3⟩ := hf.len
  obtain ⟨m1, m2, m3⟩ := hg.len
  have hC := CompareFunc_any hf hg
  obtain ⟨fr, fa, fn, fc, fs⟩ := f
  obtain ⟨gr, ga, gn, gc, gs⟩ := g
  simp only at l1 l2 l3 m1 m2 m3
  refine calls_of_W Tryz.func10 rfl rfl ?_
  repeat (first | refine byW ?_ | (refine byV ?_; intro w hw))
  refine lBox ?_
  intro b1 w hw
  refine lBox ?_
  intro b2 w hw
  have hw : Wd Γ (.blk b2 (.cells #[.string gr, .slice ga gn gc] 24) :: .blk b1 (.cells #[.string fr, .slice fa fn fc] 24) :: S) w := hw
  repeat (first | refine byW ?_ | (refine byV ?_; intro w hw))
  refine W_mixC [.blk b2 _, .blk b1 _] S [18] [[],[],[],[],[],[],[],[],[],[],[],[],[0],[0],[]] hw ?_
  repeat (first | refine mY ?_ | refine mP ?_ | refine mPg ?_)
  refine mStepX (v := undef) (T' := Value) (fun t g => g 18 = t) (fun t => .own t 3 1 ([cB fr gr, cI fn gn].map fun x => [.int .i64 x]) :: S) (fun t g w Y _ hw => s_buildSlice (rws := [cB fr gr, cI fn gn].map fun x => [.int .i64 x]) hw rfl rfl rfl (by simp) (by decide) fun q w' hw' => ⟨_, rfl, (fun h => by cases h), hw'⟩) ?_
  refine mCallX (φ := fun (t : Value) g => g 18 = t) (v := .int .i64 (orI (cB fr gr) (cI fn gn))) (T' := Value) (fun _ _ => True) (fun t => .own t 3 1 ([cB fr gr, cI fn gn].map fun x => [.int .i64 x]) :: S) (fun t _ => [t]) (fun t g w Y ht hw => ?_) ?_ (ha := fun t g ht => EvL.cons ht EvL.nil)
  · refine (Or_any _ hw (RdS.own (i := 0) hw rfl)).mono ?_
    rintro e w ⟨rfl, hw⟩
    refine ⟨_, rfl, t, trivial, fun _ => ?_, hw⟩
    unfold orL orL orL
    rw [orI_r]
  repeat (first | refine mY ?_ | refine mP ?_ | refine mPg ?_)
  refine mEndX fun t w g _ hw => ?_
  have hw : Wd Γ (.blk b2 (.cells #[.string gr, .slice ga gn gc] 24) :: .blk b1 (.cells #[.string fr, .slice fa fn fc] 24) :: S) w := hw.drop.flip
  have hcf : cFact (fr, fs) (gr, gs) = orI (orI (cB fr gr) (cI fn gn)) (cL cV fs gs) := by
    unfold cFact; rw [l1, m1]; unfold orI
    by_cases e : cB fr gr = 0 <;> simp [e]
  repeat (first | refine byW ?_ | (refine byV ?_; intro w hw))
  refine W_cond rfl (fun h3 => ?_) (fun h3 => ?_)
  · repeat (first | refine byW ?_ | (refine byV ?_; intro w hw))
    have h3 : ¬ orI (cB fr gr) (cI fn gn) = 0 := by simpa using h3
    refine ⟨_, rfl, ret_i rfl ?_, hw.drop.drop⟩
    show _ = cFact (fr, fs) (gr, gs)
    rw [hcf, orI_pos h3]
  · have h3 : orI (cB fr gr) (cI fn gn) = 0 := by simpa using h3
    repeat (first | refine byW ?_ | (refine byV ?_; intro w hw))
    refine lPg (hp := hC) ?_
    intro w hw
    repeat (first | refine byW ?_ | (refine byV ?_; intro w hw))
    refine ⟨_, rfl, ret_i rfl ?_, hw.drop.drop⟩
    show _ = cFact (fr, fs) (gr, gs)
    rw [hcf, orI_null h3]⟩
end Go.Proofs.YtmjkacgmepbljaaGreatDoor
end
/- The reference's comparisons; a fact is put into a set of facts. -/
section
open Go Mk
namespace Go.Proofs.YtmjkacgmepbljaaGreatDoor
set_option maxHeartbeats 4000000
attribute [local irreducible] Calls cI cB

instance pg_refV (Γ : Gho) (a b : Val) : PG Tryz.prog Γ 95 [.agg (enc a).toArray, .agg (enc b).toArray] (.int .i64 (cV a b)) := ⟨fun S w hw => by
  refine calls_of_W Tryz.func95 rfl rfl ?_
  repeat (first | refine byW ?_ | (refine byV ?_; intro w hw))
  refine lBox ?_
  intro b1 w hw
  refine lBox ?_
  intro b2 w hw
  have hw : Wd Γ (.blk b2 (.cells (enc b).toArray 30) :: .blk b1 (.cells (enc a).toArray 30) :: S) w := hw
  repeat (first | refine byW ?_ | (refine byV ?_; intro w hw))
  refine W_cond rfl (fun h => ?_) (fun h => ?_)
  · repeat (first | refine byW ?_ | (refine byV ?_; intro w hw))
    have h : ¬ cI a.Kind b.Kind = 0 := by simpa using h
    exact ⟨_, rfl, ret_i rfl (by unfold cV; rw [orI_pos h]), hw.drop.drop⟩
  have h : cI a.Kind b.Kind = 0 := by simpa using h
  repeat (first | refine byW ?_ | (refine byV ?_; intro w hw))
  refine W_cond rfl (fun h2 => ?_) (fun h2 => ?_)
  · repeat (first | refine byW ?_ | (refine byV ?_; intro w hw))
    have h2 : ¬ cI a.Num b.Num = 0 := by simpa using h2
    exact ⟨_, rfl, ret_i rfl (by unfold cV; rw [orI_null h, orI_pos h2]), hw.drop.drop⟩
  have h2 : cI a.Num b.Num = 0 := by simpa using h2
  repeat (first | refine byW ?_ | (refine byV ?_; intro w hw))
  exact ⟨_, rfl, ret_i rfl (by unfold cV; rw [orI_null h, orI_null h2]), hw.drop.drop⟩⟩

theorem pg_refL {Γ : Gho} {va vb : Value} {xs ys : List Val} (ha : RepS Γ va 3 (xs.map enc)) (hb : RepS Γ vb 3 (ys.map enc)) (hl : xs.length = ys.length) :
    PG Tryz.prog Γ 66 [va, vb] (.int .i64 (cL cV xs ys)) := ⟨fun S w hw => by
  obtain ⟨a, n, c, rfl, hn, hnc, hc⟩ := ha.shape
  obtain ⟨a2, n2, c2, rfl, hn2, hnc2, hc2⟩ := hb.shape
  simp only [List.length_map] at hn hn2
  refine calls_of_W Tryz.func66 rfl rfl ?_
  repeat (first | refine byW ?_ | (refine byV ?_; intro w hw))
  refine W_loop (fun μ ρ w => ∃ (k : Nat), μ + k = n ∧ Has ρ [(0, .slice a n c), (1, .slice a2 n2 c2), (5, .int .i64 k)] ∧ cL cV xs ys = cL cV (xs.drop k) (ys.drop k) ∧ Wd Γ S w) n ⟨0, by omega, ⟨rfl, rfl, rfl, trivial⟩, rfl, hw⟩ ?_
  clear hw
  rintro μ ρ w ⟨k, hk, hρ, ho, hw⟩
  rw [hρ.eq]
  repeat (first | refine byW ?_ | (refine byV ?_; intro w hw))
  refine W_cond rfl (fun h => ?_) (fun h => ?_)
  · have hkn : k < n := by simp only [Bool.and_eq_true, decide_eq_true_eq] at h; omega
    obtain ⟨x, hx⟩ := get_lt (l := xs) (k := k) (by omega)
    obtain ⟨y, hy⟩ := get_lt (l := ys) (k := k) (by omega)
    rw [drop_get hx, drop_get hy] at ho
    have ho : cL cV xs ys = orI (cV x y) (cL cV (xs.drop (k + 1)) (ys.drop (k + 1))) := ho
    have hk2 : k < n2 := by omega
    repeat (first | refine byW ?_ | (refine byV ?_; intro w hw))
    refine W_quiet (by kernel_rfl) (by kernel_rfl) hw ?_
    repeat (first | refine Q_nil ?_ | (apply Q_plain; first | (apply Q_go; first | refine qP ?_ | refine qPg ?_) | refine qY ?_) | (apply Q_guarded; first | (apply Q_go; first | refine qPG ?_ | refine qPgG ?_) | refine qG ?_))
    intro w hw
    repeat (first | refine byW ?_ | (refine byV ?_; intro w hw))
    refine W_cond rfl (fun h3 => ?_) (fun h3 => ?_)
    · repeat (first | refine byW ?_ | (refine byV ?_; intro w hw))
      have h3 : ¬ cV x y = 0 := by simpa using h3
      exact ⟨_, rfl, ret_i rfl (by rw [ho, orI_pos h3]), hw⟩
    · repeat (first | refine byW ?_ | (refine byV ?_; intro w hw))
      have h3 : cV x y = 0 := by simpa using h3
      exact ⟨μ - 1, by omega, k + 1, by omega, ⟨rfl, rfl, rfl, trivial⟩, by rw [ho, orI_null h3], hw⟩
  · have hkn : ¬ k < n := by
      intro hh
      have : k < n2 := by omega
      simp [hh, this] at h
    rw [drop_none xs (by omega), drop_none ys (by omega)] at ho
    repeat (first | refine byW ?_ | (refine byV ?_; intro w hw))
    exact ⟨_, rfl, ret_i rfl (by rw [ho]; rfl), hw⟩⟩

theorem pg_refF {Γ : Gho} {f g : FactH} (hf : FOk Γ f) (hg : FOk Γ g) : PG Tryz.prog Γ 24 [.agg (cF f).toArray, .agg (cF g).toArray] (.int .i64 (cFact f.fact g.fact)) := ⟨fun S w hw => by
  obtain ⟨l1, l2, l3⟩ := hf.len
  obtain ⟨m1, m2, m3⟩ := hg.len
  have hC := fun hl => pg_refL hf hg hl
  obtain ⟨fr, fa, fn, fc, fs⟩ := f
  obtain ⟨gr, ga, gn, gc, gs⟩ := g
  simp only at l1 l2 l3 m1 m2 m3 hC
  refine calls_of_W Tryz.func24 rfl rfl ?_
  repeat (first | refine byW ?_ | (refine byV ?_; intro w hw))
  refine lBox ?_
  intro b1 w hw
  refine lBox ?_
  intro b2 w hw
  have hw : Wd Γ (.blk b2 (.cells #[.string gr, .slice ga gn gc] 24) :: .blk b1 (.cells #[.string fr, .slice fa fn fc] 24) :: S) w := hw
  repeat (first | refine byW ?_ | (refine byV ?_; intro w hw))
  refine W_cond rfl (fun h => ?_) (fun h => ?_)
  · repeat (first | refine byW ?_ | (refine byV ?_; intro w hw))
    have h : ¬ cB fr gr = 0 := by simpa using h
    exact ⟨_, rfl, ret_i rfl (by show _ = cFact (fr, fs) (gr, gs); unfold cFact; rw [orI_pos h]), hw.drop.drop⟩
  have h : cB fr gr = 0 := by simpa using h
  repeat (first | refine byW ?_ | (refine byV ?_; intro w hw))
  refine W_cond rfl (fun h2 => ?_) (fun h2 => ?_)
  · repeat (first | refine byW ?_ | (refine byV ?_; intro w hw))
    have h2 : ¬ cI fn gn = 0 := by simpa using h2
    exact ⟨_, rfl, ret_i rfl (by show _ = cFact (fr, fs) (gr, gs); unfold cFact; rw [orI_null h, ← l1, ← m1, orI_pos h2]), hw.drop.drop⟩
  have h2 : cI fn gn = 0 := by simpa using h2
  have hl : fs.length = gs.length := by have := cI_ord.eq0 h2; omega
  repeat (first | refine byW ?_ | (refine byV ?_; intro w hw))
  refine lPg (hp := hC hl) ?_
  intro w hw
  repeat (first | refine byW ?_ | (refine byV ?_; intro w hw))
  exact ⟨_, rfl, ret_i rfl (by show _ = cFact (fr, fs) (gr, gs); unfold cFact; rw [orI_null h, ← l1, ← m1, orI_null h2]), hw.drop.drop⟩⟩

/-- How many of the first k elements stay ahead of f. -/
def addK (fs : List FactH) (f : FactH) : Nat → Nat
  | 0 => 0
  | k + 1 => match fs[k]? with
    | some x => if 0 < cFact x.fact f.fact then addK fs f k else k + 1
    | none => k + 1
theorem addK_le (fs : List FactH) (f : FactH) : ∀ k, addK fs f k ≤ k
  | 0 => Nat.le_refl _
  | k + 1 => by
    unfold addK
    split
    · split
      · have := addK_le fs f k; omega
      · omega
    · omega
def addF (fs : List FactH) (f : FactH) : List FactH :=
  let k := addK fs f fs.length
  match k with
  | 0 => f :: fs
  | k + 1 => match fs[k]? with
    | some x => if cFact x.fact f.fact = 0 then fs else fs.take (k + 1) ++ f :: fs.drop (k + 1)
    | none => fs.take (k + 1) ++ f :: fs.drop (k + 1)
end Go.Proofs.YtmjkacgmepbljaaGreatDoor
end
