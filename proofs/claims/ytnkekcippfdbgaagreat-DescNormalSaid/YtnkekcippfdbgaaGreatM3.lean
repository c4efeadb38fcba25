/- Texts of this proof, one behind another. -/
import Derived.Test.YtnkekcippfdbgaaGreatM2
import Derived.Test.YtnkekcippfdbgaaGreatChecked
import Derived.Laws.Externs
/- Facts on the types and functions of this translation, a row each (written by a program of mine; the kernel checks each). -/
section
open Go Mk
namespace Go.Proofs.YtnkekcippfdbgaaGreat
instance : TZ Tryz.prog 1 [.nilFunc] := ⟨by kernel_rfl⟩
instance : TZV Tryz.prog 1 (.nilFunc) := ⟨by kernel_rfl⟩
instance : TS Tryz.prog 1 := ⟨by kernel_rfl⟩
instance : TZ Tryz.prog 2 [.int .i64 0] := ⟨by kernel_rfl⟩
instance : TZV Tryz.prog 2 (.int .i64 0) := ⟨by kernel_rfl⟩
instance : TS Tryz.prog 2 := ⟨by kernel_rfl⟩
instance : TInt Tryz.prog 2 .i64 := ⟨by kernel_rfl⟩
instance : TZ Tryz.prog 3 [.int .i64 0] := ⟨by kernel_rfl⟩
instance : TZV Tryz.prog 3 (.int .i64 0) := ⟨by kernel_rfl⟩
instance : TS Tryz.prog 3 := ⟨by kernel_rfl⟩
instance : TInt Tryz.prog 3 .i64 := ⟨by kernel_rfl⟩
instance : TZ Tryz.prog 4 [.bool false] := ⟨by kernel_rfl⟩
instance : TZV Tryz.prog 4 (.bool false) := ⟨by kernel_rfl⟩
instance : TS Tryz.prog 4 := ⟨by kernel_rfl⟩
instance : TBool Tryz.prog 4 := ⟨by kernel_rfl⟩
instance : TZ Tryz.prog 5 [.int .u8 0] := ⟨by kernel_rfl⟩
instance : TZV Tryz.prog 5 (.int .u8 0) := ⟨by kernel_rfl⟩
instance : TS Tryz.prog 5 := ⟨by kernel_rfl⟩
instance : TInt Tryz.prog 5 .u8 := ⟨by kernel_rfl⟩
instance : TZ Tryz.prog 6 [.int .u8 0] := ⟨by kernel_rfl⟩
instance : TZV Tryz.prog 6 (.int .u8 0) := ⟨by kernel_rfl⟩
instance : TS Tryz.prog 6 := ⟨by kernel_rfl⟩
instance : TInt Tryz.prog 6 .u8 := ⟨by kernel_rfl⟩
instance : TZ Tryz.prog 7 [.int .i64 0, .int .i64 0, .bool false, .int .u8 0] := ⟨by kernel_rfl⟩
instance : TZV Tryz.prog 7 (.agg #[.int .i64 0, .int .i64 0, .bool false, .int .u8 0]) := ⟨by kernel_rfl⟩
instance : TA Tryz.prog 7 4 := ⟨by kernel_rfl⟩
instance : TEq Tryz.prog 7 [5, 5, 0, 6] := ⟨by kernel_rfl, by kernel_rfl, by kernel_rfl⟩
instance : TB Tryz.prog 7 [(0, 1), (1, 1), (2, 1), (3, 1)] [.int .i64 0, .int .i64 0, .bool false, .int .u8 0] := ⟨by kernel_rfl, by kernel_rfl⟩
instance : TF Tryz.prog 7 0 0 := ⟨by kernel_rfl⟩
instance : TF Tryz.prog 7 1 1 := ⟨by kernel_rfl⟩
instance : TF Tryz.prog 7 2 2 := ⟨by kernel_rfl⟩
instance : TF Tryz.prog 7 3 3 := ⟨by kernel_rfl⟩
instance : TZ Tryz.prog 8 [.int .i64 0, .int .i64 0, .bool false, .int .u8 0] := ⟨by kernel_rfl⟩
instance : TZV Tryz.prog 8 (.agg #[.int .i64 0, .int .i64 0, .bool false, .int .u8 0]) := ⟨by kernel_rfl⟩
instance : TA Tryz.prog 8 4 := ⟨by kernel_rfl⟩
instance : TEq Tryz.prog 8 [5, 5, 0, 6] := ⟨by kernel_rfl, by kernel_rfl, by kernel_rfl⟩
instance : TB Tryz.prog 8 [(0, 1), (1, 1), (2, 1), (3, 1)] [.int .i64 0, .int .i64 0, .bool false, .int .u8 0] := ⟨by kernel_rfl, by kernel_rfl⟩
instance : TF Tryz.prog 8 0 0 := ⟨by kernel_rfl⟩
instance : TF Tryz.prog 8 1 1 := ⟨by kernel_rfl⟩
instance : TF Tryz.prog 8 2 2 := ⟨by kernel_rfl⟩
instance : TF Tryz.prog 8 3 3 := ⟨by kernel_rfl⟩
instance : TZ Tryz.prog 9 [.string ⟨#[]⟩] := ⟨by kernel_rfl⟩
instance : TZV Tryz.prog 9 (.string ⟨#[]⟩) := ⟨by kernel_rfl⟩
instance : TS Tryz.prog 9 := ⟨by kernel_rfl⟩
instance : TStr Tryz.prog 9 := ⟨by kernel_rfl⟩
instance : TZ Tryz.prog 10 [.string ⟨#[]⟩] := ⟨by kernel_rfl⟩
instance : TZV Tryz.prog 10 (.string ⟨#[]⟩) := ⟨by kernel_rfl⟩
instance : TS Tryz.prog 10 := ⟨by kernel_rfl⟩
instance : TStr Tryz.prog 10 := ⟨by kernel_rfl⟩
instance : TZ Tryz.prog 11 [.string ⟨#[]⟩] := ⟨by kernel_rfl⟩
instance : TZV Tryz.prog 11 (.string ⟨#[]⟩) := ⟨by kernel_rfl⟩
instance : TS Tryz.prog 11 := ⟨by kernel_rfl⟩
instance : TStr Tryz.prog 11 := ⟨by kernel_rfl⟩
instance : TZ Tryz.prog 12 [.int .u64 0] := ⟨by kernel_rfl⟩
instance : TZV Tryz.prog 12 (.int .u64 0) := ⟨by kernel_rfl⟩
instance : TS Tryz.prog 12 := ⟨by kernel_rfl⟩
instance : TInt Tryz.prog 12 .u64 := ⟨by kernel_rfl⟩
instance : TZ Tryz.prog 13 [.string ⟨#[]⟩, .int .u64 0] := ⟨by kernel_rfl⟩
instance : TZV Tryz.prog 13 (.agg #[.string ⟨#[]⟩, .int .u64 0]) := ⟨by kernel_rfl⟩
instance : TA Tryz.prog 13 2 := ⟨by kernel_rfl⟩
instance : TB Tryz.prog 13 [(0, 1), (1, 1)] [.string ⟨#[]⟩, .int .u64 0] := ⟨by kernel_rfl, by kernel_rfl⟩
instance : TF Tryz.prog 13 0 0 := ⟨by kernel_rfl⟩
instance : TF Tryz.prog 13 1 1 := ⟨by kernel_rfl⟩
instance : TZ Tryz.prog 14 [.string ⟨#[]⟩, .int .u64 0] := ⟨by kernel_rfl⟩
instance : TZV Tryz.prog 14 (.agg #[.string ⟨#[]⟩, .int .u64 0]) := ⟨by kernel_rfl⟩
instance : TA Tryz.prog 14 2 := ⟨by kernel_rfl⟩
instance : TB Tryz.prog 14 [(0, 1), (1, 1)] [.string ⟨#[]⟩, .int .u64 0] := ⟨by kernel_rfl, by kernel_rfl⟩
instance : TF Tryz.prog 14 0 0 := ⟨by kernel_rfl⟩
instance : TF Tryz.prog 14 1 1 := ⟨by kernel_rfl⟩
instance : TZ Tryz.prog 15 [.pointer none] := ⟨by kernel_rfl⟩
instance : TZV Tryz.prog 15 (.pointer none) := ⟨by kernel_rfl⟩
instance : TS Tryz.prog 15 := ⟨by kernel_rfl⟩
instance : TPtr Tryz.prog 15 203 := ⟨by kernel_rfl⟩
instance : TZ Tryz.prog 16 [.pointer none] := ⟨by kernel_rfl⟩
instance : TZV Tryz.prog 16 (.pointer none) := ⟨by kernel_rfl⟩
instance : TS Tryz.prog 16 := ⟨by kernel_rfl⟩
instance : TPtr Tryz.prog 16 206 := ⟨by kernel_rfl⟩
instance : TZ Tryz.prog 17 [.pointer none] := ⟨by kernel_rfl⟩
instance : TZV Tryz.prog 17 (.pointer none) := ⟨by kernel_rfl⟩
instance : TS Tryz.prog 17 := ⟨by kernel_rfl⟩
instance : TPtr Tryz.prog 17 214 := ⟨by kernel_rfl⟩
instance : TZ Tryz.prog 18 [.pointer none] := ⟨by kernel_rfl⟩
instance : TZV Tryz.prog 18 (.agg #[.pointer none]) := ⟨by kernel_rfl⟩
instance : TA Tryz.prog 18 1 := ⟨by kernel_rfl⟩
instance : TB Tryz.prog 18 [(0, 1)] [.pointer none] := ⟨by kernel_rfl, by kernel_rfl⟩
instance : TF Tryz.prog 18 0 0 := ⟨by kernel_rfl⟩
instance : TZ Tryz.prog 19 [.pointer none] := ⟨by kernel_rfl⟩
instance : TZV Tryz.prog 19 (.agg #[.pointer none]) := ⟨by kernel_rfl⟩
instance : TA Tryz.prog 19 1 := ⟨by kernel_rfl⟩
instance : TB Tryz.prog 19 [(0, 1)] [.pointer none] := ⟨by kernel_rfl, by kernel_rfl⟩
instance : TF Tryz.prog 19 0 0 := ⟨by kernel_rfl⟩
instance : TZ Tryz.prog 20 [.nilIface] := ⟨by kernel_rfl⟩
instance : TZV Tryz.prog 20 (.nilIface) := ⟨by kernel_rfl⟩
instance : TS Tryz.prog 20 := ⟨by kernel_rfl⟩
instance : TZ Tryz.prog 21 [.int .i32 0] := ⟨by kernel_rfl⟩
instance : TZV Tryz.prog 21 (.int .i32 0) := ⟨by kernel_rfl⟩
instance : TS Tryz.prog 21 := ⟨by kernel_rfl⟩
instance : TInt Tryz.prog 21 .i32 := ⟨by kernel_rfl⟩
instance : TZ Tryz.prog 22 [.nilFunc] := ⟨by kernel_rfl⟩
instance : TZV Tryz.prog 22 (.nilFunc) := ⟨by kernel_rfl⟩
instance : TS Tryz.prog 22 := ⟨by kernel_rfl⟩
instance : TZ Tryz.prog 23 [.slice none 0 0] := ⟨by kernel_rfl⟩
instance : TZV Tryz.prog 23 (.slice none 0 0) := ⟨by kernel_rfl⟩
instance : TS Tryz.prog 23 := ⟨by kernel_rfl⟩
instance : TL Tryz.prog 23 72 4 32 [.int .i64 0, .int .i64 0, .int .i64 0, .int .i64 0] := ⟨by kernel_rfl, by kernel_rfl, by kernel_rfl, by decide⟩
instance : TZ Tryz.prog 24 [.slice none 0 0] := ⟨by kernel_rfl⟩
instance : TZV Tryz.prog 24 (.slice none 0 0) := ⟨by kernel_rfl⟩
instance : TS Tryz.prog 24 := ⟨by kernel_rfl⟩
instance : TL Tryz.prog 24 75 5 64 [.string ⟨#[]⟩, .int .i64 0, .int .i64 0, .int .u64 0, .slice none 0 0] := ⟨by kernel_rfl, by kernel_rfl, by kernel_rfl, by decide⟩
instance : TZ Tryz.prog 25 [.slice none 0 0] := ⟨by kernel_rfl⟩
instance : TZV Tryz.prog 25 (.slice none 0 0) := ⟨by kernel_rfl⟩
instance : TS Tryz.prog 25 := ⟨by kernel_rfl⟩
instance : TL Tryz.prog 25 77 3 24 [.int .i64 0, .int .i64 0, .int .i64 0] := ⟨by kernel_rfl, by kernel_rfl, by kernel_rfl, by decide⟩
instance : TZ Tryz.prog 26 [.slice none 0 0] := ⟨by kernel_rfl⟩
instance : TZV Tryz.prog 26 (.slice none 0 0) := ⟨by kernel_rfl⟩
instance : TS Tryz.prog 26 := ⟨by kernel_rfl⟩
instance : TL Tryz.prog 26 79 5 48 [.string ⟨#[]⟩, .int .u64 0, .int .u64 0, .int .i64 0, .int .i64 0] := ⟨by kernel_rfl, by kernel_rfl, by kernel_rfl, by decide⟩
instance : TZ Tryz.prog 27 [.slice none 0 0] := ⟨by kernel_rfl⟩
instance : TZV Tryz.prog 27 (.slice none 0 0) := ⟨by kernel_rfl⟩
instance : TS Tryz.prog 27 := ⟨by kernel_rfl⟩
instance : TL Tryz.prog 27 81 5 48 [.string ⟨#[]⟩, .int .i64 0, .int .i64 0, .int .u64 0, .int .u64 0] := ⟨by kernel_rfl, by kernel_rfl, by kernel_rfl, by decide⟩
instance : TZ Tryz.prog 28 [.string ⟨#[]⟩, .slice none 0 0, .slice none 0 0, .slice none 0 0, .slice none 0 0, .slice none 0 0] := ⟨by kernel_rfl⟩
instance : TZV Tryz.prog 28 (.agg #[.string ⟨#[]⟩, .slice none 0 0, .slice none 0 0, .slice none 0 0, .slice none 0 0, .slice none 0 0]) := ⟨by kernel_rfl⟩
instance : TA Tryz.prog 28 6 := ⟨by kernel_rfl⟩
instance : TB Tryz.prog 28 [(0, 1), (1, 1), (2, 1), (3, 1), (4, 1), (5, 1)] [.string ⟨#[]⟩, .slice none 0 0, .slice none 0 0, .slice none 0 0, .slice none 0 0, .slice none 0 0] := ⟨by kernel_rfl, by kernel_rfl⟩
instance : TF Tryz.prog 28 0 0 := ⟨by kernel_rfl⟩
instance : TF Tryz.prog 28 1 1 := ⟨by kernel_rfl⟩
instance : TF Tryz.prog 28 2 2 := ⟨by kernel_rfl⟩
instance : TF Tryz.prog 28 3 3 := ⟨by kernel_rfl⟩
instance : TF Tryz.prog 28 4 4 := ⟨by kernel_rfl⟩
instance : TF Tryz.prog 28 5 5 := ⟨by kernel_rfl⟩
instance : TZ Tryz.prog 29 [.string ⟨#[]⟩, .slice none 0 0, .slice none 0 0, .slice none 0 0, .slice none 0 0, .slice none 0 0] := ⟨by kernel_rfl⟩
instance : TZV Tryz.prog 29 (.agg #[.string ⟨#[]⟩, .slice none 0 0, .slice none 0 0, .slice none 0 0, .slice none 0 0, .slice none 0 0]) := ⟨by kernel_rfl⟩
instance : TA Tryz.prog 29 6 := ⟨by kernel_rfl⟩
instance : TB Tryz.prog 29 [(0, 1), (1, 1), (2, 1), (3, 1), (4, 1), (5, 1)] [.string ⟨#[]⟩, .slice none 0 0, .slice none 0 0, .slice none 0 0, .slice none 0 0, .slice none 0 0] := ⟨by kernel_rfl, by kernel_rfl⟩
instance : TF Tryz.prog 29 0 0 := ⟨by kernel_rfl⟩
instance : TF Tryz.prog 29 1 1 := ⟨by kernel_rfl⟩
instance : TF Tryz.prog 29 2 2 := ⟨by kernel_rfl⟩
instance : TF Tryz.prog 29 3 3 := ⟨by kernel_rfl⟩
instance : TF Tryz.prog 29 4 4 := ⟨by kernel_rfl⟩
instance : TF Tryz.prog 29 5 5 := ⟨by kernel_rfl⟩
instance : TZ Tryz.prog 30 [.int .i64 0, .int .i64 0] := ⟨by kernel_rfl⟩
instance : TZV Tryz.prog 30 (.agg #[.int .i64 0, .int .i64 0]) := ⟨by kernel_rfl⟩
instance : TA Tryz.prog 30 2 := ⟨by kernel_rfl⟩
instance : TEq Tryz.prog 30 [5, 5] := ⟨by kernel_rfl, by kernel_rfl, by kernel_rfl⟩
instance : TB Tryz.prog 30 [(0, 1), (1, 1)] [.int .i64 0, .int .i64 0] := ⟨by kernel_rfl, by kernel_rfl⟩
instance : TF Tryz.prog 30 0 0 := ⟨by kernel_rfl⟩
instance : TF Tryz.prog 30 1 1 := ⟨by kernel_rfl⟩
instance : TZ Tryz.prog 31 [.int .i64 0, .int .i64 0] := ⟨by kernel_rfl⟩
instance : TZV Tryz.prog 31 (.agg #[.int .i64 0, .int .i64 0]) := ⟨by kernel_rfl⟩
instance : TA Tryz.prog 31 2 := ⟨by kernel_rfl⟩
instance : TEq Tryz.prog 31 [5, 5] := ⟨by kernel_rfl, by kernel_rfl, by kernel_rfl⟩
instance : TB Tryz.prog 31 [(0, 1), (1, 1)] [.int .i64 0, .int .i64 0] := ⟨by kernel_rfl, by kernel_rfl⟩
instance : TF Tryz.prog 31 0 0 := ⟨by kernel_rfl⟩
instance : TF Tryz.prog 31 1 1 := ⟨by kernel_rfl⟩
instance : TZ Tryz.prog 32 [.int .i64 0] := ⟨by kernel_rfl⟩
instance : TZV Tryz.prog 32 (.int .i64 0) := ⟨by kernel_rfl⟩
instance : TS Tryz.prog 32 := ⟨by kernel_rfl⟩
instance : TInt Tryz.prog 32 .i64 := ⟨by kernel_rfl⟩
instance : TZ Tryz.prog 34 [.nilFunc] := ⟨by kernel_rfl⟩
instance : TZV Tryz.prog 34 (.nilFunc) := ⟨by kernel_rfl⟩
instance : TS Tryz.prog 34 := ⟨by kernel_rfl⟩
instance : TZ Tryz.prog 35 [.nilFunc] := ⟨by kernel_rfl⟩
instance : TZV Tryz.prog 35 (.nilFunc) := ⟨by kernel_rfl⟩
instance : TS Tryz.prog 35 := ⟨by kernel_rfl⟩
instance : TZ Tryz.prog 36 [.nilFunc] := ⟨by kernel_rfl⟩
instance : TZV Tryz.prog 36 (.nilFunc) := ⟨by kernel_rfl⟩
instance : TS Tryz.prog 36 := ⟨by kernel_rfl⟩
instance : TZ Tryz.prog 37 [.slice none 0 0] := ⟨by kernel_rfl⟩
instance : TZV Tryz.prog 37 (.slice none 0 0) := ⟨by kernel_rfl⟩
instance : TS Tryz.prog 37 := ⟨by kernel_rfl⟩
instance : TL Tryz.prog 37 3 1 8 [.int .i64 0] := ⟨by kernel_rfl, by kernel_rfl, by kernel_rfl, by decide⟩
instance : TZ Tryz.prog 38 [.nilFunc] := ⟨by kernel_rfl⟩
instance : TZV Tryz.prog 38 (.nilFunc) := ⟨by kernel_rfl⟩
instance : TS Tryz.prog 38 := ⟨by kernel_rfl⟩
instance : TZ Tryz.prog 39 [.nilFunc] := ⟨by kernel_rfl⟩
instance : TZV Tryz.prog 39 (.nilFunc) := ⟨by kernel_rfl⟩
instance : TS Tryz.prog 39 := ⟨by kernel_rfl⟩
instance : TZ Tryz.prog 40 [.nilFunc] := ⟨by kernel_rfl⟩
instance : TZV Tryz.prog 40 (.nilFunc) := ⟨by kernel_rfl⟩
instance : TS Tryz.prog 40 := ⟨by kernel_rfl⟩
instance : TZ Tryz.prog 41 [.nilFunc] := ⟨by kernel_rfl⟩
instance : TZV Tryz.prog 41 (.nilFunc) := ⟨by kernel_rfl⟩
instance : TS Tryz.prog 41 := ⟨by kernel_rfl⟩
instance : TZ Tryz.prog 42 [.nilFunc] := ⟨by kernel_rfl⟩
instance : TZV Tryz.prog 42 (.nilFunc) := ⟨by kernel_rfl⟩
instance : TS Tryz.prog 42 := ⟨by kernel_rfl⟩
instance : TZ Tryz.prog 43 [.slice none 0 0] := ⟨by kernel_rfl⟩
instance : TZV Tryz.prog 43 (.slice none 0 0) := ⟨by kernel_rfl⟩
instance : TS Tryz.prog 43 := ⟨by kernel_rfl⟩
instance : TL Tryz.prog 43 63 5 48 [.int .i64 0, .string ⟨#[]⟩, .int .u64 0, .int .i64 0, .int .i64 0] := ⟨by kernel_rfl, by kernel_rfl, by kernel_rfl, by decide⟩
instance : TZ Tryz.prog 45 [.nilFunc] := ⟨by kernel_rfl⟩
instance : TZV Tryz.prog 45 (.nilFunc) := ⟨by kernel_rfl⟩
instance : TS Tryz.prog 45 := ⟨by kernel_rfl⟩
instance : TZ Tryz.prog 46 [.int .i64 0, .int .i64 0, .int .i64 0] := ⟨by kernel_rfl⟩
instance : TZV Tryz.prog 46 (.agg #[.int .i64 0, .int .i64 0, .int .i64 0]) := ⟨by kernel_rfl⟩
instance : TA Tryz.prog 46 3 := ⟨by kernel_rfl⟩
instance : TEq Tryz.prog 46 [5, 5, 5] := ⟨by kernel_rfl, by kernel_rfl, by kernel_rfl⟩
instance : TB Tryz.prog 46 [(0, 2), (2, 1)] [.int .i64 0, .int .i64 0, .int .i64 0] := ⟨by kernel_rfl, by kernel_rfl⟩
instance : TF Tryz.prog 46 0 0 := ⟨by kernel_rfl⟩
instance : TF Tryz.prog 46 1 2 := ⟨by kernel_rfl⟩
instance : TZ Tryz.prog 47 [.int .i64 0, .int .i64 0, .int .i64 0] := ⟨by kernel_rfl⟩
instance : TZV Tryz.prog 47 (.agg #[.int .i64 0, .int .i64 0, .int .i64 0]) := ⟨by kernel_rfl⟩
instance : TA Tryz.prog 47 3 := ⟨by kernel_rfl⟩
instance : TEq Tryz.prog 47 [5, 5, 5] := ⟨by kernel_rfl, by kernel_rfl, by kernel_rfl⟩
instance : TB Tryz.prog 47 [(0, 2), (2, 1)] [.int .i64 0, .int .i64 0, .int .i64 0] := ⟨by kernel_rfl, by kernel_rfl⟩
instance : TF Tryz.prog 47 0 0 := ⟨by kernel_rfl⟩
instance : TF Tryz.prog 47 1 2 := ⟨by kernel_rfl⟩
instance : TZ Tryz.prog 49 [.pointer none] := ⟨by kernel_rfl⟩
instance : TZV Tryz.prog 49 (.pointer none) := ⟨by kernel_rfl⟩
instance : TS Tryz.prog 49 := ⟨by kernel_rfl⟩
instance : TPtr Tryz.prog 49 52 := ⟨by kernel_rfl⟩
instance : TZ Tryz.prog 50 [.nilFunc] := ⟨by kernel_rfl⟩
instance : TZV Tryz.prog 50 (.nilFunc) := ⟨by kernel_rfl⟩
instance : TS Tryz.prog 50 := ⟨by kernel_rfl⟩
instance : TZ Tryz.prog 51 [.slice none 0 0, .int .i64 0, .int .i64 0, .int .i64 0] := ⟨by kernel_rfl⟩
instance : TZV Tryz.prog 51 (.agg #[.slice none 0 0, .int .i64 0, .int .i64 0, .int .i64 0]) := ⟨by kernel_rfl⟩
instance : TA Tryz.prog 51 4 := ⟨by kernel_rfl⟩
instance : TB Tryz.prog 51 [(0, 1), (1, 1), (2, 2)] [.slice none 0 0, .int .i64 0, .int .i64 0, .int .i64 0] := ⟨by kernel_rfl, by kernel_rfl⟩
instance : TF Tryz.prog 51 0 0 := ⟨by kernel_rfl⟩
instance : TF Tryz.prog 51 1 1 := ⟨by kernel_rfl⟩
instance : TF Tryz.prog 51 2 2 := ⟨by kernel_rfl⟩
instance : TZ Tryz.prog 52 [.slice none 0 0, .int .i64 0, .int .i64 0, .int .i64 0] := ⟨by kernel_rfl⟩
instance : TZV Tryz.prog 52 (.agg #[.slice none 0 0, .int .i64 0, .int .i64 0, .int .i64 0]) := ⟨by kernel_rfl⟩
instance : TA Tryz.prog 52 4 := ⟨by kernel_rfl⟩
instance : TB Tryz.prog 52 [(0, 1), (1, 1), (2, 2)] [.slice none 0 0, .int .i64 0, .int .i64 0, .int .i64 0] := ⟨by kernel_rfl, by kernel_rfl⟩
instance : TF Tryz.prog 52 0 0 := ⟨by kernel_rfl⟩
instance : TF Tryz.prog 52 1 1 := ⟨by kernel_rfl⟩
instance : TF Tryz.prog 52 2 2 := ⟨by kernel_rfl⟩
instance : TZ Tryz.prog 53 [.nilFunc] := ⟨by kernel_rfl⟩
instance : TZV Tryz.prog 53 (.nilFunc) := ⟨by kernel_rfl⟩
instance : TS Tryz.prog 53 := ⟨by kernel_rfl⟩
instance : TZ Tryz.prog 54 [.pointer none] := ⟨by kernel_rfl⟩
instance : TZV Tryz.prog 54 (.pointer none) := ⟨by kernel_rfl⟩
instance : TS Tryz.prog 54 := ⟨by kernel_rfl⟩
instance : TPtr Tryz.prog 54 60 := ⟨by kernel_rfl⟩
instance : TZ Tryz.prog 55 [.nilFunc] := ⟨by kernel_rfl⟩
instance : TZV Tryz.prog 55 (.nilFunc) := ⟨by kernel_rfl⟩
instance : TS Tryz.prog 55 := ⟨by kernel_rfl⟩
instance : TZ Tryz.prog 56 [.nilFunc] := ⟨by kernel_rfl⟩
instance : TZV Tryz.prog 56 (.nilFunc) := ⟨by kernel_rfl⟩
instance : TS Tryz.prog 56 := ⟨by kernel_rfl⟩
instance : TZ Tryz.prog 57 [.nilFunc] := ⟨by kernel_rfl⟩
instance : TZV Tryz.prog 57 (.nilFunc) := ⟨by kernel_rfl⟩
instance : TS Tryz.prog 57 := ⟨by kernel_rfl⟩
instance : TZ Tryz.prog 58 [.nilFunc] := ⟨by kernel_rfl⟩
instance : TZV Tryz.prog 58 (.nilFunc) := ⟨by kernel_rfl⟩
instance : TS Tryz.prog 58 := ⟨by kernel_rfl⟩
instance : TZ Tryz.prog 59 [.string ⟨#[]⟩, .slice none 0 0, .int .i64 0, .int .i64 0, .int .i64 0, .int .i64 0] := ⟨by kernel_rfl⟩
instance : TZV Tryz.prog 59 (.agg #[.string ⟨#[]⟩, .slice none 0 0, .int .i64 0, .int .i64 0, .int .i64 0, .int .i64 0]) := ⟨by kernel_rfl⟩
instance : TA Tryz.prog 59 6 := ⟨by kernel_rfl⟩
instance : TB Tryz.prog 59 [(0, 1), (1, 1), (2, 1), (3, 2), (5, 1)] [.string ⟨#[]⟩, .slice none 0 0, .int .i64 0, .int .i64 0, .int .i64 0, .int .i64 0] := ⟨by kernel_rfl, by kernel_rfl⟩
instance : TF Tryz.prog 59 0 0 := ⟨by kernel_rfl⟩
instance : TF Tryz.prog 59 1 1 := ⟨by kernel_rfl⟩
instance : TF Tryz.prog 59 2 2 := ⟨by kernel_rfl⟩
instance : TF Tryz.prog 59 3 3 := ⟨by kernel_rfl⟩
instance : TF Tryz.prog 59 4 5 := ⟨by kernel_rfl⟩
instance : TZ Tryz.prog 60 [.string ⟨#[]⟩, .slice none 0 0, .int .i64 0, .int .i64 0, .int .i64 0, .int .i64 0] := ⟨by kernel_rfl⟩
instance : TZV Tryz.prog 60 (.agg #[.string ⟨#[]⟩, .slice none 0 0, .int .i64 0, .int .i64 0, .int .i64 0, .int .i64 0]) := ⟨by kernel_rfl⟩
instance : TA Tryz.prog 60 6 := ⟨by kernel_rfl⟩
instance : TB Tryz.prog 60 [(0, 1), (1, 1), (2, 1), (3, 2), (5, 1)] [.string ⟨#[]⟩, .slice none 0 0, .int .i64 0, .int .i64 0, .int .i64 0, .int .i64 0] := ⟨by kernel_rfl, by kernel_rfl⟩
instance : TF Tryz.prog 60 0 0 := ⟨by kernel_rfl⟩
instance : TF Tryz.prog 60 1 1 := ⟨by kernel_rfl⟩
instance : TF Tryz.prog 60 2 2 := ⟨by kernel_rfl⟩
instance : TF Tryz.prog 60 3 3 := ⟨by kernel_rfl⟩
instance : TF Tryz.prog 60 4 5 := ⟨by kernel_rfl⟩
instance : TZ Tryz.prog 61 [.int .u64 0] := ⟨by kernel_rfl⟩
instance : TZV Tryz.prog 61 (.int .u64 0) := ⟨by kernel_rfl⟩
instance : TS Tryz.prog 61 := ⟨by kernel_rfl⟩
instance : TInt Tryz.prog 61 .u64 := ⟨by kernel_rfl⟩
instance : TZ Tryz.prog 62 [.int .i64 0, .string ⟨#[]⟩, .int .u64 0, .int .i64 0, .int .i64 0] := ⟨by kernel_rfl⟩
instance : TZV Tryz.prog 62 (.agg #[.int .i64 0, .string ⟨#[]⟩, .int .u64 0, .int .i64 0, .int .i64 0]) := ⟨by kernel_rfl⟩
instance : TA Tryz.prog 62 5 := ⟨by kernel_rfl⟩
instance : TEq Tryz.prog 62 [5, 1, 9, 5, 5] := ⟨by kernel_rfl, by kernel_rfl, by kernel_rfl⟩
instance : TB Tryz.prog 62 [(0, 1), (1, 1), (2, 1), (3, 2)] [.int .i64 0, .string ⟨#[]⟩, .int .u64 0, .int .i64 0, .int .i64 0] := ⟨by kernel_rfl, by kernel_rfl⟩
instance : TF Tryz.prog 62 0 0 := ⟨by kernel_rfl⟩
instance : TF Tryz.prog 62 1 1 := ⟨by kernel_rfl⟩
instance : TF Tryz.prog 62 2 2 := ⟨by kernel_rfl⟩
instance : TF Tryz.prog 62 3 3 := ⟨by kernel_rfl⟩
instance : TZ Tryz.prog 63 [.int .i64 0, .string ⟨#[]⟩, .int .u64 0, .int .i64 0, .int .i64 0] := ⟨by kernel_rfl⟩
instance : TZV Tryz.prog 63 (.agg #[.int .i64 0, .string ⟨#[]⟩, .int .u64 0, .int .i64 0, .int .i64 0]) := ⟨by kernel_rfl⟩
instance : TA Tryz.prog 63 5 := ⟨by kernel_rfl⟩
instance : TEq Tryz.prog 63 [5, 1, 9, 5, 5] := ⟨by kernel_rfl, by kernel_rfl, by kernel_rfl⟩
instance : TB Tryz.prog 63 [(0, 1), (1, 1), (2, 1), (3, 2)] [.int .i64 0, .string ⟨#[]⟩, .int .u64 0, .int .i64 0, .int .i64 0] := ⟨by kernel_rfl, by kernel_rfl⟩
instance : TF Tryz.prog 63 0 0 := ⟨by kernel_rfl⟩
instance : TF Tryz.prog 63 1 1 := ⟨by kernel_rfl⟩
instance : TF Tryz.prog 63 2 2 := ⟨by kernel_rfl⟩
instance : TF Tryz.prog 63 3 3 := ⟨by kernel_rfl⟩
instance : TZ Tryz.prog 64 [.nilFunc] := ⟨by kernel_rfl⟩
instance : TZV Tryz.prog 64 (.nilFunc) := ⟨by kernel_rfl⟩
instance : TS Tryz.prog 64 := ⟨by kernel_rfl⟩
instance : TZ Tryz.prog 65 [.nilFunc] := ⟨by kernel_rfl⟩
instance : TZV Tryz.prog 65 (.nilFunc) := ⟨by kernel_rfl⟩
instance : TS Tryz.prog 65 := ⟨by kernel_rfl⟩
instance : TZ Tryz.prog 66 [.slice none 0 0] := ⟨by kernel_rfl⟩
instance : TZV Tryz.prog 66 (.slice none 0 0) := ⟨by kernel_rfl⟩
instance : TS Tryz.prog 66 := ⟨by kernel_rfl⟩
instance : TL Tryz.prog 66 70 1 24 [.slice none 0 0] := ⟨by kernel_rfl, by kernel_rfl, by kernel_rfl, by decide⟩
instance : TZ Tryz.prog 67 [.nilFunc] := ⟨by kernel_rfl⟩
instance : TZV Tryz.prog 67 (.nilFunc) := ⟨by kernel_rfl⟩
instance : TS Tryz.prog 67 := ⟨by kernel_rfl⟩
instance : TZ Tryz.prog 68 [.slice none 0 0] := ⟨by kernel_rfl⟩
instance : TZV Tryz.prog 68 (.slice none 0 0) := ⟨by kernel_rfl⟩
instance : TS Tryz.prog 68 := ⟨by kernel_rfl⟩
instance : TL Tryz.prog 68 9 1 16 [.string ⟨#[]⟩] := ⟨by kernel_rfl, by kernel_rfl, by kernel_rfl, by decide⟩
instance : TZ Tryz.prog 69 [.nilFunc] := ⟨by kernel_rfl⟩
instance : TZV Tryz.prog 69 (.nilFunc) := ⟨by kernel_rfl⟩
instance : TS Tryz.prog 69 := ⟨by kernel_rfl⟩
instance : TZ Tryz.prog 70 [.slice none 0 0] := ⟨by kernel_rfl⟩
instance : TZV Tryz.prog 70 (.slice none 0 0) := ⟨by kernel_rfl⟩
instance : TS Tryz.prog 70 := ⟨by kernel_rfl⟩
instance : TL Tryz.prog 70 61 1 8 [.int .u64 0] := ⟨by kernel_rfl, by kernel_rfl, by kernel_rfl, by decide⟩
instance : TZ Tryz.prog 71 [.int .i64 0, .int .i64 0, .int .i64 0, .int .i64 0] := ⟨by kernel_rfl⟩
instance : TZV Tryz.prog 71 (.agg #[.int .i64 0, .int .i64 0, .int .i64 0, .int .i64 0]) := ⟨by kernel_rfl⟩
instance : TA Tryz.prog 71 4 := ⟨by kernel_rfl⟩
instance : TEq Tryz.prog 71 [5, 5, 5, 5] := ⟨by kernel_rfl, by kernel_rfl, by kernel_rfl⟩
instance : TB Tryz.prog 71 [(0, 1), (1, 1), (2, 1), (3, 1)] [.int .i64 0, .int .i64 0, .int .i64 0, .int .i64 0] := ⟨by kernel_rfl, by kernel_rfl⟩
instance : TF Tryz.prog 71 0 0 := ⟨by kernel_rfl⟩
instance : TF Tryz.prog 71 1 1 := ⟨by kernel_rfl⟩
instance : TF Tryz.prog 71 2 2 := ⟨by kernel_rfl⟩
instance : TF Tryz.prog 71 3 3 := ⟨by kernel_rfl⟩
instance : TZ Tryz.prog 72 [.int .i64 0, .int .i64 0, .int .i64 0, .int .i64 0] := ⟨by kernel_rfl⟩
instance : TZV Tryz.prog 72 (.agg #[.int .i64 0, .int .i64 0, .int .i64 0, .int .i64 0]) := ⟨by kernel_rfl⟩
instance : TA Tryz.prog 72 4 := ⟨by kernel_rfl⟩
instance : TEq Tryz.prog 72 [5, 5, 5, 5] := ⟨by kernel_rfl, by kernel_rfl, by kernel_rfl⟩
instance : TB Tryz.prog 72 [(0, 1), (1, 1), (2, 1), (3, 1)] [.int .i64 0, .int .i64 0, .int .i64 0, .int .i64 0] := ⟨by kernel_rfl, by kernel_rfl⟩
instance : TF Tryz.prog 72 0 0 := ⟨by kernel_rfl⟩
instance : TF Tryz.prog 72 1 1 := ⟨by kernel_rfl⟩
instance : TF Tryz.prog 72 2 2 := ⟨by kernel_rfl⟩
instance : TF Tryz.prog 72 3 3 := ⟨by kernel_rfl⟩
instance : TZ Tryz.prog 73 [.nilFunc] := ⟨by kernel_rfl⟩
instance : TZV Tryz.prog 73 (.nilFunc) := ⟨by kernel_rfl⟩
instance : TS Tryz.prog 73 := ⟨by kernel_rfl⟩
instance : TZ Tryz.prog 74 [.string ⟨#[]⟩, .int .i64 0, .int .i64 0, .int .u64 0, .slice none 0 0] := ⟨by kernel_rfl⟩
instance : TZV Tryz.prog 74 (.agg #[.string ⟨#[]⟩, .int .i64 0, .int .i64 0, .int .u64 0, .slice none 0 0]) := ⟨by kernel_rfl⟩
instance : TA Tryz.prog 74 5 := ⟨by kernel_rfl⟩
instance : TB Tryz.prog 74 [(0, 1), (1, 1), (2, 1), (3, 1), (4, 1)] [.string ⟨#[]⟩, .int .i64 0, .int .i64 0, .int .u64 0, .slice none 0 0] := ⟨by kernel_rfl, by kernel_rfl⟩
instance : TF Tryz.prog 74 0 0 := ⟨by kernel_rfl⟩
instance : TF Tryz.prog 74 1 1 := ⟨by kernel_rfl⟩
instance : TF Tryz.prog 74 2 2 := ⟨by kernel_rfl⟩
instance : TF Tryz.prog 74 3 3 := ⟨by kernel_rfl⟩
instance : TF Tryz.prog 74 4 4 := ⟨by kernel_rfl⟩
instance : TZ Tryz.prog 75 [.string ⟨#[]⟩, .int .i64 0, .int .i64 0, .int .u64 0, .slice none 0 0] := ⟨by kernel_rfl⟩
instance : TZV Tryz.prog 75 (.agg #[.string ⟨#[]⟩, .int .i64 0, .int .i64 0, .int .u64 0, .slice none 0 0]) := ⟨by kernel_rfl⟩
instance : TA Tryz.prog 75 5 := ⟨by kernel_rfl⟩
instance : TB Tryz.prog 75 [(0, 1), (1, 1), (2, 1), (3, 1), (4, 1)] [.string ⟨#[]⟩, .int .i64 0, .int .i64 0, .int .u64 0, .slice none 0 0] := ⟨by kernel_rfl, by kernel_rfl⟩
instance : TF Tryz.prog 75 0 0 := ⟨by kernel_rfl⟩
instance : TF Tryz.prog 75 1 1 := ⟨by kernel_rfl⟩
instance : TF Tryz.prog 75 2 2 := ⟨by kernel_rfl⟩
instance : TF Tryz.prog 75 3 3 := ⟨by kernel_rfl⟩
instance : TF Tryz.prog 75 4 4 := ⟨by kernel_rfl⟩
instance : TZ Tryz.prog 76 [.int .i64 0, .int .i64 0, .int .i64 0] := ⟨by kernel_rfl⟩
instance : TZV Tryz.prog 76 (.agg #[.int .i64 0, .int .i64 0, .int .i64 0]) := ⟨by kernel_rfl⟩
instance : TA Tryz.prog 76 3 := ⟨by kernel_rfl⟩
instance : TEq Tryz.prog 76 [5, 5, 5] := ⟨by kernel_rfl, by kernel_rfl, by kernel_rfl⟩
instance : TB Tryz.prog 76 [(0, 1), (1, 1), (2, 1)] [.int .i64 0, .int .i64 0, .int .i64 0] := ⟨by kernel_rfl, by kernel_rfl⟩
instance : TF Tryz.prog 76 0 0 := ⟨by kernel_rfl⟩
instance : TF Tryz.prog 76 1 1 := ⟨by kernel_rfl⟩
instance : TF Tryz.prog 76 2 2 := ⟨by kernel_rfl⟩
instance : TZ Tryz.prog 77 [.int .i64 0, .int .i64 0, .int .i64 0] := ⟨by kernel_rfl⟩
instance : TZV Tryz.prog 77 (.agg #[.int .i64 0, .int .i64 0, .int .i64 0]) := ⟨by kernel_rfl⟩
instance : TA Tryz.prog 77 3 := ⟨by kernel_rfl⟩
instance : TEq Tryz.prog 77 [5, 5, 5] := ⟨by kernel_rfl, by kernel_rfl, by kernel_rfl⟩
instance : TB Tryz.prog 77 [(0, 1), (1, 1), (2, 1)] [.int .i64 0, .int .i64 0, .int .i64 0] := ⟨by kernel_rfl, by kernel_rfl⟩
instance : TF Tryz.prog 77 0 0 := ⟨by kernel_rfl⟩
instance : TF Tryz.prog 77 1 1 := ⟨by kernel_rfl⟩
instance : TF Tryz.prog 77 2 2 := ⟨by kernel_rfl⟩
instance : TZ Tryz.prog 78 [.string ⟨#[]⟩, .int .u64 0, .int .u64 0, .int .i64 0, .int .i64 0] := ⟨by kernel_rfl⟩
instance : TZV Tryz.prog 78 (.agg #[.string ⟨#[]⟩, .int .u64 0, .int .u64 0, .int .i64 0, .int .i64 0]) := ⟨by kernel_rfl⟩
instance : TA Tryz.prog 78 5 := ⟨by kernel_rfl⟩
instance : TEq Tryz.prog 78 [1, 9, 9, 5, 5] := ⟨by kernel_rfl, by kernel_rfl, by kernel_rfl⟩
instance : TB Tryz.prog 78 [(0, 1), (1, 1), (2, 1), (3, 1), (4, 1)] [.string ⟨#[]⟩, .int .u64 0, .int .u64 0, .int .i64 0, .int .i64 0] := ⟨by kernel_rfl, by kernel_rfl⟩
instance : TF Tryz.prog 78 0 0 := ⟨by kernel_rfl⟩
instance : TF Tryz.prog 78 1 1 := ⟨by kernel_rfl⟩
instance : TF Tryz.prog 78 2 2 := ⟨by kernel_rfl⟩
instance : TF Tryz.prog 78 3 3 := ⟨by kernel_rfl⟩
instance : TF Tryz.prog 78 4 4 := ⟨by kernel_rfl⟩
instance : TZ Tryz.prog 79 [.string ⟨#[]⟩, .int .u64 0, .int .u64 0, .int .i64 0, .int .i64 0] := ⟨by kernel_rfl⟩
instance : TZV Tryz.prog 79 (.agg #[.string ⟨#[]⟩, .int .u64 0, .int .u64 0, .int .i64 0, .int .i64 0]) := ⟨by kernel_rfl⟩
instance : TA Tryz.prog 79 5 := ⟨by kernel_rfl⟩
instance : TEq Tryz.prog 79 [1, 9, 9, 5, 5] := ⟨by kernel_rfl, by kernel_rfl, by kernel_rfl⟩
instance : TB Tryz.prog 79 [(0, 1), (1, 1), (2, 1), (3, 1), (4, 1)] [.string ⟨#[]⟩, .int .u64 0, .int .u64 0, .int .i64 0, .int .i64 0] := ⟨by kernel_rfl, by kernel_rfl⟩
instance : TF Tryz.prog 79 0 0 := ⟨by kernel_rfl⟩
instance : TF Tryz.prog 79 1 1 := ⟨by kernel_rfl⟩
instance : TF Tryz.prog 79 2 2 := ⟨by kernel_rfl⟩
instance : TF Tryz.prog 79 3 3 := ⟨by kernel_rfl⟩
instance : TF Tryz.prog 79 4 4 := ⟨by kernel_rfl⟩
instance : TZ Tryz.prog 80 [.string ⟨#[]⟩, .int .i64 0, .int .i64 0, .int .u64 0, .int .u64 0] := ⟨by kernel_rfl⟩
instance : TZV Tryz.prog 80 (.agg #[.string ⟨#[]⟩, .int .i64 0, .int .i64 0, .int .u64 0, .int .u64 0]) := ⟨by kernel_rfl⟩
instance : TA Tryz.prog 80 5 := ⟨by kernel_rfl⟩
instance : TEq Tryz.prog 80 [1, 5, 5, 9, 9] := ⟨by kernel_rfl, by kernel_rfl, by kernel_rfl⟩
instance : TB Tryz.prog 80 [(0, 1), (1, 1), (2, 1), (3, 1), (4, 1)] [.string ⟨#[]⟩, .int .i64 0, .int .i64 0, .int .u64 0, .int .u64 0] := ⟨by kernel_rfl, by kernel_rfl⟩
instance : TF Tryz.prog 80 0 0 := ⟨by kernel_rfl⟩
instance : TF Tryz.prog 80 1 1 := ⟨by kernel_rfl⟩
instance : TF Tryz.prog 80 2 2 := ⟨by kernel_rfl⟩
instance : TF Tryz.prog 80 3 3 := ⟨by kernel_rfl⟩
instance : TF Tryz.prog 80 4 4 := ⟨by kernel_rfl⟩
instance : TZ Tryz.prog 81 [.string ⟨#[]⟩, .int .i64 0, .int .i64 0, .int .u64 0, .int .u64 0] := ⟨by kernel_rfl⟩
instance : TZV Tryz.prog 81 (.agg #[.string ⟨#[]⟩, .int .i64 0, .int .i64 0, .int .u64 0, .int .u64 0]) := ⟨by kernel_rfl⟩
instance : TA Tryz.prog 81 5 := ⟨by kernel_rfl⟩
instance : TEq Tryz.prog 81 [1, 5, 5, 9, 9] := ⟨by kernel_rfl, by kernel_rfl, by kernel_rfl⟩
instance : TB Tryz.prog 81 [(0, 1), (1, 1), (2, 1), (3, 1), (4, 1)] [.string ⟨#[]⟩, .int .i64 0, .int .i64 0, .int .u64 0, .int .u64 0] := ⟨by kernel_rfl, by kernel_rfl⟩
instance : TF Tryz.prog 81 0 0 := ⟨by kernel_rfl⟩
instance : TF Tryz.prog 81 1 1 := ⟨by kernel_rfl⟩
instance : TF Tryz.prog 81 2 2 := ⟨by kernel_rfl⟩
instance : TF Tryz.prog 81 3 3 := ⟨by kernel_rfl⟩
instance : TF Tryz.prog 81 4 4 := ⟨by kernel_rfl⟩
instance : TZ Tryz.prog 82 [.nilFunc] := ⟨by kernel_rfl⟩
instance : TZV Tryz.prog 82 (.nilFunc) := ⟨by kernel_rfl⟩
instance : TS Tryz.prog 82 := ⟨by kernel_rfl⟩
instance : TZ Tryz.prog 83 [.pointer none] := ⟨by kernel_rfl⟩
instance : TZV Tryz.prog 83 (.pointer none) := ⟨by kernel_rfl⟩
instance : TS Tryz.prog 83 := ⟨by kernel_rfl⟩
instance : TPtr Tryz.prog 83 85 := ⟨by kernel_rfl⟩
instance : TZ Tryz.prog 84 [.slice none 0 0, .int .i64 0] := ⟨by kernel_rfl⟩
instance : TZV Tryz.prog 84 (.agg #[.slice none 0 0, .int .i64 0]) := ⟨by kernel_rfl⟩
instance : TA Tryz.prog 84 2 := ⟨by kernel_rfl⟩
instance : TB Tryz.prog 84 [(0, 1), (1, 1)] [.slice none 0 0, .int .i64 0] := ⟨by kernel_rfl, by kernel_rfl⟩
instance : TF Tryz.prog 84 0 0 := ⟨by kernel_rfl⟩
instance : TF Tryz.prog 84 1 1 := ⟨by kernel_rfl⟩
instance : TZ Tryz.prog 85 [.slice none 0 0, .int .i64 0] := ⟨by kernel_rfl⟩
instance : TZV Tryz.prog 85 (.agg #[.slice none 0 0, .int .i64 0]) := ⟨by kernel_rfl⟩
instance : TA Tryz.prog 85 2 := ⟨by kernel_rfl⟩
instance : TB Tryz.prog 85 [(0, 1), (1, 1)] [.slice none 0 0, .int .i64 0] := ⟨by kernel_rfl, by kernel_rfl⟩
instance : TF Tryz.prog 85 0 0 := ⟨by kernel_rfl⟩
instance : TF Tryz.prog 85 1 1 := ⟨by kernel_rfl⟩
instance : TZ Tryz.prog 86 [.int .i64 0, .int .i64 0, .int .i64 0, .int .i64 0, .int .i64 0, .int .i64 0] := ⟨by kernel_rfl⟩
instance : TZV Tryz.prog 86 (.agg #[.int .i64 0, .int .i64 0, .int .i64 0, .int .i64 0, .int .i64 0, .int .i64 0]) := ⟨by kernel_rfl⟩
instance : TA Tryz.prog 86 6 := ⟨by kernel_rfl⟩
instance : TArr Tryz.prog 86 6 3 1 := ⟨by kernel_rfl, by kernel_rfl⟩
instance : TZ Tryz.prog 87 [.nilFunc] := ⟨by kernel_rfl⟩
instance : TZV Tryz.prog 87 (.nilFunc) := ⟨by kernel_rfl⟩
instance : TS Tryz.prog 87 := ⟨by kernel_rfl⟩
instance : TZ Tryz.prog 88 [.int .u64 0] := ⟨by kernel_rfl⟩
instance : TZV Tryz.prog 88 (.int .u64 0) := ⟨by kernel_rfl⟩
instance : TS Tryz.prog 88 := ⟨by kernel_rfl⟩
instance : TInt Tryz.prog 88 .u64 := ⟨by kernel_rfl⟩
instance : TZ Tryz.prog 89 [.nilFunc] := ⟨by kernel_rfl⟩
instance : TZV Tryz.prog 89 (.nilFunc) := ⟨by kernel_rfl⟩
instance : TS Tryz.prog 89 := ⟨by kernel_rfl⟩
instance : TZ Tryz.prog 90 [.nilFunc] := ⟨by kernel_rfl⟩
instance : TZV Tryz.prog 90 (.nilFunc) := ⟨by kernel_rfl⟩
instance : TS Tryz.prog 90 := ⟨by kernel_rfl⟩
instance : TZ Tryz.prog 91 [.nilFunc] := ⟨by kernel_rfl⟩
instance : TZV Tryz.prog 91 (.nilFunc) := ⟨by kernel_rfl⟩
instance : TS Tryz.prog 91 := ⟨by kernel_rfl⟩
instance : TZ Tryz.prog 92 [.nilFunc] := ⟨by kernel_rfl⟩
instance : TZV Tryz.prog 92 (.nilFunc) := ⟨by kernel_rfl⟩
instance : TS Tryz.prog 92 := ⟨by kernel_rfl⟩
instance : TZ Tryz.prog 93 [.nilFunc] := ⟨by kernel_rfl⟩
instance : TZV Tryz.prog 93 (.nilFunc) := ⟨by kernel_rfl⟩
instance : TS Tryz.prog 93 := ⟨by kernel_rfl⟩
instance : TZ Tryz.prog 94 [.nilFunc] := ⟨by kernel_rfl⟩
instance : TZV Tryz.prog 94 (.nilFunc) := ⟨by kernel_rfl⟩
instance : TS Tryz.prog 94 := ⟨by kernel_rfl⟩
instance : TZ Tryz.prog 95 [.nilFunc] := ⟨by kernel_rfl⟩
instance : TZV Tryz.prog 95 (.nilFunc) := ⟨by kernel_rfl⟩
instance : TS Tryz.prog 95 := ⟨by kernel_rfl⟩
instance : TZ Tryz.prog 96 [.nilFunc] := ⟨by kernel_rfl⟩
instance : TZV Tryz.prog 96 (.nilFunc) := ⟨by kernel_rfl⟩
instance : TS Tryz.prog 96 := ⟨by kernel_rfl⟩
instance : TZ Tryz.prog 97 [.nilFunc] := ⟨by kernel_rfl⟩
instance : TZV Tryz.prog 97 (.nilFunc) := ⟨by kernel_rfl⟩
instance : TS Tryz.prog 97 := ⟨by kernel_rfl⟩
instance : TZ Tryz.prog 98 [.nilFunc] := ⟨by kernel_rfl⟩
instance : TZV Tryz.prog 98 (.nilFunc) := ⟨by kernel_rfl⟩
instance : TS Tryz.prog 98 := ⟨by kernel_rfl⟩
instance : TZ Tryz.prog 99 [.nilFunc] := ⟨by kernel_rfl⟩
instance : TZV Tryz.prog 99 (.nilFunc) := ⟨by kernel_rfl⟩
instance : TS Tryz.prog 99 := ⟨by kernel_rfl⟩
instance : TZ Tryz.prog 100 [.nilFunc] := ⟨by kernel_rfl⟩
instance : TZV Tryz.prog 100 (.nilFunc) := ⟨by kernel_rfl⟩
instance : TS Tryz.prog 100 := ⟨by kernel_rfl⟩
instance : TZ Tryz.prog 101 [.nilFunc] := ⟨by kernel_rfl⟩
instance : TZV Tryz.prog 101 (.nilFunc) := ⟨by kernel_rfl⟩
instance : TS Tryz.prog 101 := ⟨by kernel_rfl⟩
instance : TZ Tryz.prog 102 [.nilFunc] := ⟨by kernel_rfl⟩
instance : TZV Tryz.prog 102 (.nilFunc) := ⟨by kernel_rfl⟩
instance : TS Tryz.prog 102 := ⟨by kernel_rfl⟩
instance : TZ Tryz.prog 103 [.nilFunc] := ⟨by kernel_rfl⟩
instance : TZV Tryz.prog 103 (.nilFunc) := ⟨by kernel_rfl⟩
instance : TS Tryz.prog 103 := ⟨by kernel_rfl⟩
instance : TZ Tryz.prog 104 [.nilFunc] := ⟨by kernel_rfl⟩
instance : TZV Tryz.prog 104 (.nilFunc) := ⟨by kernel_rfl⟩
instance : TS Tryz.prog 104 := ⟨by kernel_rfl⟩
instance : TZ Tryz.prog 105 [.nilFunc] := ⟨by kernel_rfl⟩
instance : TZV Tryz.prog 105 (.nilFunc) := ⟨by kernel_rfl⟩
instance : TS Tryz.prog 105 := ⟨by kernel_rfl⟩
instance : TZ Tryz.prog 106 [.nilFunc] := ⟨by kernel_rfl⟩
instance : TZV Tryz.prog 106 (.nilFunc) := ⟨by kernel_rfl⟩
instance : TS Tryz.prog 106 := ⟨by kernel_rfl⟩
instance : TZ Tryz.prog 107 [.nilFunc] := ⟨by kernel_rfl⟩
instance : TZV Tryz.prog 107 (.nilFunc) := ⟨by kernel_rfl⟩
instance : TS Tryz.prog 107 := ⟨by kernel_rfl⟩
instance : TZ Tryz.prog 108 [.nilFunc] := ⟨by kernel_rfl⟩
instance : TZV Tryz.prog 108 (.nilFunc) := ⟨by kernel_rfl⟩
instance : TS Tryz.prog 108 := ⟨by kernel_rfl⟩
instance : TZ Tryz.prog 109 [.nilFunc] := ⟨by kernel_rfl⟩
instance : TZV Tryz.prog 109 (.nilFunc) := ⟨by kernel_rfl⟩
instance : TS Tryz.prog 109 := ⟨by kernel_rfl⟩
instance : TZ Tryz.prog 110 [.nilFunc] := ⟨by kernel_rfl⟩
instance : TZV Tryz.prog 110 (.nilFunc) := ⟨by kernel_rfl⟩
instance : TS Tryz.prog 110 := ⟨by kernel_rfl⟩
instance : TZ Tryz.prog 111 [.nilFunc] := ⟨by kernel_rfl⟩
instance : TZV Tryz.prog 111 (.nilFunc) := ⟨by kernel_rfl⟩
instance : TS Tryz.prog 111 := ⟨by kernel_rfl⟩
instance : TZ Tryz.prog 112 [.nilFunc] := ⟨by kernel_rfl⟩
instance : TZV Tryz.prog 112 (.nilFunc) := ⟨by kernel_rfl⟩
instance : TS Tryz.prog 112 := ⟨by kernel_rfl⟩
instance : TZ Tryz.prog 113 [.nilFunc] := ⟨by kernel_rfl⟩
instance : TZV Tryz.prog 113 (.nilFunc) := ⟨by kernel_rfl⟩
instance : TS Tryz.prog 113 := ⟨by kernel_rfl⟩
instance : TZ Tryz.prog 114 [.nilFunc] := ⟨by kernel_rfl⟩
instance : TZV Tryz.prog 114 (.nilFunc) := ⟨by kernel_rfl⟩
instance : TS Tryz.prog 114 := ⟨by kernel_rfl⟩
instance : TZ Tryz.prog 115 [.nilFunc] := ⟨by kernel_rfl⟩
instance : TZV Tryz.prog 115 (.nilFunc) := ⟨by kernel_rfl⟩
instance : TS Tryz.prog 115 := ⟨by kernel_rfl⟩
instance : TZ Tryz.prog 116 [.nilFunc] := ⟨by kernel_rfl⟩
instance : TZV Tryz.prog 116 (.nilFunc) := ⟨by kernel_rfl⟩
instance : TS Tryz.prog 116 := ⟨by kernel_rfl⟩
instance : TZ Tryz.prog 118 [.nilFunc] := ⟨by kernel_rfl⟩
instance : TZV Tryz.prog 118 (.nilFunc) := ⟨by kernel_rfl⟩
instance : TS Tryz.prog 118 := ⟨by kernel_rfl⟩
instance : TZ Tryz.prog 119 [.nilFunc] := ⟨by kernel_rfl⟩
instance : TZV Tryz.prog 119 (.nilFunc) := ⟨by kernel_rfl⟩
instance : TS Tryz.prog 119 := ⟨by kernel_rfl⟩
instance : TZ Tryz.prog 120 [.nilFunc] := ⟨by kernel_rfl⟩
instance : TZV Tryz.prog 120 (.nilFunc) := ⟨by kernel_rfl⟩
instance : TS Tryz.prog 120 := ⟨by kernel_rfl⟩
instance : TZ Tryz.prog 121 [.pointer none] := ⟨by kernel_rfl⟩
instance : TZV Tryz.prog 121 (.pointer none) := ⟨by kernel_rfl⟩
instance : TS Tryz.prog 121 := ⟨by kernel_rfl⟩
instance : TPtr Tryz.prog 121 29 := ⟨by kernel_rfl⟩
instance : TZ Tryz.prog 122 [.nilFunc] := ⟨by kernel_rfl⟩
instance : TZV Tryz.prog 122 (.nilFunc) := ⟨by kernel_rfl⟩
instance : TS Tryz.prog 122 := ⟨by kernel_rfl⟩
instance : TZ Tryz.prog 123 [.nilFunc] := ⟨by kernel_rfl⟩
instance : TZV Tryz.prog 123 (.nilFunc) := ⟨by kernel_rfl⟩
instance : TS Tryz.prog 123 := ⟨by kernel_rfl⟩
instance : TZ Tryz.prog 124 [.nilFunc] := ⟨by kernel_rfl⟩
instance : TZV Tryz.prog 124 (.nilFunc) := ⟨by kernel_rfl⟩
instance : TS Tryz.prog 124 := ⟨by kernel_rfl⟩
instance : TZ Tryz.prog 125 [.nilFunc] := ⟨by kernel_rfl⟩
instance : TZV Tryz.prog 125 (.nilFunc) := ⟨by kernel_rfl⟩
instance : TS Tryz.prog 125 := ⟨by kernel_rfl⟩
instance : TZ Tryz.prog 126 [.nilFunc] := ⟨by kernel_rfl⟩
instance : TZV Tryz.prog 126 (.nilFunc) := ⟨by kernel_rfl⟩
instance : TS Tryz.prog 126 := ⟨by kernel_rfl⟩
instance : TZ Tryz.prog 127 [.nilFunc] := ⟨by kernel_rfl⟩
instance : TZV Tryz.prog 127 (.nilFunc) := ⟨by kernel_rfl⟩
instance : TS Tryz.prog 127 := ⟨by kernel_rfl⟩
instance : TZ Tryz.prog 128 [.nilFunc] := ⟨by kernel_rfl⟩
instance : TZV Tryz.prog 128 (.nilFunc) := ⟨by kernel_rfl⟩
instance : TS Tryz.prog 128 := ⟨by kernel_rfl⟩
instance : TZ Tryz.prog 129 [.nilFunc] := ⟨by kernel_rfl⟩
instance : TZV Tryz.prog 129 (.nilFunc) := ⟨by kernel_rfl⟩
instance : TS Tryz.prog 129 := ⟨by kernel_rfl⟩
instance : TZ Tryz.prog 130 [.nilFunc] := ⟨by kernel_rfl⟩
instance : TZV Tryz.prog 130 (.nilFunc) := ⟨by kernel_rfl⟩
instance : TS Tryz.prog 130 := ⟨by kernel_rfl⟩
instance : TZ Tryz.prog 131 [.nilFunc] := ⟨by kernel_rfl⟩
instance : TZV Tryz.prog 131 (.nilFunc) := ⟨by kernel_rfl⟩
instance : TS Tryz.prog 131 := ⟨by kernel_rfl⟩
instance : TZ Tryz.prog 132 [.nilFunc] := ⟨by kernel_rfl⟩
instance : TZV Tryz.prog 132 (.nilFunc) := ⟨by kernel_rfl⟩
instance : TS Tryz.prog 132 := ⟨by kernel_rfl⟩
instance : TZ Tryz.prog 133 [.nilFunc] := ⟨by kernel_rfl⟩
instance : TZV Tryz.prog 133 (.nilFunc) := ⟨by kernel_rfl⟩
instance : TS Tryz.prog 133 := ⟨by kernel_rfl⟩
instance : TZ Tryz.prog 134 [.nilFunc] := ⟨by kernel_rfl⟩
instance : TZV Tryz.prog 134 (.nilFunc) := ⟨by kernel_rfl⟩
instance : TS Tryz.prog 134 := ⟨by kernel_rfl⟩
instance : TZ Tryz.prog 135 [.slice none 0 0] := ⟨by kernel_rfl⟩
instance : TZV Tryz.prog 135 (.slice none 0 0) := ⟨by kernel_rfl⟩
instance : TS Tryz.prog 135 := ⟨by kernel_rfl⟩
instance : TL Tryz.prog 135 137 2 16 [.int .i64 0, .int .i64 0] := ⟨by kernel_rfl, by kernel_rfl, by kernel_rfl, by decide⟩
instance : TZ Tryz.prog 136 [.nilFunc] := ⟨by kernel_rfl⟩
instance : TZV Tryz.prog 136 (.nilFunc) := ⟨by kernel_rfl⟩
instance : TS Tryz.prog 136 := ⟨by kernel_rfl⟩
instance : TZ Tryz.prog 137 [.int .i64 0, .int .i64 0] := ⟨by kernel_rfl⟩
instance : TZV Tryz.prog 137 (.agg #[.int .i64 0, .int .i64 0]) := ⟨by kernel_rfl⟩
instance : TA Tryz.prog 137 2 := ⟨by kernel_rfl⟩
instance : TArr Tryz.prog 137 2 3 1 := ⟨by kernel_rfl, by kernel_rfl⟩
instance : TZ Tryz.prog 138 [.nilFunc] := ⟨by kernel_rfl⟩
instance : TZV Tryz.prog 138 (.nilFunc) := ⟨by kernel_rfl⟩
instance : TS Tryz.prog 138 := ⟨by kernel_rfl⟩
instance : TZ Tryz.prog 139 [.nilFunc] := ⟨by kernel_rfl⟩
instance : TZV Tryz.prog 139 (.nilFunc) := ⟨by kernel_rfl⟩
instance : TS Tryz.prog 139 := ⟨by kernel_rfl⟩
instance : TZ Tryz.prog 140 [.nilFunc] := ⟨by kernel_rfl⟩
instance : TZV Tryz.prog 140 (.nilFunc) := ⟨by kernel_rfl⟩
instance : TS Tryz.prog 140 := ⟨by kernel_rfl⟩
instance : TZ Tryz.prog 141 [.nilFunc] := ⟨by kernel_rfl⟩
instance : TZV Tryz.prog 141 (.nilFunc) := ⟨by kernel_rfl⟩
instance : TS Tryz.prog 141 := ⟨by kernel_rfl⟩
instance : TZ Tryz.prog 142 [.nilFunc] := ⟨by kernel_rfl⟩
instance : TZV Tryz.prog 142 (.nilFunc) := ⟨by kernel_rfl⟩
instance : TS Tryz.prog 142 := ⟨by kernel_rfl⟩
instance : TZ Tryz.prog 143 [.slice none 0 0] := ⟨by kernel_rfl⟩
instance : TZV Tryz.prog 143 (.slice none 0 0) := ⟨by kernel_rfl⟩
instance : TS Tryz.prog 143 := ⟨by kernel_rfl⟩
instance : TL Tryz.prog 143 145 2 16 [.int .u64 0, .int .u64 0] := ⟨by kernel_rfl, by kernel_rfl, by kernel_rfl, by decide⟩
instance : TZ Tryz.prog 144 [.int .u64 0, .int .u64 0] := ⟨by kernel_rfl⟩
instance : TZV Tryz.prog 144 (.agg #[.int .u64 0, .int .u64 0]) := ⟨by kernel_rfl⟩
instance : TA Tryz.prog 144 2 := ⟨by kernel_rfl⟩
instance : TEq Tryz.prog 144 [9, 9] := ⟨by kernel_rfl, by kernel_rfl, by kernel_rfl⟩
instance : TB Tryz.prog 144 [(0, 1), (1, 1)] [.int .u64 0, .int .u64 0] := ⟨by kernel_rfl, by kernel_rfl⟩
instance : TF Tryz.prog 144 0 0 := ⟨by kernel_rfl⟩
instance : TF Tryz.prog 144 1 1 := ⟨by kernel_rfl⟩
instance : TZ Tryz.prog 145 [.int .u64 0, .int .u64 0] := ⟨by kernel_rfl⟩
instance : TZV Tryz.prog 145 (.agg #[.int .u64 0, .int .u64 0]) := ⟨by kernel_rfl⟩
instance : TA Tryz.prog 145 2 := ⟨by kernel_rfl⟩
instance : TEq Tryz.prog 145 [9, 9] := ⟨by kernel_rfl, by kernel_rfl, by kernel_rfl⟩
instance : TB Tryz.prog 145 [(0, 1), (1, 1)] [.int .u64 0, .int .u64 0] := ⟨by kernel_rfl, by kernel_rfl⟩
instance : TF Tryz.prog 145 0 0 := ⟨by kernel_rfl⟩
instance : TF Tryz.prog 145 1 1 := ⟨by kernel_rfl⟩
instance : TZ Tryz.prog 146 [.bool false, .bool false, .bool false, .bool false, .bool false, .bool false, .bool false, .bool false, .bool false, .bool false, .bool false, .bool false, .bool false, .bool false, .bool false, .bool false, .bool false, .bool false, .bool false, .bool false, .bool false, .bool false, .bool false, .bool false, .bool false, .bool false, .bool false, .bool false, .bool false, .bool false, .bool false, .bool false, .bool false, .bool false, .bool false, .bool false, .bool false, .bool false, .bool false, .bool false, .bool false, .bool false, .bool false, .bool false, .bool false, .bool false, .bool false, .bool false, .bool false, .bool false, .bool false, .bool false, .bool false, .bool false, .bool false, .bool false, .bool false, .bool false, .bool false, .bool false, .bool false, .bool false, .bool false, .bool false] := ⟨by kernel_rfl⟩
instance : TZV Tryz.prog 146 (.agg #[.bool false, .bool false, .bool false, .bool false, .bool false, .bool false, .bool false, .bool false, .bool false, .bool false, .bool false, .bool false, .bool false, .bool false, .bool false, .bool false, .bool false, .bool false, .bool false, .bool false, .bool false, .bool false, .bool false, .bool false, .bool false, .bool false, .bool false, .bool false, .bool false, .bool false, .bool false, .bool false, .bool false, .bool false, .bool false, .bool false, .bool false, .bool false, .bool false, .bool false, .bool false, .bool false, .bool false, .bool false, .bool false, .bool false, .bool false, .bool false, .bool false, .bool false, .bool false, .bool false, .bool false, .bool false, .bool false, .bool false, .bool false, .bool false, .bool false, .bool false, .bool false, .bool false, .bool false, .bool false]) := ⟨by kernel_rfl⟩
instance : TA Tryz.prog 146 64 := ⟨by kernel_rfl⟩
instance : TArr Tryz.prog 146 64 4 1 := ⟨by kernel_rfl, by kernel_rfl⟩
instance : TZ Tryz.prog 147 [.nilFunc] := ⟨by kernel_rfl⟩
instance : TZV Tryz.prog 147 (.nilFunc) := ⟨by kernel_rfl⟩
instance : TS Tryz.prog 147 := ⟨by kernel_rfl⟩
instance : TZ Tryz.prog 148 [.nilFunc] := ⟨by kernel_rfl⟩
instance : TZV Tryz.prog 148 (.nilFunc) := ⟨by kernel_rfl⟩
instance : TS Tryz.prog 148 := ⟨by kernel_rfl⟩
instance : TZ Tryz.prog 150 [.nilFunc] := ⟨by kernel_rfl⟩
instance : TZV Tryz.prog 150 (.nilFunc) := ⟨by kernel_rfl⟩
instance : TS Tryz.prog 150 := ⟨by kernel_rfl⟩
instance : TZ Tryz.prog 151 [.map none] := ⟨by kernel_rfl⟩
instance : TZV Tryz.prog 151 (.map none) := ⟨by kernel_rfl⟩
instance : TS Tryz.prog 151 := ⟨by kernel_rfl⟩
instance : TMap Tryz.prog 151 9 70 := ⟨by kernel_rfl⟩
instance : TZ Tryz.prog 152 [.nilFunc] := ⟨by kernel_rfl⟩
instance : TZV Tryz.prog 152 (.nilFunc) := ⟨by kernel_rfl⟩
instance : TS Tryz.prog 152 := ⟨by kernel_rfl⟩
instance : TZ Tryz.prog 153 [.nilFunc] := ⟨by kernel_rfl⟩
instance : TZV Tryz.prog 153 (.nilFunc) := ⟨by kernel_rfl⟩
instance : TS Tryz.prog 153 := ⟨by kernel_rfl⟩
instance : TZ Tryz.prog 154 [.nilFunc] := ⟨by kernel_rfl⟩
instance : TZV Tryz.prog 154 (.nilFunc) := ⟨by kernel_rfl⟩
instance : TS Tryz.prog 154 := ⟨by kernel_rfl⟩
instance : TZ Tryz.prog 155 [.nilFunc] := ⟨by kernel_rfl⟩
instance : TZV Tryz.prog 155 (.nilFunc) := ⟨by kernel_rfl⟩
instance : TS Tryz.prog 155 := ⟨by kernel_rfl⟩
instance : TZ Tryz.prog 156 [.nilFunc] := ⟨by kernel_rfl⟩
instance : TZV Tryz.prog 156 (.nilFunc) := ⟨by kernel_rfl⟩
instance : TS Tryz.prog 156 := ⟨by kernel_rfl⟩
instance : TZ Tryz.prog 157 [.int .i64 0] := ⟨by kernel_rfl⟩
instance : TZV Tryz.prog 157 (.int .i64 0) := ⟨by kernel_rfl⟩
instance : TS Tryz.prog 157 := ⟨by kernel_rfl⟩
instance : TInt Tryz.prog 157 .i64 := ⟨by kernel_rfl⟩
instance : TZ Tryz.prog 159 [.nilFunc] := ⟨by kernel_rfl⟩
instance : TZV Tryz.prog 159 (.nilFunc) := ⟨by kernel_rfl⟩
instance : TS Tryz.prog 159 := ⟨by kernel_rfl⟩
instance : TZ Tryz.prog 160 [.nilFunc] := ⟨by kernel_rfl⟩
instance : TZV Tryz.prog 160 (.nilFunc) := ⟨by kernel_rfl⟩
instance : TS Tryz.prog 160 := ⟨by kernel_rfl⟩
instance : TZ Tryz.prog 161 [.nilFunc] := ⟨by kernel_rfl⟩
instance : TZV Tryz.prog 161 (.nilFunc) := ⟨by kernel_rfl⟩
instance : TS Tryz.prog 161 := ⟨by kernel_rfl⟩
instance : TZ Tryz.prog 162 [.nilFunc] := ⟨by kernel_rfl⟩
instance : TZV Tryz.prog 162 (.nilFunc) := ⟨by kernel_rfl⟩
instance : TS Tryz.prog 162 := ⟨by kernel_rfl⟩
instance : TZ Tryz.prog 164 [.nilFunc] := ⟨by kernel_rfl⟩
instance : TZV Tryz.prog 164 (.nilFunc) := ⟨by kernel_rfl⟩
instance : TS Tryz.prog 164 := ⟨by kernel_rfl⟩
instance : TZ Tryz.prog 165 [.nilFunc] := ⟨by kernel_rfl⟩
instance : TZV Tryz.prog 165 (.nilFunc) := ⟨by kernel_rfl⟩
instance : TS Tryz.prog 165 := ⟨by kernel_rfl⟩
instance : TZ Tryz.prog 166 [.int .u32 0] := ⟨by kernel_rfl⟩
instance : TZV Tryz.prog 166 (.int .u32 0) := ⟨by kernel_rfl⟩
instance : TS Tryz.prog 166 := ⟨by kernel_rfl⟩
instance : TInt Tryz.prog 166 .u32 := ⟨by kernel_rfl⟩
instance : TZ Tryz.prog 167 [.nilFunc] := ⟨by kernel_rfl⟩
instance : TZV Tryz.prog 167 (.nilFunc) := ⟨by kernel_rfl⟩
instance : TS Tryz.prog 167 := ⟨by kernel_rfl⟩
instance : TZ Tryz.prog 168 [.nilFunc] := ⟨by kernel_rfl⟩
instance : TZV Tryz.prog 168 (.nilFunc) := ⟨by kernel_rfl⟩
instance : TS Tryz.prog 168 := ⟨by kernel_rfl⟩
instance : TZ Tryz.prog 169 [.nilFunc] := ⟨by kernel_rfl⟩
instance : TZV Tryz.prog 169 (.nilFunc) := ⟨by kernel_rfl⟩
instance : TS Tryz.prog 169 := ⟨by kernel_rfl⟩
instance : TZ Tryz.prog 170 [.nilFunc] := ⟨by kernel_rfl⟩
instance : TZV Tryz.prog 170 (.nilFunc) := ⟨by kernel_rfl⟩
instance : TS Tryz.prog 170 := ⟨by kernel_rfl⟩
instance : TZ Tryz.prog 171 [.nilFunc] := ⟨by kernel_rfl⟩
instance : TZV Tryz.prog 171 (.nilFunc) := ⟨by kernel_rfl⟩
instance : TS Tryz.prog 171 := ⟨by kernel_rfl⟩
instance : TZ Tryz.prog 172 [.nilFunc] := ⟨by kernel_rfl⟩
instance : TZV Tryz.prog 172 (.nilFunc) := ⟨by kernel_rfl⟩
instance : TS Tryz.prog 172 := ⟨by kernel_rfl⟩
instance : TZ Tryz.prog 173 [.nilFunc] := ⟨by kernel_rfl⟩
instance : TZV Tryz.prog 173 (.nilFunc) := ⟨by kernel_rfl⟩
instance : TS Tryz.prog 173 := ⟨by kernel_rfl⟩
instance : TZ Tryz.prog 174 [.nilFunc] := ⟨by kernel_rfl⟩
instance : TZV Tryz.prog 174 (.nilFunc) := ⟨by kernel_rfl⟩
instance : TS Tryz.prog 174 := ⟨by kernel_rfl⟩
instance : TZ Tryz.prog 175 [.nilFunc] := ⟨by kernel_rfl⟩
instance : TZV Tryz.prog 175 (.nilFunc) := ⟨by kernel_rfl⟩
instance : TS Tryz.prog 175 := ⟨by kernel_rfl⟩
instance : TZ Tryz.prog 176 [.nilFunc] := ⟨by kernel_rfl⟩
instance : TZV Tryz.prog 176 (.nilFunc) := ⟨by kernel_rfl⟩
instance : TS Tryz.prog 176 := ⟨by kernel_rfl⟩
instance : TZ Tryz.prog 177 [.nilFunc] := ⟨by kernel_rfl⟩
instance : TZV Tryz.prog 177 (.nilFunc) := ⟨by kernel_rfl⟩
instance : TS Tryz.prog 177 := ⟨by kernel_rfl⟩
instance : TZ Tryz.prog 178 [.map none] := ⟨by kernel_rfl⟩
instance : TZV Tryz.prog 178 (.map none) := ⟨by kernel_rfl⟩
instance : TS Tryz.prog 178 := ⟨by kernel_rfl⟩
instance : TMap Tryz.prog 178 3 4 := ⟨by kernel_rfl⟩
instance : TZ Tryz.prog 179 [.map none] := ⟨by kernel_rfl⟩
instance : TZV Tryz.prog 179 (.map none) := ⟨by kernel_rfl⟩
instance : TS Tryz.prog 179 := ⟨by kernel_rfl⟩
instance : TMap Tryz.prog 179 9 4 := ⟨by kernel_rfl⟩
instance : TZ Tryz.prog 180 [.map none] := ⟨by kernel_rfl⟩
instance : TZV Tryz.prog 180 (.map none) := ⟨by kernel_rfl⟩
instance : TS Tryz.prog 180 := ⟨by kernel_rfl⟩
instance : TMap Tryz.prog 180 137 4 := ⟨by kernel_rfl⟩
instance : TZ Tryz.prog 181 [.nilFunc] := ⟨by kernel_rfl⟩
instance : TZV Tryz.prog 181 (.nilFunc) := ⟨by kernel_rfl⟩
instance : TS Tryz.prog 181 := ⟨by kernel_rfl⟩
instance : TZ Tryz.prog 182 [.nilFunc] := ⟨by kernel_rfl⟩
instance : TZV Tryz.prog 182 (.nilFunc) := ⟨by kernel_rfl⟩
instance : TS Tryz.prog 182 := ⟨by kernel_rfl⟩
instance : TZ Tryz.prog 183 [.nilFunc] := ⟨by kernel_rfl⟩
instance : TZV Tryz.prog 183 (.nilFunc) := ⟨by kernel_rfl⟩
instance : TS Tryz.prog 183 := ⟨by kernel_rfl⟩
instance : TZ Tryz.prog 184 [.nilFunc] := ⟨by kernel_rfl⟩
instance : TZV Tryz.prog 184 (.nilFunc) := ⟨by kernel_rfl⟩
instance : TS Tryz.prog 184 := ⟨by kernel_rfl⟩
instance : TZ Tryz.prog 185 [.nilFunc] := ⟨by kernel_rfl⟩
instance : TZV Tryz.prog 185 (.nilFunc) := ⟨by kernel_rfl⟩
instance : TS Tryz.prog 185 := ⟨by kernel_rfl⟩
instance : TZ Tryz.prog 187 [.nilFunc] := ⟨by kernel_rfl⟩
instance : TZV Tryz.prog 187 (.nilFunc) := ⟨by kernel_rfl⟩
instance : TS Tryz.prog 187 := ⟨by kernel_rfl⟩
instance : TZ Tryz.prog 188 [.nilFunc] := ⟨by kernel_rfl⟩
instance : TZV Tryz.prog 188 (.nilFunc) := ⟨by kernel_rfl⟩
instance : TS Tryz.prog 188 := ⟨by kernel_rfl⟩
instance : TZ Tryz.prog 189 [.int .u64 0] := ⟨by kernel_rfl⟩
instance : TZV Tryz.prog 189 (.int .u64 0) := ⟨by kernel_rfl⟩
instance : TS Tryz.prog 189 := ⟨by kernel_rfl⟩
instance : TInt Tryz.prog 189 .u64 := ⟨by kernel_rfl⟩
instance : TZ Tryz.prog 190 [.nilFunc] := ⟨by kernel_rfl⟩
instance : TZV Tryz.prog 190 (.nilFunc) := ⟨by kernel_rfl⟩
instance : TS Tryz.prog 190 := ⟨by kernel_rfl⟩
instance : TZ Tryz.prog 191 [.nilFunc] := ⟨by kernel_rfl⟩
instance : TZV Tryz.prog 191 (.nilFunc) := ⟨by kernel_rfl⟩
instance : TS Tryz.prog 191 := ⟨by kernel_rfl⟩
instance : TZ Tryz.prog 192 [.nilFunc] := ⟨by kernel_rfl⟩
instance : TZV Tryz.prog 192 (.nilFunc) := ⟨by kernel_rfl⟩
instance : TS Tryz.prog 192 := ⟨by kernel_rfl⟩
instance : TZ Tryz.prog 193 [.pointer none] := ⟨by kernel_rfl⟩
instance : TZV Tryz.prog 193 (.pointer none) := ⟨by kernel_rfl⟩
instance : TS Tryz.prog 193 := ⟨by kernel_rfl⟩
instance : TPtr Tryz.prog 193 3 := ⟨by kernel_rfl⟩
instance : TZ Tryz.prog 194 [.nilFunc] := ⟨by kernel_rfl⟩
instance : TZV Tryz.prog 194 (.nilFunc) := ⟨by kernel_rfl⟩
instance : TS Tryz.prog 194 := ⟨by kernel_rfl⟩
instance : TZ Tryz.prog 195 [.nilFunc] := ⟨by kernel_rfl⟩
instance : TZV Tryz.prog 195 (.nilFunc) := ⟨by kernel_rfl⟩
instance : TS Tryz.prog 195 := ⟨by kernel_rfl⟩
instance : TZ Tryz.prog 196 [.pointer none] := ⟨by kernel_rfl⟩
instance : TZV Tryz.prog 196 (.pointer none) := ⟨by kernel_rfl⟩
instance : TS Tryz.prog 196 := ⟨by kernel_rfl⟩
instance : TPtr Tryz.prog 196 189 := ⟨by kernel_rfl⟩
instance : TZ Tryz.prog 198 [.nilFunc] := ⟨by kernel_rfl⟩
instance : TZV Tryz.prog 198 (.nilFunc) := ⟨by kernel_rfl⟩
instance : TS Tryz.prog 198 := ⟨by kernel_rfl⟩
instance : TZ Tryz.prog 200 [.nilFunc] := ⟨by kernel_rfl⟩
instance : TZV Tryz.prog 200 (.nilFunc) := ⟨by kernel_rfl⟩
instance : TS Tryz.prog 200 := ⟨by kernel_rfl⟩
instance : TZ Tryz.prog 201 [.nilFunc] := ⟨by kernel_rfl⟩
instance : TZV Tryz.prog 201 (.nilFunc) := ⟨by kernel_rfl⟩
instance : TS Tryz.prog 201 := ⟨by kernel_rfl⟩
instance : TZ Tryz.prog 202 [.pointer none, .pointer none, .pointer none, .string ⟨#[]⟩] := ⟨by kernel_rfl⟩
instance : TZV Tryz.prog 202 (.agg #[.pointer none, .pointer none, .pointer none, .string ⟨#[]⟩]) := ⟨by kernel_rfl⟩
instance : TA Tryz.prog 202 4 := ⟨by kernel_rfl⟩
instance : TB Tryz.prog 202 [(0, 1), (1, 1), (2, 1), (3, 1)] [.pointer none, .pointer none, .pointer none, .string ⟨#[]⟩] := ⟨by kernel_rfl, by kernel_rfl⟩
instance : TF Tryz.prog 202 0 0 := ⟨by kernel_rfl⟩
instance : TF Tryz.prog 202 1 1 := ⟨by kernel_rfl⟩
instance : TF Tryz.prog 202 2 2 := ⟨by kernel_rfl⟩
instance : TF Tryz.prog 202 3 3 := ⟨by kernel_rfl⟩
instance : TZ Tryz.prog 203 [.pointer none, .pointer none, .pointer none, .string ⟨#[]⟩] := ⟨by kernel_rfl⟩
instance : TZV Tryz.prog 203 (.agg #[.pointer none, .pointer none, .pointer none, .string ⟨#[]⟩]) := ⟨by kernel_rfl⟩
instance : TA Tryz.prog 203 4 := ⟨by kernel_rfl⟩
instance : TB Tryz.prog 203 [(0, 1), (1, 1), (2, 1), (3, 1)] [.pointer none, .pointer none, .pointer none, .string ⟨#[]⟩] := ⟨by kernel_rfl, by kernel_rfl⟩
instance : TF Tryz.prog 203 0 0 := ⟨by kernel_rfl⟩
instance : TF Tryz.prog 203 1 1 := ⟨by kernel_rfl⟩
instance : TF Tryz.prog 203 2 2 := ⟨by kernel_rfl⟩
instance : TF Tryz.prog 203 3 3 := ⟨by kernel_rfl⟩
instance : TZ Tryz.prog 204 [] := ⟨by kernel_rfl⟩
instance : TZV Tryz.prog 204 (.agg #[]) := ⟨by kernel_rfl⟩
instance : TA Tryz.prog 204 0 := ⟨by kernel_rfl⟩
instance : TArr Tryz.prog 204 0 16 1 := ⟨by kernel_rfl, by kernel_rfl⟩
instance : TZ Tryz.prog 205 [] := ⟨by kernel_rfl⟩
instance : TZV Tryz.prog 205 (.agg #[]) := ⟨by kernel_rfl⟩
instance : TA Tryz.prog 205 0 := ⟨by kernel_rfl⟩
instance : TZ Tryz.prog 206 [] := ⟨by kernel_rfl⟩
instance : TZV Tryz.prog 206 (.agg #[]) := ⟨by kernel_rfl⟩
instance : TA Tryz.prog 206 0 := ⟨by kernel_rfl⟩
instance : TZ Tryz.prog 207 [.int .u8 0] := ⟨by kernel_rfl⟩
instance : TZV Tryz.prog 207 (.int .u8 0) := ⟨by kernel_rfl⟩
instance : TS Tryz.prog 207 := ⟨by kernel_rfl⟩
instance : TInt Tryz.prog 207 .u8 := ⟨by kernel_rfl⟩
instance : TZ Tryz.prog 208 [.int .u8 0] := ⟨by kernel_rfl⟩
instance : TZV Tryz.prog 208 (.int .u8 0) := ⟨by kernel_rfl⟩
instance : TS Tryz.prog 208 := ⟨by kernel_rfl⟩
instance : TInt Tryz.prog 208 .u8 := ⟨by kernel_rfl⟩
instance : TZ Tryz.prog 209 [.nilFunc] := ⟨by kernel_rfl⟩
instance : TZV Tryz.prog 209 (.nilFunc) := ⟨by kernel_rfl⟩
instance : TS Tryz.prog 209 := ⟨by kernel_rfl⟩
instance : TZ Tryz.prog 210 [.pointer none] := ⟨by kernel_rfl⟩
instance : TZV Tryz.prog 210 (.pointer none) := ⟨by kernel_rfl⟩
instance : TS Tryz.prog 210 := ⟨by kernel_rfl⟩
instance : TPtr Tryz.prog 210 5 := ⟨by kernel_rfl⟩
instance : TZ Tryz.prog 211 [.int .i32 0] := ⟨by kernel_rfl⟩
instance : TZV Tryz.prog 211 (.int .i32 0) := ⟨by kernel_rfl⟩
instance : TS Tryz.prog 211 := ⟨by kernel_rfl⟩
instance : TInt Tryz.prog 211 .i32 := ⟨by kernel_rfl⟩
instance : TZ Tryz.prog 212 [.int .i32 0] := ⟨by kernel_rfl⟩
instance : TZV Tryz.prog 212 (.int .i32 0) := ⟨by kernel_rfl⟩
instance : TS Tryz.prog 212 := ⟨by kernel_rfl⟩
instance : TInt Tryz.prog 212 .i32 := ⟨by kernel_rfl⟩
instance : TZ Tryz.prog 213 [.int .u64 0, .int .u64 0, .int .u32 0, .int .u8 0, .int .u8 0, .int .u8 0, .int .u8 0, .nilFunc, .pointer none, .int .i32 0, .int .i32 0] := ⟨by kernel_rfl⟩
instance : TZV Tryz.prog 213 (.agg #[.int .u64 0, .int .u64 0, .int .u32 0, .int .u8 0, .int .u8 0, .int .u8 0, .int .u8 0, .nilFunc, .pointer none, .int .i32 0, .int .i32 0]) := ⟨by kernel_rfl⟩
instance : TA Tryz.prog 213 11 := ⟨by kernel_rfl⟩
instance : TB Tryz.prog 213 [(0, 1), (1, 1), (2, 1), (3, 1), (4, 1), (5, 1), (6, 1), (7, 1), (8, 1), (9, 1), (10, 1)] [.int .u64 0, .int .u64 0, .int .u32 0, .int .u8 0, .int .u8 0, .int .u8 0, .int .u8 0, .nilFunc, .pointer none, .int .i32 0, .int .i32 0] := ⟨by kernel_rfl, by kernel_rfl⟩
instance : TF Tryz.prog 213 0 0 := ⟨by kernel_rfl⟩
instance : TF Tryz.prog 213 1 1 := ⟨by kernel_rfl⟩
instance : TF Tryz.prog 213 2 2 := ⟨by kernel_rfl⟩
instance : TF Tryz.prog 213 3 3 := ⟨by kernel_rfl⟩
instance : TF Tryz.prog 213 4 4 := ⟨by kernel_rfl⟩
instance : TF Tryz.prog 213 5 5 := ⟨by kernel_rfl⟩
instance : TF Tryz.prog 213 6 6 := ⟨by kernel_rfl⟩
instance : TF Tryz.prog 213 7 7 := ⟨by kernel_rfl⟩
instance : TF Tryz.prog 213 8 8 := ⟨by kernel_rfl⟩
instance : TF Tryz.prog 213 9 9 := ⟨by kernel_rfl⟩
instance : TF Tryz.prog 213 10 10 := ⟨by kernel_rfl⟩
instance : TZ Tryz.prog 214 [.int .u64 0, .int .u64 0, .int .u32 0, .int .u8 0, .int .u8 0, .int .u8 0, .int .u8 0, .nilFunc, .pointer none, .int .i32 0, .int .i32 0] := ⟨by kernel_rfl⟩
instance : TZV Tryz.prog 214 (.agg #[.int .u64 0, .int .u64 0, .int .u32 0, .int .u8 0, .int .u8 0, .int .u8 0, .int .u8 0, .nilFunc, .pointer none, .int .i32 0, .int .i32 0]) := ⟨by kernel_rfl⟩
instance : TA Tryz.prog 214 11 := ⟨by kernel_rfl⟩
instance : TB Tryz.prog 214 [(0, 1), (1, 1), (2, 1), (3, 1), (4, 1), (5, 1), (6, 1), (7, 1), (8, 1), (9, 1), (10, 1)] [.int .u64 0, .int .u64 0, .int .u32 0, .int .u8 0, .int .u8 0, .int .u8 0, .int .u8 0, .nilFunc, .pointer none, .int .i32 0, .int .i32 0] := ⟨by kernel_rfl, by kernel_rfl⟩
instance : TF Tryz.prog 214 0 0 := ⟨by kernel_rfl⟩
instance : TF Tryz.prog 214 1 1 := ⟨by kernel_rfl⟩
instance : TF Tryz.prog 214 2 2 := ⟨by kernel_rfl⟩
instance : TF Tryz.prog 214 3 3 := ⟨by kernel_rfl⟩
instance : TF Tryz.prog 214 4 4 := ⟨by kernel_rfl⟩
instance : TF Tryz.prog 214 5 5 := ⟨by kernel_rfl⟩
instance : TF Tryz.prog 214 6 6 := ⟨by kernel_rfl⟩
instance : TF Tryz.prog 214 7 7 := ⟨by kernel_rfl⟩
instance : TF Tryz.prog 214 8 8 := ⟨by kernel_rfl⟩
instance : TF Tryz.prog 214 9 9 := ⟨by kernel_rfl⟩
instance : TF Tryz.prog 214 10 10 := ⟨by kernel_rfl⟩
instance : TZ Tryz.prog 215 [.pointer none] := ⟨by kernel_rfl⟩
instance : TZV Tryz.prog 215 (.pointer none) := ⟨by kernel_rfl⟩
instance : TS Tryz.prog 215 := ⟨by kernel_rfl⟩
instance : FnOk Tryz.prog 3 := ⟨by kernel_rfl⟩
instance : FnOk Tryz.prog 4 := ⟨by kernel_rfl⟩
instance : FnOk Tryz.prog 5 := ⟨by kernel_rfl⟩
instance : FnOk Tryz.prog 6 := ⟨by kernel_rfl⟩
instance : FnOk Tryz.prog 7 := ⟨by kernel_rfl⟩
instance : FnOk Tryz.prog 8 := ⟨by kernel_rfl⟩
instance : FnOk Tryz.prog 9 := ⟨by kernel_rfl⟩
instance : FnOk Tryz.prog 10 := ⟨by kernel_rfl⟩
instance : FnOk Tryz.prog 11 := ⟨by kernel_rfl⟩
instance : FnOk Tryz.prog 12 := ⟨by kernel_rfl⟩
instance : FnOk Tryz.prog 13 := ⟨by kernel_rfl⟩
instance : FnOk Tryz.prog 14 := ⟨by kernel_rfl⟩
instance : FnOk Tryz.prog 15 := ⟨by kernel_rfl⟩
instance : FnOk Tryz.prog 16 := ⟨by kernel_rfl⟩
instance : FnOk Tryz.prog 17 := ⟨by kernel_rfl⟩
instance : FnOk Tryz.prog 18 := ⟨by kernel_rfl⟩
instance : FnOk Tryz.prog 19 := ⟨by kernel_rfl⟩
instance : FnOk Tryz.prog 20 := ⟨by kernel_rfl⟩
instance : FnOk Tryz.prog 21 := ⟨by kernel_rfl⟩
instance : FnOk Tryz.prog 22 := ⟨by kernel_rfl⟩
instance : FnOk Tryz.prog 23 := ⟨by kernel_rfl⟩
instance : FnOk Tryz.prog 24 := ⟨by kernel_rfl⟩
instance : FnOk Tryz.prog 25 := ⟨by kernel_rfl⟩
instance : FnOk Tryz.prog 26 := ⟨by kernel_rfl⟩
instance : FnOk Tryz.prog 27 := ⟨by kernel_rfl⟩
instance : FnOk Tryz.prog 28 := ⟨by kernel_rfl⟩
instance : FnOk Tryz.prog 29 := ⟨by kernel_rfl⟩
instance : FnOk Tryz.prog 30 := ⟨by kernel_rfl⟩
instance : FnOk Tryz.prog 31 := ⟨by kernel_rfl⟩
instance : FnOk Tryz.prog 32 := ⟨by kernel_rfl⟩
instance : FnOk Tryz.prog 33 := ⟨by kernel_rfl⟩
instance : FnOk Tryz.prog 34 := ⟨by kernel_rfl⟩
instance : FnOk Tryz.prog 35 := ⟨by kernel_rfl⟩
instance : FnOk Tryz.prog 36 := ⟨by kernel_rfl⟩
instance : FnOk Tryz.prog 37 := ⟨by kernel_rfl⟩
instance : FnOk Tryz.prog 38 := ⟨by kernel_rfl⟩
instance : FnOk Tryz.prog 39 := ⟨by kernel_rfl⟩
instance : FnOk Tryz.prog 40 := ⟨by kernel_rfl⟩
instance : FnOk Tryz.prog 41 := ⟨by kernel_rfl⟩
instance : FnOk Tryz.prog 42 := ⟨by kernel_rfl⟩
instance : FnOk Tryz.prog 43 := ⟨by kernel_rfl⟩
instance : FnOk Tryz.prog 44 := ⟨by kernel_rfl⟩
instance : FnOk Tryz.prog 45 := ⟨by kernel_rfl⟩
instance : FnOk Tryz.prog 46 := ⟨by kernel_rfl⟩
instance : FnOk Tryz.prog 47 := ⟨by kernel_rfl⟩
instance : FnOk Tryz.prog 48 := ⟨by kernel_rfl⟩
instance : FnOk Tryz.prog 49 := ⟨by kernel_rfl⟩
instance : FnOk Tryz.prog 50 := ⟨by kernel_rfl⟩
instance : FnOk Tryz.prog 51 := ⟨by kernel_rfl⟩
instance : FnOk Tryz.prog 52 := ⟨by kernel_rfl⟩
instance : FnOk Tryz.prog 53 := ⟨by kernel_rfl⟩
instance : FnOk Tryz.prog 54 := ⟨by kernel_rfl⟩
instance : FnOk Tryz.prog 55 := ⟨by kernel_rfl⟩
instance : FnOk Tryz.prog 56 := ⟨by kernel_rfl⟩
instance : FnOk Tryz.prog 57 := ⟨by kernel_rfl⟩
instance : FnOk Tryz.prog 58 := ⟨by kernel_rfl⟩
instance : FnOk Tryz.prog 59 := ⟨by kernel_rfl⟩
instance : FnOk Tryz.prog 60 := ⟨by kernel_rfl⟩
instance : FnOk Tryz.prog 61 := ⟨by kernel_rfl⟩
instance : FnOk Tryz.prog 62 := ⟨by kernel_rfl⟩
instance : FnOk Tryz.prog 63 := ⟨by kernel_rfl⟩
instance : FnOk Tryz.prog 64 := ⟨by kernel_rfl⟩
instance : FnOk Tryz.prog 65 := ⟨by kernel_rfl⟩
instance : FnOk Tryz.prog 66 := ⟨by kernel_rfl⟩
instance : FnOk Tryz.prog 67 := ⟨by kernel_rfl⟩
instance : FnOk Tryz.prog 68 := ⟨by kernel_rfl⟩
instance : FnOk Tryz.prog 69 := ⟨by kernel_rfl⟩
instance : FnOk Tryz.prog 70 := ⟨by kernel_rfl⟩
instance : FnOk Tryz.prog 71 := ⟨by kernel_rfl⟩
instance : FnOk Tryz.prog 72 := ⟨by kernel_rfl⟩
instance : FnOk Tryz.prog 73 := ⟨by kernel_rfl⟩
instance : FnOk Tryz.prog 74 := ⟨by kernel_rfl⟩
instance : FnOk Tryz.prog 75 := ⟨by kernel_rfl⟩
instance : FnOk Tryz.prog 76 := ⟨by kernel_rfl⟩
instance : FnOk Tryz.prog 77 := ⟨by kernel_rfl⟩
instance : FnOk Tryz.prog 78 := ⟨by kernel_rfl⟩
instance : FnOk Tryz.prog 79 := ⟨by kernel_rfl⟩
instance : FnOk Tryz.prog 80 := ⟨by kernel_rfl⟩
instance : FnOk Tryz.prog 81 := ⟨by kernel_rfl⟩
instance : FnOk Tryz.prog 82 := ⟨by kernel_rfl⟩
instance : FnOk Tryz.prog 83 := ⟨by kernel_rfl⟩
instance : FnOk Tryz.prog 84 := ⟨by kernel_rfl⟩
instance : FnOk Tryz.prog 85 := ⟨by kernel_rfl⟩
instance : FnOk Tryz.prog 86 := ⟨by kernel_rfl⟩
instance : FnOk Tryz.prog 87 := ⟨by kernel_rfl⟩
instance : FnOk Tryz.prog 88 := ⟨by kernel_rfl⟩
instance : FnOk Tryz.prog 89 := ⟨by kernel_rfl⟩
instance : FnOk Tryz.prog 90 := ⟨by kernel_rfl⟩
instance : FnOk Tryz.prog 91 := ⟨by kernel_rfl⟩
instance : FnOk Tryz.prog 92 := ⟨by kernel_rfl⟩
instance : FnOk Tryz.prog 93 := ⟨by kernel_rfl⟩
instance : FnOk Tryz.prog 94 := ⟨by kernel_rfl⟩
instance : FnOk Tryz.prog 95 := ⟨by kernel_rfl⟩
instance : FnOk Tryz.prog 96 := ⟨by kernel_rfl⟩
instance : FnOk Tryz.prog 97 := ⟨by kernel_rfl⟩
instance : FnOk Tryz.prog 98 := ⟨by kernel_rfl⟩
instance : FnOk Tryz.prog 99 := ⟨by kernel_rfl⟩
instance : FnOk Tryz.prog 100 := ⟨by kernel_rfl⟩
instance : FnOk Tryz.prog 101 := ⟨by kernel_rfl⟩
instance : FnOk Tryz.prog 102 := ⟨by kernel_rfl⟩
instance : FnOk Tryz.prog 103 := ⟨by kernel_rfl⟩
instance : FnOk Tryz.prog 104 := ⟨by kernel_rfl⟩
instance : FnOk Tryz.prog 105 := ⟨by kernel_rfl⟩
instance : FnOk Tryz.prog 106 := ⟨by kernel_rfl⟩
instance : FnOk Tryz.prog 107 := ⟨by kernel_rfl⟩
instance : FnOk Tryz.prog 108 := ⟨by kernel_rfl⟩
instance : FnOk Tryz.prog 109 := ⟨by kernel_rfl⟩
instance : FnOk Tryz.prog 110 := ⟨by kernel_rfl⟩
instance : FnOk Tryz.prog 111 := ⟨by kernel_rfl⟩
instance : FnOk Tryz.prog 112 := ⟨by kernel_rfl⟩
instance : FnOk Tryz.prog 113 := ⟨by kernel_rfl⟩
instance : FnOk Tryz.prog 114 := ⟨by kernel_rfl⟩
instance : FnOk Tryz.prog 115 := ⟨by kernel_rfl⟩
instance : FnOk Tryz.prog 117 := ⟨by kernel_rfl⟩
instance : FnOk Tryz.prog 118 := ⟨by kernel_rfl⟩
instance : FnOk Tryz.prog 119 := ⟨by kernel_rfl⟩
instance : FnOk Tryz.prog 120 := ⟨by kernel_rfl⟩
instance : FnOk Tryz.prog 121 := ⟨by kernel_rfl⟩
instance : FnOk Tryz.prog 122 := ⟨by kernel_rfl⟩
instance : FnOk Tryz.prog 123 := ⟨by kernel_rfl⟩
instance : FnOk Tryz.prog 124 := ⟨by kernel_rfl⟩
instance : FnOk Tryz.prog 125 := ⟨by kernel_rfl⟩
instance : FnOk Tryz.prog 126 := ⟨by kernel_rfl⟩
instance : FnOk Tryz.prog 127 := ⟨by kernel_rfl⟩
instance : FnOk Tryz.prog 128 := ⟨by kernel_rfl⟩
instance : FnOk Tryz.prog 129 := ⟨by kernel_rfl⟩
instance : FnOk Tryz.prog 130 := ⟨by kernel_rfl⟩
instance : FnOk Tryz.prog 131 := ⟨by kernel_rfl⟩
instance : FnOk Tryz.prog 132 := ⟨by kernel_rfl⟩
instance : FnOk Tryz.prog 133 := ⟨by kernel_rfl⟩
instance : FnOk Tryz.prog 134 := ⟨by kernel_rfl⟩
instance : FnOk Tryz.prog 135 := ⟨by kernel_rfl⟩
instance : FnOk Tryz.prog 136 := ⟨by kernel_rfl⟩
instance : FnOk Tryz.prog 137 := ⟨by kernel_rfl⟩
instance : FnOk Tryz.prog 138 := ⟨by kernel_rfl⟩
instance : FnOk Tryz.prog 139 := ⟨by kernel_rfl⟩
instance : FnOk Tryz.prog 140 := ⟨by kernel_rfl⟩
instance : FnOk Tryz.prog 141 := ⟨by kernel_rfl⟩
instance : FnOk Tryz.prog 142 := ⟨by kernel_rfl⟩
instance : FnOk Tryz.prog 143 := ⟨by kernel_rfl⟩
instance : FnOk Tryz.prog 144 := ⟨by kernel_rfl⟩
instance : FnOk Tryz.prog 145 := ⟨by kernel_rfl⟩
instance : FnOk Tryz.prog 146 := ⟨by kernel_rfl⟩
instance : FnOk Tryz.prog 147 := ⟨by kernel_rfl⟩
instance : FnOk Tryz.prog 148 := ⟨by kernel_rfl⟩
instance : FnOk Tryz.prog 149 := ⟨by kernel_rfl⟩
instance : FnOk Tryz.prog 150 := ⟨by kernel_rfl⟩
instance : FnOk Tryz.prog 151 := ⟨by kernel_rfl⟩
instance : FnOk Tryz.prog 152 := ⟨by kernel_rfl⟩
instance : FnOk Tryz.prog 153 := ⟨by kernel_rfl⟩
instance : FnOk Tryz.prog 154 := ⟨by kernel_rfl⟩
instance : FnOk Tryz.prog 155 := ⟨by kernel_rfl⟩
instance : FnOk Tryz.prog 156 := ⟨by kernel_rfl⟩
instance : FnOk Tryz.prog 157 := ⟨by kernel_rfl⟩
instance : FnOk Tryz.prog 158 := ⟨by kernel_rfl⟩
instance : FnOk Tryz.prog 159 := ⟨by kernel_rfl⟩
instance : FnOk Tryz.prog 160 := ⟨by kernel_rfl⟩
instance : FnOk Tryz.prog 161 := ⟨by kernel_rfl⟩
instance : FnOk Tryz.prog 162 := ⟨by kernel_rfl⟩
instance : FnOk Tryz.prog 163 := ⟨by kernel_rfl⟩
instance : FnOk Tryz.prog 164 := ⟨by kernel_rfl⟩
instance : FnOk Tryz.prog 165 := ⟨by kernel_rfl⟩
instance : FnOk Tryz.prog 166 := ⟨by kernel_rfl⟩
instance : FnOk Tryz.prog 167 := ⟨by kernel_rfl⟩
instance : FnOk Tryz.prog 168 := ⟨by kernel_rfl⟩
instance : FnOk Tryz.prog 169 := ⟨by kernel_rfl⟩
instance : FnOk Tryz.prog 171 := ⟨by kernel_rfl⟩
instance : FnOk Tryz.prog 172 := ⟨by kernel_rfl⟩
instance : FnOk Tryz.prog 173 := ⟨by kernel_rfl⟩
instance : FnOk Tryz.prog 174 := ⟨by kernel_rfl⟩
instance : FnOk Tryz.prog 175 := ⟨by kernel_rfl⟩
instance : FnOk Tryz.prog 176 := ⟨by kernel_rfl⟩
instance : FnOk Tryz.prog 177 := ⟨by kernel_rfl⟩
instance : FnOk Tryz.prog 178 := ⟨by kernel_rfl⟩
instance : FnOk Tryz.prog 179 := ⟨by kernel_rfl⟩
instance : FnOk Tryz.prog 180 := ⟨by kernel_rfl⟩
instance : FnOk Tryz.prog 182 := ⟨by kernel_rfl⟩
end Go.Proofs.YtnkekcippfdbgaaGreat
end
/- Words and names, and numbers brought into a range: what these functions answer. -/
section
open Go Mk
namespace Go.Proofs.YtnkekcippfdbgaaGreat
attribute [local irreducible] Calls

def letterB (c : Int) : Bool := decide (97 ≤ c) && decide (c ≤ 122) || decide (65 ≤ c) && decide (c ≤ 90) || decide (c = 95)
def digitB (c : Int) : Bool := decide (48 ≤ c) && decide (c ≤ 57)
instance (c : Int) : PC Tryz.prog 108 [.int .u8 c] (.bool (letterB c)) := ⟨fun w => by
  refine calls_of_W Tryz.func108 rfl rfl ?_
  repeat (first | refine byW ?_ | (refine byV ?_; intro w hw))
  exact ⟨_, rfl, rfl, rfl⟩⟩
instance (c : Int) : PC Tryz.prog 110 [.int .u8 c] (.bool (digitB c)) := ⟨fun w => by
  refine calls_of_W Tryz.func110 rfl rfl ?_
  repeat (first | refine byW ?_ | (refine byV ?_; intro w hw))
  exact ⟨_, rfl, rfl, rfl⟩⟩
instance (c : Int) : PC Tryz.prog 123 [.int .u8 c] (.bool (letterB c)) := ⟨fun w => by
  refine calls_of_W Tryz.func123 rfl rfl ?_
  repeat (first | refine byW ?_ | (refine byV ?_; intro w hw))
  exact ⟨_, rfl, rfl, rfl⟩⟩
instance (c : Int) : PC Tryz.prog 124 [.int .u8 c] (.bool (digitB c)) := ⟨fun w => by
  refine calls_of_W Tryz.func124 rfl rfl ?_
  repeat (first | refine byW ?_ | (refine byV ?_; intro w hw))
  exact ⟨_, rfl, rfl, rfl⟩⟩

/-- The i-th byte. -/
abbrev byteAt (s : ByteArray) (i : Nat) : Int := ((s.data.toList.getD i 0).toNat : Int)
def wordC (b : UInt8) : Bool := letterB b.toNat || digitB b.toNat
def runN (s : ByteArray) : Nat := (s.data.toList.takeWhile wordC).length
def wordS (s : ByteArray) : Bool := decide (0 < s.size) && letterB (byteAt s 0) && s.data.toList.all wordC
def nameS (s : ByteArray) : Bool := wordS s && decide (s.size ≤ 24)

theorem takeWhile_len {p : UInt8 → Bool} : ∀ {l : List UInt8} {k : Nat}, k ≤ l.length → (∀ i, i < k → p (l.getD i 0) = true) → (k < l.length → p (l.getD k 0) = false) → (l.takeWhile p).length = k
  | [], k, h, _, _ => by simp at h; simp [h]
  | x :: l, 0, _, _, h2 => by
    have := h2 (by simp)
    simp at this
    simp [this]
  | x :: l, k + 1, h, h1, h2 => by
    have h0 := h1 0 (by omega)
    simp at h0
    simp only [List.takeWhile_cons, h0, if_true, List.length_cons]
    rw [takeWhile_len (l := l) (k := k) (by simpa using h) (fun i hi => h1 (i + 1) (by omega)) (fun hk => h2 (by simp only [List.length_cons]; omega))]
theorem size_toList (s : ByteArray) : s.data.toList.length = s.size := Array.length_toList

class SB (s : ByteArray) : Prop where h : s.size ≤ 4611686018427387904
theorem toList_get {s : ByteArray} {k : Nat} : ((s.data.toList.getD (Int.toNat (k : Int)) 0).toNat : Int) = byteAt s k := rfl

instance (s : ByteArray) [hs : SB s] : PC Tryz.prog 109 [.string s] (.int .i64 (runN s)) := ⟨fun w => by
  have h63 := hs.h
  refine calls_of_W Tryz.func109 rfl rfl ?_
  repeat (first | refine byW ?_ | (refine byV ?_; intro w hw))
  refine W_loop (fun μ ρ w' => ∃ k : Nat, μ + k = s.size ∧ Has ρ [(0, .string s), (3, .int .i64 k)] ∧ w' = w ∧ ∀ i, i < k → wordC (s.data.toList.getD i 0) = true) s.size ⟨0, rfl, ⟨rfl, rfl, trivial⟩, rfl, fun i h => absurd h (Nat.not_lt_zero i)⟩ ?_
  rintro μ ρ w' ⟨k, hk, hρ, rfl, hi⟩
  rw [hρ.eq]
  repeat (first | refine byW ?_ | (refine byV ?_; intro w hw))
  refine W_cond rfl (fun h => ?_) (fun h => ?_)
  · have h' := andL h
    simp only [decide_eq_true_eq] at h'
    repeat (first | refine byW ?_ | (refine byV ?_; intro w hw))
    refine ⟨μ - 1, by omega, k + 1, by omega, ⟨rfl, rfl, trivial⟩, rfl, fun i hi' => ?_⟩
    by_cases e : i = k
    · subst e; exact andR h
    · exact hi i (by omega)
  · repeat (first | refine byW ?_ | (refine byV ?_; intro w hw))
    refine ⟨_, rfl, ret_i rfl ?_, rfl⟩
    have := takeWhile_len (p := wordC) (l := s.data.toList) (k := k) (by rw [size_toList]; omega) hi (fun hk' => by
      rw [size_toList] at hk'
      rw [show decide ((k : Int) < (s.size : Int)) = true from by simp; omega] at h
      exact h)
    show (k : Int) = ((s.data.toList.takeWhile wordC).length : Int)
    rw [this]⟩

theorem takeWhile_all {p : UInt8 → Bool} {l : List UInt8} : ((l.takeWhile p).length = l.length) ↔ l.all p = true := by
  induction l with
  | nil => simp
  | cons x l ih =>
    simp only [List.takeWhile_cons, List.all_cons]
    cases p x with
    | true => simp [ih]
    | false => simp
instance (s : ByteArray) [hs : SB s] : PC Tryz.prog 147 [.string s] (.bool (wordS s)) := ⟨fun w => by
  refine calls_of_W Tryz.func147 rfl rfl ?_
  repeat (first | refine byW ?_ | (refine byV ?_; intro w hw))
  refine ⟨_, rfl, ret_b rfl ?_, rfl⟩
  have h1 : decide (s ≠ ⟨#[]⟩) = decide (0 < s.size) := by simp only [ne_nilB]
  have h2 : decide ((runN s : Int) = (s.size : Int)) = s.data.toList.all wordC := by
    rw [Bool.eq_iff_iff, decide_eq_true_eq, ← takeWhile_all, size_toList]
    unfold runN; omega
  rw [h1, h2]; rfl⟩
instance (s : ByteArray) [hs : SB s] : PC Tryz.prog 97 [.string s] (.bool (nameS s)) := ⟨fun w => by
  refine calls_of_W Tryz.func97 rfl rfl ?_
  repeat (first | refine byW ?_ | (refine byV ?_; intro w hw))
  refine ⟨_, rfl, ret_b rfl ?_, rfl⟩
  unfold nameS
  congr 1
  rw [decide_eq_decide]; omega⟩


class PosL (n : Int) : Prop where h : 0 < n ∧ n ≤ 1099511627776
instance : PosL 3 := ⟨by decide⟩
instance : PosL 4 := ⟨by decide⟩
instance : PosL 5 := ⟨by decide⟩
instance : PosL 6 := ⟨by decide⟩
instance : PosL 8 := ⟨by decide⟩
instance : PosL 32 := ⟨by decide⟩
instance : PosL 100 := ⟨by decide⟩
instance (v n : Int) [hn : PosL n] : PC Tryz.prog 85 [.int .i64 v, .int .i64 n] (.int .i64 (v % n)) := ⟨fun w => by
  have h := hn.h
  have hm := Int.tmod_lt_of_pos v h.1
  have hm2 : -n < v.tmod n := by
    have := Int.tmod_lt_of_pos (-v) h.1
    rw [Int.neg_tmod] at this; omega
  have he : v % n = if v.tmod n < 0 then v.tmod n + n else v.tmod n := by
    have h3 : v % n = v.tmod n % n := by
      have h4 := Int.mul_tdiv_add_tmod v n
      have h5 := Int.mul_add_emod_self_left n (v.tdiv n) (v.tmod n)
      rw [h4] at h5; exact h5
    rw [h3]
    split
    · rw [← Int.add_emod_right]; exact Int.emod_eq_of_lt (by omega) (by omega)
    · exact Int.emod_eq_of_lt (by omega) hm
  refine calls_of_W Tryz.func85 rfl rfl ?_
  repeat (first | refine byW ?_ | (refine byV ?_; intro w hw))
  refine W_cond rfl (fun h1 => ?_) (fun h1 => ?_)
  · repeat (first | refine byW ?_ | (refine byV ?_; intro w hw))
    refine ⟨_, rfl, ret_i rfl ?_, rfl⟩
    rw [he, if_pos (by simpa using h1)]
  · repeat (first | refine byW ?_ | (refine byV ?_; intro w hw))
    refine ⟨_, rfl, ret_i rfl ?_, rfl⟩
    rw [he, if_neg (by simpa using h1)]⟩

def coreS (n : Int) : Bool := decide (0 ≤ n) && decide (n < 32)
end Go.Proofs.YtnkekcippfdbgaaGreat
end
/- Bytes of texts, numerals and tokens: what both lexers answer (no program in sight). -/
section
open Go Mk
namespace Go.Proofs.YtnkekcippfdbgaaGreat
set_option maxHeartbeats 400000
attribute [local irreducible] Calls

abbrev bts (s : ByteArray) : List UInt8 := s.data.toList
theorem bts_len (s : ByteArray) : (bts s).length = s.size := Array.length_toList
theorem bts_sub (s : ByteArray) (a b : Nat) : bts (bSub s a b) = ((bts s).drop a).take (b - a) := by
  unfold bSub
  show (s.extract a b).data.toList = _
  rw [ByteArray.data_extract, Array.toList_extract, List.extract_eq_take_drop]
theorem bts_ext {s t : ByteArray} (h : bts s = bts t) : s = t := by
  cases s; cases t
  congr 1
  exact Array.toList_inj.1 h
theorem sub_size {s : ByteArray} {a b : Nat} (h : b ≤ s.size) : (bSub s a b).size = b - a := by
  rw [← bts_len, bts_sub, List.length_take, List.length_drop, bts_len]; omega
theorem sub_sub {s : ByteArray} {a b c d : Nat} (h : a + d ≤ b) : bSub (bSub s a b) c d = bSub s (a + c) (a + d) := by
  apply bts_ext
  rw [bts_sub, bts_sub, bts_sub, List.drop_take, List.drop_drop, List.take_take]
  congr 1; omega
theorem byte_sub {s : ByteArray} {a b j : Nat} (h : a + j < b) : byteAt (bSub s a b) j = byteAt s (a + j) := by
  unfold byteAt
  have := bts_sub s a b
  unfold bts at this
  rw [this, List.getD_eq_getElem?_getD, List.getD_eq_getElem?_getD, List.getElem?_take_of_lt (by omega), List.getElem?_drop]

/-- The value of a digit in a base of at most 16. -/
def hexV (c : Int) : Int := if digitB c = true then c - 48 else if decide (97 ≤ c) && decide (c ≤ 102) then c - 97 + 10 else if decide (65 ≤ c) && decide (c ≤ 70) then c - 65 + 10 else -1
def digV (c base : Int) : Int := if base ≤ hexV c then -1 else hexV c
def inStr (c : Int) : Bool := decide (32 ≤ c) && decide (c ≤ 126) && decide (c ≠ 34) && decide (c ≠ 92)
theorem hexV_range (c : Int) : -1 ≤ hexV c ∧ hexV c < 16 := by
  unfold hexV digitB
  split
  · rename_i h; simp at h; omega
  · split
    · rename_i h; simp at h; omega
    · split
      · rename_i h; simp at h; omega
      · omega
theorem digV_range (c base : Int) (hb : 0 < base) : digV c base = -1 ∨ (0 ≤ digV c base ∧ digV c base < base ∧ digV c base < 16) := by
  have := hexV_range c
  unfold digV
  split
  · exact .inl rfl
  · by_cases h : hexV c = -1
    · exact .inl h
    · exact .inr ⟨by omega, by omega, this.2⟩

/-- The value of the digits. -/
def valL (base : Nat) : List UInt8 → Nat → Nat
  | [], v => v
  | c :: l, v => valL base l (v * base + (digV c.toNat base).toNat)
theorem valL_le (base : Nat) (hb : 0 < base) : ∀ (l : List UInt8) (v : Nat), v ≤ valL base l v
  | [], v => Nat.le_refl v
  | c :: l, v => Nat.le_trans (by
      have : v ≤ v * base := Nat.le_mul_of_pos_right v hb
      omega) (valL_le base hb l _)
def most64 : Nat := 18446744073709551615
/-- Digits, a base, a shift: the value and the error. -/
def numCore (base sh : Nat) (l : List UInt8) : Nat × Int :=
  if l.all (fun c => decide (0 ≤ digV c.toNat base)) = false then (0, 50)
  else if most64 >>> sh < valL base l 0 then (0, 6) else (valL base l 0 <<< sh, 0)
def sufK (c : Int) : Nat := if c = 71 then 30 else if c = 77 then 20 else if c = 75 then 10 else 0
/-- A numeral. -/
def numS (s : ByteArray) : Nat × Int :=
  let sh := sufK (byteAt s (s.size - 1))
  let s := if 0 < sh then bSub s 0 (s.size - 1) else s
  if 2 ≤ s.size ∧ byteAt s 0 = 48 ∧ byteAt s 1 = 120 then
    if s.size = 2 then (0, 50) else numCore 16 sh (bts (bSub s 2 s.size))
  else if s.size = 0 ∨ (1 < s.size ∧ byteAt s 0 = 48) then (0, 50) else numCore 10 sh (bts s)

/-- The length of the punctuation mark with which s begins. -/
def two2 (a b : Int) : Bool := (decide (a = 60) && decide (b = 61)) || (decide (a = 62) && decide (b = 61)) || (decide (a = 33) && decide (b = 61)) || (decide (a = 46) && decide (b = 46)) || (decide (a = 45) && decide (b = 62))
def oneB : List UInt8 := [123, 125, 40, 41, 91, 93, 44, 59, 58, 61, 60, 62, 33, 43, 45, 42, 63, 46, 47]
def punctN (s : ByteArray) : Nat := if 2 ≤ s.size ∧ two2 (byteAt s 0) (byteAt s 1) = true then 2 else if 0 < s.size ∧ (s.data.toList.getD 0 0) ∈ oneB then 1 else 0
def inStrC (b : UInt8) : Bool := inStr b.toNat
def strN (s : ByteArray) : Nat := 1 + (((bts s).drop 1).takeWhile inStrC).length
structure TokR where
  kind : Int
  text : ByteArray
  value : Nat
  n : Nat
  err : Int
def tokErr (e : Int) : TokR := ⟨0, ⟨#[]⟩, 0, 0, e⟩
/-- The token with which s begins. -/
def tokS (s : ByteArray) : TokR :=
  if letterB (byteAt s 0) = true then ⟨1, bSub s 0 (runN s), 0, runN s, 0⟩
  else if digitB (byteAt s 0) = true then (if (numS (bSub s 0 (runN s))).2 = 0 then ⟨2, ⟨#[]⟩, (numS (bSub s 0 (runN s))).1, runN s, 0⟩ else tokErr (numS (bSub s 0 (runN s))).2)
  else if byteAt s 0 = 34 then (if strN s < s.size ∧ byteAt s (strN s) = 34 then ⟨3, bSub s 1 (strN s), 0, strN s + 1, 0⟩ else tokErr 50)
  else if punctN s = 0 then tokErr 50 else ⟨4, bSub s 0 (punctN s), 0, punctN s, 0⟩

structure Tok where
  Kind : Int
  Text : ByteArray
  Value : Int
  Line : Int
  Col : Int
  deriving DecidableEq
instance : Inhabited Tok := ⟨⟨0, ⟨#[]⟩, 0, 0, 0⟩⟩
instance : GoT Tok where
  enc a := [.int .i64 a.Kind, .string a.Text, .int .u64 a.Value, .int .i64 a.Line, .int .i64 a.Col]
  inj a b h := by cases a; cases b; simp at h; simp [h]
  ks := [5, 1, 9, 5, 5]
  kinds a := rfl
structure PosT where
  Line : Int
  Col : Int
  deriving DecidableEq, Inhabited
instance : GoT PosT where
  enc a := [.int .i64 a.Line, .int .i64 a.Col]
  inj a b h := by cases a; cases b; simp at h; simp [h]
  ks := [5, 5]
  kinds a := rfl
/-- The position of an offset. -/
def posAt (s : ByteArray) : Nat → PosT
  | 0 => ⟨1, 1⟩
  | k + 1 => if byteAt s k = 10 then ⟨(posAt s k).Line + 1, 1⟩ else ⟨(posAt s k).Line, (posAt s k).Col + 1⟩
def skipN (s : ByteArray) (off : Nat) : Nat := off + (((bts s).drop off).takeWhile fun b => decide ((b.toNat : Int) ≠ 10)).length
def spaceB (c : Int) : Bool := decide (c = 10) || decide (c = 32) || decide (c = 9) || decide (c = 13)
def scanN (s : ByteArray) : Nat → Nat → List Tok → List Tok × PosT × Int
  | 0, _, acc => (acc, ⟨0, 0⟩, 0)
  | f + 1, off, acc =>
    if s.size ≤ off then (acc, ⟨0, 0⟩, 0)
    else if spaceB (byteAt s off) = true then scanN s f (off + 1) acc
    else if byteAt s off = 35 then scanN s f (skipN s off) acc
    else if (tokS (bSub s off s.size)).err = 0 then scanN s f (off + (tokS (bSub s off s.size)).n) (acc ++ [⟨(tokS (bSub s off s.size)).kind, (tokS (bSub s off s.size)).text, (tokS (bSub s off s.size)).value, (posAt s off).Line, (posAt s off).Col⟩])
    else ([], posAt s off, (tokS (bSub s off s.size)).err)
/-- What the scanners answer. -/
def scanS (s : ByteArray) : List Tok × PosT × Int := if 65536 < s.size then ([], ⟨0, 0⟩, 15) else scanN s (s.size + 1) 0 []
end Go.Proofs.YtnkekcippfdbgaaGreat
end
/- The program's lexer: characters, digits, prefixes, punctuation. -/
section
open Go Mk
namespace Go.Proofs.YtnkekcippfdbgaaGreat
set_option maxHeartbeats 4000000
attribute [local irreducible] Calls

theorem lExt {P : Program} {n : Nat} {opa : Array Oper} {QQ : Exit → Fr → World → Prop} {rest : List Oper} {ρ : Fr} {w : World} {d : Option Tmp} {ty : TypeId} {pos : String} {es : Array Edge} {f : Nat} {args : List Operand} {tys : Array TypeId} {vs : List Value} {v : Value}
    (he : ∀ w, (callFunc f vs.toArray).run P w = .ok (.value v) w) (h : L P n opa QQ rest (putO ρ d v) w) (ha : EvL ρ args vs := by exact byEV) (hd : okDst n d = true := by exact rfl) :
    L P n opa QQ (⟨d, .call { callee := .value (.func f), args := args.toArray, argTypes := tys }, ty, pos, es, none⟩ :: rest) ρ w :=
  L_y rfl hd (by
    unfold Mk.Yields
    simp only [execOp, resolve, ha.eqA, ev, Deferred.ofValue, Sem.run_bind, Sem.run_pure, Result.andThen_ok, invoke]
    simp [he]) h

instance pc_inString (c : Int) : PC Tryz.prog 112 [.int .u8 c] (.bool (inStr c)) := ⟨fun w => by
  refine calls_of_W Tryz.func112 rfl rfl ?_
  repeat (first | refine byW ?_ | (refine byV ?_; intro w hw))
  exact ⟨_, rfl, rfl, rfl⟩⟩
class SmallB (b : Int) : Prop where h : 0 < b ∧ b ≤ 16
instance : SmallB 10 := ⟨by decide⟩
instance : SmallB 16 := ⟨by decide⟩
theorem u8_wrap {a : Int} (h0 : 0 ≤ a) (h1 : a ≤ 255) : IntKind.u8.wrap a = a := by
  simp [IntKind.wrap, IntKind.bits, IntKind.signed]; omega
theorem byte_le (b : UInt8) : 0 ≤ ((b.toNat : Nat) : Int) ∧ ((b.toNat : Nat) : Int) ≤ 255 := by
  have := b.toNat_lt; omega
instance pc_digV (b : UInt8) (base : Int) [hb : SmallB base] : PC Tryz.prog 151 [.int .u8 ((b.toNat : Nat) : Int), .int .u64 base] (.int .i64 (digV ((b.toNat : Nat) : Int) base)) := ⟨fun w => by
  obtain ⟨hb0, hb1⟩ := hb.h
  obtain ⟨hc0, hc1⟩ := byte_le b
  generalize ((b.toNat : Nat) : Int) = c at *
  have hbw : IntKind.i64.wrap base = base := wrap_i64 (by omega) (by omega)
  refine calls_of_W Tryz.func151 rfl rfl ?_
  iterate 8 (first | refine byW ?_ | (refine byV ?_; intro w hw))
  refine W_cut (fun ρ w' => Has ρ [(1, .int .u64 base), (5, .int .i64 (hexV c))] ∧ w' = w) ?_ ?_
  · repeat (first | refine byW ?_ | (refine byV ?_; intro w hw))
    refine W_cond rfl (fun h => ?_) (fun h => ?_)
    · repeat (first | refine byW ?_ | (refine byV ?_; intro w hw))
      refine ⟨⟨rfl, ?_, trivial⟩, rfl⟩
      have h1 : 48 ≤ c ∧ c ≤ 57 := by simpa [digitB] using h
      show Value.int .i64 (IntKind.i64.wrap (IntKind.u8.wrap (c - 48))) = _
      rw [u8_wrap (by omega) (by omega), wrap_i64 (by omega) (by omega)]
      unfold hexV; rw [if_pos h]
    · repeat (first | refine byW ?_ | (refine byV ?_; intro w hw))
      refine W_cond rfl (fun h2 => ?_) (fun h2 => ?_)
      · repeat (first | refine byW ?_ | (refine byV ?_; intro w hw))
        refine ⟨⟨rfl, ?_, trivial⟩, rfl⟩
        have h1 : 97 ≤ c ∧ c ≤ 102 := by simpa using h2
        show Value.int .i64 (IntKind.i64.wrap (IntKind.i64.wrap (IntKind.u8.wrap (c - 97)) + 10)) = _
        rw [u8_wrap (by omega) (by omega), wrap_i64 (a := c - 97) (by omega) (by omega), wrap_i64 (by omega) (by omega)]
        unfold hexV; rw [if_neg (by simp [h]), if_pos h2]
      · repeat (first | refine byW ?_ | (refine byV ?_; intro w hw))
        refine W_cond rfl (fun h3 => ?_) (fun h3 => ?_)
        · repeat (first | refine byW ?_ | (refine byV ?_; intro w hw))
          refine ⟨⟨rfl, ?_, trivial⟩, rfl⟩
          have h1 : 65 ≤ c ∧ c ≤ 70 := by simpa using h3
          show Value.int .i64 (IntKind.i64.wrap (IntKind.i64.wrap (IntKind.u8.wrap (c - 65)) + 10)) = _
          rw [u8_wrap (by omega) (by omega), wrap_i64 (a := c - 65) (by omega) (by omega), wrap_i64 (by omega) (by omega)]
          unfold hexV; rw [if_neg (by simp [h]), if_neg (by simpa using h2), if_pos h3]
        · repeat (first | refine byW ?_ | (refine byV ?_; intro w hw))
          refine ⟨⟨rfl, ?_, trivial⟩, rfl⟩
          show Value.int .i64 (-1) = _
          unfold hexV; rw [if_neg (by simp [h]), if_neg (by simpa using h2), if_neg (by simpa using h3)]
  · rintro ρ w' ⟨hρ, rfl⟩
    rw [hρ.eq]
    repeat (first | refine byW ?_ | (refine byV ?_; intro w hw))
    rw [hbw]
    refine W_cond rfl (fun h => ?_) (fun h => ?_)
    · repeat (first | refine byW ?_ | (refine byV ?_; intro w hw))
      have h : base ≤ hexV c := by simpa using h
      exact ⟨_, rfl, ret_i rfl (by unfold digV; rw [if_pos h]), rfl⟩
    · repeat (first | refine byW ?_ | (refine byV ?_; intro w hw))
      have h : ¬ base ≤ hexV c := by simpa using h
      exact ⟨_, rfl, ret_i rfl (by unfold digV; rw [if_neg h]), rfl⟩⟩
instance pc_HasPrefix (s p : ByteArray) : PC Tryz.prog 150 [.string s, .string p] (.bool (decide ((p.size : Int) ≤ s.size) && decide (bSub s 0 p.size = p))) := ⟨fun w => by
  have h1 : PC Tryz.prog 168 [.string s, .string p] (.bool (decide ((p.size : Int) ≤ s.size) && decide (bSub s 0 p.size = p))) := ⟨fun w => by
    refine calls_of_W Tryz.func168 rfl rfl ?_
    repeat (first | refine byW ?_ | (refine byV ?_; intro w hw))
    exact ⟨_, rfl, rfl, rfl⟩⟩
  refine calls_of_W Tryz.func150 rfl rfl ?_
  repeat (first | refine byW ?_ | (refine byV ?_; intro w hw))
  exact ⟨_, rfl, rfl, rfl⟩⟩
theorem ext_IndexByte (s : ByteArray) (c : Int) (w : World) : (callFunc 181 #[.string s, .int .u8 c]).run Tryz.prog w = .ok (.value (.int .i64 (firstIdx s c.toNat.toUInt8))) w := by
  rw [run_callFunc_extern Tryz.func181 (by kernel_rfl) (by kernel_rfl) (e := Extern.BytealgIndexByte.indexByte) (by kernel_rfl) (by kernel_rfl), run_indexByte_string]
  rfl
instance pc_IndexByte (s : ByteArray) (c : Int) : PC Tryz.prog 152 [.string s, .int .u8 c] (.int .i64 (firstIdx s c.toNat.toUInt8)) := ⟨fun w => by
  have h1 : PC Tryz.prog 169 [.string s, .int .u8 c] (.int .i64 (firstIdx s c.toNat.toUInt8)) := ⟨fun w => by
    refine calls_of_W Tryz.func169 rfl rfl ?_
    repeat (first | refine byW ?_ | (refine byV ?_; intro w hw))
    refine lExt (vs := [.string s, .int .u8 c]) (ext_IndexByte s c) ?_
    repeat (first | refine byW ?_ | (refine byV ?_; intro w hw))
    exact ⟨_, rfl, rfl, rfl⟩⟩
  refine calls_of_W Tryz.func152 rfl rfl ?_
  repeat (first | refine byW ?_ | (refine byV ?_; intro w hw))
  exact ⟨_, rfl, rfl, rfl⟩⟩
end Go.Proofs.YtnkekcippfdbgaaGreat
end
/- The program's lexer: punctuation and numerals. -/
section
open Go Mk
namespace Go.Proofs.YtnkekcippfdbgaaGreat
set_option maxHeartbeats 4000000
attribute [local irreducible] Calls

theorem two_bytes {s : ByteArray} (h : 2 ≤ s.size) : ∃ x y : UInt8, byteAt s 0 = x.toNat ∧ byteAt s 1 = y.toNat ∧ bSub s 0 2 = ⟨#[x, y]⟩ := by
  have hl := bts_len s
  obtain ⟨x, y, r, hr⟩ : ∃ x y r, bts s = x :: y :: r := by
    match hb : bts s with
    | [] => rw [hb] at hl; simp at hl; omega
    | [x] => rw [hb] at hl; simp at hl; omega
    | x :: y :: r => exact ⟨x, y, r, rfl⟩
  refine ⟨x, y, ?_, ?_, ?_⟩
  · show (((bts s).getD 0 0).toNat : Int) = _; rw [hr]; rfl
  · show (((bts s).getD 1 0).toNat : Int) = _; rw [hr]; rfl
  · apply bts_ext; rw [bts_sub, hr]; rfl
theorem pair_eq (x y a b : UInt8) : ((⟨#[x, y]⟩ : ByteArray) = ⟨#[a, b]⟩) ↔ (x.toNat = a.toNat ∧ y.toNat = b.toNat) := by
  simp [UInt8.toNat_inj]
theorem one_punct : ∀ n : Fin 256, decide (0 ≤ firstIdx ⟨#[123, 125, 40, 41, 91, 93, 44, 59, 58, 61, 60, 62, 33, 43, 45, 42, 63, 46, 47]⟩ (UInt8.ofNat n.1)) = decide (UInt8.ofNat n.1 ∈ oneB) := by decide +kernel
instance pc_punct (s : ByteArray) [hs : SB s] : PC Tryz.prog 113 [.string s] (.int .i64 (punctN s)) := ⟨fun w => by
  have hs := hs.h
  refine calls_of_W Tryz.func113 rfl rfl ?_
  iterate 4 (first | refine byW ?_ | (refine byV ?_; intro w hw))
  refine W_cut (fun ρ w' => Has ρ [(0, .string s)] ∧ w' = w ∧ ¬ (2 ≤ s.size ∧ two2 (byteAt s 0) (byteAt s 1) = true)) ?_ ?_
  · repeat (first | refine byW ?_ | (refine byV ?_; intro w hw))
    refine W_cond rfl (fun h => ?_) (fun h => ?_)
    · have h : 2 ≤ s.size := by simp at h; omega
      obtain ⟨x, y, hx, hy, hxy⟩ := two_bytes h
      have key : two2 (byteAt s 0) (byteAt s 1) = true → Ending.returned (.int .i64 2) = Ending.returned (.int .i64 (punctN s)) := fun ht => by
        unfold punctN; rw [if_pos ⟨h, ht⟩]; rfl
      rw [hx, hy] at key
      repeat (first | refine byW ?_ | (refine byV ?_; intro w hw))
      rw [show (2 : Int).toNat = 2 from rfl, hxy]
      refine W_cond rfl (fun h1 => ?_) (fun h1 => ?_)
      · repeat (first | refine byW ?_ | (refine byV ?_; intro w hw))
        refine W_cond_true (by simp only [h1]; rfl) ?_
        repeat (first | refine byW ?_ | (refine byV ?_; intro w hw))
        have q := (pair_eq _ _ _ _).1 (of_decide_eq_true h1)
        exact ⟨_, rfl, key (by simp [two2, q]), rfl⟩
      repeat (first | refine byW ?_ | (refine byV ?_; intro w hw))
      refine W_cond rfl (fun h2 => ?_) (fun h2 => ?_)
      · repeat (first | refine byW ?_ | (refine byV ?_; intro w hw))
        refine W_cond_true (by simp only [h2]; rfl) ?_
        repeat (first | refine byW ?_ | (refine byV ?_; intro w hw))
        have q := (pair_eq _ _ _ _).1 (of_decide_eq_true h2)
        exact ⟨_, rfl, key (by simp [two2, q]), rfl⟩
      repeat (first | refine byW ?_ | (refine byV ?_; intro w hw))
      refine W_cond rfl (fun h3 => ?_) (fun h3 => ?_)
      · repeat (first | refine byW ?_ | (refine byV ?_; intro w hw))
        refine W_cond_true (by simp only [h3]; rfl) ?_
        repeat (first | refine byW ?_ | (refine byV ?_; intro w hw))
        have q := (pair_eq _ _ _ _).1 (of_decide_eq_true h3)
        exact ⟨_, rfl, key (by simp [two2, q]), rfl⟩
      repeat (first | refine byW ?_ | (refine byV ?_; intro w hw))
      refine W_cond rfl (fun h4 => ?_) (fun h4 => ?_)
      · repeat (first | refine byW ?_ | (refine byV ?_; intro w hw))
        refine W_cond_true (by simp only [h4]; rfl) ?_
        repeat (first | refine byW ?_ | (refine byV ?_; intro w hw))
        have q := (pair_eq _ _ _ _).1 (of_decide_eq_true h4)
        exact ⟨_, rfl, key (by simp [two2, q]), rfl⟩
      repeat (first | refine byW ?_ | (refine byV ?_; intro w hw))
      refine W_cond rfl (fun h5 => ?_) (fun h5 => ?_)
      · repeat (first | refine byW ?_ | (refine byV ?_; intro w hw))
        have q := (pair_eq _ _ _ _).1 (of_decide_eq_true h5)
        exact ⟨_, rfl, key (by simp [two2, q]), rfl⟩
      · repeat (first | refine byW ?_ | (refine byV ?_; intro w hw))
        refine ⟨⟨rfl, trivial⟩, rfl, fun hh => ?_⟩
        have hh := hh.2
        rw [hx, hy] at hh
        have q := fun a b (hq : decide ((⟨#[x, y]⟩ : ByteArray) = ⟨#[a, b]⟩) = false) => mt (pair_eq x y a b).2 (of_decide_eq_false hq)
        have q1 := q _ _ h1
        have q2 := q _ _ h2
        have q3 := q _ _ h3
        have q4 := q _ _ h4
        have q5 := q _ _ h5
        simp [two2] at hh q1 q2 q3 q4 q5
        omega
    · have h : ¬ 2 ≤ s.size := by simp at h; omega
      repeat (first | refine byW ?_ | (refine byV ?_; intro w hw))
      exact ⟨⟨rfl, trivial⟩, rfl, fun hh => h hh.1⟩
  · rintro ρ w' ⟨hρ, rfl, hn⟩
    rw [hρ.eq]
    have key : (decide (s ≠ ⟨#[]⟩) && decide (0 ≤ firstIdx ⟨#[123, 125, 40, 41, 91, 93, 44, 59, 58, 61, 60, 62, 33, 43, 45, 42, 63, 46, 47]⟩ (byteAt s 0).toNat.toUInt8)) = decide (punctN s = 1) := by
      have h1 := one_punct ⟨(s.data.toList.getD 0 0).toNat, (s.data.toList.getD 0 0).toNat_lt⟩
      have h2 : (byteAt s 0).toNat.toUInt8 = s.data.toList.getD 0 0 := by
        show (((s.data.toList.getD 0 0).toNat : Int).toNat).toUInt8 = _
        rw [Int.toNat_natCast]; simp
      have h3 : UInt8.ofNat (s.data.toList.getD 0 0).toNat = s.data.toList.getD 0 0 := by simp
      rw [h3] at h1
      rw [h2, h1]
      unfold punctN
      rw [if_neg hn]
      rw [show decide (s ≠ ⟨#[]⟩) = decide (0 < s.size) from decide_eq_decide.2 ne_nilB]
      by_cases e1 : 0 < s.size <;> by_cases e2 : s.data.toList.getD 0 0 ∈ oneB <;> simp [e1, e2]
    have hp : punctN s = 1 ∨ punctN s = 0 := by
      unfold punctN; rw [if_neg hn]; split <;> simp
    repeat (first | refine byW ?_ | (refine byV ?_; intro w hw))
    refine W_cond rfl (fun h => ?_) (fun h => ?_)
    · have h := of_decide_eq_true (key.symm.trans h)
      repeat (first | refine byW ?_ | (refine byV ?_; intro w hw))
      exact ⟨_, rfl, ret_i rfl (by rw [h]; rfl), rfl⟩
    · have h := of_decide_eq_false (key.symm.trans h)
      have h0 := hp.resolve_left h
      repeat (first | refine byW ?_ | (refine byV ?_; intro w hw))
      exact ⟨_, rfl, ret_i rfl (by rw [h0]; rfl), rfl⟩⟩
end Go.Proofs.YtnkekcippfdbgaaGreat
end
/- The program's lexer: numerals. -/
section
open Go Mk
namespace Go.Proofs.YtnkekcippfdbgaaGreat
set_option maxHeartbeats 4000000
attribute [local irreducible] Calls

theorem u64_wrap {a : Int} (h0 : 0 ≤ a) (h1 : a ≤ 18446744073709551615) : IntKind.u64.wrap a = a := by
  simp [IntKind.wrap, IntKind.bits, IntKind.signed]; omega
theorem sufK_cases (c : Int) : sufK c = 0 ∨ sufK c = 10 ∨ sufK c = 20 ∨ sufK c = 30 := by
  unfold sufK; repeat (first | split | simp)
/-- What is left of a numeral when its suffix is off. -/
def numBody (sh : Nat) (s : ByteArray) : Nat × Int :=
  if 2 ≤ s.size ∧ byteAt s 0 = 48 ∧ byteAt s 1 = 120 then
    if s.size = 2 then (0, 50) else numCore 16 sh (bts (bSub s 2 s.size))
  else if s.size = 0 ∨ (1 < s.size ∧ byteAt s 0 = 48) then (0, 50) else numCore 10 sh (bts s)
def cutS (s : ByteArray) : ByteArray := if 0 < sufK (byteAt s (s.size - 1)) then bSub s 0 (s.size - 1) else s
theorem numS_body (s : ByteArray) : numS s = numBody (sufK (byteAt s (s.size - 1))) (cutS s) := rfl
def numB (base sh : Nat) (s : ByteArray) : Nat × Int := if s.size = 0 ∨ (base = 10 ∧ 1 < s.size ∧ byteAt s 0 = 48) then (0, 50) else numCore base sh (bts s)
theorem pre0x {s : ByteArray} : (decide (((⟨#[48, 120]⟩ : ByteArray).size : Int) ≤ s.size) && decide (bSub s 0 (⟨#[48, 120]⟩ : ByteArray).size = ⟨#[48, 120]⟩)) = decide (2 ≤ s.size ∧ byteAt s 0 = 48 ∧ byteAt s 1 = 120) := by
  show (decide ((2 : Int) ≤ s.size) && decide (bSub s 0 2 = ⟨#[48, 120]⟩)) = _
  by_cases h : 2 ≤ s.size
  · obtain ⟨x, y, hx, hy, hxy⟩ := two_bytes h
    rw [hxy, hx, hy]
    have h1 : (2 : Int) ≤ s.size := by omega
    have h2 := pair_eq x y 48 120
    simp only [h, h1, h2, decide_true, Bool.true_and, true_and]
    congr 1
    simp
    omega
  · have h1 : ¬ (2 : Int) ≤ s.size := by omega
    simp [h, h1]
theorem numB_pre {sh : Nat} {s : ByteArray} (h : 2 ≤ s.size ∧ byteAt s 0 = 48 ∧ byteAt s 1 = 120) : numBody sh s = numB 16 sh (bSub s 2 s.size) := by
  unfold numBody numB
  rw [if_pos h, sub_size (Nat.le_refl _)]
  by_cases h2 : s.size = 2
  · rw [if_pos h2, if_pos (.inl (by omega))]
  · rw [if_neg h2, if_neg (by omega)]
theorem numB_no {sh : Nat} {s : ByteArray} (h : ¬ (2 ≤ s.size ∧ byteAt s 0 = 48 ∧ byteAt s 1 = 120)) : numBody sh s = numB 10 sh s := by
  unfold numBody numB
  rw [if_neg h]
  simp

theorem drop_at {α : Type} {l : List α} {k : Nat} {x : α} (h : l[k]? = some x) : l.drop k = x :: l.drop (k + 1) := by
  obtain ⟨h1, h2⟩ := List.getElem?_eq_some_iff.1 h
  rw [← h2]; exact List.drop_eq_getElem_cons h1
class NE (s : ByteArray) : Prop where h : 0 < s.size
theorem number_any (s : ByteArray) (hs : s.size ≤ 4611686018427387904) (h0 : 0 < s.size) (w : World) :
    Calls Tryz.prog 111 #[.string s] w fun e w' => e = .returned (.tuple #[.int .u64 (numS s).1, .int .i64 (numS s).2]) ∧ w' = w := by
  refine calls_of_W Tryz.func111 rfl rfl ?_
  iterate 9 (first | refine byW ?_ | (refine byV ?_; intro w hw))
  refine W_cut (fun ρ w' => ∃ s' : ByteArray, ∃ sh : Nat, Has ρ [(0, .string s'), (4, .int .i64 sh)] ∧ w' = w ∧ s' = cutS s ∧ sh = sufK (byteAt s (s.size - 1))) ?_ ?_
  · have e1 : ((s.size : Int) - 1).toNat = s.size - 1 := by omega
    repeat (first | refine byW ?_ | (refine byV ?_; intro w hw))
    rw [e1]
    refine W_cond rfl (fun h => ?_) (fun h => ?_)
    · have h : byteAt s (s.size - 1) = 71 := of_decide_eq_true h
      have hk : sufK (byteAt s (s.size - 1)) = 30 := by rw [h]; rfl
      repeat (first | refine byW ?_ | (refine byV ?_; intro w hw))
      rw [e1]
      exact ⟨_, 30, ⟨rfl, rfl, trivial⟩, rfl, by unfold cutS; rw [hk]; rfl, hk.symm⟩
    repeat (first | refine byW ?_ | (refine byV ?_; intro w hw))
    refine W_cond rfl (fun h2 => ?_) (fun h2 => ?_)
    · have h2 : byteAt s (s.size - 1) = 77 := of_decide_eq_true h2
      have hk : sufK (byteAt s (s.size - 1)) = 20 := by rw [h2]; rfl
      repeat (first | refine byW ?_ | (refine byV ?_; intro w hw))
      rw [e1]
      exact ⟨_, 20, ⟨rfl, rfl, trivial⟩, rfl, by unfold cutS; rw [hk]; rfl, hk.symm⟩
    repeat (first | refine byW ?_ | (refine byV ?_; intro w hw))
    refine W_cond rfl (fun h3 => ?_) (fun h3 => ?_)
    · have h3 : byteAt s (s.size - 1) = 75 := of_decide_eq_true h3
      have hk : sufK (byteAt s (s.size - 1)) = 10 := by rw [h3]; rfl
      repeat (first | refine byW ?_ | (refine byV ?_; intro w hw))
      rw [e1]
      exact ⟨_, 10, ⟨rfl, rfl, trivial⟩, rfl, by unfold cutS; rw [hk]; rfl, hk.symm⟩
    · have h : ¬ byteAt s (s.size - 1) = 71 := of_decide_eq_false h
      have h2 : ¬ byteAt s (s.size - 1) = 77 := of_decide_eq_false h2
      have h3 : ¬ byteAt s (s.size - 1) = 75 := of_decide_eq_false h3
      have hk : sufK (byteAt s (s.size - 1)) = 0 := by unfold sufK; rw [if_neg h, if_neg h2, if_neg h3]
      repeat (first | refine byW ?_ | (refine byV ?_; intro w hw))
      exact ⟨s, 0, ⟨rfl, rfl, trivial⟩, rfl, by unfold cutS; rw [hk]; rfl, hk.symm⟩
  · rintro ρ w' ⟨s', sh, hρ, rfl, hs', hsh⟩
    rw [hρ.eq, numS_body, ← hs', ← hsh]
    have hcase := sufK_cases (byteAt s (s.size - 1))
    rw [← hsh] at hcase
    have hsz : s'.size ≤ 4611686018427387904 := by
      rw [hs']; unfold cutS; split
      · rw [sub_size (by omega)]; omega
      · exact hs
    clear hs' hsh hρ
    iterate 4 (first | refine byW ?_ | (refine byV ?_; intro w hw))
    refine W_cut (fun ρ w'' => ∃ s2 : ByteArray, ∃ base : Nat, Has ρ [(0, .string s2), (4, .int .i64 sh), (5, .int .u64 base)] ∧ w'' = w' ∧ numBody sh s' = numB base sh s2 ∧ (base = 10 ∨ base = 16) ∧ s2.size ≤ 4611686018427387904) ?_ ?_
    · repeat (first | refine byW ?_ | (refine byV ?_; intro w hw))
      rw [pre0x]
      refine W_cond rfl (fun h => ?_) (fun h => ?_)
      · have h := of_decide_eq_true h
        obtain ⟨hp1, hp2, hp3⟩ := h
        repeat (first | refine byW ?_ | (refine byV ?_; intro w hw))
        exact ⟨bSub s' 2 s'.size, 16, ⟨rfl, rfl, rfl, trivial⟩, rfl, numB_pre ⟨hp1, hp2, hp3⟩, .inr rfl, by rw [sub_size (Nat.le_refl _)]; omega⟩
      · have h := of_decide_eq_false h
        repeat (first | refine byW ?_ | (refine byV ?_; intro w hw))
        exact ⟨s', 10, ⟨rfl, rfl, rfl, trivial⟩, rfl, numB_no h, .inl rfl, hsz⟩
    · rintro ρ w'' ⟨s2, base, hρ, rfl, hN, hbase, hsz2⟩
      rw [hρ.eq, hN]
      clear hN hρ hsz
      have key : (decide (s2 = ⟨#[]⟩) || ((decide ((base : Int) = 10) && decide ((1 : Int) < s2.size)) && decide (byteAt s2 0 = 48))) = decide (s2.size = 0 ∨ (base = 10 ∧ 1 < s2.size ∧ byteAt s2 0 = 48)) := by
        rw [show decide (s2 = ⟨#[]⟩) = decide (s2.size = 0) from decide_eq_decide.2 eq_nilB]
        rw [show decide ((base : Int) = 10) = decide (base = 10) from decide_eq_decide.2 (by omega), show decide ((1 : Int) < s2.size) = decide (1 < s2.size) from decide_eq_decide.2 (by omega)]
        by_cases e1 : s2.size = 0 <;> by_cases e2 : base = 10 <;> by_cases e3 : 1 < s2.size <;> by_cases e4 : byteAt s2 0 = 48 <;> simp [e1, e2, e3, e4]
      repeat (first | refine byW ?_ | (refine byV ?_; intro w hw))
      refine W_cond rfl (fun h => ?_) (fun h => ?_)
      · have h := of_decide_eq_true (key.symm.trans h)
        repeat (first | refine byW ?_ | (refine byV ?_; intro w hw))
        exact ⟨_, rfl, by unfold numB; rw [if_pos h]; rfl, rfl⟩
      have h := of_decide_eq_false (key.symm.trans h)
      have hN : numB base sh s2 = numCore base sh (bts s2) := by unfold numB; rw [if_neg h]
      rw [hN]
      clear hN key
      haveI : SmallB (base : Int) := ⟨by omega⟩
      have hbl := bts_len s2
      repeat (first | refine byW ?_ | (refine byV ?_; intro w hw))
      refine W_loop (fun μ ρ w => ∃ k : Nat, μ + k = s2.size ∧ Has ρ [(0, .string s2), (4, .int .i64 sh), (5, .int .u64 base), (6, .int .i64 k)] ∧ ((bts s2).take k).all (fun c => decide (0 ≤ digV c.toNat base)) = true ∧ w = w'') s2.size ⟨0, by omega, ⟨rfl, rfl, rfl, rfl, trivial⟩, rfl, rfl⟩ ?_
      rintro μ ρ w ⟨k, hk, hρ, hall, rfl⟩
      rw [hρ.eq]
      repeat (first | refine byW ?_ | (refine byV ?_; intro w hw))
      refine W_cond rfl (fun h1 => ?_) (fun h1 => ?_)
      · have hkn : k < s2.size := by simpa using h1
        obtain ⟨c, hc⟩ := get_lt (l := bts s2) (k := k) (by omega)
        have hg : s2.data.toList.getD (k : Int).toNat 0 = c := by
          show (bts s2).getD k 0 = c
          rw [List.getD_eq_getElem?_getD, hc]; rfl
        have hmem : c ∈ bts s2 := List.mem_of_getElem? hc
        repeat (first | refine byW ?_ | (refine byV ?_; intro w hw))
        rw [hg]
        refine W_cond rfl (fun h2 => ?_) (fun h2 => ?_)
        · have h2 : digV c.toNat base < 0 := of_decide_eq_true h2
          have hf : (bts s2).all (fun c => decide (0 ≤ digV c.toNat base)) = false := by
            rw [List.all_eq_false]
            exact ⟨c, hmem, by simp; omega⟩
          repeat (first | refine byW ?_ | (refine byV ?_; intro w hw))
          exact ⟨_, rfl, by unfold numCore; rw [if_pos hf]; rfl, rfl⟩
        · have h2 : ¬ digV c.toNat base < 0 := of_decide_eq_false h2
          repeat (first | refine byW ?_ | (refine byV ?_; intro w hw))
          refine ⟨μ - 1, by omega, k + 1, by omega, ⟨rfl, rfl, rfl, rfl, trivial⟩, ?_, rfl⟩
          rw [List.take_add_one, hc, List.all_append, hall]
          simp; omega
      have hkn : ¬ k < s2.size := by simpa using h1
      rw [List.take_of_length_le (by omega)] at hall
      clear h1 hkn
      repeat (first | refine byW ?_ | (refine byV ?_; intro w hw))
      refine W_loop (fun μ ρ w' => ∃ k v : Nat, μ + k = s2.size ∧ Has ρ [(0, .string s2), (4, .int .i64 sh), (5, .int .u64 base), (7, .int .u64 v), (8, .int .i64 k)] ∧ valL base (bts s2) 0 = valL base ((bts s2).drop k) v ∧ v ≤ most64 ∧ w' = w) s2.size ⟨0, 0, by omega, ⟨rfl, rfl, rfl, rfl, rfl, trivial⟩, rfl, by unfold most64; omega, rfl⟩ ?_
      rintro μ ρ w' ⟨k, v, hk, hρ, hval, hvm, rfl⟩
      rw [hρ.eq]
      repeat (first | refine byW ?_ | (refine byV ?_; intro w hw))
      refine W_cond rfl (fun h1 => ?_) (fun h1 => ?_)
      · have hkn : k < s2.size := by simpa using h1
        obtain ⟨c, hc⟩ := get_lt (l := bts s2) (k := k) (by omega)
        have hg : s2.data.toList.getD (k : Int).toNat 0 = c := by
          show (bts s2).getD k 0 = c
          rw [List.getD_eq_getElem?_getD, hc]; rfl
        have hd0 : 0 ≤ digV c.toNat base := by
          have := List.all_eq_true.1 hall c (List.mem_of_getElem? hc)
          simpa using this
        have hdr := (digV_range c.toNat base (by omega)).resolve_left (by omega)
        rw [drop_at hc] at hval
        have hval : valL base (bts s2) 0 = valL base ((bts s2).drop (k + 1)) (v * base + (digV c.toNat base).toNat) := hval
        obtain ⟨d, hd⟩ : ∃ d : Nat, digV c.toNat base = (d : Int) := ⟨(digV c.toNat base).toNat, by omega⟩
        rw [hd] at hval hdr
        rw [Int.toNat_natCast] at hval
        have hmost : (most64 : Int) = 18446744073709551615 := rfl
        have hw1 : IntKind.u64.wrap (d : Int) = d := u64_wrap (by omega) (by omega)
        have hw2 : IntKind.u64.wrap (18446744073709551615 - (d : Int)) = 18446744073709551615 - d := u64_wrap (by omega) (by omega)
        have hdiv : (18446744073709551615 - (d : Int)).tdiv base = (18446744073709551615 - (d : Int)) / base := Int.tdiv_eq_ediv_of_nonneg (by omega)
        have hq0 : 0 ≤ (18446744073709551615 - (d : Int)) / base := Int.ediv_nonneg (by omega) (by omega)
        have hq1 : (18446744073709551615 - (d : Int)) / base ≤ 18446744073709551615 - (d : Int) := Int.ediv_le_self _ (by omega)
        have hw3 : IntKind.u64.wrap ((18446744073709551615 - (d : Int)) / base) = (18446744073709551615 - (d : Int)) / base := u64_wrap hq0 (by omega)
        have hle : (v : Int) ≤ (18446744073709551615 - (d : Int)) / base ↔ (v : Int) * base ≤ 18446744073709551615 - d := Int.le_ediv_iff_mul_le (by omega)
        repeat (first | refine byW ?_ | (refine byV ?_; intro w hw))
        rw [hg, hd, hw1, hw2, hdiv, hw3]
        refine W_cond rfl (fun h2 => ?_) (fun h2 => ?_)
        · have h2 : (18446744073709551615 - (d : Int)) / base < v := of_decide_eq_true h2
          have h3 : ¬ (v : Int) * base ≤ 18446744073709551615 - d := fun hh => by have := hle.2 hh; omega
          have h4 : most64 < v * base + d := by
            have : (most64 : Int) < ((v * base + d : Nat) : Int) := by rw [hmost]; push_cast; omega
            omega
          have h5 := valL_le base (by omega) ((bts s2).drop (k + 1)) (v * base + d)
          have h6 : most64 >>> sh ≤ most64 := Nat.shiftRight_le _ _
          repeat (first | refine byW ?_ | (refine byV ?_; intro w hw))
          refine ⟨_, rfl, ?_, rfl⟩
          unfold numCore
          rw [if_neg (by rw [hall]; simp), if_pos (by rw [hval]; omega)]; rfl
        · have h2 : ¬ (18446744073709551615 - (d : Int)) / base < v := of_decide_eq_false h2
          have h3 : (v : Int) * base ≤ 18446744073709551615 - d := hle.1 (by omega)
          have h3' : 0 ≤ (v : Int) * base := Int.mul_nonneg (by omega) (by omega)
          have hw4 : IntKind.u64.wrap ((v : Int) * base) = v * base := u64_wrap h3' (by omega)
          have hw5 : IntKind.u64.wrap ((v : Int) * base + d) = v * base + d := u64_wrap (by omega) (by omega)
          repeat (first | refine byW ?_ | (refine byV ?_; intro w hw))
          refine ⟨μ - 1, by omega, k + 1, v * base + d, by omega, ⟨rfl, rfl, rfl, ?_, rfl, trivial⟩, hval, ?_, rfl⟩
          · show Value.int .u64 (IntKind.u64.wrap (IntKind.u64.wrap ((v : Int) * base) + d)) = _
            rw [hw4, hw5]; push_cast; rfl
          · have : ((v * base + d : Nat) : Int) ≤ (most64 : Int) := by rw [hmost]; push_cast; omega
            omega
      have hkn : ¬ k < s2.size := by simpa using h1
      rw [List.drop_eq_nil_of_le (by omega)] at hval
      have hval : valL base (bts s2) 0 = v := hval
      have hcore : numCore base sh (bts s2) = if most64 >>> sh < v then (0, 6) else (v <<< sh, 0) := by
        unfold numCore
        rw [if_neg (by rw [hall]; simp), hval]
      rw [hcore]
      have key1 : (18446744073709551615 : Int).fdiv (2 ^ (min (sh : Int).toNat IntKind.u64.bits)) = ((most64 >>> sh : Nat) : Int) := by
        rcases hcase with rfl | rfl | rfl | rfl <;> decide +kernel
      have hmin : min (sh : Int).toNat IntKind.u64.bits = sh := by
        rcases hcase with rfl | rfl | rfl | rfl <;> rfl
      repeat (first | refine byW ?_ | (refine byV ?_; intro w hw))
      rw [key1]
      refine W_cond rfl (fun h2 => ?_) (fun h2 => ?_)
      · have h2 : most64 >>> sh < v := by have := of_decide_eq_true h2; omega
        repeat (first | refine byW ?_ | (refine byV ?_; intro w hw))
        refine ⟨_, rfl, ?_, rfl⟩
        rw [if_pos h2]; rfl
      · have h2 : ¬ most64 >>> sh < v := by have := of_decide_eq_false h2; omega
        have h3 : v * 2 ^ sh ≤ most64 := by
          rw [Nat.shiftRight_eq_div_pow] at h2
          exact (Nat.le_div_iff_mul_le (Nat.two_pow_pos sh)).1 (by omega)
        have h4 : IntKind.u64.wrap ((v : Int) * 2 ^ (min (sh : Int).toNat IntKind.u64.bits)) = ((v <<< sh : Nat) : Int) := by
          rw [hmin, Nat.shiftLeft_eq]
          have e : ((v * 2 ^ sh : Nat) : Int) = (v : Int) * 2 ^ sh := by push_cast; rfl
          rw [← e]
          have hmost : most64 = 18446744073709551615 := rfl
          exact u64_wrap (by omega) (by omega)
        repeat (first | refine byW ?_ | (refine byV ?_; intro w hw))
        refine ⟨_, rfl, ?_, rfl⟩
        rw [if_neg h2]
        show Ending.returned (.tuple #[.int .u64 (IntKind.u64.wrap ((v : Int) * 2 ^ (min (sh : Int).toNat IntKind.u64.bits))), .int .i64 0]) = _
        rw [h4]
end Go.Proofs.YtnkekcippfdbgaaGreat
end
/- The program's lexer: a token. -/
section
open Go Mk
namespace Go.Proofs.YtnkekcippfdbgaaGreat
set_option maxHeartbeats 4000000
attribute [local irreducible] Calls numS punctN

def tokOf (t : TokR) : Tok := ⟨t.kind, t.text, t.value, 0, 0⟩
theorem runN_le (s : ByteArray) : runN s ≤ s.size := by
  have : (s.data.toList.takeWhile wordC).length ≤ s.data.toList.length := (List.takeWhile_sublist _).length_le
  rw [← bts_len]; exact this
theorem runN_pos {s : ByteArray} (h0 : 0 < s.size) (h : wordC (s.data.toList.getD 0 0) = true) : 0 < runN s := by
  have hl := bts_len s
  unfold runN
  cases hb : s.data.toList with
  | nil => rw [show bts s = [] from hb] at hl; simp at hl; omega
  | cons c l =>
    rw [hb] at h
    have h : wordC c = true := h
    simp [List.takeWhile_cons, h]
theorem strN_eq {s : ByteArray} {k : Nat} (h1 : 1 ≤ k) (hk : k ≤ s.size) (ha : ∀ i, 1 ≤ i → i < k → inStr (byteAt s i) = true) (hn : k < s.size → inStr (byteAt s k) = false) : strN s = k := by
  have hl := bts_len s
  have hg : ∀ i, ((bts s).drop 1).getD i 0 = (bts s).getD (i + 1) 0 := fun i => by
    rw [List.getD_eq_getElem?_getD, List.getD_eq_getElem?_getD, List.getElem?_drop, Nat.add_comm]
  unfold strN
  rw [takeWhile_len (k := k - 1) (by simp [hl]; omega) (fun i hi => by rw [hg]; exact ha (i + 1) (by omega) (by omega)) (fun hh => by
    rw [hg, show k - 1 + 1 = k from by omega]
    exact hn (by simp [hl] at hh; omega))]
  omega

theorem punctN_le (s : ByteArray) : punctN s ≤ s.size := by
  unfold punctN
  split
  · rename_i h; exact h.1
  · split
    · rename_i h; exact h.1
    · omega
theorem pg_token (Γ : Gho) (s : ByteArray) (hs : s.size ≤ 4611686018427387904) (h0 : 0 < s.size) : PG Tryz.prog Γ 72 [.string s] (.tuple #[.agg (enc (tokOf (tokS s))).toArray, .int .i64 (tokS s).n, .int .i64 (tokS s).err]) := ⟨fun S w hw => by
  haveI : SB s := ⟨hs⟩
  have hrl := runN_le s
  refine calls_of_WC Tryz.func72 rfl rfl ?_
  repeat (first | refine byW ?_ | (refine byV ?_; intro w hw))
  refine lAlloc ?_
  intro b w hw
  repeat (first | refine byW ?_ | (refine byV ?_; intro w hw))
  refine W_cond rfl (fun h => ?_) (fun h => ?_)
  · have h : letterB (byteAt s 0) = true := h
    have hT : tokS s = ⟨1, bSub s 0 (runN s), 0, runN s, 0⟩ := by unfold tokS; rw [if_pos h]
    rw [hT]
    repeat (first | refine byW ?_ | (refine byV ?_; intro w hw))
    refine lStore ?_
    intro w hw
    have hw : Wd Γ (.blk b (.cells (enc (⟨1, bSub s 0 (runN s), 0, 0, 0⟩ : Tok)).toArray 63) :: S) w := hw
    repeat (first | refine byW ?_ | (refine byV ?_; intro w hw))
    exact ⟨[.agg (enc (⟨1, bSub s 0 (runN s), 0, 0, 0⟩ : Tok)).toArray, .int .i64 (runN s), .int .i64 0], ⟨resC (i := 0) hw rfl rfl rfl, rfl, rfl, trivial⟩, rfl, hw.drop⟩
  have h : letterB (byteAt s 0) = false := h
  repeat (first | refine byW ?_ | (refine byV ?_; intro w hw))
  refine W_cond rfl (fun h2 => ?_) (fun h2 => ?_)
  · have h2 : digitB (byteAt s 0) = true := h2
    have hrp : 0 < runN s := runN_pos h0 (by unfold wordC; rw [show digitB ((s.data.toList.getD 0 0).toNat : Int) = true from h2]; simp)
    have hsz : (bSub s 0 (runN s)).size = runN s := by rw [sub_size hrl]; omega
    have hT : tokS s = if (numS (bSub s 0 (runN s))).2 = 0 then ⟨2, ⟨#[]⟩, (numS (bSub s 0 (runN s))).1, runN s, 0⟩ else tokErr (numS (bSub s 0 (runN s))).2 := by unfold tokS; rw [if_neg (by rw [h]; simp), if_pos h2]
    rw [hT]
    repeat (first | refine byW ?_ | (refine byV ?_; intro w hw))
    refine lCall ?_
    refine (number_any (bSub s 0 (runN s)) (by omega) (by omega) w).mono ?_
    rintro e w' ⟨rfl, rfl⟩
    refine ⟨_, rfl, ?_⟩
    generalize numS (bSub s 0 (runN s)) = r
    obtain ⟨v, er⟩ := r
    repeat (first | refine byW ?_ | (refine byV ?_; intro w hw))
    refine W_cond rfl (fun h3 => ?_) (fun h3 => ?_)
    · have h3 : ¬ er = 0 := by simpa using h3
      repeat (first | refine byW ?_ | (refine byV ?_; intro w hw))
      refine lStore ?_
      intro w hw
      have hw : Wd Γ (.blk b (.cells (enc (⟨0, ⟨#[]⟩, 0, 0, 0⟩ : Tok)).toArray 63) :: S) w := hw
      repeat (first | refine byW ?_ | (refine byV ?_; intro w hw))
      refine ⟨[.agg (enc (⟨0, ⟨#[]⟩, 0, 0, 0⟩ : Tok)).toArray, .int .i64 0, .int .i64 er], ⟨resC (i := 0) hw rfl rfl rfl, rfl, rfl, trivial⟩, ?_, hw.drop⟩
      rw [if_neg h3]; rfl
    · have h3 : er = 0 := by simpa using h3
      repeat (first | refine byW ?_ | (refine byV ?_; intro w hw))
      refine lStore ?_
      intro w hw
      have hw : Wd Γ (.blk b (.cells (enc (⟨2, ⟨#[]⟩, v, 0, 0⟩ : Tok)).toArray 63) :: S) w := hw
      repeat (first | refine byW ?_ | (refine byV ?_; intro w hw))
      refine ⟨[.agg (enc (⟨2, ⟨#[]⟩, v, 0, 0⟩ : Tok)).toArray, .int .i64 (runN s), .int .i64 0], ⟨resC (i := 0) hw rfl rfl rfl, rfl, rfl, trivial⟩, ?_, hw.drop⟩
      rw [if_pos h3]; rfl
  have h2 : digitB (byteAt s 0) = false := h2
  repeat (first | refine byW ?_ | (refine byV ?_; intro w hw))
  refine W_cond rfl (fun h3 => ?_) (fun h3 => ?_)
  · have h3 : byteAt s 0 = 34 := of_decide_eq_true h3
    have hT : tokS s = if strN s < s.size ∧ byteAt s (strN s) = 34 then ⟨3, bSub s 1 (strN s), 0, strN s + 1, 0⟩ else tokErr 50 := by unfold tokS; rw [if_neg (by rw [h]; simp), if_neg (by rw [h2]; simp), if_pos h3]
    rw [hT]
    repeat (first | refine byW ?_ | (refine byV ?_; intro w hw))
    refine W_loop (fun μ ρ w => ∃ k : Nat, μ + k = s.size ∧ 1 ≤ k ∧ Has ρ [(0, .string s), (2, .pointer (some ⟨b, 0, none⟩)), (10, .int .i64 k)] ∧ (∀ i, 1 ≤ i → i < k → inStr (byteAt s i) = true) ∧ Wd Γ (.blk b (.cells (enc (⟨0, ⟨#[]⟩, 0, 0, 0⟩ : Tok)).toArray 63) :: S) w) (s.size - 1) ⟨1, by omega, by omega, ⟨rfl, rfl, rfl, trivial⟩, fun i h1 h2 => by omega, hw⟩ ?_
    clear hw
    rintro μ ρ w ⟨k, hk, hk1, hρ, hall, hw⟩
    rw [hρ.eq]
    repeat (first | refine byW ?_ | (refine byV ?_; intro w hw))
    refine W_cond rfl (fun h4 => ?_) (fun h4 => ?_)
    · have h4 : k < s.size ∧ inStr (byteAt s k) = true := by
        rw [Bool.and_eq_true, decide_eq_true_eq] at h4
        exact ⟨by omega, h4.2⟩
      repeat (first | refine byW ?_ | (refine byV ?_; intro w hw))
      refine ⟨μ - 1, by omega, k + 1, by omega, by omega, ⟨rfl, rfl, rfl, trivial⟩, fun i h1 h2 => ?_, hw⟩
      by_cases e : i = k
      · subst e; exact h4.2
      · exact hall i h1 (by omega)
    · have hS : strN s = k := strN_eq hk1 (by omega) hall (fun hlt => by
        have e1 : decide ((k : Int) < s.size) = true := by simp; omega
        rw [e1, Bool.true_and] at h4
        exact h4)
      rw [hS]
      clear h4
      have hks : k ≤ s.size := by omega
      repeat (first | refine byW ?_ | (refine byV ?_; intro w hw))
      have key : (decide ((k : Int) = s.size) || decide (byteAt s k ≠ 34)) = !decide (k < s.size ∧ byteAt s k = 34) := by
        rw [show decide ((k : Int) = s.size) = decide (¬ k < s.size) from decide_eq_decide.2 (by omega)]
        by_cases e1 : k < s.size <;> by_cases e2 : byteAt s k = 34 <;> simp [e1, e2]
      refine W_cond rfl (fun h4 => ?_) (fun h4 => ?_)
      · have h4 := key.symm.trans h4
        have h4 : ¬ (k < s.size ∧ byteAt s k = 34) := fun hh => by rw [decide_eq_true hh] at h4; cases h4
        repeat (first | refine byW ?_ | (refine byV ?_; intro w hw))
        refine lStore ?_
        intro w hw
        have hw : Wd Γ (.blk b (.cells (enc (⟨0, ⟨#[]⟩, 0, 0, 0⟩ : Tok)).toArray 63) :: S) w := hw
        repeat (first | refine byW ?_ | (refine byV ?_; intro w hw))
        refine ⟨[.agg (enc (⟨0, ⟨#[]⟩, 0, 0, 0⟩ : Tok)).toArray, .int .i64 0, .int .i64 50], ⟨resC (i := 0) hw rfl rfl rfl, rfl, rfl, trivial⟩, ?_, hw.drop⟩
        rw [if_neg h4]; rfl
      · have h4 := key.symm.trans h4
        have h4 : k < s.size ∧ byteAt s k = 34 := by simpa using h4
        have hkl := h4.1
        repeat (first | refine byW ?_ | (refine byV ?_; intro w hw))
        refine lStore ?_
        intro w hw
        have hw : Wd Γ (.blk b (.cells (enc (⟨3, bSub s 1 k, 0, 0, 0⟩ : Tok)).toArray 63) :: S) w := hw
        repeat (first | refine byW ?_ | (refine byV ?_; intro w hw))
        refine ⟨[.agg (enc (⟨3, bSub s 1 k, 0, 0, 0⟩ : Tok)).toArray, .int .i64 ((k : Int) + 1), .int .i64 0], ⟨resC (i := 0) hw rfl rfl rfl, rfl, rfl, trivial⟩, ?_, hw.drop⟩
        rw [if_pos h4]; rfl
  · have h3 : ¬ byteAt s 0 = 34 := of_decide_eq_false h3
    have hT : tokS s = if punctN s = 0 then tokErr 50 else ⟨4, bSub s 0 (punctN s), 0, punctN s, 0⟩ := by unfold tokS; rw [if_neg (by rw [h]; simp), if_neg (by rw [h2]; simp), if_neg h3]
    have hpl := punctN_le s
    rw [hT]
    repeat (first | refine byW ?_ | (refine byV ?_; intro w hw))
    refine W_cond rfl (fun h4 => ?_) (fun h4 => ?_)
    · have h4 : punctN s = 0 := by have := of_decide_eq_true h4; omega
      repeat (first | refine byW ?_ | (refine byV ?_; intro w hw))
      refine lStore ?_
      intro w hw
      have hw : Wd Γ (.blk b (.cells (enc (⟨0, ⟨#[]⟩, 0, 0, 0⟩ : Tok)).toArray 63) :: S) w := hw
      repeat (first | refine byW ?_ | (refine byV ?_; intro w hw))
      refine ⟨[.agg (enc (⟨0, ⟨#[]⟩, 0, 0, 0⟩ : Tok)).toArray, .int .i64 0, .int .i64 50], ⟨resC (i := 0) hw rfl rfl rfl, rfl, rfl, trivial⟩, ?_, hw.drop⟩
      rw [if_pos h4]; rfl
    · have h4 : ¬ punctN s = 0 := by have := of_decide_eq_false h4; omega
      repeat (first | refine byW ?_ | (refine byV ?_; intro w hw))
      refine lStore ?_
      intro w hw
      have hw : Wd Γ (.blk b (.cells (enc (⟨4, bSub s 0 (punctN s), 0, 0, 0⟩ : Tok)).toArray 63) :: S) w := hw
      repeat (first | refine byW ?_ | (refine byV ?_; intro w hw))
      refine ⟨[.agg (enc (⟨4, bSub s 0 (punctN s), 0, 0, 0⟩ : Tok)).toArray, .int .i64 (punctN s), .int .i64 0], ⟨resC (i := 0) hw rfl rfl rfl, rfl, rfl, trivial⟩, ?_, hw.drop⟩
      rw [if_neg h4]; rfl⟩
end Go.Proofs.YtnkekcippfdbgaaGreat
end
/- The program's lexer: positions, and that tokens hold no line's end (no program in sight). -/
section
open Go Mk
namespace Go.Proofs.YtnkekcippfdbgaaGreat
set_option maxHeartbeats 400000
attribute [local irreducible] Calls numS punctN

theorem word_nl {b : UInt8} (h : wordC b = true) : ((b.toNat : Nat) : Int) ≠ 10 := by
  intro e
  unfold wordC letterB digitB at h
  rw [e] at h; revert h; decide
theorem inStr_nl {c : Int} (h : inStr c = true) : c ≠ 10 := by
  intro e; rw [e] at h; revert h; decide
theorem takeWhile_get {p : UInt8 → Bool} : ∀ {l : List UInt8} {i : Nat}, i < (l.takeWhile p).length → p (l.getD i 0) = true
  | [], i, h => by simp at h
  | x :: l, i, h => by
    by_cases hx : p x = true
    · rw [List.takeWhile_cons, if_pos hx] at h
      cases i with
      | zero => simpa using hx
      | succ i => exact takeWhile_get (l := l) (i := i) (by simpa using h)
    · rw [List.takeWhile_cons, if_neg hx] at h; simp at h
theorem tok_ok {s : ByteArray} (h0 : 0 < s.size) (he : (tokS s).err = 0) : 1 ≤ (tokS s).n ∧ (tokS s).n ≤ s.size ∧ ∀ i, i < (tokS s).n → byteAt s i ≠ 10 := by
  have hrl := runN_le s
  have hrun : ∀ i, i < runN s → byteAt s i ≠ 10 := fun i hi => word_nl (takeWhile_get (p := wordC) hi)
  unfold tokS at he ⊢
  by_cases h1 : letterB (byteAt s 0) = true
  · rw [if_pos h1]
    exact ⟨runN_pos h0 (by unfold wordC; rw [show letterB ((s.data.toList.getD 0 0).toNat : Int) = true from h1]; rfl), hrl, hrun⟩
  rw [if_neg h1] at he ⊢
  by_cases h2 : digitB (byteAt s 0) = true
  · rw [if_pos h2] at he ⊢
    by_cases h3 : (numS (bSub s 0 (runN s))).2 = 0
    · rw [if_pos h3]
      exact ⟨runN_pos h0 (by unfold wordC; rw [show digitB ((s.data.toList.getD 0 0).toNat : Int) = true from h2]; simp), hrl, hrun⟩
    · rw [if_neg h3] at he; exact absurd he h3
  rw [if_neg h2] at he ⊢
  by_cases h3 : byteAt s 0 = 34
  · rw [if_pos h3] at he ⊢
    by_cases h4 : strN s < s.size ∧ byteAt s (strN s) = 34
    · rw [if_pos h4]
      refine ⟨by show 1 ≤ strN s + 1; omega, by show strN s + 1 ≤ s.size; omega, fun i hi => ?_⟩
      have hi : i < strN s + 1 := hi
      by_cases e0 : i = 0
      · subst e0; rw [h3]; decide
      · by_cases e1 : i = strN s
        · subst e1; rw [h4.2]; decide
        · have hi2 : i - 1 < (((bts s).drop 1).takeWhile inStrC).length := by unfold strN at hi e1; omega
          have := takeWhile_get (p := inStrC) hi2
          rw [List.getD_eq_getElem?_getD, List.getElem?_drop, show 1 + (i - 1) = i from by omega, ← List.getD_eq_getElem?_getD] at this
          exact inStr_nl this
    · rw [if_neg h4] at he; exact absurd he (by decide)
  rw [if_neg h3] at he ⊢
  by_cases h4 : punctN s = 0
  · rw [if_pos h4] at he; exact absurd he (by decide)
  rw [if_neg h4]
  refine ⟨by show 1 ≤ punctN s; omega, punctN_le s, fun i hi => ?_⟩
  have hi : i < punctN s := hi
  unfold punctN at hi
  by_cases h5 : 2 ≤ s.size ∧ two2 (byteAt s 0) (byteAt s 1) = true
  · rw [if_pos h5] at hi
    have h6 := h5.2
    intro e
    rcases (by omega : i = 0 ∨ i = 1) with rfl | rfl <;> (rw [e] at h6; unfold two2 at h6; simp at h6)
  · rw [if_neg h5] at hi
    split at hi
    · rename_i h6
      have hi0 : i = 0 := by omega
      subst hi0
      intro e
      have : s.data.toList.getD 0 0 = 10 := by
        apply UInt8.toNat_inj.1
        have e' : ((s.data.toList.getD 0 0).toNat : Int) = 10 := e
        show _ = 10
        omega
      rw [this] at h6
      exact absurd h6.2 (by decide)
    · omega
theorem posAt_run {s : ByteArray} {off : Nat} : ∀ (n : Nat), (∀ i, i < n → byteAt s (off + i) ≠ 10) → posAt s (off + n) = ⟨(posAt s off).Line, (posAt s off).Col + n⟩
  | 0, _ => by simp
  | n + 1, h => by
    have ih := posAt_run n (fun i hi => h i (by omega))
    rw [show off + (n + 1) = (off + n) + 1 from by omega]
    rw [show posAt s (off + n + 1) = if byteAt s (off + n) = 10 then ⟨(posAt s (off + n)).Line + 1, 1⟩ else ⟨(posAt s (off + n)).Line, (posAt s (off + n)).Col + 1⟩ from rfl, if_neg (h n (by omega)), ih]
    simp; omega
theorem posAt_nl {s : ByteArray} {k : Nat} (h : byteAt s k = 10) : posAt s (k + 1) = ⟨(posAt s k).Line + 1, 1⟩ := by
  rw [show posAt s (k + 1) = if byteAt s k = 10 then ⟨(posAt s k).Line + 1, 1⟩ else ⟨(posAt s k).Line, (posAt s k).Col + 1⟩ from rfl, if_pos h]
theorem skipN_eq {s : ByteArray} {off k : Nat} (h1 : off ≤ k) (hk : k ≤ s.size) (ha : ∀ i, off ≤ i → i < k → byteAt s i ≠ 10) (hn : k < s.size → byteAt s k = 10) : skipN s off = k := by
  have hl := bts_len s
  have hg : ∀ i, ((bts s).drop off).getD i 0 = (bts s).getD (off + i) 0 := fun i => by
    rw [List.getD_eq_getElem?_getD, List.getD_eq_getElem?_getD, List.getElem?_drop]
  unfold skipN
  rw [takeWhile_len (k := k - off) (by simp [hl]; omega) (fun i hi => by rw [hg]; exact decide_eq_true (ha (off + i) (by omega) (by omega))) (fun hh => by
    rw [hg, show off + (k - off) = k from by omega]
    have := hn (by simp [hl] at hh; omega)
    exact decide_eq_false (fun q => q this))]
  omega
end Go.Proofs.YtnkekcippfdbgaaGreat
end
/- The program's lexer: Scan. -/
section
open Go Mk
namespace Go.Proofs.YtnkekcippfdbgaaGreat
set_option maxHeartbeats 4000000
attribute [local irreducible] Calls numS punctN tokS posAt skipN

theorem Scan_any (Γ : Gho) (S : List Res) (w : World) (s : ByteArray) (hs : s.size ≤ 4611686018427387904) (hw : Wd Γ S w) :
    Calls Tryz.prog 14 #[.string s] w fun e w' => ∃ v, e = .returned (.tuple #[v, .agg (enc (scanS s).2.1).toArray, .int .i64 (scanS s).2.2]) ∧ Wd Γ (.own v 63 5 ((scanS s).1.map enc) :: S) w' := by
  refine calls_of_WC Tryz.func14 rfl rfl ?_
  repeat (first | refine byW ?_ | (refine byV ?_; intro w hw))
  refine lAlloc ?_
  intro bp w hw
  have hw : Wd Γ (.blk bp (.cells (enc (⟨0, 0⟩ : PosT)).toArray 31) :: S) w := hw
  repeat (first | refine byW ?_ | (refine byV ?_; intro w hw))
  refine W_scopeS ?_
  repeat (first | refine byW ?_ | (refine byV ?_; intro w hw))
  refine W_cond rfl (fun h => ?_) (fun h => ?_)
  · have h : 65536 < s.size := by simp at h; omega
    have hS : scanS s = ([], ⟨0, 0⟩, 15) := by unfold scanS; rw [if_pos h]
    rw [hS]
    repeat (first | refine byW ?_ | (refine byV ?_; intro w hw))
    refine lStore ?_
    intro w hw
    have hw : Wd Γ (.blk bp (.cells (enc (⟨0, 0⟩ : PosT)).toArray 31) :: S) w := hw
    repeat (first | refine byW ?_ | (refine byV ?_; intro w hw))
    exact ⟨[.slice none 0 0, .agg (enc (⟨0, 0⟩ : PosT)).toArray, .int .i64 15], ⟨rfl, resC (i := 0) hw rfl rfl rfl, rfl, trivial⟩, _, rfl, Wd.addNil hw.drop⟩
  have h : ¬ 65536 < s.size := by simp at h; omega
  have hS : scanS s = scanN s (s.size + 1) 0 [] := by unfold scanS; rw [if_neg h]
  rw [hS]
  repeat (first | refine byW ?_ | (refine byV ?_; intro w hw))
  refine W_label ?_
  repeat (first | refine byW ?_ | (refine byV ?_; intro w hw))
  refine W_loop (fun μ ρ w => ∃ (off start : Nat) (g : Value) (toks : List Tok), off ≤ s.size ∧ s.size < μ + off ∧ start ≤ off ∧ (posAt s off).Col = (off : Int) - start + 1 ∧ (posAt s off).Line ≤ 1 + off ∧ toks.length ≤ off ∧ Has ρ [(0, .string s), (3, .pointer (some ⟨bp, 0, none⟩)), (5, g), (6, .int .i64 (posAt s off).Line), (7, .int .i64 start), (8, .int .i64 off)] ∧ scanN s (s.size + 1) 0 [] = scanN s μ off toks ∧ 0 ≤ (posAt s off).Line ∧ Wd Γ (.own g 63 5 (toks.map enc) :: .blk bp (.cells (enc (⟨0, 0⟩ : PosT)).toArray 31) :: S) w) (s.size + 1) ?_ ?_
  · have p0 : posAt s 0 = ⟨1, 1⟩ := by unfold posAt; rfl
    refine ⟨0, 0, .slice none 0 0, [], by omega, by omega, by omega, ?_, ?_, by simp, ⟨rfl, rfl, rfl, ?_, rfl, rfl, trivial⟩, rfl, ?_, Wd.addNil hw⟩
    · rw [p0]; rfl
    · rw [p0]; decide
    · rw [p0]; rfl
    · rw [p0]; decide
  clear hw
  rintro μ ρ w ⟨off, start, g, toks, ho, hμ, hst, hcol, hlin, htl, hρ, hN, hl0, hw⟩
  rw [hρ.eq]
  obtain ⟨f, rfl⟩ : ∃ f, μ = f + 1 := ⟨μ - 1, by omega⟩
  rw [hN]
  clear hS
  repeat (first | refine byW ?_ | (refine byV ?_; intro w hw))
  refine W_cond rfl (fun h1 => ?_) (fun h1 => ?_)
  · have h1 : off < s.size := by simpa using h1
    have hsp : spaceB (byteAt s off) = true → scanN s (f + 1) off toks = scanN s f (off + 1) toks := fun q => by
      show (if s.size ≤ off then _ else _) = _
      rw [if_neg (by omega), if_pos q]
    have hp1 : byteAt s off ≠ 10 → posAt s (off + 1) = ⟨(posAt s off).Line, (posAt s off).Col + 1⟩ := fun q => by
      have := posAt_run (s := s) (off := off) 1 (fun i hi => by rw [show off + i = off from by omega]; exact q)
      simpa using this
    have hp2 : byteAt s off = 10 → posAt s (off + 1) = ⟨(posAt s off).Line + 1, 1⟩ := posAt_nl
    repeat (first | refine byW ?_ | (refine byV ?_; intro w hw))
    refine W_cond rfl (fun e1 => ?_) (fun e1 => ?_)
    · have e1 : byteAt s off = 10 := of_decide_eq_true e1
      have hq := hp2 e1
      repeat (first | refine byW ?_ | (refine byV ?_; intro w hw))
      refine ⟨f, by omega, off + 1, off + 1, g, toks, by omega, by omega, by omega, by rw [hq]; show (1 : Int) = _; omega, by rw [hq]; show (posAt s off).Line + 1 ≤ _; omega, by omega, ⟨rfl, rfl, rfl, by rw [hq]; rfl, rfl, rfl, trivial⟩, by rw [hsp (by rw [e1]; rfl)], by rw [hq]; show 0 ≤ (posAt s off).Line + 1; omega, hw⟩
    have e1 : byteAt s off ≠ 10 := of_decide_eq_false e1
    have hq := hp1 e1
    repeat (first | refine byW ?_ | (refine byV ?_; intro w hw))
    refine W_cond rfl (fun e2 => ?_) (fun e2 => ?_)
    · repeat (first | refine byW ?_ | (refine byV ?_; intro w hw))
      refine W_cond_true (by simp only [e2]; rfl) ?_
      have e2 : byteAt s off = 32 := of_decide_eq_true e2
      repeat (first | refine byW ?_ | (refine byV ?_; intro w hw))
      exact ⟨f, by omega, off + 1, start, g, toks, by omega, by omega, by omega, by rw [hq]; show (posAt s off).Col + 1 = _; omega, by rw [hq]; show (posAt s off).Line ≤ _; omega, by omega, ⟨rfl, rfl, rfl, by rw [hq]; rfl, rfl, rfl, trivial⟩, by rw [hsp (by rw [e2]; rfl)], by rw [hq]; exact hl0, hw⟩
    repeat (first | refine byW ?_ | (refine byV ?_; intro w hw))
    refine W_cond rfl (fun e3 => ?_) (fun e3 => ?_)
    · repeat (first | refine byW ?_ | (refine byV ?_; intro w hw))
      refine W_cond_true (by simp only [e3]; rfl) ?_
      have e3 : byteAt s off = 9 := of_decide_eq_true e3
      repeat (first | refine byW ?_ | (refine byV ?_; intro w hw))
      exact ⟨f, by omega, off + 1, start, g, toks, by omega, by omega, by omega, by rw [hq]; show (posAt s off).Col + 1 = _; omega, by rw [hq]; show (posAt s off).Line ≤ _; omega, by omega, ⟨rfl, rfl, rfl, by rw [hq]; rfl, rfl, rfl, trivial⟩, by rw [hsp (by rw [e3]; rfl)], by rw [hq]; exact hl0, hw⟩
    repeat (first | refine byW ?_ | (refine byV ?_; intro w hw))
    refine W_cond rfl (fun e4 => ?_) (fun e4 => ?_)
    · have e4 : byteAt s off = 13 := of_decide_eq_true e4
      repeat (first | refine byW ?_ | (refine byV ?_; intro w hw))
      exact ⟨f, by omega, off + 1, start, g, toks, by omega, by omega, by omega, by rw [hq]; show (posAt s off).Col + 1 = _; omega, by rw [hq]; show (posAt s off).Line ≤ _; omega, by omega, ⟨rfl, rfl, rfl, by rw [hq]; rfl, rfl, rfl, trivial⟩, by rw [hsp (by rw [e4]; rfl)], by rw [hq]; exact hl0, hw⟩
    have e2 : byteAt s off ≠ 32 := of_decide_eq_false e2
    have e3 : byteAt s off ≠ 9 := of_decide_eq_false e3
    have e4 : byteAt s off ≠ 13 := of_decide_eq_false e4
    have hns : ¬ spaceB (byteAt s off) = true := by simp [spaceB, e1, e2, e3, e4]
    repeat (first | refine byW ?_ | (refine byV ?_; intro w hw))
    refine W_cond rfl (fun e5 => ?_) (fun e5 => ?_)
    · have e5 : byteAt s off = 35 := of_decide_eq_true e5
      have hsk : scanN s (f + 1) off toks = scanN s f (skipN s off) toks := by
        show (if s.size ≤ off then _ else _) = _
        rw [if_neg (by omega), if_neg hns, if_pos e5]
      repeat (first | refine byW ?_ | (refine byV ?_; intro w hw))
      refine W_loop (fun μ ρ w => ∃ k : Nat, μ + k = s.size ∧ off ≤ k ∧ Has ρ [(0, .string s), (3, .pointer (some ⟨bp, 0, none⟩)), (5, g), (6, .int .i64 (posAt s off).Line), (7, .int .i64 start), (8, .int .i64 k)] ∧ (∀ i, off ≤ i → i < k → byteAt s i ≠ 10) ∧ Wd Γ (.own g 63 5 (toks.map enc) :: .blk bp (.cells (enc (⟨0, 0⟩ : PosT)).toArray 31) :: S) w) (s.size - off) ⟨off, by omega, by omega, ⟨rfl, rfl, rfl, rfl, rfl, rfl, trivial⟩, fun i h1 h2 => by omega, hw⟩ ?_
      clear hw hρ
      rintro μ2 ρ w ⟨k, hk, hk1, hρ, hall, hw⟩
      rw [hρ.eq]
      repeat (first | refine byW ?_ | (refine byV ?_; intro w hw))
      refine W_cond rfl (fun h4 => ?_) (fun h4 => ?_)
      · have h4 : k < s.size ∧ byteAt s k ≠ 10 := by
          rw [Bool.and_eq_true, decide_eq_true_eq] at h4
          exact ⟨by omega, of_decide_eq_true h4.2⟩
        have hkl := h4.1
        repeat (first | refine byW ?_ | (refine byV ?_; intro w hw))
        refine ⟨μ2 - 1, by omega, k + 1, by omega, by omega, ⟨rfl, rfl, rfl, rfl, rfl, rfl, trivial⟩, fun i h1 h2 => ?_, hw⟩
        by_cases e : i = k
        · subst e; exact h4.2
        · exact hall i h1 (by omega)
      · have hend : k < s.size → byteAt s k = 10 := fun hlt => by
          have q1 : decide ((k : Int) < s.size) = true := by simp; omega
          rw [q1, Bool.true_and] at h4
          have := of_decide_eq_false h4
          exact Classical.not_not.1 this
        have hkk : off < k := by
          rcases Nat.lt_or_ge off k with q | q
          · exact q
          · have : k = off := by omega
            subst this
            have := hend h1
            exact absurd this e1
        have hks : skipN s off = k := skipN_eq hk1 (by omega) hall hend
        have hpk := posAt_run (s := s) (off := off) (k - off) (fun i hi => hall (off + i) (by omega) (by omega))
        rw [show off + (k - off) = k from by omega] at hpk
        repeat (first | refine byW ?_ | (refine byV ?_; intro w hw))
        exact ⟨f, by omega, k, start, g, toks, by omega, by omega, by omega, by rw [hpk]; show (posAt s off).Col + _ = _; omega, by rw [hpk]; show (posAt s off).Line ≤ _; omega, by omega, ⟨rfl, rfl, rfl, by rw [hpk]; rfl, rfl, rfl, trivial⟩, by rw [hsk, hks], by rw [hpk]; exact hl0, hw⟩
    have e5 : byteAt s off ≠ 35 := of_decide_eq_false e5
    have hsz : (bSub s off s.size).size = s.size - off := sub_size (Nat.le_refl _)
    have hok := tok_ok (s := bSub s off s.size) (by omega)
    have hstep : scanN s (f + 1) off toks = if (tokS (bSub s off s.size)).err = 0 then scanN s f (off + (tokS (bSub s off s.size)).n) (toks ++ [⟨(tokS (bSub s off s.size)).kind, (tokS (bSub s off s.size)).text, (tokS (bSub s off s.size)).value, (posAt s off).Line, (posAt s off).Col⟩]) else ([], posAt s off, (tokS (bSub s off s.size)).err) := by
      show (if s.size ≤ off then _ else _) = _
      rw [if_neg (by omega), if_neg hns, if_neg e5]
    have hbyte : ∀ i, i < s.size - off → byteAt (bSub s off s.size) i = byteAt s (off + i) := fun i hi => byte_sub (by omega)
    rw [hstep]
    obtain ⟨ag, ng, cg, rfl, hng, hngc, hcg⟩ := hw.own_shape (i := 0) rfl
    simp only [List.length_map] at hng
    have hoz : (0 : Int) ≤ off := by omega
    repeat (first | refine byW ?_ | (refine byV ?_; intro w hw))
    refine lAlloc ?_
    intro b9 w hw
    refine lStore ?_
    intro w hw
    have hw : Wd Γ (.blk b9 (.cells (enc (⟨(posAt s off).Line, (off : Int) - start + 1⟩ : PosT)).toArray 31) :: .own (.slice ag ng cg) 63 5 (toks.map enc) :: .blk bp (.cells (enc (⟨0, 0⟩ : PosT)).toArray 31) :: S) w := hw
    rw [← hcol] at hw
    repeat (first | refine byW ?_ | (refine byV ?_; intro w hw))
    refine lPg (hp := pg_token Γ (bSub s off s.size) (by omega) (by omega)) ?_
    intro w hw
    generalize tokS (bSub s off s.size) = t at *
    repeat (first | refine byW ?_ | (refine byV ?_; intro w hw))
    refine lAlloc ?_
    intro b10 w hw
    refine lStore ?_
    intro w hw
    have hw : Wd Γ (.blk b10 (.cells (enc (tokOf t)).toArray 63) :: .blk b9 (.cells (enc (⟨(posAt s off).Line, (posAt s off).Col⟩ : PosT)).toArray 31) :: .own (.slice ag ng cg) 63 5 (toks.map enc) :: .blk bp (.cells (enc (⟨0, 0⟩ : PosT)).toArray 31) :: S) w := hw
    repeat (first | refine byW ?_ | (refine byV ?_; intro w hw))
    refine W_cond rfl (fun h6 => ?_) (fun h6 => ?_)
    · have h6 : ¬ t.err = 0 := by simpa using h6
      rw [if_neg h6]
      repeat (first | refine byW ?_ | (refine byV ?_; intro w hw))
      refine W_mixC [.blk b10 _, .blk b9 _, .own _ _ _ _] (.blk bp _ :: S) [] [[],[],[],[0],[]] hw ?_
      repeat (first | refine mY ?_ | refine mP ?_ | refine mPg ?_)
      refine mStepX (φ := fun (_ : Unit) _ => True) (R := fun _ => .blk bp (.cells (enc (⟨0, 0⟩ : PosT)).toArray 31) :: S) (v := undef) (T' := Unit) (fun _ _ => True) (fun _ => .blk bp (.cells (enc (⟨(posAt s off).Line, (posAt s off).Col⟩ : PosT)).toArray 31) :: S) (fun t' g w Y _ hw => s_store (i := 0) (inferInstance : TSz Tryz.prog 31 2).h hw rfl rfl rfl rfl (fun u hu => (List.all_eq_true.1 (enc_one (⟨(posAt s off).Line, (posAt s off).Col⟩ : PosT))) u hu) rfl (Nat.le_refl 2) fun w' hw' => ⟨(), trivial, (fun _ => rfl), hw'⟩) ?_
      repeat (first | refine mY ?_ | refine mP ?_ | refine mPg ?_)
      refine mEndX fun t' w g _ hw => ?_
      have hw : Wd Γ (.blk bp (.cells (enc (posAt s off)).toArray 31) :: S) w := Wd.left (S := .blk bp _ :: S) hw
      repeat (first | refine byW ?_ | (refine byV ?_; intro w hw))
      exact ⟨[.slice none 0 0, .agg (enc (posAt s off)).toArray, .int .i64 t.err], ⟨rfl, resC (i := 0) hw rfl rfl rfl, rfl, trivial⟩, _, rfl, Wd.addNil hw.drop⟩
    · have h6 : t.err = 0 := by simpa using h6
      rw [if_pos h6]
      obtain ⟨hn1, hn2, hnn⟩ := hok h6
      rw [hsz] at hn2
      have hpn := posAt_run (s := s) (off := off) t.n (fun i hi => by rw [← hbyte i (by omega)]; exact hnn i hi)
      repeat (first | refine byW ?_ | (refine byV ?_; intro w hw))
      refine lStore ?_
      intro w hw
      have hw : Wd Γ (.blk b10 (.cells (enc (⟨t.kind, t.text, t.value, (posAt s off).Line, (posAt s off).Col⟩ : Tok)).toArray 63) :: .blk b9 (.cells (enc (⟨(posAt s off).Line, (posAt s off).Col⟩ : PosT)).toArray 31) :: .own (.slice ag ng cg) 63 5 (toks.map enc) :: .blk bp (.cells (enc (⟨0, 0⟩ : PosT)).toArray 31) :: S) w := hw
      repeat (first | refine byW ?_ | (refine byV ?_; intro w hw))
      refine lBuildSlice [enc (⟨t.kind, t.text, t.value, (posAt s off).Line, (posAt s off).Col⟩ : Tok)] ?_
      intro a72 w hw
      refine lApp (i := 3) (rows2 := [enc (⟨t.kind, t.text, t.value, (posAt s off).Line, (posAt s off).Col⟩ : Tok)]) ?_ (Wd.own_rd (i := 0) hw rfl)
      intro v' w hw
      repeat (first | refine byW ?_ | (refine byV ?_; intro w hw))
      have hw : Wd Γ (.own v' 63 5 (toks.map enc ++ [enc (⟨t.kind, t.text, t.value, (posAt s off).Line, (posAt s off).Col⟩ : Tok)]) :: .blk bp (.cells (enc (⟨0, 0⟩ : PosT)).toArray 31) :: S) w := hw.drop.drop.drop
      rw [show toks.map enc ++ [enc (⟨t.kind, t.text, t.value, (posAt s off).Line, (posAt s off).Col⟩ : Tok)] = (toks ++ [(⟨t.kind, t.text, t.value, (posAt s off).Line, (posAt s off).Col⟩ : Tok)]).map enc from by simp] at hw
      exact ⟨f, by omega, off + t.n, start, v', _, by omega, by omega, by omega, by rw [hpn]; show (posAt s off).Col + _ = _; omega, by rw [hpn]; show (posAt s off).Line ≤ _; omega, by simp; omega, ⟨rfl, rfl, rfl, by rw [hpn]; rfl, rfl, rfl, trivial⟩, rfl, by rw [hpn]; exact hl0, hw⟩
  · have h1 : ¬ off < s.size := by simpa using h1
    have hend : scanN s (f + 1) off toks = (toks, ⟨0, 0⟩, 0) := by
      show (if s.size ≤ off then _ else _) = _
      rw [if_pos (by omega)]
    rw [hend]
    repeat (first | refine byW ?_ | (refine byV ?_; intro w hw))
    refine lStore ?_
    intro w hw
    have hw : Wd Γ (.own g 63 5 (toks.map enc) :: .blk bp (.cells (enc (⟨0, 0⟩ : PosT)).toArray 31) :: S) w := hw
    repeat (first | refine byW ?_ | (refine byV ?_; intro w hw))
    exact ⟨[g, .agg (enc (⟨0, 0⟩ : PosT)).toArray, .int .i64 0], ⟨rfl, resC (i := 1) hw rfl rfl rfl, rfl, trivial⟩, _, rfl, hw.dropAt 1⟩
end Go.Proofs.YtnkekcippfdbgaaGreat
end
/- The program's parser: looking at the next token, and failing. -/
section
open Go Mk
namespace Go.Proofs.YtnkekcippfdbgaaGreat
set_option maxHeartbeats 4000000
attribute [local irreducible] Calls

theorem y_mkIface {P : Program} {d : Option Tmp} {T ty : TypeId} {pos : String} {es : Array Edge} {g : Option (Nat × Bool)} {x : Operand} {ρ : Fr} {w : World} {v : Value} {fs : Array Field} (hu : P.underlying T = some (.struct fs)) (hx : ev ρ x = v) : Mk.Yields P ⟨d, .makeInterface T x, ty, pos, es, g⟩ ρ w (.iface T v) := by
  unfold Mk.Yields; simp [execOp, hx, Instr.makeInterface, run_underlying hu, Result.andThen]
/-- The parser in memory: its tokens, the number of the next, the position of the end. -/
def parB (bp : Nat) (a : Option Addr) (n c : Nat) (at' : Nat) (e : PosT) : Res := .blk bp (.cells #[.slice a n c, .int .i64 at', .int .i64 e.Line, .int .i64 e.Col] 52)
def isS (toks : List Tok) (at' : Nat) (kind : Int) (text : ByteArray) : Bool := match toks[at']? with | some t => decide (t.Kind = kind) && decide (t.Text = text) | none => false
def posOf (toks : List Tok) (at' : Nat) (e : PosT) : PosT := match toks[at']? with | some t => ⟨t.Line, t.Col⟩ | none => e
def failE (p : PosT) (er : Int) : PanicEntry := { v := .iface 47 (.agg #[.int .i64 p.Line, .int .i64 p.Col, .int .i64 er]), recovered := false }

/-- How a reading of the parser ends: with a value and the number of the next token, or with an error and its position. -/
abbrev PR (α : Type) := Except (PosT × Int) (α × Nat)
def Parses {α : Type} (Γ : Gho) (S : List Res) (bp : Nat) (a : Option Addr) (n c : Nat) (e : PosT) (K : α → Value) : PR α → Ending → World → Prop
  | .ok (x, at2), r, w => r = .returned (K x) ∧ Wd Γ (parB bp a n c at2 e :: S) w
  | .error (p, er), r, w => r = .panicked [failE p er] ∧ ∃ at2, Wd Γ (parB bp a n c at2 e :: S) w
def nextP (toks : List Tok) (e : PosT) (kind : Int) (at' : Nat) : PR Tok := match toks[at']? with | some t => if t.Kind = kind then .ok (t, at') else .error (posOf toks at' e, 50) | none => .error (posOf toks at' e, 50)
def expectP (toks : List Tok) (e : PosT) (kind : Int) (text : ByteArray) (at' : Nat) : PR Unit := if isS toks at' kind text = true then .ok ((), at' + 1) else .error (posOf toks at' e, 50)
def nameP (toks : List Tok) (e : PosT) (kind : Int) (at' : Nat) : PR ByteArray := match nextP toks e kind at' with | .ok (t, _) => if 24 < t.Text.size then .error (posOf toks at' e, 63) else .ok (t.Text, at' + 1) | .error q => .error q
def numberP (toks : List Tok) (e : PosT) (limited : Bool) (at' : Nat) : PR Int := match nextP toks e 2 at' with | .ok (t, _) => if limited = true ∧ 2147483647 < t.Value then .error (posOf toks at' e, 6) else .ok (t.Value, at' + 1) | .error q => .error q

section
variable {Γ : Gho} {S : List Res} {w : World} {bp : Nat} {a : Option Addr} {n c at' : Nat} {e : PosT} {toks : List Tok}
theorem is_any (kind : Int) (text : ByteArray) (ht : RepS Γ (.slice a n c) 5 (toks.map enc)) (hw : Wd Γ (parB bp a n c at' e :: S) w) :
    Calls Tryz.prog 77 #[.pointer (some ⟨bp, 0, none⟩), .int .i64 kind, .string text] w fun r w' => r = .returned (.bool (isS toks at' kind text)) ∧ Wd Γ (parB bp a n c at' e :: S) w' := by
  have hn : n = toks.length := by obtain ⟨_, _, _, h1, h2, _⟩ := ht.shape; cases h1; simpa using h2
  unfold parB at *
  refine calls_of_W Tryz.func77 rfl rfl ?_
  repeat (first | refine byW ?_ | (refine byV ?_; intro w hw))
  obtain ⟨t, htk⟩ : ∃ t : Tok, at' < n → toks[at']? = some t := by
    by_cases h : at' < n
    · obtain ⟨t, ht⟩ := get_lt (l := toks) (k := at') (by omega); exact ⟨t, fun _ => ht⟩
    · exact ⟨default, fun hh => absurd hh h⟩
  have key : ((decide ((at' : Int) < n) && decide (t.Kind = kind)) && decide (t.Text = text)) = isS toks at' kind text := by
    unfold isS
    by_cases h : at' < n
    · rw [htk h]; have h1 : (at' : Int) < n := by omega
      simp [h1]
    · rw [List.getElem?_eq_none (by omega)]; have h1 : ¬ (at' : Int) < n := by omega
      simp [h1]
  refine W_quiet (by kernel_rfl) (by kernel_rfl) hw ?_
  iterate 21 (first | refine Q_nil ?_ | (apply Q_plain; first | (apply Q_go; first | refine qP ?_ | refine qPg ?_) | refine qY ?_) | (apply Q_guarded; first | (apply Q_go; first | refine qPG ?_ | refine qPgG ?_) | refine qG ?_))
  apply Q_guarded
  refine qG ?_ (hy := fun hc w hw => by
    have h0 := htk (by simp only [Bool.and_eq_true, decide_eq_true_eq] at hc; omega)
    exact byPUG)
  iterate 14 (first | refine Q_nil ?_ | (apply Q_plain; first | (apply Q_go; first | refine qP ?_ | refine qPg ?_) | refine qY ?_) | (apply Q_guarded; first | (apply Q_go; first | refine qPG ?_ | refine qPgG ?_) | refine qG ?_))
  apply Q_guarded
  refine qG ?_ (hy := fun hc w hw => by
    have h0 := htk (by simp only [Bool.and_eq_true, decide_eq_true_eq] at hc; omega)
    exact byPUG)
  repeat (first | refine Q_nil ?_ | (apply Q_plain; first | (apply Q_go; first | refine qP ?_ | refine qPg ?_) | refine qY ?_) | (apply Q_guarded; first | (apply Q_go; first | refine qPG ?_ | refine qPgG ?_) | refine qG ?_))
  intro w hw
  repeat (first | refine byW ?_ | (refine byV ?_; intro w hw))
  exact ⟨_, rfl, ret_b rfl key, hw⟩
theorem fail_any (er : Int) (ht : RepS Γ (.slice a n c) 5 (toks.map enc)) (hw : Wd Γ (parB bp a n c at' e :: S) w) :
    Calls Tryz.prog 79 #[.pointer (some ⟨bp, 0, none⟩), .int .i64 er] w fun r w' => r = .panicked [failE (posOf toks at' e) er] ∧ Wd Γ (parB bp a n c at' e :: S) w' := by
  have hn : n = toks.length := by obtain ⟨_, _, _, h1, h2, _⟩ := ht.shape; cases h1; simpa using h2
  unfold parB at *
  refine calls_of_W Tryz.func79 rfl rfl ?_
  repeat (first | refine byW ?_ | (refine byV ?_; intro w hw))
  refine lAlloc ?_
  intro b4 w hw
  refine lStore ?_
  intro w hw
  refine L_nil ?_
  have hw : Wd Γ (.blk b4 (.cells (enc e).toArray 31) :: .blk bp (.cells #[.slice a n c, .int .i64 at', .int .i64 e.Line, .int .i64 e.Col] 52) :: S) w := hw
  refine W_cut (fun ρ w => ∃ b4 : Nat, Has ρ [(1, .int .i64 er), (4, .pointer (some ⟨b4, 0, none⟩))] ∧ Wd Γ (.blk b4 (.cells (enc (posOf toks at' e)).toArray 31) :: .blk bp (.cells #[.slice a n c, .int .i64 at', .int .i64 e.Line, .int .i64 e.Col] 52) :: S) w) ?_ ?_
  · repeat (first | refine byW ?_ | (refine byV ?_; intro w hw))
    refine W_quiet (by kernel_rfl) (by kernel_rfl) hw ?_
    repeat (first | refine Q_nil ?_ | (apply Q_plain; first | (apply Q_go; first | refine qP ?_ | refine qPg ?_) | refine qY ?_) | (apply Q_guarded; first | (apply Q_go; first | refine qPG ?_ | refine qPgG ?_) | refine qG ?_))
    intro w hw
    refine W_cond rfl (fun h => ?_) (fun h => ?_)
    · have h : at' < n := by simp at h; omega
      obtain ⟨t, htk⟩ := get_lt (l := toks) (k := at') (by omega)
      have hp : posOf toks at' e = ⟨t.Line, t.Col⟩ := by unfold posOf; rw [htk]
      repeat (first | refine byW ?_ | (refine byV ?_; intro w hw))
      refine W_mixC [.blk bp _] (.blk b4 _ :: S) [] [[],[],[],[],[],[],[],[],[],[],[],[0]] (hw.ps [1]) ?_
      repeat (first | refine mY ?_ | refine mP ?_ | refine mPg ?_)
      refine mStepX (φ := fun (_ : Unit) _ => True) (R := fun _ => .blk b4 (.cells (enc e).toArray 31) :: S) (v := undef) (T' := Unit) (fun _ _ => True) (fun _ => .blk b4 (.cells (enc (⟨t.Line, t.Col⟩ : PosT)).toArray 31) :: S) (fun t' g w Y _ hw => s_store (i := 0) (inferInstance : TSz Tryz.prog 31 2).h hw rfl rfl rfl rfl (fun u hu => (List.all_eq_true.1 (enc_one (⟨t.Line, t.Col⟩ : PosT))) u hu) rfl (Nat.le_refl 2) fun w' hw' => ⟨(), trivial, (fun _ => rfl), hw'⟩) ?_
      refine mEndX fun t' w g _ hw => ?_
      repeat (first | refine byW ?_ | (refine byV ?_; intro w hw))
      exact ⟨b4, ⟨rfl, rfl, trivial⟩, by rw [hp]; exact hw.flip.ps [1]⟩
    · have h : ¬ at' < n := by simp at h; omega
      have hp : posOf toks at' e = e := by unfold posOf; rw [List.getElem?_eq_none (by omega)]
      repeat (first | refine byW ?_ | (refine byV ?_; intro w hw))
      exact ⟨b4, ⟨rfl, rfl, trivial⟩, by rw [hp]; exact hw⟩
  · rintro ρ w ⟨b4, hρ, hw⟩
    rw [hρ.eq]
    repeat (first | refine byW ?_ | (refine byV ?_; intro w hw))
    refine lY (v := .iface 47 (.agg #[.int .i64 (posOf toks at' e).Line, .int .i64 (posOf toks at' e).Col, .int .i64 er])) ?_ (hy := y_mkIface Tryz.underlying47 rfl)
    refine L_panic ?_
    exact ⟨rfl, hw.drop⟩
theorem next_any (kind : Int) (ht : RepS Γ (.slice a n c) 5 (toks.map enc)) (hat : at' ≤ n) (hw : Wd Γ (parB bp a n c at' e :: S) w) :
    Calls Tryz.prog 118 #[.pointer (some ⟨bp, 0, none⟩), .int .i64 kind] w (Parses Γ S bp a n c e (fun t : Tok => .agg (enc t).toArray) (nextP toks e kind at')) := by
  have hn : n = toks.length := by obtain ⟨_, _, _, h1, h2, _⟩ := ht.shape; cases h1; simpa using h2
  refine calls_of_WC Tryz.func118 rfl rfl ?_
  repeat (first | refine byW ?_ | (refine byV ?_; intro w hw))
  refine lAlloc ?_
  intro b4 w hw
  have hw : Wd Γ (.blk b4 (.cells (enc (default : Tok)).toArray 63) :: .blk bp (.cells #[.slice a n c, .int .i64 at', .int .i64 e.Line, .int .i64 e.Col] 52) :: S) w := hw
  repeat (first | refine byW ?_ | (refine byV ?_; intro w hw))
  obtain ⟨t, htk⟩ : ∃ t : Tok, at' < n → toks[at']? = some t := by
    by_cases h : at' < n
    · obtain ⟨t, ht⟩ := get_lt (l := toks) (k := at') (by omega); exact ⟨t, fun _ => ht⟩
    · exact ⟨default, fun hh => absurd hh h⟩
  have key : (decide ((at' : Int) = n) || decide (t.Kind ≠ kind)) = !decide (at' < n ∧ t.Kind = kind) := by
    rw [show decide ((at' : Int) = n) = decide (¬ at' < n) from decide_eq_decide.2 (by omega)]
    by_cases e1 : at' < n <;> by_cases e2 : t.Kind = kind <;> simp [e1, e2]
  refine W_quiet (by kernel_rfl) (by kernel_rfl) hw ?_
  iterate 21 (first | refine Q_nil ?_ | (apply Q_plain; first | (apply Q_go; first | refine qP ?_ | refine qPg ?_) | refine qY ?_) | (apply Q_guarded; first | (apply Q_go; first | refine qPG ?_ | refine qPgG ?_) | refine qG ?_))
  apply Q_guarded
  refine qG ?_ (hy := fun hc w hw => by
    have h0 := htk (by simp only [Bool.not_eq_true', decide_eq_false_iff_not] at hc; omega)
    exact byPUG)
  repeat (first | refine Q_nil ?_ | (apply Q_plain; first | (apply Q_go; first | refine qP ?_ | refine qPg ?_) | refine qY ?_) | (apply Q_guarded; first | (apply Q_go; first | refine qPG ?_ | refine qPgG ?_) | refine qG ?_))
  intro w hw
  refine W_cond rfl (fun h => ?_) (fun h => ?_)
  · have h := key.symm.trans h
    repeat (first | refine byW ?_ | (refine byV ?_; intro w hw))
    refine L_callE ?_
    refine (fail_any (S := .blk b4 _ :: S) 50 ht (hw.ps [1])).mono ?_
    rintro r w ⟨rfl, hw⟩
    have hP : nextP toks e kind at' = .error (posOf toks at' e, 50) := by
      unfold nextP
      cases hg : toks[at']? with
      | none => rfl
      | some t' =>
        have h1 : at' < n := by have := (List.getElem?_eq_some_iff.1 hg).1; omega
        have h2 := htk h1
        rw [hg] at h2; cases h2
        refine if_neg fun hk => ?_
        rw [decide_eq_true (⟨h1, hk⟩ : at' < n ∧ t.Kind = kind)] at h; cases h
    rw [hP]
    exact ⟨rfl, at', hw.dropAt 1⟩
  · have h := key.symm.trans h
    have h : at' < n ∧ t.Kind = kind := by simpa using h
    have htk := htk h.1
    have hlt := h.1
    repeat (first | refine byW ?_ | (refine byV ?_; intro w hw))
    refine W_mixC [.blk bp _] (.blk b4 _ :: S) [] [[],[],[],[],[],[],[],[],[],[],[0]] (hw.ps [1]) ?_
    repeat (first | refine mY ?_ | refine mP ?_ | refine mPg ?_)
    refine mStepX (φ := fun (_ : Unit) _ => True) (R := fun _ => .blk b4 (.cells (enc (default : Tok)).toArray 63) :: S) (v := undef) (T' := Unit) (fun _ _ => True) (fun _ => .blk b4 (.cells (enc t).toArray 63) :: S) (fun t' g w Y _ hw => s_store (i := 0) (inferInstance : TSz Tryz.prog 63 5).h hw rfl rfl rfl rfl (fun u hu => (List.all_eq_true.1 (enc_one t)) u hu) rfl (Nat.le_refl 5) fun w' hw' => ⟨(), trivial, (fun _ => rfl), hw'⟩) ?_
    refine mEndX fun t' w g _ hw => ?_
    have hw : Wd Γ (.blk b4 (.cells (enc t).toArray 63) :: .blk bp (.cells #[.slice a n c, .int .i64 at', .int .i64 e.Line, .int .i64 e.Col] 52) :: S) w := hw.flip.ps [1]
    repeat (first | refine byW ?_ | (refine byV ?_; intro w hw))
    have hP : nextP toks e kind at' = .ok (t, at') := by unfold nextP; rw [htk]; exact if_pos h.2
    rw [hP]
    exact ⟨[.agg (enc t).toArray], ⟨resC (i := 0) hw rfl rfl rfl, trivial⟩, rfl, hw.drop⟩
theorem nextP_at {kind : Int} {x : Tok} {k : Nat} (h : nextP toks e kind at' = .ok (x, k)) : k = at' ∧ toks[at']? = some x ∧ x.Kind = kind := by
  unfold nextP at h
  cases hg : toks[at']? with
  | none => rw [hg] at h; cases h
  | some t =>
    rw [hg] at h
    by_cases hk : t.Kind = kind
    · simp only [hk, if_true] at h; cases h; exact ⟨rfl, rfl, hk⟩
    · simp only [hk, if_false] at h; cases h
theorem expect_any (kind : Int) (text : ByteArray) (ht : RepS Γ (.slice a n c) 5 (toks.map enc)) (hat : at' ≤ n) (hw : Wd Γ (parB bp a n c at' e :: S) w) :
    Calls Tryz.prog 75 #[.pointer (some ⟨bp, 0, none⟩), .int .i64 kind, .string text] w (Parses Γ S bp a n c e (fun _ : Unit => .tuple #[]) (expectP toks e kind text at')) := by
  have hn : n = toks.length ∧ n ≤ c ∧ c ≤ 9223372036854775807 := by obtain ⟨_, _, _, h1, h2, h3⟩ := ht.shape; cases h1; exact ⟨by simpa using h2, h3⟩
  obtain ⟨hn, hnc, hc⟩ := hn
  refine calls_of_W Tryz.func75 rfl rfl ?_
  repeat (first | refine byW ?_ | (refine byV ?_; intro w hw))
  refine lCall ?_
  refine (is_any kind text ht hw).mono ?_
  rintro r w ⟨rfl, hw⟩
  refine ⟨_, rfl, ?_⟩
  repeat (first | refine byW ?_ | (refine byV ?_; intro w hw))
  refine W_cond rfl (fun h => ?_) (fun h => ?_)
  · have h : ¬ isS toks at' kind text = true := by simpa using h
    have hP : expectP toks e kind text at' = .error (posOf toks at' e, 50) := if_neg h
    rw [hP]
    repeat (first | refine byW ?_ | (refine byV ?_; intro w hw))
    refine L_callE ?_
    refine (fail_any 50 ht hw).mono ?_
    rintro r w ⟨rfl, hw⟩
    exact ⟨rfl, at', hw⟩
  · have h : isS toks at' kind text = true := by simpa using h
    have hP : expectP toks e kind text at' = .ok ((), at' + 1) := if_pos h
    rw [hP]
    have hlt : at' < n := by
      unfold isS at h
      cases hg : toks[at']? with
      | none => rw [hg] at h; cases h
      | some t => have := (List.getElem?_eq_some_iff.1 hg).1; omega
    unfold parB at hw
    repeat (first | refine byW ?_ | (refine byV ?_; intro w hw))
    refine lStore ?_
    intro w hw
    have hw : Wd Γ (parB bp a n c (at' + 1) e :: S) w := hw
    repeat (first | refine byW ?_ | (refine byV ?_; intro w hw))
    exact ⟨_, rfl, rfl, hw⟩
end
end Go.Proofs.YtnkekcippfdbgaaGreat
end
/- The program's parser: names and numbers. -/
section
open Go Mk
namespace Go.Proofs.YtnkekcippfdbgaaGreat
set_option maxHeartbeats 4000000
attribute [local irreducible] Calls nextP

section
variable {Γ : Gho} {S : List Res} {w : World} {bp : Nat} {a : Option Addr} {n c at' : Nat} {e : PosT} {toks : List Tok}
theorem name_any (kind : Int) (ht : RepS Γ (.slice a n c) 5 (toks.map enc)) (hat : at' ≤ n) (hw : Wd Γ (parB bp a n c at' e :: S) w) :
    Calls Tryz.prog 76 #[.pointer (some ⟨bp, 0, none⟩), .int .i64 kind] w (Parses Γ S bp a n c e (fun s : ByteArray => .string s) (nameP toks e kind at')) := by
  have hn : n = toks.length ∧ n ≤ c ∧ c ≤ 9223372036854775807 := by obtain ⟨_, _, _, h1, h2, h3⟩ := ht.shape; cases h1; exact ⟨by simpa using h2, h3⟩
  obtain ⟨hn, hnc, hc⟩ := hn
  refine calls_of_W Tryz.func76 rfl rfl ?_
  repeat (first | refine byW ?_ | (refine byV ?_; intro w hw))
  refine L_callE ?_
  refine (next_any kind ht hat hw).mono ?_
  rintro r w hr
  cases hN : nextP toks e kind at' with
  | error q =>
    obtain ⟨p, er⟩ := q
    have hP : nameP toks e kind at' = .error (p, er) := by unfold nameP; rw [hN]
    rw [hN] at hr
    rw [hP]
    obtain ⟨rfl, hw⟩ := hr
    exact ⟨rfl, hw⟩
  | ok q =>
    obtain ⟨x, k⟩ := q
    obtain ⟨rfl, h1, h2⟩ := nextP_at hN
    have hP : nameP toks e kind k = if 24 < x.Text.size then .error (posOf toks k e, 63) else .ok (x.Text, k + 1) := by unfold nameP; rw [hN]
    rw [hN] at hr
    rw [hP]
    obtain ⟨rfl, hw⟩ := hr
    have hlt : k < n := by have := (List.getElem?_eq_some_iff.1 h1).1; omega
    show L _ _ _ _ _ _ _
    refine lAlloc ?_
    intro b5 w hw
    refine lStore ?_
    intro w hw
    have hw : Wd Γ (.blk b5 (.cells (enc x).toArray 63) :: .blk bp (.cells #[.slice a n c, .int .i64 k, .int .i64 e.Line, .int .i64 e.Col] 52) :: S) w := hw
    repeat (first | refine byW ?_ | (refine byV ?_; intro w hw))
    refine W_cond rfl (fun h => ?_) (fun h => ?_)
    · have h : 24 < x.Text.size := by simp at h; omega
      rw [if_pos h]
      repeat (first | refine byW ?_ | (refine byV ?_; intro w hw))
      refine L_callE ?_
      refine (fail_any (S := .blk b5 _ :: S) 63 ht (hw.ps [1])).mono ?_
      rintro r w ⟨rfl, hw⟩
      exact ⟨rfl, k, hw.dropAt 1⟩
    · have h : ¬ 24 < x.Text.size := by simp at h; omega
      rw [if_neg h]
      repeat (first | refine byW ?_ | (refine byV ?_; intro w hw))
      refine lStore ?_
      intro w hw
      have hw : Wd Γ (.blk b5 (.cells (enc x).toArray 63) :: .blk bp (.cells #[.slice a n c, .int .i64 (k + 1 : Nat), .int .i64 e.Line, .int .i64 e.Col] 52) :: S) w := hw
      repeat (first | refine byW ?_ | (refine byV ?_; intro w hw))
      exact ⟨_, rfl, rfl, hw.drop⟩
theorem pnumber_any (limited : Bool) (ht : RepS Γ (.slice a n c) 5 (toks.map enc)) (hat : at' ≤ n) (hw : Wd Γ (parB bp a n c at' e :: S) w) :
    Calls Tryz.prog 120 #[.pointer (some ⟨bp, 0, none⟩), .bool limited] w (Parses Γ S bp a n c e (fun v : Int => .int .u64 v) (numberP toks e limited at')) := by
  have hn : n = toks.length ∧ n ≤ c ∧ c ≤ 9223372036854775807 := by obtain ⟨_, _, _, h1, h2, h3⟩ := ht.shape; cases h1; exact ⟨by simpa using h2, h3⟩
  obtain ⟨hn, hnc, hc⟩ := hn
  refine calls_of_W Tryz.func120 rfl rfl ?_
  repeat (first | refine byW ?_ | (refine byV ?_; intro w hw))
  refine L_callE ?_
  refine (next_any 2 ht hat hw).mono ?_
  rintro r w hr
  cases hN : nextP toks e 2 at' with
  | error q =>
    obtain ⟨p, er⟩ := q
    have hP : numberP toks e limited at' = .error (p, er) := by unfold numberP; rw [hN]
    rw [hN] at hr
    rw [hP]
    obtain ⟨rfl, hw⟩ := hr
    exact ⟨rfl, hw⟩
  | ok q =>
    obtain ⟨x, k⟩ := q
    obtain ⟨rfl, h1, h2⟩ := nextP_at hN
    have hP : numberP toks e limited k = if limited = true ∧ 2147483647 < x.Value then .error (posOf toks k e, 6) else .ok (x.Value, k + 1) := by unfold numberP; rw [hN]
    rw [hN] at hr
    rw [hP]
    obtain ⟨rfl, hw⟩ := hr
    have hlt : k < n := by have := (List.getElem?_eq_some_iff.1 h1).1; omega
    show L _ _ _ _ _ _ _
    refine lAlloc ?_
    intro b5 w hw
    refine lStore ?_
    intro w hw
    have hw : Wd Γ (.blk b5 (.cells (enc x).toArray 63) :: .blk bp (.cells #[.slice a n c, .int .i64 k, .int .i64 e.Line, .int .i64 e.Col] 52) :: S) w := hw
    repeat (first | refine byW ?_ | (refine byV ?_; intro w hw))
    refine W_cond rfl (fun h => ?_) (fun h => ?_)
    · have h : limited = true ∧ 2147483647 < x.Value := by simpa using h
      rw [if_pos h]
      repeat (first | refine byW ?_ | (refine byV ?_; intro w hw))
      refine L_callE ?_
      refine (fail_any (S := .blk b5 _ :: S) 6 ht (hw.ps [1])).mono ?_
      rintro r w ⟨rfl, hw⟩
      exact ⟨rfl, k, hw.dropAt 1⟩
    · have h : ¬ (limited = true ∧ 2147483647 < x.Value) := fun hh => by simp [hh.1, hh.2] at h
      rw [if_neg h]
      repeat (first | refine byW ?_ | (refine byV ?_; intro w hw))
      refine lStore ?_
      intro w hw
      have hw : Wd Γ (.blk b5 (.cells (enc x).toArray 63) :: .blk bp (.cells #[.slice a n c, .int .i64 (k + 1 : Nat), .int .i64 e.Line, .int .i64 e.Col] 52) :: S) w := hw
      repeat (first | refine byW ?_ | (refine byV ?_; intro w hw))
      exact ⟨_, rfl, rfl, hw.drop⟩
end
end Go.Proofs.YtnkekcippfdbgaaGreat
end
/- The program's parser: the attributes of an item. -/
section
open Go Mk
namespace Go.Proofs.YtnkekcippfdbgaaGreat
set_option maxHeartbeats 4000000
attribute [local irreducible] Calls nextP numberP expectP isS posOf

def memB (s : ByteArray) (xs : List ByteArray) : Bool := xs.any fun x => decide (s = x)
theorem Contains_any {Γ : Gho} {S : List Res} {w : World} {v : Value} (xs : List ByteArray) (s : ByteArray) (hw : Wd Γ S w) (hr : RdS Γ S v 1 (xs.map fun x => [.string x])) :
    Calls Tryz.prog 154 #[v, .string s] w fun e w' => e = .returned (.bool (memB s xs)) ∧ Wd Γ S w' := by
  have hI : ∀ w, Wd Γ S w → Calls Tryz.prog 173 #[v, .string s] w fun e w' => ∃ i : Int, e = .returned (.int .i64 i) ∧ (decide (0 ≤ i) = memB s xs) ∧ Wd Γ S w' := by
    intro w hw
    obtain ⟨a, n, c, rfl, hn, hnc, hc⟩ := hr.shape
    simp only [List.length_map] at hn
    refine calls_of_W Tryz.func173 rfl rfl ?_
    repeat (first | refine byW ?_ | (refine byV ?_; intro w hw))
    refine W_loop (fun μ ρ w => ∃ (k : Nat), μ + k = n ∧ Has ρ [(0, .slice a n c), (1, .string s), (7, .int .i64 n), (8, .int .i64 k)] ∧ (∀ i x, i < k → xs[i]? = some x → x ≠ s) ∧ Wd Γ S w) n ⟨0, by omega, ⟨rfl, rfl, rfl, rfl, trivial⟩, fun i x h => by omega, hw⟩ ?_
    clear hw
    rintro μ ρ w ⟨k, hk, hρ, hno, hw⟩
    rw [hρ.eq]
    repeat (first | refine byW ?_ | (refine byV ?_; intro w hw))
    refine W_cond rfl (fun h => ?_) (fun h => ?_)
    · have hkn : k < n := by simpa using h
      obtain ⟨x, hx⟩ := get_lt (l := xs) (k := k) (by omega)
      repeat (first | refine byW ?_ | (refine byV ?_; intro w hw))
      refine W_cond rfl (fun h2 => ?_) (fun h2 => ?_)
      · have h2 : s = x := of_decide_eq_true h2
        repeat (first | refine byW ?_ | (refine byV ?_; intro w hw))
        exact ⟨_, rfl, k, rfl, by rw [decide_eq_true (show (0 : Int) ≤ k by omega)]; exact (List.any_eq_true.2 ⟨x, List.mem_of_getElem? hx, decide_eq_true h2⟩).symm, hw⟩
      · have h2 : ¬ s = x := of_decide_eq_false h2
        repeat (first | refine byW ?_ | (refine byV ?_; intro w hw))
        refine ⟨μ - 1, by omega, k + 1, by omega, ⟨rfl, rfl, rfl, rfl, trivial⟩, fun i y hi hy he => ?_, hw⟩
        by_cases e : i = k
        · subst e; rw [hx] at hy; cases hy; exact h2 he.symm
        · exact hno i y (by omega) hy he
    · have hkn : ¬ k < n := by simpa using h
      repeat (first | refine byW ?_ | (refine byV ?_; intro w hw))
      refine ⟨_, rfl, -1, rfl, ?_, hw⟩
      rw [decide_eq_false (show ¬ (0 : Int) ≤ -1 by decide)]
      symm
      refine List.any_eq_false.2 fun x hm he => ?_
      obtain ⟨i, hi, hx⟩ := List.getElem_of_mem hm
      exact hno i x (by omega) (by rw [List.getElem?_eq_getElem hi, hx]) (of_decide_eq_true he).symm
  refine calls_of_W Tryz.func154 rfl rfl ?_
  repeat (first | refine byW ?_ | (refine byV ?_; intro w hw))
  refine lCall ?_
  refine (hI w hw).mono ?_
  rintro e w ⟨i, rfl, hd, hw⟩
  refine ⟨_, rfl, ?_⟩
  repeat (first | refine byW ?_ | (refine byV ?_; intro w hw))
  exact ⟨_, rfl, ret_b rfl hd, hw⟩

/-- Numbers that lie elsewhere. -/
structure NumH where
  A : Option Addr
  N : Nat
  C : Nat
  L : List Int
instance : Inhabited NumH := ⟨⟨none, 0, 0, []⟩⟩
def numV (h : NumH) : Value := .slice h.A h.N h.C
def numRows (l : List Int) : List (List Value) := l.map fun x => [.int .u64 x]
def NOk (Γ : Gho) (h : NumH) : Prop := RepS Γ (numV h) 1 (numRows h.L)

def commaB : ByteArray := ⟨#[44]⟩
def semiB : ByteArray := ⟨#[59]⟩
def openB : ByteArray := ⟨#[123]⟩
def closeB : ByteArray := ⟨#[125]⟩
def baseB : ByteArray := ⟨#[98, 97, 115, 101]⟩
def sizeB : ByteArray := ⟨#[115, 105, 122, 101]⟩
def coresB : ByteArray := ⟨#[99, 111, 114, 101, 115]⟩
def moreN (toks : List Tok) (e : PosT) (limited cores : Bool) : Nat → Nat → List Int → PR (List Int)
  | 0, k, acc => .ok (acc, k)
  | f + 1, k, acc => if (cores && isS toks k 4 commaB) = true then (match numberP toks e limited (k + 1) with | .ok (v, k1) => moreN toks e limited cores f k1 (acc ++ [v]) | .error q => .error q) else .ok (acc, k)
def limB (s : ByteArray) : Bool := decide (s ≠ baseB) && decide (s ≠ sizeB)
/-- One attribute. -/
def oneAttr (toks : List Tok) (e : PosT) (names : List ByteArray) (got : List (ByteArray × List Int)) (k : Nat) : PR (ByteArray × List Int) :=
  match nextP toks e 1 k with
  | .error q => .error q
  | .ok (t, _) =>
    if memB t.Text names = false then .error (posOf toks k e, 50)
    else if memB t.Text (got.map (·.1)) = true then .error (posOf toks k e, 56)
    else match numberP toks e (limB t.Text) (k + 1) with
      | .error q => .error q
      | .ok (v, k1) => match moreN toks e (limB t.Text) (decide (t.Text = coresB)) (toks.length + 1) k1 [v] with
        | .error q => .error q
        | .ok (l, k2) => match expectP toks e 4 semiB k2 with
          | .error q => .error q
          | .ok (_, k3) => .ok ((t.Text, l), k3)
def attrN (toks : List Tok) (e : PosT) (names : List ByteArray) : Nat → Nat → List (ByteArray × List Int) → PR (List (ByteArray × List Int))
  | 0, k, got => .ok (got, k)
  | f + 1, k, got => if isS toks k 4 closeB = true then .ok (got, k) else
    match oneAttr toks e names got k with
    | .error q => .error q
    | .ok (p, k3) => attrN toks e names f k3 (got ++ [p])
def attrP (toks : List Tok) (e : PosT) (names : List ByteArray) (k : Nat) : PR (List (ByteArray × List Int)) :=
  match expectP toks e 4 openB k with
  | .error q => .error q
  | .ok (_, k1) => match attrN toks e names (toks.length + 1) k1 [] with
    | .error q => .error q
    | .ok (got, k2) => if got.length < names.length then .error (posOf toks k2 e, 50) else .ok (got, k2 + 1)

theorem isS_lt {toks : List Tok} {k : Nat} {kind : Int} {text : ByteArray} (h : isS toks k kind text = true) : k < toks.length := by
  unfold isS at h
  cases hg : toks[k]? with
  | none => rw [hg] at h; cases h
  | some t => exact (List.getElem?_eq_some_iff.1 hg).1
theorem numberP_at {toks : List Tok} {e : PosT} {limited : Bool} {k k1 : Nat} {v : Int} (h : numberP toks e limited k = .ok (v, k1)) : k1 = k + 1 ∧ k < toks.length := by
  unfold numberP at h
  cases hN : nextP toks e 2 k with
  | error q => rw [hN] at h; cases h
  | ok q =>
    obtain ⟨x, j⟩ := q
    obtain ⟨rfl, h1, -⟩ := nextP_at hN
    rw [hN] at h
    have hlt := (List.getElem?_eq_some_iff.1 h1).1
    by_cases hc : limited = true ∧ 2147483647 < x.Value
    · simp only [hc, and_self, if_true] at h; cases h
    · dsimp only at h
      rw [if_neg hc] at h
      cases h; exact ⟨rfl, hlt⟩
theorem expectP_at {toks : List Tok} {e : PosT} {kind : Int} {text : ByteArray} {k k1 : Nat} {u : Unit} (h : expectP toks e kind text k = .ok (u, k1)) : k1 = k + 1 ∧ k < toks.length := by
  unfold expectP at h
  by_cases hi : isS toks k kind text = true
  · rw [if_pos hi] at h; cases h; exact ⟨rfl, isS_lt hi⟩
  · rw [if_neg hi] at h; cases h
end Go.Proofs.YtnkekcippfdbgaaGreat
end
/- The program's parser: the attributes of an item, walked. -/
section
open Go Mk
namespace Go.Proofs.YtnkekcippfdbgaaGreat
set_option maxHeartbeats 4000000
theorem moreN_step {toks : List Tok} {e : PosT} {l c : Bool} {f k : Nat} {acc : List Int} (h : (c && isS toks k 4 commaB) = true) : moreN toks e l c (f + 1) k acc = match numberP toks e l (k + 1) with | .ok (v, k1) => moreN toks e l c f k1 (acc ++ [v]) | .error q => .error q := if_pos h
theorem moreN_stop {toks : List Tok} {e : PosT} {l c : Bool} {f k : Nat} {acc : List Int} (h : ¬ (c && isS toks k 4 commaB) = true) : moreN toks e l c (f + 1) k acc = .ok (acc, k) := if_neg h
theorem aSet_newN {β : Type} {m : List (ByteArray × β)} {a : ByteArray} {v : β} (h : aGet m a = none) : aSet m a v = m ++ [(a, v)] := by
  unfold aGet at h
  unfold aSet
  cases hi : aIx m a with
  | none => rfl
  | some i =>
    obtain ⟨u, hu⟩ := aIx_get hi
    rw [hi] at h
    simp [hu] at h
attribute [local irreducible] Calls nextP numberP expectP isS posOf moreN memB

theorem y_fldS {P : Program} {d : Option Tmp} {T ty : TypeId} {pos : String} {es : Array Edge} {g : Option (Nat × Bool)} {x : Operand} {ρ : Fr} {w : World} {v : Value} {f : Nat} {fs : Array Field} {fl : Field} {vs : Array Value} (hu : P.underlying T = some (.struct fs)) (hf : fs[f]? = some fl) (hx : ev ρ x = .agg vs) (hs : scal P fl.type = true) (hv : vs[fl.offset]? = some v) : Mk.Yields P ⟨d, .field T x f, ty, pos, es, g⟩ ρ w v := by
  unfold Mk.Yields; simp [execOp, go_sem, hx, hf, Instr.field, run_underlying hu, part, asAgg, scal_isAgg hs, hv]
abbrev strRows (l : List ByteArray) : List (List Value) := l.map fun x => [.string x]
theorem memB_get {ms : List (ByteArray × NumH)} {s : ByteArray} : memB s ((ms.map fun p => (p.1, p.2.L)).map (·.1)) = (aGet ms s).isSome := by
  unfold memB aGet aIx
  rw [List.map_map, List.any_map]
  cases hf : ms.findIdx? (fun p => decide (p.1 = s)) with
  | none =>
    rw [List.findIdx?_eq_none_iff] at hf
    refine List.any_eq_false.2 fun p hp he => ?_
    have h1 := hf p hp
    have h2 : s = p.1 := of_decide_eq_true he
    rw [h2] at h1; simp at h1
  | some i =>
    obtain ⟨hi, hp, -⟩ := List.findIdx?_eq_some_iff_getElem.1 hf
    rw [List.any_eq_true.2 ⟨ms[i], List.getElem_mem hi, by
      have := of_decide_eq_true hp
      exact decide_eq_true this.symm⟩]
    simp [List.getElem?_eq_getElem hi]
section
variable {Γ : Gho} {S : List Res} {w : World} {bp : Nat} {a : Option Addr} {n c at' : Nat} {e : PosT} {toks : List Tok}
theorem attributes_any (names : List ByteArray) (vn : Value) (ht : RepS Γ (.slice a n c) 5 (toks.map enc)) (hbig : n ≤ 1000000) (hat : at' ≤ n) (hnl : names.length ≤ 8) (hw : Wd Γ (parB bp a n c at' e :: .own vn 9 1 (strRows names) :: S) w) :
    Calls Tryz.prog 121 #[.pointer (some ⟨bp, 0, none⟩), vn] w fun r w' => ∃ Γ', Γ.le Γ' ∧ (match attrP toks e names at' with
      | .ok (got, k) => ∃ (bm : Nat) (ms : List (ByteArray × NumH)), r = .returned (.map (some bm)) ∧ ms.map (fun p => (p.1, p.2.L)) = got ∧ (∀ p ∈ ms, NOk Γ' p.2) ∧ Wd Γ' (Res.ms numV bm ms :: parB bp a n c k e :: .own vn 9 1 (strRows names) :: S) w'
      | .error (p, er) => r = .panicked [failE p er] ∧ ∃ k, Wd Γ' (parB bp a n c k e :: .own vn 9 1 (strRows names) :: S) w') := by
  have hn : n = toks.length ∧ n ≤ c ∧ c ≤ 9223372036854775807 := by obtain ⟨_, _, _, h1, h2, h3⟩ := ht.shape; cases h1; exact ⟨by simpa using h2, h3⟩
  obtain ⟨hn, hnc, hc⟩ := hn
  obtain ⟨an, nn, cn, rfl, hnn, hnnc, hcn⟩ := hw.own_shape (i := 1) rfl
  simp only [List.length_map] at hnn
  refine calls_of_W Tryz.func121 rfl rfl ?_
  repeat (first | refine byW ?_ | (refine byV ?_; intro w hw))
  refine lMakeMapS numV ?_
  intro bm w hw
  repeat (first | refine byW ?_ | (refine byV ?_; intro w hw))
  refine L_callE ?_
  refine (expect_any (S := Res.ms numV bm [] :: .own _ _ _ _ :: S) 4 openB ht hat (hw.ps [0, 1])).mono ?_
  rintro r w hr
  unfold attrP
  cases hN : expectP toks e 4 openB at' with
  | error q =>
    obtain ⟨p, er⟩ := q
    rw [hN] at hr
    obtain ⟨rfl, k, hw⟩ := hr
    exact ⟨Γ, Gho.le.refl _, rfl, k, hw.dropAt 1⟩
  | ok q =>
    obtain ⟨⟨⟩, k0⟩ := q
    obtain ⟨hk0, hlt0⟩ := expectP_at hN
    rw [hN] at hr
    obtain ⟨rfl, hw⟩ := hr
    dsimp only
    show L _ _ _ _ _ _ _
    repeat (first | refine byW ?_ | (refine byV ?_; intro w hw))
    refine W_loop (fun μ ρ w => ∃ (k : Nat) (ms : List (ByteArray × NumH)) (Γ' : Gho), k ≤ n ∧ n < μ + k ∧ Has ρ [(0, .pointer (some ⟨bp, 0, none⟩)), (1, .slice an nn cn), (5, .map (some bm))] ∧ Γ.le Γ' ∧ (∀ p ∈ ms, NOk Γ' p.2) ∧ attrN toks e names (toks.length + 1) k0 [] = attrN toks e names μ k (ms.map fun p => (p.1, p.2.L)) ∧ Wd Γ' (parB bp a n c k e :: Res.ms numV bm ms :: .own (.slice an nn cn) 9 1 (strRows names) :: S) w) (toks.length + 1) ⟨k0, [], Γ, by omega, by omega, ⟨rfl, rfl, rfl, trivial⟩, Gho.le.refl _, by simp, rfl, hw⟩ ?_
    clear hw hN
    rintro μ ρ w ⟨k, ms, Γ', hk, hμ, hρ, hle, hok, hA, hw⟩
    rw [hρ.eq]
    obtain ⟨f, rfl⟩ : ∃ f, μ = f + 1 := ⟨μ - 1, by omega⟩
    have ht' := ht.mono hle
    rw [hA]
    repeat (first | refine byW ?_ | (refine byV ?_; intro w hw))
    refine lCall ?_
    refine (is_any 4 closeB ht' hw).mono ?_
    rintro r w ⟨rfl, hw⟩
    refine ⟨_, rfl, ?_⟩
    repeat (first | refine byW ?_ | (refine byV ?_; intro w hw))
    refine W_cond rfl (fun h => ?_) (fun h => ?_)
    · have h : ¬ isS toks k 4 closeB = true := by simpa using h
      have hS : attrN toks e names (f + 1) k (ms.map fun p => (p.1, p.2.L)) = match oneAttr toks e names (ms.map fun p => (p.1, p.2.L)) k with
        | .error q => .error q
        | .ok (p, k3) => attrN toks e names f k3 ((ms.map fun p => (p.1, p.2.L)) ++ [p]) := if_neg h
      rw [hS]
      repeat (first | refine byW ?_ | (refine byV ?_; intro w hw))
      refine L_callE ?_
      refine (next_any 1 ht' hk hw).mono ?_
      rintro r w hr
      unfold oneAttr
      cases hN : nextP toks e 1 k with
      | error q =>
        obtain ⟨p, er⟩ := q
        rw [hN] at hr
        obtain ⟨rfl, k', hw⟩ := hr
        dsimp only
        exact ⟨Γ', hle, rfl, k', hw.dropAt 1⟩
      | ok q =>
        obtain ⟨t, j⟩ := q
        obtain ⟨hj, ht1, -⟩ := nextP_at hN
        subst j
        have hkn : k < n := by have := (List.getElem?_eq_some_iff.1 ht1).1; omega
        rw [hN] at hr
        obtain ⟨rfl, hw⟩ := hr
        dsimp only
        show L _ _ _ _ _ _ _
        repeat (first | refine byW ?_ | (refine byV ?_; intro w hw))
        refine lY (v := .string t.Text) ?_ (hy := y_fldS Tryz.underlying63 rfl rfl (TS.h (P := Tryz.prog) (T := 9)) rfl)
        repeat (first | refine byW ?_ | (refine byV ?_; intro w hw))
        refine lCall ?_
        refine (Contains_any names t.Text hw (RdS.own (i := 2) hw rfl)).mono ?_
        rintro r w ⟨rfl, hw⟩
        refine ⟨_, rfl, ?_⟩
        repeat (first | refine byW ?_ | (refine byV ?_; intro w hw))
        refine W_cond rfl (fun h2 => ?_) (fun h2 => ?_)
        · have h2 : memB t.Text names = false := by simpa using h2
          rw [if_pos h2]
          repeat (first | refine byW ?_ | (refine byV ?_; intro w hw))
          refine L_callE ?_
          refine (fail_any 50 ht' hw).mono ?_
          rintro r w ⟨rfl, hw⟩
          dsimp only
          exact ⟨Γ', hle, rfl, k, hw.dropAt 1⟩
        have h2 : ¬ memB t.Text names = false := by simpa using h2
        rw [if_neg h2, memB_get]
        repeat (first | refine byW ?_ | (refine byV ?_; intro w hw))
        refine W_cond rfl (fun h3 => ?_) (fun h3 => ?_)
        · rw [if_pos h3]
          repeat (first | refine byW ?_ | (refine byV ?_; intro w hw))
          refine L_callE ?_
          refine (fail_any 56 ht' hw).mono ?_
          rintro r w ⟨rfl, hw⟩
          dsimp only
          exact ⟨Γ', hle, rfl, k, hw.dropAt 1⟩
        rw [if_neg (by rw [h3]; simp)]
        unfold parB at hw
        repeat (first | refine byW ?_ | (refine byV ?_; intro w hw))
        refine lStore ?_
        intro w hw
        have hw : Wd Γ' (parB bp a n c (k + 1) e :: Res.ms numV bm ms :: .own (.slice an nn cn) 9 1 (strRows names) :: S) w := hw
        repeat (first | refine byW ?_ | (refine byV ?_; intro w hw))
        refine L_callE ?_
        refine (pnumber_any (limB t.Text) ht' (by omega) hw).mono ?_
        rintro r w hr
        cases hM : numberP toks e (limB t.Text) (k + 1) with
        | error q =>
          obtain ⟨p, er⟩ := q
          rw [hM] at hr
          obtain ⟨rfl, k', hw⟩ := hr
          dsimp only
          exact ⟨Γ', hle, rfl, k', hw.dropAt 1⟩
        | ok q =>
          obtain ⟨v, k1⟩ := q
          obtain ⟨hk1, hk1n⟩ := numberP_at hM
          rw [hM] at hr
          obtain ⟨rfl, hw⟩ := hr
          dsimp only
          show L _ _ _ _ _ _ _
          refine lBuildSlice [[.int .u64 v]] ?_
          intro a51 w hw
          repeat (first | refine byW ?_ | (refine byV ?_; intro w hw))
          obtain ⟨got, hgot⟩ : ∃ got, got = (.slice (some a51) 1 1 : Value) := ⟨_, rfl⟩
          refine W_loop (fun μ ρ w => ∃ (kk : Nat) (acc : List Int) (v' : Value), kk ≤ n ∧ n < μ + kk ∧ k < kk ∧ acc.length ≤ kk ∧ Has ρ [(0, .pointer (some ⟨bp, 0, none⟩)), (1, .slice an nn cn), (5, .map (some bm)), (6, .string t.Text), (9, .bool (limB t.Text)), (10, v')] ∧ moreN toks e (limB t.Text) (decide (t.Text = coresB)) (toks.length + 1) k1 [v] = moreN toks e (limB t.Text) (decide (t.Text = coresB)) μ kk acc ∧ Wd Γ' (.own v' 61 1 (numRows acc) :: parB bp a n c kk e :: Res.ms numV bm ms :: .own (.slice an nn cn) 9 1 (strRows names) :: S) w) (toks.length + 1) ⟨k1, [v], _, by omega, by omega, by omega, by simp; omega, ⟨rfl, rfl, rfl, rfl, rfl, rfl, trivial⟩, rfl, hw⟩ ?_
          clear hw hgot hA hS
          rintro μ ρ w ⟨kk, acc, v', hkk, hμ2, hkk0, hacc, hρ, hB, hw⟩
          obtain ⟨f2, rfl⟩ : ∃ f2, μ = f2 + 1 := ⟨μ - 1, by omega⟩
          rw [hB]
          refine W_seq ?_
          refine W_cut (fun ρ w => Has ρ [(0, .pointer (some ⟨bp, 0, none⟩)), (1, .slice an nn cn), (5, .map (some bm)), (6, .string t.Text), (9, .bool (limB t.Text)), (10, v'), (57, .bool (decide (t.Text = coresB) && isS toks kk 4 commaB))] ∧ Wd Γ' (.own v' 61 1 (numRows acc) :: parB bp a n c kk e :: Res.ms numV bm ms :: .own (.slice an nn cn) 9 1 (strRows names) :: S) w) ?_ ?_
          · rw [hρ.eq]
            refine W_region ?_
            iterate 3 (first | refine byW ?_ | (refine byV ?_; intro w hw))
            by_cases hcz : t.Text = coresB
            · refine lGT ?_ (hct := decide_eq_true hcz)
              first | refine byW ?_ | (refine byV ?_; intro w hw)
              refine lGT ?_ (hct := decide_eq_true hcz)
              refine lCall ?_
              refine (is_any 4 commaB ht' (hw.ps [1])).mono ?_
              rintro r w ⟨rfl, hw⟩
              refine ⟨_, rfl, ?_⟩
              refine lY (v := .bool (isS toks kk 4 commaB)) ?_ (hy := y_pickT (congrArg Value.bool (decide_eq_true hcz)) rfl)
              repeat (first | refine byW ?_ | (refine byV ?_; intro w hw))
              rw [decide_eq_true hcz]
              exact ⟨⟨rfl, rfl, rfl, rfl, rfl, rfl, rfl, trivial⟩, hw.ps [1]⟩
            · refine lGF ?_ (hct := decide_eq_false hcz)
              refine lGF ?_ (hct := decide_eq_false hcz)
              refine lY (v := .bool false) ?_ (hy := y_pickF (congrArg Value.bool (decide_eq_false hcz)) rfl)
              repeat (first | refine byW ?_ | (refine byV ?_; intro w hw))
              rw [decide_eq_false hcz]
              exact ⟨⟨rfl, rfl, rfl, rfl, rfl, rfl, rfl, trivial⟩, hw⟩
          clear hw hρ
          rintro ρ w ⟨hρ, hw⟩
          rw [hρ.eq]
          refine W_cond rfl (fun h4 => ?_) (fun h4 => ?_)
          · have hlt4 := isS_lt (by simp only [Bool.and_eq_true] at h4; exact h4.2)
            rw [moreN_step h4]
            unfold parB at hw
            repeat (first | refine byW ?_ | (refine byV ?_; intro w hw))
            refine lStore ?_
            intro w hw
            have hw : Wd Γ' (.own v' 61 1 (numRows acc) :: parB bp a n c (kk + 1) e :: Res.ms numV bm ms :: .own (.slice an nn cn) 9 1 (strRows names) :: S) w := hw
            repeat (first | refine byW ?_ | (refine byV ?_; intro w hw))
            refine L_callE ?_
            refine (pnumber_any (limB t.Text) ht' (by omega) (hw.ps [1])).mono ?_
            rintro r w hr
            cases hM : numberP toks e (limB t.Text) (kk + 1) with
            | error q =>
              obtain ⟨p, er⟩ := q
              rw [hM] at hr
              obtain ⟨rfl, k', hw⟩ := hr
              dsimp only
              exact ⟨Γ', hle, rfl, k', (hw.dropAt 1).dropAt 1⟩
            | ok q =>
              obtain ⟨v2, k2⟩ := q
              obtain ⟨hk2, hk2n⟩ := numberP_at hM
              rw [hM] at hr
              obtain ⟨rfl, hw⟩ := hr
              dsimp only
              show L _ _ _ _ _ _ _
              refine lBuildSlice [[.int .u64 v2]] ?_
              intro a69 w hw
              have hw := hw.ps [2]
              obtain ⟨a2, n2, c2, rfl, hn2, -, -⟩ := hw.own_shape (i := 0) rfl
              refine lApp (i := 0) (rows2 := [[.int .u64 v2]]) ?_ (Wd.own_rd (i := 1) hw rfl) (hb := by simp [numRows] at hn2; omega) (h63 := by simp [numRows] at hn2; omega)
              intro v3 w hw
              have hw := (show Wd Γ' (.own v3 61 1 (numRows acc ++ [[.int .u64 v2]]) :: .own _ _ _ _ :: parB bp a n c k2 e :: Res.ms numV bm ms :: .own (.slice an nn cn) 9 1 (strRows names) :: S) w from hw).dropAt 1
              rw [show numRows acc ++ [[.int .u64 v2]] = numRows (acc ++ [v2]) by simp [numRows]] at hw
              repeat (first | refine byW ?_ | (refine byV ?_; intro w hw))
              exact ⟨f2, by omega, k2, acc ++ [v2], v3, by omega, by omega, by omega, by simp; omega, ⟨rfl, rfl, rfl, rfl, rfl, rfl, trivial⟩, rfl, hw⟩
          · have h4 : ¬ (decide (t.Text = coresB) && isS toks kk 4 commaB) = true := by rw [h4]; simp
            rw [moreN_stop h4]
            dsimp only
            repeat (first | refine byW ?_ | (refine byV ?_; intro w hw))
            refine L_callE ?_
            refine (expect_any 4 semiB ht' hkk (hw.ps [1])).mono ?_
            rintro r w hr
            cases hE : expectP toks e 4 semiB kk with
            | error q =>
              obtain ⟨p, er⟩ := q
              rw [hE] at hr
              obtain ⟨rfl, k', hw⟩ := hr
              dsimp only
              exact ⟨Γ', hle, rfl, k', (hw.dropAt 1).dropAt 1⟩
            | ok q =>
              obtain ⟨⟨⟩, k3⟩ := q
              obtain ⟨hk3, hk3n⟩ := expectP_at hE
              rw [hE] at hr
              obtain ⟨rfl, hw⟩ := hr
              dsimp only
              show L _ _ _ _ _ _ _
              have hw := hw.ps [1]
              obtain ⟨a2, n2, c2, rfl, -, -, -⟩ := hw.own_shape (i := 0) rfl
              obtain ⟨Γ2, hle2, hr2, hw⟩ := hw.freeze
              repeat (first | refine byW ?_ | (refine byV ?_; intro w hw))
              refine lMapUpdS (i := 1) (v := (⟨a2, n2, c2, acc⟩ : NumH)) ?_
              intro w hw
              have hg : aGet ms t.Text = none := by simpa using h3
              rw [aSet_newN hg] at hw
              repeat (first | refine byW ?_ | (refine byV ?_; intro w hw))
              have hw : Wd Γ2 (parB bp a n c k3 e :: Res.ms numV bm (ms ++ [(t.Text, (⟨a2, n2, c2, acc⟩ : NumH))]) :: .own (.slice an nn cn) 9 1 (strRows names) :: S) w := hw
              refine ⟨f, by omega, k3, ms ++ [(t.Text, ⟨a2, n2, c2, acc⟩)], Γ2, by omega, by omega, ⟨rfl, rfl, rfl, trivial⟩, Gho.le.trans hle hle2, ?_, by rw [List.map_append]; rfl, hw⟩
              intro p hp
              rcases List.mem_append.1 hp with hp | hp
              · exact RepS.mono (hok p hp) hle2
              · cases List.mem_singleton.1 hp; exact hr2
    · have h : isS toks k 4 closeB = true := by simpa using h
      have hS : attrN toks e names (f + 1) k (ms.map fun p => (p.1, p.2.L)) = .ok (ms.map fun p => (p.1, p.2.L), k) := if_pos h
      rw [hS]
      dsimp only
      have hlt := isS_lt h
      repeat (first | refine byW ?_ | (refine byV ?_; intro w hw))
      refine W_cond rfl (fun h2 => ?_) (fun h2 => ?_)
      · have h2 : (ms.map fun p => (p.1, p.2.L)).length < names.length := by simp at h2 ⊢; omega
        rw [if_pos h2]
        repeat (first | refine byW ?_ | (refine byV ?_; intro w hw))
        refine L_callE ?_
        refine (fail_any 50 ht' hw).mono ?_
        rintro r w ⟨rfl, hw⟩
        exact ⟨Γ', hle, rfl, k, hw.dropAt 1⟩
      · have h2 : ¬ (ms.map fun p => (p.1, p.2.L)).length < names.length := by simp at h2 ⊢; omega
        rw [if_neg h2]
        unfold parB at hw
        repeat (first | refine byW ?_ | (refine byV ?_; intro w hw))
        refine lStore ?_
        intro w hw
        have hw : Wd Γ' (parB bp a n c (k + 1) e :: Res.ms numV bm ms :: .own (.slice an nn cn) 9 1 (strRows names) :: S) w := hw
        repeat (first | refine byW ?_ | (refine byV ?_; intro w hw))
        exact ⟨_, rfl, Γ', hle, bm, ms, rfl, rfl, hok, hw.ps [1]⟩
end
end Go.Proofs.YtnkekcippfdbgaaGreat
end
/- The program's parser: what an item adds to a description. -/
section
open Go Mk
namespace Go.Proofs.YtnkekcippfdbgaaGreat
set_option maxHeartbeats 4000000
attribute [local irreducible] Calls nextP numberP expectP isS posOf memB nameP

structure CoreT where
  ID : Int
  Width : Int
  Node : Int
  Speed : Int
  deriving DecidableEq, Inhabited
instance : GoT CoreT where
  enc a := [.int .i64 a.ID, .int .i64 a.Width, .int .i64 a.Node, .int .i64 a.Speed]
  inj a b h := by cases a; cases b; simp at h; simp [h]
  ks := [5, 5, 5, 5]
  kinds a := rfl
structure LinkT where
  A : Int
  B : Int
  Latency : Int
  deriving DecidableEq, Inhabited
instance : GoT LinkT where
  enc a := [.int .i64 a.A, .int .i64 a.B, .int .i64 a.Latency]
  inj a b h := by cases a; cases b; simp at h; simp [h]
  ks := [5, 5, 5]
  kinds a := rfl
structure MemT where
  Name : ByteArray
  Base : Int
  Size : Int
  Node : Int
  Latency : Int
  deriving DecidableEq, Inhabited
instance : GoT MemT where
  enc a := [.string a.Name, .int .u64 a.Base, .int .u64 a.Size, .int .i64 a.Node, .int .i64 a.Latency]
  inj a b h := by cases a; cases b; simp at h; simp [h]
  ks := [1, 9, 9, 5, 5]
  kinds a := rfl
structure DevT where
  Name : ByteArray
  Node : Int
  IRQ : Int
  Base : Int
  Size : Int
  deriving DecidableEq, Inhabited
instance : GoT DevT where
  enc a := [.string a.Name, .int .i64 a.Node, .int .i64 a.IRQ, .int .u64 a.Base, .int .u64 a.Size]
  inj a b h := by cases a; cases b; simp at h; simp [h]
  ks := [1, 5, 5, 9, 9]
  kinds a := rfl
structure CacheT where
  Name : ByteArray
  Level : Int
  Line : Int
  Size : Int
  Cores : List Int
  deriving DecidableEq, Inhabited
/-- A cache in memory: its list of cores lies elsewhere. -/
structure CacheH where
  Name : ByteArray
  Level : Int
  Line : Int
  Size : Int
  A : Option Addr
  N : Nat
  C : Nat
  Cores : List Int
instance : Inhabited CacheH := ⟨⟨⟨#[]⟩, 0, 0, 0, none, 0, 0, []⟩⟩
def CacheH.T (c : CacheH) : CacheT := ⟨c.Name, c.Level, c.Line, c.Size, c.Cores⟩
def cC (c : CacheH) : List Value := [.string c.Name, .int .i64 c.Level, .int .i64 c.Line, .int .u64 c.Size, .slice c.A c.N c.C]
def intRows (l : List Int) : List (List Value) := l.map fun x => [.int .i64 x]
def COk (Γ : Gho) (c : CacheH) : Prop := RepS Γ (.slice c.A c.N c.C) 1 (intRows c.Cores)
structure HwT where
  Name : ByteArray
  Cores : List CoreT
  Caches : List CacheT
  Links : List LinkT
  Mems : List MemT
  Devs : List DevT
  deriving DecidableEq
instance : Inhabited HwT := ⟨⟨⟨#[]⟩, [], [], [], [], []⟩⟩
/-- A description in memory, owned. -/
def HwIn (Γ : Gho) (F : List Res) (hb : Nat) (H : HwT) (S : List Res) (w : World) : Prop := ∃ (v1 v2 v3 v4 v5 : Value) (cs : List CacheH), cs.map CacheH.T = H.Caches ∧ (∀ c ∈ cs, COk Γ c) ∧
  Wd Γ (F ++ .blk hb (.cells #[.string H.Name, v1, v2, v3, v4, v5] 29) :: .own v1 72 4 (H.Cores.map enc) :: .own v2 75 5 (cs.map cC) :: .own v3 77 3 (H.Links.map enc) :: .own v4 79 5 (H.Mems.map enc) :: .own v5 81 5 (H.Devs.map enc) :: S) w

def widthB : ByteArray := ⟨#[119, 105, 100, 116, 104]⟩
def nodeB : ByteArray := ⟨#[110, 111, 100, 101]⟩
def speedB : ByteArray := ⟨#[115, 112, 101, 101, 100]⟩
def levelB : ByteArray := ⟨#[108, 101, 118, 101, 108]⟩
def lineB : ByteArray := ⟨#[108, 105, 110, 101]⟩
def latencyB : ByteArray := ⟨#[108, 97, 116, 101, 110, 99, 121]⟩
def irqB : ByteArray := ⟨#[105, 114, 113]⟩
def coreB : ByteArray := ⟨#[99, 111, 114, 101]⟩
def cacheB : ByteArray := ⟨#[99, 97, 99, 104, 101]⟩
def linkB : ByteArray := ⟨#[108, 105, 110, 107]⟩
def memoryB : ByteArray := ⟨#[109, 101, 109, 111, 114, 121]⟩
def deviceB : ByteArray := ⟨#[100, 101, 118, 105, 99, 101]⟩

abbrev Got := List (ByteArray × List Int)
def numOf (got : Got) (s : ByteArray) : Int := ((aGet got s).getD []).headD 0
def intOf (got : Got) (s : ByteArray) : Int := IntKind.i64.wrap (numOf got s)
def coreP (toks : List Tok) (e : PosT) (k : Nat) : PR CoreT := match numberP toks e true k with
  | .error q => .error q
  | .ok (id, k1) => match attrP toks e [widthB, nodeB, speedB] k1 with
    | .error q => .error q
    | .ok (a, k2) => .ok (⟨IntKind.i64.wrap id, intOf a widthB, intOf a nodeB, intOf a speedB⟩, k2)
def cacheP (toks : List Tok) (e : PosT) (k : Nat) : PR CacheT := match nameP toks e 1 k with
  | .error q => .error q
  | .ok (s, k1) => match attrP toks e [levelB, lineB, sizeB, coresB] k1 with
    | .error q => .error q
    | .ok (a, k2) => .ok (⟨s, intOf a levelB, intOf a lineB, numOf a sizeB, ((aGet a coresB).getD []).map fun v => IntKind.i64.wrap v⟩, k2)
def linkP (toks : List Tok) (e : PosT) (k : Nat) : PR LinkT := match numberP toks e true k with
  | .error q => .error q
  | .ok (x, k1) => match numberP toks e true k1 with
    | .error q => .error q
    | .ok (y, k2) => match attrP toks e [latencyB] k2 with
      | .error q => .error q
      | .ok (a, k3) => .ok (⟨IntKind.i64.wrap x, IntKind.i64.wrap y, intOf a latencyB⟩, k3)
def memP (toks : List Tok) (e : PosT) (k : Nat) : PR MemT := match nameP toks e 1 k with
  | .error q => .error q
  | .ok (s, k1) => match attrP toks e [baseB, sizeB, nodeB, latencyB] k1 with
    | .error q => .error q
    | .ok (a, k2) => .ok (⟨s, numOf a baseB, numOf a sizeB, intOf a nodeB, intOf a latencyB⟩, k2)
def devP (toks : List Tok) (e : PosT) (k : Nat) : PR DevT := match nameP toks e 1 k with
  | .error q => .error q
  | .ok (s, k1) => match attrP toks e [nodeB, irqB, baseB, sizeB] k1 with
    | .error q => .error q
    | .ok (a, k2) => .ok (⟨s, intOf a nodeB, intOf a irqB, numOf a baseB, numOf a sizeB⟩, k2)
def PR.map {α β : Type} (f : α → β) : PR α → PR β
  | .ok (x, k) => .ok (f x, k)
  | .error q => .error q
def itemP (toks : List Tok) (e : PosT) (k : Nat) (H : HwT) : PR HwT := match nextP toks e 1 k with
  | .error q => .error q
  | .ok (t, _) =>
    if t.Text = coreB then PR.map (fun c => { H with Cores := H.Cores ++ [c] }) (coreP toks e (k + 1))
    else if t.Text = cacheB then PR.map (fun c => { H with Caches := H.Caches ++ [c] }) (cacheP toks e (k + 1))
    else if t.Text = linkB then PR.map (fun c => { H with Links := H.Links ++ [c] }) (linkP toks e (k + 1))
    else if t.Text = memoryB then PR.map (fun c => { H with Mems := H.Mems ++ [c] }) (memP toks e (k + 1))
    else if t.Text = deviceB then PR.map (fun c => { H with Devs := H.Devs ++ [c] }) (devP toks e (k + 1))
    else .error (posOf toks k e, 50)
def itemsP (toks : List Tok) (e : PosT) : Nat → Nat → HwT → PR HwT
  | 0, k, H => .ok (H, k)
  | f + 1, k, H => if isS toks k 4 closeB = true then .ok (H, k) else match itemP toks e k H with
    | .error q => .error q
    | .ok (H', k') => itemsP toks e f k' H'
def machineB : ByteArray := ⟨#[109, 97, 99, 104, 105, 110, 101]⟩
def hardwareP (toks : List Tok) (e : PosT) : PR HwT := match expectP toks e 1 machineB 0 with
  | .error q => .error q
  | .ok (_, k1) => match nameP toks e 3 k1 with
    | .error q => .error q
    | .ok (s, k2) => match expectP toks e 4 openB k2 with
      | .error q => .error q
      | .ok (_, k3) => match itemsP toks e (toks.length + 1) k3 ⟨s, [], [], [], [], []⟩ with
        | .error q => .error q
        | .ok (H, k4) => if k4 + 1 < toks.length then .error (posOf toks (k4 + 1) e, 50) else .ok (H, k4 + 1)

/-! ### what an attribute list holds -/
theorem aGet_some_iff {β : Type} {l : List (ByteArray × β)} {s : ByteArray} : (∃ v, aGet l s = some v) ↔ s ∈ l.map (·.1) := by
  unfold aGet aIx
  constructor
  · rintro ⟨v, h⟩
    cases hf : l.findIdx? (fun p => decide (p.1 = s)) with
    | none => rw [hf] at h; cases h
    | some i =>
      obtain ⟨hi, hp, -⟩ := List.findIdx?_eq_some_iff_getElem.1 hf
      exact List.mem_map.2 ⟨l[i], List.getElem_mem hi, of_decide_eq_true hp⟩
  · intro h
    obtain ⟨p, hp, he⟩ := List.mem_map.1 h
    cases hf : l.findIdx? (fun p => decide (p.1 = s)) with
    | none =>
      rw [List.findIdx?_eq_none_iff] at hf
      have := hf p hp
      simp [he] at this
    | some i =>
      obtain ⟨hi, -, -⟩ := List.findIdx?_eq_some_iff_getElem.1 hf
      exact ⟨l[i].2, by simp [List.getElem?_eq_getElem hi]⟩
theorem aGet_mem {β : Type} {l : List (ByteArray × β)} {s : ByteArray} {v : β} (h : aGet l s = some v) : (s, v) ∈ l := by
  unfold aGet aIx at h
  cases hf : l.findIdx? (fun p => decide (p.1 = s)) with
  | none => rw [hf] at h; cases h
  | some i =>
    obtain ⟨hi, hp, -⟩ := List.findIdx?_eq_some_iff_getElem.1 hf
    rw [hf] at h
    simp [List.getElem?_eq_getElem hi] at h
    have hp : l[i].1 = s := of_decide_eq_true hp
    have : l[i] = (s, v) := by rw [← hp, ← h]
    rw [← this]; exact List.getElem_mem hi
theorem nodup_le {α : Type} [DecidableEq α] : ∀ (ks L : List α), ks.Nodup → (∀ x ∈ ks, x ∈ L) → ks.length ≤ L.length
  | [], _, _, _ => Nat.zero_le _
  | k :: ks, L, hn, hs => by
    have hk := hs k (List.mem_cons_self ..)
    have h1 := nodup_le ks (L.erase k) (List.nodup_cons.1 hn).2 fun x hx => by
      refine (List.mem_erase_of_ne ?_).2 (hs x (List.mem_cons_of_mem _ hx))
      rintro rfl; exact (List.nodup_cons.1 hn).1 hx
    rw [List.length_erase_of_mem hk] at h1
    have := List.length_pos_of_mem hk
    simp; omega
theorem nodup_all {α : Type} [DecidableEq α] {ks L : List α} (hn : ks.Nodup) (hs : ∀ x ∈ ks, x ∈ L) (hl : L.length ≤ ks.length) : ∀ x ∈ L, x ∈ ks := fun x hx => by
  by_cases h : x ∈ ks
  · exact h
  · have h1 := nodup_le (x :: ks) L (List.nodup_cons.2 ⟨h, hn⟩) (by simpa using ⟨hx, hs⟩)
    simp at h1; omega
theorem moreN_ne {toks : List Tok} {e : PosT} {l c : Bool} : ∀ {f k : Nat} {acc r : List Int} {k2 : Nat}, k ≤ toks.length → acc ≠ [] → moreN toks e l c f k acc = .ok (r, k2) → r ≠ [] ∧ k ≤ k2 ∧ k2 ≤ toks.length
  | 0, k, acc, r, k2, hk, ha, h => by cases h; exact ⟨ha, Nat.le_refl _, hk⟩
  | f + 1, k, acc, r, k2, hk, ha, h => by
    by_cases hc : (c && isS toks k 4 commaB) = true
    · rw [moreN_step hc] at h
      cases hN : numberP toks e l (k + 1) with
      | error q => rw [hN] at h; cases h
      | ok q =>
        obtain ⟨v, k1⟩ := q
        rw [hN] at h
        obtain ⟨h1, h2⟩ := numberP_at hN
        obtain ⟨a, b, c⟩ := moreN_ne (by omega) (by simp) h
        exact ⟨a, by omega, c⟩
    · rw [moreN_stop hc] at h; cases h; exact ⟨ha, Nat.le_refl _, hk⟩
theorem oneAttr_ok {toks : List Tok} {e : PosT} {names : List ByteArray} {got : Got} {k k3 : Nat} {p : ByteArray × List Int} (h : oneAttr toks e names got k = .ok (p, k3)) : p.1 ∈ names ∧ p.1 ∉ got.map (·.1) ∧ p.2 ≠ [] ∧ k < k3 ∧ k3 ≤ toks.length := by
  unfold oneAttr at h
  cases hN : nextP toks e 1 k with
  | error q => rw [hN] at h; cases h
  | ok q =>
    obtain ⟨t, j⟩ := q
    rw [hN] at h
    dsimp only at h
    by_cases h1 : memB t.Text names = false
    · rw [if_pos h1] at h; cases h
    rw [if_neg h1] at h
    by_cases h2 : memB t.Text (got.map (·.1)) = true
    · rw [if_pos h2] at h; cases h
    rw [if_neg h2] at h
    cases hM : numberP toks e (limB t.Text) (k + 1) with
    | error q => rw [hM] at h; cases h
    | ok q =>
      obtain ⟨v, k1⟩ := q
      obtain ⟨hk1, hk1n⟩ := numberP_at hM
      rw [hM] at h
      dsimp only at h
      cases hL : moreN toks e (limB t.Text) (decide (t.Text = coresB)) (toks.length + 1) k1 [v] with
      | error q => rw [hL] at h; cases h
      | ok q =>
        obtain ⟨l, k2⟩ := q
        rw [hL] at h
        dsimp only at h
        obtain ⟨a, b, c⟩ := moreN_ne (by omega) (by simp) hL
        cases hE : expectP toks e 4 semiB k2 with
        | error q => rw [hE] at h; cases h
        | ok q =>
          obtain ⟨⟨⟩, k4⟩ := q
          obtain ⟨hk4, hk4n⟩ := expectP_at hE
          rw [hE] at h
          cases h
          have memIff : ∀ (s : ByteArray) (xs : List ByteArray), memB s xs = true ↔ s ∈ xs := fun s xs => by
            unfold memB; rw [List.any_eq_true]
            exact ⟨fun ⟨x, hx, he⟩ => by rw [of_decide_eq_true he]; exact hx, fun h => ⟨s, h, decide_eq_true rfl⟩⟩
          refine ⟨?_, fun hm => h2 ((memIff _ _).2 hm), a, by omega, by omega⟩
          exact (memIff _ _).1 (by simpa using h1)
theorem attrN_ok {toks : List Tok} {e : PosT} {names : List ByteArray} : ∀ {f k k2 : Nat} {got r : Got}, k ≤ toks.length → toks.length < f + k → (got.map (·.1)).Nodup → (∀ p ∈ got, p.1 ∈ names ∧ p.2 ≠ []) → attrN toks e names f k got = .ok (r, k2) → (r.map (·.1)).Nodup ∧ (∀ p ∈ r, p.1 ∈ names ∧ p.2 ≠ []) ∧ k ≤ k2 ∧ k2 < toks.length
  | 0, k, k2, got, r, hk, hf, hn, hp, h => by omega
  | f + 1, k, k2, got, r, hk, hf, hn, hp, h => by
    unfold attrN at h
    by_cases hc : isS toks k 4 closeB = true
    · rw [if_pos hc] at h; cases h; exact ⟨hn, hp, Nat.le_refl _, isS_lt hc⟩
    · rw [if_neg hc] at h
      cases hO : oneAttr toks e names got k with
      | error q => rw [hO] at h; cases h
      | ok q =>
        obtain ⟨p, k3⟩ := q
        rw [hO] at h
        obtain ⟨h1, h2, h3, h4, h5⟩ := oneAttr_ok hO
        obtain ⟨a, b, c, d⟩ := attrN_ok (f := f) (k := k3) (got := got ++ [p]) h5 (by omega) (by
          rw [List.map_append, List.nodup_append]
          refine ⟨hn, by simp, fun x hx y hy => ?_⟩
          simp at hy; subst hy
          rintro rfl; exact h2 hx) (fun x hx => by
          rcases List.mem_append.1 hx with hx | hx
          · exact hp x hx
          · cases List.mem_singleton.1 hx; exact ⟨h1, h3⟩) h
        exact ⟨a, b, by omega, d⟩
/-- Where the attributes are read, each name has a list that is not empty. -/
theorem attrP_ok {toks : List Tok} {e : PosT} {names : List ByteArray} {k k2 : Nat} {r : Got} (h : attrP toks e names k = .ok (r, k2)) : (∀ s ∈ names, ∃ v t, aGet r s = some (v :: t)) ∧ k < k2 ∧ k2 ≤ toks.length := by
  unfold attrP at h
  cases hE : expectP toks e 4 openB k with
  | error q => rw [hE] at h; cases h
  | ok q =>
    obtain ⟨⟨⟩, k1⟩ := q
    obtain ⟨h1, h2⟩ := expectP_at hE
    rw [hE] at h
    dsimp only at h
    cases hA : attrN toks e names (toks.length + 1) k1 [] with
    | error q => rw [hA] at h; cases h
    | ok q =>
      obtain ⟨got, k3⟩ := q
      rw [hA] at h
      dsimp only at h
      obtain ⟨a, b, c, d⟩ := attrN_ok (by omega) (by omega) (by simp) (by simp) hA
      by_cases hl : got.length < names.length
      · rw [if_pos hl] at h; cases h
      rw [if_neg hl] at h
      cases h
      refine ⟨fun s hs => ?_, by omega, by omega⟩
      have hm := nodup_all (ks := r.map (·.1)) (L := names) a (fun x hx => by
        obtain ⟨p, hp, rfl⟩ := List.mem_map.1 hx
        exact (b p hp).1) (by simp; omega) s hs
      obtain ⟨v, hv⟩ := aGet_some_iff.2 hm
      have := (b _ (aGet_mem hv)).2
      cases v with
      | nil => exact absurd rfl this
      | cons x t => exact ⟨x, t, hv⟩
theorem aGet_map {β γ : Type} (f : β → γ) (l : List (ByteArray × β)) (s : ByteArray) : aGet (l.map fun p => (p.1, f p.2)) s = (aGet l s).map f := by
  unfold aGet aIx
  rw [List.findIdx?_map]
  rw [show ((fun p : ByteArray × γ => decide (p.1 = s)) ∘ fun p : ByteArray × β => (p.1, f p.2)) = fun p : ByteArray × β => decide (p.1 = s) from rfl]
  cases hf : l.findIdx? (fun p => decide (p.1 = s)) with
  | none => rfl
  | some i => simp; rfl
theorem moreN_len {toks : List Tok} {e : PosT} {l c : Bool} : ∀ {f k : Nat} {acc r : List Int} {k2 : Nat}, moreN toks e l c f k acc = .ok (r, k2) → r.length + k ≤ acc.length + k2
  | 0, k, acc, r, k2, h => by cases h; exact Nat.le_refl _
  | f + 1, k, acc, r, k2, h => by
    by_cases hc : (c && isS toks k 4 commaB) = true
    · rw [moreN_step hc] at h
      cases hN : numberP toks e l (k + 1) with
      | error q => rw [hN] at h; cases h
      | ok q =>
        obtain ⟨v, k1⟩ := q
        rw [hN] at h
        obtain ⟨h1, h2⟩ := numberP_at hN
        have := moreN_len h
        simp at this; omega
    · rw [moreN_stop hc] at h; cases h; exact Nat.le_refl _
theorem oneAttr_len {toks : List Tok} {e : PosT} {names : List ByteArray} {got : Got} {k k3 : Nat} {p : ByteArray × List Int} (h : oneAttr toks e names got k = .ok (p, k3)) : p.2.length ≤ toks.length := by
  unfold oneAttr at h
  cases hN : nextP toks e 1 k with
  | error q => rw [hN] at h; cases h
  | ok q =>
    obtain ⟨t, j⟩ := q
    rw [hN] at h
    dsimp only at h
    by_cases h1 : memB t.Text names = false
    · rw [if_pos h1] at h; cases h
    rw [if_neg h1] at h
    by_cases h2 : memB t.Text (got.map (·.1)) = true
    · rw [if_pos h2] at h; cases h
    rw [if_neg h2] at h
    cases hM : numberP toks e (limB t.Text) (k + 1) with
    | error q => rw [hM] at h; cases h
    | ok q =>
      obtain ⟨v, k1⟩ := q
      obtain ⟨hk1, hk1n⟩ := numberP_at hM
      rw [hM] at h
      dsimp only at h
      cases hL : moreN toks e (limB t.Text) (decide (t.Text = coresB)) (toks.length + 1) k1 [v] with
      | error q => rw [hL] at h; cases h
      | ok q =>
        obtain ⟨l, k2⟩ := q
        rw [hL] at h
        dsimp only at h
        have a := moreN_len hL
        cases hE : expectP toks e 4 semiB k2 with
        | error q => rw [hE] at h; cases h
        | ok q =>
          obtain ⟨⟨⟩, k4⟩ := q
          obtain ⟨hk4, hk4n⟩ := expectP_at hE
          rw [hE] at h
          cases h
          simp at a; dsimp only; omega
theorem attrN_len {toks : List Tok} {e : PosT} {names : List ByteArray} : ∀ {f k k2 : Nat} {got r : Got}, (∀ p ∈ got, p.2.length ≤ toks.length) → attrN toks e names f k got = .ok (r, k2) → ∀ p ∈ r, p.2.length ≤ toks.length
  | 0, k, k2, got, r, hp, h => by cases h; exact hp
  | f + 1, k, k2, got, r, hp, h => by
    unfold attrN at h
    by_cases hc : isS toks k 4 closeB = true
    · rw [if_pos hc] at h; cases h; exact hp
    · rw [if_neg hc] at h
      cases hO : oneAttr toks e names got k with
      | error q => rw [hO] at h; cases h
      | ok q =>
        obtain ⟨p, k3⟩ := q
        rw [hO] at h
        exact attrN_len (fun x hx => by
          rcases List.mem_append.1 hx with hx | hx
          · exact hp x hx
          · cases List.mem_singleton.1 hx; exact oneAttr_len hO) h
theorem attrP_len {toks : List Tok} {e : PosT} {names : List ByteArray} {k k2 : Nat} {r : Got} (h : attrP toks e names k = .ok (r, k2)) : ∀ p ∈ r, p.2.length ≤ toks.length := by
  unfold attrP at h
  cases hE : expectP toks e 4 openB k with
  | error q => rw [hE] at h; cases h
  | ok q =>
    obtain ⟨⟨⟩, k1⟩ := q
    rw [hE] at h
    dsimp only at h
    cases hA : attrN toks e names (toks.length + 1) k1 [] with
    | error q => rw [hA] at h; cases h
    | ok q =>
      obtain ⟨got, k3⟩ := q
      rw [hA] at h
      dsimp only at h
      by_cases hl : got.length < names.length
      · rw [if_pos hl] at h; cases h
      rw [if_neg hl] at h
      cases h
      exact attrN_len (by simp) hA
end Go.Proofs.YtnkekcippfdbgaaGreat
end
