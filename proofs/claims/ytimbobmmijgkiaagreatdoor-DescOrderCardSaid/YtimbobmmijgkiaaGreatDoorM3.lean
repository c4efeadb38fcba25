/- Texts of this proof, one behind another. -/
import Derived.Test.YtimbobmmijgkiaaGreatDoorM2
import Derived.Test.YtimbobmmijgkiaaGreatDoorChecked
import Derived.Shelf.LaysM
import Derived.Shelf.Lays
import Derived.Laws.MakeOwn
import Derived.Lib.UnsafeStr
import Derived.Lib.Builder
import Derived.Below
import Derived.Shelf.Strconv.Itoa4
import Derived.Lib.AppendIntMem
import Derived.Test.YtimbobmmijgkiaaGreatDoorRows
import Derived.Test.YtimbobmmijgkiaaGreatDoorTie
import Derived.Test.YtimbobmmijgkiaaGreatDoorCards
import Derived.ProofKit
import Derived.OpenShut
import Derived.LaidMore
import Derived.Stop.Joined
import Derived.Stop.LaidErr
import Derived.Deep.Slices
import Derived.ReadAgain
import Derived.ChangeMaps5
import Derived.Laws.Externs
set_option linter.unusedVariables false
set_option linter.unusedSimpArgs false
/- Facts on the types and functions of this translation, a row each (written by a program of mine; the kernel checks each). -/
section
open Go Mk
namespace Go.Proofs.YtimbobmmijgkiaaGreatDoor
instance : TZ Tryz.prog 1 [.nilFunc] := ⟨by kernel_rfl⟩
instance : TZV Tryz.prog 1 (.nilFunc) := ⟨by kernel_rfl⟩
instance : TS Tryz.prog 1 := ⟨by kernel_rfl⟩
instance : TZ Tryz.prog 2 [.int .i64 0] := ⟨by kernel_rfl⟩
instance : TZV Tryz.prog 2 (.int .i64 0) := ⟨by kernel_rfl⟩
instance : TS Tryz.prog 2 := ⟨by kernel_rfl⟩
instance : TInt Tryz.prog 2 .i64 := ⟨by kernel_rfl⟩
instance : TZ Tryz.prog 3 [.int .i64 0] := ⟨by kernel_rfl⟩
instance : TZV Tryz.prog 3 (.int .i64 0) := ⟨by kernel_rfl⟩
instance : TS Tryz.prog 3 := ⟨by kernel_rfl⟩
instance : TInt Tryz.prog 3 .i64 := ⟨by kernel_rfl⟩
instance : TZ Tryz.prog 4 [.bool false] := ⟨by kernel_rfl⟩
instance : TZV Tryz.prog 4 (.bool false) := ⟨by kernel_rfl⟩
instance : TS Tryz.prog 4 := ⟨by kernel_rfl⟩
instance : TBool Tryz.prog 4 := ⟨by kernel_rfl⟩
instance : TZ Tryz.prog 5 [.int .u8 0] := ⟨by kernel_rfl⟩
instance : TZV Tryz.prog 5 (.int .u8 0) := ⟨by kernel_rfl⟩
instance : TS Tryz.prog 5 := ⟨by kernel_rfl⟩
instance : TInt Tryz.prog 5 .u8 := ⟨by kernel_rfl⟩
instance : TZ Tryz.prog 6 [.int .u8 0] := ⟨by kernel_rfl⟩
instance : TZV Tryz.prog 6 (.int .u8 0) := ⟨by kernel_rfl⟩
instance : TS Tryz.prog 6 := ⟨by kernel_rfl⟩
instance : TInt Tryz.prog 6 .u8 := ⟨by kernel_rfl⟩
instance : TZ Tryz.prog 7 [.int .i64 0, .int .i64 0, .bool false, .int .u8 0] := ⟨by kernel_rfl⟩
instance : TZV Tryz.prog 7 (.agg #[.int .i64 0, .int .i64 0, .bool false, .int .u8 0]) := ⟨by kernel_rfl⟩
instance : TA Tryz.prog 7 4 := ⟨by kernel_rfl⟩
instance : TEq Tryz.prog 7 [5, 5, 0, 6] := ⟨by kernel_rfl, by kernel_rfl, by kernel_rfl⟩
instance : TB Tryz.prog 7 [(0, 1), (1, 1), (2, 1), (3, 1)] [.int .i64 0, .int .i64 0, .bool false, .int .u8 0] := ⟨by kernel_rfl, by kernel_rfl⟩
instance : TF Tryz.prog 7 0 0 := ⟨by kernel_rfl⟩
instance : TF Tryz.prog 7 1 1 := ⟨by kernel_rfl⟩
instance : TF Tryz.prog 7 2 2 := ⟨by kernel_rfl⟩
instance : TF Tryz.prog 7 3 3 := ⟨by kernel_rfl⟩
instance : TZ Tryz.prog 8 [.int .i64 0, .int .i64 0, .bool false, .int .u8 0] := ⟨by kernel_rfl⟩
instance : TZV Tryz.prog 8 (.agg #[.int .i64 0, .int .i64 0, .bool false, .int .u8 0]) := ⟨by kernel_rfl⟩
instance : TA Tryz.prog 8 4 := ⟨by kernel_rfl⟩
instance : TEq Tryz.prog 8 [5, 5, 0, 6] := ⟨by kernel_rfl, by kernel_rfl, by kernel_rfl⟩
instance : TB Tryz.prog 8 [(0, 1), (1, 1), (2, 1), (3, 1)] [.int .i64 0, .int .i64 0, .bool false, .int .u8 0] := ⟨by kernel_rfl, by kernel_rfl⟩
instance : TF Tryz.prog 8 0 0 := ⟨by kernel_rfl⟩
instance : TF Tryz.prog 8 1 1 := ⟨by kernel_rfl⟩
instance : TF Tryz.prog 8 2 2 := ⟨by kernel_rfl⟩
instance : TF Tryz.prog 8 3 3 := ⟨by kernel_rfl⟩
instance : TZ Tryz.prog 9 [.string ⟨#[]⟩] := ⟨by kernel_rfl⟩
instance : TZV Tryz.prog 9 (.string ⟨#[]⟩) := ⟨by kernel_rfl⟩
instance : TS Tryz.prog 9 := ⟨by kernel_rfl⟩
instance : TStr Tryz.prog 9 := ⟨by kernel_rfl⟩
instance : TZ Tryz.prog 10 [.string ⟨#[]⟩] := ⟨by kernel_rfl⟩
instance : TZV Tryz.prog 10 (.string ⟨#[]⟩) := ⟨by kernel_rfl⟩
instance : TS Tryz.prog 10 := ⟨by kernel_rfl⟩
instance : TStr Tryz.prog 10 := ⟨by kernel_rfl⟩
instance : TZ Tryz.prog 11 [.string ⟨#[]⟩] := ⟨by kernel_rfl⟩
instance : TZV Tryz.prog 11 (.string ⟨#[]⟩) := ⟨by kernel_rfl⟩
instance : TS Tryz.prog 11 := ⟨by kernel_rfl⟩
instance : TStr Tryz.prog 11 := ⟨by kernel_rfl⟩
instance : TZ Tryz.prog 12 [.int .u64 0] := ⟨by kernel_rfl⟩
instance : TZV Tryz.prog 12 (.int .u64 0) := ⟨by kernel_rfl⟩
instance : TS Tryz.prog 12 := ⟨by kernel_rfl⟩
instance : TInt Tryz.prog 12 .u64 := ⟨by kernel_rfl⟩
instance : TZ Tryz.prog 13 [.string ⟨#[]⟩, .int .u64 0] := ⟨by kernel_rfl⟩
instance : TZV Tryz.prog 13 (.agg #[.string ⟨#[]⟩, .int .u64 0]) := ⟨by kernel_rfl⟩
instance : TA Tryz.prog 13 2 := ⟨by kernel_rfl⟩
instance : TB Tryz.prog 13 [(0, 1), (1, 1)] [.string ⟨#[]⟩, .int .u64 0] := ⟨by kernel_rfl, by kernel_rfl⟩
instance : TF Tryz.prog 13 0 0 := ⟨by kernel_rfl⟩
instance : TF Tryz.prog 13 1 1 := ⟨by kernel_rfl⟩
instance : TZ Tryz.prog 14 [.string ⟨#[]⟩, .int .u64 0] := ⟨by kernel_rfl⟩
instance : TZV Tryz.prog 14 (.agg #[.string ⟨#[]⟩, .int .u64 0]) := ⟨by kernel_rfl⟩
instance : TA Tryz.prog 14 2 := ⟨by kernel_rfl⟩
instance : TB Tryz.prog 14 [(0, 1), (1, 1)] [.string ⟨#[]⟩, .int .u64 0] := ⟨by kernel_rfl, by kernel_rfl⟩
instance : TF Tryz.prog 14 0 0 := ⟨by kernel_rfl⟩
instance : TF Tryz.prog 14 1 1 := ⟨by kernel_rfl⟩
instance : TZ Tryz.prog 15 [.pointer none] := ⟨by kernel_rfl⟩
instance : TZV Tryz.prog 15 (.pointer none) := ⟨by kernel_rfl⟩
instance : TS Tryz.prog 15 := ⟨by kernel_rfl⟩
instance : TPtr Tryz.prog 15 226 := ⟨by kernel_rfl⟩
instance : TZ Tryz.prog 16 [.pointer none] := ⟨by kernel_rfl⟩
instance : TZV Tryz.prog 16 (.pointer none) := ⟨by kernel_rfl⟩
instance : TS Tryz.prog 16 := ⟨by kernel_rfl⟩
instance : TPtr Tryz.prog 16 229 := ⟨by kernel_rfl⟩
instance : TZ Tryz.prog 17 [.pointer none] := ⟨by kernel_rfl⟩
instance : TZV Tryz.prog 17 (.pointer none) := ⟨by kernel_rfl⟩
instance : TS Tryz.prog 17 := ⟨by kernel_rfl⟩
instance : TPtr Tryz.prog 17 237 := ⟨by kernel_rfl⟩
instance : TZ Tryz.prog 18 [.pointer none] := ⟨by kernel_rfl⟩
instance : TZV Tryz.prog 18 (.agg #[.pointer none]) := ⟨by kernel_rfl⟩
instance : TA Tryz.prog 18 1 := ⟨by kernel_rfl⟩
instance : TB Tryz.prog 18 [(0, 1)] [.pointer none] := ⟨by kernel_rfl, by kernel_rfl⟩
instance : TF Tryz.prog 18 0 0 := ⟨by kernel_rfl⟩
instance : TZ Tryz.prog 19 [.pointer none] := ⟨by kernel_rfl⟩
instance : TZV Tryz.prog 19 (.agg #[.pointer none]) := ⟨by kernel_rfl⟩
instance : TA Tryz.prog 19 1 := ⟨by kernel_rfl⟩
instance : TB Tryz.prog 19 [(0, 1)] [.pointer none] := ⟨by kernel_rfl, by kernel_rfl⟩
instance : TF Tryz.prog 19 0 0 := ⟨by kernel_rfl⟩
instance : TZ Tryz.prog 20 [.nilIface] := ⟨by kernel_rfl⟩
instance : TZV Tryz.prog 20 (.nilIface) := ⟨by kernel_rfl⟩
instance : TS Tryz.prog 20 := ⟨by kernel_rfl⟩
instance : TZ Tryz.prog 21 [.int .i32 0] := ⟨by kernel_rfl⟩
instance : TZV Tryz.prog 21 (.int .i32 0) := ⟨by kernel_rfl⟩
instance : TS Tryz.prog 21 := ⟨by kernel_rfl⟩
instance : TInt Tryz.prog 21 .i32 := ⟨by kernel_rfl⟩
instance : TZ Tryz.prog 22 [.nilFunc] := ⟨by kernel_rfl⟩
instance : TZV Tryz.prog 22 (.nilFunc) := ⟨by kernel_rfl⟩
instance : TS Tryz.prog 22 := ⟨by kernel_rfl⟩
instance : TZ Tryz.prog 23 [.slice none 0 0] := ⟨by kernel_rfl⟩
instance : TZV Tryz.prog 23 (.slice none 0 0) := ⟨by kernel_rfl⟩
instance : TS Tryz.prog 23 := ⟨by kernel_rfl⟩
instance : TL Tryz.prog 23 53 5 48 [.int .i64 0, .string ⟨#[]⟩, .int .u64 0, .int .i64 0, .int .i64 0] := ⟨by kernel_rfl, by kernel_rfl, by kernel_rfl, by decide⟩
instance : TZ Tryz.prog 24 [.int .i64 0, .int .i64 0] := ⟨by kernel_rfl⟩
instance : TZV Tryz.prog 24 (.agg #[.int .i64 0, .int .i64 0]) := ⟨by kernel_rfl⟩
instance : TA Tryz.prog 24 2 := ⟨by kernel_rfl⟩
instance : TEq Tryz.prog 24 [5, 5] := ⟨by kernel_rfl, by kernel_rfl, by kernel_rfl⟩
instance : TB Tryz.prog 24 [(0, 1), (1, 1)] [.int .i64 0, .int .i64 0] := ⟨by kernel_rfl, by kernel_rfl⟩
instance : TF Tryz.prog 24 0 0 := ⟨by kernel_rfl⟩
instance : TF Tryz.prog 24 1 1 := ⟨by kernel_rfl⟩
instance : TZ Tryz.prog 25 [.int .i64 0, .int .i64 0] := ⟨by kernel_rfl⟩
instance : TZV Tryz.prog 25 (.agg #[.int .i64 0, .int .i64 0]) := ⟨by kernel_rfl⟩
instance : TA Tryz.prog 25 2 := ⟨by kernel_rfl⟩
instance : TEq Tryz.prog 25 [5, 5] := ⟨by kernel_rfl, by kernel_rfl, by kernel_rfl⟩
instance : TB Tryz.prog 25 [(0, 1), (1, 1)] [.int .i64 0, .int .i64 0] := ⟨by kernel_rfl, by kernel_rfl⟩
instance : TF Tryz.prog 25 0 0 := ⟨by kernel_rfl⟩
instance : TF Tryz.prog 25 1 1 := ⟨by kernel_rfl⟩
instance : TZ Tryz.prog 26 [.int .i64 0] := ⟨by kernel_rfl⟩
instance : TZV Tryz.prog 26 (.int .i64 0) := ⟨by kernel_rfl⟩
instance : TS Tryz.prog 26 := ⟨by kernel_rfl⟩
instance : TInt Tryz.prog 26 .i64 := ⟨by kernel_rfl⟩
instance : TZ Tryz.prog 28 [.nilFunc] := ⟨by kernel_rfl⟩
instance : TZV Tryz.prog 28 (.nilFunc) := ⟨by kernel_rfl⟩
instance : TS Tryz.prog 28 := ⟨by kernel_rfl⟩
instance : TZ Tryz.prog 29 [.slice none 0 0] := ⟨by kernel_rfl⟩
instance : TZV Tryz.prog 29 (.slice none 0 0) := ⟨by kernel_rfl⟩
instance : TS Tryz.prog 29 := ⟨by kernel_rfl⟩
instance : TL Tryz.prog 29 77 4 32 [.int .i64 0, .int .i64 0, .int .i64 0, .int .i64 0] := ⟨by kernel_rfl, by kernel_rfl, by kernel_rfl, by decide⟩
instance : TZ Tryz.prog 30 [.slice none 0 0] := ⟨by kernel_rfl⟩
instance : TZV Tryz.prog 30 (.slice none 0 0) := ⟨by kernel_rfl⟩
instance : TS Tryz.prog 30 := ⟨by kernel_rfl⟩
instance : TL Tryz.prog 30 79 5 64 [.string ⟨#[]⟩, .int .i64 0, .int .i64 0, .int .u64 0, .slice none 0 0] := ⟨by kernel_rfl, by kernel_rfl, by kernel_rfl, by decide⟩
instance : TZ Tryz.prog 31 [.slice none 0 0] := ⟨by kernel_rfl⟩
instance : TZV Tryz.prog 31 (.slice none 0 0) := ⟨by kernel_rfl⟩
instance : TS Tryz.prog 31 := ⟨by kernel_rfl⟩
instance : TL Tryz.prog 31 82 3 24 [.int .i64 0, .int .i64 0, .int .i64 0] := ⟨by kernel_rfl, by kernel_rfl, by kernel_rfl, by decide⟩
instance : TZ Tryz.prog 32 [.slice none 0 0] := ⟨by kernel_rfl⟩
instance : TZV Tryz.prog 32 (.slice none 0 0) := ⟨by kernel_rfl⟩
instance : TS Tryz.prog 32 := ⟨by kernel_rfl⟩
instance : TL Tryz.prog 32 47 5 48 [.string ⟨#[]⟩, .int .u64 0, .int .u64 0, .int .i64 0, .int .i64 0] := ⟨by kernel_rfl, by kernel_rfl, by kernel_rfl, by decide⟩
instance : TZ Tryz.prog 33 [.slice none 0 0] := ⟨by kernel_rfl⟩
instance : TZV Tryz.prog 33 (.slice none 0 0) := ⟨by kernel_rfl⟩
instance : TS Tryz.prog 33 := ⟨by kernel_rfl⟩
instance : TL Tryz.prog 33 84 5 48 [.string ⟨#[]⟩, .int .i64 0, .int .i64 0, .int .u64 0, .int .u64 0] := ⟨by kernel_rfl, by kernel_rfl, by kernel_rfl, by decide⟩
instance : TZ Tryz.prog 34 [.string ⟨#[]⟩, .slice none 0 0, .slice none 0 0, .slice none 0 0, .slice none 0 0, .slice none 0 0] := ⟨by kernel_rfl⟩
instance : TZV Tryz.prog 34 (.agg #[.string ⟨#[]⟩, .slice none 0 0, .slice none 0 0, .slice none 0 0, .slice none 0 0, .slice none 0 0]) := ⟨by kernel_rfl⟩
instance : TA Tryz.prog 34 6 := ⟨by kernel_rfl⟩
instance : TB Tryz.prog 34 [(0, 1), (1, 1), (2, 1), (3, 1), (4, 1), (5, 1)] [.string ⟨#[]⟩, .slice none 0 0, .slice none 0 0, .slice none 0 0, .slice none 0 0, .slice none 0 0] := ⟨by kernel_rfl, by kernel_rfl⟩
instance : TF Tryz.prog 34 0 0 := ⟨by kernel_rfl⟩
instance : TF Tryz.prog 34 1 1 := ⟨by kernel_rfl⟩
instance : TF Tryz.prog 34 2 2 := ⟨by kernel_rfl⟩
instance : TF Tryz.prog 34 3 3 := ⟨by kernel_rfl⟩
instance : TF Tryz.prog 34 4 4 := ⟨by kernel_rfl⟩
instance : TF Tryz.prog 34 5 5 := ⟨by kernel_rfl⟩
instance : TZ Tryz.prog 35 [.string ⟨#[]⟩, .slice none 0 0, .slice none 0 0, .slice none 0 0, .slice none 0 0, .slice none 0 0] := ⟨by kernel_rfl⟩
instance : TZV Tryz.prog 35 (.agg #[.string ⟨#[]⟩, .slice none 0 0, .slice none 0 0, .slice none 0 0, .slice none 0 0, .slice none 0 0]) := ⟨by kernel_rfl⟩
instance : TA Tryz.prog 35 6 := ⟨by kernel_rfl⟩
instance : TB Tryz.prog 35 [(0, 1), (1, 1), (2, 1), (3, 1), (4, 1), (5, 1)] [.string ⟨#[]⟩, .slice none 0 0, .slice none 0 0, .slice none 0 0, .slice none 0 0, .slice none 0 0] := ⟨by kernel_rfl, by kernel_rfl⟩
instance : TF Tryz.prog 35 0 0 := ⟨by kernel_rfl⟩
instance : TF Tryz.prog 35 1 1 := ⟨by kernel_rfl⟩
instance : TF Tryz.prog 35 2 2 := ⟨by kernel_rfl⟩
instance : TF Tryz.prog 35 3 3 := ⟨by kernel_rfl⟩
instance : TF Tryz.prog 35 4 4 := ⟨by kernel_rfl⟩
instance : TF Tryz.prog 35 5 5 := ⟨by kernel_rfl⟩
instance : TZ Tryz.prog 37 [.nilFunc] := ⟨by kernel_rfl⟩
instance : TZV Tryz.prog 37 (.nilFunc) := ⟨by kernel_rfl⟩
instance : TS Tryz.prog 37 := ⟨by kernel_rfl⟩
instance : TZ Tryz.prog 38 [.nilFunc] := ⟨by kernel_rfl⟩
instance : TZV Tryz.prog 38 (.nilFunc) := ⟨by kernel_rfl⟩
instance : TS Tryz.prog 38 := ⟨by kernel_rfl⟩
instance : TZ Tryz.prog 39 [.nilFunc] := ⟨by kernel_rfl⟩
instance : TZV Tryz.prog 39 (.nilFunc) := ⟨by kernel_rfl⟩
instance : TS Tryz.prog 39 := ⟨by kernel_rfl⟩
instance : TZ Tryz.prog 40 [.nilFunc] := ⟨by kernel_rfl⟩
instance : TZV Tryz.prog 40 (.nilFunc) := ⟨by kernel_rfl⟩
instance : TS Tryz.prog 40 := ⟨by kernel_rfl⟩
instance : TZ Tryz.prog 41 [.nilFunc] := ⟨by kernel_rfl⟩
instance : TZV Tryz.prog 41 (.nilFunc) := ⟨by kernel_rfl⟩
instance : TS Tryz.prog 41 := ⟨by kernel_rfl⟩
instance : TZ Tryz.prog 42 [.nilFunc] := ⟨by kernel_rfl⟩
instance : TZV Tryz.prog 42 (.nilFunc) := ⟨by kernel_rfl⟩
instance : TS Tryz.prog 42 := ⟨by kernel_rfl⟩
instance : TZ Tryz.prog 43 [.slice none 0 0] := ⟨by kernel_rfl⟩
instance : TZV Tryz.prog 43 (.slice none 0 0) := ⟨by kernel_rfl⟩
instance : TS Tryz.prog 43 := ⟨by kernel_rfl⟩
instance : TL Tryz.prog 43 3 1 8 [.int .i64 0] := ⟨by kernel_rfl, by kernel_rfl, by kernel_rfl, by decide⟩
instance : TZ Tryz.prog 44 [.nilFunc] := ⟨by kernel_rfl⟩
instance : TZV Tryz.prog 44 (.nilFunc) := ⟨by kernel_rfl⟩
instance : TS Tryz.prog 44 := ⟨by kernel_rfl⟩
instance : TZ Tryz.prog 45 [.int .u64 0] := ⟨by kernel_rfl⟩
instance : TZV Tryz.prog 45 (.int .u64 0) := ⟨by kernel_rfl⟩
instance : TS Tryz.prog 45 := ⟨by kernel_rfl⟩
instance : TInt Tryz.prog 45 .u64 := ⟨by kernel_rfl⟩
instance : TZ Tryz.prog 46 [.string ⟨#[]⟩, .int .u64 0, .int .u64 0, .int .i64 0, .int .i64 0] := ⟨by kernel_rfl⟩
instance : TZV Tryz.prog 46 (.agg #[.string ⟨#[]⟩, .int .u64 0, .int .u64 0, .int .i64 0, .int .i64 0]) := ⟨by kernel_rfl⟩
instance : TA Tryz.prog 46 5 := ⟨by kernel_rfl⟩
instance : TEq Tryz.prog 46 [1, 9, 9, 5, 5] := ⟨by kernel_rfl, by kernel_rfl, by kernel_rfl⟩
instance : TB Tryz.prog 46 [(0, 1), (1, 1), (2, 1), (3, 1), (4, 1)] [.string ⟨#[]⟩, .int .u64 0, .int .u64 0, .int .i64 0, .int .i64 0] := ⟨by kernel_rfl, by kernel_rfl⟩
instance : TF Tryz.prog 46 0 0 := ⟨by kernel_rfl⟩
instance : TF Tryz.prog 46 1 1 := ⟨by kernel_rfl⟩
instance : TF Tryz.prog 46 2 2 := ⟨by kernel_rfl⟩
instance : TF Tryz.prog 46 3 3 := ⟨by kernel_rfl⟩
instance : TF Tryz.prog 46 4 4 := ⟨by kernel_rfl⟩
instance : TZ Tryz.prog 47 [.string ⟨#[]⟩, .int .u64 0, .int .u64 0, .int .i64 0, .int .i64 0] := ⟨by kernel_rfl⟩
instance : TZV Tryz.prog 47 (.agg #[.string ⟨#[]⟩, .int .u64 0, .int .u64 0, .int .i64 0, .int .i64 0]) := ⟨by kernel_rfl⟩
instance : TA Tryz.prog 47 5 := ⟨by kernel_rfl⟩
instance : TEq Tryz.prog 47 [1, 9, 9, 5, 5] := ⟨by kernel_rfl, by kernel_rfl, by kernel_rfl⟩
instance : TB Tryz.prog 47 [(0, 1), (1, 1), (2, 1), (3, 1), (4, 1)] [.string ⟨#[]⟩, .int .u64 0, .int .u64 0, .int .i64 0, .int .i64 0] := ⟨by kernel_rfl, by kernel_rfl⟩
instance : TF Tryz.prog 47 0 0 := ⟨by kernel_rfl⟩
instance : TF Tryz.prog 47 1 1 := ⟨by kernel_rfl⟩
instance : TF Tryz.prog 47 2 2 := ⟨by kernel_rfl⟩
instance : TF Tryz.prog 47 3 3 := ⟨by kernel_rfl⟩
instance : TF Tryz.prog 47 4 4 := ⟨by kernel_rfl⟩
instance : TZ Tryz.prog 48 [.nilFunc] := ⟨by kernel_rfl⟩
instance : TZV Tryz.prog 48 (.nilFunc) := ⟨by kernel_rfl⟩
instance : TS Tryz.prog 48 := ⟨by kernel_rfl⟩
instance : TZ Tryz.prog 49 [.nilFunc] := ⟨by kernel_rfl⟩
instance : TZV Tryz.prog 49 (.nilFunc) := ⟨by kernel_rfl⟩
instance : TS Tryz.prog 49 := ⟨by kernel_rfl⟩
instance : TZ Tryz.prog 50 [.nilFunc] := ⟨by kernel_rfl⟩
instance : TZV Tryz.prog 50 (.nilFunc) := ⟨by kernel_rfl⟩
instance : TS Tryz.prog 50 := ⟨by kernel_rfl⟩
instance : TZ Tryz.prog 51 [.nilFunc] := ⟨by kernel_rfl⟩
instance : TZV Tryz.prog 51 (.nilFunc) := ⟨by kernel_rfl⟩
instance : TS Tryz.prog 51 := ⟨by kernel_rfl⟩
instance : TZ Tryz.prog 52 [.int .i64 0, .string ⟨#[]⟩, .int .u64 0, .int .i64 0, .int .i64 0] := ⟨by kernel_rfl⟩
instance : TZV Tryz.prog 52 (.agg #[.int .i64 0, .string ⟨#[]⟩, .int .u64 0, .int .i64 0, .int .i64 0]) := ⟨by kernel_rfl⟩
instance : TA Tryz.prog 52 5 := ⟨by kernel_rfl⟩
instance : TEq Tryz.prog 52 [5, 1, 9, 5, 5] := ⟨by kernel_rfl, by kernel_rfl, by kernel_rfl⟩
instance : TB Tryz.prog 52 [(0, 1), (1, 1), (2, 1), (3, 2)] [.int .i64 0, .string ⟨#[]⟩, .int .u64 0, .int .i64 0, .int .i64 0] := ⟨by kernel_rfl, by kernel_rfl⟩
instance : TF Tryz.prog 52 0 0 := ⟨by kernel_rfl⟩
instance : TF Tryz.prog 52 1 1 := ⟨by kernel_rfl⟩
instance : TF Tryz.prog 52 2 2 := ⟨by kernel_rfl⟩
instance : TF Tryz.prog 52 3 3 := ⟨by kernel_rfl⟩
instance : TZ Tryz.prog 53 [.int .i64 0, .string ⟨#[]⟩, .int .u64 0, .int .i64 0, .int .i64 0] := ⟨by kernel_rfl⟩
instance : TZV Tryz.prog 53 (.agg #[.int .i64 0, .string ⟨#[]⟩, .int .u64 0, .int .i64 0, .int .i64 0]) := ⟨by kernel_rfl⟩
instance : TA Tryz.prog 53 5 := ⟨by kernel_rfl⟩
instance : TEq Tryz.prog 53 [5, 1, 9, 5, 5] := ⟨by kernel_rfl, by kernel_rfl, by kernel_rfl⟩
instance : TB Tryz.prog 53 [(0, 1), (1, 1), (2, 1), (3, 2)] [.int .i64 0, .string ⟨#[]⟩, .int .u64 0, .int .i64 0, .int .i64 0] := ⟨by kernel_rfl, by kernel_rfl⟩
instance : TF Tryz.prog 53 0 0 := ⟨by kernel_rfl⟩
instance : TF Tryz.prog 53 1 1 := ⟨by kernel_rfl⟩
instance : TF Tryz.prog 53 2 2 := ⟨by kernel_rfl⟩
instance : TF Tryz.prog 53 3 3 := ⟨by kernel_rfl⟩
instance : TZ Tryz.prog 55 [.nilFunc] := ⟨by kernel_rfl⟩
instance : TZV Tryz.prog 55 (.nilFunc) := ⟨by kernel_rfl⟩
instance : TS Tryz.prog 55 := ⟨by kernel_rfl⟩
instance : TZ Tryz.prog 56 [.int .i64 0, .int .i64 0, .int .i64 0] := ⟨by kernel_rfl⟩
instance : TZV Tryz.prog 56 (.agg #[.int .i64 0, .int .i64 0, .int .i64 0]) := ⟨by kernel_rfl⟩
instance : TA Tryz.prog 56 3 := ⟨by kernel_rfl⟩
instance : TEq Tryz.prog 56 [5, 5, 5] := ⟨by kernel_rfl, by kernel_rfl, by kernel_rfl⟩
instance : TB Tryz.prog 56 [(0, 2), (2, 1)] [.int .i64 0, .int .i64 0, .int .i64 0] := ⟨by kernel_rfl, by kernel_rfl⟩
instance : TF Tryz.prog 56 0 0 := ⟨by kernel_rfl⟩
instance : TF Tryz.prog 56 1 2 := ⟨by kernel_rfl⟩
instance : TZ Tryz.prog 57 [.int .i64 0, .int .i64 0, .int .i64 0] := ⟨by kernel_rfl⟩
instance : TZV Tryz.prog 57 (.agg #[.int .i64 0, .int .i64 0, .int .i64 0]) := ⟨by kernel_rfl⟩
instance : TA Tryz.prog 57 3 := ⟨by kernel_rfl⟩
instance : TEq Tryz.prog 57 [5, 5, 5] := ⟨by kernel_rfl, by kernel_rfl, by kernel_rfl⟩
instance : TB Tryz.prog 57 [(0, 2), (2, 1)] [.int .i64 0, .int .i64 0, .int .i64 0] := ⟨by kernel_rfl, by kernel_rfl⟩
instance : TF Tryz.prog 57 0 0 := ⟨by kernel_rfl⟩
instance : TF Tryz.prog 57 1 2 := ⟨by kernel_rfl⟩
instance : TZ Tryz.prog 59 [.pointer none] := ⟨by kernel_rfl⟩
instance : TZV Tryz.prog 59 (.pointer none) := ⟨by kernel_rfl⟩
instance : TS Tryz.prog 59 := ⟨by kernel_rfl⟩
instance : TPtr Tryz.prog 59 62 := ⟨by kernel_rfl⟩
instance : TZ Tryz.prog 60 [.nilFunc] := ⟨by kernel_rfl⟩
instance : TZV Tryz.prog 60 (.nilFunc) := ⟨by kernel_rfl⟩
instance : TS Tryz.prog 60 := ⟨by kernel_rfl⟩
instance : TZ Tryz.prog 61 [.slice none 0 0, .int .i64 0, .int .i64 0, .int .i64 0] := ⟨by kernel_rfl⟩
instance : TZV Tryz.prog 61 (.agg #[.slice none 0 0, .int .i64 0, .int .i64 0, .int .i64 0]) := ⟨by kernel_rfl⟩
instance : TA Tryz.prog 61 4 := ⟨by kernel_rfl⟩
instance : TB Tryz.prog 61 [(0, 1), (1, 1), (2, 2)] [.slice none 0 0, .int .i64 0, .int .i64 0, .int .i64 0] := ⟨by kernel_rfl, by kernel_rfl⟩
instance : TF Tryz.prog 61 0 0 := ⟨by kernel_rfl⟩
instance : TF Tryz.prog 61 1 1 := ⟨by kernel_rfl⟩
instance : TF Tryz.prog 61 2 2 := ⟨by kernel_rfl⟩
instance : TZ Tryz.prog 62 [.slice none 0 0, .int .i64 0, .int .i64 0, .int .i64 0] := ⟨by kernel_rfl⟩
instance : TZV Tryz.prog 62 (.agg #[.slice none 0 0, .int .i64 0, .int .i64 0, .int .i64 0]) := ⟨by kernel_rfl⟩
instance : TA Tryz.prog 62 4 := ⟨by kernel_rfl⟩
instance : TB Tryz.prog 62 [(0, 1), (1, 1), (2, 2)] [.slice none 0 0, .int .i64 0, .int .i64 0, .int .i64 0] := ⟨by kernel_rfl, by kernel_rfl⟩
instance : TF Tryz.prog 62 0 0 := ⟨by kernel_rfl⟩
instance : TF Tryz.prog 62 1 1 := ⟨by kernel_rfl⟩
instance : TF Tryz.prog 62 2 2 := ⟨by kernel_rfl⟩
instance : TZ Tryz.prog 63 [.nilFunc] := ⟨by kernel_rfl⟩
instance : TZV Tryz.prog 63 (.nilFunc) := ⟨by kernel_rfl⟩
instance : TS Tryz.prog 63 := ⟨by kernel_rfl⟩
instance : TZ Tryz.prog 64 [.pointer none] := ⟨by kernel_rfl⟩
instance : TZV Tryz.prog 64 (.pointer none) := ⟨by kernel_rfl⟩
instance : TS Tryz.prog 64 := ⟨by kernel_rfl⟩
instance : TPtr Tryz.prog 64 67 := ⟨by kernel_rfl⟩
instance : TZ Tryz.prog 65 [.slice none 0 0] := ⟨by kernel_rfl⟩
instance : TZV Tryz.prog 65 (.slice none 0 0) := ⟨by kernel_rfl⟩
instance : TS Tryz.prog 65 := ⟨by kernel_rfl⟩
instance : TL Tryz.prog 65 5 1 1 [.int .u8 0] := ⟨by kernel_rfl, by kernel_rfl, by kernel_rfl, by decide⟩
instance : TZ Tryz.prog 66 [.pointer none, .slice none 0 0] := ⟨by kernel_rfl⟩
instance : TZV Tryz.prog 66 (.agg #[.pointer none, .slice none 0 0]) := ⟨by kernel_rfl⟩
instance : TA Tryz.prog 66 2 := ⟨by kernel_rfl⟩
instance : TB Tryz.prog 66 [(0, 1), (1, 1)] [.pointer none, .slice none 0 0] := ⟨by kernel_rfl, by kernel_rfl⟩
instance : TF Tryz.prog 66 0 0 := ⟨by kernel_rfl⟩
instance : TF Tryz.prog 66 1 1 := ⟨by kernel_rfl⟩
instance : TZ Tryz.prog 67 [.pointer none, .slice none 0 0] := ⟨by kernel_rfl⟩
instance : TZV Tryz.prog 67 (.agg #[.pointer none, .slice none 0 0]) := ⟨by kernel_rfl⟩
instance : TA Tryz.prog 67 2 := ⟨by kernel_rfl⟩
instance : TB Tryz.prog 67 [(0, 1), (1, 1)] [.pointer none, .slice none 0 0] := ⟨by kernel_rfl, by kernel_rfl⟩
instance : TF Tryz.prog 67 0 0 := ⟨by kernel_rfl⟩
instance : TF Tryz.prog 67 1 1 := ⟨by kernel_rfl⟩
instance : TZ Tryz.prog 69 [.nilFunc] := ⟨by kernel_rfl⟩
instance : TZV Tryz.prog 69 (.nilFunc) := ⟨by kernel_rfl⟩
instance : TS Tryz.prog 69 := ⟨by kernel_rfl⟩
instance : TZ Tryz.prog 70 [.nilIface] := ⟨by kernel_rfl⟩
instance : TZV Tryz.prog 70 (.nilIface) := ⟨by kernel_rfl⟩
instance : TS Tryz.prog 70 := ⟨by kernel_rfl⟩
instance : TZ Tryz.prog 71 [.nilIface] := ⟨by kernel_rfl⟩
instance : TZV Tryz.prog 71 (.nilIface) := ⟨by kernel_rfl⟩
instance : TS Tryz.prog 71 := ⟨by kernel_rfl⟩
instance : TZ Tryz.prog 72 [.nilFunc] := ⟨by kernel_rfl⟩
instance : TZV Tryz.prog 72 (.nilFunc) := ⟨by kernel_rfl⟩
instance : TS Tryz.prog 72 := ⟨by kernel_rfl⟩
instance : TZ Tryz.prog 74 [.nilFunc] := ⟨by kernel_rfl⟩
instance : TZV Tryz.prog 74 (.nilFunc) := ⟨by kernel_rfl⟩
instance : TS Tryz.prog 74 := ⟨by kernel_rfl⟩
instance : TZ Tryz.prog 75 [.nilFunc] := ⟨by kernel_rfl⟩
instance : TZV Tryz.prog 75 (.nilFunc) := ⟨by kernel_rfl⟩
instance : TS Tryz.prog 75 := ⟨by kernel_rfl⟩
instance : TZ Tryz.prog 76 [.int .i64 0, .int .i64 0, .int .i64 0, .int .i64 0] := ⟨by kernel_rfl⟩
instance : TZV Tryz.prog 76 (.agg #[.int .i64 0, .int .i64 0, .int .i64 0, .int .i64 0]) := ⟨by kernel_rfl⟩
instance : TA Tryz.prog 76 4 := ⟨by kernel_rfl⟩
instance : TEq Tryz.prog 76 [5, 5, 5, 5] := ⟨by kernel_rfl, by kernel_rfl, by kernel_rfl⟩
instance : TB Tryz.prog 76 [(0, 1), (1, 1), (2, 1), (3, 1)] [.int .i64 0, .int .i64 0, .int .i64 0, .int .i64 0] := ⟨by kernel_rfl, by kernel_rfl⟩
instance : TF Tryz.prog 76 0 0 := ⟨by kernel_rfl⟩
instance : TF Tryz.prog 76 1 1 := ⟨by kernel_rfl⟩
instance : TF Tryz.prog 76 2 2 := ⟨by kernel_rfl⟩
instance : TF Tryz.prog 76 3 3 := ⟨by kernel_rfl⟩
instance : TZ Tryz.prog 77 [.int .i64 0, .int .i64 0, .int .i64 0, .int .i64 0] := ⟨by kernel_rfl⟩
instance : TZV Tryz.prog 77 (.agg #[.int .i64 0, .int .i64 0, .int .i64 0, .int .i64 0]) := ⟨by kernel_rfl⟩
instance : TA Tryz.prog 77 4 := ⟨by kernel_rfl⟩
instance : TEq Tryz.prog 77 [5, 5, 5, 5] := ⟨by kernel_rfl, by kernel_rfl, by kernel_rfl⟩
instance : TB Tryz.prog 77 [(0, 1), (1, 1), (2, 1), (3, 1)] [.int .i64 0, .int .i64 0, .int .i64 0, .int .i64 0] := ⟨by kernel_rfl, by kernel_rfl⟩
instance : TF Tryz.prog 77 0 0 := ⟨by kernel_rfl⟩
instance : TF Tryz.prog 77 1 1 := ⟨by kernel_rfl⟩
instance : TF Tryz.prog 77 2 2 := ⟨by kernel_rfl⟩
instance : TF Tryz.prog 77 3 3 := ⟨by kernel_rfl⟩
instance : TZ Tryz.prog 78 [.string ⟨#[]⟩, .int .i64 0, .int .i64 0, .int .u64 0, .slice none 0 0] := ⟨by kernel_rfl⟩
instance : TZV Tryz.prog 78 (.agg #[.string ⟨#[]⟩, .int .i64 0, .int .i64 0, .int .u64 0, .slice none 0 0]) := ⟨by kernel_rfl⟩
instance : TA Tryz.prog 78 5 := ⟨by kernel_rfl⟩
instance : TB Tryz.prog 78 [(0, 1), (1, 1), (2, 1), (3, 1), (4, 1)] [.string ⟨#[]⟩, .int .i64 0, .int .i64 0, .int .u64 0, .slice none 0 0] := ⟨by kernel_rfl, by kernel_rfl⟩
instance : TF Tryz.prog 78 0 0 := ⟨by kernel_rfl⟩
instance : TF Tryz.prog 78 1 1 := ⟨by kernel_rfl⟩
instance : TF Tryz.prog 78 2 2 := ⟨by kernel_rfl⟩
instance : TF Tryz.prog 78 3 3 := ⟨by kernel_rfl⟩
instance : TF Tryz.prog 78 4 4 := ⟨by kernel_rfl⟩
instance : TZ Tryz.prog 79 [.string ⟨#[]⟩, .int .i64 0, .int .i64 0, .int .u64 0, .slice none 0 0] := ⟨by kernel_rfl⟩
instance : TZV Tryz.prog 79 (.agg #[.string ⟨#[]⟩, .int .i64 0, .int .i64 0, .int .u64 0, .slice none 0 0]) := ⟨by kernel_rfl⟩
instance : TA Tryz.prog 79 5 := ⟨by kernel_rfl⟩
instance : TB Tryz.prog 79 [(0, 1), (1, 1), (2, 1), (3, 1), (4, 1)] [.string ⟨#[]⟩, .int .i64 0, .int .i64 0, .int .u64 0, .slice none 0 0] := ⟨by kernel_rfl, by kernel_rfl⟩
instance : TF Tryz.prog 79 0 0 := ⟨by kernel_rfl⟩
instance : TF Tryz.prog 79 1 1 := ⟨by kernel_rfl⟩
instance : TF Tryz.prog 79 2 2 := ⟨by kernel_rfl⟩
instance : TF Tryz.prog 79 3 3 := ⟨by kernel_rfl⟩
instance : TF Tryz.prog 79 4 4 := ⟨by kernel_rfl⟩
instance : TZ Tryz.prog 80 [.nilFunc] := ⟨by kernel_rfl⟩
instance : TZV Tryz.prog 80 (.nilFunc) := ⟨by kernel_rfl⟩
instance : TS Tryz.prog 80 := ⟨by kernel_rfl⟩
instance : TZ Tryz.prog 81 [.int .i64 0, .int .i64 0, .int .i64 0] := ⟨by kernel_rfl⟩
instance : TZV Tryz.prog 81 (.agg #[.int .i64 0, .int .i64 0, .int .i64 0]) := ⟨by kernel_rfl⟩
instance : TA Tryz.prog 81 3 := ⟨by kernel_rfl⟩
instance : TEq Tryz.prog 81 [5, 5, 5] := ⟨by kernel_rfl, by kernel_rfl, by kernel_rfl⟩
instance : TB Tryz.prog 81 [(0, 1), (1, 1), (2, 1)] [.int .i64 0, .int .i64 0, .int .i64 0] := ⟨by kernel_rfl, by kernel_rfl⟩
instance : TF Tryz.prog 81 0 0 := ⟨by kernel_rfl⟩
instance : TF Tryz.prog 81 1 1 := ⟨by kernel_rfl⟩
instance : TF Tryz.prog 81 2 2 := ⟨by kernel_rfl⟩
instance : TZ Tryz.prog 82 [.int .i64 0, .int .i64 0, .int .i64 0] := ⟨by kernel_rfl⟩
instance : TZV Tryz.prog 82 (.agg #[.int .i64 0, .int .i64 0, .int .i64 0]) := ⟨by kernel_rfl⟩
instance : TA Tryz.prog 82 3 := ⟨by kernel_rfl⟩
instance : TEq Tryz.prog 82 [5, 5, 5] := ⟨by kernel_rfl, by kernel_rfl, by kernel_rfl⟩
instance : TB Tryz.prog 82 [(0, 1), (1, 1), (2, 1)] [.int .i64 0, .int .i64 0, .int .i64 0] := ⟨by kernel_rfl, by kernel_rfl⟩
instance : TF Tryz.prog 82 0 0 := ⟨by kernel_rfl⟩
instance : TF Tryz.prog 82 1 1 := ⟨by kernel_rfl⟩
instance : TF Tryz.prog 82 2 2 := ⟨by kernel_rfl⟩
instance : TZ Tryz.prog 83 [.string ⟨#[]⟩, .int .i64 0, .int .i64 0, .int .u64 0, .int .u64 0] := ⟨by kernel_rfl⟩
instance : TZV Tryz.prog 83 (.agg #[.string ⟨#[]⟩, .int .i64 0, .int .i64 0, .int .u64 0, .int .u64 0]) := ⟨by kernel_rfl⟩
instance : TA Tryz.prog 83 5 := ⟨by kernel_rfl⟩
instance : TEq Tryz.prog 83 [1, 5, 5, 9, 9] := ⟨by kernel_rfl, by kernel_rfl, by kernel_rfl⟩
instance : TB Tryz.prog 83 [(0, 1), (1, 1), (2, 1), (3, 1), (4, 1)] [.string ⟨#[]⟩, .int .i64 0, .int .i64 0, .int .u64 0, .int .u64 0] := ⟨by kernel_rfl, by kernel_rfl⟩
instance : TF Tryz.prog 83 0 0 := ⟨by kernel_rfl⟩
instance : TF Tryz.prog 83 1 1 := ⟨by kernel_rfl⟩
instance : TF Tryz.prog 83 2 2 := ⟨by kernel_rfl⟩
instance : TF Tryz.prog 83 3 3 := ⟨by kernel_rfl⟩
instance : TF Tryz.prog 83 4 4 := ⟨by kernel_rfl⟩
instance : TZ Tryz.prog 84 [.string ⟨#[]⟩, .int .i64 0, .int .i64 0, .int .u64 0, .int .u64 0] := ⟨by kernel_rfl⟩
instance : TZV Tryz.prog 84 (.agg #[.string ⟨#[]⟩, .int .i64 0, .int .i64 0, .int .u64 0, .int .u64 0]) := ⟨by kernel_rfl⟩
instance : TA Tryz.prog 84 5 := ⟨by kernel_rfl⟩
instance : TEq Tryz.prog 84 [1, 5, 5, 9, 9] := ⟨by kernel_rfl, by kernel_rfl, by kernel_rfl⟩
instance : TB Tryz.prog 84 [(0, 1), (1, 1), (2, 1), (3, 1), (4, 1)] [.string ⟨#[]⟩, .int .i64 0, .int .i64 0, .int .u64 0, .int .u64 0] := ⟨by kernel_rfl, by kernel_rfl⟩
instance : TF Tryz.prog 84 0 0 := ⟨by kernel_rfl⟩
instance : TF Tryz.prog 84 1 1 := ⟨by kernel_rfl⟩
instance : TF Tryz.prog 84 2 2 := ⟨by kernel_rfl⟩
instance : TF Tryz.prog 84 3 3 := ⟨by kernel_rfl⟩
instance : TF Tryz.prog 84 4 4 := ⟨by kernel_rfl⟩
instance : TZ Tryz.prog 85 [.slice none 0 0] := ⟨by kernel_rfl⟩
instance : TZV Tryz.prog 85 (.slice none 0 0) := ⟨by kernel_rfl⟩
instance : TS Tryz.prog 85 := ⟨by kernel_rfl⟩
instance : TL Tryz.prog 85 9 1 16 [.string ⟨#[]⟩] := ⟨by kernel_rfl, by kernel_rfl, by kernel_rfl, by decide⟩
instance : TZ Tryz.prog 86 [.nilFunc] := ⟨by kernel_rfl⟩
instance : TZV Tryz.prog 86 (.nilFunc) := ⟨by kernel_rfl⟩
instance : TS Tryz.prog 86 := ⟨by kernel_rfl⟩
instance : TZ Tryz.prog 87 [.nilFunc] := ⟨by kernel_rfl⟩
instance : TZV Tryz.prog 87 (.nilFunc) := ⟨by kernel_rfl⟩
instance : TS Tryz.prog 87 := ⟨by kernel_rfl⟩
instance : TZ Tryz.prog 88 [.nilFunc] := ⟨by kernel_rfl⟩
instance : TZV Tryz.prog 88 (.nilFunc) := ⟨by kernel_rfl⟩
instance : TS Tryz.prog 88 := ⟨by kernel_rfl⟩
instance : TZ Tryz.prog 89 [.nilFunc] := ⟨by kernel_rfl⟩
instance : TZV Tryz.prog 89 (.nilFunc) := ⟨by kernel_rfl⟩
instance : TS Tryz.prog 89 := ⟨by kernel_rfl⟩
instance : TZ Tryz.prog 90 [.nilFunc] := ⟨by kernel_rfl⟩
instance : TZV Tryz.prog 90 (.nilFunc) := ⟨by kernel_rfl⟩
instance : TS Tryz.prog 90 := ⟨by kernel_rfl⟩
instance : TZ Tryz.prog 91 [.nilFunc] := ⟨by kernel_rfl⟩
instance : TZV Tryz.prog 91 (.nilFunc) := ⟨by kernel_rfl⟩
instance : TS Tryz.prog 91 := ⟨by kernel_rfl⟩
instance : TZ Tryz.prog 92 [.pointer none] := ⟨by kernel_rfl⟩
instance : TZV Tryz.prog 92 (.pointer none) := ⟨by kernel_rfl⟩
instance : TS Tryz.prog 92 := ⟨by kernel_rfl⟩
instance : TPtr Tryz.prog 92 94 := ⟨by kernel_rfl⟩
instance : TZ Tryz.prog 93 [.slice none 0 0, .int .i64 0] := ⟨by kernel_rfl⟩
instance : TZV Tryz.prog 93 (.agg #[.slice none 0 0, .int .i64 0]) := ⟨by kernel_rfl⟩
instance : TA Tryz.prog 93 2 := ⟨by kernel_rfl⟩
instance : TB Tryz.prog 93 [(0, 1), (1, 1)] [.slice none 0 0, .int .i64 0] := ⟨by kernel_rfl, by kernel_rfl⟩
instance : TF Tryz.prog 93 0 0 := ⟨by kernel_rfl⟩
instance : TF Tryz.prog 93 1 1 := ⟨by kernel_rfl⟩
instance : TZ Tryz.prog 94 [.slice none 0 0, .int .i64 0] := ⟨by kernel_rfl⟩
instance : TZV Tryz.prog 94 (.agg #[.slice none 0 0, .int .i64 0]) := ⟨by kernel_rfl⟩
instance : TA Tryz.prog 94 2 := ⟨by kernel_rfl⟩
instance : TB Tryz.prog 94 [(0, 1), (1, 1)] [.slice none 0 0, .int .i64 0] := ⟨by kernel_rfl, by kernel_rfl⟩
instance : TF Tryz.prog 94 0 0 := ⟨by kernel_rfl⟩
instance : TF Tryz.prog 94 1 1 := ⟨by kernel_rfl⟩
instance : TZ Tryz.prog 95 [.int .i64 0, .int .i64 0, .int .i64 0, .int .i64 0, .int .i64 0, .int .i64 0] := ⟨by kernel_rfl⟩
instance : TZV Tryz.prog 95 (.agg #[.int .i64 0, .int .i64 0, .int .i64 0, .int .i64 0, .int .i64 0, .int .i64 0]) := ⟨by kernel_rfl⟩
instance : TA Tryz.prog 95 6 := ⟨by kernel_rfl⟩
instance : TArr Tryz.prog 95 6 3 1 := ⟨by kernel_rfl, by kernel_rfl⟩
instance : TZ Tryz.prog 96 [.nilFunc] := ⟨by kernel_rfl⟩
instance : TZV Tryz.prog 96 (.nilFunc) := ⟨by kernel_rfl⟩
instance : TS Tryz.prog 96 := ⟨by kernel_rfl⟩
instance : TZ Tryz.prog 97 [.int .u64 0] := ⟨by kernel_rfl⟩
instance : TZV Tryz.prog 97 (.int .u64 0) := ⟨by kernel_rfl⟩
instance : TS Tryz.prog 97 := ⟨by kernel_rfl⟩
instance : TInt Tryz.prog 97 .u64 := ⟨by kernel_rfl⟩
instance : TZ Tryz.prog 98 [.nilFunc] := ⟨by kernel_rfl⟩
instance : TZV Tryz.prog 98 (.nilFunc) := ⟨by kernel_rfl⟩
instance : TS Tryz.prog 98 := ⟨by kernel_rfl⟩
instance : TZ Tryz.prog 99 [.nilFunc] := ⟨by kernel_rfl⟩
instance : TZV Tryz.prog 99 (.nilFunc) := ⟨by kernel_rfl⟩
instance : TS Tryz.prog 99 := ⟨by kernel_rfl⟩
instance : TZ Tryz.prog 100 [.nilFunc] := ⟨by kernel_rfl⟩
instance : TZV Tryz.prog 100 (.nilFunc) := ⟨by kernel_rfl⟩
instance : TS Tryz.prog 100 := ⟨by kernel_rfl⟩
instance : TZ Tryz.prog 101 [.nilFunc] := ⟨by kernel_rfl⟩
instance : TZV Tryz.prog 101 (.nilFunc) := ⟨by kernel_rfl⟩
instance : TS Tryz.prog 101 := ⟨by kernel_rfl⟩
instance : TZ Tryz.prog 102 [.nilFunc] := ⟨by kernel_rfl⟩
instance : TZV Tryz.prog 102 (.nilFunc) := ⟨by kernel_rfl⟩
instance : TS Tryz.prog 102 := ⟨by kernel_rfl⟩
instance : TZ Tryz.prog 103 [.nilFunc] := ⟨by kernel_rfl⟩
instance : TZV Tryz.prog 103 (.nilFunc) := ⟨by kernel_rfl⟩
instance : TS Tryz.prog 103 := ⟨by kernel_rfl⟩
instance : TZ Tryz.prog 104 [.nilFunc] := ⟨by kernel_rfl⟩
instance : TZV Tryz.prog 104 (.nilFunc) := ⟨by kernel_rfl⟩
instance : TS Tryz.prog 104 := ⟨by kernel_rfl⟩
instance : TZ Tryz.prog 105 [.nilFunc] := ⟨by kernel_rfl⟩
instance : TZV Tryz.prog 105 (.nilFunc) := ⟨by kernel_rfl⟩
instance : TS Tryz.prog 105 := ⟨by kernel_rfl⟩
instance : TZ Tryz.prog 106 [.nilFunc] := ⟨by kernel_rfl⟩
instance : TZV Tryz.prog 106 (.nilFunc) := ⟨by kernel_rfl⟩
instance : TS Tryz.prog 106 := ⟨by kernel_rfl⟩
instance : TZ Tryz.prog 107 [.nilFunc] := ⟨by kernel_rfl⟩
instance : TZV Tryz.prog 107 (.nilFunc) := ⟨by kernel_rfl⟩
instance : TS Tryz.prog 107 := ⟨by kernel_rfl⟩
instance : TZ Tryz.prog 108 [.nilFunc] := ⟨by kernel_rfl⟩
instance : TZV Tryz.prog 108 (.nilFunc) := ⟨by kernel_rfl⟩
instance : TS Tryz.prog 108 := ⟨by kernel_rfl⟩
instance : TZ Tryz.prog 109 [.nilFunc] := ⟨by kernel_rfl⟩
instance : TZV Tryz.prog 109 (.nilFunc) := ⟨by kernel_rfl⟩
instance : TS Tryz.prog 109 := ⟨by kernel_rfl⟩
instance : TZ Tryz.prog 110 [.nilFunc] := ⟨by kernel_rfl⟩
instance : TZV Tryz.prog 110 (.nilFunc) := ⟨by kernel_rfl⟩
instance : TS Tryz.prog 110 := ⟨by kernel_rfl⟩
instance : TZ Tryz.prog 111 [.nilFunc] := ⟨by kernel_rfl⟩
instance : TZV Tryz.prog 111 (.nilFunc) := ⟨by kernel_rfl⟩
instance : TS Tryz.prog 111 := ⟨by kernel_rfl⟩
instance : TZ Tryz.prog 112 [.nilFunc] := ⟨by kernel_rfl⟩
instance : TZV Tryz.prog 112 (.nilFunc) := ⟨by kernel_rfl⟩
instance : TS Tryz.prog 112 := ⟨by kernel_rfl⟩
instance : TZ Tryz.prog 113 [.nilFunc] := ⟨by kernel_rfl⟩
instance : TZV Tryz.prog 113 (.nilFunc) := ⟨by kernel_rfl⟩
instance : TS Tryz.prog 113 := ⟨by kernel_rfl⟩
instance : TZ Tryz.prog 114 [.nilFunc] := ⟨by kernel_rfl⟩
instance : TZV Tryz.prog 114 (.nilFunc) := ⟨by kernel_rfl⟩
instance : TS Tryz.prog 114 := ⟨by kernel_rfl⟩
instance : TZ Tryz.prog 115 [.nilFunc] := ⟨by kernel_rfl⟩
instance : TZV Tryz.prog 115 (.nilFunc) := ⟨by kernel_rfl⟩
instance : TS Tryz.prog 115 := ⟨by kernel_rfl⟩
instance : TZ Tryz.prog 116 [.nilFunc] := ⟨by kernel_rfl⟩
instance : TZV Tryz.prog 116 (.nilFunc) := ⟨by kernel_rfl⟩
instance : TS Tryz.prog 116 := ⟨by kernel_rfl⟩
instance : TZ Tryz.prog 117 [.nilFunc] := ⟨by kernel_rfl⟩
instance : TZV Tryz.prog 117 (.nilFunc) := ⟨by kernel_rfl⟩
instance : TS Tryz.prog 117 := ⟨by kernel_rfl⟩
instance : TZ Tryz.prog 118 [.nilFunc] := ⟨by kernel_rfl⟩
instance : TZV Tryz.prog 118 (.nilFunc) := ⟨by kernel_rfl⟩
instance : TS Tryz.prog 118 := ⟨by kernel_rfl⟩
instance : TZ Tryz.prog 119 [.nilFunc] := ⟨by kernel_rfl⟩
instance : TZV Tryz.prog 119 (.nilFunc) := ⟨by kernel_rfl⟩
instance : TS Tryz.prog 119 := ⟨by kernel_rfl⟩
instance : TZ Tryz.prog 120 [.nilFunc] := ⟨by kernel_rfl⟩
instance : TZV Tryz.prog 120 (.nilFunc) := ⟨by kernel_rfl⟩
instance : TS Tryz.prog 120 := ⟨by kernel_rfl⟩
instance : TZ Tryz.prog 121 [.nilFunc] := ⟨by kernel_rfl⟩
instance : TZV Tryz.prog 121 (.nilFunc) := ⟨by kernel_rfl⟩
instance : TS Tryz.prog 121 := ⟨by kernel_rfl⟩
instance : TZ Tryz.prog 122 [.nilFunc] := ⟨by kernel_rfl⟩
instance : TZV Tryz.prog 122 (.nilFunc) := ⟨by kernel_rfl⟩
instance : TS Tryz.prog 122 := ⟨by kernel_rfl⟩
instance : TZ Tryz.prog 123 [.nilFunc] := ⟨by kernel_rfl⟩
instance : TZV Tryz.prog 123 (.nilFunc) := ⟨by kernel_rfl⟩
instance : TS Tryz.prog 123 := ⟨by kernel_rfl⟩
instance : TZ Tryz.prog 124 [.nilFunc] := ⟨by kernel_rfl⟩
instance : TZV Tryz.prog 124 (.nilFunc) := ⟨by kernel_rfl⟩
instance : TS Tryz.prog 124 := ⟨by kernel_rfl⟩
instance : TZ Tryz.prog 125 [.nilFunc] := ⟨by kernel_rfl⟩
instance : TZV Tryz.prog 125 (.nilFunc) := ⟨by kernel_rfl⟩
instance : TS Tryz.prog 125 := ⟨by kernel_rfl⟩
instance : TZ Tryz.prog 126 [.nilFunc] := ⟨by kernel_rfl⟩
instance : TZV Tryz.prog 126 (.nilFunc) := ⟨by kernel_rfl⟩
instance : TS Tryz.prog 126 := ⟨by kernel_rfl⟩
instance : TZ Tryz.prog 127 [.nilFunc] := ⟨by kernel_rfl⟩
instance : TZV Tryz.prog 127 (.nilFunc) := ⟨by kernel_rfl⟩
instance : TS Tryz.prog 127 := ⟨by kernel_rfl⟩
instance : TZ Tryz.prog 129 [.nilFunc] := ⟨by kernel_rfl⟩
instance : TZV Tryz.prog 129 (.nilFunc) := ⟨by kernel_rfl⟩
instance : TS Tryz.prog 129 := ⟨by kernel_rfl⟩
instance : TZ Tryz.prog 130 [.nilFunc] := ⟨by kernel_rfl⟩
instance : TZV Tryz.prog 130 (.nilFunc) := ⟨by kernel_rfl⟩
instance : TS Tryz.prog 130 := ⟨by kernel_rfl⟩
instance : TZ Tryz.prog 131 [.nilFunc] := ⟨by kernel_rfl⟩
instance : TZV Tryz.prog 131 (.nilFunc) := ⟨by kernel_rfl⟩
instance : TS Tryz.prog 131 := ⟨by kernel_rfl⟩
instance : TZ Tryz.prog 132 [.nilFunc] := ⟨by kernel_rfl⟩
instance : TZV Tryz.prog 132 (.nilFunc) := ⟨by kernel_rfl⟩
instance : TS Tryz.prog 132 := ⟨by kernel_rfl⟩
instance : TZ Tryz.prog 133 [.nilFunc] := ⟨by kernel_rfl⟩
instance : TZV Tryz.prog 133 (.nilFunc) := ⟨by kernel_rfl⟩
instance : TS Tryz.prog 133 := ⟨by kernel_rfl⟩
instance : TZ Tryz.prog 134 [.pointer none] := ⟨by kernel_rfl⟩
instance : TZV Tryz.prog 134 (.pointer none) := ⟨by kernel_rfl⟩
instance : TS Tryz.prog 134 := ⟨by kernel_rfl⟩
instance : TPtr Tryz.prog 134 35 := ⟨by kernel_rfl⟩
instance : TZ Tryz.prog 135 [.nilFunc] := ⟨by kernel_rfl⟩
instance : TZV Tryz.prog 135 (.nilFunc) := ⟨by kernel_rfl⟩
instance : TS Tryz.prog 135 := ⟨by kernel_rfl⟩
instance : TZ Tryz.prog 136 [.pointer none] := ⟨by kernel_rfl⟩
instance : TZV Tryz.prog 136 (.pointer none) := ⟨by kernel_rfl⟩
instance : TS Tryz.prog 136 := ⟨by kernel_rfl⟩
instance : TPtr Tryz.prog 136 5 := ⟨by kernel_rfl⟩
instance : TZ Tryz.prog 137 [.nilFunc] := ⟨by kernel_rfl⟩
instance : TZV Tryz.prog 137 (.nilFunc) := ⟨by kernel_rfl⟩
instance : TS Tryz.prog 137 := ⟨by kernel_rfl⟩
instance : TZ Tryz.prog 138 [.nilFunc] := ⟨by kernel_rfl⟩
instance : TZV Tryz.prog 138 (.nilFunc) := ⟨by kernel_rfl⟩
instance : TS Tryz.prog 138 := ⟨by kernel_rfl⟩
instance : TZ Tryz.prog 139 [.nilFunc] := ⟨by kernel_rfl⟩
instance : TZV Tryz.prog 139 (.nilFunc) := ⟨by kernel_rfl⟩
instance : TS Tryz.prog 139 := ⟨by kernel_rfl⟩
instance : TZ Tryz.prog 140 [.nilFunc] := ⟨by kernel_rfl⟩
instance : TZV Tryz.prog 140 (.nilFunc) := ⟨by kernel_rfl⟩
instance : TS Tryz.prog 140 := ⟨by kernel_rfl⟩
instance : TZ Tryz.prog 141 [.slice none 0 0] := ⟨by kernel_rfl⟩
instance : TZV Tryz.prog 141 (.slice none 0 0) := ⟨by kernel_rfl⟩
instance : TS Tryz.prog 141 := ⟨by kernel_rfl⟩
instance : TL Tryz.prog 141 143 2 16 [.int .i64 0, .int .i64 0] := ⟨by kernel_rfl, by kernel_rfl, by kernel_rfl, by decide⟩
instance : TZ Tryz.prog 142 [.nilFunc] := ⟨by kernel_rfl⟩
instance : TZV Tryz.prog 142 (.nilFunc) := ⟨by kernel_rfl⟩
instance : TS Tryz.prog 142 := ⟨by kernel_rfl⟩
instance : TZ Tryz.prog 143 [.int .i64 0, .int .i64 0] := ⟨by kernel_rfl⟩
instance : TZV Tryz.prog 143 (.agg #[.int .i64 0, .int .i64 0]) := ⟨by kernel_rfl⟩
instance : TA Tryz.prog 143 2 := ⟨by kernel_rfl⟩
instance : TArr Tryz.prog 143 2 3 1 := ⟨by kernel_rfl, by kernel_rfl⟩
instance : TZ Tryz.prog 144 [.nilFunc] := ⟨by kernel_rfl⟩
instance : TZV Tryz.prog 144 (.nilFunc) := ⟨by kernel_rfl⟩
instance : TS Tryz.prog 144 := ⟨by kernel_rfl⟩
instance : TZ Tryz.prog 145 [.nilFunc] := ⟨by kernel_rfl⟩
instance : TZV Tryz.prog 145 (.nilFunc) := ⟨by kernel_rfl⟩
instance : TS Tryz.prog 145 := ⟨by kernel_rfl⟩
instance : TZ Tryz.prog 146 [.nilFunc] := ⟨by kernel_rfl⟩
instance : TZV Tryz.prog 146 (.nilFunc) := ⟨by kernel_rfl⟩
instance : TS Tryz.prog 146 := ⟨by kernel_rfl⟩
instance : TZ Tryz.prog 147 [.nilFunc] := ⟨by kernel_rfl⟩
instance : TZV Tryz.prog 147 (.nilFunc) := ⟨by kernel_rfl⟩
instance : TS Tryz.prog 147 := ⟨by kernel_rfl⟩
instance : TZ Tryz.prog 148 [.nilFunc] := ⟨by kernel_rfl⟩
instance : TZV Tryz.prog 148 (.nilFunc) := ⟨by kernel_rfl⟩
instance : TS Tryz.prog 148 := ⟨by kernel_rfl⟩
instance : TZ Tryz.prog 149 [.slice none 0 0] := ⟨by kernel_rfl⟩
instance : TZV Tryz.prog 149 (.slice none 0 0) := ⟨by kernel_rfl⟩
instance : TS Tryz.prog 149 := ⟨by kernel_rfl⟩
instance : TL Tryz.prog 149 151 2 16 [.int .u64 0, .int .u64 0] := ⟨by kernel_rfl, by kernel_rfl, by kernel_rfl, by decide⟩
instance : TZ Tryz.prog 150 [.int .u64 0, .int .u64 0] := ⟨by kernel_rfl⟩
instance : TZV Tryz.prog 150 (.agg #[.int .u64 0, .int .u64 0]) := ⟨by kernel_rfl⟩
instance : TA Tryz.prog 150 2 := ⟨by kernel_rfl⟩
instance : TEq Tryz.prog 150 [9, 9] := ⟨by kernel_rfl, by kernel_rfl, by kernel_rfl⟩
instance : TB Tryz.prog 150 [(0, 1), (1, 1)] [.int .u64 0, .int .u64 0] := ⟨by kernel_rfl, by kernel_rfl⟩
instance : TF Tryz.prog 150 0 0 := ⟨by kernel_rfl⟩
instance : TF Tryz.prog 150 1 1 := ⟨by kernel_rfl⟩
instance : TZ Tryz.prog 151 [.int .u64 0, .int .u64 0] := ⟨by kernel_rfl⟩
instance : TZV Tryz.prog 151 (.agg #[.int .u64 0, .int .u64 0]) := ⟨by kernel_rfl⟩
instance : TA Tryz.prog 151 2 := ⟨by kernel_rfl⟩
instance : TEq Tryz.prog 151 [9, 9] := ⟨by kernel_rfl, by kernel_rfl, by kernel_rfl⟩
instance : TB Tryz.prog 151 [(0, 1), (1, 1)] [.int .u64 0, .int .u64 0] := ⟨by kernel_rfl, by kernel_rfl⟩
instance : TF Tryz.prog 151 0 0 := ⟨by kernel_rfl⟩
instance : TF Tryz.prog 151 1 1 := ⟨by kernel_rfl⟩
instance : TZ Tryz.prog 152 [.bool false, .bool false, .bool false, .bool false, .bool false, .bool false, .bool false, .bool false, .bool false, .bool false, .bool false, .bool false, .bool false, .bool false, .bool false, .bool false, .bool false, .bool false, .bool false, .bool false, .bool false, .bool false, .bool false, .bool false, .bool false, .bool false, .bool false, .bool false, .bool false, .bool false, .bool false, .bool false, .bool false, .bool false, .bool false, .bool false, .bool false, .bool false, .bool false, .bool false, .bool false, .bool false, .bool false, .bool false, .bool false, .bool false, .bool false, .bool false, .bool false, .bool false, .bool false, .bool false, .bool false, .bool false, .bool false, .bool false, .bool false, .bool false, .bool false, .bool false, .bool false, .bool false, .bool false, .bool false] := ⟨by kernel_rfl⟩
instance : TZV Tryz.prog 152 (.agg #[.bool false, .bool false, .bool false, .bool false, .bool false, .bool false, .bool false, .bool false, .bool false, .bool false, .bool false, .bool false, .bool false, .bool false, .bool false, .bool false, .bool false, .bool false, .bool false, .bool false, .bool false, .bool false, .bool false, .bool false, .bool false, .bool false, .bool false, .bool false, .bool false, .bool false, .bool false, .bool false, .bool false, .bool false, .bool false, .bool false, .bool false, .bool false, .bool false, .bool false, .bool false, .bool false, .bool false, .bool false, .bool false, .bool false, .bool false, .bool false, .bool false, .bool false, .bool false, .bool false, .bool false, .bool false, .bool false, .bool false, .bool false, .bool false, .bool false, .bool false, .bool false, .bool false, .bool false, .bool false]) := ⟨by kernel_rfl⟩
instance : TA Tryz.prog 152 64 := ⟨by kernel_rfl⟩
instance : TArr Tryz.prog 152 64 4 1 := ⟨by kernel_rfl, by kernel_rfl⟩
instance : TZ Tryz.prog 153 [.nilFunc] := ⟨by kernel_rfl⟩
instance : TZV Tryz.prog 153 (.nilFunc) := ⟨by kernel_rfl⟩
instance : TS Tryz.prog 153 := ⟨by kernel_rfl⟩
instance : TZ Tryz.prog 154 [.nilFunc] := ⟨by kernel_rfl⟩
instance : TZV Tryz.prog 154 (.nilFunc) := ⟨by kernel_rfl⟩
instance : TS Tryz.prog 154 := ⟨by kernel_rfl⟩
instance : TZ Tryz.prog 155 [.slice none 0 0] := ⟨by kernel_rfl⟩
instance : TZV Tryz.prog 155 (.slice none 0 0) := ⟨by kernel_rfl⟩
instance : TS Tryz.prog 155 := ⟨by kernel_rfl⟩
instance : TL Tryz.prog 155 45 1 8 [.int .u64 0] := ⟨by kernel_rfl, by kernel_rfl, by kernel_rfl, by decide⟩
instance : TZ Tryz.prog 156 [.nilFunc] := ⟨by kernel_rfl⟩
instance : TZV Tryz.prog 156 (.nilFunc) := ⟨by kernel_rfl⟩
instance : TS Tryz.prog 156 := ⟨by kernel_rfl⟩
instance : TZ Tryz.prog 157 [.nilFunc] := ⟨by kernel_rfl⟩
instance : TZV Tryz.prog 157 (.nilFunc) := ⟨by kernel_rfl⟩
instance : TS Tryz.prog 157 := ⟨by kernel_rfl⟩
instance : TZ Tryz.prog 158 [.nilFunc] := ⟨by kernel_rfl⟩
instance : TZV Tryz.prog 158 (.nilFunc) := ⟨by kernel_rfl⟩
instance : TS Tryz.prog 158 := ⟨by kernel_rfl⟩
instance : TZ Tryz.prog 159 [.nilFunc] := ⟨by kernel_rfl⟩
instance : TZV Tryz.prog 159 (.nilFunc) := ⟨by kernel_rfl⟩
instance : TS Tryz.prog 159 := ⟨by kernel_rfl⟩
instance : TZ Tryz.prog 160 [.nilFunc] := ⟨by kernel_rfl⟩
instance : TZV Tryz.prog 160 (.nilFunc) := ⟨by kernel_rfl⟩
instance : TS Tryz.prog 160 := ⟨by kernel_rfl⟩
instance : TZ Tryz.prog 161 [.nilFunc] := ⟨by kernel_rfl⟩
instance : TZV Tryz.prog 161 (.nilFunc) := ⟨by kernel_rfl⟩
instance : TS Tryz.prog 161 := ⟨by kernel_rfl⟩
instance : TZ Tryz.prog 162 [.nilFunc] := ⟨by kernel_rfl⟩
instance : TZV Tryz.prog 162 (.nilFunc) := ⟨by kernel_rfl⟩
instance : TS Tryz.prog 162 := ⟨by kernel_rfl⟩
instance : TZ Tryz.prog 163 [.nilFunc] := ⟨by kernel_rfl⟩
instance : TZV Tryz.prog 163 (.nilFunc) := ⟨by kernel_rfl⟩
instance : TS Tryz.prog 163 := ⟨by kernel_rfl⟩
instance : TZ Tryz.prog 164 [.nilFunc] := ⟨by kernel_rfl⟩
instance : TZV Tryz.prog 164 (.nilFunc) := ⟨by kernel_rfl⟩
instance : TS Tryz.prog 164 := ⟨by kernel_rfl⟩
instance : TZ Tryz.prog 165 [.nilFunc] := ⟨by kernel_rfl⟩
instance : TZV Tryz.prog 165 (.nilFunc) := ⟨by kernel_rfl⟩
instance : TS Tryz.prog 165 := ⟨by kernel_rfl⟩
instance : TZ Tryz.prog 166 [.nilFunc] := ⟨by kernel_rfl⟩
instance : TZV Tryz.prog 166 (.nilFunc) := ⟨by kernel_rfl⟩
instance : TS Tryz.prog 166 := ⟨by kernel_rfl⟩
instance : TZ Tryz.prog 167 [.map none] := ⟨by kernel_rfl⟩
instance : TZV Tryz.prog 167 (.map none) := ⟨by kernel_rfl⟩
instance : TS Tryz.prog 167 := ⟨by kernel_rfl⟩
instance : TMap Tryz.prog 167 9 155 := ⟨by kernel_rfl⟩
instance : TZ Tryz.prog 168 [.nilFunc] := ⟨by kernel_rfl⟩
instance : TZV Tryz.prog 168 (.nilFunc) := ⟨by kernel_rfl⟩
instance : TS Tryz.prog 168 := ⟨by kernel_rfl⟩
instance : TZ Tryz.prog 169 [.nilFunc] := ⟨by kernel_rfl⟩
instance : TZV Tryz.prog 169 (.nilFunc) := ⟨by kernel_rfl⟩
instance : TS Tryz.prog 169 := ⟨by kernel_rfl⟩
instance : TZ Tryz.prog 170 [.nilFunc] := ⟨by kernel_rfl⟩
instance : TZV Tryz.prog 170 (.nilFunc) := ⟨by kernel_rfl⟩
instance : TS Tryz.prog 170 := ⟨by kernel_rfl⟩
instance : TZ Tryz.prog 171 [.pointer none] := ⟨by kernel_rfl⟩
instance : TZV Tryz.prog 171 (.pointer none) := ⟨by kernel_rfl⟩
instance : TS Tryz.prog 171 := ⟨by kernel_rfl⟩
instance : TZ Tryz.prog 172 [.nilFunc] := ⟨by kernel_rfl⟩
instance : TZV Tryz.prog 172 (.nilFunc) := ⟨by kernel_rfl⟩
instance : TS Tryz.prog 172 := ⟨by kernel_rfl⟩
instance : TZ Tryz.prog 173 [.nilFunc] := ⟨by kernel_rfl⟩
instance : TZV Tryz.prog 173 (.nilFunc) := ⟨by kernel_rfl⟩
instance : TS Tryz.prog 173 := ⟨by kernel_rfl⟩
instance : TZ Tryz.prog 174 [.int .u8 0, .int .u8 0, .int .u8 0, .int .u8 0, .int .u8 0, .int .u8 0, .int .u8 0, .int .u8 0, .int .u8 0, .int .u8 0, .int .u8 0, .int .u8 0, .int .u8 0, .int .u8 0, .int .u8 0, .int .u8 0, .int .u8 0, .int .u8 0, .int .u8 0, .int .u8 0, .int .u8 0, .int .u8 0, .int .u8 0, .int .u8 0] := ⟨by kernel_rfl⟩
instance : TZV Tryz.prog 174 (.agg #[.int .u8 0, .int .u8 0, .int .u8 0, .int .u8 0, .int .u8 0, .int .u8 0, .int .u8 0, .int .u8 0, .int .u8 0, .int .u8 0, .int .u8 0, .int .u8 0, .int .u8 0, .int .u8 0, .int .u8 0, .int .u8 0, .int .u8 0, .int .u8 0, .int .u8 0, .int .u8 0, .int .u8 0, .int .u8 0, .int .u8 0, .int .u8 0]) := ⟨by kernel_rfl⟩
instance : TA Tryz.prog 174 24 := ⟨by kernel_rfl⟩
instance : TArr Tryz.prog 174 24 5 1 := ⟨by kernel_rfl, by kernel_rfl⟩
instance : TZ Tryz.prog 175 [.nilFunc] := ⟨by kernel_rfl⟩
instance : TZV Tryz.prog 175 (.nilFunc) := ⟨by kernel_rfl⟩
instance : TS Tryz.prog 175 := ⟨by kernel_rfl⟩
instance : TZ Tryz.prog 176 [.nilFunc] := ⟨by kernel_rfl⟩
instance : TZV Tryz.prog 176 (.nilFunc) := ⟨by kernel_rfl⟩
instance : TS Tryz.prog 176 := ⟨by kernel_rfl⟩
instance : TZ Tryz.prog 178 [.nilFunc] := ⟨by kernel_rfl⟩
instance : TZV Tryz.prog 178 (.nilFunc) := ⟨by kernel_rfl⟩
instance : TS Tryz.prog 178 := ⟨by kernel_rfl⟩
instance : TZ Tryz.prog 179 [.map none] := ⟨by kernel_rfl⟩
instance : TZV Tryz.prog 179 (.map none) := ⟨by kernel_rfl⟩
instance : TS Tryz.prog 179 := ⟨by kernel_rfl⟩
instance : TMap Tryz.prog 179 3 4 := ⟨by kernel_rfl⟩
instance : TZ Tryz.prog 180 [.map none] := ⟨by kernel_rfl⟩
instance : TZV Tryz.prog 180 (.map none) := ⟨by kernel_rfl⟩
instance : TS Tryz.prog 180 := ⟨by kernel_rfl⟩
instance : TMap Tryz.prog 180 9 4 := ⟨by kernel_rfl⟩
instance : TZ Tryz.prog 181 [.map none] := ⟨by kernel_rfl⟩
instance : TZV Tryz.prog 181 (.map none) := ⟨by kernel_rfl⟩
instance : TS Tryz.prog 181 := ⟨by kernel_rfl⟩
instance : TMap Tryz.prog 181 143 4 := ⟨by kernel_rfl⟩
instance : TZ Tryz.prog 182 [.nilFunc] := ⟨by kernel_rfl⟩
instance : TZV Tryz.prog 182 (.nilFunc) := ⟨by kernel_rfl⟩
instance : TS Tryz.prog 182 := ⟨by kernel_rfl⟩
instance : TZ Tryz.prog 183 [.nilFunc] := ⟨by kernel_rfl⟩
instance : TZV Tryz.prog 183 (.nilFunc) := ⟨by kernel_rfl⟩
instance : TS Tryz.prog 183 := ⟨by kernel_rfl⟩
instance : TZ Tryz.prog 184 [.nilFunc] := ⟨by kernel_rfl⟩
instance : TZV Tryz.prog 184 (.nilFunc) := ⟨by kernel_rfl⟩
instance : TS Tryz.prog 184 := ⟨by kernel_rfl⟩
instance : TZ Tryz.prog 185 [.nilFunc] := ⟨by kernel_rfl⟩
instance : TZV Tryz.prog 185 (.nilFunc) := ⟨by kernel_rfl⟩
instance : TS Tryz.prog 185 := ⟨by kernel_rfl⟩
instance : TZ Tryz.prog 186 [.int .i64 0] := ⟨by kernel_rfl⟩
instance : TZV Tryz.prog 186 (.int .i64 0) := ⟨by kernel_rfl⟩
instance : TS Tryz.prog 186 := ⟨by kernel_rfl⟩
instance : TInt Tryz.prog 186 .i64 := ⟨by kernel_rfl⟩
instance : TZ Tryz.prog 188 [.nilFunc] := ⟨by kernel_rfl⟩
instance : TZV Tryz.prog 188 (.nilFunc) := ⟨by kernel_rfl⟩
instance : TS Tryz.prog 188 := ⟨by kernel_rfl⟩
instance : TZ Tryz.prog 189 [.nilFunc] := ⟨by kernel_rfl⟩
instance : TZV Tryz.prog 189 (.nilFunc) := ⟨by kernel_rfl⟩
instance : TS Tryz.prog 189 := ⟨by kernel_rfl⟩
instance : TZ Tryz.prog 190 [.nilFunc] := ⟨by kernel_rfl⟩
instance : TZV Tryz.prog 190 (.nilFunc) := ⟨by kernel_rfl⟩
instance : TS Tryz.prog 190 := ⟨by kernel_rfl⟩
instance : TZ Tryz.prog 192 [.nilFunc] := ⟨by kernel_rfl⟩
instance : TZV Tryz.prog 192 (.nilFunc) := ⟨by kernel_rfl⟩
instance : TS Tryz.prog 192 := ⟨by kernel_rfl⟩
instance : TZ Tryz.prog 193 [.nilFunc] := ⟨by kernel_rfl⟩
instance : TZV Tryz.prog 193 (.nilFunc) := ⟨by kernel_rfl⟩
instance : TS Tryz.prog 193 := ⟨by kernel_rfl⟩
instance : TZ Tryz.prog 194 [.int .u32 0] := ⟨by kernel_rfl⟩
instance : TZV Tryz.prog 194 (.int .u32 0) := ⟨by kernel_rfl⟩
instance : TS Tryz.prog 194 := ⟨by kernel_rfl⟩
instance : TInt Tryz.prog 194 .u32 := ⟨by kernel_rfl⟩
instance : TZ Tryz.prog 195 [.nilFunc] := ⟨by kernel_rfl⟩
instance : TZV Tryz.prog 195 (.nilFunc) := ⟨by kernel_rfl⟩
instance : TS Tryz.prog 195 := ⟨by kernel_rfl⟩
instance : TZ Tryz.prog 196 [.nilFunc] := ⟨by kernel_rfl⟩
instance : TZV Tryz.prog 196 (.nilFunc) := ⟨by kernel_rfl⟩
instance : TS Tryz.prog 196 := ⟨by kernel_rfl⟩
instance : TZ Tryz.prog 197 [.nilFunc] := ⟨by kernel_rfl⟩
instance : TZV Tryz.prog 197 (.nilFunc) := ⟨by kernel_rfl⟩
instance : TS Tryz.prog 197 := ⟨by kernel_rfl⟩
instance : TZ Tryz.prog 198 [.nilFunc] := ⟨by kernel_rfl⟩
instance : TZV Tryz.prog 198 (.nilFunc) := ⟨by kernel_rfl⟩
instance : TS Tryz.prog 198 := ⟨by kernel_rfl⟩
instance : TZ Tryz.prog 199 [.nilFunc] := ⟨by kernel_rfl⟩
instance : TZV Tryz.prog 199 (.nilFunc) := ⟨by kernel_rfl⟩
instance : TS Tryz.prog 199 := ⟨by kernel_rfl⟩
instance : TZ Tryz.prog 200 [.nilFunc] := ⟨by kernel_rfl⟩
instance : TZV Tryz.prog 200 (.nilFunc) := ⟨by kernel_rfl⟩
instance : TS Tryz.prog 200 := ⟨by kernel_rfl⟩
instance : TZ Tryz.prog 201 [.nilFunc] := ⟨by kernel_rfl⟩
instance : TZV Tryz.prog 201 (.nilFunc) := ⟨by kernel_rfl⟩
instance : TS Tryz.prog 201 := ⟨by kernel_rfl⟩
instance : TZ Tryz.prog 202 [.nilFunc] := ⟨by kernel_rfl⟩
instance : TZV Tryz.prog 202 (.nilFunc) := ⟨by kernel_rfl⟩
instance : TS Tryz.prog 202 := ⟨by kernel_rfl⟩
instance : TZ Tryz.prog 203 [.nilFunc] := ⟨by kernel_rfl⟩
instance : TZV Tryz.prog 203 (.nilFunc) := ⟨by kernel_rfl⟩
instance : TS Tryz.prog 203 := ⟨by kernel_rfl⟩
instance : TZ Tryz.prog 204 [.nilFunc] := ⟨by kernel_rfl⟩
instance : TZV Tryz.prog 204 (.nilFunc) := ⟨by kernel_rfl⟩
instance : TS Tryz.prog 204 := ⟨by kernel_rfl⟩
instance : TZ Tryz.prog 205 [.nilFunc] := ⟨by kernel_rfl⟩
instance : TZV Tryz.prog 205 (.nilFunc) := ⟨by kernel_rfl⟩
instance : TS Tryz.prog 205 := ⟨by kernel_rfl⟩
instance : TZ Tryz.prog 207 [.nilFunc] := ⟨by kernel_rfl⟩
instance : TZV Tryz.prog 207 (.nilFunc) := ⟨by kernel_rfl⟩
instance : TS Tryz.prog 207 := ⟨by kernel_rfl⟩
instance : TZ Tryz.prog 208 [.int .u64 0, .int .u64 0, .int .u64 0, .int .u64 0, .int .u64 0, .int .u64 0, .int .u64 0, .int .u64 0, .int .u64 0, .int .u64 0, .int .u64 0, .int .u64 0, .int .u64 0, .int .u64 0, .int .u64 0, .int .u64 0, .int .u64 0, .int .u64 0, .int .u64 0, .int .u64 0] := ⟨by kernel_rfl⟩
instance : TZV Tryz.prog 208 (.agg #[.int .u64 0, .int .u64 0, .int .u64 0, .int .u64 0, .int .u64 0, .int .u64 0, .int .u64 0, .int .u64 0, .int .u64 0, .int .u64 0, .int .u64 0, .int .u64 0, .int .u64 0, .int .u64 0, .int .u64 0, .int .u64 0, .int .u64 0, .int .u64 0, .int .u64 0, .int .u64 0]) := ⟨by kernel_rfl⟩
instance : TA Tryz.prog 208 20 := ⟨by kernel_rfl⟩
instance : TArr Tryz.prog 208 20 45 1 := ⟨by kernel_rfl, by kernel_rfl⟩
instance : TA Tryz.prog 209 65 := ⟨by kernel_rfl⟩
instance : TArr Tryz.prog 209 65 5 1 := ⟨by kernel_rfl, by kernel_rfl⟩
instance : TZ Tryz.prog 210 [.nilFunc] := ⟨by kernel_rfl⟩
instance : TZV Tryz.prog 210 (.nilFunc) := ⟨by kernel_rfl⟩
instance : TS Tryz.prog 210 := ⟨by kernel_rfl⟩
instance : TZ Tryz.prog 211 [.int .u64 0] := ⟨by kernel_rfl⟩
instance : TZV Tryz.prog 211 (.int .u64 0) := ⟨by kernel_rfl⟩
instance : TS Tryz.prog 211 := ⟨by kernel_rfl⟩
instance : TInt Tryz.prog 211 .u64 := ⟨by kernel_rfl⟩
instance : TZ Tryz.prog 212 [.nilFunc] := ⟨by kernel_rfl⟩
instance : TZV Tryz.prog 212 (.nilFunc) := ⟨by kernel_rfl⟩
instance : TS Tryz.prog 212 := ⟨by kernel_rfl⟩
instance : TZ Tryz.prog 213 [.nilFunc] := ⟨by kernel_rfl⟩
instance : TZV Tryz.prog 213 (.nilFunc) := ⟨by kernel_rfl⟩
instance : TS Tryz.prog 213 := ⟨by kernel_rfl⟩
instance : TZ Tryz.prog 214 [.nilFunc] := ⟨by kernel_rfl⟩
instance : TZV Tryz.prog 214 (.nilFunc) := ⟨by kernel_rfl⟩
instance : TS Tryz.prog 214 := ⟨by kernel_rfl⟩
instance : TZ Tryz.prog 215 [.pointer none] := ⟨by kernel_rfl⟩
instance : TZV Tryz.prog 215 (.pointer none) := ⟨by kernel_rfl⟩
instance : TS Tryz.prog 215 := ⟨by kernel_rfl⟩
instance : TPtr Tryz.prog 215 3 := ⟨by kernel_rfl⟩
instance : TZ Tryz.prog 216 [.nilFunc] := ⟨by kernel_rfl⟩
instance : TZV Tryz.prog 216 (.nilFunc) := ⟨by kernel_rfl⟩
instance : TS Tryz.prog 216 := ⟨by kernel_rfl⟩
instance : TZ Tryz.prog 217 [.nilFunc] := ⟨by kernel_rfl⟩
instance : TZV Tryz.prog 217 (.nilFunc) := ⟨by kernel_rfl⟩
instance : TS Tryz.prog 217 := ⟨by kernel_rfl⟩
instance : TZ Tryz.prog 218 [.pointer none] := ⟨by kernel_rfl⟩
instance : TZV Tryz.prog 218 (.pointer none) := ⟨by kernel_rfl⟩
instance : TS Tryz.prog 218 := ⟨by kernel_rfl⟩
instance : TPtr Tryz.prog 218 211 := ⟨by kernel_rfl⟩
instance : TZ Tryz.prog 220 [.nilFunc] := ⟨by kernel_rfl⟩
instance : TZV Tryz.prog 220 (.nilFunc) := ⟨by kernel_rfl⟩
instance : TS Tryz.prog 220 := ⟨by kernel_rfl⟩
instance : TZ Tryz.prog 222 [.nilFunc] := ⟨by kernel_rfl⟩
instance : TZV Tryz.prog 222 (.nilFunc) := ⟨by kernel_rfl⟩
instance : TS Tryz.prog 222 := ⟨by kernel_rfl⟩
instance : TZ Tryz.prog 223 [.int .u8 0, .int .u8 0, .int .u8 0, .int .u8 0, .int .u8 0, .int .u8 0, .int .u8 0, .int .u8 0, .int .u8 0, .int .u8 0, .int .u8 0, .int .u8 0, .int .u8 0, .int .u8 0, .int .u8 0, .int .u8 0, .int .u8 0, .int .u8 0, .int .u8 0, .int .u8 0, .int .u8 0, .int .u8 0, .int .u8 0, .int .u8 0, .int .u8 0, .int .u8 0, .int .u8 0, .int .u8 0, .int .u8 0, .int .u8 0, .int .u8 0, .int .u8 0] := ⟨by kernel_rfl⟩
instance : TZV Tryz.prog 223 (.agg #[.int .u8 0, .int .u8 0, .int .u8 0, .int .u8 0, .int .u8 0, .int .u8 0, .int .u8 0, .int .u8 0, .int .u8 0, .int .u8 0, .int .u8 0, .int .u8 0, .int .u8 0, .int .u8 0, .int .u8 0, .int .u8 0, .int .u8 0, .int .u8 0, .int .u8 0, .int .u8 0, .int .u8 0, .int .u8 0, .int .u8 0, .int .u8 0, .int .u8 0, .int .u8 0, .int .u8 0, .int .u8 0, .int .u8 0, .int .u8 0, .int .u8 0, .int .u8 0]) := ⟨by kernel_rfl⟩
instance : TA Tryz.prog 223 32 := ⟨by kernel_rfl⟩
instance : TArr Tryz.prog 223 32 5 1 := ⟨by kernel_rfl, by kernel_rfl⟩
instance : TZ Tryz.prog 224 [.int .u8 0, .int .u8 0, .int .u8 0, .int .u8 0, .int .u8 0, .int .u8 0, .int .u8 0, .int .u8 0, .int .u8 0, .int .u8 0, .int .u8 0, .int .u8 0, .int .u8 0, .int .u8 0, .int .u8 0, .int .u8 0, .int .u8 0, .int .u8 0, .int .u8 0, .int .u8 0, .int .u8 0, .int .u8 0, .int .u8 0, .int .u8 0, .int .u8 0, .int .u8 0, .int .u8 0, .int .u8 0, .int .u8 0, .int .u8 0, .int .u8 0, .int .u8 0, .int .u8 0, .int .u8 0, .int .u8 0, .int .u8 0, .int .u8 0, .int .u8 0, .int .u8 0, .int .u8 0, .int .u8 0, .int .u8 0, .int .u8 0, .int .u8 0, .int .u8 0, .int .u8 0, .int .u8 0, .int .u8 0, .int .u8 0, .int .u8 0, .int .u8 0, .int .u8 0, .int .u8 0, .int .u8 0, .int .u8 0, .int .u8 0, .int .u8 0, .int .u8 0, .int .u8 0, .int .u8 0, .int .u8 0, .int .u8 0, .int .u8 0, .int .u8 0] := ⟨by kernel_rfl⟩
instance : TZV Tryz.prog 224 (.agg #[.int .u8 0, .int .u8 0, .int .u8 0, .int .u8 0, .int .u8 0, .int .u8 0, .int .u8 0, .int .u8 0, .int .u8 0, .int .u8 0, .int .u8 0, .int .u8 0, .int .u8 0, .int .u8 0, .int .u8 0, .int .u8 0, .int .u8 0, .int .u8 0, .int .u8 0, .int .u8 0, .int .u8 0, .int .u8 0, .int .u8 0, .int .u8 0, .int .u8 0, .int .u8 0, .int .u8 0, .int .u8 0, .int .u8 0, .int .u8 0, .int .u8 0, .int .u8 0, .int .u8 0, .int .u8 0, .int .u8 0, .int .u8 0, .int .u8 0, .int .u8 0, .int .u8 0, .int .u8 0, .int .u8 0, .int .u8 0, .int .u8 0, .int .u8 0, .int .u8 0, .int .u8 0, .int .u8 0, .int .u8 0, .int .u8 0, .int .u8 0, .int .u8 0, .int .u8 0, .int .u8 0, .int .u8 0, .int .u8 0, .int .u8 0, .int .u8 0, .int .u8 0, .int .u8 0, .int .u8 0, .int .u8 0, .int .u8 0, .int .u8 0, .int .u8 0]) := ⟨by kernel_rfl⟩
instance : TA Tryz.prog 224 64 := ⟨by kernel_rfl⟩
instance : TArr Tryz.prog 224 64 5 1 := ⟨by kernel_rfl, by kernel_rfl⟩
instance : TZ Tryz.prog 225 [.pointer none, .pointer none, .pointer none, .string ⟨#[]⟩] := ⟨by kernel_rfl⟩
instance : TZV Tryz.prog 225 (.agg #[.pointer none, .pointer none, .pointer none, .string ⟨#[]⟩]) := ⟨by kernel_rfl⟩
instance : TA Tryz.prog 225 4 := ⟨by kernel_rfl⟩
instance : TB Tryz.prog 225 [(0, 1), (1, 1), (2, 1), (3, 1)] [.pointer none, .pointer none, .pointer none, .string ⟨#[]⟩] := ⟨by kernel_rfl, by kernel_rfl⟩
instance : TF Tryz.prog 225 0 0 := ⟨by kernel_rfl⟩
instance : TF Tryz.prog 225 1 1 := ⟨by kernel_rfl⟩
instance : TF Tryz.prog 225 2 2 := ⟨by kernel_rfl⟩
instance : TF Tryz.prog 225 3 3 := ⟨by kernel_rfl⟩
instance : TZ Tryz.prog 226 [.pointer none, .pointer none, .pointer none, .string ⟨#[]⟩] := ⟨by kernel_rfl⟩
instance : TZV Tryz.prog 226 (.agg #[.pointer none, .pointer none, .pointer none, .string ⟨#[]⟩]) := ⟨by kernel_rfl⟩
instance : TA Tryz.prog 226 4 := ⟨by kernel_rfl⟩
instance : TB Tryz.prog 226 [(0, 1), (1, 1), (2, 1), (3, 1)] [.pointer none, .pointer none, .pointer none, .string ⟨#[]⟩] := ⟨by kernel_rfl, by kernel_rfl⟩
instance : TF Tryz.prog 226 0 0 := ⟨by kernel_rfl⟩
instance : TF Tryz.prog 226 1 1 := ⟨by kernel_rfl⟩
instance : TF Tryz.prog 226 2 2 := ⟨by kernel_rfl⟩
instance : TF Tryz.prog 226 3 3 := ⟨by kernel_rfl⟩
instance : TZ Tryz.prog 227 [] := ⟨by kernel_rfl⟩
instance : TZV Tryz.prog 227 (.agg #[]) := ⟨by kernel_rfl⟩
instance : TA Tryz.prog 227 0 := ⟨by kernel_rfl⟩
instance : TArr Tryz.prog 227 0 16 1 := ⟨by kernel_rfl, by kernel_rfl⟩
instance : TZ Tryz.prog 228 [] := ⟨by kernel_rfl⟩
instance : TZV Tryz.prog 228 (.agg #[]) := ⟨by kernel_rfl⟩
instance : TA Tryz.prog 228 0 := ⟨by kernel_rfl⟩
instance : TZ Tryz.prog 229 [] := ⟨by kernel_rfl⟩
instance : TZV Tryz.prog 229 (.agg #[]) := ⟨by kernel_rfl⟩
instance : TA Tryz.prog 229 0 := ⟨by kernel_rfl⟩
instance : TZ Tryz.prog 230 [.nilFunc] := ⟨by kernel_rfl⟩
instance : TZV Tryz.prog 230 (.nilFunc) := ⟨by kernel_rfl⟩
instance : TS Tryz.prog 230 := ⟨by kernel_rfl⟩
instance : TZ Tryz.prog 231 [.int .u8 0] := ⟨by kernel_rfl⟩
instance : TZV Tryz.prog 231 (.int .u8 0) := ⟨by kernel_rfl⟩
instance : TS Tryz.prog 231 := ⟨by kernel_rfl⟩
instance : TInt Tryz.prog 231 .u8 := ⟨by kernel_rfl⟩
instance : TZ Tryz.prog 232 [.int .u8 0] := ⟨by kernel_rfl⟩
instance : TZV Tryz.prog 232 (.int .u8 0) := ⟨by kernel_rfl⟩
instance : TS Tryz.prog 232 := ⟨by kernel_rfl⟩
instance : TInt Tryz.prog 232 .u8 := ⟨by kernel_rfl⟩
instance : TZ Tryz.prog 233 [.nilFunc] := ⟨by kernel_rfl⟩
instance : TZV Tryz.prog 233 (.nilFunc) := ⟨by kernel_rfl⟩
instance : TS Tryz.prog 233 := ⟨by kernel_rfl⟩
instance : TZ Tryz.prog 234 [.int .i32 0] := ⟨by kernel_rfl⟩
instance : TZV Tryz.prog 234 (.int .i32 0) := ⟨by kernel_rfl⟩
instance : TS Tryz.prog 234 := ⟨by kernel_rfl⟩
instance : TInt Tryz.prog 234 .i32 := ⟨by kernel_rfl⟩
instance : TZ Tryz.prog 235 [.int .i32 0] := ⟨by kernel_rfl⟩
instance : TZV Tryz.prog 235 (.int .i32 0) := ⟨by kernel_rfl⟩
instance : TS Tryz.prog 235 := ⟨by kernel_rfl⟩
instance : TInt Tryz.prog 235 .i32 := ⟨by kernel_rfl⟩
instance : TZ Tryz.prog 236 [.int .u64 0, .int .u64 0, .int .u32 0, .int .u8 0, .int .u8 0, .int .u8 0, .int .u8 0, .nilFunc, .pointer none, .int .i32 0, .int .i32 0] := ⟨by kernel_rfl⟩
instance : TZV Tryz.prog 236 (.agg #[.int .u64 0, .int .u64 0, .int .u32 0, .int .u8 0, .int .u8 0, .int .u8 0, .int .u8 0, .nilFunc, .pointer none, .int .i32 0, .int .i32 0]) := ⟨by kernel_rfl⟩
instance : TA Tryz.prog 236 11 := ⟨by kernel_rfl⟩
instance : TB Tryz.prog 236 [(0, 1), (1, 1), (2, 1), (3, 1), (4, 1), (5, 1), (6, 1), (7, 1), (8, 1), (9, 1), (10, 1)] [.int .u64 0, .int .u64 0, .int .u32 0, .int .u8 0, .int .u8 0, .int .u8 0, .int .u8 0, .nilFunc, .pointer none, .int .i32 0, .int .i32 0] := ⟨by kernel_rfl, by kernel_rfl⟩
instance : TF Tryz.prog 236 0 0 := ⟨by kernel_rfl⟩
instance : TF Tryz.prog 236 1 1 := ⟨by kernel_rfl⟩
instance : TF Tryz.prog 236 2 2 := ⟨by kernel_rfl⟩
instance : TF Tryz.prog 236 3 3 := ⟨by kernel_rfl⟩
instance : TF Tryz.prog 236 4 4 := ⟨by kernel_rfl⟩
instance : TF Tryz.prog 236 5 5 := ⟨by kernel_rfl⟩
instance : TF Tryz.prog 236 6 6 := ⟨by kernel_rfl⟩
instance : TF Tryz.prog 236 7 7 := ⟨by kernel_rfl⟩
instance : TF Tryz.prog 236 8 8 := ⟨by kernel_rfl⟩
instance : TF Tryz.prog 236 9 9 := ⟨by kernel_rfl⟩
instance : TF Tryz.prog 236 10 10 := ⟨by kernel_rfl⟩
instance : TZ Tryz.prog 237 [.int .u64 0, .int .u64 0, .int .u32 0, .int .u8 0, .int .u8 0, .int .u8 0, .int .u8 0, .nilFunc, .pointer none, .int .i32 0, .int .i32 0] := ⟨by kernel_rfl⟩
instance : TZV Tryz.prog 237 (.agg #[.int .u64 0, .int .u64 0, .int .u32 0, .int .u8 0, .int .u8 0, .int .u8 0, .int .u8 0, .nilFunc, .pointer none, .int .i32 0, .int .i32 0]) := ⟨by kernel_rfl⟩
instance : TA Tryz.prog 237 11 := ⟨by kernel_rfl⟩
instance : TB Tryz.prog 237 [(0, 1), (1, 1), (2, 1), (3, 1), (4, 1), (5, 1), (6, 1), (7, 1), (8, 1), (9, 1), (10, 1)] [.int .u64 0, .int .u64 0, .int .u32 0, .int .u8 0, .int .u8 0, .int .u8 0, .int .u8 0, .nilFunc, .pointer none, .int .i32 0, .int .i32 0] := ⟨by kernel_rfl, by kernel_rfl⟩
instance : TF Tryz.prog 237 0 0 := ⟨by kernel_rfl⟩
instance : TF Tryz.prog 237 1 1 := ⟨by kernel_rfl⟩
instance : TF Tryz.prog 237 2 2 := ⟨by kernel_rfl⟩
instance : TF Tryz.prog 237 3 3 := ⟨by kernel_rfl⟩
instance : TF Tryz.prog 237 4 4 := ⟨by kernel_rfl⟩
instance : TF Tryz.prog 237 5 5 := ⟨by kernel_rfl⟩
instance : TF Tryz.prog 237 6 6 := ⟨by kernel_rfl⟩
instance : TF Tryz.prog 237 7 7 := ⟨by kernel_rfl⟩
instance : TF Tryz.prog 237 8 8 := ⟨by kernel_rfl⟩
instance : TF Tryz.prog 237 9 9 := ⟨by kernel_rfl⟩
instance : TF Tryz.prog 237 10 10 := ⟨by kernel_rfl⟩
instance : FnOk Tryz.prog 3 := ⟨by kernel_rfl⟩
instance : FnOk Tryz.prog 4 := ⟨by kernel_rfl⟩
instance : FnOk Tryz.prog 5 := ⟨by kernel_rfl⟩
instance : FnOk Tryz.prog 6 := ⟨by kernel_rfl⟩
instance : FnOk Tryz.prog 7 := ⟨by kernel_rfl⟩
instance : FnOk Tryz.prog 8 := ⟨by kernel_rfl⟩
instance : FnOk Tryz.prog 9 := ⟨by kernel_rfl⟩
instance : FnOk Tryz.prog 10 := ⟨by kernel_rfl⟩
instance : FnOk Tryz.prog 11 := ⟨by kernel_rfl⟩
instance : FnOk Tryz.prog 12 := ⟨by kernel_rfl⟩
instance : FnOk Tryz.prog 13 := ⟨by kernel_rfl⟩
instance : FnOk Tryz.prog 14 := ⟨by kernel_rfl⟩
instance : FnOk Tryz.prog 15 := ⟨by kernel_rfl⟩
instance : FnOk Tryz.prog 16 := ⟨by kernel_rfl⟩
instance : FnOk Tryz.prog 17 := ⟨by kernel_rfl⟩
instance : FnOk Tryz.prog 18 := ⟨by kernel_rfl⟩
instance : FnOk Tryz.prog 19 := ⟨by kernel_rfl⟩
instance : FnOk Tryz.prog 20 := ⟨by kernel_rfl⟩
instance : FnOk Tryz.prog 21 := ⟨by kernel_rfl⟩
instance : FnOk Tryz.prog 22 := ⟨by kernel_rfl⟩
instance : FnOk Tryz.prog 23 := ⟨by kernel_rfl⟩
instance : FnOk Tryz.prog 24 := ⟨by kernel_rfl⟩
instance : FnOk Tryz.prog 25 := ⟨by kernel_rfl⟩
instance : FnOk Tryz.prog 26 := ⟨by kernel_rfl⟩
instance : FnOk Tryz.prog 27 := ⟨by kernel_rfl⟩
instance : FnOk Tryz.prog 28 := ⟨by kernel_rfl⟩
instance : FnOk Tryz.prog 29 := ⟨by kernel_rfl⟩
instance : FnOk Tryz.prog 30 := ⟨by kernel_rfl⟩
instance : FnOk Tryz.prog 31 := ⟨by kernel_rfl⟩
instance : FnOk Tryz.prog 32 := ⟨by kernel_rfl⟩
instance : FnOk Tryz.prog 33 := ⟨by kernel_rfl⟩
instance : FnOk Tryz.prog 34 := ⟨by kernel_rfl⟩
instance : FnOk Tryz.prog 35 := ⟨by kernel_rfl⟩
instance : FnOk Tryz.prog 36 := ⟨by kernel_rfl⟩
instance : FnOk Tryz.prog 37 := ⟨by kernel_rfl⟩
instance : FnOk Tryz.prog 38 := ⟨by kernel_rfl⟩
instance : FnOk Tryz.prog 39 := ⟨by kernel_rfl⟩
instance : FnOk Tryz.prog 40 := ⟨by kernel_rfl⟩
instance : FnOk Tryz.prog 41 := ⟨by kernel_rfl⟩
instance : FnOk Tryz.prog 42 := ⟨by kernel_rfl⟩
instance : FnOk Tryz.prog 43 := ⟨by kernel_rfl⟩
instance : FnOk Tryz.prog 44 := ⟨by kernel_rfl⟩
instance : FnOk Tryz.prog 45 := ⟨by kernel_rfl⟩
instance : FnOk Tryz.prog 46 := ⟨by kernel_rfl⟩
instance : FnOk Tryz.prog 47 := ⟨by kernel_rfl⟩
instance : FnOk Tryz.prog 48 := ⟨by kernel_rfl⟩
instance : FnOk Tryz.prog 49 := ⟨by kernel_rfl⟩
instance : FnOk Tryz.prog 50 := ⟨by kernel_rfl⟩
instance : FnOk Tryz.prog 51 := ⟨by kernel_rfl⟩
instance : FnOk Tryz.prog 52 := ⟨by kernel_rfl⟩
instance : FnOk Tryz.prog 53 := ⟨by kernel_rfl⟩
instance : FnOk Tryz.prog 54 := ⟨by kernel_rfl⟩
instance : FnOk Tryz.prog 55 := ⟨by kernel_rfl⟩
instance : FnOk Tryz.prog 56 := ⟨by kernel_rfl⟩
instance : FnOk Tryz.prog 57 := ⟨by kernel_rfl⟩
instance : FnOk Tryz.prog 58 := ⟨by kernel_rfl⟩
instance : FnOk Tryz.prog 59 := ⟨by kernel_rfl⟩
instance : FnOk Tryz.prog 60 := ⟨by kernel_rfl⟩
instance : FnOk Tryz.prog 61 := ⟨by kernel_rfl⟩
instance : FnOk Tryz.prog 62 := ⟨by kernel_rfl⟩
instance : FnOk Tryz.prog 63 := ⟨by kernel_rfl⟩
instance : FnOk Tryz.prog 64 := ⟨by kernel_rfl⟩
instance : FnOk Tryz.prog 65 := ⟨by kernel_rfl⟩
instance : FnOk Tryz.prog 66 := ⟨by kernel_rfl⟩
instance : FnOk Tryz.prog 67 := ⟨by kernel_rfl⟩
instance : FnOk Tryz.prog 68 := ⟨by kernel_rfl⟩
instance : FnOk Tryz.prog 69 := ⟨by kernel_rfl⟩
instance : FnOk Tryz.prog 70 := ⟨by kernel_rfl⟩
instance : FnOk Tryz.prog 71 := ⟨by kernel_rfl⟩
instance : FnOk Tryz.prog 72 := ⟨by kernel_rfl⟩
instance : FnOk Tryz.prog 73 := ⟨by kernel_rfl⟩
instance : FnOk Tryz.prog 74 := ⟨by kernel_rfl⟩
instance : FnOk Tryz.prog 75 := ⟨by kernel_rfl⟩
instance : FnOk Tryz.prog 76 := ⟨by kernel_rfl⟩
instance : FnOk Tryz.prog 77 := ⟨by kernel_rfl⟩
instance : FnOk Tryz.prog 78 := ⟨by kernel_rfl⟩
instance : FnOk Tryz.prog 79 := ⟨by kernel_rfl⟩
instance : FnOk Tryz.prog 80 := ⟨by kernel_rfl⟩
instance : FnOk Tryz.prog 81 := ⟨by kernel_rfl⟩
instance : FnOk Tryz.prog 82 := ⟨by kernel_rfl⟩
instance : FnOk Tryz.prog 83 := ⟨by kernel_rfl⟩
instance : FnOk Tryz.prog 84 := ⟨by kernel_rfl⟩
instance : FnOk Tryz.prog 85 := ⟨by kernel_rfl⟩
instance : FnOk Tryz.prog 86 := ⟨by kernel_rfl⟩
instance : FnOk Tryz.prog 87 := ⟨by kernel_rfl⟩
instance : FnOk Tryz.prog 88 := ⟨by kernel_rfl⟩
instance : FnOk Tryz.prog 89 := ⟨by kernel_rfl⟩
instance : FnOk Tryz.prog 90 := ⟨by kernel_rfl⟩
instance : FnOk Tryz.prog 91 := ⟨by kernel_rfl⟩
instance : FnOk Tryz.prog 92 := ⟨by kernel_rfl⟩
instance : FnOk Tryz.prog 93 := ⟨by kernel_rfl⟩
instance : FnOk Tryz.prog 94 := ⟨by kernel_rfl⟩
instance : FnOk Tryz.prog 95 := ⟨by kernel_rfl⟩
instance : FnOk Tryz.prog 96 := ⟨by kernel_rfl⟩
instance : FnOk Tryz.prog 97 := ⟨by kernel_rfl⟩
instance : FnOk Tryz.prog 98 := ⟨by kernel_rfl⟩
instance : FnOk Tryz.prog 99 := ⟨by kernel_rfl⟩
instance : FnOk Tryz.prog 100 := ⟨by kernel_rfl⟩
instance : FnOk Tryz.prog 101 := ⟨by kernel_rfl⟩
instance : FnOk Tryz.prog 102 := ⟨by kernel_rfl⟩
instance : FnOk Tryz.prog 103 := ⟨by kernel_rfl⟩
instance : FnOk Tryz.prog 104 := ⟨by kernel_rfl⟩
instance : FnOk Tryz.prog 105 := ⟨by kernel_rfl⟩
instance : FnOk Tryz.prog 106 := ⟨by kernel_rfl⟩
instance : FnOk Tryz.prog 107 := ⟨by kernel_rfl⟩
instance : FnOk Tryz.prog 108 := ⟨by kernel_rfl⟩
instance : FnOk Tryz.prog 109 := ⟨by kernel_rfl⟩
instance : FnOk Tryz.prog 110 := ⟨by kernel_rfl⟩
instance : FnOk Tryz.prog 111 := ⟨by kernel_rfl⟩
instance : FnOk Tryz.prog 112 := ⟨by kernel_rfl⟩
instance : FnOk Tryz.prog 113 := ⟨by kernel_rfl⟩
instance : FnOk Tryz.prog 114 := ⟨by kernel_rfl⟩
instance : FnOk Tryz.prog 115 := ⟨by kernel_rfl⟩
instance : FnOk Tryz.prog 116 := ⟨by kernel_rfl⟩
instance : FnOk Tryz.prog 117 := ⟨by kernel_rfl⟩
instance : FnOk Tryz.prog 118 := ⟨by kernel_rfl⟩
instance : FnOk Tryz.prog 119 := ⟨by kernel_rfl⟩
instance : FnOk Tryz.prog 120 := ⟨by kernel_rfl⟩
instance : FnOk Tryz.prog 121 := ⟨by kernel_rfl⟩
instance : FnOk Tryz.prog 122 := ⟨by kernel_rfl⟩
instance : FnOk Tryz.prog 123 := ⟨by kernel_rfl⟩
instance : FnOk Tryz.prog 124 := ⟨by kernel_rfl⟩
instance : FnOk Tryz.prog 125 := ⟨by kernel_rfl⟩
instance : FnOk Tryz.prog 126 := ⟨by kernel_rfl⟩
instance : FnOk Tryz.prog 127 := ⟨by kernel_rfl⟩
instance : FnOk Tryz.prog 128 := ⟨by kernel_rfl⟩
instance : FnOk Tryz.prog 129 := ⟨by kernel_rfl⟩
instance : FnOk Tryz.prog 130 := ⟨by kernel_rfl⟩
instance : FnOk Tryz.prog 131 := ⟨by kernel_rfl⟩
instance : FnOk Tryz.prog 132 := ⟨by kernel_rfl⟩
instance : FnOk Tryz.prog 133 := ⟨by kernel_rfl⟩
instance : FnOk Tryz.prog 134 := ⟨by kernel_rfl⟩
instance : FnOk Tryz.prog 135 := ⟨by kernel_rfl⟩
instance : FnOk Tryz.prog 136 := ⟨by kernel_rfl⟩
instance : FnOk Tryz.prog 137 := ⟨by kernel_rfl⟩
instance : FnOk Tryz.prog 138 := ⟨by kernel_rfl⟩
instance : FnOk Tryz.prog 139 := ⟨by kernel_rfl⟩
instance : FnOk Tryz.prog 140 := ⟨by kernel_rfl⟩
instance : FnOk Tryz.prog 141 := ⟨by kernel_rfl⟩
instance : FnOk Tryz.prog 142 := ⟨by kernel_rfl⟩
instance : FnOk Tryz.prog 143 := ⟨by kernel_rfl⟩
instance : FnOk Tryz.prog 144 := ⟨by kernel_rfl⟩
instance : FnOk Tryz.prog 145 := ⟨by kernel_rfl⟩
instance : FnOk Tryz.prog 146 := ⟨by kernel_rfl⟩
instance : FnOk Tryz.prog 147 := ⟨by kernel_rfl⟩
instance : FnOk Tryz.prog 148 := ⟨by kernel_rfl⟩
instance : FnOk Tryz.prog 149 := ⟨by kernel_rfl⟩
instance : FnOk Tryz.prog 151 := ⟨by kernel_rfl⟩
instance : FnOk Tryz.prog 152 := ⟨by kernel_rfl⟩
instance : FnOk Tryz.prog 153 := ⟨by kernel_rfl⟩
instance : FnOk Tryz.prog 154 := ⟨by kernel_rfl⟩
instance : FnOk Tryz.prog 155 := ⟨by kernel_rfl⟩
instance : FnOk Tryz.prog 157 := ⟨by kernel_rfl⟩
instance : FnOk Tryz.prog 158 := ⟨by kernel_rfl⟩
instance : FnOk Tryz.prog 159 := ⟨by kernel_rfl⟩
instance : FnOk Tryz.prog 160 := ⟨by kernel_rfl⟩
instance : FnOk Tryz.prog 161 := ⟨by kernel_rfl⟩
instance : FnOk Tryz.prog 162 := ⟨by kernel_rfl⟩
instance : FnOk Tryz.prog 163 := ⟨by kernel_rfl⟩
instance : FnOk Tryz.prog 164 := ⟨by kernel_rfl⟩
instance : FnOk Tryz.prog 165 := ⟨by kernel_rfl⟩
instance : FnOk Tryz.prog 166 := ⟨by kernel_rfl⟩
instance : FnOk Tryz.prog 167 := ⟨by kernel_rfl⟩
instance : FnOk Tryz.prog 168 := ⟨by kernel_rfl⟩
instance : FnOk Tryz.prog 169 := ⟨by kernel_rfl⟩
instance : FnOk Tryz.prog 170 := ⟨by kernel_rfl⟩
instance : FnOk Tryz.prog 171 := ⟨by kernel_rfl⟩
instance : FnOk Tryz.prog 172 := ⟨by kernel_rfl⟩
instance : FnOk Tryz.prog 173 := ⟨by kernel_rfl⟩
instance : FnOk Tryz.prog 174 := ⟨by kernel_rfl⟩
instance : FnOk Tryz.prog 175 := ⟨by kernel_rfl⟩
instance : FnOk Tryz.prog 176 := ⟨by kernel_rfl⟩
instance : FnOk Tryz.prog 177 := ⟨by kernel_rfl⟩
instance : FnOk Tryz.prog 178 := ⟨by kernel_rfl⟩
instance : FnOk Tryz.prog 179 := ⟨by kernel_rfl⟩
instance : FnOk Tryz.prog 180 := ⟨by kernel_rfl⟩
instance : FnOk Tryz.prog 181 := ⟨by kernel_rfl⟩
instance : FnOk Tryz.prog 182 := ⟨by kernel_rfl⟩
instance : FnOk Tryz.prog 183 := ⟨by kernel_rfl⟩
instance : FnOk Tryz.prog 184 := ⟨by kernel_rfl⟩
instance : FnOk Tryz.prog 185 := ⟨by kernel_rfl⟩
instance : FnOk Tryz.prog 186 := ⟨by kernel_rfl⟩
instance : FnOk Tryz.prog 187 := ⟨by kernel_rfl⟩
instance : FnOk Tryz.prog 188 := ⟨by kernel_rfl⟩
instance : FnOk Tryz.prog 189 := ⟨by kernel_rfl⟩
instance : FnOk Tryz.prog 190 := ⟨by kernel_rfl⟩
instance : FnOk Tryz.prog 191 := ⟨by kernel_rfl⟩
instance : FnOk Tryz.prog 192 := ⟨by kernel_rfl⟩
instance : FnOk Tryz.prog 193 := ⟨by kernel_rfl⟩
instance : FnOk Tryz.prog 194 := ⟨by kernel_rfl⟩
instance : FnOk Tryz.prog 195 := ⟨by kernel_rfl⟩
instance : FnOk Tryz.prog 197 := ⟨by kernel_rfl⟩
instance : FnOk Tryz.prog 198 := ⟨by kernel_rfl⟩
instance : FnOk Tryz.prog 199 := ⟨by kernel_rfl⟩
instance : FnOk Tryz.prog 200 := ⟨by kernel_rfl⟩
instance : FnOk Tryz.prog 201 := ⟨by kernel_rfl⟩
instance : FnOk Tryz.prog 202 := ⟨by kernel_rfl⟩
instance : FnOk Tryz.prog 203 := ⟨by kernel_rfl⟩
instance : FnOk Tryz.prog 204 := ⟨by kernel_rfl⟩
instance : FnOk Tryz.prog 205 := ⟨by kernel_rfl⟩
instance : FnOk Tryz.prog 206 := ⟨by kernel_rfl⟩
instance : FnOk Tryz.prog 209 := ⟨by kernel_rfl⟩
instance : FnOk Tryz.prog 210 := ⟨by kernel_rfl⟩
instance : FnOk Tryz.prog 211 := ⟨by kernel_rfl⟩
instance : FnOk Tryz.prog 212 := ⟨by kernel_rfl⟩
instance : FnOk Tryz.prog 213 := ⟨by kernel_rfl⟩
instance : FnOk Tryz.prog 214 := ⟨by kernel_rfl⟩
instance : FnOk Tryz.prog 215 := ⟨by kernel_rfl⟩
instance : FnOk Tryz.prog 216 := ⟨by kernel_rfl⟩
instance : FnOk Tryz.prog 217 := ⟨by kernel_rfl⟩
instance : FnOk Tryz.prog 218 := ⟨by kernel_rfl⟩
instance : FnOk Tryz.prog 219 := ⟨by kernel_rfl⟩
instance : FnOk Tryz.prog 220 := ⟨by kernel_rfl⟩
instance : FnOk Tryz.prog 243 := ⟨by kernel_rfl⟩
end Go.Proofs.YtimbobmmijgkiaaGreatDoor
end
/- The library's sort lies in this program: a row a fact (written by a program of mine; the kernel checks each). -/
section
open Go Mk
namespace Go.Proofs.YtimbobmmijgkiaaGreatDoor
def lay_itoa_ren : Go.Shelf.Ren := ⟨fun | 171 => 35 | 243 => 111 | 246 => 157 | 283 => 158 | 284 => 159 | 285 => 160 | 286 => 161 | 129 => 177 | 317 => 192 | 318 => 193 | 319 => 194 | 320 => 195 | 337 => 212 | 338 => 213 | n => n, fun | 3 => 3 | 9 => 9 | 2 => 2 | 4 => 4 | 171 => 174 | 0 => 0 | 53 => 45 | 37 => 65 | 5 => 5 | 173 => 177 | 212 => 208 | 51 => 194 | 20 => 20 | 213 => 209 | 46 => 97 | 232 => 223 | 233 => 224 | n => n, fun | 17 => 1 | 18 => 2 | 19 => 3 | n => n⟩
theorem lay_itoa : Go.Proofs.LaysM.n171 Tryz.prog lay_itoa_ren := {
  mixed := by kernel_rfl
  f129 := Tryz.func177.trans (congrArg some (by kernel_rfl))
  f171 := Tryz.func35.trans (congrArg some (by kernel_rfl))
  f243 := Tryz.func111.trans (congrArg some (by kernel_rfl))
  f246 := Tryz.func157.trans (congrArg some (by kernel_rfl))
  f283 := Tryz.func158.trans (congrArg some (by kernel_rfl))
  f284 := Tryz.func159.trans (congrArg some (by kernel_rfl))
  f285 := Tryz.func160.trans (congrArg some (by kernel_rfl))
  f286 := Tryz.func161.trans (congrArg some (by kernel_rfl))
  f317 := Tryz.func192.trans (congrArg some (by kernel_rfl))
  f318 := Tryz.func193.trans (congrArg some (by kernel_rfl))
  f319 := Tryz.func194.trans (congrArg some (by kernel_rfl))
  f320 := Tryz.func195.trans (congrArg some (by kernel_rfl))
  f337 := Tryz.func212.trans (congrArg some (by kernel_rfl))
  f338 := Tryz.func213.trans (congrArg some (by kernel_rfl))
  t0 := Tryz.underlying0
  a0 := Tryz.isAgg0
  z0 := Tryz.sizeOf0
  v0 := Tryz.zeroValue0
  t2 := Tryz.underlying2
  a2 := Tryz.isAgg2
  z2 := Tryz.sizeOf2
  v2 := Tryz.zeroValue2
  t3 := Tryz.underlying3
  a3 := Tryz.isAgg3
  z3 := Tryz.sizeOf3
  v3 := Tryz.zeroValue3
  t4 := Tryz.underlying4
  a4 := Tryz.isAgg4
  z4 := Tryz.sizeOf4
  v4 := Tryz.zeroValue4
  t5 := Tryz.underlying5
  a5 := Tryz.isAgg5
  z5 := Tryz.sizeOf5
  v5 := Tryz.zeroValue5
  t9 := Tryz.underlying9
  a9 := Tryz.isAgg9
  z9 := Tryz.sizeOf9
  v9 := Tryz.zeroValue9
  t20 := Tryz.underlying20
  a20 := Tryz.isAgg20
  z20 := Tryz.sizeOf20
  v20 := Tryz.zeroValue20
  t37 := Tryz.underlying65
  a37 := Tryz.isAgg65
  z37 := Tryz.sizeOf65
  v37 := Tryz.zeroValue65
  t46 := Tryz.underlying97
  a46 := Tryz.isAgg97
  z46 := Tryz.sizeOf97
  v46 := Tryz.zeroValue97
  t51 := Tryz.underlying194
  a51 := Tryz.isAgg194
  z51 := Tryz.sizeOf194
  v51 := Tryz.zeroValue194
  t53 := Tryz.underlying45
  a53 := Tryz.isAgg45
  z53 := Tryz.sizeOf45
  v53 := Tryz.zeroValue45
  t171 := Tryz.underlying174
  a171 := Tryz.isAgg174
  z171 := Tryz.sizeOf174
  v171 := Tryz.zeroValue174
  t173 := Tryz.underlying177
  a173 := Tryz.isAgg177
  z173 := Tryz.sizeOf177
  v173 := Tryz.zeroValue177
  t212 := Tryz.underlying208
  a212 := Tryz.isAgg208
  z212 := Tryz.sizeOf208
  v212 := Tryz.zeroValue208
  t213 := Tryz.underlying209
  a213 := Tryz.isAgg209
  z213 := Tryz.sizeOf209
  t232 := Tryz.underlying223
  a232 := Tryz.isAgg223
  z232 := Tryz.sizeOf223
  v232 := Tryz.zeroValue223
  t233 := Tryz.underlying224
  a233 := Tryz.isAgg224
  z233 := Tryz.sizeOf224
  v233 := Tryz.zeroValue224
  g17 := by kernel_rfl
  g18 := by kernel_rfl
  g19 := by kernel_rfl
  i0 := by kernel_rfl
  i2 := by kernel_rfl
  i3 := by kernel_rfl
  i4 := by kernel_rfl
  i5 := by kernel_rfl
  i9 := by kernel_rfl
  i20 := by kernel_rfl
  i37 := by kernel_rfl
  i46 := by kernel_rfl
  i51 := by kernel_rfl
  i53 := by kernel_rfl
  i171 := by kernel_rfl
  i173 := by kernel_rfl
  i212 := by kernel_rfl
  i232 := by kernel_rfl
  i233 := by kernel_rfl
  m17 := by kernel_rfl
  m18 := by kernel_rfl
  m19 := by kernel_rfl }
def lay_join_ren : Go.Shelf.Ren := ⟨fun | 156 => 38 | 165 => 113 | 166 => 30 | 169 => 31 | 240 => 108 | 241 => 162 | 276 => 156 | 277 => 196 | n => n, fun | 31 => 85 | 9 => 9 | 3 => 3 | 4 => 4 | 0 => 0 | 20 => 20 | 72 => 67 | 76 => 73 | 70 => 64 | 37 => 65 | 75 => 71 | 127 => 136 | 164 => 171 | 5 => 5 | 80 => 75 | n => n, fun | n => n⟩
theorem lay_join : Go.Proofs.Lays.n156 Tryz.prog lay_join_ren := {
  mixed := by kernel_rfl
  f156 := Tryz.func38.trans (congrArg some (by kernel_rfl))
  f165 := Tryz.func113.trans (congrArg some (by kernel_rfl))
  f166 := Tryz.func30.trans (congrArg some (by kernel_rfl))
  f169 := Tryz.func31.trans (congrArg some (by kernel_rfl))
  f240 := Tryz.func108.trans (congrArg some (by kernel_rfl))
  f241 := Tryz.func162.trans (congrArg some (by kernel_rfl))
  f276 := Tryz.func156.trans (congrArg some (by kernel_rfl))
  f277 := Tryz.func196.trans (congrArg some (by kernel_rfl))
  t0 := Tryz.underlying0
  a0 := Tryz.isAgg0
  z0 := Tryz.sizeOf0
  v0 := Tryz.zeroValue0
  t3 := Tryz.underlying3
  a3 := Tryz.isAgg3
  z3 := Tryz.sizeOf3
  v3 := Tryz.zeroValue3
  t4 := Tryz.underlying4
  a4 := Tryz.isAgg4
  z4 := Tryz.sizeOf4
  v4 := Tryz.zeroValue4
  t9 := Tryz.underlying9
  a9 := Tryz.isAgg9
  z9 := Tryz.sizeOf9
  v9 := Tryz.zeroValue9
  t20 := Tryz.underlying20
  a20 := Tryz.isAgg20
  z20 := Tryz.sizeOf20
  v20 := Tryz.zeroValue20
  t31 := Tryz.underlying85
  a31 := Tryz.isAgg85
  z31 := Tryz.sizeOf85
  v31 := Tryz.zeroValue85
  t37 := Tryz.underlying65
  a37 := Tryz.isAgg65
  z37 := Tryz.sizeOf65
  v37 := Tryz.zeroValue65
  t70 := Tryz.underlying64
  a70 := Tryz.isAgg64
  z70 := Tryz.sizeOf64
  v70 := Tryz.zeroValue64
  t72 := Tryz.underlying67
  a72 := Tryz.isAgg67
  z72 := Tryz.sizeOf67
  v72 := Tryz.zeroValue67
  t75 := Tryz.underlying71
  a75 := Tryz.isAgg71
  z75 := Tryz.sizeOf71
  v75 := Tryz.zeroValue71
  t76 := Tryz.underlying73
  a76 := Tryz.isAgg73
  z76 := Tryz.sizeOf73
  v76 := Tryz.zeroValue73
  t127 := Tryz.underlying136
  a127 := Tryz.isAgg136
  z127 := Tryz.sizeOf136
  v127 := Tryz.zeroValue136
  t164 := Tryz.underlying171
  a164 := Tryz.isAgg171
  z164 := Tryz.sizeOf171
  v164 := Tryz.zeroValue171 }
end Go.Proofs.YtimbobmmijgkiaaGreatDoor
end
/- A field of an element of an owned slice is written. -/
section
open Go
namespace Mk
section
variable {P : Program} {n : Nat} {opa : Array Oper} {Γ : Gho} {S : List Res} {QQ : Exit → Fr → World → Prop} {K : Value → World → Prop} {ρ : Fr} {w : World} {rest : List Oper} {sz : Nat} {rows : List (List Value)}
variable {d : Option Tmp} {T U ty : TypeId} {pos : String} {es : Array Edge} {g : Option (Nat × Bool)} {x y z : Operand} {v : Value}
theorem field_set {L r : List Value} {p f m sz N : Nat} (hp : p + sz ≤ N) (hN : N ≤ L.length) (hr : r.length = m) (hfm : f + m ≤ sz) :
    (L.take (p + f) ++ r ++ L.drop (p + f + r.length)).take N = (L.take N).take p ++ (((L.drop p).take sz).take f ++ r ++ ((L.drop p).take sz).drop (f + m)) ++ (L.take N).drop (p + sz) := by
  refine List.ext_getElem? fun i => ?_
  simp only [List.getElem?_append, List.getElem?_take, List.getElem?_drop, List.length_append, List.length_take, List.length_drop, hr]
  repeat' split
  all_goals first | omega | rfl | (congr 1; omega) | skip
/-- Some cells of an element of an owned slice are written. -/
theorem s_storeEf {E k f m i n c : Nat} {a : Option Addr} {v : Value} {r row : List Value} (hn : (P.info? T).map (·.size) = some m) (hw : Wd Γ S w) (hx : ev ρ x = .pointer (some ⟨aB a, aO a + k * sz + f, none⟩)) (hy : ev ρ y = v) (hv : v.cells.toList = r) (hl : r.length = m)
    (h1 : r.all (·.oneCell') = true) (hi : S[i]? = some (.own (.slice a n c) E sz rows)) (hkl : k < n) (hrow : rows[k]? = some row) (hfm : f + m ≤ sz) (hk : ∀ w', Wd Γ (S.set i (.own (.slice a n c) E sz (rows.set k (row.take f ++ r ++ row.drop (f + m))))) w' → K undef w') : Step P ⟨d, .store T x y, ty, pos, es, g⟩ ρ w K := by
  obtain ⟨bs0, hr0⟩ := hw.own_holds hi
  unfold Res.own at hr0
  obtain ⟨q0, a', n', c', e1, e2, e3, e4, e5⟩ := hr0
  cases e1
  rcases e5 with ⟨hc, _⟩ | ⟨b, cur, g1, g2, g3, g4, g5⟩
  · omega
  · subst g1
    have hrl : row.length = sz := q0 row (List.mem_of_getElem? hrow)
    have hnew : (row.take f ++ r ++ row.drop (f + m)).length = sz := by simp [hl, hrl]; omega
    have hx' : ev ρ x = .pointer (some ⟨b, k * sz + f, none⟩) := by rw [hx]; simp [aB, aO]
    have hks : k * sz + sz ≤ cur.size := by
      rw [g4, show k * sz + sz = (k + 1) * sz from by rw [Nat.add_mul]; omega]; exact Nat.mul_le_mul_right _ (by omega)
    have hfit : k * sz + f + 0 + r.length ≤ cur.size := by rw [hl]; omega
    have hst := run_storeCells_at P b (k * sz + f) E r 0 cur w g3 hfit (fun u hu => (List.all_eq_true.1 h1) u hu)
    simp only [Nat.add_zero] at hst
    have hsz : v.cells.size = m := by rw [← hl, ← hv]; simp
    have hr : (execOp (ev ρ) ⟨d, .store T x y, ty, pos, es, g⟩).run P w = .ok .skip (w.setRow b (cur.toList.take (k * sz + f) ++ r ++ cur.toList.drop (k * sz + f + r.length)).toArray) := by
      cases hq : P.info? T with
      | none => simp [hq] at hn
      | some q =>
        have hs : q.size = m := by simpa [hq] using hn
        have hz : (Go.sizeOf T).run P w = .ok m w := by simp [Go.sizeOf, typeInfo, hq, hs]
        have hsv : (storeVar T ⟨b, k * sz + f, none⟩ v).run P w = .ok () (w.setRow b (cur.toList.take (k * sz + f) ++ r ++ cur.toList.drop (k * sz + f + r.length)).toArray) := by
          unfold storeVar
          rw [Sem.run_bind, hz]
          simp only [Result.andThen_ok, hsz, ne_eq, not_true_eq_false, if_false, hv]
          exact hst
        simp only [execOp, hx', hy, Instr.storeAt, Instr.sureAddr, Sem.run_bind, Sem.run_pure, Result.andThen_ok, hsv]
    have hfin := hk _ (hw.upd hi (w' := w.setRow b (cur.toList.take (k * sz + f) ++ r ++ cur.toList.drop (k * sz + f + r.length)).toArray) ⟨rfl, rfl, rfl, (by first | exact Nat.le_refl _ | exact Nat.le_succ _), by simp⟩ fun bs hr' hnd hlt => by
      unfold Res.own at hr' ⊢
      obtain ⟨q0', a2, n2, c2, f1, f2, f3, f4, f5⟩ := hr'
      cases f1
      rcases f5 with ⟨hc, _⟩ | ⟨b2, cur2, k1, k2, k3, k4, k5⟩
      · omega
      · cases k1
        rw [show hp w b = some (.cells cur E (0, 0)) from g3] at k3; cases k3
        refine ⟨bs, ⟨?_, _, _, _, rfl, by simpa using f2, f3, f4, .inr ⟨b, _, rfl, k2, setRow_heap w b cur _ E _ g3, ?_, ?_⟩⟩, hnd, fun x hx => ⟨by have := hlt x hx; simpa using this, .inl hx⟩, fun k' _ hne => setRow_other w b k' _ (fun e => hne (by simp [k2, e]))⟩
        · intro r' hr'
          rcases List.mem_or_eq_of_mem_set hr' with h | rfl
          · exact q0 r' h
          · exact hnew
        · simp only [List.size_toArray, List.length_append, List.length_take, List.length_drop, Array.length_toList]; omega
        · have hkn : k * sz + sz ≤ n * sz := by rw [show k * sz + sz = (k + 1) * sz from by rw [Nat.add_mul]; omega]; exact Nat.mul_le_mul_right _ (by omega)
          have hns : n * sz ≤ cur.toList.length := by rw [Array.length_toList, g4]; exact Nat.mul_le_mul_right _ e3
          have e0 := rows_set_flatten (k := k) (r := row) q0 hrl (by omega)
          have e9 : rows.set k row = rows := by
            refine List.ext_getElem? fun i => ?_
            rw [List.getElem?_set]
            split
            · rename_i h; subst h; rw [hrow]; simp; omega
            · rfl
          rw [e9] at e0
          rw [rows_set_flatten q0 hnew (by omega), ← g5]
          have hrw : row = (cur.toList.drop (k * sz)).take sz := by
            have : row = ((cur.toList.take (n * sz)).drop (k * sz)).take sz := by
              rw [g5, e0, List.append_assoc, List.drop_append_of_le_length (by rw [List.length_take, ← g5, List.length_take]; omega)]
              have : ((rows.flatten.take (k * sz)).drop (k * sz)) = [] := by rw [List.drop_eq_nil_iff, List.length_take]; omega
              rw [this, List.nil_append, List.take_append_of_le_length (by omega), List.take_of_length_le (by omega)]
            rw [this, List.drop_take, List.take_take, Nat.min_eq_left (by omega)]
          rw [hrw]
          exact field_set hkn hns hl hfm
        )
    unfold Step; rw [hr]; exact hfin

theorem lStoreEf {E k f i m mm c sz : Nat} {a : Option Addr} {r row : List Value} {rows : List (List Value)} [hn : TSz P T m] (h : ∀ w', Wd Γ (S.set i (.own (.slice a mm c) E sz (rows.set k (row.take f ++ r ++ row.drop (f + m))))) w' → L P n opa QQ rest ρ w') (hrow : rows[k]? = some row) (hw : Wd Γ S w := by exact hw) (hx : ev ρ x = .pointer (some ⟨aB a, aO a + k * sz + f, none⟩) := by exact rfl)
    (hy : ev ρ y = v := by exact byMV) (hv : v.cells.toList = r := by exact rfl) (hl : r.length = m := by exact rfl) (h1 : r.all (·.oneCell') = true := by exact rfl) (hi : S[i]? = some (.own (.slice a mm c) E sz rows) := by exact byIX) (hk : k < mm := by omega) (hfm : f + m ≤ sz := by omega) :
    L P n opa QQ (⟨none, .store T x y, ty, pos, es, none⟩ :: rest) ρ w := L_step rfl rfl (s_storeEf hn.h hw hx hy hv hl h1 hi hk hrow hfm h)
end
end Mk
end
/- Drawn regions: steps that change one or two cells; cells of which only a relation is known. -/
section
open Go
namespace Mk
attribute [local irreducible] Calls
theorem W_cutB {P : Program} {n id : Nat} {c : Code} {K : Fr → World → Prop} {Q : Exit → Fr → World → Prop} {ρ : Fr} {w : World} (I : Fr → World → Prop) (h1 : W P n c (InBl id (Then I Q)) ρ w) (h2 : ∀ ρ w, I ρ w → K ρ w) : W P n c (InBl id (Then K Q)) ρ w :=
  h1.mono fun e ρ w h => by
    cases e with
    | normal => exact h2 ρ w h
    | exit i =>
      simp only [InBl] at h ⊢
      split <;> rename_i hi <;> simp only [hi, if_true, if_false] at h
      · exact h2 ρ w h
      · exact h
    | _ => exact h
theorem W_cutT {P : Program} {n : Nat} {c : Code} {K : Fr → World → Prop} {Q : Exit → Fr → World → Prop} {ρ : Fr} {w : World} (I : Fr → World → Prop) (h1 : W P n c (Then I Q) ρ w) (h2 : ∀ ρ w, I ρ w → K ρ w) : W P n c (Then K Q) ρ w :=
  h1.mono fun e ρ w h => by
    cases e with
    | normal => exact h2 ρ w h
    | _ => exact h
section
variable {P : Program} {n : Nat} {ops : List Oper} {Γ : Gho} {K : List Res} {wr tc stab : List (List Nat)} {Q : Fr → World → Prop} {i : Nat} {rest : List Oper} {ρ : Fr} {w : World} {M : Nat → Fr → List Res} {v : Value} {T T' : Type} {o : Oper}
variable {ty : TypeId} {pos : String} {es : Array Edge}
theorem ml1 {a b d : Fr → List Res} : ML [a, b, d] 1 = b := rfl
theorem ml2 {a b d : Fr → List Res} : ML [a, b, d] 2 = d := rfl
theorem exC_open {φ : T → Fr → Prop} {R : T → List Res} {g : Fr} {Z : List Res} (h : Wd Γ (exC φ R g ++ Z) w) : ∃ t, φ t g ∧ Wd Γ (R t ++ Z) w := by
  obtain ⟨⟨t, ht⟩, hw⟩ := Wd.openEx (S := Z) h
  exact ⟨t, ht, hw⟩
theorem exC_mk {φ : T → Fr → Prop} {R : T → List Res} {g : Fr} {Z : List Res} (t : T) (ht : φ t g) (h : Wd Γ (R t ++ Z) w) : Wd Γ (exC φ R g ++ Z) w :=
  Wd.closeEx (X := fun p : {t : T // φ t g} => R p.1) ⟨t, ht⟩ h
theorem mM2 {c c2 : Nat} (m m2 : Fr → List Res) (hs : ∀ Y w g, Wd Γ (K ++ (cellsAt tc stab i M g ++ Y)) w → Step P o (ovr stab.flatten g ρ) w fun u w' => Wd Γ (K ++ (cellsAt tc stab i (setC (setC M c m) c2 m2) (putO g o.dst u) ++ Y)) w' ∧ (freeD stab o.dst = false → u = v))
    (h : MSw (mV P n ops Γ K wr tc stab) Q (i + 1) rest ⟨putO ρ o.dst v, setC (setC M c m) c2 m2⟩) (hw0 : wr.getD i [] = [c, c2]) (hg : o.guard = none) : MSw (mV P n ops Γ K wr tc stab) Q i (o :: rest) ⟨ρ, M⟩ := by
  have hn : Mt.nxt (mV P n ops Γ K wr tc stab) i ⟨ρ, M⟩ ⟨v, setC (setC M c m) c2 m2⟩ = setC (setC M c m) c2 m2 := by
    funext y
    simp only [Mt.nxt, MEnv.w, hw0]
    unfold setC
    by_cases h1 : y = c <;> by_cases h2 : y = c2 <;> simp [h1, h2]
  refine ⟨⟨v, setC (setC M c m) c2 m2⟩, ⟨fun Γ' Y w g hr hw => ?_⟩, ?_⟩
  · have hΓ : Γ' = Γ := hr
    subst hΓ
    rw [hn]
    refine ⟨fun _ => (hs Y w g hw).mono fun u w' ⟨h1, h2⟩ => ⟨Γ', rfl, h1, h2⟩, fun hf => ?_⟩
    rw [wantF_none hg] at hf; cases hf
  · simp only [Mt.next, hn]; exact h
/-- A step that changes the cell c. -/
theorem mS {c : Nat} {F : Fr → List Res} (F' : Fr → List Res)
    (hs : ∀ g w Y, Wd Γ (F (ovr (stab.getD c []) g noFr) ++ (K ++ Y)) w → Step P o (ovr stab.flatten g ρ) w fun u w' => (freeD stab o.dst = false → u = v) ∧ Wd Γ (F' (ovr (stab.getD c []) (putO g o.dst u) noFr) ++ (K ++ Y)) w')
    (h : MSw (mV P n ops Γ K wr tc stab) Q (i + 1) rest ⟨putO ρ o.dst v, setC M c F'⟩) (hM : M c = F := by first | exact setC_self | exact ml1 | exact ml2 | exact ((setC_other (by decide)).trans setC_self) | exact ((setC_other (by decide)).trans ml2) | exact ((setC_other (by decide)).trans ((setC_other (by decide)).trans ml2)) | exact ((setC_other (by decide)).trans ((setC_other (by decide)).trans ((setC_other (by decide)).trans ml2))) | exact ((setC_other (by decide)).trans ((setC_other (by decide)).trans setC_self)) | exact rfl) (hw0 : wr.getD i [] = [c] := by exact rfl) (ht : tc.getD i [] = [c] := by exact rfl) (hg : o.guard = none := by exact rfl) :
    MSw (mV P n ops Γ K wr tc stab) Q i (o :: rest) ⟨ρ, M⟩ := by
  refine mM _ (fun Y w g hw => ?_) h hw0 hg
  rw [cells1 ht, hM] at hw
  refine (hs g w Y hw.swapApp).mono ?_
  rintro u w' ⟨h2, h3⟩
  refine ⟨?_, h2⟩
  rw [cells1 ht, setC_self]
  exact h3.swapApp
/-- A step that changes the cells c and c2. -/
theorem mS2 {c c2 : Nat} {F G : Fr → List Res} (F' G' : Fr → List Res)
    (hs : ∀ g w Y, Wd Γ (F (ovr (stab.getD c []) g noFr) ++ (G (ovr (stab.getD c2 []) g noFr) ++ (K ++ Y))) w → Step P o (ovr stab.flatten g ρ) w fun u w' => (freeD stab o.dst = false → u = v) ∧ Wd Γ (F' (ovr (stab.getD c []) (putO g o.dst u) noFr) ++ (G' (ovr (stab.getD c2 []) (putO g o.dst u) noFr) ++ (K ++ Y))) w')
    (h : MSw (mV P n ops Γ K wr tc stab) Q (i + 1) rest ⟨putO ρ o.dst v, setC (setC M c F') c2 G'⟩) (hM : M c = F := by first | exact setC_self | exact ml1 | exact ml2 | exact ((setC_other (by decide)).trans setC_self) | exact ((setC_other (by decide)).trans ml2) | exact ((setC_other (by decide)).trans ((setC_other (by decide)).trans ml2)) | exact ((setC_other (by decide)).trans ((setC_other (by decide)).trans ((setC_other (by decide)).trans ml2))) | exact ((setC_other (by decide)).trans ((setC_other (by decide)).trans setC_self)) | exact rfl) (hM2 : M c2 = G := by first | exact setC_self | exact ml1 | exact ml2 | exact ((setC_other (by decide)).trans setC_self) | exact ((setC_other (by decide)).trans ml2) | exact ((setC_other (by decide)).trans ((setC_other (by decide)).trans ml2)) | exact ((setC_other (by decide)).trans ((setC_other (by decide)).trans ((setC_other (by decide)).trans ml2))) | exact ((setC_other (by decide)).trans ((setC_other (by decide)).trans setC_self)) | exact rfl) (hw0 : wr.getD i [] = [c, c2] := by exact rfl) (ht : tc.getD i [] = [c, c2] := by exact rfl) (hcc : Nat.beq c c2 = false := by exact rfl) (hg : o.guard = none := by exact rfl) :
    MSw (mV P n ops Γ K wr tc stab) Q i (o :: rest) ⟨ρ, M⟩ := by
  have hne : c ≠ c2 := fun e => by subst e; simp at hcc
  refine mM2 _ _ (fun Y w g hw => ?_) h hw0 hg
  rw [cells2 ht, hM, hM2] at hw
  have hw1 := (hw.perm (by rw [List.append_assoc]; exact (List.perm_append_comm_assoc _ _ _).trans (List.Perm.append_left _ (List.perm_append_comm_assoc _ _ _)))  : Wd Γ (F (ovr (stab.getD c []) g noFr) ++ (G (ovr (stab.getD c2 []) g noFr) ++ (K ++ Y))) w)
  refine (hs g w Y hw1).mono ?_
  rintro u w' ⟨h2, h3⟩
  refine ⟨?_, h2⟩
  rw [cells2 ht, setC_self, setC_other hne, setC_self]
  exact h3.perm (by rw [List.append_assoc]; exact ((List.perm_append_comm_assoc _ _ _).trans (List.Perm.append_left _ (List.perm_append_comm_assoc _ _ _))).symm)
/-- A slice is built. -/
theorem mBuildX {c dd E by' len sz : Nat} {zs : List Value} {parts : Array (Nat × Operand)} {TT : TypeId} {φ : T → Fr → Prop} {R : T → List Res} (rws : T → List (List Value)) [TL P TT E sz by' zs]
    (h : MSw (mV P n ops Γ K wr tc stab) Q (i + 1) rest ⟨putO ρ (some dd) undef, setC M c (exC (fun (p : T × Addr) g => φ p.1 g ∧ g dd = .slice (some p.2) len len) fun p => .own (.slice (some p.2) len len) E sz (rws p.1) :: R p.1)⟩)
    (hf : ∀ t g, φ t (ovr (stab.getD c []) g noFr) → fillL (fun i => some (i * sz, sz)) ((List.range (len * sz)).map fun i => zs.getD (i % sz) undef) (parts.toList.map fun p => (p.1, ev (ovr stab.flatten g ρ) p.2)) = some (rws t).flatten)
    (hw0 : wr.getD i [] = [c] := by exact rfl) (ht : tc.getD i [] = [c] := by exact rfl) (hM : M c = exC φ R := by first | exact setC_self | exact ml1 | exact ml2 | exact ((setC_other (by decide)).trans setC_self) | exact ((setC_other (by decide)).trans ml2) | exact ((setC_other (by decide)).trans ((setC_other (by decide)).trans ml2)) | exact ((setC_other (by decide)).trans ((setC_other (by decide)).trans ((setC_other (by decide)).trans ml2))) | exact ((setC_other (by decide)).trans ((setC_other (by decide)).trans setC_self)) | exact rfl) (hφ : ∀ t g u, φ t (ovr (stab.getD c []) g noFr) → φ t (ovr (stab.getD c []) (putO g (some dd) u) noFr) := by intro t g u h; exact h)
    (hlen : ∀ t, (rws t).length = len := by intro t; rfl) (hr : ∀ t, (rws t).all (fun r => Nat.beq r.length sz) = true := by intro t; rfl) (hbig : Nat.ble (len * sz) 16777216 = true := by exact rfl)
    (hs : (stab.getD c []).contains dd = true := by exact rfl) (hfr : freeD stab (some dd) = true := by exact rfl) :
    MSw (mV P n ops Γ K wr tc stab) Q i (⟨some dd, .buildSlice TT len parts, ty, pos, es, none⟩ :: rest) ⟨ρ, M⟩ :=
  mS (v := undef) (exC (fun (p : T × Addr) g => φ p.1 g ∧ g dd = .slice (some p.2) len len) fun p => .own (.slice (some p.2) len len) E sz (rws p.1) :: R p.1) (fun g w Y hw => by
    obtain ⟨t, h1, hw⟩ := exC_open hw
    refine s_buildSlice (rws := rws t) hw (hf t g h1) rfl (hlen t) (fun r hm => Nat.eq_of_beq_eq_true ((List.all_eq_true.1 (hr t)) r hm)) (Nat.le_of_ble_eq_true hbig) fun a w' hw' => ⟨fun hh => (by rw [hfr] at hh; cases hh), exC_mk (t, a) ⟨hφ t g _ h1, ?_⟩ hw'⟩
    rw [ovr_in (by simpa using hs)]; exact upd_same _ _ _) h hM hw0 ht rfl
/-- A slice is built of what lies in two cells. -/
theorem mBuild2X {T2 : Type} {c c2 dd E by' len sz : Nat} {zs : List Value} {parts : Array (Nat × Operand)} {TT : TypeId} {φ : T → Fr → Prop} {R : T → List Res} {ψ : T2 → Fr → Prop} {R2 : T2 → List Res} (rws : T → T2 → List (List Value)) [TL P TT E sz by' zs]
    (h : MSw (mV P n ops Γ K wr tc stab) Q (i + 1) rest ⟨putO ρ (some dd) undef, setC (setC M c (exC (fun (p : (T × T2) × Addr) g => φ p.1.1 g ∧ g dd = .slice (some p.2) len len) fun p => .own (.slice (some p.2) len len) E sz (rws p.1.1 p.1.2) :: (R2 p.1.2 ++ R p.1.1))) c2 fun _ => []⟩)
    (hf : ∀ t t2 g, φ t (ovr (stab.getD c []) g noFr) → ψ t2 (ovr (stab.getD c2 []) g noFr) → fillL (fun i => some (i * sz, sz)) ((List.range (len * sz)).map fun i => zs.getD (i % sz) undef) (parts.toList.map fun p => (p.1, ev (ovr stab.flatten g ρ) p.2)) = some (rws t t2).flatten)
    (hw0 : wr.getD i [] = [c, c2] := by exact rfl) (ht : tc.getD i [] = [c, c2] := by exact rfl) (hcc : Nat.beq c c2 = false := by exact rfl) (hM : M c = exC φ R := by first | exact setC_self | exact ml1 | exact ml2 | exact ((setC_other (by decide)).trans setC_self) | exact ((setC_other (by decide)).trans ml2) | exact ((setC_other (by decide)).trans ((setC_other (by decide)).trans ml2)) | exact ((setC_other (by decide)).trans ((setC_other (by decide)).trans setC_self)) | exact rfl) (hM2 : M c2 = exC ψ R2 := by first | exact setC_self | exact ml1 | exact ml2 | exact ((setC_other (by decide)).trans setC_self) | exact ((setC_other (by decide)).trans ml2) | exact ((setC_other (by decide)).trans ((setC_other (by decide)).trans ml2)) | exact ((setC_other (by decide)).trans ((setC_other (by decide)).trans setC_self)) | exact rfl)
    (hφ : ∀ t g u, φ t (ovr (stab.getD c []) g noFr) → φ t (ovr (stab.getD c []) (putO g (some dd) u) noFr) := by intro t g u h; exact h) (hlen : ∀ t t2, (rws t t2).length = len := by intro t t2; rfl) (hr : ∀ t t2, (rws t t2).all (fun r => Nat.beq r.length sz) = true := by intro t t2; rfl) (hbig : Nat.ble (len * sz) 16777216 = true := by exact rfl)
    (hs : (stab.getD c []).contains dd = true := by exact rfl) (hfr : freeD stab (some dd) = true := by exact rfl) :
    MSw (mV P n ops Γ K wr tc stab) Q i (⟨some dd, .buildSlice TT len parts, ty, pos, es, none⟩ :: rest) ⟨ρ, M⟩ :=
  mS2 (v := undef) (exC (fun (p : (T × T2) × Addr) g => φ p.1.1 g ∧ g dd = .slice (some p.2) len len) fun p => .own (.slice (some p.2) len len) E sz (rws p.1.1 p.1.2) :: (R2 p.1.2 ++ R p.1.1)) (fun _ => []) (fun g w Y hw => by
    obtain ⟨t, h1, hw⟩ := exC_open hw
    obtain ⟨t2, h2, hw⟩ := exC_open (hw.perm (List.perm_append_comm_assoc _ _ _))
    have hw : Wd Γ ((R2 t2 ++ R t) ++ (K ++ Y)) w := by rw [List.append_assoc]; exact hw
    refine s_buildSlice (rws := rws t t2) hw (hf t t2 g h1 h2) rfl (hlen t t2) (fun r hm => Nat.eq_of_beq_eq_true ((List.all_eq_true.1 (hr t t2)) r hm)) (Nat.le_of_ble_eq_true hbig) fun a w' hw' => ⟨fun hh => (by rw [hfr] at hh; cases hh), exC_mk ((t, t2), a) ⟨hφ t g _ h1, ?_⟩ hw'⟩
    rw [ovr_in (by simpa using hs)]; exact upd_same _ _ _) h hM hM2 hw0 ht hcc rfl
/-- A value is reckoned that hangs on open slots. -/
theorem mPureX {c dd : Nat} {op : Op} {φ : T → Fr → Prop} {R : T → List Res} (u : T → Value)
    (hy : ∀ t g w Y, φ t (ovr (stab.getD c []) g noFr) → Wd Γ (R t ++ (K ++ Y)) w → Yields P ⟨some dd, op, ty, pos, es, none⟩ (ovr stab.flatten g ρ) w (u t))
    (h : MSw (mV P n ops Γ K wr tc stab) Q (i + 1) rest ⟨putO ρ (some dd) undef, setC M c (exC (fun t g => φ t g ∧ g dd = u t) R)⟩)
    (hw0 : wr.getD i [] = [c] := by exact rfl) (ht : tc.getD i [] = [c] := by exact rfl) (hM : M c = exC φ R := by first | exact setC_self | exact ml1 | exact ml2 | exact ((setC_other (by decide)).trans setC_self) | exact ((setC_other (by decide)).trans ml2) | exact ((setC_other (by decide)).trans ((setC_other (by decide)).trans ml2)) | exact ((setC_other (by decide)).trans ((setC_other (by decide)).trans ((setC_other (by decide)).trans ml2))) | exact ((setC_other (by decide)).trans ((setC_other (by decide)).trans setC_self)) | exact rfl) (hφ : ∀ t g u, φ t (ovr (stab.getD c []) g noFr) → φ t (ovr (stab.getD c []) (putO g (some dd) u) noFr) := by intro t g u h; exact h)
    (hs : (stab.getD c []).contains dd = true := by exact rfl) (hfr : freeD stab (some dd) = true := by exact rfl) :
    MSw (mV P n ops Γ K wr tc stab) Q i (⟨some dd, op, ty, pos, es, none⟩ :: rest) ⟨ρ, M⟩ :=
  mS (v := undef) (exC (fun t g => φ t g ∧ g dd = u t) R) (fun g w Y hw => by
    obtain ⟨t, h1, hw⟩ := exC_open hw
    refine (hy t g w Y h1 hw).step ⟨fun hh => (by rw [hfr] at hh; cases hh), exC_mk t ⟨hφ t g _ h1, ?_⟩ hw⟩
    rw [ovr_in (by simpa using hs)]; exact upd_same _ _ _) h hM hw0 ht rfl
/-- An append onto what is owned. -/
theorem mAppX {c dd j j2 E by' sz m cc m2 c2 : Nat} {zs : List Value} {a : Option Addr} {rows : List (List Value)} {TT : TypeId} {x y : Operand} {φ : T → Fr → Prop} {R : T → List Res} (a2 : T → Option Addr) (rows2 : T → List (List Value)) [TL P TT E sz by' zs]
    (h : MSw (mV P n ops Γ K wr tc stab) Q (i + 1) rest ⟨putO ρ (some dd) undef, setC M c (exC (fun (p : T × Value) g => φ p.1 g ∧ g dd = p.2) fun p => (R p.1).set j (.own p.2 E sz (rows ++ rows2 p.1)))⟩)
    (hy : ∀ t g, φ t (ovr (stab.getD c []) g noFr) → ev (ovr stab.flatten g ρ) y = .slice (a2 t) m2 c2) (hw0 : wr.getD i [] = [c] := by exact rfl) (ht : tc.getD i [] = [c] := by exact rfl) (hM : M c = exC φ R := by first | exact setC_self | exact ml1 | exact ml2 | exact ((setC_other (by decide)).trans setC_self) | exact ((setC_other (by decide)).trans ml2) | exact ((setC_other (by decide)).trans ((setC_other (by decide)).trans ml2)) | exact ((setC_other (by decide)).trans ((setC_other (by decide)).trans ((setC_other (by decide)).trans ml2))) | exact ((setC_other (by decide)).trans ((setC_other (by decide)).trans setC_self)) | exact rfl) (hj : ∀ t, (R t)[j]? = some (.own (.slice a m cc) E sz rows) := by intro t; exact rfl) (hj2 : ∀ t, (R t)[j2]? = some (.own (.slice (a2 t) m2 c2) E sz (rows2 t)) := by intro t; exact rfl)
    (h1 : ∀ t, (rows2 t).flatten.all (·.oneCell') = true := by intro t; rfl) (hx : ∀ g, ev (ovr stab.flatten g ρ) x = .slice a m cc := by intro g; exact rfl)
    (hφ : ∀ t g u, φ t (ovr (stab.getD c []) g noFr) → φ t (ovr (stab.getD c []) (putO g (some dd) u) noFr) := by intro t g u h; exact h)
    (hb : (m + m2) * by' ≤ 140737488355328 := by omega) (h63 : m + m2 ≤ 9223372036854775807 := by omega) (hl2 : ∀ t, m2 = (rows2 t).length := by intro t; rfl)
    (hs : (stab.getD c []).contains dd = true := by exact rfl) (hfr : freeD stab (some dd) = true := by exact rfl) :
    MSw (mV P n ops Γ K wr tc stab) Q i (⟨some dd, .call { callee := .builtin .append, args := #[x, y], argTypes := #[TT, TT] }, ty, pos, es, none⟩ :: rest) ⟨ρ, M⟩ :=
  mS (v := undef) (exC (fun (p : T × Value) g => φ p.1 g ∧ g dd = p.2) fun p => (R p.1).set j (.own p.2 E sz (rows ++ rows2 p.1))) (fun g w Y hw => by
    obtain ⟨t, ht1, hw⟩ := exC_open hw
    have hjl : j < (R t).length := (List.getElem?_eq_some_iff.1 (hj t)).1
    have hjl2 : j2 < (R t).length := (List.getElem?_eq_some_iff.1 (hj2 t)).1
    have hi : (R t ++ (K ++ Y))[j]? = some (.own (.slice a m cc) E sz rows) := by rw [List.getElem?_append_left hjl]; exact hj t
    have hi2 : (R t ++ (K ++ Y))[j2]? = some (.own (.slice (a2 t) m2 c2) E sz (rows2 t)) := by rw [List.getElem?_append_left hjl2]; exact hj2 t
    refine s_append hw (hx g) (hy t g ht1) hi (hw.own_rd hi2) (hl2 t) (fun u hu => (List.all_eq_true.1 (h1 t)) u hu) hb h63 fun v' w' hw' => ⟨fun hh => (by rw [hfr] at hh; cases hh), exC_mk (t, v') ⟨hφ t g _ ht1, ?_⟩ ?_⟩
    · rw [ovr_in (by simpa using hs)]; exact upd_same _ _ _
    · rw [List.set_append_left _ _ hjl] at hw'; exact hw') h hM hw0 ht rfl
/-- What an append has made is stored into a block of another cell. -/
theorem mJoinX {c0 c b ob dv j : Nat} {cs : Array Value} {E E2 sz2 : Nat} {TT : TypeId} {x : Operand} {φ : T → Fr → Prop} {R : T → List Res} {val : T → Value} {rows : T → List (List Value)} [hn : TSz P TT 1]
    (h : MSw (mV P n ops Γ K wr tc stab) Q (i + 1) rest ⟨ρ, setC (setC M c0 fun _ => []) c (exC φ fun t => .blk b (.cells (putCells cs ob [val t]) E) :: R t)⟩)
    (hv : ∀ t g, φ t (ovr (stab.getD c []) g noFr) → ev (ovr stab.flatten g ρ) (.tmp dv) = val t) (hw0 : wr.getD i [] = [c0, c] := by exact rfl) (ht : tc.getD i [] = [c0, c] := by exact rfl) (hcc : Nat.beq c0 c = false := by exact rfl) (hM2 : M c = exC φ R := by first | exact setC_self | exact ml1 | exact ml2 | exact ((setC_other (by decide)).trans setC_self) | exact ((setC_other (by decide)).trans ml2) | exact ((setC_other (by decide)).trans ((setC_other (by decide)).trans ml2)) | exact ((setC_other (by decide)).trans ((setC_other (by decide)).trans ((setC_other (by decide)).trans ml2))) | exact ((setC_other (by decide)).trans ((setC_other (by decide)).trans setC_self)) | exact rfl) (hj : ∀ t, (R t)[j]? = some (.own (val t) E2 sz2 (rows t)) := by intro t; exact rfl) (hx : ∀ g, ev (ovr stab.flatten g ρ) x = .pointer (some ⟨b, ob, none⟩) := by intro g; exact rfl)
    (hM : M c0 = (fun _ => [.blk b (.cells cs E)]) := by exact rfl) (ho : ob + 1 ≤ cs.size := by exact Nat.le_of_ble_eq_true rfl) :
    MSw (mV P n ops Γ K wr tc stab) Q i (⟨none, .store TT x (.tmp dv), ty, pos, es, none⟩ :: rest) ⟨ρ, M⟩ :=
  mS2 (v := undef) (fun _ => []) (exC φ fun t => .blk b (.cells (putCells cs ob [val t]) E) :: R t) (fun g w Y hw => by
    have hw2 : Wd Γ (exC φ R (ovr (stab.getD c []) g noFr) ++ (.blk b (.cells cs E) :: (K ++ Y))) w := hw.perm (List.perm_append_comm_assoc _ _ _)
    obtain ⟨t, ht1, hw⟩ := exC_open hw2
    have hw : Wd Γ (.blk b (.cells cs E) :: (R t ++ (K ++ Y))) w := hw.perm List.perm_middle
    have hjl : j < (R t).length := (List.getElem?_eq_some_iff.1 (hj t)).1
    obtain ⟨q1, q2, q3, e1, -, -, -⟩ := hw.own_shape (i := j + 1) (v := val t) (e := E2) (sz := sz2) (rows := rows t) (by rw [List.getElem?_cons_succ, List.getElem?_append_left hjl]; exact hj t)
    refine s_store hn.h hw (hx g) (hv t g ht1) (vs := [val t]) (by rw [e1]; rfl) rfl (fun u hu => by simp at hu; subst hu; rw [e1]; rfl) (i := 0) rfl ho fun w' hw' => ⟨fun _ => rfl, ?_⟩
    exact exC_mk (R := fun t => .blk b (.cells (putCells cs ob [val t]) E) :: R t) t ht1 hw') h hM hM2 hw0 ht hcc rfl
theorem W_mixD {id : Nat} {l : List Oper} {QQ : Exit → Fr → World → Prop} (K X0 X1 X2 : List Res) (N1 N2 : List Nat) (wr tc : List (List Nat)) (hw : Wd Γ (K ++ (X0 ++ (X1 ++ X2))) w)
    (h : MSw (mV P n l Γ K wr tc [[], N1, N2]) (fun ρ w => QQ .normal ρ w) 0 l ⟨ρ, ML [fun _ => X0, exC (T := Unit) (fun _ _ => True) (fun _ => X1), exC (T := Unit) (fun _ _ => True) (fun _ => X2)]⟩)
    (hm : P.follows .mixedOrders = true := by kernel_rfl) (hk : checkM n l wr tc [[], N1, N2] = true := by kernel_rfl) : W P n (.region id l.toArray true) QQ ρ w :=
  W_mixed K [fun _ => X0, exC (T := Unit) (fun _ _ => True) (fun _ => X1), exC (T := Unit) (fun _ _ => True) (fun _ => X2)] wr tc [[], N1, N2] (by
    show Wd Γ (K ++ (X0 ++ (exC (T := Unit) (fun _ _ => True) (fun _ => X1) (ovr N1 ρ noFr) ++ (exC (T := Unit) (fun _ _ => True) (fun _ => X2) (ovr N2 ρ noFr) ++ [])))) w
    rw [List.append_nil]
    have h1 : Wd Γ (X1 ++ (X2 ++ (K ++ X0))) w := hw.perm (by
      rw [← List.append_assoc, ← List.append_assoc X1]
      exact List.perm_append_comm)
    have h2 : Wd Γ (exC (T := Unit) (fun _ _ => True) (fun _ => X1) (ovr N1 ρ noFr) ++ (X2 ++ (K ++ X0))) w := exC_mk () trivial h1
    have h3 : Wd Γ (X2 ++ (exC (T := Unit) (fun _ _ => True) (fun _ => X1) (ovr N1 ρ noFr) ++ (K ++ X0))) w := h2.perm (List.perm_append_comm_assoc _ _ _)
    have h4 : Wd Γ (exC (T := Unit) (fun _ _ => True) (fun _ => X2) (ovr N2 ρ noFr) ++ (exC (T := Unit) (fun _ _ => True) (fun _ => X1) (ovr N1 ρ noFr) ++ (K ++ X0))) w := exC_mk () trivial h3
    have h5 : Wd Γ (exC (T := Unit) (fun _ _ => True) (fun _ => X1) (ovr N1 ρ noFr) ++ (exC (T := Unit) (fun _ _ => True) (fun _ => X2) (ovr N2 ρ noFr) ++ (K ++ X0))) w := h4.perm (List.perm_append_comm_assoc _ _ _)
    exact h5.perm (by
      rw [← List.append_assoc, ← List.append_assoc K]
      exact List.perm_append_comm)) h hm hk
theorem mEndD {N1 N2 : List Nat} {φ : T → Fr → Prop} {R : T → List Res} (h : ∀ t w g, φ t (ovr N1 g noFr) → Wd Γ (R t ++ K) w → Q (ovr [[], N1, N2].flatten g ρ) w) (hM0 : M 0 = fun _ => [] := by exact rfl) (hM : M 1 = exC φ R := by first | exact setC_self | exact ml1 | exact ml2 | exact ((setC_other (by decide)).trans setC_self) | exact ((setC_other (by decide)).trans ml2) | exact ((setC_other (by decide)).trans ((setC_other (by decide)).trans ml2)) | exact ((setC_other (by decide)).trans ((setC_other (by decide)).trans ((setC_other (by decide)).trans ml2))) | exact ((setC_other (by decide)).trans ((setC_other (by decide)).trans setC_self)) | exact rfl) : MSw (mV P n ops Γ K wr tc [[], N1, N2]) Q i [] ⟨ρ, M⟩ :=
  mEnd fun w g hw => by
    have hw1 : Wd Γ (K ++ (M 0 (ovr [] g noFr) ++ (M 1 (ovr N1 g noFr) ++ (M 2 (ovr N2 g noFr) ++ [])))) w := hw
    rw [hM0, hM, List.nil_append] at hw1
    have hw2 : Wd Γ (exC φ R (ovr N1 g noFr) ++ (K ++ (M 2 (ovr N2 g noFr) ++ []))) w := hw1.swapApp
    obtain ⟨t, ht, hw3⟩ := exC_open hw2
    exact h t w g ht (Wd.left (S := R t ++ K) (by rw [List.append_assoc]; exact hw3))
end
end Mk
end
/- Calls that read what is owned and change nothing. -/
section
open Go
namespace Mk
attribute [local irreducible] Calls
class PS (P : Program) (Γ : Gho) (S : List Res) (f : Nat) (args : List Value) (v : outParam Value) : Prop where
  h : ∀ Y w, Wd Γ (S ++ Y) w → Calls P f args.toArray w fun e w' => e = .returned v ∧ Wd Γ (S ++ Y) w'
instance (priority := low) {P : Program} {Γ : Gho} {S : List Res} {f : Nat} {args : List Value} {v : Value} [h : PG P Γ f args v] : PS P Γ S f args v := ⟨fun Y w hw => h.h (S ++ Y) w hw⟩
section
variable {P : Program} {n : Nat} {ops : List Oper} {opa : Array Oper} {Γ : Gho} {S K : List Res} {Q : Fr → World → Prop} {QQ : Exit → Fr → World → Prop} {ρ : Fr} {w : World} {rest : List Oper} {wr tc stab : List (List Nat)} {i : Nat} {M : Nat → Fr → List Res}
variable {d : Option Tmp} {ty : TypeId} {pos : String} {es : Array Edge} {v : Value} {f : Nat} {args : List Operand} {tys : Array TypeId} {vs : List Value} {j dj : Nat} {want c : Bool} {g : Option (Nat × Bool)}
theorem s_ps {Y : List Res} [FnOk P f] (hp : PS P Γ S f vs v) (ha : EvL ρ args vs) (hw : Wd Γ (S ++ Y) w) : Step P ⟨d, .call { callee := .value (.func f), args := args.toArray, argTypes := tys }, ty, pos, es, g⟩ ρ w fun u w' => u = v ∧ Wd Γ (S ++ Y) w' :=
  s_call ha.eqA ((hp.h Y w hw).mono fun _ _ ⟨h1, h2⟩ => ⟨v, h1, rfl, h2⟩)
theorem lPs [FnOk P f] (h : ∀ w', Wd Γ S w' → L P n opa QQ rest (putO ρ d v) w') (hw : Wd Γ S w := by exact hw) (ha : EvL ρ args vs := by exact byEV) (hd : okDst n d = true := by exact rfl) (hp : PS P Γ S f vs v := by infer_instance) :
    L P n opa QQ (⟨d, .call { callee := .value (.func f), args := args.toArray, argTypes := tys }, ty, pos, es, none⟩ :: rest) ρ w :=
  L_step rfl hd ((s_ps (Y := []) hp ha (by rw [List.append_nil]; exact hw)).mono fun _ w' ⟨h1, h2⟩ => by subst h1; rw [List.append_nil] at h2; exact h w' h2)
theorem lPsG [FnOk P f] (h : ∀ w', Wd Γ S w' → L P n opa QQ rest (putO ρ d (gv c v)) w') (hw : Wd Γ S w := by exact hw) (hj : (opa[j]?).bind (·.dst) = some dj := by exact rfl) (hjn : okDst n (some dj) = true := by exact rfl) (hc : GuardIs (ρ dj) want c := by exact byGC) (hd : okDst n d = true := by exact rfl) (ha : c = true → EvL ρ args vs := by intro hc; exact byEVG) (hp : PS P Γ S f vs v := by infer_instance) :
    L P n opa QQ (⟨d, .call { callee := .value (.func f), args := args.toArray, argTypes := tys }, ty, pos, es, some (j, want)⟩ :: rest) ρ w :=
  lGC hj hjn hd hc (fun hct => lPs (fun w' hw' => by have := h w' hw'; rwa [gvT hct rfl] at this) hw (ha hct) hd hp) (fun hcf => by have := h w hw; rwa [show gv c v = undef from by rw [hcf]; unfold gv; rfl] at this)
theorem qPs [FnOk P f] (h : Qw P n ops Γ S Q rest (putO ρ d v)) (ha : EvL ρ args vs := by exact byEV) (hp : PS P Γ S f vs v := by infer_instance) :
    Qw P n ops Γ S Q (⟨d, .call { callee := .value (.func f), args := args.toArray, argTypes := tys }, ty, pos, es, none⟩ :: rest) ρ :=
  Q_c rfl rfl (fun _ _ hw => s_ps hp ha hw) h
theorem qPsG [FnOk P f] (h : Qw P n ops Γ S Q rest (putO ρ d (gv c v))) (hj : (ops[j]?).bind (·.dst) = some dj := by exact rfl) (hc : GuardIs (ρ dj) want c := by exact byGC) (ha : c = true → EvL ρ args vs := by intro hc; exact byEVG) (hp : PS P Γ S f vs v := by infer_instance) :
    Qw P n ops Γ S Q (⟨d, .call { callee := .value (.func f), args := args.toArray, argTypes := tys }, ty, pos, es, some (j, want)⟩ :: rest) ρ :=
  Q_gc rfl hj hc rfl (fun ht _ _ hw => s_ps hp (ha ht) hw) h
end
end Mk
end
/- Slices made by 'make'. -/
section
open Go
namespace Mk
attribute [local irreducible] Calls
theorem made_rows {zs : List Value} {sz : Nat} (hz : zs.length = sz) (h0 : 0 < sz) : ∀ n : Nat, (madeCells zs.toArray (n * sz)).toList = (List.replicate n zs).flatten := fun n => by
  unfold madeCells
  simp only [Array.toList_map, Array.toList_range, List.size_toArray, hz]
  have hf : ∀ i : Nat, zs.toArray[i % sz]! = zs.getD (i % sz) undef := fun i => by
    have hlt : i % sz < zs.length := by rw [hz]; exact Nat.mod_lt _ h0
    rw [getElem!_pos (zs.toArray) _ (by simpa using hlt)]
    simp [List.getD_eq_getElem?_getD, List.getElem?_eq_getElem hlt]
  simp only [hf]
  induction n with
  | zero => simp
  | succ n ih =>
    rw [show (n + 1) * sz = sz + n * sz from by rw [Nat.add_mul]; omega, List.range_add, List.map_append, List.map_map, List.replicate_succ, List.flatten_cons, ← ih]
    congr 1
    · refine List.ext_getElem? fun i => ?_
      rw [List.getElem?_map]
      by_cases hi : i < sz
      · rw [List.getElem?_range hi]
        simp only [Option.map_some, Nat.mod_eq_of_lt hi]
        rw [List.getD_eq_getElem?_getD, List.getElem?_eq_getElem (by omega)]; rfl
      · rw [List.getElem?_eq_none (by simpa using hi), List.getElem?_eq_none (by omega)]; rfl
    · refine List.map_congr_left fun i _ => ?_
      simp
section
variable {P : Program} {n : Nat} {opa : Array Oper} {Γ : Gho} {S : List Res} {QQ : Exit → Fr → World → Prop} {ρ : Fr} {w : World} {rest : List Oper} {K : Value → World → Prop}
variable {d : Option Tmp} {T ty : TypeId} {pos : String} {es : Array Edge} {g : Option (Nat × Bool)} {x y : Operand}
theorem s_makeSlice {E by' len sz : Nat} {zs : List Value} [hT : TL P T E sz by' zs] (hw : Wd Γ S w) (hx : ev ρ x = .int .i64 (len : Nat)) (hy : ev ρ y = .int .i64 (len : Nat)) (hb : (by' : Int) * len ≤ 281474976710656) (h63 : (len : Int) ≤ 9223372036854775807)
    (hk : ∀ a w', Wd Γ (.own (.slice (some a) len len) E sz (List.replicate len zs) :: S) w' → K (.slice (some a) len len) w') : Step P ⟨d, .makeSlice T x y, ty, pos, es, g⟩ ρ w K := by
  obtain ⟨q, z, hq, hz, hzc⟩ := zeroOf_info hT.z
  obtain ⟨q', hq', hs, hb'⟩ := sizeBytes_info hT.s
  rw [hq] at hq'; cases hq'
  have hrun := run_make (P := P) w T E q z hT.h hq hz .i64 .i64 (len : Int) (len : Int) (by omega) (Int.le_refl _) (by rw [hb']; exact hb) h63
  rw [hzc, hs] at hrun
  have hr0 : (execOp (ev ρ) ⟨d, .makeSlice T x y, ty, pos, es, g⟩).run P w = .ok (.value (.slice (some ⟨w.heap.size, 0, none⟩) len len)) (w.alloc (.cells (madeCells zs.toArray (len * sz)) E)) := by
    simp only [execOp, hx, hy, Sem.run_bind, hrun, Result.andThen_ok, Int.toNat_natCast]
    rfl
  have hrows := made_rows hT.n.1 hT.n.2 len
  have hfin := hk ⟨w.heap.size, 0, none⟩ (w.alloc (.cells (madeCells zs.toArray (len * sz)) E)) (hw.add (bs := [w.heap.size]) ⟨rfl, rfl, rfl, (by first | exact Nat.le_refl _ | exact Nat.le_succ _), by simp⟩ (by
    unfold Res.own
    refine ⟨fun r hr => by rw [List.eq_of_mem_replicate hr]; exact hT.n.1, _, _, _, rfl, (by simp), Nat.le_refl _, by simp [maxLen]; omega, .inr ⟨w.heap.size, madeCells zs.toArray (len * sz), rfl, rfl, heap_alloc_new w _, size_madeCells _ _, ?_⟩⟩
    rw [hrows, List.take_of_length_le]
    rw [← hrows, Array.length_toList, size_madeCells]; exact Nat.le_refl _) (by simp) (by simp) fun k hk => heap_alloc_old w _ hk)
  unfold Step; rw [hr0]; exact hfin
theorem lMakeSlice {E by' len sz : Nat} {zs : List Value} [hT : TL P T E sz by' zs] (h : ∀ a w', Wd Γ (.own (.slice (some a) len len) E sz (List.replicate len zs) :: S) w' → L P n opa QQ rest (putO ρ d (.slice (some a) len len)) w')
    (hw : Wd Γ S w := by exact hw) (hx : ev ρ x = .int .i64 (len : Nat) := by exact rfl) (hy : ev ρ y = .int .i64 (len : Nat) := by exact rfl) (hb : (by' : Int) * len ≤ 281474976710656 := by omega) (h63 : (len : Int) ≤ 9223372036854775807 := by omega) (hd : okDst n d = true := by exact rfl) :
    L P n opa QQ (⟨d, .makeSlice T x y, ty, pos, es, none⟩ :: rest) ρ w := L_step rfl hd (s_makeSlice hw hx hy hb h63 h)
end
end Mk
end
/- Calls of function values in regions that own nothing, behind a guard. -/
section
open Go
namespace Mk
attribute [local irreducible] Calls
section
variable {P : Program} {n : Nat} {ops : List Oper} {Γ : Gho} {S : List Res} {Q : Fr → World → Prop} {ρ : Fr} {rest : List Oper}
variable {d : Option Tmp} {ty : TypeId} {pos : String} {es : Array Edge} {v : Value} {f t : Nat} {args : List Operand} {tys : Array TypeId} {vs : List Value} {j dj : Nat} {want c : Bool}
theorem qPgvG [FnOk P f] (hp : PG P Γ f vs v) (h : Qw P n ops Γ S Q rest (putO ρ d (gv c v))) (hj : (ops[j]?).bind (·.dst) = some dj := by exact rfl) (hc : GuardIs (ρ dj) want c := by exact byGC) (ht : c = true → ρ t = .func (.func f) #[] #[] := by intro hc; exact byOP) (ha : c = true → EvL ρ args vs := by intro hc; exact byEVG) :
    Qw P n ops Γ S Q (⟨d, .call { callee := .value (.tmp t), args := args.toArray, argTypes := tys }, ty, pos, es, some (j, want)⟩ :: rest) ρ :=
  Q_gc rfl hj hc rfl (fun hct Y w hw => s_callv (ht hct) (ha hct).eqA (by simpa using (hp.h (S ++ Y) w hw).mono fun e w' ⟨h1, h2⟩ => ⟨v, h1, rfl, h2⟩)) h
end
end Mk
end
/- Guards that are known, in drawn regions; calls under which all that was there stays. -/
section
open Go
namespace Mk
attribute [local irreducible] Calls
/-- A call that keeps all that was there keeps what is owned. -/
theorem wd_kept {Γ : Gho} {S : List Res} {w w' : World} (h : Wd Γ S w) (h' : Wd (allG w) [] w') : Wd Γ S w' := by
  obtain ⟨h1, h2, h3, h4, h5, bss, h6, h7, h8⟩ := h
  obtain ⟨k1, k2, k3, k4, k5, -⟩ := h'
  have hk : ∀ b ∈ bss.flatten, w'.heap[b]? = w.heap[b]? := fun b hb => by
    have hl := (h8 b hb).1
    have e : w.heap[b]? = some w.heap[b] := Array.getElem?_eq_getElem hl
    rw [e]; exact k5 b _ e
  refine ⟨k1.trans h1, k2.trans h2, k3.trans h3, Nat.le_trans h4 k4, fun b o hb => k5 b o (h5 b o hb), bss, Holds.loc (fun b o h => h) S bss (fun b hb => hk b hb) h6, h7, fun b hb => ⟨?_, (h8 b hb).2⟩⟩
  have hl := (h8 b hb).1
  have e : w.heap[b]? = some w.heap[b] := Array.getElem?_eq_getElem hl
  have := hk b hb
  rw [e] at this
  exact (Array.getElem?_eq_some_iff.1 this).1
theorem wd_less {Γ Γ' : Gho} {w : World} (hle : Γ.le Γ') (h : Wd Γ' [] w) : Wd Γ [] w := by
  obtain ⟨h1, h2, h3, h4, h5, -⟩ := h
  exact ⟨h1.trans hle.os, h2.trans hle.tape, h3.trans hle.out, by rw [← hle.dr]; exact h4, fun b o hb => h5 b o (hle.imm b o hb), [], trivial, by simp, by simp⟩
section
variable {P : Program} {n : Nat} {ops : List Oper} {Γ : Gho} {K : List Res} {wr tc stab : List (List Nat)} {Q : Fr → World → Prop} {i : Nat} {rest : List Oper} {ρ : Fr} {M : Nat → Fr → List Res}
variable {d : Option Tmp} {op : Op} {ty : TypeId} {pos : String} {es : Array Edge} {j dj : Nat} {want : Bool}
theorem mGuard (h : MSw (mV P n ops Γ K wr tc stab) Q i (⟨d, op, ty, pos, es, none⟩ :: rest) ⟨ρ, M⟩) (hj : (ops[j]?).bind (·.dst) = some dj := by exact rfl) (hv : ∀ g, (saysB (ovr stab.flatten g ρ dj) == some want) = true := by intro g; exact rfl) :
    MSw (mV P n ops Γ K wr tc stab) Q i (⟨d, op, ty, pos, es, some (j, want)⟩ :: rest) ⟨ρ, M⟩ := by
  obtain ⟨c, hg, hr⟩ := h
  refine ⟨c, ⟨fun Γ' Y w g hrl hw => ⟨fun _ => ?_, fun hf => ?_⟩⟩, hr⟩
  · have h0 := (hg.run Γ' Y w g hrl hw).1 (wantF_none rfl)
    unfold Step execOp at h0 ⊢
    exact h0
  have h1 := hv g
  have h2 : wantF ops (⟨d, op, ty, pos, es, some (j, want)⟩ : Oper) (ovr stab.flatten g ρ) = true := by
    simp only [wantF, hj]
    exact h1
  have hf : wantF ops (⟨d, op, ty, pos, es, some (j, want)⟩ : Oper) (ovr stab.flatten g ρ) = false := hf
  rw [h2] at hf; cases hf
end
end Mk
end
/- Guards that are known to be false, in drawn regions; a negative number, wrapped. -/
section
open Go
namespace Mk
attribute [local irreducible] Calls
section
variable {P : Program} {n : Nat} {ops : List Oper} {Γ : Gho} {K : List Res} {wr tc stab : List (List Nat)} {Q : Fr → World → Prop} {i : Nat} {rest : List Oper} {ρ : Fr} {M : Nat → Fr → List Res}
variable {d : Option Tmp} {op : Op} {ty : TypeId} {pos : String} {es : Array Edge} {j dj : Nat} {want : Bool}
theorem mGuardF (h : MSw (mV P n ops Γ K wr tc stab) Q (i + 1) rest ⟨putO ρ d undef, M⟩) (hj : (ops[j]?).bind (·.dst) = some dj := by exact rfl) (hv : ∀ g, (saysB (ovr stab.flatten g ρ dj) == some want) = false := by intro g; exact rfl) (hw0 : wr.getD i [] = [] := by exact rfl) (ho : outOf tc stab i d = true := by exact rfl) :
    MSw (mV P n ops Γ K wr tc stab) Q i (⟨d, op, ty, pos, es, some (j, want)⟩ :: rest) ⟨ρ, M⟩ := by
  have hn : ∀ c, Mt.nxt (mV P n ops Γ K wr tc stab) i ⟨ρ, M⟩ c = M := fun c => by
    funext x; simp only [Mt.nxt, MEnv.w, hw0]; rfl
  refine ⟨⟨undef, M⟩, ⟨fun Γ' Y w g hrl hw => ?_⟩, ?_⟩
  · have hΓ : Γ' = Γ := hrl
    subst hΓ
    rw [hn]
    refine ⟨fun hf => ?_, fun _ => ⟨?_, fun _ => rfl⟩⟩
    · have h2 : wantF ops (⟨d, op, ty, pos, es, some (j, want)⟩ : Oper) (ovr stab.flatten g ρ) = false := by
        simp only [wantF, hj]
        exact hv g
      have hf : wantF ops (⟨d, op, ty, pos, es, some (j, want)⟩ : Oper) (ovr stab.flatten g ρ) = true := hf
      rw [h2] at hf; cases hf
    · have := outOf_eq (g := g) (v := undef) ho M
      show Wd Γ' (K ++ (cellsAt tc stab i M (putO g d undef) ++ Y)) w
      rw [this]; exact hw
  · simp only [Mt.next, hn]; exact h
end
theorem y_negW {P : Program} {ρ : Fr} {w : World} {d : Option Tmp} {T ty : TypeId} {pos : String} {es : Array Edge} {g : Option (Nat × Bool)} {x : Operand} {k : IntKind} {a : Int} (hx : ev ρ x = .int k a) : Yields P ⟨d, .unOp .neg T x, ty, pos, es, g⟩ ρ w (.int k (k.wrap (-a))) := by
  unfold Yields; simp [execOp, go_sem, hx, Op.unary, Op.intArith]
end Mk
end
/- A string is appended to owned bytes; a pointer is turned into an unsafe one and back; the string of some bytes. -/
section
open Go
namespace Mk
attribute [local irreducible] Calls
def bRows (l : List UInt8) : List (List Value) := l.map fun b => [.int .u8 b.toNat]
theorem bRows_flat : ∀ l : List UInt8, (bRows l).flatten = Go.Lib.byteCells l
  | [] => rfl
  | b :: l => by
    show [Value.int .u8 b.toNat] ++ (bRows l).flatten = _
    rw [bRows_flat l]; rfl
theorem bRows_len (l : List UInt8) : (bRows l).length = l.length := List.length_map ..
theorem bRows_app (l k : List UInt8) : bRows (l ++ k) = bRows l ++ bRows k := List.map_append ..
section
variable {P : Program} {Γ : Gho} {S : List Res} {w : World} {ρ : Fr} {K : Value → World → Prop} {d : Option Tmp} {T U ty : TypeId} {pos : String} {es : Array Edge} {g : Option (Nat × Bool)} {x y z : Operand}
theorem run_appStr_none (t u ty e : TypeId) (q : TypeInfo) (ht : P.underlying t = some (.slice e)) (hu : P.underlying u = some .string) (hi : P.info? e = some q) (a : Option Addr) (n c : Nat) (h : n ≤ c) (s : ByteArray) (hs : s.size = 0) :
    (Builtin.append_ #[t, u] ty #[.slice a n c, .string s]).run P w = .ok (.slice a n c) w := by
  have he : s = ⟨#[]⟩ := eq_nilB.2 hs
  subst he
  cases a <;> simp [Builtin.append_, run_underlying ht, run_underlying hu, Go.sizeOf, typeInfo, hi, Builtin.lenOf, h, hs, Builtin.firstCells, loadCells, loadCellsFrom, storeCells]
theorem own_mk {v : Value} {e sz : Nat} {rows : List (List Value)} {m h : Hp} {bs : List Nat} (q : (∀ r ∈ rows, r.length = sz) ∧ ∃ a n c, v = .slice a n c ∧ n = rows.length ∧ n ≤ c ∧ c ≤ maxLen ∧ ((c = 0 ∧ bs = []) ∨ ∃ g cur, a = some ⟨g, 0, none⟩ ∧ bs = [g] ∧ h g = some (.cells cur e (0, 0)) ∧ cur.size = c * sz ∧ cur.toList.take (n * sz) = rows.flatten)) : (Res.own v e sz rows).holds m bs h := by
  unfold Res.own; exact q
theorem run_appStr_res {E : Nat} {a : Option Addr} {n c : Nat} {l : List UInt8} {s : ByteArray} {bs : List Nat} {mm : Hp} [hT : TL P T E 1 1 [.int .u8 0]] [hU : TStr P U]
    (hown : (Res.own (.slice a n c) E 1 (bRows l)).holds mm bs (hp w)) (hb : n + s.size ≤ 140737488355328) :
    ∃ v' w' bs', (Builtin.append_ #[T, U] ty #[.slice a n c, .string s]).run P w = .ok v' w' ∧ Same3 w w' ∧ (Res.own v' E 1 (bRows (l ++ s.data.toList))).holds mm bs' (hp w') ∧ bs'.Nodup ∧ (∀ b ∈ bs', b < w'.heap.size ∧ (b ∈ bs ∨ w.heap.size ≤ b)) ∧ (∀ k, k < w.heap.size → k ∉ bs → w'.heap[k]? = w.heap[k]?) ∧ (s.size = 0 → v' = .slice a n c) := by
  obtain ⟨q, hq, hs, hby⟩ := sizeBytes_info hT.s
  obtain ⟨q', z, hq', hz, hzc⟩ := zeroOf_info hT.z
  rw [hq] at hq'; cases hq'
  have hrd := own_rd_of hown
  unfold Res.own at hown
  obtain ⟨h0, a', n', c', e1, e2, e3, e4, e5⟩ := hown
  cases e1
  rw [bRows_len] at e2
  have hzs : z.cells.size = 1 := by rw [hzc]; rfl
  have hsl : s.data.toList.length = s.size := by simp
  have hl2 : (Go.Lib.strCells s).length = s.size := Go.Lib.strCells_length s
  have hrows : ∀ r ∈ bRows (l ++ s.data.toList), r.length = 1 := fun r hr => by
    obtain ⟨b, -, rfl⟩ := List.mem_map.1 hr
    rfl
  have hflat : (bRows (l ++ s.data.toList)).flatten = Go.Lib.byteCells l ++ Go.Lib.strCells s := by rw [bRows_flat, Go.Lib.byteCells_append]; rfl
  have hbl : (Go.Lib.byteCells l).length = l.length := Go.Lib.byteCells_length l
  have hrl : (bRows (l ++ s.data.toList)).length = n + s.size := by rw [bRows_len, List.length_append, hsl, e2]
  by_cases hm0 : s.size = 0
  · have hl : s.data.toList = [] := List.eq_nil_of_length_eq_zero (by rw [hsl]; exact hm0)
    refine ⟨_, w, bs, run_appStr_none T U ty E q hT.h hU.h hq _ _ _ e3 s hm0, ⟨rfl, rfl, rfl, (by first | exact Nat.le_refl _ | exact Nat.le_succ _), Nat.le_refl _⟩, ?_, ?_, ?_, fun _ _ _ => rfl, fun _ => rfl⟩
    · rw [hl, List.append_nil]; exact own_mk ⟨h0, _, _, _, rfl, by rw [bRows_len]; exact e2, e3, e4, e5⟩
    · rcases e5 with ⟨_, rfl⟩ | ⟨g, cur, _, rfl, _⟩ <;> simp
    · rcases e5 with ⟨_, rfl⟩ | ⟨g, cur, _, rfl, g3, _⟩
      · simp
      · intro b hb'
        simp at hb'
        subst hb'
        exact ⟨(Array.getElem?_eq_some_iff.1 g3).1, .inl (by simp)⟩
  · have hpos : 0 < s.size := by omega
    have h63' : ((n + s.size : Nat) : Int) ≤ 9223372036854775807 := by omega
    have grown : ∀ old, old < n + s.size → ∃ bs', (Res.own (.slice (some ⟨w.heap.size, 0, none⟩) (n + s.size) (grownCap w (n + s.size) old E)) E 1 (bRows (l ++ s.data.toList))).holds mm bs' (hp (w.drew.alloc (.cells ((Go.Lib.byteCells l).toArray ++ (Go.Lib.strCells s).toArray ++ Builtin.zeroCells z.cells (grownCap w (n + s.size) old E - (n + s.size))) E))) ∧
        bs'.Nodup ∧ (∀ b ∈ bs', b < (w.drew.alloc (.cells ((Go.Lib.byteCells l).toArray ++ (Go.Lib.strCells s).toArray ++ Builtin.zeroCells z.cells (grownCap w (n + s.size) old E - (n + s.size))) E)).heap.size ∧ (b ∈ bs ∨ w.heap.size ≤ b)) := by
      intro old ho
      have hge := grownCap_ge w (n + s.size) old E
      have hcm : grownCap w (n + s.size) old E ≤ maxLen := grownCap_le_maxLen w (n + s.size) old E (by simp [maxLen]; omega)
      refine ⟨[w.heap.size], own_mk ⟨hrows, _, _, _, rfl, hrl.symm, hge, hcm, .inr ⟨w.heap.size, _, rfl, rfl, heap_alloc_new w.drew _, ?_, ?_⟩⟩, by simp, by simp⟩
      · simp only [Array.size_append, List.size_toArray, size_zeroCells, hzs, hbl, hl2]
        omega
      · simp only [Array.toList_append, List.append_assoc]
        rw [hflat, ← List.append_assoc, show (n + s.size) * 1 = (Go.Lib.byteCells l ++ Go.Lib.strCells s).length from by rw [List.length_append, hbl, hl2]; omega]
        exact List.take_left
    have same : ∀ o, Same3 w (w.drew.alloc o) := fun o => ⟨rfl, rfl, rfl, (by first | exact Nat.le_refl _ | exact Nat.le_succ _), by simp⟩
    have old_ : ∀ o k, k < w.heap.size → (w.drew.alloc o).heap[k]? = w.heap[k]? := fun o k hk => heap_alloc_old w.drew o hk
    by_cases hroom : n + s.size ≤ c
    · rcases e5 with ⟨hc0, _⟩ | ⟨g, cur, rfl, rfl, g3, g4, g5⟩
      · omega
      · have hfit : n + s.size ≤ cur.size := by rw [g4]; omega
        have hr := Go.Lib.run_append_room_string (P := P) w T U ty E q hT.h hU.h hq hs g n c cur g3 s hroom hfit
        refine ⟨_, _, [g], hr, ⟨rfl, rfl, rfl, (by first | exact Nat.le_refl _ | exact Nat.le_succ _), by simp⟩, own_mk ⟨hrows, _, _, _, rfl, hrl.symm, hroom, e4, .inr ⟨g, _, rfl, rfl, setRow_heap w g cur _ E _ g3, ?_, ?_⟩⟩, by simp, ?_, fun k hk hne => setRow_other w g k _ (by simpa using hne), fun hz => absurd hz hm0⟩
        · simp only [List.size_toArray, List.length_append, List.length_take, List.length_drop, Array.length_toList, hl2]; omega
        · show List.take _ (List.toArray _).toList = _
          rw [Nat.mul_one] at g5
          rw [g5, hflat, bRows_flat, show (n + s.size) * 1 = (Go.Lib.byteCells l ++ Go.Lib.strCells s).length from by rw [List.length_append, hbl, hl2]; omega]
          exact List.take_left
        · intro b hb'; simp at hb'; subst hb'
          exact ⟨by have := (Array.getElem?_eq_some_iff.1 g3).1; simpa using this, .inl (by simp)⟩
    · obtain ⟨bs', hb1, hb2, hb3⟩ := grown c (by omega)
      cases ha : a with
      | none =>
        have hn0 : n = 0 := by
          rcases Nat.eq_zero_or_pos n with h | h
          · exact h
          · have := hrd.at_ (by rw [bRows_len]; omega); rw [ha] at this; cases this
        have hc0 : c = 0 := by
          rcases e5 with ⟨hc0, _⟩ | ⟨g, cur, h', _⟩
          · exact hc0
          · rw [ha] at h'; cases h'
        subst hn0; subst hc0
        have hln : l = [] := List.eq_nil_of_length_eq_zero e2.symm
        subst hln
        have hr := run_append_nil_string (P := P) w T U ty E q z hT.h hU.h hq hz s hpos (by omega) (by rw [hby]; omega)
        simp only [Nat.zero_add, show (Go.Lib.byteCells []).toArray = #[] from rfl, Array.empty_append] at hb1 hb3 ⊢
        have hcs : (Go.Lib.strCells s).toArray = s.data.map fun b => Value.int .u8 b.toNat := by
          apply Array.ext'
          simp [Go.Lib.strCells]
        rw [hcs] at hb1 hb3
        exact ⟨_, _, bs', hr, same _, hb1, hb2, hb3, fun k hk _ => old_ _ k hk, fun hz => absurd hz hm0⟩
      | some b0 =>
        have hold : ∀ j u, (Go.Lib.byteCells l)[j]? = some u → w.cell? (b0.add j) = some u := fun j u hj => by
          have hp0 : 0 < (bRows l).length := by
            rw [bRows_len]
            have := (List.getElem?_eq_some_iff.1 hj).1
            rw [hbl] at this; omega
          have h2 := hrd.at_ hp0
          rw [ha] at h2
          have h3 : b0 = ⟨aB (some b0), aO (some b0), none⟩ := Option.some.inj h2
          have := hrd.range j u (by rw [bRows_flat]; exact hj)
          rw [ha] at this
          have h4 : w.cell? ((⟨aB (some b0), aO (some b0), none⟩ : Addr).add j) = some u := by rw [Addr.add_mid]; exact this
          rwa [← h3] at h4
        have hr := Go.Lib.run_append_grow_string (P := P) w T U ty E q z hT.h hU.h hq hz b0 n c (Go.Lib.byteCells l) (by rw [hbl, hs, Nat.mul_one]; exact e2.symm) hold s (by omega) h63' (by rw [hby]; exact growslice_fits (by omega) (by omega))
        exact ⟨_, _, bs', hr, same _, hb1, hb2, hb3, fun k hk _ => old_ _ k hk, fun hz => absurd hz hm0⟩
theorem s_appStr {E i : Nat} {a : Option Addr} {n c : Nat} {l : List UInt8} {s : ByteArray} [hT : TL P T E 1 1 [.int .u8 0]] [hU : TStr P U] (hw : Wd Γ S w) (hx : ev ρ x = .slice a n c) (hy : ev ρ y = .string s)
    (hi : S[i]? = some (.own (.slice a n c) E 1 (bRows l))) (hb : n + s.size ≤ 140737488355328)
    (hk : ∀ v' w', (s.size = 0 → v' = .slice a n c) → Wd Γ (S.set i (.own v' E 1 (bRows (l ++ s.data.toList)))) w' → K v' w') : Step P ⟨d, .call { callee := .builtin .append, args := #[x, y], argTypes := #[T, U] }, ty, pos, es, g⟩ ρ w K := by
  obtain ⟨bss, h2, h3, h4⟩ := hw.own
  obtain ⟨bs, hbs, hown⟩ := Holds.get S bss i _ h2 hi
  obtain ⟨v', w', bs', hr, hs, hh, hnd, hbb, hkk, hfit⟩ := run_appStr_res (P := P) (T := T) (U := U) (ty := ty) hown hb
  have hfin : K v' w' := hk v' w' hfit (hw.upd hi hs fun bs2 hr2' hnd2 hlt2 => by
    obtain ⟨v2, w2, bs2', q1, q2, q3, q4, q5, q6, -⟩ := run_appStr_res (P := P) (T := T) (U := U) (ty := ty) hr2' hb
    rw [hr] at q1; cases q1
    exact ⟨bs2', q3, q4, q5, q6⟩)
  have hrr : (execOp (ev ρ) ⟨d, .call { callee := .builtin .append, args := #[x, y], argTypes := #[T, U] }, ty, pos, es, g⟩).run P w = .ok (.value v') w' := by
    simp only [execOp, resolve, invoke, builtin, Sem.run_bind, Sem.run_pure, Result.andThen_ok, List.map_toArray, List.map_cons, List.map_nil, hx, hy, hr]
  unfold Step
  rw [hrr]
  exact hfin
theorem lAppStr {n : Nat} {opa : Array Oper} {QQ : Exit → Fr → World → Prop} {rest : List Oper} {E i : Nat} {a : Option Addr} {m c : Nat} {l : List UInt8} {s : ByteArray} [TL P T E 1 1 [.int .u8 0]] [TStr P U]
    (h : ∀ v' w', (s.size = 0 → v' = .slice a m c) → Wd Γ (S.set i (.own v' E 1 (bRows (l ++ s.data.toList)))) w' → L P n opa QQ rest (putO ρ d v') w') (hb : m + s.size ≤ 140737488355328) (hw : Wd Γ S w := by exact hw) (hx : ev ρ x = .slice a m c := by exact rfl) (hy : ev ρ y = .string s := by exact rfl)
    (hi : S[i]? = some (.own (.slice a m c) E 1 (bRows l)) := by exact byIX) (hd : okDst n d = true := by exact rfl) : L P n opa QQ (⟨d, .call { callee := .builtin .append, args := #[x, y], argTypes := #[T, U] }, ty, pos, es, none⟩ :: rest) ρ w :=
  L_step rfl hd (s_appStr hw hx hy hi hb h)
theorem shape_of {b : Nat} {cs : Array Value} {E : TypeId} {fr : Nat × Nat} (h : w.heap[b]? = some (.cells cs E fr)) : w.shape? b = some (E, cs.size) := by simp [World.shape?, h]
theorem y_toUnsafe {b o i t E : Nat} {cs : Array Value} {fr : Nat × Nat} {j : TypeInfo} (hs : P.underlying T = some (.pointer t)) (hd : P.underlying U = some .unsafePointer) (ht : P.info? t = some j) (hj : j.size ≠ 0) (hw : Wd Γ S w) (hx : ev ρ x = .pointer (some ⟨b, o, none⟩)) (hi : S[i]? = some (.blk b (.cells cs E fr))) (ho : o < cs.size) :
    Yields P ⟨d, .convert T U x, ty, pos, es, g⟩ ρ w (.pointer (some ⟨b, o, none⟩)) := by
  have := Go.Lib.run_to_unsafe (P := P) w (⟨b, o, none⟩ : Addr) hs hd ht hj (shape_of (hw.at_blk hi)) ho
  unfold Yields; simp [execOp, go_sem, hx, this]
theorem y_fromUnsafe {b o i u E : Nat} {cs : Array Value} {fr : Nat × Nat} {j : TypeInfo} (hs : P.underlying T = some .unsafePointer) (hd : P.underlying U = some (.pointer u)) (hu : P.info? u = some j) (hw : Wd Γ S w) (hx : ev ρ x = .pointer (some ⟨b, o, none⟩)) (hi : S[i]? = some (.blk b (.cells cs E fr))) (hl : liesAt P P.depth E (cs.size / P.cellsOf E) o u 1 = true) :
    Yields P ⟨d, .convert T U x, ty, pos, es, g⟩ ρ w (.pointer (some ⟨b, o, none⟩)) := by
  have := Go.Lib.run_from_unsafe (P := P) w (⟨b, o, none⟩ : Addr) hs hd hu (shape_of (hw.at_blk hi)) hl
  unfold Yields; simp [execOp, go_sem, hx, this]
theorem y_neqPP {A : Addr} {te : Nat} {j : TypeInfo} (hp : P.underlying T = some (.pointer te)) (hte : P.info? te = some j) (hx : ev ρ x = .pointer (some A)) (hy : ev ρ y = .pointer (some A)) : Yields P ⟨d, .binOp .neq T x y U, ty, pos, es, g⟩ ρ w (.bool false) := by
  have := Go.Lib.run_neq_ptr_same (P := P) w A hp hte
  unfold Yields; simp [execOp, go_sem, hx, hy, this]
theorem y_sliceData {a : Addr} {n c : Nat} (hx : ev ρ x = .slice (some a) n c) (hc : c ≠ 0) : Yields P ⟨d, .call { callee := .builtin .unsafeSliceData, args := #[x], argTypes := #[T] }, ty, pos, es, g⟩ ρ w (.pointer (some a)) := by
  have := Go.Lib.run_unsafeSliceData_row (P := P) w #[T] ty a n c hc
  unfold Yields; simp [execOp, go_sem, hx]
  simp [builtin, this]
theorem y_sliceDataN {n c : Nat} (hx : ev ρ x = .slice none n c) : Yields P ⟨d, .call { callee := .builtin .unsafeSliceData, args := #[x], argTypes := #[T] }, ty, pos, es, g⟩ ρ w (.pointer none) := by
  have := Go.Lib.run_unsafeSliceData_nil (P := P) w #[T] ty n c
  unfold Yields; simp [execOp, go_sem, hx]
  simp [builtin, this]
theorem y_unsafeStrN {p : Option Addr} (hx : ev ρ x = .pointer p) (hy : ev ρ y = .int .i64 0) : Yields P ⟨d, .call { callee := .builtin .unsafeString, args := #[x, y], argTypes := #[T, U] }, ty, pos, es, g⟩ ρ w (.string ⟨#[]⟩) := by
  have := Go.Lib.run_unsafeString_none (P := P) w T U ty p
  unfold Yields; simp [execOp, go_sem, hx, hy]
  simp [builtin, this]; rfl
/-- The bytes become a string; what owned them is given up. -/
theorem s_unsafeStr {E n c : Nat} {a : Addr} {l : List UInt8} {R : List Res} (hp : P.underlying T = some (.pointer E)) (hc : P.cellsOf E = 1) (hw : Wd Γ (.own (.slice (some a) n c) E 1 (bRows l) :: R) w) (hx : ev ρ x = .pointer (some a)) (hy : ev ρ y = .int .i64 (l.length : Nat)) (h0 : l ≠ [])
    (hk : ∀ w', Wd Γ R w' → K (.string ⟨l.toArray⟩) w') : Step P ⟨d, .call { callee := .builtin .unsafeString, args := #[x, y], argTypes := #[T, U] }, ty, pos, es, g⟩ ρ w K := by
  obtain ⟨bss, h2, h3, h4⟩ := hw.own
  obtain ⟨bs, bss, rfl⟩ : ∃ b c, bss = b :: c := by cases bss with | nil => exact h2.elim | cons b c => exact ⟨_, _, rfl⟩
  obtain ⟨hown, hrest⟩ := h2
  have hrd := own_rd_of hown
  unfold Res.own at hown
  obtain ⟨q0, a', n', c', e1, e2, e3, e4, e5⟩ := hown
  cases e1
  rw [bRows_len] at e2
  have hl0 : l.length ≠ 0 := by simpa using h0
  rcases e5 with ⟨hc0, _⟩ | ⟨b, cur, g1, rfl, g3, g4, g5⟩
  · omega
  · cases g1
    have hsh : w.shape? b = some (E, cur.size) := by simp [World.shape?, show w.heap[b]? = some (.cells cur E (0, 0)) from g3]
    have hr := Go.Lib.run_unsafeString_row (P := P) w T U ty E hp hc b cur.size hsh l h0 (by rw [g4]; omega) (by simp only [maxLen] at e4; omega) (fun j x hx => by
      have := hrd.range j (.int .u8 x.toNat) (by rw [bRows_flat]; simp [Go.Lib.byteCells, hx])
      rw [Addr.add_lit]
      simpa [aB, aO] using this)
    have hw' : Wd Γ R (w.freeze ⟨b, 0, none⟩ l.length) := by
      have hne : ∀ k, k ≠ b → (w.freeze ⟨b, 0, none⟩ l.length).heap[k]? = w.heap[k]? := fun k hk => by
        unfold World.freeze
        rw [if_neg hl0]
        show (w.heap.modify b _)[k]? = _
        rw [Array.getElem?_modify, if_neg (Ne.symm hk)]
      have hsz : (w.freeze ⟨b, 0, none⟩ l.length).heap.size = w.heap.size := by
        simp [World.freeze, hl0]
      have hos : (w.freeze ⟨b, 0, none⟩ l.length).os = w.os ∧ (w.freeze ⟨b, 0, none⟩ l.length).tape = w.tape ∧ (w.freeze ⟨b, 0, none⟩ l.length).output = w.output ∧ (w.freeze ⟨b, 0, none⟩ l.length).drawn = w.drawn := by
        simp [World.freeze, hl0]
      have hnb : b ∉ bss.flatten := by
        rw [List.flatten_cons, List.nodup_append] at h3
        exact fun hb => h3.2.2 b (by simp) b hb rfl
      have hbi : Γ.imm b = none := (h4 b (by simp)).2
      refine ⟨hos.1.trans hw.os, hos.2.1.trans hw.tape, hos.2.2.1.trans hw.out, by rw [hos.2.2.2]; exact hw.dr, fun k o ho => ?_, bss, ?_, ?_, fun k hk => ?_⟩
      · rw [hne k (fun e => by subst e; rw [hbi] at ho; cases ho)]
        exact hw.imm k o ho
      · exact Holds.loc (fun _ _ h => h) R bss (fun k hk => hne k (fun e => by subst e; exact hnb hk)) hrest
      · rw [List.flatten_cons, List.nodup_append] at h3; exact h3.2.1
      · rw [hsz]; exact h4 k (by rw [List.flatten_cons]; exact List.mem_append_right _ hk)
    have hrr : (execOp (ev ρ) ⟨d, .call { callee := .builtin .unsafeString, args := #[x, y], argTypes := #[T, U] }, ty, pos, es, g⟩).run P w = .ok (.value (.string ⟨l.toArray⟩)) (w.freeze ⟨b, 0, none⟩ l.length) := by
      simp only [execOp, resolve, invoke, builtin, Sem.run_bind, Sem.run_pure, Result.andThen_ok, List.map_toArray, List.map_cons, List.map_nil, hx, hy, hr]
    unfold Step
    rw [hrr]
    exact hk _ hw'
end
end Mk
end
/- A call that changes one cell of a drawn region in a known way. -/
section
open Go
namespace Mk
attribute [local irreducible] Calls
section
variable {P : Program} {n : Nat} {ops : List Oper} {Γ : Gho} {K : List Res} {wr tc stab : List (List Nat)} {Q : Fr → World → Prop} {i : Nat} {rest : List Oper} {ρ : Fr} {M : Nat → Fr → List Res}
variable {d : Option Tmp} {ty : TypeId} {pos : String} {es : Array Edge} {f : Nat} {args : List Operand} {tys : Array TypeId} {vs : List Value} {v : Value}
theorem mCallS {c : Nat} {X : List Res} (X' : List Res) [FnOk P f] (hs : ∀ R w, Wd Γ (X ++ R) w → Calls P f vs.toArray w fun e w' => e = .returned v ∧ Wd Γ (X' ++ R) w')
    (h : MSw (mV P n ops Γ K wr tc stab) Q (i + 1) rest ⟨putO ρ d v, setC M c fun _ => X'⟩) (hM : M c = fun _ => X := by first | exact setC_self | exact ml1 | exact ml2 | exact rfl) (hw0 : wr.getD i [] = [c] := by exact rfl) (ht : tc.getD i [] = [c] := by exact rfl) (ha : ∀ g, EvL (ovr stab.flatten g ρ) args vs := by intro g; exact byEV) :
    MSw (mV P n ops Γ K wr tc stab) Q i (⟨d, .call { callee := .value (.func f), args := args.toArray, argTypes := tys }, ty, pos, es, none⟩ :: rest) ⟨ρ, M⟩ :=
  mS (F := fun _ => X) (fun _ => X') (fun g w Y hw => s_call (ha g).eqA ((hs _ w hw).mono fun e w' ⟨h1, h2⟩ => ⟨v, h1, fun _ => rfl, h2⟩)) h hM hw0 ht rfl
/-- A call that keeps all that is owned beside it. -/
theorem mCallK [FnOk P f] (hs : ∀ Y w, Wd Γ (K ++ Y) w → Calls P f vs.toArray w fun e w' => e = .returned v ∧ Wd Γ (K ++ Y) w') (h : MSw (mV P n ops Γ K wr tc stab) Q (i + 1) rest ⟨putO ρ d v, M⟩) (hw0 : wr.getD i [] = [] := by exact rfl) (ho : outOf tc stab i d = true := by exact rfl) (ha : ∀ g, EvL (ovr stab.flatten g ρ) args vs := by intro g; exact byEV) :
    MSw (mV P n ops Γ K wr tc stab) Q i (⟨d, .call { callee := .value (.func f), args := args.toArray, argTypes := tys }, ty, pos, es, none⟩ :: rest) ⟨ρ, M⟩ :=
  mC (fun Y w g hw => s_call (ha g).eqA ((hs _ w hw).mono fun e w' ⟨h1, h2⟩ => ⟨v, h1, rfl, h2⟩)) hw0 rfl ho h
theorem qPsv {S : List Res} {t : Tmp} {cap : List Value} [FnOk P f] (hc : ∀ Y w, Wd Γ (S ++ Y) w → Calls P f (vs ++ cap).toArray w fun e w' => e = .returned v ∧ Wd Γ (S ++ Y) w') (h : Qw P n ops Γ S Q rest (putO ρ d v)) (ht : ρ t = .func (.func f) #[] cap.toArray := by exact rfl) (ha : EvL ρ args vs := by exact byEV) :
    Qw P n ops Γ S Q (⟨d, .call { callee := .value (.tmp t), args := args.toArray, argTypes := tys }, ty, pos, es, none⟩ :: rest) ρ :=
  Q_c rfl rfl (fun Y w hw => s_callv ht ha.eqA (by simpa using (hc Y w hw).mono fun e w' ⟨h1, h2⟩ => ⟨v, h1, rfl, h2⟩)) h
theorem wd_nil {S : List Res} {w : World} (hw : Wd Γ S w) : Wd Γ [] w := ⟨hw.os, hw.tape, hw.out, hw.dr, hw.imm, [], trivial, by simp, by simp⟩
/-- A call below which nothing changes, where the tape does not matter. -/
theorem wd_below {S : List Res} {w w' : World} (h0 : Γ.dr = 0) (hw : Wd Γ S w) (h : Go.RowKit.Below w.heap.size w w') : Wd Γ S w' := by
  have hk : ∀ k, k < w.heap.size → w'.heap[k]? = w.heap[k]? := h.block
  obtain ⟨h1, h2, h3, h4, h5, bss, h6, h7, h8⟩ := hw
  refine ⟨h.os.trans h1, h.tape.trans h2, h.output.trans h3, by rw [h0]; exact Nat.zero_le _, fun b o hb => ?_, bss, Holds.loc (fun b o h => h) S bss (fun b hb => hk b (h8 b hb).1) h6, h7, fun b hb => ⟨Nat.lt_of_lt_of_le (h8 b hb).1 h.size, (h8 b hb).2⟩⟩
  have h9 := h5 b o hb
  rw [hk b (Array.getElem?_eq_some_iff.1 h9).1]; exact h9
end
end Mk
end
/- A call in a drawn region that changes one cell, its answer held by an open slot. -/
section
open Go
namespace Mk
attribute [local irreducible] Calls
section
variable {P : Program} {n : Nat} {ops : List Oper} {Γ : Gho} {K : List Res} {wr tc stab : List (List Nat)} {Q : Fr → World → Prop} {i : Nat} {rest : List Oper} {ρ : Fr} {M : Nat → Fr → List Res}
variable {d : Option Tmp} {ty : TypeId} {pos : String} {es : Array Edge} {f : Nat} {args : List Operand} {tys : Array TypeId}
theorem mCallG {c : Nat} {F : Fr → List Res} (F' : Fr → List Res) (vs : Fr → List Value) [FnOk P f]
    (hs : ∀ g w Y, Wd Γ (F (ovr (stab.getD c []) g noFr) ++ (K ++ Y)) w → Calls P f (vs (ovr (stab.getD c []) g noFr)).toArray w fun e w' => ∃ u, e = .returned u ∧ Wd Γ (F' (ovr (stab.getD c []) (putO g d u) noFr) ++ (K ++ Y)) w')
    (h : MSw (mV P n ops Γ K wr tc stab) Q (i + 1) rest ⟨putO ρ d undef, setC M c F'⟩) (hM : M c = F := by first | exact setC_self | exact ml1 | exact ml2 | exact ((setC_other (by decide)).trans setC_self) | exact rfl) (hw0 : wr.getD i [] = [c] := by exact rfl) (ht : tc.getD i [] = [c] := by exact rfl) (hfr : freeD stab d = true := by exact rfl) (ha : ∀ g, EvL (ovr stab.flatten g ρ) args (vs (ovr (stab.getD c []) g noFr)) := by intro g; exact byEV) :
    MSw (mV P n ops Γ K wr tc stab) Q i (⟨d, .call { callee := .value (.func f), args := args.toArray, argTypes := tys }, ty, pos, es, none⟩ :: rest) ⟨ρ, M⟩ :=
  mS (v := undef) F' (fun g w Y hw => s_call (ha g).eqA ((hs g w Y hw).mono fun e w' ⟨u, h1, h2⟩ => ⟨u, h1, fun hh => (by rw [hfr] at hh; cases hh), h2⟩)) h hM hw0 ht rfl
/-- A truth that is known. -/
theorem mT {b : Bool} {o : Oper} (hb : b = true) (h : MSw (mV P n ops Γ K wr tc stab) Q (i + 1) rest ⟨putO ρ o.dst (.bool true), M⟩) (hw0 : wr.getD i [] = [] := by exact rfl) (hg : o.guard = none := by exact rfl) (ho : outOf tc stab i o.dst = true := by exact rfl)
    (hy : ∀ Y w g, Wd Γ (K ++ (cellsAt tc stab i M g ++ Y)) w → Yields P o (ovr stab.flatten g ρ) w (.bool b) := by (intro Y w g hw; exact byPU)) : MSw (mV P n ops Γ K wr tc stab) Q i (o :: rest) ⟨ρ, M⟩ := by
  subst hb
  exact mC (fun Y w g hw => (hy Y w g hw).step ⟨rfl, hw⟩) hw0 hg ho h
end
end Mk
end
/- The check on a drawn region's text, with ancestors held as bits of a number: it serves long chains. -/
section
open Go
namespace Mk
def maskL (done : List Nat) : List Edge → Nat → Nat
  | [], m => m
  | e :: es, m => maskL done es (if Region.binds .any e then (m ||| (1 <<< e.on)) ||| done.getD e.on 0 else m)
def masks : List Nat → List Oper → List Nat
  | done, [] => done
  | done, o :: l => masks (done ++ [maskL done o.after.toList 0]) l
theorem maskL_spec {done : List Nat} {dl : List (List Nat)} (h : ∀ j i, (done.getD j 0).testBit i = true → i ∈ dl.getD j []) : ∀ (es : List Edge) (m i : Nat), (maskL done es m).testBit i = true → m.testBit i = true ∨ i ∈ es.flatMap fun e => if Region.binds .any e then e.on :: (dl.getD e.on []) else []
  | [], m, i, hi => .inl hi
  | e :: es, m, i, hi => by
    rw [List.flatMap_cons]
    rcases maskL_spec h es _ i hi with q | q
    · split at q
      · rename_i hb
        rw [if_pos hb]
        rw [Nat.testBit_or, Nat.testBit_or, Bool.or_eq_true, Bool.or_eq_true] at q
        rcases q with (q | q) | q
        · exact .inl q
        · rw [Nat.one_shiftLeft, Nat.testBit_two_pow] at q
          have q := of_decide_eq_true q
          exact .inr (by rw [q]; simp)
        · exact .inr (List.mem_append_left _ (List.mem_cons_of_mem _ (h _ _ q)))
      · exact .inl q
    · exact .inr (List.mem_append_right _ q)
theorem getD_snoc {α : Type} {l : List α} {x d : α} {j : Nat} : (l ++ [x]).getD j d = if j < l.length then l.getD j d else if j = l.length then x else d := by
  rw [List.getD_eq_getElem?_getD, List.getD_eq_getElem?_getD]
  split
  · rename_i h; rw [List.getElem?_append_left h]
  · rename_i h
    rw [List.getElem?_append_right (by omega)]
    split
    · rename_i e; rw [e, Nat.sub_self]; rfl
    · rw [List.getElem?_eq_none (by simp; omega)]; rfl
theorem masks_spec : ∀ (ops : List Oper) (done : List Nat) (dl : List (List Nat)), done.length = dl.length → (∀ j i, (done.getD j 0).testBit i = true → i ∈ dl.getD j []) → ∀ j i, ((masks done ops).getD j 0).testBit i = true → i ∈ (ancs dl ops).getD j []
  | [], _, _, _, h, j, i, hi => h j i hi
  | o :: ops, done, dl, hl, h, j, i, hi => by
    refine masks_spec ops _ _ (by simp [hl]) (fun j i hi => ?_) j i hi
    rw [getD_snoc] at hi ⊢
    rw [← hl]
    split
    · rename_i hj; rw [if_pos hj] at hi; exact h j i hi
    · rename_i hj
      rw [if_neg hj] at hi
      split
      · rename_i e
        rw [if_pos e] at hi
        rcases maskL_spec h _ _ _ hi with q | q
        · simp at q
        · exact q
      · rename_i e
        rw [if_neg e] at hi
        simp at hi
def checkMB (n : Nat) (ops : List Oper) (wr tc stab : List (List Nat)) : Bool :=
  let A := masks [] ops
  (List.range ops.length).all fun j => match ops[j]? with
    | none => true
    | some oj => (oj.after.toList.all fun e => !Region.binds .any e || Nat.blt e.on j) && checkR.okNoSel oj && (match oj.guard with | some (g, _) => ((ops[g]?).bind (·.dst)).isSome | none => true) && okDst n oj.dst &&
      ((wr.getD j []).all fun x => (tc.getD j []).contains x) && ((tc.getD j []).all fun x => Nat.blt x stab.length) && !dup (tc.getD j []) &&
      (match oj.dst with | some d => (List.range stab.length).all fun x => !((stab.getD x []).contains d) || (wr.getD j []).contains x | none => true) &&
      ((List.range j).all fun i => match ops[i]? with
        | none => true
        | some oi => (apartR ops oi oj && !clash wr tc i j) || (A.getD j 0).testBit i)
theorem checkM_B {n : Nat} {ops : List Oper} {wr tc stab : List (List Nat)} (h : checkMB n ops wr tc stab = true) : checkM n ops wr tc stab = true := by
  have hA := masks_spec ops [] [] rfl (fun j i hi => by simp at hi)
  unfold checkMB at h
  unfold checkM
  rw [List.all_eq_true] at h ⊢
  intro j hj
  have h1 := h j hj
  cases ho : ops[j]? with
  | none => rfl
  | some oj =>
    simp only [ho, Bool.and_eq_true] at h1 ⊢
    refine ⟨h1.1, ?_⟩
    rw [List.all_eq_true]
    intro i hi
    have h2 := (List.all_eq_true.1 h1.2) i hi
    cases ho2 : ops[i]? with
    | none => rfl
    | some oi =>
      simp only [ho2, Bool.or_eq_true] at h2 ⊢
      refine h2.imp id fun q => ?_
      rw [List.contains_iff_mem]
      exact hA j i q
end Mk
end
/- Numbers as texts (strconv.FormatUint at base 10: the shelf has none), and the library's table of powers. -/
section
open Go Mk
namespace Go.Proofs.YtimbobmmijgkiaaGreatDoor
open Go.Shelf Go.RowKit Go.Sort Go.Lib
set_option maxHeartbeats 16000000

set_option maxRecDepth 100000 in
theorem fmtUint_in (u : Nat) (hu64 : u < 18446744073709551616) (w : World) (htab : Lib.TabIs Tryz.prog w "internal/strconv.uint64pow10" .u64 Lib.pow10Tab) :
    Calls Tryz.prog 112 #[.int .u64 u, .int .i64 10] w fun e w' => e = .returned (.string ⟨(Lib.decDigits u).toArray⟩) ∧ ∃ k os, w' = Go.Sort.grow (w.drewN k) os := by
  have L : Go.Proofs.LaysM.n246 Tryz.prog lay_itoa_ren := { lay_itoa with }
  have mixed := L.mixed
  have e283 : ∀ args w, (callFunc 158 args).run Tryz.prog w = .ok (.enter 158 args) w := enters_of L.f283 (by kernel_rfl) rfl
  have e284 : ∀ args w, (callFunc 159 args).run Tryz.prog w = .ok (.enter 159 args) w := enters_of L.f284 (by kernel_rfl) rfl
  have e285 : ∀ args w, (callFunc 160 args).run Tryz.prog w = .ok (.enter 160 args) w := enters_of L.f285 (by kernel_rfl) rfl
  by_cases hs : u < 100
  · go_enter Tryz.func112, Tryz.ntmps112
    go_wp2_with (go_at_fn (158); refine (Any.internal_strconv_small { L with } u hs _).mono ?_; rintro e w' ⟨rfl, rfl⟩)
    go_ret
    exact ⟨rfl, 0, #[], by simp [World.drewN_zero]⟩
  · have hu1 : 1 ≤ u := by omega
    have hnd20 : Lib.nDigits u ≤ 20 := by have := Lib.numDigits_eq u hu1 hu64; split at this <;> omega
    have hal : Tryz.prog.arrayLen 174 = 24 := by kernel_rfl
    have hsl : ∀ W, (Instr.sliceAt 174 (.pointer (some ⟨w.heap.size, 0, none⟩)) none (some (.int .i64 (Lib.nDigits u : Int))) none).run Tryz.prog W = .ok (.slice (some ⟨w.heap.size, 0, none⟩) (Lib.nDigits u) 24) W := fun W => by
      rw [run_sliceAt_array_h W 174 ⟨w.heap.size, 0, none⟩ (by kernel_rfl) .i64 (Lib.nDigits u : Int) (by omega) (by rw [hal]; omega)]
      go_simp
    have hH0 := Lib.holds_zero0 w 174 (Lib.nDigits u) (by omega)
    have hfmt := Any.internal_strconv_formatBase10 { L with } w.heap.size 0 24 u (Array.replicate (Lib.nDigits u) 0) (w.alloc (.cells Lib.zeros24 174)) hH0 (by rw [Array.size_replicate]; exact Lib.lt_pow_nDigits u) hu64 (by rw [Array.size_replicate]; omega)
    rw [Array.size_replicate] at hfmt
    have HH0 := Lib.hid hH0
    have iu : (100 : Int) ≤ (u : Int) := by omega
    clear hH0 hal
    go_enter Tryz.func112, Tryz.ntmps112
    go_wp2_with (first
      | (go_at_fn (159); refine (Any.internal_strconv_numDigits { L with } u hu1 hu64 _ (Lib.tabIs_alloc htab _)).mono ?_; rintro e w' ⟨rfl, rfl⟩))
    go_at_fn (160)
    refine hfmt.mono ?_
    rintro e w' ⟨rfl, k, v', dk, rfl, hF⟩
    have hcv : (convert 65 9 (.slice (some ⟨w.heap.size, 0, none⟩) (Lib.nDigits u) 24)).run Tryz.prog ((putRow (fun (b : UInt8) => Value.int .u8 (b.toNat : Int)) (w.alloc (.cells Lib.zeros24 174)) w.heap.size 0 dk).drewN k) = .ok (.string ⟨(Lib.decDigits u).toArray⟩) ((putRow (fun (b : UInt8) => Value.int .u8 (b.toNat : Int)) (w.alloc (.cells Lib.zeros24 174)) w.heap.size 0 dk).drewN k) := by
      have h := run_convert_bytes_back (P := Tryz.prog) ((putRow (fun (b : UInt8) => Value.int .u8 (b.toNat : Int)) (w.alloc (.cells Lib.zeros24 174)) w.heap.size 0 dk).drewN k) 65 9 5 ⟨w.heap.size, 0, none⟩ 24 (Lib.decDigits u) Tryz.underlying65 Tryz.underlying5 Tryz.underlying9 (fun j hj => by
        rw [Lib.row_is_numeral hF j hj, Lib.add_plain, World.cell?_drewN]
        exact cell?_putRow (fun (b : UInt8) => Value.int .u8 (b.toNat : Int)) _ w.heap.size 0 _ dk HH0.out (by rw [hF.size, Array.size_replicate]) j (by rw [hF.size]; rw [Lib.decDigits_length] at hj; exact hj))
      rw [Lib.decDigits_length] at h
      exact h
    go_wp2
    go_ret
    obtain ⟨os, eo⟩ := Lib.fin_at w (.cells Lib.zeros24 174) dk k 0
    exact ⟨rfl, k, os, eo⟩
attribute [local irreducible] Calls
/-- The library's table of powers lies in immutable memory; the tape does not matter. -/
class TabG (Γ : Gho) : Prop where
  h : ∀ S w, Wd Γ S w → Lib.TabIs Tryz.prog w "internal/strconv.uint64pow10" .u64 Lib.pow10Tab
  dr : Γ.dr = 0
theorem TabG.mono {Γ Γ' : Gho} (h : TabG Γ) (hl : Γ.le Γ') : TabG Γ' := ⟨fun S w hw => h.h [] w (wd_less hl (wd_nil hw)), hl.dr.trans h.dr⟩
theorem wd_grown {Γ : Gho} {S : List Res} {w w' : World} (hT : TabG Γ) (hw : Wd Γ S w) (h : ∃ k os, w' = Go.Sort.grow (w.drewN k) os) : Wd Γ S w' := by
  obtain ⟨k, os, rfl⟩ := h
  refine wd_below hT.dr hw ⟨rfl, rfl, rfl, ?_, fun k hk => ?_⟩
  · simp [Go.Sort.grow, World.drewN]
  · simp [Go.Sort.grow, World.drewN, Array.getElem?_append_left hk]
def decB (u : Nat) : ByteArray := ⟨(Lib.decDigits u).toArray⟩
theorem pg_fmtUint {Γ : Gho} [hT : TabG Γ] {u : Nat} (hu : u ≤ 18446744073709551615) : PG Tryz.prog Γ 37 [.int .u64 (u : Nat), .int .i64 10] (.string (decB u)) := ⟨fun S w hw => by
  refine calls_of_W Tryz.func37 rfl rfl ?_
  repeat (first | refine byW ?_ | (refine byV ?_; intro w hw))
  refine lCall ?_
  refine (fmtUint_in u (by omega) w (hT.h S w hw)).mono ?_
  rintro e w' ⟨rfl, hg⟩
  have hw := wd_grown hT hw hg
  refine ⟨_, rfl, ?_⟩
  repeat (first | refine byW ?_ | (refine byV ?_; intro w hw))
  exact ⟨_, rfl, rfl, hw⟩⟩
theorem pg_itoa {Γ : Gho} [hT : TabG Γ] {n : Int} (h0 : 0 ≤ n) (h1 : n ≤ 9223372036854775807) : PG Tryz.prog Γ 35 [.int .i64 n] (.string (decB n.toNat)) := ⟨fun S w hw =>
  Calls.mono (Any.strconv_Itoa lay_itoa n (by omega) h1 w (hT.h S w hw)) fun e w' ⟨h, hg⟩ => ⟨by
    rw [h]
    have : Lib.itoa n = Lib.decDigits n.toNat := by unfold Lib.itoa; rw [if_neg (by omega)]
    rw [this]; rfl, wd_grown hT hw hg⟩⟩
/-- All of memory stands for ever; the tape does not matter. -/
def allG0 (w : World) : Gho := { allG w with dr := 0 }
theorem allG0_wd (w : World) : Wd (allG0 w) [] w := ⟨rfl, rfl, rfl, Nat.zero_le _, fun b o h => h, [], trivial, by simp, by simp⟩
theorem wd_kept0 {Γ : Gho} {S : List Res} {w w' : World} (h0 : Γ.dr = 0) (h : Wd Γ S w) (h' : Wd (allG0 w) [] w') : Wd Γ S w' := by
  obtain ⟨h1, h2, h3, h4, h5, bss, h6, h7, h8⟩ := h
  obtain ⟨k1, k2, k3, k4, k5, -⟩ := h'
  have hk : ∀ b ∈ bss.flatten, w'.heap[b]? = w.heap[b]? := fun b hb => by
    have hl := (h8 b hb).1
    have e : w.heap[b]? = some w.heap[b] := Array.getElem?_eq_getElem hl
    rw [e]; exact k5 b _ e
  refine ⟨k1.trans h1, k2.trans h2, k3.trans h3, by rw [h0]; exact Nat.zero_le _, fun b o hb => k5 b o (h5 b o hb), bss, Holds.loc (fun b o h => h) S bss (fun b hb => hk b hb) h6, h7, fun b hb => ⟨?_, (h8 b hb).2⟩⟩
  have hl := (h8 b hb).1
  have e : w.heap[b]? = some w.heap[b] := Array.getElem?_eq_getElem hl
  have := hk b hb
  rw [e] at this
  exact (Array.getElem?_eq_some_iff.1 this).1
theorem tabIs_keep {P : Program} {w w' : World} {name : String} {k : IntKind} {zs : List Int} (h : Lib.TabIs P w name k zs) (hk : ∀ (b : Nat) (o : Obj), w.heap[b]? = some o → w'.heap[b]? = some o) : Lib.TabIs P w' name k zs := by
  unfold Lib.TabIs World.var? at *
  cases hg : P.globalNamed name with
  | none => rw [hg] at h; cases h
  | some g =>
    rw [hg] at h
    simp only [Option.bind_some] at h ⊢
    cases hb : w.heap[g]? with
    | none => rw [hb] at h; cases h
    | some o =>
      rw [hb] at h
      rw [hk g o hb]; exact h
theorem tabG_all {w : World} (h : Lib.TabIs Tryz.prog w "internal/strconv.uint64pow10" .u64 Lib.pow10Tab) : TabG (allG0 w) := ⟨fun S w' hw => tabIs_keep h fun b o hb => hw.imm b o hb, rfl⟩
/-- A call that answers a plain value under 'all memory stands for ever'. -/
theorem pg_of_all {Γ : Gho} [hT : TabG Γ] {f : Nat} {args : List Value} {v : Value} (h : ∀ w, TabG (allG0 w) → (∀ b o, Γ.imm b = some o → (allG0 w).imm b = some o) → Calls Tryz.prog f args.toArray w fun e w' => ∃ Γ', (allG0 w).le Γ' ∧ e = .returned v ∧ Wd Γ' [] w') : PG Tryz.prog Γ f args v := ⟨fun S w hw =>
  (h w (tabG_all (hT.h S w hw)) hw.imm).mono fun e w' ⟨Γ', hle, he, hw'⟩ => ⟨he, wd_kept0 hT.dr hw (wd_less hle hw')⟩⟩
end Go.Proofs.YtimbobmmijgkiaaGreatDoor
end
/- From a walk in these words to the given cards: reading of slices; the listed table. -/
section
open Go Mk
namespace Go.Proofs.YtimbobmmijgkiaaGreatDoor
open Go.ChangeShapes Go.WideShapes Go.ChangeAt Go.RowKit

theorem own_knob : ownKnob Tryz.prog.godebug = none := by kernel_rfl
theorem keptBut_wd {W W' : World} {S : List Res} (h : Wd (allG0 W) S W') (may : MemPlace → Prop) : W.keptBut W' may := by
  refine ⟨h.os, h.out, fun i hi => ?_⟩
  have h1 : W.heap[i]? = some W.heap[i] := Array.getElem?_eq_getElem hi
  have h2 := h.imm i W.heap[i] h1
  rw [h1, h2]
  cases W.heap[i] <;> simp
/-- The arguments read as before; what is answered is true. -/
theorem post_wd {H : Type} {enc : TypeId × Value → H} {f : Func} {s : ChangeSpec} {W W' : World} {S : List Res} {args : Array Value} {v : Value} {ds gs : List (DataW H)} {before pa pv : List MemPlace} {apart : Bool}
    (hW : DataW.Whole enc Tryz.prog f.params.toList s.vars apart W args.toList ds gs before)
    (hres : ∀ (b : Nat) (sp : Nat → Bool) (hd : Bool), DataW.TrodAll enc Tryz.prog W' b sp hd f.resultTypes.toList (v.resultList f.resultTypes.size) (s.fn H (ds ++ gs)).results [])
    (hargs : ∀ sp : Nat → Bool, (∀ p ∈ before, sp p.block = true) → DataW.TrodAll enc Tryz.prog W' 0 sp true f.params.toList args.toList (s.fn H (ds ++ gs)).args pa)
    (hvars : ∀ sp : Nat → Bool, (∀ p ∈ before, sp p.block = true) → DataW.TrodVars enc Tryz.prog W' sp s.vars (s.fn H (ds ++ gs)).vars pv)
    (hps : before = pa ++ pv) (hk : Wd (allG0 W) S W') : s.post enc Tryz.prog f apart true false false W args v W' := by
  have hold : ∀ p ∈ before, (fun b => decide (b < W.heap.size)) p.block = true := fun p hp => by simpa using hW.lt p hp
  exact ⟨ds, gs, before, [], pa, pv, hW, hres _ _ _, hargs _ hold, hvars _ hold, keptBut_wd hk _, fun h => by cases h⟩
section
variable {H : Type} {en : TypeId × Value → H} {W W' : World} {base : Nat} {sp : Nat → Bool} {held : Bool} {S : List Res}
theorem flat_inv {sz : Nat} : ∀ {rows : List (List Value)}, (∀ r ∈ rows, r.length = sz) → ∀ {j : Nat} {u : Value}, rows.flatten[j]? = some u → ∃ i r row, rows[i]? = some row ∧ row[r]? = some u ∧ j = i * sz + r
  | [], _, j, u, h => by simp at h
  | a :: rows, hl, j, u, h => by
    rw [List.flatten_cons] at h
    by_cases hj : j < a.length
    · rw [List.getElem?_append_left hj] at h
      exact ⟨0, j, a, rfl, h, by omega⟩
    · rw [List.getElem?_append_right (by omega)] at h
      obtain ⟨i, r, row, h1, h2, h3⟩ := flat_inv (fun r hr => hl r (List.mem_cons_of_mem _ hr)) h
      have ha := hl a (List.mem_cons_self ..)
      refine ⟨i + 1, r, row, by simpa using h1, h2, ?_⟩
      rw [Nat.add_mul, Nat.one_mul]; omega
/-- A slice whose elements are read one by one. -/
theorem read_slice {α : Type} [Inhabited α] {F : α → List Value} {p : α → Prop} {t e sz : Nat} (hc : Tryz.prog.cellsOf e = sz) (h0 : 0 < sz) (hF : ∀ x, (F x).length = sz) (ht : Tryz.prog.underlying t = some (.slice e))
    (hel : ∀ {n : Nat} {cs : List Value} {y : DataW H × List MemPlace}, DataW.trod en Tryz.prog W base sp held n e cs = some y → ∃ x : α, cs = F x ∧ p x)
    {n : Nat} {v : Value} {y : DataW H × List MemPlace} (h : DataW.trod en Tryz.prog W base sp held n t [v] = some y) : ∃ xs : List α, RepS (allG0 W) v sz (xs.map F) ∧ ∀ x ∈ xs, p x := by
  rcases Deep.open_slice ht h with ⟨h0, -⟩ | ⟨a, len, cap, m, k, D, Pl, h1, -, hlc, hcm, hm, -, hel2⟩
  · cases h0
    exact ⟨[], RepS.nil, fun x hx => by cases hx⟩
  · cases h1
    have hlm : len ≤ m := by rw [hm]; split <;> omega
    have hx : ∀ i, i < len → ∃ x : α, p x ∧ ∀ j u, (F x)[j]? = some u → W.cell? (a.add (i * sz + j)) = some u := fun i hi => by
      obtain ⟨cs', h1, h2⟩ := hel2 i (by omega)
      rw [hc] at h1
      obtain ⟨-, hl, hat⟩ := World.cells?_some h1
      obtain ⟨x, rfl, hp⟩ := hel h2
      refine ⟨x, hp, fun j u hu => ?_⟩
      have hj : j < sz := by rw [← hl]; exact (List.getElem?_eq_some_iff.1 hu).1
      have := hat j hj
      rw [hu, Go.Deep.add_add] at this
      exact this
    obtain ⟨f, hf⟩ : ∃ f : Nat → α, ∀ i, i < len → p (f i) ∧ ∀ j u, (F (f i))[j]? = some u → W.cell? (a.add (i * sz + j)) = some u := by
      refine ⟨fun i => if hi : i < len then (hx i hi).choose else default, fun i hi => ?_⟩
      simp only [hi, dif_pos]
      exact (hx i hi).choose_spec
    refine ⟨(List.range len).map f, ?_, fun x hx => ?_⟩
    · unfold RepS
      refine ⟨fun r hr => ?_, some a, len, cap, rfl, by simp, hlc, hcm, fun hpos => ?_⟩
      · obtain ⟨x, -, rfl⟩ := List.mem_map.1 hr
        exact hF x
      · have hpos : 0 < len := by simpa using hpos
        obtain ⟨u0, hu0⟩ : ∃ u, (F (f 0))[0]? = some u := ⟨_, List.getElem?_eq_getElem (by rw [hF]; exact h0)⟩
        have h00 := (hf 0 hpos).2 0 u0 hu0
        obtain ⟨g, o, spt⟩ := a
        have h01 : W.cell? ⟨g, o, spt⟩ = some u0 := by
          rw [Nat.zero_mul] at h00
          simpa [Addr.add] using h00
        unfold World.cell? at h01
        cases hg : W.heap[g]? with
        | none => rw [hg] at h01; simp at h01
        | some ob =>
          rw [hg] at h01
          cases ob with
          | cells cur e fr =>
            cases spt with
            | some q => simp at h01
            | none =>
              refine ⟨g, o, cur, e, fr, rfl, hg, fun j u hj => ?_⟩
              obtain ⟨i, r, row, h1, h2, h3⟩ := flat_inv (sz := sz) (rows := ((List.range len).map f).map F) (fun r hr => by
                obtain ⟨x, -, rfl⟩ := List.mem_map.1 hr
                exact hF x) hj
              rw [List.getElem?_map, List.getElem?_map] at h1
              have hi : i < len := by
                by_cases hi : i < len
                · exact hi
                · rw [List.getElem?_eq_none (by simpa using hi)] at h1; simp at h1
              rw [List.getElem?_range hi] at h1
              simp only [Option.map_some, Option.some.injEq] at h1
              subst h1
              have h4 : W.cell? ⟨g, o + (i * sz + r), none⟩ = some u := by
                have h5 := (hf i hi).2 r u h2
                rwa [show Addr.add ⟨g, o, none⟩ (i * sz + r) = ⟨g, o + (i * sz + r), none⟩ from by
                  unfold Addr.add
                  by_cases h0 : i * sz + r = 0
                  · rw [if_pos h0, h0]; rfl
                  · rw [if_neg h0]] at h5
              unfold World.cell? at h4
              rw [hg] at h4
              rw [h3]
              simpa using h4
          | _ => simp at h01
    · obtain ⟨i, hi, rfl⟩ := List.mem_map.1 hx
      exact (hf i (List.mem_range.1 hi)).1
theorem list3 : ∀ cs : List Value, cs.length = 3 → ∃ a b c, cs = [a, b, c]
  | [a, b, c], _ => ⟨a, b, c, rfl⟩
theorem list2 : ∀ cs : List Value, cs.length = 2 → ∃ a b, cs = [a, b]
  | [a, b], _ => ⟨a, b, rfl⟩
theorem carry_all (hk : Wd (allG0 W) S W') : ∀ {ts : List TypeId} {vs : List Value} {ds : List (DataW H)} {ps : List MemPlace}, DataW.TrodAll en Tryz.prog W base sp held ts vs ds ps → (∀ p ∈ ps, p.block < W.heap.size) → DataW.TrodAll en Tryz.prog W' base sp held ts vs ds ps
  | [], [], [], _, h, _ => h
  | _ :: _, _ :: _, _ :: _, _, ⟨p, q, ⟨n, h1⟩, h2, e⟩, hs => ⟨p, q, ⟨n, DataW.trod_carry n _ _ _ h1 fun x hx => by
      have hb := hs x (by rw [e]; exact List.mem_append_left _ hx)
      cases x with
      | cell b off =>
        have h3 : W'.heap[b]? = W.heap[b]? := by
          have h4 : W.heap[b]? = some (W.heap[b]'hb) := Array.getElem?_eq_getElem hb
          rw [h4]; exact hk.imm b _ h4
        show W'.cell? _ = W.cell? _
        unfold World.cell?
        rw [h3]
      | map b =>
        have h4 : W.heap[b]? = some (W.heap[b]'hb) := Array.getElem?_eq_getElem hb
        show W'.heap[b]? = W.heap[b]?
        rw [h4]; exact hk.imm b _ h4⟩, carry_all hk h2 (fun x hx => hs x (by rw [e]; exact List.mem_append_right _ hx)), e⟩
end
theorem own_kids : Kids Tryz.prog (· < Tryz.prog.types.size) := kids_rows (by kernel_rfl) (by kernel_rfl)
theorem own_full : ∀ t e, t < Tryz.prog.types.size → Tryz.prog.underlying t = some (.slice e) → 0 < Tryz.prog.cellsOf e := slices_full_of _ (by kernel_rfl)
abbrev laidL : List (String × DataW Unit) := [("math/bits.deBruijn32tab", Rows.laid_math_bits_deBruijn32tab), ("math/bits.deBruijn64tab", Rows.laid_math_bits_deBruijn64tab), ("internal/strconv.uint64pow10", Rows.laid_internal_strconv_uint64pow10)]
theorem of_laid {W : World} (h : laidMetH Tryz.prog laidL W) : Lib.TabIs Tryz.prog W "internal/strconv.uint64pow10" .u64 Lib.pow10Tab := by
  rw [MakeChecks.laidMetH_plain _ _ _ (by kernel_rfl)] at h
  have h3 := laidMet.tail (laidMet.tail h)
  exact Lib.tabIs_of_head (rest := []) (g := lay_itoa_ren.g 17) (by kernel_rfl) (by kernel_rfl) Tryz.underlying208 Tryz.underlying45 (by kernel_rfl) (by kernel_rfl) h3
end Go.Proofs.YtimbobmmijgkiaaGreatDoor
end
/- Words and names, and numbers brought into a range: what these functions answer. -/
section
open Go Mk
namespace Go.Proofs.YtimbobmmijgkiaaGreatDoor
attribute [local irreducible] Calls

def letterB (c : Int) : Bool := decide (97 ≤ c) && decide (c ≤ 122) || decide (65 ≤ c) && decide (c ≤ 90) || decide (c = 95)
def digitB (c : Int) : Bool := decide (48 ≤ c) && decide (c ≤ 57)
instance (c : Int) : PC Tryz.prog 94 [.int .u8 c] (.bool (letterB c)) := ⟨fun w => by
  refine calls_of_W Tryz.func94 rfl rfl ?_
  repeat (first | refine byW ?_ | (refine byV ?_; intro w hw))
  exact ⟨_, rfl, rfl, rfl⟩⟩
instance (c : Int) : PC Tryz.prog 96 [.int .u8 c] (.bool (digitB c)) := ⟨fun w => by
  refine calls_of_W Tryz.func96 rfl rfl ?_
  repeat (first | refine byW ?_ | (refine byV ?_; intro w hw))
  exact ⟨_, rfl, rfl, rfl⟩⟩
instance (c : Int) : PC Tryz.prog 163 [.int .u8 c] (.bool (letterB c)) := ⟨fun w => by
  refine calls_of_W Tryz.func163 rfl rfl ?_
  repeat (first | refine byW ?_ | (refine byV ?_; intro w hw))
  exact ⟨_, rfl, rfl, rfl⟩⟩
instance (c : Int) : PC Tryz.prog 164 [.int .u8 c] (.bool (digitB c)) := ⟨fun w => by
  refine calls_of_W Tryz.func164 rfl rfl ?_
  repeat (first | refine byW ?_ | (refine byV ?_; intro w hw))
  exact ⟨_, rfl, rfl, rfl⟩⟩

/-- The i-th byte. -/
abbrev byteAt (s : ByteArray) (i : Nat) : Int := ((s.data.toList.getD i 0).toNat : Int)
def wordC (b : UInt8) : Bool := letterB b.toNat || digitB b.toNat
def runN (s : ByteArray) : Nat := (s.data.toList.takeWhile wordC).length
def wordS (s : ByteArray) : Bool := decide (0 < s.size) && letterB (byteAt s 0) && s.data.toList.all wordC
def nameS (s : ByteArray) : Bool := wordS s && decide (s.size ≤ 24)

theorem takeWhile_len {p : UInt8 → Bool} : ∀ {l : List UInt8} {k : Nat}, k ≤ l.length → (∀ i, i < k → p (l.getD i 0) = true) → (k < l.length → p (l.getD k 0) = false) → (l.takeWhile p).length = k
  | [], k, h, _, _ => by simp at h; simp [h]
  | x :: l, 0, _, _, h2 => by
    have := h2 (by simp)
    simp at this
    simp [this]
  | x :: l, k + 1, h, h1, h2 => by
    have h0 := h1 0 (by omega)
    simp at h0
    simp only [List.takeWhile_cons, h0, if_true, List.length_cons]
    rw [takeWhile_len (l := l) (k := k) (by simpa using h) (fun i hi => h1 (i + 1) (by omega)) (fun hk => h2 (by simp only [List.length_cons]; omega))]
theorem size_toList (s : ByteArray) : s.data.toList.length = s.size := Array.length_toList

class SB (s : ByteArray) : Prop where h : s.size ≤ 4611686018427387904
theorem toList_get {s : ByteArray} {k : Nat} : ((s.data.toList.getD (Int.toNat (k : Int)) 0).toNat : Int) = byteAt s k := rfl

instance (s : ByteArray) [hs : SB s] : PC Tryz.prog 95 [.string s] (.int .i64 (runN s)) := ⟨fun w => by
  have h63 := hs.h
  refine calls_of_W Tryz.func95 rfl rfl ?_
  repeat (first | refine byW ?_ | (refine byV ?_; intro w hw))
  refine W_loop (fun μ ρ w' => ∃ k : Nat, μ + k = s.size ∧ Has ρ [(0, .string s), (3, .int .i64 k)] ∧ w' = w ∧ ∀ i, i < k → wordC (s.data.toList.getD i 0) = true) s.size ⟨0, rfl, ⟨rfl, rfl, trivial⟩, rfl, fun i h => absurd h (Nat.not_lt_zero i)⟩ ?_
  rintro μ ρ w' ⟨k, hk, hρ, rfl, hi⟩
  rw [hρ.eq]
  repeat (first | refine byW ?_ | (refine byV ?_; intro w hw))
  refine W_cond rfl (fun h => ?_) (fun h => ?_)
  · have h' := andL h
    simp only [decide_eq_true_eq] at h'
    repeat (first | refine byW ?_ | (refine byV ?_; intro w hw))
    refine ⟨μ - 1, by omega, k + 1, by omega, ⟨rfl, rfl, trivial⟩, rfl, fun i hi' => ?_⟩
    by_cases e : i = k
    · subst e; exact andR h
    · exact hi i (by omega)
  · repeat (first | refine byW ?_ | (refine byV ?_; intro w hw))
    refine ⟨_, rfl, ret_i rfl ?_, rfl⟩
    have := takeWhile_len (p := wordC) (l := s.data.toList) (k := k) (by rw [size_toList]; omega) hi (fun hk' => by
      rw [size_toList] at hk'
      rw [show decide ((k : Int) < (s.size : Int)) = true from by simp; omega] at h
      exact h)
    show (k : Int) = ((s.data.toList.takeWhile wordC).length : Int)
    rw [this]⟩

theorem takeWhile_all {p : UInt8 → Bool} {l : List UInt8} : ((l.takeWhile p).length = l.length) ↔ l.all p = true := by
  induction l with
  | nil => simp
  | cons x l ih =>
    simp only [List.takeWhile_cons, List.all_cons]
    cases p x with
    | true => simp [ih]
    | false => simp
instance (s : ByteArray) [hs : SB s] : PC Tryz.prog 107 [.string s] (.bool (wordS s)) := ⟨fun w => by
  refine calls_of_W Tryz.func107 rfl rfl ?_
  repeat (first | refine byW ?_ | (refine byV ?_; intro w hw))
  refine ⟨_, rfl, ret_b rfl ?_, rfl⟩
  have h1 : decide (s ≠ ⟨#[]⟩) = decide (0 < s.size) := by simp only [ne_nilB]
  have h2 : decide ((runN s : Int) = (s.size : Int)) = s.data.toList.all wordC := by
    rw [Bool.eq_iff_iff, decide_eq_true_eq, ← takeWhile_all, size_toList]
    unfold runN; omega
  rw [h1, h2]; rfl⟩
instance (s : ByteArray) [hs : SB s] : PC Tryz.prog 109 [.string s] (.bool (nameS s)) := ⟨fun w => by
  refine calls_of_W Tryz.func109 rfl rfl ?_
  repeat (first | refine byW ?_ | (refine byV ?_; intro w hw))
  refine ⟨_, rfl, ret_b rfl ?_, rfl⟩
  unfold nameS
  congr 1
  rw [decide_eq_decide]; omega⟩

instance (s : ByteArray) [hs : SB s] : PC Tryz.prog 115 [.string s] (.bool (wordS s)) := ⟨fun w => by
  have h63 := hs.h
  refine calls_of_W Tryz.func115 rfl rfl ?_
  repeat (first | refine byW ?_ | (refine byV ?_; intro w hw))
  refine W_cond rfl (fun h => ?_) (fun h => ?_)
  · repeat (first | refine byW ?_ | (refine byV ?_; intro w hw))
    refine ⟨_, rfl, ret_b rfl ?_, rfl⟩
    unfold wordS
    by_cases h0 : s = ⟨#[]⟩
    · subst h0; rfl
    · rw [show decide (s = ⟨#[]⟩) = false from by simpa using h0] at h
      have h1 : letterB (byteAt s 0) = false := by have h' : (false || !letterB (byteAt s 0)) = true := h; simpa using h'
      rw [h1]; simp
  · simp only [Bool.or_eq_false_iff, Bool.not_eq_false', decide_eq_false_iff_not, eq_nilB] at h
    have h1 : letterB (byteAt s 0) = true := h.2
    repeat (first | refine byW ?_ | (refine byV ?_; intro w hw))
    refine W_loop (fun μ ρ w' => ∃ k : Nat, μ + k = s.size ∧ Has ρ [(0, .string s), (3, .int .i64 k)] ∧ w' = w ∧ 0 < k ∧ ∀ i, i < k → wordC (s.data.toList.getD i 0) = true) (s.size - 1) ⟨1, by omega, ⟨rfl, rfl, trivial⟩, rfl, by omega, fun i hi => ?_⟩ ?_
    · have : i = 0 := by omega
      subst this
      show (letterB (byteAt s 0) || _) = true
      rw [h1]; rfl
    rintro μ ρ w' ⟨k, hk, hρ, rfl, hk0, hi⟩
    rw [hρ.eq]
    repeat (first | refine byW ?_ | (refine byV ?_; intro w hw))
    refine W_cond rfl (fun h2 => ?_) (fun h2 => ?_)
    · have h' : k < s.size := by simpa using h2
      repeat (first | refine byW ?_ | (refine byV ?_; intro w hw))
      refine W_cond rfl (fun h3 => ?_) (fun h3 => ?_)
      · repeat (first | refine byW ?_ | (refine byV ?_; intro w hw))
        refine ⟨_, rfl, ret_b rfl ?_, rfl⟩
        have h4 : wordC (s.data.toList.getD k 0) = false := by
          show (letterB (byteAt s k) || digitB (byteAt s k)) = false
          have h5 : (!letterB (byteAt s k) && !digitB (byteAt s k)) = true := h3
          simpa using h5
        have h6 : s.data.toList.all wordC = false := by
          rw [← Bool.not_eq_true, List.all_eq_true]
          intro hall
          have hm := hall (s.data.toList.getD k 0) (by
            rw [List.getD_eq_getElem?_getD, List.getElem?_eq_getElem (by rw [size_toList]; exact h')]
            exact List.getElem_mem _)
          rw [h4] at hm; cases hm
        unfold wordS; rw [h6]; simp
      · repeat (first | refine byW ?_ | (refine byV ?_; intro w hw))
        refine ⟨μ - 1, by omega, k + 1, by omega, ⟨rfl, rfl, trivial⟩, rfl, by omega, fun i hi' => ?_⟩
        by_cases e : i = k
        · subst e
          have h5 : (!letterB (byteAt s i) && !digitB (byteAt s i)) = false := h3
          show (letterB (byteAt s i) || digitB (byteAt s i)) = true
          cases hl : letterB (byteAt s i) <;> cases hd : digitB (byteAt s i) <;> simp [hl, hd] at h5 ⊢
        · exact hi i (by omega)
    · repeat (first | refine byW ?_ | (refine byV ?_; intro w hw))
      refine ⟨_, rfl, ret_b rfl ?_, rfl⟩
      have h' : ¬ k < s.size := by simpa using h2
      have h6 : s.data.toList.all wordC = true := by
        rw [List.all_eq_true]
        intro x hx
        obtain ⟨i, hil, rfl⟩ := List.getElem_of_mem hx
        have := hi i (by rw [size_toList] at hil; omega)
        rwa [List.getD_eq_getElem?_getD, List.getElem?_eq_getElem hil] at this
      unfold wordS; rw [h6, h1]
      simp; omega⟩
instance (s : ByteArray) [hs : SB s] : PC Tryz.prog 41 [.string s] (.bool (nameS s)) := ⟨fun w => by
  refine calls_of_W Tryz.func41 rfl rfl ?_
  repeat (first | refine byW ?_ | (refine byV ?_; intro w hw))
  refine ⟨_, rfl, ret_b rfl ?_, rfl⟩
  unfold nameS
  congr 1
  rw [decide_eq_decide]; omega⟩

class PosL (n : Int) : Prop where h : 0 < n ∧ n ≤ 1099511627776
instance : PosL 3 := ⟨by decide⟩
instance : PosL 4 := ⟨by decide⟩
instance : PosL 5 := ⟨by decide⟩
instance : PosL 6 := ⟨by decide⟩
instance : PosL 8 := ⟨by decide⟩
instance : PosL 32 := ⟨by decide⟩
instance : PosL 100 := ⟨by decide⟩
instance (v n : Int) [hn : PosL n] : PC Tryz.prog 16 [.int .i64 v, .int .i64 n] (.int .i64 (v % n)) := ⟨fun w => by
  have h := hn.h
  have hm := Int.tmod_lt_of_pos v h.1
  have hm2 : -n < v.tmod n := by
    have := Int.tmod_lt_of_pos (-v) h.1
    rw [Int.neg_tmod] at this; omega
  have he : v % n = if v.tmod n < 0 then v.tmod n + n else v.tmod n := by
    have h3 : v % n = v.tmod n % n := by
      have h4 := Int.mul_tdiv_add_tmod v n
      have h5 := Int.mul_add_emod_self_left n (v.tdiv n) (v.tmod n)
      rw [h4] at h5; exact h5
    rw [h3]
    split
    · rw [← Int.add_emod_right]; exact Int.emod_eq_of_lt (by omega) (by omega)
    · exact Int.emod_eq_of_lt (by omega) hm
  refine calls_of_W Tryz.func16 rfl rfl ?_
  repeat (first | refine byW ?_ | (refine byV ?_; intro w hw))
  refine W_cond rfl (fun h1 => ?_) (fun h1 => ?_)
  · repeat (first | refine byW ?_ | (refine byV ?_; intro w hw))
    refine ⟨_, rfl, ret_i rfl ?_, rfl⟩
    rw [he, if_pos (by simpa using h1)]
  · repeat (first | refine byW ?_ | (refine byV ?_; intro w hw))
    refine ⟨_, rfl, ret_i rfl ?_, rfl⟩
    rw [he, if_neg (by simpa using h1)]⟩

def coreS (n : Int) : Bool := decide (0 ≤ n) && decide (n < 32)
end Go.Proofs.YtimbobmmijgkiaaGreatDoor
end
/- Bytes of texts, numerals and tokens: what both lexers answer (no program in sight). -/
section
open Go Mk
namespace Go.Proofs.YtimbobmmijgkiaaGreatDoor
set_option maxHeartbeats 400000
attribute [local irreducible] Calls

abbrev bts (s : ByteArray) : List UInt8 := s.data.toList
theorem bts_len (s : ByteArray) : (bts s).length = s.size := Array.length_toList
theorem bts_sub (s : ByteArray) (a b : Nat) : bts (bSub s a b) = ((bts s).drop a).take (b - a) := by
  unfold bSub
  show (s.extract a b).data.toList = _
  rw [ByteArray.data_extract, Array.toList_extract, List.extract_eq_take_drop]
theorem bts_ext {s t : ByteArray} (h : bts s = bts t) : s = t := by
  cases s; cases t
  congr 1
  exact Array.toList_inj.1 h
theorem sub_size {s : ByteArray} {a b : Nat} (h : b ≤ s.size) : (bSub s a b).size = b - a := by
  rw [← bts_len, bts_sub, List.length_take, List.length_drop, bts_len]; omega
theorem sub_sub {s : ByteArray} {a b c d : Nat} (h : a + d ≤ b) : bSub (bSub s a b) c d = bSub s (a + c) (a + d) := by
  apply bts_ext
  rw [bts_sub, bts_sub, bts_sub, List.drop_take, List.drop_drop, List.take_take]
  congr 1; omega
theorem byte_sub {s : ByteArray} {a b j : Nat} (h : a + j < b) : byteAt (bSub s a b) j = byteAt s (a + j) := by
  unfold byteAt
  have := bts_sub s a b
  unfold bts at this
  rw [this, List.getD_eq_getElem?_getD, List.getD_eq_getElem?_getD, List.getElem?_take_of_lt (by omega), List.getElem?_drop]

/-- The value of a digit in a base of at most 16. -/
def hexV (c : Int) : Int := if digitB c = true then c - 48 else if decide (97 ≤ c) && decide (c ≤ 102) then c - 97 + 10 else if decide (65 ≤ c) && decide (c ≤ 70) then c - 65 + 10 else -1
def digV (c base : Int) : Int := if base ≤ hexV c then -1 else hexV c
def inStr (c : Int) : Bool := decide (32 ≤ c) && decide (c ≤ 126) && decide (c ≠ 34) && decide (c ≠ 92)
theorem hexV_range (c : Int) : -1 ≤ hexV c ∧ hexV c < 16 := by
  unfold hexV digitB
  split
  · rename_i h; simp at h; omega
  · split
    · rename_i h; simp at h; omega
    · split
      · rename_i h; simp at h; omega
      · omega
theorem digV_range (c base : Int) (hb : 0 < base) : digV c base = -1 ∨ (0 ≤ digV c base ∧ digV c base < base ∧ digV c base < 16) := by
  have := hexV_range c
  unfold digV
  split
  · exact .inl rfl
  · by_cases h : hexV c = -1
    · exact .inl h
    · exact .inr ⟨by omega, by omega, this.2⟩

/-- The value of the digits. -/
def valL (base : Nat) : List UInt8 → Nat → Nat
  | [], v => v
  | c :: l, v => valL base l (v * base + (digV c.toNat base).toNat)
theorem valL_le (base : Nat) (hb : 0 < base) : ∀ (l : List UInt8) (v : Nat), v ≤ valL base l v
  | [], v => Nat.le_refl v
  | c :: l, v => Nat.le_trans (by
      have : v ≤ v * base := Nat.le_mul_of_pos_right v hb
      omega) (valL_le base hb l _)
def most64 : Nat := 18446744073709551615
/-- Digits, a base, a shift: the value and the error. -/
def numCore (base sh : Nat) (l : List UInt8) : Nat × Int :=
  if l.all (fun c => decide (0 ≤ digV c.toNat base)) = false then (0, 50)
  else if most64 >>> sh < valL base l 0 then (0, 6) else (valL base l 0 <<< sh, 0)
def sufK (c : Int) : Nat := if c = 71 then 30 else if c = 77 then 20 else if c = 75 then 10 else 0
/-- A numeral. -/
def numS (s : ByteArray) : Nat × Int :=
  let sh := sufK (byteAt s (s.size - 1))
  let s := if 0 < sh then bSub s 0 (s.size - 1) else s
  if 2 ≤ s.size ∧ byteAt s 0 = 48 ∧ byteAt s 1 = 120 then
    if s.size = 2 then (0, 50) else numCore 16 sh (bts (bSub s 2 s.size))
  else if s.size = 0 ∨ (1 < s.size ∧ byteAt s 0 = 48) then (0, 50) else numCore 10 sh (bts s)

/-- The length of the punctuation mark with which s begins. -/
def two2 (a b : Int) : Bool := (decide (a = 60) && decide (b = 61)) || (decide (a = 62) && decide (b = 61)) || (decide (a = 33) && decide (b = 61)) || (decide (a = 46) && decide (b = 46)) || (decide (a = 45) && decide (b = 62))
def oneB : List UInt8 := [123, 125, 40, 41, 91, 93, 44, 59, 58, 61, 60, 62, 33, 43, 45, 42, 63, 46, 47]
def punctN (s : ByteArray) : Nat := if 2 ≤ s.size ∧ two2 (byteAt s 0) (byteAt s 1) = true then 2 else if 0 < s.size ∧ (s.data.toList.getD 0 0) ∈ oneB then 1 else 0
def inStrC (b : UInt8) : Bool := inStr b.toNat
def strN (s : ByteArray) : Nat := 1 + (((bts s).drop 1).takeWhile inStrC).length
structure TokR where
  kind : Int
  text : ByteArray
  value : Nat
  n : Nat
  err : Int
def tokErr (e : Int) : TokR := ⟨0, ⟨#[]⟩, 0, 0, e⟩
/-- The token with which s begins. -/
def tokS (s : ByteArray) : TokR :=
  if letterB (byteAt s 0) = true then ⟨1, bSub s 0 (runN s), 0, runN s, 0⟩
  else if digitB (byteAt s 0) = true then (if (numS (bSub s 0 (runN s))).2 = 0 then ⟨2, ⟨#[]⟩, (numS (bSub s 0 (runN s))).1, runN s, 0⟩ else tokErr (numS (bSub s 0 (runN s))).2)
  else if byteAt s 0 = 34 then (if strN s < s.size ∧ byteAt s (strN s) = 34 then ⟨3, bSub s 1 (strN s), 0, strN s + 1, 0⟩ else tokErr 50)
  else if punctN s = 0 then tokErr 50 else ⟨4, bSub s 0 (punctN s), 0, punctN s, 0⟩

structure Tok where
  Kind : Int
  Text : ByteArray
  Value : Int
  Line : Int
  Col : Int
  deriving DecidableEq
instance : Inhabited Tok := ⟨⟨0, ⟨#[]⟩, 0, 0, 0⟩⟩
instance : GoT Tok where
  enc a := [.int .i64 a.Kind, .string a.Text, .int .u64 a.Value, .int .i64 a.Line, .int .i64 a.Col]
  inj a b h := by cases a; cases b; simp at h; simp [h]
  ks := [5, 1, 9, 5, 5]
  kinds a := rfl
structure PosT where
  Line : Int
  Col : Int
  deriving DecidableEq, Inhabited
instance : GoT PosT where
  enc a := [.int .i64 a.Line, .int .i64 a.Col]
  inj a b h := by cases a; cases b; simp at h; simp [h]
  ks := [5, 5]
  kinds a := rfl
/-- The position of an offset. -/
def posAt (s : ByteArray) : Nat → PosT
  | 0 => ⟨1, 1⟩
  | k + 1 => if byteAt s k = 10 then ⟨(posAt s k).Line + 1, 1⟩ else ⟨(posAt s k).Line, (posAt s k).Col + 1⟩
def skipN (s : ByteArray) (off : Nat) : Nat := off + (((bts s).drop off).takeWhile fun b => decide ((b.toNat : Int) ≠ 10)).length
def spaceB (c : Int) : Bool := decide (c = 10) || decide (c = 32) || decide (c = 9) || decide (c = 13)
def scanN (s : ByteArray) : Nat → Nat → List Tok → List Tok × PosT × Int
  | 0, _, acc => (acc, ⟨0, 0⟩, 0)
  | f + 1, off, acc =>
    if s.size ≤ off then (acc, ⟨0, 0⟩, 0)
    else if spaceB (byteAt s off) = true then scanN s f (off + 1) acc
    else if byteAt s off = 35 then scanN s f (skipN s off) acc
    else if (tokS (bSub s off s.size)).err = 0 then scanN s f (off + (tokS (bSub s off s.size)).n) (acc ++ [⟨(tokS (bSub s off s.size)).kind, (tokS (bSub s off s.size)).text, (tokS (bSub s off s.size)).value, (posAt s off).Line, (posAt s off).Col⟩])
    else ([], posAt s off, (tokS (bSub s off s.size)).err)
/-- What the scanners answer. -/
def scanS (s : ByteArray) : List Tok × PosT × Int := if 65536 < s.size then ([], ⟨0, 0⟩, 15) else scanN s (s.size + 1) 0 []
end Go.Proofs.YtimbobmmijgkiaaGreatDoor
end
/- The program's lexer: characters, digits, prefixes, punctuation. -/
section
open Go Mk
namespace Go.Proofs.YtimbobmmijgkiaaGreatDoor
set_option maxHeartbeats 4000000
attribute [local irreducible] Calls

theorem lExt {P : Program} {n : Nat} {opa : Array Oper} {QQ : Exit → Fr → World → Prop} {rest : List Oper} {ρ : Fr} {w : World} {d : Option Tmp} {ty : TypeId} {pos : String} {es : Array Edge} {f : Nat} {args : List Operand} {tys : Array TypeId} {vs : List Value} {v : Value}
    (he : ∀ w, (callFunc f vs.toArray).run P w = .ok (.value v) w) (h : L P n opa QQ rest (putO ρ d v) w) (ha : EvL ρ args vs := by exact byEV) (hd : okDst n d = true := by exact rfl) :
    L P n opa QQ (⟨d, .call { callee := .value (.func f), args := args.toArray, argTypes := tys }, ty, pos, es, none⟩ :: rest) ρ w :=
  L_y rfl hd (by
    unfold Mk.Yields
    simp only [execOp, resolve, ha.eqA, ev, Deferred.ofValue, Sem.run_bind, Sem.run_pure, Result.andThen_ok, invoke]
    simp [he]) h

instance pc_inString (c : Int) : PC Tryz.prog 98 [.int .u8 c] (.bool (inStr c)) := ⟨fun w => by
  refine calls_of_W Tryz.func98 rfl rfl ?_
  repeat (first | refine byW ?_ | (refine byV ?_; intro w hw))
  exact ⟨_, rfl, rfl, rfl⟩⟩
class SmallB (b : Int) : Prop where h : 0 < b ∧ b ≤ 16
instance : SmallB 10 := ⟨by decide⟩
instance : SmallB 16 := ⟨by decide⟩
theorem u8_wrap {a : Int} (h0 : 0 ≤ a) (h1 : a ≤ 255) : IntKind.u8.wrap a = a := by
  simp [IntKind.wrap, IntKind.bits, IntKind.signed]; omega
theorem byte_le (b : UInt8) : 0 ≤ ((b.toNat : Nat) : Int) ∧ ((b.toNat : Nat) : Int) ≤ 255 := by
  have := b.toNat_lt; omega
instance pc_digV (b : UInt8) (base : Int) [hb : SmallB base] : PC Tryz.prog 146 [.int .u8 ((b.toNat : Nat) : Int), .int .u64 base] (.int .i64 (digV ((b.toNat : Nat) : Int) base)) := ⟨fun w => by
  obtain ⟨hb0, hb1⟩ := hb.h
  obtain ⟨hc0, hc1⟩ := byte_le b
  generalize ((b.toNat : Nat) : Int) = c at *
  have hbw : IntKind.i64.wrap base = base := wrap_i64 (by omega) (by omega)
  refine calls_of_W Tryz.func146 rfl rfl ?_
  iterate 8 (first | refine byW ?_ | (refine byV ?_; intro w hw))
  refine W_cut (fun ρ w' => Has ρ [(1, .int .u64 base), (5, .int .i64 (hexV c))] ∧ w' = w) ?_ ?_
  · repeat (first | refine byW ?_ | (refine byV ?_; intro w hw))
    refine W_cond rfl (fun h => ?_) (fun h => ?_)
    · repeat (first | refine byW ?_ | (refine byV ?_; intro w hw))
      refine ⟨⟨rfl, ?_, trivial⟩, rfl⟩
      have h1 : 48 ≤ c ∧ c ≤ 57 := by simpa [digitB] using h
      show Value.int .i64 (IntKind.i64.wrap (IntKind.u8.wrap (c - 48))) = _
      rw [u8_wrap (by omega) (by omega), wrap_i64 (by omega) (by omega)]
      unfold hexV; rw [if_pos h]
    · repeat (first | refine byW ?_ | (refine byV ?_; intro w hw))
      refine W_cond rfl (fun h2 => ?_) (fun h2 => ?_)
      · repeat (first | refine byW ?_ | (refine byV ?_; intro w hw))
        refine ⟨⟨rfl, ?_, trivial⟩, rfl⟩
        have h1 : 97 ≤ c ∧ c ≤ 102 := by simpa using h2
        show Value.int .i64 (IntKind.i64.wrap (IntKind.i64.wrap (IntKind.u8.wrap (c - 97)) + 10)) = _
        rw [u8_wrap (by omega) (by omega), wrap_i64 (a := c - 97) (by omega) (by omega), wrap_i64 (by omega) (by omega)]
        unfold hexV; rw [if_neg (by simp [h]), if_pos h2]
      · repeat (first | refine byW ?_ | (refine byV ?_; intro w hw))
        refine W_cond rfl (fun h3 => ?_) (fun h3 => ?_)
        · repeat (first | refine byW ?_ | (refine byV ?_; intro w hw))
          refine ⟨⟨rfl, ?_, trivial⟩, rfl⟩
          have h1 : 65 ≤ c ∧ c ≤ 70 := by simpa using h3
          show Value.int .i64 (IntKind.i64.wrap (IntKind.i64.wrap (IntKind.u8.wrap (c - 65)) + 10)) = _
          rw [u8_wrap (by omega) (by omega), wrap_i64 (a := c - 65) (by omega) (by omega), wrap_i64 (by omega) (by omega)]
          unfold hexV; rw [if_neg (by simp [h]), if_neg (by simpa using h2), if_pos h3]
        · repeat (first | refine byW ?_ | (refine byV ?_; intro w hw))
          refine ⟨⟨rfl, ?_, trivial⟩, rfl⟩
          show Value.int .i64 (-1) = _
          unfold hexV; rw [if_neg (by simp [h]), if_neg (by simpa using h2), if_neg (by simpa using h3)]
  · rintro ρ w' ⟨hρ, rfl⟩
    rw [hρ.eq]
    repeat (first | refine byW ?_ | (refine byV ?_; intro w hw))
    rw [hbw]
    refine W_cond rfl (fun h => ?_) (fun h => ?_)
    · repeat (first | refine byW ?_ | (refine byV ?_; intro w hw))
      have h : base ≤ hexV c := by simpa using h
      exact ⟨_, rfl, ret_i rfl (by unfold digV; rw [if_pos h]), rfl⟩
    · repeat (first | refine byW ?_ | (refine byV ?_; intro w hw))
      have h : ¬ base ≤ hexV c := by simpa using h
      exact ⟨_, rfl, ret_i rfl (by unfold digV; rw [if_neg h]), rfl⟩⟩
instance pc_HasPrefix (s p : ByteArray) : PC Tryz.prog 145 [.string s, .string p] (.bool (decide ((p.size : Int) ≤ s.size) && decide (bSub s 0 p.size = p))) := ⟨fun w => by
  have h1 : PC Tryz.prog 188 [.string s, .string p] (.bool (decide ((p.size : Int) ≤ s.size) && decide (bSub s 0 p.size = p))) := ⟨fun w => by
    refine calls_of_W Tryz.func188 rfl rfl ?_
    repeat (first | refine byW ?_ | (refine byV ?_; intro w hw))
    exact ⟨_, rfl, rfl, rfl⟩⟩
  refine calls_of_W Tryz.func145 rfl rfl ?_
  repeat (first | refine byW ?_ | (refine byV ?_; intro w hw))
  exact ⟨_, rfl, rfl, rfl⟩⟩
theorem ext_IndexByte (s : ByteArray) (c : Int) (w : World) : (callFunc 207 #[.string s, .int .u8 c]).run Tryz.prog w = .ok (.value (.int .i64 (firstIdx s c.toNat.toUInt8))) w := by
  rw [run_callFunc_extern Tryz.func207 (by kernel_rfl) (by kernel_rfl) (e := Extern.BytealgIndexByte.indexByte) (by kernel_rfl) (by kernel_rfl), run_indexByte_string]
  rfl
instance pc_IndexByte (s : ByteArray) (c : Int) : PC Tryz.prog 147 [.string s, .int .u8 c] (.int .i64 (firstIdx s c.toNat.toUInt8)) := ⟨fun w => by
  have h1 : PC Tryz.prog 189 [.string s, .int .u8 c] (.int .i64 (firstIdx s c.toNat.toUInt8)) := ⟨fun w => by
    refine calls_of_W Tryz.func189 rfl rfl ?_
    repeat (first | refine byW ?_ | (refine byV ?_; intro w hw))
    refine lExt (vs := [.string s, .int .u8 c]) (ext_IndexByte s c) ?_
    repeat (first | refine byW ?_ | (refine byV ?_; intro w hw))
    exact ⟨_, rfl, rfl, rfl⟩⟩
  refine calls_of_W Tryz.func147 rfl rfl ?_
  repeat (first | refine byW ?_ | (refine byV ?_; intro w hw))
  exact ⟨_, rfl, rfl, rfl⟩⟩
end Go.Proofs.YtimbobmmijgkiaaGreatDoor
end
/- The program's lexer: punctuation and numerals. -/
section
open Go Mk
namespace Go.Proofs.YtimbobmmijgkiaaGreatDoor
set_option maxHeartbeats 4000000
attribute [local irreducible] Calls

theorem two_bytes {s : ByteArray} (h : 2 ≤ s.size) : ∃ x y : UInt8, byteAt s 0 = x.toNat ∧ byteAt s 1 = y.toNat ∧ bSub s 0 2 = ⟨#[x, y]⟩ := by
  have hl := bts_len s
  obtain ⟨x, y, r, hr⟩ : ∃ x y r, bts s = x :: y :: r := by
    match hb : bts s with
    | [] => rw [hb] at hl; simp at hl; omega
    | [x] => rw [hb] at hl; simp at hl; omega
    | x :: y :: r => exact ⟨x, y, r, rfl⟩
  refine ⟨x, y, ?_, ?_, ?_⟩
  · show (((bts s).getD 0 0).toNat : Int) = _; rw [hr]; rfl
  · show (((bts s).getD 1 0).toNat : Int) = _; rw [hr]; rfl
  · apply bts_ext; rw [bts_sub, hr]; rfl
theorem pair_eq (x y a b : UInt8) : ((⟨#[x, y]⟩ : ByteArray) = ⟨#[a, b]⟩) ↔ (x.toNat = a.toNat ∧ y.toNat = b.toNat) := by
  simp [UInt8.toNat_inj]
theorem one_punct : ∀ n : Fin 256, decide (0 ≤ firstIdx ⟨#[123, 125, 40, 41, 91, 93, 44, 59, 58, 61, 60, 62, 33, 43, 45, 42, 63, 46, 47]⟩ (UInt8.ofNat n.1)) = decide (UInt8.ofNat n.1 ∈ oneB) := by decide +kernel
instance pc_punct (s : ByteArray) [hs : SB s] : PC Tryz.prog 99 [.string s] (.int .i64 (punctN s)) := ⟨fun w => by
  have hs := hs.h
  refine calls_of_W Tryz.func99 rfl rfl ?_
  iterate 4 (first | refine byW ?_ | (refine byV ?_; intro w hw))
  refine W_cut (fun ρ w' => Has ρ [(0, .string s)] ∧ w' = w ∧ ¬ (2 ≤ s.size ∧ two2 (byteAt s 0) (byteAt s 1) = true)) ?_ ?_
  · repeat (first | refine byW ?_ | (refine byV ?_; intro w hw))
    refine W_cond rfl (fun h => ?_) (fun h => ?_)
    · have h : 2 ≤ s.size := by simp at h; omega
      obtain ⟨x, y, hx, hy, hxy⟩ := two_bytes h
      have key : two2 (byteAt s 0) (byteAt s 1) = true → Ending.returned (.int .i64 2) = Ending.returned (.int .i64 (punctN s)) := fun ht => by
        unfold punctN; rw [if_pos ⟨h, ht⟩]; rfl
      rw [hx, hy] at key
      repeat (first | refine byW ?_ | (refine byV ?_; intro w hw))
      rw [show (2 : Int).toNat = 2 from rfl, hxy]
      refine W_cond rfl (fun h1 => ?_) (fun h1 => ?_)
      · repeat (first | refine byW ?_ | (refine byV ?_; intro w hw))
        refine W_cond_true (by simp only [h1]; rfl) ?_
        repeat (first | refine byW ?_ | (refine byV ?_; intro w hw))
        have q := (pair_eq _ _ _ _).1 (of_decide_eq_true h1)
        exact ⟨_, rfl, key (by simp [two2, q]), rfl⟩
      repeat (first | refine byW ?_ | (refine byV ?_; intro w hw))
      refine W_cond rfl (fun h2 => ?_) (fun h2 => ?_)
      · repeat (first | refine byW ?_ | (refine byV ?_; intro w hw))
        refine W_cond_true (by simp only [h2]; rfl) ?_
        repeat (first | refine byW ?_ | (refine byV ?_; intro w hw))
        have q := (pair_eq _ _ _ _).1 (of_decide_eq_true h2)
        exact ⟨_, rfl, key (by simp [two2, q]), rfl⟩
      repeat (first | refine byW ?_ | (refine byV ?_; intro w hw))
      refine W_cond rfl (fun h3 => ?_) (fun h3 => ?_)
      · repeat (first | refine byW ?_ | (refine byV ?_; intro w hw))
        refine W_cond_true (by simp only [h3]; rfl) ?_
        repeat (first | refine byW ?_ | (refine byV ?_; intro w hw))
        have q := (pair_eq _ _ _ _).1 (of_decide_eq_true h3)
        exact ⟨_, rfl, key (by simp [two2, q]), rfl⟩
      repeat (first | refine byW ?_ | (refine byV ?_; intro w hw))
      refine W_cond rfl (fun h4 => ?_) (fun h4 => ?_)
      · repeat (first | refine byW ?_ | (refine byV ?_; intro w hw))
        refine W_cond_true (by simp only [h4]; rfl) ?_
        repeat (first | refine byW ?_ | (refine byV ?_; intro w hw))
        have q := (pair_eq _ _ _ _).1 (of_decide_eq_true h4)
        exact ⟨_, rfl, key (by simp [two2, q]), rfl⟩
      repeat (first | refine byW ?_ | (refine byV ?_; intro w hw))
      refine W_cond rfl (fun h5 => ?_) (fun h5 => ?_)
      · repeat (first | refine byW ?_ | (refine byV ?_; intro w hw))
        have q := (pair_eq _ _ _ _).1 (of_decide_eq_true h5)
        exact ⟨_, rfl, key (by simp [two2, q]), rfl⟩
      · repeat (first | refine byW ?_ | (refine byV ?_; intro w hw))
        refine ⟨⟨rfl, trivial⟩, rfl, fun hh => ?_⟩
        have hh := hh.2
        rw [hx, hy] at hh
        have q := fun a b (hq : decide ((⟨#[x, y]⟩ : ByteArray) = ⟨#[a, b]⟩) = false) => mt (pair_eq x y a b).2 (of_decide_eq_false hq)
        have q1 := q _ _ h1
        have q2 := q _ _ h2
        have q3 := q _ _ h3
        have q4 := q _ _ h4
        have q5 := q _ _ h5
        simp [two2] at hh q1 q2 q3 q4 q5
        omega
    · have h : ¬ 2 ≤ s.size := by simp at h; omega
      repeat (first | refine byW ?_ | (refine byV ?_; intro w hw))
      exact ⟨⟨rfl, trivial⟩, rfl, fun hh => h hh.1⟩
  · rintro ρ w' ⟨hρ, rfl, hn⟩
    rw [hρ.eq]
    have key : (decide (s ≠ ⟨#[]⟩) && decide (0 ≤ firstIdx ⟨#[123, 125, 40, 41, 91, 93, 44, 59, 58, 61, 60, 62, 33, 43, 45, 42, 63, 46, 47]⟩ (byteAt s 0).toNat.toUInt8)) = decide (punctN s = 1) := by
      have h1 := one_punct ⟨(s.data.toList.getD 0 0).toNat, (s.data.toList.getD 0 0).toNat_lt⟩
      have h2 : (byteAt s 0).toNat.toUInt8 = s.data.toList.getD 0 0 := by
        show (((s.data.toList.getD 0 0).toNat : Int).toNat).toUInt8 = _
        rw [Int.toNat_natCast]; simp
      have h3 : UInt8.ofNat (s.data.toList.getD 0 0).toNat = s.data.toList.getD 0 0 := by simp
      rw [h3] at h1
      rw [h2, h1]
      unfold punctN
      rw [if_neg hn]
      rw [show decide (s ≠ ⟨#[]⟩) = decide (0 < s.size) from decide_eq_decide.2 ne_nilB]
      by_cases e1 : 0 < s.size <;> by_cases e2 : s.data.toList.getD 0 0 ∈ oneB <;> simp [e1, e2]
    have hp : punctN s = 1 ∨ punctN s = 0 := by
      unfold punctN; rw [if_neg hn]; split <;> simp
    repeat (first | refine byW ?_ | (refine byV ?_; intro w hw))
    refine W_cond rfl (fun h => ?_) (fun h => ?_)
    · have h := of_decide_eq_true (key.symm.trans h)
      repeat (first | refine byW ?_ | (refine byV ?_; intro w hw))
      exact ⟨_, rfl, ret_i rfl (by rw [h]; rfl), rfl⟩
    · have h := of_decide_eq_false (key.symm.trans h)
      have h0 := hp.resolve_left h
      repeat (first | refine byW ?_ | (refine byV ?_; intro w hw))
      exact ⟨_, rfl, ret_i rfl (by rw [h0]; rfl), rfl⟩⟩
end Go.Proofs.YtimbobmmijgkiaaGreatDoor
end
/- A strings.Builder that is written to, in any program that has one. -/
section
open Go Mk
namespace Go.Proofs.YtimbobmmijgkiaaGreatDoor
set_option maxHeartbeats 16000000
attribute [local irreducible] Calls

abbrev BldT : TypeId := 67
/-- A builder that holds these bytes. -/
def bldR (b : Nat) (l : List UInt8) : Res := Res.ex (α := {q : Value × Value // (q.1 = .pointer none ∨ q.1 = .pointer (some ⟨b, 0, none⟩)) ∧ (l = [] → q.2 = .slice none 0 0)}) fun q => [.blk b (.cells #[q.1.1, q.1.2] 67), .own q.1.2 5 1 (bRows l)]
section
variable {Γ : Gho} {S : List Res} {w : World} {b : Nat}
theorem bld_new (hw : Wd Γ (.blk b (.cells #[.pointer none, .slice none 0 0] 67) :: S) w) : Wd Γ (bldR b [] :: S) w :=
  Wd.closeEx ⟨(.pointer none, .slice none 0 0), .inl rfl, fun _ => rfl⟩ ((Wd.addNil hw).ps [1])
theorem ext_noEscape (v : Value) (w : World) : (callFunc 156 #[v]).run Tryz.prog w = .ok (.value v) w := by
  rw [run_callFunc_extern Tryz.func156 (by kernel_rfl) (by kernel_rfl) (e := Extern.AbiNoEscape.same) (by kernel_rfl) (by kernel_rfl), Lib.run_noEscape]
  rfl
theorem copyCheck_any {p v : Value} (hp : p = .pointer none ∨ p = .pointer (some ⟨b, 0, none⟩)) (hw : Wd Γ (.blk b (.cells #[p, v] 67) :: S) w) :
    Calls Tryz.prog 108 #[.pointer (some ⟨b, 0, none⟩)] w fun e w' => e = .returned (.tuple #[]) ∧ Wd Γ (.blk b (.cells #[.pointer (some ⟨b, 0, none⟩), v] 67) :: S) w' := by
  obtain ⟨j, hj, hjs⟩ : ∃ j, Tryz.prog.info? 67 = some j ∧ j.size = 2 := Option.map_eq_some_iff.1 (inferInstance : TSz Tryz.prog 67 2).h
  refine calls_of_W Tryz.func108 rfl rfl ?_
  rcases hp with rfl | rfl
  · repeat (first | refine byW ?_ | (refine byV ?_; intro w hw))
    refine W_cond rfl (fun _ => ?_) (fun h => by cases h)
    repeat (first | refine byW ?_ | (refine byV ?_; intro w hw))
    refine lY (v := .pointer (some ⟨b, 0, none⟩)) ?_ (hy := y_toUnsafe (i := 0) Tryz.underlying64 Tryz.underlying171 hj (by rw [hjs]; decide) hw rfl rfl Nat.zero_lt_two)
    repeat (first | refine byW ?_ | (refine byV ?_; intro w hw))
    refine lExt (vs := [.pointer (some ⟨b, 0, none⟩)]) (ext_noEscape _) ?_
    repeat (first | refine byW ?_ | (refine byV ?_; intro w hw))
    refine lY (v := .pointer (some ⟨b, 0, none⟩)) ?_ (hy := y_fromUnsafe (i := 0) Tryz.underlying171 Tryz.underlying64 hj hw rfl rfl (by kernel_rfl))
    repeat (first | refine byW ?_ | (refine byV ?_; intro w hw))
    refine lStore ?_
    intro w hw
    repeat (first | refine byW ?_ | (refine byV ?_; intro w hw))
    exact ⟨_, rfl, rfl, hw⟩
  · repeat (first | refine byW ?_ | (refine byV ?_; intro w hw))
    refine W_cond rfl (fun h => by cases h) (fun _ => ?_)
    repeat (first | refine byW ?_ | (refine byV ?_; intro w hw))
    refine lY (v := .bool false) ?_ (hy := y_neqPP Tryz.underlying64 hj rfl rfl)
    repeat (first | refine byW ?_ | (refine byV ?_; intro w hw))
    refine W_cond rfl (fun h => by cases h) (fun _ => ?_)
    repeat (first | refine byW ?_ | (refine byV ?_; intro w hw))
    exact ⟨_, rfl, rfl, hw⟩
theorem WriteString_any {l : List UInt8} (s : ByteArray) (hl : l.length + s.size ≤ 100000000) (hw : Wd Γ (bldR b l :: S) w) :
    Calls Tryz.prog 30 #[.pointer (some ⟨b, 0, none⟩), .string s] w fun e w' => e = .returned (.tuple #[.int .i64 s.size, .nilIface]) ∧ Wd Γ (bldR b (l ++ s.data.toList) :: S) w' := by
  obtain ⟨⟨⟨p, v⟩, hp, hv⟩, hw⟩ := hw.openEx
  dsimp only at hp hv
  have hw : Wd Γ (.blk b (.cells #[p, v] 67) :: .own v 5 1 (bRows l) :: S) w := hw
  obtain ⟨a, n, c, rfl, hn, hnc, hc⟩ := hw.own_shape (i := 1) rfl
  rw [bRows_len] at hn
  refine calls_of_W Tryz.func30 rfl rfl ?_
  repeat (first | refine byW ?_ | (refine byV ?_; intro w hw))
  refine lCall ?_
  refine (copyCheck_any hp hw).mono ?_
  clear hw
  rintro e w ⟨rfl, hw⟩
  refine ⟨_, rfl, ?_⟩
  repeat (first | refine byW ?_ | (refine byV ?_; intro w hw))
  refine lAppStr (i := 1) (l := l) (s := s) (a := a) (m := n) (c := c) ?_ (by omega)
  intro v' w hv' hw
  obtain ⟨a', n', c', rfl, -, -, -⟩ := hw.own_shape (i := 1) rfl
  repeat (first | refine byW ?_ | (refine byV ?_; intro w hw))
  refine lStore (i := 0) ?_
  intro w hw
  have hw : Wd Γ (.blk b (.cells #[.pointer (some ⟨b, 0, none⟩), .slice a' n' c'] 67) :: .own (.slice a' n' c') 5 1 (bRows (l ++ s.data.toList)) :: S) w := hw
  repeat (first | refine byW ?_ | (refine byV ?_; intro w hw))
  refine ⟨_, rfl, rfl, Wd.closeEx ⟨(.pointer (some ⟨b, 0, none⟩), .slice a' n' c'), .inr rfl, fun h => ?_⟩ hw⟩
  obtain ⟨h1, h2⟩ := List.append_eq_nil_iff.1 h
  have h3 : s.size = 0 := by
    have : s.data.toList.length = s.size := by simp
    rw [h2] at this; exact this.symm
  have h4 := hv' h3
  dsimp only
  rw [h4]; exact hv h1
theorem WriteByte_any {l : List UInt8} (c : UInt8) (hl : l.length ≤ 100000000) (hw : Wd Γ (bldR b l :: S) w) :
    Calls Tryz.prog 29 #[.pointer (some ⟨b, 0, none⟩), .int .u8 ((c.toNat : Nat) : Int)] w fun e w' => e = .returned .nilIface ∧ Wd Γ (bldR b (l ++ [c]) :: S) w' := by
  obtain ⟨⟨⟨p, v⟩, hp, hv⟩, hw⟩ := hw.openEx
  dsimp only at hp hv
  have hw : Wd Γ (.blk b (.cells #[p, v] 67) :: .own v 5 1 (bRows l) :: S) w := hw
  obtain ⟨a, n, cc, rfl, hn, hnc, hc⟩ := hw.own_shape (i := 1) rfl
  rw [bRows_len] at hn
  refine calls_of_W Tryz.func29 rfl rfl ?_
  repeat (first | refine byW ?_ | (refine byV ?_; intro w hw))
  refine lCall ?_
  refine (copyCheck_any hp hw).mono ?_
  clear hw
  rintro e w ⟨rfl, hw⟩
  refine ⟨_, rfl, ?_⟩
  repeat (first | refine byW ?_ | (refine byV ?_; intro w hw))
  refine lBuildSlice [[.int .u8 ((c.toNat : Nat) : Int)]] ?_
  intro a13 w hw
  have hw : Wd Γ (.own (.slice (some a13) 1 1) 5 1 (bRows [c]) :: .blk b (.cells #[.pointer (some ⟨b, 0, none⟩), .slice a n cc] 67) :: .own (.slice a n cc) 5 1 (bRows l) :: S) w := hw
  repeat (first | refine byW ?_ | (refine byV ?_; intro w hw))
  refine lApp (i := 2) (rows2 := bRows [c]) ?_ (Wd.own_rd (i := 0) hw rfl)
  intro v' w hw
  rw [← bRows_app] at hw
  have hw : Wd Γ (.own (.slice (some a13) 1 1) 5 1 (bRows [c]) :: .blk b (.cells #[.pointer (some ⟨b, 0, none⟩), .slice a n cc] 67) :: .own v' 5 1 (bRows (l ++ [c])) :: S) w := hw
  obtain ⟨a', n', c', rfl, -, -, -⟩ := hw.own_shape (i := 2) rfl
  have hw : Wd Γ (.blk b (.cells #[.pointer (some ⟨b, 0, none⟩), .slice a n cc] 67) :: .own (.slice a' n' c') 5 1 (bRows (l ++ [c])) :: S) w := hw.drop
  repeat (first | refine byW ?_ | (refine byV ?_; intro w hw))
  refine lStore (i := 0) ?_
  intro w hw
  have hw : Wd Γ (.blk b (.cells #[.pointer (some ⟨b, 0, none⟩), .slice a' n' c'] 67) :: .own (.slice a' n' c') 5 1 (bRows (l ++ [c])) :: S) w := hw
  repeat (first | refine byW ?_ | (refine byV ?_; intro w hw))
  exact ⟨_, rfl, rfl, Wd.closeEx ⟨(.pointer (some ⟨b, 0, none⟩), .slice a' n' c'), .inr rfl, fun h => by simp at h⟩ hw⟩
theorem String_any {l : List UInt8} (hl : l.length ≤ 100000000) (hw : Wd Γ (bldR b l :: S) w) :
    Calls Tryz.prog 31 #[.pointer (some ⟨b, 0, none⟩)] w fun e w' => e = .returned (.string ⟨l.toArray⟩) ∧ Wd Γ S w' := by
  obtain ⟨⟨⟨p, v⟩, hp, hv⟩, hw⟩ := hw.openEx
  dsimp only at hp hv
  have hw : Wd Γ (.blk b (.cells #[p, v] 67) :: .own v 5 1 (bRows l) :: S) w := hw
  obtain ⟨a, n, c, rfl, hn, hnc, hc⟩ := hw.own_shape (i := 1) rfl
  rw [bRows_len] at hn
  subst hn
  refine calls_of_W Tryz.func31 rfl rfl ?_
  by_cases h0 : l = []
  · subst h0
    cases hv rfl
    repeat (first | refine byW ?_ | (refine byV ?_; intro w hw))
    refine W_quiet (by kernel_rfl) (by kernel_rfl) hw ?_
    repeat (first | refine Q_nil ?_ | (apply Q_plain; first | (apply Q_go; first | refine qP ?_ | refine qPg ?_) | refine qY ?_) | (apply Q_guarded; first | (apply Q_go; first | refine qPG ?_ | refine qPgG ?_) | refine qG ?_))
    refine qY (v := .pointer none) ?_ (hy := fun w hw => y_sliceDataN rfl)
    repeat (first | refine Q_nil ?_ | (apply Q_plain; first | (apply Q_go; first | refine qP ?_ | refine qPg ?_) | refine qY ?_) | (apply Q_guarded; first | (apply Q_go; first | refine qPG ?_ | refine qPgG ?_) | refine qG ?_))
    refine qY (v := .string ⟨#[]⟩) ?_ (hy := fun w hw => y_unsafeStrN rfl rfl)
    repeat (first | refine Q_nil ?_ | (apply Q_plain; first | (apply Q_go; first | refine qP ?_ | refine qPg ?_) | refine qY ?_) | (apply Q_guarded; first | (apply Q_go; first | refine qPG ?_ | refine qPgG ?_) | refine qG ?_))
    intro w hw
    repeat (first | refine byW ?_ | (refine byV ?_; intro w hw))
    exact ⟨_, rfl, rfl, hw.ds [0, 0]⟩
  · have hpos : 0 < l.length := List.length_pos_iff.2 h0
    obtain ⟨A, rfl⟩ : ∃ A, a = some A := by
      have := (Wd.own_rd (i := 1) hw rfl).at_ (by rw [bRows_len]; exact hpos)
      exact ⟨_, this⟩
    repeat (first | refine byW ?_ | (refine byV ?_; intro w hw))
    refine W_mixC [.blk b _] (.own _ _ _ _ :: S) [] [[],[],[],[],[],[],[],[],[],[],[0],[]] hw ?_
    repeat (first | refine mY ?_ | refine mP ?_ | refine mPg ?_)
    refine mY (v := .pointer (some A)) ?_ (hy := fun Y w g hw => y_sliceData rfl (by omega))
    repeat (first | refine mY ?_ | refine mP ?_ | refine mPg ?_)
    refine mStepX (φ := fun (_ : Unit) _ => True) (R := fun _ => .own (.slice (some A) l.length c) 5 1 (bRows l) :: S) (v := .string ⟨l.toArray⟩) (T' := Unit) (fun _ _ => True) (fun _ => S) (fun t' g w Y _ hw => s_unsafeStr (R := S ++ ([.blk b (.cells #[p, .slice (some A) l.length c] 67)] ++ Y)) Tryz.underlying136 (by kernel_rfl) hw rfl rfl h0 fun w' hw' => ⟨(), trivial, (fun _ => rfl), hw'⟩) ?_
    repeat (first | refine mY ?_ | refine mP ?_ | refine mPg ?_)
    refine mEndX fun t' w g _ hw => ?_
    repeat (first | refine byW ?_ | (refine byV ?_; intro w hw))
    exact ⟨_, rfl, rfl, Wd.left hw⟩
end
end Go.Proofs.YtimbobmmijgkiaaGreatDoor
end
/- The program's lexer: numerals. -/
section
open Go Mk
namespace Go.Proofs.YtimbobmmijgkiaaGreatDoor
set_option maxHeartbeats 4000000
attribute [local irreducible] Calls

theorem u64_wrap {a : Int} (h0 : 0 ≤ a) (h1 : a ≤ 18446744073709551615) : IntKind.u64.wrap a = a := by
  simp [IntKind.wrap, IntKind.bits, IntKind.signed]; omega
theorem sufK_cases (c : Int) : sufK c = 0 ∨ sufK c = 10 ∨ sufK c = 20 ∨ sufK c = 30 := by
  unfold sufK; repeat (first | split | simp)
/-- What is left of a numeral when its suffix is off. -/
def numBody (sh : Nat) (s : ByteArray) : Nat × Int :=
  if 2 ≤ s.size ∧ byteAt s 0 = 48 ∧ byteAt s 1 = 120 then
    if s.size = 2 then (0, 50) else numCore 16 sh (bts (bSub s 2 s.size))
  else if s.size = 0 ∨ (1 < s.size ∧ byteAt s 0 = 48) then (0, 50) else numCore 10 sh (bts s)
def cutS (s : ByteArray) : ByteArray := if 0 < sufK (byteAt s (s.size - 1)) then bSub s 0 (s.size - 1) else s
theorem numS_body (s : ByteArray) : numS s = numBody (sufK (byteAt s (s.size - 1))) (cutS s) := rfl
def numB (base sh : Nat) (s : ByteArray) : Nat × Int := if s.size = 0 ∨ (base = 10 ∧ 1 < s.size ∧ byteAt s 0 = 48) then (0, 50) else numCore base sh (bts s)
theorem pre0x {s : ByteArray} : (decide (((⟨#[48, 120]⟩ : ByteArray).size : Int) ≤ s.size) && decide (bSub s 0 (⟨#[48, 120]⟩ : ByteArray).size = ⟨#[48, 120]⟩)) = decide (2 ≤ s.size ∧ byteAt s 0 = 48 ∧ byteAt s 1 = 120) := by
  show (decide ((2 : Int) ≤ s.size) && decide (bSub s 0 2 = ⟨#[48, 120]⟩)) = _
  by_cases h : 2 ≤ s.size
  · obtain ⟨x, y, hx, hy, hxy⟩ := two_bytes h
    rw [hxy, hx, hy]
    have h1 : (2 : Int) ≤ s.size := by omega
    have h2 := pair_eq x y 48 120
    simp only [h, h1, h2, decide_true, Bool.true_and, true_and]
    congr 1
    simp
    omega
  · have h1 : ¬ (2 : Int) ≤ s.size := by omega
    simp [h, h1]
theorem numB_pre {sh : Nat} {s : ByteArray} (h : 2 ≤ s.size ∧ byteAt s 0 = 48 ∧ byteAt s 1 = 120) : numBody sh s = numB 16 sh (bSub s 2 s.size) := by
  unfold numBody numB
  rw [if_pos h, sub_size (Nat.le_refl _)]
  by_cases h2 : s.size = 2
  · rw [if_pos h2, if_pos (.inl (by omega))]
  · rw [if_neg h2, if_neg (by omega)]
theorem numB_no {sh : Nat} {s : ByteArray} (h : ¬ (2 ≤ s.size ∧ byteAt s 0 = 48 ∧ byteAt s 1 = 120)) : numBody sh s = numB 10 sh s := by
  unfold numBody numB
  rw [if_neg h]
  simp

theorem drop_at {α : Type} {l : List α} {k : Nat} {x : α} (h : l[k]? = some x) : l.drop k = x :: l.drop (k + 1) := by
  obtain ⟨h1, h2⟩ := List.getElem?_eq_some_iff.1 h
  rw [← h2]; exact List.drop_eq_getElem_cons h1
class NE (s : ByteArray) : Prop where h : 0 < s.size
theorem number_any (s : ByteArray) (hs : s.size ≤ 4611686018427387904) (h0 : 0 < s.size) (w : World) :
    Calls Tryz.prog 97 #[.string s] w fun e w' => e = .returned (.tuple #[.int .u64 (numS s).1, .int .i64 (numS s).2]) ∧ w' = w := by
  refine calls_of_W Tryz.func97 rfl rfl ?_
  iterate 9 (first | refine byW ?_ | (refine byV ?_; intro w hw))
  refine W_cut (fun ρ w' => ∃ s' : ByteArray, ∃ sh : Nat, Has ρ [(0, .string s'), (4, .int .i64 sh)] ∧ w' = w ∧ s' = cutS s ∧ sh = sufK (byteAt s (s.size - 1))) ?_ ?_
  · have e1 : ((s.size : Int) - 1).toNat = s.size - 1 := by omega
    repeat (first | refine byW ?_ | (refine byV ?_; intro w hw))
    rw [e1]
    refine W_cond rfl (fun h => ?_) (fun h => ?_)
    · have h : byteAt s (s.size - 1) = 71 := of_decide_eq_true h
      have hk : sufK (byteAt s (s.size - 1)) = 30 := by rw [h]; rfl
      repeat (first | refine byW ?_ | (refine byV ?_; intro w hw))
      rw [e1]
      exact ⟨_, 30, ⟨rfl, rfl, trivial⟩, rfl, by unfold cutS; rw [hk]; rfl, hk.symm⟩
    repeat (first | refine byW ?_ | (refine byV ?_; intro w hw))
    refine W_cond rfl (fun h2 => ?_) (fun h2 => ?_)
    · have h2 : byteAt s (s.size - 1) = 77 := of_decide_eq_true h2
      have hk : sufK (byteAt s (s.size - 1)) = 20 := by rw [h2]; rfl
      repeat (first | refine byW ?_ | (refine byV ?_; intro w hw))
      rw [e1]
      exact ⟨_, 20, ⟨rfl, rfl, trivial⟩, rfl, by unfold cutS; rw [hk]; rfl, hk.symm⟩
    repeat (first | refine byW ?_ | (refine byV ?_; intro w hw))
    refine W_cond rfl (fun h3 => ?_) (fun h3 => ?_)
    · have h3 : byteAt s (s.size - 1) = 75 := of_decide_eq_true h3
      have hk : sufK (byteAt s (s.size - 1)) = 10 := by rw [h3]; rfl
      repeat (first | refine byW ?_ | (refine byV ?_; intro w hw))
      rw [e1]
      exact ⟨_, 10, ⟨rfl, rfl, trivial⟩, rfl, by unfold cutS; rw [hk]; rfl, hk.symm⟩
    · have h : ¬ byteAt s (s.size - 1) = 71 := of_decide_eq_false h
      have h2 : ¬ byteAt s (s.size - 1) = 77 := of_decide_eq_false h2
      have h3 : ¬ byteAt s (s.size - 1) = 75 := of_decide_eq_false h3
      have hk : sufK (byteAt s (s.size - 1)) = 0 := by unfold sufK; rw [if_neg h, if_neg h2, if_neg h3]
      repeat (first | refine byW ?_ | (refine byV ?_; intro w hw))
      exact ⟨s, 0, ⟨rfl, rfl, trivial⟩, rfl, by unfold cutS; rw [hk]; rfl, hk.symm⟩
  · rintro ρ w' ⟨s', sh, hρ, rfl, hs', hsh⟩
    rw [hρ.eq, numS_body, ← hs', ← hsh]
    have hcase := sufK_cases (byteAt s (s.size - 1))
    rw [← hsh] at hcase
    have hsz : s'.size ≤ 4611686018427387904 := by
      rw [hs']; unfold cutS; split
      · rw [sub_size (by omega)]; omega
      · exact hs
    clear hs' hsh hρ
    iterate 4 (first | refine byW ?_ | (refine byV ?_; intro w hw))
    refine W_cut (fun ρ w'' => ∃ s2 : ByteArray, ∃ base : Nat, Has ρ [(0, .string s2), (4, .int .i64 sh), (5, .int .u64 base)] ∧ w'' = w' ∧ numBody sh s' = numB base sh s2 ∧ (base = 10 ∨ base = 16) ∧ s2.size ≤ 4611686018427387904) ?_ ?_
    · repeat (first | refine byW ?_ | (refine byV ?_; intro w hw))
      rw [pre0x]
      refine W_cond rfl (fun h => ?_) (fun h => ?_)
      · have h := of_decide_eq_true h
        obtain ⟨hp1, hp2, hp3⟩ := h
        repeat (first | refine byW ?_ | (refine byV ?_; intro w hw))
        exact ⟨bSub s' 2 s'.size, 16, ⟨rfl, rfl, rfl, trivial⟩, rfl, numB_pre ⟨hp1, hp2, hp3⟩, .inr rfl, by rw [sub_size (Nat.le_refl _)]; omega⟩
      · have h := of_decide_eq_false h
        repeat (first | refine byW ?_ | (refine byV ?_; intro w hw))
        exact ⟨s', 10, ⟨rfl, rfl, rfl, trivial⟩, rfl, numB_no h, .inl rfl, hsz⟩
    · rintro ρ w'' ⟨s2, base, hρ, rfl, hN, hbase, hsz2⟩
      rw [hρ.eq, hN]
      clear hN hρ hsz
      have key : (decide (s2 = ⟨#[]⟩) || ((decide ((base : Int) = 10) && decide ((1 : Int) < s2.size)) && decide (byteAt s2 0 = 48))) = decide (s2.size = 0 ∨ (base = 10 ∧ 1 < s2.size ∧ byteAt s2 0 = 48)) := by
        rw [show decide (s2 = ⟨#[]⟩) = decide (s2.size = 0) from decide_eq_decide.2 eq_nilB]
        rw [show decide ((base : Int) = 10) = decide (base = 10) from decide_eq_decide.2 (by omega), show decide ((1 : Int) < s2.size) = decide (1 < s2.size) from decide_eq_decide.2 (by omega)]
        by_cases e1 : s2.size = 0 <;> by_cases e2 : base = 10 <;> by_cases e3 : 1 < s2.size <;> by_cases e4 : byteAt s2 0 = 48 <;> simp [e1, e2, e3, e4]
      repeat (first | refine byW ?_ | (refine byV ?_; intro w hw))
      refine W_cond rfl (fun h => ?_) (fun h => ?_)
      · have h := of_decide_eq_true (key.symm.trans h)
        repeat (first | refine byW ?_ | (refine byV ?_; intro w hw))
        exact ⟨_, rfl, by unfold numB; rw [if_pos h]; rfl, rfl⟩
      have h := of_decide_eq_false (key.symm.trans h)
      have hN : numB base sh s2 = numCore base sh (bts s2) := by unfold numB; rw [if_neg h]
      rw [hN]
      clear hN key
      haveI : SmallB (base : Int) := ⟨by omega⟩
      have hbl := bts_len s2
      repeat (first | refine byW ?_ | (refine byV ?_; intro w hw))
      refine W_loop (fun μ ρ w => ∃ k : Nat, μ + k = s2.size ∧ Has ρ [(0, .string s2), (4, .int .i64 sh), (5, .int .u64 base), (6, .int .i64 k)] ∧ ((bts s2).take k).all (fun c => decide (0 ≤ digV c.toNat base)) = true ∧ w = w'') s2.size ⟨0, by omega, ⟨rfl, rfl, rfl, rfl, trivial⟩, rfl, rfl⟩ ?_
      rintro μ ρ w ⟨k, hk, hρ, hall, rfl⟩
      rw [hρ.eq]
      repeat (first | refine byW ?_ | (refine byV ?_; intro w hw))
      refine W_cond rfl (fun h1 => ?_) (fun h1 => ?_)
      · have hkn : k < s2.size := by simpa using h1
        obtain ⟨c, hc⟩ := get_lt (l := bts s2) (k := k) (by omega)
        have hg : s2.data.toList.getD (k : Int).toNat 0 = c := by
          show (bts s2).getD k 0 = c
          rw [List.getD_eq_getElem?_getD, hc]; rfl
        have hmem : c ∈ bts s2 := List.mem_of_getElem? hc
        repeat (first | refine byW ?_ | (refine byV ?_; intro w hw))
        rw [hg]
        refine W_cond rfl (fun h2 => ?_) (fun h2 => ?_)
        · have h2 : digV c.toNat base < 0 := of_decide_eq_true h2
          have hf : (bts s2).all (fun c => decide (0 ≤ digV c.toNat base)) = false := by
            rw [List.all_eq_false]
            exact ⟨c, hmem, by simp; omega⟩
          repeat (first | refine byW ?_ | (refine byV ?_; intro w hw))
          exact ⟨_, rfl, by unfold numCore; rw [if_pos hf]; rfl, rfl⟩
        · have h2 : ¬ digV c.toNat base < 0 := of_decide_eq_false h2
          repeat (first | refine byW ?_ | (refine byV ?_; intro w hw))
          refine ⟨μ - 1, by omega, k + 1, by omega, ⟨rfl, rfl, rfl, rfl, trivial⟩, ?_, rfl⟩
          rw [List.take_add_one, hc, List.all_append, hall]
          simp; omega
      have hkn : ¬ k < s2.size := by simpa using h1
      rw [List.take_of_length_le (by omega)] at hall
      clear h1 hkn
      repeat (first | refine byW ?_ | (refine byV ?_; intro w hw))
      refine W_loop (fun μ ρ w' => ∃ k v : Nat, μ + k = s2.size ∧ Has ρ [(0, .string s2), (4, .int .i64 sh), (5, .int .u64 base), (7, .int .u64 v), (8, .int .i64 k)] ∧ valL base (bts s2) 0 = valL base ((bts s2).drop k) v ∧ v ≤ most64 ∧ w' = w) s2.size ⟨0, 0, by omega, ⟨rfl, rfl, rfl, rfl, rfl, trivial⟩, rfl, by unfold most64; omega, rfl⟩ ?_
      rintro μ ρ w' ⟨k, v, hk, hρ, hval, hvm, rfl⟩
      rw [hρ.eq]
      repeat (first | refine byW ?_ | (refine byV ?_; intro w hw))
      refine W_cond rfl (fun h1 => ?_) (fun h1 => ?_)
      · have hkn : k < s2.size := by simpa using h1
        obtain ⟨c, hc⟩ := get_lt (l := bts s2) (k := k) (by omega)
        have hg : s2.data.toList.getD (k : Int).toNat 0 = c := by
          show (bts s2).getD k 0 = c
          rw [List.getD_eq_getElem?_getD, hc]; rfl
        have hd0 : 0 ≤ digV c.toNat base := by
          have := List.all_eq_true.1 hall c (List.mem_of_getElem? hc)
          simpa using this
        have hdr := (digV_range c.toNat base (by omega)).resolve_left (by omega)
        rw [drop_at hc] at hval
        have hval : valL base (bts s2) 0 = valL base ((bts s2).drop (k + 1)) (v * base + (digV c.toNat base).toNat) := hval
        obtain ⟨d, hd⟩ : ∃ d : Nat, digV c.toNat base = (d : Int) := ⟨(digV c.toNat base).toNat, by omega⟩
        rw [hd] at hval hdr
        rw [Int.toNat_natCast] at hval
        have hmost : (most64 : Int) = 18446744073709551615 := rfl
        have hw1 : IntKind.u64.wrap (d : Int) = d := u64_wrap (by omega) (by omega)
        have hw2 : IntKind.u64.wrap (18446744073709551615 - (d : Int)) = 18446744073709551615 - d := u64_wrap (by omega) (by omega)
        have hdiv : (18446744073709551615 - (d : Int)).tdiv base = (18446744073709551615 - (d : Int)) / base := Int.tdiv_eq_ediv_of_nonneg (by omega)
        have hq0 : 0 ≤ (18446744073709551615 - (d : Int)) / base := Int.ediv_nonneg (by omega) (by omega)
        have hq1 : (18446744073709551615 - (d : Int)) / base ≤ 18446744073709551615 - (d : Int) := Int.ediv_le_self _ (by omega)
        have hw3 : IntKind.u64.wrap ((18446744073709551615 - (d : Int)) / base) = (18446744073709551615 - (d : Int)) / base := u64_wrap hq0 (by omega)
        have hle : (v : Int) ≤ (18446744073709551615 - (d : Int)) / base ↔ (v : Int) * base ≤ 18446744073709551615 - d := Int.le_ediv_iff_mul_le (by omega)
        repeat (first | refine byW ?_ | (refine byV ?_; intro w hw))
        rw [hg, hd, hw1, hw2, hdiv, hw3]
        refine W_cond rfl (fun h2 => ?_) (fun h2 => ?_)
        · have h2 : (18446744073709551615 - (d : Int)) / base < v := of_decide_eq_true h2
          have h3 : ¬ (v : Int) * base ≤ 18446744073709551615 - d := fun hh => by have := hle.2 hh; omega
          have h4 : most64 < v * base + d := by
            have : (most64 : Int) < ((v * base + d : Nat) : Int) := by rw [hmost]; push_cast; omega
            omega
          have h5 := valL_le base (by omega) ((bts s2).drop (k + 1)) (v * base + d)
          have h6 : most64 >>> sh ≤ most64 := Nat.shiftRight_le _ _
          repeat (first | refine byW ?_ | (refine byV ?_; intro w hw))
          refine ⟨_, rfl, ?_, rfl⟩
          unfold numCore
          rw [if_neg (by rw [hall]; simp), if_pos (by rw [hval]; omega)]; rfl
        · have h2 : ¬ (18446744073709551615 - (d : Int)) / base < v := of_decide_eq_false h2
          have h3 : (v : Int) * base ≤ 18446744073709551615 - d := hle.1 (by omega)
          have h3' : 0 ≤ (v : Int) * base := Int.mul_nonneg (by omega) (by omega)
          have hw4 : IntKind.u64.wrap ((v : Int) * base) = v * base := u64_wrap h3' (by omega)
          have hw5 : IntKind.u64.wrap ((v : Int) * base + d) = v * base + d := u64_wrap (by omega) (by omega)
          repeat (first | refine byW ?_ | (refine byV ?_; intro w hw))
          refine ⟨μ - 1, by omega, k + 1, v * base + d, by omega, ⟨rfl, rfl, rfl, ?_, rfl, trivial⟩, hval, ?_, rfl⟩
          · show Value.int .u64 (IntKind.u64.wrap (IntKind.u64.wrap ((v : Int) * base) + d)) = _
            rw [hw4, hw5]; push_cast; rfl
          · have : ((v * base + d : Nat) : Int) ≤ (most64 : Int) := by rw [hmost]; push_cast; omega
            omega
      have hkn : ¬ k < s2.size := by simpa using h1
      rw [List.drop_eq_nil_of_le (by omega)] at hval
      have hval : valL base (bts s2) 0 = v := hval
      have hcore : numCore base sh (bts s2) = if most64 >>> sh < v then (0, 6) else (v <<< sh, 0) := by
        unfold numCore
        rw [if_neg (by rw [hall]; simp), hval]
      rw [hcore]
      have key1 : (18446744073709551615 : Int).fdiv (2 ^ (min (sh : Int).toNat IntKind.u64.bits)) = ((most64 >>> sh : Nat) : Int) := by
        rcases hcase with rfl | rfl | rfl | rfl <;> decide +kernel
      have hmin : min (sh : Int).toNat IntKind.u64.bits = sh := by
        rcases hcase with rfl | rfl | rfl | rfl <;> rfl
      repeat (first | refine byW ?_ | (refine byV ?_; intro w hw))
      rw [key1]
      refine W_cond rfl (fun h2 => ?_) (fun h2 => ?_)
      · have h2 : most64 >>> sh < v := by have := of_decide_eq_true h2; omega
        repeat (first | refine byW ?_ | (refine byV ?_; intro w hw))
        refine ⟨_, rfl, ?_, rfl⟩
        rw [if_pos h2]; rfl
      · have h2 : ¬ most64 >>> sh < v := by have := of_decide_eq_false h2; omega
        have h3 : v * 2 ^ sh ≤ most64 := by
          rw [Nat.shiftRight_eq_div_pow] at h2
          exact (Nat.le_div_iff_mul_le (Nat.two_pow_pos sh)).1 (by omega)
        have h4 : IntKind.u64.wrap ((v : Int) * 2 ^ (min (sh : Int).toNat IntKind.u64.bits)) = ((v <<< sh : Nat) : Int) := by
          rw [hmin, Nat.shiftLeft_eq]
          have e : ((v * 2 ^ sh : Nat) : Int) = (v : Int) * 2 ^ sh := by push_cast; rfl
          rw [← e]
          have hmost : most64 = 18446744073709551615 := rfl
          exact u64_wrap (by omega) (by omega)
        repeat (first | refine byW ?_ | (refine byV ?_; intro w hw))
        refine ⟨_, rfl, ?_, rfl⟩
        rw [if_neg h2]
        show Ending.returned (.tuple #[.int .u64 (IntKind.u64.wrap ((v : Int) * 2 ^ (min (sh : Int).toNat IntKind.u64.bits))), .int .i64 0]) = _
        rw [h4]
end Go.Proofs.YtimbobmmijgkiaaGreatDoor
end
