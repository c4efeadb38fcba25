/- Texts of this proof, one behind another. -/
import Derived.Test.YteiijmclobggjaaM2
import Derived.Test.YteiijmclobggjaaChecked
import Derived.Laws.Externs
import Derived.Lib.Bytealg
set_option linter.unusedVariables false
set_option linter.unusedSimpArgs false
/- Facts on the types and functions of this translation, a row each (written by a program of mine; the kernel checks each). -/
section
open Go Mk
namespace Go.Proofs.Yteiijmclobggjaa
instance : TZ Try.prog 1 [.nilFunc] := ⟨by kernel_rfl⟩
instance : TZV Try.prog 1 (.nilFunc) := ⟨by kernel_rfl⟩
instance : TS Try.prog 1 := ⟨by kernel_rfl⟩
instance : TZ Try.prog 2 [.int .i64 0] := ⟨by kernel_rfl⟩
instance : TZV Try.prog 2 (.int .i64 0) := ⟨by kernel_rfl⟩
instance : TS Try.prog 2 := ⟨by kernel_rfl⟩
instance : TInt Try.prog 2 .i64 := ⟨by kernel_rfl⟩
instance : TZ Try.prog 3 [.int .i64 0] := ⟨by kernel_rfl⟩
instance : TZV Try.prog 3 (.int .i64 0) := ⟨by kernel_rfl⟩
instance : TS Try.prog 3 := ⟨by kernel_rfl⟩
instance : TInt Try.prog 3 .i64 := ⟨by kernel_rfl⟩
instance : TZ Try.prog 4 [.bool false] := ⟨by kernel_rfl⟩
instance : TZV Try.prog 4 (.bool false) := ⟨by kernel_rfl⟩
instance : TS Try.prog 4 := ⟨by kernel_rfl⟩
instance : TBool Try.prog 4 := ⟨by kernel_rfl⟩
instance : TZ Try.prog 5 [.int .u8 0] := ⟨by kernel_rfl⟩
instance : TZV Try.prog 5 (.int .u8 0) := ⟨by kernel_rfl⟩
instance : TS Try.prog 5 := ⟨by kernel_rfl⟩
instance : TInt Try.prog 5 .u8 := ⟨by kernel_rfl⟩
instance : TZ Try.prog 6 [.int .u8 0] := ⟨by kernel_rfl⟩
instance : TZV Try.prog 6 (.int .u8 0) := ⟨by kernel_rfl⟩
instance : TS Try.prog 6 := ⟨by kernel_rfl⟩
instance : TInt Try.prog 6 .u8 := ⟨by kernel_rfl⟩
instance : TZ Try.prog 7 [.int .i64 0, .int .i64 0, .bool false, .int .u8 0] := ⟨by kernel_rfl⟩
instance : TZV Try.prog 7 (.agg #[.int .i64 0, .int .i64 0, .bool false, .int .u8 0]) := ⟨by kernel_rfl⟩
instance : TA Try.prog 7 4 := ⟨by kernel_rfl⟩
instance : TEq Try.prog 7 [5, 5, 0, 6] := ⟨by kernel_rfl, by kernel_rfl, by kernel_rfl⟩
instance : TB Try.prog 7 [(0, 1), (1, 1), (2, 1), (3, 1)] [.int .i64 0, .int .i64 0, .bool false, .int .u8 0] := ⟨by kernel_rfl, by kernel_rfl⟩
instance : TF Try.prog 7 0 0 := ⟨by kernel_rfl⟩
instance : TF Try.prog 7 1 1 := ⟨by kernel_rfl⟩
instance : TF Try.prog 7 2 2 := ⟨by kernel_rfl⟩
instance : TF Try.prog 7 3 3 := ⟨by kernel_rfl⟩
instance : TZ Try.prog 8 [.int .i64 0, .int .i64 0, .bool false, .int .u8 0] := ⟨by kernel_rfl⟩
instance : TZV Try.prog 8 (.agg #[.int .i64 0, .int .i64 0, .bool false, .int .u8 0]) := ⟨by kernel_rfl⟩
instance : TA Try.prog 8 4 := ⟨by kernel_rfl⟩
instance : TEq Try.prog 8 [5, 5, 0, 6] := ⟨by kernel_rfl, by kernel_rfl, by kernel_rfl⟩
instance : TB Try.prog 8 [(0, 1), (1, 1), (2, 1), (3, 1)] [.int .i64 0, .int .i64 0, .bool false, .int .u8 0] := ⟨by kernel_rfl, by kernel_rfl⟩
instance : TF Try.prog 8 0 0 := ⟨by kernel_rfl⟩
instance : TF Try.prog 8 1 1 := ⟨by kernel_rfl⟩
instance : TF Try.prog 8 2 2 := ⟨by kernel_rfl⟩
instance : TF Try.prog 8 3 3 := ⟨by kernel_rfl⟩
instance : TZ Try.prog 9 [.string ⟨#[]⟩] := ⟨by kernel_rfl⟩
instance : TZV Try.prog 9 (.string ⟨#[]⟩) := ⟨by kernel_rfl⟩
instance : TS Try.prog 9 := ⟨by kernel_rfl⟩
instance : TStr Try.prog 9 := ⟨by kernel_rfl⟩
instance : TZ Try.prog 10 [.string ⟨#[]⟩] := ⟨by kernel_rfl⟩
instance : TZV Try.prog 10 (.string ⟨#[]⟩) := ⟨by kernel_rfl⟩
instance : TS Try.prog 10 := ⟨by kernel_rfl⟩
instance : TStr Try.prog 10 := ⟨by kernel_rfl⟩
instance : TZ Try.prog 11 [.string ⟨#[]⟩] := ⟨by kernel_rfl⟩
instance : TZV Try.prog 11 (.string ⟨#[]⟩) := ⟨by kernel_rfl⟩
instance : TS Try.prog 11 := ⟨by kernel_rfl⟩
instance : TStr Try.prog 11 := ⟨by kernel_rfl⟩
instance : TZ Try.prog 12 [.int .u64 0] := ⟨by kernel_rfl⟩
instance : TZV Try.prog 12 (.int .u64 0) := ⟨by kernel_rfl⟩
instance : TS Try.prog 12 := ⟨by kernel_rfl⟩
instance : TInt Try.prog 12 .u64 := ⟨by kernel_rfl⟩
instance : TZ Try.prog 13 [.string ⟨#[]⟩, .int .u64 0] := ⟨by kernel_rfl⟩
instance : TZV Try.prog 13 (.agg #[.string ⟨#[]⟩, .int .u64 0]) := ⟨by kernel_rfl⟩
instance : TA Try.prog 13 2 := ⟨by kernel_rfl⟩
instance : TB Try.prog 13 [(0, 1), (1, 1)] [.string ⟨#[]⟩, .int .u64 0] := ⟨by kernel_rfl, by kernel_rfl⟩
instance : TF Try.prog 13 0 0 := ⟨by kernel_rfl⟩
instance : TF Try.prog 13 1 1 := ⟨by kernel_rfl⟩
instance : TZ Try.prog 14 [.string ⟨#[]⟩, .int .u64 0] := ⟨by kernel_rfl⟩
instance : TZV Try.prog 14 (.agg #[.string ⟨#[]⟩, .int .u64 0]) := ⟨by kernel_rfl⟩
instance : TA Try.prog 14 2 := ⟨by kernel_rfl⟩
instance : TB Try.prog 14 [(0, 1), (1, 1)] [.string ⟨#[]⟩, .int .u64 0] := ⟨by kernel_rfl, by kernel_rfl⟩
instance : TF Try.prog 14 0 0 := ⟨by kernel_rfl⟩
instance : TF Try.prog 14 1 1 := ⟨by kernel_rfl⟩
instance : TZ Try.prog 15 [.pointer none] := ⟨by kernel_rfl⟩
instance : TZV Try.prog 15 (.pointer none) := ⟨by kernel_rfl⟩
instance : TS Try.prog 15 := ⟨by kernel_rfl⟩
instance : TPtr Try.prog 15 150 := ⟨by kernel_rfl⟩
instance : TZ Try.prog 16 [.pointer none] := ⟨by kernel_rfl⟩
instance : TZV Try.prog 16 (.pointer none) := ⟨by kernel_rfl⟩
instance : TS Try.prog 16 := ⟨by kernel_rfl⟩
instance : TPtr Try.prog 16 153 := ⟨by kernel_rfl⟩
instance : TZ Try.prog 17 [.pointer none] := ⟨by kernel_rfl⟩
instance : TZV Try.prog 17 (.pointer none) := ⟨by kernel_rfl⟩
instance : TS Try.prog 17 := ⟨by kernel_rfl⟩
instance : TPtr Try.prog 17 162 := ⟨by kernel_rfl⟩
instance : TZ Try.prog 18 [.pointer none] := ⟨by kernel_rfl⟩
instance : TZV Try.prog 18 (.agg #[.pointer none]) := ⟨by kernel_rfl⟩
instance : TA Try.prog 18 1 := ⟨by kernel_rfl⟩
instance : TB Try.prog 18 [(0, 1)] [.pointer none] := ⟨by kernel_rfl, by kernel_rfl⟩
instance : TF Try.prog 18 0 0 := ⟨by kernel_rfl⟩
instance : TZ Try.prog 19 [.pointer none] := ⟨by kernel_rfl⟩
instance : TZV Try.prog 19 (.agg #[.pointer none]) := ⟨by kernel_rfl⟩
instance : TA Try.prog 19 1 := ⟨by kernel_rfl⟩
instance : TB Try.prog 19 [(0, 1)] [.pointer none] := ⟨by kernel_rfl, by kernel_rfl⟩
instance : TF Try.prog 19 0 0 := ⟨by kernel_rfl⟩
instance : TZ Try.prog 20 [.nilIface] := ⟨by kernel_rfl⟩
instance : TZV Try.prog 20 (.nilIface) := ⟨by kernel_rfl⟩
instance : TS Try.prog 20 := ⟨by kernel_rfl⟩
instance : TZ Try.prog 21 [.int .i32 0] := ⟨by kernel_rfl⟩
instance : TZV Try.prog 21 (.int .i32 0) := ⟨by kernel_rfl⟩
instance : TS Try.prog 21 := ⟨by kernel_rfl⟩
instance : TInt Try.prog 21 .i32 := ⟨by kernel_rfl⟩
instance : TZ Try.prog 22 [.slice none 0 0] := ⟨by kernel_rfl⟩
instance : TZV Try.prog 22 (.slice none 0 0) := ⟨by kernel_rfl⟩
instance : TS Try.prog 22 := ⟨by kernel_rfl⟩
instance : TL Try.prog 22 3 1 8 [.int .i64 0] := ⟨by kernel_rfl, by kernel_rfl, by kernel_rfl, by decide⟩
instance : TZ Try.prog 23 [.nilFunc] := ⟨by kernel_rfl⟩
instance : TZV Try.prog 23 (.nilFunc) := ⟨by kernel_rfl⟩
instance : TS Try.prog 23 := ⟨by kernel_rfl⟩
instance : TZ Try.prog 24 [.slice none 0 0] := ⟨by kernel_rfl⟩
instance : TZV Try.prog 24 (.slice none 0 0) := ⟨by kernel_rfl⟩
instance : TS Try.prog 24 := ⟨by kernel_rfl⟩
instance : TL Try.prog 24 33 4 32 [.int .i64 0, .int .i64 0, .int .i64 0, .int .i64 0] := ⟨by kernel_rfl, by kernel_rfl, by kernel_rfl, by decide⟩
instance : TZ Try.prog 25 [.slice none 0 0] := ⟨by kernel_rfl⟩
instance : TZV Try.prog 25 (.slice none 0 0) := ⟨by kernel_rfl⟩
instance : TS Try.prog 25 := ⟨by kernel_rfl⟩
instance : TL Try.prog 25 69 5 64 [.string ⟨#[]⟩, .int .i64 0, .int .i64 0, .int .u64 0, .slice none 0 0] := ⟨by kernel_rfl, by kernel_rfl, by kernel_rfl, by decide⟩
instance : TZ Try.prog 26 [.slice none 0 0] := ⟨by kernel_rfl⟩
instance : TZV Try.prog 26 (.slice none 0 0) := ⟨by kernel_rfl⟩
instance : TS Try.prog 26 := ⟨by kernel_rfl⟩
instance : TL Try.prog 26 41 3 24 [.int .i64 0, .int .i64 0, .int .i64 0] := ⟨by kernel_rfl, by kernel_rfl, by kernel_rfl, by decide⟩
instance : TZ Try.prog 27 [.slice none 0 0] := ⟨by kernel_rfl⟩
instance : TZV Try.prog 27 (.slice none 0 0) := ⟨by kernel_rfl⟩
instance : TS Try.prog 27 := ⟨by kernel_rfl⟩
instance : TL Try.prog 27 63 5 48 [.string ⟨#[]⟩, .int .u64 0, .int .u64 0, .int .i64 0, .int .i64 0] := ⟨by kernel_rfl, by kernel_rfl, by kernel_rfl, by decide⟩
instance : TZ Try.prog 28 [.slice none 0 0] := ⟨by kernel_rfl⟩
instance : TZV Try.prog 28 (.slice none 0 0) := ⟨by kernel_rfl⟩
instance : TS Try.prog 28 := ⟨by kernel_rfl⟩
instance : TL Try.prog 28 65 5 48 [.string ⟨#[]⟩, .int .i64 0, .int .i64 0, .int .u64 0, .int .u64 0] := ⟨by kernel_rfl, by kernel_rfl, by kernel_rfl, by decide⟩
instance : TZ Try.prog 29 [.string ⟨#[]⟩, .slice none 0 0, .slice none 0 0, .slice none 0 0, .slice none 0 0, .slice none 0 0] := ⟨by kernel_rfl⟩
instance : TZV Try.prog 29 (.agg #[.string ⟨#[]⟩, .slice none 0 0, .slice none 0 0, .slice none 0 0, .slice none 0 0, .slice none 0 0]) := ⟨by kernel_rfl⟩
instance : TA Try.prog 29 6 := ⟨by kernel_rfl⟩
instance : TB Try.prog 29 [(0, 1), (1, 1), (2, 1), (3, 1), (4, 1), (5, 1)] [.string ⟨#[]⟩, .slice none 0 0, .slice none 0 0, .slice none 0 0, .slice none 0 0, .slice none 0 0] := ⟨by kernel_rfl, by kernel_rfl⟩
instance : TF Try.prog 29 0 0 := ⟨by kernel_rfl⟩
instance : TF Try.prog 29 1 1 := ⟨by kernel_rfl⟩
instance : TF Try.prog 29 2 2 := ⟨by kernel_rfl⟩
instance : TF Try.prog 29 3 3 := ⟨by kernel_rfl⟩
instance : TF Try.prog 29 4 4 := ⟨by kernel_rfl⟩
instance : TF Try.prog 29 5 5 := ⟨by kernel_rfl⟩
instance : TZ Try.prog 30 [.string ⟨#[]⟩, .slice none 0 0, .slice none 0 0, .slice none 0 0, .slice none 0 0, .slice none 0 0] := ⟨by kernel_rfl⟩
instance : TZV Try.prog 30 (.agg #[.string ⟨#[]⟩, .slice none 0 0, .slice none 0 0, .slice none 0 0, .slice none 0 0, .slice none 0 0]) := ⟨by kernel_rfl⟩
instance : TA Try.prog 30 6 := ⟨by kernel_rfl⟩
instance : TB Try.prog 30 [(0, 1), (1, 1), (2, 1), (3, 1), (4, 1), (5, 1)] [.string ⟨#[]⟩, .slice none 0 0, .slice none 0 0, .slice none 0 0, .slice none 0 0, .slice none 0 0] := ⟨by kernel_rfl, by kernel_rfl⟩
instance : TF Try.prog 30 0 0 := ⟨by kernel_rfl⟩
instance : TF Try.prog 30 1 1 := ⟨by kernel_rfl⟩
instance : TF Try.prog 30 2 2 := ⟨by kernel_rfl⟩
instance : TF Try.prog 30 3 3 := ⟨by kernel_rfl⟩
instance : TF Try.prog 30 4 4 := ⟨by kernel_rfl⟩
instance : TF Try.prog 30 5 5 := ⟨by kernel_rfl⟩
instance : TZ Try.prog 31 [.nilFunc] := ⟨by kernel_rfl⟩
instance : TZV Try.prog 31 (.nilFunc) := ⟨by kernel_rfl⟩
instance : TS Try.prog 31 := ⟨by kernel_rfl⟩
instance : TZ Try.prog 32 [.int .i64 0, .int .i64 0, .int .i64 0, .int .i64 0] := ⟨by kernel_rfl⟩
instance : TZV Try.prog 32 (.agg #[.int .i64 0, .int .i64 0, .int .i64 0, .int .i64 0]) := ⟨by kernel_rfl⟩
instance : TA Try.prog 32 4 := ⟨by kernel_rfl⟩
instance : TEq Try.prog 32 [5, 5, 5, 5] := ⟨by kernel_rfl, by kernel_rfl, by kernel_rfl⟩
instance : TB Try.prog 32 [(0, 1), (1, 1), (2, 1), (3, 1)] [.int .i64 0, .int .i64 0, .int .i64 0, .int .i64 0] := ⟨by kernel_rfl, by kernel_rfl⟩
instance : TF Try.prog 32 0 0 := ⟨by kernel_rfl⟩
instance : TF Try.prog 32 1 1 := ⟨by kernel_rfl⟩
instance : TF Try.prog 32 2 2 := ⟨by kernel_rfl⟩
instance : TF Try.prog 32 3 3 := ⟨by kernel_rfl⟩
instance : TZ Try.prog 33 [.int .i64 0, .int .i64 0, .int .i64 0, .int .i64 0] := ⟨by kernel_rfl⟩
instance : TZV Try.prog 33 (.agg #[.int .i64 0, .int .i64 0, .int .i64 0, .int .i64 0]) := ⟨by kernel_rfl⟩
instance : TA Try.prog 33 4 := ⟨by kernel_rfl⟩
instance : TEq Try.prog 33 [5, 5, 5, 5] := ⟨by kernel_rfl, by kernel_rfl, by kernel_rfl⟩
instance : TB Try.prog 33 [(0, 1), (1, 1), (2, 1), (3, 1)] [.int .i64 0, .int .i64 0, .int .i64 0, .int .i64 0] := ⟨by kernel_rfl, by kernel_rfl⟩
instance : TF Try.prog 33 0 0 := ⟨by kernel_rfl⟩
instance : TF Try.prog 33 1 1 := ⟨by kernel_rfl⟩
instance : TF Try.prog 33 2 2 := ⟨by kernel_rfl⟩
instance : TF Try.prog 33 3 3 := ⟨by kernel_rfl⟩
instance : TZ Try.prog 34 [.nilFunc] := ⟨by kernel_rfl⟩
instance : TZV Try.prog 34 (.nilFunc) := ⟨by kernel_rfl⟩
instance : TS Try.prog 34 := ⟨by kernel_rfl⟩
instance : TZ Try.prog 35 [.int .i64 0] := ⟨by kernel_rfl⟩
instance : TZV Try.prog 35 (.int .i64 0) := ⟨by kernel_rfl⟩
instance : TS Try.prog 35 := ⟨by kernel_rfl⟩
instance : TInt Try.prog 35 .i64 := ⟨by kernel_rfl⟩
instance : TZ Try.prog 37 [.nilFunc] := ⟨by kernel_rfl⟩
instance : TZV Try.prog 37 (.nilFunc) := ⟨by kernel_rfl⟩
instance : TS Try.prog 37 := ⟨by kernel_rfl⟩
instance : TZ Try.prog 39 [.nilFunc] := ⟨by kernel_rfl⟩
instance : TZV Try.prog 39 (.nilFunc) := ⟨by kernel_rfl⟩
instance : TS Try.prog 39 := ⟨by kernel_rfl⟩
instance : TZ Try.prog 40 [.int .i64 0, .int .i64 0, .int .i64 0] := ⟨by kernel_rfl⟩
instance : TZV Try.prog 40 (.agg #[.int .i64 0, .int .i64 0, .int .i64 0]) := ⟨by kernel_rfl⟩
instance : TA Try.prog 40 3 := ⟨by kernel_rfl⟩
instance : TEq Try.prog 40 [5, 5, 5] := ⟨by kernel_rfl, by kernel_rfl, by kernel_rfl⟩
instance : TB Try.prog 40 [(0, 1), (1, 1), (2, 1)] [.int .i64 0, .int .i64 0, .int .i64 0] := ⟨by kernel_rfl, by kernel_rfl⟩
instance : TF Try.prog 40 0 0 := ⟨by kernel_rfl⟩
instance : TF Try.prog 40 1 1 := ⟨by kernel_rfl⟩
instance : TF Try.prog 40 2 2 := ⟨by kernel_rfl⟩
instance : TZ Try.prog 41 [.int .i64 0, .int .i64 0, .int .i64 0] := ⟨by kernel_rfl⟩
instance : TZV Try.prog 41 (.agg #[.int .i64 0, .int .i64 0, .int .i64 0]) := ⟨by kernel_rfl⟩
instance : TA Try.prog 41 3 := ⟨by kernel_rfl⟩
instance : TEq Try.prog 41 [5, 5, 5] := ⟨by kernel_rfl, by kernel_rfl, by kernel_rfl⟩
instance : TB Try.prog 41 [(0, 1), (1, 1), (2, 1)] [.int .i64 0, .int .i64 0, .int .i64 0] := ⟨by kernel_rfl, by kernel_rfl⟩
instance : TF Try.prog 41 0 0 := ⟨by kernel_rfl⟩
instance : TF Try.prog 41 1 1 := ⟨by kernel_rfl⟩
instance : TF Try.prog 41 2 2 := ⟨by kernel_rfl⟩
instance : TZ Try.prog 42 [.nilFunc] := ⟨by kernel_rfl⟩
instance : TZV Try.prog 42 (.nilFunc) := ⟨by kernel_rfl⟩
instance : TS Try.prog 42 := ⟨by kernel_rfl⟩
instance : TZ Try.prog 44 [.nilFunc] := ⟨by kernel_rfl⟩
instance : TZV Try.prog 44 (.nilFunc) := ⟨by kernel_rfl⟩
instance : TS Try.prog 44 := ⟨by kernel_rfl⟩
instance : TZ Try.prog 45 [.slice none 0 0] := ⟨by kernel_rfl⟩
instance : TZV Try.prog 45 (.slice none 0 0) := ⟨by kernel_rfl⟩
instance : TS Try.prog 45 := ⟨by kernel_rfl⟩
instance : TL Try.prog 45 52 2 16 [.int .i64 0, .int .i64 0] := ⟨by kernel_rfl, by kernel_rfl, by kernel_rfl, by decide⟩
instance : TZ Try.prog 46 [.int .i64 0, .slice none 0 0] := ⟨by kernel_rfl⟩
instance : TZV Try.prog 46 (.agg #[.int .i64 0, .slice none 0 0]) := ⟨by kernel_rfl⟩
instance : TA Try.prog 46 2 := ⟨by kernel_rfl⟩
instance : TB Try.prog 46 [(0, 1), (1, 1)] [.int .i64 0, .slice none 0 0] := ⟨by kernel_rfl, by kernel_rfl⟩
instance : TF Try.prog 46 0 0 := ⟨by kernel_rfl⟩
instance : TF Try.prog 46 1 1 := ⟨by kernel_rfl⟩
instance : TZ Try.prog 47 [.int .i64 0, .slice none 0 0] := ⟨by kernel_rfl⟩
instance : TZV Try.prog 47 (.agg #[.int .i64 0, .slice none 0 0]) := ⟨by kernel_rfl⟩
instance : TA Try.prog 47 2 := ⟨by kernel_rfl⟩
instance : TB Try.prog 47 [(0, 1), (1, 1)] [.int .i64 0, .slice none 0 0] := ⟨by kernel_rfl, by kernel_rfl⟩
instance : TF Try.prog 47 0 0 := ⟨by kernel_rfl⟩
instance : TF Try.prog 47 1 1 := ⟨by kernel_rfl⟩
instance : TZ Try.prog 49 [.nilFunc] := ⟨by kernel_rfl⟩
instance : TZV Try.prog 49 (.nilFunc) := ⟨by kernel_rfl⟩
instance : TS Try.prog 49 := ⟨by kernel_rfl⟩
instance : TZ Try.prog 50 [.nilFunc] := ⟨by kernel_rfl⟩
instance : TZV Try.prog 50 (.nilFunc) := ⟨by kernel_rfl⟩
instance : TS Try.prog 50 := ⟨by kernel_rfl⟩
instance : TZ Try.prog 51 [.int .i64 0, .int .i64 0] := ⟨by kernel_rfl⟩
instance : TZV Try.prog 51 (.agg #[.int .i64 0, .int .i64 0]) := ⟨by kernel_rfl⟩
instance : TA Try.prog 51 2 := ⟨by kernel_rfl⟩
instance : TEq Try.prog 51 [5, 5] := ⟨by kernel_rfl, by kernel_rfl, by kernel_rfl⟩
instance : TB Try.prog 51 [(0, 1), (1, 1)] [.int .i64 0, .int .i64 0] := ⟨by kernel_rfl, by kernel_rfl⟩
instance : TF Try.prog 51 0 0 := ⟨by kernel_rfl⟩
instance : TF Try.prog 51 1 1 := ⟨by kernel_rfl⟩
instance : TZ Try.prog 52 [.int .i64 0, .int .i64 0] := ⟨by kernel_rfl⟩
instance : TZV Try.prog 52 (.agg #[.int .i64 0, .int .i64 0]) := ⟨by kernel_rfl⟩
instance : TA Try.prog 52 2 := ⟨by kernel_rfl⟩
instance : TEq Try.prog 52 [5, 5] := ⟨by kernel_rfl, by kernel_rfl, by kernel_rfl⟩
instance : TB Try.prog 52 [(0, 1), (1, 1)] [.int .i64 0, .int .i64 0] := ⟨by kernel_rfl, by kernel_rfl⟩
instance : TF Try.prog 52 0 0 := ⟨by kernel_rfl⟩
instance : TF Try.prog 52 1 1 := ⟨by kernel_rfl⟩
instance : TZ Try.prog 53 [.nilFunc] := ⟨by kernel_rfl⟩
instance : TZV Try.prog 53 (.nilFunc) := ⟨by kernel_rfl⟩
instance : TS Try.prog 53 := ⟨by kernel_rfl⟩
instance : TZ Try.prog 54 [.nilFunc] := ⟨by kernel_rfl⟩
instance : TZV Try.prog 54 (.nilFunc) := ⟨by kernel_rfl⟩
instance : TS Try.prog 54 := ⟨by kernel_rfl⟩
instance : TZ Try.prog 55 [.pointer none] := ⟨by kernel_rfl⟩
instance : TZV Try.prog 55 (.pointer none) := ⟨by kernel_rfl⟩
instance : TS Try.prog 55 := ⟨by kernel_rfl⟩
instance : TPtr Try.prog 55 57 := ⟨by kernel_rfl⟩
instance : TZ Try.prog 56 [.slice none 0 0, .int .i64 0] := ⟨by kernel_rfl⟩
instance : TZV Try.prog 56 (.agg #[.slice none 0 0, .int .i64 0]) := ⟨by kernel_rfl⟩
instance : TA Try.prog 56 2 := ⟨by kernel_rfl⟩
instance : TB Try.prog 56 [(0, 1), (1, 1)] [.slice none 0 0, .int .i64 0] := ⟨by kernel_rfl, by kernel_rfl⟩
instance : TF Try.prog 56 0 0 := ⟨by kernel_rfl⟩
instance : TF Try.prog 56 1 1 := ⟨by kernel_rfl⟩
instance : TZ Try.prog 57 [.slice none 0 0, .int .i64 0] := ⟨by kernel_rfl⟩
instance : TZV Try.prog 57 (.agg #[.slice none 0 0, .int .i64 0]) := ⟨by kernel_rfl⟩
instance : TA Try.prog 57 2 := ⟨by kernel_rfl⟩
instance : TB Try.prog 57 [(0, 1), (1, 1)] [.slice none 0 0, .int .i64 0] := ⟨by kernel_rfl, by kernel_rfl⟩
instance : TF Try.prog 57 0 0 := ⟨by kernel_rfl⟩
instance : TF Try.prog 57 1 1 := ⟨by kernel_rfl⟩
instance : TZ Try.prog 58 [.int .i64 0, .int .i64 0, .int .i64 0, .int .i64 0, .int .i64 0, .int .i64 0] := ⟨by kernel_rfl⟩
instance : TZV Try.prog 58 (.agg #[.int .i64 0, .int .i64 0, .int .i64 0, .int .i64 0, .int .i64 0, .int .i64 0]) := ⟨by kernel_rfl⟩
instance : TA Try.prog 58 6 := ⟨by kernel_rfl⟩
instance : TArr Try.prog 58 6 3 1 := ⟨by kernel_rfl, by kernel_rfl⟩
instance : TZ Try.prog 59 [.nilFunc] := ⟨by kernel_rfl⟩
instance : TZV Try.prog 59 (.nilFunc) := ⟨by kernel_rfl⟩
instance : TS Try.prog 59 := ⟨by kernel_rfl⟩
instance : TZ Try.prog 60 [.int .u64 0] := ⟨by kernel_rfl⟩
instance : TZV Try.prog 60 (.int .u64 0) := ⟨by kernel_rfl⟩
instance : TS Try.prog 60 := ⟨by kernel_rfl⟩
instance : TInt Try.prog 60 .u64 := ⟨by kernel_rfl⟩
instance : TZ Try.prog 61 [.int .u64 0] := ⟨by kernel_rfl⟩
instance : TZV Try.prog 61 (.int .u64 0) := ⟨by kernel_rfl⟩
instance : TS Try.prog 61 := ⟨by kernel_rfl⟩
instance : TInt Try.prog 61 .u64 := ⟨by kernel_rfl⟩
instance : TZ Try.prog 62 [.string ⟨#[]⟩, .int .u64 0, .int .u64 0, .int .i64 0, .int .i64 0] := ⟨by kernel_rfl⟩
instance : TZV Try.prog 62 (.agg #[.string ⟨#[]⟩, .int .u64 0, .int .u64 0, .int .i64 0, .int .i64 0]) := ⟨by kernel_rfl⟩
instance : TA Try.prog 62 5 := ⟨by kernel_rfl⟩
instance : TEq Try.prog 62 [1, 9, 9, 5, 5] := ⟨by kernel_rfl, by kernel_rfl, by kernel_rfl⟩
instance : TB Try.prog 62 [(0, 1), (1, 1), (2, 1), (3, 1), (4, 1)] [.string ⟨#[]⟩, .int .u64 0, .int .u64 0, .int .i64 0, .int .i64 0] := ⟨by kernel_rfl, by kernel_rfl⟩
instance : TF Try.prog 62 0 0 := ⟨by kernel_rfl⟩
instance : TF Try.prog 62 1 1 := ⟨by kernel_rfl⟩
instance : TF Try.prog 62 2 2 := ⟨by kernel_rfl⟩
instance : TF Try.prog 62 3 3 := ⟨by kernel_rfl⟩
instance : TF Try.prog 62 4 4 := ⟨by kernel_rfl⟩
instance : TZ Try.prog 63 [.string ⟨#[]⟩, .int .u64 0, .int .u64 0, .int .i64 0, .int .i64 0] := ⟨by kernel_rfl⟩
instance : TZV Try.prog 63 (.agg #[.string ⟨#[]⟩, .int .u64 0, .int .u64 0, .int .i64 0, .int .i64 0]) := ⟨by kernel_rfl⟩
instance : TA Try.prog 63 5 := ⟨by kernel_rfl⟩
instance : TEq Try.prog 63 [1, 9, 9, 5, 5] := ⟨by kernel_rfl, by kernel_rfl, by kernel_rfl⟩
instance : TB Try.prog 63 [(0, 1), (1, 1), (2, 1), (3, 1), (4, 1)] [.string ⟨#[]⟩, .int .u64 0, .int .u64 0, .int .i64 0, .int .i64 0] := ⟨by kernel_rfl, by kernel_rfl⟩
instance : TF Try.prog 63 0 0 := ⟨by kernel_rfl⟩
instance : TF Try.prog 63 1 1 := ⟨by kernel_rfl⟩
instance : TF Try.prog 63 2 2 := ⟨by kernel_rfl⟩
instance : TF Try.prog 63 3 3 := ⟨by kernel_rfl⟩
instance : TF Try.prog 63 4 4 := ⟨by kernel_rfl⟩
instance : TZ Try.prog 64 [.string ⟨#[]⟩, .int .i64 0, .int .i64 0, .int .u64 0, .int .u64 0] := ⟨by kernel_rfl⟩
instance : TZV Try.prog 64 (.agg #[.string ⟨#[]⟩, .int .i64 0, .int .i64 0, .int .u64 0, .int .u64 0]) := ⟨by kernel_rfl⟩
instance : TA Try.prog 64 5 := ⟨by kernel_rfl⟩
instance : TEq Try.prog 64 [1, 5, 5, 9, 9] := ⟨by kernel_rfl, by kernel_rfl, by kernel_rfl⟩
instance : TB Try.prog 64 [(0, 1), (1, 1), (2, 1), (3, 1), (4, 1)] [.string ⟨#[]⟩, .int .i64 0, .int .i64 0, .int .u64 0, .int .u64 0] := ⟨by kernel_rfl, by kernel_rfl⟩
instance : TF Try.prog 64 0 0 := ⟨by kernel_rfl⟩
instance : TF Try.prog 64 1 1 := ⟨by kernel_rfl⟩
instance : TF Try.prog 64 2 2 := ⟨by kernel_rfl⟩
instance : TF Try.prog 64 3 3 := ⟨by kernel_rfl⟩
instance : TF Try.prog 64 4 4 := ⟨by kernel_rfl⟩
instance : TZ Try.prog 65 [.string ⟨#[]⟩, .int .i64 0, .int .i64 0, .int .u64 0, .int .u64 0] := ⟨by kernel_rfl⟩
instance : TZV Try.prog 65 (.agg #[.string ⟨#[]⟩, .int .i64 0, .int .i64 0, .int .u64 0, .int .u64 0]) := ⟨by kernel_rfl⟩
instance : TA Try.prog 65 5 := ⟨by kernel_rfl⟩
instance : TEq Try.prog 65 [1, 5, 5, 9, 9] := ⟨by kernel_rfl, by kernel_rfl, by kernel_rfl⟩
instance : TB Try.prog 65 [(0, 1), (1, 1), (2, 1), (3, 1), (4, 1)] [.string ⟨#[]⟩, .int .i64 0, .int .i64 0, .int .u64 0, .int .u64 0] := ⟨by kernel_rfl, by kernel_rfl⟩
instance : TF Try.prog 65 0 0 := ⟨by kernel_rfl⟩
instance : TF Try.prog 65 1 1 := ⟨by kernel_rfl⟩
instance : TF Try.prog 65 2 2 := ⟨by kernel_rfl⟩
instance : TF Try.prog 65 3 3 := ⟨by kernel_rfl⟩
instance : TF Try.prog 65 4 4 := ⟨by kernel_rfl⟩
instance : TZ Try.prog 66 [.nilFunc] := ⟨by kernel_rfl⟩
instance : TZV Try.prog 66 (.nilFunc) := ⟨by kernel_rfl⟩
instance : TS Try.prog 66 := ⟨by kernel_rfl⟩
instance : TZ Try.prog 67 [.nilFunc] := ⟨by kernel_rfl⟩
instance : TZV Try.prog 67 (.nilFunc) := ⟨by kernel_rfl⟩
instance : TS Try.prog 67 := ⟨by kernel_rfl⟩
instance : TZ Try.prog 68 [.string ⟨#[]⟩, .int .i64 0, .int .i64 0, .int .u64 0, .slice none 0 0] := ⟨by kernel_rfl⟩
instance : TZV Try.prog 68 (.agg #[.string ⟨#[]⟩, .int .i64 0, .int .i64 0, .int .u64 0, .slice none 0 0]) := ⟨by kernel_rfl⟩
instance : TA Try.prog 68 5 := ⟨by kernel_rfl⟩
instance : TB Try.prog 68 [(0, 1), (1, 1), (2, 1), (3, 1), (4, 1)] [.string ⟨#[]⟩, .int .i64 0, .int .i64 0, .int .u64 0, .slice none 0 0] := ⟨by kernel_rfl, by kernel_rfl⟩
instance : TF Try.prog 68 0 0 := ⟨by kernel_rfl⟩
instance : TF Try.prog 68 1 1 := ⟨by kernel_rfl⟩
instance : TF Try.prog 68 2 2 := ⟨by kernel_rfl⟩
instance : TF Try.prog 68 3 3 := ⟨by kernel_rfl⟩
instance : TF Try.prog 68 4 4 := ⟨by kernel_rfl⟩
instance : TZ Try.prog 69 [.string ⟨#[]⟩, .int .i64 0, .int .i64 0, .int .u64 0, .slice none 0 0] := ⟨by kernel_rfl⟩
instance : TZV Try.prog 69 (.agg #[.string ⟨#[]⟩, .int .i64 0, .int .i64 0, .int .u64 0, .slice none 0 0]) := ⟨by kernel_rfl⟩
instance : TA Try.prog 69 5 := ⟨by kernel_rfl⟩
instance : TB Try.prog 69 [(0, 1), (1, 1), (2, 1), (3, 1), (4, 1)] [.string ⟨#[]⟩, .int .i64 0, .int .i64 0, .int .u64 0, .slice none 0 0] := ⟨by kernel_rfl, by kernel_rfl⟩
instance : TF Try.prog 69 0 0 := ⟨by kernel_rfl⟩
instance : TF Try.prog 69 1 1 := ⟨by kernel_rfl⟩
instance : TF Try.prog 69 2 2 := ⟨by kernel_rfl⟩
instance : TF Try.prog 69 3 3 := ⟨by kernel_rfl⟩
instance : TF Try.prog 69 4 4 := ⟨by kernel_rfl⟩
instance : TZ Try.prog 70 [.nilFunc] := ⟨by kernel_rfl⟩
instance : TZV Try.prog 70 (.nilFunc) := ⟨by kernel_rfl⟩
instance : TS Try.prog 70 := ⟨by kernel_rfl⟩
instance : TZ Try.prog 71 [.nilFunc] := ⟨by kernel_rfl⟩
instance : TZV Try.prog 71 (.nilFunc) := ⟨by kernel_rfl⟩
instance : TS Try.prog 71 := ⟨by kernel_rfl⟩
instance : TZ Try.prog 72 [.map none] := ⟨by kernel_rfl⟩
instance : TZV Try.prog 72 (.map none) := ⟨by kernel_rfl⟩
instance : TS Try.prog 72 := ⟨by kernel_rfl⟩
instance : TMap Try.prog 72 3 74 := ⟨by kernel_rfl⟩
instance : TZ Try.prog 73 [.nilFunc] := ⟨by kernel_rfl⟩
instance : TZV Try.prog 73 (.nilFunc) := ⟨by kernel_rfl⟩
instance : TS Try.prog 73 := ⟨by kernel_rfl⟩
instance : TZ Try.prog 74 [.slice none 0 0] := ⟨by kernel_rfl⟩
instance : TZV Try.prog 74 (.slice none 0 0) := ⟨by kernel_rfl⟩
instance : TS Try.prog 74 := ⟨by kernel_rfl⟩
instance : TL Try.prog 74 76 2 16 [.int .i64 0, .int .i64 0] := ⟨by kernel_rfl, by kernel_rfl, by kernel_rfl, by decide⟩
instance : TZ Try.prog 75 [.int .i64 0, .int .i64 0] := ⟨by kernel_rfl⟩
instance : TZV Try.prog 75 (.agg #[.int .i64 0, .int .i64 0]) := ⟨by kernel_rfl⟩
instance : TA Try.prog 75 2 := ⟨by kernel_rfl⟩
instance : TEq Try.prog 75 [5, 5] := ⟨by kernel_rfl, by kernel_rfl, by kernel_rfl⟩
instance : TB Try.prog 75 [(0, 1), (1, 1)] [.int .i64 0, .int .i64 0] := ⟨by kernel_rfl, by kernel_rfl⟩
instance : TF Try.prog 75 0 0 := ⟨by kernel_rfl⟩
instance : TF Try.prog 75 1 1 := ⟨by kernel_rfl⟩
instance : TZ Try.prog 76 [.int .i64 0, .int .i64 0] := ⟨by kernel_rfl⟩
instance : TZV Try.prog 76 (.agg #[.int .i64 0, .int .i64 0]) := ⟨by kernel_rfl⟩
instance : TA Try.prog 76 2 := ⟨by kernel_rfl⟩
instance : TEq Try.prog 76 [5, 5] := ⟨by kernel_rfl, by kernel_rfl, by kernel_rfl⟩
instance : TB Try.prog 76 [(0, 1), (1, 1)] [.int .i64 0, .int .i64 0] := ⟨by kernel_rfl, by kernel_rfl⟩
instance : TF Try.prog 76 0 0 := ⟨by kernel_rfl⟩
instance : TF Try.prog 76 1 1 := ⟨by kernel_rfl⟩
instance : TZ Try.prog 77 [.nilFunc] := ⟨by kernel_rfl⟩
instance : TZV Try.prog 77 (.nilFunc) := ⟨by kernel_rfl⟩
instance : TS Try.prog 77 := ⟨by kernel_rfl⟩
instance : TZ Try.prog 78 [.nilFunc] := ⟨by kernel_rfl⟩
instance : TZV Try.prog 78 (.nilFunc) := ⟨by kernel_rfl⟩
instance : TS Try.prog 78 := ⟨by kernel_rfl⟩
instance : TZ Try.prog 79 [.nilFunc] := ⟨by kernel_rfl⟩
instance : TZV Try.prog 79 (.nilFunc) := ⟨by kernel_rfl⟩
instance : TS Try.prog 79 := ⟨by kernel_rfl⟩
instance : TZ Try.prog 80 [.map none] := ⟨by kernel_rfl⟩
instance : TZV Try.prog 80 (.map none) := ⟨by kernel_rfl⟩
instance : TS Try.prog 80 := ⟨by kernel_rfl⟩
instance : TMap Try.prog 80 3 22 := ⟨by kernel_rfl⟩
instance : TZ Try.prog 82 [.nilFunc] := ⟨by kernel_rfl⟩
instance : TZV Try.prog 82 (.nilFunc) := ⟨by kernel_rfl⟩
instance : TS Try.prog 82 := ⟨by kernel_rfl⟩
instance : TZ Try.prog 83 [.pointer none] := ⟨by kernel_rfl⟩
instance : TZV Try.prog 83 (.pointer none) := ⟨by kernel_rfl⟩
instance : TS Try.prog 83 := ⟨by kernel_rfl⟩
instance : TPtr Try.prog 83 88 := ⟨by kernel_rfl⟩
instance : TZ Try.prog 84 [.pointer none] := ⟨by kernel_rfl⟩
instance : TZV Try.prog 84 (.pointer none) := ⟨by kernel_rfl⟩
instance : TS Try.prog 84 := ⟨by kernel_rfl⟩
instance : TPtr Try.prog 84 86 := ⟨by kernel_rfl⟩
instance : TZ Try.prog 85 [.string ⟨#[]⟩, .slice none 0 0, .slice none 0 0, .slice none 0 0, .slice none 0 0, .slice none 0 0, .map none] := ⟨by kernel_rfl⟩
instance : TZV Try.prog 85 (.agg #[.string ⟨#[]⟩, .slice none 0 0, .slice none 0 0, .slice none 0 0, .slice none 0 0, .slice none 0 0, .map none]) := ⟨by kernel_rfl⟩
instance : TA Try.prog 85 7 := ⟨by kernel_rfl⟩
instance : TB Try.prog 85 [(0, 6), (6, 1)] [.string ⟨#[]⟩, .slice none 0 0, .slice none 0 0, .slice none 0 0, .slice none 0 0, .slice none 0 0, .map none] := ⟨by kernel_rfl, by kernel_rfl⟩
instance : TF Try.prog 85 0 0 := ⟨by kernel_rfl⟩
instance : TF Try.prog 85 1 6 := ⟨by kernel_rfl⟩
instance : TZ Try.prog 86 [.string ⟨#[]⟩, .slice none 0 0, .slice none 0 0, .slice none 0 0, .slice none 0 0, .slice none 0 0, .map none] := ⟨by kernel_rfl⟩
instance : TZV Try.prog 86 (.agg #[.string ⟨#[]⟩, .slice none 0 0, .slice none 0 0, .slice none 0 0, .slice none 0 0, .slice none 0 0, .map none]) := ⟨by kernel_rfl⟩
instance : TA Try.prog 86 7 := ⟨by kernel_rfl⟩
instance : TB Try.prog 86 [(0, 6), (6, 1)] [.string ⟨#[]⟩, .slice none 0 0, .slice none 0 0, .slice none 0 0, .slice none 0 0, .slice none 0 0, .map none] := ⟨by kernel_rfl, by kernel_rfl⟩
instance : TF Try.prog 86 0 0 := ⟨by kernel_rfl⟩
instance : TF Try.prog 86 1 6 := ⟨by kernel_rfl⟩
instance : TZ Try.prog 87 [.pointer none, .int .i64 0, .map none] := ⟨by kernel_rfl⟩
instance : TZV Try.prog 87 (.agg #[.pointer none, .int .i64 0, .map none]) := ⟨by kernel_rfl⟩
instance : TA Try.prog 87 3 := ⟨by kernel_rfl⟩
instance : TB Try.prog 87 [(0, 1), (1, 1), (2, 1)] [.pointer none, .int .i64 0, .map none] := ⟨by kernel_rfl, by kernel_rfl⟩
instance : TF Try.prog 87 0 0 := ⟨by kernel_rfl⟩
instance : TF Try.prog 87 1 1 := ⟨by kernel_rfl⟩
instance : TF Try.prog 87 2 2 := ⟨by kernel_rfl⟩
instance : TZ Try.prog 88 [.pointer none, .int .i64 0, .map none] := ⟨by kernel_rfl⟩
instance : TZV Try.prog 88 (.agg #[.pointer none, .int .i64 0, .map none]) := ⟨by kernel_rfl⟩
instance : TA Try.prog 88 3 := ⟨by kernel_rfl⟩
instance : TB Try.prog 88 [(0, 1), (1, 1), (2, 1)] [.pointer none, .int .i64 0, .map none] := ⟨by kernel_rfl, by kernel_rfl⟩
instance : TF Try.prog 88 0 0 := ⟨by kernel_rfl⟩
instance : TF Try.prog 88 1 1 := ⟨by kernel_rfl⟩
instance : TF Try.prog 88 2 2 := ⟨by kernel_rfl⟩
instance : TZ Try.prog 89 [.nilFunc] := ⟨by kernel_rfl⟩
instance : TZV Try.prog 89 (.nilFunc) := ⟨by kernel_rfl⟩
instance : TS Try.prog 89 := ⟨by kernel_rfl⟩
instance : TZ Try.prog 90 [.nilFunc] := ⟨by kernel_rfl⟩
instance : TZV Try.prog 90 (.nilFunc) := ⟨by kernel_rfl⟩
instance : TS Try.prog 90 := ⟨by kernel_rfl⟩
instance : TZ Try.prog 91 [.nilFunc] := ⟨by kernel_rfl⟩
instance : TZV Try.prog 91 (.nilFunc) := ⟨by kernel_rfl⟩
instance : TS Try.prog 91 := ⟨by kernel_rfl⟩
instance : TZ Try.prog 92 [.pointer none] := ⟨by kernel_rfl⟩
instance : TZV Try.prog 92 (.pointer none) := ⟨by kernel_rfl⟩
instance : TS Try.prog 92 := ⟨by kernel_rfl⟩
instance : TPtr Try.prog 92 93 := ⟨by kernel_rfl⟩
instance : TZ Try.prog 93 [.slice none 0 0] := ⟨by kernel_rfl⟩
instance : TZV Try.prog 93 (.slice none 0 0) := ⟨by kernel_rfl⟩
instance : TS Try.prog 93 := ⟨by kernel_rfl⟩
instance : TL Try.prog 93 76 2 16 [.int .i64 0, .int .i64 0] := ⟨by kernel_rfl, by kernel_rfl, by kernel_rfl, by decide⟩
instance : TZ Try.prog 94 [.nilIface] := ⟨by kernel_rfl⟩
instance : TZV Try.prog 94 (.nilIface) := ⟨by kernel_rfl⟩
instance : TS Try.prog 94 := ⟨by kernel_rfl⟩
instance : TZ Try.prog 95 [.nilIface] := ⟨by kernel_rfl⟩
instance : TZV Try.prog 95 (.nilIface) := ⟨by kernel_rfl⟩
instance : TS Try.prog 95 := ⟨by kernel_rfl⟩
instance : TZ Try.prog 96 [.nilFunc] := ⟨by kernel_rfl⟩
instance : TZV Try.prog 96 (.nilFunc) := ⟨by kernel_rfl⟩
instance : TS Try.prog 96 := ⟨by kernel_rfl⟩
instance : TZ Try.prog 98 [.nilFunc] := ⟨by kernel_rfl⟩
instance : TZV Try.prog 98 (.nilFunc) := ⟨by kernel_rfl⟩
instance : TS Try.prog 98 := ⟨by kernel_rfl⟩
instance : TZ Try.prog 99 [.nilFunc] := ⟨by kernel_rfl⟩
instance : TZV Try.prog 99 (.nilFunc) := ⟨by kernel_rfl⟩
instance : TS Try.prog 99 := ⟨by kernel_rfl⟩
instance : TZ Try.prog 100 [.map none] := ⟨by kernel_rfl⟩
instance : TZV Try.prog 100 (.map none) := ⟨by kernel_rfl⟩
instance : TS Try.prog 100 := ⟨by kernel_rfl⟩
instance : TMap Try.prog 100 3 4 := ⟨by kernel_rfl⟩
instance : TZ Try.prog 101 [.nilFunc] := ⟨by kernel_rfl⟩
instance : TZV Try.prog 101 (.nilFunc) := ⟨by kernel_rfl⟩
instance : TS Try.prog 101 := ⟨by kernel_rfl⟩
instance : TZ Try.prog 102 [.nilFunc] := ⟨by kernel_rfl⟩
instance : TZV Try.prog 102 (.nilFunc) := ⟨by kernel_rfl⟩
instance : TS Try.prog 102 := ⟨by kernel_rfl⟩
instance : TZ Try.prog 103 [.nilFunc] := ⟨by kernel_rfl⟩
instance : TZV Try.prog 103 (.nilFunc) := ⟨by kernel_rfl⟩
instance : TS Try.prog 103 := ⟨by kernel_rfl⟩
instance : TZ Try.prog 104 [.map none] := ⟨by kernel_rfl⟩
instance : TZV Try.prog 104 (.map none) := ⟨by kernel_rfl⟩
instance : TS Try.prog 104 := ⟨by kernel_rfl⟩
instance : TMap Try.prog 104 3 3 := ⟨by kernel_rfl⟩
instance : TZ Try.prog 105 [.nilFunc] := ⟨by kernel_rfl⟩
instance : TZV Try.prog 105 (.nilFunc) := ⟨by kernel_rfl⟩
instance : TS Try.prog 105 := ⟨by kernel_rfl⟩
instance : TZ Try.prog 106 [.nilFunc] := ⟨by kernel_rfl⟩
instance : TZV Try.prog 106 (.nilFunc) := ⟨by kernel_rfl⟩
instance : TS Try.prog 106 := ⟨by kernel_rfl⟩
instance : TZ Try.prog 107 [.nilFunc] := ⟨by kernel_rfl⟩
instance : TZV Try.prog 107 (.nilFunc) := ⟨by kernel_rfl⟩
instance : TS Try.prog 107 := ⟨by kernel_rfl⟩
instance : TZ Try.prog 108 [.nilFunc] := ⟨by kernel_rfl⟩
instance : TZV Try.prog 108 (.nilFunc) := ⟨by kernel_rfl⟩
instance : TS Try.prog 108 := ⟨by kernel_rfl⟩
instance : TZ Try.prog 109 [.slice none 0 0] := ⟨by kernel_rfl⟩
instance : TZV Try.prog 109 (.slice none 0 0) := ⟨by kernel_rfl⟩
instance : TS Try.prog 109 := ⟨by kernel_rfl⟩
instance : TL Try.prog 109 9 1 16 [.string ⟨#[]⟩] := ⟨by kernel_rfl, by kernel_rfl, by kernel_rfl, by decide⟩
instance : TZ Try.prog 110 [.slice none 0 0] := ⟨by kernel_rfl⟩
instance : TZV Try.prog 110 (.slice none 0 0) := ⟨by kernel_rfl⟩
instance : TS Try.prog 110 := ⟨by kernel_rfl⟩
instance : TL Try.prog 110 112 2 16 [.int .i64 0, .int .i64 0] := ⟨by kernel_rfl, by kernel_rfl, by kernel_rfl, by decide⟩
instance : TZ Try.prog 111 [.nilFunc] := ⟨by kernel_rfl⟩
instance : TZV Try.prog 111 (.nilFunc) := ⟨by kernel_rfl⟩
instance : TS Try.prog 111 := ⟨by kernel_rfl⟩
instance : TZ Try.prog 112 [.int .i64 0, .int .i64 0] := ⟨by kernel_rfl⟩
instance : TZV Try.prog 112 (.agg #[.int .i64 0, .int .i64 0]) := ⟨by kernel_rfl⟩
instance : TA Try.prog 112 2 := ⟨by kernel_rfl⟩
instance : TArr Try.prog 112 2 3 1 := ⟨by kernel_rfl, by kernel_rfl⟩
instance : TZ Try.prog 113 [.nilFunc] := ⟨by kernel_rfl⟩
instance : TZV Try.prog 113 (.nilFunc) := ⟨by kernel_rfl⟩
instance : TS Try.prog 113 := ⟨by kernel_rfl⟩
instance : TZ Try.prog 114 [.nilFunc] := ⟨by kernel_rfl⟩
instance : TZV Try.prog 114 (.nilFunc) := ⟨by kernel_rfl⟩
instance : TS Try.prog 114 := ⟨by kernel_rfl⟩
instance : TZ Try.prog 115 [.nilFunc] := ⟨by kernel_rfl⟩
instance : TZV Try.prog 115 (.nilFunc) := ⟨by kernel_rfl⟩
instance : TS Try.prog 115 := ⟨by kernel_rfl⟩
instance : TZ Try.prog 116 [.nilFunc] := ⟨by kernel_rfl⟩
instance : TZV Try.prog 116 (.nilFunc) := ⟨by kernel_rfl⟩
instance : TS Try.prog 116 := ⟨by kernel_rfl⟩
instance : TZ Try.prog 117 [.slice none 0 0] := ⟨by kernel_rfl⟩
instance : TZV Try.prog 117 (.slice none 0 0) := ⟨by kernel_rfl⟩
instance : TS Try.prog 117 := ⟨by kernel_rfl⟩
instance : TL Try.prog 117 119 2 16 [.int .u64 0, .int .u64 0] := ⟨by kernel_rfl, by kernel_rfl, by kernel_rfl, by decide⟩
instance : TZ Try.prog 118 [.int .u64 0, .int .u64 0] := ⟨by kernel_rfl⟩
instance : TZV Try.prog 118 (.agg #[.int .u64 0, .int .u64 0]) := ⟨by kernel_rfl⟩
instance : TA Try.prog 118 2 := ⟨by kernel_rfl⟩
instance : TEq Try.prog 118 [9, 9] := ⟨by kernel_rfl, by kernel_rfl, by kernel_rfl⟩
instance : TB Try.prog 118 [(0, 1), (1, 1)] [.int .u64 0, .int .u64 0] := ⟨by kernel_rfl, by kernel_rfl⟩
instance : TF Try.prog 118 0 0 := ⟨by kernel_rfl⟩
instance : TF Try.prog 118 1 1 := ⟨by kernel_rfl⟩
instance : TZ Try.prog 119 [.int .u64 0, .int .u64 0] := ⟨by kernel_rfl⟩
instance : TZV Try.prog 119 (.agg #[.int .u64 0, .int .u64 0]) := ⟨by kernel_rfl⟩
instance : TA Try.prog 119 2 := ⟨by kernel_rfl⟩
instance : TEq Try.prog 119 [9, 9] := ⟨by kernel_rfl, by kernel_rfl, by kernel_rfl⟩
instance : TB Try.prog 119 [(0, 1), (1, 1)] [.int .u64 0, .int .u64 0] := ⟨by kernel_rfl, by kernel_rfl⟩
instance : TF Try.prog 119 0 0 := ⟨by kernel_rfl⟩
instance : TF Try.prog 119 1 1 := ⟨by kernel_rfl⟩
instance : TZ Try.prog 120 [.bool false, .bool false, .bool false, .bool false, .bool false, .bool false, .bool false, .bool false, .bool false, .bool false, .bool false, .bool false, .bool false, .bool false, .bool false, .bool false, .bool false, .bool false, .bool false, .bool false, .bool false, .bool false, .bool false, .bool false, .bool false, .bool false, .bool false, .bool false, .bool false, .bool false, .bool false, .bool false, .bool false, .bool false, .bool false, .bool false, .bool false, .bool false, .bool false, .bool false, .bool false, .bool false, .bool false, .bool false, .bool false, .bool false, .bool false, .bool false, .bool false, .bool false, .bool false, .bool false, .bool false, .bool false, .bool false, .bool false, .bool false, .bool false, .bool false, .bool false, .bool false, .bool false, .bool false, .bool false] := ⟨by kernel_rfl⟩
instance : TZV Try.prog 120 (.agg #[.bool false, .bool false, .bool false, .bool false, .bool false, .bool false, .bool false, .bool false, .bool false, .bool false, .bool false, .bool false, .bool false, .bool false, .bool false, .bool false, .bool false, .bool false, .bool false, .bool false, .bool false, .bool false, .bool false, .bool false, .bool false, .bool false, .bool false, .bool false, .bool false, .bool false, .bool false, .bool false, .bool false, .bool false, .bool false, .bool false, .bool false, .bool false, .bool false, .bool false, .bool false, .bool false, .bool false, .bool false, .bool false, .bool false, .bool false, .bool false, .bool false, .bool false, .bool false, .bool false, .bool false, .bool false, .bool false, .bool false, .bool false, .bool false, .bool false, .bool false, .bool false, .bool false, .bool false, .bool false]) := ⟨by kernel_rfl⟩
instance : TA Try.prog 120 64 := ⟨by kernel_rfl⟩
instance : TArr Try.prog 120 64 4 1 := ⟨by kernel_rfl, by kernel_rfl⟩
instance : TZ Try.prog 121 [.nilFunc] := ⟨by kernel_rfl⟩
instance : TZV Try.prog 121 (.nilFunc) := ⟨by kernel_rfl⟩
instance : TS Try.prog 121 := ⟨by kernel_rfl⟩
instance : TZ Try.prog 122 [.nilFunc] := ⟨by kernel_rfl⟩
instance : TZV Try.prog 122 (.nilFunc) := ⟨by kernel_rfl⟩
instance : TS Try.prog 122 := ⟨by kernel_rfl⟩
instance : TZ Try.prog 123 [.map none] := ⟨by kernel_rfl⟩
instance : TZV Try.prog 123 (.map none) := ⟨by kernel_rfl⟩
instance : TS Try.prog 123 := ⟨by kernel_rfl⟩
instance : TMap Try.prog 123 9 4 := ⟨by kernel_rfl⟩
instance : TZ Try.prog 124 [.map none] := ⟨by kernel_rfl⟩
instance : TZV Try.prog 124 (.map none) := ⟨by kernel_rfl⟩
instance : TS Try.prog 124 := ⟨by kernel_rfl⟩
instance : TMap Try.prog 124 112 4 := ⟨by kernel_rfl⟩
instance : TZ Try.prog 125 [.nilFunc] := ⟨by kernel_rfl⟩
instance : TZV Try.prog 125 (.nilFunc) := ⟨by kernel_rfl⟩
instance : TS Try.prog 125 := ⟨by kernel_rfl⟩
instance : TZ Try.prog 126 [.nilFunc] := ⟨by kernel_rfl⟩
instance : TZV Try.prog 126 (.nilFunc) := ⟨by kernel_rfl⟩
instance : TS Try.prog 126 := ⟨by kernel_rfl⟩
instance : TZ Try.prog 127 [.nilFunc] := ⟨by kernel_rfl⟩
instance : TZV Try.prog 127 (.nilFunc) := ⟨by kernel_rfl⟩
instance : TS Try.prog 127 := ⟨by kernel_rfl⟩
instance : TZ Try.prog 128 [.int .i64 0] := ⟨by kernel_rfl⟩
instance : TZV Try.prog 128 (.int .i64 0) := ⟨by kernel_rfl⟩
instance : TS Try.prog 128 := ⟨by kernel_rfl⟩
instance : TInt Try.prog 128 .i64 := ⟨by kernel_rfl⟩
instance : TZ Try.prog 130 [.nilFunc] := ⟨by kernel_rfl⟩
instance : TZV Try.prog 130 (.nilFunc) := ⟨by kernel_rfl⟩
instance : TS Try.prog 130 := ⟨by kernel_rfl⟩
instance : TZ Try.prog 131 [.nilFunc] := ⟨by kernel_rfl⟩
instance : TZV Try.prog 131 (.nilFunc) := ⟨by kernel_rfl⟩
instance : TS Try.prog 131 := ⟨by kernel_rfl⟩
instance : TZ Try.prog 132 [.nilFunc] := ⟨by kernel_rfl⟩
instance : TZV Try.prog 132 (.nilFunc) := ⟨by kernel_rfl⟩
instance : TS Try.prog 132 := ⟨by kernel_rfl⟩
instance : TZ Try.prog 134 [.nilFunc] := ⟨by kernel_rfl⟩
instance : TZV Try.prog 134 (.nilFunc) := ⟨by kernel_rfl⟩
instance : TS Try.prog 134 := ⟨by kernel_rfl⟩
instance : TZ Try.prog 135 [.nilFunc] := ⟨by kernel_rfl⟩
instance : TZV Try.prog 135 (.nilFunc) := ⟨by kernel_rfl⟩
instance : TS Try.prog 135 := ⟨by kernel_rfl⟩
instance : TZ Try.prog 136 [.int .u32 0] := ⟨by kernel_rfl⟩
instance : TZV Try.prog 136 (.int .u32 0) := ⟨by kernel_rfl⟩
instance : TS Try.prog 136 := ⟨by kernel_rfl⟩
instance : TInt Try.prog 136 .u32 := ⟨by kernel_rfl⟩
instance : TZ Try.prog 137 [.nilFunc] := ⟨by kernel_rfl⟩
instance : TZV Try.prog 137 (.nilFunc) := ⟨by kernel_rfl⟩
instance : TS Try.prog 137 := ⟨by kernel_rfl⟩
instance : TZ Try.prog 138 [.nilFunc] := ⟨by kernel_rfl⟩
instance : TZV Try.prog 138 (.nilFunc) := ⟨by kernel_rfl⟩
instance : TS Try.prog 138 := ⟨by kernel_rfl⟩
instance : TZ Try.prog 139 [.nilFunc] := ⟨by kernel_rfl⟩
instance : TZV Try.prog 139 (.nilFunc) := ⟨by kernel_rfl⟩
instance : TS Try.prog 139 := ⟨by kernel_rfl⟩
instance : TZ Try.prog 140 [.int .u64 0] := ⟨by kernel_rfl⟩
instance : TZV Try.prog 140 (.int .u64 0) := ⟨by kernel_rfl⟩
instance : TS Try.prog 140 := ⟨by kernel_rfl⟩
instance : TInt Try.prog 140 .u64 := ⟨by kernel_rfl⟩
instance : TZ Try.prog 141 [.nilFunc] := ⟨by kernel_rfl⟩
instance : TZV Try.prog 141 (.nilFunc) := ⟨by kernel_rfl⟩
instance : TS Try.prog 141 := ⟨by kernel_rfl⟩
instance : TZ Try.prog 142 [.nilFunc] := ⟨by kernel_rfl⟩
instance : TZV Try.prog 142 (.nilFunc) := ⟨by kernel_rfl⟩
instance : TS Try.prog 142 := ⟨by kernel_rfl⟩
instance : TZ Try.prog 143 [.nilFunc] := ⟨by kernel_rfl⟩
instance : TZV Try.prog 143 (.nilFunc) := ⟨by kernel_rfl⟩
instance : TS Try.prog 143 := ⟨by kernel_rfl⟩
instance : TZ Try.prog 144 [.pointer none] := ⟨by kernel_rfl⟩
instance : TZV Try.prog 144 (.pointer none) := ⟨by kernel_rfl⟩
instance : TS Try.prog 144 := ⟨by kernel_rfl⟩
instance : TPtr Try.prog 144 3 := ⟨by kernel_rfl⟩
instance : TZ Try.prog 145 [.nilFunc] := ⟨by kernel_rfl⟩
instance : TZV Try.prog 145 (.nilFunc) := ⟨by kernel_rfl⟩
instance : TS Try.prog 145 := ⟨by kernel_rfl⟩
instance : TZ Try.prog 146 [.pointer none] := ⟨by kernel_rfl⟩
instance : TZV Try.prog 146 (.pointer none) := ⟨by kernel_rfl⟩
instance : TS Try.prog 146 := ⟨by kernel_rfl⟩
instance : TPtr Try.prog 146 140 := ⟨by kernel_rfl⟩
instance : TZ Try.prog 147 [.nilFunc] := ⟨by kernel_rfl⟩
instance : TZV Try.prog 147 (.nilFunc) := ⟨by kernel_rfl⟩
instance : TS Try.prog 147 := ⟨by kernel_rfl⟩
instance : TZ Try.prog 148 [.nilFunc] := ⟨by kernel_rfl⟩
instance : TZV Try.prog 148 (.nilFunc) := ⟨by kernel_rfl⟩
instance : TS Try.prog 148 := ⟨by kernel_rfl⟩
instance : TZ Try.prog 149 [.pointer none, .pointer none, .pointer none, .string ⟨#[]⟩] := ⟨by kernel_rfl⟩
instance : TZV Try.prog 149 (.agg #[.pointer none, .pointer none, .pointer none, .string ⟨#[]⟩]) := ⟨by kernel_rfl⟩
instance : TA Try.prog 149 4 := ⟨by kernel_rfl⟩
instance : TB Try.prog 149 [(0, 1), (1, 1), (2, 1), (3, 1)] [.pointer none, .pointer none, .pointer none, .string ⟨#[]⟩] := ⟨by kernel_rfl, by kernel_rfl⟩
instance : TF Try.prog 149 0 0 := ⟨by kernel_rfl⟩
instance : TF Try.prog 149 1 1 := ⟨by kernel_rfl⟩
instance : TF Try.prog 149 2 2 := ⟨by kernel_rfl⟩
instance : TF Try.prog 149 3 3 := ⟨by kernel_rfl⟩
instance : TZ Try.prog 150 [.pointer none, .pointer none, .pointer none, .string ⟨#[]⟩] := ⟨by kernel_rfl⟩
instance : TZV Try.prog 150 (.agg #[.pointer none, .pointer none, .pointer none, .string ⟨#[]⟩]) := ⟨by kernel_rfl⟩
instance : TA Try.prog 150 4 := ⟨by kernel_rfl⟩
instance : TB Try.prog 150 [(0, 1), (1, 1), (2, 1), (3, 1)] [.pointer none, .pointer none, .pointer none, .string ⟨#[]⟩] := ⟨by kernel_rfl, by kernel_rfl⟩
instance : TF Try.prog 150 0 0 := ⟨by kernel_rfl⟩
instance : TF Try.prog 150 1 1 := ⟨by kernel_rfl⟩
instance : TF Try.prog 150 2 2 := ⟨by kernel_rfl⟩
instance : TF Try.prog 150 3 3 := ⟨by kernel_rfl⟩
instance : TZ Try.prog 151 [] := ⟨by kernel_rfl⟩
instance : TZV Try.prog 151 (.agg #[]) := ⟨by kernel_rfl⟩
instance : TA Try.prog 151 0 := ⟨by kernel_rfl⟩
instance : TArr Try.prog 151 0 16 1 := ⟨by kernel_rfl, by kernel_rfl⟩
instance : TZ Try.prog 152 [] := ⟨by kernel_rfl⟩
instance : TZV Try.prog 152 (.agg #[]) := ⟨by kernel_rfl⟩
instance : TA Try.prog 152 0 := ⟨by kernel_rfl⟩
instance : TZ Try.prog 153 [] := ⟨by kernel_rfl⟩
instance : TZV Try.prog 153 (.agg #[]) := ⟨by kernel_rfl⟩
instance : TA Try.prog 153 0 := ⟨by kernel_rfl⟩
instance : TZ Try.prog 154 [.nilFunc] := ⟨by kernel_rfl⟩
instance : TZV Try.prog 154 (.nilFunc) := ⟨by kernel_rfl⟩
instance : TS Try.prog 154 := ⟨by kernel_rfl⟩
instance : TZ Try.prog 155 [.int .u8 0] := ⟨by kernel_rfl⟩
instance : TZV Try.prog 155 (.int .u8 0) := ⟨by kernel_rfl⟩
instance : TS Try.prog 155 := ⟨by kernel_rfl⟩
instance : TInt Try.prog 155 .u8 := ⟨by kernel_rfl⟩
instance : TZ Try.prog 156 [.int .u8 0] := ⟨by kernel_rfl⟩
instance : TZV Try.prog 156 (.int .u8 0) := ⟨by kernel_rfl⟩
instance : TS Try.prog 156 := ⟨by kernel_rfl⟩
instance : TInt Try.prog 156 .u8 := ⟨by kernel_rfl⟩
instance : TZ Try.prog 157 [.nilFunc] := ⟨by kernel_rfl⟩
instance : TZV Try.prog 157 (.nilFunc) := ⟨by kernel_rfl⟩
instance : TS Try.prog 157 := ⟨by kernel_rfl⟩
instance : TZ Try.prog 158 [.pointer none] := ⟨by kernel_rfl⟩
instance : TZV Try.prog 158 (.pointer none) := ⟨by kernel_rfl⟩
instance : TS Try.prog 158 := ⟨by kernel_rfl⟩
instance : TPtr Try.prog 158 5 := ⟨by kernel_rfl⟩
instance : TZ Try.prog 159 [.int .i32 0] := ⟨by kernel_rfl⟩
instance : TZV Try.prog 159 (.int .i32 0) := ⟨by kernel_rfl⟩
instance : TS Try.prog 159 := ⟨by kernel_rfl⟩
instance : TInt Try.prog 159 .i32 := ⟨by kernel_rfl⟩
instance : TZ Try.prog 160 [.int .i32 0] := ⟨by kernel_rfl⟩
instance : TZV Try.prog 160 (.int .i32 0) := ⟨by kernel_rfl⟩
instance : TS Try.prog 160 := ⟨by kernel_rfl⟩
instance : TInt Try.prog 160 .i32 := ⟨by kernel_rfl⟩
instance : TZ Try.prog 161 [.int .u64 0, .int .u64 0, .int .u32 0, .int .u8 0, .int .u8 0, .int .u8 0, .int .u8 0, .nilFunc, .pointer none, .int .i32 0, .int .i32 0] := ⟨by kernel_rfl⟩
instance : TZV Try.prog 161 (.agg #[.int .u64 0, .int .u64 0, .int .u32 0, .int .u8 0, .int .u8 0, .int .u8 0, .int .u8 0, .nilFunc, .pointer none, .int .i32 0, .int .i32 0]) := ⟨by kernel_rfl⟩
instance : TA Try.prog 161 11 := ⟨by kernel_rfl⟩
instance : TB Try.prog 161 [(0, 1), (1, 1), (2, 1), (3, 1), (4, 1), (5, 1), (6, 1), (7, 1), (8, 1), (9, 1), (10, 1)] [.int .u64 0, .int .u64 0, .int .u32 0, .int .u8 0, .int .u8 0, .int .u8 0, .int .u8 0, .nilFunc, .pointer none, .int .i32 0, .int .i32 0] := ⟨by kernel_rfl, by kernel_rfl⟩
instance : TF Try.prog 161 0 0 := ⟨by kernel_rfl⟩
instance : TF Try.prog 161 1 1 := ⟨by kernel_rfl⟩
instance : TF Try.prog 161 2 2 := ⟨by kernel_rfl⟩
instance : TF Try.prog 161 3 3 := ⟨by kernel_rfl⟩
instance : TF Try.prog 161 4 4 := ⟨by kernel_rfl⟩
instance : TF Try.prog 161 5 5 := ⟨by kernel_rfl⟩
instance : TF Try.prog 161 6 6 := ⟨by kernel_rfl⟩
instance : TF Try.prog 161 7 7 := ⟨by kernel_rfl⟩
instance : TF Try.prog 161 8 8 := ⟨by kernel_rfl⟩
instance : TF Try.prog 161 9 9 := ⟨by kernel_rfl⟩
instance : TF Try.prog 161 10 10 := ⟨by kernel_rfl⟩
instance : TZ Try.prog 162 [.int .u64 0, .int .u64 0, .int .u32 0, .int .u8 0, .int .u8 0, .int .u8 0, .int .u8 0, .nilFunc, .pointer none, .int .i32 0, .int .i32 0] := ⟨by kernel_rfl⟩
instance : TZV Try.prog 162 (.agg #[.int .u64 0, .int .u64 0, .int .u32 0, .int .u8 0, .int .u8 0, .int .u8 0, .int .u8 0, .nilFunc, .pointer none, .int .i32 0, .int .i32 0]) := ⟨by kernel_rfl⟩
instance : TA Try.prog 162 11 := ⟨by kernel_rfl⟩
instance : TB Try.prog 162 [(0, 1), (1, 1), (2, 1), (3, 1), (4, 1), (5, 1), (6, 1), (7, 1), (8, 1), (9, 1), (10, 1)] [.int .u64 0, .int .u64 0, .int .u32 0, .int .u8 0, .int .u8 0, .int .u8 0, .int .u8 0, .nilFunc, .pointer none, .int .i32 0, .int .i32 0] := ⟨by kernel_rfl, by kernel_rfl⟩
instance : TF Try.prog 162 0 0 := ⟨by kernel_rfl⟩
instance : TF Try.prog 162 1 1 := ⟨by kernel_rfl⟩
instance : TF Try.prog 162 2 2 := ⟨by kernel_rfl⟩
instance : TF Try.prog 162 3 3 := ⟨by kernel_rfl⟩
instance : TF Try.prog 162 4 4 := ⟨by kernel_rfl⟩
instance : TF Try.prog 162 5 5 := ⟨by kernel_rfl⟩
instance : TF Try.prog 162 6 6 := ⟨by kernel_rfl⟩
instance : TF Try.prog 162 7 7 := ⟨by kernel_rfl⟩
instance : TF Try.prog 162 8 8 := ⟨by kernel_rfl⟩
instance : TF Try.prog 162 9 9 := ⟨by kernel_rfl⟩
instance : TF Try.prog 162 10 10 := ⟨by kernel_rfl⟩
instance : TZ Try.prog 163 [.nilFunc] := ⟨by kernel_rfl⟩
instance : TZV Try.prog 163 (.nilFunc) := ⟨by kernel_rfl⟩
instance : TS Try.prog 163 := ⟨by kernel_rfl⟩
instance : TZ Try.prog 164 [.nilFunc] := ⟨by kernel_rfl⟩
instance : TZV Try.prog 164 (.nilFunc) := ⟨by kernel_rfl⟩
instance : TS Try.prog 164 := ⟨by kernel_rfl⟩
instance : TZ Try.prog 165 [.nilIface] := ⟨by kernel_rfl⟩
instance : TZV Try.prog 165 (.nilIface) := ⟨by kernel_rfl⟩
instance : TS Try.prog 165 := ⟨by kernel_rfl⟩
instance : TZ Try.prog 166 [.nilIface] := ⟨by kernel_rfl⟩
instance : TZV Try.prog 166 (.nilIface) := ⟨by kernel_rfl⟩
instance : TS Try.prog 166 := ⟨by kernel_rfl⟩
instance : TZ Try.prog 167 [.nilFunc] := ⟨by kernel_rfl⟩
instance : TZV Try.prog 167 (.nilFunc) := ⟨by kernel_rfl⟩
instance : TS Try.prog 167 := ⟨by kernel_rfl⟩
instance : TZ Try.prog 168 [.nilFunc] := ⟨by kernel_rfl⟩
instance : TZV Try.prog 168 (.nilFunc) := ⟨by kernel_rfl⟩
instance : TS Try.prog 168 := ⟨by kernel_rfl⟩
instance : TZ Try.prog 169 [.nilFunc] := ⟨by kernel_rfl⟩
instance : TZV Try.prog 169 (.nilFunc) := ⟨by kernel_rfl⟩
instance : TS Try.prog 169 := ⟨by kernel_rfl⟩
instance : TZ Try.prog 170 [.nilFunc] := ⟨by kernel_rfl⟩
instance : TZV Try.prog 170 (.nilFunc) := ⟨by kernel_rfl⟩
instance : TS Try.prog 170 := ⟨by kernel_rfl⟩
instance : TZ Try.prog 171 [.pointer none] := ⟨by kernel_rfl⟩
instance : TZV Try.prog 171 (.pointer none) := ⟨by kernel_rfl⟩
instance : TS Try.prog 171 := ⟨by kernel_rfl⟩
instance : FnOk Try.prog 3 := ⟨by kernel_rfl⟩
instance : FnOk Try.prog 4 := ⟨by kernel_rfl⟩
instance : FnOk Try.prog 5 := ⟨by kernel_rfl⟩
instance : FnOk Try.prog 6 := ⟨by kernel_rfl⟩
instance : FnOk Try.prog 7 := ⟨by kernel_rfl⟩
instance : FnOk Try.prog 8 := ⟨by kernel_rfl⟩
instance : FnOk Try.prog 9 := ⟨by kernel_rfl⟩
instance : FnOk Try.prog 10 := ⟨by kernel_rfl⟩
instance : FnOk Try.prog 11 := ⟨by kernel_rfl⟩
instance : FnOk Try.prog 12 := ⟨by kernel_rfl⟩
instance : FnOk Try.prog 13 := ⟨by kernel_rfl⟩
instance : FnOk Try.prog 14 := ⟨by kernel_rfl⟩
instance : FnOk Try.prog 15 := ⟨by kernel_rfl⟩
instance : FnOk Try.prog 16 := ⟨by kernel_rfl⟩
instance : FnOk Try.prog 17 := ⟨by kernel_rfl⟩
instance : FnOk Try.prog 18 := ⟨by kernel_rfl⟩
instance : FnOk Try.prog 19 := ⟨by kernel_rfl⟩
instance : FnOk Try.prog 20 := ⟨by kernel_rfl⟩
instance : FnOk Try.prog 21 := ⟨by kernel_rfl⟩
instance : FnOk Try.prog 22 := ⟨by kernel_rfl⟩
instance : FnOk Try.prog 23 := ⟨by kernel_rfl⟩
instance : FnOk Try.prog 24 := ⟨by kernel_rfl⟩
instance : FnOk Try.prog 25 := ⟨by kernel_rfl⟩
instance : FnOk Try.prog 26 := ⟨by kernel_rfl⟩
instance : FnOk Try.prog 27 := ⟨by kernel_rfl⟩
instance : FnOk Try.prog 28 := ⟨by kernel_rfl⟩
instance : FnOk Try.prog 29 := ⟨by kernel_rfl⟩
instance : FnOk Try.prog 30 := ⟨by kernel_rfl⟩
instance : FnOk Try.prog 31 := ⟨by kernel_rfl⟩
instance : FnOk Try.prog 32 := ⟨by kernel_rfl⟩
instance : FnOk Try.prog 33 := ⟨by kernel_rfl⟩
instance : FnOk Try.prog 34 := ⟨by kernel_rfl⟩
instance : FnOk Try.prog 35 := ⟨by kernel_rfl⟩
instance : FnOk Try.prog 36 := ⟨by kernel_rfl⟩
instance : FnOk Try.prog 37 := ⟨by kernel_rfl⟩
instance : FnOk Try.prog 38 := ⟨by kernel_rfl⟩
instance : FnOk Try.prog 39 := ⟨by kernel_rfl⟩
instance : FnOk Try.prog 40 := ⟨by kernel_rfl⟩
instance : FnOk Try.prog 41 := ⟨by kernel_rfl⟩
instance : FnOk Try.prog 42 := ⟨by kernel_rfl⟩
instance : FnOk Try.prog 43 := ⟨by kernel_rfl⟩
instance : FnOk Try.prog 44 := ⟨by kernel_rfl⟩
instance : FnOk Try.prog 45 := ⟨by kernel_rfl⟩
instance : FnOk Try.prog 46 := ⟨by kernel_rfl⟩
instance : FnOk Try.prog 47 := ⟨by kernel_rfl⟩
instance : FnOk Try.prog 48 := ⟨by kernel_rfl⟩
instance : FnOk Try.prog 49 := ⟨by kernel_rfl⟩
instance : FnOk Try.prog 50 := ⟨by kernel_rfl⟩
instance : FnOk Try.prog 51 := ⟨by kernel_rfl⟩
instance : FnOk Try.prog 52 := ⟨by kernel_rfl⟩
instance : FnOk Try.prog 53 := ⟨by kernel_rfl⟩
instance : FnOk Try.prog 54 := ⟨by kernel_rfl⟩
instance : FnOk Try.prog 55 := ⟨by kernel_rfl⟩
instance : FnOk Try.prog 56 := ⟨by kernel_rfl⟩
instance : FnOk Try.prog 57 := ⟨by kernel_rfl⟩
instance : FnOk Try.prog 58 := ⟨by kernel_rfl⟩
instance : FnOk Try.prog 59 := ⟨by kernel_rfl⟩
instance : FnOk Try.prog 60 := ⟨by kernel_rfl⟩
instance : FnOk Try.prog 61 := ⟨by kernel_rfl⟩
instance : FnOk Try.prog 62 := ⟨by kernel_rfl⟩
instance : FnOk Try.prog 63 := ⟨by kernel_rfl⟩
instance : FnOk Try.prog 64 := ⟨by kernel_rfl⟩
instance : FnOk Try.prog 65 := ⟨by kernel_rfl⟩
instance : FnOk Try.prog 66 := ⟨by kernel_rfl⟩
instance : FnOk Try.prog 67 := ⟨by kernel_rfl⟩
instance : FnOk Try.prog 68 := ⟨by kernel_rfl⟩
instance : FnOk Try.prog 69 := ⟨by kernel_rfl⟩
instance : FnOk Try.prog 70 := ⟨by kernel_rfl⟩
instance : FnOk Try.prog 71 := ⟨by kernel_rfl⟩
instance : FnOk Try.prog 72 := ⟨by kernel_rfl⟩
instance : FnOk Try.prog 73 := ⟨by kernel_rfl⟩
instance : FnOk Try.prog 74 := ⟨by kernel_rfl⟩
instance : FnOk Try.prog 75 := ⟨by kernel_rfl⟩
instance : FnOk Try.prog 76 := ⟨by kernel_rfl⟩
instance : FnOk Try.prog 77 := ⟨by kernel_rfl⟩
instance : FnOk Try.prog 78 := ⟨by kernel_rfl⟩
instance : FnOk Try.prog 79 := ⟨by kernel_rfl⟩
instance : FnOk Try.prog 80 := ⟨by kernel_rfl⟩
instance : FnOk Try.prog 81 := ⟨by kernel_rfl⟩
instance : FnOk Try.prog 82 := ⟨by kernel_rfl⟩
instance : FnOk Try.prog 98 := ⟨by kernel_rfl⟩
instance : FnOk Try.prog 99 := ⟨by kernel_rfl⟩
instance : FnOk Try.prog 100 := ⟨by kernel_rfl⟩
instance : FnOk Try.prog 101 := ⟨by kernel_rfl⟩
instance : FnOk Try.prog 102 := ⟨by kernel_rfl⟩
instance : FnOk Try.prog 103 := ⟨by kernel_rfl⟩
instance : FnOk Try.prog 104 := ⟨by kernel_rfl⟩
instance : FnOk Try.prog 105 := ⟨by kernel_rfl⟩
instance : FnOk Try.prog 106 := ⟨by kernel_rfl⟩
instance : FnOk Try.prog 107 := ⟨by kernel_rfl⟩
instance : FnOk Try.prog 110 := ⟨by kernel_rfl⟩
instance : FnOk Try.prog 111 := ⟨by kernel_rfl⟩
end Go.Proofs.Yteiijmclobggjaa
end
/- Words and names, and numbers brought into a range: what these functions answer. -/
section
open Go Mk
namespace Go.Proofs.Yteiijmclobggjaa
attribute [local irreducible] Calls

def letterB (c : Int) : Bool := decide (97 ≤ c) && decide (c ≤ 122) || decide (65 ≤ c) && decide (c ≤ 90) || decide (c = 95)
def digitB (c : Int) : Bool := decide (48 ≤ c) && decide (c ≤ 57)
instance (c : Int) : PC Try.prog 74 [.int .u8 c] (.bool (letterB c)) := ⟨fun w => by
  refine calls_of_W Try.func74 rfl rfl ?_
  repeat (first | refine byW ?_ | (refine byV ?_; intro w hw))
  exact ⟨_, rfl, rfl, rfl⟩⟩
instance (c : Int) : PC Try.prog 81 [.int .u8 c] (.bool (digitB c)) := ⟨fun w => by
  refine calls_of_W Try.func81 rfl rfl ?_
  repeat (first | refine byW ?_ | (refine byV ?_; intro w hw))
  exact ⟨_, rfl, rfl, rfl⟩⟩

/-- The i-th byte. -/
abbrev byteAt (s : ByteArray) (i : Nat) : Int := ((s.data.toList.getD i 0).toNat : Int)
def wordC (b : UInt8) : Bool := letterB b.toNat || digitB b.toNat
def runN (s : ByteArray) : Nat := (s.data.toList.takeWhile wordC).length
def wordS (s : ByteArray) : Bool := decide (0 < s.size) && letterB (byteAt s 0) && s.data.toList.all wordC
def nameS (s : ByteArray) : Bool := wordS s && decide (s.size ≤ 24)

theorem takeWhile_len {p : UInt8 → Bool} : ∀ {l : List UInt8} {k : Nat}, k ≤ l.length → (∀ i, i < k → p (l.getD i 0) = true) → (k < l.length → p (l.getD k 0) = false) → (l.takeWhile p).length = k
  | [], k, h, _, _ => by simp at h; simp [h]
  | x :: l, 0, _, _, h2 => by
    have := h2 (by simp)
    simp at this
    simp [this]
  | x :: l, k + 1, h, h1, h2 => by
    have h0 := h1 0 (by omega)
    simp at h0
    simp only [List.takeWhile_cons, h0, if_true, List.length_cons]
    rw [takeWhile_len (l := l) (k := k) (by simpa using h) (fun i hi => h1 (i + 1) (by omega)) (fun hk => h2 (by simp only [List.length_cons]; omega))]
theorem size_toList (s : ByteArray) : s.data.toList.length = s.size := Array.length_toList

class SB (s : ByteArray) : Prop where h : s.size ≤ 4611686018427387904
theorem toList_get {s : ByteArray} {k : Nat} : ((s.data.toList.getD (Int.toNat (k : Int)) 0).toNat : Int) = byteAt s k := rfl

instance (s : ByteArray) [hs : SB s] : PC Try.prog 75 [.string s] (.int .i64 (runN s)) := ⟨fun w => by
  have h63 := hs.h
  refine calls_of_W Try.func75 rfl rfl ?_
  repeat (first | refine byW ?_ | (refine byV ?_; intro w hw))
  refine W_loop (fun μ ρ w' => ∃ k : Nat, μ + k = s.size ∧ Has ρ [(0, .string s), (3, .int .i64 k)] ∧ w' = w ∧ ∀ i, i < k → wordC (s.data.toList.getD i 0) = true) s.size ⟨0, rfl, ⟨rfl, rfl, trivial⟩, rfl, fun i h => absurd h (Nat.not_lt_zero i)⟩ ?_
  rintro μ ρ w' ⟨k, hk, hρ, rfl, hi⟩
  rw [hρ.eq]
  repeat (first | refine byW ?_ | (refine byV ?_; intro w hw))
  refine W_cond rfl (fun h => ?_) (fun h => ?_)
  · have h' := andL h
    simp only [decide_eq_true_eq] at h'
    repeat (first | refine byW ?_ | (refine byV ?_; intro w hw))
    refine ⟨μ - 1, by omega, k + 1, by omega, ⟨rfl, rfl, trivial⟩, rfl, fun i hi' => ?_⟩
    by_cases e : i = k
    · subst e; exact andR h
    · exact hi i (by omega)
  · repeat (first | refine byW ?_ | (refine byV ?_; intro w hw))
    refine ⟨_, rfl, ret_i rfl ?_, rfl⟩
    have := takeWhile_len (p := wordC) (l := s.data.toList) (k := k) (by rw [size_toList]; omega) hi (fun hk' => by
      rw [size_toList] at hk'
      rw [show decide ((k : Int) < (s.size : Int)) = true from by simp; omega] at h
      exact h)
    show (k : Int) = ((s.data.toList.takeWhile wordC).length : Int)
    rw [this]⟩

theorem takeWhile_all {p : UInt8 → Bool} {l : List UInt8} : ((l.takeWhile p).length = l.length) ↔ l.all p = true := by
  induction l with
  | nil => simp
  | cons x l ih =>
    simp only [List.takeWhile_cons, List.all_cons]
    cases p x with
    | true => simp [ih]
    | false => simp
instance (s : ByteArray) [hs : SB s] : PC Try.prog 61 [.string s] (.bool (wordS s)) := ⟨fun w => by
  refine calls_of_W Try.func61 rfl rfl ?_
  repeat (first | refine byW ?_ | (refine byV ?_; intro w hw))
  refine ⟨_, rfl, ret_b rfl ?_, rfl⟩
  have h1 : decide (s ≠ ⟨#[]⟩) = decide (0 < s.size) := by simp only [ne_nilB]
  have h2 : decide ((runN s : Int) = (s.size : Int)) = s.data.toList.all wordC := by
    rw [Bool.eq_iff_iff, decide_eq_true_eq, ← takeWhile_all, size_toList]
    unfold runN; omega
  rw [h1, h2]; rfl⟩
instance (s : ByteArray) [hs : SB s] : PC Try.prog 48 [.string s] (.bool (nameS s)) := ⟨fun w => by
  refine calls_of_W Try.func48 rfl rfl ?_
  repeat (first | refine byW ?_ | (refine byV ?_; intro w hw))
  refine ⟨_, rfl, ret_b rfl ?_, rfl⟩
  unfold nameS
  congr 1
  rw [decide_eq_decide]; omega⟩


class PosL (n : Int) : Prop where h : 0 < n ∧ n ≤ 1099511627776
instance : PosL 3 := ⟨by decide⟩
instance : PosL 4 := ⟨by decide⟩
instance : PosL 5 := ⟨by decide⟩
instance : PosL 6 := ⟨by decide⟩
instance : PosL 8 := ⟨by decide⟩
instance : PosL 32 := ⟨by decide⟩
instance : PosL 100 := ⟨by decide⟩
instance (v n : Int) [hn : PosL n] : PC Try.prog 7 [.int .i64 v, .int .i64 n] (.int .i64 (v % n)) := ⟨fun w => by
  have h := hn.h
  have hm := Int.tmod_lt_of_pos v h.1
  have hm2 : -n < v.tmod n := by
    have := Int.tmod_lt_of_pos (-v) h.1
    rw [Int.neg_tmod] at this; omega
  have he : v % n = if v.tmod n < 0 then v.tmod n + n else v.tmod n := by
    have h3 : v % n = v.tmod n % n := by
      have h4 := Int.mul_tdiv_add_tmod v n
      have h5 := Int.mul_add_emod_self_left n (v.tdiv n) (v.tmod n)
      rw [h4] at h5; exact h5
    rw [h3]
    split
    · rw [← Int.add_emod_right]; exact Int.emod_eq_of_lt (by omega) (by omega)
    · exact Int.emod_eq_of_lt (by omega) hm
  refine calls_of_W Try.func7 rfl rfl ?_
  repeat (first | refine byW ?_ | (refine byV ?_; intro w hw))
  refine W_cond rfl (fun h1 => ?_) (fun h1 => ?_)
  · repeat (first | refine byW ?_ | (refine byV ?_; intro w hw))
    refine ⟨_, rfl, ret_i rfl ?_, rfl⟩
    rw [he, if_pos (by simpa using h1)]
  · repeat (first | refine byW ?_ | (refine byV ?_; intro w hw))
    refine ⟨_, rfl, ret_i rfl ?_, rfl⟩
    rw [he, if_neg (by simpa using h1)]⟩

def coreS (n : Int) : Bool := decide (0 ≤ n) && decide (n < 32)
end Go.Proofs.Yteiijmclobggjaa
end
/- Bytes of texts, numerals and tokens: what both lexers answer (no program in sight). -/
section
open Go Mk
namespace Go.Proofs.Yteiijmclobggjaa
set_option maxHeartbeats 400000
attribute [local irreducible] Calls

abbrev bts (s : ByteArray) : List UInt8 := s.data.toList
theorem bts_len (s : ByteArray) : (bts s).length = s.size := Array.length_toList
theorem bts_sub (s : ByteArray) (a b : Nat) : bts (bSub s a b) = ((bts s).drop a).take (b - a) := by
  unfold bSub
  show (s.extract a b).data.toList = _
  rw [ByteArray.data_extract, Array.toList_extract, List.extract_eq_take_drop]
theorem bts_ext {s t : ByteArray} (h : bts s = bts t) : s = t := by
  cases s; cases t
  congr 1
  exact Array.toList_inj.1 h
theorem sub_size {s : ByteArray} {a b : Nat} (h : b ≤ s.size) : (bSub s a b).size = b - a := by
  rw [← bts_len, bts_sub, List.length_take, List.length_drop, bts_len]; omega
theorem sub_sub {s : ByteArray} {a b c d : Nat} (h : a + d ≤ b) : bSub (bSub s a b) c d = bSub s (a + c) (a + d) := by
  apply bts_ext
  rw [bts_sub, bts_sub, bts_sub, List.drop_take, List.drop_drop, List.take_take]
  congr 1; omega
theorem byte_sub {s : ByteArray} {a b j : Nat} (h : a + j < b) : byteAt (bSub s a b) j = byteAt s (a + j) := by
  unfold byteAt
  have := bts_sub s a b
  unfold bts at this
  rw [this, List.getD_eq_getElem?_getD, List.getD_eq_getElem?_getD, List.getElem?_take_of_lt (by omega), List.getElem?_drop]

/-- The value of a digit in a base of at most 16. -/
def hexV (c : Int) : Int := if digitB c = true then c - 48 else if decide (97 ≤ c) && decide (c ≤ 102) then c - 97 + 10 else if decide (65 ≤ c) && decide (c ≤ 70) then c - 65 + 10 else -1
def digV (c base : Int) : Int := if base ≤ hexV c then -1 else hexV c
def inStr (c : Int) : Bool := decide (32 ≤ c) && decide (c ≤ 126) && decide (c ≠ 34) && decide (c ≠ 92)
theorem hexV_range (c : Int) : -1 ≤ hexV c ∧ hexV c < 16 := by
  unfold hexV digitB
  split
  · rename_i h; simp at h; omega
  · split
    · rename_i h; simp at h; omega
    · split
      · rename_i h; simp at h; omega
      · omega
theorem digV_range (c base : Int) (hb : 0 < base) : digV c base = -1 ∨ (0 ≤ digV c base ∧ digV c base < base ∧ digV c base < 16) := by
  have := hexV_range c
  unfold digV
  split
  · exact .inl rfl
  · by_cases h : hexV c = -1
    · exact .inl h
    · exact .inr ⟨by omega, by omega, this.2⟩

/-- The value of the digits. -/
def valL (base : Nat) : List UInt8 → Nat → Nat
  | [], v => v
  | c :: l, v => valL base l (v * base + (digV c.toNat base).toNat)
theorem valL_le (base : Nat) (hb : 0 < base) : ∀ (l : List UInt8) (v : Nat), v ≤ valL base l v
  | [], v => Nat.le_refl v
  | c :: l, v => Nat.le_trans (by
      have : v ≤ v * base := Nat.le_mul_of_pos_right v hb
      omega) (valL_le base hb l _)
def most64 : Nat := 18446744073709551615
/-- Digits, a base, a shift: the value and the error. -/
def numCore (base sh : Nat) (l : List UInt8) : Nat × Int :=
  if l.all (fun c => decide (0 ≤ digV c.toNat base)) = false then (0, 50)
  else if most64 >>> sh < valL base l 0 then (0, 6) else (valL base l 0 <<< sh, 0)
def sufK (c : Int) : Nat := if c = 71 then 30 else if c = 77 then 20 else if c = 75 then 10 else 0
/-- A numeral. -/
def numS (s : ByteArray) : Nat × Int :=
  let sh := sufK (byteAt s (s.size - 1))
  let s := if 0 < sh then bSub s 0 (s.size - 1) else s
  if 2 ≤ s.size ∧ byteAt s 0 = 48 ∧ byteAt s 1 = 120 then
    if s.size = 2 then (0, 50) else numCore 16 sh (bts (bSub s 2 s.size))
  else if s.size = 0 ∨ (1 < s.size ∧ byteAt s 0 = 48) then (0, 50) else numCore 10 sh (bts s)

/-- The length of the punctuation mark with which s begins. -/
def two2 (a b : Int) : Bool := (decide (a = 60) && decide (b = 61)) || (decide (a = 62) && decide (b = 61)) || (decide (a = 33) && decide (b = 61)) || (decide (a = 46) && decide (b = 46)) || (decide (a = 45) && decide (b = 62))
def oneB : List UInt8 := [123, 125, 40, 41, 91, 93, 44, 59, 58, 61, 60, 62, 33, 43, 45, 42, 63, 46, 47]
def punctN (s : ByteArray) : Nat := if 2 ≤ s.size ∧ two2 (byteAt s 0) (byteAt s 1) = true then 2 else if 0 < s.size ∧ (s.data.toList.getD 0 0) ∈ oneB then 1 else 0
def inStrC (b : UInt8) : Bool := inStr b.toNat
def strN (s : ByteArray) : Nat := 1 + (((bts s).drop 1).takeWhile inStrC).length
structure TokR where
  kind : Int
  text : ByteArray
  value : Nat
  n : Nat
  err : Int
def tokErr (e : Int) : TokR := ⟨0, ⟨#[]⟩, 0, 0, e⟩
/-- The token with which s begins. -/
def tokS (s : ByteArray) : TokR :=
  if letterB (byteAt s 0) = true then ⟨1, bSub s 0 (runN s), 0, runN s, 0⟩
  else if digitB (byteAt s 0) = true then (if (numS (bSub s 0 (runN s))).2 = 0 then ⟨2, ⟨#[]⟩, (numS (bSub s 0 (runN s))).1, runN s, 0⟩ else tokErr (numS (bSub s 0 (runN s))).2)
  else if byteAt s 0 = 34 then (if strN s < s.size ∧ byteAt s (strN s) = 34 then ⟨3, bSub s 1 (strN s), 0, strN s + 1, 0⟩ else tokErr 50)
  else if punctN s = 0 then tokErr 50 else ⟨4, bSub s 0 (punctN s), 0, punctN s, 0⟩

structure Tok where
  Kind : Int
  Text : ByteArray
  Value : Int
  Line : Int
  Col : Int
  deriving DecidableEq
instance : Inhabited Tok := ⟨⟨0, ⟨#[]⟩, 0, 0, 0⟩⟩
instance : GoT Tok where
  enc a := [.int .i64 a.Kind, .string a.Text, .int .u64 a.Value, .int .i64 a.Line, .int .i64 a.Col]
  inj a b h := by cases a; cases b; simp at h; simp [h]
  ks := [5, 1, 9, 5, 5]
  kinds a := rfl
structure PosT where
  Line : Int
  Col : Int
  deriving DecidableEq, Inhabited
instance : GoT PosT where
  enc a := [.int .i64 a.Line, .int .i64 a.Col]
  inj a b h := by cases a; cases b; simp at h; simp [h]
  ks := [5, 5]
  kinds a := rfl
/-- The position of an offset. -/
def posAt (s : ByteArray) : Nat → PosT
  | 0 => ⟨1, 1⟩
  | k + 1 => if byteAt s k = 10 then ⟨(posAt s k).Line + 1, 1⟩ else ⟨(posAt s k).Line, (posAt s k).Col + 1⟩
def skipN (s : ByteArray) (off : Nat) : Nat := off + (((bts s).drop off).takeWhile fun b => decide ((b.toNat : Int) ≠ 10)).length
def spaceB (c : Int) : Bool := decide (c = 10) || decide (c = 32) || decide (c = 9) || decide (c = 13)
def scanN (s : ByteArray) : Nat → Nat → List Tok → List Tok × PosT × Int
  | 0, _, acc => (acc, ⟨0, 0⟩, 0)
  | f + 1, off, acc =>
    if s.size ≤ off then (acc, ⟨0, 0⟩, 0)
    else if spaceB (byteAt s off) = true then scanN s f (off + 1) acc
    else if byteAt s off = 35 then scanN s f (skipN s off) acc
    else if (tokS (bSub s off s.size)).err = 0 then scanN s f (off + (tokS (bSub s off s.size)).n) (acc ++ [⟨(tokS (bSub s off s.size)).kind, (tokS (bSub s off s.size)).text, (tokS (bSub s off s.size)).value, (posAt s off).Line, (posAt s off).Col⟩])
    else ([], posAt s off, (tokS (bSub s off s.size)).err)
/-- What the scanners answer. -/
def scanS (s : ByteArray) : List Tok × PosT × Int := if 65536 < s.size then ([], ⟨0, 0⟩, 15) else scanN s (s.size + 1) 0 []
end Go.Proofs.Yteiijmclobggjaa
end
/- The program's lexer: characters, digits, prefixes, punctuation. -/
section
open Go Mk
namespace Go.Proofs.Yteiijmclobggjaa
set_option maxHeartbeats 4000000
attribute [local irreducible] Calls

theorem lExt {P : Program} {n : Nat} {opa : Array Oper} {QQ : Exit → Fr → World → Prop} {rest : List Oper} {ρ : Fr} {w : World} {d : Option Tmp} {ty : TypeId} {pos : String} {es : Array Edge} {f : Nat} {args : List Operand} {tys : Array TypeId} {vs : List Value} {v : Value}
    (he : ∀ w, (callFunc f vs.toArray).run P w = .ok (.value v) w) (h : L P n opa QQ rest (putO ρ d v) w) (ha : EvL ρ args vs := by exact byEV) (hd : okDst n d = true := by exact rfl) :
    L P n opa QQ (⟨d, .call { callee := .value (.func f), args := args.toArray, argTypes := tys }, ty, pos, es, none⟩ :: rest) ρ w :=
  L_y rfl hd (by
    unfold Mk.Yields
    simp only [execOp, resolve, ha.eqA, ev, Deferred.ofValue, Sem.run_bind, Sem.run_pure, Result.andThen_ok, invoke]
    simp [he]) h

class SmallB (b : Int) : Prop where h : 0 < b ∧ b ≤ 16
instance : SmallB 10 := ⟨by decide⟩
instance : SmallB 16 := ⟨by decide⟩
theorem u8_wrap {a : Int} (h0 : 0 ≤ a) (h1 : a ≤ 255) : IntKind.u8.wrap a = a := by
  simp [IntKind.wrap, IntKind.bits, IntKind.signed]; omega
theorem byte_le (b : UInt8) : 0 ≤ ((b.toNat : Nat) : Int) ∧ ((b.toNat : Nat) : Int) ≤ 255 := by
  have := b.toNat_lt; omega
end Go.Proofs.Yteiijmclobggjaa
end
/- The program's lexer: punctuation and numerals. -/
section
open Go Mk
namespace Go.Proofs.Yteiijmclobggjaa
set_option maxHeartbeats 4000000
attribute [local irreducible] Calls

theorem two_bytes {s : ByteArray} (h : 2 ≤ s.size) : ∃ x y : UInt8, byteAt s 0 = x.toNat ∧ byteAt s 1 = y.toNat ∧ bSub s 0 2 = ⟨#[x, y]⟩ := by
  have hl := bts_len s
  obtain ⟨x, y, r, hr⟩ : ∃ x y r, bts s = x :: y :: r := by
    match hb : bts s with
    | [] => rw [hb] at hl; simp at hl; omega
    | [x] => rw [hb] at hl; simp at hl; omega
    | x :: y :: r => exact ⟨x, y, r, rfl⟩
  refine ⟨x, y, ?_, ?_, ?_⟩
  · show (((bts s).getD 0 0).toNat : Int) = _; rw [hr]; rfl
  · show (((bts s).getD 1 0).toNat : Int) = _; rw [hr]; rfl
  · apply bts_ext; rw [bts_sub, hr]; rfl
theorem pair_eq (x y a b : UInt8) : ((⟨#[x, y]⟩ : ByteArray) = ⟨#[a, b]⟩) ↔ (x.toNat = a.toNat ∧ y.toNat = b.toNat) := by
  simp [UInt8.toNat_inj]
theorem one_punct : ∀ n : Fin 256, decide (0 ≤ firstIdx ⟨#[123, 125, 40, 41, 91, 93, 44, 59, 58, 61, 60, 62, 33, 43, 45, 42, 63, 46, 47]⟩ (UInt8.ofNat n.1)) = decide (UInt8.ofNat n.1 ∈ oneB) := by decide +kernel
end Go.Proofs.Yteiijmclobggjaa
end
/- The program's lexer: numerals. -/
section
open Go Mk
namespace Go.Proofs.Yteiijmclobggjaa
set_option maxHeartbeats 4000000
attribute [local irreducible] Calls

theorem u64_wrap {a : Int} (h0 : 0 ≤ a) (h1 : a ≤ 18446744073709551615) : IntKind.u64.wrap a = a := by
  simp [IntKind.wrap, IntKind.bits, IntKind.signed]; omega
theorem sufK_cases (c : Int) : sufK c = 0 ∨ sufK c = 10 ∨ sufK c = 20 ∨ sufK c = 30 := by
  unfold sufK; repeat (first | split | simp)
/-- What is left of a numeral when its suffix is off. -/
def numBody (sh : Nat) (s : ByteArray) : Nat × Int :=
  if 2 ≤ s.size ∧ byteAt s 0 = 48 ∧ byteAt s 1 = 120 then
    if s.size = 2 then (0, 50) else numCore 16 sh (bts (bSub s 2 s.size))
  else if s.size = 0 ∨ (1 < s.size ∧ byteAt s 0 = 48) then (0, 50) else numCore 10 sh (bts s)
def cutS (s : ByteArray) : ByteArray := if 0 < sufK (byteAt s (s.size - 1)) then bSub s 0 (s.size - 1) else s
theorem numS_body (s : ByteArray) : numS s = numBody (sufK (byteAt s (s.size - 1))) (cutS s) := rfl
def numB (base sh : Nat) (s : ByteArray) : Nat × Int := if s.size = 0 ∨ (base = 10 ∧ 1 < s.size ∧ byteAt s 0 = 48) then (0, 50) else numCore base sh (bts s)
theorem pre0x {s : ByteArray} : (decide (((⟨#[48, 120]⟩ : ByteArray).size : Int) ≤ s.size) && decide (bSub s 0 (⟨#[48, 120]⟩ : ByteArray).size = ⟨#[48, 120]⟩)) = decide (2 ≤ s.size ∧ byteAt s 0 = 48 ∧ byteAt s 1 = 120) := by
  show (decide ((2 : Int) ≤ s.size) && decide (bSub s 0 2 = ⟨#[48, 120]⟩)) = _
  by_cases h : 2 ≤ s.size
  · obtain ⟨x, y, hx, hy, hxy⟩ := two_bytes h
    rw [hxy, hx, hy]
    have h1 : (2 : Int) ≤ s.size := by omega
    have h2 := pair_eq x y 48 120
    simp only [h, h1, h2, decide_true, Bool.true_and, true_and]
    congr 1
    simp
    omega
  · have h1 : ¬ (2 : Int) ≤ s.size := by omega
    simp [h, h1]
theorem numB_pre {sh : Nat} {s : ByteArray} (h : 2 ≤ s.size ∧ byteAt s 0 = 48 ∧ byteAt s 1 = 120) : numBody sh s = numB 16 sh (bSub s 2 s.size) := by
  unfold numBody numB
  rw [if_pos h, sub_size (Nat.le_refl _)]
  by_cases h2 : s.size = 2
  · rw [if_pos h2, if_pos (.inl (by omega))]
  · rw [if_neg h2, if_neg (by omega)]
theorem numB_no {sh : Nat} {s : ByteArray} (h : ¬ (2 ≤ s.size ∧ byteAt s 0 = 48 ∧ byteAt s 1 = 120)) : numBody sh s = numB 10 sh s := by
  unfold numBody numB
  rw [if_neg h]
  simp

theorem drop_at {α : Type} {l : List α} {k : Nat} {x : α} (h : l[k]? = some x) : l.drop k = x :: l.drop (k + 1) := by
  obtain ⟨h1, h2⟩ := List.getElem?_eq_some_iff.1 h
  rw [← h2]; exact List.drop_eq_getElem_cons h1
class NE (s : ByteArray) : Prop where h : 0 < s.size
end Go.Proofs.Yteiijmclobggjaa
end
/- The program's lexer: a token. -/
section
open Go Mk
namespace Go.Proofs.Yteiijmclobggjaa
set_option maxHeartbeats 4000000
attribute [local irreducible] Calls numS punctN

def tokOf (t : TokR) : Tok := ⟨t.kind, t.text, t.value, 0, 0⟩
theorem runN_le (s : ByteArray) : runN s ≤ s.size := by
  have : (s.data.toList.takeWhile wordC).length ≤ s.data.toList.length := (List.takeWhile_sublist _).length_le
  rw [← bts_len]; exact this
theorem runN_pos {s : ByteArray} (h0 : 0 < s.size) (h : wordC (s.data.toList.getD 0 0) = true) : 0 < runN s := by
  have hl := bts_len s
  unfold runN
  cases hb : s.data.toList with
  | nil => rw [show bts s = [] from hb] at hl; simp at hl; omega
  | cons c l =>
    rw [hb] at h
    have h : wordC c = true := h
    simp [List.takeWhile_cons, h]
theorem strN_eq {s : ByteArray} {k : Nat} (h1 : 1 ≤ k) (hk : k ≤ s.size) (ha : ∀ i, 1 ≤ i → i < k → inStr (byteAt s i) = true) (hn : k < s.size → inStr (byteAt s k) = false) : strN s = k := by
  have hl := bts_len s
  have hg : ∀ i, ((bts s).drop 1).getD i 0 = (bts s).getD (i + 1) 0 := fun i => by
    rw [List.getD_eq_getElem?_getD, List.getD_eq_getElem?_getD, List.getElem?_drop, Nat.add_comm]
  unfold strN
  rw [takeWhile_len (k := k - 1) (by simp [hl]; omega) (fun i hi => by rw [hg]; exact ha (i + 1) (by omega) (by omega)) (fun hh => by
    rw [hg, show k - 1 + 1 = k from by omega]
    exact hn (by simp [hl] at hh; omega))]
  omega

theorem punctN_le (s : ByteArray) : punctN s ≤ s.size := by
  unfold punctN
  split
  · rename_i h; exact h.1
  · split
    · rename_i h; exact h.1
    · omega
end Go.Proofs.Yteiijmclobggjaa
end
/- The program's lexer: positions, and that tokens hold no line's end (no program in sight). -/
section
open Go Mk
namespace Go.Proofs.Yteiijmclobggjaa
set_option maxHeartbeats 400000
attribute [local irreducible] Calls numS punctN

theorem word_nl {b : UInt8} (h : wordC b = true) : ((b.toNat : Nat) : Int) ≠ 10 := by
  intro e
  unfold wordC letterB digitB at h
  rw [e] at h; revert h; decide
theorem inStr_nl {c : Int} (h : inStr c = true) : c ≠ 10 := by
  intro e; rw [e] at h; revert h; decide
theorem takeWhile_get {p : UInt8 → Bool} : ∀ {l : List UInt8} {i : Nat}, i < (l.takeWhile p).length → p (l.getD i 0) = true
  | [], i, h => by simp at h
  | x :: l, i, h => by
    by_cases hx : p x = true
    · rw [List.takeWhile_cons, if_pos hx] at h
      cases i with
      | zero => simpa using hx
      | succ i => exact takeWhile_get (l := l) (i := i) (by simpa using h)
    · rw [List.takeWhile_cons, if_neg hx] at h; simp at h
theorem tok_ok {s : ByteArray} (h0 : 0 < s.size) (he : (tokS s).err = 0) : 1 ≤ (tokS s).n ∧ (tokS s).n ≤ s.size ∧ ∀ i, i < (tokS s).n → byteAt s i ≠ 10 := by
  have hrl := runN_le s
  have hrun : ∀ i, i < runN s → byteAt s i ≠ 10 := fun i hi => word_nl (takeWhile_get (p := wordC) hi)
  unfold tokS at he ⊢
  by_cases h1 : letterB (byteAt s 0) = true
  · rw [if_pos h1]
    exact ⟨runN_pos h0 (by unfold wordC; rw [show letterB ((s.data.toList.getD 0 0).toNat : Int) = true from h1]; rfl), hrl, hrun⟩
  rw [if_neg h1] at he ⊢
  by_cases h2 : digitB (byteAt s 0) = true
  · rw [if_pos h2] at he ⊢
    by_cases h3 : (numS (bSub s 0 (runN s))).2 = 0
    · rw [if_pos h3]
      exact ⟨runN_pos h0 (by unfold wordC; rw [show digitB ((s.data.toList.getD 0 0).toNat : Int) = true from h2]; simp), hrl, hrun⟩
    · rw [if_neg h3] at he; exact absurd he h3
  rw [if_neg h2] at he ⊢
  by_cases h3 : byteAt s 0 = 34
  · rw [if_pos h3] at he ⊢
    by_cases h4 : strN s < s.size ∧ byteAt s (strN s) = 34
    · rw [if_pos h4]
      refine ⟨by show 1 ≤ strN s + 1; omega, by show strN s + 1 ≤ s.size; omega, fun i hi => ?_⟩
      have hi : i < strN s + 1 := hi
      by_cases e0 : i = 0
      · subst e0; rw [h3]; decide
      · by_cases e1 : i = strN s
        · subst e1; rw [h4.2]; decide
        · have hi2 : i - 1 < (((bts s).drop 1).takeWhile inStrC).length := by unfold strN at hi e1; omega
          have := takeWhile_get (p := inStrC) hi2
          rw [List.getD_eq_getElem?_getD, List.getElem?_drop, show 1 + (i - 1) = i from by omega, ← List.getD_eq_getElem?_getD] at this
          exact inStr_nl this
    · rw [if_neg h4] at he; exact absurd he (by decide)
  rw [if_neg h3] at he ⊢
  by_cases h4 : punctN s = 0
  · rw [if_pos h4] at he; exact absurd he (by decide)
  rw [if_neg h4]
  refine ⟨by show 1 ≤ punctN s; omega, punctN_le s, fun i hi => ?_⟩
  have hi : i < punctN s := hi
  unfold punctN at hi
  by_cases h5 : 2 ≤ s.size ∧ two2 (byteAt s 0) (byteAt s 1) = true
  · rw [if_pos h5] at hi
    have h6 := h5.2
    intro e
    rcases (by omega : i = 0 ∨ i = 1) with rfl | rfl <;> (rw [e] at h6; unfold two2 at h6; simp at h6)
  · rw [if_neg h5] at hi
    split at hi
    · rename_i h6
      have hi0 : i = 0 := by omega
      subst hi0
      intro e
      have : s.data.toList.getD 0 0 = 10 := by
        apply UInt8.toNat_inj.1
        have e' : ((s.data.toList.getD 0 0).toNat : Int) = 10 := e
        show _ = 10
        omega
      rw [this] at h6
      exact absurd h6.2 (by decide)
    · omega
theorem posAt_run {s : ByteArray} {off : Nat} : ∀ (n : Nat), (∀ i, i < n → byteAt s (off + i) ≠ 10) → posAt s (off + n) = ⟨(posAt s off).Line, (posAt s off).Col + n⟩
  | 0, _ => by simp
  | n + 1, h => by
    have ih := posAt_run n (fun i hi => h i (by omega))
    rw [show off + (n + 1) = (off + n) + 1 from by omega]
    rw [show posAt s (off + n + 1) = if byteAt s (off + n) = 10 then ⟨(posAt s (off + n)).Line + 1, 1⟩ else ⟨(posAt s (off + n)).Line, (posAt s (off + n)).Col + 1⟩ from rfl, if_neg (h n (by omega)), ih]
    simp; omega
theorem posAt_nl {s : ByteArray} {k : Nat} (h : byteAt s k = 10) : posAt s (k + 1) = ⟨(posAt s k).Line + 1, 1⟩ := by
  rw [show posAt s (k + 1) = if byteAt s k = 10 then ⟨(posAt s k).Line + 1, 1⟩ else ⟨(posAt s k).Line, (posAt s k).Col + 1⟩ from rfl, if_pos h]
theorem skipN_eq {s : ByteArray} {off k : Nat} (h1 : off ≤ k) (hk : k ≤ s.size) (ha : ∀ i, off ≤ i → i < k → byteAt s i ≠ 10) (hn : k < s.size → byteAt s k = 10) : skipN s off = k := by
  have hl := bts_len s
  have hg : ∀ i, ((bts s).drop off).getD i 0 = (bts s).getD (off + i) 0 := fun i => by
    rw [List.getD_eq_getElem?_getD, List.getD_eq_getElem?_getD, List.getElem?_drop]
  unfold skipN
  rw [takeWhile_len (k := k - off) (by simp [hl]; omega) (fun i hi => by rw [hg]; exact decide_eq_true (ha (off + i) (by omega) (by omega))) (fun hh => by
    rw [hg, show off + (k - off) = k from by omega]
    have := hn (by simp [hl] at hh; omega)
    exact decide_eq_false (fun q => q this))]
  omega
end Go.Proofs.Yteiijmclobggjaa
end
/- The program's lexer: Scan. -/
section
open Go Mk
namespace Go.Proofs.Yteiijmclobggjaa
set_option maxHeartbeats 4000000
attribute [local irreducible] Calls numS punctN tokS posAt skipN

end Go.Proofs.Yteiijmclobggjaa
end
/- Tokens are read; the position of the end of a text; the scanner's bound. -/
section
open Go Mk
namespace Go.Proofs.Yteiijmclobggjaa
set_option maxHeartbeats 4000000
attribute [local irreducible] Calls

theorem y_mkIface {P : Program} {d : Option Tmp} {T ty : TypeId} {pos : String} {es : Array Edge} {g : Option (Nat × Bool)} {x : Operand} {ρ : Fr} {w : World} {v : Value} {fs : Array Field} (hu : P.underlying T = some (.struct fs)) (hx : ev ρ x = v) : Mk.Yields P ⟨d, .makeInterface T x, ty, pos, es, g⟩ ρ w (.iface T v) := by
  unfold Mk.Yields; simp [execOp, hx, Instr.makeInterface, run_underlying hu, Result.andThen]
def isS (toks : List Tok) (at' : Nat) (kind : Int) (text : ByteArray) : Bool := match toks[at']? with | some t => decide (t.Kind = kind) && decide (t.Text = text) | none => false
def posOf (toks : List Tok) (at' : Nat) (e : PosT) : PosT := match toks[at']? with | some t => ⟨t.Line, t.Col⟩ | none => e
/-- How a reading of the parser ends: with a value and the number of the next token, or with an error and its position. -/
abbrev PR (α : Type) := Except (PosT × Int) (α × Nat)
def nextP (toks : List Tok) (e : PosT) (kind : Int) (at' : Nat) : PR Tok := match toks[at']? with | some t => if t.Kind = kind then .ok (t, at') else .error (posOf toks at' e, 50) | none => .error (posOf toks at' e, 50)
def expectP (toks : List Tok) (e : PosT) (kind : Int) (text : ByteArray) (at' : Nat) : PR Unit := if isS toks at' kind text = true then .ok ((), at' + 1) else .error (posOf toks at' e, 50)
def nameP (toks : List Tok) (e : PosT) (kind : Int) (at' : Nat) : PR ByteArray := match nextP toks e kind at' with | .ok (t, _) => if 24 < t.Text.size then .error (posOf toks at' e, 63) else .ok (t.Text, at' + 1) | .error q => .error q
def numberP (toks : List Tok) (e : PosT) (limited : Bool) (at' : Nat) : PR Int := match nextP toks e 2 at' with | .ok (t, _) => if limited = true ∧ 2147483647 < t.Value then .error (posOf toks at' e, 6) else .ok (t.Value, at' + 1) | .error q => .error q

theorem nextP_at {toks : List Tok} {e : PosT} {at' : Nat} {kind : Int} {x : Tok} {k : Nat} (h : nextP toks e kind at' = .ok (x, k)) : k = at' ∧ toks[at']? = some x ∧ x.Kind = kind := by
  unfold nextP at h
  cases hg : toks[at']? with
  | none => rw [hg] at h; cases h
  | some t =>
    rw [hg] at h
    by_cases hk : t.Kind = kind
    · simp only [hk, if_true] at h; cases h; exact ⟨rfl, rfl, hk⟩
    · simp only [hk, if_false] at h; cases h
def memB (s : ByteArray) (xs : List ByteArray) : Bool := xs.any fun x => decide (s = x)
def commaB : ByteArray := ⟨#[44]⟩
def semiB : ByteArray := ⟨#[59]⟩
def openB : ByteArray := ⟨#[123]⟩
def closeB : ByteArray := ⟨#[125]⟩
theorem isS_lt {toks : List Tok} {k : Nat} {kind : Int} {text : ByteArray} (h : isS toks k kind text = true) : k < toks.length := by
  unfold isS at h
  cases hg : toks[k]? with
  | none => rw [hg] at h; cases h
  | some t => exact (List.getElem?_eq_some_iff.1 hg).1
theorem numberP_at {toks : List Tok} {e : PosT} {limited : Bool} {k k1 : Nat} {v : Int} (h : numberP toks e limited k = .ok (v, k1)) : k1 = k + 1 ∧ k < toks.length := by
  unfold numberP at h
  cases hN : nextP toks e 2 k with
  | error q => rw [hN] at h; cases h
  | ok q =>
    obtain ⟨x, j⟩ := q
    obtain ⟨rfl, h1, -⟩ := nextP_at hN
    rw [hN] at h
    have hlt := (List.getElem?_eq_some_iff.1 h1).1
    by_cases hc : limited = true ∧ 2147483647 < x.Value
    · simp only [hc, and_self, if_true] at h; cases h
    · dsimp only at h
      rw [if_neg hc] at h
      cases h; exact ⟨rfl, hlt⟩
theorem expectP_at {toks : List Tok} {e : PosT} {kind : Int} {text : ByteArray} {k k1 : Nat} {u : Unit} (h : expectP toks e kind text k = .ok (u, k1)) : k1 = k + 1 ∧ k < toks.length := by
  unfold expectP at h
  by_cases hi : isS toks k kind text = true
  · rw [if_pos hi] at h; cases h; exact ⟨rfl, isS_lt hi⟩
  · rw [if_neg hi] at h; cases h
theorem posLine {s : ByteArray} : ∀ {k : Nat}, k ≤ s.size → (posAt s k).Line = 1 + (((s.data.toList.take k).count 10 : Nat) : Int)
  | 0, _ => by simp [posAt]
  | k + 1, h => by
    have ih := posLine (s := s) (k := k) (by omega)
    have hk : k < s.data.toList.length := by rw [show s.data.toList.length = s.size from by simp]; omega
    obtain ⟨b, hb⟩ : ∃ b, s.data.toList[k]? = some b := ⟨_, List.getElem?_eq_getElem hk⟩
    have hB : byteAt s k = ((b.toNat : Nat) : Int) := by
      show ((s.data.toList.getD k 0).toNat : Int) = _
      rw [List.getD_eq_getElem?_getD, hb]; rfl
    rw [List.take_add_one, hb]
    by_cases h1 : b = 10
    · subst h1
      rw [posAt_nl (by rw [hB]; rfl)]
      simp [ih]; omega
    · have h2 : byteAt s k ≠ 10 := by
        rw [hB]; intro h2
        exact h1 (UInt8.toNat_inj.1 (by simpa using (show b.toNat = 10 by omega)))
      have := posAt_run (s := s) (off := k) 1 (fun i hi => by
        have : i = 0 := by omega
        subst this; exact h2)
      rw [this]
      simp [ih, h1]
theorem posCol {s : ByteArray} {k : Nat} (h : ∀ i, k ≤ i → i < s.size → byteAt s i ≠ 10) (hk : k ≤ s.size) : (posAt s s.size).Col = (posAt s k).Col + ((s.size - k : Nat) : Int) := by
  have := posAt_run (s := s) (off := k) (s.size - k) (fun i hi => h _ (by omega) (by omega))
  rw [show k + (s.size - k) = s.size by omega] at this
  rw [this]
def endP (s : ByteArray) : PosT := posAt s s.size
def maxS0 : Nat := 4611686018427387904
theorem resS {P : Program} {Γ : Gho} {S : List Res} {ρ : Fr} {w : World} {t T i b k : Nat} {cs : Array Value} {E : TypeId} {fr : Nat × Nat} {v : Value} [ha : TS P T] (hw : Wd Γ S w) (hi : S[i]? = some (.blk b (.cells cs E fr))) (hx : ρ t = .pointer (some ⟨b, k, none⟩)) (hv : cs[k]? = some v) : ResV P ρ w (.cell t T) v := by
  refine ⟨_, hx, ?_⟩
  have hc := cell_of (hw.at_blk hi) hv
  simp [loadVar, scal_isAgg ha.h, hc, go_sem]
theorem scanN_len {s : ByteArray} : ∀ {f off : Nat} {acc : List Tok}, off ≤ s.size → (scanN s f off acc).1.length ≤ acc.length + (s.size - off)
  | 0, off, acc, h => by simp [scanN]
  | f + 1, off, acc, h => by
    unfold scanN
    split
    · simp
    · rename_i h1
      split
      · have := scanN_len (s := s) (f := f) (off := off + 1) (acc := acc) (by omega)
        omega
      · split
        · have h2 : off ≤ skipN s off ∧ skipN s off ≤ s.size := by
            unfold skipN
            have : (((bts s).drop off).takeWhile fun b => decide ((b.toNat : Int) ≠ 10)).length ≤ ((bts s).drop off).length := (List.takeWhile_sublist _).length_le
            rw [List.length_drop, bts_len] at this
            omega
          have := scanN_len (s := s) (f := f) (off := skipN s off) (acc := acc) h2.2
          omega
        · split
          · rename_i h4
            have hsz : (bSub s off s.size).size = s.size - off := sub_size (Nat.le_refl _)
            obtain ⟨a1, a2, -⟩ := tok_ok (s := bSub s off s.size) (by omega) h4
            have := scanN_len (s := s) (f := f) (off := off + (tokS (bSub s off s.size)).n) (acc := acc ++ [⟨(tokS (bSub s off s.size)).kind, (tokS (bSub s off s.size)).text, (tokS (bSub s off s.size)).value, (posAt s off).Line, (posAt s off).Col⟩]) (by omega)
            simp at this; omega
          · simp
theorem scanS_len {s : ByteArray} : (scanS s).1.length ≤ 65536 := by
  unfold scanS
  split
  · simp
  · have := scanN_len (s := s) (f := s.size + 1) (off := 0) (acc := []) (by omega)
    simp at this; omega
class RTok (Γ : Gho) (a : Option Addr) (n c : Nat) (toks : outParam (List Tok)) : Prop where
  h : RepS Γ (.slice a n c) 5 (toks.map enc)
  big : n ≤ 1000000
theorem RTok.len {Γ : Gho} {a : Option Addr} {n c : Nat} {toks : List Tok} (h : RTok Γ a n c toks) : n = toks.length ∧ n ≤ c ∧ c ≤ 9223372036854775807 := by
  obtain ⟨_, _, _, h1, h2, h3⟩ := h.h.shape
  cases h1
  exact ⟨by simpa using h2, h3⟩
theorem RTok.mono {Γ Γ' : Gho} {a : Option Addr} {n c : Nat} {toks : List Tok} (h : RTok Γ a n c toks) (hle : Γ.le Γ') : RTok Γ' a n c toks := ⟨h.h.mono hle, h.big⟩
class IB (I : Nat) : Prop where h : I ≤ 1000000
def kindS (toks : List Tok) (k : Nat) (kind : Int) : Bool := match toks[k]? with | some t => decide (t.Kind = kind) | none => false
class SZ (s : ByteArray) : Prop where h : s.size ≤ 4611686018427387904
theorem RTok.of {Γ : Gho} {a : Option Addr} {n c : Nat} {toks : List Tok} (h : RepS Γ (.slice a n c) 5 (toks.map enc)) (hb : n ≤ 1000000) : RTok Γ a n c toks := ⟨h, hb⟩
end Go.Proofs.Yteiijmclobggjaa
end
/- The program's parser: looking at the next token, and failing. -/
section
open Go Mk
namespace Go.Proofs.Yteiijmclobggjaa
set_option maxHeartbeats 4000000
attribute [local irreducible] Calls

section
variable {Γ : Gho} {S : List Res} {w : World} {bp : Nat} {a : Option Addr} {n c at' : Nat} {e : PosT} {toks : List Tok}
end
end Go.Proofs.Yteiijmclobggjaa
end
/- The program's parser: names and numbers. -/
section
open Go Mk
namespace Go.Proofs.Yteiijmclobggjaa
set_option maxHeartbeats 4000000
attribute [local irreducible] Calls nextP

section
variable {Γ : Gho} {S : List Res} {w : World} {bp : Nat} {a : Option Addr} {n c at' : Nat} {e : PosT} {toks : List Tok}
end
end Go.Proofs.Yteiijmclobggjaa
end
/- The program's parser: the attributes of an item. -/
section
open Go Mk
namespace Go.Proofs.Yteiijmclobggjaa
set_option maxHeartbeats 4000000
attribute [local irreducible] Calls nextP numberP expectP isS posOf

/-- Numbers that lie elsewhere. -/
structure NumH where
  A : Option Addr
  N : Nat
  C : Nat
  L : List Int
instance : Inhabited NumH := ⟨⟨none, 0, 0, []⟩⟩
def numV (h : NumH) : Value := .slice h.A h.N h.C
def numRows (l : List Int) : List (List Value) := l.map fun x => [.int .u64 x]
def NOk (Γ : Gho) (h : NumH) : Prop := RepS Γ (numV h) 1 (numRows h.L)

def baseB : ByteArray := ⟨#[98, 97, 115, 101]⟩
def sizeB : ByteArray := ⟨#[115, 105, 122, 101]⟩
def coresB : ByteArray := ⟨#[99, 111, 114, 101, 115]⟩
def moreN (toks : List Tok) (e : PosT) (limited cores : Bool) : Nat → Nat → List Int → PR (List Int)
  | 0, k, acc => .ok (acc, k)
  | f + 1, k, acc => if (cores && isS toks k 4 commaB) = true then (match numberP toks e limited (k + 1) with | .ok (v, k1) => moreN toks e limited cores f k1 (acc ++ [v]) | .error q => .error q) else .ok (acc, k)
def limB (s : ByteArray) : Bool := decide (s ≠ baseB) && decide (s ≠ sizeB)
/-- One attribute. -/
def oneAttr (toks : List Tok) (e : PosT) (names : List ByteArray) (got : List (ByteArray × List Int)) (k : Nat) : PR (ByteArray × List Int) :=
  match nextP toks e 1 k with
  | .error q => .error q
  | .ok (t, _) =>
    if memB t.Text names = false then .error (posOf toks k e, 50)
    else if memB t.Text (got.map (·.1)) = true then .error (posOf toks k e, 56)
    else match numberP toks e (limB t.Text) (k + 1) with
      | .error q => .error q
      | .ok (v, k1) => match moreN toks e (limB t.Text) (decide (t.Text = coresB)) (toks.length + 1) k1 [v] with
        | .error q => .error q
        | .ok (l, k2) => match expectP toks e 4 semiB k2 with
          | .error q => .error q
          | .ok (_, k3) => .ok ((t.Text, l), k3)
def attrN (toks : List Tok) (e : PosT) (names : List ByteArray) : Nat → Nat → List (ByteArray × List Int) → PR (List (ByteArray × List Int))
  | 0, k, got => .ok (got, k)
  | f + 1, k, got => if isS toks k 4 closeB = true then .ok (got, k) else
    match oneAttr toks e names got k with
    | .error q => .error q
    | .ok (p, k3) => attrN toks e names f k3 (got ++ [p])
def attrP (toks : List Tok) (e : PosT) (names : List ByteArray) (k : Nat) : PR (List (ByteArray × List Int)) :=
  match expectP toks e 4 openB k with
  | .error q => .error q
  | .ok (_, k1) => match attrN toks e names (toks.length + 1) k1 [] with
    | .error q => .error q
    | .ok (got, k2) => if got.length < names.length then .error (posOf toks k2 e, 50) else .ok (got, k2 + 1)

end Go.Proofs.Yteiijmclobggjaa
end
/- The program's parser: the attributes of an item, walked. -/
section
open Go Mk
namespace Go.Proofs.Yteiijmclobggjaa
set_option maxHeartbeats 4000000
theorem moreN_step {toks : List Tok} {e : PosT} {l c : Bool} {f k : Nat} {acc : List Int} (h : (c && isS toks k 4 commaB) = true) : moreN toks e l c (f + 1) k acc = match numberP toks e l (k + 1) with | .ok (v, k1) => moreN toks e l c f k1 (acc ++ [v]) | .error q => .error q := if_pos h
theorem moreN_stop {toks : List Tok} {e : PosT} {l c : Bool} {f k : Nat} {acc : List Int} (h : ¬ (c && isS toks k 4 commaB) = true) : moreN toks e l c (f + 1) k acc = .ok (acc, k) := if_neg h
theorem aSet_newN {β : Type} {m : List (ByteArray × β)} {a : ByteArray} {v : β} (h : aGet m a = none) : aSet m a v = m ++ [(a, v)] := by
  unfold aGet at h
  unfold aSet
  cases hi : aIx m a with
  | none => rfl
  | some i =>
    obtain ⟨u, hu⟩ := aIx_get hi
    rw [hi] at h
    simp [hu] at h
attribute [local irreducible] Calls nextP numberP expectP isS posOf moreN memB

theorem y_fldS {P : Program} {d : Option Tmp} {T ty : TypeId} {pos : String} {es : Array Edge} {g : Option (Nat × Bool)} {x : Operand} {ρ : Fr} {w : World} {v : Value} {f : Nat} {fs : Array Field} {fl : Field} {vs : Array Value} (hu : P.underlying T = some (.struct fs)) (hf : fs[f]? = some fl) (hx : ev ρ x = .agg vs) (hs : scal P fl.type = true) (hv : vs[fl.offset]? = some v) : Mk.Yields P ⟨d, .field T x f, ty, pos, es, g⟩ ρ w v := by
  unfold Mk.Yields; simp [execOp, go_sem, hx, hf, Instr.field, run_underlying hu, part, asAgg, scal_isAgg hs, hv]
abbrev strRows (l : List ByteArray) : List (List Value) := l.map fun x => [.string x]
theorem memB_get {ms : List (ByteArray × NumH)} {s : ByteArray} : memB s ((ms.map fun p => (p.1, p.2.L)).map (·.1)) = (aGet ms s).isSome := by
  unfold memB aGet aIx
  rw [List.map_map, List.any_map]
  cases hf : ms.findIdx? (fun p => decide (p.1 = s)) with
  | none =>
    rw [List.findIdx?_eq_none_iff] at hf
    refine List.any_eq_false.2 fun p hp he => ?_
    have h1 := hf p hp
    have h2 : s = p.1 := of_decide_eq_true he
    rw [h2] at h1; simp at h1
  | some i =>
    obtain ⟨hi, hp, -⟩ := List.findIdx?_eq_some_iff_getElem.1 hf
    rw [List.any_eq_true.2 ⟨ms[i], List.getElem_mem hi, by
      have := of_decide_eq_true hp
      exact decide_eq_true this.symm⟩]
    simp [List.getElem?_eq_getElem hi]
section
variable {Γ : Gho} {S : List Res} {w : World} {bp : Nat} {a : Option Addr} {n c at' : Nat} {e : PosT} {toks : List Tok}
end
end Go.Proofs.Yteiijmclobggjaa
end
/- The program's parser: what an item adds to a description. -/
section
open Go Mk
namespace Go.Proofs.Yteiijmclobggjaa
set_option maxHeartbeats 4000000
attribute [local irreducible] Calls nextP numberP expectP isS posOf memB nameP

structure CoreT where
  ID : Int
  Width : Int
  Node : Int
  Speed : Int
  deriving DecidableEq, Inhabited
instance : GoT CoreT where
  enc a := [.int .i64 a.ID, .int .i64 a.Width, .int .i64 a.Node, .int .i64 a.Speed]
  inj a b h := by cases a; cases b; simp at h; simp [h]
  ks := [5, 5, 5, 5]
  kinds a := rfl
structure LinkT where
  A : Int
  B : Int
  Latency : Int
  deriving DecidableEq, Inhabited
instance : GoT LinkT where
  enc a := [.int .i64 a.A, .int .i64 a.B, .int .i64 a.Latency]
  inj a b h := by cases a; cases b; simp at h; simp [h]
  ks := [5, 5, 5]
  kinds a := rfl
structure MemT where
  Name : ByteArray
  Base : Int
  Size : Int
  Node : Int
  Latency : Int
  deriving DecidableEq, Inhabited
instance : GoT MemT where
  enc a := [.string a.Name, .int .u64 a.Base, .int .u64 a.Size, .int .i64 a.Node, .int .i64 a.Latency]
  inj a b h := by cases a; cases b; simp at h; simp [h]
  ks := [1, 9, 9, 5, 5]
  kinds a := rfl
structure DevT where
  Name : ByteArray
  Node : Int
  IRQ : Int
  Base : Int
  Size : Int
  deriving DecidableEq, Inhabited
instance : GoT DevT where
  enc a := [.string a.Name, .int .i64 a.Node, .int .i64 a.IRQ, .int .u64 a.Base, .int .u64 a.Size]
  inj a b h := by cases a; cases b; simp at h; simp [h]
  ks := [1, 5, 5, 9, 9]
  kinds a := rfl
structure CacheT where
  Name : ByteArray
  Level : Int
  Line : Int
  Size : Int
  Cores : List Int
  deriving DecidableEq, Inhabited
/-- A cache in memory: its list of cores lies elsewhere. -/
structure CacheH where
  Name : ByteArray
  Level : Int
  Line : Int
  Size : Int
  A : Option Addr
  N : Nat
  C : Nat
  Cores : List Int
instance : Inhabited CacheH := ⟨⟨⟨#[]⟩, 0, 0, 0, none, 0, 0, []⟩⟩
def CacheH.T (c : CacheH) : CacheT := ⟨c.Name, c.Level, c.Line, c.Size, c.Cores⟩
def cC (c : CacheH) : List Value := [.string c.Name, .int .i64 c.Level, .int .i64 c.Line, .int .u64 c.Size, .slice c.A c.N c.C]
def intRows (l : List Int) : List (List Value) := l.map fun x => [.int .i64 x]
def COk (Γ : Gho) (c : CacheH) : Prop := RepS Γ (.slice c.A c.N c.C) 1 (intRows c.Cores)
structure HwT where
  Name : ByteArray
  Cores : List CoreT
  Caches : List CacheT
  Links : List LinkT
  Mems : List MemT
  Devs : List DevT
  deriving DecidableEq
instance : Inhabited HwT := ⟨⟨⟨#[]⟩, [], [], [], [], []⟩⟩
/-- A description in memory, owned. -/
def HwIn (Γ : Gho) (F : List Res) (hb : Nat) (H : HwT) (S : List Res) (w : World) : Prop := ∃ (v1 v2 v3 v4 v5 : Value) (cs : List CacheH), cs.map CacheH.T = H.Caches ∧ (∀ c ∈ cs, COk Γ c) ∧
  Wd Γ (F ++ .blk hb (.cells #[.string H.Name, v1, v2, v3, v4, v5] 30) :: .own v1 33 4 (H.Cores.map enc) :: .own v2 69 5 (cs.map cC) :: .own v3 41 3 (H.Links.map enc) :: .own v4 63 5 (H.Mems.map enc) :: .own v5 65 5 (H.Devs.map enc) :: S) w

def widthB : ByteArray := ⟨#[119, 105, 100, 116, 104]⟩
def nodeB : ByteArray := ⟨#[110, 111, 100, 101]⟩
def speedB : ByteArray := ⟨#[115, 112, 101, 101, 100]⟩
def levelB : ByteArray := ⟨#[108, 101, 118, 101, 108]⟩
def lineB : ByteArray := ⟨#[108, 105, 110, 101]⟩
def latencyB : ByteArray := ⟨#[108, 97, 116, 101, 110, 99, 121]⟩
def irqB : ByteArray := ⟨#[105, 114, 113]⟩
def coreB : ByteArray := ⟨#[99, 111, 114, 101]⟩
def cacheB : ByteArray := ⟨#[99, 97, 99, 104, 101]⟩
def linkB : ByteArray := ⟨#[108, 105, 110, 107]⟩
def memoryB : ByteArray := ⟨#[109, 101, 109, 111, 114, 121]⟩
def deviceB : ByteArray := ⟨#[100, 101, 118, 105, 99, 101]⟩

abbrev Got := List (ByteArray × List Int)
def numOf (got : Got) (s : ByteArray) : Int := ((aGet got s).getD []).headD 0
def intOf (got : Got) (s : ByteArray) : Int := IntKind.i64.wrap (numOf got s)
def coreP (toks : List Tok) (e : PosT) (k : Nat) : PR CoreT := match numberP toks e true k with
  | .error q => .error q
  | .ok (id, k1) => match attrP toks e [widthB, nodeB, speedB] k1 with
    | .error q => .error q
    | .ok (a, k2) => .ok (⟨IntKind.i64.wrap id, intOf a widthB, intOf a nodeB, intOf a speedB⟩, k2)
def cacheP (toks : List Tok) (e : PosT) (k : Nat) : PR CacheT := match nameP toks e 1 k with
  | .error q => .error q
  | .ok (s, k1) => match attrP toks e [levelB, lineB, sizeB, coresB] k1 with
    | .error q => .error q
    | .ok (a, k2) => .ok (⟨s, intOf a levelB, intOf a lineB, numOf a sizeB, ((aGet a coresB).getD []).map fun v => IntKind.i64.wrap v⟩, k2)
def linkP (toks : List Tok) (e : PosT) (k : Nat) : PR LinkT := match numberP toks e true k with
  | .error q => .error q
  | .ok (x, k1) => match numberP toks e true k1 with
    | .error q => .error q
    | .ok (y, k2) => match attrP toks e [latencyB] k2 with
      | .error q => .error q
      | .ok (a, k3) => .ok (⟨IntKind.i64.wrap x, IntKind.i64.wrap y, intOf a latencyB⟩, k3)
def memP (toks : List Tok) (e : PosT) (k : Nat) : PR MemT := match nameP toks e 1 k with
  | .error q => .error q
  | .ok (s, k1) => match attrP toks e [baseB, sizeB, nodeB, latencyB] k1 with
    | .error q => .error q
    | .ok (a, k2) => .ok (⟨s, numOf a baseB, numOf a sizeB, intOf a nodeB, intOf a latencyB⟩, k2)
def devP (toks : List Tok) (e : PosT) (k : Nat) : PR DevT := match nameP toks e 1 k with
  | .error q => .error q
  | .ok (s, k1) => match attrP toks e [nodeB, irqB, baseB, sizeB] k1 with
    | .error q => .error q
    | .ok (a, k2) => .ok (⟨s, intOf a nodeB, intOf a irqB, numOf a baseB, numOf a sizeB⟩, k2)
def PR.map {α β : Type} (f : α → β) : PR α → PR β
  | .ok (x, k) => .ok (f x, k)
  | .error q => .error q
def itemP (toks : List Tok) (e : PosT) (k : Nat) (H : HwT) : PR HwT := match nextP toks e 1 k with
  | .error q => .error q
  | .ok (t, _) =>
    if t.Text = coreB then PR.map (fun c => { H with Cores := H.Cores ++ [c] }) (coreP toks e (k + 1))
    else if t.Text = cacheB then PR.map (fun c => { H with Caches := H.Caches ++ [c] }) (cacheP toks e (k + 1))
    else if t.Text = linkB then PR.map (fun c => { H with Links := H.Links ++ [c] }) (linkP toks e (k + 1))
    else if t.Text = memoryB then PR.map (fun c => { H with Mems := H.Mems ++ [c] }) (memP toks e (k + 1))
    else if t.Text = deviceB then PR.map (fun c => { H with Devs := H.Devs ++ [c] }) (devP toks e (k + 1))
    else .error (posOf toks k e, 50)
def itemsP (toks : List Tok) (e : PosT) : Nat → Nat → HwT → PR HwT
  | 0, k, H => .ok (H, k)
  | f + 1, k, H => if isS toks k 4 closeB = true then .ok (H, k) else match itemP toks e k H with
    | .error q => .error q
    | .ok (H', k') => itemsP toks e f k' H'
def machineB : ByteArray := ⟨#[109, 97, 99, 104, 105, 110, 101]⟩
def hardwareP (toks : List Tok) (e : PosT) : PR HwT := match expectP toks e 1 machineB 0 with
  | .error q => .error q
  | .ok (_, k1) => match nameP toks e 3 k1 with
    | .error q => .error q
    | .ok (s, k2) => match expectP toks e 4 openB k2 with
      | .error q => .error q
      | .ok (_, k3) => match itemsP toks e (toks.length + 1) k3 ⟨s, [], [], [], [], []⟩ with
        | .error q => .error q
        | .ok (H, k4) => if k4 + 1 < toks.length then .error (posOf toks (k4 + 1) e, 50) else .ok (H, k4 + 1)

/-! ### what an attribute list holds -/
theorem aGet_some_iff {β : Type} {l : List (ByteArray × β)} {s : ByteArray} : (∃ v, aGet l s = some v) ↔ s ∈ l.map (·.1) := by
  unfold aGet aIx
  constructor
  · rintro ⟨v, h⟩
    cases hf : l.findIdx? (fun p => decide (p.1 = s)) with
    | none => rw [hf] at h; cases h
    | some i =>
      obtain ⟨hi, hp, -⟩ := List.findIdx?_eq_some_iff_getElem.1 hf
      exact List.mem_map.2 ⟨l[i], List.getElem_mem hi, of_decide_eq_true hp⟩
  · intro h
    obtain ⟨p, hp, he⟩ := List.mem_map.1 h
    cases hf : l.findIdx? (fun p => decide (p.1 = s)) with
    | none =>
      rw [List.findIdx?_eq_none_iff] at hf
      have := hf p hp
      simp [he] at this
    | some i =>
      obtain ⟨hi, -, -⟩ := List.findIdx?_eq_some_iff_getElem.1 hf
      exact ⟨l[i].2, by simp [List.getElem?_eq_getElem hi]⟩
theorem aGet_mem {β : Type} {l : List (ByteArray × β)} {s : ByteArray} {v : β} (h : aGet l s = some v) : (s, v) ∈ l := by
  unfold aGet aIx at h
  cases hf : l.findIdx? (fun p => decide (p.1 = s)) with
  | none => rw [hf] at h; cases h
  | some i =>
    obtain ⟨hi, hp, -⟩ := List.findIdx?_eq_some_iff_getElem.1 hf
    rw [hf] at h
    simp [List.getElem?_eq_getElem hi] at h
    have hp : l[i].1 = s := of_decide_eq_true hp
    have : l[i] = (s, v) := by rw [← hp, ← h]
    rw [← this]; exact List.getElem_mem hi
theorem nodup_le {α : Type} [DecidableEq α] : ∀ (ks L : List α), ks.Nodup → (∀ x ∈ ks, x ∈ L) → ks.length ≤ L.length
  | [], _, _, _ => Nat.zero_le _
  | k :: ks, L, hn, hs => by
    have hk := hs k (List.mem_cons_self ..)
    have h1 := nodup_le ks (L.erase k) (List.nodup_cons.1 hn).2 fun x hx => by
      refine (List.mem_erase_of_ne ?_).2 (hs x (List.mem_cons_of_mem _ hx))
      rintro rfl; exact (List.nodup_cons.1 hn).1 hx
    rw [List.length_erase_of_mem hk] at h1
    have := List.length_pos_of_mem hk
    simp; omega
theorem nodup_all {α : Type} [DecidableEq α] {ks L : List α} (hn : ks.Nodup) (hs : ∀ x ∈ ks, x ∈ L) (hl : L.length ≤ ks.length) : ∀ x ∈ L, x ∈ ks := fun x hx => by
  by_cases h : x ∈ ks
  · exact h
  · have h1 := nodup_le (x :: ks) L (List.nodup_cons.2 ⟨h, hn⟩) (by simpa using ⟨hx, hs⟩)
    simp at h1; omega
theorem moreN_ne {toks : List Tok} {e : PosT} {l c : Bool} : ∀ {f k : Nat} {acc r : List Int} {k2 : Nat}, k ≤ toks.length → acc ≠ [] → moreN toks e l c f k acc = .ok (r, k2) → r ≠ [] ∧ k ≤ k2 ∧ k2 ≤ toks.length
  | 0, k, acc, r, k2, hk, ha, h => by cases h; exact ⟨ha, Nat.le_refl _, hk⟩
  | f + 1, k, acc, r, k2, hk, ha, h => by
    by_cases hc : (c && isS toks k 4 commaB) = true
    · rw [moreN_step hc] at h
      cases hN : numberP toks e l (k + 1) with
      | error q => rw [hN] at h; cases h
      | ok q =>
        obtain ⟨v, k1⟩ := q
        rw [hN] at h
        obtain ⟨h1, h2⟩ := numberP_at hN
        obtain ⟨a, b, c⟩ := moreN_ne (by omega) (by simp) h
        exact ⟨a, by omega, c⟩
    · rw [moreN_stop hc] at h; cases h; exact ⟨ha, Nat.le_refl _, hk⟩
theorem oneAttr_ok {toks : List Tok} {e : PosT} {names : List ByteArray} {got : Got} {k k3 : Nat} {p : ByteArray × List Int} (h : oneAttr toks e names got k = .ok (p, k3)) : p.1 ∈ names ∧ p.1 ∉ got.map (·.1) ∧ p.2 ≠ [] ∧ k < k3 ∧ k3 ≤ toks.length := by
  unfold oneAttr at h
  cases hN : nextP toks e 1 k with
  | error q => rw [hN] at h; cases h
  | ok q =>
    obtain ⟨t, j⟩ := q
    rw [hN] at h
    dsimp only at h
    by_cases h1 : memB t.Text names = false
    · rw [if_pos h1] at h; cases h
    rw [if_neg h1] at h
    by_cases h2 : memB t.Text (got.map (·.1)) = true
    · rw [if_pos h2] at h; cases h
    rw [if_neg h2] at h
    cases hM : numberP toks e (limB t.Text) (k + 1) with
    | error q => rw [hM] at h; cases h
    | ok q =>
      obtain ⟨v, k1⟩ := q
      obtain ⟨hk1, hk1n⟩ := numberP_at hM
      rw [hM] at h
      dsimp only at h
      cases hL : moreN toks e (limB t.Text) (decide (t.Text = coresB)) (toks.length + 1) k1 [v] with
      | error q => rw [hL] at h; cases h
      | ok q =>
        obtain ⟨l, k2⟩ := q
        rw [hL] at h
        dsimp only at h
        obtain ⟨a, b, c⟩ := moreN_ne (by omega) (by simp) hL
        cases hE : expectP toks e 4 semiB k2 with
        | error q => rw [hE] at h; cases h
        | ok q =>
          obtain ⟨⟨⟩, k4⟩ := q
          obtain ⟨hk4, hk4n⟩ := expectP_at hE
          rw [hE] at h
          cases h
          have memIff : ∀ (s : ByteArray) (xs : List ByteArray), memB s xs = true ↔ s ∈ xs := fun s xs => by
            unfold memB; rw [List.any_eq_true]
            exact ⟨fun ⟨x, hx, he⟩ => by rw [of_decide_eq_true he]; exact hx, fun h => ⟨s, h, decide_eq_true rfl⟩⟩
          refine ⟨?_, fun hm => h2 ((memIff _ _).2 hm), a, by omega, by omega⟩
          exact (memIff _ _).1 (by simpa using h1)
theorem attrN_ok {toks : List Tok} {e : PosT} {names : List ByteArray} : ∀ {f k k2 : Nat} {got r : Got}, k ≤ toks.length → toks.length < f + k → (got.map (·.1)).Nodup → (∀ p ∈ got, p.1 ∈ names ∧ p.2 ≠ []) → attrN toks e names f k got = .ok (r, k2) → (r.map (·.1)).Nodup ∧ (∀ p ∈ r, p.1 ∈ names ∧ p.2 ≠ []) ∧ k ≤ k2 ∧ k2 < toks.length
  | 0, k, k2, got, r, hk, hf, hn, hp, h => by omega
  | f + 1, k, k2, got, r, hk, hf, hn, hp, h => by
    unfold attrN at h
    by_cases hc : isS toks k 4 closeB = true
    · rw [if_pos hc] at h; cases h; exact ⟨hn, hp, Nat.le_refl _, isS_lt hc⟩
    · rw [if_neg hc] at h
      cases hO : oneAttr toks e names got k with
      | error q => rw [hO] at h; cases h
      | ok q =>
        obtain ⟨p, k3⟩ := q
        rw [hO] at h
        obtain ⟨h1, h2, h3, h4, h5⟩ := oneAttr_ok hO
        obtain ⟨a, b, c, d⟩ := attrN_ok (f := f) (k := k3) (got := got ++ [p]) h5 (by omega) (by
          rw [List.map_append, List.nodup_append]
          refine ⟨hn, by simp, fun x hx y hy => ?_⟩
          simp at hy; subst hy
          rintro rfl; exact h2 hx) (fun x hx => by
          rcases List.mem_append.1 hx with hx | hx
          · exact hp x hx
          · cases List.mem_singleton.1 hx; exact ⟨h1, h3⟩) h
        exact ⟨a, b, by omega, d⟩
/-- Where the attributes are read, each name has a list that is not empty. -/
theorem attrP_ok {toks : List Tok} {e : PosT} {names : List ByteArray} {k k2 : Nat} {r : Got} (h : attrP toks e names k = .ok (r, k2)) : (∀ s ∈ names, ∃ v t, aGet r s = some (v :: t)) ∧ k < k2 ∧ k2 ≤ toks.length := by
  unfold attrP at h
  cases hE : expectP toks e 4 openB k with
  | error q => rw [hE] at h; cases h
  | ok q =>
    obtain ⟨⟨⟩, k1⟩ := q
    obtain ⟨h1, h2⟩ := expectP_at hE
    rw [hE] at h
    dsimp only at h
    cases hA : attrN toks e names (toks.length + 1) k1 [] with
    | error q => rw [hA] at h; cases h
    | ok q =>
      obtain ⟨got, k3⟩ := q
      rw [hA] at h
      dsimp only at h
      obtain ⟨a, b, c, d⟩ := attrN_ok (by omega) (by omega) (by simp) (by simp) hA
      by_cases hl : got.length < names.length
      · rw [if_pos hl] at h; cases h
      rw [if_neg hl] at h
      cases h
      refine ⟨fun s hs => ?_, by omega, by omega⟩
      have hm := nodup_all (ks := r.map (·.1)) (L := names) a (fun x hx => by
        obtain ⟨p, hp, rfl⟩ := List.mem_map.1 hx
        exact (b p hp).1) (by simp; omega) s hs
      obtain ⟨v, hv⟩ := aGet_some_iff.2 hm
      have := (b _ (aGet_mem hv)).2
      cases v with
      | nil => exact absurd rfl this
      | cons x t => exact ⟨x, t, hv⟩
theorem aGet_map {β γ : Type} (f : β → γ) (l : List (ByteArray × β)) (s : ByteArray) : aGet (l.map fun p => (p.1, f p.2)) s = (aGet l s).map f := by
  unfold aGet aIx
  rw [List.findIdx?_map]
  rw [show ((fun p : ByteArray × γ => decide (p.1 = s)) ∘ fun p : ByteArray × β => (p.1, f p.2)) = fun p : ByteArray × β => decide (p.1 = s) from rfl]
  cases hf : l.findIdx? (fun p => decide (p.1 = s)) with
  | none => rfl
  | some i => simp; rfl
theorem moreN_len {toks : List Tok} {e : PosT} {l c : Bool} : ∀ {f k : Nat} {acc r : List Int} {k2 : Nat}, moreN toks e l c f k acc = .ok (r, k2) → r.length + k ≤ acc.length + k2
  | 0, k, acc, r, k2, h => by cases h; exact Nat.le_refl _
  | f + 1, k, acc, r, k2, h => by
    by_cases hc : (c && isS toks k 4 commaB) = true
    · rw [moreN_step hc] at h
      cases hN : numberP toks e l (k + 1) with
      | error q => rw [hN] at h; cases h
      | ok q =>
        obtain ⟨v, k1⟩ := q
        rw [hN] at h
        obtain ⟨h1, h2⟩ := numberP_at hN
        have := moreN_len h
        simp at this; omega
    · rw [moreN_stop hc] at h; cases h; exact Nat.le_refl _
theorem oneAttr_len {toks : List Tok} {e : PosT} {names : List ByteArray} {got : Got} {k k3 : Nat} {p : ByteArray × List Int} (h : oneAttr toks e names got k = .ok (p, k3)) : p.2.length ≤ toks.length := by
  unfold oneAttr at h
  cases hN : nextP toks e 1 k with
  | error q => rw [hN] at h; cases h
  | ok q =>
    obtain ⟨t, j⟩ := q
    rw [hN] at h
    dsimp only at h
    by_cases h1 : memB t.Text names = false
    · rw [if_pos h1] at h; cases h
    rw [if_neg h1] at h
    by_cases h2 : memB t.Text (got.map (·.1)) = true
    · rw [if_pos h2] at h; cases h
    rw [if_neg h2] at h
    cases hM : numberP toks e (limB t.Text) (k + 1) with
    | error q => rw [hM] at h; cases h
    | ok q =>
      obtain ⟨v, k1⟩ := q
      obtain ⟨hk1, hk1n⟩ := numberP_at hM
      rw [hM] at h
      dsimp only at h
      cases hL : moreN toks e (limB t.Text) (decide (t.Text = coresB)) (toks.length + 1) k1 [v] with
      | error q => rw [hL] at h; cases h
      | ok q =>
        obtain ⟨l, k2⟩ := q
        rw [hL] at h
        dsimp only at h
        have a := moreN_len hL
        cases hE : expectP toks e 4 semiB k2 with
        | error q => rw [hE] at h; cases h
        | ok q =>
          obtain ⟨⟨⟩, k4⟩ := q
          obtain ⟨hk4, hk4n⟩ := expectP_at hE
          rw [hE] at h
          cases h
          simp at a; dsimp only; omega
theorem attrN_len {toks : List Tok} {e : PosT} {names : List ByteArray} : ∀ {f k k2 : Nat} {got r : Got}, (∀ p ∈ got, p.2.length ≤ toks.length) → attrN toks e names f k got = .ok (r, k2) → ∀ p ∈ r, p.2.length ≤ toks.length
  | 0, k, k2, got, r, hp, h => by cases h; exact hp
  | f + 1, k, k2, got, r, hp, h => by
    unfold attrN at h
    by_cases hc : isS toks k 4 closeB = true
    · rw [if_pos hc] at h; cases h; exact hp
    · rw [if_neg hc] at h
      cases hO : oneAttr toks e names got k with
      | error q => rw [hO] at h; cases h
      | ok q =>
        obtain ⟨p, k3⟩ := q
        rw [hO] at h
        exact attrN_len (fun x hx => by
          rcases List.mem_append.1 hx with hx | hx
          · exact hp x hx
          · cases List.mem_singleton.1 hx; exact oneAttr_len hO) h
theorem attrP_len {toks : List Tok} {e : PosT} {names : List ByteArray} {k k2 : Nat} {r : Got} (h : attrP toks e names k = .ok (r, k2)) : ∀ p ∈ r, p.2.length ≤ toks.length := by
  unfold attrP at h
  cases hE : expectP toks e 4 openB k with
  | error q => rw [hE] at h; cases h
  | ok q =>
    obtain ⟨⟨⟩, k1⟩ := q
    rw [hE] at h
    dsimp only at h
    cases hA : attrN toks e names (toks.length + 1) k1 [] with
    | error q => rw [hA] at h; cases h
    | ok q =>
      obtain ⟨got, k3⟩ := q
      rw [hA] at h
      dsimp only at h
      by_cases hl : got.length < names.length
      · rw [if_pos hl] at h; cases h
      rw [if_neg hl] at h
      cases h
      exact attrN_len (by simp) hA
end Go.Proofs.Yteiijmclobggjaa
end
/- The program's parser: items, walked. -/
section
open Go Mk
namespace Go.Proofs.Yteiijmclobggjaa
set_option maxHeartbeats 4000000
attribute [local irreducible] Calls nextP numberP expectP isS posOf moreN memB nameP attrP

def Small (H : HwT) (k : Nat) : Prop := H.Cores.length ≤ k ∧ H.Caches.length ≤ k ∧ H.Links.length ≤ k ∧ H.Mems.length ≤ k ∧ H.Devs.length ≤ k
theorem COk.mono {Γ Γ' : Gho} {c : CacheH} (h : COk Γ c) (hle : Γ.le Γ') : COk Γ' c := RepS.mono h hle
theorem got_of {toks : List Tok} {e : PosT} {names : List ByteArray} {k k2 : Nat} {got : Got} {ms : List (ByteArray × NumH)} {Γ : Gho} (h : attrP toks e names k = .ok (got, k2)) (hm : ms.map (fun p => (p.1, p.2.L)) = got) (hok : ∀ p ∈ ms, NOk Γ p.2) (s : ByteArray) (hs : s ∈ names) : ∃ (h : NumH) (v : Int) (tl : List Int), aGet ms s = some h ∧ h.L = v :: tl ∧ NOk Γ h ∧ numOf got s = v ∧ intOf got s = IntKind.i64.wrap v ∧ aGet got s = some (v :: tl) := by
  obtain ⟨v, t, hg⟩ := (attrP_ok h).1 s hs
  rw [← hm, aGet_map] at hg
  cases hh : aGet ms s with
  | none => rw [hh] at hg; cases hg
  | some x =>
    rw [hh] at hg
    have hx : x.L = v :: t := by simpa using hg
    have h2 : aGet got s = some (v :: t) := by rw [← hm, aGet_map, hh]; simp [hx]
    have h3 : numOf got s = v := by unfold numOf; rw [h2]; rfl
    exact ⟨x, v, t, rfl, hx, hok _ (aGet_mem hh), h3, by unfold intOf; rw [h3], h2⟩
theorem got_of2 {toks : List Tok} {e : PosT} {names : List ByteArray} {k k2 : Nat} {got : Got} {ms : List (ByteArray × NumH)} {Γ : Gho} (h : attrP toks e names k = .ok (got, k2)) (hm : ms.map (fun p => (p.1, p.2.L)) = got) (hok : ∀ p ∈ ms, NOk Γ p.2) (s : ByteArray) (hs : s ∈ names) : ∃ (A : Option Addr) (N C : Nat) (v : Int) (tl : List Int), aGet ms s = some ⟨A, N, C, v :: tl⟩ ∧ RepS Γ (.slice A N C) 1 (numRows (v :: tl)) ∧ N = tl.length + 1 ∧ numOf got s = v ∧ aGet got s = some (v :: tl) := by
  obtain ⟨⟨A, N, C, L⟩, v, tl, h1, h2, h3, h4, h5, h6⟩ := got_of h hm hok s hs
  dsimp only at h2
  subst h2
  have hr : RepS Γ (.slice A N C) 1 (numRows (v :: tl)) := h3
  obtain ⟨a, n, c, e1, e2, -, -⟩ := hr.shape
  cases e1
  exact ⟨A, N, C, v, tl, h1, hr, by simpa [numRows] using e2, h4, h6⟩
theorem itemP_at {toks : List Tok} {e : PosT} {k : Nat} {s : ByteArray} {k1 : Nat} {kind : Int} (h : nameP toks e kind k = .ok (s, k1)) : k1 = k + 1 ∧ k < toks.length := by
  unfold nameP at h
  cases hN : nextP toks e kind k with
  | error q => rw [hN] at h; cases h
  | ok q =>
    obtain ⟨x, j⟩ := q
    obtain ⟨rfl, h1, -⟩ := nextP_at hN
    rw [hN] at h
    have hlt := (List.getElem?_eq_some_iff.1 h1).1
    dsimp only at h
    by_cases hc : 24 < x.Text.size
    · rw [if_pos hc] at h; cases h
    · rw [if_neg hc] at h; cases h; exact ⟨rfl, hlt⟩
section
variable {Γ : Gho} {S : List Res} {w : World} {bp hb : Nat} {a : Option Addr} {n c at' : Nat} {e : PosT} {toks : List Tok} {H : HwT}
end
end Go.Proofs.Yteiijmclobggjaa
end
/- The program's parser: a whole description. -/
section
open Go Mk
namespace Go.Proofs.Yteiijmclobggjaa
set_option maxHeartbeats 4000000

theorem PR.map_ok {α β : Type} {f : α → β} {x : PR α} {y : β} {k : Nat} (h : PR.map f x = .ok (y, k)) : ∃ z, x = .ok (z, k) ∧ y = f z := by
  cases x with
  | error q => cases h
  | ok q => obtain ⟨z, j⟩ := q; cases h; exact ⟨z, rfl, rfl⟩
theorem num_attr {α : Type} {toks : List Tok} {e : PosT} {k k2 : Nat} {names : List ByteArray} {F : Got → α} {y : α} (h : (match attrP toks e names k with | .error q => (.error q : PR α) | .ok (a, k2) => .ok (F a, k2)) = .ok (y, k2)) : k < k2 ∧ k2 ≤ toks.length := by
  cases hA : attrP toks e names k with
  | error q => rw [hA] at h; cases h
  | ok q =>
    obtain ⟨a, j⟩ := q
    rw [hA] at h; cases h
    exact (attrP_ok hA).2
theorem coreP_at {toks : List Tok} {e : PosT} {k k2 : Nat} {y : CoreT} (h : coreP toks e k = .ok (y, k2)) : k < k2 ∧ k2 ≤ toks.length := by
  unfold coreP at h
  cases hN : numberP toks e true k with
  | error q => rw [hN] at h; cases h
  | ok q =>
    obtain ⟨x, j⟩ := q
    obtain ⟨rfl, h2⟩ := numberP_at hN
    rw [hN] at h
    have := num_attr h
    omega
theorem linkP_at {toks : List Tok} {e : PosT} {k k2 : Nat} {y : LinkT} (h : linkP toks e k = .ok (y, k2)) : k < k2 ∧ k2 ≤ toks.length := by
  unfold linkP at h
  cases hN : numberP toks e true k with
  | error q => rw [hN] at h; cases h
  | ok q =>
    obtain ⟨x, j⟩ := q
    obtain ⟨rfl, h2⟩ := numberP_at hN
    rw [hN] at h
    dsimp only at h
    cases hN2 : numberP toks e true (k + 1) with
    | error q => rw [hN2] at h; cases h
    | ok q =>
      obtain ⟨x, j⟩ := q
      obtain ⟨rfl, h2⟩ := numberP_at hN2
      rw [hN2] at h
      have := num_attr h
      omega
theorem cacheP_at {toks : List Tok} {e : PosT} {k k2 : Nat} {y : CacheT} (h : cacheP toks e k = .ok (y, k2)) : k < k2 ∧ k2 ≤ toks.length := by
  unfold cacheP at h
  cases hN : nameP toks e 1 k with
  | error q => rw [hN] at h; cases h
  | ok q =>
    obtain ⟨x, j⟩ := q
    obtain ⟨rfl, h2⟩ := itemP_at hN
    rw [hN] at h
    have := num_attr h
    omega
theorem memP_at {toks : List Tok} {e : PosT} {k k2 : Nat} {y : MemT} (h : memP toks e k = .ok (y, k2)) : k < k2 ∧ k2 ≤ toks.length := by
  unfold memP at h
  cases hN : nameP toks e 1 k with
  | error q => rw [hN] at h; cases h
  | ok q =>
    obtain ⟨x, j⟩ := q
    obtain ⟨rfl, h2⟩ := itemP_at hN
    rw [hN] at h
    have := num_attr h
    omega
theorem devP_at {toks : List Tok} {e : PosT} {k k2 : Nat} {y : DevT} (h : devP toks e k = .ok (y, k2)) : k < k2 ∧ k2 ≤ toks.length := by
  unfold devP at h
  cases hN : nameP toks e 1 k with
  | error q => rw [hN] at h; cases h
  | ok q =>
    obtain ⟨x, j⟩ := q
    obtain ⟨rfl, h2⟩ := itemP_at hN
    rw [hN] at h
    have := num_attr h
    omega
theorem itemP_ok {toks : List Tok} {e : PosT} {k k2 : Nat} {H H2 : HwT} (h : itemP toks e k H = .ok (H2, k2)) : k < k2 ∧ k2 ≤ toks.length ∧ (Small H k → Small H2 k2) ∧ H2.Name = H.Name := by
  unfold itemP at h
  cases hN : nextP toks e 1 k with
  | error q => rw [hN] at h; cases h
  | ok q =>
    obtain ⟨t, j⟩ := q
    rw [hN] at h
    dsimp only at h
    split at h
    · obtain ⟨z, h1, rfl⟩ := PR.map_ok h
      obtain ⟨h2, h3⟩ := coreP_at h1
      exact ⟨by omega, h3, fun ⟨s1, s2, s3, s4, s5⟩ => ⟨by simp; omega, by dsimp; omega, by dsimp; omega, by dsimp; omega, by dsimp; omega⟩, rfl⟩
    split at h
    · obtain ⟨z, h1, rfl⟩ := PR.map_ok h
      obtain ⟨h2, h3⟩ := cacheP_at h1
      exact ⟨by omega, h3, fun ⟨s1, s2, s3, s4, s5⟩ => ⟨by dsimp; omega, by simp; omega, by dsimp; omega, by dsimp; omega, by dsimp; omega⟩, rfl⟩
    split at h
    · obtain ⟨z, h1, rfl⟩ := PR.map_ok h
      obtain ⟨h2, h3⟩ := linkP_at h1
      exact ⟨by omega, h3, fun ⟨s1, s2, s3, s4, s5⟩ => ⟨by dsimp; omega, by dsimp; omega, by simp; omega, by dsimp; omega, by dsimp; omega⟩, rfl⟩
    split at h
    · obtain ⟨z, h1, rfl⟩ := PR.map_ok h
      obtain ⟨h2, h3⟩ := memP_at h1
      exact ⟨by omega, h3, fun ⟨s1, s2, s3, s4, s5⟩ => ⟨by dsimp; omega, by dsimp; omega, by dsimp; omega, by simp; omega, by dsimp; omega⟩, rfl⟩
    split at h
    · obtain ⟨z, h1, rfl⟩ := PR.map_ok h
      obtain ⟨h2, h3⟩ := devP_at h1
      exact ⟨by omega, h3, fun ⟨s1, s2, s3, s4, s5⟩ => ⟨by dsimp; omega, by dsimp; omega, by dsimp; omega, by dsimp; omega, by simp; omega⟩, rfl⟩
    cases h
attribute [local irreducible] Calls nextP numberP expectP isS posOf moreN memB nameP attrP itemP
/-- A description that is answered. -/
def HwOut (Γ : Gho) (H : HwT) (S : List Res) (u : Value) (w : World) : Prop := ∃ (v1 v2 v3 v4 v5 : Value) (cs : List CacheH), cs.map CacheH.T = H.Caches ∧ (∀ c ∈ cs, COk Γ c) ∧ u = .agg #[.string H.Name, v1, v2, v3, v4, v5] ∧
  Wd Γ (.own v1 33 4 (H.Cores.map enc) :: .own v2 69 5 (cs.map cC) :: .own v3 41 3 (H.Links.map enc) :: .own v4 63 5 (H.Mems.map enc) :: .own v5 65 5 (H.Devs.map enc) :: S) w
section
variable {Γ : Gho} {S : List Res} {w : World} {bp hb : Nat} {a : Option Addr} {n c : Nat} {e : PosT} {toks : List Tok}
end
end Go.Proofs.Yteiijmclobggjaa
end
/- The position of the end of a text. -/
section
open Go Mk
namespace Go.Proofs.Yteiijmclobggjaa
set_option maxHeartbeats 4000000
attribute [local irreducible] Calls

end Go.Proofs.Yteiijmclobggjaa
end
/- Descriptions that are never changed again; what Validate asks of counts and numbers (the loops are printed by a program). -/
section
open Go Mk
namespace Go.Proofs.Yteiijmclobggjaa
set_option maxHeartbeats 4000000
attribute [local irreducible] Calls

def maxS : Nat := 4611686018427387904
def HwSz (H : HwT) : Prop := H.Name.size ≤ maxS ∧ (∀ c ∈ H.Caches, c.Name.size ≤ maxS) ∧ (∀ c ∈ H.Mems, c.Name.size ≤ maxS) ∧ ∀ c ∈ H.Devs, c.Name.size ≤ maxS
/-- A description in memory that is never changed again. -/
class HwR (Γ : Gho) (u : Value) (H : outParam HwT) : Prop where
  h : ∃ (a1 : Option Addr) (n1 c1 : Nat) (a2 : Option Addr) (n2 c2 : Nat) (a3 : Option Addr) (n3 c3 : Nat) (a4 : Option Addr) (n4 c4 : Nat) (a5 : Option Addr) (n5 c5 : Nat) (cs : List CacheH),
    u = .agg #[.string H.Name, .slice a1 n1 c1, .slice a2 n2 c2, .slice a3 n3 c3, .slice a4 n4 c4, .slice a5 n5 c5] ∧ cs.map CacheH.T = H.Caches ∧ (∀ c ∈ cs, COk Γ c) ∧ HwSz H ∧
    RepS Γ (.slice a1 n1 c1) 4 (H.Cores.map enc) ∧ RepS Γ (.slice a2 n2 c2) 5 (cs.map cC) ∧ RepS Γ (.slice a3 n3 c3) 3 (H.Links.map enc) ∧ RepS Γ (.slice a4 n4 c4) 5 (H.Mems.map enc) ∧ RepS Γ (.slice a5 n5 c5) 5 (H.Devs.map enc)
theorem HwR.mono {Γ Γ' : Gho} {u : Value} {H : HwT} (hh : HwR Γ u H) (hle : Γ.le Γ') : HwR Γ' u H := by
  obtain ⟨a1, n1, c1, a2, n2, c2, a3, n3, c3, a4, n4, c4, a5, n5, c5, cs, h1, h2, h3, h4, r1, r2, r3, r4, r5⟩ := hh.h
  exact ⟨a1, n1, c1, a2, n2, c2, a3, n3, c3, a4, n4, c4, a5, n5, c5, cs, h1, h2, fun c hc => RepS.mono (h3 c hc) hle, h4, r1.mono hle, r2.mono hle, r3.mono hle, r4.mono hle, r5.mono hle⟩
theorem rep_facts {Γ : Gho} {a : Option Addr} {n c sz : Nat} {rows : List (List Value)} (h : RepS Γ (.slice a n c) sz rows) : n = rows.length ∧ n ≤ c ∧ c ≤ 9223372036854775807 := by
  obtain ⟨_, _, _, h1, h2, h3⟩ := h.shape; cases h1; exact ⟨h2, h3⟩
theorem COk.facts {Γ : Gho} {c : CacheH} (h : COk Γ c) : c.N = c.Cores.length ∧ c.N ≤ c.C ∧ c.C ≤ 9223372036854775807 := by
  have := rep_facts h
  simpa [intRows] using this

/-! ### lists that are looked through -/
section
variable {α : Type} {l : List α} {p : α → Bool} {k : Nat} {x : α}
theorem all_step (h : ∀ i x, i < k → l[i]? = some x → p x = true) (hx : l[k]? = some x) (ht : p x = true) : ∀ i x, i < k + 1 → l[i]? = some x → p x = true := fun i y hi hy => by
  by_cases e : i = k
  · subst e; rw [hx] at hy; cases hy; exact ht
  · exact h i y (by omega) hy
theorem all_end (h : ∀ i x, i < k → l[i]? = some x → p x = true) (hk : l.length ≤ k) : l.all p = true := by
  rw [List.all_eq_true]
  intro x hm
  obtain ⟨i, hi, hx⟩ := List.getElem_of_mem hm
  exact h i x (by omega) (by rw [List.getElem?_eq_getElem hi, hx])
theorem all_no (hx : l[k]? = some x) (hf : p x = false) : l.all p = false := by
  rw [List.all_eq_false]
  exact ⟨x, List.mem_of_getElem? hx, by rw [hf]; simp⟩
theorem and_no1 {a b : Bool} (h : a = false) : (a && b) = false := by rw [h]; rfl
theorem and_no2 {a b : Bool} (h : b = false) : (a && b) = false := by rw [h]; simp
end

def isNodeB (n : Int) : Bool := decide (0 ≤ n) && decide (n < 64)
def isLatB (n : Int) : Bool := decide (1 ≤ n) && decide (n ≤ 1000000)
instance pc_isNode (n : Int) : PC Try.prog 49 [.int .i64 n] (.bool (isNodeB n)) := ⟨fun w => by
  refine calls_of_W Try.func49 rfl rfl ?_
  repeat (first | refine byW ?_ | (refine byV ?_; intro w hw))
  exact ⟨_, rfl, rfl, rfl⟩⟩
instance pc_isLatency (n : Int) : PC Try.prog 50 [.int .i64 n] (.bool (isLatB n)) := ⟨fun w => by
  refine calls_of_W Try.func50 rfl rfl ?_
  repeat (first | refine byW ?_ | (refine byV ?_; intro w hw))
  exact ⟨_, rfl, rfl, rfl⟩⟩
def inSpaceB (b s : Int) : Bool := (decide (4096 ≤ s) && decide (s ≤ 1099511627776)) && decide (b ≤ IntKind.u64.wrap (1099511627776 - s))
theorem pc_inSpace (b s : Int) : PC Try.prog 51 [.int .u64 b, .int .u64 s] (.bool (inSpaceB b s)) := ⟨fun w => by
  refine calls_of_W Try.func51 rfl rfl ?_
  repeat (first | refine byW ?_ | (refine byV ?_; intro w hw))
  exact ⟨_, rfl, rfl, rfl⟩⟩
def coreRB (c : CoreT) : Bool := decide (0 ≤ c.ID) && decide (c.ID < 32) && (decide (c.Width = 32) || decide (c.Width = 39)) && decide (1 ≤ c.Speed) && decide (c.Speed ≤ 1000000) && isNodeB c.Node
def cacheRB (c : CacheT) : Bool := decide (1 ≤ c.Level) && decide (c.Level ≤ 4) && decide (16 ≤ c.Line) && decide (c.Line ≤ 256) && decide (bitsZ .and .i64 c.Line (IntKind.i64.wrap (c.Line - 1)) = 0) && decide (IntKind.u64.wrap c.Line ≤ c.Size) && decide (c.Size ≤ 1099511627776) && decide (0 < c.Cores.length)
def cacheRH (c : CacheH) : Bool := cacheRB c.T
theorem all_cache (cs : List CacheH) : (cs.map CacheH.T).all cacheRB = cs.all cacheRH := by rw [List.all_map]; rfl
def linkRB (l : LinkT) : Bool := isNodeB l.A && isNodeB l.B && decide (l.A ≠ l.B) && isLatB l.Latency
def memRB (m : MemT) : Bool := isNodeB m.Node && isLatB m.Latency && inSpaceB m.Base m.Size
def devRB (d : DevT) : Bool := isNodeB d.Node && decide (0 ≤ d.IRQ) && decide (d.IRQ < 256) && inSpaceB d.Base d.Size
def memAB (m : MemT) : Bool := decide (bitsZ .and .u64 m.Size (IntKind.u64.wrap (m.Size - 1)) = 0) && decide (bitsZ .and .u64 m.Base (IntKind.u64.wrap (m.Size - 1)) = 0)
def devAB (d : DevT) : Bool := decide (d.Base.tmod 4096 = 0) && decide (d.Size.tmod 4096 = 0)
def coresRB (H : HwT) : Bool := H.Cores.all coreRB && (H.Caches.all cacheRB && H.Links.all linkRB)
def regionsRB (H : HwT) : Bool := H.Mems.all memRB && H.Devs.all devRB
def alignRB (H : HwT) : Bool := H.Mems.all memAB && H.Devs.all devAB
def countsB (H : HwT) : Bool := decide (1 ≤ H.Cores.length) && decide (H.Cores.length ≤ 32) && decide (H.Caches.length ≤ 64) && decide (H.Links.length ≤ 256) && decide (H.Mems.length ≤ 64) && decide (H.Devs.length ≤ 32)
theorem mem_key (x : MemT) : (!isNodeB x.Node || !isLatB x.Latency || !inSpaceB x.Base x.Size) = !memRB x := by
  simp only [memRB, Bool.not_and]
theorem dev_key (x : DevT) : (!isNodeB x.Node || decide (x.IRQ < 0) || decide (256 ≤ x.IRQ) || !inSpaceB x.Base x.Size) = !devRB x := by
  simp only [devRB, Bool.not_and, ← decide_not, Int.not_le, Int.not_lt]
theorem mema_key (x : MemT) : (decide (bitsZ .and .u64 x.Size (IntKind.u64.wrap (x.Size - 1)) ≠ 0) || decide (bitsZ .and .u64 x.Base (IntKind.u64.wrap (x.Size - 1)) ≠ 0)) = !memAB x := by
  simp only [memAB, Bool.not_and, ← decide_not, ne_eq]
theorem deva_key (x : DevT) : (decide (x.Base.tmod 4096 ≠ 0) || decide (x.Size.tmod 4096 ≠ 0)) = !devAB x := by
  simp only [devAB, Bool.not_and, ← decide_not, ne_eq]
theorem cache_key (x : CacheH) (hn : x.N = x.Cores.length) : (decide (x.Level < 1) || decide (4 < x.Level) || decide (x.Line < 16) || decide (256 < x.Line) || decide (bitsZ .and .i64 x.Line (IntKind.i64.wrap (x.Line - 1)) ≠ 0) || decide (x.Size < IntKind.u64.wrap x.Line) || decide (1099511627776 < x.Size) || decide ((x.N : Int) = 0)) = !cacheRH x := by
  have h : decide ((x.N : Int) = 0) = !decide (0 < x.Cores.length) := by rw [← decide_not]; exact decide_eq_decide.2 (by omega)
  rw [h]
  have nle : ∀ a b : Int, decide (a ≤ b) = !decide (b < a) := fun a b => by rw [← decide_not]; exact decide_eq_decide.2 Int.not_lt.symm
  show _ = !(decide (1 ≤ x.Level) && decide (x.Level ≤ 4) && decide (16 ≤ x.Line) && decide (x.Line ≤ 256) && decide (bitsZ .and .i64 x.Line (IntKind.i64.wrap (x.Line - 1)) = 0) && decide (IntKind.u64.wrap x.Line ≤ x.Size) && decide (x.Size ≤ 1099511627776) && decide (0 < x.Cores.length))
  rw [nle 1, nle x.Level, nle 16, nle x.Line, nle (IntKind.u64.wrap x.Line), nle x.Size, show decide (bitsZ .and .i64 x.Line (IntKind.i64.wrap (x.Line - 1)) ≠ 0) = !decide (bitsZ .and .i64 x.Line (IntKind.i64.wrap (x.Line - 1)) = 0) from decide_not]
  simp only [Bool.not_and, Bool.not_not]
theorem key_no {a b : Bool} (h : a = !b) (h2 : a = true) : b = false := by subst h; simpa using h2
theorem key_yes {a b : Bool} (h : a = !b) (h2 : a = false) : b = true := by subst h; simpa using h2
instance pg_coresInRange {Γ : Gho} {u : Value} {H : HwT} [hh : HwR Γ u H] : PG Try.prog Γ 32 [u] (.bool (coresRB H)) := ⟨fun S w hw => by
  obtain ⟨a1, n1, c1, a2, n2, c2, a3, n3, c3, a4, n4, c4, a5, n5, c5, cs, rfl, hcs, hok, hsz, r1, r2, r3, r4, r5⟩ := hh.h
  obtain ⟨hn1, hm1, hx1⟩ := rep_facts r1
  obtain ⟨hn2, hm2, hx2⟩ := rep_facts r2
  obtain ⟨hn3, hm3, hx3⟩ := rep_facts r3
  obtain ⟨hn4, hm4, hx4⟩ := rep_facts r4
  obtain ⟨hn5, hm5, hx5⟩ := rep_facts r5
  simp only [List.length_map] at hn1 hn2 hn3 hn4 hn5
  refine calls_of_W Try.func32 rfl rfl ?_
  repeat (first | refine byW ?_ | (refine byV ?_; intro w hw))
  refine lBox ?_
  intro b1 w hw
  have hw : Wd Γ (.blk b1 (.cells #[.string H.Name, .slice a1 n1 c1, .slice a2 n2 c2, .slice a3 n3 c3, .slice a4 n4 c4, .slice a5 n5 c5] 30) :: S) w := hw
  repeat (first | refine byW ?_ | (refine byV ?_; intro w hw))
  refine W_loop (fun μ ρ w => ∃ (k : Nat), μ + k = n1 ∧ Has ρ [(1, .pointer (some ⟨b1, 0, none⟩)), (10, .slice a1 n1 c1), (11, .int .i64 n1), (12, .int .i64 k)] ∧ (∀ i x, i < k → (H.Cores)[i]? = some x → coreRB x = true) ∧ Wd Γ (.blk b1 (.cells #[.string H.Name, .slice a1 n1 c1, .slice a2 n2 c2, .slice a3 n3 c3, .slice a4 n4 c4, .slice a5 n5 c5] 30) :: S) w) n1 ⟨0, by omega, ⟨rfl, rfl, rfl, rfl, trivial⟩, fun i x h => by omega, hw⟩ ?_
  clear hw
  rintro μ ρ w ⟨k, hk, hρ, hall, hw⟩
  rw [hρ.eq]
  repeat (first | refine byW ?_ | (refine byV ?_; intro w hw))
  refine W_cond rfl (fun h => ?_) (fun h => ?_)
  · have hkn : k < n1 := by simpa using h
    obtain ⟨x, hx⟩ := get_lt (l := H.Cores) (k := k) (by omega)
    repeat (first | refine byW ?_ | (refine byV ?_; intro w hw))
    refine lAlloc ?_
    intro b9 w hw
    refine lStore ?_
    intro w hw
    have hw : Wd Γ (.blk b9 (.cells (enc x).toArray 33) :: .blk b1 (.cells #[.string H.Name, .slice a1 n1 c1, .slice a2 n2 c2, .slice a3 n3 c3, .slice a4 n4 c4, .slice a5 n5 c5] 30) :: S) w := hw
    repeat (first | refine byW ?_ | (refine byV ?_; intro w hw))
    refine W_cond rfl (fun h2 => ?_) (fun h2 => ?_)
    · have hf : coreRB x = false := by
        simp [coreRB, isNodeB] at h2 ⊢; omega
      repeat (first | refine byW ?_ | (refine byV ?_; intro w hw))
      exact ⟨_, rfl, ret_b rfl (by exact (and_no1 (all_no hx hf)).symm), hw.drop.drop⟩
    · have ht : coreRB x = true := by
        simp [coreRB, isNodeB] at h2 ⊢; omega
      repeat (first | refine byW ?_ | (refine byV ?_; intro w hw))
      exact ⟨μ - 1, by omega, k + 1, by omega, ⟨rfl, rfl, rfl, rfl, trivial⟩, all_step hall hx ht, hw.drop⟩
  have hAc : (H.Cores).all coreRB = true := all_end hall (by have hkn : ¬ k < n1 := (by simpa using h); omega)
  clear h hall hρ hk
  repeat (first | refine byW ?_ | (refine byV ?_; intro w hw))
  refine W_loop (fun μ ρ w => ∃ (k : Nat), μ + k = n2 ∧ Has ρ [(1, .pointer (some ⟨b1, 0, none⟩)), (52, .slice a2 n2 c2), (53, .int .i64 n2), (54, .int .i64 k)] ∧ (∀ i x, i < k → (cs)[i]? = some x → cacheRH x = true) ∧ Wd Γ (.blk b1 (.cells #[.string H.Name, .slice a1 n1 c1, .slice a2 n2 c2, .slice a3 n3 c3, .slice a4 n4 c4, .slice a5 n5 c5] 30) :: S) w) n2 ⟨0, by omega, ⟨rfl, rfl, rfl, rfl, trivial⟩, fun i x h => by omega, hw⟩ ?_
  clear hw
  rintro μ ρ w ⟨k, hk, hρ, hall, hw⟩
  rw [hρ.eq]
  repeat (first | refine byW ?_ | (refine byV ?_; intro w hw))
  refine W_cond rfl (fun h => ?_) (fun h => ?_)
  · have hkn : k < n2 := by simpa using h
    obtain ⟨x, hx⟩ := get_lt (l := cs) (k := k) (by omega)
    have hcx := (hok x (List.mem_of_getElem? hx)).facts
    repeat (first | refine byW ?_ | (refine byV ?_; intro w hw))
    refine lAlloc ?_
    intro b9 w hw
    refine lStore ?_
    intro w hw
    have hw : Wd Γ (.blk b9 (.cells (cC x).toArray 69) :: .blk b1 (.cells #[.string H.Name, .slice a1 n1 c1, .slice a2 n2 c2, .slice a3 n3 c3, .slice a4 n4 c4, .slice a5 n5 c5] 30) :: S) w := hw
    repeat (first | refine byW ?_ | (refine byV ?_; intro w hw))
    refine W_cond rfl (fun h2 => ?_) (fun h2 => ?_)
    · have hf : cacheRH x = false := by
        exact key_no (cache_key x hcx.1) h2
      repeat (first | refine byW ?_ | (refine byV ?_; intro w hw))
      exact ⟨_, rfl, ret_b rfl (by rw [coresRB, ← hcs, all_cache, hAc]; exact (and_no2 (and_no1 (all_no hx hf))).symm), hw.drop.drop⟩
    · have ht : cacheRH x = true := by
        exact key_yes (cache_key x hcx.1) h2
      repeat (first | refine byW ?_ | (refine byV ?_; intro w hw))
      exact ⟨μ - 1, by omega, k + 1, by omega, ⟨rfl, rfl, rfl, rfl, trivial⟩, all_step hall hx ht, hw.drop⟩
  have hAh : (cs).all cacheRH = true := all_end hall (by have hkn : ¬ k < n2 := (by simpa using h); omega)
  clear h hall hρ hk
  repeat (first | refine byW ?_ | (refine byV ?_; intro w hw))
  refine W_loop (fun μ ρ w => ∃ (k : Nat), μ + k = n3 ∧ Has ρ [(1, .pointer (some ⟨b1, 0, none⟩)), (106, .slice a3 n3 c3), (107, .int .i64 n3), (108, .int .i64 k)] ∧ (∀ i x, i < k → (H.Links)[i]? = some x → linkRB x = true) ∧ Wd Γ (.blk b1 (.cells #[.string H.Name, .slice a1 n1 c1, .slice a2 n2 c2, .slice a3 n3 c3, .slice a4 n4 c4, .slice a5 n5 c5] 30) :: S) w) n3 ⟨0, by omega, ⟨rfl, rfl, rfl, rfl, trivial⟩, fun i x h => by omega, hw⟩ ?_
  clear hw
  rintro μ ρ w ⟨k, hk, hρ, hall, hw⟩
  rw [hρ.eq]
  repeat (first | refine byW ?_ | (refine byV ?_; intro w hw))
  refine W_cond rfl (fun h => ?_) (fun h => ?_)
  · have hkn : k < n3 := by simpa using h
    obtain ⟨x, hx⟩ := get_lt (l := H.Links) (k := k) (by omega)
    repeat (first | refine byW ?_ | (refine byV ?_; intro w hw))
    refine lAlloc ?_
    intro b9 w hw
    refine lStore ?_
    intro w hw
    have hw : Wd Γ (.blk b9 (.cells (enc x).toArray 41) :: .blk b1 (.cells #[.string H.Name, .slice a1 n1 c1, .slice a2 n2 c2, .slice a3 n3 c3, .slice a4 n4 c4, .slice a5 n5 c5] 30) :: S) w := hw
    repeat (first | refine byW ?_ | (refine byV ?_; intro w hw))
    refine W_cond rfl (fun h2 => ?_) (fun h2 => ?_)
    · have hf : linkRB x = false := by
        simp [linkRB, isNodeB, isLatB] at h2 ⊢; omega
      repeat (first | refine byW ?_ | (refine byV ?_; intro w hw))
      exact ⟨_, rfl, ret_b rfl (by rw [coresRB, ← hcs, all_cache, hAc, hAh]; exact (and_no2 (and_no2 (all_no hx hf))).symm), hw.drop.drop⟩
    · have ht : linkRB x = true := by
        simp [linkRB, isNodeB, isLatB] at h2 ⊢; omega
      repeat (first | refine byW ?_ | (refine byV ?_; intro w hw))
      exact ⟨μ - 1, by omega, k + 1, by omega, ⟨rfl, rfl, rfl, rfl, trivial⟩, all_step hall hx ht, hw.drop⟩
  have hAl : (H.Links).all linkRB = true := all_end hall (by have hkn : ¬ k < n3 := (by simpa using h); omega)
  clear h hall hρ hk
  repeat (first | refine byW ?_ | (refine byV ?_; intro w hw))
  exact ⟨_, rfl, ret_b rfl (by rw [coresRB, ← hcs, all_cache, hAc, hAh, hAl]; rfl), hw.drop⟩⟩
instance pg_regionsInRange {Γ : Gho} {u : Value} {H : HwT} [hh : HwR Γ u H] : PG Try.prog Γ 33 [u] (.bool (regionsRB H)) := ⟨fun S w hw => by
  obtain ⟨a1, n1, c1, a2, n2, c2, a3, n3, c3, a4, n4, c4, a5, n5, c5, cs, rfl, hcs, hok, hsz, r1, r2, r3, r4, r5⟩ := hh.h
  obtain ⟨hn1, hm1, hx1⟩ := rep_facts r1
  obtain ⟨hn2, hm2, hx2⟩ := rep_facts r2
  obtain ⟨hn3, hm3, hx3⟩ := rep_facts r3
  obtain ⟨hn4, hm4, hx4⟩ := rep_facts r4
  obtain ⟨hn5, hm5, hx5⟩ := rep_facts r5
  simp only [List.length_map] at hn1 hn2 hn3 hn4 hn5
  refine calls_of_W Try.func33 rfl rfl ?_
  repeat (first | refine byW ?_ | (refine byV ?_; intro w hw))
  refine lBox ?_
  intro b1 w hw
  have hw : Wd Γ (.blk b1 (.cells #[.string H.Name, .slice a1 n1 c1, .slice a2 n2 c2, .slice a3 n3 c3, .slice a4 n4 c4, .slice a5 n5 c5] 30) :: S) w := hw
  repeat (first | refine byW ?_ | (refine byV ?_; intro w hw))
  refine W_loop (fun μ ρ w => ∃ (k : Nat), μ + k = n4 ∧ Has ρ [(1, .pointer (some ⟨b1, 0, none⟩)), (3, .func (.func 51) #[] #[]), (9, .slice a4 n4 c4), (10, .int .i64 n4), (11, .int .i64 k)] ∧ (∀ i x, i < k → (H.Mems)[i]? = some x → memRB x = true) ∧ Wd Γ (.blk b1 (.cells #[.string H.Name, .slice a1 n1 c1, .slice a2 n2 c2, .slice a3 n3 c3, .slice a4 n4 c4, .slice a5 n5 c5] 30) :: S) w) n4 ⟨0, by omega, ⟨rfl, rfl, rfl, rfl, rfl, trivial⟩, fun i x h => by omega, hw⟩ ?_
  clear hw
  rintro μ ρ w ⟨k, hk, hρ, hall, hw⟩
  rw [hρ.eq]
  repeat (first | refine byW ?_ | (refine byV ?_; intro w hw))
  refine W_cond rfl (fun h => ?_) (fun h => ?_)
  · have hkn : k < n4 := by simpa using h
    obtain ⟨x, hx⟩ := get_lt (l := H.Mems) (k := k) (by omega)
    repeat (first | refine byW ?_ | (refine byV ?_; intro w hw))
    refine lAlloc ?_
    intro b9 w hw
    refine lStore ?_
    intro w hw
    have hw : Wd Γ (.blk b9 (.cells (enc x).toArray 63) :: .blk b1 (.cells #[.string H.Name, .slice a1 n1 c1, .slice a2 n2 c2, .slice a3 n3 c3, .slice a4 n4 c4, .slice a5 n5 c5] 30) :: S) w := hw
    repeat (first | refine byW ?_ | (refine byV ?_; intro w hw))
    refine lPvG (pc_inSpace x.Base x.Size) ?_
    repeat (first | refine byW ?_ | (refine byV ?_; intro w hw))
    refine W_cond rfl (fun h2 => ?_) (fun h2 => ?_)
    · have hf : memRB x = false := by
        exact key_no (mem_key x) h2
      repeat (first | refine byW ?_ | (refine byV ?_; intro w hw))
      exact ⟨_, rfl, ret_b rfl (by exact (and_no1 (all_no hx hf)).symm), hw.drop.drop⟩
    · have ht : memRB x = true := by
        exact key_yes (mem_key x) h2
      repeat (first | refine byW ?_ | (refine byV ?_; intro w hw))
      exact ⟨μ - 1, by omega, k + 1, by omega, ⟨rfl, rfl, rfl, rfl, rfl, trivial⟩, all_step hall hx ht, hw.drop⟩
  have hAm : (H.Mems).all memRB = true := all_end hall (by have hkn : ¬ k < n4 := (by simpa using h); omega)
  clear h hall hρ hk
  repeat (first | refine byW ?_ | (refine byV ?_; intro w hw))
  refine W_loop (fun μ ρ w => ∃ (k : Nat), μ + k = n5 ∧ Has ρ [(1, .pointer (some ⟨b1, 0, none⟩)), (3, .func (.func 51) #[] #[]), (36, .slice a5 n5 c5), (37, .int .i64 n5), (38, .int .i64 k)] ∧ (∀ i x, i < k → (H.Devs)[i]? = some x → devRB x = true) ∧ Wd Γ (.blk b1 (.cells #[.string H.Name, .slice a1 n1 c1, .slice a2 n2 c2, .slice a3 n3 c3, .slice a4 n4 c4, .slice a5 n5 c5] 30) :: S) w) n5 ⟨0, by omega, ⟨rfl, rfl, rfl, rfl, rfl, trivial⟩, fun i x h => by omega, hw⟩ ?_
  clear hw
  rintro μ ρ w ⟨k, hk, hρ, hall, hw⟩
  rw [hρ.eq]
  repeat (first | refine byW ?_ | (refine byV ?_; intro w hw))
  refine W_cond rfl (fun h => ?_) (fun h => ?_)
  · have hkn : k < n5 := by simpa using h
    obtain ⟨x, hx⟩ := get_lt (l := H.Devs) (k := k) (by omega)
    repeat (first | refine byW ?_ | (refine byV ?_; intro w hw))
    refine lAlloc ?_
    intro b9 w hw
    refine lStore ?_
    intro w hw
    have hw : Wd Γ (.blk b9 (.cells (enc x).toArray 65) :: .blk b1 (.cells #[.string H.Name, .slice a1 n1 c1, .slice a2 n2 c2, .slice a3 n3 c3, .slice a4 n4 c4, .slice a5 n5 c5] 30) :: S) w := hw
    repeat (first | refine byW ?_ | (refine byV ?_; intro w hw))
    refine lPvG (pc_inSpace x.Base x.Size) ?_
    repeat (first | refine byW ?_ | (refine byV ?_; intro w hw))
    refine W_cond rfl (fun h2 => ?_) (fun h2 => ?_)
    · have hf : devRB x = false := by
        exact key_no (dev_key x) h2
      repeat (first | refine byW ?_ | (refine byV ?_; intro w hw))
      exact ⟨_, rfl, ret_b rfl (by rw [regionsRB, hAm]; exact (all_no hx hf).symm), hw.drop.drop⟩
    · have ht : devRB x = true := by
        exact key_yes (dev_key x) h2
      repeat (first | refine byW ?_ | (refine byV ?_; intro w hw))
      exact ⟨μ - 1, by omega, k + 1, by omega, ⟨rfl, rfl, rfl, rfl, rfl, trivial⟩, all_step hall hx ht, hw.drop⟩
  have hAd : (H.Devs).all devRB = true := all_end hall (by have hkn : ¬ k < n5 := (by simpa using h); omega)
  clear h hall hρ hk
  repeat (first | refine byW ?_ | (refine byV ?_; intro w hw))
  exact ⟨_, rfl, ret_b rfl (by rw [regionsRB, hAm, hAd]; rfl), hw.drop⟩⟩
instance pg_alignedOK {Γ : Gho} {u : Value} {H : HwT} [hh : HwR Γ u H] : PG Try.prog Γ 34 [u] (.bool (alignRB H)) := ⟨fun S w hw => by
  obtain ⟨a1, n1, c1, a2, n2, c2, a3, n3, c3, a4, n4, c4, a5, n5, c5, cs, rfl, hcs, hok, hsz, r1, r2, r3, r4, r5⟩ := hh.h
  obtain ⟨hn1, hm1, hx1⟩ := rep_facts r1
  obtain ⟨hn2, hm2, hx2⟩ := rep_facts r2
  obtain ⟨hn3, hm3, hx3⟩ := rep_facts r3
  obtain ⟨hn4, hm4, hx4⟩ := rep_facts r4
  obtain ⟨hn5, hm5, hx5⟩ := rep_facts r5
  simp only [List.length_map] at hn1 hn2 hn3 hn4 hn5
  refine calls_of_W Try.func34 rfl rfl ?_
  repeat (first | refine byW ?_ | (refine byV ?_; intro w hw))
  refine lBox ?_
  intro b1 w hw
  have hw : Wd Γ (.blk b1 (.cells #[.string H.Name, .slice a1 n1 c1, .slice a2 n2 c2, .slice a3 n3 c3, .slice a4 n4 c4, .slice a5 n5 c5] 30) :: S) w := hw
  repeat (first | refine byW ?_ | (refine byV ?_; intro w hw))
  refine W_loop (fun μ ρ w => ∃ (k : Nat), μ + k = n4 ∧ Has ρ [(1, .pointer (some ⟨b1, 0, none⟩)), (8, .slice a4 n4 c4), (9, .int .i64 n4), (10, .int .i64 k)] ∧ (∀ i x, i < k → (H.Mems)[i]? = some x → memAB x = true) ∧ Wd Γ (.blk b1 (.cells #[.string H.Name, .slice a1 n1 c1, .slice a2 n2 c2, .slice a3 n3 c3, .slice a4 n4 c4, .slice a5 n5 c5] 30) :: S) w) n4 ⟨0, by omega, ⟨rfl, rfl, rfl, rfl, trivial⟩, fun i x h => by omega, hw⟩ ?_
  clear hw
  rintro μ ρ w ⟨k, hk, hρ, hall, hw⟩
  rw [hρ.eq]
  repeat (first | refine byW ?_ | (refine byV ?_; intro w hw))
  refine W_cond rfl (fun h => ?_) (fun h => ?_)
  · have hkn : k < n4 := by simpa using h
    obtain ⟨x, hx⟩ := get_lt (l := H.Mems) (k := k) (by omega)
    repeat (first | refine byW ?_ | (refine byV ?_; intro w hw))
    refine lAlloc ?_
    intro b9 w hw
    refine lStore ?_
    intro w hw
    have hw : Wd Γ (.blk b9 (.cells (enc x).toArray 63) :: .blk b1 (.cells #[.string H.Name, .slice a1 n1 c1, .slice a2 n2 c2, .slice a3 n3 c3, .slice a4 n4 c4, .slice a5 n5 c5] 30) :: S) w := hw
    repeat (first | refine byW ?_ | (refine byV ?_; intro w hw))
    refine W_cond rfl (fun h2 => ?_) (fun h2 => ?_)
    · have hf : memAB x = false := by
        exact key_no (mema_key x) h2
      repeat (first | refine byW ?_ | (refine byV ?_; intro w hw))
      exact ⟨_, rfl, ret_b rfl (by exact (and_no1 (all_no hx hf)).symm), hw.drop.drop⟩
    · have ht : memAB x = true := by
        exact key_yes (mema_key x) h2
      repeat (first | refine byW ?_ | (refine byV ?_; intro w hw))
      exact ⟨μ - 1, by omega, k + 1, by omega, ⟨rfl, rfl, rfl, rfl, trivial⟩, all_step hall hx ht, hw.drop⟩
  have hAm : (H.Mems).all memAB = true := all_end hall (by have hkn : ¬ k < n4 := (by simpa using h); omega)
  clear h hall hρ hk
  repeat (first | refine byW ?_ | (refine byV ?_; intro w hw))
  refine W_loop (fun μ ρ w => ∃ (k : Nat), μ + k = n5 ∧ Has ρ [(1, .pointer (some ⟨b1, 0, none⟩)), (32, .slice a5 n5 c5), (33, .int .i64 n5), (34, .int .i64 k)] ∧ (∀ i x, i < k → (H.Devs)[i]? = some x → devAB x = true) ∧ Wd Γ (.blk b1 (.cells #[.string H.Name, .slice a1 n1 c1, .slice a2 n2 c2, .slice a3 n3 c3, .slice a4 n4 c4, .slice a5 n5 c5] 30) :: S) w) n5 ⟨0, by omega, ⟨rfl, rfl, rfl, rfl, trivial⟩, fun i x h => by omega, hw⟩ ?_
  clear hw
  rintro μ ρ w ⟨k, hk, hρ, hall, hw⟩
  rw [hρ.eq]
  repeat (first | refine byW ?_ | (refine byV ?_; intro w hw))
  refine W_cond rfl (fun h => ?_) (fun h => ?_)
  · have hkn : k < n5 := by simpa using h
    obtain ⟨x, hx⟩ := get_lt (l := H.Devs) (k := k) (by omega)
    repeat (first | refine byW ?_ | (refine byV ?_; intro w hw))
    refine lAlloc ?_
    intro b9 w hw
    refine lStore ?_
    intro w hw
    have hw : Wd Γ (.blk b9 (.cells (enc x).toArray 65) :: .blk b1 (.cells #[.string H.Name, .slice a1 n1 c1, .slice a2 n2 c2, .slice a3 n3 c3, .slice a4 n4 c4, .slice a5 n5 c5] 30) :: S) w := hw
    repeat (first | refine byW ?_ | (refine byV ?_; intro w hw))
    refine W_cond rfl (fun h2 => ?_) (fun h2 => ?_)
    · have hf : devAB x = false := by
        exact key_no (deva_key x) h2
      repeat (first | refine byW ?_ | (refine byV ?_; intro w hw))
      exact ⟨_, rfl, ret_b rfl (by rw [alignRB, hAm]; exact (all_no hx hf).symm), hw.drop.drop⟩
    · have ht : devAB x = true := by
        exact key_yes (deva_key x) h2
      repeat (first | refine byW ?_ | (refine byV ?_; intro w hw))
      exact ⟨μ - 1, by omega, k + 1, by omega, ⟨rfl, rfl, rfl, rfl, trivial⟩, all_step hall hx ht, hw.drop⟩
  have hAd : (H.Devs).all devAB = true := all_end hall (by have hkn : ¬ k < n5 := (by simpa using h); omega)
  clear h hall hρ hk
  repeat (first | refine byW ?_ | (refine byV ?_; intro w hw))
  exact ⟨_, rfl, ret_b rfl (by rw [alignRB, hAm, hAd]; rfl), hw.drop⟩⟩
end Go.Proofs.Yteiijmclobggjaa
end
/- No element occurs twice: what distinct answers. -/
section
open Go Mk
namespace Go.Proofs.Yteiijmclobggjaa
set_option maxHeartbeats 4000000
attribute [local irreducible] Calls

/-- A list in memory that is never changed again. -/
class SlC (Γ : Gho) (v : Value) (sz : outParam Nat) (rows : outParam (List (List Value))) : Prop where
  h : RepS Γ v sz rows
instance : TPair Try.prog 112 := ⟨⟨3, by kernel_rfl, by kernel_rfl, by kernel_rfl⟩⟩
abbrev pairRows (l : List (Int × Int)) : List (List Value) := l.map fun p => [.int .i64 p.1, .int .i64 p.2]
theorem take_succ_of {α : Type} {l : List α} {k : Nat} {x : α} (h : l[k]? = some x) : l.take (k + 1) = l.take k ++ [x] := by rw [List.take_add_one, h]; rfl
theorem nodup_snoc {α : Type} {l : List α} {x : α} : (l ++ [x]).Nodup ↔ l.Nodup ∧ x ∉ l := by
  rw [List.nodup_append]
  constructor
  · rintro ⟨h1, -, h3⟩; exact ⟨h1, fun hx => h3 x hx x (by simp) rfl⟩
  · rintro ⟨h1, h2⟩; exact ⟨h1, by simp, fun a ha b hb => by simp at hb; subst hb; rintro rfl; exact h2 ha⟩
theorem not_nodup_at {α : Type} {l : List α} {k : Nat} {x : α} (h : l[k]? = some x) (hm : x ∈ l.take k) : ¬ l.Nodup := fun hn => by
  have h1 : (l.take (k + 1)).Nodup := hn.sublist (List.take_sublist _ _)
  rw [take_succ_of h, nodup_snoc] at h1
  exact h1.2 hm
section
variable {α : Type} [DecidableEq α] {l : List α} {x : α}
abbrev seenL (l : List α) : List (α × Bool) := l.map fun x => (x, true)
theorem seen_ix : ∀ {l : List α}, (aIx (seenL l) x).isSome = true ↔ x ∈ l
  | [] => by simp [aIx, seenL]
  | y :: l => by
    have ih := seen_ix (l := l)
    unfold aIx at ih ⊢
    by_cases h : y = x
    · simp [seenL, List.findIdx?_cons, h]
    · simp only [seenL, List.map_cons, List.findIdx?_cons, h, decide_false, Bool.false_eq_true, if_false, Option.isSome_map]
      rw [ih]
      simp [Ne.symm h]
theorem seen_some (h : x ∈ l) : aGet (seenL l) x = some true := by
  have h2 := seen_ix.2 h
  unfold aGet
  cases hi : aIx (seenL l) x with
  | none => rw [hi] at h2; cases h2
  | some i =>
    obtain ⟨v, hv⟩ := aIx_get hi
    obtain ⟨y, hy, he⟩ := List.mem_map.1 (List.mem_of_getElem? hv)
    cases he
    simp only [Option.bind_some, hv]; rfl
theorem seen_none (h : x ∉ l) : aGet (seenL l) x = none := by
  unfold aGet
  cases hi : aIx (seenL l) x with
  | none => rfl
  | some i => exact absurd (seen_ix.1 (by rw [hi]; rfl)) h
theorem seen_set (h : x ∉ l) : aSet (seenL l) x true = seenL (l ++ [x]) := by
  unfold aSet
  cases hi : aIx (seenL l) x with
  | none => simp [seenL]
  | some i => exact absurd (seen_ix.1 (by rw [hi]; rfl)) h
end

theorem distinct_int_any {Γ : Gho} {S : List Res} {w : World} {v : Value} {xs : List (Int)} (hr : RdS Γ S v 1 (intRows xs)) (hw : Wd Γ S w) : Calls Try.prog 52 #[v] w fun e w' => e = .returned (.bool (decide xs.Nodup)) ∧ Wd Γ S w' := by
  obtain ⟨a, n, c, rfl, hn, hnc, hc⟩ := hr.shape
  have hnr := hn
  simp only [intRows, List.length_map] at hn
  refine calls_of_W Try.func52 rfl rfl ?_
  repeat (first | refine byW ?_ | (refine byV ?_; intro w hw))
  refine L_step rfl rfl (s_makeMap (K := 3) (α := Int) (f := Value.bool) hw fun bm w hw => ?_)
  repeat (first | refine byW ?_ | (refine byV ?_; intro w hw))
  refine W_loop (fun μ ρ w => ∃ (k : Nat), μ + k = n ∧ Has ρ [(3, .map (some bm)), (7, .slice a n c), (8, .int .i64 n), (9, .int .i64 k)] ∧ (xs.take k).Nodup ∧ Wd Γ (Res.mpT Try.prog 3 Value.bool bm (seenL (xs.take k)) :: S) w) n ⟨0, by omega, ⟨rfl, rfl, rfl, rfl, trivial⟩, by simp, hw⟩ ?_
  clear hw
  rintro μ ρ w ⟨k, hk, hρ, hnd, hw⟩
  have hr1 : RdS Γ (Res.mpT Try.prog 3 Value.bool bm (seenL (xs.take k)) :: S) (.slice a n c) 1 (intRows xs) := hr.cons
  rw [hρ.eq]
  repeat (first | refine byW ?_ | (refine byV ?_; intro w hw))
  refine W_cond rfl (fun h => ?_) (fun h => ?_)
  · have hkn : k < n := by simpa using h
    obtain ⟨x, hx⟩ := get_lt (l := xs) (k := k) (by omega)
    repeat (first | refine byW ?_ | (refine byV ?_; intro w hw))
    letI hdm : Decidable (x ∈ xs.take k) := Classical.propDecidable _
    refine L_y rfl rfl (v := .bool (decide (x ∈ xs.take k))) ?_ ?_
    · by_cases hm : x ∈ xs.take k
      · rw [decide_eq_true hm]
        exact y_lookup_some (P := Try.prog) (K := 3) (α := Int) (f := Value.bool) (i := 0) hw rfl rfl rfl (seen_some hm) false
      · rw [decide_eq_false hm]
        exact y_lookup_none (P := Try.prog) (K := 3) (α := Int) (f := Value.bool) (i := 0) hw rfl rfl rfl (seen_none hm) false
    repeat (first | refine byW ?_ | (refine byV ?_; intro w hw))
    refine W_cond rfl (fun h2 => ?_) (fun h2 => ?_)
    · have hm : x ∈ xs.take k := by simpa using h2
      repeat (first | refine byW ?_ | (refine byV ?_; intro w hw))
      exact ⟨_, rfl, ret_b rfl (decide_eq_false (not_nodup_at hx hm)).symm, hw.drop⟩
    · have hm : x ∉ xs.take k := by simpa using h2
      repeat (first | refine byW ?_ | (refine byV ?_; intro w hw))
      refine L_step rfl rfl (s_mapUpdate (P := Try.prog) (K := 3) (α := Int) (f := Value.bool) (i := 0) (v := true) hw rfl rfl rfl rfl fun w hw => ?_)
      rw [seen_set hm, ← take_succ_of hx] at hw
      repeat (first | refine byW ?_ | (refine byV ?_; intro w hw))
      exact ⟨μ - 1, by omega, k + 1, by omega, ⟨rfl, rfl, rfl, rfl, trivial⟩, by rw [take_succ_of hx]; exact nodup_snoc.2 ⟨hnd, hm⟩, hw⟩
  · have hkn : ¬ k < n := by simpa using h
    rw [List.take_of_length_le (by omega)] at hnd
    repeat (first | refine byW ?_ | (refine byV ?_; intro w hw))
    exact ⟨_, rfl, ret_b rfl (decide_eq_true hnd).symm, hw.drop⟩
instance pg_distinct_int {Γ : Gho} {v : Value} {xs : List (Int)} [hr : SlC Γ v 1 (intRows xs)] : PG Try.prog Γ 52 [v] (.bool (decide xs.Nodup)) := ⟨fun S w hw => distinct_int_any hr.h.rdS hw⟩

theorem distinct_string_any {Γ : Gho} {S : List Res} {w : World} {v : Value} {xs : List (ByteArray)} (hr : RdS Γ S v 1 (strRows xs)) (hw : Wd Γ S w) : Calls Try.prog 53 #[v] w fun e w' => e = .returned (.bool (decide xs.Nodup)) ∧ Wd Γ S w' := by
  obtain ⟨a, n, c, rfl, hn, hnc, hc⟩ := hr.shape
  have hnr := hn
  simp only [List.length_map] at hn
  refine calls_of_W Try.func53 rfl rfl ?_
  repeat (first | refine byW ?_ | (refine byV ?_; intro w hw))
  refine L_step rfl rfl (s_makeMap (K := 9) (α := ByteArray) (f := Value.bool) hw fun bm w hw => ?_)
  repeat (first | refine byW ?_ | (refine byV ?_; intro w hw))
  refine W_loop (fun μ ρ w => ∃ (k : Nat), μ + k = n ∧ Has ρ [(3, .map (some bm)), (7, .slice a n c), (8, .int .i64 n), (9, .int .i64 k)] ∧ (xs.take k).Nodup ∧ Wd Γ (Res.mpT Try.prog 9 Value.bool bm (seenL (xs.take k)) :: S) w) n ⟨0, by omega, ⟨rfl, rfl, rfl, rfl, trivial⟩, by simp, hw⟩ ?_
  clear hw
  rintro μ ρ w ⟨k, hk, hρ, hnd, hw⟩
  have hr1 : RdS Γ (Res.mpT Try.prog 9 Value.bool bm (seenL (xs.take k)) :: S) (.slice a n c) 1 (strRows xs) := hr.cons
  rw [hρ.eq]
  repeat (first | refine byW ?_ | (refine byV ?_; intro w hw))
  refine W_cond rfl (fun h => ?_) (fun h => ?_)
  · have hkn : k < n := by simpa using h
    obtain ⟨x, hx⟩ := get_lt (l := xs) (k := k) (by omega)
    repeat (first | refine byW ?_ | (refine byV ?_; intro w hw))
    refine W_cond rfl (fun h2 => ?_) (fun h2 => ?_)
    · have hm : x ∈ xs.take k := Classical.byContradiction fun hm => by rw [seen_none hm] at h2; cases h2
      repeat (first | refine byW ?_ | (refine byV ?_; intro w hw))
      exact ⟨_, rfl, ret_b rfl (decide_eq_false (not_nodup_at hx hm)).symm, hw.drop⟩
    · have hm : x ∉ xs.take k := fun hm => by rw [seen_some hm] at h2; cases h2
      repeat (first | refine byW ?_ | (refine byV ?_; intro w hw))
      refine lMapUpdS (i := 0) (f := Value.bool) (v := true) ?_
      intro w hw
      rw [seen_set hm, ← take_succ_of hx] at hw
      repeat (first | refine byW ?_ | (refine byV ?_; intro w hw))
      exact ⟨μ - 1, by omega, k + 1, by omega, ⟨rfl, rfl, rfl, rfl, trivial⟩, by rw [take_succ_of hx]; exact nodup_snoc.2 ⟨hnd, hm⟩, hw⟩
  · have hkn : ¬ k < n := by simpa using h
    rw [List.take_of_length_le (by omega)] at hnd
    repeat (first | refine byW ?_ | (refine byV ?_; intro w hw))
    exact ⟨_, rfl, ret_b rfl (decide_eq_true hnd).symm, hw.drop⟩
instance pg_distinct_string {Γ : Gho} {v : Value} {xs : List (ByteArray)} [hr : SlC Γ v 1 (strRows xs)] : PG Try.prog Γ 53 [v] (.bool (decide xs.Nodup)) := ⟨fun S w hw => distinct_string_any hr.h.rdS hw⟩

theorem distinct_pairint_any {Γ : Gho} {S : List Res} {w : World} {v : Value} {xs : List (Int × Int)} (hr : RdS Γ S v 2 (pairRows xs)) (hw : Wd Γ S w) : Calls Try.prog 54 #[v] w fun e w' => e = .returned (.bool (decide xs.Nodup)) ∧ Wd Γ S w' := by
  obtain ⟨a, n, c, rfl, hn, hnc, hc⟩ := hr.shape
  have hnr := hn
  simp only [List.length_map] at hn
  refine calls_of_W Try.func54 rfl rfl ?_
  repeat (first | refine byW ?_ | (refine byV ?_; intro w hw))
  refine L_step rfl rfl (s_makeMap (K := 112) (α := Int × Int) (f := Value.bool) hw fun bm w hw => ?_)
  repeat (first | refine byW ?_ | (refine byV ?_; intro w hw))
  refine W_loop (fun μ ρ w => ∃ (k : Nat), μ + k = n ∧ Has ρ [(3, .map (some bm)), (7, .slice a n c), (8, .int .i64 n), (9, .int .i64 k)] ∧ (xs.take k).Nodup ∧ Wd Γ (Res.mpT Try.prog 112 Value.bool bm (seenL (xs.take k)) :: S) w) n ⟨0, by omega, ⟨rfl, rfl, rfl, rfl, trivial⟩, by simp, hw⟩ ?_
  clear hw
  rintro μ ρ w ⟨k, hk, hρ, hnd, hw⟩
  have hr1 : RdS Γ (Res.mpT Try.prog 112 Value.bool bm (seenL (xs.take k)) :: S) (.slice a n c) 2 (pairRows xs) := hr.cons
  rw [hρ.eq]
  repeat (first | refine byW ?_ | (refine byV ?_; intro w hw))
  refine W_cond rfl (fun h => ?_) (fun h => ?_)
  · have hkn : k < n := by simpa using h
    obtain ⟨x, hx⟩ := get_lt (l := xs) (k := k) (by omega)
    repeat (first | refine byW ?_ | (refine byV ?_; intro w hw))
    refine lAlloc ?_
    intro b5 w hw
    refine lStore ?_
    intro w hw
    have hw : Wd Γ (.blk b5 (.cells #[.int .i64 x.1, .int .i64 x.2] 112) :: Res.mpT Try.prog 112 Value.bool bm (seenL (xs.take k)) :: S) w := hw
    repeat (first | refine byW ?_ | (refine byV ?_; intro w hw))
    letI hdm : Decidable (x ∈ xs.take k) := Classical.propDecidable _
    refine L_y rfl rfl (v := .bool (decide (x ∈ xs.take k))) ?_ ?_
    · by_cases hm : x ∈ xs.take k
      · rw [decide_eq_true hm]
        exact y_lookup_some (P := Try.prog) (K := 112) (α := Int × Int) (f := Value.bool) (i := 1) hw rfl rfl rfl (seen_some hm) false
      · rw [decide_eq_false hm]
        exact y_lookup_none (P := Try.prog) (K := 112) (α := Int × Int) (f := Value.bool) (i := 1) hw rfl rfl rfl (seen_none hm) false
    repeat (first | refine byW ?_ | (refine byV ?_; intro w hw))
    refine W_cond rfl (fun h2 => ?_) (fun h2 => ?_)
    · have hm : x ∈ xs.take k := by simpa using h2
      repeat (first | refine byW ?_ | (refine byV ?_; intro w hw))
      exact ⟨_, rfl, ret_b rfl (decide_eq_false (not_nodup_at hx hm)).symm, hw.drop.drop⟩
    · have hm : x ∉ xs.take k := by simpa using h2
      repeat (first | refine byW ?_ | (refine byV ?_; intro w hw))
      refine L_step rfl rfl (s_mapUpdate (P := Try.prog) (K := 112) (α := Int × Int) (f := Value.bool) (i := 1) (v := true) hw rfl rfl rfl rfl fun w hw => ?_)
      rw [seen_set hm, ← take_succ_of hx] at hw
      repeat (first | refine byW ?_ | (refine byV ?_; intro w hw))
      exact ⟨μ - 1, by omega, k + 1, by omega, ⟨rfl, rfl, rfl, rfl, trivial⟩, by rw [take_succ_of hx]; exact nodup_snoc.2 ⟨hnd, hm⟩, hw.drop⟩
  · have hkn : ¬ k < n := by simpa using h
    rw [List.take_of_length_le (by omega)] at hnd
    repeat (first | refine byW ?_ | (refine byV ?_; intro w hw))
    exact ⟨_, rfl, ret_b rfl (decide_eq_true hnd).symm, hw.drop⟩
instance pg_distinct_pairint {Γ : Gho} {v : Value} {xs : List (Int × Int)} [hr : SlC Γ v 2 (pairRows xs)] : PG Try.prog Γ 54 [v] (.bool (decide xs.Nodup)) := ⟨fun S w hw => distinct_pairint_any hr.h.rdS hw⟩

end Go.Proofs.Yteiijmclobggjaa
end
/- Validate's checks of names and counts (loops printed by a program). -/
section
open Go Mk
namespace Go.Proofs.Yteiijmclobggjaa
set_option maxHeartbeats 4000000
attribute [local irreducible] Calls

def inTextC (b : UInt8) : Bool := !(((decide (((b.toNat : Nat) : Int) < 32) || decide (126 < ((b.toNat : Nat) : Int))) || decide (((b.toNat : Nat) : Int) = 34)) || decide (((b.toNat : Nat) : Int) = 92))
def textB (s : ByteArray) : Bool := s.data.toList.all inTextC
instance pc_isText (s : ByteArray) [hs : SB s] : PC Try.prog 47 [.string s] (.bool (textB s)) := ⟨fun w => by
  have hs := hs.h
  have hl := bts_len s
  refine calls_of_W Try.func47 rfl rfl ?_
  repeat (first | refine byW ?_ | (refine byV ?_; intro w hw))
  refine W_loop (fun μ ρ w' => ∃ k : Nat, μ + k = s.size ∧ Has ρ [(0, .string s), (3, .int .i64 k)] ∧ (∀ i x, i < k → (bts s)[i]? = some x → inTextC x = true) ∧ w' = w) s.size ⟨0, by omega, ⟨rfl, rfl, trivial⟩, fun i x h => by omega, rfl⟩ ?_
  rintro μ ρ w' ⟨k, hk, hρ, hall, rfl⟩
  rw [hρ.eq]
  repeat (first | refine byW ?_ | (refine byV ?_; intro w hw))
  refine W_cond rfl (fun h => ?_) (fun h => ?_)
  · have hkn : k < s.size := by simpa using h
    obtain ⟨c, hc⟩ := get_lt (l := bts s) (k := k) (by omega)
    have hg : s.data.toList.getD (k : Int).toNat 0 = c := by
      show (bts s).getD k 0 = c
      rw [List.getD_eq_getElem?_getD, hc]; rfl
    repeat (first | refine byW ?_ | (refine byV ?_; intro w hw))
    rw [hg]
    refine W_cond rfl (fun h2 => ?_) (fun h2 => ?_)
    · have hf : inTextC c = false := by unfold inTextC; rw [h2]; rfl
      repeat (first | refine byW ?_ | (refine byV ?_; intro w hw))
      exact ⟨_, rfl, ret_b rfl (all_no hc hf).symm, rfl⟩
    · have hf : inTextC c = true := by unfold inTextC; rw [h2]; rfl
      repeat (first | refine byW ?_ | (refine byV ?_; intro w hw))
      exact ⟨μ - 1, by omega, k + 1, by omega, ⟨rfl, rfl, trivial⟩, all_step hall hc hf, rfl⟩
  · have hkn : ¬ k < s.size := by simpa using h
    repeat (first | refine byW ?_ | (refine byV ?_; intro w hw))
    exact ⟨_, rfl, ret_b rfl (all_end hall (by omega)).symm, rfl⟩⟩
def headB (H : HwT) : Bool := (decide (H.Name ≠ ⟨#[]⟩) && decide (H.Name.size ≤ 24)) && textB H.Name
def namesB (H : HwT) : Bool := ((headB H && H.Caches.all fun c => nameS c.Name) && H.Mems.all fun c => nameS c.Name) && H.Devs.all fun c => nameS c.Name
theorem all_cnames (cs : List CacheH) : ((cs.map CacheH.T).all fun c => nameS c.Name) = cs.all fun c => nameS c.Name := by rw [List.all_map]; rfl
theorem take_all {α : Type} {l : List α} {k : Nat} {x : α} {p : α → Bool} {a : Bool} (hx : l[k]? = some x) : Value.bool ((a && (l.take k).all p) && p x) = .bool (a && (l.take (k + 1)).all p) := by
  rw [take_succ_of hx, List.all_append]; simp [Bool.and_assoc]
theorem andB {p q : Prop} [Decidable p] [Decidable q] {a b : Bool} (h : p ↔ q) (h2 : a = b) : (decide p && a) = (decide q && b) := by rw [decide_eq_decide.2 h, h2]
instance pg_namesOK {Γ : Gho} {u : Value} {H : HwT} [hh : HwR Γ u H] : PG Try.prog Γ 30 [u] (.bool (namesB H)) := ⟨fun S w hw => by
  obtain ⟨a1, n1, c1, a2, n2, c2, a3, n3, c3, a4, n4, c4, a5, n5, c5, cs, rfl, hcs, hok, hsz, r1, r2, r3, r4, r5⟩ := hh.h
  obtain ⟨hn1, hm1, hx1⟩ := rep_facts r1
  obtain ⟨hn2, hm2, hx2⟩ := rep_facts r2
  obtain ⟨hn3, hm3, hx3⟩ := rep_facts r3
  obtain ⟨hn4, hm4, hx4⟩ := rep_facts r4
  obtain ⟨hn5, hm5, hx5⟩ := rep_facts r5
  simp only [List.length_map] at hn1 hn2 hn3 hn4 hn5
  refine calls_of_W Try.func30 rfl rfl ?_
  repeat (first | refine byW ?_ | (refine byV ?_; intro w hw))
  refine lBox ?_
  intro b1 w hw
  have hw : Wd Γ (.blk b1 (.cells #[.string H.Name, .slice a1 n1 c1, .slice a2 n2 c2, .slice a3 n3 c3, .slice a4 n4 c4, .slice a5 n5 c5] 30) :: S) w := hw
  obtain ⟨z1, z2, z3, z4⟩ := hsz
  haveI : SB H.Name := ⟨z1⟩
  repeat (first | refine byW ?_ | (refine byV ?_; intro w hw))
  have hk0 : ((decide (H.Name ≠ ⟨#[]⟩) && decide ((H.Name.size : Int) ≤ 24)) && textB H.Name) = headB H := by
    unfold headB; rw [show decide ((H.Name.size : Int) ≤ 24) = decide (H.Name.size ≤ 24) from decide_eq_decide.2 (by omega)]
  rw [hk0]
  have hq : (headB H) = (headB H && (cs.take 0).all fun c => nameS c.Name) := by simp
  rw [hq]
  repeat (first | refine byW ?_ | (refine byV ?_; intro w hw))
  refine W_loop (fun μ ρ w => ∃ (k : Nat), μ + k = n2 ∧ Has ρ [(1, .pointer (some ⟨b1, 0, none⟩)), (3, .bool (headB H && (cs.take k).all fun c => nameS c.Name)), (25, .slice a2 n2 c2), (26, .int .i64 n2), (27, .int .i64 k)] ∧ Wd Γ (.blk b1 (.cells #[.string H.Name, .slice a1 n1 c1, .slice a2 n2 c2, .slice a3 n3 c3, .slice a4 n4 c4, .slice a5 n5 c5] 30) :: S) w) n2 ⟨0, by omega, ⟨rfl, rfl, rfl, rfl, rfl, trivial⟩, hw⟩ ?_
  clear hw hq
  rintro μ ρ w ⟨k, hk, hρ, hw⟩
  rw [hρ.eq]
  repeat (first | refine byW ?_ | (refine byV ?_; intro w hw))
  refine W_cond rfl (fun h => ?_) (fun h => ?_)
  · have hkn : k < n2 := by simpa using h
    obtain ⟨x, hx⟩ := get_lt (l := cs) (k := k) (by omega)
    haveI : SB x.Name := ⟨z2 x.T (by rw [← hcs]; exact List.mem_map.2 ⟨x, List.mem_of_getElem? hx, rfl⟩)⟩
    repeat (first | refine byW ?_ | (refine byV ?_; intro w hw))
    refine lAlloc ?_
    intro b9 w hw
    refine lStore ?_
    intro w hw
    have hw : Wd Γ (.blk b9 (.cells (cC x).toArray 69) :: .blk b1 (.cells #[.string H.Name, .slice a1 n1 c1, .slice a2 n2 c2, .slice a3 n3 c3, .slice a4 n4 c4, .slice a5 n5 c5] 30) :: S) w := hw
    repeat (first | refine byW ?_ | (refine byV ?_; intro w hw))
    exact ⟨μ - 1, by omega, k + 1, by omega, ⟨rfl, take_all hx, rfl, rfl, rfl, trivial⟩, hw.drop⟩
  have hkn : ¬ k < n2 := by simpa using h
  rw [List.take_of_length_le (l := cs) (by omega)]
  clear h hkn hρ hk
  have hq : ((headB H && cs.all fun c => nameS c.Name)) = ((headB H && cs.all fun c => nameS c.Name) && (H.Mems.take 0).all fun c => nameS c.Name) := by simp
  rw [hq]
  repeat (first | refine byW ?_ | (refine byV ?_; intro w hw))
  refine W_loop (fun μ ρ w => ∃ (k : Nat), μ + k = n4 ∧ Has ρ [(1, .pointer (some ⟨b1, 0, none⟩)), (3, .bool ((headB H && cs.all fun c => nameS c.Name) && (H.Mems.take k).all fun c => nameS c.Name)), (39, .slice a4 n4 c4), (40, .int .i64 n4), (41, .int .i64 k)] ∧ Wd Γ (.blk b1 (.cells #[.string H.Name, .slice a1 n1 c1, .slice a2 n2 c2, .slice a3 n3 c3, .slice a4 n4 c4, .slice a5 n5 c5] 30) :: S) w) n4 ⟨0, by omega, ⟨rfl, rfl, rfl, rfl, rfl, trivial⟩, hw⟩ ?_
  clear hw hq
  rintro μ ρ w ⟨k, hk, hρ, hw⟩
  rw [hρ.eq]
  repeat (first | refine byW ?_ | (refine byV ?_; intro w hw))
  refine W_cond rfl (fun h => ?_) (fun h => ?_)
  · have hkn : k < n4 := by simpa using h
    obtain ⟨x, hx⟩ := get_lt (l := H.Mems) (k := k) (by omega)
    haveI : SB x.Name := ⟨z3 x (List.mem_of_getElem? hx)⟩
    repeat (first | refine byW ?_ | (refine byV ?_; intro w hw))
    refine lAlloc ?_
    intro b9 w hw
    refine lStore ?_
    intro w hw
    have hw : Wd Γ (.blk b9 (.cells (enc x).toArray 63) :: .blk b1 (.cells #[.string H.Name, .slice a1 n1 c1, .slice a2 n2 c2, .slice a3 n3 c3, .slice a4 n4 c4, .slice a5 n5 c5] 30) :: S) w := hw
    repeat (first | refine byW ?_ | (refine byV ?_; intro w hw))
    exact ⟨μ - 1, by omega, k + 1, by omega, ⟨rfl, take_all hx, rfl, rfl, rfl, trivial⟩, hw.drop⟩
  have hkn : ¬ k < n4 := by simpa using h
  rw [List.take_of_length_le (l := H.Mems) (by omega)]
  clear h hkn hρ hk
  have hq : (((headB H && cs.all fun c => nameS c.Name) && H.Mems.all fun c => nameS c.Name)) = (((headB H && cs.all fun c => nameS c.Name) && H.Mems.all fun c => nameS c.Name) && (H.Devs.take 0).all fun c => nameS c.Name) := by simp
  rw [hq]
  repeat (first | refine byW ?_ | (refine byV ?_; intro w hw))
  refine W_loop (fun μ ρ w => ∃ (k : Nat), μ + k = n5 ∧ Has ρ [(1, .pointer (some ⟨b1, 0, none⟩)), (3, .bool (((headB H && cs.all fun c => nameS c.Name) && H.Mems.all fun c => nameS c.Name) && (H.Devs.take k).all fun c => nameS c.Name)), (53, .slice a5 n5 c5), (54, .int .i64 n5), (55, .int .i64 k)] ∧ Wd Γ (.blk b1 (.cells #[.string H.Name, .slice a1 n1 c1, .slice a2 n2 c2, .slice a3 n3 c3, .slice a4 n4 c4, .slice a5 n5 c5] 30) :: S) w) n5 ⟨0, by omega, ⟨rfl, rfl, rfl, rfl, rfl, trivial⟩, hw⟩ ?_
  clear hw hq
  rintro μ ρ w ⟨k, hk, hρ, hw⟩
  rw [hρ.eq]
  repeat (first | refine byW ?_ | (refine byV ?_; intro w hw))
  refine W_cond rfl (fun h => ?_) (fun h => ?_)
  · have hkn : k < n5 := by simpa using h
    obtain ⟨x, hx⟩ := get_lt (l := H.Devs) (k := k) (by omega)
    haveI : SB x.Name := ⟨z4 x (List.mem_of_getElem? hx)⟩
    repeat (first | refine byW ?_ | (refine byV ?_; intro w hw))
    refine lAlloc ?_
    intro b9 w hw
    refine lStore ?_
    intro w hw
    have hw : Wd Γ (.blk b9 (.cells (enc x).toArray 65) :: .blk b1 (.cells #[.string H.Name, .slice a1 n1 c1, .slice a2 n2 c2, .slice a3 n3 c3, .slice a4 n4 c4, .slice a5 n5 c5] 30) :: S) w := hw
    repeat (first | refine byW ?_ | (refine byV ?_; intro w hw))
    exact ⟨μ - 1, by omega, k + 1, by omega, ⟨rfl, take_all hx, rfl, rfl, rfl, trivial⟩, hw.drop⟩
  have hkn : ¬ k < n5 := by simpa using h
  rw [List.take_of_length_le (l := H.Devs) (by omega)]
  clear h hkn hρ hk
  repeat (first | refine byW ?_ | (refine byV ?_; intro w hw))
  refine ⟨_, rfl, ret_b rfl ?_, hw.drop⟩
  unfold namesB
  rw [← hcs, all_cnames]⟩
instance pg_countsOK {Γ : Gho} {u : Value} {H : HwT} [hh : HwR Γ u H] : PG Try.prog Γ 31 [u] (.bool (countsB H)) := ⟨fun S w hw => by
  obtain ⟨a1, n1, c1, a2, n2, c2, a3, n3, c3, a4, n4, c4, a5, n5, c5, cs, rfl, hcs, hok, hsz, r1, r2, r3, r4, r5⟩ := hh.h
  obtain ⟨hn1, hm1, hx1⟩ := rep_facts r1
  obtain ⟨hn2, hm2, hx2⟩ := rep_facts r2
  obtain ⟨hn3, hm3, hx3⟩ := rep_facts r3
  obtain ⟨hn4, hm4, hx4⟩ := rep_facts r4
  obtain ⟨hn5, hm5, hx5⟩ := rep_facts r5
  simp only [List.length_map] at hn1 hn2 hn3 hn4 hn5
  refine calls_of_W Try.func31 rfl rfl ?_
  repeat (first | refine byW ?_ | (refine byV ?_; intro w hw))
  refine lBox ?_
  intro b1 w hw
  have hw : Wd Γ (.blk b1 (.cells #[.string H.Name, .slice a1 n1 c1, .slice a2 n2 c2, .slice a3 n3 c3, .slice a4 n4 c4, .slice a5 n5 c5] 30) :: S) w := hw
  repeat (first | refine byW ?_ | (refine byV ?_; intro w hw))
  refine ⟨_, rfl, ret_b rfl ?_, hw.drop⟩
  have hl : H.Caches.length = cs.length := by rw [← hcs]; simp
  unfold countsB
  rw [hl, hn1, hn2, hn3, hn4, hn5]
  simp only [Bool.and_assoc]
  refine andB (by omega) (andB (by omega) (andB (by omega) (andB (by omega) (andB (by omega) ?_))))
  exact decide_eq_decide.2 (by omega)⟩
end Go.Proofs.Yteiijmclobggjaa
end
/- Validate's checks: nothing is defined twice (loops printed by a program). -/
section
open Go Mk
namespace Go.Proofs.Yteiijmclobggjaa
set_option maxHeartbeats 8000000
attribute [local irreducible] Calls

theorem own_len {Γ : Gho} {S : List Res} {w : World} {i e sz n c : Nat} {a : Option Addr} {rows : List (List Value)} (hw : Wd Γ S w) (hi : S[i]? = some (.own (.slice a n c) e sz rows)) : n = rows.length := by
  obtain ⟨_, _, _, h1, h2, -, -⟩ := hw.own_shape hi; cases h1; exact h2
def linkKey (l : LinkT) : Int × Int := (if l.B < l.A then l.B else l.A, if l.A < l.B then l.B else l.A)
def uniqueB (H : HwT) : Bool := (H.Caches.all fun c => decide c.Cores.Nodup) && (decide (H.Cores.map (·.ID)).Nodup && decide (H.Caches.map (·.Name)).Nodup && decide (H.Mems.map (·.Name)).Nodup && decide (H.Devs.map (·.Name)).Nodup && decide (H.Devs.map (·.IRQ)).Nodup && decide (H.Links.map linkKey).Nodup)
theorem all_cuniq (cs : List CacheH) : ((cs.map CacheH.T).all fun c => decide c.Cores.Nodup) = cs.all fun c => decide c.Cores.Nodup := by rw [List.all_map]; rfl
theorem counts_le {H : HwT} (h : countsB H = true) : 1 ≤ H.Cores.length ∧ H.Cores.length ≤ 32 ∧ H.Caches.length ≤ 64 ∧ H.Links.length ≤ 256 ∧ H.Mems.length ≤ 64 ∧ H.Devs.length ≤ 32 := by
  unfold countsB at h
  simp only [Bool.and_eq_true, decide_eq_true_eq] at h
  omega
instance : TBA Try.prog 112 1 [.int .i64 0, .int .i64 0] := ⟨by kernel_rfl, by kernel_rfl⟩
section
attribute [local semireducible] gv
/-- A call behind a guard whose answer is known. -/
theorem lCallGd {P : Program} {n : Nat} {opa : Array Oper} {QQ : Exit → Fr → World → Prop} {rest : List Oper} {ρ : Fr} {w : World} {Γ : Gho} {S : List Res} {d : Option Tmp} {ty : TypeId} {pos : String} {es : Array Edge} {f j dj : Nat} {want c : Bool} {args : List Operand} {tys : Array TypeId} {vs : List Value} {v : Value} [FnOk P f]
    (hcall : c = true → Calls P f vs.toArray w fun e w' => e = .returned v ∧ Wd Γ S w') (h : ∀ w', Wd Γ S w' → L P n opa QQ rest (putO ρ d (gv c v)) w') (hw : Wd Γ S w := by exact hw) (hj : (opa[j]?).bind (·.dst) = some dj := by exact rfl) (hjn : okDst n (some dj) = true := by exact rfl) (hc : GuardIs (ρ dj) want c := by exact byGC) (hd : okDst n d = true := by exact rfl) (ha : c = true → EvL ρ args vs := by intro hc; exact byEVG) :
    L P n opa QQ (⟨d, .call { callee := .value (.func f), args := args.toArray, argTypes := tys }, ty, pos, es, some (j, want)⟩ :: rest) ρ w :=
  lGC hj hjn hd hc (fun hct => lCall ((hcall hct).mono fun e w' ⟨h1, h2⟩ => ⟨v, h1, by have := h w' h2; rw [hct] at this; exact this⟩) (ha hct) hd) (fun hcf => by have := h w hw; rw [hcf] at this; exact this)
end
theorem rows_snocI {α : Type} {f : α → Int} {l : List α} {k : Nat} {x : α} (hx : l[k]? = some x) : intRows ((l.take k).map f) ++ [[.int .i64 (f x)]] = intRows ((l.take (k + 1)).map f) := by rw [take_succ_of hx]; simp [intRows]
theorem rows_snocS {α : Type} {f : α → ByteArray} {l : List α} {k : Nat} {x : α} (hx : l[k]? = some x) : strRows ((l.take k).map f) ++ [[.string (f x)]] = strRows ((l.take (k + 1)).map f) := by rw [take_succ_of hx]; simp [strRows]
theorem rows_snocP {α : Type} {f : α → Int × Int} {l : List α} {k : Nat} {x : α} (hx : l[k]? = some x) : pairRows ((l.take k).map f) ++ [[.int .i64 (f x).1, .int .i64 (f x).2]] = pairRows ((l.take (k + 1)).map f) := by rw [take_succ_of hx]; simp [pairRows]
theorem unique_any {Γ : Gho} {S : List Res} {w : World} {u : Value} {H : HwT} [hh : HwR Γ u H] (hcnt : countsB H = true) (hw : Wd Γ S w) : Calls Try.prog 35 #[u] w fun e w' => e = .returned (.bool (uniqueB H)) ∧ Wd Γ S w' := by
  obtain ⟨-, l1, l2, l3, l4, l5⟩ := counts_le hcnt
  obtain ⟨a1, n1, c1, a2, n2, c2, a3, n3, c3, a4, n4, c4, a5, n5, c5, cs, rfl, hcs, hok, hsz, r1, r2, r3, r4, r5⟩ := hh.h
  obtain ⟨hn1, hm1, hx1⟩ := rep_facts r1
  obtain ⟨hn2, hm2, hx2⟩ := rep_facts r2
  obtain ⟨hn3, hm3, hx3⟩ := rep_facts r3
  obtain ⟨hn4, hm4, hx4⟩ := rep_facts r4
  obtain ⟨hn5, hm5, hx5⟩ := rep_facts r5
  simp only [List.length_map] at hn1 hn2 hn3 hn4 hn5
  have hcl : cs.length = H.Caches.length := by rw [← hcs]; simp
  refine calls_of_W Try.func35 rfl rfl ?_
  repeat (first | refine byW ?_ | (refine byV ?_; intro w hw))
  refine lBox ?_
  intro b1 w hw
  have hw : Wd Γ (.blk b1 (.cells #[.string H.Name, .slice a1 n1 c1, .slice a2 n2 c2, .slice a3 n3 c3, .slice a4 n4 c4, .slice a5 n5 c5] 30) :: S) w := hw
  have hw : Wd Γ (.own (.slice none 0 0) 3 1 (intRows []) :: .own (.slice none 0 0) 3 1 (intRows []) :: .own (.slice none 0 0) 9 1 (strRows []) :: .own (.slice none 0 0) 9 1 (strRows []) :: .own (.slice none 0 0) 9 1 (strRows []) :: .own (.slice none 0 0) 112 2 (pairRows []) :: .blk b1 (.cells #[.string H.Name, .slice a1 n1 c1, .slice a2 n2 c2, .slice a3 n3 c3, .slice a4 n4 c4, .slice a5 n5 c5] 30) :: S) w := Wd.addNil (Wd.addNil (Wd.addNil (Wd.addNil (Wd.addNil (Wd.addNil (hw))))))
  repeat (first | refine byW ?_ | (refine byV ?_; intro w hw))
  refine W_loop (fun μ ρ w => ∃ (k : Nat) (q3 : Option Addr) (m3 d3 : Nat), μ + k = n1 ∧ Has ρ [(1, .pointer (some ⟨b1, 0, none⟩)), (3, .slice q3 m3 d3), (4, .slice none 0 0), (5, .slice none 0 0), (6, .slice none 0 0), (7, .slice none 0 0), (8, .slice none 0 0), (20, .slice a1 n1 c1), (21, .int .i64 n1), (22, .int .i64 k)] ∧ Wd Γ (.own (.slice q3 m3 d3) 3 1 (intRows ((H.Cores.take k).map (fun c => c.ID))) :: .own (.slice none 0 0) 3 1 (intRows []) :: .own (.slice none 0 0) 9 1 (strRows []) :: .own (.slice none 0 0) 9 1 (strRows []) :: .own (.slice none 0 0) 9 1 (strRows []) :: .own (.slice none 0 0) 112 2 (pairRows []) :: .blk b1 (.cells #[.string H.Name, .slice a1 n1 c1, .slice a2 n2 c2, .slice a3 n3 c3, .slice a4 n4 c4, .slice a5 n5 c5] 30) :: S) w) n1 ⟨0, none, 0, 0, by omega, ⟨rfl, rfl, rfl, rfl, rfl, rfl, rfl, rfl, rfl, rfl, trivial⟩, hw⟩ ?_
  clear hw
  rintro μ ρ w ⟨k, q3, m3, d3, hk, hρ, hw⟩
  have hm3 := own_len (i := 0) hw rfl
  simp only [intRows, strRows, pairRows, List.length_map, List.length_take] at hm3
  rw [hρ.eq]
  repeat (first | refine byW ?_ | (refine byV ?_; intro w hw))
  refine W_cond rfl (fun h => ?_) (fun h => ?_)
  · have hkn : k < n1 := by simpa using h
    obtain ⟨x, hx⟩ := get_lt (l := H.Cores) (k := k) (by omega)
    repeat (first | refine byW ?_ | (refine byV ?_; intro w hw))
    refine lAlloc ?_
    intro b9 w hw
    refine lStore ?_
    intro w hw
    have hw : Wd Γ (.blk b9 (.cells (enc x).toArray 33) :: .own (.slice q3 m3 d3) 3 1 (intRows ((H.Cores.take k).map (fun c => c.ID))) :: .own (.slice none 0 0) 3 1 (intRows []) :: .own (.slice none 0 0) 9 1 (strRows []) :: .own (.slice none 0 0) 9 1 (strRows []) :: .own (.slice none 0 0) 9 1 (strRows []) :: .own (.slice none 0 0) 112 2 (pairRows []) :: .blk b1 (.cells #[.string H.Name, .slice a1 n1 c1, .slice a2 n2 c2, .slice a3 n3 c3, .slice a4 n4 c4, .slice a5 n5 c5] 30) :: S) w := hw
    repeat (first | refine byW ?_ | (refine byV ?_; intro w hw))
    refine lBuildSlice [[.int .i64 x.ID]] ?_
    intro ab w hw
    refine lApp (i := 2) (rows2 := [[.int .i64 x.ID]]) ?_ (Wd.own_rd (i := 0) hw rfl)
    intro v' w hw
    obtain ⟨q3', m3', d3', rfl, -, -, -⟩ := hw.own_shape (i := 2) rfl
    have hw := hw.drop
    have hw : Wd Γ (.blk b9 (.cells (enc x).toArray 33) :: .own (.slice q3' m3' d3') 3 1 (intRows ((H.Cores.take (k + 1)).map (fun c => c.ID))) :: .own (.slice none 0 0) 3 1 (intRows []) :: .own (.slice none 0 0) 9 1 (strRows []) :: .own (.slice none 0 0) 9 1 (strRows []) :: .own (.slice none 0 0) 9 1 (strRows []) :: .own (.slice none 0 0) 112 2 (pairRows []) :: .blk b1 (.cells #[.string H.Name, .slice a1 n1 c1, .slice a2 n2 c2, .slice a3 n3 c3, .slice a4 n4 c4, .slice a5 n5 c5] 30) :: S) w := by
      rw [← rows_snocI hx]; exact hw
    repeat (first | refine byW ?_ | (refine byV ?_; intro w hw))
    exact ⟨μ - 1, by omega, k + 1, _, _, _, by omega, ⟨rfl, rfl, rfl, rfl, rfl, rfl, rfl, rfl, rfl, rfl, trivial⟩, hw.drop⟩
  have hkn : ¬ k < n1 := by simpa using h
  rw [List.take_of_length_le (l := H.Cores) (by omega)] at hw
  clear h hkn hρ hk hm3
  repeat (first | refine byW ?_ | (refine byV ?_; intro w hw))
  refine W_loop (fun μ ρ w => ∃ (k : Nat) (q5 : Option Addr) (m5 d5 : Nat), μ + k = n2 ∧ Has ρ [(1, .pointer (some ⟨b1, 0, none⟩)), (3, .slice q3 m3 d3), (4, .slice none 0 0), (5, .slice q5 m5 d5), (6, .slice none 0 0), (7, .slice none 0 0), (8, .slice none 0 0), (33, .slice a2 n2 c2), (34, .int .i64 n2), (35, .int .i64 k)] ∧ (∀ i x, i < k → cs[i]? = some x → (fun c : CacheH => decide c.Cores.Nodup) x = true) ∧ Wd Γ (.own (.slice q3 m3 d3) 3 1 (intRows (H.Cores.map (fun c => c.ID))) :: .own (.slice none 0 0) 3 1 (intRows []) :: .own (.slice q5 m5 d5) 9 1 (strRows ((cs.take k).map (fun c => c.Name))) :: .own (.slice none 0 0) 9 1 (strRows []) :: .own (.slice none 0 0) 9 1 (strRows []) :: .own (.slice none 0 0) 112 2 (pairRows []) :: .blk b1 (.cells #[.string H.Name, .slice a1 n1 c1, .slice a2 n2 c2, .slice a3 n3 c3, .slice a4 n4 c4, .slice a5 n5 c5] 30) :: S) w) n2 ⟨0, none, 0, 0, by omega, ⟨rfl, rfl, rfl, rfl, rfl, rfl, rfl, rfl, rfl, rfl, trivial⟩, fun i x h => by omega, hw⟩ ?_
  clear hw
  rintro μ ρ w ⟨k, q5, m5, d5, hk, hρ, hall, hw⟩
  have hm5 := own_len (i := 2) hw rfl
  simp only [intRows, strRows, pairRows, List.length_map, List.length_take] at hm5
  rw [hρ.eq]
  repeat (first | refine byW ?_ | (refine byV ?_; intro w hw))
  refine W_cond rfl (fun h => ?_) (fun h => ?_)
  · have hkn : k < n2 := by simpa using h
    obtain ⟨x, hx⟩ := get_lt (l := cs) (k := k) (by omega)
    repeat (first | refine byW ?_ | (refine byV ?_; intro w hw))
    refine lAlloc ?_
    intro b9 w hw
    refine lStore ?_
    intro w hw
    have hw : Wd Γ (.blk b9 (.cells (cC x).toArray 69) :: .own (.slice q3 m3 d3) 3 1 (intRows (H.Cores.map (fun c => c.ID))) :: .own (.slice none 0 0) 3 1 (intRows []) :: .own (.slice q5 m5 d5) 9 1 (strRows ((cs.take k).map (fun c => c.Name))) :: .own (.slice none 0 0) 9 1 (strRows []) :: .own (.slice none 0 0) 9 1 (strRows []) :: .own (.slice none 0 0) 112 2 (pairRows []) :: .blk b1 (.cells #[.string H.Name, .slice a1 n1 c1, .slice a2 n2 c2, .slice a3 n3 c3, .slice a4 n4 c4, .slice a5 n5 c5] 30) :: S) w := hw
    repeat (first | refine byW ?_ | (refine byV ?_; intro w hw))
    refine lBuildSlice [[.string x.Name]] ?_
    intro ab w hw
    refine lApp (i := 4) (rows2 := [[.string x.Name]]) ?_ (Wd.own_rd (i := 0) hw rfl)
    intro v' w hw
    obtain ⟨q5', m5', d5', rfl, -, -, -⟩ := hw.own_shape (i := 4) rfl
    have hw := hw.drop
    have hw : Wd Γ (.blk b9 (.cells (cC x).toArray 69) :: .own (.slice q3 m3 d3) 3 1 (intRows (H.Cores.map (fun c => c.ID))) :: .own (.slice none 0 0) 3 1 (intRows []) :: .own (.slice q5' m5' d5') 9 1 (strRows ((cs.take (k + 1)).map (fun c => c.Name))) :: .own (.slice none 0 0) 9 1 (strRows []) :: .own (.slice none 0 0) 9 1 (strRows []) :: .own (.slice none 0 0) 112 2 (pairRows []) :: .blk b1 (.cells #[.string H.Name, .slice a1 n1 c1, .slice a2 n2 c2, .slice a3 n3 c3, .slice a4 n4 c4, .slice a5 n5 c5] 30) :: S) w := by
      rw [← rows_snocS hx]; exact hw
    repeat (first | refine byW ?_ | (refine byV ?_; intro w hw))
    refine lCall ?_
    refine (distinct_int_any (RepS.rdS (hok x (List.mem_of_getElem? hx))) hw).mono ?_
    rintro r w ⟨rfl, hw⟩
    refine ⟨_, rfl, ?_⟩
    repeat (first | refine byW ?_ | (refine byV ?_; intro w hw))
    refine W_cond rfl (fun h2 => ?_) (fun h2 => ?_)
    · have hf : (fun c : CacheH => decide c.Cores.Nodup) x = false := by simpa using h2
      repeat (first | refine byW ?_ | (refine byV ?_; intro w hw))
      exact ⟨_, rfl, ret_b rfl (by rw [uniqueB, ← hcs, all_cuniq]; exact (and_no1 (all_no hx hf)).symm), hw.ds [0, 0, 0, 0, 0, 0, 0, 0]⟩
    · have ht : (fun c : CacheH => decide c.Cores.Nodup) x = true := by simpa using h2
      repeat (first | refine byW ?_ | (refine byV ?_; intro w hw))
      exact ⟨μ - 1, by omega, k + 1, _, _, _, by omega, ⟨rfl, rfl, rfl, rfl, rfl, rfl, rfl, rfl, rfl, rfl, trivial⟩, all_step hall hx ht, hw.drop⟩
  have hkn : ¬ k < n2 := by simpa using h
  rw [List.take_of_length_le (l := cs) (by omega)] at hw
  have hA := all_end hall (by omega)
  clear h hkn hρ hk hall hm5
  repeat (first | refine byW ?_ | (refine byV ?_; intro w hw))
  refine W_loop (fun μ ρ w => ∃ (k : Nat) (q6 : Option Addr) (m6 d6 : Nat), μ + k = n4 ∧ Has ρ [(1, .pointer (some ⟨b1, 0, none⟩)), (3, .slice q3 m3 d3), (4, .slice none 0 0), (5, .slice q5 m5 d5), (6, .slice q6 m6 d6), (7, .slice none 0 0), (8, .slice none 0 0), (50, .slice a4 n4 c4), (51, .int .i64 n4), (52, .int .i64 k)] ∧ Wd Γ (.own (.slice q3 m3 d3) 3 1 (intRows (H.Cores.map (fun c => c.ID))) :: .own (.slice none 0 0) 3 1 (intRows []) :: .own (.slice q5 m5 d5) 9 1 (strRows (cs.map (fun c => c.Name))) :: .own (.slice q6 m6 d6) 9 1 (strRows ((H.Mems.take k).map (fun c => c.Name))) :: .own (.slice none 0 0) 9 1 (strRows []) :: .own (.slice none 0 0) 112 2 (pairRows []) :: .blk b1 (.cells #[.string H.Name, .slice a1 n1 c1, .slice a2 n2 c2, .slice a3 n3 c3, .slice a4 n4 c4, .slice a5 n5 c5] 30) :: S) w) n4 ⟨0, none, 0, 0, by omega, ⟨rfl, rfl, rfl, rfl, rfl, rfl, rfl, rfl, rfl, rfl, trivial⟩, hw⟩ ?_
  clear hw
  rintro μ ρ w ⟨k, q6, m6, d6, hk, hρ, hw⟩
  have hm6 := own_len (i := 3) hw rfl
  simp only [intRows, strRows, pairRows, List.length_map, List.length_take] at hm6
  rw [hρ.eq]
  repeat (first | refine byW ?_ | (refine byV ?_; intro w hw))
  refine W_cond rfl (fun h => ?_) (fun h => ?_)
  · have hkn : k < n4 := by simpa using h
    obtain ⟨x, hx⟩ := get_lt (l := H.Mems) (k := k) (by omega)
    repeat (first | refine byW ?_ | (refine byV ?_; intro w hw))
    refine lAlloc ?_
    intro b9 w hw
    refine lStore ?_
    intro w hw
    have hw : Wd Γ (.blk b9 (.cells (enc x).toArray 63) :: .own (.slice q3 m3 d3) 3 1 (intRows (H.Cores.map (fun c => c.ID))) :: .own (.slice none 0 0) 3 1 (intRows []) :: .own (.slice q5 m5 d5) 9 1 (strRows (cs.map (fun c => c.Name))) :: .own (.slice q6 m6 d6) 9 1 (strRows ((H.Mems.take k).map (fun c => c.Name))) :: .own (.slice none 0 0) 9 1 (strRows []) :: .own (.slice none 0 0) 112 2 (pairRows []) :: .blk b1 (.cells #[.string H.Name, .slice a1 n1 c1, .slice a2 n2 c2, .slice a3 n3 c3, .slice a4 n4 c4, .slice a5 n5 c5] 30) :: S) w := hw
    repeat (first | refine byW ?_ | (refine byV ?_; intro w hw))
    refine lBuildSlice [[.string x.Name]] ?_
    intro ab w hw
    refine lApp (i := 5) (rows2 := [[.string x.Name]]) ?_ (Wd.own_rd (i := 0) hw rfl)
    intro v' w hw
    obtain ⟨q6', m6', d6', rfl, -, -, -⟩ := hw.own_shape (i := 5) rfl
    have hw := hw.drop
    have hw : Wd Γ (.blk b9 (.cells (enc x).toArray 63) :: .own (.slice q3 m3 d3) 3 1 (intRows (H.Cores.map (fun c => c.ID))) :: .own (.slice none 0 0) 3 1 (intRows []) :: .own (.slice q5 m5 d5) 9 1 (strRows (cs.map (fun c => c.Name))) :: .own (.slice q6' m6' d6') 9 1 (strRows ((H.Mems.take (k + 1)).map (fun c => c.Name))) :: .own (.slice none 0 0) 9 1 (strRows []) :: .own (.slice none 0 0) 112 2 (pairRows []) :: .blk b1 (.cells #[.string H.Name, .slice a1 n1 c1, .slice a2 n2 c2, .slice a3 n3 c3, .slice a4 n4 c4, .slice a5 n5 c5] 30) :: S) w := by
      rw [← rows_snocS hx]; exact hw
    repeat (first | refine byW ?_ | (refine byV ?_; intro w hw))
    exact ⟨μ - 1, by omega, k + 1, _, _, _, by omega, ⟨rfl, rfl, rfl, rfl, rfl, rfl, rfl, rfl, rfl, rfl, trivial⟩, hw.drop⟩
  have hkn : ¬ k < n4 := by simpa using h
  rw [List.take_of_length_le (l := H.Mems) (by omega)] at hw
  clear h hkn hρ hk hm6
  repeat (first | refine byW ?_ | (refine byV ?_; intro w hw))
  refine W_loop (fun μ ρ w => ∃ (k : Nat) (q7 : Option Addr) (m7 d7 : Nat) (q4 : Option Addr) (m4 d4 : Nat), μ + k = n5 ∧ Has ρ [(1, .pointer (some ⟨b1, 0, none⟩)), (3, .slice q3 m3 d3), (4, .slice q4 m4 d4), (5, .slice q5 m5 d5), (6, .slice q6 m6 d6), (7, .slice q7 m7 d7), (8, .slice none 0 0), (63, .slice a5 n5 c5), (64, .int .i64 n5), (65, .int .i64 k)] ∧ Wd Γ (.own (.slice q3 m3 d3) 3 1 (intRows (H.Cores.map (fun c => c.ID))) :: .own (.slice q4 m4 d4) 3 1 (intRows ((H.Devs.take k).map (fun c => c.IRQ))) :: .own (.slice q5 m5 d5) 9 1 (strRows (cs.map (fun c => c.Name))) :: .own (.slice q6 m6 d6) 9 1 (strRows (H.Mems.map (fun c => c.Name))) :: .own (.slice q7 m7 d7) 9 1 (strRows ((H.Devs.take k).map (fun c => c.Name))) :: .own (.slice none 0 0) 112 2 (pairRows []) :: .blk b1 (.cells #[.string H.Name, .slice a1 n1 c1, .slice a2 n2 c2, .slice a3 n3 c3, .slice a4 n4 c4, .slice a5 n5 c5] 30) :: S) w) n5 ⟨0, none, 0, 0, none, 0, 0, by omega, ⟨rfl, rfl, rfl, rfl, rfl, rfl, rfl, rfl, rfl, rfl, trivial⟩, hw⟩ ?_
  clear hw
  rintro μ ρ w ⟨k, q7, m7, d7, q4, m4, d4, hk, hρ, hw⟩
  have hm7 := own_len (i := 4) hw rfl
  simp only [intRows, strRows, pairRows, List.length_map, List.length_take] at hm7
  have hm4 := own_len (i := 1) hw rfl
  simp only [intRows, strRows, pairRows, List.length_map, List.length_take] at hm4
  rw [hρ.eq]
  repeat (first | refine byW ?_ | (refine byV ?_; intro w hw))
  refine W_cond rfl (fun h => ?_) (fun h => ?_)
  · have hkn : k < n5 := by simpa using h
    obtain ⟨x, hx⟩ := get_lt (l := H.Devs) (k := k) (by omega)
    repeat (first | refine byW ?_ | (refine byV ?_; intro w hw))
    refine lAlloc ?_
    intro b9 w hw
    refine lStore ?_
    intro w hw
    have hw : Wd Γ (.blk b9 (.cells (enc x).toArray 65) :: .own (.slice q3 m3 d3) 3 1 (intRows (H.Cores.map (fun c => c.ID))) :: .own (.slice q4 m4 d4) 3 1 (intRows ((H.Devs.take k).map (fun c => c.IRQ))) :: .own (.slice q5 m5 d5) 9 1 (strRows (cs.map (fun c => c.Name))) :: .own (.slice q6 m6 d6) 9 1 (strRows (H.Mems.map (fun c => c.Name))) :: .own (.slice q7 m7 d7) 9 1 (strRows ((H.Devs.take k).map (fun c => c.Name))) :: .own (.slice none 0 0) 112 2 (pairRows []) :: .blk b1 (.cells #[.string H.Name, .slice a1 n1 c1, .slice a2 n2 c2, .slice a3 n3 c3, .slice a4 n4 c4, .slice a5 n5 c5] 30) :: S) w := hw
    repeat (first | refine byW ?_ | (refine byV ?_; intro w hw))
    refine lBuildSlice [[.string x.Name]] ?_
    intro ab w hw
    refine lApp (i := 6) (rows2 := [[.string x.Name]]) ?_ (Wd.own_rd (i := 0) hw rfl)
    intro v' w hw
    obtain ⟨q7', m7', d7', rfl, -, -, -⟩ := hw.own_shape (i := 6) rfl
    have hw := hw.drop
    have hw : Wd Γ (.blk b9 (.cells (enc x).toArray 65) :: .own (.slice q3 m3 d3) 3 1 (intRows (H.Cores.map (fun c => c.ID))) :: .own (.slice q4 m4 d4) 3 1 (intRows ((H.Devs.take k).map (fun c => c.IRQ))) :: .own (.slice q5 m5 d5) 9 1 (strRows (cs.map (fun c => c.Name))) :: .own (.slice q6 m6 d6) 9 1 (strRows (H.Mems.map (fun c => c.Name))) :: .own (.slice q7' m7' d7') 9 1 (strRows ((H.Devs.take (k + 1)).map (fun c => c.Name))) :: .own (.slice none 0 0) 112 2 (pairRows []) :: .blk b1 (.cells #[.string H.Name, .slice a1 n1 c1, .slice a2 n2 c2, .slice a3 n3 c3, .slice a4 n4 c4, .slice a5 n5 c5] 30) :: S) w := by
      rw [← rows_snocS hx]; exact hw
    repeat (first | refine byW ?_ | (refine byV ?_; intro w hw))
    refine lBuildSlice [[.int .i64 x.IRQ]] ?_
    intro ab w hw
    refine lApp (i := 3) (rows2 := [[.int .i64 x.IRQ]]) ?_ (Wd.own_rd (i := 0) hw rfl)
    intro v' w hw
    obtain ⟨q4', m4', d4', rfl, -, -, -⟩ := hw.own_shape (i := 3) rfl
    have hw := hw.drop
    have hw : Wd Γ (.blk b9 (.cells (enc x).toArray 65) :: .own (.slice q3 m3 d3) 3 1 (intRows (H.Cores.map (fun c => c.ID))) :: .own (.slice q4' m4' d4') 3 1 (intRows ((H.Devs.take (k + 1)).map (fun c => c.IRQ))) :: .own (.slice q5 m5 d5) 9 1 (strRows (cs.map (fun c => c.Name))) :: .own (.slice q6 m6 d6) 9 1 (strRows (H.Mems.map (fun c => c.Name))) :: .own (.slice q7' m7' d7') 9 1 (strRows ((H.Devs.take (k + 1)).map (fun c => c.Name))) :: .own (.slice none 0 0) 112 2 (pairRows []) :: .blk b1 (.cells #[.string H.Name, .slice a1 n1 c1, .slice a2 n2 c2, .slice a3 n3 c3, .slice a4 n4 c4, .slice a5 n5 c5] 30) :: S) w := by
      rw [← rows_snocI hx]; exact hw
    repeat (first | refine byW ?_ | (refine byV ?_; intro w hw))
    exact ⟨μ - 1, by omega, k + 1, _, _, _, _, _, _, by omega, ⟨rfl, rfl, rfl, rfl, rfl, rfl, rfl, rfl, rfl, rfl, trivial⟩, hw.drop⟩
  have hkn : ¬ k < n5 := by simpa using h
  rw [List.take_of_length_le (l := H.Devs) (by omega)] at hw
  clear h hkn hρ hk hm7 hm4
  repeat (first | refine byW ?_ | (refine byV ?_; intro w hw))
  refine W_loop (fun μ ρ w => ∃ (k : Nat) (q8 : Option Addr) (m8 d8 : Nat), μ + k = n3 ∧ Has ρ [(1, .pointer (some ⟨b1, 0, none⟩)), (3, .slice q3 m3 d3), (4, .slice q4 m4 d4), (5, .slice q5 m5 d5), (6, .slice q6 m6 d6), (7, .slice q7 m7 d7), (8, .slice q8 m8 d8), (81, .slice a3 n3 c3), (82, .int .i64 n3), (83, .int .i64 k)] ∧ Wd Γ (.own (.slice q3 m3 d3) 3 1 (intRows (H.Cores.map (fun c => c.ID))) :: .own (.slice q4 m4 d4) 3 1 (intRows (H.Devs.map (fun c => c.IRQ))) :: .own (.slice q5 m5 d5) 9 1 (strRows (cs.map (fun c => c.Name))) :: .own (.slice q6 m6 d6) 9 1 (strRows (H.Mems.map (fun c => c.Name))) :: .own (.slice q7 m7 d7) 9 1 (strRows (H.Devs.map (fun c => c.Name))) :: .own (.slice q8 m8 d8) 112 2 (pairRows ((H.Links.take k).map linkKey)) :: .blk b1 (.cells #[.string H.Name, .slice a1 n1 c1, .slice a2 n2 c2, .slice a3 n3 c3, .slice a4 n4 c4, .slice a5 n5 c5] 30) :: S) w) n3 ⟨0, none, 0, 0, by omega, ⟨rfl, rfl, rfl, rfl, rfl, rfl, rfl, rfl, rfl, rfl, trivial⟩, hw⟩ ?_
  clear hw
  rintro μ ρ w ⟨k, q8, m8, d8, hk, hρ, hw⟩
  have hm8 := own_len (i := 5) hw rfl
  simp only [intRows, strRows, pairRows, List.length_map, List.length_take] at hm8
  rw [hρ.eq]
  repeat (first | refine byW ?_ | (refine byV ?_; intro w hw))
  refine W_cond rfl (fun h => ?_) (fun h => ?_)
  · have hkn : k < n3 := by simpa using h
    obtain ⟨x, hx⟩ := get_lt (l := H.Links) (k := k) (by omega)
    repeat (first | refine byW ?_ | (refine byV ?_; intro w hw))
    refine lAlloc ?_
    intro b9 w hw
    refine lStore ?_
    intro w hw
    have hw : Wd Γ (.blk b9 (.cells (enc x).toArray 41) :: .own (.slice q3 m3 d3) 3 1 (intRows (H.Cores.map (fun c => c.ID))) :: .own (.slice q4 m4 d4) 3 1 (intRows (H.Devs.map (fun c => c.IRQ))) :: .own (.slice q5 m5 d5) 9 1 (strRows (cs.map (fun c => c.Name))) :: .own (.slice q6 m6 d6) 9 1 (strRows (H.Mems.map (fun c => c.Name))) :: .own (.slice q7 m7 d7) 9 1 (strRows (H.Devs.map (fun c => c.Name))) :: .own (.slice q8 m8 d8) 112 2 (pairRows ((H.Links.take k).map linkKey)) :: .blk b1 (.cells #[.string H.Name, .slice a1 n1 c1, .slice a2 n2 c2, .slice a3 n3 c3, .slice a4 n4 c4, .slice a5 n5 c5] 30) :: S) w := hw
    repeat (first | refine byW ?_ | (refine byV ?_; intro w hw))
    refine lBuildSlice [[.int .i64 (linkKey x).1, .int .i64 (linkKey x).2]] ?_
    intro ab w hw
    refine lApp (i := 7) (rows2 := [[.int .i64 (linkKey x).1, .int .i64 (linkKey x).2]]) ?_ (Wd.own_rd (i := 0) hw rfl)
    intro v' w hw
    obtain ⟨q8', m8', d8', rfl, -, -, -⟩ := hw.own_shape (i := 7) rfl
    have hw := hw.drop
    have hw : Wd Γ (.blk b9 (.cells (enc x).toArray 41) :: .own (.slice q3 m3 d3) 3 1 (intRows (H.Cores.map (fun c => c.ID))) :: .own (.slice q4 m4 d4) 3 1 (intRows (H.Devs.map (fun c => c.IRQ))) :: .own (.slice q5 m5 d5) 9 1 (strRows (cs.map (fun c => c.Name))) :: .own (.slice q6 m6 d6) 9 1 (strRows (H.Mems.map (fun c => c.Name))) :: .own (.slice q7 m7 d7) 9 1 (strRows (H.Devs.map (fun c => c.Name))) :: .own (.slice q8' m8' d8') 112 2 (pairRows ((H.Links.take (k + 1)).map linkKey)) :: .blk b1 (.cells #[.string H.Name, .slice a1 n1 c1, .slice a2 n2 c2, .slice a3 n3 c3, .slice a4 n4 c4, .slice a5 n5 c5] 30) :: S) w := by
      rw [← rows_snocP hx]; exact hw
    repeat (first | refine byW ?_ | (refine byV ?_; intro w hw))
    exact ⟨μ - 1, by omega, k + 1, _, _, _, by omega, ⟨rfl, rfl, rfl, rfl, rfl, rfl, rfl, rfl, rfl, rfl, trivial⟩, hw.drop⟩
  have hkn : ¬ k < n3 := by simpa using h
  rw [List.take_of_length_le (l := H.Links) (by omega)] at hw
  clear h hkn hρ hk hm8
  repeat (first | refine byW ?_ | (refine byV ?_; intro w hw))
  refine lCall ?_
  refine (distinct_int_any (RdS.own (i := 0) hw rfl) hw).mono ?_
  rintro r w ⟨rfl, hw⟩
  refine ⟨_, rfl, ?_⟩
  repeat (first | refine byW ?_ | (refine byV ?_; intro w hw))
  refine lCallGd (fun _ => distinct_string_any (RdS.own (i := 2) hw rfl) hw) ?_
  clear hw
  intro w hw
  repeat (first | refine byW ?_ | (refine byV ?_; intro w hw))
  refine lCallGd (fun _ => distinct_string_any (RdS.own (i := 3) hw rfl) hw) ?_
  clear hw
  intro w hw
  repeat (first | refine byW ?_ | (refine byV ?_; intro w hw))
  refine lCallGd (fun _ => distinct_string_any (RdS.own (i := 4) hw rfl) hw) ?_
  clear hw
  intro w hw
  repeat (first | refine byW ?_ | (refine byV ?_; intro w hw))
  refine lCallGd (fun _ => distinct_int_any (RdS.own (i := 1) hw rfl) hw) ?_
  clear hw
  intro w hw
  repeat (first | refine byW ?_ | (refine byV ?_; intro w hw))
  refine lCallGd (fun _ => distinct_pairint_any (RdS.own (i := 5) hw rfl) hw) ?_
  clear hw
  intro w hw
  repeat (first | refine byW ?_ | (refine byV ?_; intro w hw))
  refine ⟨_, rfl, ret_b rfl ?_, hw.ds [0, 0, 0, 0, 0, 0, 0]⟩
  have e1 : (cs.map fun c => c.Name) = H.Caches.map fun c => c.Name := by rw [← hcs, List.map_map]; rfl
  unfold uniqueB
  rw [show (H.Caches.all fun c => decide c.Cores.Nodup) = true from by rw [← hcs, all_cuniq]; exact hA, ← e1]
  rfl
end Go.Proofs.Yteiijmclobggjaa
end
/- Validate's checks: the caches' cores exist and the caches are nested. -/
section
open Go Mk
namespace Go.Proofs.Yteiijmclobggjaa
set_option maxHeartbeats 8000000
attribute [local irreducible] Calls

section
variable {Γ : Gho} {S : List Res} {w : World} {a : Option Addr} {n c : Nat} {xs : List CoreT}
theorem IndexFunc_any (p : CoreT → Bool) (f : Nat) (fst cap : List Value) [FnOk Try.prog f] (hr : RdS Γ S (.slice a n c) 4 (xs.map enc))
    (hf : ∀ x w, Wd Γ S w → Calls Try.prog f (fst ++ [Value.agg (enc x).toArray] ++ cap).toArray w fun e w' => e = .returned (.bool (p x)) ∧ Wd Γ S w') (hw : Wd Γ S w) :
    Calls Try.prog 40 #[.slice a n c, .func (.func f) fst.toArray cap.toArray] w fun e w' => ∃ i : Int, e = .returned (.int .i64 i) ∧ decide (0 ≤ i) = xs.any p ∧ Wd Γ S w' := by
  obtain ⟨_, _, _, he, hn, hnc, hc⟩ := hr.shape
  cases he
  have hnr := hn
  simp only [List.length_map] at hn
  refine calls_of_W Try.func40 rfl rfl ?_
  repeat (first | refine byW ?_ | (refine byV ?_; intro w hw))
  refine W_loop (fun μ ρ w => ∃ (k : Nat), μ + k = n ∧ Has ρ [(0, .slice a n c), (1, .func (.func f) fst.toArray cap.toArray), (7, .int .i64 n), (8, .int .i64 k)] ∧ (∀ i x, i < k → xs[i]? = some x → (!p x) = true) ∧ Wd Γ S w) n ⟨0, by omega, ⟨rfl, rfl, rfl, rfl, trivial⟩, fun i x h => by omega, hw⟩ ?_
  clear hw
  rintro μ ρ w ⟨k, hk, hρ, hall, hw⟩
  rw [hρ.eq]
  repeat (first | refine byW ?_ | (refine byV ?_; intro w hw))
  refine W_cond rfl (fun h => ?_) (fun h => ?_)
  · have hkn : k < n := by simpa using h
    obtain ⟨x, hx⟩ := get_lt (l := xs) (k := k) (by omega)
    repeat (first | refine byW ?_ | (refine byV ?_; intro w hw))
    refine lCallv (fst := fst) (cap := cap) (vs := [.agg (enc x).toArray]) ?_
    refine (hf x w hw).mono ?_
    rintro r w ⟨rfl, hw⟩
    refine ⟨_, rfl, ?_⟩
    repeat (first | refine byW ?_ | (refine byV ?_; intro w hw))
    refine W_cond rfl (fun h2 => ?_) (fun h2 => ?_)
    · repeat (first | refine byW ?_ | (refine byV ?_; intro w hw))
      exact ⟨_, rfl, k, rfl, by rw [decide_eq_true (show (0 : Int) ≤ k by omega)]; exact (List.any_eq_true.2 ⟨x, List.mem_of_getElem? hx, h2⟩).symm, hw⟩
    · repeat (first | refine byW ?_ | (refine byV ?_; intro w hw))
      exact ⟨μ - 1, by omega, k + 1, by omega, ⟨rfl, rfl, rfl, rfl, trivial⟩, all_step hall hx (by rw [h2]; rfl), hw⟩
  · have hkn : ¬ k < n := by simpa using h
    repeat (first | refine byW ?_ | (refine byV ?_; intro w hw))
    refine ⟨_, rfl, -1, rfl, ?_, hw⟩
    have := all_end hall (by omega)
    rw [decide_eq_false (show ¬ (0 : Int) ≤ -1 by decide)]
    rw [List.all_eq_true] at this
    exact (List.any_eq_false.2 fun x hx => by simpa using this x hx).symm
theorem ContainsFunc_any (p : CoreT → Bool) (f : Nat) (fst cap : List Value) [FnOk Try.prog f] (hr : RdS Γ S (.slice a n c) 4 (xs.map enc))
    (hf : ∀ x w, Wd Γ S w → Calls Try.prog f (fst ++ [Value.agg (enc x).toArray] ++ cap).toArray w fun e w' => e = .returned (.bool (p x)) ∧ Wd Γ S w') (hw : Wd Γ S w) :
    Calls Try.prog 55 #[.slice a n c, .func (.func f) fst.toArray cap.toArray] w fun e w' => e = .returned (.bool (xs.any p)) ∧ Wd Γ S w' := by
  refine calls_of_W Try.func55 rfl rfl ?_
  repeat (first | refine byW ?_ | (refine byV ?_; intro w hw))
  refine lCall ?_
  refine (IndexFunc_any p f fst cap hr hf hw).mono ?_
  rintro r w ⟨i, rfl, hi, hw⟩
  refine ⟨_, rfl, ?_⟩
  repeat (first | refine byW ?_ | (refine byV ?_; intro w hw))
  exact ⟨_, rfl, ret_b rfl hi, hw⟩
theorem known1_any {b6 i : Nat} {id : Int} (x : CoreT) (hi : S[i]? = some (.blk b6 (.cells #[.int .i64 id] 3))) (hw : Wd Γ S w) :
    Calls Try.prog 56 #[.agg (enc x).toArray, .pointer (some ⟨b6, 0, none⟩)] w fun e w' => e = .returned (.bool (decide (x.ID = id))) ∧ Wd Γ S w' := by
  refine calls_of_W Try.func56 rfl rfl ?_
  repeat (first | refine byW ?_ | (refine byV ?_; intro w hw))
  refine lBox ?_
  intro b2 w hw
  have hw : Wd Γ (.blk b2 (.cells (enc x).toArray 33) :: S) w := hw
  repeat (first | refine byW ?_ | (refine byV ?_; intro w hw))
  have hi2 : (Res.blk b2 (.cells (enc x).toArray 33) :: S)[i + 1]? = some (.blk b6 (.cells #[.int .i64 id] 3)) := by simpa using hi
  refine lY (v := .int .i64 id) ?_ (hy := y_l1b (i := i + 1) hw rfl hi2 rfl)
  repeat (first | refine byW ?_ | (refine byV ?_; intro w hw))
  exact ⟨_, rfl, rfl, hw.drop⟩
end
def knownB (H : HwT) : Bool := H.Caches.all fun c => c.Cores.all fun id => H.Cores.any fun x => decide (x.ID = id)
def knownH (H : HwT) (c : CacheH) : Bool := c.Cores.all fun id => H.Cores.any fun x => decide (x.ID = id)
theorem all_known (H : HwT) (cs : List CacheH) : ((cs.map CacheH.T).all fun c => c.Cores.all fun id => H.Cores.any fun x => decide (x.ID = id)) = cs.all (knownH H) := by rw [List.all_map]; rfl
abbrev hwC (H : HwT) (a1 : Option Addr) (n1 c1 : Nat) (a2 : Option Addr) (n2 c2 : Nat) (a3 : Option Addr) (n3 c3 : Nat) (a4 : Option Addr) (n4 c4 : Nat) (a5 : Option Addr) (n5 c5 : Nat) : Obj := .cells #[.string H.Name, .slice a1 n1 c1, .slice a2 n2 c2, .slice a3 n3 c3, .slice a4 n4 c4, .slice a5 n5 c5] 30
instance pg_knownOK {Γ : Gho} {u : Value} {H : HwT} [hh : HwR Γ u H] : PG Try.prog Γ 36 [u] (.bool (knownB H)) := ⟨fun S w hw => by
  obtain ⟨a1, n1, c1, a2, n2, c2, a3, n3, c3, a4, n4, c4, a5, n5, c5, cs, rfl, hcs, hok, hsz, r1, r2, r3, r4, r5⟩ := hh.h
  obtain ⟨hn1, hm1, hx1⟩ := rep_facts r1
  obtain ⟨hn2, hm2, hx2⟩ := rep_facts r2
  simp only [List.length_map] at hn1 hn2
  refine calls_of_W Try.func36 rfl rfl ?_
  repeat (first | refine byW ?_ | (refine byV ?_; intro w hw))
  refine lBox ?_
  intro b1 w hw
  have hw : Wd Γ (.blk b1 (hwC H a1 n1 c1 a2 n2 c2 a3 n3 c3 a4 n4 c4 a5 n5 c5) :: S) w := hw
  repeat (first | refine byW ?_ | (refine byV ?_; intro w hw))
  refine W_loop (fun μ ρ w => ∃ (k : Nat), μ + k = n2 ∧ Has ρ [(1, .pointer (some ⟨b1, 0, none⟩)), (8, .slice a2 n2 c2), (9, .int .i64 n2), (10, .int .i64 k)] ∧ (∀ i x, i < k → cs[i]? = some x → knownH H x = true) ∧ Wd Γ (.blk b1 (hwC H a1 n1 c1 a2 n2 c2 a3 n3 c3 a4 n4 c4 a5 n5 c5) :: S) w) n2 ⟨0, by omega, ⟨rfl, rfl, rfl, rfl, trivial⟩, fun i x h => by omega, hw⟩ ?_
  clear hw
  rintro μ ρ w ⟨k, hk, hρ, hall, hw⟩
  rw [hρ.eq]
  repeat (first | refine byW ?_ | (refine byV ?_; intro w hw))
  refine W_cond rfl (fun h => ?_) (fun h => ?_)
  · have hkn : k < n2 := by simpa using h
    obtain ⟨x, hx⟩ := get_lt (l := cs) (k := k) (by omega)
    have hcok := hok x (List.mem_of_getElem? hx)
    obtain ⟨hxn, hxm, hxc⟩ := hcok.facts
    unfold COk at hcok
    repeat (first | refine byW ?_ | (refine byV ?_; intro w hw))
    refine lAlloc ?_
    intro b9 w hw
    refine lStore ?_
    intro w hw
    have hw : Wd Γ (.blk b9 (.cells (cC x).toArray 69) :: .blk b1 (hwC H a1 n1 c1 a2 n2 c2 a3 n3 c3 a4 n4 c4 a5 n5 c5) :: S) w := hw
    repeat (first | refine byW ?_ | (refine byV ?_; intro w hw))
    refine W_loop (fun μ2 ρ w => ∃ (j : Nat), μ2 + j = x.N ∧ Has ρ [(1, .pointer (some ⟨b1, 0, none⟩)), (8, .slice a2 n2 c2), (9, .int .i64 n2), (10, .int .i64 k), (15, .slice x.A x.N x.C), (16, .int .i64 x.N), (17, .int .i64 j)] ∧ (∀ i id, i < j → x.Cores[i]? = some id → (H.Cores.any fun y => decide (y.ID = id)) = true) ∧ Wd Γ (.blk b9 (.cells (cC x).toArray 69) :: .blk b1 (hwC H a1 n1 c1 a2 n2 c2 a3 n3 c3 a4 n4 c4 a5 n5 c5) :: S) w) x.N ⟨0, by omega, ⟨rfl, rfl, rfl, rfl, rfl, rfl, rfl, trivial⟩, fun i x h => by omega, hw⟩ ?_
    clear hw
    rintro μ2 ρ w ⟨j, hj, hρ, hall2, hw⟩
    rw [hρ.eq]
    repeat (first | refine byW ?_ | (refine byV ?_; intro w hw))
    refine W_cond rfl (fun h2 => ?_) (fun h2 => ?_)
    · have hjn : j < x.N := by simpa using h2
      obtain ⟨id, hid⟩ := get_lt (l := x.Cores) (k := j) (by omega)
      repeat (first | refine byW ?_ | (refine byV ?_; intro w hw))
      refine lAlloc ?_
      intro b6 w hw
      refine lStore ?_
      intro w hw
      have hw : Wd Γ (.blk b6 (.cells #[.int .i64 id] 3) :: .blk b9 (.cells (cC x).toArray 69) :: .blk b1 (hwC H a1 n1 c1 a2 n2 c2 a3 n3 c3 a4 n4 c4 a5 n5 c5) :: S) w := hw
      repeat (first | refine byW ?_ | (refine byV ?_; intro w hw))
      refine lCall ?_
      refine (ContainsFunc_any (fun y => decide (y.ID = id)) 56 [] [.pointer (some ⟨b6, 0, none⟩)] r1.rdS (fun y w hw => known1_any y (i := 0) rfl hw) hw).mono ?_
      rintro r w ⟨rfl, hw⟩
      refine ⟨_, rfl, ?_⟩
      repeat (first | refine byW ?_ | (refine byV ?_; intro w hw))
      refine W_cond rfl (fun h3 => ?_) (fun h3 => ?_)
      · have hf : (H.Cores.any fun y => decide (y.ID = id)) = false := by simpa using h3
        repeat (first | refine byW ?_ | (refine byV ?_; intro w hw))
        refine ⟨_, rfl, ret_b rfl ?_, hw.drop.drop.drop⟩
        have hf2 : knownH H x = false := all_no hid hf
        unfold knownB
        rw [← hcs, all_known]
        exact (all_no hx hf2).symm
      · have ht : (H.Cores.any fun y => decide (y.ID = id)) = true := by simpa using h3
        repeat (first | refine byW ?_ | (refine byV ?_; intro w hw))
        exact ⟨μ2 - 1, by omega, j + 1, by omega, ⟨rfl, rfl, rfl, rfl, rfl, rfl, rfl, trivial⟩, all_step hall2 hid ht, hw.drop⟩
    · have hjn : ¬ j < x.N := by simpa using h2
      have ht : knownH H x = true := all_end hall2 (by omega)
      repeat (first | refine byW ?_ | (refine byV ?_; intro w hw))
      exact ⟨μ - 1, by omega, k + 1, by omega, ⟨rfl, rfl, rfl, rfl, trivial⟩, all_step hall hx ht, hw.drop⟩
  · have hkn : ¬ k < n2 := by simpa using h
    repeat (first | refine byW ?_ | (refine byV ?_; intro w hw))
    refine ⟨_, rfl, ret_b rfl ?_, hw.drop⟩
    unfold knownB
    rw [← hcs, all_known]
    exact (all_end hall (by omega)).symm⟩

/-! ### sorted lists, members -/
def sortedP (l : List Int) : Prop := ∀ i a b, l[i]? = some a → l[i + 1]? = some b → a ≤ b
noncomputable def decP (p : Prop) : Bool := @decide p (Classical.propDecidable p)
theorem decP_t {p : Prop} (h : p) : decP p = true := @decide_eq_true p (Classical.propDecidable p) h
theorem decP_f {p : Prop} (h : ¬ p) : decP p = false := @decide_eq_false p (Classical.propDecidable p) h
theorem decP_iff {p : Prop} : decP p = true ↔ p := @decide_eq_true_iff p (Classical.propDecidable p)
noncomputable def sortedB (l : List Int) : Bool := decP (sortedP l)
instance pc_isNaN (x : Int) : PC Try.prog 42 [.int .i64 x] (.bool false) := ⟨fun w => by
  refine calls_of_W Try.func42 rfl rfl ?_
  repeat (first | refine byW ?_ | (refine byV ?_; intro w hw))
  exact ⟨_, rfl, ret_b rfl (by simp), rfl⟩⟩
instance pc_Less (x y : Int) : PC Try.prog 62 [.int .i64 x, .int .i64 y] (.bool (decide (x < y))) := ⟨fun w => by
  refine calls_of_W Try.func62 rfl rfl ?_
  repeat (first | (first | refine W_seq ?_ | refine W_block ?_ | refine W_region ?_ | refine W_skip ?_ | refine W_ret ?_ | refine W_exit ?_) | ((first | apply L_bin | apply L_notop); first | (refine lT ?_ ?_; (first | exact rfl | exact decide_eq_true rfl | (simp; done))) | (refine lF ?_ ?_; (first | exact rfl | exact decide_eq_true rfl | (simp; done)))) | (first | refine L_nil ?_ | (apply L_plain; first | (apply L_go; first | refine lP ?_ | (refine lPg ?_; intro w hw)) | (apply L_mf; refine lMakeFunc ?_) | refine lY ?_) | (apply L_guarded; first | refine lGT ?_ (hct := rfl) | refine lGF ?_ (hct := rfl) | (apply L_go; first | refine lPG ?_ | (refine lPgG ?_; intro w hw)) | refine lG ?_)) | (refine lAlloc ?_; intro _ w hw) | (refine lBox ?_; intro _ w hw) | (refine lStore ?_; intro w hw))
  exact ⟨_, rfl, ret_b rfl (by simp), rfl⟩⟩
section
variable {Γ : Gho} {S : List Res} {w : World} {xs : List Int} {v : Value}
theorem IsSorted_any (hr : RdS Γ S v 1 (intRows xs)) (hw : Wd Γ S w) : Calls Try.prog 57 #[v] w fun e w' => e = .returned (.bool (sortedB xs)) ∧ Wd Γ S w' := by
  obtain ⟨a, n, c, rfl, hn, hnc, hc⟩ := hr.shape
  have hnr := hn
  simp only [intRows, List.length_map] at hn
  refine calls_of_W Try.func57 rfl rfl ?_
  repeat (first | refine byW ?_ | (refine byV ?_; intro w hw))
  refine W_loop (fun μ ρ w => ∃ (m : Nat), μ = m ∧ m ≤ n ∧ Has ρ [(0, .slice a n c), (3, .int .i64 ((m : Int) - 1))] ∧ (∀ i a b, m ≤ i + 1 → xs[i]? = some a → xs[i + 1]? = some b → a ≤ b) ∧ Wd Γ S w) n ⟨n, rfl, Nat.le_refl _, ⟨rfl, rfl, trivial⟩, fun i a b h1 h2 h3 => by have := (List.getElem?_eq_some_iff.1 h3).1; omega, hw⟩ ?_
  clear hw
  rintro μ ρ w ⟨m, rfl, hm, hρ, hall, hw⟩
  rw [hρ.eq]
  repeat (first | refine byW ?_ | (refine byV ?_; intro w hw))
  refine W_cond rfl (fun h => ?_) (fun h => ?_)
  · have hm2 : 2 ≤ μ := by have := of_decide_eq_true h; omega
    obtain ⟨x, hx⟩ := get_lt (l := xs) (k := μ - 1) (by omega)
    obtain ⟨y, hy⟩ := get_lt (l := xs) (k := μ - 2) (by omega)
    have e1 : ((μ : Int) - 1).toNat = μ - 1 := by omega
    have e2 : ((μ : Int) - 1 - 1).toNat = μ - 2 := by omega
    have hx' : xs[((μ : Int) - 1).toNat]? = some x := by rw [e1]; exact hx
    have hy' : xs[((μ : Int) - 1 - 1).toNat]? = some y := by rw [e2]; exact hy
    repeat (first | refine byW ?_ | (refine byV ?_; intro w hw))
    refine W_quiet (by kernel_rfl) (by kernel_rfl) hw ?_
    repeat (first | refine Q_nil ?_ | (apply Q_plain; first | (apply Q_go; first | refine qP ?_ | refine qPg ?_) | refine qY ?_) | (apply Q_guarded; first | (apply Q_go; first | refine qPG ?_ | refine qPgG ?_) | refine qG ?_))
    intro w hw
    refine W_cond rfl (fun h2 => ?_) (fun h2 => ?_)
    · have h2 : x < y := of_decide_eq_true h2
      repeat (first | refine byW ?_ | (refine byV ?_; intro w hw))
      refine ⟨_, rfl, ret_b rfl ?_, hw⟩
      exact (decP_f fun hs => by have := hs (μ - 2) y x hy (by rw [show μ - 2 + 1 = μ - 1 by omega]; exact hx); omega).symm
    · have h2 : ¬ x < y := of_decide_eq_false h2
      repeat (first | refine byW ?_ | (refine byV ?_; intro w hw))
      refine ⟨μ - 1, by omega, μ - 1, rfl, by omega, ⟨rfl, ?_, trivial⟩, fun i p q h3 h4 h5 => ?_, hw⟩
      · show Value.int .i64 ((μ : Int) - 1 - 1) = _
        congr 1; omega
      · by_cases e : μ ≤ i + 1
        · exact hall i p q e h4 h5
        · have : i = μ - 2 := by omega
          subst this
          rw [show μ - 2 + 1 = μ - 1 by omega, hx] at h5
          rw [hy] at h4
          cases h4; cases h5; omega
  · have hm2 : ¬ 2 ≤ μ := by have := of_decide_eq_false h; omega
    repeat (first | refine byW ?_ | (refine byV ?_; intro w hw))
    refine ⟨_, rfl, ret_b rfl ?_, hw⟩
    exact (decP_t fun i p q h1 h2 => hall i p q (by omega) h1 h2).symm
def memI (x : Int) (xs : List Int) : Bool := xs.any fun y => decide (x = y)
theorem ContainsI_any (hr : RdS Γ S v 1 (intRows xs)) (x : Int) (hw : Wd Γ S w) : Calls Try.prog 58 #[v, .int .i64 x] w fun e w' => e = .returned (.bool (memI x xs)) ∧ Wd Γ S w' := by
  have hI : ∀ w, Wd Γ S w → Calls Try.prog 63 #[v, .int .i64 x] w fun e w' => ∃ i : Int, e = .returned (.int .i64 i) ∧ (decide (0 ≤ i) = memI x xs) ∧ Wd Γ S w' := by
    intro w hw
    obtain ⟨a, n, c, rfl, hn, hnc, hc⟩ := hr.shape
    have hnr := hn
    simp only [intRows, List.length_map] at hn
    refine calls_of_W Try.func63 rfl rfl ?_
    repeat (first | refine byW ?_ | (refine byV ?_; intro w hw))
    refine W_loop (fun μ ρ w => ∃ (k : Nat), μ + k = n ∧ Has ρ [(0, .slice a n c), (1, .int .i64 x), (7, .int .i64 n), (8, .int .i64 k)] ∧ (∀ i y, i < k → xs[i]? = some y → (!decide (x = y)) = true) ∧ Wd Γ S w) n ⟨0, by omega, ⟨rfl, rfl, rfl, rfl, trivial⟩, fun i x h => by omega, hw⟩ ?_
    clear hw
    rintro μ ρ w ⟨k, hk, hρ, hno, hw⟩
    rw [hρ.eq]
    repeat (first | refine byW ?_ | (refine byV ?_; intro w hw))
    refine W_cond rfl (fun h => ?_) (fun h => ?_)
    · have hkn : k < n := by simpa using h
      obtain ⟨y, hy⟩ := get_lt (l := xs) (k := k) (by omega)
      repeat (first | refine byW ?_ | (refine byV ?_; intro w hw))
      refine W_cond rfl (fun h2 => ?_) (fun h2 => ?_)
      · repeat (first | refine byW ?_ | (refine byV ?_; intro w hw))
        exact ⟨_, rfl, k, rfl, by rw [decide_eq_true (show (0 : Int) ≤ k by omega)]; exact (List.any_eq_true.2 ⟨y, List.mem_of_getElem? hy, h2⟩).symm, hw⟩
      · repeat (first | refine byW ?_ | (refine byV ?_; intro w hw))
        exact ⟨μ - 1, by omega, k + 1, by omega, ⟨rfl, rfl, rfl, rfl, trivial⟩, all_step hno hy (by rw [h2]; rfl), hw⟩
    · have hkn : ¬ k < n := by simpa using h
      repeat (first | refine byW ?_ | (refine byV ?_; intro w hw))
      refine ⟨_, rfl, -1, rfl, ?_, hw⟩
      have := all_end hno (by omega)
      rw [decide_eq_false (show ¬ (0 : Int) ≤ -1 by decide)]
      rw [List.all_eq_true] at this
      exact (List.any_eq_false.2 fun y hy => by simpa using this y hy).symm
  refine calls_of_W Try.func58 rfl rfl ?_
  repeat (first | refine byW ?_ | (refine byV ?_; intro w hw))
  refine lCall ?_
  refine (hI w hw).mono ?_
  rintro e w ⟨i, rfl, hd, hw⟩
  refine ⟨_, rfl, ?_⟩
  repeat (first | refine byW ?_ | (refine byV ?_; intro w hw))
  exact ⟨_, rfl, ret_b rfl hd, hw⟩
end
instance pg_ContainsI {Γ : Gho} {v : Value} {xs : List Int} [hr : SlC Γ v 1 (intRows xs)] (x : Int) : PG Try.prog Γ 58 [v, .int .i64 x] (.bool (memI x xs)) := ⟨fun S w hw => ContainsI_any hr.h.rdS x hw⟩
noncomputable instance pg_IsSorted {Γ : Gho} {v : Value} {xs : List Int} [hr : SlC Γ v 1 (intRows xs)] : PG Try.prog Γ 57 [v] (.bool (sortedB xs)) := ⟨fun S w hw => IsSorted_any hr.h.rdS hw⟩

/-! ### nested caches -/
def sharedN (a b : List Int) : Nat := (a.filter fun v => memI v b).length
def pairB (i k : Nat) (a b : CacheT) : Bool := decide (i = k) || decide (b.Level < a.Level) || !(decide (0 < sharedN a.Cores b.Cores) && (decide (a.Level = b.Level) || decide (sharedN a.Cores b.Cores < a.Cores.length)))
def HierP (l : List CacheT) : Prop := (∀ c ∈ l, sortedP c.Cores) ∧ ∀ (i k : Nat) (a b : CacheT), l[i]? = some a → l[k]? = some b → pairB i k a b = true
noncomputable def hierB (H : HwT) : Bool := decP (HierP H.Caches)
theorem allI_step {α : Type} {l : List α} {p : Nat → α → Bool} {k : Nat} {x : α} (h : ∀ i x, i < k → l[i]? = some x → p i x = true) (hx : l[k]? = some x) (ht : p k x = true) : ∀ i x, i < k + 1 → l[i]? = some x → p i x = true := fun i y hi hy => by
  by_cases e : i = k
  · subst e; rw [hx] at hy; cases hy; exact ht
  · exact h i y (by omega) hy
instance pg_hierarchyOK {Γ : Gho} {u : Value} {H : HwT} [hh : HwR Γ u H] : PG Try.prog Γ 37 [u] (.bool (hierB H)) := ⟨fun S w hw => by
  obtain ⟨a1, n1, c1, a2, n2, c2, a3, n3, c3, a4, n4, c4, a5, n5, c5, cs, rfl, hcs, hok, hsz, r1, r2, r3, r4, r5⟩ := hh.h
  obtain ⟨hn2, hm2, hx2⟩ := rep_facts r2
  simp only [List.length_map] at hn2
  have hget : ∀ (i : Nat) (x : CacheH), cs[i]? = some x → H.Caches[i]? = some x.T := fun i x h => by rw [← hcs]; simp [h]
  refine calls_of_W Try.func37 rfl rfl ?_
  repeat (first | refine byW ?_ | (refine byV ?_; intro w hw))
  refine lBox ?_
  intro b1 w hw
  have hw : Wd Γ (.blk b1 (hwC H a1 n1 c1 a2 n2 c2 a3 n3 c3 a4 n4 c4 a5 n5 c5) :: S) w := hw
  repeat (first | refine byW ?_ | (refine byV ?_; intro w hw))
  refine W_loop (fun μ ρ w => ∃ (k : Nat), μ + k = n2 ∧ Has ρ [(1, .pointer (some ⟨b1, 0, none⟩)), (13, .slice a2 n2 c2), (14, .int .i64 n2), (15, .int .i64 k)] ∧ (∀ (i : Nat) (x : CacheH), i < k → cs[i]? = some x → sortedB x.Cores = true) ∧ Wd Γ (.blk b1 (hwC H a1 n1 c1 a2 n2 c2 a3 n3 c3 a4 n4 c4 a5 n5 c5) :: S) w) n2 ⟨0, by omega, ⟨rfl, rfl, rfl, rfl, trivial⟩, fun i x h => by omega, hw⟩ ?_
  clear hw
  rintro μ ρ w ⟨k, hk, hρ, hall, hw⟩
  rw [hρ.eq]
  repeat (first | refine byW ?_ | (refine byV ?_; intro w hw))
  refine W_cond rfl (fun h => ?_) (fun h => ?_)
  · have hkn : k < n2 := by simpa using h
    obtain ⟨x, hx⟩ := get_lt (l := cs) (k := k) (by omega)
    haveI : SlC Γ (.slice x.A x.N x.C) 1 (intRows x.Cores) := ⟨hok x (List.mem_of_getElem? hx)⟩
    repeat (first | refine byW ?_ | (refine byV ?_; intro w hw))
    refine lAlloc ?_
    intro b9 w hw
    refine lStore ?_
    intro w hw
    have hw : Wd Γ (.blk b9 (.cells (cC x).toArray 69) :: .blk b1 (hwC H a1 n1 c1 a2 n2 c2 a3 n3 c3 a4 n4 c4 a5 n5 c5) :: S) w := hw
    repeat (first | refine byW ?_ | (refine byV ?_; intro w hw))
    refine W_cond rfl (fun h2 => ?_) (fun h2 => ?_)
    · have hf : sortedB x.Cores = false := by simpa using h2
      repeat (first | refine byW ?_ | (refine byV ?_; intro w hw))
      refine ⟨_, rfl, ret_b rfl ?_, hw.drop.drop⟩
      refine (decP_f fun hP => ?_).symm
      have := hP.1 x.T (List.mem_of_getElem? (hget k x hx))
      rw [show sortedB x.Cores = true from decP_t this] at hf; cases hf
    · have ht : sortedB x.Cores = true := by simpa using h2
      repeat (first | refine byW ?_ | (refine byV ?_; intro w hw))
      exact ⟨μ - 1, by omega, k + 1, by omega, ⟨rfl, rfl, rfl, rfl, trivial⟩, all_step hall hx ht, hw.drop⟩
  have hkn : ¬ k < n2 := by simpa using h
  have hsort : ∀ (i : Nat) (x : CacheH), cs[i]? = some x → sortedP x.Cores := fun i x hx => decP_iff.1 (hall i x (by have := (List.getElem?_eq_some_iff.1 hx).1; omega) hx)
  clear h hkn hall hρ hk
  repeat (first | refine byW ?_ | (refine byV ?_; intro w hw))
  refine W_loop (fun μ ρ w => ∃ (k : Nat), μ + k = n2 ∧ Has ρ [(1, .pointer (some ⟨b1, 0, none⟩)), (25, .slice a2 n2 c2), (26, .int .i64 n2), (27, .int .i64 k)] ∧ (∀ (i j : Nat) (a b : CacheH), i < k → cs[i]? = some a → cs[j]? = some b → pairB i j a.T b.T = true) ∧ Wd Γ (.blk b1 (hwC H a1 n1 c1 a2 n2 c2 a3 n3 c3 a4 n4 c4 a5 n5 c5) :: S) w) n2 ⟨0, by omega, ⟨rfl, rfl, rfl, rfl, trivial⟩, fun i j a b h => by omega, hw⟩ ?_
  clear hw
  rintro μ ρ w ⟨i, hi, hρ, hall, hw⟩
  rw [hρ.eq]
  repeat (first | refine byW ?_ | (refine byV ?_; intro w hw))
  refine W_cond rfl (fun h => ?_) (fun h => ?_)
  · have hin : i < n2 := by simpa using h
    obtain ⟨x, hx⟩ := get_lt (l := cs) (k := i) (by omega)
    have hcx := hok x (List.mem_of_getElem? hx)
    obtain ⟨hxn, hxm, hxc⟩ := hcx.facts
    unfold COk at hcx
    repeat (first | refine byW ?_ | (refine byV ?_; intro w hw))
    refine lAlloc ?_
    intro b6 w hw
    repeat (first | refine byW ?_ | (refine byV ?_; intro w hw))
    refine lStore ?_
    intro w hw
    have hw : Wd Γ (.blk b6 (.cells (cC x).toArray 69) :: .blk b1 (hwC H a1 n1 c1 a2 n2 c2 a3 n3 c3 a4 n4 c4 a5 n5 c5) :: S) w := hw
    repeat (first | refine byW ?_ | (refine byV ?_; intro w hw))
    refine W_loop (fun μ2 ρ w => ∃ (k : Nat), μ2 + k = n2 ∧ Has ρ [(1, .pointer (some ⟨b1, 0, none⟩)), (5, .int .i64 i), (6, .pointer (some ⟨b6, 0, none⟩)), (25, .slice a2 n2 c2), (26, .int .i64 n2), (27, .int .i64 i), (33, .slice a2 n2 c2), (34, .int .i64 n2), (35, .int .i64 k)] ∧ (∀ (j : Nat) (b : CacheH), j < k → cs[j]? = some b → pairB i j x.T b.T = true) ∧ Wd Γ (.blk b6 (.cells (cC x).toArray 69) :: .blk b1 (hwC H a1 n1 c1 a2 n2 c2 a3 n3 c3 a4 n4 c4 a5 n5 c5) :: S) w) n2 ⟨0, by omega, ⟨rfl, rfl, rfl, rfl, rfl, rfl, rfl, rfl, rfl, trivial⟩, fun j b h => by omega, hw⟩ ?_
    clear hw
    rintro μ2 ρ w ⟨k, hk, hρ, hall2, hw⟩
    rw [hρ.eq]
    repeat (first | refine byW ?_ | (refine byV ?_; intro w hw))
    refine W_cond rfl (fun h2 => ?_) (fun h2 => ?_)
    · have hkn : k < n2 := by simpa using h2
      obtain ⟨y, hy⟩ := get_lt (l := cs) (k := k) (by omega)
      have hcy := hok y (List.mem_of_getElem? hy)
      haveI : SlC Γ (.slice y.A y.N y.C) 1 (intRows y.Cores) := ⟨hcy⟩
      repeat (first | refine byW ?_ | (refine byV ?_; intro w hw))
      refine lAlloc ?_
      intro b8 w hw
      repeat (first | refine byW ?_ | (refine byV ?_; intro w hw))
      refine lStore ?_
      intro w hw
      have hw : Wd Γ (.blk b8 (.cells (cC y).toArray 69) :: .blk b6 (.cells (cC x).toArray 69) :: .blk b1 (hwC H a1 n1 c1 a2 n2 c2 a3 n3 c3 a4 n4 c4 a5 n5 c5) :: S) w := hw
      repeat (first | refine byW ?_ | (refine byV ?_; intro w hw))
      refine W_cond rfl (fun h3 => ?_) (fun h3 => ?_)
      · have hp : pairB i k x.T y.T = true := by
          have h3 : (decide ((i : Int) = k) || decide (y.Level < x.Level)) = true := h3
          unfold pairB CacheH.T
          rw [show decide (i = k) = decide ((i : Int) = k) from decide_eq_decide.2 (by omega)]
          rw [h3]; rfl
        repeat (first | refine byW ?_ | (refine byV ?_; intro w hw))
        exact ⟨μ2 - 1, by omega, k + 1, by omega, ⟨rfl, rfl, rfl, rfl, rfl, rfl, rfl, rfl, rfl, trivial⟩, allI_step (p := fun j b => pairB i j x.T b.T) hall2 hy hp, hw.drop⟩
      · have h3 : (decide ((i : Int) = k) || decide (y.Level < x.Level)) = false := h3
        repeat (first | refine byW ?_ | (refine byV ?_; intro w hw))
        refine W_loop (fun μ3 ρ w => ∃ (j : Nat), μ3 + j = x.N ∧ Has ρ [(1, .pointer (some ⟨b1, 0, none⟩)), (5, .int .i64 i), (6, .pointer (some ⟨b6, 0, none⟩)), (8, .pointer (some ⟨b8, 0, none⟩)), (9, .int .i64 (sharedN (x.Cores.take j) y.Cores)), (25, .slice a2 n2 c2), (26, .int .i64 n2), (27, .int .i64 i), (33, .slice a2 n2 c2), (34, .int .i64 n2), (35, .int .i64 k), (51, .slice x.A x.N x.C), (52, .int .i64 x.N), (53, .int .i64 j)] ∧ Wd Γ (.blk b8 (.cells (cC y).toArray 69) :: .blk b6 (.cells (cC x).toArray 69) :: .blk b1 (hwC H a1 n1 c1 a2 n2 c2 a3 n3 c3 a4 n4 c4 a5 n5 c5) :: S) w) x.N ⟨0, by omega, ⟨rfl, rfl, rfl, rfl, rfl, rfl, rfl, rfl, rfl, rfl, rfl, rfl, rfl, rfl, trivial⟩, hw⟩ ?_
        clear hw
        rintro μ3 ρ w ⟨j, hj, hρ, hw⟩
        rw [hρ.eq]
        have hle : sharedN (x.Cores.take j) y.Cores ≤ j := Nat.le_trans (List.length_filter_le _ _) (by simp; omega)
        repeat (first | refine byW ?_ | (refine byV ?_; intro w hw))
        refine W_cond rfl (fun h4 => ?_) (fun h4 => ?_)
        · have hjn : j < x.N := by simpa using h4
          obtain ⟨v, hv⟩ := get_lt (l := x.Cores) (k := j) (by omega)
          have hst : sharedN (x.Cores.take (j + 1)) y.Cores = sharedN (x.Cores.take j) y.Cores + (if memI v y.Cores = true then 1 else 0) := by
            unfold sharedN; rw [take_succ_of hv, List.filter_append, List.length_append]
            congr 1
            by_cases e : memI v y.Cores = true <;> simp [e]
          repeat (first | refine byW ?_ | (refine byV ?_; intro w hw))
          refine W_cond rfl (fun h5 => ?_) (fun h5 => ?_)
          · rw [if_pos h5] at hst
            repeat (first | refine byW ?_ | (refine byV ?_; intro w hw))
            exact ⟨μ3 - 1, by omega, j + 1, by omega, ⟨rfl, rfl, rfl, rfl, by rw [hst]; rfl, rfl, rfl, rfl, rfl, rfl, rfl, rfl, rfl, rfl, trivial⟩, hw⟩
          · rw [if_neg (by rw [h5]; simp)] at hst
            repeat (first | refine byW ?_ | (refine byV ?_; intro w hw))
            exact ⟨μ3 - 1, by omega, j + 1, by omega, ⟨rfl, rfl, rfl, rfl, by rw [hst]; rfl, rfl, rfl, rfl, rfl, rfl, rfl, rfl, rfl, rfl, trivial⟩, hw⟩
        · have hjn : ¬ j < x.N := by simpa using h4
          rw [List.take_of_length_le (by omega)]
          repeat (first | refine byW ?_ | (refine byV ?_; intro w hw))
          have key : pairB i k x.T y.T = !(decide ((0 : Int) < (sharedN x.Cores y.Cores : Nat)) && (decide (x.Level = y.Level) || decide (((sharedN x.Cores y.Cores : Nat) : Int) < x.N))) := by
            unfold pairB CacheH.T
            rw [show decide (i = k) = decide ((i : Int) = k) from decide_eq_decide.2 (by omega), h3]
            rw [show decide (0 < sharedN x.Cores y.Cores) = decide ((0 : Int) < (sharedN x.Cores y.Cores : Nat)) from decide_eq_decide.2 (by omega)]
            rw [show decide (sharedN x.Cores y.Cores < x.Cores.length) = decide (((sharedN x.Cores y.Cores : Nat) : Int) < x.N) from decide_eq_decide.2 (by omega)]
            rfl
          refine W_cond rfl (fun h6 => ?_) (fun h6 => ?_)
          · have hp : pairB i k x.T y.T = false := key.trans (congrArg (fun b => !b) h6)
            repeat (first | refine byW ?_ | (refine byV ?_; intro w hw))
            refine ⟨_, rfl, ret_b rfl ?_, hw.drop.drop.drop⟩
            refine (decP_f fun hP => ?_).symm
            rw [hP.2 i k x.T y.T (hget i x hx) (hget k y hy)] at hp; cases hp
          · have hp : pairB i k x.T y.T = true := key.trans (congrArg (fun b => !b) h6)
            repeat (first | refine byW ?_ | (refine byV ?_; intro w hw))
            exact ⟨μ2 - 1, by omega, k + 1, by omega, ⟨rfl, rfl, rfl, rfl, rfl, rfl, rfl, rfl, rfl, trivial⟩, allI_step (p := fun j b => pairB i j x.T b.T) hall2 hy hp, hw.drop⟩
    · have hkn : ¬ k < n2 := by simpa using h2
      repeat (first | refine byW ?_ | (refine byV ?_; intro w hw))
      refine ⟨μ - 1, by omega, i + 1, by omega, ⟨rfl, rfl, rfl, rfl, trivial⟩, fun i' j a b h1 ha hb => ?_, hw.drop⟩
      by_cases e : i' = i
      · subst e; rw [hx] at ha; cases ha
        exact hall2 j b (by have := (List.getElem?_eq_some_iff.1 hb).1; omega) hb
      · exact hall i' j a b (by omega) ha hb
  · have hin : ¬ i < n2 := by simpa using h
    repeat (first | refine byW ?_ | (refine byV ?_; intro w hw))
    refine ⟨_, rfl, ret_b rfl ?_, hw.drop⟩
    refine (decP_t ⟨fun c hc => ?_, fun p q a b ha hb => ?_⟩).symm
    · rw [← hcs] at hc
      obtain ⟨x, hx, rfl⟩ := List.mem_map.1 hc
      obtain ⟨q, hq, he⟩ := List.getElem_of_mem hx
      exact hsort q x (by rw [List.getElem?_eq_getElem hq, he])
    · rw [← hcs, List.getElem?_map] at ha hb
      obtain ⟨x, hx, rfl⟩ := Option.map_eq_some_iff.1 ha
      obtain ⟨y, hy, rfl⟩ := Option.map_eq_some_iff.1 hb
      exact hall p q x y (by have := (List.getElem?_eq_some_iff.1 hx).1; omega) hx hy⟩
end Go.Proofs.Yteiijmclobggjaa
end
