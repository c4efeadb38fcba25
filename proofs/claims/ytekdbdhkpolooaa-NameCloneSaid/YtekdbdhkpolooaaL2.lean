/- The library's sort lies in this program: a row a fact (written by a program of mine; the kernel checks each). -/
import Derived.Test.YtekdbdhkpolooaaTypes
import Derived.Test.YtekdbdhkpolooaaBase22
open Go Mk
namespace Go.Proofs.Ytekdbdhkpolooaa
def lay_mapc_ren : Go.Shelf.Ren := ⟨fun | 5 => 45 | 7 => 57 | n => n, fun | 23 => 62 | 25 => 9 | 3 => 31 | 4 => 4 | 20 => 20 | n => n, fun | n => n⟩
theorem lay_mapc : Go.Proofs.SlLaysW.n5 Try.prog lay_mapc_ren := {
  mixed := by kernel_rfl
  f5 := ⟨Try.f45.name, by decide, Try.func45.trans (congrArg some (by kernel_rfl))⟩
  f7 := Try.func57.trans (congrArg some (by kernel_rfl))
  t4 := Try.underlying4
  a4 := Try.isAgg4
  z4 := Try.sizeOf4
  v4 := Try.zeroValue4
  t20 := Try.underlying20
  a20 := Try.isAgg20
  z20 := Try.sizeOf20
  v20 := Try.zeroValue20
  t23 := Try.underlying62
  a23 := Try.isAgg62
  z23 := Try.sizeOf62
  v23 := Try.zeroValue62 }
end Go.Proofs.Ytekdbdhkpolooaa
