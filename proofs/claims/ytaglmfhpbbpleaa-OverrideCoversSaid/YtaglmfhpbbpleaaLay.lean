/-
  The shelf's contracts of slices.IndexFunc and slices.ContainsFunc at this program's holds: their layings in plain words. No conditions.
-/
import Derived.Shelf.SlicesQ.IndexFunc
import Derived.Test.YtaglmfhpbbpleaaProg
namespace Go.Proofs.Ytaglmfhpbbpleaa.G
open Go.Shelf Go.RowKit Go.Lib

def l27_ren : Go.Shelf.Ren := { f := fun | 6 => 27 | n => n, t := fun | 22 => 22 | 23 => 42 | 25 => 46 | 3 => 3 | 0 => 0 | 4 => 4 | n => n, g := fun n => n }
theorem l27 : SlLaysH0.n6 Try.prog l27_ren := {
  mixed := by kernel_rfl,
  f6 := ⟨Try.f27.name, by decide, Try.func27.trans (by kernel_rfl)⟩,
  t0 := Try.underlying0,
  a0 := Try.isAgg0,
  z0 := Try.sizeOf0,
  v0 := Try.zeroValue0,
  t3 := Try.underlying3,
  a3 := Try.isAgg3,
  z3 := Try.sizeOf3,
  v3 := Try.zeroValue3,
  t4 := Try.underlying4,
  a4 := Try.isAgg4,
  z4 := Try.sizeOf4,
  v4 := Try.zeroValue4,
  t22 := Try.underlying22,
  a22 := Try.isAgg22,
  z22 := Try.sizeOf22,
  v22 := Try.zeroValue22,
  t25 := Try.underlying46,
  a25 := Try.isAgg46,
  z25 := Try.sizeOf46,
  v25 := Try.zeroValue46 }
def l16_ren : Go.Shelf.Ren := { f := fun | 8 => 16 | 6 => 27 | n => n, t := fun | 22 => 22 | 23 => 42 | 25 => 46 | 4 => 4 | 3 => 3 | 0 => 0 | n => n, g := fun n => n }
theorem l16 : SlLaysH0.n8 Try.prog l16_ren := {
  mixed := by kernel_rfl,
  f6 := ⟨Try.f27.name, by decide, Try.func27.trans (by kernel_rfl)⟩,
  f8 := ⟨Try.f16.name, by decide, Try.func16.trans (by kernel_rfl)⟩,
  t0 := Try.underlying0,
  a0 := Try.isAgg0,
  z0 := Try.sizeOf0,
  v0 := Try.zeroValue0,
  t3 := Try.underlying3,
  a3 := Try.isAgg3,
  z3 := Try.sizeOf3,
  v3 := Try.zeroValue3,
  t4 := Try.underlying4,
  a4 := Try.isAgg4,
  z4 := Try.sizeOf4,
  v4 := Try.zeroValue4,
  t22 := Try.underlying22,
  a22 := Try.isAgg22,
  z22 := Try.sizeOf22,
  v22 := Try.zeroValue22,
  t25 := Try.underlying46,
  a25 := Try.isAgg46,
  z25 := Try.sizeOf46,
  v25 := Try.zeroValue46 }

end Go.Proofs.Ytaglmfhpbbpleaa.G
