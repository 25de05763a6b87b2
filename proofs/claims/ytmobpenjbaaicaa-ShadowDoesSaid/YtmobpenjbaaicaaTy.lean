/-
  shadow: the numbers of this seat's types.
-/
import Derived.Test.YtmobpenjbaaicaaFn
import Derived.Test.YtmobpenjbaaicaaA3
namespace Go.Proofs.Ytmobpenjbaaicaa
open Go X
abbrev tInts : TypeId := T.t37
abbrev tInt : TypeId := T.t3
theorem appInts : appB P tInts tInt 1 8 = true := by kernel_rfl
theorem zeroInt : zeroC P tInt = some [.int .i64 0] := by kernel_rfl
abbrev tBook : TypeId := T.t80
theorem funcOverlaps : P.funcs[F.slices_overlaps_int]? = some Try.f51 := Try.func51
theorem findOverlaps : Extern.find Try.f51 = some (Extern.SlicesOverlaps.overlaps #[tInts, tInts] #[T.t4]) := by kernel_rfl
theorem nextOverlaps : Extern.findNext Try.f51 = none := by kernel_rfl
theorem bodyOverlaps : Try.f51.body.isNone = true ∧ (Try.f51.name == "runtime.NumGoroutine") = false := ⟨by kernel_rfl, by kernel_rfl⟩
end Go.Proofs.Ytmobpenjbaaicaa
