/- Lemmas: what hangs on the text alone holds of every function of the table; no condition. -/
import Derived.Test.YtjfimhfnpbaicaaGreatDoorTy
import Derived.Test.YtjfimhfnpbaicaaGreatDoorSy18
import Derived.KernelRfl
namespace Go.Sy
noncomputable def stat1 (f : Nat) : Bool := match fnOf f with
  | none => true
  | some fn => (match fn.body with | none => true | some c => statCode dstatic fn.ntmps c) && !(fn.name == "runtime.NumGoroutine")
theorem stat_all : (List.range 282).all stat1 = true := by kernel_rfl
end Go.Sy
