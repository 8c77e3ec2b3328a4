/-
  SCHED: which functions run alone (they come to no goroutine). No condition.
-/
import Derived.Test.YtaiinkeendejdaaLiftFun
import Derived.Test.YtaiinkeendejdaaProg
namespace Go.Proofs.Ytaiinkeendejdaa
open Go.RowKit Go.Conc
set_option maxRecDepth 100000
def lones : List FuncId := [10, 11, 13, 14, 15, 16, 17, 18, 20, 21, 23, 34, 24, 25, 26, 27, 28]
theorem lones_ok : lones.all (funW Try.prog (fun f => lones.contains f) fun _ => false) = true := by kernel_rfl
theorem lones_fun : FunAll Try.prog bare (fun _ => opW Try.prog (fun f => lones.contains f) fun _ => false) fun f => lones.contains f := funOk_list lones lones_ok
end Go.Proofs.Ytaiinkeendejdaa
