/-
  Results of calls of fixed values. Written by a program. Conditions: none.
-/
import Derived.Test.YtgkalmmlgkaabaaGreatKT2
import Derived.KernelRfl
namespace Go.Proofs.YtgkalmmlgkaabaaGreat.Am
set_option maxRecDepth 1000000
set_option maxHeartbeats 0
theorem KR47 : RowN TT EE RR 9000 17 KA47 KV47 := rowOf (n := 3000) KK2 (fun st => by kernel_rfl)
end Go.Proofs.YtgkalmmlgkaabaaGreat.Am
