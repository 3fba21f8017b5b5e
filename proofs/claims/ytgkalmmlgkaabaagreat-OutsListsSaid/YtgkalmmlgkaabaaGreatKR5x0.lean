/-
  Results of calls of fixed values. Written by a program. Conditions: none.
-/
import Derived.Test.YtgkalmmlgkaabaaGreatKT4
import Derived.KernelRfl
namespace Go.Proofs.YtgkalmmlgkaabaaGreat.Am
set_option maxRecDepth 1000000
set_option maxHeartbeats 0
theorem KR49 : RowN TT EE RR 15000 4 KA49 KV49 := rowOf (n := 3000) KK4 (by intro st; kernel_rfl)
end Go.Proofs.YtgkalmmlgkaabaaGreat.Am
