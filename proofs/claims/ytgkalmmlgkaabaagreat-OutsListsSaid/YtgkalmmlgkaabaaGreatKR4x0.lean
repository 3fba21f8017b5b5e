/-
  Results of calls of fixed values. Written by a program. Conditions: none.
-/
import Derived.Test.YtgkalmmlgkaabaaGreatKT3
import Derived.KernelRfl
namespace Go.Proofs.YtgkalmmlgkaabaaGreat.Am
set_option maxRecDepth 1000000
set_option maxHeartbeats 0
theorem KR10 : RowN TT EE RR 12000 16 KA10 KV10 := rowOf (n := 3000) KK3 (by intro st; kernel_rfl)
end Go.Proofs.YtgkalmmlgkaabaaGreat.Am
