/-
  Results of calls of fixed values. Written by a program. Conditions: none.
-/
import Derived.Test.YtgkalmmlgkaabaaGreatKT2
import Derived.KernelRfl
namespace Go.Proofs.YtgkalmmlgkaabaaGreat.Am
set_option maxRecDepth 1000000
set_option maxHeartbeats 0
theorem KR5 : RowN TT EE RR 9000 15 KA5 KV5 := rowOf (n := 3000) KK2 (by intro st; kernel_rfl)
theorem KR9 : RowN TT EE RR 9000 28 KA9 KV9 := rowOf (n := 3000) KK2 (by intro st; kernel_rfl)
theorem KR36 : RowN TT EE RR 9000 17 KA36 KV36 := rowOf (n := 3000) KK2 (by intro st; kernel_rfl)
end Go.Proofs.YtgkalmmlgkaabaaGreat.Am
