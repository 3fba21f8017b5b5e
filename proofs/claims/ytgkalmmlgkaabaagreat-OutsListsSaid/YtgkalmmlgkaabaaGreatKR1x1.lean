/-
  Results of calls of fixed values. Written by a program. Conditions: none.
-/
import Derived.Test.YtgkalmmlgkaabaaGreatKT0
import Derived.KernelRfl
namespace Go.Proofs.YtgkalmmlgkaabaaGreat.Am
set_option maxRecDepth 1000000
theorem KR48 : RowN TT EE RR 3000 18 KA48 KV48 := rowOf (n := 3000) KK0 (by intro st; kernel_rfl)
end Go.Proofs.YtgkalmmlgkaabaaGreat.Am
